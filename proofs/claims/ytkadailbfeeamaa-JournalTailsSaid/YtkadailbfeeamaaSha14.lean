/- The walks of digits' reading and printing. -/
import Derived.Test.YtkadailbfeeamaaSha11
import Derived.Test.YtkadailbfeeamaaHex
import Derived.Test.YtkadailbfeeamaaReg3
import Derived.Test.YtkadailbfeeamaaByte
namespace Go.Proofs.Ytkadailbfeeamaa
open Go.RowKit
set_option maxRecDepth 100000
theorem digit_any (w : World) (c : UInt8) : Calls Try.prog 46 #[.int .u8 c.toNat] w fun e w' => e = .returned (.int .i64 (dig c)) ∧ ∃ k, w' = w.drewN k := by
  have hc := c.toNat_lt
  go_enter Try.func46, Try.ntmps46
  go_wp2
  all_goals go_ret
  all_goals refine ⟨?_, 0, rfl⟩
  all_goals show Ending.returned (Value.int .i64 _) = Ending.returned (Value.int .i64 (dig c))
  all_goals congr 2
  all_goals unfold dig
  all_goals (repeat' split) <;> omega
end Go.Proofs.Ytkadailbfeeamaa
