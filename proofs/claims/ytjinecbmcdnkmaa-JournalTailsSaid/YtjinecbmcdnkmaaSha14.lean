/- The walks of digits' reading and printing. -/
import Derived.Test.YtjinecbmcdnkmaaSha11
import Derived.Test.YtjinecbmcdnkmaaHex
import Derived.Test.YtjinecbmcdnkmaaReg3
import Derived.Lib.Bytealg
import Derived.Laws.Externs
namespace Go.Proofs.Ytjinecbmcdnkmaa
open Go.RowKit
theorem sbyte_any (w : World) (s : ByteArray) (c : Int) : Calls Try.prog 47 #[.string s, .int .u8 c] w fun e w' => e = .returned (.int .i64 (Lib.indexByte s.data.toList c.toNat.toUInt8)) ∧ w' = w := by
  go_enter Try.func47, Try.ntmps47
  go_wp2
  rw [run_callFunc_extern Try.func50 (by kernel_rfl) (by kernel_rfl) (by kernel_rfl) (e := Extern.BytealgIndexByte.indexByte) (by kernel_rfl), Lib.run_indexByteString]
  simp only [Result.andThen]
  rw [Oper.upon_value]
  go_wp2
  go_ret
  exact ⟨rfl, rfl⟩
theorem byteat_any (w : World) (s : ByteArray) (c : Int) : Calls Try.prog 37 #[.string s, .int .u8 c] w fun e w' => e = .returned (.int .i64 (Lib.indexByte s.data.toList c.toNat.toUInt8)) ∧ w' = w := by
  go_enter Try.func37, Try.ntmps37
  go_wp2_with (first | (go_at_call 47; refine (sbyte_any _ _ _).mono ?_; rintro e w2 ⟨rfl, rfl⟩))
  go_ret
  exact ⟨rfl, rfl⟩
theorem digit_any (w : World) (c : UInt8) : Calls Try.prog 38 #[.int .u8 c.toNat] w fun e w' => e = .returned (.int .i64 (dig c)) ∧ ∃ k, w' = w.drewN k := by
  have hc := c.toNat_lt
  go_enter Try.func38, Try.ntmps38
  go_wp2
  all_goals go_ret
  all_goals refine ⟨?_, 0, rfl⟩
  all_goals show Ending.returned (Value.int .i64 _) = Ending.returned (Value.int .i64 (dig c))
  all_goals congr 2
  all_goals unfold dig
  all_goals (repeat' split) <;> omega
end Go.Proofs.Ytjinecbmcdnkmaa
