/- The walks of IndexByte. -/
import Derived.Test.YtdhmebilloefjaaDoorMem3
import Derived.Test.YtdhmebilloefjaaDoorChecked
import Derived.Lib.Bytealg
import Derived.Laws.Externs
namespace Go.Proofs.YtdhmebilloefjaaDoor
open Go.RowKit
theorem sbyte_any (w : World) (s : ByteArray) (c : Int) : Calls Tryd.prog 42 #[.string s, .int .u8 c] w fun e w' => e = .returned (.int .i64 (Lib.indexByte s.data.toList c.toNat.toUInt8)) ∧ w' = w := by
  go_enter Tryd.func42, Tryd.ntmps42
  go_wp2
  rw [run_callFunc_extern Tryd.func46 (by kernel_rfl) (by kernel_rfl) (by kernel_rfl) (e := Extern.BytealgIndexByte.indexByte) (by kernel_rfl), Lib.run_indexByteString]
  simp only [Result.andThen]
  rw [Oper.upon_value]
  go_wp2
  go_ret
  exact ⟨rfl, rfl⟩
theorem byteat_any (w : World) (s : ByteArray) (c : Int) : Calls Tryd.prog 38 #[.string s, .int .u8 c] w fun e w' => e = .returned (.int .i64 (Lib.indexByte s.data.toList c.toNat.toUInt8)) ∧ w' = w := by
  go_enter Tryd.func38, Tryd.ntmps38
  go_wp2_with (first | (go_at_call 42; refine (sbyte_any _ _ _).mono ?_; rintro e w2 ⟨rfl, rfl⟩))
  go_ret
  exact ⟨rfl, rfl⟩
end Go.Proofs.YtdhmebilloefjaaDoor
