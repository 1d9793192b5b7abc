/- The walks of the small functions under the sums of both texts: turns of a word, a word of four bytes, the constants. -/
import Derived.Test.YtehpapoboeejkaaDoorProg
import Derived.Test.YtehpapoboeejkaaDoorNum
import Derived.Test.YtehpapoboeejkaaDoorSha
import Derived.Test.YtehpapoboeejkaaDoorMem2
import Derived.Lib.Hide
import Derived.Outline
import Derived.BigQuiet
import Derived.Deep.QuietTactic
namespace Go.Proofs.YtehpapoboeejkaaDoor
open Go.RowKit
def rotI (x : UInt32) (n : Int) : UInt32 := Sha.rotr x (UInt32.ofNat n.toNat)

theorem rot_left (x : UInt32) (n : Int) (h0 : 1 ≤ n) (h1 : n ≤ 31) :
    bits BinOp.or IntKind.u32 (↑x.toNat * 2 ^ (32 - n).toNat % 4294967296) (↑x.toNat / 2 ^ n.toNat) = ((rotI x n).toNat : Int) := by
  obtain ⟨k, rfl⟩ := Int.eq_ofNat_of_zero_le (show 0 ≤ n by omega)
  have e : (32 - (k : Int)).toNat = 32 - k := by omega
  rw [e, Int.toNat_natCast, shl_u32 x (32 - k) (by omega), shr_u32 x k (by omega), bits_or_u32]
  have e2 : UInt32.ofNat (32 - k) = 32 - UInt32.ofNat k := by
    apply UInt32.toNat_inj.1
    rw [UInt32.toNat_sub_of_le]
    · simp; omega
    · rw [UInt32.le_iff_toNat_le]; simp; omega
  rw [e2, rotI, Sha.rotr, Int.toNat_natCast, UInt32.or_comm]
theorem rot_right (x : UInt32) (n : Int) (h0 : 1 ≤ n) (h1 : n ≤ 31) :
    bits BinOp.or IntKind.u32 (↑x.toNat / 2 ^ n.toNat) (↑x.toNat * 2 ^ (32 - n).toNat % 4294967296) = ((rotI x n).toNat : Int) := by
  rw [← rot_left x n h0 h1]
  obtain ⟨k, rfl⟩ := Int.eq_ofNat_of_zero_le (show 0 ≤ n by omega)
  have e : (32 - (k : Int)).toNat = 32 - k := by omega
  rw [e, Int.toNat_natCast, shl_u32 x (32 - k) (by omega), shr_u32 x k (by omega), bits_or_u32, bits_or_u32, UInt32.or_comm]

theorem ret_int {k : IntKind} {a b : Int} (h : a = b) : Ending.returned (.int k a) = .returned (.int k b) := by rw [h]

theorem turned_any (x : UInt32) (n : Int) (w : World) (h0 : 1 ≤ n) (h1 : n ≤ 31) :
    Calls Tryd.prog 79 #[.int .u32 x.toNat, .int .i64 n] w fun e w' => e = .returned (.int .u32 (rotI x n).toNat) ∧ w = w' := by
  have hb := bits_and31 (32 - n) (by omega) (by omega)
  go_enter Tryd.func79, Tryd.ntmps79
  go_wp2
  have e : (32 - (32 - n)) = n := by omega
  go_ret
  refine ⟨ret_int ?_, rfl⟩
  rw [← rot_left x n h0 h1]
  simp [e]
section
attribute [local go_sem] w_or w_of8 w_shl24 w_shl16 w_shl8
end
/-- words as cells -/
def w32 (x : UInt32) : Value := .int .u32 x.toNat
def w32s (l : List UInt32) : List Value := l.map w32
theorem w32s_start : w32s Sha.start.list = [.int .u32 1779033703, .int .u32 3144134277, .int .u32 1013904242, .int .u32 2773480762, .int .u32 1359893119, .int .u32 2600822924, .int .u32 528734635, .int .u32 1541459225] := rfl

theorem shabegin_any (w : World) : Calls Tryd.prog 60 #[] w fun e w' => e = .returned (.agg (w32s Sha.start.list).toArray) ∧ Below w.heap.size w w' := by
  go_enter Tryd.func60, Tryd.ntmps60
  go_wp2
  exact bodyPost_ret (v := .agg (w32s Sha.start.list).toArray) (by rw [w32s_start]; simp [results, Tryd.results60, go_sem]) rfl ⟨rfl, (Below.refl _ _).alloc (Nat.le_refl _) _⟩

end Go.Proofs.YtehpapoboeejkaaDoor
