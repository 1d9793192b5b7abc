/- The walk of the document's Hex. -/
import Derived.Test.YtkadailbfeeamaaSha14
import Derived.Test.YtkadailbfeeamaaSha12
namespace Go.Proofs.Ytkadailbfeeamaa
open Go.RowKit
set_option maxRecDepth 100000
/-- the digits, as a string -/
def digitsB : ByteArray := ⟨#[48, 49, 50, 51, 52, 53, 54, 55, 56, 57, 97, 98, 99, 100, 101, 102]⟩
theorem digit_cut_fin : ∀ n : Fin 16, (digitsB.extract n.val (n.val + 1)).data.toList = [digitOf n.val] := by decide +kernel
theorem digit_cut (n : Nat) (h : n < 16) : (digitsB.extract n (n + 1)).data.toList = [digitOf n] := digit_cut_fin ⟨n, h⟩
theorem refhex_any (w : World) (d : List UInt8) (hd : d.length = 32) : Calls Try.prog 31 #[.agg (u8s d).toArray] w fun e w' => e = .returned (.string ⟨(hexOf d).toArray⟩) ∧ Below w.heap.size w w' := by
  have HDL := hid2 hd
  go_enter Try.func31, Try.ntmps31
  go_wp2_with fail
  have hb0 : Below w.heap.size w (w.alloc (.cells (u8s d).toArray 34)) := (Below.refl _ _).alloc (Nat.le_refl _) _
  obtain ⟨w0, hw0⟩ : ∃ w0, w0 = w.alloc (.cells (u8s d).toArray 34) := ⟨_, rfl⟩
  have hrow : w0.heap[w.heap.size]? = some (.cells (u8s d).toArray 34 (0, 0)) := by rw [hw0]; exact heap_alloc_new w _
  rw [← hw0] at hb0 ⊢
  clear hw0
  obtain ⟨G, hG⟩ : ∃ G, G = w.heap.size := ⟨_, rfl⟩
  rw [← hG] at hrow ⊢
  have HROW := hid2 hrow
  have HB0 := hid2 hb0
  have HG := hid2 hG
  clear hrow hb0 hG
  go_loopw [4, 5] (fun v i wr => ∃ (k m : Nat), k ≤ 32 ∧ i = .int .i64 k ∧ v = .string ⟨(hexOf (d.take k)).toArray⟩ ∧ wr = w0.drewN m) (fun _ i _ => 32 - (intOf i).toNat)
  case atStart => exact ⟨0, 0, by omega, rfl, rfl, rfl⟩
  case round =>
    obtain ⟨k, m, hk, rfl, rfl, rfl⟩ := hrel
    by_cases hlt : k < 32
    · have hkd : k < d.length := by rw [HDL.out]; exact hlt
      have hcell : (w0.drewN m).cell? ⟨G, k, none⟩ = some (.int .u8 (d.getD k 0).toNat) := (cell_of_row _ G k _ _ _ HROW.out).trans (by rw [List.getElem?_toArray]; exact u8s_get d hkd)
      obtain ⟨b, hb⟩ : ∃ b, b = d.getD k 0 := ⟨_, rfl⟩
      rw [← hb] at hcell
      have hbl : b.toNat < 256 := b.toNat_lt
      have HB := hid2 hb
      obtain ⟨o, ho⟩ : ∃ o : ByteArray, o = ⟨(hexOf (d.take k)).toArray⟩ := ⟨_, rfl⟩
      rw [← ho]
      have hos : o.size ≤ 64 := by rw [ho]; show (hexOf (d.take k)).toArray.size ≤ 64; rw [List.size_toArray, hexOf_length, List.length_take]; omega
      have HO := hid2 ho
      have hlt' : (k : Int) < 32 := by omega
      obtain ⟨hi, hhi⟩ : ∃ hi : Nat, hi = b.toNat / 16 := ⟨_, rfl⟩
      obtain ⟨lo, hlo⟩ : ∃ lo : Nat, lo = b.toNat % 16 := ⟨_, rfl⟩
      obtain ⟨D, hD⟩ : ∃ D : ByteArray, D = digitsB := ⟨_, rfl⟩
      have hDs : D.size = 16 := by rw [hD]; rfl
      have e1 := digit_cut hi (by omega)
      have e2 := digit_cut lo (by omega)
      rw [← hD] at e1 e2
      have s1 : (D.extract hi (hi + 1)).size = 1 := by rw [← toList_length, e1]; rfl
      have s2 : (D.extract lo (lo + 1)).size = 1 := by rw [← toList_length, e2]; rfl
      have ha1 : ¬ (o.size + (D.extract hi (hi + 1)).size > 9223372036854775807) := by omega
      have ha2 : ¬ ((o ++ D.extract hi (hi + 1)).size + (D.extract lo (lo + 1)).size > 9223372036854775807) := by rw [ByteArray.size_append]; omega
      have hq1 : IntKind.i64.wrap ((b.toNat : Int) / 16) = (hi : Int) := by rw [IntWalk.i64_in _ (by constructor <;> omega)]; omega
      have hr1 : (b.toNat : Int) % 16 = (lo : Int) := by omega
      have hr2 : (b.toNat : Int).tmod 16 = (lo : Int) := by rw [Int.tmod_eq_emod_of_nonneg (by omega)]; exact hr1
      have hq2 : IntKind.i64.wrap ((hi : Int) + 1) = (hi : Int) + 1 := IntWalk.i64_in _ (by constructor <;> omega)
      have hr3 : IntKind.i64.wrap ((lo : Int) + 1) = (lo : Int) + 1 := IntWalk.i64_in _ (by constructor <;> omega)
      have hr4 : IntKind.i64.wrap (lo : Int) = (lo : Int) := IntWalk.i64_in _ (by constructor <;> omega)
      have hd1 : (hi : Int) + 1 ≤ D.size := by omega
      have hd2 : (lo : Int) + 1 ≤ D.size := by omega
      have hd3 : (hi : Int) ≤ hi + 1 := by omega
      have hd4 : (lo : Int) ≤ lo + 1 := by omega
      have ht1 : ((hi : Int) + 1).toNat = hi + 1 := by omega
      have ht2 : ((lo : Int) + 1).toNat = lo + 1 := by omega
      have E1 := hid2 e1
      have E2 := hid2 e2
      have HHI := hid2 hhi
      have HLO := hid2 hlo
      rw [show (⟨#[48, 49, 50, 51, 52, 53, 54, 55, 56, 57, 97, 98, 99, 100, 101, 102]⟩ : ByteArray) = D from hD.symm]
      clear hb ho hkd e1 e2 hhi hlo hD hDs s1 s2
      go_wp2_with fail
      go_quiet (fail)
      go_wp2_with fail
      go_roundw
      case rel =>
        refine ⟨k + 1, _, by omega, by go_num, ?_, rfl⟩
        congr 1
        apply bytes_ext
        rw [string_append_toList, string_append_toList, E1.out, E2.out, HO.out, hexOf_take d k (by rw [HDL.out]; exact hlt), ← HB.out, twoOf, HHI.out, HLO.out]
        simp
      case measure => simp [intOf]; omega
    · have hk32 : k = 32 := by omega
      have hlt' : ¬ (k : Int) < 32 := by omega
      have hall : hexOf (d.take k) = hexOf d := by rw [List.take_of_length_le (by rw [HDL.out]; omega)]
      rw [hall]
      obtain ⟨o, ho⟩ : ∃ o : ByteArray, o = ⟨(hexOf d).toArray⟩ := ⟨_, rfl⟩
      rw [← ho]
      go_wp2_with fail
      go_ret
      exact ⟨rfl, below_drewN HB0.out _⟩
end Go.Proofs.Ytkadailbfeeamaa
