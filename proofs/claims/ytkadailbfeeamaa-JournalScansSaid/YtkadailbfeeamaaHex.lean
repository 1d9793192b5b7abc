/- A digest's text as plain functions of bytes: there and back. -/
import Derived.Test.YtkadailbfeeamaaSha7
import Derived.Lib.Bytealg
namespace Go.Proofs.Ytkadailbfeeamaa
open Go.RowKit
/-- what a digit is worth, or -1 -/
def dig (c : UInt8) : Int := if 48 ≤ c.toNat ∧ c.toNat ≤ 57 then (c.toNat : Int) - 48 else if 97 ≤ c.toNat ∧ c.toNat ≤ 102 then (c.toNat : Int) - 87 else -1
def digitsL : List UInt8 := [48, 49, 50, 51, 52, 53, 54, 55, 56, 57, 97, 98, 99, 100, 101, 102]
set_option maxRecDepth 100000 in
theorem indexByte_fin : ∀ n : Fin 256, Lib.indexByte digitsL (UInt8.ofNat n.val) = dig (UInt8.ofNat n.val) := by decide +kernel
theorem ofNat_toNat8 (c : UInt8) : UInt8.ofNat c.toNat = c := by simp
theorem indexByte_dig (c : UInt8) : Lib.indexByte digitsL c = dig c := by
  have := indexByte_fin ⟨c.toNat, c.toNat_lt⟩
  simpa using this
set_option maxRecDepth 100000 in
theorem digit_fin2 : ∀ n : Fin 256, 0 ≤ dig (UInt8.ofNat n.val) → digitOf (dig (UInt8.ofNat n.val)).toNat = UInt8.ofNat n.val := by decide +kernel
theorem digit_dig (c : UInt8) (h : 0 ≤ dig c) : digitOf (dig c).toNat = c := by
  have := digit_fin2 ⟨c.toNat, c.toNat_lt⟩
  simp only [ofNat_toNat8] at this
  exact this h
theorem dig_fin : ∀ n : Fin 16, dig (digitOf n.val) = n.val := by decide +kernel
theorem dig_digit (n : Nat) (h : n < 16) : dig (digitOf n) = n := dig_fin ⟨n, h⟩
theorem dig_lt (c : UInt8) : dig c < 16 := by
  unfold dig
  split
  · omega
  · split <;> omega
theorem dig_ge (c : UInt8) : -1 ≤ dig c := by
  unfold dig
  split
  · omega
  · split <;> omega
def ofByte (a b : UInt8) : UInt8 := UInt8.ofNat (16 * (dig a).toNat + (dig b).toNat)
theorem ofByte_toNat (a b : UInt8) : (ofByte a b).toNat = 16 * (dig a).toNat + (dig b).toNat := by
  have := dig_lt a
  have := dig_lt b
  rw [ofByte, UInt8.toNat_ofNat']; omega
/-- may the first k pairs of digits be read? -/
def hexOkK (l : List UInt8) (k : Nat) : Prop := ∀ i, i < k → 0 ≤ dig (l.getD (2 * i) 0) ∧ 0 ≤ dig (l.getD (2 * i + 1) 0)
instance (l : List UInt8) (k : Nat) : Decidable (hexOkK l k) := by unfold hexOkK; infer_instance
def hexOk (l : List UInt8) : Bool := l.length == 64 && decide (hexOkK l 32)
def ofL (l : List UInt8) : List UInt8 := (List.range 32).map fun i => ofByte (l.getD (2 * i) 0) (l.getD (2 * i + 1) 0)
def ofHex (l : List UInt8) : List UInt8 := if hexOk l = true then ofL l else List.replicate 32 0
theorem ofL_length (l : List UInt8) : (ofL l).length = 32 := by simp [ofL]
theorem ofHex_length (l : List UInt8) : (ofHex l).length = 32 := by unfold ofHex; split <;> simp [ofL]
theorem hexOf_even : ∀ (d : List UInt8) (i : Nat), i < d.length → (hexOf d).getD (2 * i) 0 = digitOf ((d.getD i 0).toNat / 16)
  | b :: d, 0, _ => rfl
  | b :: d, i + 1, h => by
    rw [show 2 * (i + 1) = 2 * i + 1 + 1 by omega]
    exact hexOf_even d i (by simpa using h)
theorem hexOf_odd : ∀ (d : List UInt8) (i : Nat), i < d.length → (hexOf d).getD (2 * i + 1) 0 = digitOf ((d.getD i 0).toNat % 16)
  | b :: d, 0, _ => rfl
  | b :: d, i + 1, h => by
    rw [show 2 * (i + 1) + 1 = 2 * i + 1 + 1 + 1 by omega]
    exact hexOf_odd d i (by simpa using h)
theorem hexOk_hexOf (d : List UInt8) (h : d.length = 32) : hexOk (hexOf d) = true := by
  unfold hexOk
  rw [hexOf_length, h]
  simp only [Bool.and_eq_true, beq_iff_eq, decide_eq_true_eq]
  refine ⟨by simp, fun i hi => ?_⟩
  have hb := (d.getD i 0).toNat_lt
  rw [hexOf_even d i (by omega), hexOf_odd d i (by omega), dig_digit _ (by omega), dig_digit _ (by omega)]
  omega
theorem ofHex_hexOf (d : List UInt8) (h : d.length = 32) : ofHex (hexOf d) = d := by
  rw [ofHex, if_pos (hexOk_hexOf d h)]
  apply List.ext_getElem
  · rw [ofL_length, h]
  · intro i h1 h2
    have hb := (d.getD i 0).toNat_lt
    simp only [ofL, List.getElem_map, List.getElem_range]
    apply UInt8.toNat_inj.1
    rw [ofByte_toNat, hexOf_even d i h2, hexOf_odd d i h2, dig_digit _ (by omega), dig_digit _ (by omega), List.getD_eq_getElem?_getD, List.getElem?_eq_getElem h2]
    simp
    omega
theorem hexOf_ofHex (l : List UInt8) (h : hexOk l = true) : hexOf (ofHex l) = l := by
  rw [ofHex, if_pos h]
  simp only [hexOk, Bool.and_eq_true, beq_iff_eq, decide_eq_true_eq] at h
  obtain ⟨h1, h2⟩ := h
  have hl : (hexOf (ofL l)).length = 64 := by rw [hexOf_length, ofL_length]
  apply List.ext_getElem
  · rw [hl, h1]
  · intro j hj1 hj2
    have hg : ∀ (m : List UInt8) (j : Nat) (hj : j < m.length), m[j] = m.getD j 0 := fun m j hj => by rw [List.getD_eq_getElem?_getD, List.getElem?_eq_getElem hj]; rfl
    rw [hg _ _ hj1, hg _ _ hj2]
    have hi : j / 2 < 32 := by omega
    have hok := h2 (j / 2) hi
    have he : (ofL l).getD (j / 2) 0 = ofByte (l.getD (2 * (j / 2)) 0) (l.getD (2 * (j / 2) + 1) 0) := by
      rw [← hg _ _ (by rw [ofL_length]; exact hi)]
      simp only [ofL, List.getElem_map, List.getElem_range]
    have ha := dig_lt (l.getD (2 * (j / 2)) 0)
    have hb := dig_lt (l.getD (2 * (j / 2) + 1) 0)
    rcases (show j = 2 * (j / 2) ∨ j = 2 * (j / 2) + 1 by omega) with hq | hq
    · conv => lhs; rw [hq]
      conv => rhs; rw [hq]
      rw [hexOf_even _ _ (by rw [ofL_length]; exact hi), he, ofByte_toNat, show (16 * (dig (l.getD (2 * (j / 2)) 0)).toNat + (dig (l.getD (2 * (j / 2) + 1) 0)).toNat) / 16 = (dig (l.getD (2 * (j / 2)) 0)).toNat by omega]
      exact digit_dig _ hok.1
    · conv => lhs; rw [hq]
      conv => rhs; rw [hq]
      rw [hexOf_odd _ _ (by rw [ofL_length]; exact hi), he, ofByte_toNat, show (16 * (dig (l.getD (2 * (j / 2)) 0)).toNat + (dig (l.getD (2 * (j / 2) + 1) 0)).toNat) % 16 = (dig (l.getD (2 * (j / 2) + 1) 0)).toNat by omega]
      exact digit_dig _ hok.2
/-- k bytes of a digest, and zeros -/
def fillK (L : List UInt8) (k : Nat) : List UInt8 := L.take k ++ List.replicate (32 - k) 0
theorem fillK_length (L : List UInt8) (k : Nat) (hL : L.length = 32) (h : k ≤ 32) : (fillK L k).length = 32 := by
  rw [fillK, List.length_append, List.length_take, hL, List.length_replicate]; omega
theorem fillK_set (L : List UInt8) (k : Nat) (hL : L.length = 32) (h : k < 32) : (fillK L k).set k (L.getD k 0) = fillK L (k + 1) := by
  have hl : (L.take k).length = k := by rw [List.length_take, hL]; omega
  have e : L.getD k 0 = L[k] := by rw [List.getD_eq_getElem?_getD, List.getElem?_eq_getElem (by omega)]; rfl
  rw [fillK, fillK, List.set_append_right _ _ (by omega), hl, Nat.sub_self, List.take_succ_eq_append_getElem (by omega), show 32 - k = (32 - (k + 1)) + 1 by omega, List.replicate_succ, List.append_assoc, e]
  rfl
theorem fillK_full (L : List UInt8) (hL : L.length = 32) : fillK L 32 = L := by
  rw [fillK, List.take_of_length_le (by omega)]; simp
end Go.Proofs.Ytkadailbfeeamaa
