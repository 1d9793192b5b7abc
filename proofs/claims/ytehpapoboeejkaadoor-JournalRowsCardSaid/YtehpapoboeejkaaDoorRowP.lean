/- Rows of texts as bytes: the digits of a length, read one by one. Plain: no program is named. -/
import Derived.Test.YtehpapoboeejkaaDoorKeyP
namespace Go.Proofs.YtehpapoboeejkaaDoor
open Go.Lib
theorem dec_digit : ∀ (n : Nat) (d : UInt8), d ∈ decDigits n → 48 ≤ d.toNat ∧ d.toNat ≤ 57 := fun n => by
  induction n using Nat.strongRecOn with
  | _ n ih =>
    intro d hd
    rw [decDigits] at hd
    split at hd
    · rename_i h
      rw [List.mem_singleton] at hd
      subst hd
      rw [dig_toNat h]
      omega
    · rename_i h
      rw [List.mem_append, List.mem_singleton] at hd
      rcases hd with hd | hd
      · exact ih (n / 10) (by omega) d hd
      · subst hd
        rw [dig_toNat (by omega)]
        omega
theorem dec_lead : ∀ (n i : Nat), 0 < i → i < (decDigits n).length → valL ((decDigits n).take i) ≠ 0 := fun n => by
  induction n using Nat.strongRecOn with
  | _ n ih =>
    intro i h0 hi
    rw [decDigits] at hi ⊢
    split at hi
    · simp at hi
      omega
    · rename_i h
      rw [dif_neg h]
      rw [List.length_append, List.length_singleton] at hi
      rw [List.take_append_of_le_length (by omega)]
      rcases Nat.lt_or_ge i (decDigits (n / 10)).length with hl | hl
      · exact ih (n / 10) (by omega) i h0 hl
      · rw [List.take_of_length_le hl, val_dec]
        omega
theorem valL_take {l : List UInt8} {i : Nat} {d : UInt8} (h : l[i]? = some d) : valL (l.take (i + 1)) = 10 * valL (l.take i) + (d.toNat - 48) := by
  rw [List.take_add_one, h]
  exact valL_snoc _ _
theorem valL_le {l : List UInt8} (h : ∀ d ∈ l, d.toNat ≤ 57) : ∀ i, valL (l.take i) < 10 ^ i
  | 0 => by simp [valL]
  | i + 1 => by
    have ih := valL_le h i
    cases hd : l[i]? with
    | none =>
      rw [List.take_add_one, hd, Option.toList_none, List.append_nil, Nat.pow_succ]
      omega
    | some d =>
      have := h d (List.mem_of_getElem? hd)
      rw [valL_take hd, Nat.pow_succ]
      omega
/-- the text of one, as rowL writes it -/
def oneL (s : List UInt8) : List UInt8 := decDigits s.length ++ 58 :: s
theorem rowL_one (s : List UInt8) (l : List (List UInt8)) : rowL (s :: l) = decDigits s.length ++ 58 :: (s ++ rowL l) := rowL_cons s l
theorem rowL_drop {l : List (List UInt8)} {k : Nat} {s : List UInt8} (h : l[k]? = some s) : rowL (l.drop k) = decDigits s.length ++ 58 :: (s ++ rowL (l.drop (k + 1))) := by
  obtain ⟨hk, rfl⟩ := List.getElem?_eq_some_iff.1 h
  rw [List.drop_eq_getElem_cons hk, rowL_cons]
theorem rowL_app (a b : List (List UInt8)) : rowL (a ++ b) = rowL a ++ rowL b := by simp [rowL]
theorem rowL_len {l : List (List UInt8)} {B : Nat} (hB : B < 1000000000) (h : ∀ s ∈ l, s.length ≤ B) : (rowL l).length ≤ l.length * (B + 10) := by
  induction l with
  | nil => simp [rowL]
  | cons s l ih =>
    have h1 := h s (by simp)
    have h2 := ih fun x hx => h x (by simp [hx])
    have h3 := dec_len 8 s.length (by omega)
    rw [rowL_cons]
    simp only [List.length_append, List.length_cons]
    have e : (l.length + 1) * (B + 10) = l.length * (B + 10) + (B + 10) := Nat.succ_mul _ _
    omega
end Go.Proofs.YtehpapoboeejkaaDoor
