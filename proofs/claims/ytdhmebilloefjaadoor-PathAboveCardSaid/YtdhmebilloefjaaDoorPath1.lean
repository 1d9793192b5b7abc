/- The walks of a path's parts: sign, part, and the document's Part. -/
import Derived.Test.YtdhmebilloefjaaDoorPathP
import Derived.Test.YtdhmebilloefjaaDoorByte
import Derived.Test.YtdhmebilloefjaaDoorKept
import Derived.Lib.DecodeNEq
import Derived.Lib.QuoteLoop
import Derived.Lib.IndexLaws
import Derived.Shelf.GgClosure.StringsIndexFunc
namespace Go.Proofs.YtdhmebilloefjaaDoor
open Go.RowKit
/-- may a part have that rune? -/
def signN (r : Nat) : Bool := (decide (97 ≤ r) && decide (r ≤ 122)) || (decide (65 ≤ r) && decide (r ≤ 90)) || (decide (48 ≤ r) && decide (r ≤ 57)) || decide (r = 95) || decide (r = 46) || decide (r = 45) || decide (r = 43)
theorem signN_byte (c : UInt8) : signN c.toNat = signB c := rfl
theorem signN_big {r : Nat} (h : 128 ≤ r) : signN r = false := by
  unfold signN
  simp only [Bool.or_eq_false_iff, Bool.and_eq_false_iff, decide_eq_false_iff_not]
  omega
theorem decodeN_big (n b0 b1 b2 b3 : Nat) (h : 128 ≤ b0) : 128 ≤ (Lib.decodeN n b0 b1 b2 b3).1 := by
  unfold Lib.decodeN
  rw [if_neg (by omega)]
  repeat' split
  all_goals simp only
  all_goals omega
theorem idx_sign_from (s : ByteArray) : ∀ (f pos : Nat), pos ≤ s.size → s.size ≤ pos + f →
    decide (0 ≤ Lib.idxFuncFrom (fun r => !signN r) true s f pos) = !((s.data.toList.drop pos).all signB)
  | 0, pos, h1, h2 => by
    rw [List.drop_of_length_le (by rw [toList_length]; omega)]
    rfl
  | f + 1, pos, h1, h2 => by
    by_cases hp : pos < s.size
    · have hpl : pos < s.data.toList.length := by rw [toList_length]; exact hp
      have hget : s.get! pos = s.data.toList[pos] := by
        have : s.data[pos]! = s.data[pos]'hp := getElem!_pos s.data pos hp
        show s.data[pos]! = _
        rw [this]; simp
      rw [List.drop_eq_getElem_cons hpl, List.all_cons]
      obtain ⟨c, hc⟩ : ∃ c, c = s.data.toList[pos] := ⟨_, rfl⟩
      rw [← hc] at hget ⊢
      unfold Lib.idxFuncFrom
      rw [if_pos hp, Lib.decode_at, hget]
      by_cases h128 : c.toNat < 128
      · rw [show Lib.decodeN (s.size - pos) c.toNat (s.get! (pos + 1)).toNat (s.get! (pos + 2)).toNat (s.get! (pos + 3)).toNat = (c.toNat, 1) by simp [Lib.decodeN, h128]]
        have ih := idx_sign_from s f (pos + 1) (by omega) (by omega)
        by_cases hsg : signB c = true
        · rw [if_neg (by show ¬ ((!signN c.toNat) = true); rw [signN_byte, hsg]; simp), hsg, Bool.true_and]; exact ih
        · have hsg' : signB c = false := by simpa using hsg
          rw [if_pos (by show (!signN c.toNat) = true; rw [signN_byte, hsg']; rfl), hsg']; simp
      · have hb := signN_big (decodeN_big (s.size - pos) c.toNat (s.get! (pos + 1)).toNat (s.get! (pos + 2)).toNat (s.get! (pos + 3)).toNat (by omega))
        have hs : signB c = false := by rw [← signN_byte]; exact signN_big (by omega)
        rw [hb, hs]; simp
    · rw [Lib.idxFuncFrom_end _ _ _ _ _ hp, List.drop_of_length_le (by rw [toList_length]; omega)]
      rfl
theorem idx_sign (s : ByteArray) : decide (0 ≤ Lib.idxFunc (fun r => !signN r) true s) = !(s.data.toList.all signB) := by
  rw [Lib.idxFunc, idx_sign_from s s.size 0 (by omega) (by omega), List.drop_zero]
theorem odd_sign : ∀ r : Fin 128, decide (0 ≤ Lib.indexByte [95, 46, 45, 43] (UInt8.ofNat r.val)) = (decide (r.val = 95) || decide (r.val = 46) || decide (r.val = 45) || decide (r.val = 43)) := by decide +kernel
theorem sign_odd {r : Nat} (h : r < 128) (h1 : ¬ (97 ≤ r ∧ r ≤ 122)) (h2 : ¬ (65 ≤ r ∧ r ≤ 90)) (h3 : ¬ (48 ≤ r ∧ r ≤ 57)) : decide (0 ≤ Lib.indexByte [95, 46, 45, 43] (UInt8.ofNat r)) = signN r := by
  rw [odd_sign ⟨r, h⟩]
  have e1 : (decide (97 ≤ r) && decide (r ≤ 122)) = false := by simpa using h1
  have e2 : (decide (65 ≤ r) && decide (r ≤ 90)) = false := by simpa using h2
  have e3 : (decide (48 ≤ r) && decide (r ≤ 57)) = false := by simpa using h3
  unfold signN
  rw [e1, e2, e3]; rfl
theorem sign_yes {r : Nat} (h : (97 ≤ r ∧ r ≤ 122) ∨ (65 ≤ r ∧ r ≤ 90) ∨ (48 ≤ r ∧ r ≤ 57)) : signN r = true := by
  unfold signN
  simp only [Bool.or_eq_true, Bool.and_eq_true, decide_eq_true_eq]
  omega
set_option maxRecDepth 100000 in
theorem sign_any (w : World) (r : Nat) : Calls Tryd.prog 31 #[.int .i32 r] w fun e w' => e = .returned (.bool (signN r)) ∧ w' = w := by
  by_cases hy : (97 ≤ r ∧ r ≤ 122) ∨ (65 ≤ r ∧ r ≤ 90) ∨ (48 ≤ r ∧ r ≤ 57)
  · rw [sign_yes hy]
    rcases hy with h | h | h
    all_goals obtain ⟨h1, h2⟩ := h
    all_goals have b1 := Int.ofNat_le.2 h1
    all_goals have b2 := Int.ofNat_le.2 h2
    all_goals clear h1 h2
    all_goals go_enter Tryd.func31, Tryd.ntmps31
    all_goals go_wp2_with fail
    all_goals go_ret
    all_goals exact ⟨rfl, rfl⟩
  · by_cases hb : 128 ≤ r
    · rw [signN_big hb]
      have b1 : (128 : Int) ≤ r := by omega
      go_enter Tryd.func31, Tryd.ntmps31
      go_wp2_with fail
      go_ret
      refine ⟨?_, rfl⟩
      show Ending.returned (Value.bool _) = Ending.returned (Value.bool false)
      congr 2
      simp only [Bool.or_eq_false_iff, decide_eq_false_iff_not]
      omega
    · rw [← sign_odd (by omega) (by omega) (by omega) (by omega)]
      have hr : r < 48 ∨ (57 < r ∧ r < 65) ∨ (90 < r ∧ r < 97) ∨ 122 < r := by omega
      have b0 : (r : Int) < 128 := by omega
      clear hy hb
      rcases hr with h | h | h | h
      · have b1 : (r : Int) < 48 := by omega
        clear h
        go_enter Tryd.func31, Tryd.ntmps31
        go_wp2_with (go_at_call 38; refine (byteat_any _ _ _).mono ?_; rintro e w2 ⟨rfl, rfl⟩)
        go_ret
        exact ⟨rfl, rfl⟩
      · have b1 : (57 : Int) < r := by omega
        have b2 : (r : Int) < 65 := by omega
        clear h
        go_enter Tryd.func31, Tryd.ntmps31
        go_wp2_with (go_at_call 38; refine (byteat_any _ _ _).mono ?_; rintro e w2 ⟨rfl, rfl⟩)
        go_ret
        exact ⟨by simp [b1]; omega, rfl⟩
      · have b1 : (90 : Int) < r := by omega
        have b2 : (r : Int) < 97 := by omega
        clear h
        go_enter Tryd.func31, Tryd.ntmps31
        go_wp2_with (go_at_call 38; refine (byteat_any _ _ _).mono ?_; rintro e w2 ⟨rfl, rfl⟩)
        go_ret
        exact ⟨by simp [b1]; omega, rfl⟩
      · have b1 : (122 : Int) < r := by omega
        clear h
        go_enter Tryd.func31, Tryd.ntmps31
        go_wp2_with (go_at_call 38; refine (byteat_any _ _ _).mono ?_; rintro e w2 ⟨rfl, rfl⟩)
        go_ret
        exact ⟨by simp [b1]; omega, rfl⟩
end Go.Proofs.YtdhmebilloefjaaDoor
