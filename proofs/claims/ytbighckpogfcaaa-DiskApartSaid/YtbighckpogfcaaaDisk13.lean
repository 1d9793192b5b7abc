/- A file apart: what acts on other files leave of it. -/
import Derived.Test.YtbighckpogfcaaaDisk12
import Derived.Test.YtbighckpogfcaaaDisk8
namespace Go.Proofs.Ytbighckpogfcaaa
open Go.RowKit Go.Maps
abbrev kM : List UInt8 := [109, 105, 110, 101]
theorem PS.ren {name : List UInt8} {W : Nat} {M : Tab FileE} (h : PS name W M []) {k k2 : List UInt8} (hk : k2.length ≤ W) (left : Int) : PS name W (renM M left k k2) [] := by
  unfold renM
  split
  · obtain ⟨f1, f2⟩ := h.file k
    have hp : PS name W (putM M k2 (fileOf M k)) [] := h.put hk f1 f2 (fun _ => ⟨List.nil_prefix, Nat.zero_le _⟩) (fun _ => rfl)
    exact ⟨fun x hx => hp.all x (List.mem_filter.1 hx).1, fun f _ => ⟨List.nil_prefix, Nat.zero_le _⟩, fun _ => rfl⟩
  · exact h
/-- the bounds behind an act -/
theorem PS.act {W W' : Nat} {M : Tab FileE} (h : PS kM W M []) {a : ActE} (ha : W + actW a ≤ W') (hn : a.name.data.toList ≠ kM) : PS kM W' (doM M a) [] := by
  have hz : a.name.data.toList.length + a.to.data.toList.length + a.data.data.toList.length + a.pn + 1 = actW a := by simp only [toList_length, actW]
  have hm : PS kM W' M [] := h.mono (by omega)
  unfold doM
  split
  · exact h.app (by omega) (by omega) _
  · split
    · exact hm.sync (by omega) _ (.inl rfl)
    · split
      · exact hm.ren (by omega) _
      · split
        · exact hm.rem _ (.inl ⟨rfl, .inl hn⟩)
        · exact hm
theorem act_get {M : Tab FileE} {a : ActE} (hn : a.name.data.toList ≠ kM) (ht : a.to.data.toList ≠ kM) : getM (doM M a) kM = getM M kM := by
  unfold doM
  split
  · unfold appM; split
    · exact getM_put_ne M _ (fun h => hn h.symm)
    · rfl
  · split
    · unfold syncM; split
      · exact getM_put_ne M _ (fun h => hn h.symm)
      · rfl
    · split
      · unfold renM; split
        · rw [getM_del_ne _ (fun h => hn h.symm), getM_put_ne M _ (fun h => ht h.symm)]
        · rfl
      · split
        · unfold remM; split
          · exact getM_del_ne M (fun h => hn h.symm)
          · rfl
        · rfl
theorem crashP_app (ps : List Int) : ∀ (R L : Tab FileE), ∃ S, (crashP (L ++ R) ps).1 = (crashP L ps).1 ++ S := by
  intro R
  induction R with
  | nil => exact fun L => ⟨[], by simp⟩
  | cons x R ih =>
    intro L
    obtain ⟨S, hS⟩ := ih (L ++ [x])
    rw [List.append_assoc, List.singleton_append] at hS
    exact ⟨[(crash1 x (crashP L ps).2).1] ++ S, by rw [hS, crashP_snoc, List.append_assoc]⟩
theorem crashP_nil (M : Tab FileE) : (crashP M []).2 = [] := by
  suffices h : ∀ R : Tab FileE, (crashP R.reverse []).2 = [] by simpa using h M.reverse
  intro R
  induction R with
  | nil => rfl
  | cons x r ih =>
    rw [List.reverse_cons, crashP_snoc, ih]
    unfold crash1
    split <;> rfl
/-- a crash in which nothing more is kept -/
theorem crash_nil_get {M : Tab FileE} (hr : Rises M) {k d0 d1 : List UInt8} (h : getM M k = some (d0 ++ d1, d0.length)) : getM (crashP M []).1 k = some (d0, d0.length) := by
  obtain ⟨i, hi⟩ := List.getElem?_of_mem (getM_mem h)
  have hl : i < M.length := (List.getElem?_eq_some_iff.1 hi).1
  obtain ⟨h1, _⟩ := crash_step hr [] hi
  obtain ⟨S, hS⟩ := crashP_app [] (M.drop (i + 1)) (M.take (i + 1))
  rw [List.take_append_drop] at hS
  have hat : (crashP M []).1[i]? = some (crash1 (k, (d0 ++ d1, d0.length)) []).1 := by
    rw [hS, h1, crashP_nil]
    have hli : (crashP (M.take i) []).1.length = i := by rw [crashP_len, List.length_take]; omega
    rw [List.append_assoc, List.getElem?_append_right (by omega), hli, Nat.sub_self]
    rfl
  have hg := getM_at (rises_keys (crashP_keys [] M) hr) hat
  rw [crash1_key] at hg
  rw [hg]
  unfold crash1
  split
  · simp
  · rename_i h2
    simp only [List.length_append] at h2
    have h3 : d1 = [] := List.eq_nil_of_length_eq_zero (by omega)
    subst h3
    simp
end Go.Proofs.Ytbighckpogfcaaa
