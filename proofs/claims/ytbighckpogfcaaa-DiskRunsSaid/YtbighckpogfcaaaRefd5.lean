/- The reference's disk as a row of files: with. -/
import Derived.Test.YtbighckpogfcaaaRefd4
namespace Go.Proofs.Ytbighckpogfcaaa
open Go.RowKit Go.Maps
def lowM (M : Tab FileE) (k : List UInt8) : Tab FileE := M.filter fun y => bytesBefore y.1 k
def highM (M : Tab FileE) (k : List UInt8) : Tab FileE := M.filter fun y => bytesBefore k y.1
theorem insM_split {x : List UInt8 × FileE} : ∀ {M : Tab FileE}, Rises M → (∀ y ∈ M, y.1 ≠ x.1) → insM x M = lowM M x.1 ++ [x] ++ highM M x.1
  | [], _, _ => rfl
  | y :: r, hr, hne => by
    have hr2 := (List.pairwise_cons.1 hr)
    unfold insM
    split
    · rename_i h
      rw [bytesBefore_lt] at h
      have hl : lowM (y :: r) x.1 = [] := by
        unfold lowM
        rw [List.filter_eq_nil_iff]
        intro z hz
        rw [bytesBefore_lt]
        intro hzx
        rcases List.mem_cons.1 hz with rfl | hz
        · exact List.lt_irrefl _ (List.lt_trans h hzx)
        · have := hr2.1 z hz
          rw [bytesBefore_lt] at this
          exact List.lt_irrefl _ (List.lt_trans (List.lt_trans h this) hzx)
      have hh : highM (y :: r) x.1 = y :: r := by
        unfold highM
        rw [List.filter_eq_self]
        intro z hz
        rw [bytesBefore_lt]
        rcases List.mem_cons.1 hz with rfl | hz
        · exact h
        · have := hr2.1 z hz
          rw [bytesBefore_lt] at this
          exact List.lt_trans h this
      rw [hl, hh]
      rfl
    · rename_i h
      have ih := insM_split hr2.2 (fun z hz => hne z (List.mem_cons_of_mem _ hz))
      have hyx : bytesBefore y.1 x.1 = true := by
        rw [bytesBefore_lt]
        rw [bytesBefore_lt] at h
        by_cases h1 : y.1 < x.1
        · exact h1
        · exact absurd (List.le_antisymm (List.not_lt.1 h) (List.not_lt.1 h1)) (hne y (by simp))
      rw [ih]
      have hl : lowM (y :: r) x.1 = y :: lowM r x.1 := by unfold lowM; rw [List.filter_cons, if_pos hyx]
      have hh : highM (y :: r) x.1 = highM r x.1 := by unfold highM; rw [List.filter_cons, if_neg h]
      rw [hl, hh]
      rfl
theorem putM_split {M : Tab FileE} (hr : Rises M) (k : List UInt8) (a : FileE) : putM M k a = lowM M k ++ [(k, a)] ++ highM M k := by
  have hr2 : Rises (delM M k) := hr.filter _
  rw [putM, insM_split hr2 delM_ne]
  have hl : lowM (delM M k) k = lowM M k := by
    unfold lowM delM
    rw [List.filter_filter]
    refine List.filter_congr fun y _ => ?_
    by_cases h : y.1 = k
    · have : bytesBefore y.1 k = false := by rw [h, ← Bool.not_eq_true, bytesBefore_lt]; exact List.lt_irrefl _
      rw [this]; rfl
    · simp [h]
  have hh : highM (delM M k) k = highM M k := by
    unfold highM delM
    rw [List.filter_filter]
    refine List.filter_congr fun y _ => ?_
    by_cases h : y.1 = k
    · have : bytesBefore k y.1 = false := by rw [h, ← Bool.not_eq_true, bytesBefore_lt]; exact List.lt_irrefl _
      rw [this]; rfl
    · simp [h]
  rw [hl, hh]
end Go.Proofs.Ytbighckpogfcaaa
