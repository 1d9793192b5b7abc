/- What a disk's tables hold: plain laws. -/
import Derived.Test.YtehpapoboeejkaaDoorDisk3
namespace Go.Proofs.YtehpapoboeejkaaDoor
open Go.RowKit Go.Maps
section
variable {α : Type}
theorem getM_ins_same (k : List UInt8) (a : α) : ∀ M : Tab α, (∀ y ∈ M, y.1 ≠ k) → getM (insM (k, a) M) k = some a
  | [], _ => by simp [insM, getM]
  | y :: r, h => by
    unfold insM
    split
    · simp [getM]
    · have hy : (y.1 == k) = false := by simpa using h y (by simp)
      have := getM_ins_same k a r (fun z hz => h z (List.mem_cons_of_mem _ hz))
      unfold getM at this ⊢
      rw [List.find?_cons, hy]
      exact this
theorem getM_ins_ne (k : List UInt8) (a : α) {k' : List UInt8} (hk : k' ≠ k) : ∀ M : Tab α, getM (insM (k, a) M) k' = getM M k'
  | [] => by
    have : (k == k') = false := by simpa using fun h => hk h.symm
    simp [insM, getM, this]
  | y :: r => by
    have hkk : (k == k') = false := by simpa using fun h => hk h.symm
    unfold insM
    split
    · unfold getM
      rw [List.find?_cons, hkk]
    · have := getM_ins_ne k a hk r
      unfold getM at this ⊢
      rw [List.find?_cons, List.find?_cons]
      split
      · rfl
      · exact this
theorem delM_ne {M : Tab α} {k : List UInt8} : ∀ y ∈ delM M k, y.1 ≠ k := by
  intro y hy
  have := (List.mem_filter.1 hy).2
  simpa using this
theorem getM_put_same (M : Tab α) (k : List UInt8) (a : α) : getM (putM M k a) k = some a := getM_ins_same k a _ delM_ne
theorem getM_del_ne (M : Tab α) {k k' : List UInt8} (hk : k' ≠ k) : getM (delM M k) k' = getM M k' := by
  unfold getM delM
  congr 1
  induction M with
  | nil => rfl
  | cons y r ih =>
    rw [List.filter_cons]
    split
    · rw [List.find?_cons, List.find?_cons, ih]
    · rename_i h
      have hy : y.1 = k := by simpa using h
      have : (y.1 == k') = false := by rw [hy]; simpa using fun h => hk h.symm
      rw [List.find?_cons, this, ih]
theorem getM_del_same (M : Tab α) (k : List UInt8) : getM (delM M k) k = none := by
  unfold getM
  rw [List.find?_eq_none.2 (fun y hy => by simpa using delM_ne y hy)]
  rfl
theorem getM_put_ne (M : Tab α) {k k' : List UInt8} (a : α) (hk : k' ≠ k) : getM (putM M k a) k' = getM M k' := by
  rw [putM, getM_ins_ne k a hk, getM_del_ne M hk]
theorem mem_ins {x y : List UInt8 × α} : ∀ {M : Tab α}, y ∈ insM x M → y = x ∨ y ∈ M
  | [], h => by simpa [insM] using h
  | z :: r, h => by
    unfold insM at h
    split at h
    · simpa using h
    · rcases List.mem_cons.1 h with rfl | h
      · exact .inr (by simp)
      · rcases mem_ins h with h | h
        · exact .inl h
        · exact .inr (List.mem_cons_of_mem _ h)
theorem mem_put {M : Tab α} {k : List UInt8} {a : α} {y : List UInt8 × α} (h : y ∈ putM M k a) : y = (k, a) ∨ y ∈ M := by
  rcases mem_ins h with h | h
  · exact .inl h
  · exact .inr (List.mem_filter.1 h).1
theorem getM_mem {M : Tab α} {k : List UInt8} {a : α} (h : getM M k = some a) : (k, a) ∈ M := by
  unfold getM at h
  obtain ⟨x, hx, rfl⟩ := Option.map_eq_some_iff.1 h
  have h1 := List.mem_of_find?_eq_some hx
  have h2 := List.find?_some hx
  have : x.1 = k := by simpa using h2
  rw [← this]
  exact h1
end
theorem rises_keys {α β : Type} {M : Tab α} {M' : Tab β} (h : M'.map (·.1) = M.map (·.1)) (hr : Rises M) : Rises M' := by
  have h1 : (M.map (·.1)).Pairwise (fun p q => bytesBefore p q = true) := List.pairwise_map.2 hr
  rw [← h] at h1
  exact List.pairwise_map.1 h1
/-- a file behind a crash -/
theorem crash_get {M : Tab FileE} (hr : Rises M) (ps : List Int) {k : List UInt8} {f : FileE} (h : getM M k = some f) (hf : f.2 ≤ f.1.length) :
    ∃ T n, getM (crashP M ps).1 k = some (f.1.take T, n) ∧ f.2 ≤ T := by
  obtain ⟨i, hi⟩ := List.getElem?_of_mem (getM_mem h)
  have hl : i < M.length := (List.getElem?_eq_some_iff.1 hi).1
  obtain ⟨h1, _⟩ := crash_step hr ps hi
  have hlen : ∀ L : Tab FileE, (crashP L ps).1.length = L.length := fun L => by
    have := congrArg List.length (crashP_keys ps L)
    simpa using this
  have happ : ∀ (R L : Tab FileE), ∃ S, (crashP (L ++ R) ps).1 = (crashP L ps).1 ++ S := by
    intro R
    induction R with
    | nil => exact fun L => ⟨[], by simp⟩
    | cons x R ih =>
      intro L
      obtain ⟨S, hS⟩ := ih (L ++ [x])
      rw [List.append_assoc, List.singleton_append] at hS
      exact ⟨[(crash1 x (crashP L ps).2).1] ++ S, by rw [hS, crashP_snoc, List.append_assoc]⟩
  obtain ⟨S, hS⟩ := happ (M.drop (i + 1)) (M.take (i + 1))
  rw [List.take_append_drop] at hS
  have hat : (crashP M ps).1[i]? = some (crash1 (k, f) (crashP (M.take i) ps).2).1 := by
    rw [hS, h1]
    have hli : (crashP (M.take i) ps).1.length = i := by rw [hlen, List.length_take]; omega
    rw [List.append_assoc, List.getElem?_append_right (by omega), hli, Nat.sub_self]
    rfl
  have hg := getM_at (rises_keys (crashP_keys ps M) hr) hat
  rw [crash1_key] at hg
  rw [hg]
  unfold crash1
  split
  · exact ⟨_, _, rfl, by simp only; omega⟩
  · refine ⟨f.1.length, f.1.length, by simp, hf⟩
end Go.Proofs.YtehpapoboeejkaaDoor
