/- What a tool asks for, as a list: up to the first answer that is another one, it is the same. Plain: no program is named. -/
import Derived.Test.YtnecjdhamohadaaGreatDoorMd
set_option linter.unusedSimpArgs false
set_option linter.unusedVariables false
namespace Go.Proofs.YtnecjdhamohadaaGreatDoor
open Go.Lib
variable {v : Env} {O O' : TT → Option KE}
theorem reads_one (p : TT) : readsOf [(⟨1, p, [], 0⟩ : DE)] = [p] := rfl
theorem reads_other {E : List DE} {d : DE} (h : d.kind ≠ 1) : readsOf (E ++ [d]) = readsOf E := by
  rw [readsOf_append]
  have : readsOf [d] = [] := by
    unfold readsOf
    rw [List.filter_cons_of_neg (by simpa using h)]
    rfl
  rw [this, List.append_nil]
/-- a step that gives no answer -/
theorem mstep_quiet {m : MS} (h : ¬ (m.1.over.kind = 0 ∧ m.1.waits = true)) : mstep v O' m = mstep v O m ∧ readsOf (mstep v O m).2 = readsOf m.2 := by
  by_cases h2 : m.1.over.kind = 2
  · have e1 : mstep v O m = ({ m.1 with over := DE.none }, m.2 ++ [m.1.over]) := by unfold mstep; rw [if_pos h2]
    have e2 : mstep v O' m = ({ m.1 with over := DE.none }, m.2 ++ [m.1.over]) := by unfold mstep; rw [if_pos h2]
    rw [e1, e2]
    exact ⟨rfl, reads_other (by omega)⟩
  · by_cases h0 : m.1.over.kind ≠ 0
    · have e1 : mstep v O m = m := by unfold mstep; rw [if_neg h2, if_pos h0]
      have e2 : mstep v O' m = m := by unfold mstep; rw [if_neg h2, if_pos h0]
      rw [e1, e2]
      exact ⟨rfl, rfl⟩
    · have hw : ¬ m.1.waits = true := fun hw => h ⟨by omega, hw⟩
      have e1 : mstep v O m = (m.1.step v, m.2) := by unfold mstep; rw [if_neg h2, if_neg h0, if_neg hw]
      have e2 : mstep v O' m = (m.1.step v, m.2) := by unfold mstep; rw [if_neg h2, if_neg h0, if_neg hw]
      rw [e1, e2]
      exact ⟨rfl, rfl⟩
theorem mstep_read {m : MS} (h : m.1.over.kind = 0 ∧ m.1.waits = true) {k : KE} (hk : O m.1.asks = some k) : mstep v O m = (m.1.give k, m.2 ++ [⟨1, m.1.asks, [], 0⟩]) := by
  unfold mstep
  rw [if_neg (by omega), if_neg (by omega), if_pos h.2, hk]
theorem reads_agree (hf : ∀ p, ∃ k, O p = some k) (hf' : ∀ p, ∃ k, O' p = some k) : ∀ (n : Nat) (m : MS) (F : List TT) (i : Nat), readsOf (mrun v O n m).2 = readsOf m.2 ++ F → i < F.length → (∀ p ∈ F.take i, O' p = O p) → ∃ n', readsOf (mrun v O' n' m).2 = readsOf m.2 ++ F.take (i + 1)
  | 0, m, F, i, h, hi, _ => by
    rw [mrun] at h
    have : F = [] := by simpa using h
    subst this
    cases hi
  | n + 1, m, F, i, h, hi, ha => by
    rw [mrun] at h
    by_cases hr : m.1.over.kind = 0 ∧ m.1.waits = true
    · obtain ⟨k, hk⟩ := hf m.1.asks
      have hs := mstep_read (v := v) hr hk
      rw [hs] at h
      obtain ⟨F', hF'⟩ := mrun_prefix (v := v) (O := O) n (m.1.give k, m.2 ++ [⟨1, m.1.asks, [], 0⟩])
      have hF : F = m.1.asks :: readsOf F' := by
        rw [hF', readsOf_append, readsOf_append, reads_one, List.append_assoc] at h
        exact (List.append_cancel_left h).symm
      subst hF
      cases i with
      | zero =>
        obtain ⟨k', hk'⟩ := hf' m.1.asks
        refine ⟨1, ?_⟩
        rw [mrun, mrun, mstep_read (v := v) hr hk', readsOf_append, reads_one]
        rfl
      | succ i =>
        have hO : O' m.1.asks = O m.1.asks := ha _ (by simp)
        have hs' := mstep_read (v := v) hr (hO.trans hk)
        obtain ⟨n', hn'⟩ := reads_agree hf hf' n (m.1.give k, m.2 ++ [⟨1, m.1.asks, [], 0⟩]) (readsOf F') i (by rw [hF', readsOf_append]) (by simpa using hi) (fun p hp => ha p (by rw [List.take_succ_cons]; exact List.mem_cons_of_mem _ hp))
        refine ⟨n' + 1, ?_⟩
        rw [mrun, hs', hn', readsOf_append, reads_one, List.append_assoc]
        rfl
    · obtain ⟨h1, h2⟩ := mstep_quiet (v := v) (O := O) (O' := O') hr
      obtain ⟨n', hn'⟩ := reads_agree hf hf' n (mstep v O m) F i (by rw [h2]; exact h) hi ha
      refine ⟨n' + 1, ?_⟩
      rw [mrun, h1, hn', h2]
end Go.Proofs.YtnecjdhamohadaaGreatDoor
