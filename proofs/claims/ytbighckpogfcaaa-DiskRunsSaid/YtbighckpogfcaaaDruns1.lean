/- Tables that rise are told by what they hold; a file that is renamed; sizes of what a disk has; what a crash leaves. Plain laws. -/
import Derived.Test.YtbighckpogfcaaaDisk7
import Derived.Test.YtbighckpogfcaaaDisk9
namespace Go.Proofs.Ytbighckpogfcaaa
open Go.RowKit Go.Maps
section
variable {α : Type}
theorem before_irrefl (k : List UInt8) : bytesBefore k k = false := by
  rw [← Bool.not_eq_true, bytesBefore_lt]
  exact List.lt_irrefl _
theorem getM_low {M : Tab α} {k : List UInt8} (h : ∀ x ∈ M, bytesBefore k x.1 = true) : getM M k = none := by
  unfold getM
  rw [List.find?_eq_none.2 (fun y hy => ?_)]
  · rfl
  · have := h y hy
    simp only [beq_iff_eq]
    intro e
    rw [e, before_irrefl] at this
    cases this
theorem before_trans {a b c : List UInt8} (h1 : bytesBefore a b = true) (h2 : bytesBefore b c = true) : bytesBefore a c = true := by
  rw [bytesBefore_lt] at *
  exact List.lt_trans h1 h2
theorem before_or (a b : List UInt8) : bytesBefore a b = true ∨ a = b ∨ bytesBefore b a = true := by
  rw [bytesBefore_lt, bytesBefore_lt]
  by_cases h : a < b
  · exact .inl h
  · by_cases h2 : b < a
    · exact .inr (.inr h2)
    · exact .inr (.inl (List.le_antisymm (List.not_lt.1 h2) (List.not_lt.1 h)))
theorem getM_cons (x : List UInt8 × α) (r : Tab α) (k : List UInt8) : getM (x :: r) k = if x.1 = k then some x.2 else getM r k := by
  unfold getM
  rw [List.find?_cons]
  by_cases h : x.1 = k
  · simp [h]
  · have : (x.1 == k) = false := by simpa using h
    rw [this, if_neg h]
theorem rises_ext : ∀ {M M' : Tab α}, Rises M → Rises M' → (∀ k, getM M k = getM M' k) → M = M'
  | [], [], _, _, _ => rfl
  | [], y :: s, _, _, h => by
    have := h y.1
    rw [getM_cons, if_pos rfl] at this
    cases this
  | x :: r, [], _, _, h => by
    have := h x.1
    rw [getM_cons, if_pos rfl] at this
    cases this
  | x :: r, y :: s, h1, h2, h => by
    have p1 := List.pairwise_cons.1 h1
    have p2 := List.pairwise_cons.1 h2
    rcases before_or x.1 y.1 with hb | he | hb
    · have := h x.1
      rw [getM_cons, if_pos rfl, getM_low (M := y :: s) (k := x.1) (fun z hz => by
        rcases List.mem_cons.1 hz with rfl | hz
        · exact hb
        · exact before_trans hb (p2.1 z hz))] at this
      cases this
    · have hv := h x.1
      rw [getM_cons, if_pos rfl, getM_cons, if_pos he.symm] at hv
      have hxy : x = y := Prod.ext he (Option.some.inj hv)
      rw [hxy, rises_ext p1.2 p2.2 (fun k => ?_)]
      have hk := h k
      rw [getM_cons, getM_cons, ← he] at hk
      by_cases e : x.1 = k
      · rw [← e, getM_low p1.1, he, getM_low p2.1]
      · rw [if_neg e, if_neg e] at hk
        exact hk
    · have := h y.1
      rw [getM_cons (x := y), if_pos rfl, getM_low (M := x :: r) (k := y.1) (fun z hz => by
        rcases List.mem_cons.1 hz with rfl | hz
        · exact hb
        · exact before_trans hb (p1.1 z hz))] at this
      cases this
theorem rises_del {M : Tab α} (h : Rises M) (k : List UInt8) : Rises (delM M k) := h.filter _
theorem rises_ins {x : List UInt8 × α} : ∀ {M : Tab α}, Rises M → (∀ y ∈ M, y.1 ≠ x.1) → Rises (insM x M)
  | [], _, _ => List.pairwise_singleton _ _
  | y :: r, h, hne => by
    have p := List.pairwise_cons.1 h
    unfold insM
    split
    · rename_i hb
      refine List.pairwise_cons.2 ⟨fun z hz => ?_, h⟩
      rcases List.mem_cons.1 hz with rfl | hz
      · exact hb
      · exact before_trans hb (p.1 z hz)
    · rename_i hb
      have hyx : bytesBefore y.1 x.1 = true := by
        rcases before_or x.1 y.1 with h1 | h1 | h1
        · exact absurd h1 hb
        · exact absurd h1.symm (hne y (by simp))
        · exact h1
      refine List.pairwise_cons.2 ⟨fun z hz => ?_, rises_ins p.2 (fun z hz => hne z (List.mem_cons_of_mem _ hz))⟩
      rcases mem_ins hz with rfl | hz
      · exact hyx
      · exact p.1 z hz
theorem rises_put {M : Tab α} (h : Rises M) (k : List UInt8) (a : α) : Rises (putM M k a) := rises_ins (rises_del h k) delM_ne
end
/-- the reference's renaming leaves what the disk's does -/
theorem ren_del_put {M : Tab FileE} (hr : Rises M) {k k2 : List UInt8} {f : FileE} (hk : getM M k = some f) : putM (delM M k) k2 f = if k ≠ k2 then delM (putM M k2 f) k else M := by
  by_cases e : k = k2
  · subst e
    rw [if_neg (by simp)]
    refine rises_ext (rises_put (rises_del hr _) _ _) hr fun x => ?_
    by_cases h : x = k
    · subst h; rw [getM_put_same, hk]
    · rw [getM_put_ne _ _ h, getM_del_ne _ h]
  · rw [if_pos e]
    refine rises_ext (rises_put (rises_del hr _) _ _) (rises_del (rises_put hr _ _) _) fun x => ?_
    by_cases h : x = k
    · subst h
      rw [getM_put_ne _ _ e, getM_del_same, getM_del_same]
    · rw [getM_del_ne _ h]
      by_cases h2 : x = k2
      · subst h2; rw [getM_put_same, getM_put_same]
      · rw [getM_put_ne _ _ h2, getM_put_ne _ _ h2, getM_del_ne _ h]
/-- no text is greater than W -/
def Szs (W : Nat) (M : Tab FileE) : Prop := ∀ x ∈ M, x.1.length ≤ W ∧ x.2.1.length ≤ W ∧ x.2.2 ≤ x.2.1.length
theorem Szs.mono {W W' : Nat} {M : Tab FileE} (h : Szs W M) (hw : W ≤ W') : Szs W' M := fun x hx => ⟨Nat.le_trans (h x hx).1 hw, Nat.le_trans (h x hx).2.1 hw, (h x hx).2.2⟩
theorem Szs.file {W : Nat} {M : Tab FileE} (h : Szs W M) (k : List UInt8) : (fileOf M k).1.length ≤ W ∧ (fileOf M k).2 ≤ (fileOf M k).1.length := by
  unfold fileOf
  cases hg : getM M k with
  | none => exact ⟨Nat.zero_le _, Nat.zero_le _⟩
  | some f => exact ⟨(h _ (getM_mem hg)).2.1, (h _ (getM_mem hg)).2.2⟩
theorem Szs.put {W : Nat} {M : Tab FileE} (h : Szs W M) {k : List UInt8} (hk : k.length ≤ W) {f : FileE} (h1 : f.1.length ≤ W) (h2 : f.2 ≤ f.1.length) : Szs W (putM M k f) := fun x hx => by
  rcases mem_put hx with rfl | hx
  · exact ⟨hk, h1, h2⟩
  · exact h x hx
theorem Szs.del {W : Nat} {M : Tab FileE} (h : Szs W M) (k : List UInt8) : Szs W (delM M k) := fun x hx => h x (List.mem_filter.1 hx).1
theorem crash1_sz {x : List UInt8 × FileE} (h : x.2.2 ≤ x.2.1.length) (ps : List Int) : (crash1 x ps).1.2.1.length ≤ x.2.1.length ∧ (crash1 x ps).1.2.2 ≤ (crash1 x ps).1.2.1.length := by
  unfold crash1
  split
  · have hm := Int.emod_lt_of_pos (ps.headD 0) (show (0 : Int) < ((x.2.1.length - x.2.2 : Nat) + 1 : Int) by omega)
    have hn := Int.emod_nonneg (ps.headD 0) (show (((x.2.1.length - x.2.2 : Nat) : Int) + 1) ≠ 0 by omega)
    simp only [List.length_take]
    omega
  · exact ⟨Nat.le_refl _, Nat.le_refl _⟩
theorem Szs.crash {W : Nat} {M : Tab FileE} (h : Szs W M) (ps : List Int) : Szs W (crashP M ps).1 := by
  suffices hh : ∀ L : Tab FileE, Szs W L.reverse → Szs W (crashP L.reverse ps).1 by
    have := hh M.reverse (by simpa using h)
    simpa using this
  intro L
  induction L with
  | nil => intro _ x hx; simp [crashP] at hx
  | cons y r ih =>
    intro hs
    rw [List.reverse_cons, crashP_snoc]
    rw [List.reverse_cons] at hs
    intro x hx
    rcases List.mem_append.1 hx with hx | hx
    · exact ih (fun z hz => hs z (List.mem_append_left _ hz)) x hx
    · obtain rfl := List.mem_singleton.1 hx
      have hy := hs y (by simp)
      have := crash1_sz hy.2.2 (crashP r.reverse ps).2
      rw [crash1_key]
      exact ⟨hy.1, Nat.le_trans this.1 hy.2.1, this.2⟩
theorem crash_length (M : Tab FileE) (ps : List Int) : (crashP M ps).1.length = M.length := by
  have := congrArg List.length (crashP_keys ps M)
  simpa using this
end Go.Proofs.Ytbighckpogfcaaa
