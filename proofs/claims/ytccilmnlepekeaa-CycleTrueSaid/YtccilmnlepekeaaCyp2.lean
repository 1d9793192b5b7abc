/- When there is an order: just if there is no ring. -/
import Derived.Test.YtccilmnlepekeaaCyp1
import Derived.Test.YtccilmnlepekeaaCyc20
namespace Go.Proofs.Ytccilmnlepekeaa
open Go.RowKit
/-- what stands of an order's part -/
structure OrdI (G : List (List Int)) (out : List Nat) (th : List Bool) : Prop where
  iff : ∀ i, inT th i ↔ i ∈ out
  lt : ∀ i ∈ out, i < G.length
  nd : out.Nodup
  shut : ∀ (p i : Nat), out[p]? = some i → ∀ k, k < G.length → adj G i k = true → k ∈ out.take p
theorem may_spec {G : List (List Int)} {th : List Bool} {i : Nat} (h : mayG G th i = true) : ¬ inT th i ∧ ∀ k, k < G.length → adj G i k = true → inT th k := by
  rw [mayG, Bool.and_eq_true, Bool.not_eq_true', readyG, List.all_eq_true] at h
  refine ⟨fun e => ?_, fun k hk ha => ?_⟩
  · unfold inT at e
    have := h.1
    rw [List.getD_eq_getElem?_getD, e] at this
    cases this
  · have := h.2 k (List.mem_range.2 hk)
    rw [ha, Bool.not_true, Bool.false_or, List.getD_eq_getElem?_getD] at this
    unfold inT
    cases hx : th[k]? with
    | none => rw [hx] at this; cases this
    | some x => rw [hx] at this; simpa using this
theorem may_not {G : List (List Int)} {th : List Bool} {i : Nat} (h : mayG G th i = false) (hi : ¬ inT th i) : ∃ k, k < G.length ∧ adj G i k = true ∧ ¬ inT th k := by
  rw [mayG] at h
  have h1 : th.getD i false = false := by
    cases hx : th.getD i false with
    | false => rfl
    | true =>
      exfalso
      apply hi
      unfold inT
      rw [List.getD_eq_getElem?_getD] at hx
      cases hy : th[i]? with
      | none => rw [hy] at hx; cases hx
      | some y => rw [hy] at hx; exact congrArg some hx
  rw [h1, Bool.not_false, Bool.true_and, readyG, List.all_eq_false] at h
  obtain ⟨k, hk, hp⟩ := h
  rw [Bool.not_eq_true, Bool.or_eq_false_iff, Bool.not_eq_false'] at hp
  refine ⟨k, List.mem_range.1 hk, hp.1, fun e => ?_⟩
  unfold inT at e
  have := hp.2
  rw [List.getD_eq_getElem?_getD, e] at this
  cases this
theorem ordS_inv {G : List (List Int)} : ∀ {k : Nat} {out : List Nat} {th : List Bool}, ordS G k = some (out, th) → OrdI G out th
  | 0, out, th, h => by
    simp only [ordS, Option.some.injEq, Prod.mk.injEq] at h
    obtain ⟨rfl, rfl⟩ := h
    refine ⟨fun i => ⟨fun hi => ?_, fun hi => by simp at hi⟩, fun i hi => by simp at hi, by simp, fun p i hp => by simp at hp⟩
    unfold inT at hi
    rw [List.getElem?_replicate] at hi
    split at hi <;> simp at hi
  | k + 1, out, th, h => by
    rw [ordS] at h
    cases hk : ordS G k with
    | none => rw [hk] at h; cases h
    | some p =>
      obtain ⟨o, t⟩ := p
      rw [hk] at h
      have ih := ordS_inv hk
      have htl := (ordS_some hk).2
      simp only at h
      cases hp : pickG G t with
      | none => rw [hp] at h; cases h
      | some x =>
        rw [hp] at h
        simp only [Option.some.injEq, Prod.mk.injEq] at h
        obtain ⟨rfl, rfl⟩ := h
        have hx := pickG_lt hp
        obtain ⟨h1, h2⟩ := may_spec (List.find?_some hp)
        have hxo : ¬ x ∈ o := fun e => h1 ((ih.iff x).2 e)
        refine ⟨fun i => ?_, fun i hi => ?_, ?_, fun q i hq j hj ha => ?_⟩
        · rw [inT_set (by rw [htl]; exact hx), List.mem_append, List.mem_singleton, ih.iff i]
          exact ⟨fun h => h.elim .inr .inl, fun h => h.elim .inr .inl⟩
        · rw [List.mem_append, List.mem_singleton] at hi
          rcases hi with hi | rfl
          · exact ih.lt i hi
          · exact hx
        · rw [List.nodup_append]
          refine ⟨ih.nd, by simp, fun a ha b hb e => ?_⟩
          rw [List.mem_singleton] at hb
          subst hb
          exact hxo (e ▸ ha)
        · rcases Nat.lt_or_ge q o.length with hlt | hge
          · rw [List.getElem?_append_left hlt] at hq
            rw [List.take_append_of_le_length (by omega)]
            exact ih.shut q i hq j hj ha
          · rw [List.getElem?_append_right hge] at hq
            have hq0 : q - o.length = 0 := by
              rcases Nat.eq_zero_or_pos (q - o.length) with h | h
              · exact h
              · rw [List.getElem?_eq_none (show [x].length ≤ q - o.length from h)] at hq
                cases hq
            rw [hq0] at hq
            obtain rfl : x = i := by simpa using hq
            have hql : q = o.length := by omega
            rw [hql, List.take_left]
            exact (ih.iff j).1 (h2 j hj ha)
theorem range_sub : ∀ (N : Nat) (l : List Nat), (∀ i, i < N → i ∈ l) → N ≤ l.length
  | 0, _, _ => Nat.zero_le _
  | N + 1, l, h => by
    have hm := h N (by omega)
    have h1 := range_sub N (l.erase N) fun i hi => (List.mem_erase_of_ne (by omega)).2 (h i (by omega))
    rw [List.length_erase_of_mem hm] at h1
    have := List.length_pos_of_mem hm
    omega
/-- a whole order has each node -/
theorem ord_all {G : List (List Int)} {l : List Nat} (hl : l.length = G.length) (hn : l.Nodup) (hlt : ∀ i ∈ l, i < G.length) (i : Nat) (hi : i < G.length) : i ∈ l := by
  by_cases h : i ∈ l
  · exact h
  · have := nodup_length G.length (i :: l) (by simp [h, hn]) fun x hx => by
      rcases List.mem_cons.1 hx with rfl | hx
      · exact hi
      · exact hlt x hx
    simp at this
    omega
theorem ordG_size {G : List (List Int)} {l : List Nat} (h : ordG G = some l) : l.length = G.length := by
  rw [ordG] at h
  obtain ⟨p, h1, rfl⟩ := Option.map_eq_some_iff.1 h
  exact (ordS_some (out := p.1) (th := p.2) h1).1
theorem ordG_inv {G : List (List Int)} {l : List Nat} (h : ordG G = some l) : ∃ th, OrdI G l th := by
  rw [ordG] at h
  obtain ⟨p, h1, rfl⟩ := Option.map_eq_some_iff.1 h
  exact ⟨p.2, ordS_inv (out := p.1) (th := p.2) h1⟩
/-- along a walk the place in the order falls -/
theorem ord_walk {G : List (List Int)} {l : List Nat} {th : List Bool} (h : OrdI G l th) : ∀ (n p i k : Nat), l[p]? = some i → wk G n i k → ∃ q, l[q]? = some k ∧ q + n ≤ p
  | 0, p, i, k, hp, hw => by
    have hw : i = k := hw
    subst hw
    exact ⟨p, hp, by omega⟩
  | n + 1, p, i, k, hp, hw => by
    obtain ⟨j, h1, h2, h3⟩ := hw
    have hj := h.shut p i hp j h1 h2
    obtain ⟨q, hq⟩ := List.getElem?_of_mem hj
    have hqp : q < p := by
      have := (List.getElem?_eq_some_iff.1 hq).1
      rw [List.length_take] at this
      omega
    rw [List.getElem?_take_of_lt hqp] at hq
    obtain ⟨r, hr, hrq⟩ := ord_walk h n q j k hq h3
    exact ⟨r, hr, by omega⟩
theorem ord_noring {G : List (List Int)} {l : List Nat} (h : ordG G = some l) (i : Nat) (hi : i < G.length) : ¬ 0 < selfF G i := by
  intro h0
  obtain ⟨th, hI⟩ := ordG_inv h
  have hw := far_wk hi ((selfF G i).toNat - 1) i (show farA G i G.length i = _ by
    have : selfF G i = farA G i G.length i := rfl
    omega)
  obtain ⟨p, hp⟩ := List.getElem?_of_mem (ord_all (ordG_size h) hI.nd hI.lt i hi)
  obtain ⟨q, hq, hqp⟩ := ord_walk hI _ p i i hp hw
  obtain ⟨hp1, hp2⟩ := List.getElem?_eq_some_iff.1 hp
  obtain ⟨hq1, hq2⟩ := List.getElem?_eq_some_iff.1 hq
  have := (List.getElem_inj hI.nd (h₀ := hp1) (h₁ := hq1)).1 (by rw [hp2, hq2])
  omega
/-- where each one out leans on one that is out, there is a ring -/
theorem ring_of_out {G : List (List Int)} {X : Nat → Prop} {i0 : Nat} (h0 : X i0) (hlt : ∀ i, X i → i < G.length) (hs : ∀ i, X i → ∃ k, X k ∧ adj G i k = true) : ∃ i, i < G.length ∧ 0 < selfF G i := by
  let nx : { i // X i } → { i // X i } := fun i => ⟨Classical.choose (hs i.1 i.2), (Classical.choose_spec (hs i.1 i.2)).1⟩
  have hnx : ∀ i, adj G i.1 (nx i).1 = true := fun i => (Classical.choose_spec (hs i.1 i.2)).2
  let s : Nat → { i // X i } := fun n => Nat.rec ⟨i0, h0⟩ (fun _ x => nx x) n
  have hss : ∀ n, s (n + 1) = nx (s n) := fun n => rfl
  have hw : ∀ n m, wk G n (s m).1 (s (m + n)).1 := by
    intro n
    induction n with
    | zero => intro m; rfl
    | succ n ih =>
      intro m
      refine ⟨(s (m + 1)).1, hlt _ (s (m + 1)).2, ?_, ?_⟩
      · rw [hss]; exact hnx _
      · have := ih (m + 1)
        rwa [show m + 1 + n = m + (n + 1) by omega] at this
  by_cases hd : ∃ a b, a < b ∧ (s a).1 = (s b).1
  · obtain ⟨a, b, hab, he⟩ := hd
    have h1 := hw (b - a) a
    rw [show a + (b - a) = b by omega, ← he] at h1
    obtain ⟨m, hm⟩ : ∃ m, b - a = m + 1 := ⟨b - a - 1, by omega⟩
    rw [hm] at h1
    have := wk_far m _ h1
    refine ⟨(s a).1, hlt _ (s a).2, ?_⟩
    change 0 < farA G (s a).1 G.length (s a).1
    omega
  · exfalso
    have hnd : ((List.range (G.length + 1)).map fun n => (s n).1).Nodup := by
      rw [List.Nodup, List.pairwise_map]
      refine (range_rise (G.length + 1)).imp_of_mem fun {a b} _ _ hab e => ?_
      exact hd ⟨a, b, hab, e⟩
    have := nodup_length G.length _ hnd fun x hx => by
      obtain ⟨n, _, rfl⟩ := List.mem_map.1 hx
      exact hlt _ (s n).2
    simp at this
    omega
theorem ord_ring {G : List (List Int)} (h : ordG G = none) : ∃ i, i < G.length ∧ 0 < selfF G i := by
  have hk : ∀ k, k ≤ G.length → ordS G k = none → ∃ i, i < G.length ∧ 0 < selfF G i := by
    intro k
    induction k with
    | zero => intro _ h; cases h
    | succ k ih =>
      intro hkN hn
      cases hs : ordS G k with
      | none => exact ih (by omega) hs
      | some p =>
        obtain ⟨out, th⟩ := p
        rw [ordS, hs] at hn
        simp only at hn
        cases hp : pickG G th with
        | some x => rw [hp] at hn; cases hn
        | none =>
          have hI := ordS_inv hs
          have hol := (ordS_some hs).1
          have hno := List.find?_eq_none.1 hp
          have hex : ∃ i0, i0 < G.length ∧ ¬ i0 ∈ out := by
            by_cases hx : ∃ i0, i0 < G.length ∧ ¬ i0 ∈ out
            · exact hx
            · have := range_sub G.length out fun i hi => by
                by_cases hm : i ∈ out
                · exact hm
                · exact absurd ⟨i, hi, hm⟩ hx
              omega
          obtain ⟨i0, h1, h2⟩ := hex
          refine ring_of_out (X := fun i => i < G.length ∧ ¬ i ∈ out) ⟨h1, h2⟩ (fun i hi => hi.1) fun i hi => ?_
          have hm := hno i (List.mem_range.2 hi.1)
          rw [Bool.not_eq_true] at hm
          obtain ⟨k, hk1, hk2, hk3⟩ := may_not hm (fun e => hi.2 ((hI.iff i).1 e))
          exact ⟨k, ⟨hk1, fun e => hk3 ((hI.iff k).2 e)⟩, hk2⟩
  refine hk G.length (Nat.le_refl _) ?_
  rw [ordG] at h
  exact Option.map_eq_none_iff.1 h
/-- the least ring's node -/
theorem ringS_min (G : List (List Int)) : ∀ i, (ringS G i = (-1, 0) ∧ ∀ j, j < i → ¬ 0 < selfF G j) ∨ ∃ b : Nat, b < i ∧ ringS G i = ((b : Int), selfF G b) ∧ 1 ≤ selfF G b ∧ ∀ j, j < i → 0 < selfF G j → selfF G b ≤ selfF G j ∧ (selfF G j = selfF G b → b ≤ j)
  | 0 => .inl ⟨rfl, fun j hj => by omega⟩
  | i + 1 => by
    rw [ringS, ringStep]
    rcases ringS_min G i with ⟨h1, h2⟩ | ⟨b, h0, h1, h2, h3⟩
    · rw [h1]
      by_cases hp : 0 < selfF G i
      · rw [if_pos ⟨hp, .inl (by decide)⟩]
        refine .inr ⟨i, by omega, rfl, by omega, fun j hj hpj => ?_⟩
        by_cases hji : j = i
        · subst hji; exact ⟨Int.le_refl _, fun _ => Nat.le_refl _⟩
        · exact absurd hpj (h2 j (by omega))
      · rw [if_neg (fun h => hp h.1)]
        refine .inl ⟨rfl, fun j hj => ?_⟩
        by_cases hji : j = i
        · subst hji; exact hp
        · exact h2 j (by omega)
    · rw [h1]
      by_cases hp : 0 < selfF G i ∧ selfF G i < selfF G b
      · rw [if_pos ⟨hp.1, .inr hp.2⟩]
        refine .inr ⟨i, by omega, rfl, by omega, fun j hj hpj => ?_⟩
        by_cases hji : j = i
        · subst hji; exact ⟨Int.le_refl _, fun _ => Nat.le_refl _⟩
        · have := (h3 j (by omega) hpj).1
          exact ⟨by omega, fun e => by omega⟩
      · rw [if_neg (fun h => hp ⟨h.1, by have := h.2; simp only at this; omega⟩)]
        refine .inr ⟨b, by omega, rfl, h2, fun j hj hpj => ?_⟩
        by_cases hji : j = i
        · subst hji
          exact ⟨by omega, fun _ => by omega⟩
        · exact h3 j (by omega) hpj
theorem ringL_nil (G : List (List Int)) : ringL G = [] ↔ ∀ i, i < G.length → ¬ 0 < selfF G i := by
  rw [ringL]
  rcases ringS_min G G.length with ⟨h1, h2⟩ | ⟨b, h0, h1, h2, h3⟩
  · rw [h1, if_pos (by decide)]
    exact ⟨fun _ => h2, fun _ => rfl⟩
  · rw [h1, if_neg (by simp), Int.toNat_natCast]
    constructor
    · intro h
      have := walkL_self h2
      rw [h] at this
      simp at this
      omega
    · intro h
      exact absurd (by omega) (h b h0)
/-- order or ring -/
theorem ord_or_ring (G : List (List Int)) : (∃ l, ordG G = some l ∧ ringL G = []) ∨ (ordG G = none ∧ ringL G ≠ []) := by
  cases h : ordG G with
  | some l => exact .inl ⟨l, rfl, (ringL_nil G).2 fun i hi => ord_noring h i hi⟩
  | none =>
    refine .inr ⟨rfl, fun e => ?_⟩
    obtain ⟨i, h1, h2⟩ := ord_ring h
    exact (ringL_nil G).1 e i h1 h2
theorem ord_turn (G : List (List Int)) : (ordG G).isSome = (ordG (turnG G)).isSome := by
  have hl := ringL_turn G
  rcases ord_or_ring G with ⟨l, h1, h2⟩ | ⟨h1, h2⟩ <;> rcases ord_or_ring (turnG G) with ⟨m, h3, h4⟩ | ⟨h3, h4⟩
  · rw [h1, h3]; rfl
  · rw [h2] at hl
    exact absurd (List.eq_nil_of_length_eq_zero hl) h4
  · rw [h4] at hl
    exact absurd (List.eq_nil_of_length_eq_zero hl.symm) h2
  · rw [h1, h3]
end Go.Proofs.Ytccilmnlepekeaa
