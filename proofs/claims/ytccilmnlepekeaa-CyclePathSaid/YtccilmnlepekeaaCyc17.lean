/- Distances by walks; the program's ring in plain is the reference's. -/
import Derived.Test.YtccilmnlepekeaaCyc16
import Derived.Test.YtccilmnlepekeaaCyr2
namespace Go.Proofs.Ytccilmnlepekeaa
open Go.RowKit
/-- a value stands from its own level on -/
theorem farA_at {G : List (List Int)} {to i v : Nat} : ∀ n, farA G to n i = (v : Int) + 1 → farA G to (v + 1) i = (v : Int) + 1
  | 0, h => by rw [farA_zero] at h; omega
  | n + 1, h => by
    rcases farA_new G to n i with e | e
    · exact farA_at n (e ▸ h)
    · have : n = v := by omega
      subst this
      exact h
theorem farA_top (G : List (List Int)) (to i : Nat) : ∀ m, farA G to (G.length + m) i = farA G to G.length i
  | 0 => rfl
  | m + 1 => by
    rw [← Nat.add_assoc]
    rcases farA_new G to (G.length + m) i with e | e
    · rw [e, farA_top G to i m]
    · have := farA_le G to (G.length + m + 1) i
      omega
theorem far_edge {G : List (List Int)} {to i k v : Nat} (hk : k < G.length) (ha : adj G i k = true) (h : farA G to G.length k = (v : Int) + 1) : 1 ≤ farA G to G.length i ∧ farA G to G.length i ≤ (v : Int) + 2 := by
  have hi := adj_lt ha
  have h1 := farA_at _ h
  have h2 := farA_succ G to (v + 1) i hi
  rw [if_neg (show ¬ v + 1 = 0 by omega)] at h2
  have hb := farA_bound G to (v + 1) i
  have h3 : 1 ≤ farA G to (v + 1 + 1) i ∧ farA G to (v + 1 + 1) i ≤ (v : Int) + 2 := by
    by_cases hp : 0 < farA G to (v + 1) i
    · rw [if_pos hp] at h2
      omega
    · rw [if_neg hp, if_pos ⟨k, hk, by omega, ha⟩] at h2
      omega
  have h4 := farA_le G to G.length k
  rw [h] at h4
  rcases Nat.lt_or_ge G.length (v + 2) with hlt | hge
  · have e : v + 1 + 1 = G.length + 1 := by omega
    rw [e] at h3
    have := farA_top G to i 1
    rw [this] at h3
    exact h3
  · have := farA_keeps G to (v + 1 + 1) i (by omega) (G.length - (v + 2))
    rw [show v + 1 + 1 + (G.length - (v + 2)) = G.length by omega] at this
    rw [this]
    exact h3
theorem adj_in {G : List (List Int)} {i k : Nat} : k ∈ leans G i ↔ k < G.length ∧ adj G i k = true := by
  rw [leans, List.mem_filter, List.mem_range]
/-- from a node that leans on one that is reached -/
theorem self_edge {G : List (List Int)} {i k v : Nat} (h : k ∈ leans G i) (hv : dst G i k = (v : Int)) : 1 ≤ selfF G i ∧ selfF G i ≤ (v : Int) + 1 := by
  obtain ⟨hk, ha⟩ := adj_in.1 h
  have hi := adj_lt ha
  by_cases he : k = i
  · subst he
    have h1 := farA_one hk ha G.length (by omega)
    change farA G k G.length k = 1 at h1
    change 1 ≤ farA G k G.length k ∧ farA G k G.length k ≤ _
    have := (dst_zero (G := G) (to := k) (n := G.length) (k := k)).2 rfl
    rw [dst] at hv
    omega
  · rw [dst, dstA, if_neg he] at hv
    split at hv
    · omega
    · rename_i h0
      have hb := farA_bound G i G.length k
      obtain ⟨u, hu⟩ : ∃ u, v = u + 1 := ⟨v - 1, by omega⟩
      subst hu
      have := far_edge (to := i) hk ha (v := u) (by omega)
      change 1 ≤ farA G i G.length i ∧ farA G i G.length i ≤ _
      omega
/-- the ring through a node goes on by the first one that is nearest -/
theorem ring_step {G : List (List Int)} {i m : Nat} (h : selfF G i = (m : Int) + 1) : ∃ k, (leans G i).find? (fun k => dst G i k == (m : Int)) = some k ∧ walkL G i i = i :: (wayL G k i).dropLast := by
  have hi : i < G.length := by
    rcases Nat.lt_or_ge i G.length with hi | hi
    · exact hi
    · have : selfF G i = 0 := farA_out (by omega)
      omega
  have hF : farA G i G.length i = (m : Int) + 1 := h
  cases m with
  | zero =>
    have hadj := farA_one_adj _ hF
    have hf : ∃ k, (leans G i).find? (fun k => dst G i k == ((0 : Nat) : Int)) = some k := by
      cases hf : (leans G i).find? (fun k => dst G i k == ((0 : Nat) : Int)) with
      | some k => exact ⟨k, rfl⟩
      | none =>
        have := List.find?_eq_none.1 hf i (adj_in.2 ⟨hi, hadj⟩)
        rw [dst, dst_zero.2 rfl] at this
        simp at this
    obtain ⟨k, hk⟩ := hf
    have h2 := List.find?_some hk
    rw [beq_iff_eq] at h2
    have hki : k = i := dst_zero.1 h2
    refine ⟨k, hk, ?_⟩
    have hF1 : (farN G i G.length).getD i 0 = 1 := hF
    rw [hki, wayL_self, walkL, hF1]
    rfl
  | succ m =>
    have hF2 : (farN G i G.length).getD i 0 = (m : Int) + 2 := by
      have : (farN G i G.length).getD i 0 = _ := hF
      rw [this]
      omega
    obtain ⟨k, h1, h2, h3⟩ := nextG_some hF2
    have hna : ∀ j, adj G i j = true → j ≠ i := fun j hj e => by
      subst e
      have := farA_one hi hj G.length (by omega)
      omega
    have hpe : ∀ j, (adj G i j && dst G i j == ((m + 1 : Nat) : Int)) = (adj G i j && (farN G i G.length).getD j 0 == (m : Int) + 1) := fun j => by
      cases hj : adj G i j with
      | false => rfl
      | true =>
        have hjt := hna j hj
        rw [Bool.true_and, Bool.true_and, Bool.eq_iff_iff, beq_iff_eq, beq_iff_eq]
        have e : farA G i G.length j = (farN G i G.length).getD j 0 := rfl
        rw [← e, dst, dstA, if_neg hjt]
        split
        · rename_i h0; omega
        · omega
    have hfk : (leans G i).find? (fun j => dst G i j == ((m + 1 : Nat) : Int)) = some k := by
      rw [leans_find, ← h1, nextG]
      exact find_congr fun j _ => hpe j
    have hkm := List.mem_of_find?_eq_some hfk
    have hki := hna k (adj_in.1 hkm).2
    refine ⟨k, hfk, ?_⟩
    rw [wayL, if_neg hki, List.dropLast_concat, walkL, walkL, hF2, h3, show ((m : Int) + 2).toNat - 1 = m + 1 by omega, show ((m : Int) + 1).toNat - 1 = m by omega, walkS, h1]
/-- the program's step: a ring by a node and one that it leans on -/
def ringC (G : List (List Int)) (i : Nat) (best : List Nat) (k : Nat) : List Nat := if dst G i k < 0 ∨ (0 < best.length ∧ (best.length : Int) ≤ dst G i k + 1) then best else i :: (wayL G k i).dropLast
def ringR (G : List (List Int)) (i : Nat) (best : List Nat) (q : Nat) : List Nat := ((leans G i).take q).foldl (ringC G i) best
def ringP (G : List (List Int)) : Nat → List Nat
  | 0 => []
  | i + 1 => ringR G i (ringP G i) (leans G i).length
theorem ringR_zero (G : List (List Int)) (i : Nat) (best : List Nat) : ringR G i best 0 = best := rfl
theorem ringR_next {G : List (List Int)} {i : Nat} {best : List Nat} {q k : Nat} (h : (leans G i)[q]? = some k) : ringR G i best (q + 1) = ringC G i (ringR G i best q) k := by
  rw [ringR, take_succ_some h, List.foldl_append]
  rfl
theorem ring_len {G : List (List Int)} {i k v : Nat} (hv : dst G i k = (v : Int)) : (i :: (wayL G k i).dropLast).length = v + 1 := by
  rw [List.length_cons, List.length_dropLast, wayL_length hv]
  omega
/-- what a row's part has made of the best -/
structure RowB (G : List (List Int)) (i : Nat) (best : List Nat) (q : Nat) (r : List Nat) : Prop where
  or : (r = best ∧ ∀ k ∈ (leans G i).take q, dst G i k < 0 ∨ (0 < best.length ∧ (best.length : Int) ≤ dst G i k + 1)) ∨
    ∃ k v : Nat, r = i :: (wayL G k i).dropLast ∧ dst G i k = (v : Int) ∧ (best.length = 0 ∨ v + 1 < best.length) ∧ (∀ j ∈ (leans G i).take q, dst G i j < 0 ∨ (v : Int) ≤ dst G i j) ∧ ((leans G i).take q).find? (fun j => dst G i j == (v : Int)) = some k
theorem rowB (G : List (List Int)) (i : Nat) (best : List Nat) : ∀ q, q ≤ (leans G i).length → RowB G i best q (ringR G i best q)
  | 0, _ => ⟨.inl ⟨rfl, by simp⟩⟩
  | q + 1, hq => by
    obtain ⟨k, hk⟩ : ∃ k, (leans G i)[q]? = some k := ⟨_, List.getElem?_eq_getElem (by omega)⟩
    have hts := take_succ_some hk
    rw [ringR_next hk]
    obtain ⟨ih⟩ := rowB G i best q (by omega)
    have hlast : ∀ {p : Nat → Prop}, (∀ j ∈ (leans G i).take q, p j) → p k → ∀ j ∈ (leans G i).take (q + 1), p j := fun {p} h1 h2 j hj => by
      rw [hts, List.mem_append, List.mem_singleton] at hj
      rcases hj with hj | rfl
      · exact h1 j hj
      · exact h2
    rcases ih with ⟨h1, h2⟩ | ⟨k0, v, h1, h2, h3, h4, h5⟩
    · rw [h1, ringC]
      split
      · rename_i hc
        exact ⟨.inl ⟨rfl, hlast h2 hc⟩⟩
      · rename_i hc
        obtain ⟨v, hv⟩ : ∃ v : Nat, dst G i k = v := ⟨(dst G i k).toNat, by omega⟩
        refine ⟨.inr ⟨k, v, rfl, hv, by omega, hlast (fun j hj => ?_) (by omega), ?_⟩⟩
        · rcases h2 j hj with h | h
          · exact .inl h
          · omega
        · rw [hts, List.find?_append, List.find?_eq_none.2]
          · simp [hv]
          · intro j hj
            rw [beq_iff_eq]
            rcases h2 j hj with h | h <;> omega
    · have hl : (ringR G i best q).length = v + 1 := by rw [h1]; exact ring_len h2
      rw [ringC]
      split
      · rename_i hc
        refine ⟨.inr ⟨k0, v, h1, h2, h3, hlast h4 (by omega), ?_⟩⟩
        rw [hts, List.find?_append, h5]
        rfl
      · rename_i hc
        obtain ⟨u, hu⟩ : ∃ u : Nat, dst G i k = u := ⟨(dst G i k).toNat, by omega⟩
        refine ⟨.inr ⟨k, u, rfl, hu, by omega, hlast (fun j hj => ?_) (by omega), ?_⟩⟩
        · rcases h4 j hj with h | h
          · exact .inl h
          · omega
        · rw [hts, List.find?_append, List.find?_eq_none.2]
          · simp [hu]
          · intro j hj
            rw [beq_iff_eq]
            rcases h4 j hj with h | h <;> omega
/-- a whole row: the ring through its node, if that is shorter -/
theorem ring_row (G : List (List Int)) (i : Nat) (best : List Nat) : ringR G i best (leans G i).length = if 0 < selfF G i ∧ (best.length = 0 ∨ selfF G i < best.length) then walkL G i i else best := by
  obtain ⟨h⟩ := rowB G i best _ (Nat.le_refl _)
  rw [List.take_length] at h
  have hsb := selfF_bound G i
  have hst : ∀ m : Nat, selfF G i = (m : Int) + 1 → ∃ k, k ∈ leans G i ∧ dst G i k = m := fun m hm => by
    obtain ⟨k, h1, _⟩ := ring_step hm
    have := List.find?_some h1
    rw [beq_iff_eq] at this
    exact ⟨k, List.mem_of_find?_eq_some h1, this⟩
  rcases h with ⟨h1, h2⟩ | ⟨k, v, h1, h2, h3, h4, h5⟩
  · rw [h1, if_neg]
    rintro ⟨ha, hb⟩
    obtain ⟨k, hk1, hk2⟩ := hst ((selfF G i).toNat - 1) (by omega)
    rcases h2 k hk1 with h | h <;> omega
  · have hkm := List.mem_of_find?_eq_some h5
    have he := self_edge hkm h2
    obtain ⟨k', hk1, hk2⟩ := hst ((selfF G i).toNat - 1) (by omega)
    have hsv : selfF G i = (v : Int) + 1 := by rcases h4 k' hk1 with h | h <;> omega
    obtain ⟨k2, h6, h7⟩ := ring_step hsv
    rw [h5] at h6
    cases h6
    rw [h1, if_pos (by omega), h7]
theorem walkL_self {G : List (List Int)} {i : Nat} (h : 1 ≤ selfF G i) : ((walkL G i i).length : Int) = selfF G i := by
  obtain ⟨m, hm⟩ : ∃ m : Nat, selfF G i = (m : Int) + 1 := ⟨(selfF G i).toNat - 1, by omega⟩
  have hm' : (farN G i G.length).getD i 0 = (m : Int) + 1 := hm
  rw [walkL, hm', show ((m : Int) + 1).toNat - 1 = m by omega, walkS_length G i m i hm', hm]
  omega
theorem ringP_at (G : List (List Int)) : ∀ i, (ringS G i = (-1, 0) ∧ ringP G i = []) ∨ ∃ b : Nat, b < i ∧ ringS G i = ((b : Int), selfF G b) ∧ 1 ≤ selfF G b ∧ ringP G i = walkL G b b
  | 0 => .inl ⟨rfl, rfl⟩
  | i + 1 => by
    rw [ringP, ring_row, ringS, ringStep]
    rcases ringP_at G i with ⟨h1, h2⟩ | ⟨b, h0, h1, h2, h3⟩
    · rw [h1, h2]
      by_cases hp : 0 < selfF G i
      · rw [if_pos ⟨hp, .inl (by decide)⟩, if_pos ⟨hp, .inl rfl⟩]
        exact .inr ⟨i, by omega, rfl, by omega, rfl⟩
      · rw [if_neg (fun h => hp h.1), if_neg (fun h => hp h.1)]
        exact .inl ⟨rfl, rfl⟩
    · rw [h1, h3]
      have hl := walkL_self h2
      by_cases hp : 0 < selfF G i ∧ selfF G i < selfF G b
      · rw [if_pos ⟨hp.1, .inr hp.2⟩, if_pos ⟨hp.1, .inr (by omega)⟩]
        exact .inr ⟨i, by omega, rfl, by omega, rfl⟩
      · rw [if_neg (fun h => hp ⟨h.1, by simp only at h; omega⟩), if_neg (fun h => hp ⟨h.1, by omega⟩)]
        exact .inr ⟨b, by omega, rfl, h2, rfl⟩
theorem ringP_all (G : List (List Int)) : ringP G G.length = ringL G := by
  rw [ringL]
  rcases ringP_at G G.length with ⟨h1, h2⟩ | ⟨b, h0, h1, h2, h3⟩
  · rw [h1, h2, if_pos (by decide)]
  · rw [h1, h3, if_neg (by simp), Int.toNat_natCast]
theorem ringP_len (G : List (List Int)) (i : Nat) (h : i ≤ G.length) : (ringP G i).length ≤ G.length := by
  rcases ringP_at G i with ⟨_, h2⟩ | ⟨b, h0, _, h2, h3⟩
  · rw [h2]; simp
  · rw [h3]
    exact walkL_len (i := b) (to := b) h2
/-- the path in plain, by the program's table -/
theorem pathN_way {G : List (List Int)} {i to : Nat} : pathN G i to = if dst G to i < 0 then [] else wayL G i to := by
  rw [pathN, wayL]
  by_cases h : i = to
  · rw [if_pos h, if_pos h, if_neg (by have := (dst_zero (G := G) (to := to) (n := G.length) (k := i)).2 h; rw [dst]; omega), h]
  · rw [if_neg h, if_neg h, dst, dstA, if_neg h]
    change (if farA G to G.length i = 0 then _ else _) = _
    by_cases h0 : farA G to G.length i = 0
    · rw [if_pos h0, if_pos h0, if_pos (by decide)]
    · have := farA_bound G to G.length i
      rw [if_neg h0, if_neg h0, if_neg (by omega)]
end Go.Proofs.Ytccilmnlepekeaa
