/- The plain law of distances: the reference's table as a search by levels. -/
import Derived.Test.YtccilmnlepekeaaCyc10
namespace Go.Proofs.Ytccilmnlepekeaa
open Go.RowKit
theorem nodup_length : ∀ (N : Nat) (l : List Nat), l.Nodup → (∀ x ∈ l, x < N) → l.length ≤ N
  | 0, [], _, _ => Nat.le_refl _
  | 0, a :: l, _, h => by have := h a (by simp); omega
  | N + 1, l, hn, h => by
    by_cases hm : N ∈ l
    · have h1 := nodup_length N (l.erase N) (hn.erase N) fun x hx => by
        have h2 := h x (List.mem_of_mem_erase hx)
        have h3 : x ≠ N := fun e => by
          subst e
          exact absurd hx (by rw [hn.mem_erase_iff]; simp)
        omega
      rw [List.length_erase_of_mem hm] at h1
      omega
    · have := nodup_length N l hn fun x hx => by
        have h2 := h x hx
        have h3 : x ≠ N := fun e => hm (e ▸ hx)
        omega
      omega
def farA (G : List (List Int)) (to n i : Nat) : Int := (farN G to n).getD i 0
theorem farA_bound (G : List (List Int)) (to n i : Nat) : 0 ≤ farA G to n i ∧ farA G to n i ≤ n := farN_bound G to n i
theorem farA_out {G : List (List Int)} {to n i : Nat} (h : ¬ i < G.length) : farA G to n i = 0 := by
  rw [farA, List.getD_eq_getElem?_getD, List.getElem?_eq_none (by rw [farN_length]; omega)]
  rfl
theorem farA_zero (G : List (List Int)) (to i : Nat) : farA G to 0 i = 0 := by
  have := farA_bound G to 0 i
  omega
theorem farA_succ (G : List (List Int)) (to n i : Nat) (h : i < G.length) :
    farA G to (n + 1) i = if 0 < farA G to n i then farA G to n i else if n = 0 then (if adj G i to = true then 1 else 0) else if (∃ k, k < G.length ∧ farA G to n k = n ∧ adj G i k = true) then ((n : Int) + 1) else 0 := by
  have h0 := farA_bound G to n i
  rw [farA, farN, farStep_get h, farV]
  change (if 0 < farA G to n i then farA G to n i else _) = _
  by_cases hp : 0 < farA G to n i
  · rw [if_pos hp, if_pos hp]
  · rw [if_neg hp, if_neg hp]
    have hz : (farN G to n).getD i 0 = 0 := by
      have : farA G to n i = 0 := by omega
      exact this
    rw [hz]
    by_cases hn : n = 0
    · rw [if_pos (by omega), if_pos hn]
    · rw [if_neg (by omega), if_neg hn]
      by_cases he : ∃ k, k < G.length ∧ farA G to n k = n ∧ adj G i k = true
      · rw [if_pos he]
        obtain ⟨k, h1, h2, h3⟩ := he
        rw [if_pos]
        · omega
        · refine List.any_eq_true.2 ⟨k, List.mem_range.2 h1, ?_⟩
          rw [Bool.and_eq_true, beq_iff_eq]
          refine ⟨?_, h3⟩
          have : (farN G to n).getD k 0 = n := h2
          rw [this]
          omega
      · rw [if_neg he, if_neg]
        intro ht
        obtain ⟨k, h1, h2⟩ := List.any_eq_true.1 ht
        rw [Bool.and_eq_true, beq_iff_eq] at h2
        refine he ⟨k, List.mem_range.1 h1, ?_, h2.2⟩
        have : (farN G to n).getD k 0 = ((n + 1 : Nat) : Int) - 1 := h2.1
        rw [farA, this]
        omega
theorem farA_keep (G : List (List Int)) (to n i : Nat) (h : 0 < farA G to n i) : farA G to (n + 1) i = farA G to n i := by
  by_cases hi : i < G.length
  · rw [farA_succ G to n i hi, if_pos h]
  · rw [farA_out hi] at h
    omega
theorem farA_keeps (G : List (List Int)) (to n i : Nat) (h : 0 < farA G to n i) : ∀ m, farA G to (n + m) i = farA G to n i
  | 0 => rfl
  | m + 1 => by
    have ih := farA_keeps G to n i h m
    rw [← Nat.add_assoc, farA_keep G to (n + m) i (by omega), ih]
theorem farA_one {G : List (List Int)} {to i : Nat} (hi : i < G.length) (h : adj G i to = true) (n : Nat) (hn : 1 ≤ n) : farA G to n i = 1 := by
  have h1 : farA G to 1 i = 1 := by
    rw [farA_succ G to 0 i hi, farA_zero]
    simp [h]
  have := farA_keeps G to 1 i (by omega) (n - 1)
  rw [show 1 + (n - 1) = n by omega] at this
  rw [this, h1]
/-- a value is that of a step ahead, or new -/
theorem farA_new (G : List (List Int)) (to n i : Nat) : farA G to (n + 1) i = farA G to n i ∨ farA G to (n + 1) i = (n : Int) + 1 := by
  by_cases hi : i < G.length
  · rw [farA_succ G to n i hi]
    have := farA_bound G to n i
    split
    · exact .inl rfl
    · split
      · split
        · right; omega
        · left; omega
      · split
        · exact .inr rfl
        · left; omega
  · rw [farA_out hi, farA_out hi]
    exact .inl rfl
theorem farA_back {G : List (List Int)} {to n i : Nat} (h : 2 ≤ farA G to n i) : ∃ k, k < G.length ∧ adj G i k = true ∧ farA G to n k = farA G to n i - 1 := far_back G to n i h
theorem farA_chain (G : List (List Int)) (to n : Nat) : ∀ (v i : Nat), farA G to n i = (v : Int) + 1 → ∀ u, u ≤ v → ∃ k, k < G.length ∧ farA G to n k = (u : Int) + 1
  | v, i, h, u, hu => by
    by_cases hi : i < G.length
    · rcases Nat.lt_or_ge u v with hlt | hge
      · obtain ⟨w, rfl⟩ : ∃ w, v = w + 1 := ⟨v - 1, by omega⟩
        obtain ⟨k, h1, h2, h3⟩ := farA_back (G := G) (to := to) (n := n) (i := i) (by omega)
        exact farA_chain G to n w k (by omega) u (by omega)
      · exact ⟨i, hi, by rw [h]; omega⟩
    · rw [farA_out hi] at h
      omega
theorem farA_le (G : List (List Int)) (to n i : Nat) : farA G to n i ≤ G.length := by
  rcases Int.lt_or_le 0 (farA G to n i) with hp | hz
  · obtain ⟨v, hv⟩ : ∃ v : Nat, farA G to n i = (v : Int) + 1 := ⟨(farA G to n i - 1).toNat, by omega⟩
    have hc := farA_chain G to n v i hv
    let f : Nat → Nat := fun u => if h : u ≤ v then Classical.choose (hc u h) else 0
    have hf : ∀ u, u ≤ v → f u < G.length ∧ farA G to n (f u) = (u : Int) + 1 := fun u h => by
      have := Classical.choose_spec (hc u h)
      simp only [f, dif_pos h]
      exact this
    have hnd : ((List.range (v + 1)).map f).Nodup := by
      rw [List.Nodup, List.pairwise_map]
      refine (range_rise (v + 1)).imp_of_mem fun {a b} ha hb hab e => ?_
      rw [List.mem_range] at ha hb
      have h1 := (hf a (by omega)).2
      have h2 := (hf b (by omega)).2
      rw [e] at h1
      omega
    have := nodup_length G.length _ hnd fun x hx => by
      obtain ⟨u, hu, rfl⟩ := List.mem_map.1 hx
      exact (hf u (by rw [List.mem_range] at hu; omega)).1
    rw [List.length_map, List.length_range] at this
    omega
  · omega
/-- how far it is, by so many steps; -1: no way is known -/
def dstA (G : List (List Int)) (to n i : Nat) : Int := if i = to then 0 else if farA G to n i = 0 then -1 else farA G to n i
def dst (G : List (List Int)) (to i : Nat) : Int := dstA G to G.length i
def dstL (G : List (List Int)) (to n : Nat) : List Int := (List.range G.length).map (dstA G to n)
/-- those at a level -/
def Lev (G : List (List Int)) (to n : Nat) (row : List Nat) : Prop := row.Nodup ∧ ∀ k, k ∈ row ↔ k < G.length ∧ dstA G to n k = n
theorem Lev.zero {G : List (List Int)} {to : Nat} (h : to < G.length) : Lev G to 0 [to] := by
  refine ⟨by simp, fun k => ?_⟩
  rw [List.mem_singleton, dstA]
  constructor
  · rintro rfl
    exact ⟨h, by simp⟩
  · rintro ⟨_, h2⟩
    by_cases hk : k = to
    · exact hk
    · rw [if_neg hk, farA_zero] at h2
      simp at h2
theorem Lev.length {G : List (List Int)} {to n : Nat} {row : List Nat} (h : Lev G to n row) : row.length ≤ G.length := nodup_length _ _ h.1 fun x hx => ((h.2 x).1 hx).1
/-- what stands in the table while a level's ways are gone -/
def updL (G : List (List Int)) (to n : Nat) (next : List Nat) : List Int := (List.range G.length).map fun k => if next.contains k = true then (n : Int) + 1 else dstA G to n k
theorem updL_nil (G : List (List Int)) (to n : Nat) : updL G to n [] = dstL G to n := by
  unfold updL dstL
  apply List.map_congr_left
  intro k _
  rw [if_neg (by simp)]
theorem updL_length (G : List (List Int)) (to n : Nat) (next : List Nat) : (updL G to n next).length = G.length := by simp [updL]
theorem updL_get {G : List (List Int)} {to n : Nat} {next : List Nat} {k : Nat} (h : k < G.length) : (updL G to n next)[k]? = some (if next.contains k = true then (n : Int) + 1 else dstA G to n k) := by
  rw [updL, List.getElem?_map, List.getElem?_range h]
  rfl
theorem updL_set {G : List (List Int)} {to n : Nat} {next : List Nat} {k : Nat} (h : k < G.length) : (updL G to n next).set k ((n : Int) + 1) = updL G to n (next ++ [k]) := by
  apply List.ext_getElem?
  intro j
  by_cases hj : k = j
  · subst hj
    rw [List.getElem?_set_self (by rw [updL_length]; exact h), updL_get h, if_pos (by simp)]
  · rw [List.getElem?_set_ne hj]
    by_cases hjN : j < G.length
    · rw [updL_get hjN, updL_get hjN]
      have : (next ++ [k]).contains j = next.contains j := by
        have : ¬ j = k := fun e => hj e.symm
        simp [this]
      rw [this]
    · rw [List.getElem?_eq_none (by rw [updL_length]; omega), List.getElem?_eq_none (by rw [updL_length]; omega)]
/-- those that were met so far at this level -/
structure Met (G : List (List Int)) (to n : Nat) (seen : List Nat) (next : List Nat) : Prop where
  nd : next.Nodup
  iff : ∀ k, k ∈ next ↔ k < G.length ∧ dstA G to n k < 0 ∧ k ∈ seen
theorem Met.start (G : List (List Int)) (to n : Nat) : Met G to n [] [] := ⟨by simp, fun k => by simp⟩
theorem Met.add {G : List (List Int)} {to n : Nat} {seen next : List Nat} {k : Nat} (h : Met G to n seen next) (hk : k < G.length) (hd : dstA G to n k < 0) (hn : ¬ k ∈ next) : Met G to n (seen ++ [k]) (next ++ [k]) := by
  refine ⟨?_, fun j => ?_⟩
  · rw [List.nodup_append]
    refine ⟨h.nd, by simp, fun a ha b hb e => ?_⟩
    rw [List.mem_singleton] at hb
    subst hb
    exact hn (e ▸ ha)
  · rw [List.mem_append, List.mem_append, h.iff j, List.mem_singleton]
    constructor
    · rintro (⟨h1, h2, h3⟩ | rfl)
      · exact ⟨h1, h2, .inl h3⟩
      · exact ⟨hk, hd, .inr rfl⟩
    · rintro ⟨h1, h2, h3 | rfl⟩
      · exact .inl ⟨h1, h2, h3⟩
      · exact .inr rfl
theorem Met.skip {G : List (List Int)} {to n : Nat} {seen next : List Nat} {k : Nat} (h : Met G to n seen next) (hd : 0 ≤ dstA G to n k ∨ k ∈ next) : Met G to n (seen ++ [k]) next := by
  refine ⟨h.nd, fun j => ?_⟩
  rw [List.mem_append, h.iff j, List.mem_singleton]
  constructor
  · rintro ⟨h1, h2, h3⟩
    exact ⟨h1, h2, .inl h3⟩
  · rintro ⟨h1, h2, h3 | rfl⟩
    · exact ⟨h1, h2, h3⟩
    · rcases hd with hd | hd
      · omega
      · exact (h.iff j).1 hd
theorem Met.length {G : List (List Int)} {to n : Nat} {seen next : List Nat} (h : Met G to n seen next) : next.length ≤ G.length := nodup_length _ _ h.nd fun x hx => ((h.iff x).1 hx).1
theorem dstA_neg {G : List (List Int)} {to n k : Nat} : dstA G to n k < 0 ↔ k ≠ to ∧ farA G to n k = 0 := by
  have := farA_bound G to n k
  rw [dstA]
  by_cases h1 : k = to
  · rw [if_pos h1]; simp [h1]
  · rw [if_neg h1]
    by_cases h2 : farA G to n k = 0
    · rw [if_pos h2]; simp [h1, h2]
    · rw [if_neg h2]; simp [h2]; omega
theorem lev_mem {G : List (List Int)} {to n k : Nat} (hn : 1 ≤ n) : dstA G to n k = n ↔ k ≠ to ∧ farA G to n k = n := by
  rw [dstA]
  by_cases h1 : k = to
  · rw [if_pos h1]; simp [h1]; omega
  · rw [if_neg h1]
    by_cases h2 : farA G to n k = 0
    · rw [if_pos h2]
      constructor
      · intro h; omega
      · rintro ⟨_, h⟩; omega
    · rw [if_neg h2]; simp [h1]
/-- the step from a level to the next one -/
theorem far_step {G : List (List Int)} {to n : Nat} {row : List Nat} (hto : to < G.length) (h : Lev G to n row) {k : Nat} (hk : k < G.length) (hd : dstA G to n k < 0) :
    farA G to (n + 1) k = if ∃ i, i ∈ row ∧ adj G k i = true then (n : Int) + 1 else 0 := by
  obtain ⟨hkt, hf⟩ := dstA_neg.1 hd
  rw [farA_succ G to n k hk, if_neg (by omega)]
  by_cases hn : n = 0
  · subst hn
    rw [if_pos rfl]
    have hrow : ∀ i, i ∈ row ↔ i = to := fun i => by
      rw [h.2 i]
      constructor
      · rintro ⟨_, h2⟩
        rw [dstA, farA_zero] at h2
        by_cases hi : i = to
        · exact hi
        · rw [if_neg hi, if_pos rfl] at h2
          simp at h2
      · rintro rfl
        exact ⟨hto, by simp [dstA]⟩
    by_cases ha : adj G k to = true
    · rw [if_pos ha, if_pos ⟨to, (hrow to).2 rfl, ha⟩]; rfl
    · rw [if_neg ha, if_neg]
      rintro ⟨i, hi, hi2⟩
      rw [(hrow i).1 hi] at hi2
      exact ha hi2
  · rw [if_neg hn]
    by_cases he : ∃ i, i ∈ row ∧ adj G k i = true
    · rw [if_pos he, if_pos]
      obtain ⟨i, h1, h2⟩ := he
      obtain ⟨h3, h4⟩ := (h.2 i).1 h1
      exact ⟨i, h3, ((lev_mem (by omega)).1 h4).2, h2⟩
    · rw [if_neg he, if_neg]
      rintro ⟨i, h1, h2, h3⟩
      by_cases hit : i = to
      · subst hit
        have := farA_one hk h3 n (by omega)
        omega
      · exact he ⟨i, (h.2 i).2 ⟨h1, (lev_mem (by omega)).2 ⟨hit, h2⟩⟩, h3⟩
theorem dstA_next {G : List (List Int)} {to n : Nat} {row next seen : List Nat} (hto : to < G.length) (h : Lev G to n row) (hm : Met G to n seen next) (hs : ∀ k, k ∈ seen ↔ k < G.length ∧ ∃ i, i ∈ row ∧ adj G k i = true) {k : Nat} (hk : k < G.length) :
    dstA G to (n + 1) k = if next.contains k = true then (n : Int) + 1 else dstA G to n k := by
  have hb := farA_bound G to n k
  by_cases hd : dstA G to n k < 0
  · have hst := far_step hto h hk hd
    obtain ⟨hkt, hf⟩ := dstA_neg.1 hd
    by_cases he : ∃ i, i ∈ row ∧ adj G k i = true
    · rw [if_pos he] at hst
      rw [if_pos (List.contains_iff_mem.2 ((hm.iff k).2 ⟨hk, hd, (hs k).2 ⟨hk, he⟩⟩)), dstA, if_neg hkt, hst, if_neg (by omega)]
    · rw [if_neg he] at hst
      rw [if_neg, dstA, if_neg hkt, hst, if_pos rfl, dstA, if_neg hkt, if_pos hf]
      intro hc
      exact he ((hs k).1 ((hm.iff k).1 (List.contains_iff_mem.1 hc)).2.2).2
  · rw [if_neg]
    · rw [dstA, dstA]
      by_cases hkt : k = to
      · rw [if_pos hkt, if_pos hkt]
      · rw [if_neg hkt, if_neg hkt]
        have : farA G to n k ≠ 0 := fun e => hd (dstA_neg.2 ⟨hkt, e⟩)
        rw [farA_keep G to n k (by omega)]
    · intro hc
      exact hd ((hm.iff k).1 (List.contains_iff_mem.1 hc)).2.1
theorem lev_next {G : List (List Int)} {to n : Nat} {row next seen : List Nat} (hto : to < G.length) (h : Lev G to n row) (hm : Met G to n seen next) (hs : ∀ k, k ∈ seen ↔ k < G.length ∧ ∃ i, i ∈ row ∧ adj G k i = true) :
    Lev G to (n + 1) next ∧ updL G to n next = dstL G to (n + 1) := by
  refine ⟨⟨hm.nd, fun k => ?_⟩, ?_⟩
  · constructor
    · intro hk
      have := (hm.iff k).1 hk
      refine ⟨this.1, ?_⟩
      rw [dstA_next hto h hm hs this.1, if_pos (List.contains_iff_mem.2 hk)]
      omega
    · rintro ⟨hk, hd⟩
      rw [dstA_next hto h hm hs hk] at hd
      by_cases hc : next.contains k = true
      · exact List.contains_iff_mem.1 hc
      · rw [if_neg hc, dstA] at hd
        have := farA_bound G to n k
        split at hd
        · omega
        · split at hd <;> omega
  · unfold updL dstL
    apply List.map_congr_left
    intro k hk
    rw [dstA_next hto h hm hs (List.mem_range.1 hk)]
/-- where a level has none, the search is at its end -/
theorem lev_stable {G : List (List Int)} {to n : Nat} (hn : 1 ≤ n) (h : Lev G to n []) : ∀ (m k : Nat), k ≠ to → farA G to (n + m) k = farA G to n k
  | 0, k, _ => rfl
  | m + 1, k, hkt => by
    have ih := lev_stable hn h m
    by_cases hk : k < G.length
    · rw [← Nat.add_assoc, farA_succ G to (n + m) k hk]
      have hb := farA_bound G to n k
      rw [ih k hkt]
      by_cases hp : 0 < farA G to n k
      · rw [if_pos hp]
      · rw [if_neg hp, if_neg (by omega), if_neg]
        · omega
        · rintro ⟨i, h1, h2, h3⟩
          by_cases hit : i = to
          · subst hit
            have := farA_one hk h3 n hn
            omega
          · rw [ih i hit] at h2
            have hb2 := farA_bound G to n i
            have hm0 : m = 0 := by omega
            subst hm0
            have := (h.2 i).2 ⟨h1, (lev_mem hn).2 ⟨hit, by simpa using h2⟩⟩
            simp at this
    · rw [farA_out hk, farA_out hk]
theorem lev_done {G : List (List Int)} {to n : Nat} (hn : 1 ≤ n) (hnN : n ≤ G.length + 1) (h : Lev G to n []) : dstL G to n = dstL G to G.length := by
  unfold dstL
  apply List.map_congr_left
  intro k hk
  rw [dstA, dstA]
  by_cases hkt : k = to
  · rw [if_pos hkt, if_pos hkt]
  · rw [if_neg hkt, if_neg hkt]
    have : farA G to n k = farA G to G.length k := by
      rcases Nat.lt_or_ge G.length n with hlt | hge
      · obtain rfl : n = G.length + 1 := by omega
        rcases farA_new G to G.length k with e | e
        · exact e
        · exfalso
          have := (h.2 k).2 ⟨List.mem_range.1 hk, (lev_mem hn).2 ⟨hkt, by rw [e]; omega⟩⟩
          simp at this
      · have := lev_stable hn h (G.length - n) k hkt
        rw [show n + (G.length - n) = G.length by omega] at this
        exact this.symm
    rw [this]
theorem lev_bound {G : List (List Int)} {to n : Nat} {row : List Nat} (h : Lev G to n row) (h0 : 0 < row.length) : n ≤ G.length := by
  obtain ⟨i, hi⟩ := List.exists_mem_of_length_pos h0
  obtain ⟨h1, h2⟩ := (h.2 i).1 hi
  rcases Nat.eq_zero_or_pos n with hn | hn
  · omega
  · have := farA_le G to n i
    rw [((lev_mem hn).1 h2).2] at this
    omega
end Go.Proofs.Ytccilmnlepekeaa
