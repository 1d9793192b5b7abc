/- The way, in plain: each step's next one is the first that is a step nearer. -/
import Derived.Test.YtccilmnlepekeaaCyc14
namespace Go.Proofs.Ytccilmnlepekeaa
open Go.RowKit
theorem farA_one_adj {G : List (List Int)} {to i : Nat} : ∀ n, farA G to n i = 1 → adj G i to = true
  | 0, h => by rw [farA_zero] at h; omega
  | n + 1, h => by
    rcases farA_new G to n i with e | e
    · exact farA_one_adj n (e ▸ h)
    · obtain rfl : n = 0 := by omega
      by_cases hi : i < G.length
      · rw [farA_succ G to 0 i hi, farA_zero] at h
        by_cases ha : adj G i to = true
        · exact ha
        · simp [ha] at h
      · rw [farA_out hi] at h
        omega
/-- the way, with both its ends -/
def wayL (G : List (List Int)) (i to : Nat) : List Nat := if i = to then [to] else walkL G i to ++ [to]
theorem find_range {N : Nat} {p : Nat → Bool} {k : Nat} (h : (List.range N).find? p = some k) : k < N ∧ p k = true :=
  ⟨List.mem_range.1 (List.mem_of_find?_eq_some h), List.find?_some h⟩
theorem castI_find (l : List Nat) (p : Int → Bool) : (castI l).find? p = (l.find? fun (k : Nat) => p k).map fun (x : Nat) => (x : Int) := by
  induction l with
  | nil => rfl
  | cons a l ih =>
    rw [castI] at ih ⊢
    rw [List.map_cons, List.find?_cons, List.find?_cons]
    cases p (a : Int) with
    | true => rfl
    | false => exact ih
theorem leans_find (G : List (List Int)) (i : Nat) (q : Nat → Bool) : (leans G i).find? q = (List.range G.length).find? fun k => adj G i k && q k := by
  rw [leans, List.find?_filter]
  congr 1
  funext k
  cases adj G i k <;> simp
theorem find_congr {l : List Nat} {p q : Nat → Bool} (h : ∀ x ∈ l, p x = q x) : l.find? p = l.find? q := by
  induction l with
  | nil => rfl
  | cons a l ih => rw [List.find?_cons, List.find?_cons, h a (by simp), ih fun x hx => h x (by simp [hx])]
theorem dst_zero {G : List (List Int)} {to n k : Nat} : dstA G to n k = 0 ↔ k = to := by
  have := farA_bound G to n k
  rw [dstA]
  by_cases h : k = to
  · simp [h]
  · rw [if_neg h]
    by_cases h2 : farA G to n k = 0
    · rw [if_pos h2]; simp [h]
    · rw [if_neg h2]; simp [h]; omega
theorem adj_lt {G : List (List Int)} {i k : Nat} (h : adj G i k = true) : i < G.length := by
  rcases Nat.lt_or_ge i G.length with hi | hi
  · exact hi
  · rw [adj, List.getElem?_eq_none hi] at h
    simp at h
/-- a step of the way -/
theorem way_step {G : List (List Int)} {a to m : Nat} (hto : to < G.length) (h : dst G to a = (m : Int) + 1) :
    ∃ k : Nat, (castI (leans G a)).find? (fun x => (dstL G to G.length).getD x.toNat 0 == (m : Int)) = some (k : Int) ∧ k < G.length ∧ dst G to k = m ∧ wayL G a to = a :: wayL G k to := by
  have hat : a ≠ to := fun e => by
    have := (dst_zero (G := G) (to := to) (n := G.length) (k := a)).2 e
    rw [dst] at h
    omega
  have hF : farA G to G.length a = (m : Int) + 1 := by
    rw [dst, dstA, if_neg hat] at h
    split at h <;> omega
  have hg : ∀ k, k < G.length → (dstL G to G.length).getD k 0 = dst G to k := fun k hk => by
    rw [dstL, List.getD_eq_getElem?_getD, List.getElem?_map, List.getElem?_range hk]
    rfl
  have hc : (castI (leans G a)).find? (fun x => (dstL G to G.length).getD x.toNat 0 == (m : Int)) = ((List.range G.length).find? fun k => adj G a k && dst G to k == (m : Int)).map fun (x : Nat) => (x : Int) := by
    rw [castI_find, leans_find]
    congr 1
    apply find_congr
    intro k hk
    rw [Int.toNat_natCast, hg k (List.mem_range.1 hk)]
  rw [hc]
  cases m with
  | zero =>
    have hadj := farA_one_adj _ hF
    have hf : ∃ k, (List.range G.length).find? (fun k => adj G a k && dst G to k == ((0 : Nat) : Int)) = some k := by
      cases hf : (List.range G.length).find? (fun k => adj G a k && dst G to k == ((0 : Nat) : Int)) with
      | some k => exact ⟨k, rfl⟩
      | none =>
        have := List.find?_eq_none.1 hf to (List.mem_range.2 hto)
        rw [hadj, dst, dst_zero.2 rfl] at this
        simp at this
    obtain ⟨k, hk⟩ := hf
    obtain ⟨h1, h2⟩ := find_range hk
    simp only [Bool.and_eq_true, beq_iff_eq] at h2
    have hkt : k = to := dst_zero.1 h2.2
    refine ⟨k, by rw [hk]; rfl, h1, h2.2, ?_⟩
    have hF1 : (farN G to G.length).getD a 0 = 1 := hF
    rw [hkt, wayL, if_neg hat, wayL, if_pos rfl, walkL, hF1]
    rfl
  | succ m =>
    have hF2 : (farN G to G.length).getD a 0 = (m : Int) + 2 := by
      have : (farN G to G.length).getD a 0 = _ := hF
      rw [this]
      omega
    obtain ⟨k, h1, h2, h3⟩ := nextG_some hF2
    have hna : ∀ j, adj G a j = true → j ≠ to := fun j hj e => by
      subst e
      have := farA_one (adj_lt hj) hj G.length (by have := adj_lt hj; omega)
      omega
    have hpe : ∀ j, (adj G a j && dst G to j == ((m + 1 : Nat) : Int)) = (adj G a j && (farN G to G.length).getD j 0 == (m : Int) + 1) := fun j => by
      cases hj : adj G a j with
      | false => rfl
      | true =>
        have hjt := hna j hj
        rw [Bool.true_and, Bool.true_and, Bool.eq_iff_iff, beq_iff_eq, beq_iff_eq]
        have e : farA G to G.length j = (farN G to G.length).getD j 0 := rfl
        rw [← e, dst, dstA, if_neg hjt]
        split
        · rename_i h0; omega
        · omega
    have hfk : (List.range G.length).find? (fun j => adj G a j && dst G to j == ((m + 1 : Nat) : Int)) = some k := by
      rw [← h1, nextG]
      exact find_congr fun j _ => hpe j
    obtain ⟨_, hk2⟩ := find_range hfk
    simp only [Bool.and_eq_true, beq_iff_eq] at hk2
    have hkt := hna k hk2.1
    refine ⟨k, by rw [hfk]; rfl, h2, hk2.2, ?_⟩
    rw [wayL, if_neg hat, wayL, if_neg hkt, walkL, walkL, hF2, h3, show ((m : Int) + 2).toNat - 1 = m + 1 by omega, show ((m : Int) + 1).toNat - 1 = m by omega, walkS, h1]
    rfl
theorem wayL_self (G : List (List Int)) (to : Nat) : wayL G to to = [to] := by rw [wayL, if_pos rfl]
theorem walkS_length (G : List (List Int)) (to : Nat) : ∀ (m i : Nat), (farN G to G.length).getD i 0 = (m : Int) + 1 → (walkS G (farN G to G.length) m i).length = m + 1
  | 0, i, _ => rfl
  | m + 1, i, h => by
    obtain ⟨k, h1, _, h3⟩ := nextG_some (m := m) (G := G) (to := to) (i := i) (by rw [h]; omega)
    rw [walkS, h1, List.length_cons, walkS_length G to m k h3]
theorem wayL_length {G : List (List Int)} {to a m : Nat} (h : dst G to a = (m : Int)) : (wayL G a to).length = m + 1 := by
  rw [wayL]
  by_cases ha : a = to
  · rw [if_pos ha]
    have := (dst_zero (G := G) (to := to) (n := G.length) (k := a)).2 ha
    rw [dst] at h
    have : m = 0 := by omega
    rw [this]; rfl
  · rw [if_neg ha]
    rw [dst, dstA, if_neg ha] at h
    have hb := farA_bound G to G.length a
    have hF : (farN G to G.length).getD a 0 = (m : Int) := by
      split at h
      · omega
      · exact h
    have hm : m ≠ 0 := by
      intro e
      subst e
      split at h
      · omega
      · rename_i h0
        exact h0 h
    obtain ⟨n, rfl⟩ : ∃ n, m = n + 1 := ⟨m - 1, by omega⟩
    rw [List.length_append, walkL, hF, show (((n + 1 : Nat) : Int)).toNat - 1 = n by omega, walkS_length G to n a (by rw [hF]; omega)]
    rfl
end Go.Proofs.Ytccilmnlepekeaa
