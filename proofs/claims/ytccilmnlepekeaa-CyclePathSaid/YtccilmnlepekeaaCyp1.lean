/- Walks of so many steps; distances, rings and reach by them; the graph turned round; when there is an order. -/
import Derived.Test.YtccilmnlepekeaaCyc17
import Derived.Test.YtccilmnlepekeaaCyr3
namespace Go.Proofs.Ytccilmnlepekeaa
open Go.RowKit
/-- a walk of n steps -/
def wk (G : List (List Int)) : Nat → Nat → Nat → Prop
  | 0, i, k => i = k
  | n + 1, i, k => ∃ j, j < G.length ∧ adj G i j = true ∧ wk G n j k
theorem wk_snoc {G : List (List Int)} {k : Nat} (hk : k < G.length) : ∀ (n i j : Nat), wk G n i j → adj G j k = true → wk G (n + 1) i k
  | 0, i, j, h, ha => by
    have h : i = j := h
    subst h
    exact ⟨k, hk, ha, rfl⟩
  | n + 1, i, j, h, ha => by
    obtain ⟨x, h1, h2, h3⟩ := h
    exact ⟨x, h1, h2, wk_snoc hk n x j h3 ha⟩
theorem wk_trans {G : List (List Int)} : ∀ (n m i j k : Nat), wk G n i j → wk G m j k → wk G (n + m) i k
  | 0, m, i, j, k, h, h2 => by
    have h : i = j := h
    subst h
    rw [Nat.zero_add]
    exact h2
  | n + 1, m, i, j, k, h, h2 => by
    obtain ⟨x, h3, h4, h5⟩ := h
    rw [show n + 1 + m = (n + m) + 1 by omega]
    exact ⟨x, h3, h4, wk_trans n m x j k h5 h2⟩
/-- who is so far away has a walk -/
theorem far_wk {G : List (List Int)} {to : Nat} (hto : to < G.length) : ∀ (v i : Nat), farA G to G.length i = (v : Int) + 1 → wk G (v + 1) i to
  | 0, i, h => ⟨to, hto, farA_one_adj _ h, rfl⟩
  | v + 1, i, h => by
    obtain ⟨k, h1, h2, h3⟩ := farA_back (G := G) (to := to) (n := G.length) (i := i) (by omega)
    exact ⟨k, h1, h2, far_wk hto v k (by omega)⟩
/-- who has a walk is no further away -/
theorem wk_far {G : List (List Int)} {to : Nat} : ∀ (m i : Nat), wk G (m + 1) i to → 1 ≤ farA G to G.length i ∧ farA G to G.length i ≤ (m : Int) + 1
  | 0, i, h => by
    obtain ⟨j, h1, h2, h3⟩ := h
    have h3 : j = to := h3
    subst h3
    have := farA_one (adj_lt h2) h2 G.length (by omega)
    omega
  | m + 1, i, h => by
    obtain ⟨j, h1, h2, h3⟩ := h
    obtain ⟨h4, h5⟩ := wk_far m j h3
    have := far_edge (to := to) h1 h2 (v := (farA G to G.length j).toNat - 1) (by omega)
    omega
theorem wk_turn {G : List (List Int)} : ∀ (n i k : Nat), i < G.length → k < G.length → wk G n i k → wk (turnG G) n k i
  | 0, i, k, _, _, h => (show i = k from h).symm
  | n + 1, i, k, hi, hk, h => by
    obtain ⟨j, h1, h2, h3⟩ := h
    have h4 := wk_turn n j k h1 hk h3
    exact wk_snoc (by rw [turnG_length]; exact hi) n k j h4 (by rw [turnG_adj h1 hi]; exact h2)
theorem turn_wk {G : List (List Int)} : ∀ (n i k : Nat), i < G.length → k < G.length → wk (turnG G) n k i → wk G n i k
  | 0, i, k, _, _, h => (show k = i from h).symm
  | n + 1, i, k, hi, hk, h => by
    obtain ⟨j, h1, h2, h3⟩ := h
    rw [turnG_length] at h1
    have h4 := turn_wk n i j hi h1 h3
    exact wk_snoc hk n i j h4 (by rw [← turnG_adj hk h1]; exact h2)
/-- as far there as back -/
theorem far_turn {G : List (List Int)} {i k : Nat} (hi : i < G.length) (hk : k < G.length) : farA (turnG G) i (turnG G).length k = farA G k G.length i := by
  have ha := farA_bound G k G.length i
  have hb := farA_bound (turnG G) i (turnG G).length k
  have h1 : ∀ v : Nat, farA G k G.length i = (v : Int) + 1 → 1 ≤ farA (turnG G) i (turnG G).length k ∧ farA (turnG G) i (turnG G).length k ≤ (v : Int) + 1 := fun v h => wk_far v k (wk_turn _ _ _ hi hk (far_wk hk v i h))
  have h2 : ∀ v : Nat, farA (turnG G) i (turnG G).length k = (v : Int) + 1 → 1 ≤ farA G k G.length i ∧ farA G k G.length i ≤ (v : Int) + 1 := fun v h => wk_far v i (turn_wk _ _ _ hi hk (far_wk (by rw [turnG_length]; exact hi) v k h))
  by_cases hz : 0 < farA G k G.length i
  · have h3 := h1 ((farA G k G.length i).toNat - 1) (by omega)
    have h4 := h2 ((farA (turnG G) i (turnG G).length k).toNat - 1) (by omega)
    omega
  · by_cases hy : 0 < farA (turnG G) i (turnG G).length k
    · have h4 := h2 ((farA (turnG G) i (turnG G).length k).toNat - 1) (by omega)
      omega
    · omega
theorem self_turn {G : List (List Int)} {i : Nat} (hi : i < G.length) : selfF (turnG G) i = selfF G i := far_turn hi hi
theorem ringS_turn (G : List (List Int)) : ∀ i, i ≤ G.length → ringS (turnG G) i = ringS G i
  | 0, _ => rfl
  | i + 1, h => by
    rw [ringS, ringS, ringStep, ringStep, ringS_turn G i (by omega), self_turn (by omega)]
theorem ringL_turn (G : List (List Int)) : (ringL (turnG G)).length = (ringL G).length := by
  have hS : ringS (turnG G) (turnG G).length = ringS G G.length := by
    rw [turnG_length]
    exact ringS_turn G _ (Nat.le_refl _)
  rw [ringL, ringL, hS]
  rcases ringS_ok G G.length with h | ⟨b, h1, h2, h3⟩
  · rw [h, if_pos (by decide), if_pos (by decide)]
  · rw [h2, if_neg (by simp), if_neg (by simp), Int.toNat_natCast]
    have e1 := walkL_self h3
    have e2 := walkL_self (G := turnG G) (i := b) (by rw [self_turn h1]; exact h3)
    rw [self_turn h1] at e2
    omega
theorem pathN_len {G : List (List Int)} (i to : Nat) : ((pathN G i to).length : Int) = if i = to then 1 else if farA G to G.length i = 0 then 0 else farA G to G.length i + 1 := by
  rw [pathN]
  by_cases h : i = to
  · rw [if_pos h, if_pos h]; rfl
  · rw [if_neg h, if_neg h]
    change (((if farA G to G.length i = 0 then [] else walkL G i to ++ [to]) : List Nat).length : Int) = _
    have hb := farA_bound G to G.length i
    by_cases h0 : farA G to G.length i = 0
    · rw [if_pos h0, if_pos h0]; rfl
    · rw [if_neg h0, if_neg h0]
      obtain ⟨m, hm⟩ : ∃ m : Nat, farA G to G.length i = (m : Int) + 1 := ⟨(farA G to G.length i).toNat - 1, by omega⟩
      have hm' : (farN G to G.length).getD i 0 = (m : Int) + 1 := hm
      rw [List.length_append, walkL, hm', show ((m : Int) + 1).toNat - 1 = m by omega, walkS_length G to m i hm', hm]
      simp
theorem pathN_turn {G : List (List Int)} {i k : Nat} (hi : i < G.length) (hk : k < G.length) : (pathN (turnG G) k i).length = (pathN G i k).length := by
  have h1 := pathN_len (G := G) i k
  have h2 := pathN_len (G := turnG G) k i
  rw [far_turn hi hk] at h2
  by_cases h : i = k
  · subst h
    omega
  · rw [if_neg h] at h1
    rw [if_neg (fun e => h e.symm)] at h2
    omega
/-- reached: by a walk -/
theorem RT.wk {G : List (List Int)} {S : Nat → Prop} {T : List Bool} (h : RT G S T) (k : Nat) : inT T k ↔ k < G.length ∧ ∃ i n, i < G.length ∧ S i ∧ wk G n i k := by
  constructor
  · intro hk
    have hkl : k < G.length := by rw [← h.len]; exact inT_lt hk
    refine ⟨hkl, h.least (fun k => ∃ i n, i < G.length ∧ S i ∧ Go.Proofs.Ytccilmnlepekeaa.wk G n i k) (fun k hk hS => ⟨k, 0, hk, hS, rfl⟩) (fun a b ha hb hab ⟨i, n, h1, h2, h3⟩ => ⟨i, n + 1, h1, h2, wk_snoc hb n i a h3 hab⟩) k hk⟩
  · rintro ⟨hk, i, n, h1, h2, h3⟩
    have hgo : ∀ (n i k : Nat), i < G.length → inT T i → Go.Proofs.Ytccilmnlepekeaa.wk G n i k → inT T k := by
      intro n
      induction n with
      | zero =>
        intro i k _ hi hw
        have hw : i = k := hw
        subst hw
        exact hi
      | succ n ih =>
        intro i k hil hi hw
        obtain ⟨j, h1, h2, h3⟩ := hw
        exact ih j k h1 (h.shut i j hil h1 h2 hi) h3
    exact hgo n i k h1 (h.has i h1 h2) h3
/-- there is a path just if it is reached -/
theorem path_reach {G : List (List Int)} {i to : Nat} (hi : i < G.length) (hto : to < G.length) : (∃ n, wk G n i to) ↔ 0 < (pathN G i to).length := by
  have hl := pathN_len (G := G) i to
  have hb := farA_bound G to G.length i
  constructor
  · rintro ⟨n, hw⟩
    cases n with
    | zero =>
      rw [if_pos (show i = to from hw)] at hl
      omega
    | succ n =>
      have := wk_far n i hw
      by_cases h : i = to
      · rw [if_pos h] at hl; omega
      · rw [if_neg h, if_neg (by omega)] at hl
        omega
  · intro h0
    by_cases h : i = to
    · exact ⟨0, h⟩
    · rw [if_neg h] at hl
      by_cases hz : farA G to G.length i = 0
      · rw [if_pos hz] at hl; omega
      · exact ⟨_, far_wk hto ((farA G to G.length i).toNat - 1) i (by omega)⟩
end Go.Proofs.Ytccilmnlepekeaa
