/- What the law CycleTrue asks of an order and of a ring, in plain. -/
import Derived.Test.YtccilmnlepekeaaCyp2
namespace Go.Proofs.Ytccilmnlepekeaa
open Go.RowKit
theorem walkS_at {G : List (List Int)} {to : Nat} : ∀ (m i : Nat), i < G.length → (farN G to G.length).getD i 0 = (m : Int) + 1 → ∀ p, p ≤ m → ∃ x, (walkS G (farN G to G.length) m i)[p]? = some x ∧ x < G.length ∧ (farN G to G.length).getD x 0 = ((m - p : Nat) : Int) + 1 ∧ wk G p i x ∧
    (p + 1 ≤ m → ∃ y, (walkS G (farN G to G.length) m i)[p + 1]? = some y ∧ y < G.length ∧ adj G x y = true)
  | 0, i, hi, h, p, hp => by
    obtain rfl : p = 0 := by omega
    exact ⟨i, rfl, hi, by rw [h], rfl, fun h => by omega⟩
  | m + 1, i, hi, h, p, hp => by
    obtain ⟨k, h1, h2, h3⟩ := nextG_some (m := m) (G := G) (to := to) (i := i) (by rw [h]; omega)
    have hadj : adj G i k = true := by
      have := (find_range h1).2
      rw [Bool.and_eq_true] at this
      exact this.1
    have hw : walkS G (farN G to G.length) (m + 1) i = i :: walkS G (farN G to G.length) m k := by rw [walkS, h1]
    rw [hw]
    cases p with
    | zero =>
      refine ⟨i, rfl, hi, by rw [h]; simp, rfl, fun _ => ⟨k, ?_, h2, hadj⟩⟩
      cases m with
      | zero => rfl
      | succ m => rfl
    | succ p =>
      have e : m + 1 - (p + 1) = m - p := by omega
      obtain ⟨x, h4, h5, h6, h7, h8⟩ := walkS_at m k h2 h3 p (by omega)
      refine ⟨x, by rw [List.getElem?_cons_succ]; exact h4, h5, by rw [h6, e], ⟨k, h2, hadj, h7⟩, fun hp2 => ?_⟩
      obtain ⟨y, h9, h10, h11⟩ := h8 (by omega)
      exact ⟨y, by rw [List.getElem?_cons_succ]; exact h9, h10, h11⟩
/-- what the law asks of a ring -/
theorem ring_law {G : List (List Int)} {n : Nat} (hn : n < (ringL G).length) : ∃ b x y, (ringL G)[0]? = some b ∧ (ringL G)[n]? = some x ∧ (ringL G)[(n + 1) % (ringL G).length]? = some y ∧ x < G.length ∧ y < G.length ∧ b ≤ x ∧ adj G x y = true ∧ ¬ x ∈ (ringL G).take n := by
  rcases ringS_min G G.length with ⟨h1, _⟩ | ⟨b, h0, h1, h2, h3⟩
  · have : ringL G = [] := by rw [ringL, h1, if_pos (by decide)]
    rw [this] at hn
    simp at hn
  · have hR : ringL G = walkL G b b := by rw [ringL, h1, if_neg (by simp), Int.toNat_natCast]
    obtain ⟨m, hm⟩ : ∃ m : Nat, selfF G b = (m : Int) + 1 := ⟨(selfF G b).toNat - 1, by omega⟩
    have hm' : (farN G b G.length).getD b 0 = (m : Int) + 1 := hm
    have hW : walkL G b b = walkS G (farN G b G.length) m b := by rw [walkL, hm', show ((m : Int) + 1).toNat - 1 = m by omega]
    have hl : (walkS G (farN G b G.length) m b).length = m + 1 := walkS_length G b m b hm'
    rw [hR, hW] at hn ⊢
    rw [hl] at hn ⊢
    have hat := walkS_at (G := G) (to := b) m b h0 hm'
    obtain ⟨z, hz1, _, _, hz4, _⟩ := hat 0 (Nat.zero_le _)
    have hz4 : b = z := hz4
    subst hz4
    obtain ⟨x, hx1, hx2, hx3, hx4, hx5⟩ := hat n (by omega)
    have hxw : wk G (m - n + 1) x b := far_wk h0 (m - n) x hx3
    have hself : selfF G x ≤ (m : Int) + 1 ∧ 0 < selfF G x := by
      have h5 := wk_trans (m - n + 1) n x b x hxw hx4
      have h6 := wk_far (G := G) (to := x) (m - n + n) x (by rwa [show m - n + n + 1 = m - n + 1 + n by omega])
      have e : selfF G x = farA G x G.length x := rfl
      omega
    have hbx : b ≤ x := by
      obtain ⟨h7, h8⟩ := h3 x hx2 hself.2
      exact h8 (by omega)
    have hnew : ¬ x ∈ (walkS G (farN G b G.length) m b).take n := fun hmem => by
      obtain ⟨q, hq⟩ := List.getElem?_of_mem hmem
      have hqn : q < n := by
        have := (List.getElem?_eq_some_iff.1 hq).1
        rw [List.length_take] at this
        omega
      rw [List.getElem?_take_of_lt hqn] at hq
      obtain ⟨x', h9, _, h10, _, _⟩ := hat q (by omega)
      rw [hq] at h9
      cases h9
      omega
    by_cases hnm : n + 1 ≤ m
    · obtain ⟨y, hy1, hy2, hy3⟩ := hx5 hnm
      exact ⟨b, x, y, hz1, hx1, by rw [Nat.mod_eq_of_lt (by omega)]; exact hy1, hx2, hy2, hbx, hy3, hnew⟩
    · have hnm2 : n = m := by omega
      subst hnm2
      refine ⟨b, x, b, hz1, hx1, by rw [Nat.mod_self]; exact hz1, hx2, h0, hbx, ?_, hnew⟩
      rw [Nat.sub_self] at hx3
      exact farA_one_adj _ hx3
/-- what the law asks of an order -/
theorem ord_law {G : List (List Int)} {l : List Nat} (h : ordG G = some l) {p : Nat} (hp : p < l.length) : ∃ x, l[p]? = some x ∧ x < G.length ∧ ¬ x ∈ l.take p ∧ ∀ k, k < G.length → adj G x k = true → k ∈ l.take p := by
  obtain ⟨th, hI⟩ := ordG_inv h
  refine ⟨l[p], List.getElem?_eq_getElem hp, hI.lt _ (List.getElem_mem hp), fun hm => ?_, fun k hk ha => hI.shut p _ (List.getElem?_eq_getElem hp) k hk ha⟩
  obtain ⟨q, hq⟩ := List.getElem?_of_mem hm
  have hqn : q < p := by
    have := (List.getElem?_eq_some_iff.1 hq).1
    rw [List.length_take] at this
    omega
  rw [List.getElem?_take_of_lt hqn] at hq
  obtain ⟨h1, h2⟩ := List.getElem?_eq_some_iff.1 hq
  have := (List.getElem_inj hI.nd (h₀ := h1) (h₁ := hp)).1 h2
  omega
theorem turn_twice {G : List (List Int)} {i k : Nat} (hi : i < G.length) (hk : k < G.length) : adj (turnG (turnG G)) i k = adj G i k := by
  rw [turnG_adj (by rw [turnG_length]; exact hi) (by rw [turnG_length]; exact hk), turnG_adj hk hi]
/-- the order that there is; none -/
def ordL (G : List (List Int)) : List Nat := (ordG G).getD []
theorem ordL_law {G : List (List Int)} {p : Nat} (hp : p < (ordL G).length) : ∃ x, (ordL G)[p]? = some x ∧ x < G.length ∧ ¬ x ∈ (ordL G).take p ∧ ∀ k, k < G.length → adj G x k = true → k ∈ (ordL G).take p := by
  cases h : ordG G with
  | none =>
    rw [ordL, h] at hp
    simp at hp
  | some l =>
    have e : ordL G = l := by rw [ordL, h]; rfl
    rw [e] at hp ⊢
    exact ord_law h hp
theorem ordL_post {w w' : World} {G : List (List Int)} {e : Ending} (h : OrdPost w G e w') : ∃ (A' : Option Addr) (c' : Nat), e = .returned (.tuple #[.slice A' (ordL G).length c', .bool (ordG G).isSome]) ∧ Rd w' 1 A' (ordL G).length (natV (ordL G)) ∧ Below w.heap.size w w' := by
  rcases h with ⟨l', A', c', h1, h2, h3, h4⟩ | ⟨h1, h2, h3⟩
  · have e : ordL G = l' := by rw [ordL, h1]; rfl
    rw [e, h1]
    exact ⟨A', c', h2, h3.rd, h4⟩
  · have e : ordL G = [] := by rw [ordL, h1]; rfl
    rw [e, h1]
    exact ⟨none, 0, h2, Rd.none_ _ _ _, h3⟩
theorem ordL_or (G : List (List Int)) : ((ordG G).isSome = true ∧ (ordL G).length = G.length ∧ (ringL G).length = 0) ∨ ((ordG G).isSome = false ∧ (ordL G).length = 0 ∧ 0 < (ringL G).length) := by
  rcases ord_or_ring G with ⟨l, h1, h2⟩ | ⟨h1, h2⟩
  · left
    have e : ordL G = l := by rw [ordL, h1]; rfl
    exact ⟨by rw [h1]; rfl, by rw [e]; exact ordG_size h1, by rw [h2]; rfl⟩
  · right
    have e : ordL G = [] := by rw [ordL, h1]; rfl
    exact ⟨by rw [h1]; rfl, by rw [e]; rfl, List.length_pos_iff.2 h2⟩
end Go.Proofs.Ytccilmnlepekeaa
