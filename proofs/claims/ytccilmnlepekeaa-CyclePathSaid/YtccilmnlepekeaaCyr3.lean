/- Which are reached, in plain: the least table with the starts that is closed. -/
import Derived.Test.YtccilmnlepekeaaCyr2
namespace Go.Proofs.Ytccilmnlepekeaa
open Go.RowKit
def inT (T : List Bool) (k : Nat) : Prop := T[k]? = some true
/-- closed under the graph's arrows -/
def Shut (G : List (List Int)) (U : Nat → Prop) : Prop := ∀ i k, i < G.length → k < G.length → adj G i k = true → U i → U k
/-- the least closed table with the starts -/
structure RT (G : List (List Int)) (S : Nat → Prop) (T : List Bool) : Prop where
  len : T.length = G.length
  has : ∀ k, k < G.length → S k → inT T k
  shut : Shut G (inT T)
  least : ∀ U : Nat → Prop, (∀ k, k < G.length → S k → U k) → Shut G U → ∀ k, inT T k → U k
theorem inT_lt {T : List Bool} {k : Nat} (h : inT T k) : k < T.length := (List.getElem?_eq_some_iff.1 h).1
theorem inT_ext {T T' : List Bool} (hl : T.length = T'.length) (h : ∀ k, inT T k ↔ inT T' k) : T = T' := by
  apply List.ext_getElem?
  intro k
  rcases Nat.lt_or_ge k T.length with hk | hk
  · have h1 := h k
    unfold inT at h1
    rw [List.getElem?_eq_getElem hk, List.getElem?_eq_getElem (by omega)] at h1 ⊢
    congr 1
    cases h2 : T[k] <;> cases h3 : T'[k] <;> simp [h2, h3] at h1 ⊢
  · rw [List.getElem?_eq_none hk, List.getElem?_eq_none (by omega)]
theorem RT.one {G : List (List Int)} {S : Nat → Prop} {T T' : List Bool} (h : RT G S T) (h' : RT G S T') : T = T' :=
  inT_ext (h.len.trans h'.len.symm) fun k => ⟨h.least _ h'.has h'.shut k, h'.least _ h.has h.shut k⟩
theorem inT_set {T : List Bool} {i k : Nat} (hi : i < T.length) : inT (T.set i true) k ↔ k = i ∨ inT T k := by
  unfold inT
  by_cases h : i = k
  · subst h
    rw [List.getElem?_set_self hi]
    simp
  · rw [List.getElem?_set_ne h]
    constructor
    · exact .inr
    · rintro (e | e)
      · exact absurd e.symm h
      · exact e
/-- how many are in -/
def cntT (T : List Bool) : Nat := T.countP id
theorem cnt_le (T : List Bool) : cntT T ≤ T.length := List.countP_le_length
theorem cnt_all : ∀ {T : List Bool}, T.length ≤ cntT T → ∀ k, k < T.length → inT T k
  | [], _, k, h => by simp at h
  | b :: T, hc, k, hk => by
    have h1 := cnt_le T
    unfold cntT at hc h1
    rw [List.countP_cons, List.length_cons] at hc
    have hb : b = true := by
      cases b
      · simp at hc; omega
      · rfl
    subst hb
    cases k with
    | zero => rfl
    | succ k =>
      have := cnt_all (T := T) (by unfold cntT; simp at hc; omega) k (by simpa using hk)
      unfold inT at this ⊢
      simpa using this
theorem cnt_mono : ∀ {T T' : List Bool}, T.length = T'.length → (∀ k, inT T k → inT T' k) → cntT T ≤ cntT T'
  | [], [], _, _ => Nat.le_refl _
  | [], _ :: _, h, _ => by simp at h
  | _ :: _, [], h, _ => by simp at h
  | b :: T, c :: T', hl, h => by
    have ih := cnt_mono (T := T) (T' := T') (by simpa using hl) fun k hk => by
      have := h (k + 1)
      unfold inT at this hk ⊢
      simpa using this (by simpa using hk)
    have h0 := h 0
    unfold inT at h0
    unfold cntT at ih ⊢
    rw [List.countP_cons, List.countP_cons]
    cases b <;> cases c <;> simp at h0 ⊢ <;> omega
theorem cnt_grow : ∀ {T T' : List Bool}, T.length = T'.length → (∀ k, inT T k → inT T' k) → T ≠ T' → cntT T + 1 ≤ cntT T'
  | [], [], _, _, h => absurd rfl h
  | [], _ :: _, h, _, _ => by simp at h
  | _ :: _, [], h, _, _ => by simp at h
  | b :: T, c :: T', hl, h, hne => by
    have hs : ∀ k, inT T k → inT T' k := fun k hk => by
      have := h (k + 1)
      unfold inT at this hk ⊢
      simpa using this (by simpa using hk)
    have hl' : T.length = T'.length := by simpa using hl
    have h0 := h 0
    unfold inT at h0
    by_cases he : T = T'
    · subst he
      unfold cntT
      rw [List.countP_cons, List.countP_cons]
      cases b <;> cases c <;> simp at h0 hne ⊢
    · have ih := cnt_grow hl' hs he
      unfold cntT at ih ⊢
      rw [List.countP_cons, List.countP_cons]
      cases b <;> cases c <;> simp at h0 ⊢ <;> omega
/-- within a round: what is gone through so far -/
structure Rnd (G : List (List Int)) (O out : List Bool) (i k : Nat) : Prop where
  len : out.length = G.length
  up : ∀ j, inT O j → inT out j
  least : ∀ U : Nat → Prop, Shut G U → (∀ j, inT O j → U j) → ∀ j, inT out j → U j
  step : ∀ a b, a < G.length → b < G.length → adj G a b = true → inT O a → (a < i ∨ a = i ∧ b < k) → inT out b
theorem Rnd.start {G : List (List Int)} {O : List Bool} (h : O.length = G.length) : Rnd G O O 0 0 := ⟨h, fun _ h => h, fun _ _ h => h, fun a b _ _ _ _ h => by omega⟩
theorem Rnd.row {G : List (List Int)} {O out : List Bool} {i : Nat} (h : Rnd G O out i G.length) : Rnd G O out (i + 1) 0 := ⟨h.len, h.up, h.least, fun a b ha hb hab hO hp => h.step a b ha hb hab hO (by omega)⟩
/-- a pair: set or not -/
theorem Rnd.next {G : List (List Int)} {O out : List Bool} {i k : Nat} (h : Rnd G O out i k) (hi : i < G.length) (hk : k < G.length) (x y : Bool) (hx : out[k]? = some x) (hy : out[i]? = some y) : Rnd G O (out.set k (x || y && adj G i k)) i (k + 1) := by
  have hl : k < out.length := by rw [h.len]; exact hk
  cases hv : (x || y && adj G i k) with
  | true =>
    refine ⟨by rw [List.length_set, h.len], fun j hj => (inT_set hl).2 (.inr (h.up j hj)), fun U hU hO j hj => ?_, fun a b ha hb hab hO hp => (inT_set hl).2 ?_⟩
    · rcases (inT_set hl).1 hj with rfl | hj
      · cases x with
        | true => exact h.least U hU hO j hx
        | false =>
          simp only [Bool.false_or, Bool.and_eq_true] at hv
          obtain ⟨rfl, hv2⟩ := hv
          exact hU i j hi hk hv2 (h.least U hU hO i hy)
      · exact h.least U hU hO j hj
    · by_cases he : b = k
      · exact .inl he
      · exact .inr (h.step a b ha hb hab hO (by omega))
  | false =>
    have hx' : x = false := by cases x <;> simp at hv ⊢
    subst hx'
    have he : out.set k false = out := by
      apply List.ext_getElem?
      intro j
      by_cases hj : k = j
      · subst hj
        rw [List.getElem?_set_self hl, hx]
      · rw [List.getElem?_set_ne hj]
    rw [he]
    refine ⟨h.len, h.up, h.least, fun a b ha hb hab hO hp => ?_⟩
    by_cases hab2 : a = i ∧ b = k
    · obtain ⟨rfl, rfl⟩ := hab2
      have := h.up a hO
      unfold inT at this
      rw [hy] at this
      obtain rfl : y = true := by simpa using this
      rw [hab] at hv
      simp at hv
    · exact h.step a b ha hb hab hO (by omega)
/-- behind so many rounds -/
structure Rds (G : List (List Int)) (S : Nat → Prop) (out : List Bool) (r : Nat) : Prop where
  len : out.length = G.length
  has : ∀ k, k < G.length → S k → inT out k
  least : ∀ U : Nat → Prop, (∀ k, k < G.length → S k → U k) → Shut G U → ∀ k, inT out k → U k
  far : Shut G (inT out) ∨ r ≤ cntT out
theorem Rds.next {G : List (List Int)} {S : Nat → Prop} {O out : List Bool} {r : Nat} (h : Rds G S O r) (hr : Rnd G O out G.length 0) : Rds G S out (r + 1) := by
  refine ⟨hr.len, fun k hk hS => hr.up k (h.has k hk hS), fun U hS hU k hk => hr.least U hU (fun j hj => h.least U hS hU j hj) k hk, ?_⟩
  have hst : ∀ a b, a < G.length → b < G.length → adj G a b = true → inT O a → inT out b := fun a b ha hb hab hO => hr.step a b ha hb hab hO (.inl ha)
  by_cases he : O = out
  · subst he
    exact .inl fun i k hi hk hik hO => hst i k hi hk hik hO
  · rcases h.far with hs | hc
    · exact absurd (inT_ext (h.len.trans hr.len.symm) fun k => ⟨hr.up k, hr.least _ hs (fun _ h => h) k⟩) he
    · have := cnt_grow (h.len.trans hr.len.symm) hr.up he
      exact .inr (by omega)
theorem Rds.done {G : List (List Int)} {S : Nat → Prop} {out : List Bool} (h : Rds G S out G.length) : RT G S out := by
  refine ⟨h.len, h.has, ?_, h.least⟩
  rcases h.far with hs | hc
  · exact hs
  · exact fun i k _ hk _ _ => cnt_all (by rw [h.len]; exact hc) k (by rw [h.len]; exact hk)
/-- the starts that are set so far -/
structure Sts (G : List (List Int)) (fr : List Int) (q : Nat) (out : List Bool) : Prop where
  len : out.length = G.length
  iff : ∀ k, inT out k ↔ k < G.length ∧ (k : Int) ∈ fr.take q
theorem Sts.start (G : List (List Int)) (fr : List Int) : Sts G fr 0 (List.replicate G.length false) := by
  refine ⟨by simp, fun k => ?_⟩
  unfold inT
  rw [List.getElem?_replicate]
  constructor
  · intro h
    split at h <;> simp at h
  · rintro ⟨_, h⟩
    simp at h
theorem Sts.set {G : List (List Int)} {fr : List Int} {q i : Nat} {out : List Bool} (h : Sts G fr q out) (hq : fr[q]? = some (i : Int)) (hi : i < G.length) : Sts G fr (q + 1) (out.set i true) := by
  refine ⟨by rw [List.length_set, h.len], fun k => ?_⟩
  obtain ⟨hq1, hq2⟩ := List.getElem?_eq_some_iff.1 hq
  rw [inT_set (by rw [h.len]; exact hi), h.iff k, List.take_succ_eq_append_getElem hq1, hq2, List.mem_append, List.mem_singleton]
  constructor
  · rintro (rfl | ⟨h1, h2⟩)
    · exact ⟨hi, .inr rfl⟩
    · exact ⟨h1, .inl h2⟩
  · rintro ⟨h1, h2 | h2⟩
    · exact .inr ⟨h1, h2⟩
    · exact .inl (by omega)
theorem Sts.skip {G : List (List Int)} {fr : List Int} {q : Nat} {x : Int} {out : List Bool} (h : Sts G fr q out) (hq : fr[q]? = some x) (hi : x < 0 ∨ (G.length : Int) ≤ x) : Sts G fr (q + 1) out := by
  refine ⟨h.len, fun k => ?_⟩
  obtain ⟨hq1, hq2⟩ := List.getElem?_eq_some_iff.1 hq
  rw [h.iff k, List.take_succ_eq_append_getElem hq1, hq2, List.mem_append, List.mem_singleton]
  constructor
  · rintro ⟨h1, h2⟩
    exact ⟨h1, .inl h2⟩
  · rintro ⟨h1, h2 | h2⟩
    · exact ⟨h1, h2⟩
    · omega
theorem Sts.rds {G : List (List Int)} {fr : List Int} {out : List Bool} (h : Sts G fr fr.length out) : Rds G (fun k => (k : Int) ∈ fr) out 0 := by
  have hi : ∀ k, inT out k ↔ k < G.length ∧ (k : Int) ∈ fr := fun k => by
    rw [h.iff k, List.take_length]
  exact ⟨h.len, fun k hk hS => (hi k).2 ⟨hk, hS⟩, fun U hS _ k hk => hS k ((hi k).1 hk).1 ((hi k).1 hk).2, .inr (Nat.zero_le _)⟩
end Go.Proofs.Ytccilmnlepekeaa
