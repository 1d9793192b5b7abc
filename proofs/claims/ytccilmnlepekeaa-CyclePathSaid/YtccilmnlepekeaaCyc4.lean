/- The reference's Far: how far it is, step by step. -/
import Derived.Test.YtccilmnlepekeaaCyc3
namespace Go.Proofs.Ytccilmnlepekeaa
open Go.RowKit
/-- one node's number behind round n -/
def farV (G : List (List Int)) (to n : Nat) (out : List Int) (i : Nat) : Int :=
  if 0 < out.getD i 0 then out.getD i 0
  else if n = 1 then (if adj G i to = true then 1 else out.getD i 0)
  else if ((List.range G.length).any fun k => out.getD k 0 == (n : Int) - 1 && adj G i k) = true then (n : Int) else out.getD i 0
def farStep (G : List (List Int)) (to n : Nat) (out : List Int) : List Int := (List.range G.length).map (farV G to n out)
/-- the numbers behind n rounds -/
def farN (G : List (List Int)) (to : Nat) : Nat → List Int
  | 0 => List.replicate G.length 0
  | n + 1 => farStep G to (n + 1) (farN G to n)
theorem farN_length (G : List (List Int)) (to : Nat) : ∀ n, (farN G to n).length = G.length
  | 0 => by simp [farN]
  | n + 1 => by simp [farN, farStep]
/-- no number is below 0 or beyond the round -/
theorem farN_bound (G : List (List Int)) (to : Nat) : ∀ (n i : Nat), 0 ≤ (farN G to n).getD i 0 ∧ (farN G to n).getD i 0 ≤ n
  | 0, i => by
    have : (farN G to 0).getD i 0 = 0 := by
      rw [farN, List.getD_eq_getElem?_getD, List.getElem?_replicate]
      split <;> rfl
    omega
  | n + 1, i => by
    have ih := farN_bound G to n i
    rw [farN, farStep, List.getD_eq_getElem?_getD, List.getElem?_map]
    by_cases hi : i < G.length
    · rw [List.getElem?_range hi, Option.map_some, Option.getD_some, farV]
      split
      · omega
      · split
        · rename_i h1
          split <;> omega
        · split <;> omega
    · rw [List.getElem?_eq_none (by simpa using hi), Option.map_none, Option.getD_none]
      omega
/-- in the midst of a round: the nodes below i have their new number -/
def Mid (G : List (List Int)) (to n : Nat) (out nx : List Int) (i : Nat) : Prop := nx.length = G.length ∧ ∀ q, nx.getD q 0 = if q < i then (if q < G.length then farV G to n out q else 0) else out.getD q 0
theorem Mid.start {G : List (List Int)} {to n : Nat} {out : List Int} (h : out.length = G.length) : Mid G to n out out 0 := ⟨h, fun q => by rw [if_neg (by omega)]⟩
theorem Mid.done {G : List (List Int)} {to n : Nat} {out nx : List Int} (h : Mid G to n out nx G.length) : nx = farStep G to n out := by
  apply List.ext_getElem?
  intro q
  have hq := h.2 q
  by_cases hl : q < G.length
  · rw [if_pos hl, if_pos hl, List.getD_eq_getElem?_getD, List.getElem?_eq_getElem (by rw [h.1]; exact hl)] at hq
    rw [farStep, List.getElem?_map, List.getElem?_range hl, List.getElem?_eq_getElem (by rw [h.1]; exact hl)]
    simpa using hq
  · rw [List.getElem?_eq_none (by rw [h.1]; omega), List.getElem?_eq_none (by rw [farStep, List.length_map, List.length_range]; omega)]
theorem getD_set {l : List Int} {i q : Nat} (v : Int) (hi : i < l.length) : (l.set i v).getD q 0 = if q = i then v else l.getD q 0 := by
  rw [List.getD_eq_getElem?_getD, List.getD_eq_getElem?_getD, List.getElem?_set]
  by_cases h : i = q
  · subst h; rw [if_pos rfl, if_pos hi, if_pos rfl, Option.getD_some]
  · rw [if_neg h, if_neg (Ne.symm h)]
/-- a node's number set, or left -/
theorem Mid.next {G : List (List Int)} {to n : Nat} {out nx : List Int} {i : Nat} (h : Mid G to n out nx i) (hi : i < G.length) (v : Int) (hv : v = farV G to n out i) : Mid G to n out (nx.set i v) (i + 1) := by
  refine ⟨by rw [List.length_set]; exact h.1, fun q => ?_⟩
  rw [getD_set v (by rw [h.1]; exact hi), h.2 q]
  by_cases hq : q = i
  · subst hq
    rw [if_pos rfl, if_pos (by omega), if_pos hi, hv]
  · rw [if_neg hq]
    by_cases hq2 : q < i
    · simp [hq2, show q < i + 1 by omega]
    · simp [hq2, show ¬ q < i + 1 by omega]
theorem Mid.stay {G : List (List Int)} {to n : Nat} {out nx : List Int} {i : Nat} (h : Mid G to n out nx i) (hi : i < G.length) (hv : out.getD i 0 = farV G to n out i) : Mid G to n out nx (i + 1) := by
  have := h.next hi _ hv
  rwa [show nx.set i (out.getD i 0) = nx from by
    apply List.ext_getElem?
    intro q
    rw [List.getElem?_set]
    by_cases hq : i = q
    · subst hq
      have h2 := h.2 i
      rw [if_neg (by omega), List.getD_eq_getElem?_getD, List.getElem?_eq_getElem (by rw [h.1]; exact hi), Option.getD_some] at h2
      rw [if_pos rfl, if_pos (by rw [h.1]; exact hi), ← h2, List.getElem?_eq_getElem (by rw [h.1]; exact hi)]
    · rw [if_neg hq]] at this
theorem intV_set (l : List Int) (i : Nat) (v : Int) : (intV l).set i (.int .i64 v) = intV (l.set i v) := by simp [intV, List.map_set]
theorem getD_of_get {l : List Int} {i : Nat} {x : Int} (h : l[i]? = some x) : l.getD i 0 = x := by rw [List.getD_eq_getElem?_getD, h]; rfl
/-- between two rounds of Far's middle loop -/
structure FarR (w : World) (N : Nat) (out nx : List Int) (A2 : Option Addr) (c2 : Nat) (A3 : Option Addr) (c3 : Nat) (wr : World) : Prop where
  own2 : Own wr w.heap.size 3 1 A2 N c2 (intV out)
  own3 : Own wr w.heap.size 3 1 A3 N c3 (intV nx)
  low : Below w.heap.size w wr
  ne : blockOf A2 ≠ blockOf A3
theorem FarR.set {w : World} {N : Nat} {out nx : List Int} {A2 : Option Addr} {c2 : Nat} {A3 : Option Addr} {c3 : Nat} {wr : World} (h : FarR w N out nx A2 c2 A3 c3 wr) {i : Nat} (hi : i < N) :
    ∃ b o u, A3 = some ⟨b, o, none⟩ ∧ wr.cell? ⟨b, o + i, none⟩ = some u ∧ wr.frozen? ⟨b, o + i, none⟩ = false ∧ ∀ v : Int, FarR w N out (nx.set i v) A2 c2 A3 c3 (wr.setCell ⟨b, o + i, none⟩ (.int .i64 v)) := by
  obtain ⟨b, o, u, rfl, hb, hlt, hu, hc, hf, hk⟩ := h.own3.spot hi
  refine ⟨b, o, u, rfl, hc, hf, fun v => ⟨h.own2.setOther (fun e => h.ne (by rw [e]; rfl)) _, ?_, h.low.setCell hb _, h.ne⟩⟩
  rw [← intV_set]
  exact hk _
end Go.Proofs.Ytccilmnlepekeaa
