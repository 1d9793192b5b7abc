/- The program's far: a search by levels gives the reference's table. -/
import Derived.Test.YtccilmnlepekeaaCyc11
namespace Go.Proofs.Ytccilmnlepekeaa
open Go.RowKit
def CFarPost (w : World) (G : List (List Int)) (to : Nat) (e : Ending) (w' : World) : Prop :=
  ∃ A' c', e = .returned (.slice A' G.length c') ∧ Own w' w.heap.size 3 1 A' G.length c' (intV (dstL G to G.length)) ∧ Below w.heap.size w w'
/-- within a level -/
structure LvS (w : World) (gO : Nat) (out : List Int) (A7 : Option Addr) (c7 : Nat) (row : List Nat) (A8 : Option Addr) (c8 : Nat) (next : List Nat) (wr : World) : Prop where
  box : wr.heap[gO]? = some (.cells (intV out).toArray 3 (0, 0))
  own7 : Own wr w.heap.size 3 1 A7 row.length c7 (natV row)
  own8 : Own wr w.heap.size 3 1 A8 next.length c8 (natV next)
  low : Below w.heap.size w wr
  ge : w.heap.size ≤ gO
  n7 : blockOf A7 ≠ some gO
  n8 : blockOf A8 ≠ some gO
  n78 : ∀ b, blockOf A7 = some b → blockOf A8 ≠ some b
theorem typed_box {w : World} {g : Nat} {cs : List Value} {t : TypeId} (h : w.heap[g]? = some (.cells cs.toArray t (0, 0))) : Box w g cs := ⟨t, h⟩
theorem LvS.get {w : World} {gO : Nat} {out : List Int} {A7 : Option Addr} {c7 : Nat} {row : List Nat} {A8 : Option Addr} {c8 : Nat} {next : List Nat} {wr : World} (h : LvS w gO out A7 c7 row A8 c8 next wr) {i : Nat} {x : Int} (hx : out[i]? = some x) :
    wr.cell? ⟨gO, i, none⟩ = some (.int .i64 x) ∧ wr.frozen? ⟨gO, i, none⟩ = false :=
  ⟨by rw [(typed_box h.box).cells, intV_get hx], (typed_box h.box).free i⟩
theorem LvS.set {w : World} {gO : Nat} {out : List Int} {A7 : Option Addr} {c7 : Nat} {row : List Nat} {A8 : Option Addr} {c8 : Nat} {next : List Nat} {wr : World} (h : LvS w gO out A7 c7 row A8 c8 next wr) (i : Nat) (v : Int) :
    LvS w gO (out.set i v) A7 c7 row A8 c8 next (wr.setCell ⟨gO, i, none⟩ (.int .i64 v)) :=
  ⟨by rw [row_setCell1 h.box, intV_set], h.own7.setOther h.n7 _, h.own8.setOther h.n8 _, h.low.setCell h.ge _, h.ge, h.n7, h.n8, h.n78⟩
theorem LvS.add {w : World} {gO : Nat} {out : List Int} {A7 : Option Addr} {c7 : Nat} {row : List Nat} {A8 : Option Addr} {c8 : Nat} {next : List Nat} {wr : World} (h : LvS w gO out A7 c7 row A8 c8 next wr) {o : Obj} {k : Nat} {A3 : Option Addr} {c3 : Nat} {w3 : World}
    (hown : Own w3 w.heap.size 3 1 A3 (next.length + 1) c3 (natV next ++ [.int .i64 (k : Int)])) (hgr : (wr.alloc o).grownBy w3 (blockOf A8)) (hbl : blockOf A3 = blockOf A8 ∨ blockOf A3 = some (wr.alloc o).heap.size) :
    LvS w gO out A7 c7 row A3 c3 (next ++ [k]) w3 := by
  have hg : gO < wr.heap.size := heap_lt h.box
  refine ⟨?_, (h.own7.alloc o).grown hgr (fun b hb e => h.n78 b hb e.symm), ?_, (h.low.alloc h.low.size o).grown hgr (by rw [World.size_alloc]; have := h.low.size; omega) (fun b hb => (h.own8.block b hb).1), h.ge, h.n7, ?_, fun b hb => ?_⟩
  · rw [hgr.block gO (by rw [World.size_alloc]; omega) (fun e => h.n8 e.symm), Below.heap_alloc wr o _ hg]
    exact h.box
  · rw [List.length_append, natV_snoc]
    exact hown
  · rcases hbl with e | e
    · rw [e]; exact h.n8
    · rw [e, World.size_alloc]
      intro e2
      have := Option.some.inj e2
      omega
  · rcases hbl with e | e
    · rw [e]; exact h.n78 b hb
    · rw [e, World.size_alloc]
      intro e2
      have := Option.some.inj e2
      have := (h.own7.block b hb).2.1
      omega
theorem flat_take {α : Type} {row : List Nat} {f : Nat → List α} {p i : Nat} (h : row[p]? = some i) : (row.take (p + 1)).flatMap f = (row.take p).flatMap f ++ f i := by
  obtain ⟨hp, hx⟩ := List.getElem?_eq_some_iff.1 h
  rw [List.take_succ_eq_append_getElem hp, hx, List.flatMap_append]
  simp
theorem take_succ_some {l : List Nat} {q k : Nat} (h : l[q]? = some k) : l.take (q + 1) = l.take q ++ [k] := by
  obtain ⟨hp, hx⟩ := List.getElem?_eq_some_iff.1 h
  rw [List.take_succ_eq_append_getElem hp, hx]
theorem backs_lt {G : List (List Int)} {i k : Nat} (h : k ∈ backs G i) : k < G.length ∧ adj G k i = true := by
  rw [backs, List.mem_filter, List.mem_range] at h
  exact h
theorem seen_all {G : List (List Int)} {row : List Nat} (k : Nat) : k ∈ row.flatMap (backs G) ↔ k < G.length ∧ ∃ i, i ∈ row ∧ adj G k i = true := by
  rw [List.mem_flatMap]
  constructor
  · rintro ⟨i, h1, h2⟩
    exact ⟨(backs_lt h2).1, i, h1, (backs_lt h2).2⟩
  · rintro ⟨h1, i, h2, h3⟩
    exact ⟨i, h2, by rw [backs, List.mem_filter, List.mem_range]; exact ⟨h1, h3⟩⟩
theorem dstL_zero {G : List (List Int)} {to : Nat} {l : List Int} (hl : l.length = G.length) (h : ∀ q, q < G.length → l[q]? = some (-1)) : l.set to 0 = dstL G to 0 := by
  apply List.ext_getElem?
  intro j
  by_cases hj : j < G.length
  · have e : (dstL G to 0)[j]? = some (dstA G to 0 j) := by
      rw [dstL, List.getElem?_map, List.getElem?_range hj]; rfl
    rw [e, dstA, farA_zero]
    by_cases ht : to = j
    · subst ht
      rw [List.getElem?_set_self (by omega)]; simp
    · rw [List.getElem?_set_ne ht, h j hj, if_neg (fun e => ht e.symm), if_pos rfl]
  · rw [List.getElem?_eq_none (by rw [List.length_set]; omega), List.getElem?_eq_none (by rw [dstL, List.length_map, List.length_range]; omega)]
/-- what stands of a node that is met -/
theorem updL_test {G : List (List Int)} {to n : Nat} {next : List Nat} {k : Nat} {x : Int} (hx : (updL G to n next)[k]? = some x) (hk : k < G.length) : (x < 0 → dstA G to n k < 0 ∧ ¬ k ∈ next) ∧ (¬ x < 0 → 0 ≤ dstA G to n k ∨ k ∈ next) := by
  rw [updL_get hk] at hx
  have hx := Option.some.inj hx
  by_cases hc : next.contains k = true
  · rw [if_pos hc] at hx
    exact ⟨fun h => by omega, fun _ => .inr (List.contains_iff_mem.1 hc)⟩
  · rw [if_neg hc] at hx
    exact ⟨fun h => ⟨by omega, fun hm => hc (List.contains_iff_mem.2 hm)⟩, fun h => .inl (by omega)⟩
theorem updL_row {G : List (List Int)} {to n : Nat} {row next seen : List Nat} {i : Nat} (h : Lev G to n row) (hm : Met G to n seen next) (hi : i ∈ row) : i < G.length ∧ (updL G to n next)[i]? = some (n : Int) := by
  obtain ⟨h1, h2⟩ := (h.2 i).1 hi
  refine ⟨h1, ?_⟩
  rw [updL_get h1, if_neg, h2]
  intro hc
  have := ((hm.iff i).1 (List.contains_iff_mem.1 hc)).2.1
  omega
/-- a whole block, as a slice of one's own -/
theorem Own.ofBlock {w : World} {g n base : Nat} {t : TypeId} {cs : List Value} (h : w.heap[g]? = some (.cells cs.toArray t (0, 0))) (hb : base ≤ g) (hl : cs.length = n) (hn : n ≤ 1000) : Own w base t 1 (some ⟨g, 0, none⟩) n n cs :=
  ⟨by omega, Nat.le_refl _, by unfold maxLen; omega, .inr ⟨g, 0, cs.toArray, (0, 0), rfl, hb, h, .inl rfl, by simp; omega, fun j _ => by simp⟩⟩
end Go.Proofs.Ytccilmnlepekeaa
