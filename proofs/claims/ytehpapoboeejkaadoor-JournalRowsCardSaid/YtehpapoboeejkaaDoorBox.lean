/- A block of cells of the call's own, by the list of its cells. Nothing of the program is named. -/
import Derived.Test.YtehpapoboeejkaaDoorMem4
namespace Go.Proofs.YtehpapoboeejkaaDoor
open Go.RowKit
/-- block g of w is the row of cells cs, none of them frozen -/
def Box (w : World) (g : Nat) (cs : List Value) : Prop := ∃ t, w.heap[g]? = some (.cells cs.toArray t (0, 0))
section
variable {w w' : World} {g : Nat} {cs : List Value}
theorem Box.cells (h : Box w g cs) (i : Nat) : w.cell? ⟨g, i, none⟩ = cs[i]? := by
  obtain ⟨t, h⟩ := h
  rw [cell_of_row w g i _ t _ h]
  simp
theorem Box.free (h : Box w g cs) (i : Nat) : w.frozen? ⟨g, i, none⟩ = false := by
  obtain ⟨t, h⟩ := h
  exact frozen_of_row w g i _ t h
theorem Box.lt (h : Box w g cs) : g < w.heap.size := by
  obtain ⟨t, h⟩ := h
  exact heap_lt h
theorem Box.keep (h : Box w g cs) (hk : w'.heap[g]? = w.heap[g]?) : Box w' g cs := by
  obtain ⟨t, h⟩ := h
  exact ⟨t, hk.trans h⟩
theorem Box.below {B : Nat} (h : Box w g cs) (hb : Below B w w') (hg : g < B) : Box w' g cs := h.keep (hb.block _ hg)
theorem Box.below_all (h : Box w g cs) (hb : Below w.heap.size w w') : Box w' g cs := h.below hb h.lt
theorem Box.alloc (h : Box w g cs) (o : Obj) : Box (w.alloc o) g cs := h.keep (Below.heap_alloc w o _ h.lt)
theorem Box.drew (h : Box w g cs) : Box w.drew g cs := h
theorem Box.drewN (h : Box w g cs) (n : Nat) : Box (w.drewN n) g cs := h
theorem Box.other (h : Box w g cs) {p : Addr} (hp : g ≠ p.block) (v : Value) : Box (w.setCell p v) g cs := h.keep (Below.heap_setCell w p v g hp)
theorem Box.set (h : Box w g cs) (i : Nat) (v : Value) : Box (w.setCell ⟨g, i, none⟩ v) g (cs.set i v) := by
  obtain ⟨t, h⟩ := h
  refine ⟨t, ?_⟩
  rw [setCell_eq_setRow w g i _ t _ _ h, setRow_heap w g _ _ t _ h]
  simp
theorem Box.new (w : World) (cs : List Value) (t : TypeId) : Box (w.alloc (.cells cs.toArray t)) w.heap.size cs := ⟨t, heap_alloc_new w _⟩
theorem Box.new' (w : World) (cs : List Value) (t : TypeId) {g : Nat} (hg : w.heap.size = g) : Box (w.alloc (.cells cs.toArray t)) g cs := by
  subst hg
  exact Box.new w cs t
theorem Box.grown {row : Option Nat} (h : Box w g cs) (hg : w.grownBy w' row) (hr : some g ≠ row) : Box w' g cs := h.keep (hg.block g h.lt hr)
end
end Go.Proofs.YtehpapoboeejkaaDoor
