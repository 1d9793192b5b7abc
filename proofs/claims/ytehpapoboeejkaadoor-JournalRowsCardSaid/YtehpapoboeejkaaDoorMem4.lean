/- One cell of an own slice, read and written. -/
import Derived.Test.YtehpapoboeejkaaDoorMem3
import Derived.Deep.DeepMust
import Derived.Deep.LoopGhost
import Derived.OwnWalk
import Derived.StillTailTactics
import Derived.BigRegion
import Derived.Outline
import Derived.Laws.Concat
import Derived.Laws.IdiomStrings
namespace Go.Proofs.YtehpapoboeejkaaDoor
open Go.RowKit
section
variable {w : World} {base n c : Nat} {t : TypeId} {A : Option Addr} {xs : List Value}
theorem Own.spot (h : Own w base t 1 A n c xs) {j : Nat} (hj : j < n) : ∃ b o u, A = some ⟨b, o, none⟩ ∧ base ≤ b ∧ b < w.heap.size ∧ xs[j]? = some u ∧ w.cell? ⟨b, o + j, none⟩ = some u ∧ w.frozen? ⟨b, o + j, none⟩ = false ∧
    ∀ v, Own (w.setCell ⟨b, o + j, none⟩ v) base t 1 A n c (xs.set j v) := by
  have hl := h.1
  have hn := h.2.1
  have hm := h.2.2.1
  obtain ⟨b, o, cur, fr, rfl, hb, hg, hf, hs, hx⟩ := h.at_ (by omega)
  have hjo : o + j < cur.size := by omega
  have hjl : j < xs.length := by omega
  refine ⟨b, o, xs[j], rfl, hb, heap_lt hg, List.getElem?_eq_getElem hjl, ?_, hf.cell hg hjo, fun v => ?_⟩
  · rw [cell_of_row w b _ cur t _ hg, hx j (by omega), List.getElem?_eq_getElem]
  · rw [setCell_eq_setRow w b (o + j) cur t fr v hg]
    refine ⟨by rw [List.length_set]; exact hl, hn, hm, .inr ⟨b, o, cur.setIfInBounds (o + j) v, fr, rfl, hb, setRow_heap w b cur _ t _ hg, by rw [Array.size_setIfInBounds]; exact hf, by rw [Array.size_setIfInBounds]; exact hs, fun i hi => ?_⟩⟩
    rw [Array.getElem?_setIfInBounds, List.getElem?_set]
    by_cases hij : j = i
    · subst hij
      have : j < xs.length := by omega
      simp [hjo, this]
    · rw [if_neg (by omega), if_neg hij, hx i (by omega)]
end
end Go.Proofs.YtehpapoboeejkaaDoor
