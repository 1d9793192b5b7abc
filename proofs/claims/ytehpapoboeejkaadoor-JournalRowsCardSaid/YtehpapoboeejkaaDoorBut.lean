/- Worlds in which nothing has turned but two blocks and what is new. -/
import Derived.Test.YtehpapoboeejkaaDoorDMap
namespace Go.Proofs.YtehpapoboeejkaaDoor
open Go.RowKit Go.Maps
/-- nothing has turned but a disk and what is new -/
structure But (p b : Nat) (w w' : World) : Prop where
  os : w'.os = w.os
  tape : w'.tape = w.tape
  output : w'.output = w.output
  size : w.heap.size ≤ w'.heap.size
  block : ∀ k, k < w.heap.size → k ≠ p → k ≠ b → w'.heap[k]? = w.heap[k]?
theorem But.refl (p b : Nat) (w : World) : But p b w w := ⟨rfl, rfl, rfl, Nat.le_refl _, fun _ _ _ _ => rfl⟩
theorem But.trans {p b : Nat} {x y z : World} (h : But p b x y) (k : But p b y z) : But p b x z :=
  ⟨k.os.trans h.os, k.tape.trans h.tape, k.output.trans h.output, Nat.le_trans h.size k.size, fun i h1 h2 h3 => (k.block i (Nat.lt_of_lt_of_le h1 h.size) h2 h3).trans (h.block i h1 h2 h3)⟩
theorem But.of_below {p b : Nat} {w w' : World} (h : Below w.heap.size w w') : But p b w w' := ⟨h.os, h.tape, h.output, h.size, fun k hk _ _ => h.block k hk⟩
theorem But.of_turn {p b : Nat} {w w' : World} (h : Turn b w w') : But p b w w' := ⟨h.1, h.2.1, h.2.2.1, by rw [h.2.2.2.1]; exact Nat.le_refl _, fun k _ _ hb => h.2.2.2.2 k hb⟩
theorem But.below {p b B : Nat} {w0 w w' : World} (h : Below B w0 w) (k : But p b w w') (hB : B ≤ w.heap.size) (hp : B ≤ p) (hb : B ≤ b) : Below B w0 w' :=
  h.trans ⟨k.os, k.tape, k.output, k.size, fun i hi => k.block i (by omega) (by omega) (by omega)⟩
theorem But.cell {p b : Nat} {w w' : World} (h : But p b w w') {q : Addr} {v : Value} (hq : w.cell? q = some v) (hp : q.block ≠ p) (hb : q.block ≠ b) : w'.cell? q = some v := by
  have hlt : q.block < w.heap.size := by
    rcases Nat.lt_or_ge q.block w.heap.size with h | h
    · exact h
    · unfold World.cell? at hq; rw [Array.getElem?_eq_none h] at hq; cases hq
  rw [← hq]; unfold World.cell?; rw [h.block q.block hlt hp hb]
end Go.Proofs.YtehpapoboeejkaaDoor
