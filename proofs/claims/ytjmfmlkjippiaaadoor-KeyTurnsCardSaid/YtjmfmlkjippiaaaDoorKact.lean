/- An action in a box, and what is asked of it. -/
import Derived.Test.YtjmfmlkjippiaaaDoorKof
import Derived.Test.YtjmfmlkjippiaaaDoorEqDig
namespace Go.Proofs.YtjmfmlkjippiaaaDoor
open Go.RowKit Go.Shelf
set_option maxRecDepth 100000
/-- block g holds an action, as the cells V -/
structure ActBox (W : World) (g : Nat) (V : List Value) (L : LayA) (a : ActK) : Prop where
  heap : W.heap[g]? = some (.cells V.toArray 27 (0, 0))
  len : V.length = 7
  val : V.toArray = actV L a
  at_ : ActAt W L a
theorem ActBox.info {W : World} {g : Nat} {V : List Value} {L : LayA} {a : ActK} (h : ActBox W g V L a) : (Tryd.prog.info? 27).map (·.size) = some V.length := by rw [h.len]; exact info_act
theorem ActBox.below {W W' : World} {g : Nat} {V : List Value} {L : LayA} {a : ActK} (h : ActBox W g V L a) (hb : Below W.heap.size W W') : ActBox W' g V L a := ⟨(hb.block g (heap_lt h.heap)).trans h.heap, h.len, h.val, h.at_.below hb⟩
section
variable {W : World} {g : Nat} {V : List Value} {L : LayA} {a : ActK}
theorem ActBox.great (h : ActBox W g V L a) : Calls Tryd.prog 7 #[.agg V.toArray] W fun e w' => e = .returned (.bool (greatL a)) ∧ Below W.heap.size W w' := by rw [h.val]; exact great_any W L a h.at_
theorem ActBox.text (h : ActBox W g V L a) (hm : Mild a) (hT : Tabs W) : Calls Tryd.prog 9 #[.agg V.toArray] W fun e w' => e = .returned (.string (strB (textK a))) ∧ Below W.heap.size W w' := by rw [h.val]; exact text_any W L a h.at_ hm hT
theorem ActBox.of (h : ActBox W g V L a) (hm : Mild a) (hT : Tabs W) : Calls Tryd.prog 11 #[.agg V.toArray] W fun e w' => e = .returned (.agg (u8s (Sha.sum (textK a))).toArray) ∧ Below W.heap.size W w' := by rw [h.val]; exact of_any W L a h.at_ hm hT
theorem ActBox.rtext (h : ActBox W g V L a) (hm : Mild a) : Calls Tryd.prog 10 #[.agg V.toArray] W fun e w' => e = .returned (.string (strB (textK a))) ∧ Below W.heap.size W w' := by rw [h.val]; exact reftext_any W L a h.at_ hm
theorem ActBox.rof (h : ActBox W g V L a) (hm : Mild a) : Calls Tryd.prog 12 #[.agg V.toArray] W fun e w' => e = .returned (.agg (u8s (Sha.sum (textK a))).toArray) ∧ Below W.heap.size W w' := by rw [h.val]; exact refof_any W L a h.at_ hm
end
end Go.Proofs.YtjmfmlkjippiaaaDoor
