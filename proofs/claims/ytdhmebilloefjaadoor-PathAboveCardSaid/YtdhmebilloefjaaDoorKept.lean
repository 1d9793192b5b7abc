/- A region that draws its order, whose operations read and whose callees keep what lies below a floor: walked once. -/
import Derived.Test.YtdhmebilloefjaaDoorMem2
import Derived.BigQuiet
namespace Go.Proofs.YtdhmebilloefjaaDoor
open Go.RowKit
theorem wp_region_kept {P : Program} {id : Nat} {Q : Exit → Act → World → Prop} {a : Act} {w : World} {l : List Oper} (M : World → Prop) (hM : M (w.drewN 1)) (hm : P.follows .mixedOrders = true) (hB : Region.lexB .any l.toArray = true)
    (h : wpQuiet P l.toArray M (fun a' => ∀ w', M w' → Q .normal a' w') l a) : (Code.region id l.toArray true).wp P Q a w :=
  wp_region_quiet (C := M) hm hB hM (by simpa using h)
/-- a callee's contract, met in such a region -/
theorem Calls.keptB {P : Program} {f : FuncId} {args : Array Value} {B : Nat} {w0 w : World} {v : Value} (hM : Below B w0 w) (hB : B ≤ w0.heap.size)
    (h : Calls P f args w fun e w' => e = .returned v ∧ Below w.heap.size w w') : Calls P f args w fun e w'' => e = .returned v ∧ Below B w0 w'' :=
  h.mono fun _ _ ⟨he, hb⟩ => ⟨he, hM.trans (hb.mono (Nat.le_trans hB hM.size))⟩
end Go.Proofs.YtdhmebilloefjaaDoor
