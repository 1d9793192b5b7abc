/- Whole arrays stored and loaded, in the walk that keeps a fence. -/
import Derived.Test.YtegkjmmknjhdiaaBlob4
import Derived.OwnWalkIn
import Derived.TacticsIn
namespace Go.Proofs.Ytegkjmmknjhdiaa
open Go.RowKit
section
variable {F : Fence} {n : Nat} {P : Program} {w : World}
theorem wpIn_store_at {o : Oper} {a : Act} {K : Act → World → Prop} {Q : Exit → Act → World → Prop} (ty : TypeId) (x v : Operand) (ho : o.op = .store ty x v)
    (g off : Nat) (hx : a.eval x = .pointer (some ⟨g, off, none⟩)) (val : Value) (hv : a.eval v = val) (vs : List Value) (hvs : val.cells.toList = vs) (cur : Array Value) (t : TypeId) (hg : w.heap[g]? = some (.cells cur t (0, 0)))
    (hi : (P.info? ty).map (·.size) = some vs.length) (hfit : off + vs.length ≤ cur.size) (h1 : ∀ v ∈ vs, v.oneCell' = true)
    (h : K (a.put o.dst undef) (w.setRow g (laid cur off vs))) : o.wpIn F n P a w K Q := by
  have hst : (storeCells ⟨g, off, none⟩ vs).run P w = .ok () (w.setRow g (laid cur off vs)) := by
    have hst := run_storeCells_at P g off t vs 0 cur w hg (by omega) h1
    simp only [Nat.add_zero] at hst
    exact hst
  cases hq : P.info? ty with
  | none => simp [hq] at hi
  | some i =>
    have hs : i.size = vs.length := by simpa [hq] using hi
    have hcs : val.cells.size = vs.length := by rw [← hvs]; simp
    unfold Oper.wpIn
    refine ⟨by simp [Oper.about, ho], ?_⟩
    rw [Oper.semAt_plain F _ _ (by rw [ho]; intro c hc; cases hc)]
    unfold execOp
    simp [ho, hx, hv, Instr.storeAt, Instr.sureAddr, storeVar, sizeOf, typeInfo, hq, hs, hcs, hvs, hst]
    exact h
theorem wpListIn_store_lit {ops : Array Oper} {rest : List Oper} {a : Act} {Q : Exit → Act → World → Prop} {dst : Option Tmp} {ty tt : TypeId} {x v : Operand} {pos : String} {after : Array Edge}
    (g off : Nat) (val : Value) (vs : List Value) (hvs : val.cells.toList = vs) (cur : Array Value) (t : TypeId) (hg : w.heap[g]? = some (.cells cur t (0, 0)))
    (hi : (P.info? ty).map (·.size) = some vs.length) (hfit : off + vs.length ≤ cur.size) (h1 : ∀ v ∈ vs, v.oneCell' = true)
    (hxv : a.eval x = .pointer (some ⟨g, off, none⟩) ∧ a.eval v = val)
    (h : wpListIn F n P ops Q rest (a.put dst undef) (w.setRow g (laid cur off vs))) : wpListIn F n P ops Q (⟨dst, .store ty x v, tt, pos, after, none⟩ :: rest) a w :=
  wpListIn_plain rfl fun _ hK => wpIn_store_at ty x v rfl g off hxv.1 val hxv.2 vs hvs cur t hg hi hfit h1 (hK _ _ h)
theorem wpIn_load_at {o : Oper} {a : Act} {K : Act → World → Prop} {Q : Exit → Act → World → Prop} (ty : TypeId) (x : Operand) (ho : o.op = .load ty x) {p : Addr} {v : Value}
    (hx : a.eval x = .pointer (some p)) (hl : (loadVar ty p).run P w = .ok v w) (h : K (a.put o.dst v) w) : o.wpIn F n P a w K Q := by
  unfold Oper.wpIn
  refine ⟨by simp [Oper.about, ho], ?_⟩
  rw [Oper.semAt_plain F _ _ (by rw [ho]; intro c hc; cases hc)]
  unfold execOp
  simp [ho, hx, Instr.loadAt, Instr.sureAddr, hl]
  exact h
theorem wpListIn_load_agg {ops : Array Oper} {rest : List Oper} {a : Act} {Q : Exit → Act → World → Prop} {dst : Option Tmp} {ty tt : TypeId} {x : Operand} {pos : String} {after : Array Edge} {p : Addr} {v : Value}
    (hl : (loadVar ty p).run P w = .ok v w) (hx : a.eval x = .pointer (some p)) (h : wpListIn F n P ops Q rest (a.put dst v) w) : wpListIn F n P ops Q (⟨dst, .load ty x, tt, pos, after, none⟩ :: rest) a w :=
  wpListIn_plain rfl fun _ hK => wpIn_load_at ty x rfl hx hl (hK _ _ h)
end
theorem wpListIn_store_fresh {F : Fence} {n : Nat} {ops : Array Oper} {rest : List Oper} {a : Act} {Q : Exit → Act → World → Prop} {w1 : World} {dst : Option Tmp} {tt : TypeId} {x v : Operand} {pos : String} {after : Array Edge} (X : List UInt8) (hX : X.length = 32)
    (hxv : a.eval x = .pointer (some ⟨w1.heap.size, 0, none⟩) ∧ a.eval v = .agg (u8s X).toArray)
    (h : wpListIn F n Try.prog ops Q rest (a.put dst undef) (w1.alloc (.cells (u8s X).toArray 39))) :
    wpListIn F n Try.prog ops Q (⟨dst, .store 39 x v, tt, pos, after, none⟩ :: rest) a (w1.alloc (.cells #[Value.int IntKind.u8 0, Value.int IntKind.u8 0, Value.int IntKind.u8 0, Value.int IntKind.u8 0, Value.int IntKind.u8 0, Value.int IntKind.u8 0, Value.int IntKind.u8 0, Value.int IntKind.u8 0, Value.int IntKind.u8 0, Value.int IntKind.u8 0, Value.int IntKind.u8 0, Value.int IntKind.u8 0, Value.int IntKind.u8 0, Value.int IntKind.u8 0, Value.int IntKind.u8 0, Value.int IntKind.u8 0, Value.int IntKind.u8 0, Value.int IntKind.u8 0, Value.int IntKind.u8 0, Value.int IntKind.u8 0, Value.int IntKind.u8 0, Value.int IntKind.u8 0, Value.int IntKind.u8 0, Value.int IntKind.u8 0, Value.int IntKind.u8 0, Value.int IntKind.u8 0, Value.int IntKind.u8 0, Value.int IntKind.u8 0, Value.int IntKind.u8 0, Value.int IntKind.u8 0, Value.int IntKind.u8 0, Value.int IntKind.u8 0] 39)) := by
  refine wpListIn_store_lit w1.heap.size 0 (.agg (u8s X).toArray) (u8s X) (agg_cells _) (u8s (List.replicate 32 0)).toArray 39 (heap_alloc_new w1 _) (info_h8' hX) (fit_h hX) (u8s_one _) hxv ?_
  rw [laid_all (by rw [u8s_length, hX, List.size_toArray, u8s_length, List.length_replicate]), World.setRow_alloc_new]
  exact h
end Go.Proofs.Ytegkjmmknjhdiaa
