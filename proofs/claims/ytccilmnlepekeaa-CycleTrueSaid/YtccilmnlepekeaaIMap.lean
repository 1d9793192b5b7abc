/- A set of nodes kept as a map from numbers to bools. -/
import Derived.Test.YtccilmnlepekeaaDMap
import Derived.Test.YtccilmnlepekeaaCyc2
import Derived.Maps.RangeWalk
namespace Go.Proofs.Ytccilmnlepekeaa
open Go.RowKit Go.Maps Go.WideMaps Go.WideAt Go.MapKept Go.ChangeMaps
theorem bool_inj (a b : Bool) (h : Value.bool a = Value.bool b) : a = b := by injection h
theorem zero_bool (w : World) : (zeroValue 4).run Try.prog w = .ok (.bool false) w := by kernel_rfl
theorem key_int {k : Nat} (hk : k < 1000) : keyOf Try.prog 3 (.int .i64 (k : Int)) = some (.int .i64 (k : Int)) := Maps.keyOf_int_mk Try.underlying3 (by simp [Lit.wf, IntKind.min, IntKind.max, IntKind.signed, IntKind.bits]; omega)
/-- block b holds the set of the nodes S -/
def SetI (w : World) (b n : Nat) (S : List Nat) : Prop := ∃ D : DataW Bool, w.ownsMap Try.prog 3 (elemR Value.bool) b n D ∧ ∀ k : Nat, k < 1000 → D.atKey (.int .i64 (k : Int)) (.held false) = .held (decide (k ∈ S))
theorem SetI.made (w : World) : SetI (w.alloc (.map #[] 0)) w.heap.size 0 [] := ⟨.map [], World.ownsMap_made w _ _ _, fun k _ => by simp [DataW.atKey]⟩
theorem SetI.lt {w : World} {b n : Nat} {S : List Nat} (h : SetI w b n S) : b < w.heap.size := by
  obtain ⟨D, h, _⟩ := h
  exact World.ownsMap.lt h
theorem SetI.keep {w w' : World} {b n : Nat} {S : List Nat} (h : SetI w b n S) (hb : w'.heap[b]? = w.heap[b]?) : SetI w' b n S := by
  obtain ⟨D, ⟨es, clock, hh, F, hs, hD⟩, h2⟩ := h
  exact ⟨D, ⟨es, clock, hb.trans hh, F, hs, hD⟩, h2⟩
theorem SetI.below_all {w w' : World} {b n : Nat} {S : List Nat} (h : SetI w b n S) (hb : Below w.heap.size w w') : SetI w' b n S := h.keep (hb.block _ h.lt)
theorem SetI.look {w : World} {b n : Nat} {S : List Nat} (h : SetI w b n S) {k : Nat} (hk : k < 1000) : (Instr.lookup 30 (.map (some b)) (.int .i64 (k : Int)) false).run Try.prog w = .ok (.bool (decide (k ∈ S))) w := by
  obtain ⟨D, h, h2⟩ := h
  obtain ⟨v, ps, hrun, hv⟩ := World.ownsMap.lookup h (Maps.int_keyed Try.underlying3) Try.underlying30 (zero_bool w) (elemR_mk bool_inj false) (key_int hk)
  rw [h2 k hk] at hv
  obtain ⟨a, rfl, ha⟩ := elemR_inv hv
  injection ha with ha
  subst ha
  exact hrun
theorem SetI.update {w : World} {b n : Nat} {S : List Nat} (h : SetI w b n S) (hn : n < maxLen) {k : Nat} (hk : k < 1000) :
    ∃ w', (Instr.mapUpdate 30 (.map (some b)) (.int .i64 (k : Int)) (.bool true)).run Try.prog w = .ok () w' ∧ SetI w' b (n + 1) (S ++ [k]) ∧ Turn b w w' := by
  obtain ⟨D, h, h2⟩ := h
  obtain ⟨w', hrun, h3, h4⟩ := World.ownsMap.store h (Maps.int_keyed Try.underlying3) Try.underlying30 hn (key_int hk) (elemR_mk bool_inj true)
  refine ⟨w', hrun, ⟨_, h3, fun j hj => ?_⟩, turn_of h4⟩
  by_cases e : j = k
  · subst e
    rw [Maps.atKey_put_same (World.ownsMap.isMap h) ((Maps.int_keyed Try.underlying3).key (key_int hk))]
    simp
  · rw [Maps.atKey_put_other (by simp; omega), h2 j hj]
    simp [e]
theorem wpList_set_add {w : World} {b n : Nat} {S : List Nat} {ops : Array Oper} {rest : List Oper} {a : Act} {Q : Exit → Act → World → Prop} {dst : Option Tmp} {tt : TypeId} {m x v : Operand} {pos : String} {after : Array Edge}
    (h : SetI w b n S) (hn : n < maxLen) {k : Nat} (hk : k < 1000) (hx : a.eval m = .map (some b) ∧ a.eval x = .int .i64 (k : Int) ∧ a.eval v = .bool true)
    (hK : ∀ w', SetI w' b (n + 1) (S ++ [k]) → Turn b w w' → wpList Try.prog ops Q rest (a.put dst undef) w') :
    wpList Try.prog ops Q (⟨dst, .mapUpdate 30 m x v, tt, pos, after, none⟩ :: rest) a w := by
  refine wpList_plain rfl fun K' hK' => ?_
  obtain ⟨w', hrun, r1, r2⟩ := h.update hn hk
  unfold Oper.wp
  simp [execOp, hx.1, hx.2.1, hx.2.2, hrun, Result.andThen]
  exact hK' _ _ (hK w' r1 r2)
theorem Turn.below {b B : Nat} {w0 w w' : World} (h : Turn b w w') (hb : Below B w0 w) (hB : B ≤ b) : Below B w0 w' :=
  ⟨by rw [h.1]; exact hb.os, by rw [h.2.1]; exact hb.tape, by rw [h.2.2.1]; exact hb.output, by rw [h.2.2.2.1]; exact hb.size, fun k hk => (h.2.2.2.2 k (by omega)).trans (hb.block k hk)⟩
end Go.Proofs.Ytccilmnlepekeaa
