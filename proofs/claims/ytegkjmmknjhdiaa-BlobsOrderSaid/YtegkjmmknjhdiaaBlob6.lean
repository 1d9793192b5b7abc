/- slices.AppendSeq and slices.Collect at digests, against whatever iterator of digests. -/
import Derived.Test.YtegkjmmknjhdiaaBlob5
import Derived.Test.YtegkjmmknjhdiaaRangeS
import Derived.Great.BuildSlice
import Derived.Shelf.SlIter.Collect
namespace Go.Proofs.Ytegkjmmknjhdiaa
open Go.RowKit Go.Maps
/-! one part that fills a composite whole -/
theorem foldl_lay : ∀ (l : List Value) (k : Nat) (acc : Array Value), k + l.length ≤ acc.size →
    ((l.zipIdx k).foldl (fun (cs : Array Value) (p : Value × Nat) => cs.setIfInBounds p.2 p.1) acc).toList = acc.toList.take k ++ l ++ acc.toList.drop (k + l.length)
  | [], k, acc, _ => by simp
  | v :: l, k, acc, h => by
    have hk : k < acc.size := by rw [List.length_cons] at h; omega
    have h' : k + 1 + l.length ≤ (acc.setIfInBounds k v).size := by rw [Array.size_setIfInBounds]; rw [List.length_cons] at h; omega
    rw [List.zipIdx_cons, List.foldl_cons, foldl_lay l (k + 1) _ h', Array.toList_setIfInBounds, List.take_add_one, List.take_set_of_le (Nat.le_refl k), List.drop_set_of_lt (by omega), List.getElem?_set_self (by rw [Array.length_toList]; exact hk)]
    simp [Nat.add_assoc, Nat.add_comm 1]
theorem fill_one (sz : Nat) (cs : Array Value) (v : Value) (h1 : v.cells.size = sz) (h2 : cs.size = sz) : Instr.fill (fun i => some (i * sz, sz)) cs [(0, v)] = some v.cells := by
  have h := foldl_lay v.cells.toList 0 cs (by rw [Array.length_toList]; omega)
  rw [List.take_zero, List.nil_append, List.drop_of_length_le (by rw [Array.length_toList, Array.length_toList]; omega), List.append_nil] at h
  have h3 : v.cells.zipIdx.foldl (fun (cs : Array Value) (p : Value × Nat) => cs.setIfInBounds p.2 p.1) cs = v.cells := by
    rw [← Array.foldl_toList, Array.toList_zipIdx]
    exact Array.toList_inj.1 h
  unfold Instr.fill
  simp only [Nat.zero_mul, h1, ne_eq, not_true, decide_false, Nat.zero_add, h2, gt_iff_lt, Nat.lt_irrefl, Bool.or_self, Bool.false_eq_true, if_false]
  unfold Instr.fill
  exact congrArg some h3
theorem run_build_one {P : Program} (w : World) (t e : TypeId) (v z : Value) (sz : Nat) (hu : P.underlying t = some (.slice e)) (hi : (P.info? e).map (fun i => (i.zero, i.size)) = some (some z, sz)) (hz : z.cells.size = sz) (hv : v.cells.size = sz) (h0 : 0 < sz) (hs : sz ≤ 16777216) :
    (Instr.buildSlice t 1 #[(0, v)]).run P w = .ok (.slice (some ⟨w.heap.size, 0, none⟩) 1 1) (w.alloc (.cells v.cells e)) := by
  cases hq : P.info? e with
  | none => rw [hq] at hi; cases hi
  | some ie =>
    rw [hq] at hi
    simp only [Option.map_some, Option.some.injEq, Prod.mk.injEq] at hi
    obtain ⟨h2, h3⟩ := hi
    refine run_buildSlice w t e 1 _ v.cells ie z hu hq h2 (by rw [h3]; omega) (by rw [h3]; omega) ?_
    rw [h3]
    exact fill_one sz _ v hv (by simp)
theorem wpListIn_build_one {F : Fence} {n : Nat} {P : Program} {w : World} {ops : Array Oper} {rest : List Oper} {a : Act} {Q : Exit → Act → World → Prop} {dst : Option Tmp} {t tt : TypeId} {x : Operand} {pos : String} {after : Array Edge}
    (e : TypeId) (v z : Value) (sz : Nat) (hu : P.underlying t = some (.slice e)) (hi : (P.info? e).map (fun i => (i.zero, i.size)) = some (some z, sz)) (hz : z.cells.size = sz) (hv : v.cells.size = sz) (h0 : 0 < sz) (hs : sz ≤ 16777216)
    (hx : a.eval x = v) (h : wpListIn F n P ops Q rest (a.put dst (.slice (some ⟨w.heap.size, 0, none⟩) 1 1)) (w.alloc (.cells v.cells e))) :
    wpListIn F n P ops Q (⟨dst, .buildSlice t 1 #[(0, x)], tt, pos, after, none⟩ :: rest) a w :=
  wpListIn_plain rfl fun K hK => by
    unfold Oper.wpIn
    refine ⟨by simp [Oper.about], ?_⟩
    rw [Oper.semAt_plain F _ _ (by intro c hc; cases hc)]
    unfold execOp
    simp only [Sem.run_bind, Array.map, hx]
    have := run_build_one (P := P) w t e v z sz hu hi hz hv h0 hs
    simp [hx, this]
    exact hK _ _ h
theorem zero_dig : (Try.prog.info? 39).map (fun i => (i.zero, i.size)) = some (some (digV (List.replicate 32 0)), 32) := by kernel_rfl
theorem info_dig : (Try.prog.info? 39).map (fun i => (i.zero, i.size, i.bytes)) = some (some (digV (List.replicate 32 0)), 32, 32) := by kernel_rfl
end Go.Proofs.Ytegkjmmknjhdiaa
