/- A store's Drop; a nil store; Check. -/
import Derived.Test.YtegkjmmknjhdiaaBlob2
namespace Go.Proofs.Ytegkjmmknjhdiaa
open Go.RowKit Go.Maps
theorem wpList_drop_key {α : Type} {enc : α → Value} {w : World} {P : Program} {k t e : TypeId} {b n : Nat} {M : Tab α} {ops : Array Oper} {rest : List Oper} {a : Act} {Q : Exit → Act → World → Prop} {dst : Option Tmp} {tt : TypeId} {m x : Operand} {pos : String} {after : Array Edge}
    (h : MapIs w P k enc b n M) (K : Keyed P k) (ht : P.underlying t = some (.map k e)) (u : Value) (kk : List UInt8) (hk : keyOf P k u = some (.string kk))
    (hx : a.eval m = .map (some b) ∧ a.eval x = u)
    (hK : ∀ w', MapIs w' P k enc b n (delM M kk) → Turn b w w' → wpList P ops Q rest (a.put dst (.tuple #[])) w') :
    wpList P ops Q (⟨dst, .call ⟨.builtin .delete, #[m, x], #[t, k]⟩, tt, pos, after, none⟩ :: rest) a w := by
  refine wpList_plain rfl fun K' hK' => ?_
  obtain ⟨w', hrun, r1, r2⟩ := h.drop_key K ht hk tt
  unfold Oper.wp
  simp [execOp, resolve, invoke, builtin, hx.1, hx.2, hrun, Result.andThen]
  exact hK' _ _ (hK w' r1 r2)
theorem get_nil (w : World) (d : List UInt8) (_ : d.length = 32) :
    Calls Try.prog 27 #[.pointer none, digV d] w fun e w' => e = .returned (.tuple #[.string ⟨#[]⟩, .bool false]) ∧ Below w.heap.size w w' := by
  obtain ⟨cs, hcs⟩ : ∃ cs, cs = (u8s d).toArray := ⟨_, rfl⟩
  have hD : digV d = .agg cs := by rw [hcs]; rfl
  rw [hD]
  clear hcs hD
  go_enter Try.func27, Try.ntmps27
  go_wp2_with fail
  go_ret2
  exact ⟨rfl, (Below.refl _ _).alloc (Nat.le_refl _) _⟩
theorem all_nil (w : World) : Calls Try.prog 34 #[.pointer none] w fun e w' => e = .returned (.slice none 0 0) ∧ w' = w := by
  go_enter Try.func34, Try.ntmps34
  go_wp2_with fail
  go_ret
  exact ⟨rfl, rfl⟩
set_option maxRecDepth 100000 in
set_option maxHeartbeats 400000 in
theorem drop_nil (w : World) (d : List UInt8) (hd : d.length = 32) :
    Calls Try.prog 28 #[.pointer none, digV d] w fun e w' => e = .returned (.bool false) ∧ Below w.heap.size w w' := by
  have hD : digV d = .agg (u8s d).toArray := rfl
  rw [hD]
  have hrow := heap_alloc_new w (.cells (u8s d).toArray 39)
  have HROW := hid2 hrow
  have hget := fun W : World => get_nil W d hd
  have HGET := hid2 hget
  clear hrow hD hget
  go_enter Try.func28, Try.ntmps28
  go_wp2_with (first
    | ((with_reducible refine wpList_load_lit w.heap.size 0 _ _ _ HROW.out (u8s d) (fun j _ => getElem?_zero_add _ j) _ Try.underlying39 (info_h8' hd) ?_ ?_); exact ⟨rfl, rfl⟩)
    | (go_at_call 27; refine (HGET.out _).mono ?_; rintro e w2 ⟨rfl, hb2⟩; have HB2 := hid2 (((Below.refl _ _).alloc (Nat.le_refl _) _).trans (hb2.mono (by simp))); clear hb2))
  go_ret
  exact ⟨rfl, HB2.out⟩
set_option maxRecDepth 100000 in
set_option maxHeartbeats 400000 in
theorem drop_any (w : World) (p b n : Nat) (M : Tab (List UInt8)) (z : Int) (h : StoreIs w p b n M z) (hz : 0 ≤ z ∧ z ≤ 1000000000) (d : List UInt8) (hd : d.length = 32) (hfl : ((getM M d).getD []).length ≤ 1000000000) :
    Calls Try.prog 28 #[.pointer (some ⟨p, 0, none⟩), digV d] w fun e w' => e = .returned (.bool (getM M d).isSome) ∧
      StoreIs w' p b n (if (getM M d).isSome = true then delM M d else M) (if (getM M d).isSome = true then z - ((getM M d).getD []).length else z) ∧ But p b w w' := by
  have hlt := h.lt
  have hne := h.ne
  obtain ⟨G, hG⟩ : ∃ G, G = w.heap.size := ⟨_, rfl⟩
  obtain ⟨W1, hW1⟩ : ∃ W1, W1 = w.alloc (.cells (u8s d).toArray 39) := ⟨_, rfl⟩
  have hrow : W1.heap[G]? = some (.cells (u8s d).toArray 39 (0, 0)) := by rw [hW1, hG]; exact heap_alloc_new w _
  have hb1 : Below w.heap.size w W1 := by rw [hW1]; exact (Below.refl _ _).alloc (Nat.le_refl _) _
  have hz1 : W1.heap.size = G + 1 := by rw [hW1, hG, World.size_alloc]
  have hst1 := h.below hb1 hlt.1 hlt.2
  have hget := get_any W1 p b n M z hst1 d hd
  obtain ⟨x, hx⟩ : ∃ x, x = strB ((getM M d).getD []) := ⟨_, rfl⟩
  have hxs : (x.size : Int) = ((getM M d).getD []).length := by rw [hx, strB_size]
  have hxb : x.size ≤ 1000000000 := by rw [hx, strB_size]; exact hfl
  obtain ⟨ok, hok⟩ : ∃ ok, ok = (getM M d).isSome := ⟨_, rfl⟩
  rw [← hx, ← hok] at hget
  rw [← hxs, ← hok]
  have hw : IntKind.i64.wrap (z - (x.size : Int)) = z - x.size := IntWalk.i64_in _ (by constructor <;> omega)
  obtain ⟨M2, hM2⟩ : ∃ M2, M2 = if ok = true then delM M d else M := ⟨_, rfl⟩
  obtain ⟨z2, hz2⟩ : ∃ z2, z2 = if ok = true then z - x.size else z := ⟨_, rfl⟩
  rw [← hM2, ← hz2]
  have HM2 := hid2 hM2
  have HZ2 := hid2 hz2
  have HG := hid2 hG
  have HW1 := hid2 hW1
  have HROW := hid2 hrow
  have HB1 := hid2 hb1
  have HST1 := hid2 hst1
  have HGET := hid2 hget
  have hGp : p < G ∧ b < G := by omega
  have hD : digV d = .agg (u8s d).toArray := rfl
  rw [hD]
  clear hG hW1 hrow hb1 hst1 hget hx hxs hok hM2 hz2 h hD hfl
  cases ok
  · go_enter Try.func28, Try.ntmps28
    go_wp2_with (first
      | (rw [← HG.out, ← HW1.out]; (with_reducible refine wpList_load_lit G 0 _ _ _ HROW.out (u8s d) (fun j _ => getElem?_zero_add _ j) _ Try.underlying39 (info_h8' hd) ?_ ?_); exact ⟨rfl, rfl⟩)
      | (go_at_call 27; refine HGET.out.mono ?_; rintro e w2 ⟨rfl, hb2⟩; have HST2 := hid2 (HST1.out.below hb2 HST1.out.lt.1 HST1.out.lt.2); have HB2 := hid2 (HB1.out.trans (hb2.mono HB1.out.size)); clear hb2))
    go_ret
    refine ⟨rfl, ?_, But.of_below HB2.out⟩
    rw [show M2 = M by simpa using HM2.out, show z2 = z by simpa using HZ2.out]
    exact HST2.out
  · go_enter Try.func28, Try.ntmps28
    go_wp2_with (first
      | (rw [← HG.out, ← HW1.out]; (with_reducible refine wpList_load_lit G 0 _ _ _ HROW.out (u8s d) (fun j _ => getElem?_zero_add _ j) _ Try.underlying39 (info_h8' hd) ?_ ?_); exact ⟨rfl, rfl⟩)
      | (go_at_call 27; refine HGET.out.mono ?_; rintro e w2 ⟨rfl, hb2⟩; have hst2 := HST1.out.below hb2 HST1.out.lt.1 HST1.out.lt.2; have e1 : w2.cell? ⟨p, 1, none⟩ = some (.int .i64 z) := hst2.box.cells 1; have f1 : w2.frozen? ⟨p, 1, none⟩ = false := hst2.box.free 1; have HST2 := hid2 hst2; have HB2 := hid2 (HB1.out.trans (hb2.mono HB1.out.size)); have HR2 : Hid2 (w2.heap[G]? = some (.cells (u8s d).toArray 39 (0, 0))) := hid2 ((hb2.block G (by omega)).trans HROW.out); clear hb2 hst2))
    obtain ⟨W6, hW6⟩ : ∃ W6, W6 = w2.setCell ⟨p, 1, none⟩ (.int .i64 (z - x.size)) := ⟨_, rfl⟩
    rw [← hW6]
    have hst6 : StoreIs W6 p b n M (z - x.size) := by
      rw [hW6]
      refine ⟨?_, HST2.out.map.setCell _ _ (fun e => hne e.symm)⟩
      rw [setCell_eq_setRow w2 p 1 _ _ _ _ HST2.out.obj]
      exact setRow_heap w2 p _ _ _ _ HST2.out.obj
    have hr6 : W6.heap[G]? = some (.cells (u8s d).toArray 39 (0, 0)) := by rw [hW6]; exact (Below.heap_setCell _ _ _ G (by simp; omega)).trans HR2.out
    have hb6 : But p b w W6 := by rw [hW6]; exact (But.of_below HB2.out).trans (But.set1 p b w2 1 _)
    have d0 : W6.cell? ⟨p, 0, none⟩ = some (.map (some b)) := hst6.box.cells 0
    have hld : (loadVar 39 ⟨G, 0, none⟩).run Try.prog W6.drew = .ok (.agg (u8s d).toArray) W6.drew :=
      run_loadVar_row W6.drew G 39 39 _ (0, 0) _ hr6 Try.underlying39 rfl (by rw [List.size_toArray]; exact info_h8' hd)
    have hm6 : MapIs W6.drew Try.prog 39 encS b n M := hst6.map
    have hky : keyOf Try.prog 39 (.agg (u8s d).toArray) = some (.string d) := by have := keyOf_dig hd; rwa [kb_eq] at this
    have HST6 := hid2 hst6
    have HB6 := hid2 hb6
    have HLD := hid2 hld
    have HM6 := hid2 hm6
    have HKY := hid2 hky
    clear hW6 hst6 hr6 hb6 hld hm6 hky e1 f1
    go_wp2_with fail
    refine wp_region_still_tail 5 (by kernel_rfl) (by kernel_rfl) ?_
    simp only [List.take_succ_cons, List.take_zero, List.drop_succ_cons, List.drop_zero]
    repeat (first | (((refine wpStill_agg (p := ⟨G, 0, none⟩) rfl HLD.out ?_); simp only [Act.put, List.setIfInBounds_toArray, List.set_cons_succ, List.set_cons_zero])) | still_step)
    try refine wpStill_nil ?_
    change wpList _ _ _ _ _ W6.drew
    go_wp2_with (at_delete; go_must ((with_reducible refine wpList_drop_key HM6.out keyed_dig Try.underlying76 (.agg (u8s d).toArray) d HKY.out ?_ ?_); exact ⟨rfl, rfl⟩; intro w5 hm5 ht5; have HM5 := hid2 hm5; have HT5 := hid2 ht5; clear hm5 ht5))
    go_ret
    refine ⟨rfl, ?_, (HB6.out.trans (But.of_below (Below.refl _ _).drew)).trans (But.of_turn HT5.out)⟩
    rw [show M2 = delM M d by simpa using HM2.out, show z2 = z - x.size by simpa using HZ2.out]
    exact ⟨(HT5.out.2.2.2.2 p hne).trans HST6.out.obj, HM5.out⟩
end Go.Proofs.Ytegkjmmknjhdiaa
