/- A store's Put. -/
import Derived.Test.YtegkjmmknjhdiaaBlob1
import Derived.Test.YtegkjmmknjhdiaaJp1
import Derived.Test.YtegkjmmknjhdiaaBut
import Derived.Test.YtegkjmmknjhdiaaReg3
import Derived.Test.YtegkjmmknjhdiaaStr
import Derived.StillTailTactics
namespace Go.Proofs.Ytegkjmmknjhdiaa
open Go.RowKit Go.Maps
theorem wpStill_agg {P : Program} {ops : Array Oper} {w : World} {Q : Act → Prop} {rest : List Oper} {a : Act} {dst : Option Tmp} {ty tt : TypeId} {x : Operand} {pos : String} {after : Array Edge} {p : Addr} {v : Value}
    (hx : a.eval x = .pointer (some p)) (hl : (loadVar ty p).run P w = .ok v w) (h : wpStill P ops w Q rest (a.put dst v)) : wpStill P ops w Q (⟨dst, .load ty x, tt, pos, after, none⟩ :: rest) a := by
  have hw : Region.wanted ⟨dst, .load ty x, tt, pos, after, none⟩ (yielded ops a.tmps) = true := rfl
  unfold wpStill
  rw [if_pos hw]
  unfold Oper.still execOp
  simp [hx, Instr.loadAt, Instr.sureAddr, hl, Oper.stillUpon]
  exact h
theorem wpList_update_key {α : Type} {enc : α → Value} {w : World} {P : Program} {k t e : TypeId} {b n : Nat} {M : Tab α} {ops : Array Oper} {rest : List Oper} {a : Act} {Q : Exit → Act → World → Prop} {dst : Option Tmp} {tt : TypeId} {m x v : Operand} {pos : String} {after : Array Edge}
    (h : MapIs w P k enc b n M) (hinj : ∀ a b, enc a = enc b → a = b) (K : Keyed P k) (ht : P.underlying t = some (.map k e)) (hn : n < maxLen) (u : Value) (kk : List UInt8) (hk : keyOf P k u = some (.string kk)) (y : α)
    (hx : a.eval m = .map (some b) ∧ a.eval x = u ∧ a.eval v = enc y)
    (hK : ∀ w', MapIs w' P k enc b (n + 1) (putM M kk y) → Turn b w w' → wpList P ops Q rest (a.put dst undef) w') :
    wpList P ops Q (⟨dst, .mapUpdate t m x v, tt, pos, after, none⟩ :: rest) a w := by
  refine wpList_plain rfl fun K' hK' => ?_
  obtain ⟨w', hrun, r1, r2⟩ := h.update_key hinj K ht hn hk y
  unfold Oper.wp
  simp [execOp, hx.1, hx.2.1, hx.2.2, hrun, Result.andThen]
  exact hK' _ _ (hK w' r1 r2)
theorem zeros_lit : (u8s (List.replicate 32 0)).toArray = #[Value.int IntKind.u8 0, Value.int IntKind.u8 0, Value.int IntKind.u8 0, Value.int IntKind.u8 0, Value.int IntKind.u8 0, Value.int IntKind.u8 0, Value.int IntKind.u8 0, Value.int IntKind.u8 0, Value.int IntKind.u8 0, Value.int IntKind.u8 0, Value.int IntKind.u8 0, Value.int IntKind.u8 0, Value.int IntKind.u8 0, Value.int IntKind.u8 0, Value.int IntKind.u8 0, Value.int IntKind.u8 0, Value.int IntKind.u8 0, Value.int IntKind.u8 0, Value.int IntKind.u8 0, Value.int IntKind.u8 0, Value.int IntKind.u8 0, Value.int IntKind.u8 0, Value.int IntKind.u8 0, Value.int IntKind.u8 0, Value.int IntKind.u8 0, Value.int IntKind.u8 0, Value.int IntKind.u8 0, Value.int IntKind.u8 0, Value.int IntKind.u8 0, Value.int IntKind.u8 0, Value.int IntKind.u8 0, Value.int IntKind.u8 0] := rfl
/-- the sum of one text -/
theorem sum_one (W : World) (g : Nat) (s : ByteArray) (hs : s.size ≤ 1000000000) (hr : Rd W 1 (some ⟨g, 0, none⟩) 1 [.string s]) :
    Calls Try.prog 31 #[.slice (some ⟨g, 0, none⟩) 1 1] W fun e w' => e = .returned (.agg (u8s (Sha.sum s.data.toList)).toArray) ∧ Below W.heap.size W w' := by
  have hf : flat [s] = s.data.toList := by show s.data.toList ++ [] = _; rw [List.append_nil]
  have h := ssum_any W (some ⟨g, 0, none⟩) 1 1 [s] hr (by unfold maxLen; omega) (by rw [hf, toList_length]; omega)
  rw [hf] at h
  exact h
set_option maxRecDepth 100000 in
set_option maxHeartbeats 400000 in
theorem put_nil (w : World) (s : ByteArray) (hs : s.size ≤ 1000000000) :
    Calls Try.prog 30 #[.pointer none, .string s] w fun e w' => e = .returned (digV (Sha.sum s.data.toList)) ∧ Below w.heap.size w w' := by
  obtain ⟨X, hX⟩ : ∃ X, X = Sha.sum s.data.toList := ⟨_, rfl⟩
  have hXl : X.length = 32 := by rw [hX]; exact sum_len _
  have hsum := fun (W : World) (g : Nat) (hr : Rd W 1 (some ⟨g, 0, none⟩) 1 [.string s]) => sum_one W g s hs hr
  rw [← hX] at hsum ⊢
  have HSUM := hid2 hsum
  obtain ⟨W1, hW1⟩ : ∃ W1, W1 = (w.alloc (.cells (u8s (List.replicate 32 0)).toArray 39)).alloc (.cells #[.string s] 9) := ⟨_, rfl⟩
  have hR1 : ResAt w W1 := by rw [hW1]; exact (ResAt.start w).ext ((Below.refl _ _).alloc (Nat.le_refl _) _)
  have hrd : Rd W1 1 (some ⟨w.heap.size + 1, 0, none⟩) 1 [.string s] := by
    rw [hW1]
    have := Rd.one (w.alloc (.cells (u8s (List.replicate 32 0)).toArray 39)) (.string s) 9
    rwa [World.size_alloc] at this
  have HR1 := hid2 hR1
  have HRD := hid2 hrd
  rw [zeros_lit] at hW1
  have HW1 := hid2 hW1
  clear hX hsum hR1 hrd hW1
  go_enter Try.func30, Try.ntmps30
  go_wp2_with (first
    | (go_at_call 31; rw [← HW1.out]; refine (HSUM.out _ _ HRD.out).mono ?_; rintro e w2 ⟨rfl, hb2⟩; have HR2 := hid2 (HR1.out.ext hb2); clear hb2)
    | ((with_reducible refine wpList_store_fresh X hXl ?_ ?_); exact ⟨rfl, rfl⟩; have hR3 := HR2.out.ext ((Below.refl _ _).alloc (Nat.le_refl _) (.cells (u8s X).toArray 39)); have hrow := heap_alloc_new w2 (.cells (u8s X).toArray 39); have HR3 := hid2 hR3; have HROW := hid2 hrow; clear hR3 hrow)
    | ((with_reducible refine wpList_load_lit w2.heap.size 0 _ _ _ HROW.out (u8s X) (fun j _ => getElem?_zero_add _ j) _ Try.underlying39 (info_h8' hXl) ?_ ?_); exact ⟨rfl, rfl⟩)
    | ((with_reducible refine wpList_store_lit w.heap.size 0 (.agg (u8s X).toArray) (u8s X) (agg_cells _) _ _ HR3.out.row (info_h8' hXl) (fit_h hXl) (u8s_one _) ?_ ?_); exact ⟨rfl, rfl⟩))
  exact bodyPost_ret (v := .agg (u8s X).toArray) (results_cell_row rfl _ _ _ 39 _ (0, 0) _ rfl (ResAt.wrote HR3.out _ hXl) Try.underlying39 rfl (by rw [List.size_toArray]; exact info_h8' hXl)) rfl ⟨rfl, ResAt.below2 HR3.out _⟩
theorem wrote_row {wr : World} {g : Nat} (h : wr.heap[g]? = some (.cells (u8s (List.replicate 32 0)).toArray 39 (0, 0))) (L : List UInt8) (hL : L.length = 32) :
    (wr.setRow g (laid (u8s (List.replicate 32 0)).toArray 0 (u8s L))).heap[g]? = some (.cells (u8s L).toArray 39 (0, 0)) := by
  have hr := setRow_heap wr g _ (laid (u8s (List.replicate 32 0)).toArray 0 (u8s L)) _ _ h
  rw [laid_all (by rw [u8s_length, hL, List.size_toArray, u8s_length, List.length_replicate])] at hr ⊢
  exact hr
theorem But.low {p b : Nat} {x y z : World} (h : But p b x y) (k : Below x.heap.size y z) : But p b x z :=
  ⟨k.os.trans h.os, k.tape.trans h.tape, k.output.trans h.output, Nat.le_trans h.size k.size, fun i h1 h2 h3 => (k.block i h1).trans (h.block i h1 h2 h3)⟩
theorem But.set1 (p b : Nat) (w : World) (o : Nat) (v : Value) : But p b w (w.setCell ⟨p, o, none⟩ v) :=
  ⟨rfl, rfl, rfl, by rw [World.size_setCell]; exact Nat.le_refl _, fun k _ hk _ => Below.heap_setCell _ _ _ k hk⟩
set_option maxRecDepth 100000 in
set_option maxHeartbeats 400000 in
theorem put_any (w : World) (p b n : Nat) (M : Tab (List UInt8)) (z : Int) (h : StoreIs w p b n M z) (hn : n ≤ 1000000) (hz : 0 ≤ z ∧ z ≤ 1000000000) (s : ByteArray) (hs : s.size ≤ 1000000000) :
    Calls Try.prog 30 #[.pointer (some ⟨p, 0, none⟩), .string s] w fun e w' => e = .returned (digV (Sha.sum s.data.toList)) ∧
      StoreIs w' p b (if (getM M (Sha.sum s.data.toList)).isSome = true then n else n + 1) (if (getM M (Sha.sum s.data.toList)).isSome = true then M else putM M (Sha.sum s.data.toList) s.data.toList) (if (getM M (Sha.sum s.data.toList)).isSome = true then z else z + s.size) ∧ But p b w w' := by
  have hlt := h.lt
  have hne := h.ne
  obtain ⟨X, hX⟩ : ∃ X, X = Sha.sum s.data.toList := ⟨_, rfl⟩
  have hXl : X.length = 32 := by rw [hX]; exact sum_len _
  have hsum := fun (W : World) (g : Nat) (hr : Rd W 1 (some ⟨g, 0, none⟩) 1 [.string s]) => sum_one W g s hs hr
  rw [← hX] at hsum ⊢
  have hw : IntKind.i64.wrap (z + (s.size : Int)) = z + s.size := IntWalk.i64_in _ (by constructor <;> omega)
  have HSUM := hid2 hsum
  obtain ⟨W1, hW1⟩ : ∃ W1, W1 = (w.alloc (.cells (u8s (List.replicate 32 0)).toArray 39)).alloc (.cells #[.string s] 9) := ⟨_, rfl⟩
  have hR1 : ResAt w W1 := by rw [hW1]; exact (ResAt.start w).ext ((Below.refl _ _).alloc (Nat.le_refl _) _)
  have hrd : Rd W1 1 (some ⟨w.heap.size + 1, 0, none⟩) 1 [.string s] := by
    rw [hW1]
    have := Rd.one (w.alloc (.cells (u8s (List.replicate 32 0)).toArray 39)) (.string s) 9
    rwa [World.size_alloc] at this
  have HR1 := hid2 hR1
  have HRD := hid2 hrd
  rw [zeros_lit] at hW1
  have HW1 := hid2 hW1
  have HST := hid2 h
  obtain ⟨ok, hok⟩ : ∃ ok, ok = (getM M X).isSome := ⟨_, rfl⟩
  obtain ⟨x, hx⟩ : ∃ x, x = strB ((getM M X).getD []) := ⟨_, rfl⟩
  rw [← hok]
  obtain ⟨M2, hM2⟩ : ∃ M2, M2 = if ok = true then M else putM M X s.data.toList := ⟨_, rfl⟩
  obtain ⟨z2, hz2⟩ : ∃ z2, z2 = if ok = true then z else z + s.size := ⟨_, rfl⟩
  obtain ⟨n2, hn2⟩ : ∃ n2, n2 = if ok = true then n else n + 1 := ⟨_, rfl⟩
  rw [← hM2, ← hz2, ← hn2]
  have HM2 := hid2 hM2
  have HZ2 := hid2 hz2
  have HN2 := hid2 hn2
  clear hM2 hz2 hn2
  have HOK := hid2 hok
  have HX2 := hid2 hx
  clear hX hsum hR1 hrd hW1 h hok hx
  go_enter Try.func30, Try.ntmps30
  go_wp2_with (first
    | (go_at_call 31; rw [← HW1.out]; refine (HSUM.out _ _ HRD.out).mono ?_; rintro e w2 ⟨rfl, hb2⟩; have HR2 := hid2 (HR1.out.ext hb2); clear hb2)
    | ((with_reducible refine wpList_store_fresh X hXl ?_ ?_); exact ⟨rfl, rfl⟩))
  obtain ⟨W3, hW3⟩ : ∃ W3, W3 = w2.alloc (.cells (u8s X).toArray 39) := ⟨_, rfl⟩
  obtain ⟨G, hG⟩ : ∃ G, G = w2.heap.size := ⟨_, rfl⟩
  rw [← hW3, ← hG]
  have hR3 : ResAt w W3 := by rw [hW3]; exact HR2.out.ext ((Below.refl _ _).alloc (Nat.le_refl _) _)
  have hrow : W3.heap[G]? = some (.cells (u8s X).toArray 39 (0, 0)) := by rw [hW3, hG]; exact heap_alloc_new w2 _
  have hGw : w.heap.size < G := by have := HR2.out.size; omega
  have hst3 := HST.out.below hR3.below hlt.1 hlt.2
  have c0 : W3.cell? ⟨p, 0, none⟩ = some (.map (some b)) := hst3.box.cells 0
  have hld : ∀ m, (loadVar 39 ⟨G, 0, none⟩).run Try.prog (W3.drewN m) = .ok (.agg (u8s X).toArray) (W3.drewN m) := fun m =>
    run_loadVar_row (W3.drewN m) G 39 39 _ (0, 0) _ hrow Try.underlying39 rfl (by rw [List.size_toArray]; exact info_h8' hXl)
  have hlk := fun m => (hst3.below (below_drewN (Below.refl W3.heap.size W3) m) hst3.lt.1 hst3.lt.2).look hXl
  rw [← HX2.out, ← HOK.out] at hlk
  have HR3 := hid2 hR3
  have HROW := hid2 hrow
  have HST3 := hid2 hst3
  have HLD := hid2 hld
  unfold digV at hlk
  clear hW3 hG hR3 hrow hst3 hld
  refine wp_region_quiet_lit (by kernel_rfl) (by kernel_rfl) ?_
  repeat (first | go_big_quiet_step (fail) | (((refine wpQuiet_agg (p := ⟨G, 0, none⟩) rfl (by rintro _ ⟨m, rfl⟩; exact HLD.out m) ?_); simp only [Act.put, List.setIfInBounds_toArray, List.set_cons_succ, List.set_cons_zero])))
  refine wpQuiet_nil ?_
  intro _ hw'
  obtain ⟨nq, hw''⟩ := hw'
  subst hw''
  obtain ⟨W4, hW4⟩ : ∃ W4, W4 = W3.drewN nq := ⟨_, rfl⟩
  rw [← hW4]
  have hR4 : ResAt w W4 := by rw [hW4]; exact ⟨HR3.out.row, below_drewN HR3.out.below nq⟩
  have hrow4 : W4.heap[G]? = some (.cells (u8s X).toArray 39 (0, 0)) := by rw [hW4]; exact HROW.out
  have hst4 : StoreIs W4 p b n M z := by rw [hW4]; exact HST3.out.below (below_drewN (Below.refl W3.heap.size W3) nq) HST3.out.lt.1 HST3.out.lt.2
  have hld4 : (loadVar 39 ⟨G, 0, none⟩).run Try.prog W4.drew = .ok (.agg (u8s X).toArray) W4.drew := by rw [hW4]; exact HLD.out (nq + 1)
  have d0 : W4.cell? ⟨p, 0, none⟩ = some (.map (some b)) := hst4.box.cells 0
  have HR4 := hid2 hR4
  have HROW4 := hid2 hrow4
  have HST4 := hid2 hst4
  have HLD4 := hid2 hld4
  clear hW4 hR4 hrow4 hst4 hld4 hlk c0
  cases ok
  · go_wp2_with fail
    refine wp_region_still_tail 6 (by kernel_rfl) (by kernel_rfl) ?_
    simp only [List.take_succ_cons, List.take_zero, List.drop_succ_cons, List.drop_zero]
    repeat (first | (((refine wpStill_agg (p := ⟨G, 0, none⟩) rfl HLD4.out ?_); simp only [Act.put, List.setIfInBounds_toArray, List.set_cons_succ, List.set_cons_zero])) | still_step)
    try refine wpStill_nil ?_
    change wpList _ _ _ _ _ W4.drew
    have hm4 : MapIs W4.drew Try.prog 39 encS b n M := HST4.out.map
    have hky : keyOf Try.prog 39 (.agg (u8s X).toArray) = some (.string X) := by have := keyOf_dig hXl; rwa [kb_eq] at this
    have hes : encS s.data.toList = .string s := by unfold encS; rw [strB_of]
    have HM4 := hid2 hm4
    have HKY := hid2 hky
    have HES := hid2 hes
    clear hm4 hky hes
    go_wp2_with (first
      | ((with_reducible refine wpList_update_key HM4.out encS_inj keyed_dig Try.underlying76 ?_ (.agg (u8s X).toArray) X HKY.out s.data.toList ?_ ?_); (unfold maxLen; omega); exact ⟨rfl, rfl, HES.out.symm⟩; intro w5 hm5 ht5; have k1 : w5.heap[p]? = some (.cells #[.map (some b), .int .i64 z] 78 (0, 0)) := (ht5.2.2.2.2 p hne).trans HST4.out.obj; have e1 : w5.cell? ⟨p, 1, none⟩ = some (.int .i64 z) := (cell_of_row w5 p 1 _ _ _ k1).trans rfl; have f1 : w5.frozen? ⟨p, 1, none⟩ = false := frozen_of_row w5 p 1 _ _ k1; have HK1 := hid2 k1; have HM5 := hid2 hm5; have HT5 := hid2 ht5; clear k1 hm5 ht5)
      | (have hr5 : (w5.setCell ⟨p, 1, none⟩ (.int .i64 (z + s.size))).heap[G]? = some (.cells (u8s X).toArray 39 (0, 0)) := ((Below.heap_setCell _ _ _ G (by simp; omega)).trans (HT5.out.2.2.2.2 G (by omega))).trans HROW4.out; (with_reducible refine wpList_load_lit G 0 _ _ _ hr5 (u8s X) (fun j _ => getElem?_zero_add _ j) _ Try.underlying39 (info_h8' hXl) ?_ ?_); exact ⟨rfl, rfl⟩)
      | (have hr6 : (w5.setCell ⟨p, 1, none⟩ (.int .i64 (z + s.size))).heap[w.heap.size]? = some (.cells (u8s (List.replicate 32 0)).toArray 39 (0, 0)) := ((Below.heap_setCell _ _ _ w.heap.size (by simp; omega)).trans (HT5.out.2.2.2.2 w.heap.size (by omega))).trans HR4.out.row; have HR6 := hid2 hr6; clear hr6; (with_reducible refine wpList_store_lit w.heap.size 0 (.agg (u8s X).toArray) (u8s X) (agg_cells _) _ _ HR6.out (info_h8' hXl) (fit_h hXl) (u8s_one _) ?_ ?_); exact ⟨rfl, rfl⟩))
    have hk6 : (w5.setCell ⟨p, 1, none⟩ (.int .i64 (z + s.size))).heap[p]? = some (.cells #[.map (some b), .int .i64 (z + s.size)] 78 (0, 0)) := by
      rw [setCell_eq_setRow w5 p 1 _ _ _ _ HK1.out]
      exact setRow_heap w5 p _ _ _ _ HK1.out
    have hst6 : StoreIs (w5.setCell ⟨p, 1, none⟩ (.int .i64 (z + s.size))) p b (n + 1) (putM M X s.data.toList) (z + s.size) := ⟨hk6, HM5.out.setCell _ _ (fun e => hne e.symm)⟩
    have hbut : But p b w (w5.setCell ⟨p, 1, none⟩ (.int .i64 (z + s.size))) := (((But.of_below HR4.out.below).trans (But.of_below (Below.refl _ _).drew)).trans (But.of_turn HT5.out)).trans (But.set1 p b w5 1 _)
    have hrw : Below w.heap.size (w5.setCell ⟨p, 1, none⟩ (.int .i64 (z + s.size))) ((w5.setCell ⟨p, 1, none⟩ (.int .i64 (z + s.size))).setRow w.heap.size (laid (u8s (List.replicate 32 0)).toArray 0 (u8s X))) := below_setRow (Below.refl _ _) (Nat.le_refl _) _
    refine bodyPost_ret (v := .agg (u8s X).toArray) (results_cell_row rfl _ _ _ 39 _ (0, 0) _ rfl (wrote_row HR6.out _ hXl) Try.underlying39 rfl (by rw [List.size_toArray]; exact info_h8' hXl)) rfl ⟨rfl, ?_, hbut.low hrw⟩
    rw [show M2 = putM M X s.data.toList by simpa using HM2.out, show z2 = z + s.size by simpa using HZ2.out, show n2 = n + 1 by simpa using HN2.out]
    exact hst6.below hrw hlt.1 hlt.2
  · go_wp2_with (first
      | ((with_reducible refine wpList_load_lit G 0 _ _ _ HROW4.out (u8s X) (fun j _ => getElem?_zero_add _ j) _ Try.underlying39 (info_h8' hXl) ?_ ?_); exact ⟨rfl, rfl⟩)
      | ((with_reducible refine wpList_store_lit w.heap.size 0 (.agg (u8s X).toArray) (u8s X) (agg_cells _) _ _ HR4.out.row (info_h8' hXl) (fit_h hXl) (u8s_one _) ?_ ?_); exact ⟨rfl, rfl⟩))
    refine bodyPost_ret (v := .agg (u8s X).toArray) (results_cell_row rfl _ _ _ 39 _ (0, 0) _ rfl (ResAt.wrote HR4.out _ hXl) Try.underlying39 rfl (by rw [List.size_toArray]; exact info_h8' hXl)) rfl ⟨rfl, by rw [show M2 = M by simpa using HM2.out, show z2 = z by simpa using HZ2.out, show n2 = n by simpa using HN2.out]; exact HST.out.below (ResAt.below2 HR4.out _) hlt.1 hlt.2, But.of_below (ResAt.below2 HR4.out _)⟩
end Go.Proofs.Ytegkjmmknjhdiaa
