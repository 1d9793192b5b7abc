/- Blobs appended to a row of the call's own: the arms; the reference's Drop. -/
import Derived.Test.YtegkjmmknjhdiaaBlob18
namespace Go.Proofs.Ytegkjmmknjhdiaa
open Go.RowKit Go.Maps Go.Sort Go.Lib
section
variable {P : Program} {w : World}
theorem wp_load_run {o : Oper} {a : Act} {K : Act → World → Prop} {Q : Exit → Act → World → Prop} (ty : TypeId) (x : Operand) (ho : o.op = .load ty x) {p : Addr} {v : Value}
    (hl : (loadVar ty p).run P w = .ok v w) (hx : a.eval x = .pointer (some p)) (h : K (a.put o.dst v) w) : o.wp P a w K Q := by
  unfold Oper.wp execOp
  simp [ho, hx, Instr.loadAt, Instr.sureAddr, hl]
  exact h
theorem wpList_load_run {ops : Array Oper} {rest : List Oper} {a : Act} {Q : Exit → Act → World → Prop} {dst : Option Tmp} {ty tt : TypeId} {x : Operand} {pos : String} {after : Array Edge} {p : Addr} {v : Value}
    (hl : (loadVar ty p).run P w = .ok v w) (hx : a.eval x = .pointer (some p)) (h : wpList P ops Q rest (a.put dst v) w) : wpList P ops Q (⟨dst, .load ty x, tt, pos, after, none⟩ :: rest) a w :=
  wpList_plain rfl fun _ hK => wp_load_run ty x rfl hl hx (hK _ _ h)
theorem wpList_build_one {ops : Array Oper} {rest : List Oper} {a : Act} {Q : Exit → Act → World → Prop} {dst : Option Tmp} {t tt : TypeId} {x : Operand} {pos : String} {after : Array Edge}
    (e : TypeId) (v z : Value) (sz : Nat) (hu : P.underlying t = some (.slice e)) (hi : (P.info? e).map (fun i => (i.zero, i.size)) = some (some z, sz)) (hz : z.cells.size = sz) (hv : v.cells.size = sz) (h0 : 0 < sz) (hs : sz ≤ 16777216)
    (hx : a.eval x = v) (h : wpList P ops Q rest (a.put dst (.slice (some ⟨w.heap.size, 0, none⟩) 1 1)) (w.alloc (.cells v.cells e))) :
    wpList P ops Q (⟨dst, .buildSlice t 1 #[(0, x)], tt, pos, after, none⟩ :: rest) a w :=
  wpList_plain rfl fun K hK => by
    have hr := run_build_one (P := P) w t e v z sz hu hi hz hv h0 hs
    unfold Oper.wp execOp
    simp only [Sem.run_bind, Array.map, hx]
    simp [hx, hr]
    exact hK _ _ h
end
def blobZ : Value := .agg (u8s (List.replicate 32 0) ++ [Value.string ⟨#[]⟩]).toArray
theorem zero_blob : (Try.prog.info? 47).map (fun i => (i.zero, i.size)) = some (some blobZ, 33) := by kernel_rfl
theorem info_blob3 : (Try.prog.info? 47).map (fun i => (i.zero, i.size, i.bytes)) = some (some blobZ, 33, 48) := by kernel_rfl
theorem blob_one (x : List UInt8 × List UInt8) : ∀ v ∈ blobV x, v.oneCell' = true := by
  intro v hv
  rcases List.mem_append.1 hv with hv | hv
  · exact u8s_one _ v hv
  · obtain rfl := List.mem_singleton.1 hv
    rfl
theorem blob_cs {x : List UInt8 × List UInt8} (hx : x.1.length = 32) : (Value.agg (blobV x).toArray).cells.size = 33 := by
  show (blobV x).toArray.size = 33
  rw [List.size_toArray, blobV_length hx]
/-- a row that grows -/
structure RowG (w : World) (base : Nat) (P : BTab) (A : Option Addr) (c : Nat) (wr : World) : Prop where
  own : Own wr base 47 33 A P.length c (blobsV P)
  keys : KeysOk P
  below : Below w.heap.size w wr
theorem RowG.nil {w wr : World} {base : Nat} (h : Below w.heap.size w wr) : RowG w base [] none 0 wr := ⟨Own.nil _ _ _ _, (fun _ h => by cases h), h⟩
theorem RowG.ext {w wr w' : World} {base : Nat} {P : BTab} {A : Option Addr} {c : Nat} (h : RowG w base P A c wr) (hb : Below wr.heap.size wr w') : RowG w base P A c w' :=
  ⟨h.own.below hb (Nat.le_refl _), h.keys, h.below.trans (hb.mono h.below.size)⟩
theorem RowG.grown {w wr w' : World} {base c c' : Nat} {P : BTab} {A A' : Option Addr} {x : List UInt8 × List UInt8} (hbase : w.heap.size ≤ base) (h : RowG w base P A c wr) (hx : x.1.length = 32) (ho : Own w' base 47 33 A' (P.length + 1) c' (blobsV P ++ blobV x)) (hg : wr.grownBy w' (blockOf A)) : RowG w base (P ++ [x]) A' c' w' :=
  ⟨by rw [List.length_append, blobsV_snoc]; exact ho, h.keys.snoc hx, h.below.grown hg h.below.size (fun b e => by have := (h.own.block b e).1; omega)⟩
set_option maxRecDepth 100000 in
set_option maxHeartbeats 2000000 in
theorem refdrop_any (w : World) (A : Option Addr) (c : Nat) (M : BTab) (hk : KeysOk M) (hr : Rd w 33 A M.length (blobsV M)) (hl : M.length ≤ 1000000000) (d : List UInt8) (hd : d.length = 32) :
    Calls Try.prog 29 #[.slice A M.length c, .agg (u8s d).toArray] w fun e w' => ∃ A' c', e = .returned (.slice A' (delM M d).length c') ∧ RowG w (w.heap.size + 1) (delM M d) A' c' w' := by
  obtain ⟨W1, hW1⟩ : ∃ W1, W1 = w.alloc (.cells (u8s d).toArray 39) := ⟨_, rfl⟩
  have hd1 : DigAt W1 w.heap.size d := by rw [hW1]; exact heap_alloc_new w _
  have hB1 : Below w.heap.size w W1 := by rw [hW1]; exact (Below.refl _ w).alloc (Nat.le_refl _) _
  have hs1 : W1.heap.size = w.heap.size + 1 := by rw [hW1]; simp
  obtain ⟨N, hN⟩ : ∃ N, N = M.length := ⟨_, rfl⟩
  rw [← hN] at hl ⊢
  have HR := hid2 hr
  have HK := hid2 hk
  have HN := hid2 hN
  have HD := hid2 hd1
  have HB1 := hid2 hB1
  have HW1 := hid2 hW1
  have HS1 := hid2 hs1
  clear hr hN hk hd1 hB1 hW1 hs1
  go_enter Try.func29, Try.ntmps29
  go_wp2_with fail
  rw [← HW1.out]
  go_loopg [5, 6] N (fun gk s i wr => ∃ (k : Nat) (A2 : Option Addr) (m c2 : Nat), k + gk = N ∧ i = .int .i64 k ∧ m = (delM (M.take k) d).length ∧ s = .slice A2 m c2 ∧ RowG w (w.heap.size + 1) (delM (M.take k) d) A2 c2 wr ∧ DigAt wr w.heap.size d ∧ w.heap.size < wr.heap.size)
  case atStart => exact ⟨0, none, 0, 0, by omega, rfl, rfl, rfl, RowG.nil HB1.out, HD.out, by rw [HS1.out]; omega⟩
  case round =>
    obtain ⟨k, A2, m, c2, hk, rfl, hm, rfl, hg, hdg, hsz⟩ := hrel
    by_cases hlt : k < N
    · have hlt' : (k : Int) < N := by omega
      have hk0 : (0 : Int) ≤ k := by omega
      obtain ⟨x, hx⟩ : ∃ x, M[k]? = some x := ⟨_, List.getElem?_eq_getElem (by rw [← HN.out]; exact hlt)⟩
      have hx32 := HK.out.at_ hx
      obtain ⟨b, o, rfl, hc⟩ := blob_cells HK.out (HR.out.below_all hg.below) hx
      have hl1 : ∀ m, (loadVar 39 ⟨b, o + k * 33, none⟩).run Try.prog (wr.drewN m) = .ok (.agg (u8s x.1).toArray) (wr.drewN m) := fun m => blob_dig (w := wr.drewN m) hx32 hc
      have hl2 : ∀ m, (loadVar 39 ⟨w.heap.size, 0, none⟩).run Try.prog (wr.drewN m) = .ok (.agg (u8s d).toArray) (wr.drewN m) := fun m =>
        run_loadVar_row (wr.drewN m) w.heap.size 39 39 _ (0, 0) _ hdg Try.underlying39 rfl (by rw [List.size_toArray]; exact info_h8' hd)
      have hl3 : ∀ m, (loadVar 47 ⟨b, o + k * 33, none⟩).run Try.prog (wr.drewN m) = .ok (.agg (blobV x).toArray) (wr.drewN m) := fun m => blob_load (w := wr.drewN m) hx32 hc
      obtain ⟨X, hX⟩ : ∃ X, X = x.1 := ⟨_, rfl⟩
      have hX32 := hx32
      rw [← hX] at hX32 hl1
      have heq := run_neq_dig X d hX32 hd
      have hdel : delM (M.take (k + 1)) d = delM (M.take k) d ++ if X == d then [] else [x] := by
        obtain ⟨hk', hx'⟩ := List.getElem?_eq_some_iff.1 hx
        rw [List.take_succ_eq_append_getElem hk', hx', delM, delM, List.filter_append, hX]
        by_cases h : x.1 = d <;> simp [h]
      have HX := hid2 hx
      have HX32 := hid2 hx32
      have HDEL := hid2 hdel
      have HL1 := hid2 hl1
      have HL2 := hid2 hl2
      have HL3 := hid2 hl3
      have HG := hid2 hg
      have HDG := hid2 hdg
      have HM := hid2 hm
      have HSZ := hid2 hsz
      have hmk : m ≤ k := by
        rw [hm]
        exact Nat.le_trans (List.length_filter_le _ _) (by rw [List.length_take]; omega)
      clear hx hc hg hdg hl1 hl2 hl3 hlt hX hdel hm hsz hx32
      by_cases he : X = d
      · have he2 : (X == d) = true := by simp [he]
        rw [he2] at heq
        have HE := hid2 he2
        clear he he2
        go_wp2_with fail
        refine wp_region_quiet_lit (by kernel_rfl) (by kernel_rfl) ?_
        repeat (first | go_big_quiet_step (fail) | (((refine wpQuiet_agg (p := ⟨b, o + k * 33, none⟩) rfl (by rintro _ ⟨m, rfl⟩; exact HL1.out m) ?_); simp only [Act.put, List.setIfInBounds_toArray, List.set_cons_succ, List.set_cons_zero])) | (((refine wpQuiet_agg (p := ⟨w.heap.size, 0, none⟩) rfl (by rintro _ ⟨m, rfl⟩; exact HL2.out m) ?_); simp only [Act.put, List.setIfInBounds_toArray, List.set_cons_succ, List.set_cons_zero])))
        refine wpQuiet_nil ?_
        rintro _ ⟨nq, rfl⟩
        go_wp2_with fail
        go_roundg (gk - 1)
        case rel =>
          have e : delM (M.take (k + 1)) d = delM (M.take k) d := by rw [HDEL.out, HE.out]; simp
          exact ⟨k + 1, A2, m, c2, by omega, by go_num, by rw [e]; exact HM.out, rfl, by rw [e]; exact HG.out.ext (below_drewN (Below.refl _ _) _), HDG.out, HSZ.out⟩
        case measure => omega
      · have he2 : (X == d) = false := by simp [he]
        rw [he2] at heq
        have HE := hid2 he2
        clear he he2
        go_wp2_with fail
        refine wp_region_quiet_lit (by kernel_rfl) (by kernel_rfl) ?_
        repeat (first | go_big_quiet_step (fail) | (((refine wpQuiet_agg (p := ⟨b, o + k * 33, none⟩) rfl (by rintro _ ⟨m, rfl⟩; exact HL1.out m) ?_); simp only [Act.put, List.setIfInBounds_toArray, List.set_cons_succ, List.set_cons_zero])) | (((refine wpQuiet_agg (p := ⟨w.heap.size, 0, none⟩) rfl (by rintro _ ⟨m, rfl⟩; exact HL2.out m) ?_); simp only [Act.put, List.setIfInBounds_toArray, List.set_cons_succ, List.set_cons_zero])))
        refine wpQuiet_nil ?_
        rintro _ ⟨nq, rfl⟩
        obtain ⟨W4, hW4⟩ : ∃ W4, W4 = wr.drewN nq := ⟨_, rfl⟩
        obtain ⟨W5, hW5⟩ : ∃ W5, W5 = W4.alloc (.cells (Value.agg (blobV x).toArray).cells 47) := ⟨_, rfl⟩
        rw [← hW4]
        have hg4 := HG.out.ext (below_drewN (Below.refl _ _) nq)
        rw [← hW4] at hg4
        have hg5 : RowG w (w.heap.size + 1) (delM (M.take k) d) A2 c2 W5 := by rw [hW5]; exact hg4.ext ((Below.refl _ _).alloc (Nat.le_refl _) _)
        have hdg5 : DigAt W5 w.heap.size d := by rw [hW5, hW4]; exact (Below.heap_alloc _ _ _ HSZ.out).trans HDG.out
        have hs5 : w.heap.size + 1 ≤ W5.heap.size := by rw [hW5, hW4]; have := HSZ.out; simp; omega
        have hl4 : (loadVar 47 ⟨b, o + k * 33, none⟩).run Try.prog W4 = .ok (.agg (blobV x).toArray) W4 := by rw [hW4]; exact HL3.out nq
        have hrd : Rd W5 33 (some ⟨W4.heap.size, 0, none⟩) 1 (blobV x) := by rw [hW5]; exact Rd.of_lit W4 (blobV x).toArray 47 33 1 (by decide) (by rw [List.size_toArray, blobV_length HX32.out])
        have hown := hg5.own
        rw [← HM.out] at hown
        obtain ⟨VV, hVV⟩ : ∃ VV, VV = blobsV (delM (M.take k) d) := ⟨_, rfl⟩
        rw [← hVV] at hown
        have HVV := hid2 hVV
        have HW5 := hid2 hW5
        have HG5 := hid2 hg5
        have HDG5 := hid2 hdg5
        have HS5 := hid2 hs5
        have HL4 := hid2 hl4
        have HRD := hid2 hrd
        have HOWN := hid2 hown
        clear hW4 hW5 hg4 hg5 hdg5 hs5 hl4 hrd hown hVV HL3 HL1 HL2
        go_wp2_with (first
          | ((with_reducible refine wpList_load_run HL4.out ?_ ?_); exact rfl)
          | ((with_reducible refine wpList_build_one 47 (.agg (blobV x).toArray) blobZ 33 Try.underlying37 zero_blob rfl (blob_cs HX32.out) (by decide) (by decide) ?_ ?_); exact rfl; rw [← HW5.out])
          | (at_builtin; go_must ((with_reducible refine wpList_append_lit 47 blobZ 33 48 Try.underlying37 info_blob3 rfl (w.heap.size + 1) A2 m c2 VV HOWN.out 1 _ (.slice (some ⟨W4.heap.size, 0, none⟩) 1 1) (Src.slice Try.underlying37 HRD.out) (blob_one x) ?_ ?_ ?_ ?_ ?_); (unfold maxLen; omega); omega; exact HS5.out; exact ⟨rfl, rfl⟩; intro A3 c3 w3 hown3 hgr3 hbl3)))
        go_roundg (gk - 1)
        case rel =>
          have e : delM (M.take (k + 1)) d = delM (M.take k) d ++ [x] := by rw [HDEL.out, HE.out]; simp
          refine ⟨k + 1, A3, m + 1, c3, by omega, by go_num, by rw [e, List.length_append, ← HM.out]; rfl, rfl, ?_, ?_, ?_⟩
          · rw [e]
            exact HG5.out.grown (by omega) HX32.out (by rw [← HM.out, ← HVV.out]; exact hown3) hgr3
          · exact (hgr3.block _ (by have := HS5.out; omega) (fun e' => by have := (HG5.out.own.block _ e'.symm).1; omega)).trans HDG5.out
          · have := hgr3.size; have := HS5.out; omega
        case measure => omega
    · have hkN : k = N := by omega
      have hlt' : ¬ (k : Int) < N := by omega
      have hM : M.take k = M := by rw [hkN, HN.out, List.take_length]
      rw [hM] at hg hm
      have HG := hid2 hg
      have HM := hid2 hm
      clear hkN hlt hM hg hm hdg
      go_wp2_with fail
      go_ret
      exact ⟨A2, c2, by rw [HM.out]; rfl, HG.out⟩
end Go.Proofs.Ytegkjmmknjhdiaa
