/- key.Same, and the document's. -/
import Derived.Test.YtjmfmlkjippiaaaDoorKfix
namespace Go.Proofs.YtjmfmlkjippiaaaDoor
open Go.RowKit Go.Shelf
set_option maxRecDepth 100000
theorem box_two (w : World) (L L' : LayA) (a b : ActK) (h : ActAt w L a) (h' : ActAt w L' b) : ∃ V V' : List Value, V.toArray = actV L a ∧ V'.toArray = actV L' b ∧
    ActBox ((w.alloc (.cells V.toArray 27)).alloc (.cells V'.toArray 27)) w.heap.size V L a ∧
    ActBox ((w.alloc (.cells V.toArray 27)).alloc (.cells V'.toArray 27)) (w.heap.size + 1) V' L' b ∧
    Below w.heap.size w ((w.alloc (.cells V.toArray 27)).alloc (.cells V'.toArray 27)) := by
  have hb : Below w.heap.size w ((w.alloc (.cells (actV L a).toList.toArray 27)).alloc (.cells (actV L' b).toList.toArray 27)) := ((Below.refl _ w).alloc (Nat.le_refl _) _).alloc (by simp) _
  exact ⟨(actV L a).toList, (actV L' b).toList, by simp, by simp, ⟨heap_alloc2_old w _ _, rfl, by simp, h.below hb⟩, ⟨heap_alloc2_new w _ _, rfl, by simp, h'.below hb⟩, hb⟩
set_option maxHeartbeats 4000000 in
theorem same_any (w : World) (L L' : LayA) (a b : ActK) (h : ActAt w L a) (h' : ActAt w L' b) (hm : Mild a) (hm' : Mild b) (hTab : Tabs w) :
    Calls Tryd.prog 14 #[.agg (actV L a), .agg (actV L' b)] w fun e w' => e = .returned (.bool (decide (textK a = textK b))) ∧ Below w.heap.size w w' := by
  obtain ⟨VA, VB, hVA, hVB, hA, hB, hb0⟩ := box_two w L L' a b h h'
  rw [← hVA, ← hVB]
  obtain ⟨W, hW⟩ : ∃ W, W = (w.alloc (.cells VA.toArray 27)).alloc (.cells VB.toArray 27) := ⟨_, rfl⟩
  rw [← hW] at hA hB hb0
  obtain ⟨gA, hgA⟩ : ∃ g, g = w.heap.size := ⟨_, rfl⟩
  obtain ⟨gB, hgB⟩ : ∃ g, g = w.heap.size + 1 := ⟨_, rfl⟩
  rw [← hgA] at hA
  rw [← hgB] at hB
  have HgA := hid2 (fun (w2 : World) (hb : Below W.heap.size W w2) => hA.below hb)
  have HgB := hid2 (fun (w2 : World) (hb : Below W.heap.size W w2) => hB.below hb)
  have HW := hid2 hW
  have HB0 := hid2 hb0
  have HQA := hid2 hgA
  have HQB := hid2 hgB
  have hT0 := hTab.on hb0
  have C1 := hid2 (fun (w2 : World) (hb : Below W.heap.size W w2) => (HgA.out w2 hb).text hm (hT0.on hb))
  have C2 := hid2 (fun (w2 : World) (hb : Below W.heap.size W w2) => (HgB.out w2 hb).text hm' (hT0.on hb))
  obtain ⟨r, hr⟩ : ∃ r, r = decide (textK a = textK b) := ⟨_, rfl⟩
  rw [← hr]
  have ha := toList_strB (textK a)
  have hb := toList_strB (textK b)
  obtain ⟨s, hs⟩ : ∃ s, s = strB (textK a) := ⟨_, rfl⟩
  obtain ⟨q, hq⟩ : ∃ q, q = strB (textK b) := ⟨_, rfl⟩
  rw [← hs] at C1 ha
  rw [← hq] at C2 hb
  have hsq : (s.toList == q.toList) = r := by rw [ha, hb, hr, Bool.eq_iff_iff]; simp
  clear hs hq ha hb hr h h' hm hm' hTab hVA hVB hA hB hb0 hW hgA hgB hT0
  go_enter Tryd.func14, Tryd.ntmps14
  go_wp2_with fail
  rw [← HW.out, ← HQB.out, ← HQA.out]
  refine wp_region_grd 5 (by kernel_rfl) (by kernel_rfl) (by kernel_rfl) _ rfl (by kernel_rfl) (fun j v _ => ([.agg VA.toArray, .string s, .agg VB.toArray, .string q, .bool r] : List Value)[j]? = some v) (fun w2 => Below W.heap.size W w2) (fun a b => Below a.heap.size a b) ((Below.refl _ W).drew) (fun _ _ _ _ hb hv => hv) ?_ ?_
  · refine of_allOps ⟨?_, ?_, ?_, ?_, ?_, trivial⟩
    · intro T2 w2 hM hN hO hE K hK
      have o2 : T2[2]? = some (.pointer (some ⟨gA, 0, none⟩)) := hO 2 rfl
      clear hE hO hN
      refine step_plain0 rfl ?_
      refine wp_load_lit gA 0 _ _ _ (HgA.out w2 hM).heap VA (fun j _ => getElem?_zero_add _ j) _ Tryd.underlying27 (HgA.out w2 hM).info ⟨?_, rfl⟩ ?_
      · simp [Act.eval, o2]
      · exact hK _ _ rfl hM (Below.refl _ _)
    · intro T2 w2 hM hN hO hE K hK
      obtain ⟨v0, h0, e0⟩ := hE ⟨0, .data⟩ (by simp) rfl _ _ rfl rfl
      rw [show v0 = .agg VA.toArray from (Option.some.inj e0).symm] at h0
      clear hE hO hN
      refine step_plain0 rfl ?_
      go_simp
      refine (C1.out w2 hM).mono ?_
      rintro e w3 ⟨rfl, hb⟩
      exact hK _ _ rfl (hM.trans (hb.mono hM.size)) hb
    · intro T2 w2 hM hN hO hE K hK
      have o3 : T2[3]? = some (.pointer (some ⟨gB, 0, none⟩)) := hO 3 rfl
      clear hE hO hN
      refine step_plain0 rfl ?_
      refine wp_load_lit gB 0 _ _ _ (HgB.out w2 hM).heap VB (fun j _ => getElem?_zero_add _ j) _ Tryd.underlying27 (HgB.out w2 hM).info ⟨?_, rfl⟩ ?_
      · simp [Act.eval, o3]
      · exact hK _ _ rfl hM (Below.refl _ _)
    · intro T2 w2 hM hN hO hE K hK
      obtain ⟨v2, h2, e2⟩ := hE ⟨2, .data⟩ (by simp) rfl _ _ rfl rfl
      rw [show v2 = .agg VB.toArray from (Option.some.inj e2).symm] at h2
      clear hE hO hN
      refine step_plain0 rfl ?_
      go_simp
      refine (C2.out w2 hM).mono ?_
      rintro e w3 ⟨rfl, hb⟩
      exact hK _ _ rfl (hM.trans (hb.mono hM.size)) hb
    · intro T2 w2 hM hN hO hE K hK
      obtain ⟨v1, h1, e1⟩ := hE ⟨1, .data⟩ (by simp) rfl _ _ rfl rfl
      rw [show v1 = .string s from (Option.some.inj e1).symm] at h1
      obtain ⟨v3, h3, e3⟩ := hE ⟨3, .data⟩ (by simp) rfl _ _ rfl rfl
      rw [show v3 = .string q from (Option.some.inj e3).symm] at h3
      clear hE hO hN
      refine step_plain0 rfl ?_
      go_simp
      exact hK _ _ rfl hM (Below.refl _ _)
  · intro u w2 hM hF
    have e4 : u 4 = .bool r := (Option.some.inj (hF 4 (by omega))).symm
    clear hF
    simp only [fillAll, Nat.reduceAdd, e4, List.take_succ_cons, List.take_zero, List.drop_succ_cons, List.drop_zero, List.setIfInBounds_toArray, List.set_cons_succ, List.set_cons_zero]
    go_wp2_with fail
    go_ret
    exact ⟨rfl, HB0.out.trans (hM.mono HB0.out.size)⟩
/-- a row of rows that a call made, or a value that is told -/
def PV (rows : List (Option (List (List Tx)))) (vals : List Value) (j : Nat) (v : Value) (w : World) : Prop :=
  match rows.getD j none with
  | some x => ∃ g As cs, v = .slice (some ⟨g, 0, none⟩) 5 5 ∧ RowsAt w g x As cs
  | none => vals[j]? = some v
theorem PV.keep {rows : List (Option (List (List Tx)))} {vals : List Value} {j : Nat} {v : Value} {w w' : World} (h : PV rows vals j v w) (hb : Below w.heap.size w w') : PV rows vals j v w' := by
  unfold PV at *
  split
  · rename_i x hj
    simp only [hj] at h
    obtain ⟨g, As, cs, h1, h2⟩ := h
    exact ⟨g, As, cs, h1, h2.below hb⟩
  · rename_i hj
    simp only [hj] at h
    exact h
theorem rows_eq {a b : ActK} : (([a.tool] :: partsK a) = ([b.tool] :: partsK b)) ↔ textK a = textK b := by
  rw [textK_inj]
  simp
theorem row_small {a : ActK} (h : Mild a) {k : Nat} {x : List Tx} (hx : ([a.tool] :: partsK a)[k]? = some x) : x.length ≤ 44 := by
  cases k with
  | zero =>
    simp at hx
    subst hx
    simp
  | succ k => exact (part_len (partLens h) hx).2
set_option maxHeartbeats 4000000 in
theorem refsame_any (w : World) (L L' : LayA) (a b : ActK) (h : ActAt w L a) (h' : ActAt w L' b) (hm : Mild a) (hm' : Mild b) :
    Calls Tryd.prog 13 #[.agg (actV L a), .agg (actV L' b)] w fun e w' => e = .returned (.bool (decide (textK a = textK b))) ∧ Below w.heap.size w w' := by
  obtain ⟨VA, VB, hVA, hVB, hA, hB, hb0⟩ := box_two w L L' a b h h'
  rw [← hVA, ← hVB]
  obtain ⟨W, hW⟩ : ∃ W, W = (w.alloc (.cells VA.toArray 27)).alloc (.cells VB.toArray 27) := ⟨_, rfl⟩
  rw [← hW] at hA hB hb0
  obtain ⟨gA, hgA⟩ : ∃ g, g = w.heap.size := ⟨_, rfl⟩
  obtain ⟨gB, hgB⟩ : ∃ g, g = w.heap.size + 1 := ⟨_, rfl⟩
  rw [← hgA] at hA
  rw [← hgB] at hB
  have HgA := hid2 (fun (w2 : World) (hb : Below W.heap.size W w2) => hA.below hb)
  have HgB := hid2 (fun (w2 : World) (hb : Below W.heap.size W w2) => hB.below hb)
  have HW := hid2 hW
  have HB0 := hid2 hb0
  have HQA := hid2 hgA
  have HQB := hid2 hgB
  have C1 := hid2 (fun (w2 : World) (hb : Below W.heap.size W w2) => show Calls Tryd.prog 20 #[.agg VA.toArray] w2 _ from by rw [hVA]; exact parts_any w2 L a (HgA.out w2 hb).at_ hm)
  have C2 := hid2 (fun (w2 : World) (hb : Below W.heap.size W w2) => show Calls Tryd.prog 20 #[.agg VB.toArray] w2 _ from by rw [hVB]; exact parts_any w2 L' b (HgB.out w2 hb).at_ hm')
  have hre := rows_eq (a := a) (b := b)
  have ha := fun (k : Nat) (x : List Tx) hx => row_small (k := k) (x := x) hm hx
  have hb := fun (k : Nat) (x : List Tx) hx => row_small (k := k) (x := x) hm' hx
  have la : ([a.tool] :: partsK a).length = 5 := rfl
  have lb : ([b.tool] :: partsK b).length = 5 := rfl
  obtain ⟨X, hX⟩ : ∃ X, X = [a.tool] :: partsK a := ⟨_, rfl⟩
  obtain ⟨Y, hY⟩ : ∃ Y, Y = [b.tool] :: partsK b := ⟨_, rfl⟩
  rw [← hX] at C1 ha la hre
  rw [← hY] at C2 hb lb hre
  have hrd : decide (textK a = textK b) = decide (X = Y) := by simp [hre]
  rw [hrd]
  have HA := hid2 ha
  have HBb := hid2 hb
  have LA := hid2 la
  have LB := hid2 lb
  clear h h' hm hm' hVA hVB hA hB hb0 hW hgA hgB hre ha hb la lb hX hY hrd
  go_enter Tryd.func13, Tryd.ntmps13
  go_wp2_with fail
  rw [← HW.out, ← HQB.out, ← HQA.out]
  refine wp_region_rel 4 (by kernel_rfl) (by kernel_rfl) (by kernel_rfl) _ rfl (by kernel_rfl) (PV [none, some X, none, some Y] [.agg VA.toArray, undef, .agg VB.toArray, undef]) (fun w2 => Below W.heap.size W w2) (fun a b => Below a.heap.size a b) ((Below.refl _ W).drew) (fun _ _ _ _ hb hv => hv.keep hb) ?_ ?_
  · refine of_allOps ⟨?_, ?_, ?_, ?_, trivial⟩
    · refine ⟨rfl, fun T2 w2 hM hN hO hE K hK => ?_⟩
      have o2 : T2[2]? = some (.pointer (some ⟨gA, 0, none⟩)) := hO 2 rfl
      clear hE hO hN
      refine wp_load_lit gA 0 _ _ _ (HgA.out w2 hM).heap VA (fun j _ => getElem?_zero_add _ j) _ Tryd.underlying27 (HgA.out w2 hM).info ⟨?_, rfl⟩ ?_
      · simp [Act.eval, o2]
      · exact hK _ _ rfl hM (Below.refl _ _)
    · refine ⟨rfl, fun T2 w2 hM hN hO hE K hK => ?_⟩
      obtain ⟨v0, h0, e0⟩ := hE ⟨0, .data⟩ (by simp) rfl _ _ rfl rfl
      rw [show v0 = .agg VA.toArray from (Option.some.inj e0).symm] at h0
      clear hE hO hN
      go_simp
      refine (C1.out w2 hM).mono ?_
      rintro e w3 ⟨g, As, cs, rfl, hra, hb3⟩
      exact hK _ _ ⟨g, As, cs, rfl, hra⟩ (hM.trans (hb3.mono hM.size)) hb3
    · refine ⟨rfl, fun T2 w2 hM hN hO hE K hK => ?_⟩
      have o3 : T2[3]? = some (.pointer (some ⟨gB, 0, none⟩)) := hO 3 rfl
      clear hE hO hN
      refine wp_load_lit gB 0 _ _ _ (HgB.out w2 hM).heap VB (fun j _ => getElem?_zero_add _ j) _ Tryd.underlying27 (HgB.out w2 hM).info ⟨?_, rfl⟩ ?_
      · simp [Act.eval, o3]
      · exact hK _ _ rfl hM (Below.refl _ _)
    · refine ⟨rfl, fun T2 w2 hM hN hO hE K hK => ?_⟩
      obtain ⟨v2, h2, e2⟩ := hE ⟨2, .data⟩ (by simp) rfl _ _ rfl rfl
      rw [show v2 = .agg VB.toArray from (Option.some.inj e2).symm] at h2
      clear hE hO hN
      go_simp
      refine (C2.out w2 hM).mono ?_
      rintro e w3 ⟨g, As, cs, rfl, hra, hb3⟩
      exact hK _ _ ⟨g, As, cs, rfl, hra⟩ (hM.trans (hb3.mono hM.size)) hb3
  · intro u w2 hM hF
    obtain ⟨g, As, cs, e1, r1⟩ : ∃ g As cs, u 1 = .slice (some ⟨g, 0, none⟩) 5 5 ∧ RowsAt w2 g X As cs := hF 1 (by omega)
    obtain ⟨g', As', cs', e3, r3⟩ : ∃ g As cs, u 3 = .slice (some ⟨g, 0, none⟩) 5 5 ∧ RowsAt w2 g Y As cs := hF 3 (by omega)
    clear hF
    simp only [fillAll, Nat.reduceAdd, e1, e3, List.take_succ_cons, List.take_zero, List.drop_succ_cons, List.drop_zero, List.setIfInBounds_toArray, List.set_cons_succ, List.set_cons_zero]
    have R1 := hid2 r1
    have R3 := hid2 r3
    have HM := hid2 hM
    clear r1 r3 hM C1 C2 HgA HgB
    go_wp2_with fail
    go_loopw [14] (fun i wr => ∃ k : Nat, k ≤ 5 ∧ i = .int .i64 k ∧ X.take k = Y.take k ∧ ∃ d, wr = w2.drewN d) (fun i _ => 5 - (intOf i).toNat)
    case atStart => exact ⟨0, by omega, rfl, rfl, 0, rfl⟩
    case round =>
      obtain ⟨k, hk, rfl, htk, d, hd⟩ := hrel
      have HD := hid2 hd
      by_cases hlt : k < 5
      · have hkl : (k : Int) < 5 := by omega
        have hk0 : (0 : Int) ≤ k := by omega
        obtain ⟨x, hx⟩ : ∃ x, X[k]? = some x := ⟨_, List.getElem?_eq_getElem (by rw [LA.out]; exact hlt)⟩
        obtain ⟨y, hy⟩ : ∃ y, Y[k]? = some y := ⟨_, List.getElem?_eq_getElem (by rw [LB.out]; exact hlt)⟩
        have h1 : X.take (k + 1) = X.take k ++ [x] := by rw [List.take_add_one, hx]; rfl
        have h2 : Y.take (k + 1) = Y.take k ++ [y] := by rw [List.take_add_one, hy]; rfl
        obtain ⟨c1, q1⟩ := R1.out k x hx
        obtain ⟨c2, q2⟩ := R3.out k y hy
        have d1 : wr.cell? ⟨g, k, none⟩ = some (.slice (As k) x.length (cs k)) := by rw [hd]; exact c1
        have d2 : wr.cell? ⟨g', k, none⟩ = some (.slice (As' k) y.length (cs' k)) := by rw [hd]; exact c2
        have lx := HA.out k x hx
        have ly := HBb.out k y hy
        have CT := fun (wz : World) (dz : Nat) (hz : wz = w2.drewN dz) => texts_any wz (As k) (As' k) (cs k) (cs' k) x y (by omega) (by omega) (by rw [hz]; exact q1.drewN _) (by rw [hz]; exact q2.drewN _)
        obtain ⟨nx, hnx⟩ : ∃ n, n = x.length := ⟨_, rfl⟩
        obtain ⟨ny, hny⟩ : ∃ n, n = y.length := ⟨_, rfl⟩
        rw [← hnx] at d1 CT
        rw [← hny] at d2 CT
        have hne : decide (x = y) = false → ¬ X = Y := fun hxy e => by
          rw [e, hy] at hx
          injection hx with hx
          rw [hx] at hxy
          simp at hxy
        have HNE := hid2 hne
        have heq : decide (x = y) = true → X.take (k + 1) = Y.take (k + 1) := fun hxy => by rw [h1, h2, htk, of_decide_eq_true hxy]
        have HEQ := hid2 heq
        obtain ⟨r, hr⟩ : ∃ r, r = decide (x = y) := ⟨_, rfl⟩
        rw [← hr] at CT HNE HEQ
        have HCT := hid2 CT
        clear hd hx hy h1 h2 c1 c2 q1 q2 lx ly hnx hny hne heq hr htk CT
        cases r with
        | true =>
          go_wp2_with fail
          go_quiet ((go_at_call 24; first | exact quiet_one_d (HCT.out _ _ (by rw [HD.out, drewN_two])) | exact quiet_more_d (HCT.out _ _ (by rw [HD.out, drewN_two]))))
          go_wp2_with fail
          go_roundw
          case rel => exact ⟨k + 1, by omega, by go_num, HEQ.out (by first | rfl | trivial), by rw [HD.out]; exact ⟨_, drewN_two _ _ _⟩⟩
          case measure => simp [intOf]; omega
        | false =>
          go_wp2_with fail
          go_quiet ((go_at_call 24; first | exact quiet_one_d (HCT.out _ _ (by rw [HD.out, drewN_two])) | exact quiet_more_d (HCT.out _ _ (by rw [HD.out, drewN_two]))))
          go_wp2_with fail
          go_ret
          refine ⟨by rw [decide_eq_false (HNE.out (by first | rfl | trivial))]; rfl, ?_⟩
          rw [HD.out]
          exact below_drewN (below_drewN (HB0.out.trans (HM.out.mono HB0.out.size)) _) _
      · have hk5 : k = 5 := by omega
        have hkl : ¬ (k : Int) < 5 := by omega
        have hxy : X = Y := by
          rw [hk5, List.take_of_length_le (by rw [LA.out]; exact Nat.le_refl _), List.take_of_length_le (by rw [LB.out]; exact Nat.le_refl _)] at htk
          exact htk
        have HXY := hid2 hxy
        clear htk hxy hk5 hd
        go_wp2_with fail
        go_ret
        refine ⟨by rw [decide_eq_true HXY.out]; rfl, ?_⟩
        rw [HD.out]
        exact below_drewN (HB0.out.trans (HM.out.mono HB0.out.size)) _
end Go.Proofs.YtjmfmlkjippiaaaDoor
