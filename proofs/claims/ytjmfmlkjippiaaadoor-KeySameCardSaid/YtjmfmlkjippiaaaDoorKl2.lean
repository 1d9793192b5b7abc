/- The walk of KeySame. -/
import Derived.Test.YtjmfmlkjippiaaaDoorKsame
namespace Go.Proofs.YtjmfmlkjippiaaaDoor
open Go.RowKit Go.Shelf
set_option maxRecDepth 100000
theorem wpList_load_lit_g {P : Program} {w : World} {ops : Array Oper} {rest : List Oper} {a : Act} {Q : Exit → Act → World → Prop} {dst : Option Tmp} {ty tt : TypeId} {x : Operand} {pos : String} {after : Array Edge} {gi : Nat} {gb : Bool}
    (g off : Nat) (cur : Array Value) (t : TypeId) (fr : Nat × Nat) (hg : w.heap[g]? = some (.cells cur t fr)) (vs : List Value)
    (hvs : ∀ j, j < vs.length → cur[off + j]? = vs[j]?) (d : TypeDesc) (hu : P.underlying ty = some d) (hi : (P.info? ty).map (·.size) = some vs.length)
    (hx : (a.eval x = .pointer (some ⟨g, off, none⟩) ∧ (match d with | .struct _ | .array _ _ => true | _ => false) = true) ∧ ∃ og dg, ops[gi]? = some og ∧ og.dst = some dg ∧ a.tmps[dg]? = some (.bool gb))
    (h : wpList P ops Q rest (a.put dst (.agg vs.toArray)) w) : wpList P ops Q (⟨dst, .load ty x, tt, pos, after, some (gi, gb)⟩ :: rest) a w := by
  obtain ⟨h1, og, dg, h2, h3, h4⟩ := hx
  unfold wpList
  rw [if_pos (by simp [Region.wanted, yielded, h2, h3, h4])]
  exact .inl (wp_load_at ty x rfl g off h1.1 cur t fr hg vs hvs d hu h1.2 hi h)
section
variable {W : World} {g g' : Nat} {V V' : List Value} {L L' : LayA} {a b : ActK}
theorem ActBox.same (h : ActBox W g V L a) (h' : ActBox W g' V' L' b) (hm : Mild a) (hm' : Mild b) (hT : Tabs W) : Calls Tryd.prog 14 #[.agg V.toArray, .agg V'.toArray] W fun e w' => e = .returned (.bool (decide (textK a = textK b))) ∧ Below W.heap.size W w' := by
  rw [h.val, h'.val]
  exact same_any W L L' a b h.at_ h'.at_ hm hm' hT
theorem ActBox.rsame (h : ActBox W g V L a) (h' : ActBox W g' V' L' b) (hm : Mild a) (hm' : Mild b) : Calls Tryd.prog 13 #[.agg V.toArray, .agg V'.toArray] W fun e w' => e = .returned (.bool (decide (textK a = textK b))) ∧ Below W.heap.size W w' := by
  rw [h.val, h'.val]
  exact refsame_any W L L' a b h.at_ h'.at_ hm hm'
end
set_option maxHeartbeats 4000000 in
theorem keysame_any (w : World) (L : LayA) (a : ActK) (h : ActAt w L a) (L' : LayA) (b : ActK) (h' : ActAt w L' b) (hTab : Tabs w) :
    Calls Tryd.prog 5 #[.agg (actV L a), .agg (actV L' b)] w fun e w' => e = .returned (.bool true) ∧ Below w.heap.size w w' := by
  obtain ⟨VA, VB, hVA, hVB, hA, hB, hb0⟩ := box_two w L L' a b h h'
  rw [← hVA, ← hVB]
  obtain ⟨W0, hW⟩ : ∃ W0, W0 = (w.alloc (.cells VA.toArray 27)).alloc (.cells VB.toArray 27) := ⟨_, rfl⟩
  rw [← hW] at hA hB hb0
  have hT0 := hTab.on hb0
  have HA := hid2 hA
  have HB := hid2 hB
  have HW := hid2 hW
  have HB0 := hid2 hb0
  have HT0 := hid2 hT0
  have HI := hid2 hA.info
  have HI2 := hid2 hB.info
  have cG := hA.great
  have HG1 := hid2 cG
  clear h h' hTab hVA hVB hA hB hb0 hW hT0 cG
  cases hg : greatL a with
  | true =>
    rw [hg] at HG1
    clear hg
    go_enter Tryd.func5, Tryd.ntmps5
    go_wp2_with (first
      | ((with_reducible refine wpList_load_lit w.heap.size 0 _ _ _ (heap_alloc2_old w _ _) VA (fun j _ => getElem?_zero_add _ j) _ Tryd.underlying27 HI.out ?_ ?_); exact ⟨rfl, rfl⟩; rw [← HW.out])
      | (go_at_call 7; refine HG1.out.mono ?_; rintro e w1 ⟨rfl, hb1⟩)
      | (go_at_call 8; refine (fixed_any w1 (HT0.out.on hb1)).mono ?_; rintro e w2 ⟨rfl, hb2⟩))
    go_ret
    have b1 := HB0.out.trans (hb1.mono HB0.out.size)
    exact ⟨rfl, b1.trans (hb2.mono b1.size)⟩
  | false =>
    rw [hg] at HG1
    have HM1 := hid2 (mild_of hg)
    cases hg2 : greatL b with
    | true =>
      clear hg
      go_enter Tryd.func5, Tryd.ntmps5
      go_wp2_with (first
        | ((with_reducible refine wpList_load_lit w.heap.size 0 _ _ _ (heap_alloc2_old w _ _) VA (fun j _ => getElem?_zero_add _ j) _ Tryd.underlying27 HI.out ?_ ?_); exact ⟨rfl, rfl⟩; rw [← HW.out])
        | (go_at_call 7; refine HG1.out.mono ?_; rintro e w1 ⟨rfl, hb1⟩; have cB := (HB.out.below hb1).great; rw [hg2] at cB; have hBh := (HB.out.below hb1).heap; clear HG1)
        | ((with_reducible refine wpList_load_lit_g (w.heap.size + 1) 0 _ _ _ hBh VB (fun j _ => getElem?_zero_add _ j) _ Tryd.underlying27 HI2.out ?_ ?_); exact ⟨⟨rfl, rfl⟩, _, _, rfl, rfl, rfl⟩)
        | (go_at_call 7; refine cB.mono ?_; rintro e w2 ⟨rfl, hb2⟩; clear cB)
        | (go_at_call 8; refine (fixed_any w2 ((HT0.out.on hb1).on hb2)).mono ?_; rintro e w3 ⟨rfl, hb3⟩))
      go_ret
      have b1 := HB0.out.trans (hb1.mono HB0.out.size)
      have b2 := b1.trans (hb2.mono b1.size)
      exact ⟨rfl, b2.trans (hb3.mono b2.size)⟩
    | false =>
      have HM2 := hid2 (mild_of hg2)
      obtain ⟨r, hr⟩ : ∃ r, r = decide (textK a = textK b) := ⟨_, rfl⟩
      have hr2 : decide (textK b = textK a) = r := by rw [hr, decide_eq_decide]; exact eq_comm
      have ha := toList_strB (textK a)
      have hb := toList_strB (textK b)
      obtain ⟨s, hs⟩ : ∃ s, s = strB (textK a) := ⟨_, rfl⟩
      obtain ⟨q, hq⟩ : ∃ q, q = strB (textK b) := ⟨_, rfl⟩
      rw [← hs] at ha
      rw [← hq] at hb
      have hsq : (s.toList == q.toList) = r := by rw [ha, hb, hr, Bool.eq_iff_iff]; simp
      have HR := hid2 hr
      have HR2 := hid2 hr2
      have HS := hid2 hs
      have HQ := hid2 hq
      obtain ⟨gA, hgA⟩ : ∃ g, g = w.heap.size := ⟨_, rfl⟩
      obtain ⟨gB, hgB⟩ : ∃ g, g = w.heap.size + 1 := ⟨_, rfl⟩
      have HQA := hid2 hgA
      have HQB := hid2 hgB
      clear hg ha hb hs hq hr hr2 hgA hgB
      go_enter Tryd.func5, Tryd.ntmps5
      go_wp2_with (first
        | ((with_reducible refine wpList_load_lit w.heap.size 0 _ _ _ (heap_alloc2_old w _ _) VA (fun j _ => getElem?_zero_add _ j) _ Tryd.underlying27 HI.out ?_ ?_); exact ⟨rfl, rfl⟩; rw [← HW.out])
        | (go_at_call 7; refine HG1.out.mono ?_; rintro e w1 ⟨rfl, hb1⟩; have cB := (HB.out.below hb1).great; rw [hg2] at cB; have hBh := (HB.out.below hb1).heap; clear HG1)
        | ((with_reducible refine wpList_load_lit_g (w.heap.size + 1) 0 _ _ _ hBh VB (fun j _ => getElem?_zero_add _ j) _ Tryd.underlying27 HI2.out ?_ ?_); exact ⟨⟨rfl, rfl⟩, _, _, rfl, rfl, rfl⟩)
        | (go_at_call 7; refine cB.mono ?_; rintro e w2 ⟨rfl, hb2⟩; have hA2 := (HA.out.below hb1).below hb2; have hB2 := (HB.out.below hb1).below hb2; have cS := hA2.rsame hB2 HM1.out HM2.out; rw [← HR.out] at cS; have hAh := hA2.heap; have hBh2 := hB2.heap; have HA2 := hid2 hA2; have HB2 := hid2 hB2; clear cB hBh hA2 hB2)
        | ((with_reducible refine wpList_load_lit w.heap.size 0 _ _ _ hAh VA (fun j _ => getElem?_zero_add _ j) _ Tryd.underlying27 HI.out ?_ ?_); exact ⟨rfl, rfl⟩)
        | ((with_reducible refine wpList_load_lit (w.heap.size + 1) 0 _ _ _ hBh2 VB (fun j _ => getElem?_zero_add _ j) _ Tryd.underlying27 HI2.out ?_ ?_); exact ⟨rfl, rfl⟩)
        | (go_at_call 13; refine cS.mono ?_; rintro e W ⟨rfl, hb3⟩; have HB1 := hid2 hb1; have HB2b := hid2 hb2; have HB3 := hid2 hb3; clear cS hAh hBh2 hb1 hb2 hb3))
      have hT := ((HT0.out.on HB1.out).on HB2b.out).on HB3.out
      have HgA := hid2 (fun (w2 : World) (hb : Below W.heap.size W w2) => show ActBox w2 gA VA L a from HQA.out ▸ (HA2.out.below HB3.out).below hb)
      have HgB := hid2 (fun (w2 : World) (hb : Below W.heap.size W w2) => show ActBox w2 gB VB L' b from HQB.out ▸ (HB2.out.below HB3.out).below hb)
      have C1 := hid2 (fun (w2 : World) (hb : Below W.heap.size W w2) => (HgA.out w2 hb).same (HgB.out w2 hb) HM1.out HM2.out (hT.on hb))
      have C2 := hid2 (fun (w2 : World) (hb : Below W.heap.size W w2) => (HgB.out w2 hb).same (HgA.out w2 hb) HM2.out HM1.out (hT.on hb))
      have C3 := hid2 (fun (w2 : World) (hb : Below W.heap.size W w2) => (HgA.out w2 hb).text HM1.out (hT.on hb))
      have C4 := hid2 (fun (w2 : World) (hb : Below W.heap.size W w2) => (HgB.out w2 hb).text HM2.out (hT.on hb))
      have CF := hid2 (fun (w2 : World) (hb : Below W.heap.size W w2) => fixed_any w2 (hT.on hb))
      rw [← HR.out] at C1
      rw [HR2.out] at C2
      rw [← HS.out] at C3
      rw [← HQ.out] at C4
      clear hT
      rw [← HQB.out, ← HQA.out]
      refine wp_region_grd 24 (by kernel_rfl) (by kernel_rfl) (by kernel_rfl) _ rfl (by kernel_rfl) (fun j v _ => ([.agg VA.toArray, .agg VB.toArray, .bool r, .bool r, .bool true, .bool true, .agg VB.toArray, .agg VA.toArray, .bool r, .bool r, .bool true, .bool true, .bool true, .agg VA.toArray, .string s, .agg VB.toArray, .string q, .bool r, .bool r, .bool true, .bool true, .bool true, .bool true, .bool true] : List Value)[j]? = some v) (fun w2 => Below W.heap.size W w2) (fun a b => Below a.heap.size a b) ((Below.refl _ W).drew) (fun _ _ _ _ hb hv => hv) ?_ ?_
      · refine of_allOps ⟨?_, ?_, ?_, ?_, ?_, ?_, ?_, ?_, ?_, ?_, ?_, ?_, ?_, ?_, ?_, ?_, ?_, ?_, ?_, ?_, ?_, ?_, ?_, ?_, trivial⟩
        · intro T2 w2 hM hN hO hE K hK
          have o2 : T2[2]? = some (.pointer (some ⟨gA, 0, none⟩)) := hO 2 rfl
          clear hE hO hN
          refine step_plain0 rfl ?_
          refine wp_load_lit gA 0 _ _ _ (HgA.out w2 hM).heap VA (fun j _ => getElem?_zero_add _ j) _ Tryd.underlying27 (HgA.out w2 hM).info ⟨?_, rfl⟩ ?_
          · simp [Act.eval, o2]
          · exact hK _ _ rfl hM (Below.refl _ _)
        · intro T2 w2 hM hN hO hE K hK
          have o3 : T2[3]? = some (.pointer (some ⟨gB, 0, none⟩)) := hO 3 rfl
          clear hE hO hN
          refine step_plain0 rfl ?_
          refine wp_load_lit gB 0 _ _ _ (HgB.out w2 hM).heap VB (fun j _ => getElem?_zero_add _ j) _ Tryd.underlying27 (HgB.out w2 hM).info ⟨?_, rfl⟩ ?_
          · simp [Act.eval, o3]
          · exact hK _ _ rfl hM (Below.refl _ _)
        · intro T2 w2 hM hN hO hE K hK
          obtain ⟨v0, h0, e0⟩ := hE ⟨0, .data⟩ (by simp) rfl _ _ rfl rfl
          rw [show v0 = .agg VA.toArray from (Option.some.inj e0).symm] at h0
          obtain ⟨v1, h1, e1⟩ := hE ⟨1, .data⟩ (by simp) rfl _ _ rfl rfl
          rw [show v1 = .agg VB.toArray from (Option.some.inj e1).symm] at h1
          clear hE hO hN
          refine step_plain0 rfl ?_
          go_simp
          refine (C1.out w2 hM).mono ?_
          rintro e w3 ⟨rfl, hb⟩
          exact hK _ _ rfl (hM.trans (hb.mono hM.size)) hb
        · intro T2 w2 hM hN hO hE K hK
          have o5 : T2[5]? = some (.bool r) := hO 5 rfl
          clear hE hO hN
          refine step_plain0 rfl ?_
          go_simp
          exact hK _ _ rfl hM (Below.refl _ _)
        · intro T2 w2 hM hN hO hE K hK
          obtain ⟨v2, h2, e2⟩ := hE ⟨2, .data⟩ (by simp) rfl _ _ rfl rfl
          rw [show v2 = .bool r from (Option.some.inj e2).symm] at h2
          obtain ⟨v3, h3, e3⟩ := hE ⟨3, .data⟩ (by simp) rfl _ _ rfl rfl
          rw [show v3 = .bool r from (Option.some.inj e3).symm] at h3
          clear hE hO hN
          refine step_plain0 rfl ?_
          go_simp
          exact hK _ _ rfl hM (Below.refl _ _)
        · intro T2 w2 hM hN hO hE K hK
          obtain ⟨v4, h4, e4⟩ := hE ⟨4, .data⟩ (by simp) rfl _ _ rfl rfl
          rw [show v4 = .bool true from (Option.some.inj e4).symm] at h4
          clear hE hO hN
          refine step_plain0 rfl ?_
          go_simp
          exact hK _ _ rfl hM (Below.refl _ _)
        · intro T2 w2 hM hN hO hE K hK
          obtain ⟨v5, h5, e5⟩ := hE ⟨5, .guard⟩ (by simp) rfl _ _ rfl rfl
          rw [show v5 = .bool true from (Option.some.inj e5).symm] at h5
          have o3 : T2[3]? = some (.pointer (some ⟨gB, 0, none⟩)) := hO 3 rfl
          clear hE hO hN
          refine grd_met rfl rfl rfl h5 ?_
          refine wp_load_lit gB 0 _ _ _ (HgB.out w2 hM).heap VB (fun j _ => getElem?_zero_add _ j) _ Tryd.underlying27 (HgB.out w2 hM).info ⟨?_, rfl⟩ ?_
          · simp [Act.eval, o3]
          · exact hK _ _ rfl hM (Below.refl _ _)
        · intro T2 w2 hM hN hO hE K hK
          obtain ⟨v5, h5, e5⟩ := hE ⟨5, .guard⟩ (by simp) rfl _ _ rfl rfl
          rw [show v5 = .bool true from (Option.some.inj e5).symm] at h5
          have o2 : T2[2]? = some (.pointer (some ⟨gA, 0, none⟩)) := hO 2 rfl
          clear hE hO hN
          refine grd_met rfl rfl rfl h5 ?_
          refine wp_load_lit gA 0 _ _ _ (HgA.out w2 hM).heap VA (fun j _ => getElem?_zero_add _ j) _ Tryd.underlying27 (HgA.out w2 hM).info ⟨?_, rfl⟩ ?_
          · simp [Act.eval, o2]
          · exact hK _ _ rfl hM (Below.refl _ _)
        · intro T2 w2 hM hN hO hE K hK
          obtain ⟨v6, h6, e6⟩ := hE ⟨6, .data⟩ (by simp) rfl _ _ rfl rfl
          rw [show v6 = .agg VB.toArray from (Option.some.inj e6).symm] at h6
          obtain ⟨v7, h7, e7⟩ := hE ⟨7, .data⟩ (by simp) rfl _ _ rfl rfl
          rw [show v7 = .agg VA.toArray from (Option.some.inj e7).symm] at h7
          obtain ⟨v5, h5, e5⟩ := hE ⟨5, .guard⟩ (by simp) rfl _ _ rfl rfl
          rw [show v5 = .bool true from (Option.some.inj e5).symm] at h5
          clear hE hO hN
          refine grd_met rfl rfl rfl h5 ?_
          go_simp
          refine (C2.out w2 hM).mono ?_
          rintro e w3 ⟨rfl, hb⟩
          exact hK _ _ rfl (hM.trans (hb.mono hM.size)) hb
        · intro T2 w2 hM hN hO hE K hK
          obtain ⟨v5, h5, e5⟩ := hE ⟨5, .guard⟩ (by simp) rfl _ _ rfl rfl
          rw [show v5 = .bool true from (Option.some.inj e5).symm] at h5
          have o5 : T2[5]? = some (.bool r) := hO 5 rfl
          clear hE hO hN
          refine grd_met rfl rfl rfl h5 ?_
          go_simp
          exact hK _ _ rfl hM (Below.refl _ _)
        · intro T2 w2 hM hN hO hE K hK
          obtain ⟨v8, h8, e8⟩ := hE ⟨8, .data⟩ (by simp) rfl _ _ rfl rfl
          rw [show v8 = .bool r from (Option.some.inj e8).symm] at h8
          obtain ⟨v9, h9, e9⟩ := hE ⟨9, .data⟩ (by simp) rfl _ _ rfl rfl
          rw [show v9 = .bool r from (Option.some.inj e9).symm] at h9
          obtain ⟨v5, h5, e5⟩ := hE ⟨5, .guard⟩ (by simp) rfl _ _ rfl rfl
          rw [show v5 = .bool true from (Option.some.inj e5).symm] at h5
          clear hE hO hN
          refine grd_met rfl rfl rfl h5 ?_
          go_simp
          exact hK _ _ rfl hM (Below.refl _ _)
        · intro T2 w2 hM hN hO hE K hK
          obtain ⟨v5, h5, e5⟩ := hE ⟨5, .data⟩ (by simp) rfl _ _ rfl rfl
          rw [show v5 = .bool true from (Option.some.inj e5).symm] at h5
          obtain ⟨v10, h10, e10⟩ := hE ⟨10, .data⟩ (by simp) rfl _ _ rfl rfl
          rw [show v10 = .bool true from (Option.some.inj e10).symm] at h10
          clear hE hO hN
          refine step_plain0 rfl ?_
          go_simp
          exact hK _ _ rfl hM (Below.refl _ _)
        · intro T2 w2 hM hN hO hE K hK
          obtain ⟨v11, h11, e11⟩ := hE ⟨11, .data⟩ (by simp) rfl _ _ rfl rfl
          rw [show v11 = .bool true from (Option.some.inj e11).symm] at h11
          clear hE hO hN
          refine step_plain0 rfl ?_
          go_simp
          exact hK _ _ rfl hM (Below.refl _ _)
        · intro T2 w2 hM hN hO hE K hK
          obtain ⟨v12, h12, e12⟩ := hE ⟨12, .guard⟩ (by simp) rfl _ _ rfl rfl
          rw [show v12 = .bool true from (Option.some.inj e12).symm] at h12
          have o2 : T2[2]? = some (.pointer (some ⟨gA, 0, none⟩)) := hO 2 rfl
          clear hE hO hN
          refine grd_met rfl rfl rfl h12 ?_
          refine wp_load_lit gA 0 _ _ _ (HgA.out w2 hM).heap VA (fun j _ => getElem?_zero_add _ j) _ Tryd.underlying27 (HgA.out w2 hM).info ⟨?_, rfl⟩ ?_
          · simp [Act.eval, o2]
          · exact hK _ _ rfl hM (Below.refl _ _)
        · intro T2 w2 hM hN hO hE K hK
          obtain ⟨v13, h13, e13⟩ := hE ⟨13, .data⟩ (by simp) rfl _ _ rfl rfl
          rw [show v13 = .agg VA.toArray from (Option.some.inj e13).symm] at h13
          obtain ⟨v12, h12, e12⟩ := hE ⟨12, .guard⟩ (by simp) rfl _ _ rfl rfl
          rw [show v12 = .bool true from (Option.some.inj e12).symm] at h12
          clear hE hO hN
          refine grd_met rfl rfl rfl h12 ?_
          go_simp
          refine (C3.out w2 hM).mono ?_
          rintro e w3 ⟨rfl, hb⟩
          exact hK _ _ rfl (hM.trans (hb.mono hM.size)) hb
        · intro T2 w2 hM hN hO hE K hK
          obtain ⟨v12, h12, e12⟩ := hE ⟨12, .guard⟩ (by simp) rfl _ _ rfl rfl
          rw [show v12 = .bool true from (Option.some.inj e12).symm] at h12
          have o3 : T2[3]? = some (.pointer (some ⟨gB, 0, none⟩)) := hO 3 rfl
          clear hE hO hN
          refine grd_met rfl rfl rfl h12 ?_
          refine wp_load_lit gB 0 _ _ _ (HgB.out w2 hM).heap VB (fun j _ => getElem?_zero_add _ j) _ Tryd.underlying27 (HgB.out w2 hM).info ⟨?_, rfl⟩ ?_
          · simp [Act.eval, o3]
          · exact hK _ _ rfl hM (Below.refl _ _)
        · intro T2 w2 hM hN hO hE K hK
          obtain ⟨v15, h15, e15⟩ := hE ⟨15, .data⟩ (by simp) rfl _ _ rfl rfl
          rw [show v15 = .agg VB.toArray from (Option.some.inj e15).symm] at h15
          obtain ⟨v12, h12, e12⟩ := hE ⟨12, .guard⟩ (by simp) rfl _ _ rfl rfl
          rw [show v12 = .bool true from (Option.some.inj e12).symm] at h12
          clear hE hO hN
          refine grd_met rfl rfl rfl h12 ?_
          go_simp
          refine (C4.out w2 hM).mono ?_
          rintro e w3 ⟨rfl, hb⟩
          exact hK _ _ rfl (hM.trans (hb.mono hM.size)) hb
        · intro T2 w2 hM hN hO hE K hK
          obtain ⟨v14, h14, e14⟩ := hE ⟨14, .data⟩ (by simp) rfl _ _ rfl rfl
          rw [show v14 = .string s from (Option.some.inj e14).symm] at h14
          obtain ⟨v16, h16, e16⟩ := hE ⟨16, .data⟩ (by simp) rfl _ _ rfl rfl
          rw [show v16 = .string q from (Option.some.inj e16).symm] at h16
          obtain ⟨v12, h12, e12⟩ := hE ⟨12, .guard⟩ (by simp) rfl _ _ rfl rfl
          rw [show v12 = .bool true from (Option.some.inj e12).symm] at h12
          clear hE hO hN
          refine grd_met rfl rfl rfl h12 ?_
          go_simp
          exact hK _ _ rfl hM (Below.refl _ _)
        · intro T2 w2 hM hN hO hE K hK
          obtain ⟨v12, h12, e12⟩ := hE ⟨12, .guard⟩ (by simp) rfl _ _ rfl rfl
          rw [show v12 = .bool true from (Option.some.inj e12).symm] at h12
          have o5 : T2[5]? = some (.bool r) := hO 5 rfl
          clear hE hO hN
          refine grd_met rfl rfl rfl h12 ?_
          go_simp
          exact hK _ _ rfl hM (Below.refl _ _)
        · intro T2 w2 hM hN hO hE K hK
          obtain ⟨v17, h17, e17⟩ := hE ⟨17, .data⟩ (by simp) rfl _ _ rfl rfl
          rw [show v17 = .bool r from (Option.some.inj e17).symm] at h17
          obtain ⟨v18, h18, e18⟩ := hE ⟨18, .data⟩ (by simp) rfl _ _ rfl rfl
          rw [show v18 = .bool r from (Option.some.inj e18).symm] at h18
          obtain ⟨v12, h12, e12⟩ := hE ⟨12, .guard⟩ (by simp) rfl _ _ rfl rfl
          rw [show v12 = .bool true from (Option.some.inj e12).symm] at h12
          clear hE hO hN
          refine grd_met rfl rfl rfl h12 ?_
          go_simp
          exact hK _ _ rfl hM (Below.refl _ _)
        · intro T2 w2 hM hN hO hE K hK
          obtain ⟨v12, h12, e12⟩ := hE ⟨12, .data⟩ (by simp) rfl _ _ rfl rfl
          rw [show v12 = .bool true from (Option.some.inj e12).symm] at h12
          obtain ⟨v19, h19, e19⟩ := hE ⟨19, .data⟩ (by simp) rfl _ _ rfl rfl
          rw [show v19 = .bool true from (Option.some.inj e19).symm] at h19
          clear hE hO hN
          refine step_plain0 rfl ?_
          go_simp
          exact hK _ _ rfl hM (Below.refl _ _)
        · intro T2 w2 hM hN hO hE K hK
          obtain ⟨v20, h20, e20⟩ := hE ⟨20, .data⟩ (by simp) rfl _ _ rfl rfl
          rw [show v20 = .bool true from (Option.some.inj e20).symm] at h20
          clear hE hO hN
          refine step_plain0 rfl ?_
          go_simp
          exact hK _ _ rfl hM (Below.refl _ _)
        · intro T2 w2 hM hN hO hE K hK
          obtain ⟨v21, h21, e21⟩ := hE ⟨21, .guard⟩ (by simp) rfl _ _ rfl rfl
          rw [show v21 = .bool true from (Option.some.inj e21).symm] at h21
          clear hE hO hN
          refine grd_met rfl rfl rfl h21 ?_
          go_simp
          refine (CF.out w2 hM).mono ?_
          rintro e w3 ⟨rfl, hb⟩
          exact hK _ _ rfl (hM.trans (hb.mono hM.size)) hb
        · intro T2 w2 hM hN hO hE K hK
          obtain ⟨v21, h21, e21⟩ := hE ⟨21, .data⟩ (by simp) rfl _ _ rfl rfl
          rw [show v21 = .bool true from (Option.some.inj e21).symm] at h21
          obtain ⟨v22, h22, e22⟩ := hE ⟨22, .data⟩ (by simp) rfl _ _ rfl rfl
          rw [show v22 = .bool true from (Option.some.inj e22).symm] at h22
          clear hE hO hN
          refine step_plain0 rfl ?_
          go_simp
          exact hK _ _ rfl hM (Below.refl _ _)
      · intro u w2 hM hF
        have e23 : u 23 = .bool true := (Option.some.inj (hF 23 (by omega))).symm
        clear hF
        simp only [fillAll, Nat.reduceAdd, e23, List.take_succ_cons, List.take_zero, List.drop_succ_cons, List.drop_zero, List.setIfInBounds_toArray, List.set_cons_succ, List.set_cons_zero]
        go_wp2_with fail
        go_ret
        have b1 := HB0.out.trans (HB1.out.mono HB0.out.size)
        have b2 := b1.trans (HB2b.out.mono b1.size)
        have b3 := b2.trans (HB3.out.mono b2.size)
        exact ⟨rfl, b3.trans (hM.mono b3.size)⟩
end Go.Proofs.YtjmfmlkjippiaaaDoor
