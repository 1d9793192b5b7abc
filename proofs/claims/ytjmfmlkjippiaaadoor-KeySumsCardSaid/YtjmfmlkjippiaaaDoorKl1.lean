/- The walks of KeyTexts and KeySums. -/
import Derived.Test.YtjmfmlkjippiaaaDoorKfix
namespace Go.Proofs.YtjmfmlkjippiaaaDoor
open Go.RowKit Go.Shelf
set_option maxRecDepth 100000
theorem box_new (w : World) (L : LayA) (a : ActK) (h : ActAt w L a) : ∃ V : List Value, V.toArray = actV L a ∧ ActBox (w.alloc (.cells V.toArray 27)) w.heap.size V L a := by
  refine ⟨(actV L a).toList, by simp, ⟨World.alloc_heap_new w _, rfl, by simp, h.below ((Below.refl _ w).alloc (Nat.le_refl _) _)⟩⟩
set_option maxHeartbeats 4000000 in
theorem keytexts_any (w : World) (L : LayA) (a : ActK) (h : ActAt w L a) (hTab : Tabs w) :
    Calls Tryd.prog 3 #[.agg (actV L a)] w fun e w' => e = .returned (.bool true) ∧ Below w.heap.size w w' := by
  obtain ⟨VA, hVA, hA⟩ := box_new w L a h
  rw [← hVA]
  obtain ⟨W0, hW⟩ : ∃ W0, W0 = w.alloc (.cells VA.toArray 27) := ⟨_, rfl⟩
  rw [← hW] at hA
  have hB0 : Below w.heap.size w W0 := by rw [hW]; exact (Below.refl _ w).alloc (Nat.le_refl _) _
  have hT0 := hTab.on hB0
  have cG := hA.great
  have hx : (w.alloc (.cells VA.toArray 27)).heap[w.heap.size]? = some (.cells VA.toArray 27 (0, 0)) := World.alloc_heap_new w _
  have HX := hid2 hx
  have HI := hid2 hA.info
  have HW := hid2 hW
  have HB0 := hid2 hB0
  have HT0 := hid2 hT0
  have HA := hid2 hA
  have HC := hid2 cG
  obtain ⟨gA, hgA⟩ : ∃ g, g = w.heap.size := ⟨_, rfl⟩
  rw [← hgA] at HA
  have HQA := hid2 hgA
  cases hg : greatL a with
  | true =>
    rw [hg] at HC
    clear cG h hTab hVA hA hW hB0 hT0 hx hgA hg
    go_enter Tryd.func3, Tryd.ntmps3
    go_wp2_with (first
      | ((with_reducible refine wpList_load_lit w.heap.size 0 _ _ _ HX.out VA (fun j _ => getElem?_zero_add _ j) _ Tryd.underlying27 HI.out ?_ ?_); exact ⟨rfl, rfl⟩; rw [← HW.out])
      | (go_at_call 7; refine HC.out.mono ?_; rintro e w1 ⟨rfl, hb1⟩)
      | (go_at_call 8; refine (fixed_any w1 (HT0.out.on hb1)).mono ?_; rintro e w2 ⟨rfl, hb2⟩))
    go_ret
    have b1 := HB0.out.trans (hb1.mono HB0.out.size)
    exact ⟨rfl, b1.trans (hb2.mono b1.size)⟩
  | false =>
    have hm := mild_of hg
    rw [hg] at HC
    have HMI := hid2 hm
    clear cG h hTab hVA hA hW hB0 hT0 hx hgA hg hm
    go_enter Tryd.func3, Tryd.ntmps3
    go_wp2_with (first
      | ((with_reducible refine wpList_load_lit w.heap.size 0 _ _ _ HX.out VA (fun j _ => getElem?_zero_add _ j) _ Tryd.underlying27 HI.out ?_ ?_); exact ⟨rfl, rfl⟩; rw [← HW.out])
      | (go_at_call 7; refine HC.out.mono ?_; rintro e W ⟨rfl, hb1⟩; have HB1 := hid2 hb1; clear hb1))
    have HgA := hid2 (fun (w2 : World) (hb : Below W.heap.size W w2) => (HA.out.below HB1.out).below hb)
    have C1 := hid2 (fun (w2 : World) (hb : Below W.heap.size W w2) => (HgA.out w2 hb).text HMI.out ((HT0.out.on HB1.out).on hb))
    have C2 := hid2 (fun (w2 : World) (hb : Below W.heap.size W w2) => (HgA.out w2 hb).rtext HMI.out)
    have CF := hid2 (fun (w2 : World) (hb : Below W.heap.size W w2) => fixed_any w2 ((HT0.out.on HB1.out).on hb))
    obtain ⟨s, hs⟩ : ∃ s, s = strB (textK a) := ⟨_, rfl⟩
    rw [← hs] at C1 C2
    clear hs
    rw [← HQA.out]
    refine wp_region_grd 8 (by kernel_rfl) (by kernel_rfl) (by kernel_rfl) _ rfl (by kernel_rfl) (fun j v _ => ([.agg VA.toArray, .string s, .agg VA.toArray, .string s, .bool true, .bool true, .bool true, .bool true] : List Value)[j]? = some v) (fun w2 => Below W.heap.size W w2) (fun a b => Below a.heap.size a b) ((Below.refl _ W).drew) (fun _ _ _ _ hb hv => hv) ?_ ?_
    · refine of_allOps ⟨?_, ?_, ?_, ?_, ?_, ?_, ?_, ?_, trivial⟩
      · intro T2 w2 hM hN hO hE K hK
        have o1 : T2[1]? = some (.pointer (some ⟨gA, 0, none⟩)) := hO 1 rfl
        clear hE hO hN
        refine step_plain0 rfl ?_
        refine wp_load_lit gA 0 _ _ _ (HgA.out w2 hM).heap VA (fun j _ => getElem?_zero_add _ j) _ Tryd.underlying27 (HgA.out w2 hM).info ⟨?_, rfl⟩ ?_
        · simp [Act.eval, o1]
        · exact hK _ _ rfl hM (Below.refl _ _)
      · intro T2 w2 hM hN hO hE K hK
        obtain ⟨v0, h0, e0⟩ := hE ⟨0, .data⟩ (by simp) rfl _ _ rfl rfl
        rw [show v0 = .agg VA.toArray from (Option.some.inj e0).symm] at h0
        clear hE hO hN
        refine step_plain0 rfl ?_
        go_simp
        refine (C1.out w2 hM).mono ?_
        rintro e w3 ⟨rfl, hb⟩
        exact hK _ _ rfl (hM.trans (hb.mono hM.size)) hb
      · intro T2 w2 hM hN hO hE K hK
        have o1 : T2[1]? = some (.pointer (some ⟨gA, 0, none⟩)) := hO 1 rfl
        clear hE hO hN
        refine step_plain0 rfl ?_
        refine wp_load_lit gA 0 _ _ _ (HgA.out w2 hM).heap VA (fun j _ => getElem?_zero_add _ j) _ Tryd.underlying27 (HgA.out w2 hM).info ⟨?_, rfl⟩ ?_
        · simp [Act.eval, o1]
        · exact hK _ _ rfl hM (Below.refl _ _)
      · intro T2 w2 hM hN hO hE K hK
        obtain ⟨v2, h2, e2⟩ := hE ⟨2, .data⟩ (by simp) rfl _ _ rfl rfl
        rw [show v2 = .agg VA.toArray from (Option.some.inj e2).symm] at h2
        clear hE hO hN
        refine step_plain0 rfl ?_
        go_simp
        refine (C2.out w2 hM).mono ?_
        rintro e w3 ⟨rfl, hb⟩
        exact hK _ _ rfl (hM.trans (hb.mono hM.size)) hb
      · intro T2 w2 hM hN hO hE K hK
        obtain ⟨v1, h1, e1⟩ := hE ⟨1, .data⟩ (by simp) rfl _ _ rfl rfl
        rw [show v1 = .string s from (Option.some.inj e1).symm] at h1
        obtain ⟨v3, h3, e3⟩ := hE ⟨3, .data⟩ (by simp) rfl _ _ rfl rfl
        rw [show v3 = .string s from (Option.some.inj e3).symm] at h3
        clear hE hO hN
        refine step_plain0 rfl ?_
        go_simp
        exact hK _ _ rfl hM (Below.refl _ _)
      · intro T2 w2 hM hN hO hE K hK
        obtain ⟨v4, h4, e4⟩ := hE ⟨4, .data⟩ (by simp) rfl _ _ rfl rfl
        rw [show v4 = .bool true from (Option.some.inj e4).symm] at h4
        clear hE hO hN
        refine step_plain0 rfl ?_
        go_simp
        exact hK _ _ rfl hM (Below.refl _ _)
      · intro T2 w2 hM hN hO hE K hK
        obtain ⟨v5, h5, e5⟩ := hE ⟨5, .guard⟩ (by simp) rfl _ _ rfl rfl
        rw [show v5 = .bool true from (Option.some.inj e5).symm] at h5
        clear hE hO hN
        refine grd_met rfl rfl rfl h5 ?_
        go_simp
        refine (CF.out w2 hM).mono ?_
        rintro e w3 ⟨rfl, hb⟩
        exact hK _ _ rfl (hM.trans (hb.mono hM.size)) hb
      · intro T2 w2 hM hN hO hE K hK
        obtain ⟨v5, h5, e5⟩ := hE ⟨5, .data⟩ (by simp) rfl _ _ rfl rfl
        rw [show v5 = .bool true from (Option.some.inj e5).symm] at h5
        obtain ⟨v6, h6, e6⟩ := hE ⟨6, .data⟩ (by simp) rfl _ _ rfl rfl
        rw [show v6 = .bool true from (Option.some.inj e6).symm] at h6
        clear hE hO hN
        refine step_plain0 rfl ?_
        go_simp
        exact hK _ _ rfl hM (Below.refl _ _)
    · intro u w2 hM hF
      have e7 : u 7 = .bool true := (Option.some.inj (hF 7 (by omega))).symm
      clear hF
      simp only [fillAll, Nat.reduceAdd, e7, List.take_succ_cons, List.take_zero, List.drop_succ_cons, List.drop_zero, List.setIfInBounds_toArray, List.set_cons_succ, List.set_cons_zero]
      go_wp2_with fail
      go_ret
      have b1 := HB0.out.trans (HB1.out.mono HB0.out.size)
      exact ⟨rfl, b1.trans (hM.mono b1.size)⟩
set_option maxHeartbeats 4000000 in
theorem keysums_any (w : World) (L : LayA) (a : ActK) (h : ActAt w L a) (hTab : Tabs w) :
    Calls Tryd.prog 4 #[.agg (actV L a)] w fun e w' => e = .returned (.bool true) ∧ Below w.heap.size w w' := by
  obtain ⟨VA, hVA, hA⟩ := box_new w L a h
  rw [← hVA]
  obtain ⟨W0, hW⟩ : ∃ W0, W0 = w.alloc (.cells VA.toArray 27) := ⟨_, rfl⟩
  rw [← hW] at hA
  have hB0 : Below w.heap.size w W0 := by rw [hW]; exact (Below.refl _ w).alloc (Nat.le_refl _) _
  have hT0 := hTab.on hB0
  have cG := hA.great
  have hx : (w.alloc (.cells VA.toArray 27)).heap[w.heap.size]? = some (.cells VA.toArray 27 (0, 0)) := World.alloc_heap_new w _
  have HX := hid2 hx
  have HI := hid2 hA.info
  have HW := hid2 hW
  have HB0 := hid2 hB0
  have HT0 := hid2 hT0
  have HA := hid2 hA
  have HC := hid2 cG
  obtain ⟨gA, hgA⟩ : ∃ g, g = w.heap.size := ⟨_, rfl⟩
  rw [← hgA] at HA
  have HQA := hid2 hgA
  cases hg : greatL a with
  | true =>
    rw [hg] at HC
    clear cG h hTab hVA hA hW hB0 hT0 hx hgA hg
    go_enter Tryd.func4, Tryd.ntmps4
    go_wp2_with (first
      | ((with_reducible refine wpList_load_lit w.heap.size 0 _ _ _ HX.out VA (fun j _ => getElem?_zero_add _ j) _ Tryd.underlying27 HI.out ?_ ?_); exact ⟨rfl, rfl⟩; rw [← HW.out])
      | (go_at_call 7; refine HC.out.mono ?_; rintro e w1 ⟨rfl, hb1⟩)
      | (go_at_call 8; refine (fixed_any w1 (HT0.out.on hb1)).mono ?_; rintro e w2 ⟨rfl, hb2⟩))
    go_ret
    have b1 := HB0.out.trans (hb1.mono HB0.out.size)
    exact ⟨rfl, b1.trans (hb2.mono b1.size)⟩
  | false =>
    have hm := mild_of hg
    rw [hg] at HC
    have HMI := hid2 hm
    clear cG h hTab hVA hA hW hB0 hT0 hx hgA hg hm
    go_enter Tryd.func4, Tryd.ntmps4
    go_wp2_with (first
      | ((with_reducible refine wpList_load_lit w.heap.size 0 _ _ _ HX.out VA (fun j _ => getElem?_zero_add _ j) _ Tryd.underlying27 HI.out ?_ ?_); exact ⟨rfl, rfl⟩; rw [← HW.out])
      | (go_at_call 7; refine HC.out.mono ?_; rintro e W ⟨rfl, hb1⟩; have HB1 := hid2 hb1; clear hb1))
    have HgA := hid2 (fun (w2 : World) (hb : Below W.heap.size W w2) => (HA.out.below HB1.out).below hb)
    have C1 := hid2 (fun (w2 : World) (hb : Below W.heap.size W w2) => (HgA.out w2 hb).of HMI.out ((HT0.out.on HB1.out).on hb))
    have C2 := hid2 (fun (w2 : World) (hb : Below W.heap.size W w2) => (HgA.out w2 hb).rof HMI.out)
    have CF := hid2 (fun (w2 : World) (hb : Below W.heap.size W w2) => fixed_any w2 ((HT0.out.on HB1.out).on hb))
    obtain ⟨S, hS⟩ : ∃ S, S = Sha.sum (textK a) := ⟨_, rfl⟩
    have hSl : S.length = 32 := by rw [hS]; exact sum_len _
    have heq := run_eq_dig S S hSl hSl
    rw [← hS] at C1 C2
    clear hS hSl
    rw [← HQA.out]
    refine wp_region_grd 8 (by kernel_rfl) (by kernel_rfl) (by kernel_rfl) _ rfl (by kernel_rfl) (fun j v _ => ([.agg VA.toArray, .agg (u8s S).toArray, .agg VA.toArray, .agg (u8s S).toArray, .bool true, .bool true, .bool true, .bool true] : List Value)[j]? = some v) (fun w2 => Below W.heap.size W w2) (fun a b => Below a.heap.size a b) ((Below.refl _ W).drew) (fun _ _ _ _ hb hv => hv) ?_ ?_
    · refine of_allOps ⟨?_, ?_, ?_, ?_, ?_, ?_, ?_, ?_, trivial⟩
      · intro T2 w2 hM hN hO hE K hK
        have o1 : T2[1]? = some (.pointer (some ⟨gA, 0, none⟩)) := hO 1 rfl
        clear hE hO hN
        refine step_plain0 rfl ?_
        refine wp_load_lit gA 0 _ _ _ (HgA.out w2 hM).heap VA (fun j _ => getElem?_zero_add _ j) _ Tryd.underlying27 (HgA.out w2 hM).info ⟨?_, rfl⟩ ?_
        · simp [Act.eval, o1]
        · exact hK _ _ rfl hM (Below.refl _ _)
      · intro T2 w2 hM hN hO hE K hK
        obtain ⟨v0, h0, e0⟩ := hE ⟨0, .data⟩ (by simp) rfl _ _ rfl rfl
        rw [show v0 = .agg VA.toArray from (Option.some.inj e0).symm] at h0
        clear hE hO hN
        refine step_plain0 rfl ?_
        go_simp
        refine (C1.out w2 hM).mono ?_
        rintro e w3 ⟨rfl, hb⟩
        exact hK _ _ rfl (hM.trans (hb.mono hM.size)) hb
      · intro T2 w2 hM hN hO hE K hK
        have o1 : T2[1]? = some (.pointer (some ⟨gA, 0, none⟩)) := hO 1 rfl
        clear hE hO hN
        refine step_plain0 rfl ?_
        refine wp_load_lit gA 0 _ _ _ (HgA.out w2 hM).heap VA (fun j _ => getElem?_zero_add _ j) _ Tryd.underlying27 (HgA.out w2 hM).info ⟨?_, rfl⟩ ?_
        · simp [Act.eval, o1]
        · exact hK _ _ rfl hM (Below.refl _ _)
      · intro T2 w2 hM hN hO hE K hK
        obtain ⟨v2, h2, e2⟩ := hE ⟨2, .data⟩ (by simp) rfl _ _ rfl rfl
        rw [show v2 = .agg VA.toArray from (Option.some.inj e2).symm] at h2
        clear hE hO hN
        refine step_plain0 rfl ?_
        go_simp
        refine (C2.out w2 hM).mono ?_
        rintro e w3 ⟨rfl, hb⟩
        exact hK _ _ rfl (hM.trans (hb.mono hM.size)) hb
      · intro T2 w2 hM hN hO hE K hK
        obtain ⟨v1, h1, e1⟩ := hE ⟨1, .data⟩ (by simp) rfl _ _ rfl rfl
        rw [show v1 = .agg (u8s S).toArray from (Option.some.inj e1).symm] at h1
        obtain ⟨v3, h3, e3⟩ := hE ⟨3, .data⟩ (by simp) rfl _ _ rfl rfl
        rw [show v3 = .agg (u8s S).toArray from (Option.some.inj e3).symm] at h3
        clear hE hO hN
        refine step_plain0 rfl ?_
        have hq := heq w2
        rw [beq_self_eq_true] at hq
        go_simp
        exact hK _ _ rfl hM (Below.refl _ _)
      · intro T2 w2 hM hN hO hE K hK
        obtain ⟨v4, h4, e4⟩ := hE ⟨4, .data⟩ (by simp) rfl _ _ rfl rfl
        rw [show v4 = .bool true from (Option.some.inj e4).symm] at h4
        clear hE hO hN
        refine step_plain0 rfl ?_
        go_simp
        exact hK _ _ rfl hM (Below.refl _ _)
      · intro T2 w2 hM hN hO hE K hK
        obtain ⟨v5, h5, e5⟩ := hE ⟨5, .guard⟩ (by simp) rfl _ _ rfl rfl
        rw [show v5 = .bool true from (Option.some.inj e5).symm] at h5
        clear hE hO hN
        refine grd_met rfl rfl rfl h5 ?_
        go_simp
        refine (CF.out w2 hM).mono ?_
        rintro e w3 ⟨rfl, hb⟩
        exact hK _ _ rfl (hM.trans (hb.mono hM.size)) hb
      · intro T2 w2 hM hN hO hE K hK
        obtain ⟨v5, h5, e5⟩ := hE ⟨5, .data⟩ (by simp) rfl _ _ rfl rfl
        rw [show v5 = .bool true from (Option.some.inj e5).symm] at h5
        obtain ⟨v6, h6, e6⟩ := hE ⟨6, .data⟩ (by simp) rfl _ _ rfl rfl
        rw [show v6 = .bool true from (Option.some.inj e6).symm] at h6
        clear hE hO hN
        refine step_plain0 rfl ?_
        go_simp
        exact hK _ _ rfl hM (Below.refl _ _)
    · intro u w2 hM hF
      have e7 : u 7 = .bool true := (Option.some.inj (hF 7 (by omega))).symm
      clear hF
      simp only [fillAll, Nat.reduceAdd, e7, List.take_succ_cons, List.take_zero, List.drop_succ_cons, List.drop_zero, List.setIfInBounds_toArray, List.set_cons_succ, List.set_cons_zero]
      go_wp2_with fail
      go_ret
      have b1 := HB0.out.trans (HB1.out.mono HB0.out.size)
      exact ⟨rfl, b1.trans (hM.mono b1.size)⟩
end Go.Proofs.YtjmfmlkjippiaaaDoor
