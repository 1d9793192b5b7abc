/- The document's example. -/
import Derived.Test.YtjmfmlkjippiaaaDoorKact
namespace Go.Proofs.YtjmfmlkjippiaaaDoor
open Go.RowKit Go.Shelf
open Go.Lib (decDigits)
set_option maxRecDepth 100000
def fxA : ActK := ⟨[], [], [[98], [97], [98]], [], []⟩
def fxB : ActK := ⟨[], [], [[97], [98]], [], []⟩
theorem dec_small {n : Nat} (h : n < 10) : decDigits n = [UInt8.ofNat (48 + n)] := by rw [decDigits, dif_pos h]
theorem refSet_ab : refSet [[98], [97], [98]] = [[97], [98]] := by decide
theorem refSet_ab2 : refSet [[97], [98]] = [[97], [98]] := by decide
theorem refSet_nil : refSet [] = [] := rfl
theorem fx_text (a : ActK) (h1 : a.tool = []) (h2 : a.env = []) (h3 : setL a.ins = [[97], [98]]) (h4 : a.asks = []) (h5 : a.outs = []) :
    textK a = [48, 58, 48, 58, 54, 58, 49, 58, 97, 49, 58, 98, 48, 58, 48, 58] := by
  have e1 : envL [] = [] := by rw [envL, List.map_nil, ← refSet_eq, refSet_nil]; rfl
  have e2 : setL [] = [] := by rw [← refSet_eq]; rfl
  have d0 := dec_small (n := 0) (by decide)
  have d1 := dec_small (n := 1) (by decide)
  have d6 := dec_small (n := 6) (by decide)
  have r1 : rowL [[97], [98]] = [49, 58, 97, 49, 58, 98] := by
    rw [rowL_cons, rowL_cons, rowL_nil]
    simp only [List.length_cons, List.length_nil, Nat.zero_add]
    rw [d1]
    rfl
  rw [textK, partsK, h1, h2, h3, h4, h5, e1, e2]
  simp only [List.map_cons, List.map_nil, rowL_nil, r1]
  rw [rowL_cons, rowL_cons, rowL_cons, rowL_cons, rowL_cons, rowL_nil]
  simp only [List.length_cons, List.length_nil, Nat.zero_add, Nat.reduceAdd]
  rw [d0, d6]
  rfl
theorem fxA_text : textK fxA = [48, 58, 48, 58, 54, 58, 49, 58, 97, 49, 58, 98, 48, 58, 48, 58] := fx_text fxA rfl rfl (by rw [← refSet_eq]; exact refSet_ab) rfl rfl
theorem fxB_text : textK fxB = [48, 58, 48, 58, 54, 58, 49, 58, 97, 49, 58, 98, 48, 58, 48, 58] := fx_text fxB rfl rfl (by rw [← refSet_eq]; exact refSet_ab2) rfl rfl
theorem fx_ne : (Sha.sum [48, 58, 48, 58, 54, 58, 49, 58, 97, 49, 58, 98, 48, 58, 48, 58] == List.replicate 32 0) = false := by decide +kernel
theorem fxA_mild : Mild fxA := ⟨by decide, by decide, by decide, by decide, by decide, by decide, by decide, by decide, by decide⟩
theorem fxB_mild : Mild fxB := ⟨by decide, by decide, by decide, by decide, by decide, by decide, by decide, by decide, by decide⟩
set_option maxHeartbeats 4000000 in
theorem fixed_any (w : World) (hTab : Tabs w) : Calls Tryd.prog 8 #[] w fun e w' => e = .returned (.bool true) ∧ Below w.heap.size w w' := by
  obtain ⟨W, hW⟩ : ∃ W, W = ((((w.alloc (.cells #[.string ⟨#[98]⟩, .string ⟨#[97]⟩, .string ⟨#[98]⟩] 9)).alloc (.cells #[.string ⟨#[97]⟩, .string ⟨#[98]⟩] 9)).alloc (.cells #[.string ⟨#[]⟩, .string ⟨#[]⟩, .string ⟨#[]⟩, .slice none 0 0, .slice (some ⟨w.heap.size, 0, none⟩) 3 3, .slice none 0 0, .slice none 0 0] 27)).alloc (.cells #[.string ⟨#[]⟩, .string ⟨#[]⟩, .string ⟨#[]⟩, .slice none 0 0, .slice (some ⟨w.heap.size + 1, 0, none⟩) 2 2, .slice none 0 0, .slice none 0 0] 27)) := ⟨_, rfl⟩
  have hB0 : Below w.heap.size w W := by rw [hW]; exact ((((Below.refl _ w).alloc (Nat.le_refl _) _).alloc (by simp) _).alloc (by simp; omega) _).alloc (by simp; omega) _
  have r1 := Rd.of_lit w #[.string ⟨#[98]⟩, .string ⟨#[97]⟩, .string ⟨#[98]⟩] 9 1 3 (by decide) rfl
  have r2 := Rd.of_lit (w.alloc (.cells #[.string ⟨#[98]⟩, .string ⟨#[97]⟩, .string ⟨#[98]⟩] 9)) #[.string ⟨#[97]⟩, .string ⟨#[98]⟩] 9 1 2 (by decide) rfl
  rw [World.size_alloc] at r2
  obtain ⟨VA, hVA⟩ : ∃ V : List Value, V = [.string ⟨#[]⟩, .string ⟨#[]⟩, .string ⟨#[]⟩, .slice none 0 0, .slice (some ⟨w.heap.size, 0, none⟩) 3 3, .slice none 0 0, .slice none 0 0] := ⟨_, rfl⟩
  obtain ⟨VB, hVB⟩ : ∃ V : List Value, V = [.string ⟨#[]⟩, .string ⟨#[]⟩, .string ⟨#[]⟩, .slice none 0 0, .slice (some ⟨w.heap.size + 1, 0, none⟩) 2 2, .slice none 0 0, .slice none 0 0] := ⟨_, rfl⟩
  have hhB : W.heap[w.heap.size + 1 + 1 + 1]? = some (.cells VB.toArray 27 (0, 0)) := by
    rw [hW, hVB]
    have := World.alloc_heap_new (((w.alloc (.cells #[.string ⟨#[98]⟩, .string ⟨#[97]⟩, .string ⟨#[98]⟩] 9)).alloc (.cells #[.string ⟨#[97]⟩, .string ⟨#[98]⟩] 9)).alloc (.cells #[.string ⟨#[]⟩, .string ⟨#[]⟩, .string ⟨#[]⟩, .slice none 0 0, .slice (some ⟨w.heap.size, 0, none⟩) 3 3, .slice none 0 0, .slice none 0 0] 27)) (.cells #[.string ⟨#[]⟩, .string ⟨#[]⟩, .string ⟨#[]⟩, .slice none 0 0, .slice (some ⟨w.heap.size + 1, 0, none⟩) 2 2, .slice none 0 0, .slice none 0 0] 27)
    rwa [World.size_alloc, World.size_alloc, World.size_alloc] at this
  have hhA : W.heap[w.heap.size + 1 + 1]? = some (.cells VA.toArray 27 (0, 0)) := by
    rw [hW, hVA]
    refine (Below.heap_alloc _ _ _ (by simp)).trans ?_
    have := World.alloc_heap_new ((w.alloc (.cells #[.string ⟨#[98]⟩, .string ⟨#[97]⟩, .string ⟨#[98]⟩] 9)).alloc (.cells #[.string ⟨#[97]⟩, .string ⟨#[98]⟩] 9)) (.cells #[.string ⟨#[]⟩, .string ⟨#[]⟩, .string ⟨#[]⟩, .slice none 0 0, .slice (some ⟨w.heap.size, 0, none⟩) 3 3, .slice none 0 0, .slice none 0 0] 27)
    rwa [World.size_alloc, World.size_alloc] at this
  have hA : ActBox W (w.heap.size + 1 + 1) VA ⟨⟨#[]⟩, ⟨#[]⟩, none, some ⟨w.heap.size, 0, none⟩, none, none, 0, 3, 0, 0⟩ fxA := ⟨hhA, by rw [hVA]; rfl, by rw [hVA]; rfl, ⟨Rd.none_ _ _ _, by rw [hW]; exact ((r1.alloc _).alloc _).alloc _, Rd.none_ _ _ _, Rd.none_ _ _ _, by decide, by decide, by decide, by decide⟩⟩
  have hBx : ActBox W (w.heap.size + 1 + 1 + 1) VB ⟨⟨#[]⟩, ⟨#[]⟩, none, some ⟨w.heap.size + 1, 0, none⟩, none, none, 0, 2, 0, 0⟩ fxB := ⟨hhB, by rw [hVB]; rfl, by rw [hVB]; rfl, ⟨Rd.none_ _ _ _, by rw [hW]; exact (r2.alloc _).alloc _, Rd.none_ _ _ _, Rd.none_ _ _ _, by decide, by decide, by decide, by decide⟩⟩
  have hT0 := hTab.on hB0
  obtain ⟨S, hS⟩ : ∃ S, S = Sha.sum [48, 58, 48, 58, 54, 58, 49, 58, 97, 49, 58, 98, 48, 58, 48, 58] := ⟨_, rfl⟩
  have hne := fx_ne
  rw [← hS] at hne
  have hSl : S.length = 32 := by rw [hS]; exact sum_len _
  have heq := run_eq_dig S S hSl hSl
  have hnq := run_neq_dig S (List.replicate 32 0) hSl (by simp)
  rw [hne] at hnq
  obtain ⟨Z, hZ⟩ : ∃ Z, Z = u8s (List.replicate 32 0) := ⟨_, rfl⟩
  rw [← hZ] at hnq
  have HZ := hid2 hZ
  have CA := hid2 (fun (w2 : World) (hb : Below W.heap.size W w2) => (hA.below hb).of fxA_mild (hT0.on hb))
  have CB := hid2 (fun (w2 : World) (hb : Below W.heap.size W w2) => (hBx.below hb).of fxB_mild (hT0.on hb))
  have CR := hid2 (fun (w2 : World) (hb : Below W.heap.size W w2) => (hBx.below hb).rof fxB_mild)
  rw [fxA_text, ← hS] at CA
  rw [fxB_text, ← hS] at CB CR
  obtain ⟨gB, hgB⟩ : ∃ g, g = w.heap.size + 1 + 1 + 1 := ⟨_, rfl⟩
  obtain ⟨gA, hgA⟩ : ∃ g, g = w.heap.size + 1 + 1 := ⟨_, rfl⟩
  rw [← hgA] at hA
  rw [← hgB] at hBx
  have HgA := hid2 (fun (w2 : World) (hb : Below W.heap.size W w2) => hA.below hb)
  have HgB := hid2 (fun (w2 : World) (hb : Below W.heap.size W w2) => hBx.below hb)
  have HB0 := hid2 hB0
  have HW := hid2 hW
  have HQA := hid2 hgA
  have HQB := hid2 hgB
  clear hZ hB0 r1 r2 hVA hVB hhA hhB hA hBx hT0 hS hne hSl hW hTab hgA hgB
  go_enter Tryd.func8, Tryd.ntmps8
  go_wp2_with fail
  rw [← HW.out, ← HQB.out, ← HQA.out]
  refine wp_region_grd 18 (by kernel_rfl) (by kernel_rfl) (by kernel_rfl) _ rfl (by kernel_rfl) (fun j v _ => ([.agg VA.toArray, .agg (u8s S).toArray, .agg VB.toArray, .agg (u8s S).toArray, .bool true, .bool true, .agg VA.toArray, .agg (u8s S).toArray, .agg VB.toArray, .agg (u8s S).toArray, .bool true, .bool true, .bool true, .agg VA.toArray, .agg (u8s S).toArray, .agg Z.toArray, .bool true, .bool true] : List Value)[j]? = some v) (fun w2 => Below W.heap.size W w2) (fun a b => Below a.heap.size a b) ((Below.refl _ W).drew) (fun _ _ _ _ hb hv => hv) ?_ ?_
  · refine of_allOps ⟨?_, ?_, ?_, ?_, ?_, ?_, ?_, ?_, ?_, ?_, ?_, ?_, ?_, ?_, ?_, ?_, ?_, ?_, trivial⟩
    · intro T2 w2 hM hN hO hE K hK
      have o1 : T2[1]? = some (.pointer (some ⟨gA, 0, none⟩)) := hO 1 rfl
      clear hE hO hN
      refine step_plain0 rfl ?_
      refine wp_load_lit gA 0 _ _ _ (HgA.out w2 hM).heap VA (fun j _ => getElem?_zero_add _ j) _ Tryd.underlying27 (HgA.out w2 hM).info ⟨?_, rfl⟩ ?_
      · simp [Act.eval, o1]
      · exact hK _ _ rfl hM (Below.refl _ _)
    · intro T2 w2 hM hN hO hE K hK
      obtain ⟨v0, h0, e0⟩ := hE ⟨0, .data⟩ (by simp) rfl _ _ rfl rfl
      rw [show v0 = .agg VA.toArray from (Option.some.inj e0).symm] at h0
      clear hE hO hN
      refine step_plain0 rfl ?_
      go_simp
      refine (CA.out w2 hM).mono ?_
      rintro e w3 ⟨rfl, hb⟩
      exact hK _ _ rfl (hM.trans (hb.mono hM.size)) hb
    · intro T2 w2 hM hN hO hE K hK
      have o2 : T2[2]? = some (.pointer (some ⟨gB, 0, none⟩)) := hO 2 rfl
      clear hE hO hN
      refine step_plain0 rfl ?_
      refine wp_load_lit gB 0 _ _ _ (HgB.out w2 hM).heap VB (fun j _ => getElem?_zero_add _ j) _ Tryd.underlying27 (HgB.out w2 hM).info ⟨?_, rfl⟩ ?_
      · simp [Act.eval, o2]
      · exact hK _ _ rfl hM (Below.refl _ _)
    · intro T2 w2 hM hN hO hE K hK
      obtain ⟨v2, h2, e2⟩ := hE ⟨2, .data⟩ (by simp) rfl _ _ rfl rfl
      rw [show v2 = .agg VB.toArray from (Option.some.inj e2).symm] at h2
      clear hE hO hN
      refine step_plain0 rfl ?_
      go_simp
      refine (CB.out w2 hM).mono ?_
      rintro e w3 ⟨rfl, hb⟩
      exact hK _ _ rfl (hM.trans (hb.mono hM.size)) hb
    · intro T2 w2 hM hN hO hE K hK
      obtain ⟨v1, h1, e1⟩ := hE ⟨1, .data⟩ (by simp) rfl _ _ rfl rfl
      rw [show v1 = .agg (u8s S).toArray from (Option.some.inj e1).symm] at h1
      obtain ⟨v3, h3, e3⟩ := hE ⟨3, .data⟩ (by simp) rfl _ _ rfl rfl
      rw [show v3 = .agg (u8s S).toArray from (Option.some.inj e3).symm] at h3
      clear hE hO hN
      refine step_plain0 rfl ?_
      have hq := heq w2
      rw [beq_self_eq_true] at hq
      go_simp
      exact hK _ _ rfl hM (Below.refl _ _)
    · intro T2 w2 hM hN hO hE K hK
      obtain ⟨v4, h4, e4⟩ := hE ⟨4, .data⟩ (by simp) rfl _ _ rfl rfl
      rw [show v4 = .bool true from (Option.some.inj e4).symm] at h4
      clear hE hO hN
      refine step_plain0 rfl ?_
      go_simp
      exact hK _ _ rfl hM (Below.refl _ _)
    · intro T2 w2 hM hN hO hE K hK
      obtain ⟨v5, h5, e5⟩ := hE ⟨5, .guard⟩ (by simp) rfl _ _ rfl rfl
      rw [show v5 = .bool true from (Option.some.inj e5).symm] at h5
      have o1 : T2[1]? = some (.pointer (some ⟨gA, 0, none⟩)) := hO 1 rfl
      clear hE hO hN
      refine grd_met rfl rfl rfl h5 ?_
      refine wp_load_lit gA 0 _ _ _ (HgA.out w2 hM).heap VA (fun j _ => getElem?_zero_add _ j) _ Tryd.underlying27 (HgA.out w2 hM).info ⟨?_, rfl⟩ ?_
      · simp [Act.eval, o1]
      · exact hK _ _ rfl hM (Below.refl _ _)
    · intro T2 w2 hM hN hO hE K hK
      obtain ⟨v6, h6, e6⟩ := hE ⟨6, .data⟩ (by simp) rfl _ _ rfl rfl
      rw [show v6 = .agg VA.toArray from (Option.some.inj e6).symm] at h6
      obtain ⟨v5, h5, e5⟩ := hE ⟨5, .guard⟩ (by simp) rfl _ _ rfl rfl
      rw [show v5 = .bool true from (Option.some.inj e5).symm] at h5
      clear hE hO hN
      refine grd_met rfl rfl rfl h5 ?_
      go_simp
      refine (CA.out w2 hM).mono ?_
      rintro e w3 ⟨rfl, hb⟩
      exact hK _ _ rfl (hM.trans (hb.mono hM.size)) hb
    · intro T2 w2 hM hN hO hE K hK
      obtain ⟨v5, h5, e5⟩ := hE ⟨5, .guard⟩ (by simp) rfl _ _ rfl rfl
      rw [show v5 = .bool true from (Option.some.inj e5).symm] at h5
      have o2 : T2[2]? = some (.pointer (some ⟨gB, 0, none⟩)) := hO 2 rfl
      clear hE hO hN
      refine grd_met rfl rfl rfl h5 ?_
      refine wp_load_lit gB 0 _ _ _ (HgB.out w2 hM).heap VB (fun j _ => getElem?_zero_add _ j) _ Tryd.underlying27 (HgB.out w2 hM).info ⟨?_, rfl⟩ ?_
      · simp [Act.eval, o2]
      · exact hK _ _ rfl hM (Below.refl _ _)
    · intro T2 w2 hM hN hO hE K hK
      obtain ⟨v8, h8, e8⟩ := hE ⟨8, .data⟩ (by simp) rfl _ _ rfl rfl
      rw [show v8 = .agg VB.toArray from (Option.some.inj e8).symm] at h8
      obtain ⟨v5, h5, e5⟩ := hE ⟨5, .guard⟩ (by simp) rfl _ _ rfl rfl
      rw [show v5 = .bool true from (Option.some.inj e5).symm] at h5
      clear hE hO hN
      refine grd_met rfl rfl rfl h5 ?_
      go_simp
      refine (CR.out w2 hM).mono ?_
      rintro e w3 ⟨rfl, hb⟩
      exact hK _ _ rfl (hM.trans (hb.mono hM.size)) hb
    · intro T2 w2 hM hN hO hE K hK
      obtain ⟨v7, h7, e7⟩ := hE ⟨7, .data⟩ (by simp) rfl _ _ rfl rfl
      rw [show v7 = .agg (u8s S).toArray from (Option.some.inj e7).symm] at h7
      obtain ⟨v9, h9, e9⟩ := hE ⟨9, .data⟩ (by simp) rfl _ _ rfl rfl
      rw [show v9 = .agg (u8s S).toArray from (Option.some.inj e9).symm] at h9
      obtain ⟨v5, h5, e5⟩ := hE ⟨5, .guard⟩ (by simp) rfl _ _ rfl rfl
      rw [show v5 = .bool true from (Option.some.inj e5).symm] at h5
      clear hE hO hN
      refine grd_met rfl rfl rfl h5 ?_
      have hq := heq w2
      rw [beq_self_eq_true] at hq
      go_simp
      exact hK _ _ rfl hM (Below.refl _ _)
    · intro T2 w2 hM hN hO hE K hK
      obtain ⟨v5, h5, e5⟩ := hE ⟨5, .data⟩ (by simp) rfl _ _ rfl rfl
      rw [show v5 = .bool true from (Option.some.inj e5).symm] at h5
      obtain ⟨v10, h10, e10⟩ := hE ⟨10, .data⟩ (by simp) rfl _ _ rfl rfl
      rw [show v10 = .bool true from (Option.some.inj e10).symm] at h10
      clear hE hO hN
      refine step_plain0 rfl ?_
      go_simp
      exact hK _ _ rfl hM (Below.refl _ _)
    · intro T2 w2 hM hN hO hE K hK
      obtain ⟨v11, h11, e11⟩ := hE ⟨11, .data⟩ (by simp) rfl _ _ rfl rfl
      rw [show v11 = .bool true from (Option.some.inj e11).symm] at h11
      clear hE hO hN
      refine step_plain0 rfl ?_
      go_simp
      exact hK _ _ rfl hM (Below.refl _ _)
    · intro T2 w2 hM hN hO hE K hK
      obtain ⟨v12, h12, e12⟩ := hE ⟨12, .guard⟩ (by simp) rfl _ _ rfl rfl
      rw [show v12 = .bool true from (Option.some.inj e12).symm] at h12
      have o1 : T2[1]? = some (.pointer (some ⟨gA, 0, none⟩)) := hO 1 rfl
      clear hE hO hN
      refine grd_met rfl rfl rfl h12 ?_
      refine wp_load_lit gA 0 _ _ _ (HgA.out w2 hM).heap VA (fun j _ => getElem?_zero_add _ j) _ Tryd.underlying27 (HgA.out w2 hM).info ⟨?_, rfl⟩ ?_
      · simp [Act.eval, o1]
      · exact hK _ _ rfl hM (Below.refl _ _)
    · intro T2 w2 hM hN hO hE K hK
      obtain ⟨v13, h13, e13⟩ := hE ⟨13, .data⟩ (by simp) rfl _ _ rfl rfl
      rw [show v13 = .agg VA.toArray from (Option.some.inj e13).symm] at h13
      obtain ⟨v12, h12, e12⟩ := hE ⟨12, .guard⟩ (by simp) rfl _ _ rfl rfl
      rw [show v12 = .bool true from (Option.some.inj e12).symm] at h12
      clear hE hO hN
      refine grd_met rfl rfl rfl h12 ?_
      go_simp
      refine (CA.out w2 hM).mono ?_
      rintro e w3 ⟨rfl, hb⟩
      exact hK _ _ rfl (hM.trans (hb.mono hM.size)) hb
    · intro T2 w2 hM hN hO hE K hK
      obtain ⟨v12, h12, e12⟩ := hE ⟨12, .guard⟩ (by simp) rfl _ _ rfl rfl
      rw [show v12 = .bool true from (Option.some.inj e12).symm] at h12
      clear hE hO hN
      refine grd_met rfl rfl rfl h12 ?_
      go_simp
      exact hK _ _ (by rw [HZ.out]; rfl) hM (Below.refl _ _)
    · intro T2 w2 hM hN hO hE K hK
      obtain ⟨v14, h14, e14⟩ := hE ⟨14, .data⟩ (by simp) rfl _ _ rfl rfl
      rw [show v14 = .agg (u8s S).toArray from (Option.some.inj e14).symm] at h14
      obtain ⟨v15, h15, e15⟩ := hE ⟨15, .data⟩ (by simp) rfl _ _ rfl rfl
      rw [show v15 = .agg Z.toArray from (Option.some.inj e15).symm] at h15
      obtain ⟨v12, h12, e12⟩ := hE ⟨12, .guard⟩ (by simp) rfl _ _ rfl rfl
      rw [show v12 = .bool true from (Option.some.inj e12).symm] at h12
      clear hE hO hN
      refine grd_met rfl rfl rfl h12 ?_
      have hq := hnq w2
      go_simp
      exact hK _ _ rfl hM (Below.refl _ _)
    · intro T2 w2 hM hN hO hE K hK
      obtain ⟨v12, h12, e12⟩ := hE ⟨12, .data⟩ (by simp) rfl _ _ rfl rfl
      rw [show v12 = .bool true from (Option.some.inj e12).symm] at h12
      obtain ⟨v16, h16, e16⟩ := hE ⟨16, .data⟩ (by simp) rfl _ _ rfl rfl
      rw [show v16 = .bool true from (Option.some.inj e16).symm] at h16
      clear hE hO hN
      refine step_plain0 rfl ?_
      go_simp
      exact hK _ _ rfl hM (Below.refl _ _)
  · intro u w2 hM hF
    have e17 : u 17 = .bool true := (Option.some.inj (hF 17 (by omega))).symm
    clear hF
    simp only [fillAll, Nat.reduceAdd, e17, List.take_succ_cons, List.take_zero, List.drop_succ_cons, List.drop_zero, List.setIfInBounds_toArray, List.set_cons_succ, List.set_cons_zero]
    go_wp2_with fail
    go_ret
    exact ⟨rfl, HB0.out.trans (hM.mono HB0.out.size)⟩
end Go.Proofs.YtjmfmlkjippiaaaDoor
