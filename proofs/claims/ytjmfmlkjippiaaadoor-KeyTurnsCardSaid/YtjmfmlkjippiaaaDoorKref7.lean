/- The document's text of an action, and its key. -/
import Derived.Test.YtjmfmlkjippiaaaDoorKpl
import Derived.Test.YtjmfmlkjippiaaaDoorSha10
namespace Go.Proofs.YtjmfmlkjippiaaaDoor
open Go.RowKit Go.Shelf
set_option maxRecDepth 100000
theorem info_act : (Tryd.prog.info? 27).map (·.size) = some 7 := by kernel_rfl
theorem actV_get (L : LayA) (a : ActK) (j : Nat) : (actV L a)[0 + j]? = (actV L a).toList[j]? := by rw [Nat.zero_add]; simp
theorem rowsK_strV {a : ActK} {k : Nat} : strV (rowsK a 1) = [.string (strB a.tool)] := rfl
set_option maxHeartbeats 4000000 in
theorem reftext_any (w : World) (L : LayA) (a : ActK) (h : ActAt w L a) (hmi : Mild a) :
    Calls Tryd.prog 10 #[.agg (actV L a)] w fun e w' => e = .returned (.string (strB (textK a))) ∧ Below w.heap.size w w' := by
  have hpl := partLens hmi
  have hpa : ∀ k, 1 ≤ k → ∀ x, ([a.tool] :: partsK a)[k]? = some x → (rowL x).length ≤ 4884 ∧ x.length ≤ 44 := fun k h1 x hx => by
    obtain ⟨j, rfl⟩ : ∃ j, k = j + 1 := ⟨k - 1, by omega⟩
    exact part_len hpl hx
  have hst : ∀ k, 1 ≤ k → ∀ x, ([a.tool] :: partsK a)[k]? = some x → rowsK a (k + 1) = rowsK a k ++ [rowL x] := fun k h1 x hx => by
    obtain ⟨j, rfl⟩ : ∃ j, k = j + 1 := ⟨k - 1, by omega⟩
    exact rowsK_step hx
  have hrl := fun (k : Nat) (h1 : 1 ≤ k) (h5 : k ≤ 5) => rowsK_len (a := a) h1 h5
  have htl : (textK a).length ≤ 14000 := hpl.text
  have hal := rowsK_all a
  obtain ⟨W, hW⟩ : ∃ W, W = w.alloc (.cells (actV L a) 27) := ⟨_, rfl⟩
  have hb0 : Below w.heap.size w W := by rw [hW]; exact (Below.refl _ w).alloc (Nat.le_refl _) _
  have hbx : W.heap[w.heap.size]? = some (.cells (actV L a) 27 (0, 0)) := by rw [hW]; exact World.alloc_heap_new w _
  have cP := parts_any W L a (h.below hb0) hmi
  have hx2 : (actV L a)[2]? = some (.string (strB a.tool)) := rfl
  have hts : ∃ V : List Value, V = (actV L a).toList ∧ V.length = 7 := ⟨_, rfl, rfl⟩
  have hag : ∀ j, (actV L a)[0 + j]? = (actV L a).toList[j]? := actV_get L a
  have hva : (actV L a).toList.toArray = actV L a := by simp
  obtain ⟨AV, hAV⟩ : ∃ AV, AV = actV L a := ⟨_, rfl⟩
  rw [← hAV] at hW hbx cP hx2 hts hag hva ⊢
  obtain ⟨V, hV, hVl⟩ := hts
  have hag' : ∀ j, j < V.length → AV[0 + j]? = V[j]? := fun j _ => by rw [hag j, hV]
  have hva' : V.toArray = AV := (congrArg List.toArray hV).trans hva
  obtain ⟨LL, hLL⟩ : ∃ LL, LL = [a.tool] :: partsK a := ⟨_, rfl⟩
  have hLn : LL.length = 5 := by rw [hLL]; rfl
  rw [← hLL] at hpa hst cP
  have HP := hid2 hpa
  have HST := hid2 hst
  have HRL := hid2 hrl
  have HTL := hid2 htl
  have HAL := hid2 hal
  have HW := hid2 hW
  have HB0 := hid2 hb0
  have HBX := hid2 hbx
  have HAG := hid2 hag'
  have HVA := hid2 hva'
  have HVL := hid2 (show (Tryd.prog.info? 27).map (·.size) = some V.length from by rw [hVl]; exact info_act)
  have HX2 := hid2 hx2
  have HLN := hid2 hLn
  clear hpl hpa hst hrl htl hal hb0 hbx h hmi hAV hV hVl hag hva hag' hva' hx2 hLn hLL
  go_enter Tryd.func10, Tryd.ntmps10
  go_wp2_with (first
    | ((with_reducible refine wpList_load_lit w.heap.size 0 _ _ _ (by first | exact HBX.out | (rw [← HW.out]; exact HBX.out)) V HAG.out _ Tryd.underlying27 HVL.out ?_ ?_); exact ⟨rfl, rfl⟩; rw [HVA.out])
    | (go_at_call 20; rw [← HW.out]; refine cP.mono ?_; rintro e w1 ⟨g, As, cs, rfl, hra, hb1⟩; have hc2 : w1.cell? ⟨w.heap.size, 2, none⟩ = some (.string (strB a.tool)) := (cell_of_row w1 _ 2 _ _ _ ((hb1.block _ (heap_lt HBX.out)).trans HBX.out)).trans HX2.out; have HRA := hid2 hra; have HB1 := hid2 hb1; clear hra hb1))
  have hown0 : Own (w1.alloc (.cells #[.string (strB a.tool)] 9)) w1.heap.size 9 1 (some ⟨w1.heap.size, 0, none⟩) 1 1 (strV (rowsK a 1)) := Own.lit w1 #[.string (strB a.tool)] 9 1 1 w1.heap.size (Nat.le_refl _) (by decide) rfl
  have HOWN0 := hid2 hown0
  clear hown0 hc2 cP
  go_loopg [4, 5] 4 (fun gk ov iv wr => ∃ (k : Nat) (A1 : Option Addr) (c1 : Nat), k + gk = 5 ∧ 1 ≤ k ∧ iv = .int .i64 k ∧ ov = .slice A1 k c1 ∧ Own wr w1.heap.size 9 1 A1 k c1 (strV (rowsK a k)) ∧ Below w1.heap.size w1 wr)
  case atStart => exact ⟨1, _, _, by omega, by omega, rfl, rfl, HOWN0.out, (Below.refl _ _).alloc (Nat.le_refl _) _⟩
  case round =>
    obtain ⟨k, A1, c1, hk, hk1, rfl, rfl, hown, hbe⟩ := hrel
    by_cases hlt : k < 5
    · have hkl : (k : Int) < 5 := by omega
      have hk0 : (0 : Int) ≤ k := by omega
      obtain ⟨x, hx⟩ : ∃ x, LL[k]? = some x := ⟨_, List.getElem?_eq_getElem (by rw [HLN.out]; exact hlt)⟩
      have hstep := HST.out k hk1 x hx
      obtain ⟨hx1, hx2⟩ := HP.out k hk1 x hx
      obtain ⟨hcr, hrx⟩ := (HRA.out.below hbe) k x hx
      have cR := refrow_any wr (As k) (cs k) x (by omega) hrx (by omega)
      have hsz := hbe.size
      obtain ⟨R, hR⟩ : ∃ R, R = strB (rowL x) := ⟨_, rfl⟩
      rw [← hR] at cR
      obtain ⟨n, hn⟩ : ∃ n, n = x.length := ⟨_, rfl⟩
      rw [← hn] at cR hcr
      obtain ⟨V1, hV1⟩ : ∃ V1, V1 = strV (rowsK a k) := ⟨_, rfl⟩
      rw [← hV1] at hown
      have HSTEP := hid2 hstep
      have HBE := hid2 hbe
      have HR := hid2 hR
      have HV1 := hid2 hV1
      clear hx hstep hx1 hx2 hrx hR hn hV1 hbe
      go_wp2_with (first
        | (go_at_call 21; refine cR.mono ?_; rintro e w2 ⟨rfl, hb2⟩; have hown2 := hown.below hb2 (Nat.le_refl _); have hsz2 := hb2.size; have HB2 := hid2 hb2; clear cR hown hb2)
        | (at_builtin; have _t := hown2; go_must ((with_reducible refine wpList_append_lit 9 (.string ⟨#[]⟩) 1 16 Tryd.underlying25 info_str rfl w1.heap.size A1 k c1 V1 (hown2.alloc _) 1 [.string R] (.slice (some ⟨w2.heap.size, 0, none⟩) 1 1) (Src.slice Tryd.underlying25 (Rd.one w2 _ _)) one_str ?_ ?_ ?_ ?_ ?_); (unfold maxLen; omega); omega; (simp; omega); exact ⟨rfl, rfl⟩; intro A3 c3 w3 hown3 hgr3 hbl3; clear hown2; have hb3 : Below w1.heap.size w1 w3 := (((HBE.out.trans (HB2.out.mono hsz))).alloc (by omega) _).grown hgr3 (by simp; omega) (fun g e => (_t.block g e).1))))
      go_roundg (gk - 1)
      case rel => exact ⟨k + 1, A3, c3, by omega, by omega, by go_num, rfl, by rw [HSTEP.out, ← strV_snoc, ← HV1.out, ← HR.out]; exact hown3, hb3⟩
      case measure => omega
    · obtain rfl : k = 5 := by omega
      have hln := HRL.out 5 (by omega) (by omega)
      have hrd := hown.rd
      have hlen2 : (rowL (rowsK a 5)).length ≤ 1000000 := by rw [HAL.out]; have := HTL.out; omega
      have cR := refrow_any wr A1 c1 (rowsK a 5) (by rw [hln]; omega) (by rw [hln]; exact hrd) hlen2
      rw [hln, HAL.out] at cR
      have HBE := hid2 hbe
      clear hrd hlen2 hown hln hbe
      go_wp2_with (first
        | (go_at_call 21; refine cR.mono ?_; rintro e w2 ⟨rfl, hb2⟩; have HB2 := hid2 hb2; clear cR hb2))
      go_ret
      have b1 := HB0.out.trans (HB1.out.mono HB0.out.size)
      have b2 := b1.trans (HBE.out.mono b1.size)
      exact ⟨rfl, b2.trans (HB2.out.mono b2.size)⟩
/-- what a key's function leaves: the digest in its block -/
theorem digest_left (w wb w2 : World) (S : List UInt8) (hS : S.length = 32) (hG : w.heap.size + 1 = wb.heap.size) (hr : ResAt wb w2) (hb : Below w.heap.size w w2) :
    w2.heap[w.heap.size + 1]? = some (.cells (u8s (List.replicate 32 0)).toArray 32 (0, 0)) ∧
    (w2.setRow (w.heap.size + 1) (laid (u8s (List.replicate 32 0)).toArray 0 (u8s S))).heap[w.heap.size + 1]? = some (.cells (u8s S).toArray 32 (0, 0)) ∧
    Below w.heap.size w (w2.setRow (w.heap.size + 1) (laid (u8s (List.replicate 32 0)).toArray 0 (u8s S))) := by
  refine ⟨by rw [hG]; exact hr.row, by rw [hG]; exact ResAt.wrote hr S hS, below_setRow hb (by omega) _⟩
set_option maxHeartbeats 4000000 in
theorem refof_any (w : World) (L : LayA) (a : ActK) (h : ActAt w L a) (hmi : Mild a) :
    Calls Tryd.prog 12 #[.agg (actV L a)] w fun e w' => e = .returned (.agg (u8s (Sha.sum (textK a))).toArray) ∧ Below w.heap.size w w' := by
  have htl : (textK a).length ≤ 14000 := (partLens hmi).text
  obtain ⟨wb, hwb⟩ : ∃ wb, wb = w.alloc (.cells (actV L a) 27) := ⟨_, rfl⟩
  have hb0 : Below w.heap.size w wb := by rw [hwb]; exact (Below.refl _ w).alloc (Nat.le_refl _) _
  have hG : w.heap.size + 1 = wb.heap.size := by rw [hwb]; simp
  have hbx : wb.heap[w.heap.size]? = some (.cells (actV L a) 27 (0, 0)) := by rw [hwb]; exact World.alloc_heap_new w _
  have hr0 := ResAt.start wb
  obtain ⟨W, hW⟩ : ∃ W, W = wb.alloc (.cells (u8s (List.replicate 32 0)).toArray 32) := ⟨_, rfl⟩
  rw [← hW] at hr0
  have hbW : Below w.heap.size w W := hb0.trans (hr0.below.mono (by omega))
  have cT := reftext_any W L a (h.below hbW) hmi
  have hbxW : W.heap[w.heap.size]? = some (.cells (actV L a) 27 (0, 0)) := (hr0.below.block _ (by omega)).trans hbx
  have hts : ∃ V : List Value, V = (actV L a).toList ∧ V.length = 7 := ⟨_, rfl, rfl⟩
  have hag : ∀ j, (actV L a)[0 + j]? = (actV L a).toList[j]? := actV_get L a
  have hva : (actV L a).toList.toArray = actV L a := by simp
  obtain ⟨AV, hAV⟩ : ∃ AV, AV = actV L a := ⟨_, rfl⟩
  rw [← hAV] at hwb hbxW cT hts hag hva ⊢
  obtain ⟨V, hV, hVl⟩ := hts
  have HAG := hid2 (show ∀ j, j < V.length → AV[0 + j]? = V[j]? from fun j _ => by rw [hag j, hV])
  have HVA := hid2 (show V.toArray = AV from (congrArg List.toArray hV).trans hva)
  have HVL := hid2 (show (Tryd.prog.info? 27).map (·.size) = some V.length from by rw [hVl]; exact info_act)
  have HGE := hid2 hG
  have HWW := hid2 (show (w.alloc (.cells AV 27)).alloc (.cells (u8s (List.replicate 32 0)).toArray 32) = W from by rw [hW, hwb])
  have HBW := hid2 hbW
  have HBX := hid2 hbxW
  have HR0 := hid2 hr0
  obtain ⟨s, hs⟩ : ∃ s, s = strB (textK a) := ⟨_, rfl⟩
  have hss : s.size ≤ 20000 := by rw [hs, strB_size]; omega
  have hsl : s.data.toList = textK a := by rw [hs, strB_list]
  rw [← hs] at cT
  have HSL := hid2 hsl
  obtain ⟨S, hS⟩ : ∃ S, S = Sha.sum s.data.toList := ⟨_, rfl⟩
  have hd32 : S.length = 32 := by rw [hS]; exact sum_len _
  have HSS := hid2 hS
  have HD32 := hid2 hd32
  have hfin : S = Sha.sum (textK a) := by rw [hS, hsl]
  rw [← hfin]
  clear hb0 hbx h hmi hAV hV hVl hag hva hs hsl htl hd32 hW hwb hbW hbxW hr0 hG hfin hS
  go_enter Tryd.func12, Tryd.ntmps12
  go_wp2_with (first
    | ((with_reducible refine wpList_load_lit w.heap.size 0 _ _ _ (heap_alloc2_old w _ _) V HAG.out _ Tryd.underlying27 HVL.out ?_ ?_); exact ⟨rfl, rfl⟩; rw [HVA.out])
    | (go_at_call 10; refine (HWW.out ▸ cT).mono ?_; rintro e w1 ⟨rfl, hb1⟩; have HB1 := hid2 (show Below W.heap.size W w1 from HWW.out ▸ hb1); clear hb1 cT)
    | (go_at_call 23; refine (refsum_any w1 s hss).mono ?_; rw [← HSS.out]; rintro e w2 ⟨rfl, hb2⟩; have hr2 := (HR0.out.ext HB1.out).ext hb2; have hbb := (HBW.out.trans (HB1.out.mono HBW.out.size)).trans (hb2.mono (Nat.le_trans HBW.out.size HB1.out.size)); obtain ⟨hz, hz1, hz2⟩ := digest_left w wb w2 S HD32.out HGE.out hr2 hbb; have HZ1 := hid2 hz1; have HZ2 := hid2 hz2; clear hb2 hr2 hbb hz1 hz2)
    | (refine wpList_gen (fun w3 => w3 = w2) rfl ?_; rintro w3 rfl; (with_reducible refine wpList_store_lit (w.heap.size + 1) 0 (.agg (u8s S).toArray) (u8s S) (agg_cells _) _ _ hz (info_h8' HD32.out) (fit_h HD32.out) (u8s_one _) ?_ ?_); exact ⟨rfl, rfl⟩))
  exact bodyPost_ret (v := .agg (u8s S).toArray) (results_cell_row rfl _ _ _ 32 _ (0, 0) _ rfl HZ1.out Tryd.underlying32 rfl (by rw [List.size_toArray]; exact info_h8' HD32.out)) rfl ⟨rfl, HZ2.out⟩
end Go.Proofs.YtjmfmlkjippiaaaDoor
