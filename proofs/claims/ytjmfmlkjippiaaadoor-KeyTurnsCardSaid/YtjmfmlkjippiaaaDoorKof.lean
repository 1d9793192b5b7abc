/- The program's key; are two actions the same? -/
import Derived.Test.YtjmfmlkjippiaaaDoorKtext
import Derived.Test.YtjmfmlkjippiaaaDoorSha6
import Derived.Test.YtjmfmlkjippiaaaDoorReg3
namespace Go.Proofs.YtjmfmlkjippiaaaDoor
open Go.RowKit Go.Shelf
set_option maxRecDepth 100000
theorem flat_one (s : ByteArray) : flat [s] = s.data.toList := by simp [flat]
set_option maxHeartbeats 4000000 in
theorem of_any (w : World) (L : LayA) (a : ActK) (h : ActAt w L a) (hmi : Mild a) (hTab : Tabs w) :
    Calls Tryd.prog 11 #[.agg (actV L a)] w fun e w' => e = .returned (.agg (u8s (Sha.sum (textK a))).toArray) ∧ Below w.heap.size w w' := by
  have htl : (textK a).length ≤ 14000 := (partLens hmi).text
  obtain ⟨wb, hwb⟩ : ∃ wb, wb = w.alloc (.cells (actV L a) 27) := ⟨_, rfl⟩
  have hb0 : Below w.heap.size w wb := by rw [hwb]; exact (Below.refl _ w).alloc (Nat.le_refl _) _
  have hG : w.heap.size + 1 = wb.heap.size := by rw [hwb]; simp
  have hbx : wb.heap[w.heap.size]? = some (.cells (actV L a) 27 (0, 0)) := by rw [hwb]; exact World.alloc_heap_new w _
  have hr0 := ResAt.start wb
  obtain ⟨W, hW⟩ : ∃ W, W = wb.alloc (.cells (u8s (List.replicate 32 0)).toArray 32) := ⟨_, rfl⟩
  rw [← hW] at hr0
  have hbW : Below w.heap.size w W := hb0.trans (hr0.below.mono (by omega))
  have cT := text_any W L a (h.below hbW) hmi (hTab.on hbW)
  have hbxW : W.heap[w.heap.size]? = some (.cells (actV L a) 27 (0, 0)) := (hr0.below.block _ (by omega)).trans hbx
  have hts : ∃ V : List Value, V = (actV L a).toList ∧ V.length = 7 := ⟨_, rfl, rfl⟩
  have hag : ∀ j, (actV L a)[0 + j]? = (actV L a).toList[j]? := actV_get L a
  have hva : (actV L a).toList.toArray = actV L a := by simp
  obtain ⟨AV, hAV⟩ : ∃ AV, AV = actV L a := ⟨_, rfl⟩
  rw [← hAV] at hwb hbxW cT hts hag hva ⊢
  obtain ⟨V, hV, hVl⟩ := hts
  have HAG := hid2 (show ∀ j, j < V.length → AV[0 + j]? = V[j]? from fun j _ => by rw [hag j, hV])
  have HVA := hid2 (show V.toArray = AV from (congrArg List.toArray hV).trans hva)
  have HVL := hid2 (show (Tryd.prog.info? 27).map (·.size) = some V.length from by rw [hVl]; exact info_act)
  have HGE := hid2 hG
  have HWW := hid2 (show (w.alloc (.cells AV 27)).alloc (.cells (u8s (List.replicate 32 0)).toArray 32) = W from by rw [hW, hwb])
  have HBW := hid2 hbW
  have HBX := hid2 hbxW
  have HR0 := hid2 hr0
  obtain ⟨s, hs⟩ : ∃ s, s = strB (textK a) := ⟨_, rfl⟩
  have hss : s.size ≤ 20000 := by rw [hs, strB_size]; omega
  have hsl : s.data.toList = textK a := by rw [hs, strB_list]
  rw [← hs] at cT
  have HSL := hid2 hsl
  obtain ⟨S, hS⟩ : ∃ S, S = Sha.sum s.data.toList := ⟨_, rfl⟩
  have hd32 : S.length = 32 := by rw [hS]; exact sum_len _
  have HSS := hid2 hS
  have HD32 := hid2 hd32
  have hfin : S = Sha.sum (textK a) := by rw [hS, hsl]
  rw [← hfin]
  clear hTab hb0 hbx h hmi hAV hV hVl hag hva hs hsl htl hd32 hW hwb hbW hbxW hr0 hG hfin hS
  go_enter Tryd.func11, Tryd.ntmps11
  go_wp2_with (first
    | ((with_reducible refine wpList_load_lit w.heap.size 0 _ _ _ (heap_alloc2_old w _ _) V HAG.out _ Tryd.underlying27 HVL.out ?_ ?_); exact ⟨rfl, rfl⟩; rw [HVA.out])
    | (go_at_call 9; refine (HWW.out ▸ cT).mono ?_; rintro e w1 ⟨rfl, hb1⟩; have HB1 := hid2 (show Below W.heap.size W w1 from HWW.out ▸ hb1); have hrs := Rd.one w1 (.string s) 9; clear hb1 cT)
    | (go_at_call 22; refine (ssum_any _ _ 1 1 [s] hrs (by unfold maxLen; omega) (by rw [flat_one, toList_length]; omega)).mono ?_; rw [flat_one, ← HSS.out]; rintro e w2 ⟨rfl, hb2⟩; have hb1 := HB1.out.alloc HB1.out.size (.cells #[.string s] 9); have hr2 := (HR0.out.ext hb1).ext hb2; have hbb := (HBW.out.trans (hb1.mono HBW.out.size)).trans (hb2.mono (Nat.le_trans HBW.out.size hb1.size)); obtain ⟨hz, hz1, hz2⟩ := digest_left w wb w2 S HD32.out HGE.out hr2 hbb; have HZ1 := hid2 hz1; have HZ2 := hid2 hz2; clear hb2 hr2 hbb hz1 hz2 hb1 hrs)
    | (refine wpList_gen (fun w3 => w3 = w2) rfl ?_; rintro w3 rfl; (with_reducible refine wpList_store_lit (w.heap.size + 1) 0 (.agg (u8s S).toArray) (u8s S) (agg_cells _) _ _ hz (info_h8' HD32.out) (fit_h HD32.out) (u8s_one _) ?_ ?_); exact ⟨rfl, rfl⟩))
  exact bodyPost_ret (v := .agg (u8s S).toArray) (results_cell_row rfl _ _ _ 32 _ (0, 0) _ rfl HZ1.out Tryd.underlying32 rfl (by rw [List.size_toArray]; exact info_h8' HD32.out)) rfl ⟨rfl, HZ2.out⟩
end Go.Proofs.YtjmfmlkjippiaaaDoor
