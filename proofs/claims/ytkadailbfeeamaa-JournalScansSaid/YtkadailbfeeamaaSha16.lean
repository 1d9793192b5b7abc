/- The walk of the document's Of. -/
import Derived.Test.YtkadailbfeeamaaSha15
namespace Go.Proofs.Ytkadailbfeeamaa
open Go.RowKit
set_option maxRecDepth 100000
/-- the digest's block while a text's reading fills it -/
structure OfMem (w wr : World) (L : List UInt8) (G k : Nat) : Prop where
  res : ResAt w wr
  out_ : wr.heap[G]? = some (.cells (u8s (fillK L k)).toArray 34 (0, 0))
  ge : w.heap.size + 1 ≤ G
theorem OfMem.frozen {w wr : World} {L : List UInt8} {G k : Nat} (h : OfMem w wr L G k) (j : Nat) : wr.frozen? ⟨G, j, none⟩ = false := frozen_of_row wr G j _ _ h.out_
theorem OfMem.target {w wr : World} {L : List UInt8} {G k : Nat} (h : OfMem w wr L G k) (hL : L.length = 32) (hk : k ≤ 32) (j : Nat) (hj : j < 32) : wr.cell? ⟨G, j, none⟩ = some (.int .u8 ((fillK L k).getD j 0).toNat) :=
  cell_of_row wr G j _ _ _ h.out_ |>.trans (by rw [List.getElem?_toArray]; exact u8s_get _ (by rw [fillK_length L k hL hk]; omega))
theorem OfMem.drewN {w wr : World} {L : List UInt8} {G k : Nat} (h : OfMem w wr L G k) (m : Nat) : OfMem w (wr.drewN m) L G k := ⟨⟨h.res.row, below_drewN h.res.below m⟩, h.out_, h.ge⟩
theorem OfMem.set {w wr : World} {L : List UInt8} {G k : Nat} (h : OfMem w wr L G k) (hL : L.length = 32) (hk : k < 32) (v : Int) (hv : v = (L.getD k 0).toNat) : OfMem w (wr.setCell ⟨G, k, none⟩ (.int .u8 v)) L G (k + 1) := by
  subst hv
  have hge := h.ge
  refine ⟨⟨?_, ?_⟩, ?_, h.ge⟩
  · exact (heap_setCell_other wr _ _ _ (by simp; omega)).trans h.res.row
  · exact h.res.below.setCell (by simp; omega) _
  · rw [heap_setCell_same wr G k _ _ _ h.out_, u8s_set, fillK_set L k hL hk]
theorem fillK_zero (L : List UInt8) : fillK L 0 = List.replicate 32 0 := by simp [fillK]
theorem run_index_at (s : ByteArray) (i : Nat) (x : Int) (hx : x = i) (h : i < s.size) (w : World) : (Instr.index 9 (.string s) (.int .i64 x)).run Try.prog w = .ok (.int .u8 (s.data.toList.getD i 0).toNat) w := by
  subst hx
  rw [run_index_string w 9 s .i64 i Try.underlying9, dif_pos ⟨by omega, by omega⟩]
  have e : s[(i : Int).toNat]'(by omega) = s.data.toList.getD i 0 := by
    rw [List.getD_eq_getElem?_getD, List.getElem?_eq_getElem (by rw [toList_length]; exact h)]
    simp [ByteArray.getElem_eq_getElem_data]
  rw [e]
/-- what Of answers -/
def OfPost (w : World) (l : List UInt8) (e : Ending) (w' : World) : Prop := e = .returned (.tuple #[.agg (u8s (ofHex l)).toArray, .bool (hexOk l)]) ∧ Below w.heap.size w w'
/-- the digest that stands in the result's block, and a bool -/
theorem results_dig {fn : Func} {p u : Tmp} (h : fn.results = #[.cell p 34, .tmp u]) (tmps : Array Value) (w : World) (g : Nat) (L : List UInt8) (hL : L.length = 32) (b : Bool)
    (hp : tmps.getD p undef = .pointer (some ⟨g, 0, none⟩)) (hu : tmps.getD u undef = .bool b) (hg : w.heap[g]? = some (.cells (u8s L).toArray 34 (0, 0))) :
    (results fn tmps).run Try.prog w = .ok (.tuple #[.agg (u8s L).toArray, .bool b]) w := by
  rw [results_cell_tmp h, hp, hu]
  simp only [asAddr]
  rw [Sem.run_pure]
  simp only [Result.andThen]
  rw [run_loadVar_row w g 34 34 _ (0, 0) _ hg Try.underlying34 rfl (by rw [List.size_toArray]; exact info_h8' hL)]
theorem refof_any (w : World) (s : ByteArray) : Calls Try.prog 29 #[.string s] w (OfPost w s.data.toList) := by
  have hr0 := ResAt.start w
  have hOM : OfMem w ((w.alloc (.cells (u8s (List.replicate 32 0)).toArray 34)).alloc (.cells (u8s (List.replicate 32 0)).toArray 34)) (ofL s.data.toList) (w.heap.size + 1) 0 :=
    ⟨hr0.ext ((Below.refl _ _).alloc (Nat.le_refl _) _), by rw [fillK_zero]; exact heap_alloc2_new w _ _, Nat.le_refl _⟩
  have HOM0 := hid2 hOM
  clear hr0 hOM
  go_enter Try.func29, Try.ntmps29
  by_cases h64 : s.size = 64
  · have h64' : ((s.size : Int) != 64) = false := by rw [bne_eq_false_iff_eq]; omega
    go_wp2_with (first
        | (refine wpList_gen (fun w2 => OfMem w w2 (ofL s.data.toList) (w.heap.size + 1) 0) HOM0.out ?_; intro w2 hOM2; have h0 : w2.heap[w.heap.size + 1]? = some (.cells (u8s (List.replicate 32 0)).toArray 34 (0, 0)) := hOM2.out_; (with_reducible refine wpList_store_lit (w.heap.size + 1) 0 (.agg (u8s (List.replicate 32 0)).toArray) (u8s (List.replicate 32 0)) (agg_cells _) _ _ h0 (info_h8' List.length_replicate) (fit_h List.length_replicate) (u8s_one _) ?_ ?_); exact ⟨rfl, rfl⟩; rw [laid_all (by simp), setRow_self _ _ _ _ _ h0]; clear h0 HOM0))
    have hI : hexOkK s.data.toList 0 := fun i hi => absurd hi (by omega)
    obtain ⟨G, hG⟩ : ∃ G, G = w.heap.size + 1 := ⟨_, rfl⟩
    rw [← hG] at hOM2 ⊢
    clear hG
    go_loopw [5] (fun i wx => ∃ k : Nat, k ≤ 32 ∧ i = .int .i64 k ∧ hexOkK s.data.toList k ∧ OfMem w wx (ofL s.data.toList) G k) (fun i _ => 32 - (intOf i).toNat)
    case atStart => exact ⟨0, by omega, rfl, hI, hOM2⟩
    case round =>
      clear hOM2 hI
      obtain ⟨k, hk, rfl, hok, hOM⟩ := hrel
      by_cases hlt : k < 32
      · have hlt' : (k : Int) < 32 := by omega
        have hi1 := fun wx => run_index_at s (2 * k) (2 * (k : Int)) (by omega) (by omega) wx
        have hi2 := fun wx => run_index_at s (2 * k + 1) (2 * (k : Int) + 1) (by omega) (by omega) wx
        have hw1 : IntKind.i64.wrap (2 * (k : Int)) = 2 * (k : Int) := IntWalk.i64_in _ (by constructor <;> omega)
        have hw2 : IntKind.i64.wrap (2 * (k : Int) + 1) = 2 * (k : Int) + 1 := IntWalk.i64_in _ (by constructor <;> omega)
        obtain ⟨c1, hc1⟩ : ∃ c1, c1 = s.data.toList.getD (2 * k) 0 := ⟨_, rfl⟩
        obtain ⟨c2, hc2⟩ : ∃ c2, c2 = s.data.toList.getD (2 * k + 1) 0 := ⟨_, rfl⟩
        rw [← hc1] at hi1
        rw [← hc2] at hi2
        have HOK := hid2 hok
        have HOM := hid2 hOM
        have HC1 := hid2 hc1
        have HC2 := hid2 hc2
        clear hok hOM hc1 hc2
        go_wp2_with fail
        go_quiet ((go_at_call 46; first | exact quiet_more_d (digit_any _ _) | exact quiet_one_d (digit_any _ _)))
        have hOM := HOM.out.drewN nq
        have hd1 := dig_lt c1
        have hd2 := dig_lt c2
        have hd3 := dig_ge c1
        have hd4 := dig_ge c2
        have hw3 : IntKind.i64.wrap (16 * dig c1) = 16 * dig c1 := IntWalk.i64_in _ (by constructor <;> omega)
        have hw4 : IntKind.i64.wrap (16 * dig c1 + dig c2) = 16 * dig c1 + dig c2 := IntWalk.i64_in _ (by constructor <;> omega)
        obtain ⟨wy, hwy⟩ : ∃ wy, wy = wr.drewN nq := ⟨_, rfl⟩
        rw [← hwy] at hOM ⊢
        clear hwy hi1 hi2 hw1 hw2
        by_cases hd : 0 ≤ dig c1 ∧ 0 ≤ dig c2
        · obtain ⟨hp1, hp2⟩ := hd
          have hcell := hOM.target (ofL_length _) hk k hlt
          have hfr := hOM.frozen k
          have HOMY := hid2 hOM
          clear hOM
          go_wp2_with fail
          go_roundw
          case rel =>
            refine ⟨k + 1, by omega, by go_num, ?_, HOMY.out.set (ofL_length _) hlt _ ?_⟩
            · intro i hi
              rcases (show i < k ∨ i = k by omega) with h | rfl
              · exact HOK.out i h
              · rw [← HC1.out, ← HC2.out]; exact ⟨hp1, hp2⟩
            · have e : (ofL s.data.toList).getD k 0 = ofByte c1 c2 := by
                rw [List.getD_eq_getElem?_getD, List.getElem?_eq_getElem (by rw [ofL_length]; exact hlt)]
                simp only [ofL, List.getElem_map, List.getElem_range, Option.getD_some, ← HC1.out, ← HC2.out]
              rw [e, ofByte_toNat]
              omega
          case measure => simp [intOf]; omega
        · have hno : hexOk s.data.toList = false := by
            unfold hexOk
            rw [toList_length, Bool.and_eq_false_iff]
            right
            rw [decide_eq_false_iff_not]
            intro h
            have := h k hlt
            rw [← HC1.out, ← HC2.out] at this
            exact hd this
          have hz : ofHex s.data.toList = List.replicate 32 0 := by unfold ofHex; rw [hno]; rfl
          have hres := hOM.res
          have hq : (dig c1 < 0 ∨ dig c2 < 0) := by omega
          have HNO := hid2 hno
          have HZ := hid2 hz
          clear hno hz hd hOM
          rcases hq with hq | hq
          · go_wp2_with (first
              | ((with_reducible refine wpList_store_lit w.heap.size 0 (.agg (u8s (List.replicate 32 0)).toArray) (u8s (List.replicate 32 0)) (agg_cells _) _ _ (ResAt.row hres) (info_h8' List.length_replicate) (fit_h List.length_replicate) (u8s_one _) ?_ ?_); exact ⟨rfl, rfl⟩; rw [laid_all (by simp), setRow_self _ _ _ _ _ (ResAt.row hres)]))
            refine bodyPost_ret (v := .tuple #[.agg (u8s (List.replicate 32 0)).toArray, .bool false]) (results_dig rfl _ _ _ _ List.length_replicate _ rfl rfl (ResAt.row hres)) rfl ⟨?_, hres.below⟩
            rw [HZ.out, HNO.out]
          · by_cases hq1 : dig c1 < 0
            · go_wp2_with (first
                | ((with_reducible refine wpList_store_lit w.heap.size 0 (.agg (u8s (List.replicate 32 0)).toArray) (u8s (List.replicate 32 0)) (agg_cells _) _ _ (ResAt.row hres) (info_h8' List.length_replicate) (fit_h List.length_replicate) (u8s_one _) ?_ ?_); exact ⟨rfl, rfl⟩; rw [laid_all (by simp), setRow_self _ _ _ _ _ (ResAt.row hres)]))
              refine bodyPost_ret (v := .tuple #[.agg (u8s (List.replicate 32 0)).toArray, .bool false]) (results_dig rfl _ _ _ _ List.length_replicate _ rfl rfl (ResAt.row hres)) rfl ⟨?_, hres.below⟩
              rw [HZ.out, HNO.out]
            · go_wp2_with (first
                | ((with_reducible refine wpList_store_lit w.heap.size 0 (.agg (u8s (List.replicate 32 0)).toArray) (u8s (List.replicate 32 0)) (agg_cells _) _ _ (ResAt.row hres) (info_h8' List.length_replicate) (fit_h List.length_replicate) (u8s_one _) ?_ ?_); exact ⟨rfl, rfl⟩; rw [laid_all (by simp), setRow_self _ _ _ _ _ (ResAt.row hres)]))
              refine bodyPost_ret (v := .tuple #[.agg (u8s (List.replicate 32 0)).toArray, .bool false]) (results_dig rfl _ _ _ _ List.length_replicate _ rfl rfl (ResAt.row hres)) rfl ⟨?_, hres.below⟩
              rw [HZ.out, HNO.out]
      · have hk32 : k = 32 := by omega
        have hlt' : ¬ (k : Int) < 32 := by omega
        have hyes : hexOk s.data.toList = true := by
          unfold hexOk
          rw [toList_length, Bool.and_eq_true, beq_iff_eq, decide_eq_true_eq]
          exact ⟨h64, by rw [← hk32]; exact hok⟩
        have hz : ofHex s.data.toList = ofL s.data.toList := by unfold ofHex; rw [if_pos hyes]
        have hrow := hOM.out_
        rw [hk32, fillK_full _ (ofL_length _)] at hrow
        obtain ⟨L, hL⟩ : ∃ L, L = ofL s.data.toList := ⟨_, rfl⟩
        have hLl : L.length = 32 := by rw [hL]; exact ofL_length _
        rw [← hL] at hrow hz
        have hres := hOM.res
        have HNO := hid2 hyes
        have HZ := hid2 hz
        clear hyes hz hOM hk32 hok hL hk
        go_wp2_with (first
            | ((with_reducible refine wpList_load_lit G 0 _ _ _ hrow (u8s L) (fun j _ => getElem?_zero_add _ j) _ Try.underlying34 (info_h8' hLl) ?_ ?_); exact ⟨rfl, rfl⟩)
            | ((with_reducible refine wpList_store_lit w.heap.size 0 (.agg (u8s L).toArray) (u8s L) (agg_cells _) _ _ (ResAt.row hres) (info_h8' hLl) (fit_h hLl) (u8s_one _) ?_ ?_); exact ⟨rfl, rfl⟩))
        refine bodyPost_ret (v := .tuple #[.agg (u8s L).toArray, .bool true]) (results_dig rfl _ _ _ _ hLl _ rfl rfl (ResAt.wrote hres _ hLl)) rfl ⟨?_, ResAt.below2 hres _⟩
        rw [HZ.out, HNO.out]
  · have h64' : ((s.size : Int) != 64) = true := by rw [bne_iff_ne]; omega
    go_wp2_with (first
        | (refine wpList_gen (fun w2 => OfMem w w2 (ofL s.data.toList) (w.heap.size + 1) 0) HOM0.out ?_; intro w2 hOM2; have h0 : w2.heap[w.heap.size + 1]? = some (.cells (u8s (List.replicate 32 0)).toArray 34 (0, 0)) := hOM2.out_; (with_reducible refine wpList_store_lit (w.heap.size + 1) 0 (.agg (u8s (List.replicate 32 0)).toArray) (u8s (List.replicate 32 0)) (agg_cells _) _ _ h0 (info_h8' List.length_replicate) (fit_h List.length_replicate) (u8s_one _) ?_ ?_); exact ⟨rfl, rfl⟩; rw [laid_all (by simp), setRow_self _ _ _ _ _ h0]; clear HOM0)
        | ((with_reducible refine wpList_load_lit (w.heap.size + 1) 0 _ _ _ h0 (u8s (List.replicate 32 0)) (fun j _ => getElem?_zero_add _ j) _ Try.underlying34 (info_h8' List.length_replicate) ?_ ?_); exact ⟨rfl, rfl⟩)
        | ((with_reducible refine wpList_store_lit w.heap.size 0 (.agg (u8s (List.replicate 32 0)).toArray) (u8s (List.replicate 32 0)) (agg_cells _) _ _ (ResAt.row (OfMem.res hOM2)) (info_h8' List.length_replicate) (fit_h List.length_replicate) (u8s_one _) ?_ ?_); exact ⟨rfl, rfl⟩; rw [laid_all (by simp), setRow_self _ _ _ _ _ (ResAt.row (OfMem.res hOM2))]))
    have hno : hexOk s.data.toList = false := by unfold hexOk; rw [toList_length]; simp [h64]
    have hz : ofHex s.data.toList = List.replicate 32 0 := by unfold ofHex; rw [hno]; rfl
    refine bodyPost_ret (v := .tuple #[.agg (u8s (List.replicate 32 0)).toArray, .bool false]) (results_dig rfl _ _ _ _ List.length_replicate _ rfl rfl (ResAt.row (OfMem.res hOM2))) rfl ⟨?_, (OfMem.res hOM2).below⟩
    rw [hz, hno]
end Go.Proofs.Ytkadailbfeeamaa
