/- The walk of spread: a block of 64 bytes as 64 words. -/
import Derived.Test.YtehpapoboeejkaaDoorSha1
import Derived.Test.YtehpapoboeejkaaDoorShaPlain
import Derived.StillTailTactics
import Derived.BigRegion
namespace Go.Proofs.YtehpapoboeejkaaDoor
open Go.RowKit

theorem w32s_get (l : List UInt32) {j : Nat} (h : j < l.length) : (w32s l)[j]? = some (.int .u32 (l.getD j 0).toNat) := by
  rw [w32s, List.getElem?_map, List.getElem?_eq_getElem h, List.getD_eq_getElem?_getD, List.getElem?_eq_getElem h]; rfl
theorem w32s_set (l : List UInt32) (j : Nat) (x : UInt32) : (w32s l).toArray.setIfInBounds j (.int .u32 x.toNat) = (w32s (l.set j x)).toArray := by
  rw [w32s, w32s, List.map_set, List.setIfInBounds_toArray]; rfl
theorem w32s_length (l : List UInt32) : (w32s l).length = l.length := by simp [w32s]

theorem w32s_one (l : List UInt32) : ∀ v ∈ w32s l, v.oneCell' = true := by
  intro v hv
  obtain ⟨x, _, rfl⟩ := List.mem_map.1 hv
  rfl
theorem info_w64 : (Tryd.prog.info? 126).map (·.size) = some 64 := by kernel_rfl
theorem info_w64' {l : List UInt32} (h : l.length = 64) : (Tryd.prog.info? 126).map (·.size) = some (w32s l).length := by rw [w32s_length, h]; exact info_w64
theorem fit_w {l m : List UInt32} (h : l.length = m.length) : 0 + (w32s l).length ≤ (w32s m).toArray.size := by
  rw [List.size_toArray, w32s_length, w32s_length, h]; omega
/-- an element of an array of words, by value -/
theorem run_index_w {P : Program} (T E n : TypeId) (hT : P.underlying T = some (.array n E)) (hE : P.underlying E = some (.int .u32)) (hS : (P.info? E).map (·.size) = some 1) (l : List UInt32) (k : Nat) (hk : k < l.length) (hn : l.length = n) (w : World) :
    (Instr.index T (.agg (w32s l).toArray) (.int .i64 k)).run P w = .ok (.int .u32 (l.getD k 0).toNat) w := by
  cases hq : P.info? E with
  | none => simp [hq] at hS
  | some i =>
    have hs : i.size = 1 := by simpa [hq] using hS
    have hc := w32s_get l hk
    simp [Instr.index, asIntOf, run_underlying hT, sizeOf, typeInfo, hq, hs, part, isAgg, run_underlying hE]
    rw [hc]
    simp
    intro h
    omega
/-- block g is the row of words l -/
def Words (w : World) (g : Nat) (t : TypeId) (l : List UInt32) : Prop := w.heap[g]? = some (.cells (w32s l).toArray t (0, 0))
section
variable {w w' : World} {g : Nat} {t : TypeId} {l : List UInt32}
theorem Words.cell (h : Words w g t l) {j : Nat} (hj : j < l.length) : w.cell? ⟨g, j, none⟩ = some (.int .u32 (l.getD j 0).toNat) := by
  rw [cell_of_row w g j _ t _ h, List.getElem?_toArray, w32s_get l hj]
theorem Words.frozen (h : Words w g t l) (j : Nat) : w.frozen? ⟨g, j, none⟩ = false := frozen_of_row w g j _ t h
theorem Words.set (h : Words w g t l) (j : Nat) (x : UInt32) : Words (w.setCell ⟨g, j, none⟩ (.int .u32 x.toNat)) g t (l.set j x) := by
  unfold Words
  rw [heap_setCell_same w g j _ t _ h, w32s_set]
theorem Words.lt (h : Words w g t l) : g < w.heap.size := heap_lt h
end

/-- the two blocks that spread makes: the result's, untouched, and the row of words; all that was there is as it was -/
def Spr (w wr : World) (L : List UInt32) : Prop :=
  Words wr w.heap.size 126 (List.replicate 64 0) ∧ Words wr (w.heap.size + 1) 126 L ∧ Below w.heap.size w wr
theorem Spr.start (w : World) : Spr w ((w.alloc (.cells (w32s (List.replicate 64 0)).toArray 126)).alloc (.cells (w32s (List.replicate 64 0)).toArray 126)) (List.replicate 64 0) :=
  ⟨heap_alloc2_old w _ _, heap_alloc2_new w _ _, ((Below.refl _ _).alloc (Nat.le_refl _) _).alloc (by simp) _⟩
theorem Spr.set {w wr : World} {L : List UInt32} (h : Spr w wr L) (j : Nat) (x : UInt32) : Spr w (wr.setCell ⟨w.heap.size + 1, j, none⟩ (.int .u32 x.toNat)) (L.set j x) :=
  ⟨(heap_setCell_other wr _ _ _ (by simp)).trans h.1, h.2.1.set j x, h.2.2.setCell (by simp) _⟩
theorem Spr.drewN {w wr : World} {L : List UInt32} (h : Spr w wr L) (n : Nat) : Spr w (wr.drewN n) L := ⟨h.1, h.2.1, below_drewN h.2.2 n⟩
theorem Spr.drew {w wr : World} {L : List UInt32} (h : Spr w wr L) : Spr w wr.drew L := h.drewN 1

section
attribute [local go_sem] w_or w_or8 w_of8 w_shl8 w_add w_xor w_shr3 w_shr10
set_option maxHeartbeats 800000 in
set_option maxRecDepth 100000 in
theorem spread_any (b o c : Nat) (l : List UInt8) (w : World) (hb : b < w.heap.size) (hc : ∀ j, j < 64 → w.cell? ⟨b, o + j, none⟩ = some (.int .u8 (l.getD j 0).toNat)) :
    Calls Tryd.prog 78 #[.slice (some ⟨b, o, none⟩) 64 c] w fun e w' => e = .returned (.agg (w32s (Sha.words l 48)).toArray) ∧ Below w.heap.size w w' := by
  have HC := Lib.hid hc
  clear hc
  go_enter Tryd.func78, Tryd.ntmps78
  go_wp2
  go_loopw [13] (fun i wr => ∃ k : Nat, k ≤ 64 ∧ i = .int .i64 k ∧ Spr w wr (Sha.acc l k)) (fun i _ => 64 - (intOf i).toNat)
  case atStart => exact ⟨0, by omega, rfl, Spr.start w⟩
  case round =>
    obtain ⟨k, hk, rfl, hS⟩ := hrel
    by_cases hlt : k < 64
    · have hcell := (hS.2.2.cell (p := ⟨b, o + k, none⟩) hb).trans (HC.out k hlt)
      have hw := hS.2.1.cell (j := k / 4) (by rw [Sha.acc_length]; omega)
      have hf := hS.2.1.frozen (k / 4)
      go_wp2
      go_roundw
      case rel => exact ⟨k + 1, by omega, by go_num, hS.set (k / 4) _⟩
      case measure => simp [intOf]; omega
    · have HK : Hid (k = 64) := by exact (by omega : k = 64)
      rw [HK.out, Sha.acc_row] at hS
      go_wp2
      go_loopw [6] (fun i wr => ∃ n : Nat, n ≤ 48 ∧ i = .int .i64 ((n : Int) + 16) ∧ Spr w wr (Sha.row l n)) (fun i _ => 64 - (intOf i).toNat)
      case atStart => exact ⟨0, by omega, rfl, hS⟩
      case round =>
        clear hS
        obtain ⟨n, hn, rfl, hS⟩ := hrel
        by_cases hlt : n < 48
        · have hl := Sha.row_length l n (by omega)
          have c0 := hS.2.1.cell (j := n) (by omega)
          have c1 := hS.2.1.cell (j := n + 1) (by omega)
          have c9 := hS.2.1.cell (j := n + 9) (by omega)
          have c14 := hS.2.1.cell (j := n + 14) (by omega)
          have c16 := hS.2.1.cell (j := n + 16) (by omega)
          have hf := hS.2.1.frozen (n + 16)
          clear hl
          have hlt' : (n : Int) + 16 < 64 := by omega
          go_wp2
          go_quiet (fail)
          go_wp2_with (go_at_call 79; refine (turned_any _ _ _ (by omega) (by omega)).mono ?_; rintro e w' ⟨rfl, rfl⟩)
          go_region
          go_wp2
          go_roundw
          case rel => exact ⟨n + 1, by omega, by go_num, by rw [Sha.row_succ l n hlt]; exact (hS.drewN _).set _ _⟩
          case measure => simp [intOf]; omega
        · have HN : Hid (n = 48) := by exact (by omega : n = 48)
          rw [HN.out, Sha.row_full] at hS
          have h1 := Lib.hid (show wr.heap[w.heap.size]? = some (.cells (w32s (List.replicate 64 0)).toArray _ (0, 0)) from hS.1)
          have h2 := Lib.hid (show wr.heap[w.heap.size + 1]? = some (.cells (w32s (Sha.words l 48)).toArray _ (0, 0)) from hS.2.1)
          have HS := Lib.hid hS.2.2
          clear hS
          go_wp2_with (first
            | (with_reducible refine wpList_load_lit (w.heap.size + 1) 0 _ _ _ h2.out (w32s (Sha.words l 48)) (fun j _ => getElem?_zero_add _ j) _ Tryd.underlying126 (info_w64' (Sha.words_length l 48)) ?_ ?_; exact ⟨rfl, rfl⟩)
            | (with_reducible refine wpList_store_lit w.heap.size 0 (.agg (w32s (Sha.words l 48)).toArray) (w32s (Sha.words l 48)) (agg_cells _) _ _ h1.out (info_w64' (Sha.words_length l 48)) (fit_w ((Sha.words_length l 48).trans List.length_replicate.symm)) (w32s_one _) ?_ ?_; exact ⟨rfl, rfl⟩))
          have hr := setRow_heap wr w.heap.size _ (laid (w32s (List.replicate 64 0)).toArray 0 (w32s (Sha.words l 48))) _ _ h1.out
          rw [laid_all (by rw [w32s_length, Sha.words_length, List.size_toArray, w32s_length, List.length_replicate])] at hr
          have HR := Lib.hid hr
          clear hr
          refine bodyPost_ret (v := .agg (w32s (Sha.words l 48)).toArray) ?_ rfl ⟨rfl, below_setRow HS.out (Nat.le_refl _) _⟩
          rw [laid_all (by rw [w32s_length, Sha.words_length, List.size_toArray, w32s_length, List.length_replicate])]
          exact results_cell_row rfl _ _ w.heap.size 126 _ (0, 0) _ rfl HR.out Tryd.underlying126 rfl (by rw [List.size_toArray]; exact info_w64' (Sha.words_length l 48))
end
end Go.Proofs.YtehpapoboeejkaaDoor
