/- The walks of Sum on a nil hash, of the package's Sum over its parts. -/
import Derived.Test.YtehpapoboeejkaaDoorSha5
namespace Go.Proofs.YtehpapoboeejkaaDoor
open Go.RowKit

theorem sum_len (l : List UInt8) : (Sha.sum l).length = 32 := out_length _
/-- the block of the result, a digest, while nothing has been written -/
structure ResAt (w wr : World) : Prop where
  row : wr.heap[w.heap.size]? = some (.cells (u8s (List.replicate 32 0)).toArray 83 (0, 0))
  below : Below w.heap.size w wr
theorem ResAt.size {w wr : World} (h : ResAt w wr) : w.heap.size + 1 ≤ wr.heap.size := by have := heap_lt h.row; omega
theorem ResAt.start (w : World) : ResAt w (w.alloc (.cells (u8s (List.replicate 32 0)).toArray 83)) := ⟨heap_alloc_new w _, (Below.refl _ _).alloc (Nat.le_refl _) _⟩
theorem ResAt.ext {w wr w2 : World} (h : ResAt w wr) (hb : Below wr.heap.size wr w2) : ResAt w w2 :=
  ⟨(hb.block _ (by have := h.size; omega)).trans h.row, h.below.trans (hb.mono (by have := h.size; omega))⟩
theorem ResAt.ext1 {w wr w2 : World} (h : ResAt w wr) (hb : Below (w.heap.size + 1) wr w2) : ResAt w w2 :=
  ⟨(hb.block _ (by omega)).trans h.row, h.below.trans (hb.mono (by omega))⟩
theorem ResAt.below2 {w wr : World} (h : ResAt w wr) (L : List UInt8) : Below w.heap.size w (wr.setRow w.heap.size (laid (u8s (List.replicate 32 0)).toArray 0 (u8s L))) := below_setRow h.below (Nat.le_refl _) _
theorem ResAt.wrote {w wr : World} (h : ResAt w wr) (L : List UInt8) (hL : L.length = 32) :
    (wr.setRow w.heap.size (laid (u8s (List.replicate 32 0)).toArray 0 (u8s L))).heap[w.heap.size]? = some (.cells (u8s L).toArray 83 (0, 0)) := by
  have hr := setRow_heap wr w.heap.size _ (laid (u8s (List.replicate 32 0)).toArray 0 (u8s L)) _ _ h.row
  rw [laid_all (by rw [u8s_length, hL, List.size_toArray, u8s_length, List.length_replicate])] at hr ⊢
  exact hr
set_option maxRecDepth 100000 in
theorem hsum_nil (w : World) : Calls Tryd.prog 52 #[.pointer none] w fun e w' => e = .returned (.agg (u8s (Sha.sum [])).toArray) ∧ Below w.heap.size w w' := by
  go_enter Tryd.func52, Tryd.ntmps52
  have hr0 := ResAt.start w
  go_wp2_with (first
    | (go_at_call 50; refine (hnew_any _).mono ?_; rintro e w1 ⟨g, rfl, hA, hb⟩; have hr1 := hr0.ext hb; clear hr0)
    | (go_at_call 52; refine (hsum_any _ _ g [] hA (by simp)).mono ?_; rintro e w2 ⟨rfl, hb2⟩; have hr2 := hr1.ext hb2; clear hr1)
    | ((with_reducible refine wpList_store_lit _ 0 (.agg (u8s (Sha.sum [])).toArray) (u8s (Sha.sum [])) (agg_cells _) _ _ (ResAt.row hr2) (info_h8' (sum_len [])) (fit_h (sum_len [])) (u8s_one _) ?_ ?_); exact ⟨rfl, rfl⟩))
  exact bodyPost_ret (v := .agg (u8s (Sha.sum [])).toArray) (results_cell_row rfl _ _ _ 83 _ (0, 0) _ rfl (ResAt.wrote hr2 _ (sum_len [])) Tryd.underlying83 rfl (by rw [List.size_toArray]; exact info_h8' (sum_len []))) rfl ⟨rfl, ResAt.below2 hr2 _⟩
/-- parts, one behind the other -/
def flat : List ByteArray → List UInt8
  | [] => []
  | p :: ps => p.data.toList ++ flat ps
theorem flat_append (a b : List ByteArray) : flat (a ++ b) = flat a ++ flat b := by
  induction a with
  | nil => rfl
  | cons x a ih => simp [flat, ih, List.append_assoc]
theorem flat_take_succ (ps : List ByteArray) (k : Nat) (h : k < ps.length) : flat (ps.take (k + 1)) = flat (ps.take k) ++ ps[k].data.toList := by
  rw [List.take_succ_eq_append_getElem h, flat_append]; simp [flat]
theorem flat_take_le (ps : List ByteArray) (k : Nat) : (flat (ps.take k)).length ≤ (flat ps).length := by
  conv => rhs; rw [← List.take_append_drop k ps, flat_append, List.length_append]
  omega
theorem HashAt.le {w : World} {base base2 g : Nat} {l : List UInt8} (h : HashAt w base g l) (hb : base2 ≤ base) : HashAt w base2 g l := by
  obtain ⟨h1, h2, A, c, h3, h4⟩ := h
  exact ⟨h1, by omega, A, c, h3, h4.mono hb⟩
set_option maxRecDepth 100000 in
theorem ssum_any (w : World) (A : Option Addr) (n c : Nat) (ps : List ByteArray) (hr : Rd w 1 A n (ps.map Value.string)) (hmx : n ≤ maxLen) (hlen : (flat ps).length ≤ 70368744177664) :
    Calls Tryd.prog 43 #[.slice A n c] w fun e w' => e = .returned (.agg (u8s (Sha.sum (flat ps))).toArray) ∧ Below w.heap.size w w' := by
  have hn : ps.length = n := by have := hr.1; simpa using this
  have hmx' : (n : Int) ≤ 9223372036854775807 := by unfold maxLen at hmx; omega
  have HLEN := hid2 hlen
  clear hlen
  go_enter Tryd.func43, Tryd.ntmps43
  have hr0 := ResAt.start w
  go_wp2_with (first
    | (go_at_call 50; refine (hnew_any _).mono ?_; rintro e w1 ⟨g, rfl, hA, hb⟩; have hr1 := hr0.ext hb; have hs1 : w.heap.size + 1 ≤ (World.heap w1).size := hr1.size; clear hr0)
    | fail)
  have hA' : HashAt w1 (w.heap.size + 1) g (flat (ps.take 0)) := hA.le (by simp)
  clear hA hb
  go_loopw [9] (fun i wr => ∃ k : Nat, k ≤ n ∧ i = .int .i64 k ∧ ResAt w wr ∧ HashAt wr (w.heap.size + 1) g (flat (ps.take k))) (fun i _ => n - (intOf i).toNat)
  case atStart => exact ⟨0, by omega, rfl, hr1, hA'⟩
  case round =>
    clear hr1 hA' hs1
    obtain ⟨k, hk, rfl, hr1, hA⟩ := hrel
    have hs1 := hr1.size
    by_cases hlt : k < n
    · obtain ⟨b, o, rfl, hcell⟩ := (hr.below_all hr1.below).cell (j := k) (by simpa [hn] using hlt)
      have hkp : k < ps.length := by omega
      rw [List.getElem_map] at hcell
      have hl1 : (flat (ps.take k)).length + ps[k].size ≤ 140737488355328 := by
        have h1 := flat_take_le ps (k + 1)
        have h2 := HLEN.out
        rw [flat_take_succ ps k hkp, List.length_append, toList_length] at h1
        omega
      have hlt' : (k : Int) < n := by omega
      go_wp2_with (first
        | (go_at_call 51; refine (hadd_any _ (w.heap.size + 1) g _ _ hA hl1 hs1).mono ?_; rintro e w2 ⟨rfl, hA2, hb2, hs2⟩)
        | fail)
      go_roundw
      case rel => exact ⟨k + 1, by omega, by go_num, hr1.ext1 hb2, by rw [flat_take_succ ps k hkp]; exact hA2⟩
      case measure => simp [intOf]; omega
    · have hkn : k = n := by omega
      have hfl : flat (ps.take k) = flat ps := by rw [List.take_of_length_le (by omega)]
      have HF := hid2 hfl
      have hlt' : ¬ (k : Int) < n := by omega
      have hA' := hA
      rw [hfl] at hA'
      clear hfl hA
      go_wp2_with (first
        | (go_at_call 52; refine (hsum_any _ _ g _ hA' HLEN.out).mono ?_; rintro e w2 ⟨rfl, hb2⟩; have hr2 := hr1.ext hb2; clear hr1)
        | ((with_reducible refine wpList_store_lit _ 0 (.agg (u8s (Sha.sum (flat ps))).toArray) (u8s (Sha.sum (flat ps))) (agg_cells _) _ _ (ResAt.row hr2) (info_h8' (sum_len (flat ps))) (fit_h (sum_len (flat ps))) (u8s_one _) ?_ ?_); exact ⟨rfl, rfl⟩))
      exact bodyPost_ret (v := .agg (u8s (Sha.sum (flat ps))).toArray) (results_cell_row rfl _ _ _ 83 _ (0, 0) _ rfl (ResAt.wrote hr2 _ (sum_len (flat ps))) Tryd.underlying83 rfl (by rw [List.size_toArray]; exact info_h8' (sum_len (flat ps)))) rfl ⟨rfl, ResAt.below2 hr2 _⟩
end Go.Proofs.YtehpapoboeejkaaDoor
