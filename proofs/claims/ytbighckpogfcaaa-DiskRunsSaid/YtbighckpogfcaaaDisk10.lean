/- The reference's disk without files: its calls. -/
import Derived.Test.YtbighckpogfcaaaDisk9
namespace Go.Proofs.Ytbighckpogfcaaa
open Go.RowKit Go.Maps
theorem info_rfile : (Try.prog.info? 108).map (fun i => (i.zero, i.size, i.bytes)) = some (some (.agg #[.string ⟨#[]⟩, .string ⟨#[]⟩, .int .i64 0]), 3, 40) := by kernel_rfl
theorem row_setCell {w : World} {b o : Nat} {cs : Array Value} {t : TypeId} (h : w.heap[b]? = some (.cells cs t (0, 0))) (u : Value) : (w.setCell ⟨b, o, none⟩ u).heap[b]? = some (.cells (cs.setIfInBounds o u) t (0, 0)) := by
  have hb := heap_lt h
  simp [World.setCell, h, Array.getElem?_modify]
theorem new07_any (w : World) : Calls Try.prog 25 #[] w fun e w' => e = .returned (.agg #[.slice none 0 0, .int .i64 (-1)]) ∧ Below w.heap.size w w' := by
  go_enter Try.func25, Try.ntmps25
  go_wp2_with fail
  exact bodyPost_ret (v := .agg #[.slice none 0 0, .int .i64 (-1)]) (by simp [results, Try.results25, go_sem]) rfl ⟨rfl, (Below.refl _ _).alloc (Nat.le_refl _) _⟩
set_option maxRecDepth 100000 in
theorem at07_any (w : World) (s : ByteArray) : Calls Try.prog 64 #[.agg #[.slice none 0 0, .int .i64 (-1)], .string s] w fun e w' => e = .returned (.int .i64 (-1)) ∧ Below w.heap.size w w' := by
  have hB : Below w.heap.size w (w.alloc (.cells #[.slice none 0 0, .int .i64 (-1)] 46)) := (Below.refl _ _).alloc (Nat.le_refl _) _
  go_enter Try.func64, Try.ntmps64
  go_wp2_with fail
  go_loopw [10] (fun i wr => i = .int .i64 0 ∧ Below w.heap.size w wr) (fun _ _ => 0)
  case atStart => exact ⟨rfl, hB⟩
  case round =>
    obtain ⟨rfl, hb⟩ := hrel
    go_wp2_with fail
    go_ret
    exact ⟨rfl, hb⟩
set_option maxRecDepth 100000 in
theorem pass07_any (w : World) (A : Option Addr) (n c : Nat) : Calls Try.prog 87 #[.agg #[.slice none 0 0, .int .i64 (-1)], .slice A n c] w fun e w' => e = .returned (.tuple #[.agg #[.slice A n c, .int .i64 (-1)], .int .i64 0]) ∧ Below w.heap.size w w' := by
  go_enter Try.func87, Try.ntmps87
  go_wp2_with fail
  exact bodyPost_ret (v := .tuple #[.agg #[.slice A n c, .int .i64 (-1)], .int .i64 0]) (by simp [results, Try.results87, go_sem]) rfl ⟨rfl, ((Below.refl _ _).alloc (Nat.le_refl _) _).alloc (by simp) _⟩
set_option maxRecDepth 100000 in
theorem with07_any (w : World) (s d : ByteArray) (x : Int) : Calls Try.prog 88 #[.agg #[.slice none 0 0, .int .i64 (-1)], .agg #[.string s, .string d, .int .i64 x]] w fun e w' => ∃ A n c, e = .returned (.slice A n c) ∧ Below w.heap.size w w' := by
  go_enter Try.func88, Try.ntmps88
  go_wp2_with fail
  go_loopw [5, 14] (fun v i wr => v = .slice (some ⟨w.heap.size + 1 + 1, 0, none⟩) 0 0 ∧ i = .int .i64 0 ∧ wr = ((w.alloc (.cells #[.slice none 0 0, .int .i64 (-1)] 46)).alloc (.cells #[.string s, .string d, .int .i64 x] 108)).alloc (.cells #[] 108)) (fun _ _ _ => 0)
  case atStart => exact ⟨rfl, rfl, rfl⟩
  case round =>
    obtain ⟨rfl, rfl, rfl⟩ := hrel
    have hb0 : Below w.heap.size w (((w.alloc (.cells #[.slice none 0 0, .int .i64 (-1)] 46)).alloc (.cells #[.string s, .string d, .int .i64 x] 108)).alloc (.cells #[] 108)) := (((Below.refl _ _).alloc (Nat.le_refl _) _).alloc (by simp) _).alloc (by simp; omega) _
    have hown : Own (((w.alloc (.cells #[.slice none 0 0, .int .i64 (-1)] 46)).alloc (.cells #[.string s, .string d, .int .i64 x] 108)).alloc (.cells #[] 108)) w.heap.size 108 3 (some ⟨w.heap.size + 1 + 1, 0, none⟩) 0 0 [] := by
      have := Own.lit ((w.alloc (.cells #[.slice none 0 0, .int .i64 (-1)] 46)).alloc (.cells #[.string s, .string d, .int .i64 x] 108)) #[] 108 3 0 w.heap.size (by simp; omega) (by decide) rfl
      simpa using this
    have hown2 := hown.alloc (.cells #[.string s, .string d, .int .i64 x] 108)
    have hrd := Rd.of_lit (((w.alloc (.cells #[.slice none 0 0, .int .i64 (-1)] 46)).alloc (.cells #[.string s, .string d, .int .i64 x] 108)).alloc (.cells #[] 108)) #[.string s, .string d, .int .i64 x] 108 3 1 (by decide) rfl
    have hone : ∀ v ∈ [Value.string s, Value.string d, Value.int .i64 x], v.oneCell' = true := by simp [Value.oneCell']
    have hrd2 : Rd ((((w.alloc (.cells #[.slice none 0 0, .int .i64 (-1)] 46)).alloc (.cells #[.string s, .string d, .int .i64 x] 108)).alloc (.cells #[] 108)).alloc (.cells #[.string s, .string d, .int .i64 x] 108)) 3 (some ⟨w.heap.size + 1 + 1 + 1, 0, none⟩) 1 [.string s, .string d, .int .i64 x] := by simpa using hrd
    have hb1 := hb0.alloc (by simp; omega) (.cells #[.string s, .string d, .int .i64 x] 108)
    have hb2 : Below (w.heap.size + 1) (w.alloc (.cells #[.slice none 0 0, .int .i64 (-1)] 46)) ((((w.alloc (.cells #[.slice none 0 0, .int .i64 (-1)] 46)).alloc (.cells #[.string s, .string d, .int .i64 x] 108)).alloc (.cells #[] 108)).alloc (.cells #[.string s, .string d, .int .i64 x] 108)) := (((Below.refl _ _).alloc (by simp) _).alloc (by simp) _).alloc (by first | (simp; done) | (simp; omega)) _
    have hr0 := (hb2.block w.heap.size (by omega)).trans (heap_alloc_new w (.cells #[.slice none 0 0, .int .i64 (-1)] 46))
    clear hown hrd hb0 hb2
    go_wp2_with (at_builtin; go_must ((with_reducible refine wpList_append_lit 108 (.agg #[.string ⟨#[]⟩, .string ⟨#[]⟩, .int .i64 0]) 3 40 Try.underlying44 info_rfile rfl w.heap.size (some ⟨w.heap.size + 1 + 1, 0, none⟩) 0 0 [] hown2 1 _ (.slice (some ⟨w.heap.size + 1 + 1 + 1, 0, none⟩) 1 1) (Src.slice Try.underlying44 hrd2) hone ?_ ?_ ?_ ?_ ?_); (unfold maxLen; omega); omega; (simp; omega); exact ⟨rfl, rfl⟩; intro A3 c3 w3 hown3 hgr3 hbl3; have hr3 := (hgr3.block w.heap.size (by simp; omega) (by simp [blockOf]; omega)).trans hr0; have c0 : w3.cell? ⟨w.heap.size, 0, none⟩ = some (.slice none 0 0) := (cell_of_row w3 _ 0 _ _ _ hr3).trans rfl; have hbw3 := hb1.grown hgr3 (by simp; omega) (fun g e => (hown2.block g e).1); clear hr3 hr0 hown3 hgr3 hbl3 hown2 hrd2 hone hb1))
    go_loopw [5, 35] (fun v i wr => v = .slice A3 1 c3 ∧ i = .int .i64 0 ∧ wr = w3) (fun _ _ _ => 0)
    case atStart => exact ⟨rfl, rfl, rfl⟩
    case round =>
      obtain ⟨rfl, rfl, rfl⟩ := hrel
      go_wp2_with fail
      go_ret
      exact ⟨_, _, _, rfl, hbw3⟩
set_option maxRecDepth 100000 in
set_option maxHeartbeats 4000000 in
theorem append07e_any (w : World) (s d : ByteArray) (hd : d.size ≤ 1000000000) : Calls Try.prog 57 #[.agg #[.slice none 0 0, .int .i64 (-1)], .string s, .string d] w fun e w' => ∃ A n c v, e = .returned (.tuple #[.agg #[.slice A n c, .int .i64 (-1)], .int .i64 v]) ∧ Below w.heap.size w w' := by
  by_cases h0 : s = ⟨#[]⟩
  · subst h0
    go_enter Try.func57, Try.ntmps57
    go_wp2_with fail
    exact bodyPost_ret (v := .tuple #[.agg #[.slice none 0 0, .int .i64 (-1)], .int .i64 1]) (by simp [results, Try.results57, go_sem]) rfl ⟨_, _, _, _, rfl, ((Below.refl _ _).alloc (Nat.le_refl _) _).alloc (by simp) _⟩
  · have h1 : s.toList.isEmpty = false := by
      rw [ByteArray.toList_eq, Bool.eq_false_iff]
      exact fun h => h0 (bytes_ext (by simpa using h))
    have hadd : ¬ ((0 : Nat) + d.size > 9223372036854775807) := by omega
    obtain ⟨g, hg⟩ : ∃ g, g = w.heap.size := ⟨_, rfl⟩
    obtain ⟨W3, hW3⟩ : ∃ W3, W3 = ((w.alloc (.cells #[.slice none 0 0, .int .i64 (-1)] 46)).alloc (.cells #[.slice none 0 0, .int .i64 0] 46)).alloc (.cells #[.string s, .string ⟨#[]⟩, .int .i64 0] 108) := ⟨_, rfl⟩
    have z3 : W3.heap.size = g + 3 := by rw [hW3, hg]; simp
    have r2 : W3.heap[g + 2]? = some (.cells #[.string s, .string ⟨#[]⟩, .int .i64 0] 108 (0, 0)) := by
      rw [hW3, hg]
      have := heap_alloc_new ((w.alloc (.cells #[.slice none 0 0, .int .i64 (-1)] 46)).alloc (.cells #[.slice none 0 0, .int .i64 0] 46)) (.cells #[.string s, .string ⟨#[]⟩, .int .i64 0] 108)
      simpa using this
    have r1 : W3.heap[g + 1]? = some (.cells #[.slice none 0 0, .int .i64 0] 46 (0, 0)) := by
      rw [hW3, hg]
      have := heap_alloc_new (w.alloc (.cells #[.slice none 0 0, .int .i64 (-1)] 46)) (.cells #[.slice none 0 0, .int .i64 0] 46)
      rw [World.size_alloc] at this
      exact (Below.heap_alloc _ _ _ (by simp)).trans this
    have r0 : W3.heap[g]? = some (.cells #[.slice none 0 0, .int .i64 (-1)] 46 (0, 0)) := by
      rw [hW3, hg]
      exact (Below.heap_alloc _ _ _ (by simp; omega)).trans ((Below.heap_alloc _ _ _ (by simp)).trans (heap_alloc_new w _))
    have hbW : Below g w W3 := by rw [hW3, hg]; exact (((Below.refl _ _).alloc (Nat.le_refl _) _).alloc (by simp) _).alloc (by simp; omega) _
    have HW3 := hid2 hW3
    have HG := hid2 hg
    clear hW3 hg h0
    go_enter Try.func57, Try.ntmps57
    go_wp2_with (go_at_call 64; rw [← HW3.out, ← HG.out]; refine (at07_any _ s).mono ?_; rintro e w2 ⟨rfl, hb2⟩; have k2 := (hb2.block _ (show g + 2 < W3.heap.size by omega)).trans r2; have k1 := (hb2.block _ (show g + 1 < W3.heap.size by omega)).trans r1; have k0 := (hb2.block _ (show g < W3.heap.size by omega)).trans r0; have hbw2 := hbW.trans (hb2.mono (show g ≤ W3.heap.size by omega)); have hz2 := hb2.size; rw [z3] at hz2; have c21 : w2.cell? ⟨g + 2, 1, none⟩ = some (.string ⟨#[]⟩) := (cell_of_row w2 _ 1 _ _ _ k2).trans rfl; have f2 : w2.frozen? ⟨g + 1 + 1, 1, none⟩ = false := frozen_of_row w2 _ 1 _ _ k2; have K0 := hid2 k0; have K1 := hid2 k1; have K2 := hid2 k2; clear r0 r1 r2 hb2 k0 k1 k2 hbW)
    obtain ⟨X, hX⟩ : ∃ X, X = (⟨#[]⟩ : ByteArray) ++ d := ⟨_, rfl⟩
    rw [← hX]
    obtain ⟨W, hW⟩ : ∃ W, W = w2.setCell ⟨g + 1 + 1, 1, none⟩ (.string X) := ⟨_, rfl⟩
    rw [← hW]
    have r0 : W.heap[g]? = some (.cells #[.slice none 0 0, .int .i64 (-1)] 46 (0, 0)) := by rw [hW]; exact (Below.heap_setCell _ _ _ _ (show g ≠ g + 1 + 1 by omega)).trans K0.out
    have r1 : W.heap[g + 1]? = some (.cells #[.slice none 0 0, .int .i64 0] 46 (0, 0)) := by rw [hW]; exact (Below.heap_setCell _ _ _ _ (show g + 1 ≠ g + 1 + 1 by omega)).trans K1.out
    have r2 : W.heap[g + 1 + 1]? = some (.cells #[.string s, .string X, .int .i64 0] 108 (0, 0)) := by rw [hW]; exact row_setCell K2.out _
    have hbW : Below g w W := by rw [hW]; exact hbw2.setCell (show g ≤ g + 1 + 1 by omega) _
    have hzW : g + 3 ≤ W.heap.size := by rw [hW]; simpa [World.setCell] using hz2
    clear hW K0 K1 K2 c21 f2 hbw2 hz2 hX
    have a0 : W.cell? ⟨g, 0, none⟩ = some (.slice none 0 0) := (cell_of_row W _ 0 _ _ _ r0).trans rfl
    have a1 : W.cell? ⟨g, 1, none⟩ = some (.int .i64 (-1)) := (cell_of_row W _ 1 _ _ _ r0).trans rfl
    have a2 : W.cell? ⟨g + 1, 0, none⟩ = some (.slice none 0 0) := (cell_of_row W _ 0 _ _ _ r1).trans rfl
    have a3 : W.cell? ⟨g + 1, 1, none⟩ = some (.int .i64 0) := (cell_of_row W _ 1 _ _ _ r1).trans rfl
    have a4 : W.cell? ⟨g + 1 + 1, 0, none⟩ = some (.string s) := (cell_of_row W _ 0 _ _ _ r2).trans rfl
    have a5 : W.cell? ⟨g + 1 + 1, 1, none⟩ = some (.string X) := (cell_of_row W _ 1 _ _ _ r2).trans rfl
    have a6 : W.cell? ⟨g + 1 + 1, 2, none⟩ = some (.int .i64 0) := (cell_of_row W _ 2 _ _ _ r2).trans rfl
    have z0 : W.frozen? ⟨g + 1, 0, none⟩ = false := frozen_of_row W _ 0 _ _ r1
    have z1 : W.frozen? ⟨g + 1, 1, none⟩ = false := frozen_of_row W _ 1 _ _ r1
    have R0 := hid2 r0
    have R1 := hid2 r1
    have R2 := hid2 r2
    clear r0 r1 r2
    go_region_with (first
      | (go_at_call 88; refine (with07_any _ s X 0).mono ?_; rintro e w4 ⟨A4, n4, c4, rfl, hb4⟩; have hbw4 := hbW.drew.trans (hb4.mono (show g ≤ W.heap.size by omega)); have hz4 : g + 3 ≤ w4.heap.size := Nat.le_trans hzW hb4.size; have r04 := (hb4.block g (show g < W.heap.size by omega)).trans R0.out; have r14 := (hb4.block (g + 1) (show g + 1 < W.heap.size by omega)).trans R1.out; have r24 := (hb4.block (g + 1 + 1) (show g + 1 + 1 < W.heap.size by omega)).trans R2.out; have a04 : w4.cell? ⟨g, 0, none⟩ = some (.slice none 0 0) := (cell_of_row w4 _ 0 _ _ _ r04).trans rfl; have a14 : w4.cell? ⟨g, 1, none⟩ = some (.int .i64 (-1)) := (cell_of_row w4 _ 1 _ _ _ r04).trans rfl; have a24 : w4.cell? ⟨g + 1, 0, none⟩ = some (.slice none 0 0) := (cell_of_row w4 _ 0 _ _ _ r14).trans rfl; have a34 : w4.cell? ⟨g + 1, 1, none⟩ = some (.int .i64 0) := (cell_of_row w4 _ 1 _ _ _ r14).trans rfl; have a44 : w4.cell? ⟨g + 1 + 1, 0, none⟩ = some (.string s) := (cell_of_row w4 _ 0 _ _ _ r24).trans rfl; have a54 : w4.cell? ⟨g + 1 + 1, 1, none⟩ = some (.string X) := (cell_of_row w4 _ 1 _ _ _ r24).trans rfl; have a64 : w4.cell? ⟨g + 1 + 1, 2, none⟩ = some (.int .i64 0) := (cell_of_row w4 _ 2 _ _ _ r24).trans rfl; have z04 : w4.frozen? ⟨g + 1, 0, none⟩ = false := frozen_of_row w4 _ 0 _ _ r14; have z14 : w4.frozen? ⟨g + 1, 1, none⟩ = false := frozen_of_row w4 _ 1 _ _ r14; have R04 := hid2 r04; have R14 := hid2 r14; clear r04 r14 r24 hb4)
      | (go_at_call 87; refine (pass07_any _ A4 n4 c4).mono ?_; rintro e w5 ⟨rfl, hb5⟩; have hbw5 := hbw4.trans (hb5.mono (show g ≤ w4.heap.size by omega)); have r05 := (hb5.block g (show g < w4.heap.size by omega)).trans R04.out; have r15 := (hb5.block (g + 1) (show g + 1 < w4.heap.size by omega)).trans R14.out; have a25 : w5.cell? ⟨g + 1, 0, none⟩ = some (.slice none 0 0) := (cell_of_row w5 _ 0 _ _ _ r15).trans rfl; have a35 : w5.cell? ⟨g + 1, 1, none⟩ = some (.int .i64 0) := (cell_of_row w5 _ 1 _ _ _ r15).trans rfl; have z05 : w5.frozen? ⟨g + 1, 0, none⟩ = false := frozen_of_row w5 _ 0 _ _ r15; have z15 : w5.frozen? ⟨g + 1, 1, none⟩ = false := frozen_of_row w5 _ 1 _ _ r15; clear r05 r15 hb5))
    all_goals
      go_wp2_with fail
      refine bodyPost_ret (v := .tuple #[.agg #[.slice A4 n4 c4, .int .i64 (-1)], .int .i64 0]) ?_ rfl ⟨_, _, _, _, rfl, ?_⟩
      · simp [results, Try.results57, go_sem, a25, a35]
      · rw [← HG.out]
        exact (hbw5.setCell (show g ≤ g + 1 by omega) _).setCell (show g ≤ g + 1 by omega) _
end Go.Proofs.Ytbighckpogfcaaa
