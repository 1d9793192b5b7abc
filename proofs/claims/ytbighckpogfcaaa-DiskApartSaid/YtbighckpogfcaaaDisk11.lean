/- The reference's calls on a disk without files (Sync, Rename, Remove). -/
import Derived.Test.YtbighckpogfcaaaDisk10
namespace Go.Proofs.Ytbighckpogfcaaa
open Go.RowKit Go.Maps
set_option maxRecDepth 100000 in
theorem sync07e_any (w : World) (s : ByteArray) : Calls Try.prog 58 #[.agg #[.slice none 0 0, .int .i64 (-1)], .string s] w fun e w' => ∃ v, e = .returned (.tuple #[.agg #[.slice none 0 0, .int .i64 (-1)], .int .i64 v]) ∧ Below w.heap.size w w' := by
  obtain ⟨g, hg⟩ : ∃ g, g = w.heap.size := ⟨_, rfl⟩
  obtain ⟨W3, hW3⟩ : ∃ W3, W3 = (w.alloc (.cells #[.slice none 0 0, .int .i64 (-1)] 46)).alloc (.cells #[.slice none 0 0, .int .i64 0] 46) := ⟨_, rfl⟩
  have z3 : W3.heap.size = g + 2 := by rw [hW3, hg]; simp
  have r1 : W3.heap[g + 1]? = some (.cells #[.slice none 0 0, .int .i64 0] 46 (0, 0)) := by
    rw [hW3, hg]
    have := heap_alloc_new (w.alloc (.cells #[.slice none 0 0, .int .i64 (-1)] 46)) (.cells #[.slice none 0 0, .int .i64 0] 46)
    rw [World.size_alloc] at this
    exact this
  have r0 : W3.heap[g]? = some (.cells #[.slice none 0 0, .int .i64 (-1)] 46 (0, 0)) := by
    rw [hW3, hg]
    exact (Below.heap_alloc _ _ _ (by simp)).trans (heap_alloc_new w _)
  have hbW : Below g w W3 := by rw [hW3, hg]; exact ((Below.refl _ _).alloc (Nat.le_refl _) _).alloc (by simp) _
  have HW3 := hid2 hW3
  have HG := hid2 hg
  clear hW3 hg
  by_cases h1 : s.toList.isEmpty = true
  · clear r0 r1 hbW z3 HW3 HG
    go_enter Try.func58, Try.ntmps58
    go_wp2_with fail
    exact bodyPost_ret (v := .tuple #[.agg #[.slice none 0 0, .int .i64 (-1)], .int .i64 1]) (by simp [results, Try.results58, go_sem]) rfl ⟨_, rfl, ((Below.refl _ _).alloc (Nat.le_refl _) _).alloc (by simp) _⟩
  · have h2 : s.toList.isEmpty = false := by simpa using h1
    go_enter Try.func58, Try.ntmps58
    go_wp2_with (go_at_call 64; rw [← HW3.out, ← HG.out]; refine (at07_any _ s).mono ?_; rintro e w2 ⟨rfl, hb2⟩; have k1 := (hb2.block _ (show g + 1 < W3.heap.size by omega)).trans r1; have k0 := (hb2.block _ (show g < W3.heap.size by omega)).trans r0; have hbw2 := hbW.trans (hb2.mono (show g ≤ W3.heap.size by omega)); have a0 : w2.cell? ⟨g, 0, none⟩ = some (.slice none 0 0) := (cell_of_row w2 _ 0 _ _ _ k0).trans rfl; have a1 : w2.cell? ⟨g, 1, none⟩ = some (.int .i64 (-1)) := (cell_of_row w2 _ 1 _ _ _ k0).trans rfl; have a2 : w2.cell? ⟨g + 1, 0, none⟩ = some (.slice none 0 0) := (cell_of_row w2 _ 0 _ _ _ k1).trans rfl; have a3 : w2.cell? ⟨g + 1, 1, none⟩ = some (.int .i64 0) := (cell_of_row w2 _ 1 _ _ _ k1).trans rfl; have z0 : w2.frozen? ⟨g + 1, 0, none⟩ = false := frozen_of_row w2 _ 0 _ _ k1; have z1 : w2.frozen? ⟨g + 1, 1, none⟩ = false := frozen_of_row w2 _ 1 _ _ k1; clear r0 r1 hb2 k0 k1 hbW)
    refine bodyPost_ret (v := .tuple #[.agg #[.slice none 0 0, .int .i64 (-1)], .int .i64 10]) ?_ rfl ⟨_, rfl, ?_⟩
    · simp [results, Try.results58, go_sem, a2, a3]
    · rw [← HG.out]
      exact (hbw2.setCell (show g ≤ g + 1 by omega) _).setCell (show g ≤ g + 1 by omega) _
set_option maxRecDepth 100000 in
theorem rename07e_any (w : World) (s t : ByteArray) : Calls Try.prog 60 #[.agg #[.slice none 0 0, .int .i64 (-1)], .string s, .string t] w fun e w' => ∃ v, e = .returned (.tuple #[.agg #[.slice none 0 0, .int .i64 (-1)], .int .i64 v]) ∧ Below w.heap.size w w' := by
  obtain ⟨g, hg⟩ : ∃ g, g = w.heap.size := ⟨_, rfl⟩
  obtain ⟨W3, hW3⟩ : ∃ W3, W3 = (w.alloc (.cells #[.slice none 0 0, .int .i64 (-1)] 46)).alloc (.cells #[.slice none 0 0, .int .i64 0] 46) := ⟨_, rfl⟩
  have z3 : W3.heap.size = g + 2 := by rw [hW3, hg]; simp
  have r1 : W3.heap[g + 1]? = some (.cells #[.slice none 0 0, .int .i64 0] 46 (0, 0)) := by
    rw [hW3, hg]
    have := heap_alloc_new (w.alloc (.cells #[.slice none 0 0, .int .i64 (-1)] 46)) (.cells #[.slice none 0 0, .int .i64 0] 46)
    rw [World.size_alloc] at this
    exact this
  have r0 : W3.heap[g]? = some (.cells #[.slice none 0 0, .int .i64 (-1)] 46 (0, 0)) := by
    rw [hW3, hg]
    exact (Below.heap_alloc _ _ _ (by simp)).trans (heap_alloc_new w _)
  have hbW : Below g w W3 := by rw [hW3, hg]; exact ((Below.refl _ _).alloc (Nat.le_refl _) _).alloc (by simp) _
  have HW3 := hid2 hW3
  have HG := hid2 hg
  clear hW3 hg
  by_cases h1 : s.toList.isEmpty = true
  · clear r0 r1 hbW z3 HW3 HG
    go_enter Try.func60, Try.ntmps60
    go_wp2_with fail
    exact bodyPost_ret (v := .tuple #[.agg #[.slice none 0 0, .int .i64 (-1)], .int .i64 1]) (by simp [results, Try.results60, go_sem]) rfl ⟨_, rfl, ((Below.refl _ _).alloc (Nat.le_refl _) _).alloc (by simp) _⟩
  · have h2 : s.toList.isEmpty = false := by simpa using h1
    by_cases h3 : t.toList.isEmpty = true
    · clear r0 r1 hbW z3 HW3 HG
      go_enter Try.func60, Try.ntmps60
      go_wp2_with fail
      exact bodyPost_ret (v := .tuple #[.agg #[.slice none 0 0, .int .i64 (-1)], .int .i64 1]) (by simp [results, Try.results60, go_sem]) rfl ⟨_, rfl, ((Below.refl _ _).alloc (Nat.le_refl _) _).alloc (by simp) _⟩
    · have h4 : t.toList.isEmpty = false := by simpa using h3
      go_enter Try.func60, Try.ntmps60
      go_wp2_with (go_at_call 64; rw [← HW3.out, ← HG.out]; refine (at07_any _ s).mono ?_; rintro e w2 ⟨rfl, hb2⟩; have k1 := (hb2.block _ (show g + 1 < W3.heap.size by omega)).trans r1; have k0 := (hb2.block _ (show g < W3.heap.size by omega)).trans r0; have hbw2 := hbW.trans (hb2.mono (show g ≤ W3.heap.size by omega)); have a0 : w2.cell? ⟨g, 0, none⟩ = some (.slice none 0 0) := (cell_of_row w2 _ 0 _ _ _ k0).trans rfl; have a1 : w2.cell? ⟨g, 1, none⟩ = some (.int .i64 (-1)) := (cell_of_row w2 _ 1 _ _ _ k0).trans rfl; have a2 : w2.cell? ⟨g + 1, 0, none⟩ = some (.slice none 0 0) := (cell_of_row w2 _ 0 _ _ _ k1).trans rfl; have a3 : w2.cell? ⟨g + 1, 1, none⟩ = some (.int .i64 0) := (cell_of_row w2 _ 1 _ _ _ k1).trans rfl; have z0 : w2.frozen? ⟨g + 1, 0, none⟩ = false := frozen_of_row w2 _ 0 _ _ k1; have z1 : w2.frozen? ⟨g + 1, 1, none⟩ = false := frozen_of_row w2 _ 1 _ _ k1; clear r0 r1 hb2 k0 k1 hbW)
      refine bodyPost_ret (v := .tuple #[.agg #[.slice none 0 0, .int .i64 (-1)], .int .i64 10]) ?_ rfl ⟨_, rfl, ?_⟩
      · simp [results, Try.results60, go_sem, a2, a3]
      · rw [← HG.out]
        exact (hbw2.setCell (show g ≤ g + 1 by omega) _).setCell (show g ≤ g + 1 by omega) _
set_option maxRecDepth 100000 in
theorem remove07e_any (w : World) (s : ByteArray) : Calls Try.prog 61 #[.agg #[.slice none 0 0, .int .i64 (-1)], .string s] w fun e w' => ∃ v, e = .returned (.tuple #[.agg #[.slice none 0 0, .int .i64 (-1)], .int .i64 v]) ∧ Below w.heap.size w w' := by
  obtain ⟨g, hg⟩ : ∃ g, g = w.heap.size := ⟨_, rfl⟩
  obtain ⟨W3, hW3⟩ : ∃ W3, W3 = (w.alloc (.cells #[.slice none 0 0, .int .i64 (-1)] 46)).alloc (.cells #[.slice none 0 0, .int .i64 0] 46) := ⟨_, rfl⟩
  have z3 : W3.heap.size = g + 2 := by rw [hW3, hg]; simp
  have r1 : W3.heap[g + 1]? = some (.cells #[.slice none 0 0, .int .i64 0] 46 (0, 0)) := by
    rw [hW3, hg]
    have := heap_alloc_new (w.alloc (.cells #[.slice none 0 0, .int .i64 (-1)] 46)) (.cells #[.slice none 0 0, .int .i64 0] 46)
    rw [World.size_alloc] at this
    exact this
  have r0 : W3.heap[g]? = some (.cells #[.slice none 0 0, .int .i64 (-1)] 46 (0, 0)) := by
    rw [hW3, hg]
    exact (Below.heap_alloc _ _ _ (by simp)).trans (heap_alloc_new w _)
  have hbW : Below g w W3 := by rw [hW3, hg]; exact ((Below.refl _ _).alloc (Nat.le_refl _) _).alloc (by simp) _
  have HW3 := hid2 hW3
  have HG := hid2 hg
  clear hW3 hg
  by_cases h1 : s.toList.isEmpty = true
  · clear r0 r1 hbW z3 HW3 HG
    go_enter Try.func61, Try.ntmps61
    go_wp2_with fail
    exact bodyPost_ret (v := .tuple #[.agg #[.slice none 0 0, .int .i64 (-1)], .int .i64 1]) (by simp [results, Try.results61, go_sem]) rfl ⟨_, rfl, ((Below.refl _ _).alloc (Nat.le_refl _) _).alloc (by simp) _⟩
  · have h2 : s.toList.isEmpty = false := by simpa using h1
    go_enter Try.func61, Try.ntmps61
    go_wp2_with (go_at_call 64; rw [← HW3.out, ← HG.out]; refine (at07_any _ s).mono ?_; rintro e w2 ⟨rfl, hb2⟩; have k1 := (hb2.block _ (show g + 1 < W3.heap.size by omega)).trans r1; have k0 := (hb2.block _ (show g < W3.heap.size by omega)).trans r0; have hbw2 := hbW.trans (hb2.mono (show g ≤ W3.heap.size by omega)); have a0 : w2.cell? ⟨g, 0, none⟩ = some (.slice none 0 0) := (cell_of_row w2 _ 0 _ _ _ k0).trans rfl; have a1 : w2.cell? ⟨g, 1, none⟩ = some (.int .i64 (-1)) := (cell_of_row w2 _ 1 _ _ _ k0).trans rfl; have a2 : w2.cell? ⟨g + 1, 0, none⟩ = some (.slice none 0 0) := (cell_of_row w2 _ 0 _ _ _ k1).trans rfl; have a3 : w2.cell? ⟨g + 1, 1, none⟩ = some (.int .i64 0) := (cell_of_row w2 _ 1 _ _ _ k1).trans rfl; have z0 : w2.frozen? ⟨g + 1, 0, none⟩ = false := frozen_of_row w2 _ 0 _ _ k1; have z1 : w2.frozen? ⟨g + 1, 1, none⟩ = false := frozen_of_row w2 _ 1 _ _ k1; clear r0 r1 hb2 k0 k1 hbW)
    refine bodyPost_ret (v := .tuple #[.agg #[.slice none 0 0, .int .i64 (-1)], .int .i64 10]) ?_ rfl ⟨_, rfl, ?_⟩
    · simp [results, Try.results61, go_sem, a2, a3]
    · rw [← HG.out]
      exact (hbw2.setCell (show g ≤ g + 1 by omega) _).setCell (show g ≤ g + 1 by omega) _
end Go.Proofs.Ytbighckpogfcaaa
