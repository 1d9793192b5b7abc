/- One act, beside a reference's disk without files. -/
import Derived.Test.YtbighckpogfcaaaDisk11
namespace Go.Proofs.Ytbighckpogfcaaa
open Go.RowKit Go.Maps
/-- what an act leaves -/
def doM (M : Tab FileE) (a : ActE) : Tab FileE :=
  if a.kind = 0 then appM M (-1) a.name.data.toList a.data.data.toList else if a.kind = 1 then syncM M (-1) a.name.data.toList else if a.kind = 2 then renM M (-1) a.name.data.toList a.to.data.toList else if a.kind = 3 then remM M (-1) a.name.data.toList else M
theorem But.of_three {p b g : Nat} {w W3 w3 F : World} (h1 : Below g w W3) (hg : w.heap.size = g) (h2 : But p b W3 w3) (h3 : Below g w3 F) (hz : g ≤ W3.heap.size) : But p b w F :=
  ⟨h3.os.trans (h2.os.trans h1.os), h3.tape.trans (h2.tape.trans h1.tape), h3.output.trans (h2.output.trans h1.output), Nat.le_trans h1.size (Nat.le_trans h2.size h3.size),
    fun k hk hp hb => (h3.block k (by omega)).trans ((h2.block k (by omega) hp hb).trans (h1.block k (by omega)))⟩
set_option maxRecDepth 100000 in
set_option maxHeartbeats 2000000 in
theorem do_app (w : World) (p b n : Nat) (M : Tab FileE) (h : DiskIs w p b n M (-1)) (an : Int) (nm to dt : ByteArray) (pa : Option Addr) (pn pc : Nat) (hn3 : nm.data.toList.length ≤ 1000000000) (hd3 : dt.data.toList.length ≤ 1000000000) (_ : nm.size ≤ 1000000000) (_ : to.size ≤ 1000000000) (hdz : dt.size ≤ 1000000000) (hfl : (fileOf M nm.data.toList).1.length ≤ 1000000000) (hnB : n < 1000000000) :
    Calls Try.prog 26 #[.pointer (some ⟨p, 0, none⟩), .agg #[.slice none 0 0, .int .i64 (-1)], .agg #[.int .i64 0, .int .i64 an, .string nm, .string to, .string dt, .slice pa pn pc]] w fun e w' => ∃ v, e = .returned v ∧ DiskIs w' p b (n + 1) (appM M (-1) nm.data.toList dt.data.toList) (-1) ∧ But p b w w' := by
  obtain ⟨g, hg⟩ : ∃ g, g = w.heap.size := ⟨_, rfl⟩
  obtain ⟨W3, hW3⟩ : ∃ W3, W3 = ((w.alloc (.cells #[.slice none 0 0, .int .i64 (-1)] 46)).alloc (.cells #[.int .i64 0, .int .i64 an, .string nm, .string to, .string dt, .slice pa pn pc] 39)).alloc (.cells #[.slice none 0 0, .int .i64 0] 46) := ⟨_, rfl⟩
  have z3 : W3.heap.size = g + 3 := by rw [hW3, hg]; simp
  have r2 : W3.heap[g + 1 + 1]? = some (.cells #[.slice none 0 0, .int .i64 0] 46 (0, 0)) := by
    rw [hW3, hg]
    have := heap_alloc_new ((w.alloc (.cells #[.slice none 0 0, .int .i64 (-1)] 46)).alloc (.cells #[.int .i64 0, .int .i64 an, .string nm, .string to, .string dt, .slice pa pn pc] 39)) (.cells #[.slice none 0 0, .int .i64 0] 46)
    rw [World.size_alloc, World.size_alloc] at this
    exact this
  have r1 : W3.heap[g + 1]? = some (.cells #[.int .i64 0, .int .i64 an, .string nm, .string to, .string dt, .slice pa pn pc] 39 (0, 0)) := by
    rw [hW3, hg]
    have := heap_alloc_new (w.alloc (.cells #[.slice none 0 0, .int .i64 (-1)] 46)) (.cells #[.int .i64 0, .int .i64 an, .string nm, .string to, .string dt, .slice pa pn pc] 39)
    rw [World.size_alloc] at this
    exact (Below.heap_alloc _ _ _ (by simp)).trans this
  have r0 : W3.heap[g]? = some (.cells #[.slice none 0 0, .int .i64 (-1)] 46 (0, 0)) := by
    rw [hW3, hg]
    exact (Below.heap_alloc _ _ _ (by simp; omega)).trans ((Below.heap_alloc _ _ _ (by simp)).trans (heap_alloc_new w _))
  have hbW : Below g w W3 := by rw [hW3, hg]; exact (((Below.refl _ _).alloc (Nat.le_refl _) _).alloc (by simp) _).alloc (by simp; omega) _
  have hpb : p < g ∧ b < g := by rw [hg]; exact h.lt
  have hdW : DiskIs W3 p b n M (-1) := h.below hbW hpb.1 hpb.2
  have HBW := hid2 hbW
  have HW3 := hid2 hW3
  have HG := hid2 hg
  clear hW3 hg h hbW
  go_enter Try.func26, Try.ntmps26
  go_wp2_with (first
    | (go_at_call 16; rw [← HW3.out, ← HG.out]; refine (append_at _ p b n M (-1) hdW nm dt rfl rfl hn3 hd3 hfl hnB (by omega) rfl rfl (begin_left M _ _ _)).mono ?_; rintro e w3 ⟨rfl, hd3', hb3⟩; have k0 := (hb3.block (g) (show g < W3.heap.size by omega) (show g ≠ p by omega) (show g ≠ b by omega)).trans r0; have k1 := (hb3.block (g + 1) (show g + 1 < W3.heap.size by omega) (show g + 1 ≠ p by omega) (show g + 1 ≠ b by omega)).trans r1; have k2 := (hb3.block (g + 1 + 1) (show g + 1 + 1 < W3.heap.size by omega) (show g + 1 + 1 ≠ p by omega) (show g + 1 + 1 ≠ b by omega)).trans r2; have hz3 : g + 3 ≤ w3.heap.size := (by have := hb3.size; omega); have cy0a : w3.cell? ⟨g + 1, 0, none⟩ = some (.int .i64 0) := (cell_of_row w3 _ 0 _ _ _ k1).trans rfl; have cy1a : w3.cell? ⟨g + 1, 1, none⟩ = some (.int .i64 an) := (cell_of_row w3 _ 1 _ _ _ k1).trans rfl; have cy2a : w3.cell? ⟨g + 1, 2, none⟩ = some (.string nm) := (cell_of_row w3 _ 2 _ _ _ k1).trans rfl; have cy3a : w3.cell? ⟨g + 1, 3, none⟩ = some (.string to) := (cell_of_row w3 _ 3 _ _ _ k1).trans rfl; have cy4a : w3.cell? ⟨g + 1, 4, none⟩ = some (.string dt) := (cell_of_row w3 _ 4 _ _ _ k1).trans rfl; have cy5a : w3.cell? ⟨g + 1, 5, none⟩ = some (.slice pa pn pc) := (cell_of_row w3 _ 5 _ _ _ k1).trans rfl; have cx0a : w3.cell? ⟨g, 0, none⟩ = some (.slice none 0 0) := (cell_of_row w3 _ 0 _ _ _ k0).trans rfl; have cx1a : w3.cell? ⟨g, 1, none⟩ = some (.int .i64 (-1)) := (cell_of_row w3 _ 1 _ _ _ k0).trans rfl; have HD3 := hid2 hd3'; have HB3 := hid2 hb3; have K2 := hid2 k2; clear hd3' hb3 k0 k1 k2 r0 r1 r2 hdW)
    | (go_at_call 57; refine (append07e_any _ nm dt hdz).mono ?_; rintro e w4 ⟨Ar, nr, cr, v, rfl, hb4⟩; have k2 := (hb4.block (g + 1 + 1) (show g + 1 + 1 < w3.heap.size by omega)).trans K2.out; have hz4 : g + 3 ≤ w4.heap.size := Nat.le_trans hz3 hb4.size; have K4 := hid2 k2; have HB4 := hid2 hb4; clear k2 hb4))
  obtain ⟨G, hG⟩ : ∃ G, G = w4.heap.size := ⟨_, rfl⟩
  obtain ⟨W, hW⟩ : ∃ W, W = w4.alloc (.cells #[(.slice Ar nr cr), (.int .i64 (-1))] 46) := ⟨_, rfl⟩
  rw [← hW, ← hG]
  have q1 : W.heap[G]? = some (.cells #[(.slice Ar nr cr), (.int .i64 (-1))] 46 (0, 0)) := by rw [hW, hG]; exact heap_alloc_new _ _
  have q2 : W.heap[g + 1 + 1]? = some (.cells #[.slice none 0 0, .int .i64 0] 46 (0, 0)) := by rw [hW]; exact (Below.heap_alloc _ _ _ (by omega)).trans K4.out
  have hbx : Below g w3 W := by rw [hW]; exact (HB4.out.mono (by omega)).alloc (by omega) _
  have d0 : W.cell? ⟨G, 0, none⟩ = some (.slice Ar nr cr) := (cell_of_row W _ 0 _ _ _ q1).trans rfl
  have d1 : W.cell? ⟨G, 1, none⟩ = some (.int .i64 (-1)) := (cell_of_row W _ 1 _ _ _ q1).trans rfl
  have cz0 : W.cell? ⟨g + 1 + 1, 0, none⟩ = some (.slice none 0 0) := (cell_of_row W _ 0 _ _ _ q2).trans rfl
  have cz1 : W.cell? ⟨g + 1 + 1, 1, none⟩ = some (.int .i64 0) := (cell_of_row W _ 1 _ _ _ q2).trans rfl
  have f0 : W.frozen? ⟨g + 1 + 1, 0, none⟩ = false := frozen_of_row W _ 0 _ _ q2
  have f1 : W.frozen? ⟨g + 1 + 1, 1, none⟩ = false := frozen_of_row W _ 1 _ _ q2
  have HBX := hid2 hbx
  clear hW hG q1 q2 hbx
  go_still_tail 5, (by kernel_rfl)
  change wpList _ _ _ _ _ W.drew
  go_wp2_with fail
  refine bodyPost_ret (v := .tuple #[.int .i64 (beginE M (-1) false [strB nm.data.toList] nm.data.toList), .int .i64 v, .agg #[(.slice Ar nr cr), .int .i64 (-1)]]) ?_ rfl ⟨_, rfl, HD3.out.below (HBX.out.drew.setCell (show g ≤ g + 1 + 1 by omega) _ |>.setCell (show g ≤ g + 1 + 1 by omega) _) hpb.1 hpb.2, But.of_three HBW.out HG.out.symm HB3.out (HBX.out.drew.setCell (show g ≤ g + 1 + 1 by omega) _ |>.setCell (show g ≤ g + 1 + 1 by omega) _) (by omega)⟩
  simp [results, Try.results26, go_sem, cz0, cz1]
  try rfl
set_option maxRecDepth 100000 in
set_option maxHeartbeats 2000000 in
theorem do_sync (w : World) (p b n : Nat) (M : Tab FileE) (h : DiskIs w p b n M (-1)) (an : Int) (nm to dt : ByteArray) (pa : Option Addr) (pn pc : Nat) (hn3 : nm.data.toList.length ≤ 1000000000) (_ : dt.data.toList.length ≤ 1000000000) (_ : nm.size ≤ 1000000000) (_ : to.size ≤ 1000000000) (_ : dt.size ≤ 1000000000) (hfl : (fileOf M nm.data.toList).1.length ≤ 1000000000) (hnB : n < 1000000000) :
    Calls Try.prog 26 #[.pointer (some ⟨p, 0, none⟩), .agg #[.slice none 0 0, .int .i64 (-1)], .agg #[.int .i64 1, .int .i64 an, .string nm, .string to, .string dt, .slice pa pn pc]] w fun e w' => ∃ v, e = .returned v ∧ DiskIs w' p b (n + 1) (syncM M (-1) nm.data.toList) (-1) ∧ But p b w w' := by
  obtain ⟨g, hg⟩ : ∃ g, g = w.heap.size := ⟨_, rfl⟩
  obtain ⟨W3, hW3⟩ : ∃ W3, W3 = ((w.alloc (.cells #[.slice none 0 0, .int .i64 (-1)] 46)).alloc (.cells #[.int .i64 1, .int .i64 an, .string nm, .string to, .string dt, .slice pa pn pc] 39)).alloc (.cells #[.slice none 0 0, .int .i64 0] 46) := ⟨_, rfl⟩
  have z3 : W3.heap.size = g + 3 := by rw [hW3, hg]; simp
  have r2 : W3.heap[g + 1 + 1]? = some (.cells #[.slice none 0 0, .int .i64 0] 46 (0, 0)) := by
    rw [hW3, hg]
    have := heap_alloc_new ((w.alloc (.cells #[.slice none 0 0, .int .i64 (-1)] 46)).alloc (.cells #[.int .i64 1, .int .i64 an, .string nm, .string to, .string dt, .slice pa pn pc] 39)) (.cells #[.slice none 0 0, .int .i64 0] 46)
    rw [World.size_alloc, World.size_alloc] at this
    exact this
  have r1 : W3.heap[g + 1]? = some (.cells #[.int .i64 1, .int .i64 an, .string nm, .string to, .string dt, .slice pa pn pc] 39 (0, 0)) := by
    rw [hW3, hg]
    have := heap_alloc_new (w.alloc (.cells #[.slice none 0 0, .int .i64 (-1)] 46)) (.cells #[.int .i64 1, .int .i64 an, .string nm, .string to, .string dt, .slice pa pn pc] 39)
    rw [World.size_alloc] at this
    exact (Below.heap_alloc _ _ _ (by simp)).trans this
  have r0 : W3.heap[g]? = some (.cells #[.slice none 0 0, .int .i64 (-1)] 46 (0, 0)) := by
    rw [hW3, hg]
    exact (Below.heap_alloc _ _ _ (by simp; omega)).trans ((Below.heap_alloc _ _ _ (by simp)).trans (heap_alloc_new w _))
  have hbW : Below g w W3 := by rw [hW3, hg]; exact (((Below.refl _ _).alloc (Nat.le_refl _) _).alloc (by simp) _).alloc (by simp; omega) _
  have hpb : p < g ∧ b < g := by rw [hg]; exact h.lt
  have hdW : DiskIs W3 p b n M (-1) := h.below hbW hpb.1 hpb.2
  have HBW := hid2 hbW
  have HW3 := hid2 hW3
  have HG := hid2 hg
  clear hW3 hg h hbW
  go_enter Try.func26, Try.ntmps26
  go_wp2_with (first
    | (go_at_call 17; rw [← HW3.out, ← HG.out]; refine (sync_at _ p b n M (-1) hdW nm rfl hn3 hfl hnB (by omega) rfl rfl (begin_left M _ _ _)).mono ?_; rintro e w3 ⟨rfl, hd3', hb3⟩; have k0 := (hb3.block (g) (show g < W3.heap.size by omega) (show g ≠ p by omega) (show g ≠ b by omega)).trans r0; have k1 := (hb3.block (g + 1) (show g + 1 < W3.heap.size by omega) (show g + 1 ≠ p by omega) (show g + 1 ≠ b by omega)).trans r1; have k2 := (hb3.block (g + 1 + 1) (show g + 1 + 1 < W3.heap.size by omega) (show g + 1 + 1 ≠ p by omega) (show g + 1 + 1 ≠ b by omega)).trans r2; have hz3 : g + 3 ≤ w3.heap.size := (by have := hb3.size; omega); have cy0a : w3.cell? ⟨g + 1, 0, none⟩ = some (.int .i64 1) := (cell_of_row w3 _ 0 _ _ _ k1).trans rfl; have cy1a : w3.cell? ⟨g + 1, 1, none⟩ = some (.int .i64 an) := (cell_of_row w3 _ 1 _ _ _ k1).trans rfl; have cy2a : w3.cell? ⟨g + 1, 2, none⟩ = some (.string nm) := (cell_of_row w3 _ 2 _ _ _ k1).trans rfl; have cy3a : w3.cell? ⟨g + 1, 3, none⟩ = some (.string to) := (cell_of_row w3 _ 3 _ _ _ k1).trans rfl; have cy4a : w3.cell? ⟨g + 1, 4, none⟩ = some (.string dt) := (cell_of_row w3 _ 4 _ _ _ k1).trans rfl; have cy5a : w3.cell? ⟨g + 1, 5, none⟩ = some (.slice pa pn pc) := (cell_of_row w3 _ 5 _ _ _ k1).trans rfl; have cx0a : w3.cell? ⟨g, 0, none⟩ = some (.slice none 0 0) := (cell_of_row w3 _ 0 _ _ _ k0).trans rfl; have cx1a : w3.cell? ⟨g, 1, none⟩ = some (.int .i64 (-1)) := (cell_of_row w3 _ 1 _ _ _ k0).trans rfl; have HD3 := hid2 hd3'; have HB3 := hid2 hb3; have K2 := hid2 k2; clear hd3' hb3 k0 k1 k2 r0 r1 r2 hdW)
    | (go_at_call 58; refine (sync07e_any _ nm).mono ?_; rintro e w4 ⟨v, rfl, hb4⟩; have k2 := (hb4.block (g + 1 + 1) (show g + 1 + 1 < w3.heap.size by omega)).trans K2.out; have hz4 : g + 3 ≤ w4.heap.size := Nat.le_trans hz3 hb4.size; have K4 := hid2 k2; have HB4 := hid2 hb4; clear k2 hb4))
  obtain ⟨G, hG⟩ : ∃ G, G = w4.heap.size := ⟨_, rfl⟩
  obtain ⟨W, hW⟩ : ∃ W, W = w4.alloc (.cells #[(.slice none 0 0), (.int .i64 (-1))] 46) := ⟨_, rfl⟩
  rw [← hW, ← hG]
  have q1 : W.heap[G]? = some (.cells #[(.slice none 0 0), (.int .i64 (-1))] 46 (0, 0)) := by rw [hW, hG]; exact heap_alloc_new _ _
  have q2 : W.heap[g + 1 + 1]? = some (.cells #[.slice none 0 0, .int .i64 0] 46 (0, 0)) := by rw [hW]; exact (Below.heap_alloc _ _ _ (by omega)).trans K4.out
  have hbx : Below g w3 W := by rw [hW]; exact (HB4.out.mono (by omega)).alloc (by omega) _
  have d0 : W.cell? ⟨G, 0, none⟩ = some (.slice none 0 0) := (cell_of_row W _ 0 _ _ _ q1).trans rfl
  have d1 : W.cell? ⟨G, 1, none⟩ = some (.int .i64 (-1)) := (cell_of_row W _ 1 _ _ _ q1).trans rfl
  have cz0 : W.cell? ⟨g + 1 + 1, 0, none⟩ = some (.slice none 0 0) := (cell_of_row W _ 0 _ _ _ q2).trans rfl
  have cz1 : W.cell? ⟨g + 1 + 1, 1, none⟩ = some (.int .i64 0) := (cell_of_row W _ 1 _ _ _ q2).trans rfl
  have f0 : W.frozen? ⟨g + 1 + 1, 0, none⟩ = false := frozen_of_row W _ 0 _ _ q2
  have f1 : W.frozen? ⟨g + 1 + 1, 1, none⟩ = false := frozen_of_row W _ 1 _ _ q2
  have HBX := hid2 hbx
  clear hW hG q1 q2 hbx
  go_still_tail 5, (by kernel_rfl)
  change wpList _ _ _ _ _ W.drew
  go_wp2_with fail
  refine bodyPost_ret (v := .tuple #[.int .i64 (beginE M (-1) true [strB nm.data.toList] nm.data.toList), .int .i64 v, .agg #[(.slice none 0 0), .int .i64 (-1)]]) ?_ rfl ⟨_, rfl, HD3.out.below (HBX.out.drew.setCell (show g ≤ g + 1 + 1 by omega) _ |>.setCell (show g ≤ g + 1 + 1 by omega) _) hpb.1 hpb.2, But.of_three HBW.out HG.out.symm HB3.out (HBX.out.drew.setCell (show g ≤ g + 1 + 1 by omega) _ |>.setCell (show g ≤ g + 1 + 1 by omega) _) (by omega)⟩
  simp [results, Try.results26, go_sem, cz0, cz1]
  try rfl
set_option maxRecDepth 100000 in
set_option maxHeartbeats 2000000 in
theorem do_ren (w : World) (p b n : Nat) (M : Tab FileE) (h : DiskIs w p b n M (-1)) (an : Int) (nm to dt : ByteArray) (pa : Option Addr) (pn pc : Nat) (_ : nm.data.toList.length ≤ 1000000000) (_ : dt.data.toList.length ≤ 1000000000) (hnz : nm.size ≤ 1000000000) (htz : to.size ≤ 1000000000) (_ : dt.size ≤ 1000000000) (_ : (fileOf M nm.data.toList).1.length ≤ 1000000000) (hnB : n < 1000000000) :
    Calls Try.prog 26 #[.pointer (some ⟨p, 0, none⟩), .agg #[.slice none 0 0, .int .i64 (-1)], .agg #[.int .i64 2, .int .i64 an, .string nm, .string to, .string dt, .slice pa pn pc]] w fun e w' => ∃ v, e = .returned v ∧ DiskIs w' p b (n + 1) (renM M (-1) nm.data.toList to.data.toList) (-1) ∧ But p b w w' := by
  obtain ⟨g, hg⟩ : ∃ g, g = w.heap.size := ⟨_, rfl⟩
  obtain ⟨W3, hW3⟩ : ∃ W3, W3 = ((w.alloc (.cells #[.slice none 0 0, .int .i64 (-1)] 46)).alloc (.cells #[.int .i64 2, .int .i64 an, .string nm, .string to, .string dt, .slice pa pn pc] 39)).alloc (.cells #[.slice none 0 0, .int .i64 0] 46) := ⟨_, rfl⟩
  have z3 : W3.heap.size = g + 3 := by rw [hW3, hg]; simp
  have r2 : W3.heap[g + 1 + 1]? = some (.cells #[.slice none 0 0, .int .i64 0] 46 (0, 0)) := by
    rw [hW3, hg]
    have := heap_alloc_new ((w.alloc (.cells #[.slice none 0 0, .int .i64 (-1)] 46)).alloc (.cells #[.int .i64 2, .int .i64 an, .string nm, .string to, .string dt, .slice pa pn pc] 39)) (.cells #[.slice none 0 0, .int .i64 0] 46)
    rw [World.size_alloc, World.size_alloc] at this
    exact this
  have r1 : W3.heap[g + 1]? = some (.cells #[.int .i64 2, .int .i64 an, .string nm, .string to, .string dt, .slice pa pn pc] 39 (0, 0)) := by
    rw [hW3, hg]
    have := heap_alloc_new (w.alloc (.cells #[.slice none 0 0, .int .i64 (-1)] 46)) (.cells #[.int .i64 2, .int .i64 an, .string nm, .string to, .string dt, .slice pa pn pc] 39)
    rw [World.size_alloc] at this
    exact (Below.heap_alloc _ _ _ (by simp)).trans this
  have r0 : W3.heap[g]? = some (.cells #[.slice none 0 0, .int .i64 (-1)] 46 (0, 0)) := by
    rw [hW3, hg]
    exact (Below.heap_alloc _ _ _ (by simp; omega)).trans ((Below.heap_alloc _ _ _ (by simp)).trans (heap_alloc_new w _))
  have hbW : Below g w W3 := by rw [hW3, hg]; exact (((Below.refl _ _).alloc (Nat.le_refl _) _).alloc (by simp) _).alloc (by simp; omega) _
  have hpb : p < g ∧ b < g := by rw [hg]; exact h.lt
  have hdW : DiskIs W3 p b n M (-1) := h.below hbW hpb.1 hpb.2
  have HBW := hid2 hbW
  have HW3 := hid2 hW3
  have HG := hid2 hg
  clear hW3 hg h hbW
  go_enter Try.func26, Try.ntmps26
  go_wp2_with (first
    | (go_at_call 59; rw [← HW3.out, ← HG.out]; refine (rename_any _ p b n M (-1) hdW nm to hnz htz hnB (by omega)).mono ?_; rintro e w3 ⟨rfl, hd3', hb3⟩; rw [begin_left] at hd3'; have k0 := (hb3.block (g) (show g < W3.heap.size by omega) (show g ≠ p by omega) (show g ≠ b by omega)).trans r0; have k1 := (hb3.block (g + 1) (show g + 1 < W3.heap.size by omega) (show g + 1 ≠ p by omega) (show g + 1 ≠ b by omega)).trans r1; have k2 := (hb3.block (g + 1 + 1) (show g + 1 + 1 < W3.heap.size by omega) (show g + 1 + 1 ≠ p by omega) (show g + 1 + 1 ≠ b by omega)).trans r2; have hz3 : g + 3 ≤ w3.heap.size := (by have := hb3.size; omega); have cy0a : w3.cell? ⟨g + 1, 0, none⟩ = some (.int .i64 2) := (cell_of_row w3 _ 0 _ _ _ k1).trans rfl; have cy1a : w3.cell? ⟨g + 1, 1, none⟩ = some (.int .i64 an) := (cell_of_row w3 _ 1 _ _ _ k1).trans rfl; have cy2a : w3.cell? ⟨g + 1, 2, none⟩ = some (.string nm) := (cell_of_row w3 _ 2 _ _ _ k1).trans rfl; have cy3a : w3.cell? ⟨g + 1, 3, none⟩ = some (.string to) := (cell_of_row w3 _ 3 _ _ _ k1).trans rfl; have cy4a : w3.cell? ⟨g + 1, 4, none⟩ = some (.string dt) := (cell_of_row w3 _ 4 _ _ _ k1).trans rfl; have cy5a : w3.cell? ⟨g + 1, 5, none⟩ = some (.slice pa pn pc) := (cell_of_row w3 _ 5 _ _ _ k1).trans rfl; have cx0a : w3.cell? ⟨g, 0, none⟩ = some (.slice none 0 0) := (cell_of_row w3 _ 0 _ _ _ k0).trans rfl; have cx1a : w3.cell? ⟨g, 1, none⟩ = some (.int .i64 (-1)) := (cell_of_row w3 _ 1 _ _ _ k0).trans rfl; have HD3 := hid2 hd3'; have HB3 := hid2 hb3; have K2 := hid2 k2; clear hd3' hb3 k0 k1 k2 r0 r1 r2 hdW)
    | (go_at_call 60; refine (rename07e_any _ nm to).mono ?_; rintro e w4 ⟨v, rfl, hb4⟩; have k2 := (hb4.block (g + 1 + 1) (show g + 1 + 1 < w3.heap.size by omega)).trans K2.out; have hz4 : g + 3 ≤ w4.heap.size := Nat.le_trans hz3 hb4.size; have K4 := hid2 k2; have HB4 := hid2 hb4; clear k2 hb4))
  obtain ⟨G, hG⟩ : ∃ G, G = w4.heap.size := ⟨_, rfl⟩
  obtain ⟨W, hW⟩ : ∃ W, W = w4.alloc (.cells #[(.slice none 0 0), (.int .i64 (-1))] 46) := ⟨_, rfl⟩
  rw [← hW, ← hG]
  have q1 : W.heap[G]? = some (.cells #[(.slice none 0 0), (.int .i64 (-1))] 46 (0, 0)) := by rw [hW, hG]; exact heap_alloc_new _ _
  have q2 : W.heap[g + 1 + 1]? = some (.cells #[.slice none 0 0, .int .i64 0] 46 (0, 0)) := by rw [hW]; exact (Below.heap_alloc _ _ _ (by omega)).trans K4.out
  have hbx : Below g w3 W := by rw [hW]; exact (HB4.out.mono (by omega)).alloc (by omega) _
  have d0 : W.cell? ⟨G, 0, none⟩ = some (.slice none 0 0) := (cell_of_row W _ 0 _ _ _ q1).trans rfl
  have d1 : W.cell? ⟨G, 1, none⟩ = some (.int .i64 (-1)) := (cell_of_row W _ 1 _ _ _ q1).trans rfl
  have cz0 : W.cell? ⟨g + 1 + 1, 0, none⟩ = some (.slice none 0 0) := (cell_of_row W _ 0 _ _ _ q2).trans rfl
  have cz1 : W.cell? ⟨g + 1 + 1, 1, none⟩ = some (.int .i64 0) := (cell_of_row W _ 1 _ _ _ q2).trans rfl
  have f0 : W.frozen? ⟨g + 1 + 1, 0, none⟩ = false := frozen_of_row W _ 0 _ _ q2
  have f1 : W.frozen? ⟨g + 1 + 1, 1, none⟩ = false := frozen_of_row W _ 1 _ _ q2
  have HBX := hid2 hbx
  clear hW hG q1 q2 hbx
  go_still_tail 5, (by kernel_rfl)
  change wpList _ _ _ _ _ W.drew
  go_wp2_with fail
  refine bodyPost_ret (v := .tuple #[.int .i64 (beginE M (-1) true [strB nm.data.toList, strB to.data.toList] nm.data.toList), .int .i64 v, .agg #[(.slice none 0 0), .int .i64 (-1)]]) ?_ rfl ⟨_, rfl, HD3.out.below (HBX.out.drew.setCell (show g ≤ g + 1 + 1 by omega) _ |>.setCell (show g ≤ g + 1 + 1 by omega) _) hpb.1 hpb.2, But.of_three HBW.out HG.out.symm HB3.out (HBX.out.drew.setCell (show g ≤ g + 1 + 1 by omega) _ |>.setCell (show g ≤ g + 1 + 1 by omega) _) (by omega)⟩
  simp [results, Try.results26, go_sem, cz0, cz1]
  try rfl
set_option maxRecDepth 100000 in
set_option maxHeartbeats 2000000 in
theorem do_rem (w : World) (p b n : Nat) (M : Tab FileE) (h : DiskIs w p b n M (-1)) (an : Int) (nm to dt : ByteArray) (pa : Option Addr) (pn pc : Nat) (hn3 : nm.data.toList.length ≤ 1000000000) (_ : dt.data.toList.length ≤ 1000000000) (_ : nm.size ≤ 1000000000) (_ : to.size ≤ 1000000000) (_ : dt.size ≤ 1000000000) (_ : (fileOf M nm.data.toList).1.length ≤ 1000000000) (_ : n < 1000000000) :
    Calls Try.prog 26 #[.pointer (some ⟨p, 0, none⟩), .agg #[.slice none 0 0, .int .i64 (-1)], .agg #[.int .i64 3, .int .i64 an, .string nm, .string to, .string dt, .slice pa pn pc]] w fun e w' => ∃ v, e = .returned v ∧ DiskIs w' p b (n + 1) (remM M (-1) nm.data.toList) (-1) ∧ But p b w w' := by
  obtain ⟨g, hg⟩ : ∃ g, g = w.heap.size := ⟨_, rfl⟩
  obtain ⟨W3, hW3⟩ : ∃ W3, W3 = ((w.alloc (.cells #[.slice none 0 0, .int .i64 (-1)] 46)).alloc (.cells #[.int .i64 3, .int .i64 an, .string nm, .string to, .string dt, .slice pa pn pc] 39)).alloc (.cells #[.slice none 0 0, .int .i64 0] 46) := ⟨_, rfl⟩
  have z3 : W3.heap.size = g + 3 := by rw [hW3, hg]; simp
  have r2 : W3.heap[g + 1 + 1]? = some (.cells #[.slice none 0 0, .int .i64 0] 46 (0, 0)) := by
    rw [hW3, hg]
    have := heap_alloc_new ((w.alloc (.cells #[.slice none 0 0, .int .i64 (-1)] 46)).alloc (.cells #[.int .i64 3, .int .i64 an, .string nm, .string to, .string dt, .slice pa pn pc] 39)) (.cells #[.slice none 0 0, .int .i64 0] 46)
    rw [World.size_alloc, World.size_alloc] at this
    exact this
  have r1 : W3.heap[g + 1]? = some (.cells #[.int .i64 3, .int .i64 an, .string nm, .string to, .string dt, .slice pa pn pc] 39 (0, 0)) := by
    rw [hW3, hg]
    have := heap_alloc_new (w.alloc (.cells #[.slice none 0 0, .int .i64 (-1)] 46)) (.cells #[.int .i64 3, .int .i64 an, .string nm, .string to, .string dt, .slice pa pn pc] 39)
    rw [World.size_alloc] at this
    exact (Below.heap_alloc _ _ _ (by simp)).trans this
  have r0 : W3.heap[g]? = some (.cells #[.slice none 0 0, .int .i64 (-1)] 46 (0, 0)) := by
    rw [hW3, hg]
    exact (Below.heap_alloc _ _ _ (by simp; omega)).trans ((Below.heap_alloc _ _ _ (by simp)).trans (heap_alloc_new w _))
  have hbW : Below g w W3 := by rw [hW3, hg]; exact (((Below.refl _ _).alloc (Nat.le_refl _) _).alloc (by simp) _).alloc (by simp; omega) _
  have hpb : p < g ∧ b < g := by rw [hg]; exact h.lt
  have hdW : DiskIs W3 p b n M (-1) := h.below hbW hpb.1 hpb.2
  have HBW := hid2 hbW
  have HW3 := hid2 hW3
  have HG := hid2 hg
  clear hW3 hg h hbW
  go_enter Try.func26, Try.ntmps26
  go_wp2_with (first
    | (go_at_call 19; rw [← HW3.out, ← HG.out]; refine (remove_at _ p b n M (-1) hdW nm rfl hn3 (by omega) rfl rfl (begin_left M _ _ _)).mono ?_; rintro e w3 ⟨rfl, hd3', hb3⟩; have k0 := (hb3.block (g) (show g < W3.heap.size by omega) (show g ≠ p by omega) (show g ≠ b by omega)).trans r0; have k1 := (hb3.block (g + 1) (show g + 1 < W3.heap.size by omega) (show g + 1 ≠ p by omega) (show g + 1 ≠ b by omega)).trans r1; have k2 := (hb3.block (g + 1 + 1) (show g + 1 + 1 < W3.heap.size by omega) (show g + 1 + 1 ≠ p by omega) (show g + 1 + 1 ≠ b by omega)).trans r2; have hz3 : g + 3 ≤ w3.heap.size := (by have := hb3.size; omega); have cy0a : w3.cell? ⟨g + 1, 0, none⟩ = some (.int .i64 3) := (cell_of_row w3 _ 0 _ _ _ k1).trans rfl; have cy1a : w3.cell? ⟨g + 1, 1, none⟩ = some (.int .i64 an) := (cell_of_row w3 _ 1 _ _ _ k1).trans rfl; have cy2a : w3.cell? ⟨g + 1, 2, none⟩ = some (.string nm) := (cell_of_row w3 _ 2 _ _ _ k1).trans rfl; have cy3a : w3.cell? ⟨g + 1, 3, none⟩ = some (.string to) := (cell_of_row w3 _ 3 _ _ _ k1).trans rfl; have cy4a : w3.cell? ⟨g + 1, 4, none⟩ = some (.string dt) := (cell_of_row w3 _ 4 _ _ _ k1).trans rfl; have cy5a : w3.cell? ⟨g + 1, 5, none⟩ = some (.slice pa pn pc) := (cell_of_row w3 _ 5 _ _ _ k1).trans rfl; have cx0a : w3.cell? ⟨g, 0, none⟩ = some (.slice none 0 0) := (cell_of_row w3 _ 0 _ _ _ k0).trans rfl; have cx1a : w3.cell? ⟨g, 1, none⟩ = some (.int .i64 (-1)) := (cell_of_row w3 _ 1 _ _ _ k0).trans rfl; have HD3 := hid2 (hd3'.mono (Nat.le_succ n)); have HB3 := hid2 hb3; have K2 := hid2 k2; clear hd3' hb3 k0 k1 k2 r0 r1 r2 hdW)
    | (go_at_call 61; refine (remove07e_any _ nm).mono ?_; rintro e w4 ⟨v, rfl, hb4⟩; have k2 := (hb4.block (g + 1 + 1) (show g + 1 + 1 < w3.heap.size by omega)).trans K2.out; have hz4 : g + 3 ≤ w4.heap.size := Nat.le_trans hz3 hb4.size; have K4 := hid2 k2; have HB4 := hid2 hb4; clear k2 hb4))
  obtain ⟨G, hG⟩ : ∃ G, G = w4.heap.size := ⟨_, rfl⟩
  obtain ⟨W, hW⟩ : ∃ W, W = w4.alloc (.cells #[(.slice none 0 0), (.int .i64 (-1))] 46) := ⟨_, rfl⟩
  rw [← hW, ← hG]
  have q1 : W.heap[G]? = some (.cells #[(.slice none 0 0), (.int .i64 (-1))] 46 (0, 0)) := by rw [hW, hG]; exact heap_alloc_new _ _
  have q2 : W.heap[g + 1 + 1]? = some (.cells #[.slice none 0 0, .int .i64 0] 46 (0, 0)) := by rw [hW]; exact (Below.heap_alloc _ _ _ (by omega)).trans K4.out
  have hbx : Below g w3 W := by rw [hW]; exact (HB4.out.mono (by omega)).alloc (by omega) _
  have d0 : W.cell? ⟨G, 0, none⟩ = some (.slice none 0 0) := (cell_of_row W _ 0 _ _ _ q1).trans rfl
  have d1 : W.cell? ⟨G, 1, none⟩ = some (.int .i64 (-1)) := (cell_of_row W _ 1 _ _ _ q1).trans rfl
  have cz0 : W.cell? ⟨g + 1 + 1, 0, none⟩ = some (.slice none 0 0) := (cell_of_row W _ 0 _ _ _ q2).trans rfl
  have cz1 : W.cell? ⟨g + 1 + 1, 1, none⟩ = some (.int .i64 0) := (cell_of_row W _ 1 _ _ _ q2).trans rfl
  have f0 : W.frozen? ⟨g + 1 + 1, 0, none⟩ = false := frozen_of_row W _ 0 _ _ q2
  have f1 : W.frozen? ⟨g + 1 + 1, 1, none⟩ = false := frozen_of_row W _ 1 _ _ q2
  have HBX := hid2 hbx
  clear hW hG q1 q2 hbx
  go_still_tail 5, (by kernel_rfl)
  change wpList _ _ _ _ _ W.drew
  go_wp2_with fail
  refine bodyPost_ret (v := .tuple #[.int .i64 (beginE M (-1) true [strB nm.data.toList] nm.data.toList), .int .i64 v, .agg #[(.slice none 0 0), .int .i64 (-1)]]) ?_ rfl ⟨_, rfl, HD3.out.below (HBX.out.drew.setCell (show g ≤ g + 1 + 1 by omega) _ |>.setCell (show g ≤ g + 1 + 1 by omega) _) hpb.1 hpb.2, But.of_three HBW.out HG.out.symm HB3.out (HBX.out.drew.setCell (show g ≤ g + 1 + 1 by omega) _ |>.setCell (show g ≤ g + 1 + 1 by omega) _) (by omega)⟩
  simp [results, Try.results26, go_sem, cz0, cz1]
  try rfl
set_option maxRecDepth 100000 in
set_option maxHeartbeats 2000000 in
theorem do_other (w : World) (p b n : Nat) (M : Tab FileE) (h : DiskIs w p b n M (-1)) (ak : Int) (an : Int) (nm to dt : ByteArray) (pa : Option Addr) (pn pc : Nat) (k0 : ¬ ak = 0) (k1 : ¬ ak = 1) (k2 : ¬ ak = 2) (k3 : ¬ ak = 3) (k4 : ¬ ak = 4) (_ : nm.data.toList.length ≤ 1000000000) (_ : dt.data.toList.length ≤ 1000000000) (_ : nm.size ≤ 1000000000) (_ : to.size ≤ 1000000000) (_ : dt.size ≤ 1000000000) (_ : (fileOf M nm.data.toList).1.length ≤ 1000000000) (_ : n < 1000000000) :
    Calls Try.prog 26 #[.pointer (some ⟨p, 0, none⟩), .agg #[.slice none 0 0, .int .i64 (-1)], .agg #[.int .i64 ak, .int .i64 an, .string nm, .string to, .string dt, .slice pa pn pc]] w fun e w' => ∃ v, e = .returned v ∧ DiskIs w' p b (n + 1) (M) (-1) ∧ But p b w w' := by
  obtain ⟨g, hg⟩ : ∃ g, g = w.heap.size := ⟨_, rfl⟩
  obtain ⟨W3, hW3⟩ : ∃ W3, W3 = ((w.alloc (.cells #[.slice none 0 0, .int .i64 (-1)] 46)).alloc (.cells #[.int .i64 ak, .int .i64 an, .string nm, .string to, .string dt, .slice pa pn pc] 39)).alloc (.cells #[.slice none 0 0, .int .i64 0] 46) := ⟨_, rfl⟩
  have z3 : W3.heap.size = g + 3 := by rw [hW3, hg]; simp
  have r2 : W3.heap[g + 1 + 1]? = some (.cells #[.slice none 0 0, .int .i64 0] 46 (0, 0)) := by
    rw [hW3, hg]
    have := heap_alloc_new ((w.alloc (.cells #[.slice none 0 0, .int .i64 (-1)] 46)).alloc (.cells #[.int .i64 ak, .int .i64 an, .string nm, .string to, .string dt, .slice pa pn pc] 39)) (.cells #[.slice none 0 0, .int .i64 0] 46)
    rw [World.size_alloc, World.size_alloc] at this
    exact this
  have r1 : W3.heap[g + 1]? = some (.cells #[.int .i64 ak, .int .i64 an, .string nm, .string to, .string dt, .slice pa pn pc] 39 (0, 0)) := by
    rw [hW3, hg]
    have := heap_alloc_new (w.alloc (.cells #[.slice none 0 0, .int .i64 (-1)] 46)) (.cells #[.int .i64 ak, .int .i64 an, .string nm, .string to, .string dt, .slice pa pn pc] 39)
    rw [World.size_alloc] at this
    exact (Below.heap_alloc _ _ _ (by simp)).trans this
  have r0 : W3.heap[g]? = some (.cells #[.slice none 0 0, .int .i64 (-1)] 46 (0, 0)) := by
    rw [hW3, hg]
    exact (Below.heap_alloc _ _ _ (by simp; omega)).trans ((Below.heap_alloc _ _ _ (by simp)).trans (heap_alloc_new w _))
  have hbW : Below g w W3 := by rw [hW3, hg]; exact (((Below.refl _ _).alloc (Nat.le_refl _) _).alloc (by simp) _).alloc (by simp; omega) _
  have hpb : p < g ∧ b < g := by rw [hg]; exact h.lt
  have hdW : DiskIs W3 p b n M (-1) := h.below hbW hpb.1 hpb.2
  have HBW := hid2 hbW
  have HW3 := hid2 hW3
  have HG := hid2 hg
  clear hW3 hg h hbW
  go_enter Try.func26, Try.ntmps26
  have hb3 : But p b W3 W3 := But.refl _ _ _
  have HD3 := hid2 (hdW.mono (Nat.le_succ n))
  have HB3 := hid2 hb3
  have HBX := hid2 (Below.refl g W3)
  have cy0 : W3.cell? ⟨g + 1, 0, none⟩ = some (.int .i64 ak) := (cell_of_row W3 _ 0 _ _ _ r1).trans rfl
  have cy1 : W3.cell? ⟨g + 1, 1, none⟩ = some (.int .i64 an) := (cell_of_row W3 _ 1 _ _ _ r1).trans rfl
  have cy2 : W3.cell? ⟨g + 1, 2, none⟩ = some (.string nm) := (cell_of_row W3 _ 2 _ _ _ r1).trans rfl
  have cy3 : W3.cell? ⟨g + 1, 3, none⟩ = some (.string to) := (cell_of_row W3 _ 3 _ _ _ r1).trans rfl
  have cy4 : W3.cell? ⟨g + 1, 4, none⟩ = some (.string dt) := (cell_of_row W3 _ 4 _ _ _ r1).trans rfl
  have cy5 : W3.cell? ⟨g + 1, 5, none⟩ = some (.slice pa pn pc) := (cell_of_row W3 _ 5 _ _ _ r1).trans rfl
  have cx0 : W3.cell? ⟨g, 0, none⟩ = some (.slice none 0 0) := (cell_of_row W3 _ 0 _ _ _ r0).trans rfl
  have cx1 : W3.cell? ⟨g, 1, none⟩ = some (.int .i64 (-1)) := (cell_of_row W3 _ 1 _ _ _ r0).trans rfl
  have cz0 : W3.cell? ⟨g + 1 + 1, 0, none⟩ = some (.slice none 0 0) := (cell_of_row W3 _ 0 _ _ _ r2).trans rfl
  have cz1 : W3.cell? ⟨g + 1 + 1, 1, none⟩ = some (.int .i64 0) := (cell_of_row W3 _ 1 _ _ _ r2).trans rfl
  have f0 : W3.frozen? ⟨g + 1 + 1, 0, none⟩ = false := frozen_of_row W3 _ 0 _ _ r2
  have f1 : W3.frozen? ⟨g + 1 + 1, 1, none⟩ = false := frozen_of_row W3 _ 1 _ _ r2
  clear hdW hb3 r0 r1 r2
  go_wp2_with fail
  rw [← HW3.out, ← HG.out]
  go_still_tail 3, (by kernel_rfl)
  change wpList _ _ _ _ _ W3.drew
  go_wp2_with fail
  refine bodyPost_ret (v := .tuple #[.int .i64 0, .int .i64 0, .agg #[.slice none 0 0, .int .i64 (-1)]]) ?_ rfl ⟨_, rfl, HD3.out.below (HBX.out.drew.setCell (show g ≤ g + 1 + 1 by omega) _ |>.setCell (show g ≤ g + 1 + 1 by omega) _) hpb.1 hpb.2, But.of_three HBW.out HG.out.symm HB3.out (HBX.out.drew.setCell (show g ≤ g + 1 + 1 by omega) _ |>.setCell (show g ≤ g + 1 + 1 by omega) _) (by omega)⟩
  simp [results, Try.results26, go_sem, cz0, cz1]
  try rfl
/-- an act of any kind but the budget's -/
theorem do_any (w : World) (p b n : Nat) (M : Tab FileE) (h : DiskIs w p b n M (-1)) (a : ActE) (h4 : a.kind ≠ 4) (hn3 : a.name.size ≤ 1000000000) (htz : a.to.size ≤ 1000000000) (hdz : a.data.size ≤ 1000000000) (hfl : (fileOf M a.name.data.toList).1.length ≤ 1000000000) (hnB : n < 1000000000) :
    Calls Try.prog 26 #[.pointer (some ⟨p, 0, none⟩), .agg #[.slice none 0 0, .int .i64 (-1)], .agg #[.int .i64 a.kind, .int .i64 a.n, .string a.name, .string a.to, .string a.data, .slice a.pa a.pn a.pc]] w fun e w' => ∃ v, e = .returned v ∧ DiskIs w' p b (n + 1) (doM M a) (-1) ∧ But p b w w' := by
  obtain ⟨ak, an, nm, to, dt, pa, pn, pc⟩ := a
  simp only at h4 hn3 htz hdz hfl
  have h1 : nm.data.toList.length ≤ 1000000000 := by rw [toList_length]; exact hn3
  have h2 : dt.data.toList.length ≤ 1000000000 := by rw [toList_length]; exact hdz
  unfold doM
  simp only
  by_cases k0 : ak = 0
  · subst k0; rw [if_pos rfl]; exact do_app w p b n M h an nm to dt pa pn pc h1 h2 hn3 htz hdz hfl hnB
  rw [if_neg k0]
  by_cases k1 : ak = 1
  · subst k1; rw [if_pos rfl]; exact do_sync w p b n M h an nm to dt pa pn pc h1 h2 hn3 htz hdz hfl hnB
  rw [if_neg k1]
  by_cases k2 : ak = 2
  · subst k2; rw [if_pos rfl]; exact do_ren w p b n M h an nm to dt pa pn pc h1 h2 hn3 htz hdz hfl hnB
  rw [if_neg k2]
  by_cases k3 : ak = 3
  · subst k3; rw [if_pos rfl]; exact do_rem w p b n M h an nm to dt pa pn pc h1 h2 hn3 htz hdz hfl hnB
  rw [if_neg k3]
  exact do_other w p b n M h ak an nm to dt pa pn pc k0 k1 k2 k3 h4 h1 h2 hn3 htz hdz hfl hnB
end Go.Proofs.Ytbighckpogfcaaa
