/- One act, beside the reference's, at any list of files. -/
import Derived.Test.YtbighckpogfcaaaDruns4
namespace Go.Proofs.Ytbighckpogfcaaa
open Go.RowKit Go.Maps
theorem Box.but {w w' : World} {g p b : Nat} {cs : List Value} (h : Box w g cs) (hb : But p b w w') (h1 : g ≠ p) (h2 : g ≠ b) : Box w' g cs := h.keep (hb.block g h.lt h1 h2)
theorem Rd.but {w w' : World} {p b sz n : Nat} {A : Option Addr} {xs : List Value} (h : Rd w sz A n xs) (hb : But p b w w') (h1 : ∀ g, blockOf A = some g → g ≠ p ∧ g ≠ b) : Rd w' sz A n xs := h.keep fun g o u hg hu => hb.cell hu (h1 g hg).1 (h1 g hg).2
theorem But.three {p b g : Nat} {w W3 w3 F : World} (h1 : Below g w W3) (hg : g = w.heap.size) (h2 : But p b W3 w3) (h3 : Below g w3 F) (hz : g ≤ W3.heap.size) : But p b w F :=
  ⟨h3.os.trans (h2.os.trans h1.os), h3.tape.trans (h2.tape.trans h1.tape), h3.output.trans (h2.output.trans h1.output), Nat.le_trans h1.size (Nat.le_trans h2.size h3.size),
    fun k hk hp hb => (h3.block k (by omega)).trans ((h2.block k (by omega) hp hb).trans (h1.block k (by omega)))⟩
/-- what an act answers, and leaves -/
def DoPost (w : World) (A : Option Addr) (p b n : Nat) (M' : Tab FileE) (L E : Int) (e : Ending) (w' : World) : Prop :=
  ∃ A' c', e = .returned (.tuple #[.int .i64 E, .int .i64 E, .agg #[.slice A' M'.length c', .int .i64 L]]) ∧ DiskIs w' p b n M' L ∧ Rd w' 3 A' M'.length (rfsV M') ∧ (∀ g, blockOf A' = some g → g < w'.heap.size ∧ g ≠ p ∧ g ≠ b ∧ (blockOf A = some g ∨ w.heap.size ≤ g)) ∧ But p b w w'
/-- a disk, and a list beside it -/
structure Side (w : World) (p b n : Nat) (M : Tab FileE) (left : Int) (A : Option Addr) : Prop where
  disk : DiskIs w p b n M left
  row : Rd w 3 A M.length (rfsV M)
  apart : ∀ g, blockOf A = some g → g < w.heap.size ∧ g ≠ p ∧ g ≠ b
theorem rd_block {w : World} {sz : Nat} {A : Option Addr} {n : Nat} {xs : List Value} (h : Rd w sz A n xs) (hx : 0 < xs.length) : ∃ g, blockOf A = some g ∧ g < w.heap.size := by
  obtain ⟨b, o, rfl, hc⟩ := h.cell hx
  exact ⟨b, rfl, World.block_lt_of_cell? _ _ hc⟩
theorem do_apart {w W3 w3 w4 F : World} {g p b : Nat} {A A4 : Option Addr} (hap : ∀ q, blockOf A = some q → q < w.heap.size ∧ q ≠ p ∧ q ≠ b) (hg : g = w.heap.size) (hbW : Below g w W3) (ha : ∀ q, blockOf A4 = some q → blockOf A = some q ∨ w3.heap.size ≤ q ∧ q < w4.heap.size) (hb3 : But p b W3 w3) (z3 : W3.heap.size = g + 3) (hpb : p < g ∧ b < g) (h4 : w3.heap.size ≤ w4.heap.size) (hF : w4.heap.size ≤ F.heap.size) :
    ∀ q, blockOf A4 = some q → q < F.heap.size ∧ q ≠ p ∧ q ≠ b ∧ q ≠ g + 1 + 1 ∧ (blockOf A = some q ∨ w.heap.size ≤ q) := fun q hq => by
  have h1 := hbW.size
  have h2 := hb3.size
  rcases ha q hq with h | ⟨h5, h6⟩
  · have := hap q h
    exact ⟨by omega, this.2.1, this.2.2, by omega, .inl h⟩
  · exact ⟨by omega, by omega, by omega, by omega, .inr (by omega)⟩
theorem do_apart0 {w W3 w3 F : World} {g p b : Nat} {A : Option Addr} (hap : ∀ q, blockOf A = some q → q < w.heap.size ∧ q ≠ p ∧ q ≠ b) (hg : g = w.heap.size) (hbW : Below g w W3) (hb3 : But p b W3 w3) (z3 : W3.heap.size = g + 3) (hF : w3.heap.size ≤ F.heap.size) :
    ∀ q, blockOf A = some q → q < F.heap.size ∧ q ≠ p ∧ q ≠ b ∧ q ≠ g + 1 + 1 ∧ (blockOf A = some q ∨ w.heap.size ≤ q) := fun q hq => by
  have h2 := hb3.size
  have := hap q hq
  exact ⟨by omega, this.2.1, this.2.2, by omega, .inl hq⟩
theorem do_end2 {w W3 w3 F : World} {g p b n N : Nat} {M : Tab FileE} {L E : Int} {A0 A : Option Addr} {c : Nat} {v1 v2 : Value} (hbW : Below g w W3) (hg : g = w.heap.size) (hb3 : But p b W3 w3) (hbF : Below w3.heap.size w3 F) (hd : DiskIs w3 p b n M L) (hpb : p < g ∧ b < g) (z3 : W3.heap.size = g + 3)
    (hr : Rd F 3 A N (rfsV M)) (hN : N = M.length) (hap : ∀ q, blockOf A = some q → q < F.heap.size ∧ q ≠ p ∧ q ≠ b ∧ q ≠ g + 1 + 1 ∧ (blockOf A0 = some q ∨ w.heap.size ≤ q)) : DoPost w A0 p b n M L E (.returned (.tuple #[.int .i64 E, .int .i64 E, .agg #[.slice A N c, .int .i64 L]])) ((F.setCell ⟨g + 1 + 1, 0, none⟩ v1).setCell ⟨g + 1 + 1, 1, none⟩ v2) := by
  subst hN
  have hz3 := hb3.size
  have hb1 : Below g w3 ((F.setCell ⟨g + 1 + 1, 0, none⟩ v1).setCell ⟨g + 1 + 1, 1, none⟩ v2) := ((hbF.mono (by omega)).setCell (p := ⟨g + 1 + 1, 0, none⟩) (show g ≤ g + 1 + 1 by omega) _).setCell (p := ⟨g + 1 + 1, 1, none⟩) (show g ≤ g + 1 + 1 by omega) _
  refine ⟨A, c, rfl, hd.below hb1 hpb.1 hpb.2, ?_, fun q hq => ⟨by rw [World.size_setCell, World.size_setCell]; exact (hap q hq).1, (hap q hq).2.1, (hap q hq).2.2.1, (hap q hq).2.2.2.2⟩, But.three hbW hg hb3 hb1 (by omega)⟩
  have keep : ∀ (w : World) (o : Nat) (v : Value), Rd w 3 A M.length (rfsV M) → Rd (w.setCell ⟨g + 1 + 1, o, none⟩ v) 3 A M.length (rfsV M) := fun w o v h => h.keep fun q o2 u hq hu => by
    rw [World.cell?_setCell_far _ _ _ _ (fun e => (hap q hq).2.2.2.1 e.symm)]
    exact hu
  exact keep _ _ _ (keep _ _ _ hr)
set_option maxRecDepth 100000 in
set_option maxHeartbeats 2000000 in
theorem do2_app (w : World) (p b n : Nat) (M : Tab FileE) (left : Int) (A : Option Addr) (c : Nat) (h : Side w p b n M left A) (hl : M.length ≤ 1000000) (hnB : n < 1000000000) (hle : -1 ≤ left ∧ left ≤ 9223372036854775807) (an : Int) (nm to dt : ByteArray) (pa : Option Addr) (pn pc : Nat) (hnz : nm.size ≤ 1000000000) (hdz : dt.size ≤ 1000000000) (hf : (fileOf M nm.data.toList).1.length ≤ 1000000000) :
    Calls Try.prog 26 #[.pointer (some ⟨p, 0, none⟩), .agg #[.slice A M.length c, .int .i64 left], .agg #[.int .i64 0, .int .i64 an, .string nm, .string to, .string dt, .slice pa pn pc]] w (DoPost w A p b (n + 1) (appM M left nm.data.toList dt.data.toList) (beginL M left false [strB nm.data.toList] nm.data.toList) (beginE M left false [strB nm.data.toList] nm.data.toList)) := by
  have hd := h.disk
  have hr := h.row
  have hap := h.apart
  have hlt := hd.lt
  have hri := MapIs.rises hd.2 (string_keyed Try.underlying9)
  obtain ⟨N, hN⟩ : ∃ N, N = M.length := ⟨_, rfl⟩
  obtain ⟨g, hg⟩ : ∃ g, g = w.heap.size := ⟨_, rfl⟩
  have hpb : p < g ∧ b < g := by rw [hg]; exact hlt
  have hA := fun (W : World) (hd : DiskIs W p b n M left) => append_at W p b n M left hd nm dt rfl rfl (by rw [toList_length]; exact hnz) (by rw [toList_length]; exact hdz) hf hnB hle rfl rfl rfl
  have hB := fun (W : World) (hr : Rd W 3 A M.length (rfsV M)) => append07m_any W A c M left hr hl hri hle nm dt hdz hf
  obtain ⟨M2, hM2⟩ : ∃ M2, M2 = appM M left nm.data.toList dt.data.toList := ⟨_, rfl⟩
  obtain ⟨L2, hL2⟩ : ∃ L2, L2 = beginL M left false [strB nm.data.toList] nm.data.toList := ⟨_, rfl⟩
  obtain ⟨E2, hE2⟩ : ∃ E2, E2 = beginE M left false [strB nm.data.toList] nm.data.toList := ⟨_, rfl⟩
  rw [← hM2, ← hL2, ← hE2] at hA hB ⊢
  rw [← hN] at hB ⊢
  obtain ⟨n2, hn2⟩ : ∃ n2, n2 = M2.length := ⟨_, rfl⟩
  have hB2 := fun (W : World) (hr : Rd W 3 A N (rfsV M)) => (hB W hr).mono (fun e w' hh => show ∃ A' c', e = .returned (.tuple #[.agg #[.slice A' n2 c', .int .i64 L2], .int .i64 E2]) ∧ Rd w' 3 A' n2 (rfsV M2) ∧ Below W.heap.size W w' ∧ ∀ q, blockOf A' = some q → blockOf A = some q ∨ W.heap.size ≤ q ∧ q < w'.heap.size by rw [hn2]; exact hh)
  have HA := hid2 hA
  have HB2 := hid2 hB2
  have HN2 := hid2 hn2
  clear hA hB hB2 hM2 hL2 hE2 hn2
  have HN := hid2 hN
  obtain ⟨W3, hW3⟩ : ∃ W3, W3 = (((w.alloc (.cells #[.slice A N c, .int .i64 left] 46)).alloc (.cells #[.int .i64 0, .int .i64 an, .string nm, .string to, .string dt, .slice pa pn pc] 39)).alloc (.cells #[.slice none 0 0, .int .i64 0] 46)) := ⟨_, rfl⟩
  have z3 : W3.heap.size = g + 3 := by rw [hW3, hg]; simp
  have b0 : Box W3 (g) [.slice A N c, .int .i64 left] := by rw [hW3]; exact (((Box.new' _ _ _ (by simp [hg])).alloc _).alloc _)
  have b1 : Box W3 (g + 1) [.int .i64 0, .int .i64 an, .string nm, .string to, .string dt, .slice pa pn pc] := by rw [hW3]; exact ((Box.new' _ _ _ (by simp [hg])).alloc _)
  have b2 : Box W3 (g + 1 + 1) [.slice none 0 0, .int .i64 0] := by rw [hW3]; exact (Box.new' _ _ _ (by simp [hg]))
  have hbW : Below g w W3 := by rw [hW3, hg]; exact (((Below.refl _ _).alloc (by simp) _).alloc (by simp) _).alloc (by simp; omega) _
  have hdW : DiskIs W3 p b n M left := hd.below hbW hpb.1 hpb.2
  have hrW : Rd W3 3 A N (rfsV M) := by rw [hN]; exact hr.below_all (by rw [← hg]; exact hbW)
  have hpx : g ≠ p ∧ g ≠ b ∧ g + 1 ≠ p ∧ g + 1 ≠ b ∧ g + 1 + 1 ≠ p ∧ g + 1 + 1 ≠ b := by omega
  have HG := hid2 hg
  have HW3 := hid2 hW3
  have HBW := hid2 hbW
  have HDW := hid2 hdW
  have HRW := hid2 hrW
  have HAP := hid2 hap
  clear hN hg hW3 hbW hdW hrW hap hd hr hri h hlt
  go_enter Try.func26, Try.ntmps26
  go_wp2_with (first
      | (go_at_call 16; rw [← HW3.out, ← HG.out]; refine (HA.out _ HDW.out).mono ?_; rintro e w3 ⟨rfl, hd3, hb3⟩; have k0 := b0.but hb3 hpx.1 hpx.2.1; have k1 := b1.but hb3 hpx.2.2.1 hpx.2.2.2.1; have k2 := b2.but hb3 hpx.2.2.2.2.1 hpx.2.2.2.2.2; have hz3 : g + 3 ≤ w3.heap.size := (by have := hb3.size; omega); have y0 : w3.cell? ⟨g + 1, 0, none⟩ = some (.int .i64 0) := k1.cells 0; have y1 : w3.cell? ⟨g + 1, 1, none⟩ = some (.int .i64 an) := k1.cells 1; have y2 : w3.cell? ⟨g + 1, 2, none⟩ = some (.string nm) := k1.cells 2; have y3 : w3.cell? ⟨g + 1, 3, none⟩ = some (.string to) := k1.cells 3; have y4 : w3.cell? ⟨g + 1, 4, none⟩ = some (.string dt) := k1.cells 4; have y5 : w3.cell? ⟨g + 1, 5, none⟩ = some (.slice pa pn pc) := k1.cells 5; have x0 : w3.cell? ⟨g, 0, none⟩ = some (.slice A N c) := k0.cells 0; have x1 : w3.cell? ⟨g, 1, none⟩ = some (.int .i64 left) := k0.cells 1; have HD3 := hid2 hd3; have HB3 := hid2 hb3; have HR3 := hid2 (HRW.out.but hb3 (fun q hq => (HAP.out q hq).2)); have K2 := hid2 k2; clear hd3 hb3 k0 k1 k2 b0 b1 b2)
      | (go_at_call 57; refine (HB2.out _ HR3.out).mono ?_; rintro e w4 ⟨A4, c4, rfl, hr4, hb4, ha4⟩; have k4 := K2.out.below_all hb4; have hz4 : g + 3 ≤ w4.heap.size := Nat.le_trans hz3 hb4.size; have K4 := hid2 k4; have HB4 := hid2 hb4; have HR4 := hid2 hr4; have HA4 := hid2 ha4; clear k4 hb4 hr4 ha4))
  obtain ⟨G, hG⟩ : ∃ G, G = w4.heap.size := ⟨_, rfl⟩
  rw [← hG]
  generalize hW : World.alloc _ _ = W
  have q1 : Box W G [.slice A4 n2 c4, .int .i64 L2] := by rw [← hW]; exact Box.new' _ _ _ hG.symm
  have q2 : Box W (g + 1 + 1) [.slice none 0 0, .int .i64 0] := by rw [← hW]; exact K4.out.alloc _
  have hszW : w4.heap.size ≤ W.heap.size := by rw [← hW, World.size_alloc]; omega
  have hbx : Below w3.heap.size w3 W := by rw [← hW]; exact HB4.out.alloc HB4.out.size _
  have hr5 : Rd W 3 A4 n2 (rfsV M2) := by rw [← hW]; exact HR4.out.alloc _
  have d0 : W.cell? ⟨G, 0, none⟩ = some (.slice A4 n2 c4) := q1.cells 0
  have d1 : W.cell? ⟨G, 1, none⟩ = some (.int .i64 L2) := q1.cells 1
  have z0 : W.cell? ⟨g + 1 + 1, 0, none⟩ = some (.slice none 0 0) := q2.cells 0
  have z1 : W.cell? ⟨g + 1 + 1, 1, none⟩ = some (.int .i64 0) := q2.cells 1
  have f0 : W.frozen? ⟨g + 1 + 1, 0, none⟩ = false := q2.free 0
  have f1 : W.frozen? ⟨g + 1 + 1, 1, none⟩ = false := q2.free 1
  have HBX := hid2 hbx
  have HR5 := hid2 hr5
  clear hW hG q1 q2 hbx hr5
  go_still_tail 5, (by kernel_rfl)
  change wpList _ _ _ _ _ W.drew
  go_wp2_with fail
  refine bodyPost_ret (v := .tuple #[.int .i64 E2, .int .i64 E2, .agg #[.slice A4 n2 c4, .int .i64 L2]]) ?_ rfl ?_
  · simp [results, Try.results26, go_sem, z0, z1]
    try rfl
  exact do_end2 HBW.out HG.out HB3.out HBX.out.drew HD3.out hpb z3 HR5.out HN2.out (do_apart HAP.out HG.out HBW.out HA4.out HB3.out z3 hpb HB4.out.size hszW)
set_option maxRecDepth 100000 in
set_option maxHeartbeats 2000000 in
theorem do2_sync (w : World) (p b n : Nat) (M : Tab FileE) (left : Int) (A : Option Addr) (c : Nat) (h : Side w p b n M left A) (hl : M.length ≤ 1000000) (hnB : n < 1000000000) (hle : -1 ≤ left ∧ left ≤ 9223372036854775807) (an : Int) (nm to dt : ByteArray) (pa : Option Addr) (pn pc : Nat) (hnz : nm.size ≤ 1000000000) (hf : (fileOf M nm.data.toList).1.length ≤ 1000000000) :
    Calls Try.prog 26 #[.pointer (some ⟨p, 0, none⟩), .agg #[.slice A M.length c, .int .i64 left], .agg #[.int .i64 1, .int .i64 an, .string nm, .string to, .string dt, .slice pa pn pc]] w (DoPost w A p b (n + 1) (syncM M left nm.data.toList) (beginL M left true [strB nm.data.toList] nm.data.toList) (beginE M left true [strB nm.data.toList] nm.data.toList)) := by
  have hd := h.disk
  have hr := h.row
  have hap := h.apart
  have hlt := hd.lt
  have hri := MapIs.rises hd.2 (string_keyed Try.underlying9)
  obtain ⟨N, hN⟩ : ∃ N, N = M.length := ⟨_, rfl⟩
  obtain ⟨g, hg⟩ : ∃ g, g = w.heap.size := ⟨_, rfl⟩
  have hpb : p < g ∧ b < g := by rw [hg]; exact hlt
  have hA := fun (W : World) (hd : DiskIs W p b n M left) => sync_at W p b n M left hd nm rfl (by rw [toList_length]; exact hnz) hf hnB hle rfl rfl rfl
  have hB := fun (W : World) (hr : Rd W 3 A M.length (rfsV M)) => sync07m_any W A c M left hr hl hri hle nm hf
  obtain ⟨M2, hM2⟩ : ∃ M2, M2 = syncM M left nm.data.toList := ⟨_, rfl⟩
  obtain ⟨L2, hL2⟩ : ∃ L2, L2 = beginL M left true [strB nm.data.toList] nm.data.toList := ⟨_, rfl⟩
  obtain ⟨E2, hE2⟩ : ∃ E2, E2 = beginE M left true [strB nm.data.toList] nm.data.toList := ⟨_, rfl⟩
  rw [← hM2, ← hL2, ← hE2] at hA hB ⊢
  rw [← hN] at hB ⊢
  obtain ⟨n2, hn2⟩ : ∃ n2, n2 = M2.length := ⟨_, rfl⟩
  have hB2 := fun (W : World) (hr : Rd W 3 A N (rfsV M)) => (hB W hr).mono (fun e w' hh => show ∃ A' c', e = .returned (.tuple #[.agg #[.slice A' n2 c', .int .i64 L2], .int .i64 E2]) ∧ Rd w' 3 A' n2 (rfsV M2) ∧ Below W.heap.size W w' ∧ ∀ q, blockOf A' = some q → blockOf A = some q ∨ W.heap.size ≤ q ∧ q < w'.heap.size by rw [hn2]; exact hh)
  have HA := hid2 hA
  have HB2 := hid2 hB2
  have HN2 := hid2 hn2
  clear hA hB hB2 hM2 hL2 hE2 hn2
  have HN := hid2 hN
  obtain ⟨W3, hW3⟩ : ∃ W3, W3 = (((w.alloc (.cells #[.slice A N c, .int .i64 left] 46)).alloc (.cells #[.int .i64 1, .int .i64 an, .string nm, .string to, .string dt, .slice pa pn pc] 39)).alloc (.cells #[.slice none 0 0, .int .i64 0] 46)) := ⟨_, rfl⟩
  have z3 : W3.heap.size = g + 3 := by rw [hW3, hg]; simp
  have b0 : Box W3 (g) [.slice A N c, .int .i64 left] := by rw [hW3]; exact (((Box.new' _ _ _ (by simp [hg])).alloc _).alloc _)
  have b1 : Box W3 (g + 1) [.int .i64 1, .int .i64 an, .string nm, .string to, .string dt, .slice pa pn pc] := by rw [hW3]; exact ((Box.new' _ _ _ (by simp [hg])).alloc _)
  have b2 : Box W3 (g + 1 + 1) [.slice none 0 0, .int .i64 0] := by rw [hW3]; exact (Box.new' _ _ _ (by simp [hg]))
  have hbW : Below g w W3 := by rw [hW3, hg]; exact (((Below.refl _ _).alloc (by simp) _).alloc (by simp) _).alloc (by simp; omega) _
  have hdW : DiskIs W3 p b n M left := hd.below hbW hpb.1 hpb.2
  have hrW : Rd W3 3 A N (rfsV M) := by rw [hN]; exact hr.below_all (by rw [← hg]; exact hbW)
  have hpx : g ≠ p ∧ g ≠ b ∧ g + 1 ≠ p ∧ g + 1 ≠ b ∧ g + 1 + 1 ≠ p ∧ g + 1 + 1 ≠ b := by omega
  have HG := hid2 hg
  have HW3 := hid2 hW3
  have HBW := hid2 hbW
  have HDW := hid2 hdW
  have HRW := hid2 hrW
  have HAP := hid2 hap
  clear hN hg hW3 hbW hdW hrW hap hd hr hri h hlt
  go_enter Try.func26, Try.ntmps26
  go_wp2_with (first
      | (go_at_call 17; rw [← HW3.out, ← HG.out]; refine (HA.out _ HDW.out).mono ?_; rintro e w3 ⟨rfl, hd3, hb3⟩; have k0 := b0.but hb3 hpx.1 hpx.2.1; have k1 := b1.but hb3 hpx.2.2.1 hpx.2.2.2.1; have k2 := b2.but hb3 hpx.2.2.2.2.1 hpx.2.2.2.2.2; have hz3 : g + 3 ≤ w3.heap.size := (by have := hb3.size; omega); have y0 : w3.cell? ⟨g + 1, 0, none⟩ = some (.int .i64 1) := k1.cells 0; have y1 : w3.cell? ⟨g + 1, 1, none⟩ = some (.int .i64 an) := k1.cells 1; have y2 : w3.cell? ⟨g + 1, 2, none⟩ = some (.string nm) := k1.cells 2; have y3 : w3.cell? ⟨g + 1, 3, none⟩ = some (.string to) := k1.cells 3; have y4 : w3.cell? ⟨g + 1, 4, none⟩ = some (.string dt) := k1.cells 4; have y5 : w3.cell? ⟨g + 1, 5, none⟩ = some (.slice pa pn pc) := k1.cells 5; have x0 : w3.cell? ⟨g, 0, none⟩ = some (.slice A N c) := k0.cells 0; have x1 : w3.cell? ⟨g, 1, none⟩ = some (.int .i64 left) := k0.cells 1; have HD3 := hid2 hd3; have HB3 := hid2 hb3; have HR3 := hid2 (HRW.out.but hb3 (fun q hq => (HAP.out q hq).2)); have K2 := hid2 k2; clear hd3 hb3 k0 k1 k2 b0 b1 b2)
      | (go_at_call 58; refine (HB2.out _ HR3.out).mono ?_; rintro e w4 ⟨A4, c4, rfl, hr4, hb4, ha4⟩; have k4 := K2.out.below_all hb4; have hz4 : g + 3 ≤ w4.heap.size := Nat.le_trans hz3 hb4.size; have K4 := hid2 k4; have HB4 := hid2 hb4; have HR4 := hid2 hr4; have HA4 := hid2 ha4; clear k4 hb4 hr4 ha4))
  obtain ⟨G, hG⟩ : ∃ G, G = w4.heap.size := ⟨_, rfl⟩
  rw [← hG]
  generalize hW : World.alloc _ _ = W
  have q1 : Box W G [.slice A4 n2 c4, .int .i64 L2] := by rw [← hW]; exact Box.new' _ _ _ hG.symm
  have q2 : Box W (g + 1 + 1) [.slice none 0 0, .int .i64 0] := by rw [← hW]; exact K4.out.alloc _
  have hszW : w4.heap.size ≤ W.heap.size := by rw [← hW, World.size_alloc]; omega
  have hbx : Below w3.heap.size w3 W := by rw [← hW]; exact HB4.out.alloc HB4.out.size _
  have hr5 : Rd W 3 A4 n2 (rfsV M2) := by rw [← hW]; exact HR4.out.alloc _
  have d0 : W.cell? ⟨G, 0, none⟩ = some (.slice A4 n2 c4) := q1.cells 0
  have d1 : W.cell? ⟨G, 1, none⟩ = some (.int .i64 L2) := q1.cells 1
  have z0 : W.cell? ⟨g + 1 + 1, 0, none⟩ = some (.slice none 0 0) := q2.cells 0
  have z1 : W.cell? ⟨g + 1 + 1, 1, none⟩ = some (.int .i64 0) := q2.cells 1
  have f0 : W.frozen? ⟨g + 1 + 1, 0, none⟩ = false := q2.free 0
  have f1 : W.frozen? ⟨g + 1 + 1, 1, none⟩ = false := q2.free 1
  have HBX := hid2 hbx
  have HR5 := hid2 hr5
  clear hW hG q1 q2 hbx hr5
  go_still_tail 5, (by kernel_rfl)
  change wpList _ _ _ _ _ W.drew
  go_wp2_with fail
  refine bodyPost_ret (v := .tuple #[.int .i64 E2, .int .i64 E2, .agg #[.slice A4 n2 c4, .int .i64 L2]]) ?_ rfl ?_
  · simp [results, Try.results26, go_sem, z0, z1]
    try rfl
  exact do_end2 HBW.out HG.out HB3.out HBX.out.drew HD3.out hpb z3 HR5.out HN2.out (do_apart HAP.out HG.out HBW.out HA4.out HB3.out z3 hpb HB4.out.size hszW)
set_option maxRecDepth 100000 in
set_option maxHeartbeats 2000000 in
theorem do2_ren (w : World) (p b n : Nat) (M : Tab FileE) (left : Int) (A : Option Addr) (c : Nat) (h : Side w p b n M left A) (hl : M.length ≤ 1000000) (hnB : n < 1000000000) (hle : -1 ≤ left ∧ left ≤ 9223372036854775807) (an : Int) (nm to dt : ByteArray) (pa : Option Addr) (pn pc : Nat) (hnz : nm.size ≤ 1000000000) (htz : to.size ≤ 1000000000) :
    Calls Try.prog 26 #[.pointer (some ⟨p, 0, none⟩), .agg #[.slice A M.length c, .int .i64 left], .agg #[.int .i64 2, .int .i64 an, .string nm, .string to, .string dt, .slice pa pn pc]] w (DoPost w A p b (n + 1) (renM M left nm.data.toList to.data.toList) (beginL M left true [strB nm.data.toList, strB to.data.toList] nm.data.toList) (beginE M left true [strB nm.data.toList, strB to.data.toList] nm.data.toList)) := by
  have hd := h.disk
  have hr := h.row
  have hap := h.apart
  have hlt := hd.lt
  have hri := MapIs.rises hd.2 (string_keyed Try.underlying9)
  obtain ⟨N, hN⟩ : ∃ N, N = M.length := ⟨_, rfl⟩
  obtain ⟨g, hg⟩ : ∃ g, g = w.heap.size := ⟨_, rfl⟩
  have hpb : p < g ∧ b < g := by rw [hg]; exact hlt
  have hA := fun (W : World) (hd : DiskIs W p b n M left) => rename_any W p b n M left hd nm to hnz htz hnB hle
  have hB := fun (W : World) (hr : Rd W 3 A M.length (rfsV M)) => rename07m_any W A c M left hr hl hri hle nm to
  obtain ⟨M2, hM2⟩ : ∃ M2, M2 = renM M left nm.data.toList to.data.toList := ⟨_, rfl⟩
  obtain ⟨L2, hL2⟩ : ∃ L2, L2 = beginL M left true [strB nm.data.toList, strB to.data.toList] nm.data.toList := ⟨_, rfl⟩
  obtain ⟨E2, hE2⟩ : ∃ E2, E2 = beginE M left true [strB nm.data.toList, strB to.data.toList] nm.data.toList := ⟨_, rfl⟩
  rw [← hM2, ← hL2, ← hE2] at hA hB ⊢
  rw [← hN] at hB ⊢
  obtain ⟨n2, hn2⟩ : ∃ n2, n2 = M2.length := ⟨_, rfl⟩
  have hB2 := fun (W : World) (hr : Rd W 3 A N (rfsV M)) => (hB W hr).mono (fun e w' hh => show ∃ A' c', e = .returned (.tuple #[.agg #[.slice A' n2 c', .int .i64 L2], .int .i64 E2]) ∧ Rd w' 3 A' n2 (rfsV M2) ∧ Below W.heap.size W w' ∧ ∀ q, blockOf A' = some q → blockOf A = some q ∨ W.heap.size ≤ q ∧ q < w'.heap.size by rw [hn2]; exact hh)
  have HA := hid2 hA
  have HB2 := hid2 hB2
  have HN2 := hid2 hn2
  clear hA hB hB2 hM2 hL2 hE2 hn2
  have HN := hid2 hN
  obtain ⟨W3, hW3⟩ : ∃ W3, W3 = (((w.alloc (.cells #[.slice A N c, .int .i64 left] 46)).alloc (.cells #[.int .i64 2, .int .i64 an, .string nm, .string to, .string dt, .slice pa pn pc] 39)).alloc (.cells #[.slice none 0 0, .int .i64 0] 46)) := ⟨_, rfl⟩
  have z3 : W3.heap.size = g + 3 := by rw [hW3, hg]; simp
  have b0 : Box W3 (g) [.slice A N c, .int .i64 left] := by rw [hW3]; exact (((Box.new' _ _ _ (by simp [hg])).alloc _).alloc _)
  have b1 : Box W3 (g + 1) [.int .i64 2, .int .i64 an, .string nm, .string to, .string dt, .slice pa pn pc] := by rw [hW3]; exact ((Box.new' _ _ _ (by simp [hg])).alloc _)
  have b2 : Box W3 (g + 1 + 1) [.slice none 0 0, .int .i64 0] := by rw [hW3]; exact (Box.new' _ _ _ (by simp [hg]))
  have hbW : Below g w W3 := by rw [hW3, hg]; exact (((Below.refl _ _).alloc (by simp) _).alloc (by simp) _).alloc (by simp; omega) _
  have hdW : DiskIs W3 p b n M left := hd.below hbW hpb.1 hpb.2
  have hrW : Rd W3 3 A N (rfsV M) := by rw [hN]; exact hr.below_all (by rw [← hg]; exact hbW)
  have hpx : g ≠ p ∧ g ≠ b ∧ g + 1 ≠ p ∧ g + 1 ≠ b ∧ g + 1 + 1 ≠ p ∧ g + 1 + 1 ≠ b := by omega
  have HG := hid2 hg
  have HW3 := hid2 hW3
  have HBW := hid2 hbW
  have HDW := hid2 hdW
  have HRW := hid2 hrW
  have HAP := hid2 hap
  clear hN hg hW3 hbW hdW hrW hap hd hr hri h hlt
  go_enter Try.func26, Try.ntmps26
  go_wp2_with (first
      | (go_at_call 59; rw [← HW3.out, ← HG.out]; refine (HA.out _ HDW.out).mono ?_; rintro e w3 ⟨rfl, hd3, hb3⟩; have k0 := b0.but hb3 hpx.1 hpx.2.1; have k1 := b1.but hb3 hpx.2.2.1 hpx.2.2.2.1; have k2 := b2.but hb3 hpx.2.2.2.2.1 hpx.2.2.2.2.2; have hz3 : g + 3 ≤ w3.heap.size := (by have := hb3.size; omega); have y0 : w3.cell? ⟨g + 1, 0, none⟩ = some (.int .i64 2) := k1.cells 0; have y1 : w3.cell? ⟨g + 1, 1, none⟩ = some (.int .i64 an) := k1.cells 1; have y2 : w3.cell? ⟨g + 1, 2, none⟩ = some (.string nm) := k1.cells 2; have y3 : w3.cell? ⟨g + 1, 3, none⟩ = some (.string to) := k1.cells 3; have y4 : w3.cell? ⟨g + 1, 4, none⟩ = some (.string dt) := k1.cells 4; have y5 : w3.cell? ⟨g + 1, 5, none⟩ = some (.slice pa pn pc) := k1.cells 5; have x0 : w3.cell? ⟨g, 0, none⟩ = some (.slice A N c) := k0.cells 0; have x1 : w3.cell? ⟨g, 1, none⟩ = some (.int .i64 left) := k0.cells 1; have HD3 := hid2 hd3; have HB3 := hid2 hb3; have HR3 := hid2 (HRW.out.but hb3 (fun q hq => (HAP.out q hq).2)); have K2 := hid2 k2; clear hd3 hb3 k0 k1 k2 b0 b1 b2)
      | (go_at_call 60; refine (HB2.out _ HR3.out).mono ?_; rintro e w4 ⟨A4, c4, rfl, hr4, hb4, ha4⟩; have k4 := K2.out.below_all hb4; have hz4 : g + 3 ≤ w4.heap.size := Nat.le_trans hz3 hb4.size; have K4 := hid2 k4; have HB4 := hid2 hb4; have HR4 := hid2 hr4; have HA4 := hid2 ha4; clear k4 hb4 hr4 ha4))
  obtain ⟨G, hG⟩ : ∃ G, G = w4.heap.size := ⟨_, rfl⟩
  rw [← hG]
  generalize hW : World.alloc _ _ = W
  have q1 : Box W G [.slice A4 n2 c4, .int .i64 L2] := by rw [← hW]; exact Box.new' _ _ _ hG.symm
  have q2 : Box W (g + 1 + 1) [.slice none 0 0, .int .i64 0] := by rw [← hW]; exact K4.out.alloc _
  have hszW : w4.heap.size ≤ W.heap.size := by rw [← hW, World.size_alloc]; omega
  have hbx : Below w3.heap.size w3 W := by rw [← hW]; exact HB4.out.alloc HB4.out.size _
  have hr5 : Rd W 3 A4 n2 (rfsV M2) := by rw [← hW]; exact HR4.out.alloc _
  have d0 : W.cell? ⟨G, 0, none⟩ = some (.slice A4 n2 c4) := q1.cells 0
  have d1 : W.cell? ⟨G, 1, none⟩ = some (.int .i64 L2) := q1.cells 1
  have z0 : W.cell? ⟨g + 1 + 1, 0, none⟩ = some (.slice none 0 0) := q2.cells 0
  have z1 : W.cell? ⟨g + 1 + 1, 1, none⟩ = some (.int .i64 0) := q2.cells 1
  have f0 : W.frozen? ⟨g + 1 + 1, 0, none⟩ = false := q2.free 0
  have f1 : W.frozen? ⟨g + 1 + 1, 1, none⟩ = false := q2.free 1
  have HBX := hid2 hbx
  have HR5 := hid2 hr5
  clear hW hG q1 q2 hbx hr5
  go_still_tail 5, (by kernel_rfl)
  change wpList _ _ _ _ _ W.drew
  go_wp2_with fail
  refine bodyPost_ret (v := .tuple #[.int .i64 E2, .int .i64 E2, .agg #[.slice A4 n2 c4, .int .i64 L2]]) ?_ rfl ?_
  · simp [results, Try.results26, go_sem, z0, z1]
    try rfl
  exact do_end2 HBW.out HG.out HB3.out HBX.out.drew HD3.out hpb z3 HR5.out HN2.out (do_apart HAP.out HG.out HBW.out HA4.out HB3.out z3 hpb HB4.out.size hszW)
set_option maxRecDepth 100000 in
set_option maxHeartbeats 2000000 in
theorem do2_rem (w : World) (p b n : Nat) (M : Tab FileE) (left : Int) (A : Option Addr) (c : Nat) (h : Side w p b n M left A) (hl : M.length ≤ 1000000) (hle : -1 ≤ left ∧ left ≤ 9223372036854775807) (an : Int) (nm to dt : ByteArray) (pa : Option Addr) (pn pc : Nat) (hnz : nm.size ≤ 1000000000) :
    Calls Try.prog 26 #[.pointer (some ⟨p, 0, none⟩), .agg #[.slice A M.length c, .int .i64 left], .agg #[.int .i64 3, .int .i64 an, .string nm, .string to, .string dt, .slice pa pn pc]] w (DoPost w A p b (n) (remM M left nm.data.toList) (beginL M left true [strB nm.data.toList] nm.data.toList) (beginE M left true [strB nm.data.toList] nm.data.toList)) := by
  have hd := h.disk
  have hr := h.row
  have hap := h.apart
  have hlt := hd.lt
  have hri := MapIs.rises hd.2 (string_keyed Try.underlying9)
  obtain ⟨N, hN⟩ : ∃ N, N = M.length := ⟨_, rfl⟩
  obtain ⟨g, hg⟩ : ∃ g, g = w.heap.size := ⟨_, rfl⟩
  have hpb : p < g ∧ b < g := by rw [hg]; exact hlt
  have hA := fun (W : World) (hd : DiskIs W p b n M left) => remove_at W p b n M left hd nm rfl (by rw [toList_length]; exact hnz) hle rfl rfl rfl
  have hB := fun (W : World) (hr : Rd W 3 A M.length (rfsV M)) => remove07m_any W A c M left hr hl hri hle nm
  obtain ⟨M2, hM2⟩ : ∃ M2, M2 = remM M left nm.data.toList := ⟨_, rfl⟩
  obtain ⟨L2, hL2⟩ : ∃ L2, L2 = beginL M left true [strB nm.data.toList] nm.data.toList := ⟨_, rfl⟩
  obtain ⟨E2, hE2⟩ : ∃ E2, E2 = beginE M left true [strB nm.data.toList] nm.data.toList := ⟨_, rfl⟩
  rw [← hM2, ← hL2, ← hE2] at hA hB ⊢
  rw [← hN] at hB ⊢
  obtain ⟨n2, hn2⟩ : ∃ n2, n2 = M2.length := ⟨_, rfl⟩
  have hB2 := fun (W : World) (hr : Rd W 3 A N (rfsV M)) => (hB W hr).mono (fun e w' hh => show ∃ A' c', e = .returned (.tuple #[.agg #[.slice A' n2 c', .int .i64 L2], .int .i64 E2]) ∧ Rd w' 3 A' n2 (rfsV M2) ∧ Below W.heap.size W w' ∧ ∀ q, blockOf A' = some q → blockOf A = some q ∨ W.heap.size ≤ q ∧ q < w'.heap.size by rw [hn2]; exact hh)
  have HA := hid2 hA
  have HB2 := hid2 hB2
  have HN2 := hid2 hn2
  clear hA hB hB2 hM2 hL2 hE2 hn2
  have HN := hid2 hN
  obtain ⟨W3, hW3⟩ : ∃ W3, W3 = (((w.alloc (.cells #[.slice A N c, .int .i64 left] 46)).alloc (.cells #[.int .i64 3, .int .i64 an, .string nm, .string to, .string dt, .slice pa pn pc] 39)).alloc (.cells #[.slice none 0 0, .int .i64 0] 46)) := ⟨_, rfl⟩
  have z3 : W3.heap.size = g + 3 := by rw [hW3, hg]; simp
  have b0 : Box W3 (g) [.slice A N c, .int .i64 left] := by rw [hW3]; exact (((Box.new' _ _ _ (by simp [hg])).alloc _).alloc _)
  have b1 : Box W3 (g + 1) [.int .i64 3, .int .i64 an, .string nm, .string to, .string dt, .slice pa pn pc] := by rw [hW3]; exact ((Box.new' _ _ _ (by simp [hg])).alloc _)
  have b2 : Box W3 (g + 1 + 1) [.slice none 0 0, .int .i64 0] := by rw [hW3]; exact (Box.new' _ _ _ (by simp [hg]))
  have hbW : Below g w W3 := by rw [hW3, hg]; exact (((Below.refl _ _).alloc (by simp) _).alloc (by simp) _).alloc (by simp; omega) _
  have hdW : DiskIs W3 p b n M left := hd.below hbW hpb.1 hpb.2
  have hrW : Rd W3 3 A N (rfsV M) := by rw [hN]; exact hr.below_all (by rw [← hg]; exact hbW)
  have hpx : g ≠ p ∧ g ≠ b ∧ g + 1 ≠ p ∧ g + 1 ≠ b ∧ g + 1 + 1 ≠ p ∧ g + 1 + 1 ≠ b := by omega
  have HG := hid2 hg
  have HW3 := hid2 hW3
  have HBW := hid2 hbW
  have HDW := hid2 hdW
  have HRW := hid2 hrW
  have HAP := hid2 hap
  clear hN hg hW3 hbW hdW hrW hap hd hr hri h hlt
  go_enter Try.func26, Try.ntmps26
  go_wp2_with (first
      | (go_at_call 19; rw [← HW3.out, ← HG.out]; refine (HA.out _ HDW.out).mono ?_; rintro e w3 ⟨rfl, hd3, hb3⟩; have k0 := b0.but hb3 hpx.1 hpx.2.1; have k1 := b1.but hb3 hpx.2.2.1 hpx.2.2.2.1; have k2 := b2.but hb3 hpx.2.2.2.2.1 hpx.2.2.2.2.2; have hz3 : g + 3 ≤ w3.heap.size := (by have := hb3.size; omega); have y0 : w3.cell? ⟨g + 1, 0, none⟩ = some (.int .i64 3) := k1.cells 0; have y1 : w3.cell? ⟨g + 1, 1, none⟩ = some (.int .i64 an) := k1.cells 1; have y2 : w3.cell? ⟨g + 1, 2, none⟩ = some (.string nm) := k1.cells 2; have y3 : w3.cell? ⟨g + 1, 3, none⟩ = some (.string to) := k1.cells 3; have y4 : w3.cell? ⟨g + 1, 4, none⟩ = some (.string dt) := k1.cells 4; have y5 : w3.cell? ⟨g + 1, 5, none⟩ = some (.slice pa pn pc) := k1.cells 5; have x0 : w3.cell? ⟨g, 0, none⟩ = some (.slice A N c) := k0.cells 0; have x1 : w3.cell? ⟨g, 1, none⟩ = some (.int .i64 left) := k0.cells 1; have HD3 := hid2 hd3; have HB3 := hid2 hb3; have HR3 := hid2 (HRW.out.but hb3 (fun q hq => (HAP.out q hq).2)); have K2 := hid2 k2; clear hd3 hb3 k0 k1 k2 b0 b1 b2)
      | (go_at_call 61; refine (HB2.out _ HR3.out).mono ?_; rintro e w4 ⟨A4, c4, rfl, hr4, hb4, ha4⟩; have k4 := K2.out.below_all hb4; have hz4 : g + 3 ≤ w4.heap.size := Nat.le_trans hz3 hb4.size; have K4 := hid2 k4; have HB4 := hid2 hb4; have HR4 := hid2 hr4; have HA4 := hid2 ha4; clear k4 hb4 hr4 ha4))
  obtain ⟨G, hG⟩ : ∃ G, G = w4.heap.size := ⟨_, rfl⟩
  rw [← hG]
  generalize hW : World.alloc _ _ = W
  have q1 : Box W G [.slice A4 n2 c4, .int .i64 L2] := by rw [← hW]; exact Box.new' _ _ _ hG.symm
  have q2 : Box W (g + 1 + 1) [.slice none 0 0, .int .i64 0] := by rw [← hW]; exact K4.out.alloc _
  have hszW : w4.heap.size ≤ W.heap.size := by rw [← hW, World.size_alloc]; omega
  have hbx : Below w3.heap.size w3 W := by rw [← hW]; exact HB4.out.alloc HB4.out.size _
  have hr5 : Rd W 3 A4 n2 (rfsV M2) := by rw [← hW]; exact HR4.out.alloc _
  have d0 : W.cell? ⟨G, 0, none⟩ = some (.slice A4 n2 c4) := q1.cells 0
  have d1 : W.cell? ⟨G, 1, none⟩ = some (.int .i64 L2) := q1.cells 1
  have z0 : W.cell? ⟨g + 1 + 1, 0, none⟩ = some (.slice none 0 0) := q2.cells 0
  have z1 : W.cell? ⟨g + 1 + 1, 1, none⟩ = some (.int .i64 0) := q2.cells 1
  have f0 : W.frozen? ⟨g + 1 + 1, 0, none⟩ = false := q2.free 0
  have f1 : W.frozen? ⟨g + 1 + 1, 1, none⟩ = false := q2.free 1
  have HBX := hid2 hbx
  have HR5 := hid2 hr5
  clear hW hG q1 q2 hbx hr5
  go_still_tail 5, (by kernel_rfl)
  change wpList _ _ _ _ _ W.drew
  go_wp2_with fail
  refine bodyPost_ret (v := .tuple #[.int .i64 E2, .int .i64 E2, .agg #[.slice A4 n2 c4, .int .i64 L2]]) ?_ rfl ?_
  · simp [results, Try.results26, go_sem, z0, z1]
    try rfl
  exact do_end2 HBW.out HG.out HB3.out HBX.out.drew HD3.out hpb z3 HR5.out HN2.out (do_apart HAP.out HG.out HBW.out HA4.out HB3.out z3 hpb HB4.out.size hszW)
set_option maxRecDepth 100000 in
set_option maxHeartbeats 2000000 in
theorem do2_bud (w : World) (p b n : Nat) (M : Tab FileE) (left : Int) (A : Option Addr) (c : Nat) (h : Side w p b n M left A) (hl : M.length ≤ 1000000) (an : Int) (nm to dt : ByteArray) (pa : Option Addr) (pn pc : Nat)  :
    Calls Try.prog 26 #[.pointer (some ⟨p, 0, none⟩), .agg #[.slice A M.length c, .int .i64 left], .agg #[.int .i64 4, .int .i64 an, .string nm, .string to, .string dt, .slice pa pn pc]] w (DoPost w A p b (n) (M) (if -1 ≤ an then an else -1) (0)) := by
  have hd := h.disk
  have hr := h.row
  have hap := h.apart
  have hlt := hd.lt
  have hri := MapIs.rises hd.2 (string_keyed Try.underlying9)
  obtain ⟨N, hN⟩ : ∃ N, N = M.length := ⟨_, rfl⟩
  obtain ⟨g, hg⟩ : ∃ g, g = w.heap.size := ⟨_, rfl⟩
  have hpb : p < g ∧ b < g := by rw [hg]; exact hlt
  have hA := fun (W : World) (hd : DiskIs W p b n M left) => budget_any W p b n M left an hd
  have hB := fun (W : World) => budget07m_any W A N c left an
  obtain ⟨L2, hL2⟩ : ∃ L2 : Int, L2 = if -1 ≤ an then an else -1 := ⟨_, rfl⟩
  rw [show (if an < 0 then (-1 : Int) else an) = L2 by rw [hL2]; split <;> split <;> omega] at hB
  rw [← hL2] at hA ⊢
  rw [← hN]
  have HA := hid2 hA
  have HB := hid2 hB
  clear hA hB hL2
  have HN := hid2 hN
  obtain ⟨W3, hW3⟩ : ∃ W3, W3 = (((w.alloc (.cells #[.slice A N c, .int .i64 left] 46)).alloc (.cells #[.int .i64 4, .int .i64 an, .string nm, .string to, .string dt, .slice pa pn pc] 39)).alloc (.cells #[.slice none 0 0, .int .i64 0] 46)) := ⟨_, rfl⟩
  have z3 : W3.heap.size = g + 3 := by rw [hW3, hg]; simp
  have b0 : Box W3 (g) [.slice A N c, .int .i64 left] := by rw [hW3]; exact (((Box.new' _ _ _ (by simp [hg])).alloc _).alloc _)
  have b1 : Box W3 (g + 1) [.int .i64 4, .int .i64 an, .string nm, .string to, .string dt, .slice pa pn pc] := by rw [hW3]; exact ((Box.new' _ _ _ (by simp [hg])).alloc _)
  have b2 : Box W3 (g + 1 + 1) [.slice none 0 0, .int .i64 0] := by rw [hW3]; exact (Box.new' _ _ _ (by simp [hg]))
  have hbW : Below g w W3 := by rw [hW3, hg]; exact (((Below.refl _ _).alloc (by simp) _).alloc (by simp) _).alloc (by simp; omega) _
  have hdW : DiskIs W3 p b n M left := hd.below hbW hpb.1 hpb.2
  have hrW : Rd W3 3 A N (rfsV M) := by rw [hN]; exact hr.below_all (by rw [← hg]; exact hbW)
  have hpx : g ≠ p ∧ g ≠ b ∧ g + 1 ≠ p ∧ g + 1 ≠ b ∧ g + 1 + 1 ≠ p ∧ g + 1 + 1 ≠ b := by omega
  have HG := hid2 hg
  have HW3 := hid2 hW3
  have HBW := hid2 hbW
  have HDW := hid2 hdW
  have HRW := hid2 hrW
  have HAP := hid2 hap
  clear hN hg hW3 hbW hdW hrW hap hd hr hri h hlt
  go_enter Try.func26, Try.ntmps26
  go_wp2_with (first
      | (go_at_call 15; rw [← HW3.out, ← HG.out]; refine (HA.out _ HDW.out).mono ?_; rintro e w3 ⟨rfl, hd3, hb3, _⟩; have k0 := b0.but hb3 hpx.1 hpx.2.1; have k1 := b1.but hb3 hpx.2.2.1 hpx.2.2.2.1; have k2 := b2.but hb3 hpx.2.2.2.2.1 hpx.2.2.2.2.2; have hz3 : g + 3 ≤ w3.heap.size := (by have := hb3.size; omega); have y0 : w3.cell? ⟨g + 1, 0, none⟩ = some (.int .i64 4) := k1.cells 0; have y1 : w3.cell? ⟨g + 1, 1, none⟩ = some (.int .i64 an) := k1.cells 1; have y2 : w3.cell? ⟨g + 1, 2, none⟩ = some (.string nm) := k1.cells 2; have y3 : w3.cell? ⟨g + 1, 3, none⟩ = some (.string to) := k1.cells 3; have y4 : w3.cell? ⟨g + 1, 4, none⟩ = some (.string dt) := k1.cells 4; have y5 : w3.cell? ⟨g + 1, 5, none⟩ = some (.slice pa pn pc) := k1.cells 5; have x0 : w3.cell? ⟨g, 0, none⟩ = some (.slice A N c) := k0.cells 0; have x1 : w3.cell? ⟨g, 1, none⟩ = some (.int .i64 left) := k0.cells 1; have z0 : w3.cell? ⟨g + 1 + 1, 0, none⟩ = some (.slice none 0 0) := k2.cells 0; have z1 : w3.cell? ⟨g + 1 + 1, 1, none⟩ = some (.int .i64 0) := k2.cells 1; have f0 : w3.frozen? ⟨g + 1 + 1, 0, none⟩ = false := k2.free 0; have f1 : w3.frozen? ⟨g + 1 + 1, 1, none⟩ = false := k2.free 1; have HD3 := hid2 hd3; have HB3 := hid2 hb3; have HR3 := hid2 (HRW.out.but hb3 (fun q hq => (HAP.out q hq).2)); have K2 := hid2 k2; clear hd3 hb3 k0 k1 k2 b0 b1 b2)
      | (go_at_call 62; refine (HB.out _).mono ?_; rintro e w4 ⟨rfl, hb4⟩; have k4 := K2.out.below_all hb4; have hz4 : g + 3 ≤ w4.heap.size := Nat.le_trans hz3 hb4.size; have v0 : w4.cell? ⟨g + 1 + 1, 0, none⟩ = some (.slice none 0 0) := k4.cells 0; have v1 : w4.cell? ⟨g + 1 + 1, 1, none⟩ = some (.int .i64 0) := k4.cells 1; have u0 : w4.frozen? ⟨g + 1 + 1, 0, none⟩ = false := k4.free 0; have u1 : w4.frozen? ⟨g + 1 + 1, 1, none⟩ = false := k4.free 1; have HB4 := hid2 hb4; clear k4 hb4))
  refine bodyPost_ret (v := .tuple #[.int .i64 0, .int .i64 0, .agg #[.slice A N c, .int .i64 L2]]) ?_ rfl ?_
  · simp [results, Try.results26, go_sem, v0, v1]
    try rfl
  exact do_end2 HBW.out HG.out HB3.out HB4.out HD3.out hpb z3 (HR3.out.below_all HB4.out) HN.out (do_apart0 HAP.out HG.out HBW.out HB3.out z3 HB4.out.size)
set_option maxRecDepth 100000 in
set_option maxHeartbeats 2000000 in
theorem do2_other (w : World) (p b n : Nat) (M : Tab FileE) (left : Int) (A : Option Addr) (c : Nat) (h : Side w p b n M left A) (hl : M.length ≤ 1000000) (ak : Int) (an : Int) (nm to dt : ByteArray) (pa : Option Addr) (pn pc : Nat) (k0 : ¬ ak = 0) (k1 : ¬ ak = 1) (k2 : ¬ ak = 2) (k3 : ¬ ak = 3) (k4 : ¬ ak = 4) :
    Calls Try.prog 26 #[.pointer (some ⟨p, 0, none⟩), .agg #[.slice A M.length c, .int .i64 left], .agg #[.int .i64 ak, .int .i64 an, .string nm, .string to, .string dt, .slice pa pn pc]] w (DoPost w A p b (n) (M) (left) (0)) := by
  have hd := h.disk
  have hr := h.row
  have hap := h.apart
  have hlt := hd.lt
  have hri := MapIs.rises hd.2 (string_keyed Try.underlying9)
  obtain ⟨N, hN⟩ : ∃ N, N = M.length := ⟨_, rfl⟩
  obtain ⟨g, hg⟩ : ∃ g, g = w.heap.size := ⟨_, rfl⟩
  have hpb : p < g ∧ b < g := by rw [hg]; exact hlt
  rw [← hN]
  have HN := hid2 hN
  obtain ⟨W3, hW3⟩ : ∃ W3, W3 = (((w.alloc (.cells #[.slice A N c, .int .i64 left] 46)).alloc (.cells #[.int .i64 ak, .int .i64 an, .string nm, .string to, .string dt, .slice pa pn pc] 39)).alloc (.cells #[.slice none 0 0, .int .i64 0] 46)) := ⟨_, rfl⟩
  have z3 : W3.heap.size = g + 3 := by rw [hW3, hg]; simp
  have b0 : Box W3 (g) [.slice A N c, .int .i64 left] := by rw [hW3]; exact (((Box.new' _ _ _ (by simp [hg])).alloc _).alloc _)
  have b1 : Box W3 (g + 1) [.int .i64 ak, .int .i64 an, .string nm, .string to, .string dt, .slice pa pn pc] := by rw [hW3]; exact ((Box.new' _ _ _ (by simp [hg])).alloc _)
  have b2 : Box W3 (g + 1 + 1) [.slice none 0 0, .int .i64 0] := by rw [hW3]; exact (Box.new' _ _ _ (by simp [hg]))
  have hbW : Below g w W3 := by rw [hW3, hg]; exact (((Below.refl _ _).alloc (by simp) _).alloc (by simp) _).alloc (by simp; omega) _
  have hdW : DiskIs W3 p b n M left := hd.below hbW hpb.1 hpb.2
  have hrW : Rd W3 3 A N (rfsV M) := by rw [hN]; exact hr.below_all (by rw [← hg]; exact hbW)
  have hpx : g ≠ p ∧ g ≠ b ∧ g + 1 ≠ p ∧ g + 1 ≠ b ∧ g + 1 + 1 ≠ p ∧ g + 1 + 1 ≠ b := by omega
  have HG := hid2 hg
  have HW3 := hid2 hW3
  have HBW := hid2 hbW
  have HDW := hid2 hdW
  have HRW := hid2 hrW
  have HAP := hid2 hap
  clear hN hg hW3 hbW hdW hrW hap hd hr hri h hlt
  go_enter Try.func26, Try.ntmps26
  have y0 : W3.cell? ⟨g + 1, 0, none⟩ = some (.int .i64 ak) := b1.cells 0
  have y1 : W3.cell? ⟨g + 1, 1, none⟩ = some (.int .i64 an) := b1.cells 1
  have y2 : W3.cell? ⟨g + 1, 2, none⟩ = some (.string nm) := b1.cells 2
  have y3 : W3.cell? ⟨g + 1, 3, none⟩ = some (.string to) := b1.cells 3
  have y4 : W3.cell? ⟨g + 1, 4, none⟩ = some (.string dt) := b1.cells 4
  have y5 : W3.cell? ⟨g + 1, 5, none⟩ = some (.slice pa pn pc) := b1.cells 5
  have x0 : W3.cell? ⟨g, 0, none⟩ = some (.slice A N c) := b0.cells 0
  have x1 : W3.cell? ⟨g, 1, none⟩ = some (.int .i64 left) := b0.cells 1
  have z0 : W3.cell? ⟨g + 1 + 1, 0, none⟩ = some (.slice none 0 0) := b2.cells 0
  have z1 : W3.cell? ⟨g + 1 + 1, 1, none⟩ = some (.int .i64 0) := b2.cells 1
  have f0 : W3.frozen? ⟨g + 1 + 1, 0, none⟩ = false := b2.free 0
  have f1 : W3.frozen? ⟨g + 1 + 1, 1, none⟩ = false := b2.free 1
  clear b0 b1 b2
  go_wp2_with fail
  rw [← HW3.out, ← HG.out]
  go_still_tail 3, (by kernel_rfl)
  change wpList _ _ _ _ _ W3.drew
  go_wp2_with fail
  refine bodyPost_ret (v := .tuple #[.int .i64 0, .int .i64 0, .agg #[.slice A N c, .int .i64 left]]) ?_ rfl ?_
  · simp [results, Try.results26, go_sem, z0, z1]
    try rfl
  exact do_end2 HBW.out HG.out (But.refl p b W3) (Below.refl W3.heap.size W3).drew HDW.out hpb z3 HRW.out HN.out (do_apart0 HAP.out HG.out HBW.out (But.refl p b W3) z3 (Nat.le_refl _))
/-- what an act answers, leaves of the files, and of the budget -/
def actX (M : Tab FileE) (left : Int) (a : ActE) : Int :=
  if a.kind = 0 then beginE M left false [strB a.name.data.toList] a.name.data.toList else if a.kind = 1 then beginE M left true [strB a.name.data.toList] a.name.data.toList else if a.kind = 2 then beginE M left true [strB a.name.data.toList, strB a.to.data.toList] a.name.data.toList else if a.kind = 3 then beginE M left true [strB a.name.data.toList] a.name.data.toList else 0
def actM (M : Tab FileE) (left : Int) (a : ActE) : Tab FileE :=
  if a.kind = 0 then appM M left a.name.data.toList a.data.data.toList else if a.kind = 1 then syncM M left a.name.data.toList else if a.kind = 2 then renM M left a.name.data.toList a.to.data.toList else if a.kind = 3 then remM M left a.name.data.toList else M
def actL (M : Tab FileE) (left : Int) (a : ActE) : Int :=
  if a.kind = 0 then beginL M left false [strB a.name.data.toList] a.name.data.toList else if a.kind = 1 then beginL M left true [strB a.name.data.toList] a.name.data.toList else if a.kind = 2 then beginL M left true [strB a.name.data.toList, strB a.to.data.toList] a.name.data.toList else if a.kind = 3 then beginL M left true [strB a.name.data.toList] a.name.data.toList else if a.kind = 4 then (if -1 ≤ a.n then a.n else -1) else left
theorem DoPost.mono {w : World} {A : Option Addr} {p b n : Nat} {M' : Tab FileE} {L E : Int} {e : Ending} {w' : World} (h : DoPost w A p b n M' L E e w') : DoPost w A p b (n + 1) M' L E e w' := by
  obtain ⟨A', c', h1, h2, h3⟩ := h
  exact ⟨A', c', h1, h2.mono (Nat.le_succ n), h3⟩
theorem do2_any (w : World) (p b n : Nat) (M : Tab FileE) (left : Int) (A : Option Addr) (c : Nat) (h : Side w p b n M left A) (hl : M.length ≤ 1000000) (hnB : n < 1000000000) (hle : -1 ≤ left ∧ left ≤ 9223372036854775807) (a : ActE) (hnz : a.name.size ≤ 1000000000) (htz : a.to.size ≤ 1000000000) (hdz : a.data.size ≤ 1000000000) (hf : (fileOf M a.name.data.toList).1.length ≤ 1000000000) :
    Calls Try.prog 26 #[.pointer (some ⟨p, 0, none⟩), .agg #[.slice A M.length c, .int .i64 left], .agg #[.int .i64 a.kind, .int .i64 a.n, .string a.name, .string a.to, .string a.data, .slice a.pa a.pn a.pc]] w (DoPost w A p b (n + 1) (actM M left a) (actL M left a) (actX M left a)) := by
  obtain ⟨ak, an, nm, to, dt, pa, pn, pc⟩ := a
  simp only at hnz htz hdz hf
  unfold actM actL actX
  simp only
  by_cases k0 : ak = 0
  · subst k0; rw [if_pos rfl, if_pos rfl, if_pos rfl]; exact do2_app w p b n M left A c h hl hnB hle an nm to dt pa pn pc hnz hdz hf
  rw [if_neg k0, if_neg k0, if_neg k0]
  by_cases k1 : ak = 1
  · subst k1; rw [if_pos rfl, if_pos rfl, if_pos rfl]; exact do2_sync w p b n M left A c h hl hnB hle an nm to dt pa pn pc hnz hf
  rw [if_neg k1, if_neg k1, if_neg k1]
  by_cases k2 : ak = 2
  · subst k2; rw [if_pos rfl, if_pos rfl, if_pos rfl]; exact do2_ren w p b n M left A c h hl hnB hle an nm to dt pa pn pc hnz htz
  rw [if_neg k2, if_neg k2, if_neg k2]
  by_cases k3 : ak = 3
  · subst k3; rw [if_pos rfl, if_pos rfl, if_pos rfl]; exact (do2_rem w p b n M left A c h hl hle an nm to dt pa pn pc hnz).mono fun _ _ h => h.mono
  rw [if_neg k3, if_neg k3, if_neg k3]
  by_cases k4 : ak = 4
  · subst k4; rw [if_pos rfl]; exact (do2_bud w p b n M left A c h hl an nm to dt pa pn pc).mono fun _ _ h => h.mono
  rw [if_neg k4]
  exact (do2_other w p b n M left A c h hl ak an nm to dt pa pn pc k0 k1 k2 k3 k4).mono fun _ _ h => h.mono
theorem begin_L {M : Tab FileE} {left : Int} (hle : -1 ≤ left ∧ left ≤ 9223372036854775807) (t : Bool) (ns : List ByteArray) (k : List UInt8) : -1 ≤ beginL M left t ns k ∧ beginL M left t ns k ≤ 9223372036854775807 := by
  unfold beginL
  split <;> omega
theorem actL_le {M : Tab FileE} {left : Int} (hle : -1 ≤ left ∧ left ≤ 9223372036854775807) (a : ActE) (ha : a.n ≤ 9223372036854775807) : -1 ≤ actL M left a ∧ actL M left a ≤ 9223372036854775807 := by
  unfold actL
  repeat' split
  all_goals first
    | exact begin_L hle _ _ _
    | omega
theorem Szs.act {W W' : Nat} {M : Tab FileE} (h : Szs W M) (left : Int) {a : ActE} (hw : W + actW a ≤ W') : Szs W' (actM M left a) := by
  have e : actW a = a.name.size + a.to.size + a.data.size + a.pn + 1 := rfl
  have hm : Szs W' M := h.mono (by omega)
  have hf := h.file a.name.data.toList
  have hn : a.name.data.toList.length = a.name.size := toList_length _
  have ht : a.to.data.toList.length = a.to.size := toList_length _
  have hd : a.data.data.toList.length = a.data.size := toList_length _
  unfold actM
  split
  · unfold appM
    split
    · exact hm.put (by omega) (by rw [List.length_append]; omega) (by rw [List.length_append]; simp only; omega)
    · exact hm
  split
  · unfold syncM
    split
    · exact hm.put (by omega) (by simp only; omega) (Nat.le_refl _)
    · exact hm
  split
  · unfold renM
    split
    · exact (hm.put (by omega) (by omega) hf.2).del _
    · exact hm
  split
  · unfold remM
    split
    · exact hm.del _
    · exact hm
  · exact hm
end Go.Proofs.Ytbighckpogfcaaa
