/- The chapter's examples: what cycleAlive answers. -/
import Derived.Test.YtccilmnlepekeaaCyc20
import Derived.Test.YtccilmnlepekeaaCyr2
namespace Go.Proofs.Ytccilmnlepekeaa
open Go.RowKit
theorem lit_rd {w W : World} {g : Nat} {r : List Int} (h : W.heap[g]? = some (.cells (intV r).toArray 3 (0, 0))) : Rd W 1 (some ⟨g, 0, none⟩) r.length (intV r) :=
  Box.rd (⟨_, h⟩ : Box W g (intV r)) (intV_length r)
/-- a graph of three rows, built in place -/
theorem graph3 (w : World) (r0 r1 r2 : List Int) :
    GRd ((((w.alloc (.cells (intV r0).toArray 3)).alloc (.cells (intV r1).toArray 3)).alloc (.cells (intV r2).toArray 3)).alloc (.cells #[.slice (some ⟨w.heap.size, 0, none⟩) r0.length r0.length, .slice (some ⟨w.heap.size + 1, 0, none⟩) r1.length r1.length, .slice (some ⟨w.heap.size + 1 + 1, 0, none⟩) r2.length r2.length] 25)) (some ⟨w.heap.size + 1 + 1 + 1, 0, none⟩) [r0, r1, r2] := by
  obtain ⟨W1, hW1⟩ : ∃ W1, W1 = w.alloc (.cells (intV r0).toArray 3) := ⟨_, rfl⟩
  obtain ⟨W2, hW2⟩ : ∃ W2, W2 = W1.alloc (.cells (intV r1).toArray 3) := ⟨_, rfl⟩
  obtain ⟨W3, hW3⟩ : ∃ W3, W3 = W2.alloc (.cells (intV r2).toArray 3) := ⟨_, rfl⟩
  rw [← hW1, ← hW2, ← hW3]
  have z1 : W1.heap.size = w.heap.size + 1 := by rw [hW1]; simp
  have z2 : W2.heap.size = w.heap.size + 1 + 1 := by rw [hW2, World.size_alloc, z1]
  have z3 : W3.heap.size = w.heap.size + 1 + 1 + 1 := by rw [hW3, World.size_alloc, z2]
  have h0 : W1.heap[w.heap.size]? = some (.cells (intV r0).toArray 3 (0, 0)) := by rw [hW1]; exact heap_alloc_new w _
  have h1 : W2.heap[w.heap.size + 1]? = some (.cells (intV r1).toArray 3 (0, 0)) := by rw [hW2, ← z1]; exact heap_alloc_new W1 _
  have h2 : W3.heap[w.heap.size + 1 + 1]? = some (.cells (intV r2).toArray 3 (0, 0)) := by rw [hW3, ← z2]; exact heap_alloc_new W2 _
  have h0' : W2.heap[w.heap.size]? = some (.cells (intV r0).toArray 3 (0, 0)) := by rw [hW2, Below.heap_alloc _ _ _ (by omega)]; exact h0
  have h0'' : W3.heap[w.heap.size]? = some (.cells (intV r0).toArray 3 (0, 0)) := by rw [hW3, Below.heap_alloc _ _ _ (by omega)]; exact h0'
  have h1' : W3.heap[w.heap.size + 1]? = some (.cells (intV r1).toArray 3 (0, 0)) := by rw [hW3, Below.heap_alloc _ _ _ (by omega)]; exact h1
  obtain ⟨W4, hW4⟩ : ∃ W4, W4 = W3.alloc (.cells #[.slice (some ⟨w.heap.size, 0, none⟩) r0.length r0.length, .slice (some ⟨w.heap.size + 1, 0, none⟩) r1.length r1.length, .slice (some ⟨w.heap.size + 1 + 1, 0, none⟩) r2.length r2.length] 25) := ⟨_, rfl⟩
  rw [← hW4]
  have hb : Below W3.heap.size W3 W4 := by rw [hW4]; exact (Below.refl _ _).alloc (Nat.le_refl _) _
  have hB : Box W4 (w.heap.size + 1 + 1 + 1) [.slice (some ⟨w.heap.size, 0, none⟩) r0.length r0.length, .slice (some ⟨w.heap.size + 1, 0, none⟩) r1.length r1.length, .slice (some ⟨w.heap.size + 1 + 1, 0, none⟩) r2.length r2.length] := by
    rw [hW4, ← z3]
    exact Box.new W3 _ _
  refine ⟨_, Box.rd hB rfl, fun i row hi => ?_⟩
  match i, hi with
  | 0, hi =>
    obtain rfl : r0 = row := by simpa using hi
    exact ⟨_, _, rfl, (lit_rd (w := w) h0'').below_all hb⟩
  | 1, hi =>
    obtain rfl : r1 = row := by simpa using hi
    exact ⟨_, _, rfl, (lit_rd (w := w) h1').below_all hb⟩
  | 2, hi =>
    obtain rfl : r2 = row := by simpa using hi
    exact ⟨_, _, rfl, (lit_rd (w := w) h2).below_all hb⟩
  | i + 3, hi => simp at hi
theorem small3 {r0 r1 r2 : List Int} (h0 : r0.length ≤ 300) (h1 : r1.length ≤ 300) (h2 : r2.length ≤ 300) : Small [r0, r1, r2] := by
  refine ⟨by simp, fun i row hi => ?_⟩
  match i, hi with
  | 0, hi => obtain rfl : r0 = row := by simpa using hi
             exact h0
  | 1, hi => obtain rfl : r1 = row := by simpa using hi
             exact h1
  | 2, hi => obtain rfl : r2 = row := by simpa using hi
             exact h2
  | i + 3, hi => simp at hi
theorem ordG_A : ordG [[2], [], []] = some [1, 2, 0] := by decide +kernel
theorem ordG_B : ordG [[1], [0], []] = none := by decide +kernel
theorem ringL_B : ringL [[1], [0], []] = [0, 1] := by decide +kernel
theorem alive1 (W : World) (A : Option Addr) (hg : GRd W A [[2], [], []]) :
    Calls Try.prog 10 #[.slice A 3 3] W fun e w' => ∃ (A' : Option Addr) (c' : Nat), e = .returned (.tuple #[.slice A' 3 c', .bool true]) ∧ Rd w' 1 A' 3 (intV [1, 2, 0]) ∧ Below W.heap.size W w' := by
  refine (corder_any W A 3 _ hg (small3 (by decide) (by decide) (by decide))).mono ?_
  rintro e w' (⟨l, A', c', h1, h2, h3, h4⟩ | ⟨h1, _⟩)
  · rw [ordG_A] at h1
    cases h1
    exact ⟨A', c', h2, h3.rd, h4⟩
  · rw [ordG_A] at h1
    cases h1
theorem alive2 (W : World) (A : Option Addr) (hg : GRd W A [[1], [0], []]) :
    Calls Try.prog 10 #[.slice A 3 3] W fun e w' => e = .returned (.tuple #[.slice none 0 0, .bool false]) ∧ Below W.heap.size W w' := by
  refine (corder_any W A 3 _ hg (small3 (by decide) (by decide) (by decide))).mono ?_
  rintro e w' (⟨l, A', c', h1, h2, h3, h4⟩ | ⟨h1, h2, h3⟩)
  · rw [ordG_B] at h1
    cases h1
  · exact ⟨h2, h3⟩
theorem alive3 (W : World) (A : Option Addr) (hg : GRd W A [[1], [0], []]) :
    Calls Try.prog 13 #[.slice A 3 3] W fun e w' => ∃ (A' : Option Addr) (c' : Nat), e = .returned (.slice A' 2 c') ∧ Rd w' 1 A' 2 (intV [0, 1]) ∧ Below W.heap.size W w' := by
  refine (cring_any W A 3 _ hg (small3 (by decide) (by decide) (by decide))).mono ?_
  rintro e w' ⟨A', c', h1, h2, h3⟩
  rw [ringL_B] at h1 h2
  exact ⟨A', c', h1, h2.rd, h3⟩
theorem alive_same (W : World) (A : Option Addr) (c n : Nat) (r : List Int) (cs : Array Value) (hcs : cs = (intV r).toArray) (hn : r.length = n) (hl : n ≤ 1000) (h : Rd W 1 A n (intV r)) :
    Calls Try.prog 12 #[.slice A n c, .slice (some ⟨W.heap.size, 0, none⟩) n n] (W.alloc (.cells cs 3)) fun e w' => e = .returned (.bool true) ∧ Below W.heap.size W w' := by
  subst hn
  subst hcs
  have hb : Below W.heap.size W (W.alloc (.cells (intV r).toArray 3)) := (Below.refl _ _).alloc (Nat.le_refl _) _
  refine (same18_any _ A (some ⟨W.heap.size, 0, none⟩) c r.length r r (h.below_all hb) (lit_rd (w := W) (heap_alloc_new W _)) (by omega) (by omega)).mono ?_
  rintro e w' ⟨rfl, h2⟩
  exact ⟨by simp, hb.trans (h2.mono hb.size)⟩
set_option maxRecDepth 100000 in
set_option maxHeartbeats 2000000 in
theorem cycalive_any (w : World) : Calls Try.prog 8 #[] w fun e w' => e = .returned (.bool true) ∧ Below w.heap.size w w' := by
  have h1 := fun (W : World) => alive1 _ _ (graph3 W [2] [] [])
  have h2 := fun (W : World) => alive2 _ _ (graph3 W [1] [0] [])
  have h3 := fun (W : World) => alive3 _ _ (graph3 W [1] [0] [])
  have h4 := fun (W : World) (A : Option Addr) (c : Nat) (h : Rd W 1 A 3 (intV [1, 2, 0])) => alive_same W A c 3 [1, 2, 0] #[.int .i64 1, .int .i64 2, .int .i64 0] rfl rfl (by decide) h
  have h5 := fun (W : World) (A : Option Addr) (c : Nat) (h : Rd W 1 A 2 (intV [0, 1])) => alive_same W A c 2 [0, 1] #[.int .i64 0, .int .i64 1] rfl rfl (by decide) h
  have hbl : ∀ (W : World) (a b c d : Obj), Below W.heap.size W ((((W.alloc a).alloc b).alloc c).alloc d) := fun W a b c d => ((((Below.refl _ W).alloc (Nat.le_refl _) _).alloc (by simp) _).alloc (by simp; omega) _).alloc (by simp; omega) _
  have H1 := hid2 h1
  have H2 := hid2 h2
  have H3 := hid2 h3
  have H4 := hid2 h4
  have H5 := hid2 h5
  have HBL := hid2 hbl
  clear h1 h2 h3 h4 h5 hbl
  go_enter Try.func8, Try.ntmps8
  go_wp2_with (first
    | (go_at_call 10; refine (H1.out w).mono ?_; clear H1; rintro e w1 ⟨A1, c1, rfl, hr1, hb1⟩; have HR1 := hid2 hr1; have HB1 := hid2 ((HBL.out w _ _ _ _).trans (hb1.mono (HBL.out w _ _ _ _).size)); clear hr1 hb1)
    | (go_at_call 10; refine (H2.out w1).mono ?_; clear H2; rintro e w2 ⟨rfl, hb2⟩; have hb12 := (HBL.out w1 _ _ _ _).trans (hb2.mono (HBL.out w1 _ _ _ _).size); have HR2 := hid2 (HR1.out.below_all hb12); have HB2 := hid2 (HB1.out.trans (hb12.mono HB1.out.size)); clear hb2 hb12)
    | (go_at_call 12; refine (H4.out w2 A1 c1 HR2.out).mono ?_; clear H4; rintro e w3 ⟨rfl, hb3⟩; have HB3 := hid2 (HB2.out.trans (hb3.mono HB2.out.size)); clear hb3)
    | (go_at_call 13; refine (H3.out w3).mono ?_; clear H3; rintro e w4 ⟨A4, c4, rfl, hr4, hb4⟩; have HR4 := hid2 hr4; have hb34 := (HBL.out w3 _ _ _ _).trans (hb4.mono (HBL.out w3 _ _ _ _).size); have HB4 := hid2 (HB3.out.trans (hb34.mono HB3.out.size)); clear hr4 hb4 hb34)
    | (go_at_call 12; refine (H5.out w4 A4 c4 HR4.out).mono ?_; clear H5; rintro e w5 ⟨rfl, hb5⟩; have HB5 := hid2 (HB4.out.trans (hb5.mono HB4.out.size)); clear hb5))
  go_ret
  exact ⟨rfl, HB5.out⟩
end Go.Proofs.Ytccilmnlepekeaa
