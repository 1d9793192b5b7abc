/- Values: value.may and value.Check at any value. -/
import Derived.Test.YthefhfnmkjdekaaDoorVa7
namespace Go.Proofs.YthefhfnmkjdekaaDoor
open Go.RowKit
set_option maxRecDepth 100000
set_option maxHeartbeats 1000000 in
theorem may_low (W : World) (gl deep : Nat) (L nn k : Int) (S : ByteArray) (AL AK : Option Addr) (n nk cL cK : Nat) (hl : Left W gl L) (h0 : 0 ≤ L) (h1 : L ≤ 20000) (hd : (60 : Int) < deep ∨ L - 1 < 0) :
    Calls Tryd.prog 53 #[.agg #[.int .i64 k, .int .i64 nn, .string S, .slice AL n cL, .slice AK nk cK], .int .i64 deep, .pointer (some ⟨gl, 0, none⟩)] W (KPost W gl L False 0 False) := by
  have hlt := hl.lt
  have hwl : IntKind.i64.wrap (L - 1) = L - 1 := by unfold IntKind.wrap; simp [IntKind.bits, IntKind.signed]; omega
  have h4 := m4_of (deep := deep) hl (.cells #[.int .i64 k, .int .i64 nn, .string S, .slice AL n cL, .slice AK nk cK] 40) (L - 1)
  have hl3 : Left (((W.alloc (.cells #[.int .i64 k, .int .i64 nn, .string S, .slice AL n cL, .slice AK nk cK] 40)).alloc (.cells #[.int .i64 deep] 3)).alloc (.cells #[.pointer (some ⟨gl, 0, none⟩)] 84)) gl L := (Below.heap_alloc _ _ _ (by rw [World.size_alloc, World.size_alloc]; omega)).trans ((Below.heap_alloc _ _ _ (by rw [World.size_alloc]; omega)).trans ((Below.heap_alloc _ _ _ hlt).trans hl))
  have hp3 : ((((W.alloc (.cells #[.int .i64 k, .int .i64 nn, .string S, .slice AL n cL, .slice AK nk cK] 40)).alloc (.cells #[.int .i64 deep] 3)).alloc (.cells #[.pointer (some ⟨gl, 0, none⟩)] 84))).cell? ⟨W.heap.size + 1 + 1, 0, none⟩ = some (.pointer (some ⟨gl, 0, none⟩)) := by rw [show W.heap.size + 1 + 1 = ((W.alloc (.cells #[.int .i64 k, .int .i64 nn, .string S, .slice AL n cL, .slice AK nk cK] 40)).alloc (.cells #[.int .i64 deep] 3)).heap.size by rw [World.size_alloc, World.size_alloc]]; exact cell_of_row _ _ 0 _ _ _ (heap_alloc_new _ _)
  have q3 := hl3.cell
  have f3 := hl3.free
  have q4 := h4.left.cell
  have p4 := cell_of_row ((((W.alloc (.cells #[.int .i64 k, .int .i64 nn, .string S, .slice AL n cL, .slice AK nk cK] 40)).alloc (.cells #[.int .i64 deep] 3)).alloc (.cells #[.pointer (some ⟨gl, 0, none⟩)] 84)).setCell ⟨gl, 0, none⟩ (.int .i64 (L - 1))) _ 0 _ _ _ h4.caps.p
  have d4 := cell_of_row ((((W.alloc (.cells #[.int .i64 k, .int .i64 nn, .string S, .slice AL n cL, .slice AK nk cK] 40)).alloc (.cells #[.int .i64 deep] 3)).alloc (.cells #[.pointer (some ⟨gl, 0, none⟩)] 84)).setCell ⟨gl, 0, none⟩ (.int .i64 (L - 1))) _ 0 _ _ _ h4.caps.d
  have HL := hid2 hl
  clear h4 hl3
  by_cases hdd : (60 : Int) < deep
  · clear hd
    go_enter Tryd.func53, Tryd.ntmps53
    go_wp2_with fail
    go_ret
    exact kpost_no (deep := deep) rfl (by have hl := HL.out; (repeat first | (with_reducible exact m4_of (by assumption) _ _) | (with_reducible refine M5.drew ?_) | (with_reducible refine M5.alloc ?_ _) | (with_reducible refine M5.set ?_ (by omega) _))) id
  · have hL := hd.resolve_left hdd
    clear hd
    go_enter Tryd.func53, Tryd.ntmps53
    go_wp2_with fail
    go_ret
    exact kpost_no (deep := deep) rfl (by have hl := HL.out; (repeat first | (with_reducible exact m4_of (by assumption) _ _) | (with_reducible refine M5.drew ?_) | (with_reducible refine M5.alloc ?_ _) | (with_reducible refine M5.set ?_ (by omega) _))) id
theorem fits_iff {v : VT} {deep : Nat} {L : Int} : Fits v deep L ↔ (nodeB v = true ∧ FitsL v.l (deep + 1) (L - 1)) := by
  have ht := total_eq v
  have hd := depth_eq v
  have ho := v.okAll_eq
  unfold Fits FitsL
  constructor
  · rintro ⟨h1, h2, h3⟩
    rw [ho, Bool.and_eq_true] at h3
    exact ⟨h3.2, by omega, by omega, h3.1⟩
  · rintro ⟨h3, h1, h2, h4⟩
    exact ⟨by omega, by omega, by rw [ho, h3, h4]; rfl⟩
theorem may_of_k {v : VT} {deep gl : Nat} {L : Int} {W w' : World} {e : Ending} (h : KPost W gl L (FitsL v.l (deep + 1) (L - 1)) (VT.totals v.l) (nodeB v = true) e w') : MayPost v deep L gl W e w' := by
  obtain ⟨r, L', he, hl, hg, hr⟩ := h
  refine ⟨r, L', he, hl, hg, hr.imp (fun x => ⟨x.1, ?_, fits_iff.2 x.2.2⟩) fun x => ⟨x.1, fun y => x.2 (fits_iff.1 y)⟩⟩
  have := total_eq v
  omega
theorem may_all : ∀ (N : Nat) (v : VT), v.total ≤ N → ∀ (wB : World) (gl : Nat) (a : VA), wB.heap.size ≤ gl → VAt wB v a → MayC wB gl v a := by
  intro N
  induction N with
  | zero =>
    intro v hv
    have := total_pos v
    omega
  | succ N ih =>
    intro v hv wB gl a hgl h W deep L hb hl h0 h1 hd1 hd2
    rw [vV_eq]
    by_cases hlow : (60 : Int) < deep ∨ L - 1 < 0
    · refine (may_low W gl deep L v.n v.k (strB v.s) a.L a.K v.l.length v.ks.length a.cL a.cK hl h0 h1 hlow).mono ?_
      rintro e w' ⟨r, L', he, hl', hg, hr⟩
      refine ⟨r, L', he, hl', hg, hr.imp (fun x => x.2.2.1.elim) fun x => ⟨x.1, fun y => ?_⟩⟩
      have ht := total_eq v
      have hdp := depth_eq v
      obtain ⟨y1, y2, _⟩ := y
      omega
    · have hdp : deep ≤ 60 := by omega
      have hL : ¬ L - 1 < 0 := by omega
      have hlenL := h.lenL
      have hlenK := h.lenK
      have hEL : ∀ (W : World), Below wB.heap.size wB W → ∀ (i : Nat) (x : VT), v.l[i]? = some x → ∃ b o ax, a.L = some ⟨b, o, none⟩ ∧ MayC wB gl x ax ∧ W.cell? ⟨b, o + i * 5, none⟩ = some (.int .i64 x.k) ∧ W.cell? ⟨b, o + i * 5 + 1, none⟩ = some (.int .i64 x.n) ∧ W.cell? ⟨b, o + i * 5 + 2, none⟩ = some (.string (strB x.s)) ∧ W.cell? ⟨b, o + i * 5 + 3, none⟩ = some (.slice ax.L x.l.length ax.cL) ∧ W.cell? ⟨b, o + i * 5 + 4, none⟩ = some (.slice ax.K x.ks.length ax.cK) := by
        intro W hb i x hx
        obtain ⟨b, o, ax, e1, hax, c0, c1, c2, c3, c4⟩ := h.elem5 hx
        have lt : b < wB.heap.size := World.block_lt_of_cell? wB _ c0
        exact ⟨b, o, ax, e1, ih x (by have := total_lt hx; omega) wB gl ax hgl hax, (hb.cell (p := ⟨b, _, none⟩) lt).trans c0, (hb.cell (p := ⟨b, _, none⟩) lt).trans c1, (hb.cell (p := ⟨b, _, none⟩) lt).trans c2, (hb.cell (p := ⟨b, _, none⟩) lt).trans c3, (hb.cell (p := ⟨b, _, none⟩) lt).trans c4⟩
      have has : HAS W gl deep L a.L v.l.length a.cL (FitsL v.l (deep + 1) (L - 1)) (VT.totals v.l) := fun W' m =>
        has_may (wB := wB) (idx_any hlenL hEL W' deep (L - 1) (grown_below hb m.grow hgl) m.left (by omega) (by omega) hdp hgl _ _ m.caps)
      by_cases k0 : v.k = 0
      · rw [k0]
        refine (may_k0 W gl deep L v.n (strB v.s) a.L a.K v.l.length v.ks.length a.cL a.cK _ (nodeB v = true) ?_ _ hl h0 h1 hdp hL hlenL hlenK has).mono fun _ _ => may_of_k
        simp only [nodeB, k0, toList_strB]; simp; try grind
      · by_cases k1 : v.k = 1
        · rw [k1]
          refine (may_k1 W gl deep L v.n (strB v.s) a.L a.K v.l.length v.ks.length a.cL a.cK _ (nodeB v = true) ?_ _ hl h0 h1 hdp hL hlenL hlenK has).mono fun _ _ => may_of_k
          simp only [nodeB, k1, toList_strB]; simp; try grind
        · by_cases k2 : v.k = 2
          · rw [k2]
            refine (may_k2 W gl deep L v.n (strB v.s) a.L a.K v.l.length v.ks.length a.cL a.cK _ (nodeB v = true) ?_ _ hl h0 h1 hdp hL hlenL hlenK has).mono fun _ _ => may_of_k
            simp only [nodeB, k2, toList_strB]; simp; try grind
          · by_cases k3 : v.k = 3
            · rw [k3]
              refine (may_k3 W gl deep L v.n (strB v.s) a.L a.K v.l.length v.ks.length a.cL a.cK _ (nodeB v = true) ?_ _ hl h0 h1 hdp hL hlenL hlenK has).mono fun _ _ => may_of_k
              simp only [nodeB, k3, strB_size]; simp; try grind
            · by_cases k4 : v.k = 4
              · rw [k4]
                refine (may_k4 W gl deep L v.n (strB v.s) a.L a.K v.l.length v.ks.length a.cL a.cK _ (nodeB v = true) ?_ _ hl h0 h1 hdp hL hlenL hlenK has).mono fun _ _ => may_of_k
                simp only [nodeB, k4, toList_strB]; simp; try grind
              · by_cases k5 : v.k = 5
                · rw [k5]
                  have hrk : ∀ W', M5 W gl deep (L - 1) W' → Calls Tryd.prog 78 #[.slice a.K v.ks.length a.cK] W' fun e w2 => e = .returned (.bool (risesB v.ks && decide (v.ks.length ≤ 1000))) ∧ w2 = W' := fun W' m =>
                    rises_any W' a.K a.cK v.ks hlenK (VAt.below (grown_below hb m.grow hgl) v a h).keys
                  refine (may_k5 W gl deep L v.n (strB v.s) a.L a.K v.l.length v.ks.length a.cL a.cK _ hrk _ (nodeB v = true) ?_ _ hl h0 h1 hdp hL hlenL hlenK has).mono fun _ _ => may_of_k
                  simp only [nodeB, keysB, k5, toList_strB]; simp; grind
                · refine (may_kk W gl deep L v.n (strB v.s) a.L a.K v.l.length v.ks.length a.cL a.cK v.k k0 k1 k2 k3 k4 k5 _ (nodeB v = true) ?_ _ hl h0 h1 hdp hL hlenL hlenK has).mono fun _ _ => may_of_k
                  simp only [nodeB, k0, k1, k2, k3, k4, k5]; simp

set_option maxHeartbeats 1000000 in
theorem vcheck_any (w : World) (v : VT) (a : VA) (h : VAt w v a) : Calls Tryd.prog 33 #[.agg (vV v a)] w fun e w' => e = .returned (.bool v.may) ∧ Below w.heap.size w w' := by
  obtain ⟨hbx, hb0⟩ := box_value w v a h
  have q := hbx.five
  have hz : (w.alloc (.cells (vV v a) 40)).heap.size = w.heap.size + 1 := World.size_alloc ..
  have hl1 : Left ((w.alloc (.cells (vV v a) 40)).alloc (.cells #[.int .i64 20000] 3)) (w.heap.size + 1) 20000 := by rw [← hz]; exact heap_alloc_new _ _
  have hb1 : Below w.heap.size w ((w.alloc (.cells (vV v a) 40)).alloc (.cells #[.int .i64 20000] 3)) := hb0.alloc (by omega) _
  have q1 := (hbx.below ((Below.refl _ _).alloc (Nat.le_refl _) (.cells #[.int .i64 20000] 3))).five
  obtain ⟨W1, hW1⟩ : ∃ W1, W1 = ((w.alloc (.cells (vV v a) 40)).alloc (.cells #[.int .i64 20000] 3)) := ⟨_, rfl⟩
  have cm := may_all v.total v (Nat.le_refl _) w (w.heap.size + 1) a (by omega) h W1 1 20000 (by rw [hW1]; exact hb1) (by rw [hW1]; exact hl1) (by omega) (by omega) (by omega) (by omega)
  have hfit : Fits v 1 20000 ↔ v.may = true := by
    rw [VT.may, Fits]
    simp only [Bool.and_eq_true, decide_eq_true_eq]
    constructor
    · rintro ⟨h1, h2, h3⟩
      exact ⟨⟨by omega, by omega⟩, h3⟩
    · rintro ⟨⟨h1, h2⟩, h3⟩
      exact ⟨by omega, by omega, h3⟩
  obtain ⟨y, hy⟩ : ∃ y, y = v.may := ⟨_, rfl⟩
  rw [← hy] at hfit ⊢
  rw [vV_eq] at q q1 cm hW1 ⊢
  obtain ⟨r0, r1, r2, r3, r4⟩ := q1
  obtain ⟨s0, s1, s2, s3, s4⟩ := q
  have CM := hid2 cm
  have HW1 := hid2 hW1
  have hb1' : Below w.heap.size w W1 := by rw [hW1]; exact hb1
  have HB1 := hid2 hb1'
  have HF := hid2 hfit
  clear cm hW1 hb1 hb1' hfit hl1 hbx hb0 hz h hy
  go_enter Tryd.func33, Tryd.ntmps33
  go_wp2_with (go_at_call 53; rw [← HW1.out]; refine CM.out.mono ?_; rintro e w2 ⟨r, L', rfl, hl2, hg2, hr2⟩)
  go_ret
  refine ⟨ret_bool ?_, grown_below HB1.out hg2 (Nat.le_succ _)⟩
  rcases hr2 with ⟨h1, _, h2⟩ | ⟨h1, h2⟩
  · rw [h1, HF.out.1 h2]
  · cases y with
    | false => exact h1
    | true => exact absurd (HF.out.2 rfl) h2
end Go.Proofs.YthefhfnmkjdekaaDoor
