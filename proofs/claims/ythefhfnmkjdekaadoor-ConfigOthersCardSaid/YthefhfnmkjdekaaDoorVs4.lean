/- The walk of ConfigSelects. -/
import Derived.Test.YthefhfnmkjdekaaDoorVs3
namespace Go.Proofs.YthefhfnmkjdekaaDoor
open Go.RowKit
set_option maxRecDepth 100000
theorem selR_form {w : World} {v : VT} {a : VA} {AX : Nat → VA} (hAX : Elems w v a AX) (l : List SetE) (nm : Tx) : ∃ (y : VT) (ay : VA) (cd : Int), selR l nm v AX = .tuple #[.agg (vV y ay), .int .i64 cd] ∧ VAt w y ay := by
  rw [selR]
  cases (selC l nm v).2 with
  | none => exact ⟨.zero, ⟨none, none, 0, 0⟩, _, rfl, VAt.zero w⟩
  | some i =>
    cases hx : v.l[i]? with
    | none => exact ⟨.zero, ⟨none, none, 0, 0⟩, (selC l nm v).1, by rw [selV, hx], VAt.zero w⟩
    | some x =>
      obtain ⟨_, _, _, hat, _⟩ := hAX i x hx
      exact ⟨x, AX i, (selC l nm v).1, by rw [selV, hx], hat⟩
set_option maxHeartbeats 2000000 in
theorem cfgselects_any (w : World) (A : Option Addr) (c : Nat) (l : List SetE) (hl : l.length ≤ maxLen) (hr : Rd w 2 A l.length (setsV l)) (N : ByteArray) (v : VT) (a : VA) (h : VAt w v a) (hM : MaxL w) :
    Calls Tryd.prog 5 #[.slice A l.length c, .string N, .agg (vV v a)] w fun e w' => e = .returned (.bool true) ∧ Below w.heap.size w w' := by
  obtain ⟨hbx0, hb0⟩ := box_value w v a h
  obtain ⟨W1, hW1⟩ : ∃ W1, W1 = w.alloc (.cells (vV v a) 40) := ⟨_, rfl⟩
  have q := hbx0.five
  rw [← hW1] at hbx0 hb0
  have bxc := fun (W : World) (hb : Below W1.heap.size W1 W) => (hbx0.below hb).five
  have cG := rgreat_any W1 A c l hl (hr.below_all hb0)
  have cV := fun (W : World) (hb : Below W1.heap.size W1 W) => vgreat_some W v a (hbx0.below hb).at_
  have cF := fun (W : World) (hb : Below W1.heap.size W1 W) => fixed_any W (hM.on (hb0.trans (hb.mono hb0.size)))
  rw [vV_eq] at cV q hW1 ⊢
  obtain ⟨g, hg⟩ : ∃ g, g = w.heap.size := ⟨_, rfl⟩
  rw [← hg] at bxc
  obtain ⟨n, hn⟩ : ∃ n, n = v.l.length := ⟨_, rfl⟩
  obtain ⟨nk, hnk⟩ : ∃ n, n = v.ks.length := ⟨_, rfl⟩
  obtain ⟨S, hS⟩ : ∃ S, S = strB v.s := ⟨_, rfl⟩
  have hlL := h.lenL
  have hlK := h.lenK
  rw [← hn] at hlL
  rw [← hnk] at hlK
  unfold maxLen at hlL hlK
  have HG := hid2 hg
  have HB := hid2 hb0
  have HW := hid2 hW1
  have CF := hid2 cF
  have HR := hid2 hr
  have HX0 := hid2 hbx0
  have HAT := hid2 h
  cases hgr : greatE l with
  | true =>
    rw [hgr] at cG
    have CG := hid2 cG
    rw [← hn, ← hnk, ← hS] at q hW1 ⊢
    have HW := hid2 hW1
    obtain ⟨q0, q1, q2, q3, q4⟩ := q
    clear cG hW1 hb0 hbx0 hr hM h cF cV bxc hgr hg hn hnk hS
    go_enter Tryd.func5, Tryd.ntmps5
    go_wp2_with (first
      | (go_at_call 7; rw [← HW.out]; refine CG.out.mono ?_; rintro e w1 ⟨rfl, hw⟩; subst w1)
      | (go_at_call 9; refine (CF.out _ (Below.refl _ _)).mono ?_; rintro e w2 ⟨rfl, hb2⟩))
    go_ret
    exact ⟨rfl, HB.out.trans (hb2.mono HB.out.size)⟩
  | false =>
    rw [hgr] at cG
    have CG := hid2 cG
    by_cases h100 : (100 : Int) < N.size
    · rw [← hn, ← hnk, ← hS] at q hW1 ⊢
      have HW := hid2 hW1
      obtain ⟨q0, q1, q2, q3, q4⟩ := q
      clear cG hW1 hb0 hbx0 hr hM h cF cV bxc hgr hg hn hnk hS
      go_enter Tryd.func5, Tryd.ntmps5
      go_wp2_with (first
        | (go_at_call 7; rw [← HW.out]; refine CG.out.mono ?_; rintro e w1 ⟨rfl, hw⟩; subst w1)
        | (go_at_call 9; refine (CF.out _ (Below.refl _ _)).mono ?_; rintro e w2 ⟨rfl, hb2⟩))
      go_ret
      exact ⟨rfl, HB.out.trans (hb2.mono HB.out.size)⟩
    · obtain ⟨h30, hs⟩ := short_great hgr
      obtain ⟨AX, hAX⟩ := elems_of h
      obtain ⟨y, ay, cd, hR, hy⟩ := selR_form hAX l N.data.toList
      have c1 := fun (W : World) (hb : Below W1.heap.size W1 W) => select_any W A c l N.data.toList v a AX (by omega) hs (hr.below_all (hb0.trans (hb.mono hb0.size))) (hbx0.below hb).at_ (hAX.below (hb0.trans (hb.mono hb0.size)))
      have c2 := fun (W : World) (hb : Below W1.heap.size W1 W) => rselect_any W A c l N.data.toList v a AX (by omega) hs (hr.below_all (hb0.trans (hb.mono hb0.size))) (hbx0.below hb).at_ (hAX.below (hb0.trans (hb.mono hb0.size)))
      have c3 := fun (W : World) (hb : Below W1.heap.size W1 W) => vsame_any y.total y (Nat.le_refl _) W ay (VAt.below (hb0.trans (hb.mono hb0.size)) y ay hy)
      rw [strB_of, hR, vV_eq] at c1 c2
      rw [vV_eq] at c1 c2 c3
      rw [← hn, ← hnk, ← hS] at c1 c2 cV q hW1 bxc ⊢
      have HW := hid2 hW1
      have C1 := hid2 c1
      have C2 := hid2 c2
      have C3 := hid2 c3
      have CV := hid2 cV
      have BXC := hid2 bxc
      obtain ⟨q0, q1, q2, q3, q4⟩ := q
      obtain ⟨Y, hY⟩ : ∃ Y, Y = strB y.s := ⟨_, rfl⟩
      clear cG hW1 hb0 hbx0 hr hM h cF cV bxc hgr hg hn hnk hS c1 c2 c3 hR hy hAX h30 hs hY
      go_enter Tryd.func5, Tryd.ntmps5
      go_wp2_with (first
        | (go_at_call 7; rw [← HW.out, ← HG.out]; refine CG.out.mono ?_; rintro e w1 ⟨rfl, hw⟩; subst w1; obtain ⟨b0, b1, b2, b3, b4⟩ := BXC.out W1 (Below.refl _ _); clear q0 q1 q2 q3 q4)
        | (go_at_call 17; refine (CV.out _ (Below.refl _ _)).mono ?_; rintro e w2 ⟨⟨bb, rfl⟩, hb2⟩; clear b0 b1 b2 b3 b4; obtain ⟨b0, b1, b2, b3, b4⟩ := BXC.out w2 hb2; cases bb)
        | (go_at_call 18; refine (C1.out w2 hb2).mono ?_; rintro e w3 ⟨rfl, hc3⟩; have hb3 := hb2.trans (hc3.mono hb2.size); have hq3 := hb3.alloc hb3.size (.cells #[.int .i64 y.k, .int .i64 y.n, .string (strB y.s), .slice ay.L y.l.length ay.cL, .slice ay.K y.ks.length ay.cK] 40); clear b0 b1 b2 b3 b4; obtain ⟨b0, b1, b2, b3, b4⟩ := BXC.out (w3.alloc (.cells #[.int .i64 y.k, .int .i64 y.n, .string (strB y.s), .slice ay.L y.l.length ay.cL, .slice ay.K y.ks.length ay.cK] 40)) hq3)
        | (go_at_call 19; refine (C2.out (w3.alloc (.cells #[.int .i64 y.k, .int .i64 y.n, .string (strB y.s), .slice ay.L y.l.length ay.cL, .slice ay.K y.ks.length ay.cK] 40)) hq3).mono ?_; rintro e w4 ⟨rfl, hc4⟩; have hb4 := hq3.trans (hc4.mono hq3.size); have hq4 := hb4.alloc hb4.size (.cells #[.int .i64 y.k, .int .i64 y.n, .string (strB y.s), .slice ay.L y.l.length ay.cL, .slice ay.K y.ks.length ay.cK] 40); clear b0 b1 b2 b3 b4; have hrow := heap_alloc_new w3 (.cells #[.int .i64 y.k, .int .i64 y.n, .string (strB y.s), .slice ay.L y.l.length ay.cL, .slice ay.K y.ks.length ay.cK] 40); have hrow4 := (hc4.block _ (heap_lt hrow)).trans hrow; have hrow5 := (Below.heap_alloc w4 (.cells #[.int .i64 y.k, .int .i64 y.n, .string (strB y.s), .slice ay.L y.l.length ay.cL, .slice ay.K y.ks.length ay.cK] 40) _ (heap_lt hrow4)).trans hrow4;
            have s0 := cell_of_row (w4.alloc (.cells #[.int .i64 y.k, .int .i64 y.n, .string (strB y.s), .slice ay.L y.l.length ay.cL, .slice ay.K y.ks.length ay.cK] 40)) _ 0 _ _ _ hrow5; have s1 := cell_of_row (w4.alloc (.cells #[.int .i64 y.k, .int .i64 y.n, .string (strB y.s), .slice ay.L y.l.length ay.cL, .slice ay.K y.ks.length ay.cK] 40)) _ 1 _ _ _ hrow5; have s2 := cell_of_row (w4.alloc (.cells #[.int .i64 y.k, .int .i64 y.n, .string (strB y.s), .slice ay.L y.l.length ay.cL, .slice ay.K y.ks.length ay.cK] 40)) _ 2 _ _ _ hrow5; have s3 := cell_of_row (w4.alloc (.cells #[.int .i64 y.k, .int .i64 y.n, .string (strB y.s), .slice ay.L y.l.length ay.cL, .slice ay.K y.ks.length ay.cK] 40)) _ 3 _ _ _ hrow5; have s4 := cell_of_row (w4.alloc (.cells #[.int .i64 y.k, .int .i64 y.n, .string (strB y.s), .slice ay.L y.l.length ay.cL, .slice ay.K y.ks.length ay.cK] 40)) _ 4 _ _ _ hrow5; clear hrow hrow4 hrow5)
        | (go_at_call 20; refine (C3.out (w4.alloc (.cells #[.int .i64 y.k, .int .i64 y.n, .string (strB y.s), .slice ay.L y.l.length ay.cL, .slice ay.K y.ks.length ay.cK] 40)) hq4).mono ?_; rintro e w5 ⟨rfl, hc5⟩; have hb5 := hq4.trans (hc5.mono hq4.size))
        | (go_at_call 9; refine (CF.out w5 hb5).mono ?_; rintro e w6 ⟨rfl, hc6⟩; have hb6 := hb5.trans (hc6.mono hb5.size))
        | (go_at_call 9; refine (CF.out w2 hb2).mono ?_; rintro e w6 ⟨rfl, hc6⟩; have hb6 := hb2.trans (hc6.mono hb2.size)))
      all_goals go_ret
      all_goals exact ⟨by first | rfl | simp, HB.out.trans (hb6.mono HB.out.size)⟩
end Go.Proofs.YthefhfnmkjdekaaDoor
