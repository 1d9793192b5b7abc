/- Values: how many, how deep, and whether all may be: the document's Check. -/
import Derived.Test.YthefhfnmkjdekaaDoorVa3n
namespace Go.Proofs.YthefhfnmkjdekaaDoor
open Go.RowKit
set_option maxRecDepth 100000
theorem total_eq (v : VT) : v.total = 1 + VT.totals v.l := by
  cases v
  rw [VT.total]
  rfl
theorem depth_eq (v : VT) : v.depth = 1 + VT.depths v.l := by
  cases v
  rw [VT.depth]
  rfl
theorem totals_take_le (l : List VT) (i : Nat) : VT.totals (l.take i) ≤ VT.totals l := by
  induction l generalizing i with
  | nil => simp
  | cons x l ih =>
    cases i with
    | zero => simp [VT.totals]
    | succ i =>
      have := ih i
      simp only [List.take_succ_cons, VT.totals]
      omega
set_option maxHeartbeats 2000000 in
theorem many_any : ∀ (N : Nat) (v : VT), v.total ≤ N → ∀ (w : World) (a : VA) (most : Nat), most ≤ 100000 → VAt w v a → Calls Tryd.prog 54 #[.agg (vV v a), .int .i64 most] w fun e w' => e = .returned (.int .i64 ((min v.total (most + 1) : Nat) : Int)) ∧ Below w.heap.size w w' := by
  intro N
  induction N with
  | zero =>
    intro v hv
    have := total_pos v
    omega
  | succ N ih =>
    intro v hv w a most hmo h
    have ihx := fun (i : Nat) (x : VT) (hx : v.l[i]? = some x) => ih x (by have := total_lt hx; omega)
    have IHX := hid2 ihx
    obtain ⟨hbx, hb0⟩ := box_value w v a h
    have hV : vV v a = #[.int .i64 v.k, .int .i64 v.n, .string (strB v.s), .slice a.L v.l.length a.cL, .slice a.K v.ks.length a.cK] := rfl
    rw [hV] at hbx hb0 ⊢
    obtain ⟨AL, AK, cL, cK⟩ := a
    obtain ⟨n, hn⟩ : ∃ n, n = v.l.length := ⟨_, rfl⟩
    obtain ⟨nk, hnk⟩ : ∃ n, n = v.ks.length := ⟨_, rfl⟩
    obtain ⟨S, hS⟩ : ∃ S, S = strB v.s := ⟨_, rfl⟩
    have hl := h.lenL
    have hlk := h.lenK
    rw [← hn] at hl
    rw [← hnk] at hlk
    unfold maxLen at hl hlk
    simp only at hbx hb0 ⊢
    rw [← hn, ← hnk, ← hS] at hbx hb0 ⊢
    have hcs := hbx.cells
    rw [← hn, ← hnk, ← hS] at hcs
    obtain ⟨q0, q1, q2, q3, q4⟩ := hcs
    simp only at q3 q4
    obtain ⟨W0, hW⟩ : ∃ W0, W0 = w.alloc (.cells #[.int .i64 v.k, .int .i64 v.n, .string S, .slice AL n cL, .slice AK nk cK] 40) := ⟨_, rfl⟩
    rw [← hW] at hbx hb0
    have HW := hid2 hW
    have HBX := hid2 hbx
    have HB0 := hid2 hb0
    have HN := hid2 hn
    have HNK := hid2 hnk
    have HS := hid2 hS
    have HAT := hid2 h
    obtain ⟨g, hg⟩ : ∃ g, g = w.heap.size := ⟨_, rfl⟩
    have HG := hid2 hg
    have BXC := hid2 (fun (W : World) (hb : Below W0.heap.size W0 W) => show W.cell? ⟨g, 0, none⟩ = some (.int .i64 v.k) ∧ W.cell? ⟨g, 1, none⟩ = some (.int .i64 v.n) ∧ W.cell? ⟨g, 2, none⟩ = some (.string S) ∧ W.cell? ⟨g, 3, none⟩ = some (.slice AL n cL) ∧ W.cell? ⟨g, 4, none⟩ = some (.slice AK nk cK) from by
      have := (HBX.out.below hb).cells
      rw [← HG.out, ← HN.out, ← HNK.out, ← HS.out] at this
      exact this)
    have EL := hid2 (fun (W : World) (hb : Below W0.heap.size W0 W) (i : Nat) (x : VT) (hx : v.l[i]? = some x) => (HBX.out.below hb).at_.elem5 hx)
    have KEY := hid2 (fun (W : World) (hb : Below W0.heap.size W0 W) (i : Nat) (x : Tx) (hx : v.ks[i]? = some x) => (HBX.out.below hb).at_.key hx)
    have htot := total_eq v
    have HTOT := hid2 htot
    clear htot
    clear h hbx hb0 hV hn hnk hS hW hg ih ihx
    go_enter Tryd.func54, Tryd.ntmps54
    go_wp2_with fail
    rw [← HW.out, ← HG.out]
    clear q0 q1 q2 q3 q4
    go_loopw [5, 6] (fun nv iv wr => ∃ (i : Nat), iv = .int .i64 i ∧ i ≤ n ∧ nv = .int .i64 ((min (1 + VT.totals (v.l.take i)) (most + 1) : Nat) : Int) ∧ Below W0.heap.size W0 wr) (fun _ iv _ => n - (intOf iv).toNat)
    case atStart => exact ⟨0, rfl, by omega, by rw [List.take_zero, VT.totals, Nat.min_eq_left (by omega)]; rfl, Below.refl _ _⟩
    case round =>
      obtain ⟨i, rfl, hi, rfl, hbe⟩ := hrel
      have HBE := hid2 hbe
      obtain ⟨q0, q1, q2, q3, q4⟩ := BXC.out wr hbe
      obtain ⟨m, hm⟩ : ∃ m, m = min (1 + VT.totals (v.l.take i)) (most + 1) := ⟨_, rfl⟩
      rw [← hm]
      by_cases hlt : i < n
      · have hil : (i : Int) < n := by omega
        have hi0 : (0 : Int) ≤ i := by omega
        by_cases hmm : m ≤ most
        · have him : (m : Int) ≤ most := by omega
          obtain ⟨x, hx⟩ : ∃ x, v.l[i]? = some x := ⟨_, List.getElem?_eq_getElem (by rw [← HN.out]; exact hlt)⟩
          obtain ⟨b, o, ax, rfl, hax, e0, e1, e2, e3, e4⟩ := EL.out wr hbe i x hx
          have cx := IHX.out i x hx wr ax (most - m) (by omega) hax
          have htk := totals_take hx
          have hnx : min (1 + VT.totals (v.l.take (i + 1))) (most + 1) = m + min x.total (most - m + 1) := by rw [htk]; omega
          have hbd : m + min x.total (most - m + 1) ≤ 200000 := by omega
          have hsub : (most : Int) - (m : Int) = ((most - m : Nat) : Int) := by omega
          obtain ⟨d, hd⟩ : ∃ d, d = most - m := ⟨_, rfl⟩
          obtain ⟨y, hy⟩ : ∃ y, y = min x.total (most - m + 1) := ⟨_, rfl⟩
          rw [← hy] at cx hnx hbd
          rw [← hd] at cx hsub
          rw [show vV x ax = #[.int .i64 x.k, .int .i64 x.n, .string (strB x.s), .slice ax.L x.l.length ax.cL, .slice ax.K x.ks.length ax.cK] from rfl] at cx
          have hw1 : IntKind.i64.wrap ((most : Int) - (m : Int)) = (d : Int) := by rw [hsub]; unfold IntKind.wrap; simp [IntKind.bits, IntKind.signed]; omega
          have hw2 : IntKind.i64.wrap ((m : Int) + (y : Int)) = ((m + y : Nat) : Int) := by unfold IntKind.wrap; simp [IntKind.bits, IntKind.signed]; omega
          have CX := hid2 cx
          have HNX := hid2 hnx
          have HW2 := hid2 hw2
          clear hbe hx hax cx htk hnx hbd hd hy hm hsub
          go_wp2_with (go_at_call 54; refine CX.out.mono ?_; rintro e w2 ⟨rfl, hb2⟩)
          go_roundw
          case rel => exact ⟨i + 1, by go_num, by omega, by rw [HNX.out]; first | rfl | (rw [← HW2.out]) | simp, HBE.out.trans (hb2.mono HBE.out.size)⟩
          case measure => simp [intOf]; omega
        · have him : ¬ (m : Int) ≤ most := by omega
          have hfin : min v.total (most + 1) = m := by
            have := totals_take_le v.l i
            rw [HTOT.out]
            omega
          have HF := hid2 hfin
          clear hbe hfin hm
          go_wp2_with fail
          go_ret
          exact ⟨by rw [HF.out]; rfl, HB0.out.trans (HBE.out.mono HB0.out.size)⟩
      · have hil : ¬ (i : Int) < n := by omega
        have hfin : min v.total (most + 1) = m := by
          rw [HTOT.out, hm, List.take_of_length_le (by have := HN.out; omega)]
        have HF := hid2 hfin
        clear hbe hfin hm
        go_wp2_with fail
        go_ret
        exact ⟨by rw [HF.out]; rfl, HB0.out.trans (HBE.out.mono HB0.out.size)⟩
set_option maxHeartbeats 2000000 in
theorem deep_any : ∀ (N : Nat) (v : VT), v.total ≤ N → ∀ (w : World) (a : VA) (most : Nat), most ≤ 100000 → VAt w v a → Calls Tryd.prog 55 #[.agg (vV v a), .int .i64 most] w fun e w' => e = .returned (.int .i64 ((min v.depth (most + 1) : Nat) : Int)) ∧ Below w.heap.size w w' := by
  intro N
  induction N with
  | zero =>
    intro v hv
    have := total_pos v
    omega
  | succ N ih =>
    intro v hv w a most hmo h
    have ihx := fun (i : Nat) (x : VT) (hx : v.l[i]? = some x) => ih x (by have := total_lt hx; omega)
    have IHX := hid2 ihx
    obtain ⟨hbx, hb0⟩ := box_value w v a h
    have hV : vV v a = #[.int .i64 v.k, .int .i64 v.n, .string (strB v.s), .slice a.L v.l.length a.cL, .slice a.K v.ks.length a.cK] := rfl
    rw [hV] at hbx hb0 ⊢
    obtain ⟨AL, AK, cL, cK⟩ := a
    obtain ⟨n, hn⟩ : ∃ n, n = v.l.length := ⟨_, rfl⟩
    obtain ⟨nk, hnk⟩ : ∃ n, n = v.ks.length := ⟨_, rfl⟩
    obtain ⟨S, hS⟩ : ∃ S, S = strB v.s := ⟨_, rfl⟩
    have hl := h.lenL
    have hlk := h.lenK
    rw [← hn] at hl
    rw [← hnk] at hlk
    unfold maxLen at hl hlk
    simp only at hbx hb0 ⊢
    rw [← hn, ← hnk, ← hS] at hbx hb0 ⊢
    have hcs := hbx.cells
    rw [← hn, ← hnk, ← hS] at hcs
    obtain ⟨q0, q1, q2, q3, q4⟩ := hcs
    simp only at q3 q4
    obtain ⟨W0, hW⟩ : ∃ W0, W0 = w.alloc (.cells #[.int .i64 v.k, .int .i64 v.n, .string S, .slice AL n cL, .slice AK nk cK] 40) := ⟨_, rfl⟩
    rw [← hW] at hbx hb0
    have HW := hid2 hW
    have HBX := hid2 hbx
    have HB0 := hid2 hb0
    have HN := hid2 hn
    have HNK := hid2 hnk
    have HS := hid2 hS
    have HAT := hid2 h
    obtain ⟨g, hg⟩ : ∃ g, g = w.heap.size := ⟨_, rfl⟩
    have HG := hid2 hg
    have BXC := hid2 (fun (W : World) (hb : Below W0.heap.size W0 W) => show W.cell? ⟨g, 0, none⟩ = some (.int .i64 v.k) ∧ W.cell? ⟨g, 1, none⟩ = some (.int .i64 v.n) ∧ W.cell? ⟨g, 2, none⟩ = some (.string S) ∧ W.cell? ⟨g, 3, none⟩ = some (.slice AL n cL) ∧ W.cell? ⟨g, 4, none⟩ = some (.slice AK nk cK) from by
      have := (HBX.out.below hb).cells
      rw [← HG.out, ← HN.out, ← HNK.out, ← HS.out] at this
      exact this)
    have EL := hid2 (fun (W : World) (hb : Below W0.heap.size W0 W) (i : Nat) (x : VT) (hx : v.l[i]? = some x) => (HBX.out.below hb).at_.elem5 hx)
    have KEY := hid2 (fun (W : World) (hb : Below W0.heap.size W0 W) (i : Nat) (x : Tx) (hx : v.ks[i]? = some x) => (HBX.out.below hb).at_.key hx)
    have hdep := depth_eq v
    have HDEP := hid2 hdep
    clear hdep
    clear h hbx hb0 hV hn hnk hS hW hg ih ihx
    go_enter Tryd.func55, Tryd.ntmps55
    cases most with
    | zero =>
      have hfin : min v.depth (0 + 1) = 1 := by rw [HDEP.out]; omega
      have HF := hid2 hfin
      clear hfin
      go_wp2_with fail
      go_ret
      exact ⟨by rw [HF.out]; rfl, by rw [← HW.out]; exact HB0.out⟩
    | succ d =>
      have hm0 : (0 : Int) < (d : Int) + 1 := by omega
      have hwd : IntKind.i64.wrap (d : Int) = d := by unfold IntKind.wrap; simp [IntKind.bits, IntKind.signed]; omega
      go_wp2_with fail
      rw [← HW.out, ← HG.out]
      clear q0 q1 q2 q3 q4
      go_loopw [5, 13] (fun nv iv wr => ∃ (i : Nat), iv = .int .i64 i ∧ i ≤ n ∧ nv = .int .i64 ((min (VT.depths (v.l.take i)) (d + 1) : Nat) : Int) ∧ Below W0.heap.size W0 wr) (fun _ iv _ => n - (intOf iv).toNat)
      case atStart => exact ⟨0, rfl, by omega, by rw [List.take_zero, VT.depths, Nat.zero_min]; rfl, Below.refl _ _⟩
      case round =>
        obtain ⟨i, rfl, hi, rfl, hbe⟩ := hrel
        have HBE := hid2 hbe
        obtain ⟨q0, q1, q2, q3, q4⟩ := BXC.out wr hbe
        obtain ⟨m, hm⟩ : ∃ m, m = min (VT.depths (v.l.take i)) (d + 1) := ⟨_, rfl⟩
        rw [← hm]
        by_cases hlt : i < n
        · have hil : (i : Int) < n := by omega
          have hi0 : (0 : Int) ≤ i := by omega
          obtain ⟨x, hx⟩ : ∃ x, v.l[i]? = some x := ⟨_, List.getElem?_eq_getElem (by rw [← HN.out]; exact hlt)⟩
          obtain ⟨b, o, ax, rfl, hax, e0, e1, e2, e3, e4⟩ := EL.out wr hbe i x hx
          have cx := IHX.out i x hx wr ax d (by omega) hax
          have htk := depths_take hx
          have hnx : min (VT.depths (v.l.take (i + 1))) (d + 1) = max m (min x.depth (d + 1)) := by rw [htk]; omega
          obtain ⟨y, hy⟩ : ∃ y, y = min x.depth (d + 1) := ⟨_, rfl⟩
          rw [← hy] at cx hnx
          rw [show vV x ax = #[.int .i64 x.k, .int .i64 x.n, .string (strB x.s), .slice ax.L x.l.length ax.cL, .slice ax.K x.ks.length ax.cK] from rfl] at cx
          have CX := hid2 cx
          have HNX := hid2 hnx
          clear hbe hx hax cx htk hnx hy hm
          by_cases hym : m < y
          · have hyi : (m : Int) < y := by omega
            go_wp2_with (go_at_call 55; refine CX.out.mono ?_; rintro e w2 ⟨rfl, hb2⟩)
            go_roundw
            case rel => exact ⟨i + 1, by go_num, by omega, by rw [HNX.out, Nat.max_eq_right (by omega)], HBE.out.trans (hb2.mono HBE.out.size)⟩
            case measure => simp [intOf]; omega
          · have hyi : ¬ (m : Int) < y := by omega
            go_wp2_with (go_at_call 55; refine CX.out.mono ?_; rintro e w2 ⟨rfl, hb2⟩)
            go_roundw
            case rel => exact ⟨i + 1, by go_num, by omega, by rw [HNX.out, Nat.max_eq_left (by omega)], HBE.out.trans (hb2.mono HBE.out.size)⟩
            case measure => simp [intOf]; omega
        · have hil : ¬ (i : Int) < n := by omega
          have hfin : min v.depth (d + 1 + 1) = m + 1 := by
            rw [HDEP.out, hm, List.take_of_length_le (by have := HN.out; omega)]
            omega
          have hmb : m ≤ 100001 := by omega
          have hw2 : IntKind.i64.wrap ((m : Int) + 1) = (m : Int) + 1 := by unfold IntKind.wrap; simp [IntKind.bits, IntKind.signed]; omega
          have HF := hid2 hfin
          clear hbe hfin hm
          go_wp2_with fail
          go_ret
          exact ⟨by rw [HF.out]; rfl, HB0.out.trans (HBE.out.mono HB0.out.size)⟩
set_option maxHeartbeats 2000000 in
theorem nodes_any : ∀ (N : Nat) (v : VT), v.total ≤ N → ∀ (w : World) (a : VA) , VAt w v a → Calls Tryd.prog 56 #[.agg (vV v a)] w fun e w' => e = .returned (.bool v.okAll) ∧ Below w.heap.size w w' := by
  intro N
  induction N with
  | zero =>
    intro v hv
    have := total_pos v
    omega
  | succ N ih =>
    intro v hv w a  h
    have ihx := fun (i : Nat) (x : VT) (hx : v.l[i]? = some x) => ih x (by have := total_lt hx; omega)
    have IHX := hid2 ihx
    obtain ⟨hbx, hb0⟩ := box_value w v a h
    have hV : vV v a = #[.int .i64 v.k, .int .i64 v.n, .string (strB v.s), .slice a.L v.l.length a.cL, .slice a.K v.ks.length a.cK] := rfl
    rw [hV] at hbx hb0 ⊢
    obtain ⟨AL, AK, cL, cK⟩ := a
    obtain ⟨n, hn⟩ : ∃ n, n = v.l.length := ⟨_, rfl⟩
    obtain ⟨nk, hnk⟩ : ∃ n, n = v.ks.length := ⟨_, rfl⟩
    obtain ⟨S, hS⟩ : ∃ S, S = strB v.s := ⟨_, rfl⟩
    have hl := h.lenL
    have hlk := h.lenK
    rw [← hn] at hl
    rw [← hnk] at hlk
    unfold maxLen at hl hlk
    simp only at hbx hb0 ⊢
    rw [← hn, ← hnk, ← hS] at hbx hb0 ⊢
    have hcs := hbx.cells
    rw [← hn, ← hnk, ← hS] at hcs
    obtain ⟨q0, q1, q2, q3, q4⟩ := hcs
    simp only at q3 q4
    obtain ⟨W0, hW⟩ : ∃ W0, W0 = w.alloc (.cells #[.int .i64 v.k, .int .i64 v.n, .string S, .slice AL n cL, .slice AK nk cK] 40) := ⟨_, rfl⟩
    rw [← hW] at hbx hb0
    have HW := hid2 hW
    have HBX := hid2 hbx
    have HB0 := hid2 hb0
    have HN := hid2 hn
    have HNK := hid2 hnk
    have HS := hid2 hS
    have HAT := hid2 h
    obtain ⟨g, hg⟩ : ∃ g, g = w.heap.size := ⟨_, rfl⟩
    have HG := hid2 hg
    have BXC := hid2 (fun (W : World) (hb : Below W0.heap.size W0 W) => show W.cell? ⟨g, 0, none⟩ = some (.int .i64 v.k) ∧ W.cell? ⟨g, 1, none⟩ = some (.int .i64 v.n) ∧ W.cell? ⟨g, 2, none⟩ = some (.string S) ∧ W.cell? ⟨g, 3, none⟩ = some (.slice AL n cL) ∧ W.cell? ⟨g, 4, none⟩ = some (.slice AK nk cK) from by
      have := (HBX.out.below hb).cells
      rw [← HG.out, ← HN.out, ← HNK.out, ← HS.out] at this
      exact this)
    have EL := hid2 (fun (W : World) (hb : Below W0.heap.size W0 W) (i : Nat) (x : VT) (hx : v.l[i]? = some x) => (HBX.out.below hb).at_.elem5 hx)
    have KEY := hid2 (fun (W : World) (hb : Below W0.heap.size W0 W) (i : Nat) (x : Tx) (hx : v.ks[i]? = some x) => (HBX.out.below hb).at_.key hx)
    have hok := v.okAll_eq
    have hbad := fun (i : Nat) (x : VT) (hx : v.l[i]? = some x) (h : x.okAll = false) => hok.trans (by rw [oks_bad hx h, Bool.false_and])
    obtain ⟨R, hR⟩ : ∃ R, R = v.okAll := ⟨_, rfl⟩
    rw [← hR] at hok hbad ⊢
    have cn := fun (W : World) (hb : Below W0.heap.size W0 W) => node_any W v ⟨AL, AK, cL, cK⟩ (hbx.below hb).at_
    rw [vV_eq] at cn
    simp only at cn
    rw [← hn, ← hnk, ← hS] at cn
    have CN := hid2 cn
    have HOK := hid2 hok
    have HBAD := hid2 hbad
    clear hok hbad hR cn
    clear h hbx hb0 hV hn hnk hS hW hg ih ihx
    go_enter Tryd.func56, Tryd.ntmps56
    go_wp2_with fail
    rw [← HW.out, ← HG.out]
    clear q0 q1 q2 q3 q4
    go_loopw [7] (fun iv wr => ∃ (i : Nat), iv = .int .i64 i ∧ i ≤ n ∧ VT.oks (v.l.take i) = true ∧ Below W0.heap.size W0 wr) (fun iv _ => n - (intOf iv).toNat)
    case atStart => exact ⟨0, rfl, by omega, by rw [List.take_zero, VT.oks], Below.refl _ _⟩
    case round =>
      obtain ⟨i, rfl, hi, hoks, hbe⟩ := hrel
      have HBE := hid2 hbe
      have HO := hid2 hoks
      clear hoks
      obtain ⟨q0, q1, q2, q3, q4⟩ := BXC.out wr hbe
      by_cases hlt : i < n
      · have hil : (i : Int) < n := by omega
        have hi0 : (0 : Int) ≤ i := by omega
        obtain ⟨x, hx⟩ : ∃ x, v.l[i]? = some x := ⟨_, List.getElem?_eq_getElem (by rw [← HN.out]; exact hlt)⟩
        obtain ⟨b, o, ax, rfl, hax, e0, e1, e2, e3, e4⟩ := EL.out wr hbe i x hx
        have cx := IHX.out i x hx wr ax hax
        rw [show vV x ax = #[.int .i64 x.k, .int .i64 x.n, .string (strB x.s), .slice ax.L x.l.length ax.cL, .slice ax.K x.ks.length ax.cK] from rfl] at cx
        cases hxo : x.okAll with
        | true =>
          rw [hxo] at cx
          have hnx : VT.oks (v.l.take (i + 1)) = true := by rw [oks_take hx, HO.out, hxo]; rfl
          have CX := hid2 cx
          have HNX := hid2 hnx
          clear hbe hx hax cx hnx hxo
          go_wp2_with (go_at_call 56; refine CX.out.mono ?_; rintro e w2 ⟨rfl, hb2⟩)
          go_roundw
          case rel => exact ⟨i + 1, by go_num, by omega, HNX.out, HBE.out.trans (hb2.mono HBE.out.size)⟩
          case measure => simp [intOf]; omega
        | false =>
          rw [hxo] at cx
          have hb := HBAD.out i x hx hxo
          have CX := hid2 cx
          have HB := hid2 hb
          clear hbe hx hax cx hb hxo
          go_wp2_with (go_at_call 56; refine CX.out.mono ?_; rintro e w2 ⟨rfl, hb2⟩)
          go_ret
          have b1 := HB0.out.trans (HBE.out.mono HB0.out.size)
          exact ⟨ret_bool (by rw [HB.out]), b1.trans (hb2.mono b1.size)⟩
      · have hil : ¬ (i : Int) < n := by omega
        have hfin : R = nodeB v := by
          have h1 := HO.out
          rw [List.take_of_length_le (by have := HN.out; omega)] at h1
          rw [HOK.out, h1, Bool.true_and]
        have HF := hid2 hfin
        have cn := CN.out wr hbe
        have CNN := hid2 cn
        clear hbe hfin cn
        go_wp2_with (go_at_call 81; refine CNN.out.mono ?_; rintro e w2 ⟨rfl, hb2⟩)
        go_ret
        have b1 := HB0.out.trans (HBE.out.mono HB0.out.size)
        exact ⟨ret_bool (by rw [HF.out]), b1.trans (hb2.mono b1.size)⟩
/-- may a value be? -/
def VT.may (v : VT) : Bool := decide (v.total ≤ 20000) && decide (v.depth ≤ 60) && v.okAll
set_option maxHeartbeats 2000000 in
theorem vrcheck_any (w : World) (v : VT) (a : VA) (h : VAt w v a) : Calls Tryd.prog 35 #[.agg (vV v a)] w fun e w' => e = .returned (.bool v.may) ∧ Below w.heap.size w w' := by
  obtain ⟨hbx, hb0⟩ := box_value w v a h
  obtain ⟨W0, hW⟩ : ∃ W0, W0 = w.alloc (.cells (vV v a) 40) := ⟨_, rfl⟩
  have hr1 := hbx.five
  rw [← hW] at hbx hb0
  have c1 := fun (W : World) (hb : Below W0.heap.size W0 W) => many_any v.total v (Nat.le_refl _) W a 20000 (by omega) (hbx.below hb).at_
  have c2 := fun (W : World) (hb : Below W0.heap.size W0 W) => deep_any v.total v (Nat.le_refl _) W a 60 (by omega) (hbx.below hb).at_
  have c3 := fun (W : World) (hb : Below W0.heap.size W0 W) => nodes_any v.total v (Nat.le_refl _) W a (hbx.below hb).at_
  have hr2 := fun (W : World) (hb : Below W0.heap.size W0 W) => (hbx.below hb).five
  rw [vV_eq] at c1 c2 c3 hr1 hW ⊢
  obtain ⟨q0, q1, q2, q3, q4⟩ := hr1
  have hm : v.may = (decide ((min v.total (20000 + 1) : Nat) ≤ 20000) && decide ((min v.depth (60 + 1) : Nat) ≤ 60) && v.okAll) := by
    rw [VT.may]
    congr 2
    · rw [decide_eq_decide]; omega
    · rw [decide_eq_decide]; omega
  obtain ⟨M, hM⟩ : ∃ M, M = v.may := ⟨_, rfl⟩
  obtain ⟨y1, hy1⟩ : ∃ y, y = min v.total (20000 + 1) := ⟨_, rfl⟩
  obtain ⟨y2, hy2⟩ : ∃ y, y = min v.depth (60 + 1) := ⟨_, rfl⟩
  obtain ⟨y3, hy3⟩ : ∃ y, y = v.okAll := ⟨_, rfl⟩
  rw [← hM, ← hy1, ← hy2, ← hy3] at hm
  rw [← hM]
  rw [← hy1] at c1
  rw [← hy2] at c2
  rw [← hy3] at c3
  have C1 := hid2 c1
  have C2 := hid2 c2
  have C3 := hid2 c3
  have HR2 := hid2 hr2
  have HM := hid2 hm
  have HW := hid2 hW
  have HB0 := hid2 hb0
  clear hbx hb0 hW c1 c2 c3 hr2 h hm hM hy1 hy2 hy3
  by_cases h1 : y1 ≤ 20000
  · have i1 : (y1 : Int) ≤ 20000 := by omega
    by_cases h2 : y2 ≤ 60
    · have i2 : (y2 : Int) ≤ 60 := by omega
      go_enter Tryd.func35, Tryd.ntmps35
      go_wp2_with (first
        | (go_at_call 54; rw [← HW.out]; refine (C1.out _ (Below.refl _ _)).mono ?_; rintro e w1 ⟨rfl, hb1⟩; obtain ⟨r0, r1, r2, r3, r4⟩ := HR2.out w1 hb1; clear q0 q1 q2 q3 q4)
        | (go_at_call 55; refine (C2.out w1 hb1).mono ?_; rintro e w2 ⟨rfl, hc2⟩; have hb2 := hb1.trans (hc2.mono hb1.size); obtain ⟨s0, s1, s2, s3, s4⟩ := HR2.out w2 hb2; clear r0 r1 r2 r3 r4)
        | (go_at_call 56; refine (C3.out w2 hb2).mono ?_; rintro e w3 ⟨rfl, hc3⟩))
      go_ret
      have b2 := HB0.out.trans (hb2.mono HB0.out.size)
      exact ⟨ret_bool (by rw [HM.out, decide_eq_true h1, decide_eq_true h2]; simp), b2.trans (hc3.mono b2.size)⟩
    · have i2 : ¬ (y2 : Int) ≤ 60 := by omega
      go_enter Tryd.func35, Tryd.ntmps35
      go_wp2_with (first
        | (go_at_call 54; rw [← HW.out]; refine (C1.out _ (Below.refl _ _)).mono ?_; rintro e w1 ⟨rfl, hb1⟩; obtain ⟨r0, r1, r2, r3, r4⟩ := HR2.out w1 hb1; clear q0 q1 q2 q3 q4)
        | (go_at_call 55; refine (C2.out w1 hb1).mono ?_; rintro e w2 ⟨rfl, hc2⟩; have hb2 := hb1.trans (hc2.mono hb1.size); clear r0 r1 r2 r3 r4))
      go_ret
      exact ⟨ret_bool (by rw [HM.out, decide_eq_true h1, decide_eq_false h2]; simp), HB0.out.trans (hb2.mono HB0.out.size)⟩
  · have i1 : ¬ (y1 : Int) ≤ 20000 := by omega
    go_enter Tryd.func35, Tryd.ntmps35
    go_wp2_with (first
      | (go_at_call 54; rw [← HW.out]; refine (C1.out _ (Below.refl _ _)).mono ?_; rintro e w1 ⟨rfl, hb1⟩; clear q0 q1 q2 q3 q4))
    go_ret
    exact ⟨ret_bool (by rw [HM.out, decide_eq_false h1]; simp), HB0.out.trans (hb1.mono HB0.out.size)⟩
end Go.Proofs.YthefhfnmkjdekaaDoor
