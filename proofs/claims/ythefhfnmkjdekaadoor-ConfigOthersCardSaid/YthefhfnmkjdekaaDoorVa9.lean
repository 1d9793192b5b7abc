/- Values: the document's Same of a value and itself. -/
import Derived.Test.YthefhfnmkjdekaaDoorVa8
namespace Go.Proofs.YthefhfnmkjdekaaDoor
open Go.RowKit
set_option maxRecDepth 100000
set_option maxHeartbeats 2000000 in
theorem vsame_any : ∀ (N : Nat) (v : VT), v.total ≤ N → ∀ (w : World) (a : VA), VAt w v a → Calls Tryd.prog 20 #[.agg (vV v a), .agg (vV v a)] w fun e w' => e = .returned (.bool true) ∧ Below w.heap.size w w' := by
  intro N
  induction N with
  | zero =>
    intro v hv
    have := total_pos v
    omega
  | succ N ih =>
    intro v hv w a h
    have ihx := fun (i : Nat) (x : VT) (hx : v.l[i]? = some x) => ih x (by have := total_lt hx; omega)
    have IHX := hid2 ihx
    have hlL := h.lenL
    have hlK := h.lenK
    obtain ⟨hbx0, hb0⟩ := box_value w v a h
    obtain ⟨hbx2, hb2⟩ := box_value _ v a hbx0.at_
    have hbx1 := hbx0.below hb2
    have hb1 := hb0.trans (hb2.mono hb0.size)
    rw [World.size_alloc] at hbx2
    obtain ⟨W1, hW1⟩ : ∃ W1, W1 = (w.alloc (.cells (vV v a) 40)).alloc (.cells (vV v a) 40) := ⟨_, rfl⟩
    have q1 := hbx1.five
    have q2 := hbx2.five
    rw [← hW1] at hbx1 hbx2 hb1
    rw [vV_eq] at q1 q2 hW1 ⊢
    obtain ⟨n, hn⟩ : ∃ n, n = v.l.length := ⟨_, rfl⟩
    obtain ⟨nk, hnk⟩ : ∃ n, n = v.ks.length := ⟨_, rfl⟩
    obtain ⟨S, hS⟩ : ∃ S, S = strB v.s := ⟨_, rfl⟩
    obtain ⟨AL, AK, cL, cK⟩ := a
    simp only at q1 q2 hW1 ⊢
    obtain ⟨g, hg⟩ : ∃ g, g = w.heap.size := ⟨_, rfl⟩
    have HG := hid2 hg
    have BXC := hid2 (fun (W : World) (hb : Below W1.heap.size W1 W) => show (W.cell? ⟨g, 0, none⟩ = some (.int .i64 v.k) ∧ W.cell? ⟨g, 1, none⟩ = some (.int .i64 v.n) ∧ W.cell? ⟨g, 2, none⟩ = some (.string S) ∧ W.cell? ⟨g, 3, none⟩ = some (.slice AL n cL) ∧ W.cell? ⟨g, 4, none⟩ = some (.slice AK nk cK)) ∧
        W.cell? ⟨g + 1, 0, none⟩ = some (.int .i64 v.k) ∧ W.cell? ⟨g + 1, 1, none⟩ = some (.int .i64 v.n) ∧ W.cell? ⟨g + 1, 2, none⟩ = some (.string S) ∧ W.cell? ⟨g + 1, 3, none⟩ = some (.slice AL n cL) ∧ W.cell? ⟨g + 1, 4, none⟩ = some (.slice AK nk cK) from by
      rw [hg, hn, hnk, hS]
      exact ⟨(hbx1.below hb).five, (hbx2.below hb).five⟩)
    rw [← hn, ← hnk, ← hS] at q1 q2 hW1 ⊢
    rw [← hn] at hlL
    rw [← hnk] at hlK
    unfold maxLen at hlL hlK
    have EL := hid2 (fun (W : World) (hb : Below W1.heap.size W1 W) (i : Nat) (x : VT) (hx : v.l[i]? = some x) => (hbx1.below hb).at_.elem5 hx)
    have KEY := hid2 (fun (W : World) (hb : Below W1.heap.size W1 W) (i : Nat) (x : Tx) (hx : v.ks[i]? = some x) => (hbx1.below hb).at_.key hx)
    have HW := hid2 hW1
    have HB0 := hid2 hb1
    have HN := hid2 hn
    have HNK := hid2 hnk
    obtain ⟨q10, q11, q12, q13, q14⟩ := q1
    obtain ⟨q20, q21, q22, q23, q24⟩ := q2
    clear h hbx0 hbx1 hbx2 hb0 hb1 hb2 hn hnk hS hW1 hg ih ihx
    go_enter Tryd.func20, Tryd.ntmps20
    go_wp2_with fail
    rw [← HW.out, ← HG.out]
    clear q10 q11 q12 q13 q14 q20 q21 q22 q23 q24
    go_loopw [47] (fun iv wr => ∃ (i : Nat), iv = .int .i64 i ∧ i ≤ nk ∧ Below W1.heap.size W1 wr) (fun iv _ => nk - (intOf iv).toNat)
    case atStart => exact ⟨0, rfl, by omega, Below.refl _ _⟩
    case round =>
      obtain ⟨i, rfl, hi, hbe⟩ := hrel
      have HBE := hid2 hbe
      obtain ⟨⟨q10, q11, q12, q13, q14⟩, q20, q21, q22, q23, q24⟩ := BXC.out wr hbe
      by_cases hlt : i < nk
      · have hil : (i : Int) < nk := by omega
        have hi0 : (0 : Int) ≤ i := by omega
        obtain ⟨x, hx⟩ : ∃ x, v.ks[i]? = some x := ⟨_, List.getElem?_eq_getElem (by rw [← HNK.out]; exact hlt)⟩
        obtain ⟨b, o, rfl, hc⟩ := KEY.out wr hbe i x hx
        obtain ⟨X, hX⟩ : ∃ X, X = strB x := ⟨_, rfl⟩
        rw [← hX] at hc
        clear hX hx hbe
        go_wp2_with fail
        go_quiet (fail)
        go_wp2_with fail
        go_roundw
        case rel => exact ⟨i + 1, by go_num, by omega, below_drewN HBE.out _⟩
        case measure => simp [intOf]; omega
      · have hil : ¬ (i : Int) < nk := by omega
        obtain ⟨W2, rfl⟩ : ∃ W2, W2 = wr := ⟨_, rfl⟩
        clear hbe
        go_wp2_with fail
        clear q10 q11 q12 q13 q14 q20 q21 q22 q23 q24
        go_loopw [65] (fun iv wr => ∃ (i : Nat), iv = .int .i64 i ∧ i ≤ n ∧ Below W1.heap.size W1 wr) (fun iv _ => n - (intOf iv).toNat)
        case atStart => exact ⟨0, rfl, by omega, HBE.out⟩
        case round =>
          clear HBE hlt hil hi
          obtain ⟨i, rfl, hi, hbe⟩ := hrel
          have HBE := hid2 hbe
          obtain ⟨⟨q10, q11, q12, q13, q14⟩, q20, q21, q22, q23, q24⟩ := BXC.out wr hbe
          by_cases hlt : i < n
          · have hil : (i : Int) < n := by omega
            have hi0 : (0 : Int) ≤ i := by omega
            obtain ⟨x, hx⟩ : ∃ x, v.l[i]? = some x := ⟨_, List.getElem?_eq_getElem (by rw [← HN.out]; exact hlt)⟩
            obtain ⟨b, o, ax, rfl, hax, e0, e1, e2, e3, e4⟩ := EL.out wr hbe i x hx
            have hlt2 : b < wr.heap.size := World.block_lt_of_cell? wr _ e0
            have cx := fun (W : World) (hb : Below wr.heap.size wr W) => IHX.out i x hx W ax (VAt.below hb x ax hax)
            rw [show vV x ax = #[.int .i64 x.k, .int .i64 x.n, .string (strB x.s), .slice ax.L x.l.length ax.cL, .slice ax.K x.ks.length ax.cK] from rfl] at cx
            have he := fun (W : World) (hb : Below wr.heap.size wr W) => show W.cell? ⟨b, o + i * 5, none⟩ = some (.int .i64 x.k) ∧ W.cell? ⟨b, o + i * 5 + 1, none⟩ = some (.int .i64 x.n) ∧ W.cell? ⟨b, o + i * 5 + 2, none⟩ = some (.string (strB x.s)) ∧ W.cell? ⟨b, o + i * 5 + 3, none⟩ = some (.slice ax.L x.l.length ax.cL) ∧ W.cell? ⟨b, o + i * 5 + 4, none⟩ = some (.slice ax.K x.ks.length ax.cK) from
              ⟨(hb.cell (p := ⟨b, _, none⟩) hlt2).trans e0, (hb.cell (p := ⟨b, _, none⟩) hlt2).trans e1, (hb.cell (p := ⟨b, _, none⟩) hlt2).trans e2, (hb.cell (p := ⟨b, _, none⟩) hlt2).trans e3, (hb.cell (p := ⟨b, _, none⟩) hlt2).trans e4⟩
            have CX := hid2 cx
            have HE := hid2 he
            clear hbe hx hax cx he e0 e1 e2 e3 e4
            go_wp2_with fail
            clear q10 q11 q12 q13 q14 q20 q21 q22 q23 q24
            refine wp_region_grd 12 (by kernel_rfl) (by kernel_rfl) (by kernel_rfl) _ rfl (by kernel_rfl) (fun jj vv _ => ([.pointer (some ⟨g, 3, none⟩), .slice (some ⟨b, o, none⟩) n cL, .int .i64 i, .pointer (some ⟨b, o + i * 5, none⟩), .agg #[.int .i64 x.k, .int .i64 x.n, .string (strB x.s), .slice ax.L x.l.length ax.cL, .slice ax.K x.ks.length ax.cK], .pointer (some ⟨g + 1, 3, none⟩), .slice (some ⟨b, o, none⟩) n cL, .int .i64 i, .pointer (some ⟨b, o + i * 5, none⟩), .agg #[.int .i64 x.k, .int .i64 x.n, .string (strB x.s), .slice ax.L x.l.length ax.cL, .slice ax.K x.ks.length ax.cK], .bool true, .bool false] : List Value)[jj]? = some vv) (fun w2 => Below wr.heap.size wr w2) (fun a b => Below a.heap.size a b) ((Below.refl _ wr).drew) (fun _ _ _ _ hb hv => hv) ?_ ?_
            · refine of_allOps ⟨?_, ?_, ?_, ?_, ?_, ?_, ?_, ?_, ?_, ?_, ?_, ?_, trivial⟩
              · intro T2 w2 hM hN hO hE K hK
                have o2 : T2[2]? = some (.pointer (some ⟨g, 0, none⟩)) := hO 2 rfl
                clear hE hO hN
                refine step_plain0 rfl ?_
                go_simp
                exact hK _ _ rfl hM (Below.refl _ _)
              · intro T2 w2 hM hN hO hE K hK
                obtain ⟨v0, h0, e0⟩ := hE ⟨0, .data⟩ (by simp) rfl _ _ rfl rfl
                rw [show v0 = .pointer (some ⟨g, 3, none⟩) from (Option.some.inj e0).symm] at h0
                clear hE hO hN
                refine step_plain0 rfl ?_
                have hcc := (BXC.out w2 (HBE.out.trans (hM.mono HBE.out.size))).1.2.2.2.1
                go_simp
                exact hK _ _ rfl hM (Below.refl _ _)
              · intro T2 w2 hM hN hO hE K hK
                have o6 : T2[6]? = some (.int .i64 i) := hO 6 rfl
                clear hE hO hN
                refine step_plain0 rfl ?_
                go_simp
                exact hK _ _ rfl hM (Below.refl _ _)
              · intro T2 w2 hM hN hO hE K hK
                obtain ⟨v1, h1, e1⟩ := hE ⟨1, .data⟩ (by simp) rfl _ _ rfl rfl
                rw [show v1 = .slice (some ⟨b, o, none⟩) n cL from (Option.some.inj e1).symm] at h1
                obtain ⟨v2, h2, e2⟩ := hE ⟨2, .data⟩ (by simp) rfl _ _ rfl rfl
                rw [show v2 = .int .i64 i from (Option.some.inj e2).symm] at h2
                clear hE hO hN
                refine step_plain0 rfl ?_
                go_simp
                exact hK _ _ rfl hM (Below.refl _ _)
              · intro T2 w2 hM hN hO hE K hK
                obtain ⟨v3, h3, e3⟩ := hE ⟨3, .data⟩ (by simp) rfl _ _ rfl rfl
                rw [show v3 = .pointer (some ⟨b, o + i * 5, none⟩) from (Option.some.inj e3).symm] at h3
                clear hE hO hN
                refine step_plain0 rfl ?_
                obtain ⟨e0, e1, e2, e3, e4⟩ := HE.out w2 hM
                go_simp
                exact hK _ _ rfl hM (Below.refl _ _)
              · intro T2 w2 hM hN hO hE K hK
                have o3 : T2[3]? = some (.pointer (some ⟨g + 1, 0, none⟩)) := hO 3 rfl
                clear hE hO hN
                refine step_plain0 rfl ?_
                go_simp
                exact hK _ _ rfl hM (Below.refl _ _)
              · intro T2 w2 hM hN hO hE K hK
                obtain ⟨v5, h5, e5⟩ := hE ⟨5, .data⟩ (by simp) rfl _ _ rfl rfl
                rw [show v5 = .pointer (some ⟨g + 1, 3, none⟩) from (Option.some.inj e5).symm] at h5
                clear hE hO hN
                refine step_plain0 rfl ?_
                have hcc := (BXC.out w2 (HBE.out.trans (hM.mono HBE.out.size))).2.2.2.2.1
                go_simp
                exact hK _ _ rfl hM (Below.refl _ _)
              · intro T2 w2 hM hN hO hE K hK
                have o6 : T2[6]? = some (.int .i64 i) := hO 6 rfl
                clear hE hO hN
                refine step_plain0 rfl ?_
                go_simp
                exact hK _ _ rfl hM (Below.refl _ _)
              · intro T2 w2 hM hN hO hE K hK
                obtain ⟨v6, h6, e6⟩ := hE ⟨6, .data⟩ (by simp) rfl _ _ rfl rfl
                rw [show v6 = .slice (some ⟨b, o, none⟩) n cL from (Option.some.inj e6).symm] at h6
                obtain ⟨v7, h7, e7⟩ := hE ⟨7, .data⟩ (by simp) rfl _ _ rfl rfl
                rw [show v7 = .int .i64 i from (Option.some.inj e7).symm] at h7
                clear hE hO hN
                refine step_plain0 rfl ?_
                go_simp
                exact hK _ _ rfl hM (Below.refl _ _)
              · intro T2 w2 hM hN hO hE K hK
                obtain ⟨v8, h8, e8⟩ := hE ⟨8, .data⟩ (by simp) rfl _ _ rfl rfl
                rw [show v8 = .pointer (some ⟨b, o + i * 5, none⟩) from (Option.some.inj e8).symm] at h8
                clear hE hO hN
                refine step_plain0 rfl ?_
                obtain ⟨e0, e1, e2, e3, e4⟩ := HE.out w2 hM
                go_simp
                exact hK _ _ rfl hM (Below.refl _ _)
              · intro T2 w2 hM hN hO hE K hK
                obtain ⟨v4, h4, e4⟩ := hE ⟨4, .data⟩ (by simp) rfl _ _ rfl rfl
                rw [show v4 = .agg #[.int .i64 x.k, .int .i64 x.n, .string (strB x.s), .slice ax.L x.l.length ax.cL, .slice ax.K x.ks.length ax.cK] from (Option.some.inj e4).symm] at h4
                obtain ⟨v9, h9, e9⟩ := hE ⟨9, .data⟩ (by simp) rfl _ _ rfl rfl
                rw [show v9 = .agg #[.int .i64 x.k, .int .i64 x.n, .string (strB x.s), .slice ax.L x.l.length ax.cL, .slice ax.K x.ks.length ax.cK] from (Option.some.inj e9).symm] at h9
                clear hE hO hN
                refine step_plain0 rfl ?_
                go_wp2_with (go_at_call 20; refine (CX.out w2 hM).mono ?_; rintro e w3 ⟨rfl, hb3⟩)
                exact hK _ _ rfl (hM.trans (hb3.mono hM.size)) hb3
              · intro T2 w2 hM hN hO hE K hK
                obtain ⟨v10, h10, e10⟩ := hE ⟨10, .data⟩ (by simp) rfl _ _ rfl rfl
                rw [show v10 = .bool true from (Option.some.inj e10).symm] at h10
                clear hE hO hN
                refine step_plain0 rfl ?_
                go_simp
                exact hK _ _ rfl hM (Below.refl _ _)
            · intro u w2 hM hF
              have e11 : u 11 = .bool false := (Option.some.inj (hF 11 (by omega))).symm
              clear hF
              simp only [fillAll, Nat.reduceAdd, e11, List.take_succ_cons, List.take_zero, List.drop_succ_cons, List.drop_zero, List.setIfInBounds_toArray, List.set_cons_succ, List.set_cons_zero]
              go_wp2_with fail
              go_roundw
              case rel => exact ⟨i + 1, by go_num, by omega, HBE.out.trans (hM.mono HBE.out.size)⟩
              case measure => simp [intOf]; omega
          · have hil : ¬ (i : Int) < n := by omega
            clear hbe
            go_wp2_with fail
            go_ret
            exact ⟨rfl, HB0.out.trans (HBE.out.mono HB0.out.size)⟩
end Go.Proofs.YthefhfnmkjdekaaDoor
