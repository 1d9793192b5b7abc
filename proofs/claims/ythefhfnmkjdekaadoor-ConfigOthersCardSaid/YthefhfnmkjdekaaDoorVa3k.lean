/- Values: the document's keys. -/
import Derived.Test.YthefhfnmkjdekaaDoorVa3
import Derived.Test.YthefhfnmkjdekaaDoorReg3
namespace Go.Proofs.YthefhfnmkjdekaaDoor
open Go.RowKit
set_option maxRecDepth 100000
set_option maxHeartbeats 4000000 in
theorem keys_any (w : World) (v : VT) (a : VA) (h : VAt w v a) : Calls Tryd.prog 98 #[.agg (vV v a)] w fun e w' => e = .returned (.bool (keysB v)) ∧ Below w.heap.size w w' := by
  obtain ⟨hbx, hb0⟩ := box_value w v a h
  have hV : vV v a = #[.int .i64 v.k, .int .i64 v.n, .string (strB v.s), .slice a.L v.l.length a.cL, .slice a.K v.ks.length a.cK] := rfl
  rw [hV] at hbx hb0 ⊢
  obtain ⟨AL, AK, cL, cK⟩ := a
  obtain ⟨n, hn⟩ : ∃ n, n = v.l.length := ⟨_, rfl⟩
  obtain ⟨nk, hnk⟩ : ∃ n, n = v.ks.length := ⟨_, rfl⟩
  obtain ⟨S, hS⟩ : ∃ S, S = strB v.s := ⟨_, rfl⟩
  have hl := h.lenL
  have hlk := h.lenK
  rw [← hn] at hl
  rw [← hnk] at hlk
  unfold maxLen at hl hlk
  simp only at hbx hb0 ⊢
  rw [← hn, ← hnk, ← hS] at hbx hb0 ⊢
  have hcs := hbx.cells
  rw [← hn, ← hnk, ← hS] at hcs
  obtain ⟨q0, q1, q2, q3, q4⟩ := hcs
  simp only at q3 q4
  obtain ⟨W0, hW⟩ : ∃ W0, W0 = w.alloc (.cells #[.int .i64 v.k, .int .i64 v.n, .string S, .slice AL n cL, .slice AK nk cK] 40) := ⟨_, rfl⟩
  rw [← hW] at hbx hb0
  have HW := hid2 hW
  have HBX := hid2 hbx
  have HB0 := hid2 hb0
  have HN := hid2 hn
  have HNK := hid2 hnk
  have HS := hid2 hS
  have HAT := hid2 h
  obtain ⟨g, hg⟩ : ∃ g, g = w.heap.size := ⟨_, rfl⟩
  have HG := hid2 hg
  have BXC := hid2 (fun (W : World) (hb : Below W0.heap.size W0 W) => show W.cell? ⟨g, 0, none⟩ = some (.int .i64 v.k) ∧ W.cell? ⟨g, 1, none⟩ = some (.int .i64 v.n) ∧ W.cell? ⟨g, 2, none⟩ = some (.string S) ∧ W.cell? ⟨g, 3, none⟩ = some (.slice AL n cL) ∧ W.cell? ⟨g, 4, none⟩ = some (.slice AK nk cK) from by
    have := (HBX.out.below hb).cells
    rw [← HG.out, ← HN.out, ← HNK.out, ← HS.out] at this
    exact this)
  have EL := hid2 (fun (W : World) (hb : Below W0.heap.size W0 W) (i : Nat) (x : VT) (hx : v.l[i]? = some x) => (HBX.out.below hb).at_.elem5 hx)
  have KEY := hid2 (fun (W : World) (hb : Below W0.heap.size W0 W) (i : Nat) (x : Tx) (hx : v.ks[i]? = some x) => (HBX.out.below hb).at_.key hx)
  obtain ⟨R, hR⟩ : ∃ R, R = keysB v := ⟨_, rfl⟩
  have hR1 : nk ≠ n → R = false := fun hne => by rw [hR, keysB, decide_eq_false (by omega)]; rfl
  have hR2 : nk = n → ∀ k, k < v.ks.length → stepK v.ks k = false → R = false := fun _ k hk hs => by rw [hR, keysB, risesB_bad hk hs, Bool.and_false]
  have hR3 : nk = n → (∀ j, j < v.ks.length → stepK v.ks j = true) → R = true := fun he hj => by rw [hR, keysB, risesB_ok hj, decide_eq_true (by omega)]; rfl
  rw [← hR]
  have HR1 := hid2 hR1
  have HR2 := hid2 hR2
  have HR3 := hid2 hR3
  clear hR hR1 hR2 hR3
  clear h hbx hb0 hV hn hnk hS hW hg
  go_enter Tryd.func98, Tryd.ntmps98
  by_cases hkn : nk = n
  · have i0 : (nk : Int) = n := by omega
    have HKN := hid2 hkn
    have hne : ((nk : Int) != n) = false := by simp [hkn]
    subst hkn
    clear i0
    go_wp2_with fail
    rw [← HW.out, ← HG.out]
    clear q0 q1 q2 q3 q4
    go_loopw [14] (fun i wr => ∃ k : Nat, k ≤ nk ∧ i = .int .i64 k ∧ Below W0.heap.size W0 wr ∧ ∀ j, j < k → stepK v.ks j = true) (fun i _ => nk - (intOf i).toNat)
    case atStart => exact ⟨0, by omega, rfl, Below.refl _ _, fun j hj => absurd hj (Nat.not_lt_zero _)⟩
    case round =>
      obtain ⟨k, hk, rfl, hbe, hz⟩ := hrel
      have HBE := hid2 hbe
      have HZ := hid2 hz
      clear hz
      obtain ⟨q0, q1, q2, q3, q4⟩ := BXC.out wr hbe
      by_cases hlt : k < nk
      · have hkl : (k : Int) < nk := by omega
        have hk0 : (0 : Int) ≤ k := by omega
        obtain ⟨x, hx⟩ : ∃ x, v.ks[k]? = some x := ⟨_, List.getElem?_eq_getElem (by rw [← HNK.out]; exact hlt)⟩
        obtain ⟨b, o, rfl, hc0⟩ := KEY.out wr hbe k x hx
        have hxs := strB_size x
        cases k with
        | zero =>
          rw [show ((0 : Nat) : Int) = 0 from rfl] at hkl hk0 ⊢
          obtain ⟨X, hX⟩ : ∃ X, X = strB x := ⟨_, rfl⟩
          rw [← hX] at hc0 hxs
          rw [Nat.add_zero] at hc0
          have hst := stepK_zero hx
          by_cases h1 : 65536 < X.size
          · have i1 : (65536 : Int) < X.size := by omega
            have hb := HR2.out HKN.out 0 (by rw [← HNK.out]; exact hlt) (by rw [hst, decide_eq_false_iff_not]; omega)
            have HB := hid2 hb
            clear hX hx hst hb h1 hxs hbe
            go_wp2_with fail
            go_quiet (fail)
            go_wp2_with fail
            go_ret
            exact ⟨ret_bool (by rw [HB.out]), below_drewN (HB0.out.trans (HBE.out.mono HB0.out.size)) _⟩
          · have i1 : ¬ (65536 : Int) < X.size := by omega
            have hb : stepK v.ks 0 = true := by rw [hst, decide_eq_true_eq]; omega
            have HB := hid2 hb
            clear hX hx hst hb h1 hxs hbe
            have hcx := fun (w2 : World) (hm : Below wr.heap.size wr w2) => (hm.cell (p := ⟨b, o, none⟩) (World.block_lt_of_cell? wr _ hc0)).trans hc0
            have HCX := hid2 hcx
            clear hcx
            go_wp2_with fail
            refine wp_region_grd 25 (by kernel_rfl) (by kernel_rfl) (by kernel_rfl) _ rfl (by kernel_rfl) (fun jj vv _ => ([.pointer (some ⟨g, 4, none⟩), .slice (some ⟨b, o, none⟩) nk cK, .int .i64 0, .pointer (some ⟨b, o, none⟩), .string X, .int .i64 X.size, .bool false, .bool false, .int .i64 0, .bool false, .bool false, undef, undef, undef, undef, undef, undef, undef, undef, undef, undef, undef, undef, .bool false, .bool false] : List Value)[jj]? = some vv) (fun w2 => Below wr.heap.size wr w2) (fun a b => Below a.heap.size a b) ((Below.refl _ wr).drew) (fun _ _ _ _ hb hv => hv) ?_ ?_
            · refine of_allOps ⟨?_, ?_, ?_, ?_, ?_, ?_, ?_, ?_, ?_, ?_, ?_, ?_, ?_, ?_, ?_, ?_, ?_, ?_, ?_, ?_, ?_, ?_, ?_, ?_, ?_, trivial⟩
              · intro T2 w2 hM hN hO hE K hK
                have o1 : T2[1]? = some (.pointer (some ⟨g, 0, none⟩)) := hO 1 rfl
                clear hE hO hN
                refine step_plain0 rfl ?_
                go_simp
                first | exact hK _ _ rfl hM (Below.refl _ _) | (rw [decide_eq_false (Int.not_lt.2 i1)]; exact hK _ _ rfl hM (Below.refl _ _))
              · intro T2 w2 hM hN hO hE K hK
                obtain ⟨v0, h0, e0⟩ := hE ⟨0, .data⟩ (by simp) rfl _ _ rfl rfl
                rw [show v0 = .pointer (some ⟨g, 4, none⟩) from (Option.some.inj e0).symm] at h0
                clear hE hO hN
                refine step_plain0 rfl ?_
                have hcc := (BXC.out w2 (HBE.out.trans (hM.mono HBE.out.size))).2.2.2.2
                go_simp
                first | exact hK _ _ rfl hM (Below.refl _ _) | (rw [decide_eq_false (Int.not_lt.2 i1)]; exact hK _ _ rfl hM (Below.refl _ _))
              · intro T2 w2 hM hN hO hE K hK
                have o3 : T2[3]? = some (.int .i64 0) := hO 3 rfl
                clear hE hO hN
                refine step_plain0 rfl ?_
                go_simp
                first | exact hK _ _ rfl hM (Below.refl _ _) | (rw [decide_eq_false (Int.not_lt.2 i1)]; exact hK _ _ rfl hM (Below.refl _ _))
              · intro T2 w2 hM hN hO hE K hK
                obtain ⟨v1, h1, e1⟩ := hE ⟨1, .data⟩ (by simp) rfl _ _ rfl rfl
                rw [show v1 = .slice (some ⟨b, o, none⟩) nk cK from (Option.some.inj e1).symm] at h1
                obtain ⟨v2, h2, e2⟩ := hE ⟨2, .data⟩ (by simp) rfl _ _ rfl rfl
                rw [show v2 = .int .i64 0 from (Option.some.inj e2).symm] at h2
                clear hE hO hN
                refine step_plain0 rfl ?_
                go_simp
                first | exact hK _ _ rfl hM (Below.refl _ _) | (rw [decide_eq_false (Int.not_lt.2 i1)]; exact hK _ _ rfl hM (Below.refl _ _))
              · intro T2 w2 hM hN hO hE K hK
                obtain ⟨v3, h3, e3⟩ := hE ⟨3, .data⟩ (by simp) rfl _ _ rfl rfl
                rw [show v3 = .pointer (some ⟨b, o, none⟩) from (Option.some.inj e3).symm] at h3
                clear hE hO hN
                refine step_plain0 rfl ?_
                have hcc := HCX.out w2 hM
                go_simp
                first | exact hK _ _ rfl hM (Below.refl _ _) | (rw [decide_eq_false (Int.not_lt.2 i1)]; exact hK _ _ rfl hM (Below.refl _ _))
              · intro T2 w2 hM hN hO hE K hK
                obtain ⟨v4, h4, e4⟩ := hE ⟨4, .data⟩ (by simp) rfl _ _ rfl rfl
                rw [show v4 = .string X from (Option.some.inj e4).symm] at h4
                clear hE hO hN
                refine step_plain0 rfl ?_
                go_simp
                first | exact hK _ _ rfl hM (Below.refl _ _) | (rw [decide_eq_false (Int.not_lt.2 i1)]; exact hK _ _ rfl hM (Below.refl _ _))
              · intro T2 w2 hM hN hO hE K hK
                obtain ⟨v5, h5, e5⟩ := hE ⟨5, .data⟩ (by simp) rfl _ _ rfl rfl
                rw [show v5 = .int .i64 X.size from (Option.some.inj e5).symm] at h5
                clear hE hO hN
                refine step_plain0 rfl ?_
                go_simp
                first | exact hK _ _ rfl hM (Below.refl _ _) | (rw [decide_eq_false (Int.not_lt.2 i1)]; exact hK _ _ rfl hM (Below.refl _ _))
              · intro T2 w2 hM hN hO hE K hK
                obtain ⟨v6, h6, e6⟩ := hE ⟨6, .data⟩ (by simp) rfl _ _ rfl rfl
                rw [show v6 = .bool false from (Option.some.inj e6).symm] at h6
                clear hE hO hN
                refine step_plain0 rfl ?_
                go_simp
                first | exact hK _ _ rfl hM (Below.refl _ _) | (rw [decide_eq_false (Int.not_lt.2 i1)]; exact hK _ _ rfl hM (Below.refl _ _))
              · intro T2 w2 hM hN hO hE K hK
                obtain ⟨v7, h7, e7⟩ := hE ⟨7, .guard⟩ (by simp) rfl _ _ rfl rfl
                rw [show v7 = .bool false from (Option.some.inj e7).symm] at h7
                have o3 : T2[3]? = some (.int .i64 0) := hO 3 rfl
                clear hE hO hN
                refine grd_met rfl rfl rfl h7 ?_
                go_simp
                first | exact hK _ _ rfl hM (Below.refl _ _) | (rw [decide_eq_false (Int.not_lt.2 i1)]; exact hK _ _ rfl hM (Below.refl _ _))
              · intro T2 w2 hM hN hO hE K hK
                obtain ⟨v8, h8, e8⟩ := hE ⟨8, .data⟩ (by simp) rfl _ _ rfl rfl
                rw [show v8 = .int .i64 0 from (Option.some.inj e8).symm] at h8
                obtain ⟨v7, h7, e7⟩ := hE ⟨7, .guard⟩ (by simp) rfl _ _ rfl rfl
                rw [show v7 = .bool false from (Option.some.inj e7).symm] at h7
                clear hE hO hN
                refine grd_met rfl rfl rfl h7 ?_
                go_simp
                first | exact hK _ _ rfl hM (Below.refl _ _) | (rw [decide_eq_false (Int.not_lt.2 i1)]; exact hK _ _ rfl hM (Below.refl _ _))
              · intro T2 w2 hM hN hO hE K hK
                obtain ⟨v9, h9, e9⟩ := hE ⟨9, .data⟩ (by simp) rfl _ _ rfl rfl
                rw [show v9 = .bool false from (Option.some.inj e9).symm] at h9
                obtain ⟨v7, h7, e7⟩ := hE ⟨7, .guard⟩ (by simp) rfl _ _ rfl rfl
                rw [show v7 = .bool false from (Option.some.inj e7).symm] at h7
                clear hE hO hN
                refine grd_met rfl rfl rfl h7 ?_
                go_simp
                first | exact hK _ _ rfl hM (Below.refl _ _) | (rw [decide_eq_false (Int.not_lt.2 i1)]; exact hK _ _ rfl hM (Below.refl _ _))
              · intro T2 w2 hM hN hO hE K hK
                obtain ⟨v10, h10, e10⟩ := hE ⟨10, .guard⟩ (by simp) rfl _ _ rfl rfl
                rw [show v10 = .bool false from (Option.some.inj e10).symm] at h10
                clear hE hO hN
                refine grd_not rfl rfl rfl h10 (by decide) ?_
                exact hK _ _ rfl hM (Below.refl _ _)
              · intro T2 w2 hM hN hO hE K hK
                obtain ⟨v10, h10, e10⟩ := hE ⟨10, .guard⟩ (by simp) rfl _ _ rfl rfl
                rw [show v10 = .bool false from (Option.some.inj e10).symm] at h10
                clear hE hO hN
                refine grd_not rfl rfl rfl h10 (by decide) ?_
                exact hK _ _ rfl hM (Below.refl _ _)
              · intro T2 w2 hM hN hO hE K hK
                obtain ⟨v10, h10, e10⟩ := hE ⟨10, .guard⟩ (by simp) rfl _ _ rfl rfl
                rw [show v10 = .bool false from (Option.some.inj e10).symm] at h10
                clear hE hO hN
                refine grd_not rfl rfl rfl h10 (by decide) ?_
                exact hK _ _ rfl hM (Below.refl _ _)
              · intro T2 w2 hM hN hO hE K hK
                obtain ⟨v10, h10, e10⟩ := hE ⟨10, .guard⟩ (by simp) rfl _ _ rfl rfl
                rw [show v10 = .bool false from (Option.some.inj e10).symm] at h10
                clear hE hO hN
                refine grd_not rfl rfl rfl h10 (by decide) ?_
                exact hK _ _ rfl hM (Below.refl _ _)
              · intro T2 w2 hM hN hO hE K hK
                obtain ⟨v10, h10, e10⟩ := hE ⟨10, .guard⟩ (by simp) rfl _ _ rfl rfl
                rw [show v10 = .bool false from (Option.some.inj e10).symm] at h10
                clear hE hO hN
                refine grd_not rfl rfl rfl h10 (by decide) ?_
                exact hK _ _ rfl hM (Below.refl _ _)
              · intro T2 w2 hM hN hO hE K hK
                obtain ⟨v10, h10, e10⟩ := hE ⟨10, .guard⟩ (by simp) rfl _ _ rfl rfl
                rw [show v10 = .bool false from (Option.some.inj e10).symm] at h10
                clear hE hO hN
                refine grd_not rfl rfl rfl h10 (by decide) ?_
                exact hK _ _ rfl hM (Below.refl _ _)
              · intro T2 w2 hM hN hO hE K hK
                obtain ⟨v10, h10, e10⟩ := hE ⟨10, .guard⟩ (by simp) rfl _ _ rfl rfl
                rw [show v10 = .bool false from (Option.some.inj e10).symm] at h10
                clear hE hO hN
                refine grd_not rfl rfl rfl h10 (by decide) ?_
                exact hK _ _ rfl hM (Below.refl _ _)
              · intro T2 w2 hM hN hO hE K hK
                obtain ⟨v10, h10, e10⟩ := hE ⟨10, .guard⟩ (by simp) rfl _ _ rfl rfl
                rw [show v10 = .bool false from (Option.some.inj e10).symm] at h10
                clear hE hO hN
                refine grd_not rfl rfl rfl h10 (by decide) ?_
                exact hK _ _ rfl hM (Below.refl _ _)
              · intro T2 w2 hM hN hO hE K hK
                obtain ⟨v10, h10, e10⟩ := hE ⟨10, .guard⟩ (by simp) rfl _ _ rfl rfl
                rw [show v10 = .bool false from (Option.some.inj e10).symm] at h10
                clear hE hO hN
                refine grd_not rfl rfl rfl h10 (by decide) ?_
                exact hK _ _ rfl hM (Below.refl _ _)
              · intro T2 w2 hM hN hO hE K hK
                obtain ⟨v10, h10, e10⟩ := hE ⟨10, .guard⟩ (by simp) rfl _ _ rfl rfl
                rw [show v10 = .bool false from (Option.some.inj e10).symm] at h10
                clear hE hO hN
                refine grd_not rfl rfl rfl h10 (by decide) ?_
                exact hK _ _ rfl hM (Below.refl _ _)
              · intro T2 w2 hM hN hO hE K hK
                obtain ⟨v10, h10, e10⟩ := hE ⟨10, .guard⟩ (by simp) rfl _ _ rfl rfl
                rw [show v10 = .bool false from (Option.some.inj e10).symm] at h10
                clear hE hO hN
                refine grd_not rfl rfl rfl h10 (by decide) ?_
                exact hK _ _ rfl hM (Below.refl _ _)
              · intro T2 w2 hM hN hO hE K hK
                obtain ⟨v10, h10, e10⟩ := hE ⟨10, .guard⟩ (by simp) rfl _ _ rfl rfl
                rw [show v10 = .bool false from (Option.some.inj e10).symm] at h10
                clear hE hO hN
                refine grd_not rfl rfl rfl h10 (by decide) ?_
                exact hK _ _ rfl hM (Below.refl _ _)
              · intro T2 w2 hM hN hO hE K hK
                obtain ⟨v10, h10, e10⟩ := hE ⟨10, .data⟩ (by simp) rfl _ _ rfl rfl
                rw [show v10 = .bool false from (Option.some.inj e10).symm] at h10
                obtain ⟨v22, h22, e22⟩ := hE ⟨22, .data⟩ (by simp) rfl _ _ rfl rfl
                rw [show v22 = undef from (Option.some.inj e22).symm] at h22
                obtain ⟨v7, h7, e7⟩ := hE ⟨7, .guard⟩ (by simp) rfl _ _ rfl rfl
                rw [show v7 = .bool false from (Option.some.inj e7).symm] at h7
                clear hE hO hN
                refine grd_met rfl rfl rfl h7 ?_
                go_simp
                first | exact hK _ _ rfl hM (Below.refl _ _) | (rw [decide_eq_false (Int.not_lt.2 i1)]; exact hK _ _ rfl hM (Below.refl _ _))
              · intro T2 w2 hM hN hO hE K hK
                obtain ⟨v7, h7, e7⟩ := hE ⟨7, .data⟩ (by simp) rfl _ _ rfl rfl
                rw [show v7 = .bool false from (Option.some.inj e7).symm] at h7
                obtain ⟨v23, h23, e23⟩ := hE ⟨23, .data⟩ (by simp) rfl _ _ rfl rfl
                rw [show v23 = .bool false from (Option.some.inj e23).symm] at h23
                clear hE hO hN
                refine step_plain0 rfl ?_
                go_simp
                first | exact hK _ _ rfl hM (Below.refl _ _) | (rw [decide_eq_false (Int.not_lt.2 i1)]; exact hK _ _ rfl hM (Below.refl _ _))
            · intro u w2 hM hF
              have e24 : u 24 = .bool false := (Option.some.inj (hF 24 (by omega))).symm
              clear hF
              simp only [fillAll, Nat.reduceAdd, e24, List.take_succ_cons, List.take_zero, List.drop_succ_cons, List.drop_zero, List.setIfInBounds_toArray, List.set_cons_succ, List.set_cons_zero]
              go_wp2_with fail
              go_roundw
              case rel => exact ⟨1, by omega, by go_num, HBE.out.trans (hM.mono HBE.out.size), fun j hj => by obtain rfl : j = 0 := (by omega); exact HB.out⟩
              case measure => simp [intOf]; omega
        | succ j =>
          obtain ⟨y, hy⟩ : ∃ y, v.ks[j]? = some y := ⟨_, List.getElem?_eq_getElem (by rw [← HNK.out]; omega)⟩
          obtain ⟨b2, o2, e2, hc1⟩ := KEY.out wr hbe j y hy
          cases e2
          have hle := leq_dec x y
          obtain ⟨X, hX⟩ : ∃ X, X = strB x := ⟨_, rfl⟩
          obtain ⟨Y, hY⟩ : ∃ Y, Y = strB y := ⟨_, rfl⟩
          rw [← hX] at hc0 hxs
          rw [← hX, ← hY] at hle
          rw [← hY] at hc1
          have hst := stepK_succ hy hx
          have hj0 : (0 : Int) ≤ j := by omega
          have hjl : (j : Int) < nk := by omega
          have hj1 : (0 : Int) < (j : Int) + 1 := by omega
          have hj2 : (0 : Int) ≤ (j : Int) + 1 := by omega
          have hwj : IntKind.i64.wrap (j : Int) = j := by unfold IntKind.wrap; simp [IntKind.bits, IntKind.signed]; omega
          by_cases h1 : 65536 < X.size
          · have i1 : (65536 : Int) < X.size := by omega
            have hb := HR2.out HKN.out (j + 1) (by rw [← HNK.out]; exact hlt) (by rw [hst, Bool.and_eq_false_iff, decide_eq_false_iff_not]; left; omega)
            have HB := hid2 hb
            clear hX hY hx hy hst hb h1 hxs hle hbe
            go_wp2_with fail
            go_quiet (fail)
            go_wp2_with fail
            go_ret
            exact ⟨ret_bool (by rw [HB.out]), below_drewN (HB0.out.trans (HBE.out.mono HB0.out.size)) _⟩
          · have i1 : ¬ (65536 : Int) < X.size := by omega
            have hq := fun (w : World) => (run_leq w X Y).trans (by rw [hle])
            by_cases h2 : y < x
            · rw [decide_eq_true h2] at hq
              have hb : stepK v.ks (j + 1) = true := by rw [hst, Bool.and_eq_true, decide_eq_true_eq, decide_eq_true_eq]; exact ⟨by omega, h2⟩
              have HB := hid2 hb
              have HQ := hid2 hq
              clear hX hY hx hy hst hb h1 hxs hle h2 hq hbe
              have hcx := fun (w2 : World) (hm : Below wr.heap.size wr w2) => (hm.cell (p := ⟨b, o + (j + 1), none⟩) (World.block_lt_of_cell? wr _ hc0)).trans hc0
              have HCX := hid2 hcx
              have hcy := fun (w2 : World) (hm : Below wr.heap.size wr w2) => (hm.cell (p := ⟨b, o + j, none⟩) (World.block_lt_of_cell? wr _ hc1)).trans hc1
              have HCY := hid2 hcy
              clear hcx hcy
              go_wp2_with fail
              refine wp_region_grd 25 (by kernel_rfl) (by kernel_rfl) (by kernel_rfl) _ rfl (by kernel_rfl) (fun jj vv _ => ([.pointer (some ⟨g, 4, none⟩), .slice (some ⟨b, o, none⟩) nk cK, .int .i64 ((j : Int) + 1), .pointer (some ⟨b, o + (j + 1), none⟩), .string X, .int .i64 X.size, .bool false, .bool false, .int .i64 ((j : Int) + 1), .bool true, .bool true, .pointer (some ⟨g, 4, none⟩), .slice (some ⟨b, o, none⟩) nk cK, .int .i64 ((j : Int) + 1), .pointer (some ⟨b, o + (j + 1), none⟩), .string X, .pointer (some ⟨g, 4, none⟩), .slice (some ⟨b, o, none⟩) nk cK, .int .i64 ((j : Int) + 1), .int .i64 j, .pointer (some ⟨b, o + j, none⟩), .string Y, .bool false, .bool false, .bool false] : List Value)[jj]? = some vv) (fun w2 => Below wr.heap.size wr w2) (fun a b => Below a.heap.size a b) ((Below.refl _ wr).drew) (fun _ _ _ _ hb hv => hv) ?_ ?_
              · refine of_allOps ⟨?_, ?_, ?_, ?_, ?_, ?_, ?_, ?_, ?_, ?_, ?_, ?_, ?_, ?_, ?_, ?_, ?_, ?_, ?_, ?_, ?_, ?_, ?_, ?_, ?_, trivial⟩
                · intro T2 w2 hM hN hO hE K hK
                  have o1 : T2[1]? = some (.pointer (some ⟨g, 0, none⟩)) := hO 1 rfl
                  clear hE hO hN
                  refine step_plain0 rfl ?_
                  go_simp
                  first | exact hK _ _ rfl hM (Below.refl _ _) | (rw [decide_eq_false (Int.not_lt.2 i1)]; exact hK _ _ rfl hM (Below.refl _ _))
                · intro T2 w2 hM hN hO hE K hK
                  obtain ⟨v0, h0, e0⟩ := hE ⟨0, .data⟩ (by simp) rfl _ _ rfl rfl
                  rw [show v0 = .pointer (some ⟨g, 4, none⟩) from (Option.some.inj e0).symm] at h0
                  clear hE hO hN
                  refine step_plain0 rfl ?_
                  have hcc := (BXC.out w2 (HBE.out.trans (hM.mono HBE.out.size))).2.2.2.2
                  go_simp
                  first | exact hK _ _ rfl hM (Below.refl _ _) | (rw [decide_eq_false (Int.not_lt.2 i1)]; exact hK _ _ rfl hM (Below.refl _ _))
                · intro T2 w2 hM hN hO hE K hK
                  have o3 : T2[3]? = some (.int .i64 ((j : Int) + 1)) := hO 3 rfl
                  clear hE hO hN
                  refine step_plain0 rfl ?_
                  go_simp
                  first | exact hK _ _ rfl hM (Below.refl _ _) | (rw [decide_eq_false (Int.not_lt.2 i1)]; exact hK _ _ rfl hM (Below.refl _ _))
                · intro T2 w2 hM hN hO hE K hK
                  obtain ⟨v1, h1, e1⟩ := hE ⟨1, .data⟩ (by simp) rfl _ _ rfl rfl
                  rw [show v1 = .slice (some ⟨b, o, none⟩) nk cK from (Option.some.inj e1).symm] at h1
                  obtain ⟨v2, h2, e2⟩ := hE ⟨2, .data⟩ (by simp) rfl _ _ rfl rfl
                  rw [show v2 = .int .i64 ((j : Int) + 1) from (Option.some.inj e2).symm] at h2
                  clear hE hO hN
                  refine step_plain0 rfl ?_
                  go_simp
                  first | exact hK _ _ rfl hM (Below.refl _ _) | (rw [decide_eq_false (Int.not_lt.2 i1)]; exact hK _ _ rfl hM (Below.refl _ _))
                · intro T2 w2 hM hN hO hE K hK
                  obtain ⟨v3, h3, e3⟩ := hE ⟨3, .data⟩ (by simp) rfl _ _ rfl rfl
                  rw [show v3 = .pointer (some ⟨b, o + (j + 1), none⟩) from (Option.some.inj e3).symm] at h3
                  clear hE hO hN
                  refine step_plain0 rfl ?_
                  have hcc := HCX.out w2 hM
                  go_simp
                  first | exact hK _ _ rfl hM (Below.refl _ _) | (rw [decide_eq_false (Int.not_lt.2 i1)]; exact hK _ _ rfl hM (Below.refl _ _))
                · intro T2 w2 hM hN hO hE K hK
                  obtain ⟨v4, h4, e4⟩ := hE ⟨4, .data⟩ (by simp) rfl _ _ rfl rfl
                  rw [show v4 = .string X from (Option.some.inj e4).symm] at h4
                  clear hE hO hN
                  refine step_plain0 rfl ?_
                  go_simp
                  first | exact hK _ _ rfl hM (Below.refl _ _) | (rw [decide_eq_false (Int.not_lt.2 i1)]; exact hK _ _ rfl hM (Below.refl _ _))
                · intro T2 w2 hM hN hO hE K hK
                  obtain ⟨v5, h5, e5⟩ := hE ⟨5, .data⟩ (by simp) rfl _ _ rfl rfl
                  rw [show v5 = .int .i64 X.size from (Option.some.inj e5).symm] at h5
                  clear hE hO hN
                  refine step_plain0 rfl ?_
                  go_simp
                  first | exact hK _ _ rfl hM (Below.refl _ _) | (rw [decide_eq_false (Int.not_lt.2 i1)]; exact hK _ _ rfl hM (Below.refl _ _))
                · intro T2 w2 hM hN hO hE K hK
                  obtain ⟨v6, h6, e6⟩ := hE ⟨6, .data⟩ (by simp) rfl _ _ rfl rfl
                  rw [show v6 = .bool false from (Option.some.inj e6).symm] at h6
                  clear hE hO hN
                  refine step_plain0 rfl ?_
                  go_simp
                  first | exact hK _ _ rfl hM (Below.refl _ _) | (rw [decide_eq_false (Int.not_lt.2 i1)]; exact hK _ _ rfl hM (Below.refl _ _))
                · intro T2 w2 hM hN hO hE K hK
                  obtain ⟨v7, h7, e7⟩ := hE ⟨7, .guard⟩ (by simp) rfl _ _ rfl rfl
                  rw [show v7 = .bool false from (Option.some.inj e7).symm] at h7
                  have o3 : T2[3]? = some (.int .i64 ((j : Int) + 1)) := hO 3 rfl
                  clear hE hO hN
                  refine grd_met rfl rfl rfl h7 ?_
                  go_simp
                  first | exact hK _ _ rfl hM (Below.refl _ _) | (rw [decide_eq_false (Int.not_lt.2 i1)]; exact hK _ _ rfl hM (Below.refl _ _))
                · intro T2 w2 hM hN hO hE K hK
                  obtain ⟨v8, h8, e8⟩ := hE ⟨8, .data⟩ (by simp) rfl _ _ rfl rfl
                  rw [show v8 = .int .i64 ((j : Int) + 1) from (Option.some.inj e8).symm] at h8
                  obtain ⟨v7, h7, e7⟩ := hE ⟨7, .guard⟩ (by simp) rfl _ _ rfl rfl
                  rw [show v7 = .bool false from (Option.some.inj e7).symm] at h7
                  clear hE hO hN
                  refine grd_met rfl rfl rfl h7 ?_
                  go_simp
                  first | exact hK _ _ rfl hM (Below.refl _ _) | (rw [decide_eq_false (Int.not_lt.2 i1)]; exact hK _ _ rfl hM (Below.refl _ _))
                · intro T2 w2 hM hN hO hE K hK
                  obtain ⟨v9, h9, e9⟩ := hE ⟨9, .data⟩ (by simp) rfl _ _ rfl rfl
                  rw [show v9 = .bool true from (Option.some.inj e9).symm] at h9
                  obtain ⟨v7, h7, e7⟩ := hE ⟨7, .guard⟩ (by simp) rfl _ _ rfl rfl
                  rw [show v7 = .bool false from (Option.some.inj e7).symm] at h7
                  clear hE hO hN
                  refine grd_met rfl rfl rfl h7 ?_
                  go_simp
                  first | exact hK _ _ rfl hM (Below.refl _ _) | (rw [decide_eq_false (Int.not_lt.2 i1)]; exact hK _ _ rfl hM (Below.refl _ _))
                · intro T2 w2 hM hN hO hE K hK
                  obtain ⟨v10, h10, e10⟩ := hE ⟨10, .guard⟩ (by simp) rfl _ _ rfl rfl
                  rw [show v10 = .bool true from (Option.some.inj e10).symm] at h10
                  have o1 : T2[1]? = some (.pointer (some ⟨g, 0, none⟩)) := hO 1 rfl
                  clear hE hO hN
                  refine grd_met rfl rfl rfl h10 ?_
                  go_simp
                  first | exact hK _ _ rfl hM (Below.refl _ _) | (rw [decide_eq_false (Int.not_lt.2 i1)]; exact hK _ _ rfl hM (Below.refl _ _))
                · intro T2 w2 hM hN hO hE K hK
                  obtain ⟨v11, h11, e11⟩ := hE ⟨11, .data⟩ (by simp) rfl _ _ rfl rfl
                  rw [show v11 = .pointer (some ⟨g, 4, none⟩) from (Option.some.inj e11).symm] at h11
                  obtain ⟨v10, h10, e10⟩ := hE ⟨10, .guard⟩ (by simp) rfl _ _ rfl rfl
                  rw [show v10 = .bool true from (Option.some.inj e10).symm] at h10
                  clear hE hO hN
                  refine grd_met rfl rfl rfl h10 ?_
                  have hcc := (BXC.out w2 (HBE.out.trans (hM.mono HBE.out.size))).2.2.2.2
                  go_simp
                  first | exact hK _ _ rfl hM (Below.refl _ _) | (rw [decide_eq_false (Int.not_lt.2 i1)]; exact hK _ _ rfl hM (Below.refl _ _))
                · intro T2 w2 hM hN hO hE K hK
                  obtain ⟨v10, h10, e10⟩ := hE ⟨10, .guard⟩ (by simp) rfl _ _ rfl rfl
                  rw [show v10 = .bool true from (Option.some.inj e10).symm] at h10
                  have o3 : T2[3]? = some (.int .i64 ((j : Int) + 1)) := hO 3 rfl
                  clear hE hO hN
                  refine grd_met rfl rfl rfl h10 ?_
                  go_simp
                  first | exact hK _ _ rfl hM (Below.refl _ _) | (rw [decide_eq_false (Int.not_lt.2 i1)]; exact hK _ _ rfl hM (Below.refl _ _))
                · intro T2 w2 hM hN hO hE K hK
                  obtain ⟨v12, h12, e12⟩ := hE ⟨12, .data⟩ (by simp) rfl _ _ rfl rfl
                  rw [show v12 = .slice (some ⟨b, o, none⟩) nk cK from (Option.some.inj e12).symm] at h12
                  obtain ⟨v13, h13, e13⟩ := hE ⟨13, .data⟩ (by simp) rfl _ _ rfl rfl
                  rw [show v13 = .int .i64 ((j : Int) + 1) from (Option.some.inj e13).symm] at h13
                  obtain ⟨v10, h10, e10⟩ := hE ⟨10, .guard⟩ (by simp) rfl _ _ rfl rfl
                  rw [show v10 = .bool true from (Option.some.inj e10).symm] at h10
                  clear hE hO hN
                  refine grd_met rfl rfl rfl h10 ?_
                  go_simp
                  first | exact hK _ _ rfl hM (Below.refl _ _) | (rw [decide_eq_false (Int.not_lt.2 i1)]; exact hK _ _ rfl hM (Below.refl _ _))
                · intro T2 w2 hM hN hO hE K hK
                  obtain ⟨v14, h14, e14⟩ := hE ⟨14, .data⟩ (by simp) rfl _ _ rfl rfl
                  rw [show v14 = .pointer (some ⟨b, o + (j + 1), none⟩) from (Option.some.inj e14).symm] at h14
                  obtain ⟨v10, h10, e10⟩ := hE ⟨10, .guard⟩ (by simp) rfl _ _ rfl rfl
                  rw [show v10 = .bool true from (Option.some.inj e10).symm] at h10
                  clear hE hO hN
                  refine grd_met rfl rfl rfl h10 ?_
                  have hcc := HCX.out w2 hM
                  go_simp
                  first | exact hK _ _ rfl hM (Below.refl _ _) | (rw [decide_eq_false (Int.not_lt.2 i1)]; exact hK _ _ rfl hM (Below.refl _ _))
                · intro T2 w2 hM hN hO hE K hK
                  obtain ⟨v10, h10, e10⟩ := hE ⟨10, .guard⟩ (by simp) rfl _ _ rfl rfl
                  rw [show v10 = .bool true from (Option.some.inj e10).symm] at h10
                  have o1 : T2[1]? = some (.pointer (some ⟨g, 0, none⟩)) := hO 1 rfl
                  clear hE hO hN
                  refine grd_met rfl rfl rfl h10 ?_
                  go_simp
                  first | exact hK _ _ rfl hM (Below.refl _ _) | (rw [decide_eq_false (Int.not_lt.2 i1)]; exact hK _ _ rfl hM (Below.refl _ _))
                · intro T2 w2 hM hN hO hE K hK
                  obtain ⟨v16, h16, e16⟩ := hE ⟨16, .data⟩ (by simp) rfl _ _ rfl rfl
                  rw [show v16 = .pointer (some ⟨g, 4, none⟩) from (Option.some.inj e16).symm] at h16
                  obtain ⟨v10, h10, e10⟩ := hE ⟨10, .guard⟩ (by simp) rfl _ _ rfl rfl
                  rw [show v10 = .bool true from (Option.some.inj e10).symm] at h10
                  clear hE hO hN
                  refine grd_met rfl rfl rfl h10 ?_
                  have hcc := (BXC.out w2 (HBE.out.trans (hM.mono HBE.out.size))).2.2.2.2
                  go_simp
                  first | exact hK _ _ rfl hM (Below.refl _ _) | (rw [decide_eq_false (Int.not_lt.2 i1)]; exact hK _ _ rfl hM (Below.refl _ _))
                · intro T2 w2 hM hN hO hE K hK
                  obtain ⟨v10, h10, e10⟩ := hE ⟨10, .guard⟩ (by simp) rfl _ _ rfl rfl
                  rw [show v10 = .bool true from (Option.some.inj e10).symm] at h10
                  have o3 : T2[3]? = some (.int .i64 ((j : Int) + 1)) := hO 3 rfl
                  clear hE hO hN
                  refine grd_met rfl rfl rfl h10 ?_
                  go_simp
                  first | exact hK _ _ rfl hM (Below.refl _ _) | (rw [decide_eq_false (Int.not_lt.2 i1)]; exact hK _ _ rfl hM (Below.refl _ _))
                · intro T2 w2 hM hN hO hE K hK
                  obtain ⟨v18, h18, e18⟩ := hE ⟨18, .data⟩ (by simp) rfl _ _ rfl rfl
                  rw [show v18 = .int .i64 ((j : Int) + 1) from (Option.some.inj e18).symm] at h18
                  obtain ⟨v10, h10, e10⟩ := hE ⟨10, .guard⟩ (by simp) rfl _ _ rfl rfl
                  rw [show v10 = .bool true from (Option.some.inj e10).symm] at h10
                  clear hE hO hN
                  refine grd_met rfl rfl rfl h10 ?_
                  go_simp
                  first | exact hK _ _ rfl hM (Below.refl _ _) | (rw [decide_eq_false (Int.not_lt.2 i1)]; exact hK _ _ rfl hM (Below.refl _ _))
                · intro T2 w2 hM hN hO hE K hK
                  obtain ⟨v17, h17, e17⟩ := hE ⟨17, .data⟩ (by simp) rfl _ _ rfl rfl
                  rw [show v17 = .slice (some ⟨b, o, none⟩) nk cK from (Option.some.inj e17).symm] at h17
                  obtain ⟨v19, h19, e19⟩ := hE ⟨19, .data⟩ (by simp) rfl _ _ rfl rfl
                  rw [show v19 = .int .i64 j from (Option.some.inj e19).symm] at h19
                  obtain ⟨v10, h10, e10⟩ := hE ⟨10, .guard⟩ (by simp) rfl _ _ rfl rfl
                  rw [show v10 = .bool true from (Option.some.inj e10).symm] at h10
                  clear hE hO hN
                  refine grd_met rfl rfl rfl h10 ?_
                  go_simp
                  first | exact hK _ _ rfl hM (Below.refl _ _) | (rw [decide_eq_false (Int.not_lt.2 i1)]; exact hK _ _ rfl hM (Below.refl _ _))
                · intro T2 w2 hM hN hO hE K hK
                  obtain ⟨v20, h20, e20⟩ := hE ⟨20, .data⟩ (by simp) rfl _ _ rfl rfl
                  rw [show v20 = .pointer (some ⟨b, o + j, none⟩) from (Option.some.inj e20).symm] at h20
                  obtain ⟨v10, h10, e10⟩ := hE ⟨10, .guard⟩ (by simp) rfl _ _ rfl rfl
                  rw [show v10 = .bool true from (Option.some.inj e10).symm] at h10
                  clear hE hO hN
                  refine grd_met rfl rfl rfl h10 ?_
                  have hcc := HCY.out w2 hM
                  go_simp
                  first | exact hK _ _ rfl hM (Below.refl _ _) | (rw [decide_eq_false (Int.not_lt.2 i1)]; exact hK _ _ rfl hM (Below.refl _ _))
                · intro T2 w2 hM hN hO hE K hK
                  obtain ⟨v15, h15, e15⟩ := hE ⟨15, .data⟩ (by simp) rfl _ _ rfl rfl
                  rw [show v15 = .string X from (Option.some.inj e15).symm] at h15
                  obtain ⟨v21, h21, e21⟩ := hE ⟨21, .data⟩ (by simp) rfl _ _ rfl rfl
                  rw [show v21 = .string Y from (Option.some.inj e21).symm] at h21
                  obtain ⟨v10, h10, e10⟩ := hE ⟨10, .guard⟩ (by simp) rfl _ _ rfl rfl
                  rw [show v10 = .bool true from (Option.some.inj e10).symm] at h10
                  clear hE hO hN
                  refine grd_met rfl rfl rfl h10 ?_
                  have hqq := HQ.out w2
                  go_simp
                  first | exact hK _ _ rfl hM (Below.refl _ _) | (rw [decide_eq_false (Int.not_lt.2 i1)]; exact hK _ _ rfl hM (Below.refl _ _))
                · intro T2 w2 hM hN hO hE K hK
                  obtain ⟨v10, h10, e10⟩ := hE ⟨10, .data⟩ (by simp) rfl _ _ rfl rfl
                  rw [show v10 = .bool true from (Option.some.inj e10).symm] at h10
                  obtain ⟨v22, h22, e22⟩ := hE ⟨22, .data⟩ (by simp) rfl _ _ rfl rfl
                  rw [show v22 = .bool false from (Option.some.inj e22).symm] at h22
                  obtain ⟨v7, h7, e7⟩ := hE ⟨7, .guard⟩ (by simp) rfl _ _ rfl rfl
                  rw [show v7 = .bool false from (Option.some.inj e7).symm] at h7
                  clear hE hO hN
                  refine grd_met rfl rfl rfl h7 ?_
                  go_simp
                  first | exact hK _ _ rfl hM (Below.refl _ _) | (rw [decide_eq_false (Int.not_lt.2 i1)]; exact hK _ _ rfl hM (Below.refl _ _))
                · intro T2 w2 hM hN hO hE K hK
                  obtain ⟨v7, h7, e7⟩ := hE ⟨7, .data⟩ (by simp) rfl _ _ rfl rfl
                  rw [show v7 = .bool false from (Option.some.inj e7).symm] at h7
                  obtain ⟨v23, h23, e23⟩ := hE ⟨23, .data⟩ (by simp) rfl _ _ rfl rfl
                  rw [show v23 = .bool false from (Option.some.inj e23).symm] at h23
                  clear hE hO hN
                  refine step_plain0 rfl ?_
                  go_simp
                  first | exact hK _ _ rfl hM (Below.refl _ _) | (rw [decide_eq_false (Int.not_lt.2 i1)]; exact hK _ _ rfl hM (Below.refl _ _))
              · intro u w2 hM hF
                have e24 : u 24 = .bool false := (Option.some.inj (hF 24 (by omega))).symm
                clear hF
                simp only [fillAll, Nat.reduceAdd, e24, List.take_succ_cons, List.take_zero, List.drop_succ_cons, List.drop_zero, List.setIfInBounds_toArray, List.set_cons_succ, List.set_cons_zero]
                go_wp2_with fail
                go_roundw
                case rel => exact ⟨j + 2, by omega, by go_num, HBE.out.trans (hM.mono HBE.out.size), fun i hi => (Nat.lt_or_ge i (j + 1)).elim (HZ.out i) fun h => by obtain rfl : i = j + 1 := (by omega); exact HB.out⟩
                case measure => simp [intOf]; omega
            · rw [decide_eq_false h2] at hq
              have hb := HR2.out HKN.out (j + 1) (by rw [← HNK.out]; exact hlt) (by rw [hst, decide_eq_false h2, Bool.and_false])
              have HB := hid2 hb
              have HQ := hid2 hq
              clear hX hY hx hy hst hb h1 hxs hle h2 hq hbe
              have hcx := fun (w2 : World) (hm : Below wr.heap.size wr w2) => (hm.cell (p := ⟨b, o + (j + 1), none⟩) (World.block_lt_of_cell? wr _ hc0)).trans hc0
              have HCX := hid2 hcx
              have hcy := fun (w2 : World) (hm : Below wr.heap.size wr w2) => (hm.cell (p := ⟨b, o + j, none⟩) (World.block_lt_of_cell? wr _ hc1)).trans hc1
              have HCY := hid2 hcy
              clear hcx hcy
              go_wp2_with fail
              refine wp_region_grd 25 (by kernel_rfl) (by kernel_rfl) (by kernel_rfl) _ rfl (by kernel_rfl) (fun jj vv _ => ([.pointer (some ⟨g, 4, none⟩), .slice (some ⟨b, o, none⟩) nk cK, .int .i64 ((j : Int) + 1), .pointer (some ⟨b, o + (j + 1), none⟩), .string X, .int .i64 X.size, .bool false, .bool false, .int .i64 ((j : Int) + 1), .bool true, .bool true, .pointer (some ⟨g, 4, none⟩), .slice (some ⟨b, o, none⟩) nk cK, .int .i64 ((j : Int) + 1), .pointer (some ⟨b, o + (j + 1), none⟩), .string X, .pointer (some ⟨g, 4, none⟩), .slice (some ⟨b, o, none⟩) nk cK, .int .i64 ((j : Int) + 1), .int .i64 j, .pointer (some ⟨b, o + j, none⟩), .string Y, .bool true, .bool true, .bool true] : List Value)[jj]? = some vv) (fun w2 => Below wr.heap.size wr w2) (fun a b => Below a.heap.size a b) ((Below.refl _ wr).drew) (fun _ _ _ _ hb hv => hv) ?_ ?_
              · refine of_allOps ⟨?_, ?_, ?_, ?_, ?_, ?_, ?_, ?_, ?_, ?_, ?_, ?_, ?_, ?_, ?_, ?_, ?_, ?_, ?_, ?_, ?_, ?_, ?_, ?_, ?_, trivial⟩
                · intro T2 w2 hM hN hO hE K hK
                  have o1 : T2[1]? = some (.pointer (some ⟨g, 0, none⟩)) := hO 1 rfl
                  clear hE hO hN
                  refine step_plain0 rfl ?_
                  go_simp
                  first | exact hK _ _ rfl hM (Below.refl _ _) | (rw [decide_eq_false (Int.not_lt.2 i1)]; exact hK _ _ rfl hM (Below.refl _ _))
                · intro T2 w2 hM hN hO hE K hK
                  obtain ⟨v0, h0, e0⟩ := hE ⟨0, .data⟩ (by simp) rfl _ _ rfl rfl
                  rw [show v0 = .pointer (some ⟨g, 4, none⟩) from (Option.some.inj e0).symm] at h0
                  clear hE hO hN
                  refine step_plain0 rfl ?_
                  have hcc := (BXC.out w2 (HBE.out.trans (hM.mono HBE.out.size))).2.2.2.2
                  go_simp
                  first | exact hK _ _ rfl hM (Below.refl _ _) | (rw [decide_eq_false (Int.not_lt.2 i1)]; exact hK _ _ rfl hM (Below.refl _ _))
                · intro T2 w2 hM hN hO hE K hK
                  have o3 : T2[3]? = some (.int .i64 ((j : Int) + 1)) := hO 3 rfl
                  clear hE hO hN
                  refine step_plain0 rfl ?_
                  go_simp
                  first | exact hK _ _ rfl hM (Below.refl _ _) | (rw [decide_eq_false (Int.not_lt.2 i1)]; exact hK _ _ rfl hM (Below.refl _ _))
                · intro T2 w2 hM hN hO hE K hK
                  obtain ⟨v1, h1, e1⟩ := hE ⟨1, .data⟩ (by simp) rfl _ _ rfl rfl
                  rw [show v1 = .slice (some ⟨b, o, none⟩) nk cK from (Option.some.inj e1).symm] at h1
                  obtain ⟨v2, h2, e2⟩ := hE ⟨2, .data⟩ (by simp) rfl _ _ rfl rfl
                  rw [show v2 = .int .i64 ((j : Int) + 1) from (Option.some.inj e2).symm] at h2
                  clear hE hO hN
                  refine step_plain0 rfl ?_
                  go_simp
                  first | exact hK _ _ rfl hM (Below.refl _ _) | (rw [decide_eq_false (Int.not_lt.2 i1)]; exact hK _ _ rfl hM (Below.refl _ _))
                · intro T2 w2 hM hN hO hE K hK
                  obtain ⟨v3, h3, e3⟩ := hE ⟨3, .data⟩ (by simp) rfl _ _ rfl rfl
                  rw [show v3 = .pointer (some ⟨b, o + (j + 1), none⟩) from (Option.some.inj e3).symm] at h3
                  clear hE hO hN
                  refine step_plain0 rfl ?_
                  have hcc := HCX.out w2 hM
                  go_simp
                  first | exact hK _ _ rfl hM (Below.refl _ _) | (rw [decide_eq_false (Int.not_lt.2 i1)]; exact hK _ _ rfl hM (Below.refl _ _))
                · intro T2 w2 hM hN hO hE K hK
                  obtain ⟨v4, h4, e4⟩ := hE ⟨4, .data⟩ (by simp) rfl _ _ rfl rfl
                  rw [show v4 = .string X from (Option.some.inj e4).symm] at h4
                  clear hE hO hN
                  refine step_plain0 rfl ?_
                  go_simp
                  first | exact hK _ _ rfl hM (Below.refl _ _) | (rw [decide_eq_false (Int.not_lt.2 i1)]; exact hK _ _ rfl hM (Below.refl _ _))
                · intro T2 w2 hM hN hO hE K hK
                  obtain ⟨v5, h5, e5⟩ := hE ⟨5, .data⟩ (by simp) rfl _ _ rfl rfl
                  rw [show v5 = .int .i64 X.size from (Option.some.inj e5).symm] at h5
                  clear hE hO hN
                  refine step_plain0 rfl ?_
                  go_simp
                  first | exact hK _ _ rfl hM (Below.refl _ _) | (rw [decide_eq_false (Int.not_lt.2 i1)]; exact hK _ _ rfl hM (Below.refl _ _))
                · intro T2 w2 hM hN hO hE K hK
                  obtain ⟨v6, h6, e6⟩ := hE ⟨6, .data⟩ (by simp) rfl _ _ rfl rfl
                  rw [show v6 = .bool false from (Option.some.inj e6).symm] at h6
                  clear hE hO hN
                  refine step_plain0 rfl ?_
                  go_simp
                  first | exact hK _ _ rfl hM (Below.refl _ _) | (rw [decide_eq_false (Int.not_lt.2 i1)]; exact hK _ _ rfl hM (Below.refl _ _))
                · intro T2 w2 hM hN hO hE K hK
                  obtain ⟨v7, h7, e7⟩ := hE ⟨7, .guard⟩ (by simp) rfl _ _ rfl rfl
                  rw [show v7 = .bool false from (Option.some.inj e7).symm] at h7
                  have o3 : T2[3]? = some (.int .i64 ((j : Int) + 1)) := hO 3 rfl
                  clear hE hO hN
                  refine grd_met rfl rfl rfl h7 ?_
                  go_simp
                  first | exact hK _ _ rfl hM (Below.refl _ _) | (rw [decide_eq_false (Int.not_lt.2 i1)]; exact hK _ _ rfl hM (Below.refl _ _))
                · intro T2 w2 hM hN hO hE K hK
                  obtain ⟨v8, h8, e8⟩ := hE ⟨8, .data⟩ (by simp) rfl _ _ rfl rfl
                  rw [show v8 = .int .i64 ((j : Int) + 1) from (Option.some.inj e8).symm] at h8
                  obtain ⟨v7, h7, e7⟩ := hE ⟨7, .guard⟩ (by simp) rfl _ _ rfl rfl
                  rw [show v7 = .bool false from (Option.some.inj e7).symm] at h7
                  clear hE hO hN
                  refine grd_met rfl rfl rfl h7 ?_
                  go_simp
                  first | exact hK _ _ rfl hM (Below.refl _ _) | (rw [decide_eq_false (Int.not_lt.2 i1)]; exact hK _ _ rfl hM (Below.refl _ _))
                · intro T2 w2 hM hN hO hE K hK
                  obtain ⟨v9, h9, e9⟩ := hE ⟨9, .data⟩ (by simp) rfl _ _ rfl rfl
                  rw [show v9 = .bool true from (Option.some.inj e9).symm] at h9
                  obtain ⟨v7, h7, e7⟩ := hE ⟨7, .guard⟩ (by simp) rfl _ _ rfl rfl
                  rw [show v7 = .bool false from (Option.some.inj e7).symm] at h7
                  clear hE hO hN
                  refine grd_met rfl rfl rfl h7 ?_
                  go_simp
                  first | exact hK _ _ rfl hM (Below.refl _ _) | (rw [decide_eq_false (Int.not_lt.2 i1)]; exact hK _ _ rfl hM (Below.refl _ _))
                · intro T2 w2 hM hN hO hE K hK
                  obtain ⟨v10, h10, e10⟩ := hE ⟨10, .guard⟩ (by simp) rfl _ _ rfl rfl
                  rw [show v10 = .bool true from (Option.some.inj e10).symm] at h10
                  have o1 : T2[1]? = some (.pointer (some ⟨g, 0, none⟩)) := hO 1 rfl
                  clear hE hO hN
                  refine grd_met rfl rfl rfl h10 ?_
                  go_simp
                  first | exact hK _ _ rfl hM (Below.refl _ _) | (rw [decide_eq_false (Int.not_lt.2 i1)]; exact hK _ _ rfl hM (Below.refl _ _))
                · intro T2 w2 hM hN hO hE K hK
                  obtain ⟨v11, h11, e11⟩ := hE ⟨11, .data⟩ (by simp) rfl _ _ rfl rfl
                  rw [show v11 = .pointer (some ⟨g, 4, none⟩) from (Option.some.inj e11).symm] at h11
                  obtain ⟨v10, h10, e10⟩ := hE ⟨10, .guard⟩ (by simp) rfl _ _ rfl rfl
                  rw [show v10 = .bool true from (Option.some.inj e10).symm] at h10
                  clear hE hO hN
                  refine grd_met rfl rfl rfl h10 ?_
                  have hcc := (BXC.out w2 (HBE.out.trans (hM.mono HBE.out.size))).2.2.2.2
                  go_simp
                  first | exact hK _ _ rfl hM (Below.refl _ _) | (rw [decide_eq_false (Int.not_lt.2 i1)]; exact hK _ _ rfl hM (Below.refl _ _))
                · intro T2 w2 hM hN hO hE K hK
                  obtain ⟨v10, h10, e10⟩ := hE ⟨10, .guard⟩ (by simp) rfl _ _ rfl rfl
                  rw [show v10 = .bool true from (Option.some.inj e10).symm] at h10
                  have o3 : T2[3]? = some (.int .i64 ((j : Int) + 1)) := hO 3 rfl
                  clear hE hO hN
                  refine grd_met rfl rfl rfl h10 ?_
                  go_simp
                  first | exact hK _ _ rfl hM (Below.refl _ _) | (rw [decide_eq_false (Int.not_lt.2 i1)]; exact hK _ _ rfl hM (Below.refl _ _))
                · intro T2 w2 hM hN hO hE K hK
                  obtain ⟨v12, h12, e12⟩ := hE ⟨12, .data⟩ (by simp) rfl _ _ rfl rfl
                  rw [show v12 = .slice (some ⟨b, o, none⟩) nk cK from (Option.some.inj e12).symm] at h12
                  obtain ⟨v13, h13, e13⟩ := hE ⟨13, .data⟩ (by simp) rfl _ _ rfl rfl
                  rw [show v13 = .int .i64 ((j : Int) + 1) from (Option.some.inj e13).symm] at h13
                  obtain ⟨v10, h10, e10⟩ := hE ⟨10, .guard⟩ (by simp) rfl _ _ rfl rfl
                  rw [show v10 = .bool true from (Option.some.inj e10).symm] at h10
                  clear hE hO hN
                  refine grd_met rfl rfl rfl h10 ?_
                  go_simp
                  first | exact hK _ _ rfl hM (Below.refl _ _) | (rw [decide_eq_false (Int.not_lt.2 i1)]; exact hK _ _ rfl hM (Below.refl _ _))
                · intro T2 w2 hM hN hO hE K hK
                  obtain ⟨v14, h14, e14⟩ := hE ⟨14, .data⟩ (by simp) rfl _ _ rfl rfl
                  rw [show v14 = .pointer (some ⟨b, o + (j + 1), none⟩) from (Option.some.inj e14).symm] at h14
                  obtain ⟨v10, h10, e10⟩ := hE ⟨10, .guard⟩ (by simp) rfl _ _ rfl rfl
                  rw [show v10 = .bool true from (Option.some.inj e10).symm] at h10
                  clear hE hO hN
                  refine grd_met rfl rfl rfl h10 ?_
                  have hcc := HCX.out w2 hM
                  go_simp
                  first | exact hK _ _ rfl hM (Below.refl _ _) | (rw [decide_eq_false (Int.not_lt.2 i1)]; exact hK _ _ rfl hM (Below.refl _ _))
                · intro T2 w2 hM hN hO hE K hK
                  obtain ⟨v10, h10, e10⟩ := hE ⟨10, .guard⟩ (by simp) rfl _ _ rfl rfl
                  rw [show v10 = .bool true from (Option.some.inj e10).symm] at h10
                  have o1 : T2[1]? = some (.pointer (some ⟨g, 0, none⟩)) := hO 1 rfl
                  clear hE hO hN
                  refine grd_met rfl rfl rfl h10 ?_
                  go_simp
                  first | exact hK _ _ rfl hM (Below.refl _ _) | (rw [decide_eq_false (Int.not_lt.2 i1)]; exact hK _ _ rfl hM (Below.refl _ _))
                · intro T2 w2 hM hN hO hE K hK
                  obtain ⟨v16, h16, e16⟩ := hE ⟨16, .data⟩ (by simp) rfl _ _ rfl rfl
                  rw [show v16 = .pointer (some ⟨g, 4, none⟩) from (Option.some.inj e16).symm] at h16
                  obtain ⟨v10, h10, e10⟩ := hE ⟨10, .guard⟩ (by simp) rfl _ _ rfl rfl
                  rw [show v10 = .bool true from (Option.some.inj e10).symm] at h10
                  clear hE hO hN
                  refine grd_met rfl rfl rfl h10 ?_
                  have hcc := (BXC.out w2 (HBE.out.trans (hM.mono HBE.out.size))).2.2.2.2
                  go_simp
                  first | exact hK _ _ rfl hM (Below.refl _ _) | (rw [decide_eq_false (Int.not_lt.2 i1)]; exact hK _ _ rfl hM (Below.refl _ _))
                · intro T2 w2 hM hN hO hE K hK
                  obtain ⟨v10, h10, e10⟩ := hE ⟨10, .guard⟩ (by simp) rfl _ _ rfl rfl
                  rw [show v10 = .bool true from (Option.some.inj e10).symm] at h10
                  have o3 : T2[3]? = some (.int .i64 ((j : Int) + 1)) := hO 3 rfl
                  clear hE hO hN
                  refine grd_met rfl rfl rfl h10 ?_
                  go_simp
                  first | exact hK _ _ rfl hM (Below.refl _ _) | (rw [decide_eq_false (Int.not_lt.2 i1)]; exact hK _ _ rfl hM (Below.refl _ _))
                · intro T2 w2 hM hN hO hE K hK
                  obtain ⟨v18, h18, e18⟩ := hE ⟨18, .data⟩ (by simp) rfl _ _ rfl rfl
                  rw [show v18 = .int .i64 ((j : Int) + 1) from (Option.some.inj e18).symm] at h18
                  obtain ⟨v10, h10, e10⟩ := hE ⟨10, .guard⟩ (by simp) rfl _ _ rfl rfl
                  rw [show v10 = .bool true from (Option.some.inj e10).symm] at h10
                  clear hE hO hN
                  refine grd_met rfl rfl rfl h10 ?_
                  go_simp
                  first | exact hK _ _ rfl hM (Below.refl _ _) | (rw [decide_eq_false (Int.not_lt.2 i1)]; exact hK _ _ rfl hM (Below.refl _ _))
                · intro T2 w2 hM hN hO hE K hK
                  obtain ⟨v17, h17, e17⟩ := hE ⟨17, .data⟩ (by simp) rfl _ _ rfl rfl
                  rw [show v17 = .slice (some ⟨b, o, none⟩) nk cK from (Option.some.inj e17).symm] at h17
                  obtain ⟨v19, h19, e19⟩ := hE ⟨19, .data⟩ (by simp) rfl _ _ rfl rfl
                  rw [show v19 = .int .i64 j from (Option.some.inj e19).symm] at h19
                  obtain ⟨v10, h10, e10⟩ := hE ⟨10, .guard⟩ (by simp) rfl _ _ rfl rfl
                  rw [show v10 = .bool true from (Option.some.inj e10).symm] at h10
                  clear hE hO hN
                  refine grd_met rfl rfl rfl h10 ?_
                  go_simp
                  first | exact hK _ _ rfl hM (Below.refl _ _) | (rw [decide_eq_false (Int.not_lt.2 i1)]; exact hK _ _ rfl hM (Below.refl _ _))
                · intro T2 w2 hM hN hO hE K hK
                  obtain ⟨v20, h20, e20⟩ := hE ⟨20, .data⟩ (by simp) rfl _ _ rfl rfl
                  rw [show v20 = .pointer (some ⟨b, o + j, none⟩) from (Option.some.inj e20).symm] at h20
                  obtain ⟨v10, h10, e10⟩ := hE ⟨10, .guard⟩ (by simp) rfl _ _ rfl rfl
                  rw [show v10 = .bool true from (Option.some.inj e10).symm] at h10
                  clear hE hO hN
                  refine grd_met rfl rfl rfl h10 ?_
                  have hcc := HCY.out w2 hM
                  go_simp
                  first | exact hK _ _ rfl hM (Below.refl _ _) | (rw [decide_eq_false (Int.not_lt.2 i1)]; exact hK _ _ rfl hM (Below.refl _ _))
                · intro T2 w2 hM hN hO hE K hK
                  obtain ⟨v15, h15, e15⟩ := hE ⟨15, .data⟩ (by simp) rfl _ _ rfl rfl
                  rw [show v15 = .string X from (Option.some.inj e15).symm] at h15
                  obtain ⟨v21, h21, e21⟩ := hE ⟨21, .data⟩ (by simp) rfl _ _ rfl rfl
                  rw [show v21 = .string Y from (Option.some.inj e21).symm] at h21
                  obtain ⟨v10, h10, e10⟩ := hE ⟨10, .guard⟩ (by simp) rfl _ _ rfl rfl
                  rw [show v10 = .bool true from (Option.some.inj e10).symm] at h10
                  clear hE hO hN
                  refine grd_met rfl rfl rfl h10 ?_
                  have hqq := HQ.out w2
                  go_simp
                  first | exact hK _ _ rfl hM (Below.refl _ _) | (rw [decide_eq_false (Int.not_lt.2 i1)]; exact hK _ _ rfl hM (Below.refl _ _))
                · intro T2 w2 hM hN hO hE K hK
                  obtain ⟨v10, h10, e10⟩ := hE ⟨10, .data⟩ (by simp) rfl _ _ rfl rfl
                  rw [show v10 = .bool true from (Option.some.inj e10).symm] at h10
                  obtain ⟨v22, h22, e22⟩ := hE ⟨22, .data⟩ (by simp) rfl _ _ rfl rfl
                  rw [show v22 = .bool true from (Option.some.inj e22).symm] at h22
                  obtain ⟨v7, h7, e7⟩ := hE ⟨7, .guard⟩ (by simp) rfl _ _ rfl rfl
                  rw [show v7 = .bool false from (Option.some.inj e7).symm] at h7
                  clear hE hO hN
                  refine grd_met rfl rfl rfl h7 ?_
                  go_simp
                  first | exact hK _ _ rfl hM (Below.refl _ _) | (rw [decide_eq_false (Int.not_lt.2 i1)]; exact hK _ _ rfl hM (Below.refl _ _))
                · intro T2 w2 hM hN hO hE K hK
                  obtain ⟨v7, h7, e7⟩ := hE ⟨7, .data⟩ (by simp) rfl _ _ rfl rfl
                  rw [show v7 = .bool false from (Option.some.inj e7).symm] at h7
                  obtain ⟨v23, h23, e23⟩ := hE ⟨23, .data⟩ (by simp) rfl _ _ rfl rfl
                  rw [show v23 = .bool true from (Option.some.inj e23).symm] at h23
                  clear hE hO hN
                  refine step_plain0 rfl ?_
                  go_simp
                  first | exact hK _ _ rfl hM (Below.refl _ _) | (rw [decide_eq_false (Int.not_lt.2 i1)]; exact hK _ _ rfl hM (Below.refl _ _))
              · intro u w2 hM hF
                have e24 : u 24 = .bool true := (Option.some.inj (hF 24 (by omega))).symm
                clear hF
                simp only [fillAll, Nat.reduceAdd, e24, List.take_succ_cons, List.take_zero, List.drop_succ_cons, List.drop_zero, List.setIfInBounds_toArray, List.set_cons_succ, List.set_cons_zero]
                go_wp2_with fail
                go_ret
                have b1 := HB0.out.trans (HBE.out.mono HB0.out.size)
                exact ⟨ret_bool (by rw [HB.out]), b1.trans (hM.mono b1.size)⟩
      · have hkl : ¬ (k : Int) < nk := by omega
        have hE0 := HR3.out HKN.out fun j hj => HZ.out j (by have := HNK.out; omega)
        have HE0 := hid2 hE0
        clear hE0 hbe
        go_wp2_with fail
        go_ret
        exact ⟨ret_bool (by rw [HE0.out]), HB0.out.trans (HBE.out.mono HB0.out.size)⟩
  · have i0 : ¬ (nk : Int) = n := by omega
    have hb := HR1.out hkn
    have HB := hid2 hb
    clear hb hkn
    go_wp2_with fail
    go_ret
    exact ⟨ret_bool (by rw [HB.out]), by rw [← HW.out]; exact HB0.out⟩
end Go.Proofs.YthefhfnmkjdekaaDoor
