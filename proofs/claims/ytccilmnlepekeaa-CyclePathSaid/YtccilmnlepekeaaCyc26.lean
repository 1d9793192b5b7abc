/- The walk of the law CycleWays. -/
import Derived.Test.YtccilmnlepekeaaCyc25
import Derived.Test.YtccilmnlepekeaaCyc23
import Derived.Test.YtccilmnlepekeaaCyc22
import Derived.Deep.RegionHeld3
namespace Go.Proofs.Ytccilmnlepekeaa
open Go.RowKit
theorem pathL_len (G : List (List Int)) (f t : Int) : (pathL G f t).length ≤ G.length + 1 := by
  rw [pathL]
  split
  · simp
  · rw [pathN]
    split
    · simp
    · split
      · simp
      · rename_i h0 _ h1
        have hb := farN_bound G t.toNat G.length f.toNat
        have := walkL_len (G := G) (i := f.toNat) (to := t.toNat) (by omega)
        simp
        omega
theorem grd_row_all {W : World} {A : Option Addr} {G : List (List Int)} (hA : GRd W A G) {i : Nat} {row : List Int} (hi : G[i]? = some row) :
    ∃ (a o : Nat) (R : Option Addr) (c : Nat), A = some ⟨a, o, none⟩ ∧ ∀ W', Below W.heap.size W W' → W'.cell? ⟨a, o + i, none⟩ = some (.slice R row.length c) ∧ Rd W' 1 R row.length (intV row) := by
  obtain ⟨a, o, R, c, rfl, h1, h2⟩ := hA.k.row (Below.refl _ W) hi
  exact ⟨a, o, R, c, rfl, fun W' hW => ⟨h1 W' hW, h2 W' hW⟩⟩
set_option maxRecDepth 100000 in
set_option maxHeartbeats 4000000 in
theorem cycleWays_walk (w : World) (A : Option Addr) (c : Nat) (G : List (List Int)) (hg : GRd w A G) (hl : G.length ≤ 8796093022208) (hr : ∀ (i : Nat) (row : List Int), G[i]? = some row → row.length ≤ 140737488355328)
    (AF : Option Addr) (cF : Nat) (fr : List Int) (hfr : Rd w 1 AF fr.length (intV fr)) (hfl : fr.length ≤ 140737488355328) (f t : Int) :
    Calls Try.prog 5 #[.slice A G.length c, .slice AF fr.length cF, .agg #[.int .i64 f, .int .i64 t]] w fun e w' => e = .returned (.bool true) ∧ Below w.heap.size w w' := by
  have cA := fun (W : World) => cycalive_any W
  have cG := fun (W : World) (hW : Below w.heap.size w W) => great18_any W A c G (hg.below hW) hl hr
  unfold G18Post at cG
  have cR := fun (hs : Small G) (h50 : fr.length ≤ 50) (W : World) (hW : Below w.heap.size w W) => creach_any W A c G (hg.below hW) hs AF cF fr (hfr.below_all hW) h50
  have cQ := fun (hs : Small G) (h50 : fr.length ≤ 50) (W : World) (hW : Below w.heap.size w W) => refreach_any W A c G (hg.below hW) hs AF cF fr (hfr.below_all hW) h50
  have cT := fun (hs : Small G) (W : World) (hW : Below w.heap.size w W) => turn_any W A c G (hg.below hW) hs
  have cU := fun (hs : Small G) (W : World) (hW : Below w.heap.size w W) => refturn_any W A c G (hg.below hW) hs
  have cP := fun (hs : Small G) (W : World) (hW : Below w.heap.size w W) => cpath_any W A c G (hg.below hW) hs f t
  have cO := fun (hs : Small G) (W : World) (hW : Below w.heap.size w W) => refpath_any W A c G (hg.below hW) hs f t
  obtain ⟨N, hN⟩ : ∃ N, N = G.length := ⟨_, rfl⟩
  obtain ⟨L, hL⟩ : ∃ L, L = fr.length := ⟨_, rfl⟩
  obtain ⟨W1, hW1⟩ : ∃ W1, W1 = w.alloc (.cells #[.int .i64 f, .int .i64 t] 33) := ⟨_, rfl⟩
  have hb0 : Below w.heap.size w W1 := by rw [hW1]; exact (Below.refl _ _).alloc (Nat.le_refl _) _
  have hbx : Box W1 w.heap.size [.int .i64 f, .int .i64 t] := by rw [hW1]; exact Box.new w _ _
  rw [← hL] at cR cQ
  have HN : Hid2 (N = G.length) := hid2 hN
  have HPL := hid2 (show Small G → (pathL G f t).length ≤ 1000000000 from fun hs => by have := hs.n; have := pathL_len G f t; omega)
  have HTG := hid2 (fun (i : Nat) (hi : i < G.length) => turnG_get G hi)
  have HBL := hid2 (fun (hs : Small G) (i : Nat) => show (castI (backs G i)).length ≤ 1000000000 by rw [castI_length]; have := hs.n; exact Nat.le_trans (List.length_filter_le _ _) (by simp; omega))
  rw [← hN, ← hL]
  rw [← hN] at cG cR cQ cT cU cP cO HTG
  have HCA := hid2 cA
  have HCG := hid2 cG
  have HCR := hid2 cR
  have HCQ := hid2 cQ
  have HCT := hid2 cT
  have HCU := hid2 cU
  have HCP := hid2 cP
  have HCO := hid2 cO
  have HW1 := hid2 hW1
  have HB0 := hid2 hb0
  have HBX := hid2 hbx
  clear cA cG cR cQ cT cU cP cO hg hl hr hfr hfl hN hL hW1 hb0 hbx
  by_cases h50 : L ≤ 50
  · have g50 : ((50 : Int) < (L : Int)) = False := eq_false (by omega)
    go_enter Try.func5, Try.ntmps5
    go_wp2_with (first
      | (go_at_call 8; rw [← HW1.out]; refine (HCA.out W1).mono ?_; rintro e w1 ⟨rfl, hb1⟩; have HB1 := hid2 (HB0.out.trans (hb1.mono HB0.out.size)); have HBX1 := hid2 (HBX.out.below_all hb1); clear hb1)
      | (go_at_call 9; refine (HCG.out w1 HB1.out).mono ?_; rintro e w2 ⟨v, rfl, hsm, hw2⟩; obtain rfl := hw2.symm; have HSM := hid2 hsm; clear hsm; cases v))
    rotate_left
    · go_ret
      exact ⟨rfl, HB1.out⟩
    · have hs := HSM.out (by first | rfl | trivial)
      have hN25 : N ≤ 25 := by have := hs.n; have := HN.out; omega
      have HR := hid2 (HCR.out hs h50)
      have HQ := hid2 (HCQ.out hs h50)
      have HT := hid2 (HCT.out hs)
      have HU := hid2 (HCU.out hs)
      have HP := hid2 (HCP.out hs)
      have HO := hid2 (HCO.out hs)
      have HPLL := hid2 (HPL.out hs)
      have HBLL := hid2 (HBL.out hs)
      have HTL := hid2 (show ∀ T : List Bool, RT G (fun k => (k : Int) ∈ fr) T → T.length = N from fun T h => by rw [HN.out]; exact h.len)
      unfold ReachPost at HR HQ
      unfold TurnPost at HT HU
      unfold WalkPost at HP HO
      rw [← HN.out] at HR HQ HT HU
      clear hs HSM HCR HCQ HCT HCU HCP HCO HCG HCA HPL HBL
      go_wp2_with (first
        | (go_at_call 17; refine (HR.out w1 HB1.out).mono ?_; rintro e w2 ⟨T, A2, c2, hT, rfl, hr2, hb2⟩; have HTT := hid2 hT; have HR2 := hid2 hr2; have HB2 := hid2 (HB1.out.trans (hb2.mono HB1.out.size)); have HBX2 := hid2 (HBX1.out.below_all hb2); clear hT hr2 hb2)
        | (go_at_call 18; refine (HQ.out w2 HB2.out).mono ?_; rintro e w3 ⟨T', A3, c3, hT', rfl, hr3, hb3⟩; obtain rfl := HTT.out.one hT'; have HR3 := hid2 hr3; have HR2' := hid2 (HR2.out.below_all hb3); have HB3 := hid2 (HB2.out.trans (hb3.mono HB2.out.size)); have HBX3 := hid2 (HBX2.out.below_all hb3); clear hT' hr3 hb3)
        | (go_at_call 16; refine (HT.out w3 HB3.out).mono ?_; rintro e w4 ⟨A4, rfl, hg4, hb4⟩; have HG4 := hid2 (hg4.grd (W := w4) (fun _ _ _ => rfl)); have HR2 := hid2 (HR2'.out.below_all hb4); have HR3' := hid2 (HR3.out.below_all hb4); have HB4 := hid2 (HB3.out.trans (hb4.mono HB3.out.size)); have HBX4 := hid2 (HBX3.out.below_all hb4); clear hg4 hb4)
        | (go_at_call 19; refine (HU.out w4 HB4.out).mono ?_; rintro e w5 ⟨A5, rfl, hg5, hb5⟩; have HG5 := hid2 (hg5.grd (W := w5) (fun _ _ _ => rfl)); have HG4' := hid2 (HG4.out.below hb5); have HR25 := hid2 (HR2.out.below_all hb5); have HR35 := hid2 (HR3'.out.below_all hb5); have HB5 := hid2 (HB4.out.trans (hb5.mono HB4.out.size)); have HBX5 := hid2 (HBX4.out.below_all hb5); clear hg5 hb5))
      clear HB1 HB2 HB3 HB4 HBX1 HBX2 HBX3 HBX4 HR2 HR3 HR3' HR2' HG4 HR HQ HT HU
      go_loopg [11, 45] N (fun gk x11 iv wr => ∃ i : Nat, i + gk = N ∧ iv = .int .i64 i ∧ Below w5.heap.size w5 wr)
      case atStart => exact ⟨0, by omega, rfl, Below.refl _ _⟩
      case round =>
        obtain ⟨i, hi, rfl, hlow⟩ := hrel
        have HLOW := hid2 hlow
        clear hlow
        by_cases hiN : i < N
        · have hiN' : (i : Int) < N := by omega
          have hi0 : (0 : Int) ≤ i := by omega
          obtain ⟨x, hx⟩ : ∃ x, T[i]? = some x := ⟨_, List.getElem?_eq_getElem (by rw [HTL.out T HTT.out]; exact hiN)⟩
          obtain ⟨b2, o2, e2, _⟩ := bool_cell HR25.out hx
          obtain ⟨b3, o3, e3, _⟩ := bool_cell HR35.out hx
          obtain ⟨a4, o4, R4, d4, e4, h4⟩ := grd_row_all HG4'.out (HTG.out i hiN)
          obtain ⟨a5, o5, R5, d5, e5, h5⟩ := grd_row_all HG5.out (HTG.out i hiN)
          have hbl := HBLL.out i
          obtain ⟨row, hrow⟩ : ∃ row, row = castI (backs G i) := ⟨_, rfl⟩
          rw [← hrow] at h4 h5 hbl
          obtain ⟨n, hn⟩ : ∃ n, n = row.length := ⟨_, rfl⟩
          have hks : ∀ W', Below w5.heap.size w5 W' → W'.cell? ⟨b2, o2 + i, none⟩ = some (.bool x) ∧ W'.cell? ⟨b3, o3 + i, none⟩ = some (.bool x) ∧ W'.cell? ⟨a4, o4 + i, none⟩ = some (.slice R4 n d4) ∧ W'.cell? ⟨a5, o5 + i, none⟩ = some (.slice R5 n d5) := fun W' hW => by
            refine ⟨?_, ?_, by rw [hn]; exact (h4 W' hW).1, by rw [hn]; exact (h5 W' hW).1⟩
            · obtain ⟨_, _, e, h⟩ := bool_cell (HR25.out.below_all hW) hx
              rw [e2] at e
              cases e
              exact h
            · obtain ⟨_, _, e, h⟩ := bool_cell (HR35.out.below_all hW) hx
              rw [e3] at e
              cases e
              exact h
          have hsm : ∀ W', Below w5.heap.size w5 W' → Calls Try.prog 12 #[.slice R4 n d4, .slice R5 n d5] W' fun e w' => e = .returned (.bool true) ∧ Below W'.heap.size W' w' := fun W' hW => by
            have h := same18_any W' R4 R5 d4 d5 row row (h4 W' hW).2 (h5 W' hW).2 hbl hbl
            rw [← hn] at h
            refine h.mono ?_
            rintro e w' ⟨rfl, hb⟩
            exact ⟨by simp, hb⟩
          have HKS := hid2 hks
          have HSME := hid2 hsm
          obtain ⟨s1, s2, s3, s4⟩ := hks wr HLOW.out
          subst e2 e3 e4 e5
          clear hx h4 h5 hbl hrow hks hsm hn hiN
          cases x with
          | true =>
            go_wp2_with fail
            go_region_held3 (fun w' => w'.cell? ⟨b2, o2 + i, none⟩ = some (.bool true) ∧ w'.cell? ⟨b3, o3 + i, none⟩ = some (.bool true) ∧ w'.cell? ⟨a4, o4 + i, none⟩ = some (.slice R4 n d4) ∧ w'.cell? ⟨a5, o5 + i, none⟩ = some (.slice R5 n d5)) (first | exact HKS.out _ hb7 | go_keep) (first
              | (go_at_call 12; refine (HSME.out _ (by first | exact HLOW.out.drew | exact HLOW.out)).mono ?_; rintro e w7 ⟨rfl, hb⟩; have hb7 : Below w5.heap.size w5 w7 := (by first | exact HLOW.out.drew.trans (hb.mono HLOW.out.drew.size) | exact HLOW.out.trans (hb.mono HLOW.out.size)); clear hb))
            go_wp2_with fail
            go_roundg (gk - 1)
            case rel => exact ⟨i + 1, by omega, by go_num, by assumption⟩
            case measure => omega
          | false =>
            go_wp2_with fail
            go_region_held3 (fun w' => w'.cell? ⟨b2, o2 + i, none⟩ = some (.bool false) ∧ w'.cell? ⟨b3, o3 + i, none⟩ = some (.bool false) ∧ w'.cell? ⟨a4, o4 + i, none⟩ = some (.slice R4 n d4) ∧ w'.cell? ⟨a5, o5 + i, none⟩ = some (.slice R5 n d5)) (first | exact HKS.out _ hb7 | go_keep) (first
              | (go_at_call 12; refine (HSME.out _ (by first | exact HLOW.out.drew | exact HLOW.out)).mono ?_; rintro e w7 ⟨rfl, hb⟩; have hb7 : Below w5.heap.size w5 w7 := (by first | exact HLOW.out.drew.trans (hb.mono HLOW.out.drew.size) | exact HLOW.out.trans (hb.mono HLOW.out.size)); clear hb))
            go_wp2_with fail
            go_roundg (gk - 1)
            case rel => exact ⟨i + 1, by omega, by go_num, by assumption⟩
            case measure => omega
        · have hiN' : ¬ (i : Int) < N := by omega
          have s1 : wr.cell? ⟨w.heap.size, 0, none⟩ = some (.int .i64 f) := (HBX5.out.below_all HLOW.out).cells 0
          have s2 : wr.cell? ⟨w.heap.size, 1, none⟩ = some (.int .i64 t) := (HBX5.out.below_all HLOW.out).cells 1
          have HKS := hid2 (fun (W' : World) (hW : Below w5.heap.size w5 W') => show W'.cell? ⟨w.heap.size, 0, none⟩ = some (.int .i64 f) ∧ W'.cell? ⟨w.heap.size, 1, none⟩ = some (.int .i64 t) from ⟨(HBX5.out.below_all hW).cells 0, (HBX5.out.below_all hW).cells 1⟩)
          have hlw := HLOW.out
          clear hiN
          go_wp2_with fail
          go_region_held3 (fun w' => w'.cell? ⟨w.heap.size, 0, none⟩ = some (.int .i64 f) ∧ w'.cell? ⟨w.heap.size, 1, none⟩ = some (.int .i64 t)) (first | exact HKS.out _ hb9 | exact HKS.out _ hb8 | exact HKS.out _ hb7 | go_keep) (first
            | (go_at_call 20; refine (HP.out _ (HB5.out.trans (hlw.drew.mono HB5.out.size))).mono ?_; rintro e w7 ⟨A7, c7, rfl, ho7, hb⟩; have HR7 := hid2 ho7.rd; have hb7 : Below w5.heap.size w5 w7 := hlw.drew.trans (hb.mono hlw.drew.size); clear ho7 hb)
            | (go_at_call 21; refine (HO.out _ (HB5.out.trans (hb7.mono HB5.out.size))).mono ?_; rintro e w8 ⟨A8, c8, rfl, ho8, hb⟩; have HR78 := hid2 (HR7.out.below_all hb); have HR8 := hid2 ho8.rd; have hb8 : Below w5.heap.size w5 w8 := hb7.trans (hb.mono hb7.size); clear ho8 hb)
            | (go_at_call 12; refine (same_nat _ _ _ _ _ _ HR78.out HR8.out HPLL.out).mono ?_; rintro e w9 ⟨rfl, hb⟩; have hb9 : Below w5.heap.size w5 w9 := hb8.trans (hb.mono hb8.size); clear hb))
          go_wp2_with fail
          go_ret
          exact ⟨rfl, HB5.out.trans (hb9.mono HB5.out.size)⟩
  · have g50 : ((50 : Int) < (L : Int)) = True := eq_true (by omega)
    go_enter Try.func5, Try.ntmps5
    go_wp2_with (first
      | (go_at_call 8; rw [← HW1.out]; refine (HCA.out W1).mono ?_; rintro e w1 ⟨rfl, hb1⟩; have HB1 := hid2 (HB0.out.trans (hb1.mono HB0.out.size)); clear hb1)
      | (go_at_call 9; refine (HCG.out w1 HB1.out).mono ?_; rintro e w2 ⟨v, rfl, hsm, hw2⟩; obtain rfl := hw2.symm; clear hsm; cases v))
    · go_ret
      exact ⟨rfl, HB1.out⟩
    · go_ret
      exact ⟨rfl, HB1.out⟩
end Go.Proofs.Ytccilmnlepekeaa
