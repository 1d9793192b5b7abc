/- The walk of the law CycleTurned. -/
import Derived.Test.YtccilmnlepekeaaCyp2
import Derived.Test.YtccilmnlepekeaaCyc26
namespace Go.Proofs.Ytccilmnlepekeaa
open Go.RowKit
theorem reach_turn {G : List (List Int)} {i k : Nat} (hi : i < G.length) (hk : k < G.length) {T1 T2 : List Bool} (h1 : RT G (fun j => (j : Int) ∈ [(i : Int)]) T1) (h2 : RT (turnG G) (fun j => (j : Int) ∈ [(k : Int)]) T2) : ∃ x, T1[k]? = some x ∧ T2[i]? = some x := by
  have l1 := h1.len
  have l2 := h2.len
  rw [turnG_length] at l2
  obtain ⟨x, hx⟩ : ∃ x, T1[k]? = some x := ⟨_, List.getElem?_eq_getElem (by omega)⟩
  obtain ⟨y, hy⟩ : ∃ y, T2[i]? = some y := ⟨_, List.getElem?_eq_getElem (by omega)⟩
  have hiff : inT T1 k ↔ inT T2 i := by
    rw [h1.wk, h2.wk, turnG_length]
    constructor
    · rintro ⟨_, a, n, ha, he, hw⟩
      have : a = i := by have := List.mem_singleton.1 he; omega
      subst this
      exact ⟨hi, k, n, hk, by simp, wk_turn n _ _ hi hk hw⟩
    · rintro ⟨_, a, n, ha, he, hw⟩
      have : a = k := by have := List.mem_singleton.1 he; omega
      subst this
      exact ⟨hk, i, n, hi, by simp, turn_wk n _ _ hi hk hw⟩
  unfold inT at hiff
  rw [hx, hy] at hiff
  refine ⟨x, hx, ?_⟩
  rw [hy]
  cases x <;> cases y <;> simp at hiff ⊢
/-- an order's answer, whatever it is -/
theorem ord_ok {w w' : World} {G : List (List Int)} {e : Ending} (h : OrdPost w G e w') : ∃ (A' : Option Addr) (n c' : Nat), e = .returned (.tuple #[.slice A' n c', .bool (ordG G).isSome]) ∧ Below w.heap.size w w' := by
  rcases h with ⟨l', A', c', h1, h2, h3, h4⟩ | ⟨h1, h2, h3⟩
  · exact ⟨A', _, c', by rw [h1]; exact h2, h4⟩
  · exact ⟨none, 0, 0, by rw [h1]; exact h2, h3⟩
set_option maxRecDepth 100000 in
set_option maxHeartbeats 4000000 in
theorem cycleTurned_walk (w : World) (A : Option Addr) (c : Nat) (G : List (List Int)) (hg : GRd w A G) (hl : G.length ≤ 8796093022208) (hr : ∀ (i : Nat) (row : List Int), G[i]? = some row → row.length ≤ 140737488355328) (i k : Int) :
    Calls Try.prog 7 #[.slice A G.length c, .int .i64 i, .int .i64 k] w fun e w' => e = .returned (.bool true) ∧ Below w.heap.size w w' := by
  have cA := fun (W : World) => cycalive_any W
  have cG := fun (W : World) (hW : Below w.heap.size w W) => great18_any W A c G (hg.below hW) hl hr
  unfold G18Post at cG
  obtain ⟨N, hN⟩ : ∃ N, N = G.length := ⟨_, rfl⟩
  rw [← hN] at cG ⊢
  have HCA := hid2 cA
  have HCG := hid2 cG
  by_cases hout : i < 0 ∨ k < 0 ∨ (N : Int) ≤ i ∨ (N : Int) ≤ k
  · clear cA cG hg hl hr hN
    by_cases h1 : i < 0
    · clear hout
      go_enter Try.func7, Try.ntmps7
      go_wp2_with (first
        | (go_at_call 8; refine (HCA.out w).mono ?_; rintro e w1 ⟨rfl, hb1⟩; have HB1 := hid2 hb1; clear hb1)
        | (go_at_call 9; refine (HCG.out w1 HB1.out).mono ?_; rintro e w2 ⟨v, rfl, hsm, hw2⟩; obtain rfl := hw2.symm; have HSM := hid2 hsm; clear hsm; cases v))
      · go_ret
        exact ⟨rfl, HB1.out⟩
      · go_ret
        exact ⟨rfl, HB1.out⟩
    · by_cases h2 : k < 0
      · clear hout
        go_enter Try.func7, Try.ntmps7
        go_wp2_with (first
          | (go_at_call 8; refine (HCA.out w).mono ?_; rintro e w1 ⟨rfl, hb1⟩; have HB1 := hid2 hb1; clear hb1)
          | (go_at_call 9; refine (HCG.out w1 HB1.out).mono ?_; rintro e w2 ⟨v, rfl, hsm, hw2⟩; obtain rfl := hw2.symm; have HSM := hid2 hsm; clear hsm; cases v))
        · go_ret
          exact ⟨rfl, HB1.out⟩
        · go_ret
          exact ⟨rfl, HB1.out⟩
      · by_cases h3 : (N : Int) ≤ i
        · clear hout
          go_enter Try.func7, Try.ntmps7
          go_wp2_with (first
            | (go_at_call 8; refine (HCA.out w).mono ?_; rintro e w1 ⟨rfl, hb1⟩; have HB1 := hid2 hb1; clear hb1)
            | (go_at_call 9; refine (HCG.out w1 HB1.out).mono ?_; rintro e w2 ⟨v, rfl, hsm, hw2⟩; obtain rfl := hw2.symm; have HSM := hid2 hsm; clear hsm; cases v))
          · go_ret
            exact ⟨rfl, HB1.out⟩
          · go_ret
            exact ⟨rfl, HB1.out⟩
        · have h4 : (N : Int) ≤ k := by omega
          clear hout
          go_enter Try.func7, Try.ntmps7
          go_wp2_with (first
            | (go_at_call 8; refine (HCA.out w).mono ?_; rintro e w1 ⟨rfl, hb1⟩; have HB1 := hid2 hb1; clear hb1)
            | (go_at_call 9; refine (HCG.out w1 HB1.out).mono ?_; rintro e w2 ⟨v, rfl, hsm, hw2⟩; obtain rfl := hw2.symm; have HSM := hid2 hsm; clear hsm; cases v))
          · go_ret
            exact ⟨rfl, HB1.out⟩
          · go_ret
            exact ⟨rfl, HB1.out⟩
  · obtain ⟨i, rfl⟩ : ∃ j : Nat, i = j := ⟨i.toNat, by omega⟩
    obtain ⟨k, rfl⟩ : ∃ j : Nat, k = j := ⟨k.toNat, by omega⟩
    have hi : i < N := by omega
    have hk : k < N := by omega
    have hi0 : (0 : Int) ≤ i := by omega
    have hk0 : (0 : Int) ≤ k := by omega
    have hiN : (i : Int) < N := by omega
    have hkN : (k : Int) < N := by omega
    have cT := fun (hs : Small G) (W : World) (hW : Below w.heap.size w W) => turn_any W A c G (hg.below hW) hs
    unfold TurnPost at cT
    have cR := fun (hs : Small G) (W : World) (hW : Below w.heap.size w W) (AF : Option Addr) (cF : Nat) (h : Rd W 1 AF 1 (intV [(i : Int)])) => creach_any W A c G (hg.below hW) hs AF cF [(i : Int)] h (by simp)
    have cR2 := fun (hs : Small G) (W : World) (AT : Option Addr) (hT : GRd W AT (turnG G)) (AF : Option Addr) (cF : Nat) (h : Rd W 1 AF 1 (intV [(k : Int)])) => creach_any W AT G.length (turnG G) hT (turnG_small hs) AF cF [(k : Int)] h (by simp)
    have cP := fun (hs : Small G) (W : World) (hW : Below w.heap.size w W) => cpath_any W A c G (hg.below hW) hs i k
    have cP2 := fun (hs : Small G) (W : World) (AT : Option Addr) (hT : GRd W AT (turnG G)) => cpath_any W AT G.length (turnG G) hT (turnG_small hs) k i
    have cO := fun (hs : Small G) (W : World) (hW : Below w.heap.size w W) => corder_any W A c G (hg.below hW) hs
    have cO2 := fun (hs : Small G) (W : World) (AT : Option Addr) (hT : GRd W AT (turnG G)) => corder_any W AT G.length (turnG G) hT (turnG_small hs)
    have cQ := fun (hs : Small G) (W : World) (hW : Below w.heap.size w W) => cring_any W A c G (hg.below hW) hs
    have cQ2 := fun (hs : Small G) (W : World) (AT : Option Addr) (hT : GRd W AT (turnG G)) => cring_any W AT G.length (turnG G) hT (turnG_small hs)
    simp only [turnG_length] at cR2 cP2 cO2 cQ2
    unfold ReachPost at cR cR2
    unfold WalkPost at cP cP2 cQ cQ2
    rw [turnG_length] at cR2
    have hrt := fun (T1 T2 : List Bool) (h1 : RT G (fun j => (j : Int) ∈ [(i : Int)]) T1) (h2 : RT (turnG G) (fun j => (j : Int) ∈ [(k : Int)]) T2) => reach_turn (by omega) (by omega) h1 h2
    have hpn : (pathL (turnG G) k i).length = (pathL G i k).length := by
      rw [pathL_nat (G := turnG G) (i := k) (to := i) (by rw [turnG_length]; omega) (by rw [turnG_length]; omega), pathL_nat (G := G) (i := i) (to := k) (by omega) (by omega)]
      exact pathN_turn (by omega) (by omega)
    have hrn := ringL_turn G
    have hon := ord_turn G
    rw [hpn] at cP2
    rw [hrn] at cQ2
    rw [← hN] at cT cR cR2 cP cP2 cO cO2 cQ cQ2
    obtain ⟨pl, hpl⟩ : ∃ pl, pl = (pathL G i k).length := ⟨_, rfl⟩
    obtain ⟨rl, hrl⟩ : ∃ rl, rl = (ringL G).length := ⟨_, rfl⟩
    obtain ⟨ok, hok⟩ : ∃ ok, ok = (ordG G).isSome := ⟨_, rfl⟩
    rw [← hpl] at cP cP2
    rw [← hrl] at cQ cQ2
    have cO' := fun (hs : Small G) (W : World) (hW : Below w.heap.size w W) => (cO hs W hW).mono fun e w' h => ord_ok h
    have cO2' := fun (hs : Small G) (W : World) (AT : Option Addr) (hT : GRd W AT (turnG G)) => (cO2 hs W AT hT).mono fun e w' h => ord_ok h
    rw [← hok] at cO' hon
    rw [← hon] at cO2'
    have HCT := hid2 cT
    have HCR := hid2 cR
    have HCR2 := hid2 cR2
    have HCP := hid2 cP
    have HCP2 := hid2 cP2
    have HCO := hid2 cO'
    have HCO2 := hid2 cO2'
    have HCQ := hid2 cQ
    have HCQ2 := hid2 cQ2
    have HRT := hid2 hrt
    clear cA cG hg hl hr hN cT cR cR2 cP cP2 cO cO2 cO' cO2' cQ cQ2 hrt hpn hrn hon hpl hrl hok hout hi hk
    go_enter Try.func7, Try.ntmps7
    go_wp2_with (first
      | (go_at_call 8; refine (HCA.out w).mono ?_; rintro e w1 ⟨rfl, hb1⟩; have HB1 := hid2 hb1; clear hb1)
      | (go_at_call 9; refine (HCG.out w1 HB1.out).mono ?_; rintro e w2 ⟨v, rfl, hsm, hw2⟩; obtain rfl := hw2.symm; have HSM := hid2 hsm; clear hsm; cases v))
    rotate_left
    · go_ret
      exact ⟨rfl, HB1.out⟩
    · have hs := HSM.out (by first | rfl | trivial)
      have HT := hid2 (HCT.out hs)
      have HR := hid2 (HCR.out hs)
      have HR2 := hid2 (HCR2.out hs)
      have HP := hid2 (HCP.out hs)
      have HP2 := hid2 (HCP2.out hs)
      have HO := hid2 (HCO.out hs)
      have HO2 := hid2 (HCO2.out hs)
      have HQ := hid2 (HCQ.out hs)
      have HQ2 := hid2 (HCQ2.out hs)
      have HL1 := hid2 (fun (W : World) => Rd.of_lit W #[.int .i64 (i : Int)] 3 1 1 (by decide) rfl)
      have HL2 := hid2 (fun (W : World) => Rd.of_lit W #[.int .i64 (k : Int)] 3 1 1 (by decide) rfl)
      have HA := hid2 (fun (W : World) (o : Obj) => show Below W.heap.size W (W.alloc o) from (Below.refl _ _).alloc (Nat.le_refl _) _)
      clear hs HSM HCT HCR HCR2 HCP HCP2 HCO HCO2 HCQ HCQ2 HCG HCA
      go_wp2_with (first
        | (go_at_call 16; refine (HT.out w1 HB1.out).mono ?_; rintro e w2 ⟨AT, rfl, hgt, hb2⟩; have HGT := hid2 (hgt.grd (W := w2) (fun _ _ _ => rfl)); have HB2 := hid2 (HB1.out.trans (hb2.mono HB1.out.size)); clear hgt hb2)
        | (go_at_call 17; refine (HR.out _ (HB2.out.trans ((HA.out w2 _).mono HB2.out.size)) _ _ (HL1.out w2)).mono ?_; clear HR; rintro e w3 ⟨T1, A3, c3, hT1, rfl, hr3, hb3⟩; have hb23 := (HA.out w2 _).trans (hb3.mono (HA.out w2 _).size); have HB3 := hid2 (HB2.out.trans (hb23.mono HB2.out.size)); have HGT3 := hid2 (HGT.out.below hb23); have HT1 := hid2 hT1; have HR3 := hid2 hr3; clear hT1 hr3 hb3 hb23)
        | (go_at_call 17; refine (HR2.out _ AT (HGT3.out.below (HA.out w3 _)) _ _ (HL2.out w3)).mono ?_; clear HR2; rintro e w4 ⟨T2, A4, c4, hT2, rfl, hr4, hb4⟩; have hb34 := (HA.out w3 _).trans (hb4.mono (HA.out w3 _).size); have HB4 := hid2 (HB3.out.trans (hb34.mono HB3.out.size)); have HGT4 := hid2 (HGT3.out.below hb34); have HR34 := hid2 (HR3.out.below_all hb34); have HR4 := hid2 hr4; have HX := hid2 (HRT.out T1 T2 HT1.out hT2); clear hT2 hr4 hb4 hb34))
      obtain ⟨x, hx1, hx2⟩ := HX.out
      obtain ⟨b3, o3, rfl, s1⟩ := bool_cell HR34.out hx1
      obtain ⟨b4, o4, rfl, s2⟩ := bool_cell HR4.out hx2
      have HKS := hid2 (fun (W : World) (hW : Below w4.heap.size w4 W) => show W.cell? ⟨b3, o3 + k, none⟩ = some (.bool x) ∧ W.cell? ⟨b4, o4 + i, none⟩ = some (.bool x) from by
        obtain ⟨_, _, e1, q1⟩ := bool_cell (HR34.out.below_all hW) hx1
        obtain ⟨_, _, e2, q2⟩ := bool_cell (HR4.out.below_all hW) hx2
        cases e1
        cases e2
        exact ⟨q1, q2⟩)
      clear HB1 HB2 HB3 HGT HGT3 HR3 HT HX HRT HT1 hx1 hx2 HL1 HL2
      have hr4 := Below.refl w4.heap.size w4
      cases x with
      | true =>
        go_region_held3 (fun w' => w'.cell? ⟨b3, o3 + k, none⟩ = some (.bool true) ∧ w'.cell? ⟨b4, o4 + i, none⟩ = some (.bool true)) (first | exact HKS.out _ hb6 | exact HKS.out _ hb5 | go_keep) (first
          | (go_at_call 20; refine (HP.out _ (HB4.out.trans (hr4.drew.mono HB4.out.size))).mono ?_; clear HP; rintro e w5 ⟨A5, c5, rfl, _, hb⟩; have hb5 : Below w4.heap.size w4 w5 := hr4.drew.trans (hb.mono hr4.drew.size); clear hb)
          | (go_at_call 20; refine (HP2.out _ AT (HGT4.out.below hb5)).mono ?_; clear HP2; rintro e w6 ⟨A6, c6, rfl, _, hb⟩; have hb6 : Below w4.heap.size w4 w6 := hb5.trans (hb.mono hb5.size); clear hb))
        have HB6 := hid2 (HB4.out.trans (hb6.mono HB4.out.size))
        have HGT6 := hid2 (HGT4.out.below hb6)
        cases ok with
        | true =>
          go_wp2_with (first
            | (go_at_call 10; refine (HO.out w6 HB6.out).mono ?_; clear HO; rintro e w7 ⟨A7, n7, c7, rfl, hb⟩; have HB7 := hid2 (HB6.out.trans (hb.mono HB6.out.size)); have HGT7 := hid2 (HGT6.out.below hb); clear hb)
            | (go_at_call 10; refine (HO2.out w7 AT HGT7.out).mono ?_; clear HO2; rintro e w8 ⟨A8, n8, c8, rfl, hb⟩; have HB8 := hid2 (HB7.out.trans (hb.mono HB7.out.size)); have HGT8 := hid2 (HGT7.out.below hb); clear hb)
            | (go_at_call 13; refine (HQ.out w8 HB8.out).mono ?_; clear HQ; rintro e w9 ⟨A9, c9, rfl, _, hb⟩; have HB9 := hid2 (HB8.out.trans (hb.mono HB8.out.size)); have HGT9 := hid2 (HGT8.out.below hb); clear hb)
            | (go_at_call 13; refine (HQ2.out w9 AT HGT9.out).mono ?_; clear HQ2; rintro e w10 ⟨A10, c10, rfl, _, hb⟩; have HB10 := hid2 (HB9.out.trans (hb.mono HB9.out.size)); clear hb))
          go_ret
          exact ⟨rfl, HB10.out⟩
        | false =>
          go_wp2_with (first
            | (go_at_call 10; refine (HO.out w6 HB6.out).mono ?_; clear HO; rintro e w7 ⟨A7, n7, c7, rfl, hb⟩; have HB7 := hid2 (HB6.out.trans (hb.mono HB6.out.size)); have HGT7 := hid2 (HGT6.out.below hb); clear hb)
            | (go_at_call 10; refine (HO2.out w7 AT HGT7.out).mono ?_; clear HO2; rintro e w8 ⟨A8, n8, c8, rfl, hb⟩; have HB8 := hid2 (HB7.out.trans (hb.mono HB7.out.size)); have HGT8 := hid2 (HGT7.out.below hb); clear hb)
            | (go_at_call 13; refine (HQ.out w8 HB8.out).mono ?_; clear HQ; rintro e w9 ⟨A9, c9, rfl, _, hb⟩; have HB9 := hid2 (HB8.out.trans (hb.mono HB8.out.size)); have HGT9 := hid2 (HGT8.out.below hb); clear hb)
            | (go_at_call 13; refine (HQ2.out w9 AT HGT9.out).mono ?_; clear HQ2; rintro e w10 ⟨A10, c10, rfl, _, hb⟩; have HB10 := hid2 (HB9.out.trans (hb.mono HB9.out.size)); clear hb))
          go_ret
          exact ⟨rfl, HB10.out⟩
      | false =>
        go_region_held3 (fun w' => w'.cell? ⟨b3, o3 + k, none⟩ = some (.bool false) ∧ w'.cell? ⟨b4, o4 + i, none⟩ = some (.bool false)) (first | exact HKS.out _ hb6 | exact HKS.out _ hb5 | go_keep) (first
          | (go_at_call 20; refine (HP.out _ (HB4.out.trans (hr4.drew.mono HB4.out.size))).mono ?_; clear HP; rintro e w5 ⟨A5, c5, rfl, _, hb⟩; have hb5 : Below w4.heap.size w4 w5 := hr4.drew.trans (hb.mono hr4.drew.size); clear hb)
          | (go_at_call 20; refine (HP2.out _ AT (HGT4.out.below hb5)).mono ?_; clear HP2; rintro e w6 ⟨A6, c6, rfl, _, hb⟩; have hb6 : Below w4.heap.size w4 w6 := hb5.trans (hb.mono hb5.size); clear hb))
        have HB6 := hid2 (HB4.out.trans (hb6.mono HB4.out.size))
        have HGT6 := hid2 (HGT4.out.below hb6)
        cases ok with
        | true =>
          go_wp2_with (first
            | (go_at_call 10; refine (HO.out w6 HB6.out).mono ?_; clear HO; rintro e w7 ⟨A7, n7, c7, rfl, hb⟩; have HB7 := hid2 (HB6.out.trans (hb.mono HB6.out.size)); have HGT7 := hid2 (HGT6.out.below hb); clear hb)
            | (go_at_call 10; refine (HO2.out w7 AT HGT7.out).mono ?_; clear HO2; rintro e w8 ⟨A8, n8, c8, rfl, hb⟩; have HB8 := hid2 (HB7.out.trans (hb.mono HB7.out.size)); have HGT8 := hid2 (HGT7.out.below hb); clear hb)
            | (go_at_call 13; refine (HQ.out w8 HB8.out).mono ?_; clear HQ; rintro e w9 ⟨A9, c9, rfl, _, hb⟩; have HB9 := hid2 (HB8.out.trans (hb.mono HB8.out.size)); have HGT9 := hid2 (HGT8.out.below hb); clear hb)
            | (go_at_call 13; refine (HQ2.out w9 AT HGT9.out).mono ?_; clear HQ2; rintro e w10 ⟨A10, c10, rfl, _, hb⟩; have HB10 := hid2 (HB9.out.trans (hb.mono HB9.out.size)); clear hb))
          go_ret
          exact ⟨rfl, HB10.out⟩
        | false =>
          go_wp2_with (first
            | (go_at_call 10; refine (HO.out w6 HB6.out).mono ?_; clear HO; rintro e w7 ⟨A7, n7, c7, rfl, hb⟩; have HB7 := hid2 (HB6.out.trans (hb.mono HB6.out.size)); have HGT7 := hid2 (HGT6.out.below hb); clear hb)
            | (go_at_call 10; refine (HO2.out w7 AT HGT7.out).mono ?_; clear HO2; rintro e w8 ⟨A8, n8, c8, rfl, hb⟩; have HB8 := hid2 (HB7.out.trans (hb.mono HB7.out.size)); have HGT8 := hid2 (HGT7.out.below hb); clear hb)
            | (go_at_call 13; refine (HQ.out w8 HB8.out).mono ?_; clear HQ; rintro e w9 ⟨A9, c9, rfl, _, hb⟩; have HB9 := hid2 (HB8.out.trans (hb.mono HB8.out.size)); have HGT9 := hid2 (HGT8.out.below hb); clear hb)
            | (go_at_call 13; refine (HQ2.out w9 AT HGT9.out).mono ?_; clear HQ2; rintro e w10 ⟨A10, c10, rfl, _, hb⟩; have HB10 := hid2 (HB9.out.trans (hb.mono HB9.out.size)); clear hb))
          go_ret
          exact ⟨rfl, HB10.out⟩
end Go.Proofs.Ytccilmnlepekeaa
