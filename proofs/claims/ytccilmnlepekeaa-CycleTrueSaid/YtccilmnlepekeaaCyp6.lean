/- The walk of the law CycleTrue. -/
import Derived.Test.YtccilmnlepekeaaCyp5
import Derived.Test.YtccilmnlepekeaaCyp3
import Derived.Test.YtccilmnlepekeaaIMap
namespace Go.Proofs.Ytccilmnlepekeaa
open Go.RowKit
theorem castN_get {l : List Nat} {q k : Nat} (h : l[q]? = some k) : (l.map fun (x : Nat) => (x : Int))[q]? = some (k : Int) := by rw [List.getElem?_map, h]; rfl
theorem tmod_nat (a b : Nat) : ((a : Int) + 1).tmod (b : Int) = (((a + 1) % b : Nat) : Int) := by
  rw [show (a : Int) + 1 = ((a + 1 : Nat) : Int) by omega]
  rfl
set_option maxRecDepth 100000 in
set_option maxHeartbeats 8000000 in
theorem cycleTrue_walk (w : World) (A : Option Addr) (c : Nat) (G : List (List Int)) (hg : GRd w A G) (hl : G.length ≤ 8796093022208) (hr : ∀ (i : Nat) (row : List Int), G[i]? = some row → row.length ≤ 140737488355328) :
    Calls Try.prog 4 #[.slice A G.length c] w fun e w' => e = .returned (.bool true) ∧ Below w.heap.size w w' := by
  have cA := fun (W : World) => cycalive_any W
  have cG := fun (W : World) (hW : Below w.heap.size w W) => great18_any W A c G (hg.below hW) hl hr
  unfold G18Post at cG
  have cO := fun (hs : Small G) (W : World) (hW : Below w.heap.size w W) => (corder_any W A c G (hg.below hW) hs).mono fun e w' h => ordL_post h
  have cQ := fun (hs : Small G) (W : World) (hW : Below w.heap.size w W) => cring_any W A c G (hg.below hW) hs
  have cT := fun (hs : Small G) (W : World) (hW : Below w.heap.size w W) => turn_any W A c G (hg.below hW) hs
  have cT2 := fun (hs : Small G) (W : World) (AT : Option Addr) (hT : GRd W AT (turnG G)) => turn_any W AT G.length (turnG G) hT (turnG_small hs)
  have cN := fun (hs : Small G) (W : World) (hW : Below w.heap.size w W) (a b : Nat) (ha : a < G.length) (hb : b < G.length) => on_any W A c G (hg.below hW) hs a b ha hb
  have cN2 := fun (hs : Small G) (W : World) (AT : Option Addr) (hT : GRd W AT (turnG (turnG G))) (a b : Nat) (ha : a < G.length) (hb : b < G.length) => on_any W AT G.length (turnG (turnG G)) hT (turnG_small (turnG_small hs)) a b (by rw [turnG_length, turnG_length]; exact ha) (by rw [turnG_length, turnG_length]; exact hb)
  have htt : ∀ i k, i < G.length → k < G.length → adj (turnG (turnG G)) i k = adj G i k := fun i k hi hk => turn_twice hi hk
  have hol := fun (p : Nat) (hp : p < (ordL G).length) => ordL_law hp
  have hrl := fun (q : Nat) (hq : q < (ringL G).length) => ring_law hq
  have hor := ordL_or G
  have hrn := ringL_len G
  have hmm := @run_makeMap Try.prog
  unfold WalkPost at cQ
  unfold TurnPost at cT cT2
  simp only [turnG_length] at cT2 cN2
  obtain ⟨N, hN⟩ : ∃ N, N = G.length := ⟨_, rfl⟩
  simp only [← hN] at cG cO cQ cT cT2 cN cN2 htt hol hrl hor hrn ⊢
  obtain ⟨LS, hLS⟩ : ∃ LS, LS = ordL G := ⟨_, rfl⟩
  obtain ⟨RG, hRG⟩ : ∃ RG, RG = ringL G := ⟨_, rfl⟩
  obtain ⟨ok, hok⟩ : ∃ ok, ok = (ordG G).isSome := ⟨_, rfl⟩
  rw [← hLS] at hol hor
  simp only [← hLS] at cO
  rw [← hRG] at hrl hor hrn
  simp only [← hRG] at cQ
  rw [← hok] at hor
  simp only [← hok] at cO
  obtain ⟨n1, hn1⟩ : ∃ n1, n1 = LS.length := ⟨_, rfl⟩
  obtain ⟨R, hR⟩ : ∃ R, R = RG.length := ⟨_, rfl⟩
  rw [← hn1] at hol hor
  simp only [← hn1] at cO
  rw [← hR] at hor hrn
  simp only [← hR] at cQ hrl
  have HCA := hid2 cA
  have HCG := hid2 cG
  have HCO := hid2 cO
  have HCQ := hid2 cQ
  have HCT := hid2 cT
  have HCT2 := hid2 cT2
  have HCN := hid2 cN
  have HCN2 := hid2 cN2
  have HTT := hid2 htt
  have HOL := hid2 hol
  have HRL := hid2 hrl
  have HOR := hid2 hor
  have HSN := hid2 (show Small G → N ≤ 25 from fun hs => by rw [hN]; exact hs.n)
  clear cA cG cO cQ cT cT2 cN cN2 htt hol hrl hor hg hl hr hN hLS hRG hok hn1 hR
  go_enter Try.func4, Try.ntmps4
  go_wp2_with (first
    | (go_at_call 8; refine (HCA.out w).mono ?_; rintro e w1 ⟨rfl, hb1⟩; have HB1 := hid2 hb1; clear hb1)
    | (go_at_call 9; refine (HCG.out w1 HB1.out).mono ?_; rintro e w2 ⟨v, rfl, hsm, hw2⟩; obtain rfl := hw2.symm; have HSM := hid2 hsm; clear hsm; cases v))
  rotate_left
  · go_ret
    exact ⟨rfl, HB1.out⟩
  · have hs := HSM.out (by first | rfl | trivial)
    have hN25 := HSN.out hs
    have HO := hid2 (HCO.out hs)
    have HQ := hid2 (HCQ.out hs)
    have HT := hid2 (HCT.out hs)
    have HT2 := hid2 (HCT2.out hs)
    have HN1 := hid2 (HCN.out hs)
    have HN2 := hid2 (HCN2.out hs)
    clear hs HSM HCO HCQ HCT HCT2 HCN HCN2 HCG HCA HSN
    rcases HOR.out with ⟨rfl, hn1N, hR0⟩ | ⟨rfl, hn1N, hR0⟩
    · have hn1N := hn1N.symm
      subst hn1N hR0
      clear HOR
      go_wp2_with (first
        | (go_at_call 10; refine (HO.out w1 HB1.out).mono ?_; rintro e w2 ⟨AL, cL, rfl, hr2, hb2⟩; have HRL2 := hid2 hr2; have HB2 := hid2 (HB1.out.trans (hb2.mono HB1.out.size)); clear hr2 hb2)
        | (go_at_call 13; refine (HQ.out w2 HB2.out).mono ?_; rintro e w3 ⟨AR, cR, rfl, hr3, hb3⟩; have HRR := hid2 hr3.rd; have HRL3 := hid2 (HRL2.out.below_all hb3); have HB3 := hid2 (HB2.out.trans (hb3.mono HB2.out.size)); clear hr3 hb3))
      clear HO HQ
      obtain ⟨W4, hW4⟩ : ∃ W4, W4 = w3.alloc (.map #[] 0) := ⟨_, rfl⟩
      have hset0 : SetI W4 w3.heap.size 0 [] := by rw [hW4]; exact SetI.made w3
      have hb34 : Below w3.heap.size w3 W4 := by rw [hW4]; exact (Below.refl _ _).alloc (Nat.le_refl _) _
      have HW4 := hid2 hW4
      have HSET0 := hid2 hset0
      have HB34 := hid2 hb34
      rw [← HW4.out]
      clear hW4 hset0 hb34
      go_loopg [8, 9, 54] N (fun gk x8 x9 pv wr => ∃ p : Nat, p + gk = N ∧ pv = .int .i64 p ∧ SetI wr w3.heap.size p (LS.take p) ∧ Below w3.heap.size w3 wr)
      case atStart => exact ⟨0, by omega, rfl, HSET0.out, HB34.out⟩
      case round =>
        clear HSET0 HB34 HW4
        obtain ⟨p, hp, rfl, hset, hlow⟩ := hrel
        have HSET := hid2 hset
        have HLOW := hid2 hlow
        clear hset hlow
        by_cases hpn : p < N
        · have hpn' : (p : Int) < N := by omega
          have hp0 : (0 : Int) ≤ p := by omega
          obtain ⟨x, hx, hxN, hxn, hxs⟩ := HOL.out p hpn
          obtain ⟨bL, oL, rfl, cx⟩ := int_cell (HRL3.out.below_all HLOW.out) (castN_get hx)
          have hx0 : (0 : Int) ≤ x := by omega
          have hxN' : (x : Int) < N := by omega
          have gx1 : decide (N ≤ x) = false := decide_eq_false (by omega)
          have hlk := HSET.out.look (k := x) (by omega)
          rw [decide_eq_false hxn] at hlk
          have hon := fun (k : Nat) (hk : k < N) => HN1.out wr (HB3.out.trans (HLOW.out.mono HB3.out.size)) x k hxN hk
          have hsk := fun (k : Nat) (hk : k < N) (ha : adj G x k = true) => show (Instr.lookup 30 (.map (some w3.heap.size)) (.int .i64 (k : Int)) false).run Try.prog wr = .ok (.bool true) wr from by
            have h := HSET.out.look (k := k) (by omega)
            rw [decide_eq_true (hxs k hk ha)] at h
            exact h
          have hts : LS.take (p + 1) = LS.take p ++ [x] := by rw [List.take_add_one, hx]; rfl
          have HON := hid2 hon
          have HSK := hid2 hsk
          have HTS := hid2 hts
          have HXN := hid2 hxN
          have hpm : p < maxLen := by unfold maxLen; omega
          have hx1000 : x < 1000 := by omega
          obtain ⟨g0, hg0⟩ : ∃ g0, g0 = gk := ⟨_, rfl⟩
          clear hx hxn hxs hon hsk hts hpn
          go_wp2_with fail
          go_loopg [9, 73] N (fun gj x9 kv wr2 => ∃ k : Nat, k + gj = N ∧ kv = .int .i64 k ∧ wr2 = wr)
          case atStart => exact ⟨0, by omega, rfl, rfl⟩
          case round =>
            obtain ⟨k, hk, rfl, hwr⟩ := hrel
            obtain rfl := hwr.symm
            by_cases hkN : k < N
            · have hkN' : (k : Int) < N := by omega
              have hk0 : (0 : Int) ≤ k := by omega
              have hc := HON.out k hkN
              obtain ⟨av, hav⟩ : ∃ av, av = adj G x k := ⟨_, rfl⟩
              rw [← hav] at hc
              have HC := hid2 hc
              cases av with
              | true =>
                have hlk2 := HSK.out k hkN hav.symm
                clear hc hav hkN
                go_wp2_with (first | (go_at_call 15; refine HC.out.mono ?_; rintro e w7 ⟨rfl, hw7⟩; obtain rfl := hw7.symm))
                go_roundg (gk - 1)
                case rel => exact ⟨k + 1, by omega, by go_num, rfl⟩
                case measure => omega
              | false =>
                clear hc hav hkN
                go_wp2_with (first | (go_at_call 15; refine HC.out.mono ?_; rintro e w7 ⟨rfl, hw7⟩; obtain rfl := hw7.symm))
                go_roundg (gk - 1)
                case rel => exact ⟨k + 1, by omega, by go_num, rfl⟩
                case measure => omega
            · have hkN' : ¬ (k : Int) < N := by omega
              clear hkN hlk cx
              go_wp2_with (first
                | ((with_reducible refine wpList_set_add HSET.out hpm hx1000 ?_ ?_); exact ⟨rfl, rfl, rfl⟩; intro w8 hs8 ht8; have HS8 := hid2 hs8; have HT8 := hid2 ht8; clear hs8 ht8))
              go_roundg (g0 - 1)
              case rel => exact ⟨p + 1, by omega, by go_num, by rw [HTS.out]; exact HS8.out, HT8.out.below HLOW.out (Nat.le_refl _)⟩
              case measure => omega
        · have hpn' : ¬ (p : Int) < N := by omega
          clear hpn HSET
          go_wp2_with fail
          obtain ⟨W5, hW5⟩ : ∃ W5, W5 = wr.alloc (.map #[] 0) := ⟨_, rfl⟩
          have hset0 : SetI W5 wr.heap.size 0 [] := by rw [hW5]; exact SetI.made wr
          have hb45 : Below wr.heap.size wr W5 := by rw [hW5]; exact (Below.refl _ _).alloc (Nat.le_refl _) _
          have HW5 := hid2 hW5
          have HSET0 := hid2 hset0
          have HB45 := hid2 hb45
          have HRR4 := hid2 (HRR.out.below_all HLOW.out)
          have HB4 := hid2 (HB3.out.trans (HLOW.out.mono HB3.out.size))
          rw [← HW5.out]
          obtain ⟨wr0, hwr0⟩ : ∃ wr0, wr0 = wr := ⟨_, rfl⟩
          subst hwr0
          clear hW5 hset0 hb45
          go_loopg [11, 12, 93] 0 (fun gk x11 x12 qv wr => ∃ q : Nat, q + gk = 0 ∧ qv = .int .i64 q ∧ SetI wr wr0.heap.size q (RG.take q) ∧ Below wr0.heap.size wr0 wr)
          case atStart => exact ⟨0, by omega, rfl, HSET0.out, HB45.out⟩
          case round =>
            clear HSET0 HB45 HW5
            obtain ⟨q, hq, rfl, hset, hlow2⟩ := hrel
            have HSET := hid2 hset
            have HLOW2 := hid2 hlow2
            clear hset hlow2
            by_cases hqR : q < 0
            · exact absurd hqR (by omega)
            · have hqR' : ¬ (q : Int) < 0 := by omega
              have HB5 := hid2 (HB4.out.trans (HLOW2.out.mono HB4.out.size))
              clear hqR HSET
              go_wp2_with (first
                | (go_at_call 16; refine (HT.out _ HB5.out).mono ?_; clear HT; rintro e w6 ⟨AT, rfl, hgt, hb⟩; have HGT := hid2 (hgt.grd (W := w6) (fun _ _ _ => rfl)); have HB6 := hid2 (HB5.out.trans (hb.mono HB5.out.size)); clear hgt hb)
                | (go_at_call 16; refine (HT2.out _ AT HGT.out).mono ?_; clear HT2; rintro e w7 ⟨ATT, rfl, hgt, hb⟩; have HGTT := hid2 (hgt.grd (W := w7) (fun _ _ _ => rfl)); have HB7 := hid2 (HB6.out.trans (hb.mono HB6.out.size)); clear hgt hb))
              go_loopg [14, 15, 130] N (fun gk x14 x15 iv wr2 => ∃ i : Nat, i + gk = N ∧ iv = .int .i64 i ∧ wr2 = w7)
              case atStart => exact ⟨0, by omega, rfl, rfl⟩
              case round =>
                obtain ⟨i, hi, rfl, hwr⟩ := hrel
                obtain rfl := hwr.symm
                by_cases hiN : i < N
                · have hiN' : (i : Int) < N := by omega
                  have hi0 : (0 : Int) ≤ i := by omega
                  have HIN := hid2 hiN
                  obtain ⟨g0, hg0⟩ : ∃ g0, g0 = gk := ⟨_, rfl⟩
                  clear hiN
                  go_wp2_with fail
                  go_loopg [15, 135] N (fun gk x15 kv wr2 => ∃ k : Nat, k + gk = N ∧ kv = .int .i64 k ∧ wr2 = w7)
                  case atStart => exact ⟨0, by omega, rfl, rfl⟩
                  case round =>
                    obtain ⟨k, hk, rfl, hwr2⟩ := hrel
                    obtain rfl := hwr2.symm
                    by_cases hkN : k < N
                    · have hkN' : (k : Int) < N := by omega
                      have hk0 : (0 : Int) ≤ k := by omega
                      have hc1 := HN2.out w7 ATT HGTT.out i k HIN.out hkN
                      have hc2 := HN1.out w7 HB7.out i k HIN.out hkN
                      rw [HTT.out i k HIN.out hkN] at hc1
                      obtain ⟨av, hav⟩ : ∃ av, av = adj G i k := ⟨_, rfl⟩
                      rw [← hav] at hc1 hc2
                      have HC1 := hid2 hc1
                      have HC2 := hid2 hc2
                      clear hc1 hc2 hav hkN
                      cases av with
                      | true =>
                        go_wp2_with (first
                          | (go_at_call 15; refine HC1.out.mono ?_; clear HC1; rintro e w8 ⟨rfl, hw8⟩; obtain rfl := hw8.symm)
                          | (go_at_call 15; refine HC2.out.mono ?_; clear HC2; rintro e w8 ⟨rfl, hw8⟩; obtain rfl := hw8.symm))
                        go_roundg (gk - 1)
                        case rel => exact ⟨k + 1, by omega, by go_num, rfl⟩
                        case measure => omega
                      | false =>
                        go_wp2_with (first
                          | (go_at_call 15; refine HC1.out.mono ?_; clear HC1; rintro e w8 ⟨rfl, hw8⟩; obtain rfl := hw8.symm)
                          | (go_at_call 15; refine HC2.out.mono ?_; clear HC2; rintro e w8 ⟨rfl, hw8⟩; obtain rfl := hw8.symm))
                        go_roundg (gk - 1)
                        case rel => exact ⟨k + 1, by omega, by go_num, rfl⟩
                        case measure => omega
                    · have hkN' : ¬ (k : Int) < N := by omega
                      clear hkN
                      go_wp2_with fail
                      go_roundg (g0 - 1)
                      case rel => exact ⟨i + 1, by omega, by go_num, rfl⟩
                      case measure => omega
                · have hiN' : ¬ (i : Int) < N := by omega
                  clear hiN
                  go_wp2_with fail
                  go_ret
                  exact ⟨rfl, HB7.out⟩
    · subst hn1N
      have gR : ((R : Int) = 0) = False := eq_false (by omega)
      clear HOR
      go_wp2_with (first
        | (go_at_call 10; refine (HO.out w1 HB1.out).mono ?_; rintro e w2 ⟨AL, cL, rfl, hr2, hb2⟩; have HRL2 := hid2 hr2; have HB2 := hid2 (HB1.out.trans (hb2.mono HB1.out.size)); clear hr2 hb2)
        | (go_at_call 13; refine (HQ.out w2 HB2.out).mono ?_; rintro e w3 ⟨AR, cR, rfl, hr3, hb3⟩; have HRR := hid2 hr3.rd; have HRL3 := hid2 (HRL2.out.below_all hb3); have HB3 := hid2 (HB2.out.trans (hb3.mono HB2.out.size)); clear hr3 hb3))
      clear HO HQ
      obtain ⟨W4, hW4⟩ : ∃ W4, W4 = w3.alloc (.map #[] 0) := ⟨_, rfl⟩
      have hset0 : SetI W4 w3.heap.size 0 [] := by rw [hW4]; exact SetI.made w3
      have hb34 : Below w3.heap.size w3 W4 := by rw [hW4]; exact (Below.refl _ _).alloc (Nat.le_refl _) _
      have HW4 := hid2 hW4
      have HSET0 := hid2 hset0
      have HB34 := hid2 hb34
      rw [← HW4.out]
      clear hW4 hset0 hb34
      go_loopg [8, 9, 54] 0 (fun gk x8 x9 pv wr => ∃ p : Nat, p + gk = 0 ∧ pv = .int .i64 p ∧ SetI wr w3.heap.size p (LS.take p) ∧ Below w3.heap.size w3 wr)
      case atStart => exact ⟨0, by omega, rfl, HSET0.out, HB34.out⟩
      case round =>
        clear HSET0 HB34 HW4
        obtain ⟨p, hp, rfl, hset, hlow⟩ := hrel
        have HSET := hid2 hset
        have HLOW := hid2 hlow
        clear hset hlow
        by_cases hpn : p < 0
        · exact absurd hpn (by omega)
        · have hpn' : ¬ (p : Int) < 0 := by omega
          clear hpn HSET
          go_wp2_with fail
          obtain ⟨W5, hW5⟩ : ∃ W5, W5 = wr.alloc (.map #[] 0) := ⟨_, rfl⟩
          have hset0 : SetI W5 wr.heap.size 0 [] := by rw [hW5]; exact SetI.made wr
          have hb45 : Below wr.heap.size wr W5 := by rw [hW5]; exact (Below.refl _ _).alloc (Nat.le_refl _) _
          have HW5 := hid2 hW5
          have HSET0 := hid2 hset0
          have HB45 := hid2 hb45
          have HRR4 := hid2 (HRR.out.below_all HLOW.out)
          have HB4 := hid2 (HB3.out.trans (HLOW.out.mono HB3.out.size))
          rw [← HW5.out]
          obtain ⟨wr0, hwr0⟩ : ∃ wr0, wr0 = wr := ⟨_, rfl⟩
          subst hwr0
          clear hW5 hset0 hb45
          go_loopg [11, 12, 93] R (fun gk x11 x12 qv wr => ∃ q : Nat, q + gk = R ∧ qv = .int .i64 q ∧ SetI wr wr0.heap.size q (RG.take q) ∧ Below wr0.heap.size wr0 wr)
          case atStart => exact ⟨0, by omega, rfl, HSET0.out, HB45.out⟩
          case round =>
            clear HSET0 HB45 HW5
            obtain ⟨q, hq, rfl, hset, hlow2⟩ := hrel
            have HSET := hid2 hset
            have HLOW2 := hid2 hlow2
            clear hset hlow2
            by_cases hqR : q < R
            · have hqR' : (q : Int) < R := by omega
              have hq0 : (0 : Int) ≤ q := by omega
              obtain ⟨b, x, y, hb, hx, hy, hxN, hyN, hbx, hadj, hnx⟩ := HRL.out q hqR
              obtain ⟨t, ht⟩ : ∃ t, t = (q + 1) % R := ⟨_, rfl⟩
              rw [← ht] at hy
              have htR : t < R := by rw [ht]; exact Nat.mod_lt _ (by omega)
              have hrem := tmod_nat q R
              rw [← ht] at hrem
              have hrem2 : IntKind.i64.wrap (((q : Int) + 1).tmod (R : Int)) = (t : Int) := by rw [hrem]; exact IntWalk.i64_in _ (by constructor <;> omega)
              have ht0 : (0 : Int) ≤ t := by omega
              have htR' : (t : Int) < R := by omega
              have HRW := hid2 (HRR4.out.below_all HLOW2.out)
              obtain ⟨bR, oR, rfl, cx⟩ := int_cell HRW.out (castN_get hx)
              have c0 : wr.cell? ⟨bR, oR, none⟩ = some (.int .i64 b) := by
                obtain ⟨_, _, e, h⟩ := int_cell HRW.out (castN_get hb)
                cases e
                exact h
              have cy : wr.cell? ⟨bR, oR + t, none⟩ = some (.int .i64 y) := by
                obtain ⟨_, _, e, h⟩ := int_cell HRW.out (castN_get hy)
                cases e
                exact h
              have hR1 : (0 : Int) < R := by omega
              have hRne : ¬ (R : Int) = 0 := by omega
              have hRne2 : ¬ R = 0 := by omega
              have hw1 : IntKind.i64.wrap ((q : Int) + 1) = (q : Int) + 1 := IntWalk.i64_in _ (by constructor <;> omega)
              have gbx : ¬ (x : Int) < b := by omega
              have hlk := HSET.out.look (k := x) (by omega)
              rw [decide_eq_false hnx] at hlk
              have hc := HN1.out wr (HB4.out.trans (HLOW2.out.mono HB4.out.size)) x y hxN hyN
              rw [hadj] at hc
              have HC := hid2 hc
              have HTS := hid2 (show RG.take (q + 1) = RG.take q ++ [x] by rw [List.take_add_one, hx]; rfl)
              have hqm : q < maxLen := by unfold maxLen; omega
              have hx1000 : x < 1000 := by omega
              clear hb hx hy hadj hnx hc ht hqR
              go_wp2_with (first
                | (go_at_call 15; refine HC.out.mono ?_; rintro e w7 ⟨rfl, hw7⟩; obtain rfl := hw7.symm)
                | ((with_reducible refine wpList_set_add HSET.out hqm hx1000 ?_ ?_); exact ⟨rfl, rfl, rfl⟩; intro w8 hs8 ht8; have HS8 := hid2 hs8; have HT8 := hid2 ht8; clear hs8 ht8))
              go_roundg (gk - 1)
              case rel => exact ⟨q + 1, by omega, by go_num, by rw [HTS.out]; exact HS8.out, HT8.out.below HLOW2.out (Nat.le_refl _)⟩
              case measure => omega
            · have hqR' : ¬ (q : Int) < R := by omega
              have HB5 := hid2 (HB4.out.trans (HLOW2.out.mono HB4.out.size))
              clear hqR HSET
              go_wp2_with (first
                | (go_at_call 16; refine (HT.out _ HB5.out).mono ?_; clear HT; rintro e w6 ⟨AT, rfl, hgt, hb⟩; have HGT := hid2 (hgt.grd (W := w6) (fun _ _ _ => rfl)); have HB6 := hid2 (HB5.out.trans (hb.mono HB5.out.size)); clear hgt hb)
                | (go_at_call 16; refine (HT2.out _ AT HGT.out).mono ?_; clear HT2; rintro e w7 ⟨ATT, rfl, hgt, hb⟩; have HGTT := hid2 (hgt.grd (W := w7) (fun _ _ _ => rfl)); have HB7 := hid2 (HB6.out.trans (hb.mono HB6.out.size)); clear hgt hb))
              go_loopg [14, 15, 130] N (fun gk x14 x15 iv wr2 => ∃ i : Nat, i + gk = N ∧ iv = .int .i64 i ∧ wr2 = w7)
              case atStart => exact ⟨0, by omega, rfl, rfl⟩
              case round =>
                obtain ⟨i, hi, rfl, hwr⟩ := hrel
                obtain rfl := hwr.symm
                by_cases hiN : i < N
                · have hiN' : (i : Int) < N := by omega
                  have hi0 : (0 : Int) ≤ i := by omega
                  have HIN := hid2 hiN
                  obtain ⟨g0, hg0⟩ : ∃ g0, g0 = gk := ⟨_, rfl⟩
                  clear hiN
                  go_wp2_with fail
                  go_loopg [15, 135] N (fun gk x15 kv wr2 => ∃ k : Nat, k + gk = N ∧ kv = .int .i64 k ∧ wr2 = w7)
                  case atStart => exact ⟨0, by omega, rfl, rfl⟩
                  case round =>
                    obtain ⟨k, hk, rfl, hwr2⟩ := hrel
                    obtain rfl := hwr2.symm
                    by_cases hkN : k < N
                    · have hkN' : (k : Int) < N := by omega
                      have hk0 : (0 : Int) ≤ k := by omega
                      have hc1 := HN2.out w7 ATT HGTT.out i k HIN.out hkN
                      have hc2 := HN1.out w7 HB7.out i k HIN.out hkN
                      rw [HTT.out i k HIN.out hkN] at hc1
                      obtain ⟨av, hav⟩ : ∃ av, av = adj G i k := ⟨_, rfl⟩
                      rw [← hav] at hc1 hc2
                      have HC1 := hid2 hc1
                      have HC2 := hid2 hc2
                      clear hc1 hc2 hav hkN
                      cases av with
                      | true =>
                        go_wp2_with (first
                          | (go_at_call 15; refine HC1.out.mono ?_; clear HC1; rintro e w8 ⟨rfl, hw8⟩; obtain rfl := hw8.symm)
                          | (go_at_call 15; refine HC2.out.mono ?_; clear HC2; rintro e w8 ⟨rfl, hw8⟩; obtain rfl := hw8.symm))
                        go_roundg (gk - 1)
                        case rel => exact ⟨k + 1, by omega, by go_num, rfl⟩
                        case measure => omega
                      | false =>
                        go_wp2_with (first
                          | (go_at_call 15; refine HC1.out.mono ?_; clear HC1; rintro e w8 ⟨rfl, hw8⟩; obtain rfl := hw8.symm)
                          | (go_at_call 15; refine HC2.out.mono ?_; clear HC2; rintro e w8 ⟨rfl, hw8⟩; obtain rfl := hw8.symm))
                        go_roundg (gk - 1)
                        case rel => exact ⟨k + 1, by omega, by go_num, rfl⟩
                        case measure => omega
                    · have hkN' : ¬ (k : Int) < N := by omega
                      clear hkN
                      go_wp2_with fail
                      go_roundg (g0 - 1)
                      case rel => exact ⟨i + 1, by omega, by go_num, rfl⟩
                      case measure => omega
                · have hiN' : ¬ (i : Int) < N := by omega
                  clear hiN
                  go_wp2_with fail
                  go_ret
                  exact ⟨rfl, HB7.out⟩
end Go.Proofs.Ytccilmnlepekeaa
