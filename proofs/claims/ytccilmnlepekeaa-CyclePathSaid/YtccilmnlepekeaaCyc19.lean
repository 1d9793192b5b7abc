/- The walk of the program's Ring. -/
import Derived.Test.YtccilmnlepekeaaCyc18
namespace Go.Proofs.Ytccilmnlepekeaa
open Go.RowKit
theorem natV_one (l : List Nat) : ∀ v ∈ natV l, v.oneCell' = true := by
  intro v hv
  rw [natV, intV, List.mem_map] at hv
  obtain ⟨x, _, rfl⟩ := hv
  rfl
theorem natV_append (a b : List Nat) : natV (a ++ b) = natV a ++ natV b := by simp [natV, intV]
theorem natV_take (a : List Nat) (k : Nat) : natV (a.take k) = (natV a).take k := by simp [natV, intV, List.map_take]
set_option maxRecDepth 100000 in
set_option maxHeartbeats 8000000 in
theorem cring_any (w : World) (A : Option Addr) (c : Nat) (G : List (List Int)) (hg : GRd w A G) (hs : Small G) :
    Calls Try.prog 13 #[.slice A G.length c] w fun e w' => WalkPost w (ringL G) e w' := by
  have hn := hs.n
  have cO := of_any w A c G hg hs
  have cT := fun (W : World) (hW : Below w.heap.size w W) => turn_any W A c G (hg.below hW) hs
  have cF := fun (W : World) (AT : Option Addr) (cT : Nat) (h : GRd W AT (turnG G)) (i : Nat) (hi : i < G.length) => cfar_any W AT cT G h hs i hi
  have cW := fun (W : World) (AX : Option Addr) (cX : Nat) (h : GRd W AX (ofG G)) (AS : Option Addr) (cS i k : Nat) (hi : i < G.length) (hk : k < G.length) (hst : Rd W 1 AS G.length (intV (dstL G i G.length))) (m : Nat) (hm : dst G i k = (m : Int)) => way_any W AX cX G h hs AS cS k i hk hi hst m hm
  have hdg : ∀ i k, k < G.length → (dstL G i G.length)[k]? = some (dst G i k) := fun i k hk => by
    rw [dstL, List.getElem?_map, List.getElem?_range hk]
    rfl
  have hgt := fun (i : Nat) (h : i < G.length) => ofG_get (G := G) h
  have hll := leans_length G
  have hml : ∀ (i q k : Nat), (leans G i)[q]? = some k → k < G.length := fun i q k hk => (adj_in.1 (List.mem_of_getElem? hk)).1
  have hdb : ∀ i k, -1 ≤ dst G i k ∧ dst G i k ≤ G.length := fun i k => by
    have h1 := farA_le G i G.length k
    have h2 := farA_bound G i G.length k
    rw [dst, dstA]
    split
    · omega
    · split <;> omega
  have hwl := fun (i k m : Nat) (h : dst G i k = (m : Int)) => wayL_length (G := G) (to := i) (a := k) h
  have hr0 : ∀ i best, ringR G i best 0 = best := fun i best => rfl
  have hrn := fun (i : Nat) (best : List Nat) (q k : Nat) (h : (leans G i)[q]? = some k) => ringR_next (G := G) (best := best) h
  have hrc : ∀ i best k, ringC G i best k = if dst G i k < 0 ∨ (0 < best.length ∧ (best.length : Int) ≤ dst G i k + 1) then best else i :: (wayL G k i).dropLast := fun i best k => rfl
  have hrp : ∀ i, ringP G (i + 1) = ringR G i (ringP G i) (leans G i).length := fun i => rfl
  have hra := ringP_all G
  have hpl := ringP_len G
  have hws : ∀ i, wayL G i i = [i] := fun i => wayL_self G i
  have hzi : ∀ i, dst G i i = 0 := fun i => dst_zero.2 rfl
  unfold OfPost at cO
  unfold TurnPost at cT
  unfold CFarPost at cF
  unfold WalkPost at cW ⊢
  obtain ⟨RL, hRL⟩ : ∃ RL, RL = ringL G := ⟨_, rfl⟩
  obtain ⟨RP, hRP⟩ : ∃ RP, RP = ringP G := ⟨_, rfl⟩
  obtain ⟨RR, hRR⟩ : ∃ RR, RR = ringR G := ⟨_, rfl⟩
  obtain ⟨RC, hRC⟩ : ∃ RC, RC = ringC G := ⟨_, rfl⟩
  obtain ⟨DL, hDL⟩ : ∃ DL, DL = fun i => dstL G i G.length := ⟨_, rfl⟩
  obtain ⟨dd, hdd⟩ : ∃ dd, dd = dst G := ⟨_, rfl⟩
  obtain ⟨WL, hWL⟩ : ∃ WL, WL = wayL G := ⟨_, rfl⟩
  obtain ⟨LE, hLE⟩ : ∃ LE, LE = leans G := ⟨_, rfl⟩
  have hDL' : ∀ i, dstL G i G.length = DL i := fun i => by rw [hDL]
  simp only [hDL'] at cF cW hdg
  rw [← hRL] at hra ⊢
  rw [← hRP] at hrp hra hpl
  have hP0 : RP 0 = [] := by rw [hRP]; rfl
  rw [← hRR] at hr0 hrn hrp
  rw [← hRC] at hrn hrc
  simp only [← hdd] at cW hdg hdb hwl hrc hzi
  simp only [← hWL] at cW hwl hrc hws
  simp only [← hLE] at hgt hll hml hrn hrp
  obtain ⟨N, hN⟩ : ∃ N, N = G.length := ⟨_, rfl⟩
  rw [← hN] at hn hra hpl ⊢
  simp only [← hN] at cO cT cF cW hdg hgt hll hml hdb hpl
  have HCO := hid2 cO
  have HCT := hid2 cT
  have HCF := hid2 cF
  have HCW := hid2 cW
  have HDG := hid2 hdg
  have HGT := hid2 hgt
  have HLL := hid2 hll
  have HML := hid2 hml
  have HDB := hid2 hdb
  have HWL := hid2 hwl
  have HR0 := hid2 hr0
  have HRN := hid2 hrn
  have HRC := hid2 hrc
  have HRP := hid2 hrp
  have HRA := hid2 hra
  have HPL := hid2 hpl
  have HWS := hid2 hws
  have HZI := hid2 hzi
  have HP0 := hid2 hP0
  clear hg hs cO cT cF cW hdg hgt hll hml hdb hwl hr0 hrn hrc hrp hra hpl hws hzi hP0 hDL' hRL hRP hRR hRC hDL hdd hWL hLE hN
  go_enter Try.func13, Try.ntmps13
  go_wp2_with (first
    | (go_at_call 22; refine HCO.out.mono ?_; rintro e w1 ⟨AX, rfl, hgx, hb1⟩; have HGX1 := hid2 (hgx.grd (W := w1) (fun _ _ _ => rfl)); have HB1 := hid2 hb1; clear hgx hb1)
    | (go_at_call 16; refine (HCT.out w1 HB1.out).mono ?_; rintro e w2 ⟨AT, rfl, hgt1, hb2⟩; have HGT2 := hid2 (hgt1.grd (W := w2) (fun _ _ _ => rfl)); have HB2 := hid2 hb2; clear hgt1 hb2))
  have HGX := hid2 (HGX1.out.below HB2.out)
  have HB12 := hid2 (HB1.out.trans (HB2.out.mono HB1.out.size))
  have hxk := HGX.out.k
  have hrow := fun (i : Nat) (hi : i < N) => hxk.row (Below.refl _ w2) (HGT.out i hi)
  have HROW := hid2 hrow
  clear hxk hrow HGX1
  go_loopg [5, 6, 7, 9, 10, 17] N (fun gk bv x6 x7 x9 x10 iv wr => ∃ (i nb cb : Nat) (AB : Option Addr), i + gk = N ∧ iv = .int .i64 i ∧ bv = .slice AB nb cb ∧ nb = (RP i).length ∧ Own wr w2.heap.size 3 1 AB nb cb (natV (RP i)) ∧ Below w2.heap.size w2 wr)
  case atStart => exact ⟨0, 0, 0, none, by omega, rfl, rfl, by rw [HP0.out]; rfl, by rw [HP0.out]; exact Own.nil _ _ _ _, Below.refl _ _⟩
  case round =>
    obtain ⟨i, nb, cb, AB, hi, rfl, rfl, hnb, hown, hlow⟩ := hrel
    have HNB := hid2 hnb
    have HOWN := hid2 hown
    have HLOW := hid2 hlow
    clear hnb hown hlow
    by_cases hiN : i < N
    · have hiN' : (i : Int) < N := by omega
      have hi0 : (0 : Int) ≤ i := by omega
      have hcf := HCF.out wr AT N (HGT2.out.below HLOW.out) i hiN
      have HC := hid2 hcf
      obtain ⟨ax, ox, B, cB, e0, hc1, hB⟩ := HROW.out i hiN
      rw [castI_length] at hB hc1
      have hLL := HLL.out i
      obtain ⟨L, hL⟩ : ∃ L, L = (LE i).length := ⟨_, rfl⟩
      rw [← hL] at hc1 hB hLL
      cases e0
      have HC1 := hid2 hc1
      have HB := hid2 hB
      have HL := hid2 hL
      have HIN := hid2 hiN
      obtain ⟨g0, hg0⟩ : ∃ g0, g0 = gk := ⟨_, rfl⟩
      clear hcf hc1 hB hL hiN
      go_wp2_with (first
        | (go_at_call 27; refine HC.out.mono ?_; rintro e w3 ⟨AS, cS, rfl, ho3, hb3⟩; have HRS := hid2 ho3.rd; have HB3 := hid2 hb3; have HLOW3 := hid2 (HLOW.out.trans (hb3.mono HLOW.out.size)); have c3 : w3.cell? ⟨ax, ox + i, none⟩ = some (.slice B L cB) := HC1.out w3 HLOW3.out; clear ho3 hb3))
      clear c3
      go_loopg [5, 9, 10, 28] L (fun gk bv x9 x10 qv wr2 => ∃ (q nb cb : Nat) (AB : Option Addr), q + gk = L ∧ qv = .int .i64 q ∧ bv = .slice AB nb cb ∧ nb = (RR i (RP i) q).length ∧ nb ≤ N + 1 ∧ Own wr2 w2.heap.size 3 1 AB nb cb (natV (RR i (RP i) q)) ∧ Below w3.heap.size w3 wr2)
      case atStart => exact ⟨0, nb, cb, AB, by omega, rfl, rfl, by rw [HR0.out]; exact HNB.out, by (rw [HNB.out]; exact Nat.le_succ_of_le (HPL.out i (Nat.le_of_lt HIN.out))), by rw [HR0.out]; exact HOWN.out.below HB3.out (Nat.le_refl _), Below.refl _ _⟩
      case round =>
        clear HNB HOWN
        clear nb cb AB
        obtain ⟨q, nb, cb, AB, hq, rfl, rfl, hnb, hnbN, hown, hlow⟩ := hrel
        have HNB := hid2 hnb
        have HOWN := hid2 hown
        have HLOWQ := hid2 hlow
        have HLOWW := hid2 (HLOW3.out.trans (hlow.mono HLOW3.out.size))
        clear hnb hown hlow
        by_cases hqL : q < L
        · have hqL' : (q : Int) < L := by omega
          have hq0 : (0 : Int) ≤ q := by omega
          obtain ⟨k, hk⟩ : ∃ k, (LE i)[q]? = some k := ⟨_, List.getElem?_eq_getElem (by rw [← HL.out]; exact hqL)⟩
          obtain ⟨bB, oB, rfl, cx⟩ := int_cell (HB.out wr HLOWW.out) (castI_get hk)
          have hkN := HML.out i q k hk
          have hk0 : (0 : Int) ≤ k := by omega
          have hkN' : (k : Int) < N := by omega
          obtain ⟨bS, oS, rfl, cs⟩ := int_cell (HRS.out.below_all HLOWQ.out) (HDG.out i k hkN)
          have hrn := HRN.out i (RP i) q k hk
          rw [HRC.out i _ k, ← HNB.out] at hrn
          have hdb := HDB.out i k
          have hcw := fun (m : Nat) (hm : dd i k = (m : Int)) (W : World) (hW : Below wr.heap.size wr W) => HCW.out W (some ⟨ax, ox, none⟩) N (HGX.out.below (HLOWW.out.trans (hW.mono HLOWW.out.size))) (some ⟨bS, oS, none⟩) cS i k HIN.out hkN (HRS.out.below_all (HLOWQ.out.trans (hW.mono HLOWQ.out.size))) m hm
          have hwl := HWL.out i k
          have hzi := HZI.out i
          have hws := HWS.out i
          obtain ⟨v, hv⟩ : ∃ v, v = dd i k := ⟨_, rfl⟩
          rw [← hv] at hrn hdb hcw hwl cs
          have HRNX := hid2 hrn
          have HCWX := hid2 hcw
          have HWLX := hid2 hwl
          have HV := hid2 hv
          have HK := hid2 (show v = dd i k from hv)
          have HW := hid2 hws
          have HZ := hid2 hzi
          have hw1 : IntKind.i64.wrap (v + 1) = v + 1 := IntWalk.i64_in _ (by constructor <;> omega)
          clear hk hkN hrn hcw hwl hv hqL hws hzi
          by_cases hv0 : v < 0
          · have HN2 := hid2 (show RR i (RP i) (q + 1) = RR i (RP i) q from by rw [HRNX.out, if_pos (.inl hv0)])
            go_wp2_with fail
            go_roundg (gk - 1)
            case rel => exact ⟨q + 1, nb, cb, AB, by omega, by go_num, rfl, by rw [HN2.out]; exact HNB.out, hnbN, by rw [HN2.out]; exact HOWN.out, HLOWQ.out⟩
            case measure => omega
          · obtain ⟨m, rfl⟩ : ∃ m : Nat, v = m := ⟨v.toNat, by omega⟩
            have hmN : m ≤ N := by omega
            by_cases hc : 0 < nb ∧ (nb : Int) ≤ (m : Int) + 1
            · have HN2 := hid2 (show RR i (RP i) (q + 1) = RR i (RP i) q from by rw [HRNX.out, if_pos (.inr hc)])
              have hc1 : (0 : Int) < nb := by omega
              have hc2 : (nb : Int) ≤ (m : Int) + 1 := hc.2
              clear hc
              go_wp2_with fail
              go_roundg (gk - 1)
              case rel => exact ⟨q + 1, nb, cb, AB, by omega, by go_num, rfl, by rw [HN2.out]; exact HNB.out, hnbN, by rw [HN2.out]; exact HOWN.out, HLOWQ.out⟩
              case measure => omega
            · have HN2 := hid2 (show RR i (RP i) (q + 1) = i :: (WL k i).dropLast from by
                rw [HRNX.out, if_neg]
                rintro (h | h)
                · exact hv0 h
                · exact hc h)
              have hlen := hid2 (HWLX.out m rfl)
              obtain ⟨W4, hW4⟩ : ∃ W4, W4 = wr.alloc (.cells #[.int .i64 (i : Int)] 3) := ⟨_, rfl⟩
              have hlw := HLOWW.out.size
              have ho4 : Own W4 wr.heap.size 3 1 (some ⟨wr.heap.size, 0, none⟩) 1 1 (natV [i]) := by rw [hW4]; exact Own.lit wr #[.int .i64 (i : Int)] 3 1 1 wr.heap.size (Nat.le_refl _) (by decide) rfl
              have hb4 : Below wr.heap.size wr W4 := by rw [hW4]; exact (Below.refl _ wr).alloc (Nat.le_refl _) _
              have HW4 := hid2 hW4
              have HO4 := hid2 ho4
              have HB4 := hid2 hb4
              clear hW4 ho4 hb4
              by_cases hki : k = i
              · subst hki
                have hm0 : m = 0 := by
                  have h1 := HK.out
                  rw [HZ.out] at h1
                  omega
                subst hm0
                have HE := hid2 (show RR k (RP k) (q + 1) = [k] from by rw [HN2.out, HW.out]; rfl)
                by_cases hb0 : 0 < nb
                · have hb1 : (0 : Int) < nb := by omega
                  have hb2 : ¬ (nb : Int) ≤ 1 := by omega
                  clear hc
                  go_wp2_with fail
                  rw [← HW4.out]
                  go_roundg (gk - 1)
                  case rel => exact ⟨q + 1, 1, 1, _, by omega, by go_num, rfl, by rw [HE.out]; rfl, by omega, by rw [HE.out]; exact HO4.out.mono hlw, HLOWQ.out.trans (HB4.out.mono HLOWQ.out.size)⟩
                  case measure => omega
                · have hb1 : ¬ (0 : Int) < nb := by omega
                  clear hc
                  go_wp2_with fail
                  rw [← HW4.out]
                  go_roundg (gk - 1)
                  case rel => exact ⟨q + 1, 1, 1, _, by omega, by go_num, rfl, by rw [HE.out]; rfl, by omega, by rw [HE.out]; exact HO4.out.mono hlw, HLOWQ.out.trans (HB4.out.mono HLOWQ.out.size)⟩
                  case measure => omega
              · have hki' : ¬ (k : Int) = i := by omega
                clear hki
                by_cases hb0 : 0 < nb
                · have hb1 : (0 : Int) < nb := by omega
                  have hb2 : ¬ (nb : Int) ≤ (m : Int) + 1 := by omega
                  clear hc
                  obtain ⟨P, hP⟩ : ∃ P, P = 1 + (m + 1) := ⟨_, rfl⟩
                  obtain ⟨Q, hQ⟩ : ∃ Q, Q = m + 1 := ⟨_, rfl⟩
                  have hwP : IntKind.i64.wrap ((P : Int) - 1) = (Q : Int) := (IntWalk.i64_in _ (by constructor <;> omega)).trans (by omega)
                  have hQ0 : (0 : Int) ≤ Q := by omega
                  have HQC := hid2 (fun (x : Nat) (h : P ≤ x) => show (Q : Int) ≤ x by omega)
                  have HPP := hid2 hP
                  have HQQ := hid2 hQ
                  clear hP hQ
                  go_wp2_with (first
                    | (go_at_call 28; rw [← HW4.out]; refine (HCWX.out m rfl W4 HB4.out).mono ?_; rintro e w5 ⟨A5, c5, rfl, ho5, hb5⟩; have ho45 := HO4.out.below hb5 (Nat.le_refl _); have HO45 := hid2 ho45; have HR5 := hid2 ho5.rd; have HB5 := hid2 (HB4.out.trans (hb5.mono HB4.out.size)); have hz5 := HB5.out.size; have HWLN := hid2 hlen.out; clear ho5 hb5 ho45)
                    | (at_builtin; go_must ((with_reducible refine wpList_append_lit 3 (.int .i64 0) 1 8 Try.underlying25 info_int1 rfl wr.heap.size (some ⟨wr.heap.size, 0, none⟩) 1 1 (natV [i]) HO45.out (WL k i).length (natV (WL k i)) (.slice A5 (WL k i).length c5) (Src.slice Try.underlying25 HR5.out) (natV_one _) ?_ ?_ ?_ ?_ ?_); (rw [HWLN.out]; unfold maxLen; omega); (rw [HWLN.out]; omega); exact hz5; exact ⟨rfl, rfl⟩; rw [HWLN.out, ← HPP.out]; intro A6 c6 w6 ho6 hgr6 hbl6; have hPc := HQC.out c6 ho6.2.1; have HO6 := hid2 ho6; have HG6 := hid2 hgr6; clear ho6 hgr6 hbl6)))
                  go_roundg (gk - 1)
                  case rel =>
                    refine ⟨q + 1, Q, c6, A6, by omega, by go_num, rfl, ?_, by have := HQQ.out; omega, ?_, HLOWQ.out.trans ((HB5.out.grown HG6.out hz5 (fun b e => by cases e; exact Nat.le_refl _)).mono HLOWQ.out.size)⟩
                    · rw [HN2.out, List.length_cons, List.length_dropLast, HWLN.out, HQQ.out]
                      omega
                    · have h := (HO6.out.take (k := Q) (by have := HPP.out; have := HQQ.out; omega)).mono hlw
                      rw [← natV_append, Nat.mul_one, ← natV_take] at h
                      rw [HN2.out]
                      rw [show ([i] ++ WL k i).take Q = i :: (WL k i).dropLast from by rw [HQQ.out, List.singleton_append, List.take_succ_cons, List.dropLast_eq_take, HWLN.out]; rfl] at h
                      exact h
                  case measure => omega
                · have hb1 : ¬ (0 : Int) < nb := by omega
                  clear hc
                  obtain ⟨P, hP⟩ : ∃ P, P = 1 + (m + 1) := ⟨_, rfl⟩
                  obtain ⟨Q, hQ⟩ : ∃ Q, Q = m + 1 := ⟨_, rfl⟩
                  have hwP : IntKind.i64.wrap ((P : Int) - 1) = (Q : Int) := (IntWalk.i64_in _ (by constructor <;> omega)).trans (by omega)
                  have hQ0 : (0 : Int) ≤ Q := by omega
                  have HQC := hid2 (fun (x : Nat) (h : P ≤ x) => show (Q : Int) ≤ x by omega)
                  have HPP := hid2 hP
                  have HQQ := hid2 hQ
                  clear hP hQ
                  go_wp2_with (first
                    | (go_at_call 28; rw [← HW4.out]; refine (HCWX.out m rfl W4 HB4.out).mono ?_; rintro e w5 ⟨A5, c5, rfl, ho5, hb5⟩; have ho45 := HO4.out.below hb5 (Nat.le_refl _); have HO45 := hid2 ho45; have HR5 := hid2 ho5.rd; have HB5 := hid2 (HB4.out.trans (hb5.mono HB4.out.size)); have hz5 := HB5.out.size; have HWLN := hid2 hlen.out; clear ho5 hb5 ho45)
                    | (at_builtin; go_must ((with_reducible refine wpList_append_lit 3 (.int .i64 0) 1 8 Try.underlying25 info_int1 rfl wr.heap.size (some ⟨wr.heap.size, 0, none⟩) 1 1 (natV [i]) HO45.out (WL k i).length (natV (WL k i)) (.slice A5 (WL k i).length c5) (Src.slice Try.underlying25 HR5.out) (natV_one _) ?_ ?_ ?_ ?_ ?_); (rw [HWLN.out]; unfold maxLen; omega); (rw [HWLN.out]; omega); exact hz5; exact ⟨rfl, rfl⟩; rw [HWLN.out, ← HPP.out]; intro A6 c6 w6 ho6 hgr6 hbl6; have hPc := HQC.out c6 ho6.2.1; have HO6 := hid2 ho6; have HG6 := hid2 hgr6; clear ho6 hgr6 hbl6)))
                  go_roundg (gk - 1)
                  case rel =>
                    refine ⟨q + 1, Q, c6, A6, by omega, by go_num, rfl, ?_, by have := HQQ.out; omega, ?_, HLOWQ.out.trans ((HB5.out.grown HG6.out hz5 (fun b e => by cases e; exact Nat.le_refl _)).mono HLOWQ.out.size)⟩
                    · rw [HN2.out, List.length_cons, List.length_dropLast, HWLN.out, HQQ.out]
                      omega
                    · have h := (HO6.out.take (k := Q) (by have := HPP.out; have := HQQ.out; omega)).mono hlw
                      rw [← natV_append, Nat.mul_one, ← natV_take] at h
                      rw [HN2.out]
                      rw [show ([i] ++ WL k i).take Q = i :: (WL k i).dropLast from by rw [HQQ.out, List.singleton_append, List.take_succ_cons, List.dropLast_eq_take, HWLN.out]; rfl] at h
                      exact h
                  case measure => omega
        · have hqL2 : q = L := by omega
          have hqL' : ¬ (q : Int) < L := by omega
          have HE := hid2 (show RP (i + 1) = RR i (RP i) q from by rw [HRP.out, hqL2, HL.out])
          clear hqL hqL2
          go_wp2_with fail
          go_roundg (g0 - 1)
          case rel => exact ⟨i + 1, nb, cb, AB, by omega, by go_num, rfl, by rw [HE.out]; exact HNB.out, by rw [HE.out]; exact HOWN.out, HLOWW.out⟩
          case measure => omega
    · have hiN2 : i = N := by omega
      have hiN' : ¬ (i : Int) < N := by omega
      have HE := hid2 (show RL = RP i from by rw [hiN2, HRA.out])
      clear hiN hiN2
      go_wp2_with fail
      go_ret
      exact ⟨AB, cb, by rw [HE.out, ← HNB.out]; rfl, by rw [HE.out, ← HNB.out]; exact HOWN.out.mono HB12.out.size, HB12.out.trans (HLOW.out.mono HB12.out.size)⟩
end Go.Proofs.Ytccilmnlepekeaa
