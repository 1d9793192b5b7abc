/- The walk of the program's way. -/
import Derived.Test.YtccilmnlepekeaaCyc15
import Derived.Test.YtccilmnlepekeaaReg2
namespace Go.Proofs.Ytccilmnlepekeaa
open Go.RowKit
set_option maxRecDepth 100000 in
set_option maxHeartbeats 1000000 in
/-- is it a step nearer? -/
theorem near_any (W : World) (g7 gA : Nat) (BS : Option Addr) (N cS : Nat) (D : List Int) (h7 : Box W g7 [.slice BS N cS]) (a : Nat) (hA : Box W gA [.int .i64 a]) (hS : Rd W 1 BS N (intV D)) (hl : D.length = N) (hN : N ≤ 25) (ha : a < N) (hb : ∀ q, -1 ≤ D.getD q 0 ∧ D.getD q 0 ≤ 25) (k : Nat) (hk : k < N) :
    Calls Try.prog 35 #[.int .i64 k, .pointer (some ⟨g7, 0, none⟩), .pointer (some ⟨gA, 0, none⟩)] W fun e w' => e = .returned (.bool (D.getD k 0 == D.getD a 0 - 1)) ∧ Below W.heap.size W w' := by
  have c7 : W.cell? ⟨g7, 0, none⟩ = some (.slice BS N cS) := h7.cells 0
  have cA : W.cell? ⟨gA, 0, none⟩ = some (.int .i64 a) := hA.cells 0
  obtain ⟨x, hx⟩ : ∃ x, D[k]? = some x := ⟨_, List.getElem?_eq_getElem (by omega)⟩
  obtain ⟨y, hy⟩ : ∃ y, D[a]? = some y := ⟨_, List.getElem?_eq_getElem (by omega)⟩
  obtain ⟨b, o, rfl, cx⟩ := int_cell hS hx
  obtain ⟨b', o', e, cy⟩ := int_cell hS hy
  cases e
  have hby := hb a
  rw [getD_of_get hx, getD_of_get hy]
  rw [getD_of_get hy] at hby
  have hw : IntKind.i64.wrap (y - 1) = y - 1 := IntWalk.i64_in _ (by constructor <;> omega)
  have hk0 : (0 : Int) ≤ k := by omega
  have ha0 : (0 : Int) ≤ a := by omega
  have hkN : (k : Int) < N := by omega
  have haN : (a : Int) < N := by omega
  clear hby hb hx hy hS hA h7 hl hk ha
  go_enter Try.func35, Try.ntmps35
  go_wp2_with fail
  go_quiet (fail)
  go_wp2_with fail
  go_ret
  exact ⟨by first | rfl | simp, below_drewN (Below.refl _ _) _⟩
/-- what stands in a round of the way -/
structure WyS (w : World) (g7 gA : Nat) (AS : Option Addr) (N cS : Nat) (A2 : Option Addr) (n c2 : Nat) (out : List Nat) (a : Nat) (wr : World) : Prop where
  b7 : Box wr g7 [.slice AS N cS]
  bA : Box wr gA [.int .i64 a]
  own : Own wr w.heap.size 3 1 A2 n c2 (natV out)
  low : Below w.heap.size w wr
  ge7 : w.heap.size ≤ g7
  geA : w.heap.size ≤ gA
  n7 : blockOf A2 ≠ some g7
  nA : blockOf A2 ≠ some gA
  n7A : g7 ≠ gA
theorem near_pick {l : List Nat} {k : Nat} {p : Int → Bool} (h : (castI l).find? p = some (k : Int)) : ∃ q : Nat, idxP p (castI l) = q ∧ (castI l)[q]? = some (k : Int) := by
  have ha : (castI l).any p = true := by
    rw [List.any_eq_true]
    exact ⟨_, List.mem_of_find?_eq_some h, List.find?_some h⟩
  obtain ⟨q, x, h1, h2, h3, _⟩ := idxP_some ha
  rw [h] at h3
  cases h3
  exact ⟨q, h1, h2⟩
set_option maxRecDepth 100000 in
set_option maxHeartbeats 4000000 in
theorem way_any (w : World) (A : Option Addr) (c : Nat) (G : List (List Int)) (hg : GRd w A (ofG G)) (hs : Small G) (AS : Option Addr) (cS : Nat) (i to : Nat) (hi : i < G.length) (hto : to < G.length) (hst : Rd w 1 AS G.length (intV (dstL G to G.length))) (m0 : Nat) (hm : dst G to i = (m0 : Int)) :
    Calls Try.prog 28 #[.slice A G.length c, .int .i64 i, .int .i64 to, .slice AS G.length cS] w fun e w' => WalkPost w (wayL G i to) e w' := by
  have hn := hs.n
  have hgk := hg.k
  have hrow := fun (a : Nat) (ha : a < G.length) => hgk.row (Below.refl _ w) (ofG_get ha)
  have hll := leans_length G
  have hmN : m0 ≤ G.length := by
    have h1 := hm
    rw [dst, dstA] at h1
    have h2 := farA_le G to G.length i
    split at h1
    · omega
    · split at h1 <;> omega
  have hstep := fun (a m : Nat) (h : dst G to a = (m : Int) + 1) => way_step hto h
  have hself := wayL_self G to
  have hz := fun (a : Nat) => (dst_zero (G := G) (to := to) (n := G.length) (k := a))
  have hdb : ∀ q, -1 ≤ (dstL G to G.length).getD q 0 ∧ (dstL G to G.length).getD q 0 ≤ 25 := fun q => by
    rw [List.getD_eq_getElem?_getD, dstL, List.getElem?_map]
    rcases Nat.lt_or_ge q G.length with hq | hq
    · rw [List.getElem?_range hq]
      have h1 := farA_le G to G.length q
      have h2 := farA_bound G to G.length q
      simp only [Option.map_some, Option.getD_some, dstA]
      split
      · omega
      · split <;> omega
    · rw [List.getElem?_eq_none (by simpa using hq)]
      simp
  have hdl : (dstL G to G.length).length = G.length := by simp [dstL]
  have hdg : ∀ k, k < G.length → (dstL G to G.length).getD k 0 = dst G to k := fun k hk => by
    rw [dstL, List.getD_eq_getElem?_getD, List.getElem?_map, List.getElem?_range hk]
    rfl
  have hln : ∀ (a k : Nat), k ∈ leans G a → k < G.length := fun a k h => by
    rw [leans, List.mem_filter, List.mem_range] at h
    exact h.1
  have hway := wayL_length hm
  unfold WalkPost
  obtain ⟨L, hL⟩ : ∃ L, L = wayL G i to := ⟨_, rfl⟩
  obtain ⟨D, hD⟩ : ∃ D, D = dstL G to G.length := ⟨_, rfl⟩
  obtain ⟨dd, hdd⟩ : ∃ dd, dd = dst G to := ⟨_, rfl⟩
  obtain ⟨N, hN⟩ : ∃ N, N = G.length := ⟨_, rfl⟩
  rw [← hL] at hway ⊢
  rw [← hD] at hst hstep hdb hdl hdg
  rw [← hdd] at hstep hdg hm
  rw [show dst G to = dstA G to G.length from rfl] at hdd
  rw [← hN] at hn hi hto hst hrow hll hmN hstep hz hdl hdg hln hdd ⊢
  have hz2 : ∀ a, dd a = 0 ↔ a = to := fun a => by rw [hdd]; exact hz a
  have HROW := hid2 hrow
  have HLL := hid2 hll
  have HSTEP := hid2 hstep
  have HZ := hid2 hz2
  have HDB := hid2 hdb
  have HDL := hid2 hdl
  have HDG := hid2 hdg
  have HLN := hid2 hln
  have HWAY := hid2 hway
  have HST := hid2 hst
  have HM := hid2 hm
  have HL := hid2 hL
  have HSELF := hid2 hself
  have HI := hid2 hi
  have EN := hid2 (enters_of Try.func35 (by kernel_rfl) rfl)
  have hi0 : (0 : Int) ≤ i := by omega
  have hiN : (i : Int) < N := by omega
  have htN : (to : Int) < N := by omega
  obtain ⟨W3, hW3⟩ : ∃ W3, W3 = ((w.alloc (.cells #[.slice AS N cS] 25)).alloc (.cells #[.int .i64 (i : Int)] 3)).alloc (.cells #[.int .i64 (i : Int)] 3) := ⟨_, rfl⟩
  have hwy0 : WyS w w.heap.size (w.heap.size + 1 + 1) AS N cS (some ⟨w.heap.size + 1, 0, none⟩) 1 1 [i] i W3 := by
    have e1 : (w.alloc (.cells #[.slice AS N cS] 25)).heap.size = w.heap.size + 1 := by simp
    have b1 : Below w.heap.size w (w.alloc (.cells #[.slice AS N cS] 25)) := (Below.refl _ _).alloc (Nat.le_refl _) _
    have o1 := Own.lit (w.alloc (.cells #[.slice AS N cS] 25)) #[.int .i64 (i : Int)] 3 1 1 w.heap.size b1.size (by decide) rfl
    rw [e1] at o1
    refine ⟨?_, ?_, ?_, ?_, Nat.le_refl _, by omega, ?_, ?_, by omega⟩
    · rw [hW3]; exact ((Box.new w [.slice AS N cS] _).alloc _).alloc _
    · rw [hW3]; exact Box.new' ((w.alloc (.cells #[.slice AS N cS] 25)).alloc (.cells #[.int .i64 (i : Int)] 3)) [.int .i64 (i : Int)] 3 (by simp)
    · rw [hW3]; exact o1.alloc _
    · rw [hW3]; exact (b1.alloc b1.size _).alloc (by simp; omega) _
    · intro e
      have := Option.some.inj e
      simp only at this
      omega
    · intro e
      have := Option.some.inj e
      simp only at this
      omega
  have HW3 := hid2 hW3
  have HWY0 := hid2 hwy0
  clear hg hs hgk hrow hll hstep hself hz hz2 hdb hdl hdg hln hway hst hm hL hD hdd hN hi hto hW3 hwy0
  go_enter Try.func28, Try.ntmps28
  go_wp2_with fail
  rw [← HW3.out]
  go_loopg [9, 10] m0 (fun gk ov pv wr => ∃ (a : Nat) (pre : List Nat) (n c2 gA : Nat) (A2 : Option Addr), ov = .slice A2 n c2 ∧ pv = .pointer (some ⟨gA, 0, none⟩) ∧ a < N ∧ dd a = (gk : Int) ∧ pre ++ wayL G a to = L ∧ n = pre.length + 1 ∧ n + gk = m0 + 1 ∧ WyS w w.heap.size gA AS N cS A2 n c2 (pre ++ [a]) a wr)
  case atStart => exact ⟨i, [], 1, 1, _, _, rfl, rfl, HI.out, HM.out, HL.out.symm, rfl, by omega, HWY0.out⟩
  case round =>
    clear HWY0 HW3
    obtain ⟨a, pre, n, c2, gA, A2, rfl, rfl, haN, hda, hpl, hn1, hnm, hwy⟩ := hrel
    have HWY := hid2 hwy
    have cA : wr.cell? ⟨gA, 0, none⟩ = some (.int .i64 a) := hwy.bA.cells 0
    have HPL := hid2 hpl
    have HDA := hid2 hda
    have HN1 := hid2 hn1
    clear hwy hpl hda hn1
    by_cases hat : a = to
    · have hgz : gk = 0 := by
        have h1 := (HZ.out a).2 hat
        have h2 := HDA.out
        omega
      have HE := hid2 (show L = pre ++ [a] from by rw [← HPL.out, hat, HSELF.out])
      have hat' : (a : Int) = to := by omega
      clear hat
      subst hgz
      go_wp2_with fail
      go_ret
      refine ⟨A2, c2, ?_, ?_, HWY.out.low⟩
      · rw [HE.out, List.length_append, HN1.out]
        rfl
      · rw [HE.out, List.length_append, List.length_singleton, ← HN1.out]
        exact HWY.out.own
    · obtain ⟨m, rfl⟩ : ∃ m, gk = m + 1 := by
        rcases Nat.eq_zero_or_pos gk with h | h
        · exact absurd ((HZ.out a).1 (by rw [HDA.out, h]; rfl)) hat
        · exact ⟨gk - 1, by omega⟩
      have hat' : ¬ (a : Int) = to := by omega
      obtain ⟨k, hk1, hk2, hk3, hk4⟩ := HSTEP.out a m (by rw [HDA.out]; omega)
      obtain ⟨q, hq1, hq2⟩ := near_pick hk1
      obtain ⟨ax, ox, B, cB, e0, hc1, hB⟩ := HROW.out a haN
      have c1 := hc1 wr HWY.out.low
      have hLL := HLL.out a
      obtain ⟨R, hR⟩ : ∃ R, R = castI (leans G a) := ⟨_, rfl⟩
      rw [← hR] at c1 hB hk1 hq1 hq2 hc1
      have hRl : R.length ≤ N := by rw [hR, castI_length]; exact hLL
      have hRm : ∀ x ∈ R, ∃ j : Nat, x = j ∧ j < N := fun x hx => by
        rw [hR, castI, List.mem_map] at hx
        obtain ⟨j, h1, rfl⟩ := hx
        exact ⟨j, rfl, HLN.out a j h1⟩
      obtain ⟨bB, oB, rfl, ck⟩ := int_cell (hB wr HWY.out.low) hq2
      have hqR := (List.getElem?_eq_some_iff.1 hq2).1
      obtain ⟨RL, hRL⟩ : ∃ RL, RL = R.length := ⟨_, rfl⟩
      have hDa : D.getD a 0 - 1 = (m : Int) := by rw [HDG.out a haN, HDA.out]; omega
      have hix : ∀ W, Below wr.heap.size wr W → Calls Try.prog 34 #[.slice (some ⟨bB, oB, none⟩) RL cB, .func (.func 35) #[] #[.pointer (some ⟨w.heap.size, 0, none⟩), .pointer (some ⟨gA, 0, none⟩)]] W fun e w' => e = .returned (.int .i64 (q : Int)) ∧ Below W.heap.size W w' := fun W hW => by
        have hlow := HWY.out.low
        have h := index_any W (some ⟨bB, oB, none⟩) cB R (hB W (hlow.trans (hW.mono hlow.size))) (by omega) 35 #[.pointer (some ⟨w.heap.size, 0, none⟩), .pointer (some ⟨gA, 0, none⟩)] EN.out (fun x => D.getD x.toNat 0 == (m : Int)) (fun W2 hW2 x hx => by
          obtain ⟨j, rfl, hj⟩ := hRm x hx
          have hb := (hW.trans (hW2.mono hW.size))
          have h := near_any W2 w.heap.size gA AS N cS D (HWY.out.b7.below_all hb) a (HWY.out.bA.below_all hb) (HST.out.below_all (hlow.trans (hb.mono hlow.size))) HDL.out hn haN HDB.out j hj
          rw [hDa] at h
          exact h)
        rw [hq1, ← hRL] at h
        exact h
      have hks : ∀ W, Below wr.heap.size wr W → W.cell? ⟨gA, 0, none⟩ = some (.int .i64 a) ∧ W.frozen? ⟨gA, 0, none⟩ = false := fun W hW => ⟨(HWY.out.bA.below_all hW).cells 0, (HWY.out.bA.below_all hW).free 0⟩
      have hkc : ∀ W, Below w.heap.size w W → W.cell? ⟨ax, ox + a, none⟩ = some (.slice (some ⟨bB, oB, none⟩) RL cB) ∧ W.cell? ⟨bB, oB + q, none⟩ = some (.int .i64 k) := fun W hW => by
        refine ⟨by rw [hRL]; exact hc1 W hW, ?_⟩
        obtain ⟨b', o', e, hc⟩ := int_cell (hB W hW) hq2
        cases e
        exact hc
      have HKC := hid2 hkc
      have HGEA := hid2 HWY.out.geA
      have HIX := hid2 hix
      have HKS := hid2 hks
      have HK4 := hid2 (show (pre ++ [a]) ++ wayL G k to = L from by rw [← HPL.out, hk4]; simp)
      have HK3 := hid2 hk3
      have HK2 := hid2 hk2
      have hRL25 : RL ≤ N := by omega
      have hqRL : (q : Int) < RL := by omega
      have hq0 : (0 : Int) ≤ q := by omega
      have ha0 : (0 : Int) ≤ a := by omega
      have haN' : (a : Int) < N := by omega
      rw [← hRL] at c1
      cases e0
      obtain ⟨g0, hg0⟩ : ∃ g0, g0 = m := ⟨_, rfl⟩
      clear hk1 hk2 hk3 hk4 hq1 hq2 hc1 hB hLL hRl hRm hqR hDa hix hks hkc hat haN hR hRL
      go_wp2_with fail
      refine wp_region_vals 12 (by kernel_rfl) (by kernel_rfl) (by kernel_rfl) _ rfl (by kernel_rfl) (fun i => ([.slice (some ⟨ax, ox, none⟩) N c, .int .i64 a, .pointer (some ⟨ax, ox + a, none⟩), .slice (some ⟨bB, oB, none⟩) RL cB, .slice (some ⟨ax, ox, none⟩) N c, .int .i64 a, .pointer (some ⟨ax, ox + a, none⟩), .slice (some ⟨bB, oB, none⟩) RL cB, .func (.func 35) #[] #[.pointer (some ⟨w.heap.size, 0, none⟩), .pointer (some ⟨gA, 0, none⟩)], .int .i64 (q : Int), .pointer (some ⟨bB, oB + q, none⟩), .int .i64 k] : List Value).getD i undef) (fun W => Below wr.heap.size wr W) ((Below.refl _ _).drew) ?_ ?_
      · refine of_allOps ⟨?_, ?_, ?_, ?_, ?_, ?_, ?_, ?_, ?_, ?_, ?_, ?_, trivial⟩
        · refine ⟨rfl, fun T2 w2 hM hN hO hE => ?_⟩
          have o0 : T2[0]? = some (.slice (some ⟨ax, ox, none⟩) N c) := hO 0 rfl
          clear hE hO hN
          go_simp
        · refine ⟨rfl, fun T2 w2 hM hN hO hE => ?_⟩
          have o10 : T2[10]? = some (.pointer (some ⟨gA, 0, none⟩)) := hO 10 rfl
          have cA2 := (HKS.out w2 hM).1
          clear hE hO hN
          go_simp
        · refine ⟨rfl, fun T2 w2 hM hN hO hE => ?_⟩
          have h0 : T2[17]? = some (.slice (some ⟨ax, ox, none⟩) N c) := hE ⟨0, .data⟩ (by simp) rfl _ _ rfl rfl
          have h1 : T2[18]? = some (.int .i64 a) := hE ⟨1, .data⟩ (by simp) rfl _ _ rfl rfl
          clear hE hO hN
          go_simp
        · refine ⟨rfl, fun T2 w2 hM hN hO hE => ?_⟩
          have h2 : T2[19]? = some (.pointer (some ⟨ax, ox + a, none⟩)) := hE ⟨2, .data⟩ (by simp) rfl _ _ rfl rfl
          have cH2 := (HKC.out w2 (HWY.out.low.trans (hM.mono HWY.out.low.size))).1
          clear hE hO hN
          go_simp
        · refine ⟨rfl, fun T2 w2 hM hN hO hE => ?_⟩
          have o0 : T2[0]? = some (.slice (some ⟨ax, ox, none⟩) N c) := hO 0 rfl
          clear hE hO hN
          go_simp
        · refine ⟨rfl, fun T2 w2 hM hN hO hE => ?_⟩
          have o10 : T2[10]? = some (.pointer (some ⟨gA, 0, none⟩)) := hO 10 rfl
          have cA2 := (HKS.out w2 hM).1
          clear hE hO hN
          go_simp
        · refine ⟨rfl, fun T2 w2 hM hN hO hE => ?_⟩
          have h4 : T2[21]? = some (.slice (some ⟨ax, ox, none⟩) N c) := hE ⟨4, .data⟩ (by simp) rfl _ _ rfl rfl
          have h5 : T2[22]? = some (.int .i64 a) := hE ⟨5, .data⟩ (by simp) rfl _ _ rfl rfl
          clear hE hO hN
          go_simp
        · refine ⟨rfl, fun T2 w2 hM hN hO hE => ?_⟩
          have h6 : T2[23]? = some (.pointer (some ⟨ax, ox + a, none⟩)) := hE ⟨6, .data⟩ (by simp) rfl _ _ rfl rfl
          have cH2 := (HKC.out w2 (HWY.out.low.trans (hM.mono HWY.out.low.size))).1
          clear hE hO hN
          go_simp
        · refine ⟨rfl, fun T2 w2 hM hN hO hE => ?_⟩
          have o7 : T2[7]? = some (.pointer (some ⟨w.heap.size, 0, none⟩)) := hO 7 rfl
          have o10 : T2[10]? = some (.pointer (some ⟨gA, 0, none⟩)) := hO 10 rfl
          clear hE hO hN
          go_simp
        · refine ⟨rfl, fun T2 w2 hM hN hO hE => ?_⟩
          have h7 : T2[24]? = some (.slice (some ⟨bB, oB, none⟩) RL cB) := hE ⟨7, .data⟩ (by simp) rfl _ _ rfl rfl
          have h8 : T2[25]? = some (.func (.func 35) #[] #[.pointer (some ⟨w.heap.size, 0, none⟩), .pointer (some ⟨gA, 0, none⟩)]) := hE ⟨8, .data⟩ (by simp) rfl _ _ rfl rfl
          clear hE hO hN
          go_simp
          refine (HIX.out w2 hM).mono ?_
          rintro e w3 ⟨rfl, hb⟩
          first | exact hM.trans (hb.mono hM.size) | exact ⟨rfl, hM.trans (hb.mono hM.size)⟩
        · refine ⟨rfl, fun T2 w2 hM hN hO hE => ?_⟩
          have h3 : T2[20]? = some (.slice (some ⟨bB, oB, none⟩) RL cB) := hE ⟨3, .data⟩ (by simp) rfl _ _ rfl rfl
          have h9 : T2[26]? = some (.int .i64 (q : Int)) := hE ⟨9, .data⟩ (by simp) rfl _ _ rfl rfl
          clear hE hO hN
          go_simp
        · refine ⟨rfl, fun T2 w2 hM hN hO hE => ?_⟩
          have h10 : T2[27]? = some (.pointer (some ⟨bB, oB + q, none⟩)) := hE ⟨10, .data⟩ (by simp) rfl _ _ rfl rfl
          have cE2 := (HKC.out w2 (HWY.out.low.trans (hM.mono HWY.out.low.size))).2
          clear hE hO hN
          go_simp
      · intro w2 hM
        simp only [fillAll, Nat.reduceAdd, List.getD_cons_succ, List.getD_cons_zero, List.take_succ_cons, List.take_zero, List.drop_succ_cons, List.drop_zero, List.setIfInBounds_toArray, List.set_cons_succ, List.set_cons_zero]
        obtain ⟨d1, d4⟩ := HKS.out w2 hM
        obtain ⟨W5, hW5⟩ : ∃ W5, W5 = w2.setCell ⟨gA, 0, none⟩ (.int .i64 k) := ⟨_, rfl⟩
        have hb5 : Below w.heap.size w W5 := by rw [hW5]; exact (HWY.out.low.trans (hM.mono HWY.out.low.size)).setCell HGEA.out _
        have hA5 : Box W5 gA [.int .i64 k] := by rw [hW5]; exact (HWY.out.bA.below_all hM).set 0 _
        have h75 : Box W5 w.heap.size [.slice AS N cS] := by rw [hW5]; exact (HWY.out.b7.below_all hM).other HWY.out.n7A _
        have ho5 : Own W5 w.heap.size 3 1 A2 n c2 (natV (pre ++ [a])) := by rw [hW5]; exact (HWY.out.own.below hM (Nat.le_refl _)).setOther HWY.out.nA _
        have cA5 : W5.cell? ⟨gA, 0, none⟩ = some (.int .i64 k) := hA5.cells 0
        obtain ⟨W6, hW6⟩ : ∃ W6, W6 = W5.alloc (.cells #[.int .i64 (k : Int)] 3) := ⟨_, rfl⟩
        have hown := ho5.alloc (.cells #[.int .i64 (k : Int)] 3)
        have hrd := Rd.of_lit W5 #[.int .i64 (k : Int)] 3 1 1 (by decide) rfl
        rw [show W5.heap.size = w2.heap.size by rw [hW5, World.size_setCell]] at hrd
        rw [← hW6] at hown hrd
        have hA6 : Box W6 gA [.int .i64 k] := by rw [hW6]; exact hA5.alloc _
        have h76 : Box W6 w.heap.size [.slice AS N cS] := by rw [hW6]; exact h75.alloc _
        have hb6 : Below w.heap.size w W6 := by rw [hW6]; exact hb5.alloc hb5.size _
        have hone : ∀ v ∈ [Value.int .i64 (k : Int)], v.oneCell' = true := by simp [Value.oneCell']
        obtain ⟨V, hV⟩ : ∃ V, V = natV (pre ++ [a]) := ⟨_, rfl⟩
        rw [← hV] at hown
        have HV := hid2 hV
        have HOWN := hid2 hown
        have HRD := hid2 hrd
        have HA6 := hid2 hA6
        have H76 := hid2 h76
        have HB6 := hid2 hb6
        have HB5 := hid2 hb5
        have HW5 := hid2 hW5
        have HW6 := hid2 hW6
        have HBLK := hid2 hown.block
        have hnB : n ≤ 1000 := by omega
        have hz6 := hb6.size
        clear hW5 hW6 hA6 h76 hb6 hb5 hown hrd hV hA5 h75 ho5 cA5 c1 ck
        have HNA := hid2 HWY.out.nA
        have HN7 := hid2 HWY.out.n7
        go_wp2_with (first
          | (at_builtin; rw [← HW5.out]; go_must (rw [← HW6.out]; (with_reducible refine wpList_append_lit 3 (.int .i64 0) 1 8 Try.underlying25 info_int1 rfl w.heap.size A2 n c2 V HOWN.out 1 _ (.slice (some ⟨w2.heap.size, 0, none⟩) 1 1) (Src.slice Try.underlying25 HRD.out) hone ?_ ?_ ?_ ?_ ?_); (unfold maxLen; omega); omega; exact hz6; exact ⟨rfl, rfl⟩; intro A3 c3 w3 hown3 hgr3 hbl3; have hA3 := HA6.out.grown hgr3 (fun e => HNA.out e.symm); have cA3 : w3.cell? ⟨gA, 0, none⟩ = some (.int .i64 k) := hA3.cells 0; have HO3 := hid2 hown3; have HG3 := hid2 hgr3; have HBL := hid2 hbl3; clear hown3 hgr3 hbl3 hA3)))
        go_roundg m
        case rel =>
          have hb3 : Below w.heap.size w w3 := HB6.out.grown HG3.out hz6 (fun b e => (HBLK.out b e).1)
          refine ⟨k, pre ++ [a], n + 1, c3, w3.heap.size, A3, rfl, rfl, HK2.out, HK3.out, HK4.out, by rw [HN1.out, List.length_append]; rfl, by omega, ?_⟩
          have hlt : ∀ b, blockOf A3 = some b → b < w3.heap.size := fun b e => (HO3.out.block b e).2.1
          have hw3 : W6.heap.size ≤ w3.heap.size := HG3.out.size
          have h7lt : w.heap.size < W6.heap.size := H76.out.lt
          refine ⟨(H76.out.grown HG3.out (fun e => HN7.out e.symm)).alloc _, Box.new w3 _ _, ?_, hb3.alloc hb3.size _, Nat.le_refl _, hb3.size, ?_, ?_, by omega⟩
          · have h := HO3.out.alloc (.cells #[.int .i64 (k : Int)] 3)
            rw [HV.out] at h
            rw [natV_snoc]
            exact h
          · intro e
            rcases HBL.out with e2 | e2
            · exact HN7.out (e2 ▸ e)
            · rw [e2] at e
              have := Option.some.inj e
              omega
          · intro e
            have := hlt _ e
            omega
        case measure => omega
end Go.Proofs.Ytccilmnlepekeaa
