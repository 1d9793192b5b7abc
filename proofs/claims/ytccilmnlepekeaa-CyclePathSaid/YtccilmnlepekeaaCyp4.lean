/- The walk of the law CyclePath. -/
import Derived.Test.YtccilmnlepekeaaCyp1
import Derived.Test.YtccilmnlepekeaaCyc26
namespace Go.Proofs.Ytccilmnlepekeaa
open Go.RowKit
/-- what is left of a way is the way from there -/
theorem way_drop {G : List (List Int)} {to : Nat} (hto : to < G.length) : ∀ (n d a : Nat), a < G.length → dst G to a = (d : Int) → n ≤ d → ∃ x, (wayL G a to)[n]? = some x ∧ x < G.length ∧ dst G to x = ((d - n : Nat) : Int) ∧ (wayL G a to).drop n = wayL G x to
  | 0, d, a, ha, h, _ => by
    refine ⟨a, ?_, ha, by simpa using h, rfl⟩
    cases d with
    | zero =>
      have : a = to := dst_zero.1 h
      rw [this, wayL_self]
      rfl
    | succ d =>
      obtain ⟨k, _, _, _, h4⟩ := way_step hto (a := a) (m := d) (by rw [h]; omega)
      rw [h4]
      rfl
  | n + 1, d, a, ha, h, hn => by
    obtain ⟨d, rfl⟩ : ∃ m, d = m + 1 := ⟨d - 1, by omega⟩
    obtain ⟨k, _, h2, h3, h4⟩ := way_step hto (a := a) (m := d) (by rw [h]; omega)
    obtain ⟨x, h5, h6, h7, h8⟩ := way_drop hto n d k h2 h3 (by omega)
    refine ⟨x, by rw [h4]; simpa using h5, h6, by rw [h7]; congr 1; omega, by rw [h4]; simpa using h8⟩
theorem way_head {G : List (List Int)} {to a d : Nat} (hto : to < G.length) (h : dst G to a = (d : Int)) : ∃ r, wayL G a to = a :: r := by
  cases d with
  | zero =>
    have : a = to := dst_zero.1 h
    exact ⟨[], by rw [this, wayL_self]⟩
  | succ d =>
    obtain ⟨k, _, _, _, h4⟩ := way_step hto (a := a) (m := d) (by rw [h]; omega)
    exact ⟨_, h4⟩
/-- a step of a way -/
theorem way_adj {G : List (List Int)} {to : Nat} (hto : to < G.length) {n d a x y : Nat} (ha : a < G.length) (h : dst G to a = (d : Int)) (hn : n + 1 ≤ d) (hx : (wayL G a to)[n]? = some x) (hy : (wayL G a to)[n + 1]? = some y) : adj G x y = true := by
  obtain ⟨x', h1, h2, h3, h4⟩ := way_drop hto n d a ha h (by omega)
  rw [hx] at h1
  cases h1
  obtain ⟨k, h5, h6, hd6, h7⟩ := way_step hto (a := x) (m := d - n - 1) (by rw [h3]; omega)
  have h8 := List.mem_of_find?_eq_some h5
  rw [castI, List.mem_map] at h8
  obtain ⟨j, hj, hjk⟩ := h8
  have : j = k := by omega
  subst this
  have h9 : ((wayL G a to).drop n)[1]? = some y := by rw [List.getElem?_drop]; exact hy
  rw [h4, h7, List.getElem?_cons_succ] at h9
  obtain ⟨r, e⟩ := way_head hto hd6
  rw [e] at h9
  obtain rfl : j = y := by simpa using h9
  exact (adj_in.1 hj).2
theorem nat_drop {w : World} {b o n D : Nat} {l : List Nat} (h : Rd w 1 (some ⟨b, o, none⟩) D (natV l)) (hn : n ≤ D) : Rd w 1 (some ⟨b, o + n, none⟩) (D - n) (natV (l.drop n)) := by
  have hl : l.length = D := by have := h.1; rw [natV_length] at this; omega
  refine ⟨by rw [natV_length, List.length_drop]; omega, fun h0 => ⟨b, o + n, rfl, fun j u hu => ?_⟩⟩
  obtain ⟨b', o', e, hc⟩ := h.2 (by omega)
  cases e
  rw [Nat.add_assoc]
  refine hc (n + j) u ?_
  rw [← hu, natV, natV, intV, intV, List.map_drop, List.map_drop, List.getElem?_drop]
theorem castN2 {l : List Nat} {q k : Nat} (h : l[q]? = some k) : (l.map fun (x : Nat) => (x : Int))[q]? = some (k : Int) := by rw [List.getElem?_map, h]; rfl
theorem dst_cases (G : List (List Int)) (to a : Nat) : dst G to a < 0 ∨ ∃ d : Nat, dst G to a = d ∧ d ≤ G.length := by
  have h1 := farA_le G to G.length a
  have h2 := farA_bound G to G.length a
  rw [dst, dstA]
  split
  · exact .inr ⟨0, rfl, Nat.zero_le _⟩
  · split
    · exact .inl (by decide)
    · exact .inr ⟨(farA G to G.length a).toNat, by omega, by omega⟩
set_option maxRecDepth 100000 in
set_option maxHeartbeats 4000000 in
theorem cyclePath_walk (w : World) (A : Option Addr) (c : Nat) (G : List (List Int)) (hg : GRd w A G) (hl : G.length ≤ 8796093022208) (hr : ∀ (i : Nat) (row : List Int), G[i]? = some row → row.length ≤ 140737488355328) (i k : Int) :
    Calls Try.prog 6 #[.slice A G.length c, .int .i64 i, .int .i64 k] w fun e w' => e = .returned (.bool true) ∧ Below w.heap.size w w' := by
  have cA := fun (W : World) => cycalive_any W
  have cG := fun (W : World) (hW : Below w.heap.size w W) => great18_any W A c G (hg.below hW) hl hr
  unfold G18Post at cG
  have cP := fun (hs : Small G) (f : Int) (W : World) (hW : Below w.heap.size w W) => cpath_any W A c G (hg.below hW) hs f k
  unfold WalkPost at cP
  obtain ⟨N, hN⟩ : ∃ N, N = G.length := ⟨_, rfl⟩
  rw [← hN] at cG cP ⊢
  have HCA := hid2 cA
  have HCG := hid2 cG
  have HCP := hid2 cP
  have HSN := hid2 (show Small G → N ≤ 25 from fun hs => by rw [hN]; exact hs.n)
  by_cases hout : i < 0 ∨ k < 0 ∨ (N : Int) ≤ i ∨ (N : Int) ≤ k
  · have hpo : pathL G i k = [] := pathL_out (by omega)
    have HCP0 := hid2 (fun (hs : Small G) (W : World) (hW : Below w.heap.size w W) => cP hs i W hW)
    rw [hpo] at HCP0
    clear cA cG cP hg hl hr hN hpo HCP
    by_cases h1 : i < 0
    · clear hout
      go_enter Try.func6, Try.ntmps6
      go_wp2_with (first
        | (go_at_call 8; refine (HCA.out w).mono ?_; rintro e w1 ⟨rfl, hb1⟩; have HB1 := hid2 hb1; clear hb1)
        | (go_at_call 9; refine (HCG.out w1 HB1.out).mono ?_; rintro e w2 ⟨v, rfl, hsm, hw2⟩; obtain rfl := hw2.symm; have HSM := hid2 hsm; clear hsm; cases v))
      rotate_left
      · go_ret
        exact ⟨rfl, HB1.out⟩
      · have hs := HSM.out (by first | rfl | trivial)
        have HP1 := hid2 (HCP0.out hs)
        clear HCP0 HSM hs
        go_wp2_with (first
          | (go_at_call 20; refine (HP1.out w1 HB1.out).mono ?_; rintro e w2 ⟨A2, c2, rfl, _, hb2⟩; have HB2 := hid2 (HB1.out.trans (hb2.mono HB1.out.size)); clear hb2))
        all_goals (go_ret; exact ⟨rfl, HB2.out⟩)
    · by_cases h2 : k < 0
      · clear hout
        go_enter Try.func6, Try.ntmps6
        go_wp2_with (first
          | (go_at_call 8; refine (HCA.out w).mono ?_; rintro e w1 ⟨rfl, hb1⟩; have HB1 := hid2 hb1; clear hb1)
          | (go_at_call 9; refine (HCG.out w1 HB1.out).mono ?_; rintro e w2 ⟨v, rfl, hsm, hw2⟩; obtain rfl := hw2.symm; have HSM := hid2 hsm; clear hsm; cases v))
        rotate_left
        · go_ret
          exact ⟨rfl, HB1.out⟩
        · have hs := HSM.out (by first | rfl | trivial)
          have HP1 := hid2 (HCP0.out hs)
          clear HCP0 HSM hs
          go_wp2_with (first
            | (go_at_call 20; refine (HP1.out w1 HB1.out).mono ?_; rintro e w2 ⟨A2, c2, rfl, _, hb2⟩; have HB2 := hid2 (HB1.out.trans (hb2.mono HB1.out.size)); clear hb2))
          all_goals (go_ret; exact ⟨rfl, HB2.out⟩)
      · by_cases h3 : (N : Int) ≤ i
        · clear hout
          go_enter Try.func6, Try.ntmps6
          go_wp2_with (first
            | (go_at_call 8; refine (HCA.out w).mono ?_; rintro e w1 ⟨rfl, hb1⟩; have HB1 := hid2 hb1; clear hb1)
            | (go_at_call 9; refine (HCG.out w1 HB1.out).mono ?_; rintro e w2 ⟨v, rfl, hsm, hw2⟩; obtain rfl := hw2.symm; have HSM := hid2 hsm; clear hsm; cases v))
          rotate_left
          · go_ret
            exact ⟨rfl, HB1.out⟩
          · have hs := HSM.out (by first | rfl | trivial)
            have HP1 := hid2 (HCP0.out hs)
            clear HCP0 HSM hs
            go_wp2_with (first
              | (go_at_call 20; refine (HP1.out w1 HB1.out).mono ?_; rintro e w2 ⟨A2, c2, rfl, _, hb2⟩; have HB2 := hid2 (HB1.out.trans (hb2.mono HB1.out.size)); clear hb2))
            all_goals (go_ret; exact ⟨rfl, HB2.out⟩)
        · have h4 : (N : Int) ≤ k := by omega
          clear hout
          go_enter Try.func6, Try.ntmps6
          go_wp2_with (first
            | (go_at_call 8; refine (HCA.out w).mono ?_; rintro e w1 ⟨rfl, hb1⟩; have HB1 := hid2 hb1; clear hb1)
            | (go_at_call 9; refine (HCG.out w1 HB1.out).mono ?_; rintro e w2 ⟨v, rfl, hsm, hw2⟩; obtain rfl := hw2.symm; have HSM := hid2 hsm; clear hsm; cases v))
          rotate_left
          · go_ret
            exact ⟨rfl, HB1.out⟩
          · have hs := HSM.out (by first | rfl | trivial)
            have HP1 := hid2 (HCP0.out hs)
            clear HCP0 HSM hs
            go_wp2_with (first
              | (go_at_call 20; refine (HP1.out w1 HB1.out).mono ?_; rintro e w2 ⟨A2, c2, rfl, _, hb2⟩; have HB2 := hid2 (HB1.out.trans (hb2.mono HB1.out.size)); clear hb2))
            all_goals (go_ret; exact ⟨rfl, HB2.out⟩)
  · obtain ⟨i, rfl⟩ : ∃ j : Nat, i = j := ⟨i.toNat, by omega⟩
    obtain ⟨k, rfl⟩ : ∃ j : Nat, k = j := ⟨k.toNat, by omega⟩
    have hi : i < N := by omega
    have hk : k < N := by omega
    have hi0 : (0 : Int) ≤ i := by omega
    have hk0 : (0 : Int) ≤ k := by omega
    have hiN : (i : Int) < N := by omega
    have hkN : (k : Int) < N := by omega
    have cR := fun (hs : Small G) (W : World) (hW : Below w.heap.size w W) (AF : Option Addr) (cF : Nat) (h : Rd W 1 AF 1 (intV [(i : Int)])) => creach_any W A c G (hg.below hW) hs AF cF [(i : Int)] h (by simp)
    unfold ReachPost at cR
    have cO := fun (hs : Small G) (W : World) (hW : Below w.heap.size w W) (a b : Nat) (ha : a < N) (hb : b < N) => on_any W A c G (hg.below hW) hs a b (by omega) (by omega)
    rw [← hN] at cR
    simp only [← hN] at cO
    have hrp : ∀ T : List Bool, RT G (fun j => (j : Int) ∈ [(i : Int)]) T → ∃ x, T[k]? = some x ∧ (x = true ↔ 0 < (pathN G i k).length) := fun T h => by
      have hl := h.len
      obtain ⟨x, hx⟩ : ∃ x, T[k]? = some x := ⟨_, List.getElem?_eq_getElem (by omega)⟩
      refine ⟨x, hx, ?_⟩
      rw [← path_reach (by omega) (by omega)]
      have h2 := h.wk k
      unfold inT at h2
      rw [hx, Option.some.injEq] at h2
      rw [h2]
      constructor
      · rintro ⟨_, a, n, _, h3, h4⟩
        have : a = i := by have := List.mem_singleton.1 h3; omega
        subst this
        exact ⟨n, h4⟩
      · rintro ⟨n, h4⟩
        exact ⟨by omega, i, n, by omega, by simp, h4⟩
    have hpw : pathN G i k = if dst G k i < 0 then [] else wayL G i k := pathN_way
    have hcp0 := fun (hs : Small G) (W : World) (hW : Below w.heap.size w W) => cP hs (i : Int) W hW
    rw [pathL_nat (by omega) (by omega)] at hcp0
    have HL1 := hid2 (fun (W : World) => Rd.of_lit W #[.int .i64 (i : Int)] 3 1 1 (by decide) rfl)
    have HA := hid2 (fun (W : World) (o : Obj) => show Below W.heap.size W (W.alloc o) from (Below.refl _ _).alloc (Nat.le_refl _) _)
    rcases dst_cases G k i with hneg | ⟨d, hd, hdN⟩
    · rw [hpw, if_pos hneg] at hcp0 hrp
      have HP := hid2 hcp0
      have HR := hid2 cR
      have HRP := hid2 hrp
      clear cA cG cP cR cO hg hl hr hrp hpw hcp0 hneg HCP hN hi hk hout
      go_enter Try.func6, Try.ntmps6
      go_wp2_with (first
        | (go_at_call 8; refine (HCA.out w).mono ?_; rintro e w1 ⟨rfl, hb1⟩; have HB1 := hid2 hb1; clear hb1)
        | (go_at_call 9; refine (HCG.out w1 HB1.out).mono ?_; rintro e w2 ⟨v, rfl, hsm, hw2⟩; obtain rfl := hw2.symm; have HSM := hid2 hsm; clear hsm; cases v))
      rotate_left
      · go_ret
        exact ⟨rfl, HB1.out⟩
      · have hs := HSM.out (by first | rfl | trivial)
        have HP1 := hid2 (HP.out hs)
        have HR1 := hid2 (HR.out hs)
        clear HP HR HSM hs
        go_wp2_with (first
          | (go_at_call 20; refine (HP1.out w1 HB1.out).mono ?_; rintro e w2 ⟨A2, c2, rfl, _, hb2⟩; have HB2 := hid2 (HB1.out.trans (hb2.mono HB1.out.size)); clear hb2)
          | (go_at_call 17; refine (HR1.out _ (HB2.out.trans ((HA.out w2 _).mono HB2.out.size)) _ _ (HL1.out w2)).mono ?_; rintro e w3 ⟨T1, A3, c3, hT1, rfl, hr3, hb3⟩; have hb23 := (HA.out w2 _).trans (hb3.mono (HA.out w2 _).size); have HB3 := hid2 (HB2.out.trans (hb23.mono HB2.out.size)); obtain ⟨x, hx, hxi⟩ := HRP.out T1 hT1; obtain ⟨b3, o3, rfl, s1⟩ := bool_cell hr3 hx; have hxf : x = false := (by cases x <;> simp at hxi ⊢); subst hxf; clear hT1 hr3 hb3 hb23 hx hxi))
        go_ret
        exact ⟨rfl, HB3.out⟩
    · rw [hpw, if_neg (by omega)] at hcp0 hrp
      have hwl := wayL_length hd
      have hdr := fun (n : Nat) (hn : n ≤ d) => way_drop (by omega) n d i (by omega) hd hn
      have had := fun (n x y : Nat) (hn : n + 1 ≤ d) (hx : (wayL G i k)[n]? = some x) (hy : (wayL G i k)[n + 1]? = some y) => way_adj (by omega) (by omega) hd hn hx hy
      have hpx : ∀ (n x : Nat), (wayL G i k)[n]? = some x → n ≤ d → pathL G (x : Int) (k : Int) = (wayL G i k).drop n := fun n x hx hn => by
        obtain ⟨y, h1, h2, h3, h4⟩ := hdr n hn
        rw [hx] at h1
        cases h1
        rw [pathL_nat h2 (by omega), pathN_way, if_neg (by omega), h4]
      have hpe : ∀ x, (wayL G i k)[d]? = some x → x = k := fun x hx => by
        obtain ⟨y, h1, h2, h3, h4⟩ := hdr d (Nat.le_refl _)
        rw [hx] at h1
        cases h1
        rw [Nat.sub_self] at h3
        exact dst_zero.1 h3
      have hp0 : ∀ x, (wayL G i k)[0]? = some x → x = i := fun x hx => by
        obtain ⟨r, e1⟩ := way_head (by omega) hd
        rw [e1] at hx
        exact (Option.some.inj (by simpa using hx)).symm
      have hlt : ∀ n, n ≤ d → ∃ x, (wayL G i k)[n]? = some x ∧ x < G.length := fun n hn => by
        obtain ⟨y, h1, h2, _, _⟩ := hdr n hn
        exact ⟨y, h1, h2⟩
      obtain ⟨WL, hWL⟩ : ∃ WL, WL = wayL G i k := ⟨_, rfl⟩
      rw [← hWL] at hcp0 hrp hwl had hpx hpe hp0 hlt
      rw [hwl] at hcp0 hrp
      rw [← hN] at hlt hdN
      have HP := hid2 hcp0
      have HR := hid2 cR
      have HRP := hid2 hrp
      have HO := hid2 cO
      have HWL := hid2 hwl
      have HAD := hid2 had
      have HPX := hid2 hpx
      have HPE := hid2 hpe
      have HP0 := hid2 hp0
      have HLT := hid2 hlt
      obtain ⟨D, hD⟩ : ∃ D, D = d + 1 := ⟨_, rfl⟩
      rw [← hD] at HP HRP HWL
      have hD0 : (0 : Int) < D := by omega
      have hDN : D ≤ N + 1 := by omega
      have gD1 : ((0 : Int) < (D : Int)) = True := eq_true (by omega)
      have gD2 : decide ((0 : Int) < (D : Int)) = true := decide_eq_true (by omega)
      have gD3 : decide (0 < D) = true := decide_eq_true (by omega)
      have gD4 : ((D : Int) = 0) = False := eq_false (by omega)
      have gD5 : ((D : Int) == 0) = false := by simp; omega
      have gD6 : ¬ D = 0 := by omega
      have hSM := hid2 (fun (n : Nat) (W : World) (A B : Option Addr) (m c1 c2 : Nat) (hm : m = D - n) (hDB : D ≤ 1000) (h1 : Rd W 1 A m (natV (WL.drop n))) (h2 : Rd W 1 B (D - n) (natV (WL.drop n))) => show Calls Try.prog 12 #[.slice A m c1, .slice B (D - n) c2] W (fun e w' => e = .returned (.bool true) ∧ Below W.heap.size W w') from by
        subst hm
        have hl := h1.1
        rw [natV_length, Nat.mul_one] at hl
        have h := same_nat W A B c1 c2 (WL.drop n) (by rw [hl]; exact h1) (by rw [hl]; exact h2) (by omega)
        rw [hl] at h
        exact h)
      have HDD := hid2 hD
      clear cA cG cP cR cO hg hl hrp hpw hcp0 hwl hdr had hpx hpe hp0 hlt hWL hN hi hk hout hd hD hr
      go_enter Try.func6, Try.ntmps6
      go_wp2_with (first
        | (go_at_call 8; refine (HCA.out w).mono ?_; rintro e w1 ⟨rfl, hb1⟩; have HB1 := hid2 hb1; clear hb1)
        | (go_at_call 9; refine (HCG.out w1 HB1.out).mono ?_; rintro e w2 ⟨v, rfl, hsm, hw2⟩; obtain rfl := hw2.symm; have HSM := hid2 hsm; clear hsm; cases v))
      rotate_left
      · go_ret
        exact ⟨rfl, HB1.out⟩
      · have hs := HSM.out (by first | rfl | trivial)
        have HP1 := hid2 (HP.out hs)
        have HR1 := hid2 (HR.out hs)
        have HO1 := hid2 (HO.out hs)
        have HCP1 := hid2 (HCP.out hs)
        have hN25 := HSN.out hs
        clear HP HR HO HCP HSM hs
        go_wp2_with (first
          | (go_at_call 20; refine (HP1.out w1 HB1.out).mono ?_; rintro e w2 ⟨A2, c2, rfl, ho2, hb2⟩; have HRW := hid2 ho2.rd; have hDc := ho2.2.1; have HB2 := hid2 (HB1.out.trans (hb2.mono HB1.out.size)); clear hb2 ho2)
          | (go_at_call 17; refine (HR1.out _ (HB2.out.trans ((HA.out w2 _).mono HB2.out.size)) _ _ (HL1.out w2)).mono ?_; rintro e w3 ⟨T1, A3, c3, hT1, rfl, hr3, hb3⟩; have hb23 := (HA.out w2 _).trans (hb3.mono (HA.out w2 _).size); have HB3 := hid2 (HB2.out.trans (hb23.mono HB2.out.size)); have HRW3 := hid2 (HRW.out.below_all hb23); obtain ⟨x, hx, hxi⟩ := HRP.out T1 hT1; obtain ⟨b3, o3, rfl, s1⟩ := bool_cell hr3 hx; have hxf : x = true := hxi.2 (by omega); subst hxf; clear hT1 hr3 hb3 hb23 hx hxi))
        obtain ⟨x0, hx0, hx0N⟩ := HLT.out 0 (Nat.zero_le _)
        obtain ⟨b2, o2, rfl, hc0⟩ := int_cell HRW3.out (castN2 hx0)
        clear hx0 hc0 hx0N
        clear x0
        have HS0 := hid2 (HCP1.out)
        go_loopg [9] d (fun gk nv wr => ∃ n : Nat, n + gk = D ∧ 1 ≤ n ∧ nv = .int .i64 n ∧ Below w3.heap.size w3 wr)
        case atStart => exact ⟨1, by have := HDD.out; omega, Nat.le_refl _, rfl, Below.refl _ _⟩
        case round =>
          obtain ⟨n, hn, hn1, rfl, hlow⟩ := hrel
          have HLOW := hid2 hlow
          clear hlow
          by_cases hnD : n < D
          · have hnD' : (n : Int) < D := by omega
            have hn0 : (0 : Int) ≤ n := by omega
            obtain ⟨j, hj⟩ : ∃ j, n = j + 1 := ⟨n - 1, by omega⟩
            have hd1 : n ≤ d := by have := HDD.out; omega
            obtain ⟨x, hx, hxN⟩ := HLT.out j (by omega)
            obtain ⟨y, hy, hyN⟩ := HLT.out n hd1
            have hadj := HAD.out j x y (by omega) hx (by rw [← hj]; exact hy)
            have hwj : IntKind.i64.wrap ((n : Int) - 1) = (j : Int) := (IntWalk.i64_in _ (by constructor <;> omega)).trans (by omega)
            have hj0 : (0 : Int) ≤ j := by omega
            have hjD : (j : Int) < D := by omega
            have hon := fun (W : World) (hW : Below w.heap.size w W) => HO1.out W hW x y hxN hyN
            rw [hadj] at hon
            have hcp := fun (W : World) (hW : Below w.heap.size w W) => HCP1.out (y : Int) W hW
            rw [HPX.out n y hy hd1] at hcp
            obtain ⟨m, hm⟩ : ∃ m, m = (WL.drop n).length := ⟨_, rfl⟩
            rw [← hm] at hcp
            have hmD : m = D - n := by rw [hm, List.length_drop, HWL.out]
            have hks : ∀ W, Below w3.heap.size w3 W → W.cell? ⟨b2, o2 + j, none⟩ = some (.int .i64 x) ∧ W.cell? ⟨b2, o2 + n, none⟩ = some (.int .i64 y) := fun W hW => by
              obtain ⟨_, _, e1, q1⟩ := int_cell (HRW3.out.below_all hW) (castN2 hx)
              obtain ⟨_, _, e2, q2⟩ := int_cell (HRW3.out.below_all hW) (castN2 hy)
              cases e1
              cases e2
              exact ⟨q1, q2⟩
            have hsm := fun (W : World) (hW : Below w3.heap.size w3 W) (A' : Option Addr) (c' : Nat) (h : Rd W 1 A' m (natV (WL.drop n))) => hSM.out n W A' (some ⟨b2, o2 + n, none⟩) m c' (c2 - n) hmD (by omega) h (nat_drop (HRW3.out.below_all hW) (Nat.le_of_lt hnD))
            obtain ⟨s1, s2⟩ := hks wr HLOW.out
            have hlw := HLOW.out
            have hnc : (n : Int) ≤ c2 := by omega
            have hnDi : (n : Int) ≤ D := by omega
            have hDci : (D : Int) ≤ c2 := by omega
            have hnDn : n ≤ D := Nat.le_of_lt hnD
            have hncn' : n ≤ c2 := by omega
            have hncn : ¬ c2 = n := by omega
            have hnc2 : ¬ c2 - n = 0 := by omega
            have HKS := hid2 hks
            have HSM2 := hid2 hsm
            have HON := hid2 hon
            have HCPY := hid2 hcp
            have HJ := hid2 hj
            clear hks hsm hon hcp hadj hx hy hm hmD hd1 hj hnD
            go_wp2_with fail
            go_region_held3 (fun w' => w'.cell? ⟨b2, o2 + j, none⟩ = some (.int .i64 x) ∧ w'.cell? ⟨b2, o2 + n, none⟩ = some (.int .i64 y)) (first | exact HKS.out _ hb9 | exact HKS.out _ hb8 | go_keep) (first
              | (go_at_call 15; refine (HON.out _ (HB3.out.trans (hlw.drew.mono HB3.out.size))).mono ?_; rintro e w7 ⟨rfl, rfl⟩)
              | (go_at_call 20; refine (HCPY.out _ (HB3.out.trans (hlw.drew.mono HB3.out.size))).mono ?_; rintro e w8 ⟨A8, c8, rfl, ho8, hb⟩; have HR8 := hid2 ho8.rd; have hb8 : Below w3.heap.size w3 w8 := hlw.drew.trans (hb.mono hlw.drew.size); clear ho8 hb)
              | (go_at_call 12; refine (HSM2.out _ hb8 _ _ HR8.out).mono ?_; rintro e w9 ⟨rfl, hb⟩; have hb9 : Below w3.heap.size w3 w9 := hb8.trans (hb.mono hb8.size); clear hb))
            go_wp2_with fail
            go_roundg (gk - 1)
            case rel => exact ⟨n + 1, by omega, by omega, by go_num, by assumption⟩
            case measure => omega
          · have hnD2 : n = D := by omega
            have hnD' : ¬ (n : Int) < D := by omega
            obtain ⟨x, hx, _⟩ := HLT.out 0 (Nat.zero_le _)
            obtain ⟨y, hy, _⟩ := HLT.out d (Nat.le_refl _)
            obtain rfl := HP0.out x hx
            obtain rfl := HPE.out y hy
            have s1 : wr.cell? ⟨b2, o2, none⟩ = some (.int .i64 x) := by
              obtain ⟨_, _, e1, q1⟩ := int_cell (HRW3.out.below_all HLOW.out) (castN2 hx)
              cases e1
              exact q1
            have s2 : wr.cell? ⟨b2, o2 + d, none⟩ = some (.int .i64 y) := by
              obtain ⟨_, _, e1, q1⟩ := int_cell (HRW3.out.below_all HLOW.out) (castN2 hy)
              cases e1
              exact q1
            have hwd : IntKind.i64.wrap ((D : Int) - 1) = (d : Int) := (IntWalk.i64_in _ (by constructor <;> omega)).trans (by have := HDD.out; omega)
            have hd0 : (0 : Int) ≤ d := by omega
            have hdD : (d : Int) < D := by have := HDD.out; omega
            clear hx hy hnD hnD2
            go_wp2_with fail
            go_ret
            exact ⟨rfl, HB3.out.trans (HLOW.out.mono HB3.out.size)⟩
end Go.Proofs.Ytccilmnlepekeaa
