/- The walk of the program's Path. -/
import Derived.Test.YtccilmnlepekeaaCyc17
namespace Go.Proofs.Ytccilmnlepekeaa
open Go.RowKit
set_option maxRecDepth 100000 in
set_option maxHeartbeats 4000000 in
theorem cpath_any (w : World) (A : Option Addr) (c : Nat) (G : List (List Int)) (hg : GRd w A G) (hs : Small G) (f t : Int) :
    Calls Try.prog 20 #[.slice A G.length c, .int .i64 f, .int .i64 t] w fun e w' => WalkPost w (pathL G f t) e w' := by
  have hn := hs.n
  by_cases hout : f < 0 ∨ (G.length : Int) ≤ f ∨ t < 0 ∨ (G.length : Int) ≤ t
  · rw [pathL_out hout]
    unfold WalkPost
    clear hg hs
    obtain ⟨N, hN⟩ : ∃ N, N = G.length := ⟨_, rfl⟩
    rw [← hN] at hn hout ⊢
    clear hN
    by_cases h1 : f < 0
    · clear hout
      go_enter Try.func20, Try.ntmps20
      go_wp2_with fail
      go_ret
      exact ⟨none, 0, rfl, Own.nil _ _ _ _, Below.refl _ _⟩
    · by_cases h3 : t < 0
      · clear hout
        go_enter Try.func20, Try.ntmps20
        go_wp2_with fail
        go_ret
        exact ⟨none, 0, rfl, Own.nil _ _ _ _, Below.refl _ _⟩
      · by_cases h2 : (N : Int) ≤ f
        · clear hout
          go_enter Try.func20, Try.ntmps20
          go_wp2_with fail
          go_ret
          exact ⟨none, 0, rfl, Own.nil _ _ _ _, Below.refl _ _⟩
        · have h4 : (N : Int) ≤ t := by omega
          clear hout
          go_enter Try.func20, Try.ntmps20
          go_wp2_with fail
          go_ret
          exact ⟨none, 0, rfl, Own.nil _ _ _ _, Below.refl _ _⟩
  · obtain ⟨i, rfl⟩ : ∃ i : Nat, f = i := ⟨f.toNat, by omega⟩
    obtain ⟨to, rfl⟩ : ∃ to : Nat, t = to := ⟨t.toNat, by omega⟩
    have hi : i < G.length := by omega
    have hto : to < G.length := by omega
    rw [pathL_nat hi hto]
    have hp := pathN_way (G := G) (i := i) (to := to)
    have cT := turn_any w A c G hg hs
    have cF := fun (W : World) (AT : Option Addr) (cT : Nat) (h : GRd W AT (turnG G)) => cfar_any W AT cT G h hs to hto
    have cO := fun (W : World) (hW : Below w.heap.size w W) => of_any W A c G (hg.below hW) hs
    have cW := fun (W : World) (AX : Option Addr) (cX : Nat) (h : GRd W AX (ofG G)) (AS : Option Addr) (cS : Nat) (hst : Rd W 1 AS G.length (intV (dstL G to G.length))) (m : Nat) (hm : dst G to i = (m : Int)) => way_any W AX cX G h hs AS cS i to hi hto hst m hm
    have hgt : (dstL G to G.length)[i]? = some (dst G to i) := by
      rw [dstL, List.getElem?_map, List.getElem?_range hi]
      rfl
    unfold TurnPost at cT
    unfold CFarPost at cF
    unfold OfPost at cO
    unfold WalkPost at cW ⊢
    obtain ⟨PL, hPL⟩ : ∃ PL, PL = pathN G i to := ⟨_, rfl⟩
    obtain ⟨WL, hWL⟩ : ∃ WL, WL = wayL G i to := ⟨_, rfl⟩
    obtain ⟨v, hv⟩ : ∃ v, v = dst G to i := ⟨_, rfl⟩
    obtain ⟨D, hD⟩ : ∃ D, D = dstL G to G.length := ⟨_, rfl⟩
    obtain ⟨N, hN⟩ : ∃ N, N = G.length := ⟨_, rfl⟩
    have hi0 : (0 : Int) ≤ i := by omega
    have ht0 : (0 : Int) ≤ to := by omega
    have hiN : (i : Int) < N := by omega
    have htN : (to : Int) < N := by omega
    rw [← hPL] at hp ⊢
    rw [← hWL] at hp cW
    rw [← hv] at hp cW hgt
    rw [← hD] at cF cW hgt
    rw [← hN] at hn cT cF cO cW ⊢
    have HCT := hid2 cT
    have HCF := hid2 cF
    have HCO := hid2 cO
    have HCW := hid2 cW
    have HP := hid2 hp
    have HGT := hid2 hgt
    clear hg hs cT cF cO cW hp hgt hPL hWL hv hD hN hout hi hto
    by_cases hz : v < 0
    · have HE := hid2 (show PL = [] from by rw [HP.out, if_pos hz])
      go_enter Try.func20, Try.ntmps20
      go_wp2_with (first
        | (go_at_call 16; refine HCT.out.mono ?_; rintro e w1 ⟨AT, rfl, hgt1, hb1⟩; have HGT1 := hid2 (hgt1.grd (W := w1) (fun _ _ _ => rfl)); have HB1 := hid2 hb1; clear hgt1 hb1)
        | (go_at_call 27; refine (HCF.out w1 AT N HGT1.out).mono ?_; rintro e w2 ⟨AS, cS, rfl, ho2, hb2⟩; obtain ⟨b2, o2, rfl, cx⟩ := int_cell ho2.rd HGT.out; have HRS := hid2 ho2.rd; have HB2 := hid2 hb2; clear ho2 hb2))
      go_ret
      exact ⟨none, 0, by rw [HE.out]; rfl, by rw [HE.out]; exact Own.nil _ _ _ _, HB1.out.trans (HB2.out.mono HB1.out.size)⟩
    · have HE := hid2 (show PL = WL from by rw [HP.out, if_neg hz])
      obtain ⟨m, rfl⟩ : ∃ m : Nat, v = m := ⟨v.toNat, by omega⟩
      go_enter Try.func20, Try.ntmps20
      go_wp2_with (first
        | (go_at_call 16; refine HCT.out.mono ?_; rintro e w1 ⟨AT, rfl, hgt1, hb1⟩; have HGT1 := hid2 (hgt1.grd (W := w1) (fun _ _ _ => rfl)); have HB1 := hid2 hb1; clear hgt1 hb1)
        | (go_at_call 27; refine (HCF.out w1 AT N HGT1.out).mono ?_; rintro e w2 ⟨AS, cS, rfl, ho2, hb2⟩; obtain ⟨b2, o2, rfl, cx⟩ := int_cell ho2.rd HGT.out; have HRS := hid2 ho2.rd; have HB2 := hid2 hb2; clear ho2 hb2)
        | (go_at_call 22; refine (HCO.out w2 (HB1.out.trans (HB2.out.mono HB1.out.size))).mono ?_; rintro e w3 ⟨AX, rfl, hgx, hb3⟩; have HGX := hid2 (hgx.grd (W := w3) (fun _ _ _ => rfl)); have HB3 := hid2 hb3; clear hgx hb3)
        | (go_at_call 28; refine (HCW.out w3 AX N HGX.out _ _ (HRS.out.below_all HB3.out) m rfl).mono ?_; rintro e w4 ⟨A4, c4, rfl, ho4, hb4⟩; have HO4 := hid2 ho4; have HB4 := hid2 hb4; clear ho4 hb4))
      go_ret
      have hb13 := (HB1.out.trans (HB2.out.mono HB1.out.size)).trans (HB3.out.mono (HB1.out.trans (HB2.out.mono HB1.out.size)).size)
      exact ⟨A4, c4, by rw [HE.out]; rfl, by rw [HE.out]; exact HO4.out.mono hb13.size, hb13.trans (HB4.out.mono hb13.size)⟩
end Go.Proofs.Ytccilmnlepekeaa
