/- The reference's Path. -/
import Derived.Test.YtccilmnlepekeaaCyr1
namespace Go.Proofs.Ytccilmnlepekeaa
open Go.RowKit
/-- the path between two nodes; none -/
def pathN (G : List (List Int)) (i to : Nat) : List Nat := if i = to then [i] else if (farN G to G.length).getD i 0 = 0 then [] else walkL G i to ++ [to]
def pathL (G : List (List Int)) (f t : Int) : List Nat := if f < 0 ∨ (G.length : Int) ≤ f ∨ t < 0 ∨ (G.length : Int) ≤ t then [] else pathN G f.toNat t.toNat
theorem pathL_nat {G : List (List Int)} {i to : Nat} (hi : i < G.length) (ht : to < G.length) : pathL G i to = pathN G i to := by
  rw [pathL, if_neg (by omega), Int.toNat_natCast, Int.toNat_natCast]
theorem pathL_out {G : List (List Int)} {f t : Int} (h : f < 0 ∨ (G.length : Int) ≤ f ∨ t < 0 ∨ (G.length : Int) ≤ t) : pathL G f t = [] := by
  rw [pathL, if_pos h]
theorem walkL_len {G : List (List Int)} {i to : Nat} (h : 1 ≤ (farN G to G.length).getD i 0) : (walkL G i to).length ≤ G.length := by
  obtain ⟨m, hm⟩ : ∃ m : Nat, (farN G to G.length).getD i 0 = (m : Int) + 1 := ⟨((farN G to G.length).getD i 0).toNat - 1, by omega⟩
  have hb := farN_bound G to G.length i
  have hw : ∀ (m i : Nat), (farN G to G.length).getD i 0 = (m : Int) + 1 → (walkS G (farN G to G.length) m i).length = m + 1 := by
    intro m
    induction m with
    | zero => intro i _; rfl
    | succ m ih =>
      intro i h
      obtain ⟨k, h1, _, h3⟩ := nextG_some (m := m) (G := G) (to := to) (i := i) (by rw [h]; omega)
      rw [walkS, h1, List.length_cons, ih k h3]
  rw [walkL, hm, show ((m : Int) + 1).toNat - 1 = m by omega, hw m i hm]
  omega
set_option maxRecDepth 100000 in
set_option maxHeartbeats 4000000 in
theorem refpath_any (w : World) (A : Option Addr) (c : Nat) (G : List (List Int)) (hg : GRd w A G) (hs : Small G) (f t : Int) :
    Calls Try.prog 21 #[.slice A G.length c, .int .i64 f, .int .i64 t] w fun e w' => WalkPost w (pathL G f t) e w' := by
  have hn := hs.n
  by_cases hout : f < 0 ∨ (G.length : Int) ≤ f ∨ t < 0 ∨ (G.length : Int) ≤ t
  · rw [pathL_out hout]
    unfold WalkPost
    clear hg hs
    obtain ⟨N, hN⟩ : ∃ N, N = G.length := ⟨_, rfl⟩
    rw [← hN] at hn hout ⊢
    clear hN
    by_cases h1 : f < 0
    · clear hout
      go_enter Try.func21, Try.ntmps21
      go_wp2_with fail
      go_ret
      exact ⟨none, 0, rfl, Own.nil _ _ _ _, Below.refl _ _⟩
    · by_cases h2 : (N : Int) ≤ f
      · clear hout
        go_enter Try.func21, Try.ntmps21
        go_wp2_with fail
        go_ret
        exact ⟨none, 0, rfl, Own.nil _ _ _ _, Below.refl _ _⟩
      · by_cases h3 : t < 0
        · clear hout
          go_enter Try.func21, Try.ntmps21
          go_wp2_with fail
          go_ret
          exact ⟨none, 0, rfl, Own.nil _ _ _ _, Below.refl _ _⟩
        · have h4 : (N : Int) ≤ t := by omega
          clear hout
          go_enter Try.func21, Try.ntmps21
          go_wp2_with fail
          go_ret
          exact ⟨none, 0, rfl, Own.nil _ _ _ _, Below.refl _ _⟩
  · obtain ⟨i, rfl⟩ : ∃ i : Nat, f = i := ⟨f.toNat, by omega⟩
    obtain ⟨to, rfl⟩ : ∃ to : Nat, t = to := ⟨t.toNat, by omega⟩
    have hi : i < G.length := by omega
    have hto : to < G.length := by omega
    rw [pathL_nat hi hto]
    have hp : pathN G i to = if i = to then [i] else if (farN G to G.length).getD i 0 = 0 then [] else walkL G i to ++ [to] := rfl
    have cF := far18_any w A c G hg hs to hto
    have cW := fun (W : World) (hW : Below w.heap.size w W) (hf : 1 ≤ (farN G to G.length).getD i 0) => walk18_any W A c G (hg.below hW) hs i to hi hto hf
    have hfb := farN_bound G to G.length i
    have hgt : (farN G to G.length)[i]? = some ((farN G to G.length).getD i 0) := by
      have hl := farN_length G to G.length
      rw [List.getD_eq_getElem?_getD, List.getElem?_eq_getElem (by omega)]
      rfl
    have hwl := fun hf => walkL_len (G := G) (i := i) (to := to) hf
    unfold FarPost at cF
    unfold WalkPost at cW ⊢
    obtain ⟨PL, hPL⟩ : ∃ PL, PL = pathN G i to := ⟨_, rfl⟩
    obtain ⟨WL, hWL⟩ : ∃ WL, WL = walkL G i to := ⟨_, rfl⟩
    obtain ⟨v, hv⟩ : ∃ v, v = (farN G to G.length).getD i 0 := ⟨_, rfl⟩
    obtain ⟨N, hN⟩ : ∃ N, N = G.length := ⟨_, rfl⟩
    have hi0 : (0 : Int) ≤ i := by omega
    have ht0 : (0 : Int) ≤ to := by omega
    have hiN : (i : Int) < N := by omega
    have htN : (to : Int) < N := by omega
    rw [← hPL] at hp ⊢
    rw [← hWL] at hp cW hwl
    rw [← hv] at hp cW hfb hgt hwl
    have hv0 := hfb.1
    have hvN := hfb.2
    rw [← hN] at hn cF cW hgt hvN hwl ⊢
    have HCF := hid2 cF
    have HCW := hid2 cW
    have HP := hid2 hp
    have HGT := hid2 hgt
    have HWL := hid2 hwl
    clear hg hs cF cW hp hfb hgt hwl hPL hWL hv hN hout hi hto
    by_cases hit : i = to
    · subst hit
      have HE := hid2 (show PL = [i] from by rw [HP.out, if_pos rfl])
      have hown := Own.lit w #[.int .i64 (i : Int)] 3 1 1 w.heap.size (Nat.le_refl _) (by decide) rfl
      have HOWN := hid2 hown
      clear hown
      go_enter Try.func21, Try.ntmps21
      go_wp2_with fail
      go_ret
      exact ⟨_, _, by rw [HE.out]; rfl, by rw [HE.out]; exact HOWN.out, (Below.refl _ _).alloc (Nat.le_refl _) _⟩
    · have hit' : ¬ (i : Int) = to := by omega
      have hit2 : ((i : Int) == to) = false := by simp; omega
      by_cases hz : v = 0
      · have HE := hid2 (show PL = [] from by rw [HP.out, if_neg hit, if_pos hz])
        subst hz
        go_enter Try.func21, Try.ntmps21
        go_wp2_with (first | (go_at_call 29; refine HCF.out.mono ?_; rintro e w1 ⟨A1, c1, rfl, ho1, hb1⟩; obtain ⟨b1, o1, rfl, cx⟩ := int_cell ho1.rd HGT.out; have HB1 := hid2 hb1; clear ho1 hb1))
        go_ret
        exact ⟨none, 0, by rw [HE.out]; rfl, by rw [HE.out]; exact Own.nil _ _ _ _, HB1.out⟩
      · have HE := hid2 (show PL = WL ++ [to] from by rw [HP.out, if_neg hit, if_neg hz])
        have HWLL := hid2 (HWL.out (by omega))
        have HV1 := hid2 (show 1 ≤ v by omega)
        have hz2 : (v == 0) = false := by simp [hz]
        obtain ⟨L, hL⟩ : ∃ L, L = WL.length := ⟨_, rfl⟩
        have hLN : L ≤ N := by rw [hL]; exact HWLL.out
        have HL := hid2 hL
        have HCW2 := hid2 (fun (W : World) (hW : Below w.heap.size w W) => (HCW.out W hW HV1.out))
        clear hL hit HCW
        rw [← HL.out] at HCW2
        go_enter Try.func21, Try.ntmps21
        go_wp2_with (first
          | (go_at_call 29; refine HCF.out.mono ?_; rintro e w1 ⟨A1, c1, rfl, ho1, hb1⟩; obtain ⟨b1, o1, rfl, cx⟩ := int_cell ho1.rd HGT.out; have HB1 := hid2 hb1; clear ho1 hb1)
          | (go_at_call 30; refine (HCW2.out w1 HB1.out).mono ?_; rintro e w2 ⟨A2, c2, rfl, ho2, hb2⟩; have hown2 := ho2.alloc (.cells #[.int .i64 (to : Int)] 3); have HO2 := hid2 hown2; have HB2 := hid2 hb2; have hrd := Rd.of_lit w2 #[.int .i64 (to : Int)] 3 1 1 (by decide) rfl; have HRD := hid2 hrd; have HBLK := hid2 ho2.block; have hlws := hb2.size; clear ho2 hb2 hown2 hrd)
          | (at_builtin; go_must ((with_reducible refine wpList_append_lit 3 (.int .i64 0) 1 8 Try.underlying25 info_int1 rfl w1.heap.size A2 L c2 (natV WL) HO2.out 1 _ (.slice (some ⟨w2.heap.size, 0, none⟩) 1 1) (Src.slice Try.underlying25 HRD.out) (by simp [Value.oneCell']) ?_ ?_ ?_ ?_ ?_); (unfold maxLen; omega); omega; (simp; omega); exact ⟨rfl, rfl⟩; intro A3 c3 w3 hown3 hgr3 hbl3; have HO3 := hid2 hown3; have HG3 := hid2 hgr3; clear hown3 hgr3 hbl3)))
        go_ret
        refine ⟨A3, c3, ?_, ?_, ?_⟩
        · rw [HE.out, List.length_append, ← HL.out]; rfl
        · rw [HE.out, List.length_append, natV_snoc, ← HL.out]
          exact HO3.out.mono HB1.out.size
        · have hb12 := HB1.out.trans (HB2.out.mono HB1.out.size)
          exact (hb12.alloc hb12.size _).grown HG3.out (by simp; have := hb12.size; omega) (fun b e => by have := (HBLK.out b e).1; have := HB1.out.size; omega)
end Go.Proofs.Ytccilmnlepekeaa
