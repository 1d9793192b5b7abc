/- The reference's Ring. -/
import Derived.Test.YtccilmnlepekeaaCyc6
namespace Go.Proofs.Ytccilmnlepekeaa
open Go.RowKit
/-- how long the shortest ring through a node is; 0 -/
def selfF (G : List (List Int)) (i : Nat) : Int := (farN G i G.length).getD i 0
def ringStep (G : List (List Int)) (st : Int × Int) (i : Nat) : Int × Int := if 0 < selfF G i ∧ (st.1 < 0 ∨ selfF G i < st.2) then ((i : Int), selfF G i) else st
def ringS (G : List (List Int)) : Nat → Int × Int
  | 0 => (-1, 0)
  | i + 1 => ringStep G (ringS G i) i
/-- the ring -/
def ringL (G : List (List Int)) : List Nat := if (ringS G G.length).1 < 0 then [] else walkL G (ringS G G.length).1.toNat (ringS G G.length).1.toNat
theorem ringS_ok (G : List (List Int)) : ∀ i, ringS G i = (-1, 0) ∨ ∃ b : Nat, b < i ∧ ringS G i = ((b : Int), selfF G b) ∧ 1 ≤ selfF G b
  | 0 => .inl rfl
  | i + 1 => by
    rw [ringS, ringStep]
    split
    · rename_i h
      exact .inr ⟨i, by omega, rfl, by omega⟩
    · rcases ringS_ok G i with h | ⟨b, h1, h2, h3⟩
      · exact .inl h
      · exact .inr ⟨b, by omega, h2, h3⟩
theorem selfF_bound (G : List (List Int)) (i : Nat) : 0 ≤ selfF G i ∧ selfF G i ≤ G.length := farN_bound G i _ i
theorem selfF_get {G : List (List Int)} {i : Nat} (h : i < G.length) : (farN G i G.length)[i]? = some (selfF G i) := by
  have hl := farN_length G i G.length
  rw [selfF, List.getD_eq_getElem?_getD, List.getElem?_eq_getElem (by omega)]
  rfl
set_option maxRecDepth 100000 in
set_option maxHeartbeats 4000000 in
theorem refring_any (w : World) (A : Option Addr) (c : Nat) (G : List (List Int)) (hg : GRd w A G) (hs : Small G) :
    Calls Try.prog 14 #[.slice A G.length c] w fun e w' => WalkPost w (ringL G) e w' := by
  have hn := hs.n
  have cF := fun (W : World) (hW : Below w.heap.size w W) (i : Nat) (hi : i < G.length) => far18_any W A c G (hg.below hW) hs i hi
  have cW := fun (W : World) (hW : Below w.heap.size w W) (i : Nat) (hi : i < G.length) (hf : 1 ≤ selfF G i) => walk18_any W A c G (hg.below hW) hs i i hi hi hf
  unfold FarPost at cF
  unfold WalkPost at cW ⊢
  have hok := ringS_ok G
  have hst : ∀ i, ringS G (i + 1) = ringStep G (ringS G i) i := fun i => rfl
  have hsd : ∀ st i, ringStep G st i = if 0 < selfF G i ∧ (st.1 < 0 ∨ selfF G i < st.2) then ((i : Int), selfF G i) else st := fun st i => rfl
  have hgt := fun (i : Nat) (hi : i < G.length) => selfF_get hi
  have hsb := selfF_bound G
  have hr1 : (ringS G G.length).1 < 0 → ringL G = [] := fun h => by rw [ringL, if_pos h]
  have hr2 : ∀ (b : Nat) (f : Int), ringS G G.length = ((b : Int), f) → ringL G = walkL G b b := fun b f h => by rw [ringL, h, if_neg (by simp), Int.toNat_natCast]
  obtain ⟨N, hN⟩ : ∃ N, N = G.length := ⟨_, rfl⟩
  obtain ⟨RL, hRL⟩ : ∃ RL, RL = ringL G := ⟨_, rfl⟩
  obtain ⟨RS, hRS⟩ : ∃ RS, RS = ringS G := ⟨_, rfl⟩
  obtain ⟨ST, hST⟩ : ∃ ST, ST = ringStep G := ⟨_, rfl⟩
  obtain ⟨SF, hSF⟩ : ∃ SF, SF = selfF G := ⟨_, rfl⟩
  have h0 : RS 0 = (-1, 0) := by rw [hRS]; rfl
  rw [← hRS] at hok hst hr1 hr2
  rw [← hST] at hst hsd
  rw [← hSF] at hsd hgt hsb hok cW
  rw [← hRL] at hr1 hr2 ⊢
  rw [← hN] at hn cF cW hgt hsb hr1 hr2 ⊢
  have HCF := hid2 cF
  have HCW := hid2 cW
  have HOK := hid2 hok
  have HST := hid2 hst
  have HSD := hid2 hsd
  have HGT := hid2 hgt
  have HR1 := hid2 hr1
  have HR2 := hid2 hr2
  have HSB := hid2 hsb
  have H0 := hid2 h0
  clear hg hs cF cW hok hst hsd hgt hsb hr1 hr2 h0 hN hRL hRS hST hSF
  go_enter Try.func14, Try.ntmps14
  go_wp2_with fail
  go_loopg [3, 4, 5, 6, 9] N (fun gk bv fv x5 x6 iv wr => ∃ (i : Nat) (b f : Int), i + gk = N ∧ iv = .int .i64 i ∧ bv = .int .i64 b ∧ fv = .int .i64 f ∧ RS i = (b, f) ∧ Below w.heap.size w wr)
  case atStart => exact ⟨0, -1, 0, by omega, rfl, rfl, rfl, H0.out, Below.refl _ _⟩
  case round =>
    obtain ⟨i, b, f, hi, rfl, rfl, rfl, hrs, hlow⟩ := hrel
    have HRS := hid2 hrs
    have HLOW := hid2 hlow
    clear hrs hlow
    by_cases hiN : i < N
    · have hiN' : (i : Int) < N := by omega
      have hi0 : (0 : Int) ≤ i := by omega
      obtain ⟨v, hv⟩ : ∃ v, v = SF i := ⟨_, rfl⟩
      have hgv := HGT.out i hiN
      have hvb := HSB.out i
      have hs := HST.out i
      rw [HSD.out, HRS.out] at hs
      rw [← hv] at hgv hvb hs
      have hv0 := hvb.1
      have hvN := hvb.2
      have hcf := HCF.out wr HLOW.out i hiN
      have HGV := hid2 hgv
      have HS := hid2 hs
      have HC := hid2 hcf
      clear hgv hs hv hcf hiN hvb
      by_cases h1 : 0 < v
      · by_cases h2 : b < 0
        · have HS2 := hid2 (show RS (i + 1) = ((i : Int), v) from by rw [HS.out, if_pos ⟨h1, .inl h2⟩])
          go_wp2_with (first | (go_at_call 29; refine HC.out.mono ?_; rintro e w1 ⟨A1, c1, rfl, ho1, hb1⟩; obtain ⟨b1, o1, rfl, cx⟩ := int_cell ho1.rd HGV.out; have HB1 := hid2 hb1; clear ho1 hb1))
          go_roundg (gk - 1)
          case rel => exact ⟨i + 1, i, v, by omega, by go_num, rfl, rfl, HS2.out, HLOW.out.trans (HB1.out.mono HLOW.out.size)⟩
          case measure => omega
        · by_cases h3 : v < f
          · have HS2 := hid2 (show RS (i + 1) = ((i : Int), v) from by rw [HS.out, if_pos ⟨h1, .inr h3⟩])
            go_wp2_with (first | (go_at_call 29; refine HC.out.mono ?_; rintro e w1 ⟨A1, c1, rfl, ho1, hb1⟩; obtain ⟨b1, o1, rfl, cx⟩ := int_cell ho1.rd HGV.out; have HB1 := hid2 hb1; clear ho1 hb1))
            go_roundg (gk - 1)
            case rel => exact ⟨i + 1, i, v, by omega, by go_num, rfl, rfl, HS2.out, HLOW.out.trans (HB1.out.mono HLOW.out.size)⟩
            case measure => omega
          · have HS2 := hid2 (show RS (i + 1) = (b, f) from by
              rw [HS.out, if_neg]
              rintro ⟨_, h | h⟩
              · exact h2 h
              · exact h3 h)
            go_wp2_with (first | (go_at_call 29; refine HC.out.mono ?_; rintro e w1 ⟨A1, c1, rfl, ho1, hb1⟩; obtain ⟨b1, o1, rfl, cx⟩ := int_cell ho1.rd HGV.out; have HB1 := hid2 hb1; clear ho1 hb1))
            go_roundg (gk - 1)
            case rel => exact ⟨i + 1, b, f, by omega, by go_num, rfl, rfl, HS2.out, HLOW.out.trans (HB1.out.mono HLOW.out.size)⟩
            case measure => omega
      · have HS2 := hid2 (show RS (i + 1) = (b, f) from by
          rw [HS.out, if_neg]
          rintro ⟨h, _⟩
          exact h1 h)
        go_wp2_with (first | (go_at_call 29; refine HC.out.mono ?_; rintro e w1 ⟨A1, c1, rfl, ho1, hb1⟩; obtain ⟨b1, o1, rfl, cx⟩ := int_cell ho1.rd HGV.out; have HB1 := hid2 hb1; clear ho1 hb1))
        go_roundg (gk - 1)
        case rel => exact ⟨i + 1, b, f, by omega, by go_num, rfl, rfl, HS2.out, HLOW.out.trans (HB1.out.mono HLOW.out.size)⟩
        case measure => omega
    · have hiN2 : i = N := by omega
      have hlt' : ¬ (i : Int) < N := by omega
      rcases HOK.out i with h | ⟨b', hb1, hb2, hb3⟩
      · rw [HRS.out] at h
        obtain ⟨rfl, rfl⟩ : b = -1 ∧ f = 0 := by simpa using h
        have HE := hid2 (HR1.out (by rw [← hiN2, HRS.out]; decide))
        clear hiN2 hiN h
        go_wp2_with fail
        go_ret
        exact ⟨none, 0, by rw [HE.out]; rfl, by rw [HE.out]; exact Own.nil _ _ _ _, HLOW.out⟩
      · rw [HRS.out] at hb2
        obtain ⟨rfl, rfl⟩ : b = (b' : Int) ∧ f = SF b' := by simpa using hb2
        have HE := hid2 (HR2.out b' _ (by rw [← hiN2]; exact HRS.out))
        have hcw := HCW.out wr HLOW.out b' (by omega) hb3
        have HC := hid2 hcw
        have hb0 : ¬ (b' : Int) < 0 := by omega
        clear hcw hiN2 hiN hb2 hb3
        go_wp2_with (first | (go_at_call 30; refine HC.out.mono ?_; rintro e w1 ⟨A1, c1, rfl, ho1, hb1⟩; have HO1 := hid2 ho1; have HB1 := hid2 hb1; clear ho1 hb1))
        go_ret
        exact ⟨A1, c1, by rw [HE.out]; rfl, by rw [HE.out]; exact HO1.out.mono HLOW.out.size, HLOW.out.trans (HB1.out.mono HLOW.out.size)⟩
end Go.Proofs.Ytccilmnlepekeaa
