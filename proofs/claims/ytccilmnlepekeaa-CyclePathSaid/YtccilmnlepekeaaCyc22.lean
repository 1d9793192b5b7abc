/- The walk of the law CycleOrders. -/
import Derived.Test.YtccilmnlepekeaaCyc21
import Derived.Test.YtccilmnlepekeaaCyr2
namespace Go.Proofs.Ytccilmnlepekeaa
open Go.RowKit
theorem natV_eq {a b : List Nat} : ((a.map fun (x : Nat) => (x : Int)) == (b.map fun (x : Nat) => (x : Int))) = (a == b) := by
  rw [Bool.eq_iff_iff, beq_iff_eq, beq_iff_eq]
  constructor
  · intro h
    exact List.map_inj_right (fun x y e => by omega) |>.1 h
  · rintro rfl
    rfl
/-- the same row, read twice -/
theorem same_nat (w : World) (A B : Option Addr) (c1 c2 : Nat) (xs : List Nat) (hx : Rd w 1 A xs.length (natV xs)) (hy : Rd w 1 B xs.length (natV xs)) (hl : xs.length ≤ 1000000000) :
    Calls Try.prog 12 #[.slice A xs.length c1, .slice B xs.length c2] w fun e w' => e = .returned (.bool true) ∧ Below w.heap.size w w' := by
  have h := same18_any w A B c1 c2 (xs.map fun (x : Nat) => (x : Int)) (xs.map fun (x : Nat) => (x : Int)) (by rw [List.length_map]; exact hx) (by rw [List.length_map]; exact hy) (by rw [List.length_map]; exact hl) (by rw [List.length_map]; exact hl)
  rw [List.length_map] at h
  refine h.mono ?_
  rintro e w' ⟨rfl, hb⟩
  exact ⟨by simp, hb⟩
theorem ordG_len {G : List (List Int)} {l : List Nat} (h : ordG G = some l) : l.length = G.length := by
  rw [ordG] at h
  obtain ⟨p, h1, rfl⟩ := Option.map_eq_some_iff.1 h
  exact (ordS_some (out := p.1) (th := p.2) h1).1
theorem ringL_len (G : List (List Int)) : (ringL G).length ≤ G.length := by
  rw [← ringP_all]
  exact ringP_len G _ (Nat.le_refl _)
theorem ord_some {w w' : World} {G : List (List Int)} {e : Ending} {l : List Nat} (ho : ordG G = some l) (h : OrdPost w G e w') : ∃ (A' : Option Addr) (c' : Nat), e = .returned (.tuple #[.slice A' l.length c', .bool true]) ∧ Rd w' 1 A' l.length (natV l) ∧ Below w.heap.size w w' := by
  rcases h with ⟨l', A', c', h1, h2, h3, h4⟩ | ⟨h1, _⟩
  · rw [ho] at h1
    cases h1
    exact ⟨A', c', h2, h3.rd, h4⟩
  · rw [ho] at h1
    cases h1
theorem ord_none {w w' : World} {G : List (List Int)} {e : Ending} (ho : ordG G = none) (h : OrdPost w G e w') : e = .returned (.tuple #[.slice none 0 0, .bool false]) ∧ Below w.heap.size w w' := by
  rcases h with ⟨l', A', c', h1, h2, h3, h4⟩ | ⟨_, h1, h2⟩
  · rw [ho] at h1
    cases h1
  · exact ⟨h1, h2⟩
set_option maxRecDepth 100000 in
set_option maxHeartbeats 2000000 in
theorem cycleOrders_walk (w : World) (A : Option Addr) (c : Nat) (G : List (List Int)) (hg : GRd w A G) (hl : G.length ≤ 8796093022208) (hr : ∀ (i : Nat) (row : List Int), G[i]? = some row → row.length ≤ 140737488355328) :
    Calls Try.prog 3 #[.slice A G.length c] w fun e w' => e = .returned (.bool true) ∧ Below w.heap.size w w' := by
  have cA := cycalive_any w
  have cG := fun (W : World) (hW : Below w.heap.size w W) => great18_any W A c G (hg.below hW) hl hr
  unfold G18Post at cG
  have cO := fun (hs : Small G) (W : World) (hW : Below w.heap.size w W) => corder_any W A c G (hg.below hW) hs
  have cP := fun (hs : Small G) (W : World) (hW : Below w.heap.size w W) => reforder18_any W A c G (hg.below hW) hs
  have cR := fun (hs : Small G) (W : World) (hW : Below w.heap.size w W) => cring_any W A c G (hg.below hW) hs
  have cQ := fun (hs : Small G) (W : World) (hW : Below w.heap.size w W) => refring_any W A c G (hg.below hW) hs
  unfold WalkPost at cR cQ
  have cS := fun (W : World) (A B : Option Addr) (c1 c2 : Nat) (xs : List Nat) (hx : Rd W 1 A xs.length (natV xs)) (hy : Rd W 1 B xs.length (natV xs)) (hl : xs.length ≤ 1000000000) => same_nat W A B c1 c2 xs hx hy hl
  have hrl := ringL_len G
  obtain ⟨RL, hRL⟩ : ∃ RL, RL = ringL G := ⟨_, rfl⟩
  rw [← hRL] at cR cQ hrl
  obtain ⟨R, hR⟩ : ∃ R, R = RL.length := ⟨_, rfl⟩
  have hrs : Small G → RL.length ≤ 1000000000 := fun hs => by have := hs.n; omega
  have HCA := hid2 cA
  have HCG := hid2 cG
  have HCO := hid2 cO
  have HCP := hid2 cP
  have HCR := hid2 cR
  have HCQ := hid2 cQ
  have HCS := hid2 cS
  have HRS := hid2 hrs
  have HOL := hid2 (fun (hs : Small G) (l : List Nat) (h : ordG G = some l) => show l.length ≤ 1000000000 by have := hs.n; have := ordG_len h; omega)
  obtain ⟨N, hN⟩ : ∃ N, N = G.length := ⟨_, rfl⟩
  rw [← hN] at HCG HCO HCP HCR HCQ ⊢
  clear cA cG cO cP cR cQ cS hrs hrl hRL hR hN hg hl hr
  go_enter Try.func3, Try.ntmps3
  go_wp2_with (first
    | (go_at_call 8; refine HCA.out.mono ?_; rintro e w1 ⟨rfl, hb1⟩; have HB1 := hid2 hb1; clear hb1)
    | (go_at_call 9; refine (HCG.out w1 HB1.out).mono ?_; rintro e w2 ⟨v, rfl, hsm, rfl⟩; have HSM := hid2 hsm; clear hsm))
  · go_ret
    exact ⟨rfl, HB1.out⟩
  · have hv : v = false := by assumption
    have hs := HSM.out hv
    have HO := hid2 (HCO.out hs)
    have HP := hid2 (HCP.out hs)
    have HR := hid2 (HCR.out hs)
    have HQ := hid2 (HCQ.out hs)
    have HRR := hid2 (HRS.out hs)
    have HLL := hid2 (HOL.out hs)
    have HS1 := hid2 HCS.out
    have HS2 := hid2 HCS.out
    clear hs HSM hv HCO HCP HCR HCQ HRS HOL HCG HCS
    cases ho : ordG G with
    | some l =>
      have HO1 := hid2 (fun (W : World) (hW : Below w.heap.size w W) => (HO.out W hW).mono fun e w' h => ord_some ho h)
      have HP1 := hid2 (fun (W : World) (hW : Below w.heap.size w W) => (HP.out W hW).mono fun e w' h => ord_some ho h)
      have HL1 := hid2 (HLL.out l ho)
      clear HO HP HLL ho
      go_wp2_with (first
        | (go_at_call 10; refine (HO1.out _ HB1.out).mono ?_; rintro e w2 ⟨A2, c2, rfl, hr2, hb2⟩; have HR2 := hid2 hr2; have HB2 := hid2 (HB1.out.trans (hb2.mono HB1.out.size)); clear hr2 hb2)
        | (go_at_call 11; refine (HP1.out _ HB2.out).mono ?_; rintro e w3 ⟨A3, c3, rfl, hr3, hb3⟩; have HR3 := hid2 hr3; have HR2 := hid2 (HR2.out.below_all hb3); have HB3 := hid2 (HB2.out.trans (hb3.mono HB2.out.size)); clear hr3 hb3)
        | (go_at_call 12; refine (HS1.out w3 A2 A3 c2 c3 l HR2.out HR3.out HL1.out).mono ?_; clear HS1; rintro e w4 ⟨rfl, hb4⟩; have HB4 := hid2 (HB3.out.trans (hb4.mono HB3.out.size)); clear hb4)
        | (go_at_call 13; refine (HR.out _ HB4.out).mono ?_; rintro e w5 ⟨A5, c5, rfl, hr5, hb5⟩; have HR5 := hid2 hr5.rd; have HB5 := hid2 (HB4.out.trans (hb5.mono HB4.out.size)); clear hr5 hb5)
        | (go_at_call 14; refine (HQ.out _ HB5.out).mono ?_; rintro e w6 ⟨A6, c6, rfl, hr6, hb6⟩; have HR6 := hid2 hr6.rd; have HR5 := hid2 (HR5.out.below_all hb6); have HB6 := hid2 (HB5.out.trans (hb6.mono HB5.out.size)); clear hr6 hb6)
        | (go_at_call 12; refine (HS2.out w6 A5 A6 c5 c6 RL HR5.out HR6.out HRR.out).mono ?_; clear HS2; rintro e w7 ⟨rfl, hb7⟩; have HB7 := hid2 (HB6.out.trans (hb7.mono HB6.out.size)); clear hb7))
      go_ret
      exact ⟨rfl, HB7.out⟩
    | none =>
      have HO1 := hid2 (fun (W : World) (hW : Below w.heap.size w W) => (HO.out W hW).mono fun e w' h => ord_none ho h)
      have HP1 := hid2 (fun (W : World) (hW : Below w.heap.size w W) => (HP.out W hW).mono fun e w' h => ord_none ho h)
      clear HO HP HLL ho
      have HS0 := hid2 (fun (W : World) => HS1.out W none none 0 0 [] (Rd.none_ _ _ _) (Rd.none_ _ _ _) (by simp))
      clear HS1
      go_wp2_with (first
        | (go_at_call 10; refine (HO1.out _ HB1.out).mono ?_; rintro e w2 ⟨rfl, hb2⟩; have HB2 := hid2 (HB1.out.trans (hb2.mono HB1.out.size)); clear hb2)
        | (go_at_call 11; refine (HP1.out _ HB2.out).mono ?_; rintro e w3 ⟨rfl, hb3⟩; have HB3 := hid2 (HB2.out.trans (hb3.mono HB2.out.size)); clear hb3)
        | (go_at_call 12; refine (HS0.out w3).mono ?_; clear HS0; rintro e w4 ⟨rfl, hb4⟩; have HB4 := hid2 (HB3.out.trans (hb4.mono HB3.out.size)); clear hb4)
        | (go_at_call 13; refine (HR.out _ HB4.out).mono ?_; rintro e w5 ⟨A5, c5, rfl, hr5, hb5⟩; have HR5 := hid2 hr5.rd; have HB5 := hid2 (HB4.out.trans (hb5.mono HB4.out.size)); clear hr5 hb5)
        | (go_at_call 14; refine (HQ.out _ HB5.out).mono ?_; rintro e w6 ⟨A6, c6, rfl, hr6, hb6⟩; have HR6 := hid2 hr6.rd; have HR5 := hid2 (HR5.out.below_all hb6); have HB6 := hid2 (HB5.out.trans (hb6.mono HB5.out.size)); clear hr6 hb6)
        | (go_at_call 12; refine (HS2.out w6 A5 A6 c5 c6 RL HR5.out HR6.out HRR.out).mono ?_; clear HS2; rintro e w7 ⟨rfl, hb7⟩; have HB7 := hid2 (HB6.out.trans (hb7.mono HB6.out.size)); clear hb7))
      go_ret
      exact ⟨rfl, HB7.out⟩
end Go.Proofs.Ytccilmnlepekeaa
