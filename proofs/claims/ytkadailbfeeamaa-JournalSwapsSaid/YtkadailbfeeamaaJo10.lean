/- The walk of JournalSwaps. -/
import Derived.Test.YtkadailbfeeamaaJo9
import Derived.Test.YtkadailbfeeamaaJo7
namespace Go.Proofs.Ytkadailbfeeamaa
open Go.RowKit Go.Maps
/-- one of the two answers -/
def SomeBool (e : Ending) : Prop := ∃ v, e = .returned (.bool v)
theorem same_some (w : World) (A B : Option Addr) (n m c c' : Nat) (xs ys : List ByteArray) (ha : Rd w 1 A n (xs.map Value.string)) (hb : Rd w 1 B m (ys.map Value.string)) (hmx : n ≤ 8796093022208) :
    Calls Try.prog 25 #[.slice A n c, .slice B m c'] w fun e w' => SomeBool e ∧ Below w.heap.size w w' := by
  have hn : xs.length = n := by have := ha.1; simpa using this
  have hm : ys.length = m := by have := hb.1; simpa using this
  have hmx' : (n : Int) ≤ 8796093022208 := by omega
  by_cases hnm : n = m
  · subst hnm
    go_enter Try.func25, Try.ntmps25
    go_wp2_with fail
    go_loopw [13] (fun i wr => ∃ k m : Nat, k ≤ n ∧ i = .int .i64 k ∧ wr = w.drewN m) (fun i _ => n - (intOf i).toNat)
    case atStart => exact ⟨0, 0, by omega, rfl, rfl⟩
    case round =>
      obtain ⟨k, q, hk, rfl, rfl⟩ := hrel
      by_cases hlt : k < n
      · obtain ⟨b1, o1, rfl, hc1⟩ := ha.cell (j := k) (by simpa [hn] using hlt)
        obtain ⟨b2, o2, rfl, hc2⟩ := hb.cell (j := k) (by simpa [hm] using hlt)
        rw [List.getElem_map] at hc1 hc2
        obtain ⟨s, hs⟩ : ∃ s, s = xs[k]'(by omega) := ⟨_, rfl⟩
        obtain ⟨t, ht⟩ : ∃ t, t = ys[k]'(by omega) := ⟨_, rfl⟩
        rw [← hs] at hc1
        rw [← ht] at hc2
        have hlt' : (k : Int) < n := by omega
        clear hs ht
        go_wp2_with fail
        go_quiet (fail)
        go_wp2_with fail
        all_goals first
          | (go_ret; exact ⟨⟨_, rfl⟩, below_drewN (below_drewN (Below.refl _ _) _) _⟩)
          | (go_ret; exact ⟨⟨_, rfl⟩, below_drewN (Below.refl _ _) _⟩)
          | skip
        go_roundw
        case rel => exact ⟨k + 1, _, by omega, by go_num, rfl⟩
        case measure => simp [intOf]; omega
      · have hlt' : ¬ (k : Int) < n := by omega
        go_wp2_with fail
        go_ret
        exact ⟨⟨_, rfl⟩, below_drewN (Below.refl _ _) _⟩
  · have hnm' : ¬ ((n : Int) = m) := by omega
    go_enter Try.func25, Try.ntmps25
    go_wp2_with fail
    go_ret
    exact ⟨⟨_, rfl⟩, Below.refl _ _⟩
/-- opened, where it is known what is found -/
theorem open_known (w : World) (p b n : Nat) (M : Tab FileE) (h : DiskIs w p b n M (-1)) (hn : n ≤ 800000) (hf : ∀ x ∈ M, x.2.1.length ≤ 1000000) {l : List (List UInt8)} (h0 : (openR M (-1) kLog).1 = 0) (h1 : (openR M (-1) kLog).2.1 = l) :
    Calls Try.prog 33 #[.pointer (some ⟨p, 0, none⟩), .string logS] w fun e w' => ∃ (jv : Value) (A : Option Addr) (c : Nat), e = .returned (.tuple #[jv, .slice A l.length c, .int .i64 0]) ∧ Rd w' 1 A l.length (strV l) ∧ But p b w w' := by
  refine (open_any w p b n _ (-1) h hn (by omega) logS logS_some (by decide) hf).mono ?_
  rintro e w' ⟨jv, A, c, he, ho, _, hb, _⟩
  rw [logS_list] at he ho
  rw [h0, h1] at he
  rw [h1] at ho
  exact ⟨jv, A, c, he, ho.rd, hb⟩
/-- a row of texts, as it is read -/
structure RowOf (w : World) (A : Option Addr) (N : Nat) (ps : List ByteArray) (rs : List (List UInt8)) : Prop where
  rd : Rd w 1 A N (strV rs)
  len : rs.length = N
  small : ∀ r ∈ rs, r.length ≤ 100
  few : N ≤ 12
  at_ : ∀ (k : Nat) (s : ByteArray), ps[k]? = some s → s.size ≤ 100 ∧ rs[k]? = some s.data.toList
theorem row_of {w : World} {A : Option Addr} {N : Nat} {ps : List ByteArray} (hr : Rd w 1 A N (ps.map Value.string)) (h : (∀ x ∈ ps, x.size ≤ 100) ∧ ps.length ≤ 12) :
    ∃ rs, RowOf w A N ps rs ∧ rs = ps.map (fun s => s.data.toList) := by
  have hn : ps.length = N := by have := hr.1; simpa using this
  refine ⟨_, ⟨?_, by rw [List.length_map, hn], ?_, by omega, ?_⟩, rfl⟩
  · rw [strV, List.map_map]
    have e : (ps.map ((fun r => Value.string (strB r)) ∘ fun s => s.data.toList)) = ps.map Value.string := List.map_congr_left fun s _ => by simp only [Function.comp_apply, strB_of]
    rw [e]
    exact hr
  · intro r hr
    obtain ⟨s, hs, rfl⟩ := List.mem_map.1 hr
    rw [toList_length]
    exact h.1 s hs
  · intro k s hk
    refine ⟨h.1 s (List.mem_of_getElem? hk), ?_⟩
    rw [List.getElem?_map, hk]
    rfl
theorem strV_rd {w : World} {A : Option Addr} {n : Nat} {rs : List (List UInt8)} (h : Rd w 1 A n (strV rs)) : Rd w 1 A n ((rs.map strB).map Value.string) := by
  rw [strV_map] at h
  exact h
/-- between two rounds of JournalSwaps -/
structure SwapAt (w : World) (j p b : Nat) (rs : List (List UInt8)) (k : Nat) (wr : World) : Prop where
  below : Below w.heap.size w wr
  jis : JIs wr j p logS false
  disk : DiskIs wr p b (2 * k + 5) (stT rs k) (-1)
theorem add_free {rs : List (List UInt8)} {k : Nat} {r : List UInt8} (hr : rs[k]? = some r) : addR (stT rs k) (-1) kLog (frameL r) = (0, stT rs (k + 1), -1) := by
  rcases add_step hr (show (-1 : Int) ≤ -1 by decide) with ⟨h1, h2, _, _, h5⟩ | ⟨h, _⟩
  · exact Prod.ext h1 (Prod.ext h2 (h5 rfl))
  · exact absurd rfl h
set_option maxRecDepth 100000 in
set_option maxHeartbeats 2000000 in
theorem JournalSwaps_walk (w : World) (A0 : Option Addr) (N c0 : Nat) (ps : List ByteArray) (hr : Rd w 1 A0 N (ps.map Value.string)) (hmx : N ≤ 8796093022208) (A1 : Option Addr) (K c1 : Nat) (us : List ByteArray) (hu : Rd w 1 A1 K (us.map Value.string)) (hmy : K ≤ 8796093022208) (a : Nat) (ha : a ≤ 255) (A2 : Option Addr) (c2 : Nat) (qs : List Int) (hq : Rd w 1 A2 qs.length (intV qs)) (hqc : qs.length ≤ c2) :
    Calls Try.prog 12 #[.slice A0 N c0, .slice A1 K c1, .int .u8 a, .slice A2 qs.length c2] w fun e w' => e = .returned (.bool true) ∧ Below w.heap.size w w' := by
  obtain ⟨Q, hQ⟩ : ∃ Q, Q = qs.length := ⟨_, rfl⟩
  rw [← hQ] at hqc ⊢
  have hmx' : (N : Int) ≤ 8796093022208 := by omega
  have hmy' : (K : Int) ≤ 8796093022208 := by omega
  have hgr := jgreat_any w A0 N c0 ps hr hmx
  have hgu := fun (W : World) (hb : Below w.heap.size w W) => jgreat_any W A1 K c1 us (hu.below_all hb) hmy
  have HGR := hid2 hgr
  have HGU := hid2 hgu
  have HR := hid2 hr
  have HU := hid2 hu
  have HQ := hid2 hq
  have HQQ := hid2 hQ
  have hB0 := Below.refl w.heap.size w
  clear hgr hgu hr hu hq hQ
  go_enter Try.func12, Try.ntmps12
  go_upto_region 3 with (first
    | (go_at_call 26; (with_reducible refine HGR.out.mono ?_); rintro e w1 ⟨g, rfl, hg, hb1⟩; have HG := hid2 hg; have HB := hid2 hb1; clear hg hb1)
    | (go_at_call 26; refine (HGU.out _ HB.out).mono ?_; rintro e w2 ⟨g2, rfl, hg2, hb2⟩; have HG2 := hid2 hg2; have HB2 := hid2 (HB.out.trans (hb2.mono HB.out.size)); clear hg2 hb2)
    | (go_at_call 13; refine (jfixed_any _).mono ?_; rintro e wf ⟨rfl, hbf⟩))
  all_goals first
    | (go_ret; exact ⟨rfl, HB.out.trans (hbf.mono HB.out.size)⟩)
    | (go_ret; exact ⟨rfl, HB2.out.trans (hbf.mono HB2.out.size)⟩)
    | skip
  have hg0 : g = false := by
    have h : ¬ g = true := by assumption
    simpa using h
  have hg20 : g2 = false := by
    have h : ¬ g2 = true := by assumption
    simpa using h
  have hq10 : (Q : Int) ≤ 10 := by assumption
  obtain ⟨rs, hrs, _⟩ := row_of HR.out (HG.out hg0)
  obtain ⟨ns, hns, _⟩ := row_of HU.out (HG2.out hg20)
  have hus := (HG2.out hg20).1
  have hN12 := hrs.few
  have hK12 := hns.few
  have HRS := hid2 hrs
  have HNS := hid2 hns
  have HNU : Hid2 (ns = us.map (fun s => s.data.toList)) := hid2 (by assumption)
  have HUS := hid2 hus
  clear hrs hns hus HG HG2 hg0 hg20 HGR HGU HB
  go_wp2_with (first
    | (go_at_call 32; refine (new_any _).mono ?_; rintro e w3 ⟨rfl, hd3, hb3, hz3⟩; obtain ⟨p, hp⟩ : ∃ p, p = w2.heap.size + 1 := ⟨_, rfl⟩; obtain ⟨b, hb⟩ : ∃ b, b = w2.heap.size := ⟨_, rfl⟩; rw [← hp, ← hb] at hd3; rw [← hp]; have hbz := HB2.out.size; have hp1 : w.heap.size ≤ p := (by omega); have hb1' : w.heap.size ≤ b := (by omega); have HB3 := hid2 (HB2.out.trans (hb3.mono hbz)); have HD3 := hid2 hd3; clear hp hb hz3 hb3 hbz hd3)
    | (go_at_call 33; refine (open_new _ p b 0 HD3.out (by omega)).mono ?_; rintro e w4 ⟨j, A3, c3, rfl, hd4, hb4, hj4, hjg⟩; have HD4 := hid2 hd4; have hbz := HB3.out.size; have hjg' : w.heap.size ≤ j := (by omega); have HB4 := hid2 (hb4.below HB3.out hbz hp1 hb1'); have HJ4 := hid2 hj4; have hne := hj4.ne hd4; clear hd4 hb4 hj4 hbz hjg))
  have hj4 := HJ4.out
  have hd4 := HD4.out
  have hb4 := HB4.out
  clear HB2 HB3 HD3 HD4 HB4 HJ4
  go_loopg [13] N (fun gk i wr => ∃ k : Nat, k + gk = N ∧ i = .int .i64 k ∧ SwapAt w j p b rs k wr)
  case atStart => exact ⟨0, by omega, rfl, hb4, hj4, (show DiskIs _ p b (2 * 0 + 5) [] _ from hd4.mono (by omega))⟩
  case round =>
    clear hj4 hd4 hb4
    obtain ⟨k, hk, rfl, hS⟩ := hrel
    by_cases hlt : k < N
    · have hlt' : (k : Int) < N := by omega
      have hHw := hS.below.size
      have hrr := HR.out.below_all hS.below
      have hlps : ps.length = N := by have := HR.out.1; simpa using this
      obtain ⟨bb, o, rfl, hcell⟩ := hrr.cell (j := k) (by rw [List.length_map, hlps]; exact hlt)
      rw [List.getElem_map] at hcell
      have hsk : ps[k]? = some (ps[k]'(by rw [hlps]; exact hlt)) := List.getElem?_eq_getElem _
      obtain ⟨s, hs⟩ : ∃ s, s = ps[k]'(by rw [hlps]; exact hlt) := ⟨_, rfl⟩
      rw [← hs] at hcell hsk
      obtain ⟨hs100, hrk⟩ := HRS.out.at_ k s hsk
      have hadd := add_any wr j p b (2 * k + 5) logS (stT rs k) (-1) hS.jis hS.disk (by omega) ⟨by omega, by omega⟩ (by decide) s (by omega) (stT_file HRS.out.small (by rw [HRS.out.len]; exact hN12) k _)
      rw [logS_list, add_free hrk] at hadd
      have HSB := hid2 hS.below
      have HADD := hid2 hadd
      clear hs hsk hrr hrk hS hadd hlps
      go_wp2_with (go_at_call 35; refine HADD.out.mono ?_; rintro e w5 ⟨rfl, hd5, hj5, hb5⟩; have HD5 := hid2 hd5; have HJ5 : Hid2 (JIs w5 j p logS false) := hid2 hj5; have HB5 := hid2 (hb5.below HSB.out hHw hjg' hp1 hb1'); clear hd5 hj5 hb5)
      go_roundg (gk - 1)
      case rel => exact ⟨k + 1, by omega, by go_num, HB5.out, HJ5.out, HD5.out.mono (by omega)⟩
      case measure => omega
    · have hkN : k = N := by omega
      have hlt' : ¬ (k : Int) < N := by omega
      have hkl : k = rs.length := by rw [HRS.out.len]; exact hkN
      have hdk := hS.disk
      rw [hkl] at hdk
      have h0 := stT_stood rs
      have hfw := framesL_le HRS.out.small
      have hfn := framesL_le HNS.out.small
      rw [HRS.out.len] at hfw
      rw [HNS.out.len] at hfn
      obtain ⟨M0, hM0⟩ : ∃ M0, M0 = stT rs rs.length := ⟨_, rfl⟩
      rw [← hM0] at hdk h0
      have hall0 : ∀ x ∈ M0, x.2.1.length ≤ 1000000 := by
        intro x hx
        rcases h0 with ⟨rfl, _⟩ | rfl
        · cases hx
        · rw [logT, List.mem_singleton] at hx
          subst hx
          show (framesL rs).length ≤ 1000000
          omega
      obtain ⟨L, hL⟩ : ∃ L : Int, L = (a : Int) % 6 := ⟨_, rfl⟩
      have hL0 : 0 ≤ L := by omega
      have hL5 : L ≤ 5 := by omega
      have hend := swap_end h0 hL0 ns
      have hsw := fun (W : World) (hj : JIs W j p logS false) (hd : DiskIs W p b (2 * rs.length + 5) M0 L) (hu : Rd W 1 A1 K (us.map Value.string)) => swap_any W j p b _ logS M0 L hj hd (by rw [HRS.out.len]; omega) ⟨by omega, by omega⟩ (by decide) hall0 A1 K c1 us hu (by omega) HUS.out
      rw [logS_list, ← HNU.out] at hsw
      obtain ⟨r, hr⟩ : ∃ r, r = swapR M0 L kLog ns := ⟨_, rfl⟩
      rw [← hr] at hend hsw
      clear hr
      obtain ⟨E, T, L2⟩ := r
      simp only at hend
      unfold WPost at hsw
      simp only at hsw
      have hal := EndW.all h0 hend (by omega) (by omega)
      obtain ⟨ho0, ho1⟩ := swap_open (fun r hr => Nat.le_trans (HRS.out.small r hr) (by decide)) (fun r hr => Nat.le_trans (HNS.out.small r hr) (by decide)) h0 hend qs
      have hrl12 : rs.length ≤ 12 := by rw [HRS.out.len]; exact hN12
      have HALL := hid2 hal
      have HO0 := hid2 ho0
      have HSW := hid2 hsw
      have HJS := hid2 hS.jis
      have HDK := hid2 hdk
      have HSB := hid2 hS.below
      have hHw := hS.below.size
      clear hal ho0 hsw hend h0 hM0 hdk hS hkl hfw hfn hall0
      rcases ho1 with ho1 | ⟨hE, ho1⟩
      · have HO1 := hid2 ho1
        clear ho1
        go_wp2_with (first
          | (go_at_call 34; rw [← hL]; refine (budget_any _ p b _ _ (-1) L HDK.out).mono ?_; rw [if_pos (show -1 ≤ L by omega)]; rintro e w5 ⟨rfl, hd5, hb5, _⟩; have HD5 := hid2 hd5; have HJ5 := hid2 (HJS.out.keep (hb5.block j HJS.out.lt hne.1 hne.2)); have HB5 := hid2 (hb5.below HSB.out hHw hp1 hb1'); clear hd5 hb5)
          | (go_at_call 37; refine (HSW.out _ HJ5.out HD5.out (HU.out.below_all HB5.out)).mono ?_; rintro e w5b ⟨rfl, hd5, hj5, hb5⟩; have HDX := hid2 hd5; have HBX := hid2 (hb5.below HB5.out HB5.out.size hjg' hp1 hb1'); clear hd5 hj5 hb5)
          | (go_at_call 36; have hcr := crash_any _ p b _ _ _ HDX.out (by omega) (fun x hx => ⟨(HALL.out.1 x hx).1, Nat.le_trans (HALL.out.1 x hx).2.1 (by decide), (HALL.out.1 x hx).2.2⟩) A2 c2 qs (HQ.out.below_all HBX.out) (by rw [← HQQ.out]; exact hqc) (by rw [← HQQ.out]; omega); rw [← HQQ.out] at hcr; refine hcr.mono ?_; clear hcr; rintro e w6 ⟨p2, b2, rfl, hd6, hp6, hb6', hb6⟩; have HD6 := hid2 hd6; have hbz := HBX.out.size; have HB6 := hid2 (HBX.out.trans (hb6.mono hbz)); have hp2 : w.heap.size ≤ p2 := (by omega); have hb2 : w.heap.size ≤ b2 := (by omega); clear hd6 hb6 hp6 hb6' hbz)
          | (go_at_call 33; refine (open_known _ p2 b2 _ _ HD6.out HALL.out.2 (crash_all HALL.out.1 qs) HO0.out HO1.out).mono ?_; rintro e w7 ⟨jv, A7, c7, rfl, ho7, hb7⟩; rw [HNS.out.len] at ho7 ⊢; have HB7 := hid2 (hb7.below HB6.out HB6.out.size hp2 hb2); have HO7 := hid2 ho7; clear hb7 ho7)
          | (go_at_call 25; refine (same_any _ A7 A1 K _ _ (ns.map strB) (strV_rd HO7.out) (strV_rd (HNS.out.rd.below_all HB7.out)) hmy).mono ?_; rintro e w8 ⟨rfl, hb8⟩; have HB8 := hid2 (HB7.out.trans (hb8.mono HB7.out.size)); clear hb8)
          | (go_at_call 13; refine (jfixed_any _).mono ?_; rintro e wf ⟨rfl, hbf⟩; have HBF := hid2 (HB8.out.trans (hbf.mono HB8.out.size)); clear hbf))
        all_goals (go_ret; exact ⟨rfl, HBF.out⟩)
      · have HO1 := hid2 ho1
        have hE' : (E == 0) = false := by simpa using hE
        have hE2 : (E != 0) = true := by simpa using hE
        clear ho1
        go_wp2_with (first
          | (go_at_call 34; rw [← hL]; refine (budget_any _ p b _ _ (-1) L HDK.out).mono ?_; rw [if_pos (show -1 ≤ L by omega)]; rintro e w5 ⟨rfl, hd5, hb5, _⟩; have HD5 := hid2 hd5; have HJ5 := hid2 (HJS.out.keep (hb5.block j HJS.out.lt hne.1 hne.2)); have HB5 := hid2 (hb5.below HSB.out hHw hp1 hb1'); clear hd5 hb5)
          | (go_at_call 37; refine (HSW.out _ HJ5.out HD5.out (HU.out.below_all HB5.out)).mono ?_; rintro e w5b ⟨rfl, hd5, hj5, hb5⟩; have HDX := hid2 hd5; have HBX := hid2 (hb5.below HB5.out HB5.out.size hjg' hp1 hb1'); clear hd5 hj5 hb5)
          | (go_at_call 36; have hcr := crash_any _ p b _ _ _ HDX.out (by omega) (fun x hx => ⟨(HALL.out.1 x hx).1, Nat.le_trans (HALL.out.1 x hx).2.1 (by decide), (HALL.out.1 x hx).2.2⟩) A2 c2 qs (HQ.out.below_all HBX.out) (by rw [← HQQ.out]; exact hqc) (by rw [← HQQ.out]; omega); rw [← HQQ.out] at hcr; refine hcr.mono ?_; clear hcr; rintro e w6 ⟨p2, b2, rfl, hd6, hp6, hb6', hb6⟩; have HD6 := hid2 hd6; have hbz := HBX.out.size; have HB6 := hid2 (HBX.out.trans (hb6.mono hbz)); have hp2 : w.heap.size ≤ p2 := (by omega); have hb2 : w.heap.size ≤ b2 := (by omega); clear hd6 hb6 hp6 hb6' hbz)
          | (go_at_call 33; refine (open_known _ p2 b2 _ _ HD6.out HALL.out.2 (crash_all HALL.out.1 qs) HO0.out HO1.out).mono ?_; rintro e w7 ⟨jv, A7, c7, rfl, ho7, hb7⟩; rw [HRS.out.len] at ho7 ⊢; have HB7 := hid2 (hb7.below HB6.out HB6.out.size hp2 hb2); have HO7 := hid2 ho7; clear hb7 ho7)
          | (go_at_call 25; have hsm := same_some w7 A7 A1 N K c7 c1 (rs.map strB) (ns.map strB) (strV_rd HO7.out) (strV_rd (HNS.out.rd.below_all HB7.out)) hmx; (with_reducible refine hsm.mono ?_); clear hsm; rintro e w8 ⟨⟨v, rfl⟩, hb8⟩; have HB8 := hid2 (HB7.out.trans (hb8.mono HB7.out.size)); have HW8 := hid2 hb8; clear hb8)
          | (go_at_call 25; refine (same_any _ A7 _ N _ _ (rs.map strB) (strV_rd (HO7.out.below_all (HW8.out))) (strV_rd (HRS.out.rd.below_all HB8.out)) hmx).mono ?_; rintro e w9 ⟨rfl, hb9⟩; have HB8 := hid2 (HB8.out.trans (hb9.mono HB8.out.size)); clear hb9)
          | (go_at_call 13; refine (jfixed_any _).mono ?_; rintro e wf ⟨rfl, hbf⟩; have HBF := hid2 (HB8.out.trans (hbf.mono HB8.out.size)); clear hbf))
        all_goals (go_ret; exact ⟨rfl, HBF.out⟩)
end Go.Proofs.Ytkadailbfeeamaa
