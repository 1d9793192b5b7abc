/- The walk of JournalSure. -/
import Derived.Test.YtkadailbfeeamaaJo6
import Derived.Test.YtkadailbfeeamaaJp8
namespace Go.Proofs.Ytkadailbfeeamaa
open Go.RowKit Go.Maps
abbrev logS : ByteArray := ⟨#[108, 111, 103]⟩
theorem logS_list : logS.data.toList = kLog := rfl
theorem logS_some : logS.toList.isEmpty = false := by
  cases h : logS.toList.isEmpty with
  | false => rfl
  | true =>
    rw [List.isEmpty_iff, ByteArray.toList_eq] at h
    cases h
theorem open_new (w : World) (p b n : Nat) (h : DiskIs w p b n [] (-1)) (hn : n ≤ 800000) :
    Calls Try.prog 33 #[.pointer (some ⟨p, 0, none⟩), .string logS] w fun e w' => ∃ (j : Nat) (A : Option Addr) (c : Nat), e = .returned (.tuple #[.pointer (some ⟨j, 0, none⟩), .slice A 0 c, .int .i64 0]) ∧ DiskIs w' p b (n + 3) [] (-1) ∧ But p b w w' ∧ JIs w' j p logS false ∧ w.heap.size ≤ j := by
  refine (open_any w p b n [] (-1) h hn (by omega) logS logS_some (by decide) (by simp)).mono ?_
  rintro e w' ⟨jv, A, c, he, _, hd, hb, hj, _⟩
  obtain ⟨j, rfl, hj2, hjg⟩ := hj rfl
  exact ⟨j, A, c, he, hd, hb, hj2, hjg⟩
/-- between two rounds of JournalSure -/
structure SureAt (w : World) (j p b : Nat) (rs : List (List UInt8)) (k : Nat) (wr : World) : Prop where
  below : Below w.heap.size w wr
  jis : JIs wr j p logS false
  disk : ∃ left, DiskIs wr p b (2 * k + 5) (stT rs k) left ∧ -1 ≤ left ∧ left ≤ 1000
theorem stT_len {rs : List (List UInt8)} (hrs : ∀ r ∈ rs, r.length ≤ 100) (hl : rs.length ≤ 12) (k : Nat) : (framesL (rs.take k)).length ≤ 1344 := by
  have h : ∀ l : List (List UInt8), (∀ r ∈ l, r.length ≤ 100) → (framesL l).length ≤ 112 * l.length := by
    intro l
    induction l with
    | nil => intro _; simp [framesL]
    | cons r l ih =>
      intro hl
      have h1 := ih (fun x hx => hl x (List.mem_cons_of_mem _ hx))
      have h2 := hl r (List.mem_cons_self ..)
      simp only [framesL, List.length_append, frameL_length, List.length_cons]
      omega
  have := h (rs.take k) (fun r hr => hrs r (List.mem_of_mem_take hr))
  rw [List.length_take] at this
  omega
theorem stT_file {rs : List (List UInt8)} (hrs : ∀ r ∈ rs, r.length ≤ 100) (hl : rs.length ≤ 12) (k : Nat) (nm : List UInt8) : (fileOf (stT rs k) nm).1.length ≤ 100000000 := by
  have h := stT_len hrs hl k
  unfold stT
  split
  · exact Nat.zero_le _
  · unfold fileOf getM logT
    simp only [List.find?_cons, List.find?_nil]
    split
    · exact Nat.le_trans h (by decide)
    · exact Nat.zero_le _
theorem logT_all {d : List UInt8} {s B : Nat} (h : d.length ≤ B) : ∀ x ∈ logT d s, x.2.1.length ≤ B := by
  intro x hx
  rw [logT, List.mem_singleton] at hx
  subst hx
  exact h
theorem EndS.all {rs : List (List UInt8)} (hrs : ∀ r ∈ rs, r.length ≤ 100) (hl : rs.length ≤ 12) {k : Nat} {M : Tab FileE} (h : EndS rs k M) : ∀ x ∈ M, x.1.length ≤ 1000000000 ∧ x.2.1.length ≤ 1000000 ∧ x.2.2 ≤ x.2.1.length := by
  have hs := stT_len hrs hl k
  intro x hx
  rcases h with rfl | ⟨r, hr, rfl⟩
  · unfold stT at hx
    split at hx
    · cases hx
    · rw [logT, List.mem_singleton] at hx
      subst hx
      exact ⟨(show (3 : Nat) ≤ 1000000000 by decide), by simp only; omega, Nat.le_refl _⟩
  · have h2 := hrs r (List.mem_of_getElem? hr)
    rw [logT, List.mem_singleton] at hx
    subst hx
    refine ⟨(show (3 : Nat) ≤ 1000000000 by decide), ?_, ?_⟩ <;> simp only [List.length_append, frameL_length] <;> omega
theorem crash_all {M : Tab FileE} (h : ∀ x ∈ M, x.1.length ≤ 1000000000 ∧ x.2.1.length ≤ 1000000 ∧ x.2.2 ≤ x.2.1.length) (ps : List Int) : ∀ x ∈ (crashP M ps).1, x.2.1.length ≤ 1000000 := by
  have key : ∀ (l : Tab FileE) (acc : Tab FileE × List Int), (∀ x ∈ acc.1, x.2.1.length ≤ 1000000) → (∀ x ∈ l, x.2.1.length ≤ 1000000) → ∀ x ∈ (l.foldl (fun acc x => (acc.1 ++ [(crash1 x acc.2).1], (crash1 x acc.2).2)) acc).1, x.2.1.length ≤ 1000000 := by
    intro l
    induction l with
    | nil => intro acc h1 _; exact h1
    | cons y l ih =>
      intro acc h1 h2
      refine ih _ ?_ (fun z hz => h2 z (List.mem_cons_of_mem _ hz))
      intro x hx
      rcases List.mem_append.1 hx with hx | hx
      · exact h1 x hx
      · rw [List.mem_singleton] at hx
        subst hx
        have h3 := h2 y (List.mem_cons_self ..)
        unfold crash1
        split
        · simp only [List.length_take]
          omega
        · exact h3
  exact key M ([], ps) (fun x hx => by cases hx) (fun x hx => (h x hx).2.1)
theorem EndS.len {rs : List (List UInt8)} {k : Nat} {M : Tab FileE} (h : EndS rs k M) : M.length ≤ 800000 := by
  rcases h with rfl | ⟨r, hr, rfl⟩
  · unfold stT
    split
    · exact Nat.zero_le _
    · exact (show 1 ≤ 800000 by decide)
  · exact (show 1 ≤ 800000 by decide)
/-- opened again behind a crash -/
theorem open_sure (w : World) (p b n : Nat) {rs : List (List UInt8)} (hrs : ∀ r ∈ rs, r.length ≤ 100) (hl : rs.length ≤ 12) {k : Nat} (hk : k ≤ rs.length) {M : Tab FileE} (hend : EndS rs k M) (qs : List Int) (h : DiskIs w p b n (crashP M qs).1 (-1)) (hn : n ≤ 800000) :
    Calls Try.prog 33 #[.pointer (some ⟨p, 0, none⟩), .string logS] w fun e w' => ∃ (jv : Value) (A : Option Addr) (c m : Nat), e = .returned (.tuple #[jv, .slice A m c, .int .i64 0]) ∧ (k ≤ m ∧ m ≤ k + 1 ∧ m ≤ rs.length) ∧ Rd w' 1 A m (strV (rs.take m)) ∧ But p b w w' := by
  obtain ⟨h0, m, hm1, hm2, hm3, hm4⟩ := sure_open (fun r hr => Nat.le_trans (hrs r hr) (by decide)) hk hend qs
  refine (open_any w p b n _ (-1) h hn (by omega) logS logS_some (by decide) (crash_all (hend.all hrs hl) qs)).mono ?_
  rintro e w' ⟨jv, A, c, he, ho, _, hb, _⟩
  rw [logS_list] at he ho
  rw [h0, hm4] at he
  rw [hm4] at ho
  have hlm : (rs.take m).length = m := by rw [List.length_take]; omega
  rw [hlm] at he ho
  exact ⟨jv, A, c, m, he, ⟨hm1, hm2, hm3⟩, ho.rd, hb⟩
theorem Rd.front {w : World} {A : Option Addr} {n m : Nat} {xs : List Value} (h : Rd w 1 A n xs) (hm : m ≤ n) : Rd w 1 A m (xs.take m) := by
  have := h.take hm
  rwa [Nat.mul_one] at this
set_option maxRecDepth 100000 in
set_option maxHeartbeats 2000000 in
theorem JournalSure_walk (w : World) (A0 : Option Addr) (N c0 : Nat) (ps : List ByteArray) (hr : Rd w 1 A0 N (ps.map Value.string)) (hmx : N ≤ 8796093022208) (hc0 : N ≤ c0) (a : Nat) (ha : a ≤ 255) (A2 : Option Addr) (c2 : Nat) (qs : List Int) (hq : Rd w 1 A2 qs.length (intV qs)) (hqc : qs.length ≤ c2) :
    Calls Try.prog 11 #[.slice A0 N c0, .int .u8 a, .slice A2 qs.length c2] w fun e w' => e = .returned (.bool true) ∧ Below w.heap.size w w' := by
  have hn : ps.length = N := by have := hr.1; simpa using this
  obtain ⟨Q, hQ⟩ : ∃ Q, Q = qs.length := ⟨_, rfl⟩
  rw [← hQ] at hqc ⊢
  have hmx' : (N : Int) ≤ 8796093022208 := by omega
  have hgr := jgreat_any w A0 N c0 ps hr hmx
  have HGR := hid2 hgr
  have HR := hid2 hr
  have HQ := hid2 hq
  have HQQ := hid2 hQ
  have HN := hid2 hn
  clear hgr hr hq hQ hn
  go_enter Try.func11, Try.ntmps11
  go_wp2_with (first
    | (go_at_call 26; refine HGR.out.mono ?_; rintro e w1 ⟨g, rfl, hg, hb1⟩; have HG := hid2 hg; have HB1 := hid2 hb1; clear hg hb1)
    | (go_at_call 13; refine (jfixed_any _).mono ?_; rintro e wf ⟨rfl, hbf⟩; have HBF := hid2 (HB1.out.trans (hbf.mono HB1.out.size)); clear hbf)
    | (go_at_call 32; refine (new_any _).mono ?_; rintro e w2 ⟨rfl, hd2, hb2, hz2⟩; obtain ⟨p, hp⟩ : ∃ p, p = w1.heap.size + 1 := ⟨_, rfl⟩; obtain ⟨b, hb⟩ : ∃ b, b = w1.heap.size := ⟨_, rfl⟩; rw [← hp, ← hb] at hd2; rw [← hp]; have hbz := HB1.out.size; have hp1 : w.heap.size ≤ p := (by omega); have hb1' : w.heap.size ≤ b := (by omega); have HB2 := hid2 (HB1.out.trans (hb2.mono hbz)); have HD2 := hid2 hd2; clear hp hb hz2 hb2 hbz hd2)
    | (go_at_call 33; refine (open_new _ p b 0 HD2.out (by omega)).mono ?_; rintro e w3 ⟨j, A3, c3, rfl, hd3, hb3, hj3, hjg⟩; have HD3 := hid2 hd3; have hbz := HB2.out.size; have hjg' : w.heap.size ≤ j := (by omega); have HB3 := hid2 (hb3.below HB2.out hbz hp1 hb1'); have HJ3 := hid2 hj3; have hne := hj3.ne hd3; clear hd3 hb3 hj3 hbz hjg)
    | (go_at_call 34; refine (budget_any _ p b _ [] (-1) _ HD3.out).mono ?_; rintro e w4 ⟨rfl, hd4, hb4, _⟩; have HD4 := hid2 hd4; have HJ4 := hid2 (HJ3.out.keep (hb4.block j HJ3.out.lt hne.1 hne.2)); have HB4 := hid2 (hb4.below HB3.out HB3.out.size hp1 hb1'); clear hd4 hb4))
  all_goals first
    | (go_ret; exact ⟨rfl, HBF.out⟩)
    | skip
  have hg0 : g = false := by
    have h : ¬ g = true := by assumption
    simpa using h
  have hq10 : (Q : Int) ≤ 10 := by assumption
  obtain ⟨hps, hl12⟩ := HG.out hg0
  obtain ⟨rs, hrs⟩ : ∃ rs : List (List UInt8), rs = ps.map (fun s => s.data.toList) := ⟨_, rfl⟩
  have hrl : rs.length = N := by rw [hrs, List.length_map, HN.out]
  have hN12 : N ≤ 12 := by rw [← HN.out]; exact hl12
  have hr100 : ∀ r ∈ rs, r.length ≤ 100 := by
    intro r hr
    rw [hrs] at hr
    obtain ⟨s, hs, rfl⟩ := List.mem_map.1 hr
    rw [toList_length]
    exact hps s hs
  have hsv : ∀ m, strV (rs.take m) = (ps.take m).map Value.string := by
    intro m
    rw [hrs, ← List.map_take, strV, List.map_map]
    exact List.map_congr_left fun s _ => by simp only [Function.comp_apply, strB_of]
  have hga : ∀ (k : Nat) (s : ByteArray), ps[k]? = some s → s.size ≤ 100 ∧ rs[k]? = some s.data.toList := by
    intro k s h
    refine ⟨hps s (List.mem_of_getElem? h), ?_⟩
    rw [hrs, List.getElem?_map, h]
    rfl
  have HRS := hid2 (And.intro hr100 (show rs.length ≤ 12 by omega))
  have HRL := hid2 hrl
  have HSV := hid2 hsv
  have HGA := hid2 hga
  have hj4 := HJ4.out
  have hd4 := HD4.out
  have hb4 := HB4.out
  clear hps hl12 hrs hrl hr100 hsv hga HG hg0 HGR HB1 HB2 HB3 HD2 HD3 HJ3 HD4 HB4 HJ4
  go_loopg [11] N (fun gk i wr => ∃ k : Nat, k + gk = N ∧ i = .int .i64 k ∧ SureAt w j p b rs k wr)
  case atStart => exact ⟨0, by omega, rfl, hb4, hj4, _, (show DiskIs _ p b (2 * 0 + 5) [] _ from hd4.mono (by omega)), by split <;> omega, by split <;> omega⟩
  case round =>
    clear hj4 hd4 hb4
    obtain ⟨k, hk, rfl, hS⟩ := hrel
    obtain ⟨left, hdk, hl1, hl2⟩ := hS.disk
    have hkN : k ≤ rs.length := by have := HRL.out; omega
    have HK := hid2 hkN
    clear hkN
    by_cases hlt : k < N
    · have hlt' : (k : Int) < N := by omega
      have hHw := hS.below.size
      have hrr := HR.out.below_all hS.below
      obtain ⟨bb, o, rfl, hcell⟩ := hrr.cell (j := k) (by rw [List.length_map, HN.out]; exact hlt)
      rw [List.getElem_map] at hcell
      have hsk : ps[k]? = some (ps[k]'(by rw [HN.out]; exact hlt)) := List.getElem?_eq_getElem _
      obtain ⟨s, hs⟩ : ∃ s, s = ps[k]'(by rw [HN.out]; exact hlt) := ⟨_, rfl⟩
      rw [← hs] at hcell hsk
      obtain ⟨hs100, hrk⟩ := HGA.out k s hsk
      have hadd := add_any wr j p b (2 * k + 5) logS (stT rs k) left hS.jis hdk (by omega) ⟨hl1, by omega⟩ (by decide) s (by omega) (stT_file HRS.out.1 HRS.out.2 k _)
      have hst := add_step hrk hl1
      rw [logS_list] at hadd
      obtain ⟨r, hr⟩ : ∃ r, r = addR (stT rs k) left kLog (frameL s.data.toList) := ⟨_, rfl⟩
      rw [← hr] at hadd hst
      clear hr
      obtain ⟨E, T, L⟩ := r
      simp only [ite_self] at hst
      unfold WPost at hadd
      simp only at hadd
      have HSB := hid2 hS.below
      clear hs hsk hrr hrk hdk hS
      rcases hst with ⟨rfl, rfl, hL1, hL2, _⟩ | ⟨_, hE, hend, hL1, hL2⟩
      · have HADD := hid2 hadd
        clear hadd
        go_wp2_with (go_at_call 35; refine HADD.out.mono ?_; rintro e w5 ⟨rfl, hd5, hj5, hb5⟩; have HD5 := hid2 hd5; have HJ5 : Hid2 (JIs w5 j p logS false) := hid2 hj5; have HB5 := hid2 (hb5.below HSB.out hHw hjg' hp1 hb1'); clear hd5 hj5 hb5)
        go_roundg (gk - 1)
        case rel => exact ⟨k + 1, by omega, by go_num, HB5.out, HJ5.out, L, HD5.out.mono (by omega), hL1, by omega⟩
        case measure => omega
      · have hE' : (E == 0) = false := by simpa using hE
        have HADD := hid2 hadd
        have HEND := hid2 hend
        clear hadd hE hend
        go_wp2_with (first
          | (go_at_call 35; refine HADD.out.mono ?_; rintro e w5 ⟨rfl, hd5, hj5, hb5⟩; have HDX := hid2 hd5; have HBX := hid2 (hb5.below HSB.out hHw hjg' hp1 hb1'); have HALL := hid2 (HEND.out.all HRS.out.1 HRS.out.2); have HML := hid2 (HEND.out.len); clear hd5 hj5 hb5))
        go_wp2_with (first
          | (go_at_call 36; have hcr := crash_any _ p b _ _ _ HDX.out (by omega) (fun x hx => ⟨(HALL.out x hx).1, Nat.le_trans (HALL.out x hx).2.1 (by decide), (HALL.out x hx).2.2⟩) A2 c2 qs (HQ.out.below_all HBX.out) (by rw [← HQQ.out]; exact hqc) (by rw [← HQQ.out]; omega); rw [← HQQ.out] at hcr; refine hcr.mono ?_; clear hcr; rintro e w6 ⟨p2, b2, rfl, hd6, hp6, hb6', hb6⟩; have HD6 := hid2 hd6; have hbz := HBX.out.size; have HB6 := hid2 (HBX.out.trans (hb6.mono hbz)); have hp2 : w.heap.size ≤ p2 := (by omega); have hb2 : w.heap.size ≤ b2 := (by omega); clear hd6 hb6 hp6 hb6' hbz)
          | (go_at_call 33; refine (open_sure _ p2 b2 _ HRS.out.1 HRS.out.2 HK.out HEND.out qs HD6.out HML.out).mono ?_; rintro e w7 ⟨jv, A7, c7, m, rfl, hm, ho7, hb7⟩; have HB7 := hid2 (hb7.below HB6.out HB6.out.size hp2 hb2); have HO7 := hid2 ho7; have hm1 : ¬ (m : Int) < k := (by omega); have hm2 : ¬ (k : Int) + 1 < m := (by omega); have hm3 : ¬ (N : Int) < m := (by have := HRL.out; omega); have hm4 : (0 : Int) ≤ m := (by omega); have hm5 : (m : Int) ≤ c0 := (by omega); have hm6 : m ≤ N := (by omega); have hkw : IntKind.i64.wrap ((k : Int) + 1) = (k : Int) + 1 := IntWalk.i64_in _ (by constructor <;> omega); clear hb7 ho7 hm)
          | (go_at_call 25; refine (same_any _ _ _ _ _ _ (ps.take m) (by rw [← HSV.out m]; exact HO7.out) (by rw [List.map_take]; exact (HR.out.below_all HB7.out).front hm6) (by omega)).mono ?_; rintro e w8 ⟨rfl, hb8⟩; have HB8 := hid2 (HB7.out.trans (hb8.mono HB7.out.size)); clear hb8)
          | (go_at_call 13; refine (jfixed_any _).mono ?_; rintro e wf ⟨rfl, hbf⟩; have HBF := hid2 (HB8.out.trans (hbf.mono HB8.out.size)); clear hbf))
        go_ret
        exact ⟨rfl, HBF.out⟩
    · have hkN : k = N := by omega
      have hlt' : ¬ (k : Int) < N := by omega
      have HDX := hid2 hdk
      have HBX := hid2 hS.below
      have HEND := hid2 (show EndS rs k (stT rs k) from .inl rfl)
      have HALL := hid2 (HEND.out.all HRS.out.1 HRS.out.2)
      have HML := hid2 (HEND.out.len)
      clear hdk hS
      go_wp2_with (first
        | (go_at_call 36; have hcr := crash_any _ p b _ _ _ HDX.out (by omega) (fun x hx => ⟨(HALL.out x hx).1, Nat.le_trans (HALL.out x hx).2.1 (by decide), (HALL.out x hx).2.2⟩) A2 c2 qs (HQ.out.below_all HBX.out) (by rw [← HQQ.out]; exact hqc) (by rw [← HQQ.out]; omega); rw [← HQQ.out] at hcr; refine hcr.mono ?_; clear hcr; rintro e w6 ⟨p2, b2, rfl, hd6, hp6, hb6', hb6⟩; have HD6 := hid2 hd6; have hbz := HBX.out.size; have HB6 := hid2 (HBX.out.trans (hb6.mono hbz)); have hp2 : w.heap.size ≤ p2 := (by omega); have hb2 : w.heap.size ≤ b2 := (by omega); clear hd6 hb6 hp6 hb6' hbz)
        | (go_at_call 33; refine (open_sure _ p2 b2 _ HRS.out.1 HRS.out.2 HK.out HEND.out qs HD6.out HML.out).mono ?_; rintro e w7 ⟨jv, A7, c7, m, rfl, hm, ho7, hb7⟩; have HB7 := hid2 (hb7.below HB6.out HB6.out.size hp2 hb2); have HO7 := hid2 ho7; have hm1 : ¬ (m : Int) < k := (by omega); have hm2 : ¬ (k : Int) + 1 < m := (by omega); have hm3 : ¬ (N : Int) < m := (by have := HRL.out; omega); have hm4 : (0 : Int) ≤ m := (by omega); have hm5 : (m : Int) ≤ c0 := (by omega); have hm6 : m ≤ N := (by omega); have hkw : IntKind.i64.wrap ((k : Int) + 1) = (k : Int) + 1 := IntWalk.i64_in _ (by constructor <;> omega); clear hb7 ho7 hm)
        | (go_at_call 25; refine (same_any _ _ _ _ _ _ (ps.take m) (by rw [← HSV.out m]; exact HO7.out) (by rw [List.map_take]; exact (HR.out.below_all HB7.out).front hm6) (by omega)).mono ?_; rintro e w8 ⟨rfl, hb8⟩; have HB8 := hid2 (HB7.out.trans (hb8.mono HB7.out.size)); clear hb8)
        | (go_at_call 13; refine (jfixed_any _).mono ?_; rintro e wf ⟨rfl, hbf⟩; have HBF := hid2 (HB8.out.trans (hbf.mono HB8.out.size)); clear hbf))
      go_ret
      exact ⟨rfl, HBF.out⟩
end Go.Proofs.Ytkadailbfeeamaa
