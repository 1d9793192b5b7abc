/- The walk of JournalRows. -/
import Derived.Test.YtehpapoboeejkaaDoorRow2
import Derived.Test.YtehpapoboeejkaaDoorJo7
import Derived.Test.YtehpapoboeejkaaDoorJo9
namespace Go.Proofs.YtehpapoboeejkaaDoor
open Go.RowKit Go.Maps
set_option maxRecDepth 100000
abbrev Tq := List UInt8
/-- a row of texts as it lies: its address and its room -/
structure TRow where
  A : Option Addr
  c : Nat
  l : List Tq
def rowsV (X : List TRow) : List Value := X.map fun x => .slice x.A x.l.length x.c
def RowsRd (w : World) (A : Option Addr) (X : List TRow) : Prop := Rd w 1 A X.length (rowsV X) ∧ ∀ x ∈ X, Rd w 1 x.A x.l.length (strV x.l) ∧ x.l.length ≤ maxLen
theorem RowsRd.below {w w' : World} {A : Option Addr} {X : List TRow} (h : RowsRd w A X) (hb : Below w.heap.size w w') : RowsRd w' A X := ⟨h.1.below_all hb, fun x hx => ⟨(h.2 x hx).1.below_all hb, (h.2 x hx).2⟩⟩
theorem RowsRd.at_ {w : World} {A : Option Addr} {X : List TRow} (h : RowsRd w A X) {k : Nat} {x : TRow} (hx : X[k]? = some x) : ∃ b o, A = some ⟨b, o, none⟩ ∧ w.cell? ⟨b, o + k, none⟩ = some (.slice x.A x.l.length x.c) := by
  have hk := (List.getElem?_eq_some_iff.1 hx).1
  obtain ⟨b, o, rfl, hc⟩ := h.1.2 (by omega)
  exact ⟨b, o, rfl, hc k _ (by rw [rowsV, List.getElem?_map, hx]; rfl)⟩
theorem strV_vals (l : List Tq) : (l.map strB).map Value.string = strV l := by rw [strV, List.map_map]; rfl
/-- a row that is not great -/
def Small (l : List Tq) : Prop := (∀ s ∈ l, s.length ≤ 100) ∧ l.length ≤ 12
theorem small_row {l : List Tq} (h : Small l) : (rowL l).length ≤ 1320 := by
  have h1 := rowL_len (B := 100) (by decide) h.1
  have h2 := Nat.mul_le_mul_right (100 + 10) h.2
  omega
set_option maxHeartbeats 1000000 in
theorem jgreatM_any (w : World) (A : Option Addr) (n c : Nat) (xs : List ByteArray) (ha : Rd w 1 A n (xs.map Value.string)) (hmx : n ≤ maxLen) : Calls Tryd.prog 7 #[.slice A n c] w (GPost w xs) := by
  have hn : xs.length = n := by have := ha.1; simpa using this
  have hmx' : (n : Int) ≤ 9223372036854775807 := by unfold maxLen at hmx; omega
  go_enter Tryd.func7, Tryd.ntmps7
  go_wp2_with fail
  go_loopw [6] (fun i wr => ∃ k : Nat, k ≤ n ∧ i = .int .i64 k ∧ (∀ x ∈ xs.take k, x.size ≤ 100) ∧ Below w.heap.size w wr) (fun i _ => n - (intOf i).toNat)
  case atStart => exact ⟨0, by omega, rfl, by simp, Below.refl _ _⟩
  case round =>
    obtain ⟨k, hk, rfl, hall, hB⟩ := hrel
    have HALL := hid2 hall
    clear hall
    by_cases hlt : k < n
    · obtain ⟨b, o, rfl, hcell⟩ := (ha.below_all hB).cell (j := k) (by simpa [hn] using hlt)
      rw [List.getElem_map] at hcell
      obtain ⟨s, hs⟩ : ∃ s, s = xs[k]'(by omega) := ⟨_, rfl⟩
      rw [← hs] at hcell
      have HS := hid2 hs
      clear hs
      have hlt' : (k : Int) < n := by omega
      by_cases h100 : 100 < s.size
      · have h100' : (100 : Int) < s.size := by omega
        go_wp2_with fail
        go_ret
        exact ⟨true, rfl, (fun h => absurd h (by decide)), hB⟩
      · have h100' : (s.size : Int) ≤ 100 := by omega
        go_wp2_with fail
        go_roundw
        case rel =>
          refine ⟨k + 1, by omega, by go_num, ?_, hB⟩
          intro x hx
          rw [List.take_succ_eq_append_getElem (show k < xs.length by omega), List.mem_append] at hx
          rcases hx with hx | hx
          · exact HALL.out x hx
          · rw [List.mem_singleton.1 hx, ← HS.out]; omega
        case measure => simp [intOf]; omega
    · have hlt' : ¬ (k : Int) < n := by omega
      have hx : ∀ x ∈ xs, x.size ≤ 100 := by
        have := HALL.out
        rw [List.take_of_length_le (by omega)] at this
        exact this
      have HX := hid2 hx
      clear hx
      by_cases h12 : 12 < n
      · have h12' : (12 : Int) < n := by omega
        go_wp2_with fail
        go_ret
        exact ⟨true, rfl, (fun h => absurd h (by decide)), hB⟩
      · have h12' : (n : Int) ≤ 12 := by omega
        go_wp2_with fail
        go_ret
        exact ⟨_, rfl, (fun _ => ⟨HX.out, by omega⟩), hB⟩
theorem great_tx (w : World) (x : TRow) (hr : Rd w 1 x.A x.l.length (strV x.l)) (hm : x.l.length ≤ maxLen) :
    Calls Tryd.prog 7 #[.slice x.A x.l.length x.c] w fun e w' => ∃ g, e = .returned (.bool g) ∧ (g = false → Small x.l) ∧ Below w.heap.size w w' := by
  refine (jgreatM_any w x.A x.l.length x.c (x.l.map strB) (by rw [strV_vals]; exact hr) hm).mono ?_
  rintro e w' ⟨g, rfl, hg, hb⟩
  refine ⟨g, rfl, fun h => ?_, hb⟩
  obtain ⟨h1, h2⟩ := hg h
  rw [List.length_map] at h2
  refine ⟨fun s hs => ?_, h2⟩
  have := h1 (strB s) (List.mem_map.2 ⟨s, hs, rfl⟩)
  rwa [strB_size] at this
/-! the records -/
def recsOf (X : List TRow) : List Tq := X.map fun x => rowL x.l
theorem recs_get {X : List TRow} {k : Nat} {x : TRow} (h : X[k]? = some x) : (recsOf X)[k]? = some (rowL x.l) := by rw [recsOf, List.getElem?_map, h]; rfl
theorem frames_len {rs : List Tq} {B : Nat} (h : ∀ r ∈ rs, r.length ≤ B) : (framesL rs).length ≤ (B + 12) * rs.length := by
  induction rs with
  | nil => simp [framesL]
  | cons r rs ih =>
    have h1 := ih fun x hx => h x (List.mem_cons_of_mem _ hx)
    have h2 := h r (List.mem_cons_self ..)
    simp only [framesL, List.length_append, frameL_length, List.length_cons]
    have e : (B + 12) * (rs.length + 1) = (B + 12) * rs.length + (B + 12) := Nat.mul_succ _ _
    omega
theorem st_len {rs : List Tq} {k : Nat} (h : ∀ r ∈ rs.take k, r.length ≤ 1320) (hl : rs.length ≤ 8) : (framesL (rs.take k)).length ≤ 20000 := by
  have h1 := frames_len h
  have h2 : (rs.take k).length ≤ 8 := Nat.le_trans (List.length_take_le' _ _) hl
  have h3 := Nat.mul_le_mul_left (1320 + 12) h2
  omega
theorem st_file {rs : List Tq} {k : Nat} (h : ∀ r ∈ rs.take k, r.length ≤ 1320) (hl : rs.length ≤ 8) (nm : Tq) : (fileOf (stT rs k) nm).1.length ≤ 100000000 := by
  have h := st_len h hl
  unfold stT
  split
  · exact Nat.zero_le _
  · unfold fileOf getM logT
    simp only [List.find?_cons, List.find?_nil]
    split
    · exact Nat.le_trans h (by decide)
    · exact Nat.zero_le _
theorem st_all {rs : List Tq} (h : ∀ r ∈ rs, r.length ≤ 1320) (hl : rs.length ≤ 8) : ∀ x ∈ stT rs rs.length, x.1.length ≤ 1000000000 ∧ x.2.1.length ≤ 1000000 ∧ x.2.2 ≤ x.2.1.length := by
  have hs := st_len (k := rs.length) (fun r hr => h r (List.mem_of_mem_take hr)) hl
  intro x hx
  unfold stT at hx
  split at hx
  · cases hx
  · rw [logT, List.mem_singleton] at hx
    subst hx
    exact ⟨(show kLog.length ≤ 1000000000 by decide), Nat.le_trans hs (by decide), Nat.le_refl _⟩
/-- opened again behind a crash: all records -/
theorem open_rows_all (w : World) (p b n : Nat) {rs : List Tq} (hrs : ∀ r ∈ rs, r.length ≤ 1320) (hl : rs.length ≤ 8) (qs : List Int) (h : DiskIs w p b n (crashP (stT rs rs.length) qs).1 (-1)) (hn : n ≤ 800000) :
    Calls Tryd.prog 6 #[.pointer (some ⟨p, 0, none⟩), .string logS] w fun e w' => ∃ (jv : Value) (A : Option Addr) (c : Nat), e = .returned (.tuple #[jv, .slice A rs.length c, .int .i64 0]) ∧ Rd w' 1 A rs.length (strV rs) ∧ But p b w w' := by
  have hst := stT_stood rs
  rw [crash_stood hst] at h
  obtain ⟨o1, o2⟩ := open_stood hst
  rw [scan_all rs (fun r hr => Nat.le_trans (hrs r hr) (by decide))] at o2
  refine (open_any w p b n _ (-1) h hn (by omega) logS logS_some (by decide) (fun x hx => (st_all hrs hl x hx).2.1)).mono ?_
  rintro e w' ⟨jv, A, c, he, ho, _, hb, _⟩
  rw [logS_list] at he ho
  rw [o1, o2] at he
  rw [o2] at ho
  exact ⟨jv, A, c, he, ho.rd, hb⟩
/-- one record more -/
theorem add_row (W : World) (j p b : Nat) {rs : List Tq} {k : Nat} {r : Tq} (hr : rs[k]? = some r) (hkr : ∀ r ∈ rs.take k, r.length ≤ 1320) (hl : rs.length ≤ 8) (hr1 : r.length ≤ 1320) (hj : JIs W j p logS false) (hd : DiskIs W p b (2 * k + 5) (stT rs k) (-1)) :
    Calls Tryd.prog 8 #[.pointer (some ⟨j, 0, none⟩), .string (strB r)] W fun e w' => e = .returned (.int .i64 0) ∧ JIs w' j p logS false ∧ DiskIs w' p b (2 * (k + 1) + 5) (stT rs (k + 1)) (-1) ∧ JBut j p b W w' := by
  have hk8 : k < rs.length := (List.getElem?_eq_some_iff.1 hr).1
  have hadd := add_any W j p b (2 * k + 5) logS (stT rs k) (-1) hj hd (by omega) (by omega) (by decide) (strB r) (by rw [strB_size]; omega) (st_file hkr hl _)
  have hst := add_step hr (left := -1) (by omega)
  rw [logS_list, strB_list] at hadd
  obtain ⟨q, hq⟩ : ∃ q, q = addR (stT rs k) (-1) kLog (frameL r) := ⟨_, rfl⟩
  rw [← hq] at hadd hst
  clear hq
  obtain ⟨E, T, L⟩ := q
  simp only [ite_self] at hst
  unfold WPost at hadd
  simp only at hadd
  rcases hst with ⟨rfl, rfl, _, _, hL⟩ | ⟨hne, _⟩
  · obtain rfl : L = -1 := hL trivial
    refine hadd.mono ?_
    rintro e w5 ⟨rfl, hd5, hj5, hb5⟩
    exact ⟨rfl, hj5, hd5.mono (by omega), hb5⟩
  · exact absurd rfl hne
/-- between two rounds -/
structure RowsAt (w : World) (j p b : Nat) (rs : List Tq) (k : Nat) (wr : World) : Prop where
  below : Below w.heap.size w wr
  jis : JIs wr j p logS false
  disk : DiskIs wr p b (2 * k + 5) (stT rs k) (-1)
set_option maxHeartbeats 2000000 in
theorem JournalRows_walk (w : World) (A0 : Option Addr) (c0 : Nat) (X : List TRow) (hr : RowsRd w A0 X) (hX : X.length ≤ maxLen) (A2 : Option Addr) (c2 : Nat) (qs : List Int) (hq : Rd w 1 A2 qs.length (intV qs)) (hqc : qs.length ≤ c2) (hT : Tabs w) :
    Calls Tryd.prog 3 #[.slice A0 X.length c0, .slice A2 qs.length c2] w fun e w' => e = .returned (.bool true) ∧ Below w.heap.size w w' := by
  obtain ⟨Q, hQ⟩ : ∃ Q, Q = qs.length := ⟨_, rfl⟩
  obtain ⟨N, hN⟩ : ∃ N, N = X.length := ⟨_, rfl⟩
  have hrl : (recsOf X).length = N := by rw [hN, recsOf, List.length_map]
  rw [← hQ] at hqc ⊢
  rw [← hN] at hX ⊢
  obtain ⟨rs, hrs⟩ : ∃ rs, rs = recsOf X := ⟨_, rfl⟩
  rw [← hrs] at hrl
  have HR := hid2 hr
  have HQ := hid2 hq
  have HQQ := hid2 hQ
  have HN := hid2 hN
  have HRS := hid2 hrs
  have HRL := hid2 hrl
  have HT := hid2 hT
  have HB0 := hid2 (Below.refl w.heap.size w)
  clear hr hq hQ hN hrs hrl hT
  go_enter Tryd.func3, Tryd.ntmps3
  by_cases hearly : 8 < N ∨ 10 < Q
  · by_cases h8 : 8 < N
    · have h8i : (8 : Int) < N := by omega
      clear hearly
      go_wp2_with (go_at_call 4; refine (jfixed_any _).mono ?_; rintro e wf ⟨rfl, hbf⟩)
      go_ret
      exact ⟨rfl, hbf⟩
    · have h8i : ¬ (8 : Int) < N := by omega
      have h9i : (10 : Int) < Q := by omega
      clear hearly
      go_wp2_with (go_at_call 4; refine (jfixed_any _).mono ?_; rintro e wf ⟨rfl, hbf⟩)
      go_ret
      exact ⟨rfl, hbf⟩
  · have h8i : (N : Int) ≤ 8 := by omega
    have h9i : (Q : Int) ≤ 10 := by omega
    have h8n : N ≤ 8 := by omega
    have h9n : Q ≤ 10 := by omega
    clear hearly
    go_wp2_with (first
      | (go_at_call 5; refine (new_any _).mono ?_; rintro e w2 ⟨rfl, hd2, hb2, hz2⟩; obtain ⟨p, hp⟩ : ∃ p, p = w.heap.size + 1 := ⟨_, rfl⟩; obtain ⟨b, hb⟩ : ∃ b, b = w.heap.size := ⟨_, rfl⟩; rw [← hp, ← hb] at hd2; rw [← hp]; have hp1 : w.heap.size ≤ p := (by omega); have hb1' : w.heap.size ≤ b := (by omega); have HB2 := hid2 hb2; have HD2 := hid2 hd2; clear hp hb hz2 hb2 hd2)
      | (go_at_call 6; refine (open_new _ p b 0 HD2.out (by omega)).mono ?_; rintro e w3 ⟨j, A3, c3, rfl, hd3, hb3, hj3, hjg⟩; have HD3 := hid2 hd3; have hbz := HB2.out.size; have hjg' : w.heap.size ≤ j := (by omega); have HB3 := hid2 (hb3.below HB2.out hbz hp1 hb1'); have HJ3 := hid2 hj3; clear hd3 hb3 hj3 hbz hjg))
    have hj4 := HJ3.out
    have hd4 := HD3.out
    have hb4 := HB3.out
    clear HB2 HB3 HD2 HD3 HJ3
    go_loopg [9] N (fun gk i wr => ∃ k : Nat, k + gk = N ∧ i = .int .i64 k ∧ RowsAt w j p b rs k wr ∧ ∀ x ∈ X.take k, Small x.l)
    case atStart => exact ⟨0, by omega, rfl, ⟨hb4, hj4, (show DiskIs _ p b (2 * 0 + 5) [] _ from hd4.mono (by omega))⟩, fun x hx => by simp at hx⟩
    case round =>
      clear hj4 hd4 hb4
      obtain ⟨k, hk, rfl, hS, hsm⟩ := hrel
      have hkr : ∀ r ∈ rs.take k, r.length ≤ 1320 := fun r hr => by
        rw [HRS.out, recsOf, ← List.map_take] at hr
        obtain ⟨x, hx, rfl⟩ := List.mem_map.1 hr
        exact small_row (hsm x hx)
      have HSM := hid2 hsm
      have HKR := hid2 hkr
      clear hsm hkr
      by_cases hlt : k < N
      · have hlt' : (k : Int) < N := by omega
        have hk0 : (0 : Int) ≤ k := by omega
        obtain ⟨x, hx⟩ : ∃ x, X[k]? = some x := ⟨_, List.getElem?_eq_getElem (by rw [← HN.out]; exact hlt)⟩
        have hrr := HR.out.below hS.below
        obtain ⟨bb, o, rfl, hcell⟩ := hrr.at_ hx
        obtain ⟨hx1, hx2⟩ := hrr.2 x (List.mem_of_getElem? hx)
        have hG := great_tx wr x hx1 hx2
        have hxk := recs_get hx
        rw [← HRS.out] at hxk
        have htk : X.take (k + 1) = X.take k ++ [x] := by rw [List.take_add_one, hx]; rfl
        have hrd : ∀ W, Below w.heap.size w W → Rd W 1 x.A x.l.length (strV x.l) := fun W hb => (HR.out.2 x (List.mem_of_getElem? hx)).1.below_all hb
        have hcl : ∀ W, Below w.heap.size w W → W.cell? ⟨bb, o + k, none⟩ = some (.slice x.A x.l.length x.c) := fun W hb => by
          obtain ⟨b2, o2, e, h2⟩ := (HR.out.below hb).at_ hx
          cases e
          exact h2
        have hlp := hS.disk.lt
        have hjl := hS.jis.lt
        have hJ : ∀ W, Below wr.heap.size wr W → JIs W j p logS false := fun W hb => hS.jis.keep (hb.block _ hjl)
        have hD : ∀ W, Below wr.heap.size wr W → DiskIs W p b (2 * k + 5) (stT rs k) (-1) := fun W hb => hS.disk.below hb hlp.1 hlp.2
        have hbw := hS.below
        have hTw : ∀ W, Below w.heap.size w W → Tabs W := fun W hb => HT.out.on hb
        have HG := hid2 hG
        have HXK := hid2 hxk
        have HTK := hid2 htk
        have HRD := hid2 hrd
        have HCL := hid2 hcl
        have HJ := hid2 hJ
        have HD := hid2 hD
        have HBW := hid2 hbw
        have HTW := hid2 hTw
        obtain ⟨xA, xc, xl⟩ := x
        obtain ⟨xn, hxn⟩ : ∃ xn, xn = xl.length := ⟨_, rfl⟩
        simp only at HG HXK HTK HRD HCL hcell hx1 hx2
        have HXN := hid2 hxn
        rw [← hxn] at hcell
        clear hS hrr hx1 hx2 hG hxk htk hrd hcl hJ hD hbw hTw hlp hjl hx hxn
        go_wp2_with (first
          | (go_at_call 7; rw [HXN.out]; refine HG.out.mono ?_; rintro e w1 ⟨g, rfl, hg, hc1⟩; have HC1 := hid2 hc1; have HB1 := hid2 (HBW.out.trans (hc1.mono HBW.out.size)); have HGG := hid2 hg; clear hcell hc1 hg; have hcell := HCL.out w1 HB1.out; rw [← HXN.out] at hcell; cases g)
          | (go_at_call 4; refine (jfixed_any _).mono ?_; rintro e wf ⟨rfl, hbf⟩; have HBF := hid2 (HB1.out.trans (hbf.mono HB1.out.size)))
          | (go_at_call 9; rw [HXN.out]; refine (row_any w1 xA xc xl (by have := (HGG.out (by simp)).2; omega) (HRD.out w1 HB1.out) (HTW.out w1 HB1.out) (by have := small_row (HGG.out (by simp)); omega)).mono ?_; rintro e w2 ⟨rfl, hc2⟩; have HC2 := hid2 (HC1.out.trans (hc2.mono HC1.out.size)); clear hc2)
          | (go_at_call 8; refine (add_row w2 j p b HXK.out HKR.out (by rw [HRL.out]; exact h8n) (small_row (HGG.out (by simp))) (HJ.out w2 HC2.out) (HD.out w2 HC2.out)).mono ?_; rintro e w3 ⟨rfl, hj3, hd3, hb3⟩; have HJ3 := hid2 hj3; have HD3 := hid2 hd3; have hbz := (HBW.out.trans (HC2.out.mono HBW.out.size)); have HB3 := hid2 (hb3.below hbz hbz.size hjg' hp1 hb1'); clear hj3 hd3 hb3 hbz))
        · go_roundg (gk - 1)
          case rel =>
            refine ⟨k + 1, by omega, by go_num, ⟨HB3.out, HJ3.out, HD3.out⟩, fun y hy => ?_⟩
            rw [HTK.out, List.mem_append, List.mem_singleton] at hy
            rcases hy with hy | rfl
            · exact HSM.out y hy
            · exact HGG.out (by simp)
          case measure => omega
        · go_ret
          exact ⟨rfl, HBF.out⟩
      · have hkN : k = N := by omega
        have hlt' : ¬ (k : Int) < N := by omega
        subst hkN
        have hkr : ∀ r ∈ rs, r.length ≤ 1320 := by
          have := HKR.out
          rwa [← HRL.out, List.take_length] at this
        have hsm : ∀ x ∈ X, Small x.l := by
          have := HSM.out
          rwa [HN.out, List.take_length] at this
        have hrl8 : rs.length ≤ 8 := by rw [HRL.out]; exact h8n
        have hdk := hS.disk
        rw [← HRL.out] at hdk
        have hcr := fun (W : World) => crash_any wr p b _ _ _ hdk (by omega) (fun x hx => ⟨(st_all hkr hrl8 x hx).1, Nat.le_trans (st_all hkr hrl8 x hx).2.1 (by decide), (st_all hkr hrl8 x hx).2.2⟩) A2 c2 qs (HQ.out.below_all hS.below) (by rw [← HQQ.out]; exact hqc) (by rw [← HQQ.out]; omega)
        have hcr := hcr w
        rw [← HQQ.out] at hcr
        have HCR := hid2 hcr
        have HBX := hid2 hS.below
        have HKA := hid2 hkr
        have HSA := hid2 hsm
        have hml : (stT rs rs.length).length ≤ 800000 := by
          unfold stT
          split
          · exact Nat.zero_le _
          · exact (show 1 ≤ 800000 by decide)
        have HML := hid2 hml
        have HR8 := hid2 hrl8
        clear hS hdk hcr hkr hsm hml hrl8
        go_wp2_with (first
          | (go_at_call 10; refine HCR.out.mono ?_; rintro e w6 ⟨p2, b2, rfl, hd6, hp6, hb6', hb6⟩; have HD6 := hid2 hd6; have hbz := HBX.out.size; have HB6 := hid2 (HBX.out.trans (hb6.mono hbz)); have hp2 : w.heap.size ≤ p2 := (by omega); have hb2 : w.heap.size ≤ b2 := (by omega); clear hd6 hb6 hp6 hb6' hbz)
          | (go_at_call 6; refine (open_rows_all _ p2 b2 _ HKA.out HR8.out qs HD6.out HML.out).mono ?_; rintro e w7 ⟨jv, A7, c7, rfl, ho7, hb7⟩; rw [HRL.out] at ho7 ⊢; have HB7 := hid2 (hb7.below HB6.out HB6.out.size hp2 hb2); have HO7 := hid2 ho7; clear hb7 ho7))
        go_loopg [13] k (fun gk i wr => ∃ m : Nat, m + gk = k ∧ i = .int .i64 m ∧ Below w7.heap.size w7 wr)
        case atStart => exact ⟨0, by omega, rfl, Below.refl _ _⟩
        case round =>
          obtain ⟨m, hm, rfl, hbe⟩ := hrel
          have hbw := HB7.out.trans (hbe.mono HB7.out.size)
          have HBE := hid2 hbe
          have HBW := hid2 hbw
          by_cases hlt2 : m < k
          · have hmi : (m : Int) < k := by omega
            have hm0 : (0 : Int) ≤ m := by omega
            obtain ⟨x, hx⟩ : ∃ x, X[m]? = some x := ⟨_, List.getElem?_eq_getElem (by rw [← HN.out]; exact hlt2)⟩
            have hsx := HSA.out x (List.mem_of_getElem? hx)
            have hxk := recs_get hx
            rw [← HRS.out] at hxk
            obtain ⟨b7, o7, rfl, hc7⟩ := (HO7.out.below_all hbe).2 (by omega)
            have hcell : wr.cell? ⟨b7, o7 + m, none⟩ = some (.string (strB (rowL x.l))) := hc7 m _ (by rw [strV, List.getElem?_map, hxk]; rfl)
            have htx := texts_any wr x.l (fun s hs => by have := hsx.1 s hs; omega) (by have := hsx.2; omega) (by have := small_row hsx; omega)
            obtain ⟨bb, o, rfl, hc0⟩ := (HR.out.below hbw).at_ hx
            have hrd : ∀ W, Below w.heap.size w W → Rd W 1 x.A x.l.length (strV x.l) := fun W hb => (HR.out.2 x (List.mem_of_getElem? hx)).1.below_all hb
            have hcl : ∀ W, Below w.heap.size w W → W.cell? ⟨bb, o + m, none⟩ = some (.slice x.A x.l.length x.c) := fun W hb => by
              obtain ⟨b2, o2, e, h2⟩ := (HR.out.below hb).at_ hx
              cases e
              exact h2
            have hl12 := hsx.2
            obtain ⟨xA, xc, xl⟩ := x
            simp only at htx hrd hcl hcell hl12
            have hsame := fun (W : World) (A8 : Option Addr) (c8 : Nat) (h1 : Rd W 1 A8 xl.length (strV xl)) (h2 : Rd W 1 xA xl.length (strV xl)) => same_any W A8 xA xl.length c8 xc (xl.map strB) (by rw [strV_vals]; exact h1) (by rw [strV_vals]; exact h2) (by omega)
            obtain ⟨xn, hxn⟩ : ∃ xn, xn = xl.length := ⟨_, rfl⟩
            rw [← hxn] at htx hsame
            have HXN := hid2 hxn
            have HRD := hid2 hrd
            have HCL := hid2 hcl
            have HTX := hid2 htx
            have HSAME := hid2 hsame
            clear hsx hxk hc7 htx hc0 hrd hcl hx hbe hbw hxn hsame hl12
            go_wp2_with (first
              | (go_at_call 11; refine HTX.out.mono ?_; rintro e w8 ⟨A8, c8, rfl, ho8, hb8⟩; have HB8 := hid2 (HBE.out.trans (hb8.mono HBE.out.size)); have HBW8 := hid2 (HBW.out.trans (hb8.mono HBW.out.size)); have HO8 := hid2 ho8.rd; have hcell8 := HCL.out w8 HBW8.out; rw [← HXN.out] at hcell8; clear hb8 ho8)
              | (go_at_call 12; refine (HSAME.out w8 A8 c8 HO8.out (by rw [HXN.out]; exact HRD.out w8 HBW8.out)).mono ?_; rintro e w9 ⟨rfl, hb9⟩; have HB9 := hid2 (HB8.out.trans (hb9.mono HB8.out.size)); clear hb9))
            go_roundg (gk - 1)
            case rel => exact ⟨m + 1, by omega, by go_num, HB9.out⟩
            case measure => omega
          · have hmi : ¬ (m : Int) < k := by omega
            clear hbe hbw
            go_wp2_with (go_at_call 4; refine (jfixed_any _).mono ?_; rintro e wf ⟨rfl, hbf⟩; have HBF := hid2 (HBW.out.trans (hbf.mono HBW.out.size)); clear hbf)
            go_ret
            exact ⟨rfl, HBF.out⟩
end Go.Proofs.YtehpapoboeejkaaDoor
