/- A journal's Swap: the walk. -/
import Derived.Test.YtkadailbfeeamaaJo5
import Derived.Test.YtkadailbfeeamaaBld
namespace Go.Proofs.Ytkadailbfeeamaa
open Go.RowKit Go.Maps
/-- what Swap answers, and leaves -/
def swapR (M : Tab FileE) (left : Int) (nm : List UInt8) (rs : List (List UInt8)) : Int × Tab FileE × Int :=
  if tidE M left (newL nm) ≠ 0 then (tidE M left (newL nm), tidM M left (newL nm), tidL M left (newL nm))
  else anewR (tidM M left (newL nm)) (tidL M left (newL nm)) (newL nm) (framesL rs) nm
theorem framesL_le {rs : List (List UInt8)} (h : ∀ r ∈ rs, r.length ≤ 100) : (framesL rs).length ≤ 112 * rs.length := by
  induction rs with
  | nil => simp [framesL]
  | cons r l ih =>
    have h1 := ih (fun x hx => h x (List.mem_cons_of_mem _ hx))
    have h2 := h r (List.mem_cons_self ..)
    simp only [framesL, List.length_append, frameL_length, List.length_cons]
    omega
theorem framesL_ne {rs : List (List UInt8)} (h : rs ≠ []) : framesL rs ≠ [] := by
  cases rs with
  | nil => exact absurd rfl h
  | cons r l =>
    intro e
    have := congrArg List.length e
    simp only [framesL, List.length_append, frameL_length, List.length_nil] at this
    omega
theorem JBut.low {j p b : Nat} {x y z : World} (h : JBut j p b x y) (k : Below x.heap.size y z) : JBut j p b x z :=
  ⟨k.os.trans h.os, k.tape.trans h.tape, k.output.trans h.output, Nat.le_trans h.size k.size, fun i h1 h2 h3 h4 => (k.block i h1).trans (h.block i h1 h2 h3 h4)⟩
theorem tid_all {M : Tab FileE} {B : Nat} (h : ∀ x ∈ M, x.2.1.length ≤ B) (left : Int) (k : List UInt8) : ∀ x ∈ tidM M left k, x.2.1.length ≤ B := by
  unfold tidM
  split
  · unfold remM
    split
    · exact fun x hx => h x (List.mem_filter.1 hx).1
    · exact h
  · exact h
theorem file_all {M : Tab FileE} {B : Nat} (h : ∀ x ∈ M, x.2.1.length ≤ B) (k : List UInt8) : (fileOf M k).1.length ≤ B := by
  unfold fileOf
  cases hq : getM M k with
  | none => simp
  | some y =>
    unfold getM at hq
    obtain ⟨x, hx, rfl⟩ := Option.map_eq_some_iff.1 hq
    exact h x (List.mem_of_find?_eq_some hx)
theorem tid_file {M : Tab FileE} (h : ∀ x ∈ M, x.2.1.length ≤ 1000000) (left : Int) (k : List UInt8) : (fileOf (tidM M left k) k).1.length ≤ 100000000 :=
  Nat.le_trans (file_all (tid_all h left k) k) (by decide)
/-- a broken journal -/
theorem swap_broken (w : World) (j p : Nat) (nm : ByteArray) (hj : JIs w j p nm true) (A : Option Addr) (n c : Nat) :
    Calls Try.prog 37 #[.pointer (some ⟨j, 0, none⟩), .slice A n c] w fun e w' => e = .returned (.int .i64 19) ∧ Below w.heap.size w w' := by
  have hjl := hj.lt
  have c2 : w.cell? ⟨j, 2, none⟩ = some (.bool true) := hj.box.cells 2
  go_enter Try.func37, Try.ntmps37
  go_wp2_with fail
  go_ret
  exact ⟨rfl, Below.refl _ _⟩
set_option maxRecDepth 100000 in
set_option maxHeartbeats 2000000 in
theorem swap_any (w : World) (j p b n : Nat) (nm : ByteArray) (M : Tab FileE) (left : Int) (hj : JIs w j p nm false) (h : DiskIs w p b n M left) (hn : n ≤ 800000) (hle : -1 ≤ left ∧ left ≤ 9223372036854775807) (hz : nm.size ≤ 1000000) (hf : ∀ x ∈ M, x.2.1.length ≤ 1000000)
    (A : Option Addr) (N c : Nat) (ps : List ByteArray) (hr : Rd w 1 A N (ps.map Value.string)) (hN : N ≤ 1000) (h100 : ∀ s ∈ ps, s.size ≤ 100) :
    Calls Try.prog 37 #[.pointer (some ⟨j, 0, none⟩), .slice A N c] w (WPost w j p b (n + 3) nm false (swapR M left nm.data.toList (ps.map fun s => s.data.toList))) := by
  have hlt := h.lt
  have hjl := hj.lt
  have hne := hj.ne h
  have hpn : ps.length = N := by have := hr.1; simpa using this
  obtain ⟨rs, hrs⟩ : ∃ rs : List (List UInt8), rs = ps.map (fun s => s.data.toList) := ⟨_, rfl⟩
  rw [← hrs]
  have hrl : rs.length = N := by rw [hrs, List.length_map, hpn]
  have hr100 : ∀ r ∈ rs, r.length ≤ 100 := by
    intro r hr
    rw [hrs] at hr
    obtain ⟨s, hs, rfl⟩ := List.mem_map.1 hr
    rw [toList_length]
    exact h100 s hs
  have hga : ∀ (k : Nat) (s : ByteArray), ps[k]? = some s → s.size ≤ 100 ∧ rs[k]? = some s.data.toList := by
    intro k s h
    refine ⟨h100 s (List.mem_of_getElem? h), ?_⟩
    rw [hrs, List.getElem?_map, h]
    rfl
  have hfl : ∀ k, (framesL (rs.take k)).length ≤ 112000 := by
    intro k
    have := framesL_le (rs := rs.take k) (fun r hr => hr100 r (List.mem_of_mem_take hr))
    rw [List.length_take] at this
    omega
  obtain ⟨g, hg⟩ : ∃ g, g = w.heap.size := ⟨_, rfl⟩
  obtain ⟨W1, hW1⟩ : ∃ W1, W1 = w.alloc (.cells #[.pointer none, .slice none 0 0] 84) := ⟨_, rfl⟩
  have hb1 : Below g w W1 := by rw [hW1, hg]; exact (Below.refl _ _).alloc (Nat.le_refl _) _
  have hz1 : W1.heap.size = g + 1 := by rw [hW1, World.size_alloc, hg]
  have hbl1 : BldNew W1 g := by rw [hW1, hg]; exact heap_alloc_new w _
  have c2 : w.cell? ⟨j, 2, none⟩ = some (.bool false) := hj.box.cells 2
  have hN' : (N : Int) ≤ 1000 := by omega
  have HJ := hid2 hj
  have HD := hid2 h
  have HR := hid2 hr
  have HG := hid2 hg
  have HW1 := hid2 hW1
  have HGA := hid2 hga
  have HFL := hid2 hfl
  have HRL := hid2 hrl
  have HPN := hid2 hpn
  have HF := hid2 hf
  clear hj h hr hW1 hga hfl hrl hpn hr100 h100 hrs hf hg
  go_enter Try.func37, Try.ntmps37
  go_wp2_with fail
  rw [← HG.out, ← HW1.out]
  go_loopg [21] N (fun gk i wr => ∃ k : Nat, k + gk = N ∧ i = .int .i64 k ∧ Below g w wr ∧ g < wr.heap.size ∧ BldAt wr g g (framesL (rs.take k)) ∧ (k = 0 → BldNew wr g))
  case atStart => exact ⟨0, by omega, rfl, hb1, by omega, hbl1.at_ (Nat.le_refl _), fun _ => hbl1⟩
  case round =>
    clear hbl1 hb1
    obtain ⟨k, hk, rfl, hb, hgw, hbl, hbn⟩ := hrel
    by_cases hlt2 : k < N
    · have hlt' : (k : Int) < N := by omega
      have hrr := (HR.out).below_all (HG.out ▸ hb)
      obtain ⟨bb, o, rfl, hcell⟩ := hrr.cell (j := k) (by rw [List.length_map, HPN.out]; exact hlt2)
      rw [List.getElem_map] at hcell
      have hsk : ps[k]? = some (ps[k]'(by rw [HPN.out]; exact hlt2)) := List.getElem?_eq_getElem _
      obtain ⟨s, hs⟩ : ∃ s, s = ps[k]'(by rw [HPN.out]; exact hlt2) := ⟨_, rfl⟩
      rw [← hs] at hcell hsk
      obtain ⟨hs100, hrk⟩ := HGA.out k s hsk
      obtain ⟨F, hF⟩ : ∃ F, F = strB (frameL s.data.toList) := ⟨_, rfl⟩
      have hfr := fun (W : World) => frame_any W s (by omega)
      rw [← hF] at hfr
      have hFl : F.data.toList = frameL s.data.toList := by rw [hF, strB_list]
      have hFs : F.size = s.size + 12 := by rw [← toList_length, hFl, frameL_length, toList_length]
      have hnext : framesL (rs.take (k + 1)) = framesL (rs.take k) ++ F.data.toList := by
        obtain ⟨hkl, hre⟩ := List.getElem?_eq_some_iff.1 hrk
        rw [framesL_take rs k hkl, hre, hFl]
      have HWS := hid2 (show (framesL (rs.take k)).length + F.size ≤ 100000000 by have := HFL.out k; omega)
      have HFR := hid2 hfr
      have HNX := hid2 hnext
      have HBL := hid2 hbl
      have HB := hid2 hb
      clear hfr hF hFl hFs hnext hbl hb hbn hrr hs hsk hrk hs100
      go_wp2_with (first
        | (go_at_call 14; refine (HFR.out _).mono ?_; rintro e w2 ⟨rfl, hb2⟩; have HBL2 := hid2 (HBL.out.below hb2 (Nat.le_refl _)); have HB2 := hid2 (HB.out.trans (hb2.mono (by omega))); have hz2 := hb2.size; clear hb2)
        | (go_at_call 59; refine (writeString_any _ g g _ HBL2.out F HWS.out (by omega)).mono ?_; rintro e w3 ⟨rfl, hbl3, hb3⟩; have HBL3 := hid2 hbl3; have HB3 := hid2 (HB2.out.trans hb3); have hz3 := hb3.size; clear hbl3 hb3))
      go_roundg (gk - 1)
      case rel => exact ⟨k + 1, by omega, by go_num, HB3.out, by omega, by rw [HNX.out]; exact HBL3.out, fun h => by omega⟩
      case measure => omega
    · have hkN : k = N := by omega
      subst hkN
      have hlt' : ¬ (k : Int) < k := by omega
      have hall : rs.take k = rs := List.take_of_length_le (by rw [HRL.out]; exact Nat.le_refl _)
      rw [hall] at hbl
      have hfla := HFL.out k
      rw [hall] at hfla
      obtain ⟨D, hD⟩ : ∃ D : ByteArray, D = ⟨(framesL rs).toArray⟩ := ⟨_, rfl⟩
      have hDl : D.data.toList = framesL rs := by rw [hD]
      have hDs : D.size = (framesL rs).length := by rw [← toList_length, hDl]
      have hstr : ∀ W : World, (∀ q, g ≤ q → q < wr.heap.size → W.heap[q]? = wr.heap[q]?) → Calls Try.prog 48 #[.pointer (some ⟨g, 0, none⟩)] W fun e w' => e = .returned (.string D) ∧ Below g W w' := by
        intro W hk
        by_cases h0 : k = 0
        · have hnew : BldNew W g := (hk g (Nat.le_refl _) hgw).trans (hbn h0)
          have hrs0 : rs = [] := List.length_eq_zero_iff.1 (by rw [HRL.out]; exact h0)
          rw [hD, hrs0]
          exact bstring_new W g g hnew
        · obtain ⟨hbg, q, A, c, hg, hp, hown⟩ := hbl
          rw [hD]
          exact bstring_any W g g (framesL rs) ⟨hbg, q, A, c, (hk g (Nat.le_refl _) hgw).trans hg, hp, hown.keep fun x _ h1 h2 => hk x h1 h2⟩ (framesL_ne (fun h => h0 (by rw [← HRL.out, h]; rfl)))
      obtain ⟨E, hE⟩ : ∃ E, E = tidE M left (newL nm.data.toList) := ⟨_, rfl⟩
      obtain ⟨T, hT⟩ : ∃ T, T = tidM M left (newL nm.data.toList) := ⟨_, rfl⟩
      obtain ⟨L, hL⟩ : ∃ L, L = tidL M left (newL nm.data.toList) := ⟨_, rfl⟩
      have hLle : -1 ≤ L ∧ L ≤ 9223372036854775807 := by
        rw [hL]; unfold tidL
        split
        · exact begin_LJ hle _ _ _
        · exact hle
      have hTf : (fileOf T (newL nm.data.toList)).1.length ≤ 100000000 := by
        rw [hT]
        exact tid_file HF.out _ _
      have hdoes : ∀ W : World, Below g w W → Box W wr.heap.size [.func (.func 50) #[.pointer (some ⟨j, 0, none⟩)] #[]] → Calls Try.prog 49 #[.pointer (some ⟨j, 0, none⟩), .slice (some ⟨wr.heap.size, 0, none⟩) 1 1] W (WPost W j p b n nm false (E, T, L)) := by
        intro W hW hx
        have hg0 := HG.out
        have := does_tidy W j p b n nm false M left (HJ.out.keep (hW.block j (by omega))) (HD.out.below hW (by omega) (by omega)) (by omega) hle hz wr.heap.size hx
        rw [← hE, ← hT, ← hL] at this
        exact this
      have hsw : swapR M left nm.data.toList rs = if E ≠ 0 then (E, T, L) else anewR T L (newL nm.data.toList) (framesL rs) nm.data.toList := by
        unfold swapR
        rw [← hE, ← hT, ← hL]
      have HST := hid2 hstr
      have HDO := hid2 hdoes
      have HB := hid2 hb
      have hgj : j < g ∧ p < g ∧ b < g := by have := HG.out; omega
      have hwz := hb.size
      clear hstr hbl hbn hdoes hb hE hT hL hall
      by_cases hE0 : E = 0
      · subst hE0
        rw [if_neg (by simp)] at hsw
        obtain ⟨r, hr⟩ : ∃ r, r = anewR T L (newL nm.data.toList) D.data.toList nm.data.toList := ⟨_, rfl⟩
        have han := fun (W : World) (hj : JIs W j p nm false) (hd : DiskIs W p b n T L) => anew_any W j p b n nm false T L hj hd (by omega) hLle hz D (by omega) hTf
        rw [← hr] at han
        rw [← hDl, ← hr] at hsw
        have HAN := hid2 han
        have HSW := hid2 hsw
        clear han hr hDl hD hDs hsw
        go_wp2_with (first
          | (go_at_call 49; refine (HDO.out _ (HB.out.alloc (by omega) _) (Box.new' _ _ _ rfl)).mono ?_; rintro e w2 ⟨rfl, hd2, hj2, hb2⟩; have HD2 := hid2 hd2; have HJ2 : Hid2 (JIs w2 j p nm false) := hid2 hj2; have HB2 := hid2 ((JBut.of_below (HG.out ▸ HB.out.alloc (by omega) _)).trans hb2); have HS2 := hid2 (HST.out w2 (fun q h1 h2 => (hb2.block q (by simp; omega) (by omega) (by omega) (by omega)).trans (Below.heap_alloc _ _ q h2))); have hz2 := hb2.size; clear hd2 hj2 hb2)
          | (go_at_call 48; refine HS2.out.mono ?_; rintro e w3 ⟨rfl, hb3⟩; have HD3 := hid2 (HD2.out.below hb3 (by omega) (by omega)); have HJ3 := hid2 (HJ2.out.keep (hb3.block j (by omega))); have HB3 : Hid2 (Below w.heap.size w2 w3) := hid2 (HG.out ▸ hb3); clear hb3)
          | (go_at_call 53; refine (HAN.out _ HJ3.out HD3.out).mono ?_; rintro e w4 ⟨rfl, hd4, hj4, hb4⟩; have HD4 := hid2 hd4; have HJ4 := hid2 hj4; have HB4 := hid2 hb4; clear hd4 hj4 hb4))
        go_ret
        show WPost w j p b (n + 3) nm false (swapR M left nm.data.toList rs) _ _
        rw [HSW.out]
        exact ⟨rfl, HD4.out, HJ4.out, (HB2.out.low HB3.out).trans HB4.out⟩
      · have hE0' : (E == 0) = false := by simpa using hE0
        rw [if_pos hE0] at hsw
        have HSW := hid2 hsw
        have HE0 := hid2 hE0
        clear hE0 hDl hD hDs hsw
        go_wp2_with (go_at_call 49; refine (HDO.out _ (HB.out.alloc (by omega) _) (Box.new' _ _ _ rfl)).mono ?_; rintro e w2 ⟨rfl, hd2, hj2, hb2⟩; have HD2 := hid2 hd2; have HJ2 := hid2 hj2; have HB2 := hid2 ((JBut.of_below (HG.out ▸ HB.out.alloc (by omega) _)).trans hb2); clear hd2 hj2 hb2)
        go_ret
        show WPost w j p b (n + 3) nm false (swapR M left nm.data.toList rs) _ _
        rw [HSW.out]
        exact ⟨rfl, HD2.out.mono (by omega), HJ2.out, HB2.out⟩
end Go.Proofs.Ytkadailbfeeamaa
