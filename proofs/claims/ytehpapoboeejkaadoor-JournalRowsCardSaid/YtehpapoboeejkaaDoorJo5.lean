/- A journal's Open: the walk. -/
import Derived.Test.YtehpapoboeejkaaDoorJo4
import Derived.Test.YtehpapoboeejkaaDoorJp7
namespace Go.Proofs.YtehpapoboeejkaaDoor
open Go.RowKit Go.Maps
theorem does_tidy (W : World) (j p b n : Nat) (nm : ByteArray) (br : Bool) (M : Tab FileE) (left : Int) (hj : JIs W j p nm br) (h : DiskIs W p b n M left) (hn : n ≤ 900000) (hle : -1 ≤ left ∧ left ≤ 9223372036854775807) (hz : nm.size ≤ 1000000) (gr : Nat) (hx : Box W gr [.func (.func 15) #[.pointer (some ⟨j, 0, none⟩)] #[]]) :
    Calls Tryd.prog 14 #[.pointer (some ⟨j, 0, none⟩), .slice (some ⟨gr, 0, none⟩) 1 1] W (WPost W j p b n nm br (tidE M left (newL nm.data.toList), tidM M left (newL nm.data.toList), tidL M left (newL nm.data.toList))) := by
  have hlt := h.lt
  have hne := hj.ne h
  have hd' := does_any W j (some ⟨gr, 0, none⟩) 1 [⟨15, #[.pointer (some ⟨j, 0, none⟩)], #[]⟩] (by simp) (fun i V => if i = 0 then V = W else tidE M left (newL nm.data.toList) = 0 ∧ Stage W p b n (tidM M left (newL nm.data.toList)) (tidL M left (newL nm.data.toList)) V) (fun E V => tidE M left (newL nm.data.toList) = E ∧ E ≠ 0 ∧ Stage W p b n (tidM M left (newL nm.data.toList)) (tidL M left (newL nm.data.toList)) V) rfl ?_ ?_ ?_ ?_
  · refine hd'.mono fun e w' hh => does_end hj (Below.refl _ _) hj.lt hlt.1 hlt.2 hne (fun V hI => ?_) (fun E V hX => ⟨hX.1, hX.2.2⟩) hh
    rw [if_neg (by simp)] at hI
    exact hI
  · intro i V hI
    have hv : Box V gr [.func (.func 15) #[.pointer (some ⟨j, 0, none⟩)] #[]] := by
      by_cases h0 : i = 0
      · rw [if_pos h0] at hI; rw [hI]; exact hx
      · rw [if_neg h0] at hI
        refine hx.butJ hI.2.but (fun e => ?_) (fun e => ?_)
        · subst e
          obtain ⟨t, ht⟩ := hx
          have := h.1
          rw [ht] at this
          injection this with this
          injection this with h1
          simp at h1
        · subst e
          obtain ⟨t, ht⟩ := hx
          obtain ⟨es, clock, hh, _⟩ := h.2
          rw [ht] at hh
          cases hh
    refine ⟨rfl, fun _ => ⟨_, _, rfl, fun q u hu => ?_⟩⟩
    rw [Nat.zero_add, hv.cells q]
    exact hu
  · intro x hx
    simp only [List.mem_cons, List.not_mem_nil, or_false] at hx
    subst hx
    exact enters_of Tryd.func15 (by kernel_rfl) rfl
  · intro i x hx V hI
    match i, hx, hI with
    | 0, hx, hI =>
      obtain rfl := Option.some.inj hx
      rw [if_pos rfl] at hI
      subst hI
      refine (tidy_any V j p b n nm br M left hj h (by omega) hle hz).mono fun e w' ⟨he, hd2, hb2⟩ => ⟨_, he, ?_⟩
      by_cases h0 : tidE M left (newL nm.data.toList) = 0
      · refine .inl ⟨h0, ?_⟩
        rw [if_neg (by decide)]
        exact ⟨h0, hd2, hb2⟩
      · exact .inr ⟨h0, rfl, h0, hd2, hb2⟩
    | i + 1, hx, _ => simp at hx
  · intro E V hX
    have hb := hX.2.2.but
    exact ⟨_, _, _, (hj.keep (hb.block j hj.lt hne.1 hne.2)).box⟩
/-- what Open answers, and leaves -/
def openR (M : Tab FileE) (left : Int) (nm : List UInt8) : Int × List (List UInt8) × Tab FileE × Int :=
  let T := tidM M left (newL nm)
  let L := tidL M left (newL nm)
  if tidE M left (newL nm) ≠ 0 then (tidE M left (newL nm), [], T, L)
  else match getM T nm with
    | none => (0, [], T, L)
    | some f => if (scanL f.1).2 < f.1.length then
        (let r := anewR T L (newL nm) (f.1.take (scanL f.1).2) nm
         if r.1 ≠ 0 then (r.1, [], r.2.1, r.2.2) else (0, (scanL f.1).1, r.2.1, r.2.2))
      else (0, (scanL f.1).1, T, L)
def OpenPost (w : World) (p b n : Nat) (nm : ByteArray) (r : Int × List (List UInt8) × Tab FileE × Int) (e : Ending) (w' : World) : Prop :=
  ∃ (jv : Value) (A : Option Addr) (c : Nat), e = .returned (.tuple #[jv, .slice A r.2.1.length c, .int .i64 r.1]) ∧ Own w' w.heap.size 9 1 A r.2.1.length c (strV r.2.1) ∧ DiskIs w' p b n r.2.2.1 r.2.2.2 ∧ But p b w w' ∧
    (r.1 = 0 → ∃ j, jv = .pointer (some ⟨j, 0, none⟩) ∧ JIs w' j p nm false ∧ w.heap.size ≤ j) ∧ (r.1 ≠ 0 → jv = .pointer none)
theorem results_tmp3 {fn : Func} {t u v : Tmp} (h : fn.results = #[.tmp t, .tmp u, .tmp v]) (tmps : Array Value) (P : Program) (w : World) :
    (results fn tmps).run P w = .ok (.tuple #[tmps.getD t undef, tmps.getD u undef, tmps.getD v undef]) w := by
  simp [results, h]
theorem Own.jbut {w w' : World} {base sz n c j p b : Nat} {t : TypeId} {A : Option Addr} {xs : List Value} (h : Own w base t sz A n c xs) (hb : JBut j p b w w') (h1 : j < base) (h2 : p < base) (h3 : b < base) : Own w' base t sz A n c xs :=
  h.keep fun q _ hq hlt => hb.block q hlt (by omega) (by omega) (by omega)
theorem scanL_le (b : List UInt8) : (scanL b).2 ≤ b.length := by
  have h : ∀ k, (scanK b k).2 ≤ b.length := by
    intro k
    induction k with
    | zero => exact Nat.zero_le _
    | succ k ih =>
      cases h : firstL (b.drop (scanK b k).2) with
      | none => rw [scanK_none h 1]; exact ih
      | some r =>
        rw [scanK_some h]
        have := (firstL_some h).2
        rw [List.length_drop] at this
        show (scanK b k).2 + (12 + r.length) ≤ _
        omega
  exact h _
theorem JBut.but {j p b : Nat} {w W w' : World} (h : Below w.heap.size w W) (k : JBut j p b W w') (hj : w.heap.size ≤ j) : But p b w w' :=
  ⟨k.os.trans h.os, k.tape.trans h.tape, k.output.trans h.output, Nat.le_trans h.size k.size, fun i h1 h2 h3 => (k.block i (Nat.lt_of_lt_of_le h1 h.size) (by omega) h2 h3).trans (h.block i h1)⟩
set_option maxRecDepth 100000 in
set_option maxHeartbeats 2000000 in
theorem open_any (w : World) (p b n : Nat) (M : Tab FileE) (left : Int) (h : DiskIs w p b n M left) (hn : n ≤ 800000) (hle : -1 ≤ left ∧ left ≤ 9223372036854775807) (nm : ByteArray) (h0 : nm.toList.isEmpty = false) (hz : nm.size ≤ 1000000)
    (hf : ∀ x ∈ M, x.2.1.length ≤ 1000000) :
    Calls Tryd.prog 6 #[.pointer (some ⟨p, 0, none⟩), .string nm] w (OpenPost w p b (n + 3) nm (openR M left nm.data.toList)) := by
  have hlt := h.lt
  obtain ⟨g, hg⟩ : ∃ g, g = w.heap.size := ⟨_, rfl⟩
  obtain ⟨W1, hW1⟩ : ∃ W1, W1 = (w.alloc (.cells #[.pointer (some ⟨p, 0, none⟩), .string nm, .bool false] 46)).alloc (.cells #[.func (.func 15) #[.pointer (some ⟨g, 0, none⟩)] #[]] 48) := ⟨_, rfl⟩
  have hj1 : JIs W1 g p nm false := by
    rw [hW1, hg]
    exact (Below.heap_alloc _ _ _ (by simp)).trans (heap_alloc_new w _)
  have hx1 : Box W1 (g + 1) [.func (.func 15) #[.pointer (some ⟨g, 0, none⟩)] #[]] := by rw [hW1]; exact Box.new' _ _ _ (by simp [hg])
  have hb1 : Below g w W1 := by rw [hW1, hg]; exact ((Below.refl _ _).alloc (Nat.le_refl _) _).alloc (by simp) _
  have hd1 : DiskIs W1 p b n M left := h.below hb1 (by omega) (by omega)
  have htid := does_tidy W1 g p b n nm false M left hj1 hd1 (by omega) hle hz (g + 1) hx1
  obtain ⟨E, hE⟩ : ∃ E, E = tidE M left (newL nm.data.toList) := ⟨_, rfl⟩
  obtain ⟨T, hT⟩ : ∃ T, T = tidM M left (newL nm.data.toList) := ⟨_, rfl⟩
  obtain ⟨L, hL⟩ : ∃ L, L = tidL M left (newL nm.data.toList) := ⟨_, rfl⟩
  have hLle : -1 ≤ L ∧ L ≤ 9223372036854775807 := by
    rw [hL]; unfold tidL
    split
    · exact begin_LJ hle _ _ _
    · exact hle
  have hTf : ∀ x ∈ T, x.2.1.length ≤ 1000000 := by
    rw [hT]; unfold tidM
    split
    · unfold remM
      split
      · exact fun x hx => hf x (List.mem_filter.1 hx).1
      · exact hf
    · exact hf
  unfold openR
  rw [← hE, ← hT, ← hL] at htid ⊢
  have hbw : ∀ W, JBut g p b W1 W → But p b w W := fun W hk => hk.but (by rw [← hg]; exact hb1) (by omega)
  have HTID := hid2 htid
  have HW1 := hid2 hW1
  have HG := hid2 hg
  have HBW := hid2 hbw
  clear hE hT hL htid hj1 hx1 hd1 h hf hW1 hg hbw
  by_cases hE0 : E = 0
  · subst hE0
    simp only [ne_eq, not_true_eq_false, if_false]
    cases hg1 : getM T nm.data.toList with
    | none =>
      have hcall := fun (W : World) (hj : JIs W g p nm false) (hd : DiskIs W p b n T L) => there_any W g p b n nm false T L hj hd (by omega) nm (v := false) (by rw [hg1]; rfl)
      simp only
      have HC := hid2 hcall
      clear hcall hg1
      go_enter Tryd.func6, Tryd.ntmps6
      go_wp2_with (first
        | (go_at_call 14; rw [← HG.out, ← HW1.out]; refine HTID.out.mono ?_; rintro e w2 ⟨rfl, hd2, hj2, hb2⟩; have HD2 := hid2 hd2; have HJ2 : Hid2 (JIs w2 g p nm false) := hid2 hj2; have HB2 := hid2 hb2; clear hd2 hj2 hb2)
        | (go_at_call 16; refine (HC.out _ HJ2.out HD2.out).mono ?_; rintro e w3 ⟨rfl, hb3⟩; have HB3 := hid2 hb3; clear hb3))
      ((try simp only [Exit.inBlock, Exit.then]); refine bodyPost_ret (results_tmp3 rfl _ _ _) rfl ?_)
      have h2 := HD2.out.lt
      exact ⟨_, none, 0, rfl, Own.nil _ _ _ _, (HD2.out.below HB3.out h2.1 h2.2).mono (by omega), HBW.out _ (HB2.out.trans (JBut.of_below HB3.out)), fun _ => ⟨g, rfl, HJ2.out.keep (HB3.out.block g HJ2.out.lt), by have := HG.out; omega⟩, fun h => absurd rfl h⟩
    | some f =>
      have hcall := fun (W : World) (hj : JIs W g p nm false) (hd : DiskIs W p b n T L) => there_any W g p b n nm false T L hj hd (by omega) nm (v := true) (by rw [hg1]; rfl)
      have hread := fun (W : World) (hd : DiskIs W p b n T L) => read_at W p b n T L hd nm rfl (by rw [toList_length]; omega) (v := .tuple #[.string (strB f.1), .int .i64 0]) (by unfold readV; rw [hg1])
      simp only
      obtain ⟨F, hF⟩ : ∃ F, F = strB f.1 := ⟨_, rfl⟩
      have hFl : F.data.toList = f.1 := by rw [hF, strB_list]
      have hfl : f.1.length ≤ 1000000 := by
        unfold getM at hg1
        obtain ⟨x, hx, rfl⟩ := Option.map_eq_some_iff.1 hg1
        exact hTf x (List.mem_of_find?_eq_some hx)
      have hFs : F.size = f.1.length := by rw [← toList_length, hFl]
      have hsc := fun (W : World) => scan_any W F (by omega)
      unfold SPost at hsc
      rw [hFl] at hsc
      obtain ⟨k, hk⟩ : ∃ k, k = (scanL f.1).2 := ⟨_, rfl⟩
      obtain ⟨R, hR⟩ : ∃ R, R = (scanL f.1).1 := ⟨_, rfl⟩
      have hle2 : (scanL f.1).2 ≤ f.1.length := scanL_le f.1
      rw [← hF] at hread
      rw [← hk] at hsc hle2 ⊢
      rw [← hR] at hsc ⊢
      have HC := hid2 hcall
      have HR := hid2 hread
      have HSC := hid2 hsc
      have HFS := hid2 hFs
      have HTF := hid2 hTf
      by_cases hcut : k < f.1.length
      · rw [if_pos hcut]
        have hcut' : (k : Int) < F.size := by omega
        have hk0 : (0 : Int) ≤ k := by omega
        have hk1 : (k : Int) ≤ F.size := by omega
        obtain ⟨Q, hQ⟩ : ∃ Q, Q = F.extract 0 k := ⟨_, rfl⟩
        have hQl : Q.data.toList = f.1.take k := by
          rw [hQ, ByteArray.data_extract, Array.toList_extract, hFl, List.extract_eq_take_drop]
          simp
        have han := fun (W : World) (hj : JIs W g p nm false) (hd : DiskIs W p b n T L) => anew_any W g p b n nm false T L hj hd (by omega) hLle hz Q (by rw [← toList_length, hQl, List.length_take]; omega) (by
          unfold fileOf
          cases hq : getM T (newL nm.data.toList) with
          | none => simp
          | some y =>
            unfold getM at hq
            obtain ⟨x, hx, rfl⟩ := Option.map_eq_some_iff.1 hq
            have := hTf x (List.mem_of_find?_eq_some hx)
            show x.2.1.length ≤ _
            omega)
        rw [hQl] at han
        obtain ⟨r, hr⟩ : ∃ r, r = anewR T L (newL nm.data.toList) (f.1.take k) nm.data.toList := ⟨_, rfl⟩
        rw [← hr] at han ⊢
        have HQ := hid2 hQ
        have HAN := hid2 han
        clear hcall hread hsc hg1 hF hFl hFs hTf han hQ hQl hr hk hR hcut
        by_cases hr0 : r.1 = 0
        · rw [if_neg (fun h => h hr0)]
          have HR0 := hid2 hr0
          clear hr0
          go_enter Tryd.func6, Tryd.ntmps6
          go_wp2_with (first
            | (go_at_call 14; rw [← HG.out, ← HW1.out]; refine HTID.out.mono ?_; rintro e w2 ⟨rfl, hd2, hj2, hb2⟩; have HD2 := hid2 hd2; have HJ2 : Hid2 (JIs w2 g p nm false) := hid2 hj2; have HB2 := hid2 hb2; clear hd2 hj2 hb2)
            | (go_at_call 16; refine (HC.out _ HJ2.out HD2.out).mono ?_; rintro e w3 ⟨rfl, hb3⟩; have h2 := HD2.out.lt; have HD3 := hid2 (HD2.out.below hb3 h2.1 h2.2); have HJ3 := hid2 (HJ2.out.keep (hb3.block g HJ2.out.lt)); have HB3 := hid2 (HB2.out.trans (JBut.of_below hb3)); clear hb3 h2)
            | (go_at_call 17; refine (HR.out _ HD3.out).mono ?_; rintro e w4 ⟨rfl, hb4⟩; have h2 := HD3.out.lt; have HD4 := hid2 (HD3.out.below hb4 h2.1 h2.2); have HJ4 := hid2 (HJ3.out.keep (hb4.block g HJ3.out.lt)); have HB4 := hid2 (HB3.out.trans (JBut.of_below hb4)); clear hb4 h2)
            | (go_at_call 18; refine (HSC.out _).mono ?_; rintro e w5 ⟨A, c, rfl, ho, hb5⟩; have h2 := HD4.out.lt; have hjl4 := HJ4.out.lt; have HO := hid2 ho; have HD5 := hid2 (HD4.out.below hb5 h2.1 h2.2); have HJ5 := hid2 (HJ4.out.keep (hb5.block g HJ4.out.lt)); have HB5 := hid2 (HB4.out.trans (JBut.of_below hb5)); clear hb5 h2 ho)
            | (go_at_call 19; rw [← HQ.out]; refine (HAN.out _ HJ5.out HD5.out).mono ?_; rintro e w6 ⟨rfl, hd6, hj6, hb6⟩; rw [HR0.out] at hj6 ⊢; have HD6 := hid2 hd6; have HJ6 : Hid2 (JIs w6 g p nm false) := hid2 hj6; have HB6 := hid2 hb6; clear hd6 hj6 hb6))
          ((try simp only [Exit.inBlock, Exit.then]); refine bodyPost_ret (results_tmp3 rfl _ _ _) rfl ?_)
          have hz1 := HB4.out.size
          have hz0 := hb1.size
          have hgg := HG.out
          exact ⟨_, A, c, rfl, (HO.out.jbut HB6.out (by omega) (by omega) (by omega)).mono (by omega), HD6.out, HBW.out _ (HB5.out.trans HB6.out), fun _ => ⟨g, rfl, HJ6.out, by omega⟩, fun h => absurd rfl h⟩
        · rw [if_pos hr0]
          have hr0' : (r.1 == 0) = false := by simpa using hr0
          have HR0 := hid2 hr0
          clear hr0
          go_enter Tryd.func6, Tryd.ntmps6
          go_wp2_with (first
            | (go_at_call 14; rw [← HG.out, ← HW1.out]; refine HTID.out.mono ?_; rintro e w2 ⟨rfl, hd2, hj2, hb2⟩; have HD2 := hid2 hd2; have HJ2 : Hid2 (JIs w2 g p nm false) := hid2 hj2; have HB2 := hid2 hb2; clear hd2 hj2 hb2)
            | (go_at_call 16; refine (HC.out _ HJ2.out HD2.out).mono ?_; rintro e w3 ⟨rfl, hb3⟩; have h2 := HD2.out.lt; have HD3 := hid2 (HD2.out.below hb3 h2.1 h2.2); have HJ3 := hid2 (HJ2.out.keep (hb3.block g HJ2.out.lt)); have HB3 := hid2 (HB2.out.trans (JBut.of_below hb3)); clear hb3 h2)
            | (go_at_call 17; refine (HR.out _ HD3.out).mono ?_; rintro e w4 ⟨rfl, hb4⟩; have h2 := HD3.out.lt; have HD4 := hid2 (HD3.out.below hb4 h2.1 h2.2); have HJ4 := hid2 (HJ3.out.keep (hb4.block g HJ3.out.lt)); have HB4 := hid2 (HB3.out.trans (JBut.of_below hb4)); clear hb4 h2)
            | (go_at_call 18; refine (HSC.out _).mono ?_; rintro e w5 ⟨A, c, rfl, ho, hb5⟩; have h2 := HD4.out.lt; have hjl4 := HJ4.out.lt; have HO := hid2 ho; have HD5 := hid2 (HD4.out.below hb5 h2.1 h2.2); have HJ5 := hid2 (HJ4.out.keep (hb5.block g HJ4.out.lt)); have HB5 := hid2 (HB4.out.trans (JBut.of_below hb5)); clear hb5 h2 ho)
            | (go_at_call 19; rw [← HQ.out]; refine (HAN.out _ HJ5.out HD5.out).mono ?_; rintro e w6 ⟨rfl, hd6, hj6, hb6⟩; have HD6 := hid2 hd6; clear hj6; have HB6 := hid2 hb6; clear hd6 hb6))
          ((try simp only [Exit.inBlock, Exit.then]); refine bodyPost_ret (results_tmp3 rfl _ _ _) rfl ?_)
          exact ⟨_, none, 0, rfl, Own.nil _ _ _ _, HD6.out, HBW.out _ (HB5.out.trans HB6.out), fun h => absurd h HR0.out, fun _ => rfl⟩
      · rw [if_neg hcut]
        have hcut' : ¬ (k : Int) < F.size := by omega
        clear hcall hread hsc hg1 hF hFl hFs hTf hk hR hcut
        go_enter Tryd.func6, Tryd.ntmps6
        go_wp2_with (first
          | (go_at_call 14; rw [← HG.out, ← HW1.out]; refine HTID.out.mono ?_; rintro e w2 ⟨rfl, hd2, hj2, hb2⟩; have HD2 := hid2 hd2; have HJ2 : Hid2 (JIs w2 g p nm false) := hid2 hj2; have HB2 := hid2 hb2; clear hd2 hj2 hb2)
          | (go_at_call 16; refine (HC.out _ HJ2.out HD2.out).mono ?_; rintro e w3 ⟨rfl, hb3⟩; have h2 := HD2.out.lt; have HD3 := hid2 (HD2.out.below hb3 h2.1 h2.2); have HJ3 := hid2 (HJ2.out.keep (hb3.block g HJ2.out.lt)); have HB3 := hid2 (HB2.out.trans (JBut.of_below hb3)); clear hb3 h2)
          | (go_at_call 17; refine (HR.out _ HD3.out).mono ?_; rintro e w4 ⟨rfl, hb4⟩; have h2 := HD3.out.lt; have HD4 := hid2 (HD3.out.below hb4 h2.1 h2.2); have HJ4 := hid2 (HJ3.out.keep (hb4.block g HJ3.out.lt)); have HB4 := hid2 (HB3.out.trans (JBut.of_below hb4)); clear hb4 h2)
          | (go_at_call 18; refine (HSC.out _).mono ?_; rintro e w5 ⟨A, c, rfl, ho, hb5⟩; have h2 := HD4.out.lt; have hjl4 := HJ4.out.lt; have HO := hid2 ho; have HD5 := hid2 (HD4.out.below hb5 h2.1 h2.2); have HJ5 := hid2 (HJ4.out.keep (hb5.block g HJ4.out.lt)); have HB5 := hid2 (HB4.out.trans (JBut.of_below hb5)); clear hb5 h2 ho))
        ((try simp only [Exit.inBlock, Exit.then]); refine bodyPost_ret (results_tmp3 rfl _ _ _) rfl ?_)
        have hz1 := HB4.out.size
        have hz0 := hb1.size
        have hgg := HG.out
        exact ⟨_, A, c, rfl, HO.out.mono (by omega), HD5.out.mono (by omega), HBW.out _ HB5.out, fun _ => ⟨g, rfl, HJ5.out, by omega⟩, fun h => absurd rfl h⟩
  · have hE0' : (E == 0) = false := by simpa using hE0
    rw [if_pos hE0]
    have HE0 := hid2 hE0
    clear hE0
    go_enter Tryd.func6, Tryd.ntmps6
    go_wp2_with (go_at_call 14; rw [← HG.out, ← HW1.out]; refine HTID.out.mono ?_; rintro e w2 ⟨rfl, hd2, hj2, hb2⟩; have HD2 := hid2 hd2; have HB2 := hid2 hb2; clear hd2 hj2 hb2)
    ((try simp only [Exit.inBlock, Exit.then]); refine bodyPost_ret (results_tmp3 rfl _ _ _) rfl ?_)
    exact ⟨_, none, 0, rfl, Own.nil _ _ _ _, HD2.out.mono (by omega), HBW.out _ HB2.out, fun h => absurd h HE0.out, fun _ => rfl⟩
end Go.Proofs.YtehpapoboeejkaaDoor
