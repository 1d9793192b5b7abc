/- The walk of ConfigOthers. -/
import Derived.Test.YthefhfnmkjdekaaDoorVs4
namespace Go.Proofs.YthefhfnmkjdekaaDoor
open Go.RowKit
set_option maxRecDepth 100000
theorem Own.spotk {w : World} {base sz n c : Nat} {t : TypeId} {A : Option Addr} {xs : List Value} (h : Own w base t sz A n c xs) {j : Nat} (hj : j < n * sz) : ∃ b o u, A = some ⟨b, o, none⟩ ∧ base ≤ b ∧ b < w.heap.size ∧ xs[j]? = some u ∧ w.cell? ⟨b, o + j, none⟩ = some u ∧ w.frozen? ⟨b, o + j, none⟩ = false ∧
    ∀ v, Own (w.setCell ⟨b, o + j, none⟩ v) base t sz A n c (xs.set j v) := by
  have hl := h.1
  have hn := h.2.1
  have hm := h.2.2.1
  have hnz : 0 < n := by
    rcases Nat.eq_zero_or_pos n with h0 | h0
    · rw [h0] at hj; omega
    · exact h0
  have hnc : n * sz ≤ c * sz := Nat.mul_le_mul_right _ hn
  obtain ⟨b, o, cur, fr, rfl, hb, hg, hf, hs, hx⟩ := h.at_ (by omega)
  have hjo : o + j < cur.size := by omega
  have hjl : j < xs.length := by omega
  refine ⟨b, o, xs[j], rfl, hb, heap_lt hg, List.getElem?_eq_getElem hjl, ?_, hf.cell hg hjo, fun v => ?_⟩
  · rw [cell_of_row w b _ cur t _ hg, hx j hj, List.getElem?_eq_getElem]
  · rw [setCell_eq_setRow w b (o + j) cur t fr v hg]
    refine ⟨by rw [List.length_set]; exact hl, hn, hm, .inr ⟨b, o, cur.setIfInBounds (o + j) v, fr, rfl, hb, setRow_heap w b cur _ t _ hg, by rw [Array.size_setIfInBounds]; exact hf, by rw [Array.size_setIfInBounds]; exact hs, fun i hi => ?_⟩⟩
    rw [Array.getElem?_setIfInBounds, List.getElem?_set]
    by_cases hij : j = i
    · subst hij
      have : j < xs.length := by omega
      simp [hjo, this]
    · rw [if_neg (by omega), if_neg hij, hx i hi]
theorem getE_other {nm o : Tx} : ∀ (l : List SetE) (i : Nat) (p : SetE), l[i]? = some p → p.1 ≠ nm → getE (l.set i (p.1, o)) nm = getE l nm
  | [], _, _, h, _ => by cases h
  | a :: l, 0, p, h, hne => by
    cases h
    have h1 : (a.1 == nm) = false := by simpa using hne
    simp [getE, h1]
  | a :: l, i + 1, p, h, hne => by
    have ih := getE_other (o := o) l i p (by simpa using h) hne
    rw [List.set_cons_succ]
    cases h1 : a.1 == nm with
    | true => simp [getE, h1]
    | false =>
      simp only [getE, List.find?_cons, h1] at ih ⊢
      exact ih
theorem selR_other {l l' : List SetE} {nm : Tx} (h : getE l' nm = getE l nm) (h1 : checkE l = 0) (h2 : checkE l' = 0) (v : VT) (AX : Nat → VA) : selR l' nm v AX = selR l nm v AX := by
  have h3 : selI l' nm v = selI l nm v := by rw [selI, selI, h]
  have h4 : selC l' nm v = selC l nm v := by rw [selC, selC, h3, h1, h2]
  rw [selR, selR, h4]
theorem setsV_set : ∀ (l : List SetE) (i : Nat) (p : SetE) (o : Tx), l[i]? = some p → (setsV l).set (i * 2 + 1) (.string (strB o)) = setsV (l.set i (p.1, o))
  | [], _, _, _, h => by cases h
  | a :: l, 0, p, o, h => by
    cases h
    simp [setsV]
  | a :: l, i + 1, p, o, h => by
    have ih := setsV_set l i p o (by simpa using h)
    have e1 : setsV (a :: l) = .string (strB a.1) :: .string (strB a.2) :: setsV l := rfl
    have e2 : setsV (a :: l.set i (p.1, o)) = .string (strB a.1) :: .string (strB a.2) :: setsV (l.set i (p.1, o)) := rfl
    rw [List.set_cons_succ, e1, e2, ← ih, show (i + 1) * 2 + 1 = (i * 2 + 1) + 1 + 1 by omega, List.set_cons_succ, List.set_cons_succ]
theorem setsV_oneCell (l : List SetE) : ∀ v ∈ setsV l, v.oneCell' = true := fun v hv => by
  rw [setsV, List.mem_flatMap] at hv
  obtain ⟨p, _, hp⟩ := hv
  simp at hp
  rcases hp with rfl | rfl <;> rfl
theorem short_set {l : List SetE} (h : Short l) {i : Nat} {p : SetE} (hp : l[i]? = some p) {o : Tx} (ho : o.length ≤ 1000000) : Short (l.set i (p.1, o)) := by
  intro q hq
  rcases List.mem_or_eq_of_mem_set hq with hq | rfl
  · exact h q hq
  · exact ⟨(h p (List.mem_of_getElem? hp)).1, ho⟩
theorem setsV_at0 {l : List SetE} {i : Nat} {p : SetE} (hp : l[i]? = some p) {u : Value} : (setsV l)[i * 2]? = some u ↔ u = .string (strB p.1) := by
  rw [(setsV_get hp).1]
  exact ⟨fun h => (Option.some.inj h).symm, fun h => by rw [h]⟩
set_option maxHeartbeats 2000000 in
theorem cfgothers_any (w : World) (A : Option Addr) (c : Nat) (l : List SetE) (hl : l.length ≤ maxLen) (hr : Rd w 2 A l.length (setsV l)) (N : ByteArray) (k : Nat) (hk : k ≤ 255) (O : ByteArray) (v : VT) (a : VA) (h : VAt w v a) (hM : MaxL w) :
    Calls Tryd.prog 6 #[.slice A l.length c, .string N, .int .u8 k, .string O, .agg (vV v a)] w fun e w' => e = .returned (.bool true) ∧ Below w.heap.size w w' := by
  obtain ⟨hbx0, hb0⟩ := box_value w v a h
  obtain ⟨W1, hW1⟩ : ∃ W1, W1 = w.alloc (.cells (vV v a) 40) := ⟨_, rfl⟩
  have hsz1 : W1.heap.size = w.heap.size + 1 := by rw [hW1]; exact World.size_alloc ..
  have q := hbx0.five
  rw [← hW1] at hbx0 hb0
  have bxc := fun (W : World) (hb : Below W1.heap.size W1 W) => (hbx0.below hb).five
  have cG := rgreat_any W1 A c l hl (hr.below_all hb0)
  have cV := fun (W : World) (hb : Below W1.heap.size W1 W) => vgreat_some W v a (hbx0.below hb).at_
  have cF := fun (W : World) (hb : Below W1.heap.size W1 W) => fixed_any W (hM.on (hb0.trans (hb.mono hb0.size)))
  have hrd := fun (W : World) (hb : Below W1.heap.size W1 W) => hr.below_all (hb0.trans (hb.mono hb0.size))
  rw [vV_eq] at cV q hW1 ⊢
  obtain ⟨g, hg⟩ : ∃ g, g = w.heap.size := ⟨_, rfl⟩
  rw [← hg] at bxc hsz1
  have howa : ∀ (W : World), Below W1.heap.size W1 W → Own (W.alloc (.cells #[] 31)) (g + 1) 31 2 (some ⟨W.heap.size, 0, none⟩) 0 0 [] := fun W hb => Own.lit W #[] 31 2 0 (g + 1) (by rw [← hsz1]; exact hb.size) (by decide) rfl
  obtain ⟨n, hn⟩ : ∃ n, n = v.l.length := ⟨_, rfl⟩
  obtain ⟨nk, hnk⟩ : ∃ n, n = v.ks.length := ⟨_, rfl⟩
  obtain ⟨S, hS⟩ : ∃ S, S = strB v.s := ⟨_, rfl⟩
  have hlL := h.lenL
  have hlK := h.lenK
  rw [← hn] at hlL
  rw [← hnk] at hlK
  unfold maxLen at hlL hlK
  have HZ : Hid2 (g + 1 ≤ W1.heap.size) := hid2 (by omega)
  have HZ2 : Hid2 (g + 1 = W1.heap.size) := hid2 (by omega)
  have HG := hid2 hg
  have HB := hid2 hb0
  have HW := hid2 hW1
  have CF := hid2 cF
  have HRD := hid2 hrd
  have OWA := hid2 howa
  have HX0 := hid2 hbx0
  have HAT := hid2 h
  have hkk : (0 : Int) ≤ k := by omega
  have hkk2 : (k : Int) ≤ 255 := by omega
  clear howa hsz1 hrd
  cases hgr : greatE l with
  | true =>
    rw [hgr] at cG
    have CG := hid2 cG
    rw [← hn, ← hnk, ← hS] at q hW1 ⊢
    have HW := hid2 hW1
    obtain ⟨q0, q1, q2, q3, q4⟩ := q
    clear cG hW1 hb0 hbx0 hr hM h cF cV bxc hgr hg hn hnk hS
    go_enter Tryd.func6, Tryd.ntmps6
    go_wp2_with (first
      | (go_at_call 7; rw [← HW.out]; refine CG.out.mono ?_; rintro e w1 ⟨rfl, hw⟩; subst w1)
      | (go_at_call 9; refine (CF.out _ (Below.refl _ _)).mono ?_; rintro e w2 ⟨rfl, hb2⟩))
    go_ret
    exact ⟨rfl, HB.out.trans (hb2.mono HB.out.size)⟩
  | false =>
    rw [hgr] at cG
    have CG := hid2 cG
    by_cases hearly : l.length = 0 ∨ 100 < N.size ∨ 100 < O.size
    · obtain ⟨ln, hln⟩ : ∃ ln, ln = l.length := ⟨_, rfl⟩
      rw [← hln] at hearly cG hl ⊢
      have CG := hid2 cG
      have hln30 : ln ≤ 30 := by rw [hln]; exact (short_great hgr).1
      rw [← hn, ← hnk, ← hS] at q hW1 ⊢
      have HW := hid2 hW1
      obtain ⟨q0, q1, q2, q3, q4⟩ := q
      clear cG hW1 hb0 hbx0 hr hM h cF cV bxc hgr hg hn hnk hS hln
      by_cases h0 : ln = 0
      · subst h0
        go_enter Tryd.func6, Tryd.ntmps6
        go_wp2_with (first
          | (go_at_call 7; rw [← HW.out, ← HG.out]; refine CG.out.mono ?_; rintro e w1 ⟨rfl, hw⟩; subst w1)
          | (go_at_call 9; refine (CF.out _ (Below.refl _ _)).mono ?_; rintro e w2 ⟨rfl, hb2⟩))
        go_ret
        exact ⟨rfl, HB.out.trans (hb2.mono HB.out.size)⟩
      · have h0i : (ln : Int) ≠ 0 := by omega
        by_cases h100 : 100 < N.size
        · have h1i : (100 : Int) < N.size := by omega
          clear hearly
          go_enter Tryd.func6, Tryd.ntmps6
          go_wp2_with (first
            | (go_at_call 7; rw [← HW.out, ← HG.out]; refine CG.out.mono ?_; rintro e w1 ⟨rfl, hw⟩; subst w1)
            | (go_at_call 9; refine (CF.out _ (Below.refl _ _)).mono ?_; rintro e w2 ⟨rfl, hb2⟩))
          go_ret
          exact ⟨rfl, HB.out.trans (hb2.mono HB.out.size)⟩
        · have h1i : ¬ (100 : Int) < N.size := by omega
          have h2i : (100 : Int) < O.size := by omega
          clear hearly
          go_enter Tryd.func6, Tryd.ntmps6
          go_wp2_with (first
            | (go_at_call 7; rw [← HW.out, ← HG.out]; refine CG.out.mono ?_; rintro e w1 ⟨rfl, hw⟩; subst w1)
            | (go_at_call 9; refine (CF.out _ (Below.refl _ _)).mono ?_; rintro e w2 ⟨rfl, hb2⟩))
          go_ret
          exact ⟨rfl, HB.out.trans (hb2.mono HB.out.size)⟩
    · obtain ⟨h30, hs⟩ := short_great hgr
      have hl0 : 0 < l.length := by omega
      have h1i : ¬ (100 : Int) < N.size := by omega
      have h2i : ¬ (100 : Int) < O.size := by omega
      obtain ⟨m, hm⟩ : ∃ m, m = k % l.length := ⟨_, rfl⟩
      have hml : m < l.length := by rw [hm]; exact Nat.mod_lt _ hl0
      obtain ⟨p, hp⟩ : ∃ p, l[m]? = some p := ⟨_, List.getElem?_eq_getElem hml⟩
      obtain ⟨l', hl'⟩ : ∃ l', l' = l.set m (p.1, O.data.toList) := ⟨_, rfl⟩
      have hll : l'.length = l.length := by rw [hl', List.length_set]
      have hs' : Short l' := by rw [hl']; exact short_set hs hp (by rw [Array.length_toList]; have : O.data.size = O.size := rfl; omega)
      have hsv := setsV_set l m p O.data.toList hp
      rw [← hl', strB_of] at hsv
      have hs0 : ∀ u, (setsV l)[m * 2]? = some u ↔ u = .string (strB p.1) := fun u => setsV_at0 hp
      have heq : ((strB p.1).toList == N.toList) = decide (p.1 = N.data.toList) := by rw [toList_strB, ByteArray.toList_eq, Bool.eq_iff_iff]; simp
      have hone := setsV_oneCell l
      obtain ⟨AX, hAX⟩ := elems_of h
      obtain ⟨y, ay, cd, hR, hy⟩ := selR_form hAX l N.data.toList
      have hoth := fun hne h1 h2 => selR_other (l := l) (l' := l') (nm := N.data.toList) (by rw [hl']; exact getE_other l m p hp hne) h1 h2 v AX
      have c1 := fun (W : World) (hb : Below W1.heap.size W1 W) => select_any W A c l N.data.toList v a AX (by omega) hs (hr.below_all (hb0.trans (hb.mono hb0.size))) (hbx0.below hb).at_ (hAX.below (hb0.trans (hb.mono hb0.size)))
      have c2 := fun (W : World) (A' : Option Addr) (c' : Nat) (hd : Rd W 2 A' l.length (setsV l')) (hb : Below W1.heap.size W1 W) => select_any W A' c' l' N.data.toList v a AX (by omega) hs' (by rw [hll]; exact hd) (hbx0.below hb).at_ (hAX.below (hb0.trans (hb.mono hb0.size)))
      have c3 := fun (W : World) (hb : Below W1.heap.size W1 W) => vsame_any y.total y (Nat.le_refl _) W ay (VAt.below (hb0.trans (hb.mono hb0.size)) y ay hy)
      have c4 := fun (W : World) (hb : Below W1.heap.size W1 W) => rcheck_any W A c l (by omega) hs (hr.below_all (hb0.trans (hb.mono hb0.size)))
      have c5 := fun (W : World) (A' : Option Addr) (c' : Nat) (hd : Rd W 2 A' l.length (setsV l')) => rcheck_any W A' c' l' (by omega) hs' (by rw [hll]; exact hd)
      rw [hll] at c2 c5
      rw [strB_of, hR, vV_eq, vV_eq] at c1
      rw [strB_of, vV_eq] at c2
      rw [hR] at hoth
      rw [vV_eq] at c3
      obtain ⟨R2, hR2⟩ : ∃ R2, R2 = selR l' N.data.toList v AX := ⟨_, rfl⟩
      rw [← hR2] at c2 hoth
      obtain ⟨ln, hln⟩ : ∃ ln, ln = l.length := ⟨_, rfl⟩
      obtain ⟨E1, hE1⟩ : ∃ E, E = checkE l := ⟨_, rfl⟩
      obtain ⟨E2, hE2⟩ : ∃ E, E = checkE l' := ⟨_, rfl⟩
      obtain ⟨X, hX⟩ : ∃ X, X = strB p.1 := ⟨_, rfl⟩
      obtain ⟨SV, hSV⟩ : ∃ SV, SV = setsV l := ⟨_, rfl⟩
      obtain ⟨SV', hSV'⟩ : ∃ SV, SV = setsV l' := ⟨_, rfl⟩
      obtain ⟨eqn, heqn⟩ : ∃ eqn, eqn = decide (p.1 = N.data.toList) := ⟨_, rfl⟩
      have hne : eqn = false → p.1 ≠ N.data.toList := fun e h => by rw [h] at heqn; simp [e] at heqn
      rw [← heqn, ← hX] at heq
      rw [← hX] at hs0
      rw [← hln] at c1 c2 c4 c5 h30 hl0 hml hm CG ⊢
      rw [← hE1] at hoth c4
      rw [← hE2] at hoth c5
      rw [← hSV] at hsv hs0 hone HRD
      rw [← hSV'] at hsv c2 c5
      rw [← hln] at HRD
      rw [← hn, ← hnk, ← hS] at c1 c2 cV q hW1 bxc ⊢
      have hmt : (k : Int).tmod (ln : Int) = (m : Int) := by rw [Int.tmod_eq_emod_of_nonneg hkk, hm]; omega
      have hlni : (ln : Int) ≠ 0 := by omega
      have hlnb : ((ln : Int) == 0) = false := by rw [beq_eq_false_iff_ne]; omega
      have hmi : (0 : Int) ≤ m := by omega
      have hmi2 : (m : Int) < ln := by omega
      have hlmax : ln ≤ 30 := h30
      have HR := HRD
      have HS0 := hid2 hs0
      have HSV := hid2 hsv
      have HONE := hid2 hone
      have HOTH := hid2 (fun e => hoth (hne e))
      have HW := hid2 hW1
      have C1 := hid2 c1
      have C2 := hid2 c2
      have C3 := hid2 c3
      have C4 := hid2 c4
      have C5 := hid2 c5
      have CV := hid2 cV
      have BXC := hid2 bxc
      obtain ⟨q0, q1, q2, q3, q4⟩ := q
      clear cG hW1 hb0 hbx0 hr hM h cF cV bxc hgr hg hn hnk hS c1 c2 c3 c4 c5 hR hy hAX h30 hs hs' hl0 hoth hne heqn hX hSV hSV' hE1 hE2 hln hR2 hll hl' hp hm hone hsv hs0 hearly HRD
      go_enter Tryd.func6, Tryd.ntmps6
      cases eqn with
      | true =>
        go_wp2_with (first
          | (go_at_call 7; rw [← HW.out, ← HG.out]; refine CG.out.mono ?_; rintro e w1 ⟨rfl, hw⟩; subst w1; obtain ⟨b0, b1, b2, b3, b4⟩ := BXC.out W1 (Below.refl _ _); clear q0 q1 q2 q3 q4)
          | (go_at_call 17; refine (CV.out _ (Below.refl _ _)).mono ?_; rintro e w2 ⟨⟨bb, rfl⟩, hb2⟩; clear b0 b1 b2 b3 b4; obtain ⟨b0, b1, b2, b3, b4⟩ := BXC.out w2 hb2; have hownA := OWA.out w2 hb2; cases bb)
          | (at_builtin; have _t := hownA; go_must ((with_reducible refine wpList_append_lit 31 (.agg #[.string ⟨#[]⟩, .string ⟨#[]⟩]) 2 32 Tryd.underlying22 info_set3 rfl (g + 1) (some ⟨w2.heap.size, 0, none⟩) 0 0 [] hownA ln SV (.slice A ln c) (Src.slice Tryd.underlying22 ((HR.out w2 hb2).alloc _)) HONE.out ?_ ?_ ?_ ?_ ?_); (unfold maxLen; omega); omega; (exact Nat.le_trans HZ.out (Nat.le_trans hb2.size (by simp))); exact ⟨rfl, rfl⟩; intro A4 c4 w4 hown4 hgr4 hbl4; rw [show 0 + ln = ln from Nat.zero_add ln, List.nil_append] at hown4; have hb4 : Below W1.heap.size W1 w4 := (hb2.alloc hb2.size _).grown hgr4 (Nat.le_trans hb2.size (by simp)) (fun z e => by cases e; exact hb2.size); clear hownA; rw [show 0 + ln = ln from Nat.zero_add ln]; obtain ⟨bd, od, ud, rfl, _, hdl, hx0, hd0, _, _⟩ := Own.spotk hown4 (j := m * 2) (by omega); obtain rfl := (HS0.out ud).1 hx0; obtain ⟨bd', od', ud', hE, hdb, _, _, hd1, hdf, hdw⟩ := Own.spotk hown4 (j := m * 2 + 1) (by omega); cases hE; have hdw2 := hdw (.string O); rw [HSV.out] at hdw2; rw [← Nat.add_assoc] at hd1 hdf hdw2; rw [HZ2.out] at hdb; have HDB := hid2 hdb; have HDW := hid2 hdw2.rd; have HB4 := hid2 hb4; clear hx0 hown4 hgr4 hbl4 hdw hdw2 hdb hdl; clear b0 b1 b2 b3 b4; obtain ⟨b0, b1, b2, b3, b4⟩ := BXC.out w4 hb4))
          | (go_at_call 9; refine (CF.out w4 hb4).mono ?_; rintro e w6 ⟨rfl, hc6⟩; have hb6 := hb4.trans (hc6.mono hb4.size))
          | (go_at_call 9; refine (CF.out w2 hb2).mono ?_; rintro e w6 ⟨rfl, hc6⟩; have hb6 := hb2.trans (hc6.mono hb2.size)))
        all_goals go_ret
        all_goals exact ⟨by first | rfl | simp, HB.out.trans (hb6.mono HB.out.size)⟩
      | false =>
        have K1 := hid2 trivial
        have K3 := hid2 trivial
        by_cases hz1 : E1 = 0
        · by_cases hz2 : E2 = 0
          · subst hz1 hz2
            have hR2 := HOTH.out rfl rfl rfl
            subst hR2
            rw [vV_eq] at C2
            clear HOTH
            go_wp2_with (first
              | (go_at_call 7; rw [← HW.out, ← HG.out]; refine CG.out.mono ?_; rintro e w1 ⟨rfl, hw⟩; subst w1; obtain ⟨b0, b1, b2, b3, b4⟩ := BXC.out W1 (Below.refl _ _); clear q0 q1 q2 q3 q4)
              | (go_at_call 17; refine (CV.out _ (Below.refl _ _)).mono ?_; rintro e w2 ⟨⟨bb, rfl⟩, hb2⟩; clear b0 b1 b2 b3 b4; obtain ⟨b0, b1, b2, b3, b4⟩ := BXC.out w2 hb2; have hownA := OWA.out w2 hb2; cases bb)
              | (at_builtin; have _t := hownA; go_must ((with_reducible refine wpList_append_lit 31 (.agg #[.string ⟨#[]⟩, .string ⟨#[]⟩]) 2 32 Tryd.underlying22 info_set3 rfl (g + 1) (some ⟨w2.heap.size, 0, none⟩) 0 0 [] hownA ln SV (.slice A ln c) (Src.slice Tryd.underlying22 ((HR.out w2 hb2).alloc _)) HONE.out ?_ ?_ ?_ ?_ ?_); (unfold maxLen; omega); omega; (exact Nat.le_trans HZ.out (Nat.le_trans hb2.size (by simp))); exact ⟨rfl, rfl⟩; intro A4 c4 w4 hown4 hgr4 hbl4; rw [show 0 + ln = ln from Nat.zero_add ln, List.nil_append] at hown4; have hb4 : Below W1.heap.size W1 w4 := (hb2.alloc hb2.size _).grown hgr4 (Nat.le_trans hb2.size (by simp)) (fun z e => by cases e; exact hb2.size); clear hownA; rw [show 0 + ln = ln from Nat.zero_add ln]; obtain ⟨bd, od, ud, rfl, _, hdl, hx0, hd0, _, _⟩ := Own.spotk hown4 (j := m * 2) (by omega); obtain rfl := (HS0.out ud).1 hx0; obtain ⟨bd', od', ud', hE, hdb, _, _, hd1, hdf, hdw⟩ := Own.spotk hown4 (j := m * 2 + 1) (by omega); cases hE; have hdw2 := hdw (.string O); rw [HSV.out] at hdw2; rw [← Nat.add_assoc] at hd1 hdf hdw2; rw [HZ2.out] at hdb; have HDB := hid2 hdb; have HDW := hid2 hdw2.rd; have HB4 := hid2 hb4; clear hx0 hown4 hgr4 hbl4 hdw hdw2 hdb hdl; clear b0 b1 b2 b3 b4; obtain ⟨b0, b1, b2, b3, b4⟩ := BXC.out w4 hb4))
              | (go_at_call 8; have _k := K1; have hb5 := Below.setCell hb4 (p := ⟨bd, od + m * 2 + 1, none⟩) HDB.out (.string O); refine (C4.out (w4.setCell ⟨bd, od + m * 2 + 1, none⟩ (.string O)) hb5).mono ?_; rintro e w6 ⟨rfl, hc6⟩; clear K1; have hb6 := hb5.trans (hc6.mono hb5.size); have hd6 := HDW.out.below_all hc6; clear b0 b1 b2 b3 b4 hd0 hd1 hdf; obtain ⟨b0, b1, b2, b3, b4⟩ := BXC.out w6 hb6)
              | (go_at_call 8; refine (C5.out w6 _ c4 hd6).mono ?_; rintro e w7 ⟨rfl, hc7⟩; have hb7 := hb6.trans (hc7.mono hb6.size); have hd7 := hd6.below_all hc7; clear b0 b1 b2 b3 b4; obtain ⟨b0, b1, b2, b3, b4⟩ := BXC.out w7 hb7)
              | (go_at_call 18; have _k := K3; refine (C1.out w7 hb7).mono ?_; rintro e w8 ⟨rfl, hc8⟩; clear K3; have hb8 := hb7.trans (hc8.mono hb7.size); have hq8 := hb8.alloc hb8.size (.cells #[.int .i64 y.k, .int .i64 y.n, .string (strB y.s), .slice ay.L y.l.length ay.cL, .slice ay.K y.ks.length ay.cK] 40); have hd8 := (hd7.below_all hc8).alloc (.cells #[.int .i64 y.k, .int .i64 y.n, .string (strB y.s), .slice ay.L y.l.length ay.cL, .slice ay.K y.ks.length ay.cK] 40); clear b0 b1 b2 b3 b4; obtain ⟨b0, b1, b2, b3, b4⟩ := BXC.out (w8.alloc (.cells #[.int .i64 y.k, .int .i64 y.n, .string (strB y.s), .slice ay.L y.l.length ay.cL, .slice ay.K y.ks.length ay.cK] 40)) hq8)
              | (go_at_call 18; refine (C2.out (w8.alloc (.cells #[.int .i64 y.k, .int .i64 y.n, .string (strB y.s), .slice ay.L y.l.length ay.cL, .slice ay.K y.ks.length ay.cK] 40)) _ c4 hd8 hq8).mono ?_; rintro e w9 ⟨rfl, hc9⟩; have hb9 := hq8.trans (hc9.mono hq8.size); have hq9 := hb9.alloc hb9.size (.cells #[.int .i64 y.k, .int .i64 y.n, .string (strB y.s), .slice ay.L y.l.length ay.cL, .slice ay.K y.ks.length ay.cK] 40); clear b0 b1 b2 b3 b4; have hrow := heap_alloc_new w8 (.cells #[.int .i64 y.k, .int .i64 y.n, .string (strB y.s), .slice ay.L y.l.length ay.cL, .slice ay.K y.ks.length ay.cK] 40); have hrow4 := (hc9.block _ (heap_lt hrow)).trans hrow; have hrow5 := (Below.heap_alloc w9 (.cells #[.int .i64 y.k, .int .i64 y.n, .string (strB y.s), .slice ay.L y.l.length ay.cL, .slice ay.K y.ks.length ay.cK] 40) _ (heap_lt hrow4)).trans hrow4; have s0 := cell_of_row (w9.alloc (.cells #[.int .i64 y.k, .int .i64 y.n, .string (strB y.s), .slice ay.L y.l.length ay.cL, .slice ay.K y.ks.length ay.cK] 40)) _ 0 _ _ _ hrow5; have s1 := cell_of_row (w9.alloc (.cells #[.int .i64 y.k, .int .i64 y.n, .string (strB y.s), .slice ay.L y.l.length ay.cL, .slice ay.K y.ks.length ay.cK] 40)) _ 1 _ _ _ hrow5; have s2 := cell_of_row (w9.alloc (.cells #[.int .i64 y.k, .int .i64 y.n, .string (strB y.s), .slice ay.L y.l.length ay.cL, .slice ay.K y.ks.length ay.cK] 40)) _ 2 _ _ _ hrow5; have s3 := cell_of_row (w9.alloc (.cells #[.int .i64 y.k, .int .i64 y.n, .string (strB y.s), .slice ay.L y.l.length ay.cL, .slice ay.K y.ks.length ay.cK] 40)) _ 3 _ _ _ hrow5; have s4 := cell_of_row (w9.alloc (.cells #[.int .i64 y.k, .int .i64 y.n, .string (strB y.s), .slice ay.L y.l.length ay.cL, .slice ay.K y.ks.length ay.cK] 40)) _ 4 _ _ _ hrow5; clear hrow hrow4 hrow5)
              | (go_at_call 20; refine (C3.out (w9.alloc (.cells #[.int .i64 y.k, .int .i64 y.n, .string (strB y.s), .slice ay.L y.l.length ay.cL, .slice ay.K y.ks.length ay.cK] 40)) hq9).mono ?_; rintro e w10 ⟨rfl, hc10⟩; have hb10 := hq9.trans (hc10.mono hq9.size))
              | (go_at_call 9; refine (CF.out w10 hb10).mono ?_; rintro e w6 ⟨rfl, hcf⟩; have hbf := hb10.trans (hcf.mono hb10.size))
              | (go_at_call 9; refine (CF.out w2 hb2).mono ?_; rintro e w6 ⟨rfl, hcf⟩; have hbf := hb2.trans (hcf.mono hb2.size)))
            all_goals go_ret
            all_goals exact ⟨by first | rfl | simp, HB.out.trans (hbf.mono HB.out.size)⟩
          · subst hz1
            have hz2i : (E2 : Int) ≠ 0 := by omega
            clear HOTH
            go_wp2_with (first
              | (go_at_call 7; rw [← HW.out, ← HG.out]; refine CG.out.mono ?_; rintro e w1 ⟨rfl, hw⟩; subst w1; obtain ⟨b0, b1, b2, b3, b4⟩ := BXC.out W1 (Below.refl _ _); clear q0 q1 q2 q3 q4)
              | (go_at_call 17; refine (CV.out _ (Below.refl _ _)).mono ?_; rintro e w2 ⟨⟨bb, rfl⟩, hb2⟩; clear b0 b1 b2 b3 b4; obtain ⟨b0, b1, b2, b3, b4⟩ := BXC.out w2 hb2; have hownA := OWA.out w2 hb2; cases bb)
              | (at_builtin; have _t := hownA; go_must ((with_reducible refine wpList_append_lit 31 (.agg #[.string ⟨#[]⟩, .string ⟨#[]⟩]) 2 32 Tryd.underlying22 info_set3 rfl (g + 1) (some ⟨w2.heap.size, 0, none⟩) 0 0 [] hownA ln SV (.slice A ln c) (Src.slice Tryd.underlying22 ((HR.out w2 hb2).alloc _)) HONE.out ?_ ?_ ?_ ?_ ?_); (unfold maxLen; omega); omega; (exact Nat.le_trans HZ.out (Nat.le_trans hb2.size (by simp))); exact ⟨rfl, rfl⟩; intro A4 c4 w4 hown4 hgr4 hbl4; rw [show 0 + ln = ln from Nat.zero_add ln, List.nil_append] at hown4; have hb4 : Below W1.heap.size W1 w4 := (hb2.alloc hb2.size _).grown hgr4 (Nat.le_trans hb2.size (by simp)) (fun z e => by cases e; exact hb2.size); clear hownA; rw [show 0 + ln = ln from Nat.zero_add ln]; obtain ⟨bd, od, ud, rfl, _, hdl, hx0, hd0, _, _⟩ := Own.spotk hown4 (j := m * 2) (by omega); obtain rfl := (HS0.out ud).1 hx0; obtain ⟨bd', od', ud', hE, hdb, _, _, hd1, hdf, hdw⟩ := Own.spotk hown4 (j := m * 2 + 1) (by omega); cases hE; have hdw2 := hdw (.string O); rw [HSV.out] at hdw2; rw [← Nat.add_assoc] at hd1 hdf hdw2; rw [HZ2.out] at hdb; have HDB := hid2 hdb; have HDW := hid2 hdw2.rd; have HB4 := hid2 hb4; clear hx0 hown4 hgr4 hbl4 hdw hdw2 hdb hdl; clear b0 b1 b2 b3 b4; obtain ⟨b0, b1, b2, b3, b4⟩ := BXC.out w4 hb4))
              | (go_at_call 8; have _k := K1; have hb5 := Below.setCell hb4 (p := ⟨bd, od + m * 2 + 1, none⟩) HDB.out (.string O); refine (C4.out (w4.setCell ⟨bd, od + m * 2 + 1, none⟩ (.string O)) hb5).mono ?_; rintro e w6 ⟨rfl, hc6⟩; clear K1; have hb6 := hb5.trans (hc6.mono hb5.size); have hd6 := HDW.out.below_all hc6; clear b0 b1 b2 b3 b4 hd0 hd1 hdf; obtain ⟨b0, b1, b2, b3, b4⟩ := BXC.out w6 hb6)
              | (go_at_call 8; refine (C5.out w6 _ c4 hd6).mono ?_; rintro e w7 ⟨rfl, hc7⟩; have hb7 := hb6.trans (hc7.mono hb6.size); have hd7 := hd6.below_all hc7; clear b0 b1 b2 b3 b4; obtain ⟨b0, b1, b2, b3, b4⟩ := BXC.out w7 hb7)
              | (go_at_call 9; refine (CF.out w7 hb7).mono ?_; rintro e w6 ⟨rfl, hcf⟩; have hbf := hb7.trans (hcf.mono hb7.size))
              | (go_at_call 9; refine (CF.out w2 hb2).mono ?_; rintro e w6 ⟨rfl, hcf⟩; have hbf := hb2.trans (hcf.mono hb2.size)))
            all_goals go_ret
            all_goals exact ⟨by first | rfl | simp, HB.out.trans (hbf.mono HB.out.size)⟩
        · have hz1i : (E1 : Int) ≠ 0 := by omega
          clear HOTH
          go_wp2_with (first
            | (go_at_call 7; rw [← HW.out, ← HG.out]; refine CG.out.mono ?_; rintro e w1 ⟨rfl, hw⟩; subst w1; obtain ⟨b0, b1, b2, b3, b4⟩ := BXC.out W1 (Below.refl _ _); clear q0 q1 q2 q3 q4)
            | (go_at_call 17; refine (CV.out _ (Below.refl _ _)).mono ?_; rintro e w2 ⟨⟨bb, rfl⟩, hb2⟩; clear b0 b1 b2 b3 b4; obtain ⟨b0, b1, b2, b3, b4⟩ := BXC.out w2 hb2; have hownA := OWA.out w2 hb2; cases bb)
            | (at_builtin; have _t := hownA; go_must ((with_reducible refine wpList_append_lit 31 (.agg #[.string ⟨#[]⟩, .string ⟨#[]⟩]) 2 32 Tryd.underlying22 info_set3 rfl (g + 1) (some ⟨w2.heap.size, 0, none⟩) 0 0 [] hownA ln SV (.slice A ln c) (Src.slice Tryd.underlying22 ((HR.out w2 hb2).alloc _)) HONE.out ?_ ?_ ?_ ?_ ?_); (unfold maxLen; omega); omega; (exact Nat.le_trans HZ.out (Nat.le_trans hb2.size (by simp))); exact ⟨rfl, rfl⟩; intro A4 c4 w4 hown4 hgr4 hbl4; rw [show 0 + ln = ln from Nat.zero_add ln, List.nil_append] at hown4; have hb4 : Below W1.heap.size W1 w4 := (hb2.alloc hb2.size _).grown hgr4 (Nat.le_trans hb2.size (by simp)) (fun z e => by cases e; exact hb2.size); clear hownA; rw [show 0 + ln = ln from Nat.zero_add ln]; obtain ⟨bd, od, ud, rfl, _, hdl, hx0, hd0, _, _⟩ := Own.spotk hown4 (j := m * 2) (by omega); obtain rfl := (HS0.out ud).1 hx0; obtain ⟨bd', od', ud', hE, hdb, _, _, hd1, hdf, hdw⟩ := Own.spotk hown4 (j := m * 2 + 1) (by omega); cases hE; have hdw2 := hdw (.string O); rw [HSV.out] at hdw2; rw [← Nat.add_assoc] at hd1 hdf hdw2; rw [HZ2.out] at hdb; have HDB := hid2 hdb; have HDW := hid2 hdw2.rd; have HB4 := hid2 hb4; clear hx0 hown4 hgr4 hbl4 hdw hdw2 hdb hdl; clear b0 b1 b2 b3 b4; obtain ⟨b0, b1, b2, b3, b4⟩ := BXC.out w4 hb4))
            | (go_at_call 8; have _k := K1; have hb5 := Below.setCell hb4 (p := ⟨bd, od + m * 2 + 1, none⟩) HDB.out (.string O); refine (C4.out (w4.setCell ⟨bd, od + m * 2 + 1, none⟩ (.string O)) hb5).mono ?_; rintro e w6 ⟨rfl, hc6⟩; clear K1; have hb6 := hb5.trans (hc6.mono hb5.size); have hd6 := HDW.out.below_all hc6; clear b0 b1 b2 b3 b4 hd0 hd1 hdf; obtain ⟨b0, b1, b2, b3, b4⟩ := BXC.out w6 hb6)
            | (go_at_call 9; refine (CF.out w6 hb6).mono ?_; rintro e w6 ⟨rfl, hcf⟩; have hbf := hb6.trans (hcf.mono hb6.size))
            | (go_at_call 9; refine (CF.out w2 hb2).mono ?_; rintro e w6 ⟨rfl, hcf⟩; have hbf := hb2.trans (hcf.mono hb2.size)))
          all_goals go_ret
          all_goals exact ⟨by first | rfl | simp, HB.out.trans (hbf.mono HB.out.size)⟩
end Go.Proofs.YthefhfnmkjdekaaDoor
