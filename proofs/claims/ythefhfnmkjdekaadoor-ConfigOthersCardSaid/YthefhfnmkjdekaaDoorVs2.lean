/- Values: what a setting selects: config's Select and the document's. -/
import Derived.Test.YthefhfnmkjdekaaDoorVs1
import Derived.Test.YthefhfnmkjdekaaDoorCf11
namespace Go.Proofs.YthefhfnmkjdekaaDoor
open Go.RowKit
set_option maxRecDepth 100000
theorem may_keys {v : VT} (h : v.may = true) (hk : v.k = 5) : v.ks.length = v.l.length := by
  have h1 : v.okAll = true := by
    rw [VT.may, Bool.and_eq_true] at h
    exact h.2
  rw [v.okAll_eq, Bool.and_eq_true] at h1
  have h2 := h1.2
  simp [nodeB, hk, keysB] at h2
  exact h2.2.1
def selI (l : List SetE) (nm : Tx) (v : VT) : Option Nat := match (if (getE l nm).2 = true then keyI v.ks (getE l nm).1 else none) with
  | some i => some i
  | none => keyI v.ks []
def selC (l : List SetE) (nm : Tx) (v : VT) : Int × Option Nat :=
  if checkE l ≠ 0 ∨ v.may = false then (1, none) else if v.k ≠ 5 then (9, none) else match selI l nm v with
    | some i => (0, some i)
    | none => (10, none)
def selR (l : List SetE) (nm : Tx) (v : VT) (AX : Nat → VA) : Value := .tuple #[.agg (selV v AX (selC l nm v).2), .int .i64 (selC l nm v).1]
theorem selR_one {l : List SetE} {nm : Tx} {v : VT} {AX : Nat → VA} (h : checkE l ≠ 0 ∨ v.may = false) : selR l nm v AX = .tuple #[.agg #[.int .i64 0, .int .i64 0, .string ⟨#[]⟩, .slice none 0 0, .slice none 0 0], .int .i64 1] := by
  rw [selR, selC, if_pos h]; rfl
theorem selR_nine {l : List SetE} {nm : Tx} {v : VT} {AX : Nat → VA} (h : checkE l = 0) (h2 : v.may = true) (h3 : v.k ≠ 5) : selR l nm v AX = .tuple #[.agg #[.int .i64 0, .int .i64 0, .string ⟨#[]⟩, .slice none 0 0, .slice none 0 0], .int .i64 9] := by
  rw [selR, selC, if_neg (by simp [h, h2]), if_pos h3]; rfl
theorem selR_ten {l : List SetE} {nm : Tx} {v : VT} {AX : Nat → VA} (h : checkE l = 0) (h2 : v.may = true) (h3 : v.k = 5) (h4 : selI l nm v = none) : selR l nm v AX = .tuple #[.agg #[.int .i64 0, .int .i64 0, .string ⟨#[]⟩, .slice none 0 0, .slice none 0 0], .int .i64 10] := by
  rw [selR, selC, if_neg (by simp [h, h2]), if_neg (by simp [h3]), h4]; rfl
theorem selR_zero {l : List SetE} {nm : Tx} {v : VT} {AX : Nat → VA} {i : Nat} {x : VT} (h : checkE l = 0) (h2 : v.may = true) (h3 : v.k = 5) (h4 : selI l nm v = some i) (hx : v.l[i]? = some x) : selR l nm v AX = .tuple #[.agg #[.int .i64 x.k, .int .i64 x.n, .string (strB x.s), .slice (AX i).L x.l.length (AX i).cL, .slice (AX i).K x.ks.length (AX i).cK], .int .i64 0] := by
  rw [selR, selC, if_neg (by simp [h, h2]), if_neg (by simp [h3]), h4]
  simp only
  rw [selV_some hx]
theorem selI_got {l : List SetE} {nm : Tx} {v : VT} {i : Nat} (h : (getE l nm).2 = true) (h2 : keyI v.ks (getE l nm).1 = some i) : selI l nm v = some i := by
  rw [selI, if_pos h, h2]
theorem selI_lost {l : List SetE} {nm : Tx} {v : VT} (h : (getE l nm).2 = true) (h2 : keyI v.ks (getE l nm).1 = none) : selI l nm v = keyI v.ks [] := by
  rw [selI, if_pos h, h2]
theorem selI_none {l : List SetE} {nm : Tx} {v : VT} (h : (getE l nm).2 = false) : selI l nm v = keyI v.ks [] := by
  rw [selI, if_neg (by simp [h])]
set_option maxHeartbeats 1000000 in
theorem select_any (w : World) (A : Option Addr) (c : Nat) (l : List SetE) (nm : Tx) (v : VT) (a : VA) (AX : Nat → VA) (hl : l.length ≤ 1000000) (hs : Short l) (hr : Rd w 2 A l.length (setsV l)) (h : VAt w v a) (hAX : Elems w v a AX) :
    Calls Tryd.prog 18 #[.slice A l.length c, .string (strB nm), .agg (vV v a)] w fun e w' => e = .returned (selR l nm v AX) ∧ Below w.heap.size w w' := by
  obtain ⟨hbx0, hb0⟩ := box_value w v a h
  have hz : (w.alloc (.cells (vV v a) 40)).heap.size = w.heap.size + 1 := World.size_alloc ..
  obtain ⟨W1, hW1⟩ : ∃ W1, W1 = (w.alloc (.cells (vV v a) 40)).alloc (.cells #[.int .i64 0, .int .i64 0, .string ⟨#[]⟩, .slice none 0 0, .slice none 0 0] 40) := ⟨_, rfl⟩
  have hb01 : Below (w.alloc (.cells (vV v a) 40)).heap.size (w.alloc (.cells (vV v a) 40)) W1 := by rw [hW1]; exact (Below.refl _ _).alloc (Nat.le_refl _) _
  have hbx := hbx0.below hb01
  have hb1 := hb0.trans (hb01.mono hb0.size)
  have hr4 : W1.heap[w.heap.size + 1]? = some (.cells #[.int .i64 0, .int .i64 0, .string ⟨#[]⟩, .slice none 0 0, .slice none 0 0] 40 (0, 0)) := by rw [hW1, ← hz]; exact heap_alloc_new _ _
  have hel := hAX.below hb1
  have hlK := h.lenK
  have hlL := h.lenL
  have hr1 := hr.below_all hb1
  have bxc := fun (W : World) (hb : Below W1.heap.size W1 W) => (hbx.below hb).five
  have zc := fun (W : World) (hb : Below W1.heap.size W1 W) => (show W.cell? ⟨w.heap.size + 1, 0, none⟩ = some (.int .i64 0) ∧ W.cell? ⟨w.heap.size + 1, 1, none⟩ = some (.int .i64 0) ∧ W.cell? ⟨w.heap.size + 1, 2, none⟩ = some (.string ⟨#[]⟩) ∧ W.cell? ⟨w.heap.size + 1, 3, none⟩ = some (.slice none 0 0) ∧ W.cell? ⟨w.heap.size + 1, 4, none⟩ = some (.slice none 0 0) ∧ W.frozen? ⟨w.heap.size + 1, 0, none⟩ = false ∧ W.frozen? ⟨w.heap.size + 1, 1, none⟩ = false ∧ W.frozen? ⟨w.heap.size + 1, 2, none⟩ = false ∧ W.frozen? ⟨w.heap.size + 1, 3, none⟩ = false ∧ W.frozen? ⟨w.heap.size + 1, 4, none⟩ = false from by
    have hrow := (hb.block _ (heap_lt hr4)).trans hr4
    exact ⟨cell_of_row W _ 0 _ _ _ hrow, cell_of_row W _ 1 _ _ _ hrow, cell_of_row W _ 2 _ _ _ hrow, cell_of_row W _ 3 _ _ _ hrow, cell_of_row W _ 4 _ _ _ hrow, frozen_of_row W _ 0 _ _ hrow, frozen_of_row W _ 1 _ _ hrow, frozen_of_row W _ 2 _ _ hrow, frozen_of_row W _ 3 _ _ hrow, frozen_of_row W _ 4 _ _ hrow⟩)
  have c1 := fun (W : World) (hb : Below W1.heap.size W1 W) => check_any W A c l hl hs (hr1.below_all hb)
  have c2 := fun (W : World) (hb : Below W1.heap.size W1 W) => vcheck_any W v a (hbx.below hb).at_
  have c3 := fun (W : World) (hb : Below W1.heap.size W1 W) => get_any W A c l nm hl (hr1.below_all hb)
  have c5 := fun (W : World) (hb : Below W1.heap.size W1 W) => index_any W a.K a.cK v.ks (getE l nm).1 hlK (hbx.below hb).at_.keys
  have c6 := fun (W : World) (hb : Below W1.heap.size W1 W) => index_any W a.K a.cK v.ks [] hlK (hbx.below hb).at_.keys
  rw [show strB [] = ⟨#[]⟩ from rfl] at c6
  have hmk := may_keys (v := v)
  have hs1 := selR_one (l := l) (nm := nm) (v := v) (AX := AX)
  have hs9 := selR_nine (l := l) (nm := nm) (v := v) (AX := AX)
  have hs10 := selR_ten (l := l) (nm := nm) (v := v) (AX := AX)
  have hs0 := fun i x => selR_zero (l := l) (nm := nm) (v := v) (AX := AX) (i := i) (x := x)
  have hi1 := fun i => selI_got (l := l) (nm := nm) (v := v) (i := i)
  have hi2 := selI_lost (l := l) (nm := nm) (v := v)
  have hi3 := selI_none (l := l) (nm := nm) (v := v)
  have hlt1 := fun i => keyI_lt (ks := v.ks) (s := (getE l nm).1) (k := i)
  have hlt2 := fun i => keyI_lt (ks := v.ks) (s := []) (k := i)
  obtain ⟨R, hR⟩ : ∃ R, R = selR l nm v AX := ⟨_, rfl⟩
  obtain ⟨I, hI⟩ : ∃ I, I = selI l nm v := ⟨_, rfl⟩
  obtain ⟨M, hM⟩ : ∃ M, M = v.may := ⟨_, rfl⟩
  obtain ⟨E, hE⟩ : ∃ E, E = checkE l := ⟨_, rfl⟩
  obtain ⟨G, hG⟩ : ∃ G, G = (getE l nm).1 := ⟨_, rfl⟩
  obtain ⟨B, hB⟩ : ∃ B, B = (getE l nm).2 := ⟨_, rfl⟩
  obtain ⟨k1, hk1⟩ : ∃ k1, k1 = keyI v.ks G := ⟨_, rfl⟩
  obtain ⟨k2, hk2⟩ : ∃ k2, k2 = keyI v.ks [] := ⟨_, rfl⟩
  obtain ⟨J1, hJ1⟩ : ∃ J, J = ixV k1 := ⟨_, rfl⟩
  obtain ⟨J2, hJ2⟩ : ∃ J, J = ixV k2 := ⟨_, rfl⟩
  obtain ⟨N, hN⟩ : ∃ N, N = strB nm := ⟨_, rfl⟩
  obtain ⟨GS, hGS⟩ : ∃ GS, GS = strB G := ⟨_, rfl⟩
  rw [← hR] at hs1 hs9 hs10 hs0 ⊢
  rw [← hI] at hs10 hs0 hi1 hi2 hi3
  rw [← hM] at c2 hmk hs1 hs9 hs10 hs0
  rw [← hE] at c1 hs1 hs9 hs10 hs0
  rw [← hG, ← hB, ← hN] at c3
  rw [← hG] at c5 hi1 hi2 hlt1
  rw [← hB] at hi1 hi2 hi3
  rw [← hk1] at c5 hi1 hi2 hlt1
  rw [← hk2] at c6 hi2 hi3 hlt2
  rw [← hGS] at c3 c5
  rw [← hJ1] at c5
  rw [← hJ2] at c6
  rw [vV_eq] at c2 hW1 ⊢
  obtain ⟨n, hn⟩ : ∃ n, n = v.l.length := ⟨_, rfl⟩
  obtain ⟨nk, hnk⟩ : ∃ n, n = v.ks.length := ⟨_, rfl⟩
  obtain ⟨S, hS⟩ : ∃ S, S = strB v.s := ⟨_, rfl⟩
  obtain ⟨kk, hkk⟩ : ∃ kk, kk = v.k := ⟨_, rfl⟩
  obtain ⟨ln, hln⟩ : ∃ ln, ln = l.length := ⟨_, rfl⟩
  obtain ⟨AL, AK, cL, cK⟩ := a
  simp only at bxc c2 c5 c6 hW1 ⊢
  rw [← hn, ← hnk, ← hS, ← hkk] at c2 hW1 ⊢
  rw [← hnk] at c5 c6 hlK hlt1 hlt2 hmk
  rw [← hn] at hlL hmk
  rw [← hkk] at hmk hs9 hs10 hs0
  rw [← hln] at c1 c3 ⊢
  rw [← hN]
  have bxc2 : ∀ (W : World), Below W1.heap.size W1 W → W.cell? ⟨w.heap.size, 0, none⟩ = some (.int .i64 kk) ∧ W.cell? ⟨w.heap.size, 1, none⟩ = some (.int .i64 v.n) ∧ W.cell? ⟨w.heap.size, 2, none⟩ = some (.string S) ∧ W.cell? ⟨w.heap.size, 3, none⟩ = some (.slice AL n cL) ∧ W.cell? ⟨w.heap.size, 4, none⟩ = some (.slice AK nk cK) := by
    rw [hn, hnk, hS, hkk]
    exact bxc
  unfold maxLen at hlK hlL
  have q := hbx0.five
  obtain ⟨g, hg⟩ : ∃ g, g = w.heap.size := ⟨_, rfl⟩
  rw [← hg] at bxc2 zc
  have HG := hid2 hg
  have BXC := hid2 bxc2
  have ZC := hid2 zc
  have EL := hid2 hel
  have HW := hid2 hW1
  have HB := hid2 hb1
  have C1 := hid2 c1
  have C2 := hid2 c2
  have C3 := hid2 c3
  have C5 := hid2 c5
  have C6 := hid2 c6
  have HN := hid2 hn
  clear hR hI hM hE hG hB hk1 hk2 hN hGS hn hnk hS hkk hln hg bxc bxc2 zc hel hW1 hb1 c1 c2 c3 c5 c6 hbx hbx0 hb0 hb01 hz hr4 hr1 hr h hAX hs hl q
  by_cases hE0 : E = 0
  · subst hE0
    cases M with
    | false =>
      clear hJ1 hJ2
      have hr := hs1 (.inr rfl)
      have HR := hid2 hr
      clear hr
      clear hmk hs1 hs9 hs10 hs0 hi1 hi2 hi3 hlt1 hlt2
      go_enter Tryd.func18, Tryd.ntmps18
      go_wp2_with (first
        | (go_at_call 15; rw [← HW.out, ← HG.out]; refine (C1.out _ (Below.refl _ _)).mono ?_; rintro e w2 ⟨rfl, hb2⟩; obtain ⟨b0, b1, b2, b3, b4⟩ := BXC.out w2 hb2; obtain ⟨z0, z1, z2, z3, z4, f0, f1, f2, f3, f4⟩ := ZC.out w2 hb2)
        | (go_at_call 33; refine (C2.out w2 hb2).mono ?_; rintro e w3 ⟨rfl, hc3⟩; have hb3 := hb2.trans (hc3.mono hb2.size); clear b0 b1 b2 b3 b4 z0 z1 z2 z3 z4 f0 f1 f2 f3 f4; obtain ⟨b0, b1, b2, b3, b4⟩ := BXC.out w3 hb3; obtain ⟨z0, z1, z2, z3, z4, f0, f1, f2, f3, f4⟩ := ZC.out w3 hb3)
        | (go_at_call 13; refine (C3.out w3 hb3).mono ?_; rintro e w4 ⟨rfl, hc4⟩; have hb4 := hb3.trans (hc4.mono hb3.size); clear b0 b1 b2 b3 b4 z0 z1 z2 z3 z4 f0 f1 f2 f3 f4; obtain ⟨b0, b1, b2, b3, b4⟩ := BXC.out w4 hb4; obtain ⟨z0, z1, z2, z3, z4, f0, f1, f2, f3, f4⟩ := ZC.out w4 hb4)
        | (go_at_call 34; refine (C5.out w4 hb4).mono ?_; rintro e w5 ⟨rfl, hw5⟩; subst w5; clear C5)
        | (go_at_call 34; refine (C6.out w4 hb4).mono ?_; rintro e w5 ⟨rfl, hw5⟩; subst w5))
      refine bodyPost_ret (v := .tuple #[.agg #[.int .i64 0, .int .i64 0, .string ⟨#[]⟩, .slice none 0 0, .slice none 0 0], .int .i64 1]) ?_ rfl ⟨by rw [HR.out], ?_⟩
      · simp [results, Tryd.results18, go_sem, z0, z1, z2, z3, z4]
      · have hb := HB.out.trans (hb3.mono HB.out.size)
        have hg := HG.out
        repeat first | (with_reducible exact hb) | (with_reducible refine Below.setCell ?_ (by show w.heap.size ≤ g + 1; omega) _)
    | true =>
      rcases Decidable.em (kk = 5) with rfl | hk5
      · obtain rfl : n = nk := (hmk rfl rfl).symm
        cases B with
        | true =>
          cases k1 with
          | some i =>
            have hi := hlt1 i rfl
            obtain rfl : J1 = (i : Int) := hJ1
            clear hJ2
            obtain ⟨x, hx⟩ : ∃ x, v.l[i]? = some x := ⟨_, List.getElem?_eq_getElem (by have := HN.out; omega)⟩
            have hr := hs0 i x rfl rfl rfl (hi1 i rfl rfl) hx
            have HR := hid2 hr
            clear hr
            obtain ⟨b, o, rfl, _, e0, e1, e2, e3, e4⟩ := EL.out i x hx
            have lt : b < W1.heap.size := World.block_lt_of_cell? W1 _ e0
            have elc := fun (W : World) (hb : Below W1.heap.size W1 W) => (show W.cell? ⟨b, o + i * 5, none⟩ = some (.int .i64 x.k) ∧ W.cell? ⟨b, o + i * 5 + 1, none⟩ = some (.int .i64 x.n) ∧ W.cell? ⟨b, o + i * 5 + 2, none⟩ = some (.string (strB x.s)) ∧ W.cell? ⟨b, o + i * 5 + 3, none⟩ = some (.slice (AX i).L x.l.length (AX i).cL) ∧ W.cell? ⟨b, o + i * 5 + 4, none⟩ = some (.slice (AX i).K x.ks.length (AX i).cK) from ⟨(hb.cell (p := ⟨b, _, none⟩) lt).trans e0, (hb.cell (p := ⟨b, _, none⟩) lt).trans e1, (hb.cell (p := ⟨b, _, none⟩) lt).trans e2, (hb.cell (p := ⟨b, _, none⟩) lt).trans e3, (hb.cell (p := ⟨b, _, none⟩) lt).trans e4⟩)
            have ELC := hid2 elc
            have hi0 : (0 : Int) ≤ i := by omega
            have hil : (i : Int) < n := by omega
            have hin : ¬ (i : Int) < 0 := by omega
            clear elc e0 e1 e2 e3 e4 hx
            clear hmk hs1 hs9 hs10 hs0 hi1 hi2 hi3 hlt1 hlt2
            go_enter Tryd.func18, Tryd.ntmps18
            go_wp2_with (first
              | (go_at_call 15; rw [← HW.out, ← HG.out]; refine (C1.out _ (Below.refl _ _)).mono ?_; rintro e w2 ⟨rfl, hb2⟩; obtain ⟨b0, b1, b2, b3, b4⟩ := BXC.out w2 hb2; obtain ⟨z0, z1, z2, z3, z4, f0, f1, f2, f3, f4⟩ := ZC.out w2 hb2)
              | (go_at_call 33; refine (C2.out w2 hb2).mono ?_; rintro e w3 ⟨rfl, hc3⟩; have hb3 := hb2.trans (hc3.mono hb2.size); clear b0 b1 b2 b3 b4 z0 z1 z2 z3 z4 f0 f1 f2 f3 f4; obtain ⟨b0, b1, b2, b3, b4⟩ := BXC.out w3 hb3; obtain ⟨z0, z1, z2, z3, z4, f0, f1, f2, f3, f4⟩ := ZC.out w3 hb3)
              | (go_at_call 13; refine (C3.out w3 hb3).mono ?_; rintro e w4 ⟨rfl, hc4⟩; have hb4 := hb3.trans (hc4.mono hb3.size); clear b0 b1 b2 b3 b4 z0 z1 z2 z3 z4 f0 f1 f2 f3 f4; obtain ⟨b0, b1, b2, b3, b4⟩ := BXC.out w4 hb4; obtain ⟨z0, z1, z2, z3, z4, f0, f1, f2, f3, f4⟩ := ZC.out w4 hb4; obtain ⟨e0, e1, e2, e3, e4⟩ := ELC.out w4 hb4)
              | (go_at_call 34; refine (C5.out w4 hb4).mono ?_; rintro e w5 ⟨rfl, hw5⟩; subst w5; clear C5)
              | (go_at_call 34; refine (C6.out w4 hb4).mono ?_; rintro e w5 ⟨rfl, hw5⟩; subst w5))
            refine bodyPost_ret (v := .tuple #[.agg #[.int .i64 x.k, .int .i64 x.n, .string (strB x.s), .slice (AX i).L x.l.length (AX i).cL, .slice (AX i).K x.ks.length (AX i).cK], .int .i64 0]) ?_ rfl ⟨by rw [HR.out], ?_⟩
            · simp [results, Tryd.results18, go_sem, z0, z1, z2, z3, z4]
            · have hb := HB.out.trans (hb4.mono HB.out.size)
              have hg := HG.out
              repeat first | (with_reducible exact hb) | (with_reducible refine Below.setCell ?_ (by show w.heap.size ≤ g + 1; omega) _)
          | none =>
            have hI := hi2 rfl rfl
            obtain rfl : J1 = -1 := hJ1
            cases k2 with
            | some i =>
              have hi := hlt2 i rfl
              obtain rfl : J2 = (i : Int) := hJ2
              obtain ⟨x, hx⟩ : ∃ x, v.l[i]? = some x := ⟨_, List.getElem?_eq_getElem (by have := HN.out; omega)⟩
              have hr := hs0 i x rfl rfl rfl hI hx
              have HR := hid2 hr
              clear hr
              obtain ⟨b, o, rfl, _, e0, e1, e2, e3, e4⟩ := EL.out i x hx
              have lt : b < W1.heap.size := World.block_lt_of_cell? W1 _ e0
              have elc := fun (W : World) (hb : Below W1.heap.size W1 W) => (show W.cell? ⟨b, o + i * 5, none⟩ = some (.int .i64 x.k) ∧ W.cell? ⟨b, o + i * 5 + 1, none⟩ = some (.int .i64 x.n) ∧ W.cell? ⟨b, o + i * 5 + 2, none⟩ = some (.string (strB x.s)) ∧ W.cell? ⟨b, o + i * 5 + 3, none⟩ = some (.slice (AX i).L x.l.length (AX i).cL) ∧ W.cell? ⟨b, o + i * 5 + 4, none⟩ = some (.slice (AX i).K x.ks.length (AX i).cK) from ⟨(hb.cell (p := ⟨b, _, none⟩) lt).trans e0, (hb.cell (p := ⟨b, _, none⟩) lt).trans e1, (hb.cell (p := ⟨b, _, none⟩) lt).trans e2, (hb.cell (p := ⟨b, _, none⟩) lt).trans e3, (hb.cell (p := ⟨b, _, none⟩) lt).trans e4⟩)
              have ELC := hid2 elc
              have hi0 : (0 : Int) ≤ i := by omega
              have hil : (i : Int) < n := by omega
              have hin : ¬ (i : Int) < 0 := by omega
              clear elc e0 e1 e2 e3 e4 hx
              clear hmk hs1 hs9 hs10 hs0 hi1 hi2 hi3 hlt1 hlt2
              go_enter Tryd.func18, Tryd.ntmps18
              go_wp2_with (first
                | (go_at_call 15; rw [← HW.out, ← HG.out]; refine (C1.out _ (Below.refl _ _)).mono ?_; rintro e w2 ⟨rfl, hb2⟩; obtain ⟨b0, b1, b2, b3, b4⟩ := BXC.out w2 hb2; obtain ⟨z0, z1, z2, z3, z4, f0, f1, f2, f3, f4⟩ := ZC.out w2 hb2)
                | (go_at_call 33; refine (C2.out w2 hb2).mono ?_; rintro e w3 ⟨rfl, hc3⟩; have hb3 := hb2.trans (hc3.mono hb2.size); clear b0 b1 b2 b3 b4 z0 z1 z2 z3 z4 f0 f1 f2 f3 f4; obtain ⟨b0, b1, b2, b3, b4⟩ := BXC.out w3 hb3; obtain ⟨z0, z1, z2, z3, z4, f0, f1, f2, f3, f4⟩ := ZC.out w3 hb3)
                | (go_at_call 13; refine (C3.out w3 hb3).mono ?_; rintro e w4 ⟨rfl, hc4⟩; have hb4 := hb3.trans (hc4.mono hb3.size); clear b0 b1 b2 b3 b4 z0 z1 z2 z3 z4 f0 f1 f2 f3 f4; obtain ⟨b0, b1, b2, b3, b4⟩ := BXC.out w4 hb4; obtain ⟨z0, z1, z2, z3, z4, f0, f1, f2, f3, f4⟩ := ZC.out w4 hb4; obtain ⟨e0, e1, e2, e3, e4⟩ := ELC.out w4 hb4)
                | (go_at_call 34; refine (C5.out w4 hb4).mono ?_; rintro e w5 ⟨rfl, hw5⟩; subst w5; clear C5)
                | (go_at_call 34; refine (C6.out w4 hb4).mono ?_; rintro e w5 ⟨rfl, hw5⟩; subst w5))
              refine bodyPost_ret (v := .tuple #[.agg #[.int .i64 x.k, .int .i64 x.n, .string (strB x.s), .slice (AX i).L x.l.length (AX i).cL, .slice (AX i).K x.ks.length (AX i).cK], .int .i64 0]) ?_ rfl ⟨by rw [HR.out], ?_⟩
              · simp [results, Tryd.results18, go_sem, z0, z1, z2, z3, z4]
              · have hb := HB.out.trans (hb4.mono HB.out.size)
                have hg := HG.out
                repeat first | (with_reducible exact hb) | (with_reducible refine Below.setCell ?_ (by show w.heap.size ≤ g + 1; omega) _)
            | none =>
              obtain rfl : J2 = -1 := hJ2
              have hr := hs10 rfl rfl rfl hI
              have HR := hid2 hr
              clear hr
              clear hmk hs1 hs9 hs10 hs0 hi1 hi2 hi3 hlt1 hlt2
              go_enter Tryd.func18, Tryd.ntmps18
              go_wp2_with (first
                | (go_at_call 15; rw [← HW.out, ← HG.out]; refine (C1.out _ (Below.refl _ _)).mono ?_; rintro e w2 ⟨rfl, hb2⟩; obtain ⟨b0, b1, b2, b3, b4⟩ := BXC.out w2 hb2; obtain ⟨z0, z1, z2, z3, z4, f0, f1, f2, f3, f4⟩ := ZC.out w2 hb2)
                | (go_at_call 33; refine (C2.out w2 hb2).mono ?_; rintro e w3 ⟨rfl, hc3⟩; have hb3 := hb2.trans (hc3.mono hb2.size); clear b0 b1 b2 b3 b4 z0 z1 z2 z3 z4 f0 f1 f2 f3 f4; obtain ⟨b0, b1, b2, b3, b4⟩ := BXC.out w3 hb3; obtain ⟨z0, z1, z2, z3, z4, f0, f1, f2, f3, f4⟩ := ZC.out w3 hb3)
                | (go_at_call 13; refine (C3.out w3 hb3).mono ?_; rintro e w4 ⟨rfl, hc4⟩; have hb4 := hb3.trans (hc4.mono hb3.size); clear b0 b1 b2 b3 b4 z0 z1 z2 z3 z4 f0 f1 f2 f3 f4; obtain ⟨b0, b1, b2, b3, b4⟩ := BXC.out w4 hb4; obtain ⟨z0, z1, z2, z3, z4, f0, f1, f2, f3, f4⟩ := ZC.out w4 hb4)
                | (go_at_call 34; refine (C5.out w4 hb4).mono ?_; rintro e w5 ⟨rfl, hw5⟩; subst w5; clear C5)
                | (go_at_call 34; refine (C6.out w4 hb4).mono ?_; rintro e w5 ⟨rfl, hw5⟩; subst w5))
              refine bodyPost_ret (v := .tuple #[.agg #[.int .i64 0, .int .i64 0, .string ⟨#[]⟩, .slice none 0 0, .slice none 0 0], .int .i64 10]) ?_ rfl ⟨by rw [HR.out], ?_⟩
              · simp [results, Tryd.results18, go_sem, z0, z1, z2, z3, z4]
              · have hb := HB.out.trans (hb4.mono HB.out.size)
                have hg := HG.out
                repeat first | (with_reducible exact hb) | (with_reducible refine Below.setCell ?_ (by show w.heap.size ≤ g + 1; omega) _)
        | false =>
          have hI := hi3 rfl
          clear hJ1 C5
          cases k2 with
          | some i =>
            have hi := hlt2 i rfl
            obtain rfl : J2 = (i : Int) := hJ2
            obtain ⟨x, hx⟩ : ∃ x, v.l[i]? = some x := ⟨_, List.getElem?_eq_getElem (by have := HN.out; omega)⟩
            have hr := hs0 i x rfl rfl rfl hI hx
            have HR := hid2 hr
            clear hr
            obtain ⟨b, o, rfl, _, e0, e1, e2, e3, e4⟩ := EL.out i x hx
            have lt : b < W1.heap.size := World.block_lt_of_cell? W1 _ e0
            have elc := fun (W : World) (hb : Below W1.heap.size W1 W) => (show W.cell? ⟨b, o + i * 5, none⟩ = some (.int .i64 x.k) ∧ W.cell? ⟨b, o + i * 5 + 1, none⟩ = some (.int .i64 x.n) ∧ W.cell? ⟨b, o + i * 5 + 2, none⟩ = some (.string (strB x.s)) ∧ W.cell? ⟨b, o + i * 5 + 3, none⟩ = some (.slice (AX i).L x.l.length (AX i).cL) ∧ W.cell? ⟨b, o + i * 5 + 4, none⟩ = some (.slice (AX i).K x.ks.length (AX i).cK) from ⟨(hb.cell (p := ⟨b, _, none⟩) lt).trans e0, (hb.cell (p := ⟨b, _, none⟩) lt).trans e1, (hb.cell (p := ⟨b, _, none⟩) lt).trans e2, (hb.cell (p := ⟨b, _, none⟩) lt).trans e3, (hb.cell (p := ⟨b, _, none⟩) lt).trans e4⟩)
            have ELC := hid2 elc
            have hi0 : (0 : Int) ≤ i := by omega
            have hil : (i : Int) < n := by omega
            have hin : ¬ (i : Int) < 0 := by omega
            clear elc e0 e1 e2 e3 e4 hx
            clear hmk hs1 hs9 hs10 hs0 hi1 hi2 hi3 hlt1 hlt2
            go_enter Tryd.func18, Tryd.ntmps18
            go_wp2_with (first
              | (go_at_call 15; rw [← HW.out, ← HG.out]; refine (C1.out _ (Below.refl _ _)).mono ?_; rintro e w2 ⟨rfl, hb2⟩; obtain ⟨b0, b1, b2, b3, b4⟩ := BXC.out w2 hb2; obtain ⟨z0, z1, z2, z3, z4, f0, f1, f2, f3, f4⟩ := ZC.out w2 hb2)
              | (go_at_call 33; refine (C2.out w2 hb2).mono ?_; rintro e w3 ⟨rfl, hc3⟩; have hb3 := hb2.trans (hc3.mono hb2.size); clear b0 b1 b2 b3 b4 z0 z1 z2 z3 z4 f0 f1 f2 f3 f4; obtain ⟨b0, b1, b2, b3, b4⟩ := BXC.out w3 hb3; obtain ⟨z0, z1, z2, z3, z4, f0, f1, f2, f3, f4⟩ := ZC.out w3 hb3)
              | (go_at_call 13; refine (C3.out w3 hb3).mono ?_; rintro e w4 ⟨rfl, hc4⟩; have hb4 := hb3.trans (hc4.mono hb3.size); clear b0 b1 b2 b3 b4 z0 z1 z2 z3 z4 f0 f1 f2 f3 f4; obtain ⟨b0, b1, b2, b3, b4⟩ := BXC.out w4 hb4; obtain ⟨z0, z1, z2, z3, z4, f0, f1, f2, f3, f4⟩ := ZC.out w4 hb4; obtain ⟨e0, e1, e2, e3, e4⟩ := ELC.out w4 hb4)
              | (go_at_call 34; refine (C5.out w4 hb4).mono ?_; rintro e w5 ⟨rfl, hw5⟩; subst w5; clear C5)
              | (go_at_call 34; refine (C6.out w4 hb4).mono ?_; rintro e w5 ⟨rfl, hw5⟩; subst w5))
            refine bodyPost_ret (v := .tuple #[.agg #[.int .i64 x.k, .int .i64 x.n, .string (strB x.s), .slice (AX i).L x.l.length (AX i).cL, .slice (AX i).K x.ks.length (AX i).cK], .int .i64 0]) ?_ rfl ⟨by rw [HR.out], ?_⟩
            · simp [results, Tryd.results18, go_sem, z0, z1, z2, z3, z4]
            · have hb := HB.out.trans (hb4.mono HB.out.size)
              have hg := HG.out
              repeat first | (with_reducible exact hb) | (with_reducible refine Below.setCell ?_ (by show w.heap.size ≤ g + 1; omega) _)
          | none =>
            obtain rfl : J2 = -1 := hJ2
            have hr := hs10 rfl rfl rfl hI
            have HR := hid2 hr
            clear hr
            clear hmk hs1 hs9 hs10 hs0 hi1 hi2 hi3 hlt1 hlt2
            go_enter Tryd.func18, Tryd.ntmps18
            go_wp2_with (first
              | (go_at_call 15; rw [← HW.out, ← HG.out]; refine (C1.out _ (Below.refl _ _)).mono ?_; rintro e w2 ⟨rfl, hb2⟩; obtain ⟨b0, b1, b2, b3, b4⟩ := BXC.out w2 hb2; obtain ⟨z0, z1, z2, z3, z4, f0, f1, f2, f3, f4⟩ := ZC.out w2 hb2)
              | (go_at_call 33; refine (C2.out w2 hb2).mono ?_; rintro e w3 ⟨rfl, hc3⟩; have hb3 := hb2.trans (hc3.mono hb2.size); clear b0 b1 b2 b3 b4 z0 z1 z2 z3 z4 f0 f1 f2 f3 f4; obtain ⟨b0, b1, b2, b3, b4⟩ := BXC.out w3 hb3; obtain ⟨z0, z1, z2, z3, z4, f0, f1, f2, f3, f4⟩ := ZC.out w3 hb3)
              | (go_at_call 13; refine (C3.out w3 hb3).mono ?_; rintro e w4 ⟨rfl, hc4⟩; have hb4 := hb3.trans (hc4.mono hb3.size); clear b0 b1 b2 b3 b4 z0 z1 z2 z3 z4 f0 f1 f2 f3 f4; obtain ⟨b0, b1, b2, b3, b4⟩ := BXC.out w4 hb4; obtain ⟨z0, z1, z2, z3, z4, f0, f1, f2, f3, f4⟩ := ZC.out w4 hb4)
              | (go_at_call 34; refine (C5.out w4 hb4).mono ?_; rintro e w5 ⟨rfl, hw5⟩; subst w5; clear C5)
              | (go_at_call 34; refine (C6.out w4 hb4).mono ?_; rintro e w5 ⟨rfl, hw5⟩; subst w5))
            refine bodyPost_ret (v := .tuple #[.agg #[.int .i64 0, .int .i64 0, .string ⟨#[]⟩, .slice none 0 0, .slice none 0 0], .int .i64 10]) ?_ rfl ⟨by rw [HR.out], ?_⟩
            · simp [results, Tryd.results18, go_sem, z0, z1, z2, z3, z4]
            · have hb := HB.out.trans (hb4.mono HB.out.size)
              have hg := HG.out
              repeat first | (with_reducible exact hb) | (with_reducible refine Below.setCell ?_ (by show w.heap.size ≤ g + 1; omega) _)
      · clear hJ1 hJ2
        have hr := hs9 rfl rfl hk5
        have HR := hid2 hr
        clear hr
        clear hmk hs1 hs9 hs10 hs0 hi1 hi2 hi3 hlt1 hlt2
        go_enter Tryd.func18, Tryd.ntmps18
        go_wp2_with (first
          | (go_at_call 15; rw [← HW.out, ← HG.out]; refine (C1.out _ (Below.refl _ _)).mono ?_; rintro e w2 ⟨rfl, hb2⟩; obtain ⟨b0, b1, b2, b3, b4⟩ := BXC.out w2 hb2; obtain ⟨z0, z1, z2, z3, z4, f0, f1, f2, f3, f4⟩ := ZC.out w2 hb2)
          | (go_at_call 33; refine (C2.out w2 hb2).mono ?_; rintro e w3 ⟨rfl, hc3⟩; have hb3 := hb2.trans (hc3.mono hb2.size); clear b0 b1 b2 b3 b4 z0 z1 z2 z3 z4 f0 f1 f2 f3 f4; obtain ⟨b0, b1, b2, b3, b4⟩ := BXC.out w3 hb3; obtain ⟨z0, z1, z2, z3, z4, f0, f1, f2, f3, f4⟩ := ZC.out w3 hb3)
          | (go_at_call 13; refine (C3.out w3 hb3).mono ?_; rintro e w4 ⟨rfl, hc4⟩; have hb4 := hb3.trans (hc4.mono hb3.size); clear b0 b1 b2 b3 b4 z0 z1 z2 z3 z4 f0 f1 f2 f3 f4; obtain ⟨b0, b1, b2, b3, b4⟩ := BXC.out w4 hb4; obtain ⟨z0, z1, z2, z3, z4, f0, f1, f2, f3, f4⟩ := ZC.out w4 hb4)
          | (go_at_call 34; refine (C5.out w4 hb4).mono ?_; rintro e w5 ⟨rfl, hw5⟩; subst w5; clear C5)
          | (go_at_call 34; refine (C6.out w4 hb4).mono ?_; rintro e w5 ⟨rfl, hw5⟩; subst w5))
        refine bodyPost_ret (v := .tuple #[.agg #[.int .i64 0, .int .i64 0, .string ⟨#[]⟩, .slice none 0 0, .slice none 0 0], .int .i64 9]) ?_ rfl ⟨by rw [HR.out], ?_⟩
        · simp [results, Tryd.results18, go_sem, z0, z1, z2, z3, z4]
        · have hb := HB.out.trans (hb3.mono HB.out.size)
          have hg := HG.out
          repeat first | (with_reducible exact hb) | (with_reducible refine Below.setCell ?_ (by show w.heap.size ≤ g + 1; omega) _)
  · have hE1 : ¬ (E : Int) = 0 := by omega
    clear hJ1 hJ2
    have hr := hs1 (.inl hE0)
    have HR := hid2 hr
    clear hr
    clear hmk hs1 hs9 hs10 hs0 hi1 hi2 hi3 hlt1 hlt2
    go_enter Tryd.func18, Tryd.ntmps18
    go_wp2_with (first
      | (go_at_call 15; rw [← HW.out, ← HG.out]; refine (C1.out _ (Below.refl _ _)).mono ?_; rintro e w2 ⟨rfl, hb2⟩; obtain ⟨b0, b1, b2, b3, b4⟩ := BXC.out w2 hb2; obtain ⟨z0, z1, z2, z3, z4, f0, f1, f2, f3, f4⟩ := ZC.out w2 hb2)
      | (go_at_call 33; refine (C2.out w2 hb2).mono ?_; rintro e w3 ⟨rfl, hc3⟩; have hb3 := hb2.trans (hc3.mono hb2.size); clear b0 b1 b2 b3 b4 z0 z1 z2 z3 z4 f0 f1 f2 f3 f4; obtain ⟨b0, b1, b2, b3, b4⟩ := BXC.out w3 hb3; obtain ⟨z0, z1, z2, z3, z4, f0, f1, f2, f3, f4⟩ := ZC.out w3 hb3)
      | (go_at_call 13; refine (C3.out w3 hb3).mono ?_; rintro e w4 ⟨rfl, hc4⟩; have hb4 := hb3.trans (hc4.mono hb3.size); clear b0 b1 b2 b3 b4 z0 z1 z2 z3 z4 f0 f1 f2 f3 f4; obtain ⟨b0, b1, b2, b3, b4⟩ := BXC.out w4 hb4; obtain ⟨z0, z1, z2, z3, z4, f0, f1, f2, f3, f4⟩ := ZC.out w4 hb4)
      | (go_at_call 34; refine (C5.out w4 hb4).mono ?_; rintro e w5 ⟨rfl, hw5⟩; subst w5; clear C5)
      | (go_at_call 34; refine (C6.out w4 hb4).mono ?_; rintro e w5 ⟨rfl, hw5⟩; subst w5))
    refine bodyPost_ret (v := .tuple #[.agg #[.int .i64 0, .int .i64 0, .string ⟨#[]⟩, .slice none 0 0, .slice none 0 0], .int .i64 1]) ?_ rfl ⟨by rw [HR.out], ?_⟩
    · simp [results, Tryd.results18, go_sem, z0, z1, z2, z3, z4]
    · have hb := HB.out.trans (hb2.mono HB.out.size)
      have hg := HG.out
      repeat first | (with_reducible exact hb) | (with_reducible refine Below.setCell ?_ (by show w.heap.size ≤ g + 1; omega) _)
end Go.Proofs.YthefhfnmkjdekaaDoor
