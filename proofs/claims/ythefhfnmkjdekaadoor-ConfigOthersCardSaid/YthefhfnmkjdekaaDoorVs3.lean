/- Values: what a setting selects: the document's Select. -/
import Derived.Test.YthefhfnmkjdekaaDoorVs2
namespace Go.Proofs.YthefhfnmkjdekaaDoor
open Go.RowKit
set_option maxRecDepth 100000
set_option maxHeartbeats 1000000 in
theorem rselect_any (w : World) (A : Option Addr) (c : Nat) (l : List SetE) (nm : Tx) (v : VT) (a : VA) (AX : Nat → VA) (hl : l.length ≤ 1000000) (hs : Short l) (hr : Rd w 2 A l.length (setsV l)) (h : VAt w v a) (hAX : Elems w v a AX) :
    Calls Tryd.prog 19 #[.slice A l.length c, .string (strB nm), .agg (vV v a)] w fun e w' => e = .returned (selR l nm v AX) ∧ Below w.heap.size w w' := by
  obtain ⟨hbx0, hb0⟩ := box_value w v a h
  have hz : (w.alloc (.cells (vV v a) 40)).heap.size = w.heap.size + 1 := World.size_alloc ..
  obtain ⟨W1, hW1⟩ : ∃ W1, W1 = ((w.alloc (.cells (vV v a) 40)).alloc (.cells #[.int .i64 0, .int .i64 0, .string ⟨#[]⟩, .slice none 0 0, .slice none 0 0] 40)).alloc (.cells #[.int .i64 0, .int .i64 0, .string ⟨#[]⟩, .slice none 0 0, .slice none 0 0] 40) := ⟨_, rfl⟩
  have hb01 : Below (w.alloc (.cells (vV v a) 40)).heap.size (w.alloc (.cells (vV v a) 40)) W1 := by rw [hW1]; exact ((Below.refl _ _).alloc (Nat.le_refl _) _).alloc (by simp only [World.size_alloc]; omega) _
  have hbx := hbx0.below hb01
  have hb1 := hb0.trans (hb01.mono hb0.size)
  have hr4 : W1.heap[w.heap.size + 1]? = some (.cells #[.int .i64 0, .int .i64 0, .string ⟨#[]⟩, .slice none 0 0, .slice none 0 0] 40 (0, 0)) := by rw [hW1]; exact (Below.heap_alloc _ _ _ (by rw [World.size_alloc, hz]; omega)).trans (by rw [← hz]; exact heap_alloc_new _ _)
  have hr8 : W1.heap[w.heap.size + 1 + 1]? = some (.cells #[.int .i64 0, .int .i64 0, .string ⟨#[]⟩, .slice none 0 0, .slice none 0 0] 40 (0, 0)) := by rw [hW1, ← hz, ← World.size_alloc (o := (.cells #[.int .i64 0, .int .i64 0, .string ⟨#[]⟩, .slice none 0 0, .slice none 0 0] 40))]; exact heap_alloc_new _ _
  have hel := hAX.below hb1
  have hlK := h.lenK
  have hlL := h.lenL
  have hr1 := hr.below_all hb1
  have bxc := fun (W : World) (hb : Below W1.heap.size W1 W) => (hbx.below hb).five
  have zc := fun (W : World) (hb : Below W1.heap.size W1 W) => (show W.cell? ⟨w.heap.size + 1, 0, none⟩ = some (.int .i64 0) ∧ W.cell? ⟨w.heap.size + 1, 1, none⟩ = some (.int .i64 0) ∧ W.cell? ⟨w.heap.size + 1, 2, none⟩ = some (.string ⟨#[]⟩) ∧ W.cell? ⟨w.heap.size + 1, 3, none⟩ = some (.slice none 0 0) ∧ W.cell? ⟨w.heap.size + 1, 4, none⟩ = some (.slice none 0 0) ∧ W.frozen? ⟨w.heap.size + 1, 0, none⟩ = false ∧ W.frozen? ⟨w.heap.size + 1, 1, none⟩ = false ∧ W.frozen? ⟨w.heap.size + 1, 2, none⟩ = false ∧ W.frozen? ⟨w.heap.size + 1, 3, none⟩ = false ∧ W.frozen? ⟨w.heap.size + 1, 4, none⟩ = false from by
    have hrow := (hb.block _ (heap_lt hr4)).trans hr4
    exact ⟨cell_of_row W _ 0 _ _ _ hrow, cell_of_row W _ 1 _ _ _ hrow, cell_of_row W _ 2 _ _ _ hrow, cell_of_row W _ 3 _ _ _ hrow, cell_of_row W _ 4 _ _ _ hrow, frozen_of_row W _ 0 _ _ hrow, frozen_of_row W _ 1 _ _ hrow, frozen_of_row W _ 2 _ _ hrow, frozen_of_row W _ 3 _ _ hrow, frozen_of_row W _ 4 _ _ hrow⟩)
  have yc := fun (W : World) (hb : Below W1.heap.size W1 W) => (show W.cell? ⟨w.heap.size + 1 + 1, 0, none⟩ = some (.int .i64 0) ∧ W.cell? ⟨w.heap.size + 1 + 1, 1, none⟩ = some (.int .i64 0) ∧ W.cell? ⟨w.heap.size + 1 + 1, 2, none⟩ = some (.string ⟨#[]⟩) ∧ W.cell? ⟨w.heap.size + 1 + 1, 3, none⟩ = some (.slice none 0 0) ∧ W.cell? ⟨w.heap.size + 1 + 1, 4, none⟩ = some (.slice none 0 0) from by
    have hrow := (hb.block _ (heap_lt hr8)).trans hr8
    exact ⟨cell_of_row W _ 0 _ _ _ hrow, cell_of_row W _ 1 _ _ _ hrow, cell_of_row W _ 2 _ _ _ hrow, cell_of_row W _ 3 _ _ _ hrow, cell_of_row W _ 4 _ _ _ hrow⟩)
  have c1 := fun (W : World) (hb : Below W1.heap.size W1 W) => rcheck_any W A c l hl hs (hr1.below_all hb)
  have c2 := fun (W : World) (hb : Below W1.heap.size W1 W) => vrcheck_any W v a (hbx.below hb).at_
  have c3 := fun (W : World) (hb : Below W1.heap.size W1 W) => rget_any W A c l nm hl (hr1.below_all hb)
  have c5 := fun (hk : v.ks.length = v.l.length) (W : World) (hb : Below W1.heap.size W1 W) => of_any W v a (hbx.below hb).at_ AX (hel.below hb) hk (getE l nm).1
  have c6 := fun (hk : v.ks.length = v.l.length) (W : World) (hb : Below W1.heap.size W1 W) => of_any W v a (hbx.below hb).at_ AX (hel.below hb) hk []
  rw [show strB [] = ⟨#[]⟩ from rfl] at c6
  have hmk := may_keys (v := v)
  have hs1 := selR_one (l := l) (nm := nm) (v := v) (AX := AX)
  have hs9 := selR_nine (l := l) (nm := nm) (v := v) (AX := AX)
  have hs10 := selR_ten (l := l) (nm := nm) (v := v) (AX := AX)
  have hs0 := fun i x => selR_zero (l := l) (nm := nm) (v := v) (AX := AX) (i := i) (x := x)
  have hi1 := fun i => selI_got (l := l) (nm := nm) (v := v) (i := i)
  have hi2 := selI_lost (l := l) (nm := nm) (v := v)
  have hi3 := selI_none (l := l) (nm := nm) (v := v)
  have hlt1 := fun i => keyI_lt (ks := v.ks) (s := (getE l nm).1) (k := i)
  have hlt2 := fun i => keyI_lt (ks := v.ks) (s := []) (k := i)
  obtain ⟨R, hR⟩ : ∃ R, R = selR l nm v AX := ⟨_, rfl⟩
  obtain ⟨I, hI⟩ : ∃ I, I = selI l nm v := ⟨_, rfl⟩
  obtain ⟨M, hM⟩ : ∃ M, M = v.may := ⟨_, rfl⟩
  obtain ⟨E, hE⟩ : ∃ E, E = checkE l := ⟨_, rfl⟩
  obtain ⟨G, hG⟩ : ∃ G, G = (getE l nm).1 := ⟨_, rfl⟩
  obtain ⟨B, hB⟩ : ∃ B, B = (getE l nm).2 := ⟨_, rfl⟩
  obtain ⟨k1, hk1⟩ : ∃ k1, k1 = keyI v.ks G := ⟨_, rfl⟩
  obtain ⟨k2, hk2⟩ : ∃ k2, k2 = keyI v.ks [] := ⟨_, rfl⟩
  obtain ⟨N, hN⟩ : ∃ N, N = strB nm := ⟨_, rfl⟩
  obtain ⟨GS, hGS⟩ : ∃ GS, GS = strB G := ⟨_, rfl⟩
  rw [← hR] at hs1 hs9 hs10 hs0 ⊢
  rw [← hI] at hs10 hs0 hi1 hi2 hi3
  rw [← hM] at c2 hmk hs1 hs9 hs10 hs0
  rw [← hE] at c1 hs1 hs9 hs10 hs0
  rw [← hG, ← hB, ← hN] at c3
  rw [← hG] at c5 hi1 hi2 hlt1
  rw [← hB] at hi1 hi2 hi3
  rw [← hk1] at c5 hi1 hi2 hlt1
  rw [← hk2] at c6 hi2 hi3 hlt2
  rw [← hGS] at c3 c5
  rw [vV_eq] at c2 c5 c6 hW1 ⊢
  obtain ⟨n, hn⟩ : ∃ n, n = v.l.length := ⟨_, rfl⟩
  obtain ⟨nk, hnk⟩ : ∃ n, n = v.ks.length := ⟨_, rfl⟩
  obtain ⟨S, hS⟩ : ∃ S, S = strB v.s := ⟨_, rfl⟩
  obtain ⟨kk, hkk⟩ : ∃ kk, kk = v.k := ⟨_, rfl⟩
  obtain ⟨ln, hln⟩ : ∃ ln, ln = l.length := ⟨_, rfl⟩
  obtain ⟨AL, AK, cL, cK⟩ := a
  simp only at bxc c2 c5 c6 hW1 ⊢
  rw [← hn, ← hnk, ← hS, ← hkk] at c2 hW1 ⊢
  rw [← hS, ← hkk] at c5 c6
  have hns := fun (hk : nk = n) => (show v.ks.length = v.l.length by omega)
  have c7 := fun (hk : nk = n) => c5 (hns hk)
  have c8 := fun (hk : nk = n) => c6 (hns hk)
  rw [← hn, ← hnk] at c7 c8
  rw [← hnk] at hlK hlt1 hlt2 hmk
  rw [← hn] at hlL hmk
  rw [← hkk] at hmk hs9 hs10 hs0
  rw [← hln] at c1 c3 ⊢
  rw [← hN]
  have bxc2 : ∀ (W : World), Below W1.heap.size W1 W → W.cell? ⟨w.heap.size, 0, none⟩ = some (.int .i64 kk) ∧ W.cell? ⟨w.heap.size, 1, none⟩ = some (.int .i64 v.n) ∧ W.cell? ⟨w.heap.size, 2, none⟩ = some (.string S) ∧ W.cell? ⟨w.heap.size, 3, none⟩ = some (.slice AL n cL) ∧ W.cell? ⟨w.heap.size, 4, none⟩ = some (.slice AK nk cK) := by
    rw [hn, hnk, hS, hkk]
    exact bxc
  unfold maxLen at hlK hlL
  have q := hbx0.five
  obtain ⟨g, hg⟩ : ∃ g, g = w.heap.size := ⟨_, rfl⟩
  rw [← hg] at bxc2 zc yc
  have HG := hid2 hg
  have BXC := hid2 bxc2
  have ZC := hid2 zc
  have YC := hid2 yc
  have EL := hid2 hel
  have HW := hid2 hW1
  have HB := hid2 hb1
  have C1 := hid2 c1
  have C2 := hid2 c2
  have C3 := hid2 c3
  have C5 := hid2 c7
  have C6 := hid2 c8
  have HN := hid2 hn
  clear hR hI hM hE hG hB hk1 hk2 hN hGS hn hnk hS hkk hln hg bxc bxc2 zc yc hr8 hns hel hW1 hb1 c1 c2 c3 c5 c6 c7 c8 hbx hbx0 hb0 hb01 hz hr4 hr1 hr h hAX hs hl q
  by_cases hE0 : E = 0
  · subst hE0
    cases M with
    | false =>
      have hr := hs1 (.inr rfl)
      have HR := hid2 hr
      clear hr
      clear hmk hs1 hs9 hs10 hs0 hi1 hi2 hi3 hlt1 hlt2
      go_enter Tryd.func19, Tryd.ntmps19
      go_wp2_with (first
        | (go_at_call 8; rw [← HW.out, ← HG.out]; refine (C1.out _ (Below.refl _ _)).mono ?_; rintro e w2 ⟨rfl, hb2⟩; obtain ⟨b0, b1, b2, b3, b4⟩ := BXC.out w2 hb2; obtain ⟨z0, z1, z2, z3, z4, f0, f1, f2, f3, f4⟩ := ZC.out w2 hb2; obtain ⟨y0, y1, y2, y3, y4⟩ := YC.out w2 hb2)
        | (go_at_call 35; refine (C2.out w2 hb2).mono ?_; rintro e w3 ⟨rfl, hc3⟩; have hb3 := hb2.trans (hc3.mono hb2.size); clear b0 b1 b2 b3 b4 z0 z1 z2 z3 z4 f0 f1 f2 f3 f4 y0 y1 y2 y3 y4; obtain ⟨b0, b1, b2, b3, b4⟩ := BXC.out w3 hb3; obtain ⟨z0, z1, z2, z3, z4, f0, f1, f2, f3, f4⟩ := ZC.out w3 hb3; obtain ⟨y0, y1, y2, y3, y4⟩ := YC.out w3 hb3)
        | (go_at_call 14; refine (C3.out w3 hb3).mono ?_; rintro e w4 ⟨rfl, hc4⟩; have hb4 := hb3.trans (hc4.mono hb3.size); clear b0 b1 b2 b3 b4 z0 z1 z2 z3 z4 f0 f1 f2 f3 f4 y0 y1 y2 y3 y4; obtain ⟨b0, b1, b2, b3, b4⟩ := BXC.out w4 hb4; obtain ⟨z0, z1, z2, z3, z4, f0, f1, f2, f3, f4⟩ := ZC.out w4 hb4; obtain ⟨y0, y1, y2, y3, y4⟩ := YC.out w4 hb4))
      refine bodyPost_ret (v := .tuple #[.agg #[.int .i64 0, .int .i64 0, .string ⟨#[]⟩, .slice none 0 0, .slice none 0 0], .int .i64 1]) ?_ rfl ⟨by rw [HR.out], ?_⟩
      · simp [results, Tryd.results19, go_sem, z0, z1, z2, z3, z4]
      · have hb := HB.out.trans (hb3.mono HB.out.size)
        have hg := HG.out
        repeat first | (with_reducible exact hb) | (with_reducible refine Below.setCell ?_ (by show w.heap.size ≤ g + 1; omega) _) | (with_reducible refine Below.alloc ?_ (by have := hb.size; first | exact this | omega | (simp only [World.size_setCell]; omega)) _)
    | true =>
      rcases Decidable.em (kk = 5) with rfl | hk5
      · obtain rfl : n = nk := (hmk rfl rfl).symm
        cases B with
        | true =>
          cases k1 with
          | some i =>
            have hi := hlt1 i rfl
            obtain ⟨x, hx⟩ : ∃ x, v.l[i]? = some x := ⟨_, List.getElem?_eq_getElem (by have := HN.out; omega)⟩
            have d5 := C5.out rfl
            rw [selV_some hx, Option.isSome_some] at d5
            have D5 := hid2 d5
            clear d5
            have hr0 := hs0 i x rfl rfl rfl (hi1 i rfl rfl) hx
            clear hi hx
            have hr := hr0
            have HR := hid2 hr
            clear hr hr0
            clear hmk hs1 hs9 hs10 hs0 hi1 hi2 hi3 hlt1 hlt2
            go_enter Tryd.func19, Tryd.ntmps19
            go_wp2_with (first
              | (go_at_call 8; rw [← HW.out, ← HG.out]; refine (C1.out _ (Below.refl _ _)).mono ?_; rintro e w2 ⟨rfl, hb2⟩; obtain ⟨b0, b1, b2, b3, b4⟩ := BXC.out w2 hb2; obtain ⟨z0, z1, z2, z3, z4, f0, f1, f2, f3, f4⟩ := ZC.out w2 hb2; obtain ⟨y0, y1, y2, y3, y4⟩ := YC.out w2 hb2)
              | (go_at_call 35; refine (C2.out w2 hb2).mono ?_; rintro e w3 ⟨rfl, hc3⟩; have hb3 := hb2.trans (hc3.mono hb2.size); clear b0 b1 b2 b3 b4 z0 z1 z2 z3 z4 f0 f1 f2 f3 f4 y0 y1 y2 y3 y4; obtain ⟨b0, b1, b2, b3, b4⟩ := BXC.out w3 hb3; obtain ⟨z0, z1, z2, z3, z4, f0, f1, f2, f3, f4⟩ := ZC.out w3 hb3; obtain ⟨y0, y1, y2, y3, y4⟩ := YC.out w3 hb3)
              | (go_at_call 14; refine (C3.out w3 hb3).mono ?_; rintro e w4 ⟨rfl, hc4⟩; have hb4 := hb3.trans (hc4.mono hb3.size); clear b0 b1 b2 b3 b4 z0 z1 z2 z3 z4 f0 f1 f2 f3 f4 y0 y1 y2 y3 y4; obtain ⟨b0, b1, b2, b3, b4⟩ := BXC.out w4 hb4; obtain ⟨z0, z1, z2, z3, z4, f0, f1, f2, f3, f4⟩ := ZC.out w4 hb4; obtain ⟨y0, y1, y2, y3, y4⟩ := YC.out w4 hb4)
              | (go_at_call 36; refine (D5.out w4 hb4).mono ?_; rintro e w5 ⟨rfl, hc5⟩; have hb5 := hb4.trans (hc5.mono hb4.size); have hq5 := hb5.alloc hb5.size (.cells #[.int .i64 x.k, .int .i64 x.n, .string (strB x.s), .slice (AX i).L x.l.length (AX i).cL, .slice (AX i).K x.ks.length (AX i).cK] 40); clear b0 b1 b2 b3 b4 z0 z1 z2 z3 z4 f0 f1 f2 f3 f4 y0 y1 y2 y3 y4; obtain ⟨b0, b1, b2, b3, b4⟩ := BXC.out (w5.alloc (.cells #[.int .i64 x.k, .int .i64 x.n, .string (strB x.s), .slice (AX i).L x.l.length (AX i).cL, .slice (AX i).K x.ks.length (AX i).cK] 40)) hq5; obtain ⟨z0, z1, z2, z3, z4, f0, f1, f2, f3, f4⟩ := ZC.out (w5.alloc (.cells #[.int .i64 x.k, .int .i64 x.n, .string (strB x.s), .slice (AX i).L x.l.length (AX i).cL, .slice (AX i).K x.ks.length (AX i).cK] 40)) hq5; obtain ⟨y0, y1, y2, y3, y4⟩ := YC.out (w5.alloc (.cells #[.int .i64 x.k, .int .i64 x.n, .string (strB x.s), .slice (AX i).L x.l.length (AX i).cL, .slice (AX i).K x.ks.length (AX i).cK] 40)) hq5; clear D5))
            refine bodyPost_ret (v := .tuple #[.agg #[.int .i64 x.k, .int .i64 x.n, .string (strB x.s), .slice (AX i).L x.l.length (AX i).cL, .slice (AX i).K x.ks.length (AX i).cK], .int .i64 0]) ?_ rfl ⟨by rw [HR.out], ?_⟩
            · simp [results, Tryd.results19, go_sem, z0, z1, z2, z3, z4]
            · have hb := HB.out.trans (hq5.mono HB.out.size)
              have hg := HG.out
              repeat first | (with_reducible exact hb) | (with_reducible refine Below.setCell ?_ (by show w.heap.size ≤ g + 1; omega) _) | (with_reducible refine Below.alloc ?_ (by have := hb.size; first | exact this | omega | (simp only [World.size_setCell]; omega)) _)
          | none =>
            have hI := hi2 rfl rfl
            have d5 := C5.out rfl
            rw [selV_none, Option.isSome_none] at d5
            have D5 := hid2 d5
            clear d5
            cases k2 with
            | some i =>
              have hi := hlt2 i rfl
              obtain ⟨x, hx⟩ : ∃ x, v.l[i]? = some x := ⟨_, List.getElem?_eq_getElem (by have := HN.out; omega)⟩
              have d6 := C6.out rfl
              rw [selV_some hx, Option.isSome_some] at d6
              have D6 := hid2 d6
              clear d6
              have hr0 := hs0 i x rfl rfl rfl hI hx
              clear hi hx
              have hr := hr0
              have HR := hid2 hr
              clear hr hr0
              clear hmk hs1 hs9 hs10 hs0 hi1 hi2 hi3 hlt1 hlt2
              go_enter Tryd.func19, Tryd.ntmps19
              go_wp2_with (first
                | (go_at_call 8; rw [← HW.out, ← HG.out]; refine (C1.out _ (Below.refl _ _)).mono ?_; rintro e w2 ⟨rfl, hb2⟩; obtain ⟨b0, b1, b2, b3, b4⟩ := BXC.out w2 hb2; obtain ⟨z0, z1, z2, z3, z4, f0, f1, f2, f3, f4⟩ := ZC.out w2 hb2; obtain ⟨y0, y1, y2, y3, y4⟩ := YC.out w2 hb2)
                | (go_at_call 35; refine (C2.out w2 hb2).mono ?_; rintro e w3 ⟨rfl, hc3⟩; have hb3 := hb2.trans (hc3.mono hb2.size); clear b0 b1 b2 b3 b4 z0 z1 z2 z3 z4 f0 f1 f2 f3 f4 y0 y1 y2 y3 y4; obtain ⟨b0, b1, b2, b3, b4⟩ := BXC.out w3 hb3; obtain ⟨z0, z1, z2, z3, z4, f0, f1, f2, f3, f4⟩ := ZC.out w3 hb3; obtain ⟨y0, y1, y2, y3, y4⟩ := YC.out w3 hb3)
                | (go_at_call 14; refine (C3.out w3 hb3).mono ?_; rintro e w4 ⟨rfl, hc4⟩; have hb4 := hb3.trans (hc4.mono hb3.size); clear b0 b1 b2 b3 b4 z0 z1 z2 z3 z4 f0 f1 f2 f3 f4 y0 y1 y2 y3 y4; obtain ⟨b0, b1, b2, b3, b4⟩ := BXC.out w4 hb4; obtain ⟨z0, z1, z2, z3, z4, f0, f1, f2, f3, f4⟩ := ZC.out w4 hb4; obtain ⟨y0, y1, y2, y3, y4⟩ := YC.out w4 hb4)
                | (go_at_call 36; refine (D5.out w4 hb4).mono ?_; rintro e w5 ⟨rfl, hc5⟩; have hb5 := hb4.trans (hc5.mono hb4.size); have hq5 := hb5.alloc hb5.size (.cells #[.int .i64 0, .int .i64 0, .string ⟨#[]⟩, .slice none 0 0, .slice none 0 0] 40); clear b0 b1 b2 b3 b4 z0 z1 z2 z3 z4 f0 f1 f2 f3 f4 y0 y1 y2 y3 y4; obtain ⟨b0, b1, b2, b3, b4⟩ := BXC.out (w5.alloc (.cells #[.int .i64 0, .int .i64 0, .string ⟨#[]⟩, .slice none 0 0, .slice none 0 0] 40)) hq5; obtain ⟨z0, z1, z2, z3, z4, f0, f1, f2, f3, f4⟩ := ZC.out (w5.alloc (.cells #[.int .i64 0, .int .i64 0, .string ⟨#[]⟩, .slice none 0 0, .slice none 0 0] 40)) hq5; obtain ⟨y0, y1, y2, y3, y4⟩ := YC.out (w5.alloc (.cells #[.int .i64 0, .int .i64 0, .string ⟨#[]⟩, .slice none 0 0, .slice none 0 0] 40)) hq5; clear D5)
                | (go_at_call 36; refine (D6.out (w5.alloc (.cells #[.int .i64 0, .int .i64 0, .string ⟨#[]⟩, .slice none 0 0, .slice none 0 0] 40)) hq5).mono ?_; rintro e w6 ⟨rfl, hc6⟩; have hb6 := hq5.trans (hc6.mono hq5.size); have hq6 := hb6.alloc hb6.size (.cells #[.int .i64 x.k, .int .i64 x.n, .string (strB x.s), .slice (AX i).L x.l.length (AX i).cL, .slice (AX i).K x.ks.length (AX i).cK] 40); clear b0 b1 b2 b3 b4 z0 z1 z2 z3 z4 f0 f1 f2 f3 f4 y0 y1 y2 y3 y4; obtain ⟨b0, b1, b2, b3, b4⟩ := BXC.out (w6.alloc (.cells #[.int .i64 x.k, .int .i64 x.n, .string (strB x.s), .slice (AX i).L x.l.length (AX i).cL, .slice (AX i).K x.ks.length (AX i).cK] 40)) hq6; obtain ⟨z0, z1, z2, z3, z4, f0, f1, f2, f3, f4⟩ := ZC.out (w6.alloc (.cells #[.int .i64 x.k, .int .i64 x.n, .string (strB x.s), .slice (AX i).L x.l.length (AX i).cL, .slice (AX i).K x.ks.length (AX i).cK] 40)) hq6; obtain ⟨y0, y1, y2, y3, y4⟩ := YC.out (w6.alloc (.cells #[.int .i64 x.k, .int .i64 x.n, .string (strB x.s), .slice (AX i).L x.l.length (AX i).cL, .slice (AX i).K x.ks.length (AX i).cK] 40)) hq6))
              refine bodyPost_ret (v := .tuple #[.agg #[.int .i64 x.k, .int .i64 x.n, .string (strB x.s), .slice (AX i).L x.l.length (AX i).cL, .slice (AX i).K x.ks.length (AX i).cK], .int .i64 0]) ?_ rfl ⟨by rw [HR.out], ?_⟩
              · simp [results, Tryd.results19, go_sem, z0, z1, z2, z3, z4]
              · have hb := HB.out.trans (hq6.mono HB.out.size)
                have hg := HG.out
                repeat first | (with_reducible exact hb) | (with_reducible refine Below.setCell ?_ (by show w.heap.size ≤ g + 1; omega) _) | (with_reducible refine Below.alloc ?_ (by have := hb.size; first | exact this | omega | (simp only [World.size_setCell]; omega)) _)
            | none =>
              have d6 := C6.out rfl
              rw [selV_none, Option.isSome_none] at d6
              have D6 := hid2 d6
              clear d6
              have hr := hs10 rfl rfl rfl hI
              have HR := hid2 hr
              clear hr
              clear hmk hs1 hs9 hs10 hs0 hi1 hi2 hi3 hlt1 hlt2
              go_enter Tryd.func19, Tryd.ntmps19
              go_wp2_with (first
                | (go_at_call 8; rw [← HW.out, ← HG.out]; refine (C1.out _ (Below.refl _ _)).mono ?_; rintro e w2 ⟨rfl, hb2⟩; obtain ⟨b0, b1, b2, b3, b4⟩ := BXC.out w2 hb2; obtain ⟨z0, z1, z2, z3, z4, f0, f1, f2, f3, f4⟩ := ZC.out w2 hb2; obtain ⟨y0, y1, y2, y3, y4⟩ := YC.out w2 hb2)
                | (go_at_call 35; refine (C2.out w2 hb2).mono ?_; rintro e w3 ⟨rfl, hc3⟩; have hb3 := hb2.trans (hc3.mono hb2.size); clear b0 b1 b2 b3 b4 z0 z1 z2 z3 z4 f0 f1 f2 f3 f4 y0 y1 y2 y3 y4; obtain ⟨b0, b1, b2, b3, b4⟩ := BXC.out w3 hb3; obtain ⟨z0, z1, z2, z3, z4, f0, f1, f2, f3, f4⟩ := ZC.out w3 hb3; obtain ⟨y0, y1, y2, y3, y4⟩ := YC.out w3 hb3)
                | (go_at_call 14; refine (C3.out w3 hb3).mono ?_; rintro e w4 ⟨rfl, hc4⟩; have hb4 := hb3.trans (hc4.mono hb3.size); clear b0 b1 b2 b3 b4 z0 z1 z2 z3 z4 f0 f1 f2 f3 f4 y0 y1 y2 y3 y4; obtain ⟨b0, b1, b2, b3, b4⟩ := BXC.out w4 hb4; obtain ⟨z0, z1, z2, z3, z4, f0, f1, f2, f3, f4⟩ := ZC.out w4 hb4; obtain ⟨y0, y1, y2, y3, y4⟩ := YC.out w4 hb4)
                | (go_at_call 36; refine (D5.out w4 hb4).mono ?_; rintro e w5 ⟨rfl, hc5⟩; have hb5 := hb4.trans (hc5.mono hb4.size); have hq5 := hb5.alloc hb5.size (.cells #[.int .i64 0, .int .i64 0, .string ⟨#[]⟩, .slice none 0 0, .slice none 0 0] 40); clear b0 b1 b2 b3 b4 z0 z1 z2 z3 z4 f0 f1 f2 f3 f4 y0 y1 y2 y3 y4; obtain ⟨b0, b1, b2, b3, b4⟩ := BXC.out (w5.alloc (.cells #[.int .i64 0, .int .i64 0, .string ⟨#[]⟩, .slice none 0 0, .slice none 0 0] 40)) hq5; obtain ⟨z0, z1, z2, z3, z4, f0, f1, f2, f3, f4⟩ := ZC.out (w5.alloc (.cells #[.int .i64 0, .int .i64 0, .string ⟨#[]⟩, .slice none 0 0, .slice none 0 0] 40)) hq5; obtain ⟨y0, y1, y2, y3, y4⟩ := YC.out (w5.alloc (.cells #[.int .i64 0, .int .i64 0, .string ⟨#[]⟩, .slice none 0 0, .slice none 0 0] 40)) hq5; clear D5)
                | (go_at_call 36; refine (D6.out (w5.alloc (.cells #[.int .i64 0, .int .i64 0, .string ⟨#[]⟩, .slice none 0 0, .slice none 0 0] 40)) hq5).mono ?_; rintro e w6 ⟨rfl, hc6⟩; have hb6 := hq5.trans (hc6.mono hq5.size); have hq6 := hb6.alloc hb6.size (.cells #[.int .i64 0, .int .i64 0, .string ⟨#[]⟩, .slice none 0 0, .slice none 0 0] 40); clear b0 b1 b2 b3 b4 z0 z1 z2 z3 z4 f0 f1 f2 f3 f4 y0 y1 y2 y3 y4; obtain ⟨b0, b1, b2, b3, b4⟩ := BXC.out (w6.alloc (.cells #[.int .i64 0, .int .i64 0, .string ⟨#[]⟩, .slice none 0 0, .slice none 0 0] 40)) hq6; obtain ⟨z0, z1, z2, z3, z4, f0, f1, f2, f3, f4⟩ := ZC.out (w6.alloc (.cells #[.int .i64 0, .int .i64 0, .string ⟨#[]⟩, .slice none 0 0, .slice none 0 0] 40)) hq6; obtain ⟨y0, y1, y2, y3, y4⟩ := YC.out (w6.alloc (.cells #[.int .i64 0, .int .i64 0, .string ⟨#[]⟩, .slice none 0 0, .slice none 0 0] 40)) hq6))
              refine bodyPost_ret (v := .tuple #[.agg #[.int .i64 0, .int .i64 0, .string ⟨#[]⟩, .slice none 0 0, .slice none 0 0], .int .i64 10]) ?_ rfl ⟨by rw [HR.out], ?_⟩
              · simp [results, Tryd.results19, go_sem, z0, z1, z2, z3, z4]
              · have hb := HB.out.trans (hq6.mono HB.out.size)
                have hg := HG.out
                repeat first | (with_reducible exact hb) | (with_reducible refine Below.setCell ?_ (by show w.heap.size ≤ g + 1; omega) _) | (with_reducible refine Below.alloc ?_ (by have := hb.size; first | exact this | omega | (simp only [World.size_setCell]; omega)) _)
        | false =>
          have hI := hi3 rfl
          cases k2 with
          | some i =>
            have hi := hlt2 i rfl
            obtain ⟨x, hx⟩ : ∃ x, v.l[i]? = some x := ⟨_, List.getElem?_eq_getElem (by have := HN.out; omega)⟩
            have d6 := C6.out rfl
            rw [selV_some hx, Option.isSome_some] at d6
            have D6 := hid2 d6
            clear d6
            have hr0 := hs0 i x rfl rfl rfl hI hx
            clear hi hx
            have hr := hr0
            have HR := hid2 hr
            clear hr hr0
            clear hmk hs1 hs9 hs10 hs0 hi1 hi2 hi3 hlt1 hlt2
            go_enter Tryd.func19, Tryd.ntmps19
            go_wp2_with (first
              | (go_at_call 8; rw [← HW.out, ← HG.out]; refine (C1.out _ (Below.refl _ _)).mono ?_; rintro e w2 ⟨rfl, hb2⟩; obtain ⟨b0, b1, b2, b3, b4⟩ := BXC.out w2 hb2; obtain ⟨z0, z1, z2, z3, z4, f0, f1, f2, f3, f4⟩ := ZC.out w2 hb2; obtain ⟨y0, y1, y2, y3, y4⟩ := YC.out w2 hb2)
              | (go_at_call 35; refine (C2.out w2 hb2).mono ?_; rintro e w3 ⟨rfl, hc3⟩; have hb3 := hb2.trans (hc3.mono hb2.size); clear b0 b1 b2 b3 b4 z0 z1 z2 z3 z4 f0 f1 f2 f3 f4 y0 y1 y2 y3 y4; obtain ⟨b0, b1, b2, b3, b4⟩ := BXC.out w3 hb3; obtain ⟨z0, z1, z2, z3, z4, f0, f1, f2, f3, f4⟩ := ZC.out w3 hb3; obtain ⟨y0, y1, y2, y3, y4⟩ := YC.out w3 hb3)
              | (go_at_call 14; refine (C3.out w3 hb3).mono ?_; rintro e w4 ⟨rfl, hc4⟩; have hb4 := hb3.trans (hc4.mono hb3.size); clear b0 b1 b2 b3 b4 z0 z1 z2 z3 z4 f0 f1 f2 f3 f4 y0 y1 y2 y3 y4; obtain ⟨b0, b1, b2, b3, b4⟩ := BXC.out w4 hb4; obtain ⟨z0, z1, z2, z3, z4, f0, f1, f2, f3, f4⟩ := ZC.out w4 hb4; obtain ⟨y0, y1, y2, y3, y4⟩ := YC.out w4 hb4)
              | (go_at_call 36; refine (D6.out w4 hb4).mono ?_; rintro e w5 ⟨rfl, hc5⟩; have hb5 := hb4.trans (hc5.mono hb4.size); have hq5 := hb5.alloc hb5.size (.cells #[.int .i64 x.k, .int .i64 x.n, .string (strB x.s), .slice (AX i).L x.l.length (AX i).cL, .slice (AX i).K x.ks.length (AX i).cK] 40); clear b0 b1 b2 b3 b4 z0 z1 z2 z3 z4 f0 f1 f2 f3 f4 y0 y1 y2 y3 y4; obtain ⟨b0, b1, b2, b3, b4⟩ := BXC.out (w5.alloc (.cells #[.int .i64 x.k, .int .i64 x.n, .string (strB x.s), .slice (AX i).L x.l.length (AX i).cL, .slice (AX i).K x.ks.length (AX i).cK] 40)) hq5; obtain ⟨z0, z1, z2, z3, z4, f0, f1, f2, f3, f4⟩ := ZC.out (w5.alloc (.cells #[.int .i64 x.k, .int .i64 x.n, .string (strB x.s), .slice (AX i).L x.l.length (AX i).cL, .slice (AX i).K x.ks.length (AX i).cK] 40)) hq5; obtain ⟨y0, y1, y2, y3, y4⟩ := YC.out (w5.alloc (.cells #[.int .i64 x.k, .int .i64 x.n, .string (strB x.s), .slice (AX i).L x.l.length (AX i).cL, .slice (AX i).K x.ks.length (AX i).cK] 40)) hq5))
            refine bodyPost_ret (v := .tuple #[.agg #[.int .i64 x.k, .int .i64 x.n, .string (strB x.s), .slice (AX i).L x.l.length (AX i).cL, .slice (AX i).K x.ks.length (AX i).cK], .int .i64 0]) ?_ rfl ⟨by rw [HR.out], ?_⟩
            · simp [results, Tryd.results19, go_sem, z0, z1, z2, z3, z4]
            · have hb := HB.out.trans (hq5.mono HB.out.size)
              have hg := HG.out
              repeat first | (with_reducible exact hb) | (with_reducible refine Below.setCell ?_ (by show w.heap.size ≤ g + 1; omega) _) | (with_reducible refine Below.alloc ?_ (by have := hb.size; first | exact this | omega | (simp only [World.size_setCell]; omega)) _)
          | none =>
            have d6 := C6.out rfl
            rw [selV_none, Option.isSome_none] at d6
            have D6 := hid2 d6
            clear d6
            have hr := hs10 rfl rfl rfl hI
            have HR := hid2 hr
            clear hr
            clear hmk hs1 hs9 hs10 hs0 hi1 hi2 hi3 hlt1 hlt2
            go_enter Tryd.func19, Tryd.ntmps19
            go_wp2_with (first
              | (go_at_call 8; rw [← HW.out, ← HG.out]; refine (C1.out _ (Below.refl _ _)).mono ?_; rintro e w2 ⟨rfl, hb2⟩; obtain ⟨b0, b1, b2, b3, b4⟩ := BXC.out w2 hb2; obtain ⟨z0, z1, z2, z3, z4, f0, f1, f2, f3, f4⟩ := ZC.out w2 hb2; obtain ⟨y0, y1, y2, y3, y4⟩ := YC.out w2 hb2)
              | (go_at_call 35; refine (C2.out w2 hb2).mono ?_; rintro e w3 ⟨rfl, hc3⟩; have hb3 := hb2.trans (hc3.mono hb2.size); clear b0 b1 b2 b3 b4 z0 z1 z2 z3 z4 f0 f1 f2 f3 f4 y0 y1 y2 y3 y4; obtain ⟨b0, b1, b2, b3, b4⟩ := BXC.out w3 hb3; obtain ⟨z0, z1, z2, z3, z4, f0, f1, f2, f3, f4⟩ := ZC.out w3 hb3; obtain ⟨y0, y1, y2, y3, y4⟩ := YC.out w3 hb3)
              | (go_at_call 14; refine (C3.out w3 hb3).mono ?_; rintro e w4 ⟨rfl, hc4⟩; have hb4 := hb3.trans (hc4.mono hb3.size); clear b0 b1 b2 b3 b4 z0 z1 z2 z3 z4 f0 f1 f2 f3 f4 y0 y1 y2 y3 y4; obtain ⟨b0, b1, b2, b3, b4⟩ := BXC.out w4 hb4; obtain ⟨z0, z1, z2, z3, z4, f0, f1, f2, f3, f4⟩ := ZC.out w4 hb4; obtain ⟨y0, y1, y2, y3, y4⟩ := YC.out w4 hb4)
              | (go_at_call 36; refine (D6.out w4 hb4).mono ?_; rintro e w5 ⟨rfl, hc5⟩; have hb5 := hb4.trans (hc5.mono hb4.size); have hq5 := hb5.alloc hb5.size (.cells #[.int .i64 0, .int .i64 0, .string ⟨#[]⟩, .slice none 0 0, .slice none 0 0] 40); clear b0 b1 b2 b3 b4 z0 z1 z2 z3 z4 f0 f1 f2 f3 f4 y0 y1 y2 y3 y4; obtain ⟨b0, b1, b2, b3, b4⟩ := BXC.out (w5.alloc (.cells #[.int .i64 0, .int .i64 0, .string ⟨#[]⟩, .slice none 0 0, .slice none 0 0] 40)) hq5; obtain ⟨z0, z1, z2, z3, z4, f0, f1, f2, f3, f4⟩ := ZC.out (w5.alloc (.cells #[.int .i64 0, .int .i64 0, .string ⟨#[]⟩, .slice none 0 0, .slice none 0 0] 40)) hq5; obtain ⟨y0, y1, y2, y3, y4⟩ := YC.out (w5.alloc (.cells #[.int .i64 0, .int .i64 0, .string ⟨#[]⟩, .slice none 0 0, .slice none 0 0] 40)) hq5))
            refine bodyPost_ret (v := .tuple #[.agg #[.int .i64 0, .int .i64 0, .string ⟨#[]⟩, .slice none 0 0, .slice none 0 0], .int .i64 10]) ?_ rfl ⟨by rw [HR.out], ?_⟩
            · simp [results, Tryd.results19, go_sem, z0, z1, z2, z3, z4]
            · have hb := HB.out.trans (hq5.mono HB.out.size)
              have hg := HG.out
              repeat first | (with_reducible exact hb) | (with_reducible refine Below.setCell ?_ (by show w.heap.size ≤ g + 1; omega) _) | (with_reducible refine Below.alloc ?_ (by have := hb.size; first | exact this | omega | (simp only [World.size_setCell]; omega)) _)
      · have hr := hs9 rfl rfl hk5
        have HR := hid2 hr
        clear hr
        clear hmk hs1 hs9 hs10 hs0 hi1 hi2 hi3 hlt1 hlt2
        go_enter Tryd.func19, Tryd.ntmps19
        go_wp2_with (first
          | (go_at_call 8; rw [← HW.out, ← HG.out]; refine (C1.out _ (Below.refl _ _)).mono ?_; rintro e w2 ⟨rfl, hb2⟩; obtain ⟨b0, b1, b2, b3, b4⟩ := BXC.out w2 hb2; obtain ⟨z0, z1, z2, z3, z4, f0, f1, f2, f3, f4⟩ := ZC.out w2 hb2; obtain ⟨y0, y1, y2, y3, y4⟩ := YC.out w2 hb2)
          | (go_at_call 35; refine (C2.out w2 hb2).mono ?_; rintro e w3 ⟨rfl, hc3⟩; have hb3 := hb2.trans (hc3.mono hb2.size); clear b0 b1 b2 b3 b4 z0 z1 z2 z3 z4 f0 f1 f2 f3 f4 y0 y1 y2 y3 y4; obtain ⟨b0, b1, b2, b3, b4⟩ := BXC.out w3 hb3; obtain ⟨z0, z1, z2, z3, z4, f0, f1, f2, f3, f4⟩ := ZC.out w3 hb3; obtain ⟨y0, y1, y2, y3, y4⟩ := YC.out w3 hb3)
          | (go_at_call 14; refine (C3.out w3 hb3).mono ?_; rintro e w4 ⟨rfl, hc4⟩; have hb4 := hb3.trans (hc4.mono hb3.size); clear b0 b1 b2 b3 b4 z0 z1 z2 z3 z4 f0 f1 f2 f3 f4 y0 y1 y2 y3 y4; obtain ⟨b0, b1, b2, b3, b4⟩ := BXC.out w4 hb4; obtain ⟨z0, z1, z2, z3, z4, f0, f1, f2, f3, f4⟩ := ZC.out w4 hb4; obtain ⟨y0, y1, y2, y3, y4⟩ := YC.out w4 hb4))
        refine bodyPost_ret (v := .tuple #[.agg #[.int .i64 0, .int .i64 0, .string ⟨#[]⟩, .slice none 0 0, .slice none 0 0], .int .i64 9]) ?_ rfl ⟨by rw [HR.out], ?_⟩
        · simp [results, Tryd.results19, go_sem, z0, z1, z2, z3, z4]
        · have hb := HB.out.trans (hb3.mono HB.out.size)
          have hg := HG.out
          repeat first | (with_reducible exact hb) | (with_reducible refine Below.setCell ?_ (by show w.heap.size ≤ g + 1; omega) _) | (with_reducible refine Below.alloc ?_ (by have := hb.size; first | exact this | omega | (simp only [World.size_setCell]; omega)) _)
  · have hE1 : ¬ (E : Int) = 0 := by omega
    have hr := hs1 (.inl hE0)
    have HR := hid2 hr
    clear hr
    clear hmk hs1 hs9 hs10 hs0 hi1 hi2 hi3 hlt1 hlt2
    go_enter Tryd.func19, Tryd.ntmps19
    go_wp2_with (first
      | (go_at_call 8; rw [← HW.out, ← HG.out]; refine (C1.out _ (Below.refl _ _)).mono ?_; rintro e w2 ⟨rfl, hb2⟩; obtain ⟨b0, b1, b2, b3, b4⟩ := BXC.out w2 hb2; obtain ⟨z0, z1, z2, z3, z4, f0, f1, f2, f3, f4⟩ := ZC.out w2 hb2; obtain ⟨y0, y1, y2, y3, y4⟩ := YC.out w2 hb2)
      | (go_at_call 35; refine (C2.out w2 hb2).mono ?_; rintro e w3 ⟨rfl, hc3⟩; have hb3 := hb2.trans (hc3.mono hb2.size); clear b0 b1 b2 b3 b4 z0 z1 z2 z3 z4 f0 f1 f2 f3 f4 y0 y1 y2 y3 y4; obtain ⟨b0, b1, b2, b3, b4⟩ := BXC.out w3 hb3; obtain ⟨z0, z1, z2, z3, z4, f0, f1, f2, f3, f4⟩ := ZC.out w3 hb3; obtain ⟨y0, y1, y2, y3, y4⟩ := YC.out w3 hb3)
      | (go_at_call 14; refine (C3.out w3 hb3).mono ?_; rintro e w4 ⟨rfl, hc4⟩; have hb4 := hb3.trans (hc4.mono hb3.size); clear b0 b1 b2 b3 b4 z0 z1 z2 z3 z4 f0 f1 f2 f3 f4 y0 y1 y2 y3 y4; obtain ⟨b0, b1, b2, b3, b4⟩ := BXC.out w4 hb4; obtain ⟨z0, z1, z2, z3, z4, f0, f1, f2, f3, f4⟩ := ZC.out w4 hb4; obtain ⟨y0, y1, y2, y3, y4⟩ := YC.out w4 hb4))
    refine bodyPost_ret (v := .tuple #[.agg #[.int .i64 0, .int .i64 0, .string ⟨#[]⟩, .slice none 0 0, .slice none 0 0], .int .i64 1]) ?_ rfl ⟨by rw [HR.out], ?_⟩
    · simp [results, Tryd.results19, go_sem, z0, z1, z2, z3, z4]
    · have hb := HB.out.trans (hb2.mono HB.out.size)
      have hg := HG.out
      repeat first | (with_reducible exact hb) | (with_reducible refine Below.setCell ?_ (by show w.heap.size ≤ g + 1; omega) _) | (with_reducible refine Below.alloc ?_ (by have := hb.size; first | exact this | omega | (simp only [World.size_setCell]; omega)) _)
end Go.Proofs.YthefhfnmkjdekaaDoor
