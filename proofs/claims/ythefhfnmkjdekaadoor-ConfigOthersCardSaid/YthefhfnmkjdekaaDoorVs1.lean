/- Values: the first key that is a name: slices.Index, the document's of. -/
import Derived.Test.YthefhfnmkjdekaaDoorVa9
namespace Go.Proofs.YthefhfnmkjdekaaDoor
open Go.RowKit
set_option maxRecDepth 100000
def keyI (ks : List Tx) (s : Tx) : Option Nat := ks.findIdx? (· == s)
theorem keyI_at {ks : List Tx} {s x : Tx} {k : Nat} (hx : ks[k]? = some x) (h1 : x = s) (h2 : ∀ (j : Nat) (y : Tx), j < k → ks[j]? = some y → y ≠ s) : keyI ks s = some k := by
  obtain ⟨hk, rfl⟩ := List.getElem?_eq_some_iff.1 hx
  rw [keyI, List.findIdx?_eq_some_iff_getElem]
  refine ⟨hk, by simpa using h1, fun j hj => ?_⟩
  have := h2 j ks[j] hj (List.getElem?_eq_getElem (by omega))
  simpa using this
theorem keyI_none {ks : List Tx} {s : Tx} (h : ∀ (j : Nat) (y : Tx), ks[j]? = some y → y ≠ s) : keyI ks s = none := by
  rw [keyI, List.findIdx?_eq_none_iff]
  intro y hy
  obtain ⟨j, hj⟩ := List.getElem?_of_mem hy
  simpa using h j y hj
theorem keyI_lt {ks : List Tx} {s : Tx} {k : Nat} (h : keyI ks s = some k) : k < ks.length := by
  rw [keyI, List.findIdx?_eq_some_iff_getElem] at h
  exact h.1
def ixV : Option Nat → Int
  | none => -1
  | some k => k
set_option maxHeartbeats 2000000 in
theorem index_any (w : World) (A : Option Addr) (c : Nat) (ks : List Tx) (s : Tx) (hl : ks.length ≤ maxLen) (hr : Rd w 1 A ks.length (strV ks)) :
    Calls Tryd.prog 34 #[.slice A ks.length c, .string (strB s)] w fun e w' => e = .returned (.int .i64 (ixV (keyI ks s))) ∧ w' = w := by
  obtain ⟨n, hn⟩ : ∃ n, n = ks.length := ⟨_, rfl⟩
  have htn := toList_strB s
  obtain ⟨N, hN⟩ : ∃ N, N = strB s := ⟨_, rfl⟩
  obtain ⟨G, hG⟩ : ∃ G, G = keyI ks s := ⟨_, rfl⟩
  have hat := fun k x hx h1 h2 => hG.trans (keyI_at (ks := ks) (s := s) (k := k) (x := x) hx h1 h2)
  have hend := fun h => hG.trans (keyI_none (ks := ks) (s := s) h)
  rw [← hn] at hr hl ⊢
  rw [← hN] at htn ⊢
  rw [← hG]
  unfold maxLen at hl
  have HAT := hid2 hat
  have HEND := hid2 hend
  have HR := hid2 hr
  have HN := hid2 hn
  have HTN := hid2 htn
  clear hat hend hr hn hG hN htn
  go_enter Tryd.func34, Tryd.ntmps34
  go_wp2_with fail
  go_loopw [8] (fun i wr => ∃ k : Nat, k ≤ n ∧ i = .int .i64 k ∧ wr = w ∧ ∀ j y, j < k → ks[j]? = some y → y ≠ s) (fun i _ => n - (intOf i).toNat)
  case atStart => exact ⟨0, by omega, rfl, rfl, fun j p hj => absurd hj (Nat.not_lt_zero _)⟩
  case round =>
    obtain ⟨k, hk, rfl, rfl, hz⟩ := hrel
    have HZ := hid2 hz
    clear hz
    by_cases hlt : k < n
    · have hkl : (k : Int) < n := by omega
      have hk0 : (0 : Int) ≤ k := by omega
      obtain ⟨x, hx⟩ : ∃ x, ks[k]? = some x := ⟨_, List.getElem?_eq_getElem (by rw [← HN.out]; exact hlt)⟩
      obtain ⟨b, o, rfl, hcc⟩ := HR.out.2 (by omega)
      have hc0 : wr.cell? ⟨b, o + k, none⟩ = some (.string (strB x)) := hcc k _ (strV_get hx)
      have hts := toList_strB x
      obtain ⟨X, hX⟩ : ∃ X, X = strB x := ⟨_, rfl⟩
      rw [← hX] at hc0 hts
      have heq : (N.toList == X.toList) = decide (x = s) := by rw [hts, HTN.out, Bool.eq_iff_iff, beq_iff_eq, decide_eq_true_eq]; exact eq_comm
      have HX := hid2 hx
      clear hX hcc hts
      by_cases h1 : x = s
      · rw [decide_eq_true h1] at heq
        have hg := HAT.out k x hx h1 HZ.out
        have HG := hid2 hg
        clear hg hx h1
        go_wp2_with fail
        go_ret
        exact ⟨by rw [HG.out]; rfl, by first | rfl | trivial⟩
      · rw [decide_eq_false h1] at heq
        have H1 := hid2 h1
        clear hx h1
        go_wp2_with fail
        go_roundw
        case rel =>
          refine ⟨k + 1, by omega, by go_num, by first | rfl | trivial, fun j q hj hq => ?_⟩
          rcases Nat.lt_or_ge j k with h | h
          · exact HZ.out j q h hq
          · obtain rfl : j = k := by omega
            rw [HX.out] at hq
            cases hq
            exact H1.out
        case measure => simp [intOf]; omega
    · have hkl : ¬ (k : Int) < n := by omega
      have hE0 := HEND.out fun j p hp => HZ.out j p (by have := HN.out; have := (List.getElem?_eq_some_iff.1 hp).1; omega) hp
      have HE0 := hid2 hE0
      clear hE0
      go_wp2_with fail
      go_ret
      exact ⟨by rw [HE0.out]; rfl, by first | rfl | trivial⟩
/-- where the children of a value lie -/
def Elems (w : World) (v : VT) (a : VA) (AX : Nat → VA) : Prop := ∀ (i : Nat) (x : VT), v.l[i]? = some x → ∃ b o, a.L = some ⟨b, o, none⟩ ∧ VAt w x (AX i) ∧ w.cell? ⟨b, o + i * 5, none⟩ = some (.int .i64 x.k) ∧ w.cell? ⟨b, o + i * 5 + 1, none⟩ = some (.int .i64 x.n) ∧ w.cell? ⟨b, o + i * 5 + 2, none⟩ = some (.string (strB x.s)) ∧ w.cell? ⟨b, o + i * 5 + 3, none⟩ = some (.slice (AX i).L x.l.length (AX i).cL) ∧ w.cell? ⟨b, o + i * 5 + 4, none⟩ = some (.slice (AX i).K x.ks.length (AX i).cK)
theorem elems_of {w : World} {v : VT} {a : VA} (h : VAt w v a) : ∃ AX : Nat → VA, Elems w v a AX := by
  have h2 : ∀ i : Nat, ∃ ax : VA, ∀ x : VT, v.l[i]? = some x → ∃ b o, a.L = some ⟨b, o, none⟩ ∧ VAt w x ax ∧ w.cell? ⟨b, o + i * 5, none⟩ = some (.int .i64 x.k) ∧ w.cell? ⟨b, o + i * 5 + 1, none⟩ = some (.int .i64 x.n) ∧ w.cell? ⟨b, o + i * 5 + 2, none⟩ = some (.string (strB x.s)) ∧ w.cell? ⟨b, o + i * 5 + 3, none⟩ = some (.slice ax.L x.l.length ax.cL) ∧ w.cell? ⟨b, o + i * 5 + 4, none⟩ = some (.slice ax.K x.ks.length ax.cK) := by
    intro i
    cases hx : v.l[i]? with
    | none => exact ⟨⟨none, none, 0, 0⟩, fun x hx2 => by cases hx2⟩
    | some x =>
      obtain ⟨b, o, ax, h1, h3⟩ := h.elem5 hx
      exact ⟨ax, fun y hy => by cases hy; exact ⟨b, o, h1, h3⟩⟩
  exact ⟨fun i => Classical.choose (h2 i), fun i x hx => Classical.choose_spec (h2 i) x hx⟩
theorem Elems.below {w w' : World} {v : VT} {a : VA} {AX : Nat → VA} (h : Elems w v a AX) (hb : Below w.heap.size w w') : Elems w' v a AX := by
  intro i x hx
  obtain ⟨b, o, h1, hat, c0, c1, c2, c3, c4⟩ := h i x hx
  have lt : b < w.heap.size := World.block_lt_of_cell? w _ c0
  exact ⟨b, o, h1, VAt.below hb x _ hat, (hb.cell (p := ⟨b, _, none⟩) lt).trans c0, (hb.cell (p := ⟨b, _, none⟩) lt).trans c1, (hb.cell (p := ⟨b, _, none⟩) lt).trans c2, (hb.cell (p := ⟨b, _, none⟩) lt).trans c3, (hb.cell (p := ⟨b, _, none⟩) lt).trans c4⟩
/-- the chosen child -/
def selV (v : VT) (AX : Nat → VA) : Option Nat → Array Value
  | none => vV .zero ⟨none, none, 0, 0⟩
  | some i => match v.l[i]? with
    | none => vV .zero ⟨none, none, 0, 0⟩
    | some x => vV x (AX i)
theorem selV_some {v : VT} {AX : Nat → VA} {i : Nat} {x : VT} (hx : v.l[i]? = some x) : selV v AX (some i) = #[.int .i64 x.k, .int .i64 x.n, .string (strB x.s), .slice (AX i).L x.l.length (AX i).cL, .slice (AX i).K x.ks.length (AX i).cK] := by
  rw [selV, hx]
  rfl
theorem selV_none {v : VT} {AX : Nat → VA} : selV v AX none = #[.int .i64 0, .int .i64 0, .string ⟨#[]⟩, .slice none 0 0, .slice none 0 0] := rfl
set_option maxHeartbeats 2000000 in
theorem of_any (w : World) (v : VT) (a : VA) (h : VAt w v a) (AX : Nat → VA) (hAX : Elems w v a AX) (hk : v.ks.length = v.l.length) (s : Tx) :
    Calls Tryd.prog 36 #[.agg (vV v a), .string (strB s)] w fun e w' => e = .returned (.tuple #[.agg (selV v AX (keyI v.ks s)), .bool (keyI v.ks s).isSome]) ∧ Below w.heap.size w w' := by
  obtain ⟨hbx0, hb0⟩ := box_value w v a h
  have hz : (w.alloc (.cells (vV v a) 40)).heap.size = w.heap.size + 1 := World.size_alloc ..
  obtain ⟨W1, hW1⟩ : ∃ W1, W1 = (w.alloc (.cells (vV v a) 40)).alloc (.cells #[.int .i64 0, .int .i64 0, .string ⟨#[]⟩, .slice none 0 0, .slice none 0 0] 40) := ⟨_, rfl⟩
  have hb01 : Below (w.alloc (.cells (vV v a) 40)).heap.size (w.alloc (.cells (vV v a) 40)) W1 := by rw [hW1]; exact (Below.refl _ _).alloc (Nat.le_refl _) _
  have hbx := hbx0.below hb01
  have hb1 := hb0.trans (hb01.mono hb0.size)
  have hr4 : W1.heap[w.heap.size + 1]? = some (.cells #[.int .i64 0, .int .i64 0, .string ⟨#[]⟩, .slice none 0 0, .slice none 0 0] 40 (0, 0)) := by rw [hW1, ← hz]; exact heap_alloc_new _ _
  have hel := hAX.below hb1
  have hlK := h.lenK
  have q0 := hbx.five
  have q := hbx0.five
  have htn := toList_strB s
  have HKEY := hid2 (fun (i : Nat) (x : Tx) (hx : v.ks[i]? = some x) => hbx.at_.key hx)
  have HEL := hid2 hel
  obtain ⟨N, hN⟩ : ∃ N, N = strB s := ⟨_, rfl⟩
  obtain ⟨G, hG⟩ : ∃ G, G = keyI v.ks s := ⟨_, rfl⟩
  have hat := fun k x hx h1 h2 => hG.trans (keyI_at (ks := v.ks) (s := s) (k := k) (x := x) hx h1 h2)
  have hend := fun h => hG.trans (keyI_none (ks := v.ks) (s := s) h)
  rw [← hN] at htn ⊢
  rw [← hG]
  rw [vV_eq] at q hW1 ⊢
  obtain ⟨n, hn⟩ : ∃ n, n = v.l.length := ⟨_, rfl⟩
  have hkn : v.ks.length = n := hk.trans hn.symm
  obtain ⟨S, hS⟩ : ∃ S, S = strB v.s := ⟨_, rfl⟩
  obtain ⟨AL, AK, cL, cK⟩ := a
  simp only at q0 q hW1 HEL HKEY ⊢
  rw [← hn, ← hS, hkn] at q0 q hW1 ⊢
  rw [hkn] at hlK
  unfold maxLen at hlK
  obtain ⟨g, hg⟩ : ∃ g, g = w.heap.size := ⟨_, rfl⟩
  have HG := hid2 hg
  rw [← hg] at q0 hr4
  obtain ⟨q00, q01, q02, q03, q04⟩ := q0
  obtain ⟨q10, q11, q12, q13, q14⟩ := q
  have HAT := hid2 hat
  have HEND := hid2 hend
  have HW := hid2 hW1
  have HB := hid2 hb1
  have HR4 := hid2 hr4
  have HN := hid2 hn
  have HKN := hid2 hkn
  have HTN := hid2 htn
  clear h hbx0 hb0 hz hb01 hbx hb1 hel hAX hk hat hend hW1 hr4 hN hG hn hkn hS hg htn
  go_enter Tryd.func36, Tryd.ntmps36
  go_wp2_with fail
  rw [← HW.out, ← HG.out]
  clear q10 q11 q12 q13 q14
  go_loopw [10] (fun i wr => ∃ k : Nat, k ≤ n ∧ i = .int .i64 k ∧ wr = W1 ∧ ∀ j y, j < k → v.ks[j]? = some y → y ≠ s) (fun i _ => n - (intOf i).toNat)
  case atStart => exact ⟨0, by omega, rfl, rfl, fun j p hj => absurd hj (Nat.not_lt_zero _)⟩
  case round =>
    obtain ⟨k, hk, rfl, rfl, hz⟩ := hrel
    have HZ := hid2 hz
    clear hz
    by_cases hlt : k < n
    · have hkl : (k : Int) < n := by omega
      have hk0 : (0 : Int) ≤ k := by omega
      obtain ⟨x, hx⟩ : ∃ x, v.ks[k]? = some x := ⟨_, List.getElem?_eq_getElem (by rw [HKN.out]; exact hlt)⟩
      obtain ⟨b, o, rfl, hc0⟩ := HKEY.out k x hx
      have hts := toList_strB x
      obtain ⟨X, hX⟩ : ∃ X, X = strB x := ⟨_, rfl⟩
      rw [← hX] at hc0 hts
      have heq : (X.toList == N.toList) = decide (x = s) := by rw [hts, HTN.out, Bool.eq_iff_iff]; simp
      have HX := hid2 hx
      clear hX hts
      by_cases h1 : x = s
      · rw [decide_eq_true h1] at heq
        have hg := HAT.out k x hx h1 HZ.out
        obtain ⟨y, hy⟩ : ∃ y, v.l[k]? = some y := ⟨_, List.getElem?_eq_getElem (by rw [← HN.out]; exact hlt)⟩
        obtain ⟨b2, o2, rfl, _, e0, e1, e2, e3, e4⟩ := HEL.out k y hy
        have hsel := selV_some (AX := AX) hy
        rw [← hg] at hsel
        have hsm : G.isSome = true := by rw [hg]; rfl
        have HSEL := hid2 hsel
        have HSM := hid2 hsm
        have z0 := cell_of_row wr _ 0 _ _ _ HR4.out
        have z1 := cell_of_row wr _ 1 _ _ _ HR4.out
        have z2 := cell_of_row wr _ 2 _ _ _ HR4.out
        have z3 := cell_of_row wr _ 3 _ _ _ HR4.out
        have z4 := cell_of_row wr _ 4 _ _ _ HR4.out
        have f0 := frozen_of_row wr _ 0 _ _ HR4.out
        have f1 := frozen_of_row wr _ 1 _ _ HR4.out
        have f2 := frozen_of_row wr _ 2 _ _ HR4.out
        have f3 := frozen_of_row wr _ 3 _ _ HR4.out
        have f4 := frozen_of_row wr _ 4 _ _ HR4.out
        clear hg hx h1 hsel hsm hy
        go_wp2_with fail
        refine bodyPost_ret (v := .tuple #[.agg #[.int .i64 y.k, .int .i64 y.n, .string (strB y.s), .slice (AX k).L y.l.length (AX k).cL, .slice (AX k).K y.ks.length (AX k).cK], .bool true]) ?_ rfl ⟨by rw [HSEL.out, HSM.out], ?_⟩
        · simp [results, Tryd.results36, go_sem, z0, z1, z2, z3, z4]
        · have hb := HB.out
          have hg := HG.out
          repeat first | (with_reducible exact hb) | (with_reducible refine Below.setCell ?_ (by show w.heap.size ≤ g + 1; omega) _)
      · rw [decide_eq_false h1] at heq
        have H1 := hid2 h1
        clear hx h1
        go_wp2_with fail
        go_roundw
        case rel =>
          refine ⟨k + 1, by omega, by go_num, by first | rfl | trivial, fun j q hj hq => ?_⟩
          rcases Nat.lt_or_ge j k with h | h
          · exact HZ.out j q h hq
          · obtain rfl : j = k := by omega
            rw [HX.out] at hq
            cases hq
            exact H1.out
        case measure => simp [intOf]; omega
    · have hkl : ¬ (k : Int) < n := by omega
      have hE0 := HEND.out fun j p hp => HZ.out j p (by have := HKN.out; have := (List.getElem?_eq_some_iff.1 hp).1; omega) hp
      have hsel := selV_none (v := v) (AX := AX)
      rw [← hE0] at hsel
      have hsm : G.isSome = false := by rw [hE0]; rfl
      have HSEL := hid2 hsel
      have HSM := hid2 hsm
      clear hE0 hsel hsm
      have f0 := frozen_of_row wr _ 0 _ _ HR4.out
      have f1 := frozen_of_row wr _ 1 _ _ HR4.out
      have f2 := frozen_of_row wr _ 2 _ _ HR4.out
      have f3 := frozen_of_row wr _ 3 _ _ HR4.out
      have f4 := frozen_of_row wr _ 4 _ _ HR4.out
      have z0 := cell_of_row wr _ 0 _ _ _ HR4.out
      have z1 := cell_of_row wr _ 1 _ _ _ HR4.out
      have z2 := cell_of_row wr _ 2 _ _ _ HR4.out
      have z3 := cell_of_row wr _ 3 _ _ _ HR4.out
      have z4 := cell_of_row wr _ 4 _ _ _ HR4.out
      go_wp2_with fail
      refine bodyPost_ret (v := .tuple #[.agg #[.int .i64 0, .int .i64 0, .string ⟨#[]⟩, .slice none 0 0, .slice none 0 0], .bool false]) ?_ rfl ⟨by rw [HSEL.out, HSM.out], ?_⟩
      · simp [results, Tryd.results36, go_sem, z0, z1, z2, z3, z4]
      · have hb := HB.out
        have hg := HG.out
        repeat first | (with_reducible exact hb) | (with_reducible refine Below.setCell ?_ (by show w.heap.size ≤ g + 1; omega) _)
end Go.Proofs.YthefhfnmkjdekaaDoor
