/- The walks of ConfigChecks and ConfigBack. -/
import Derived.Test.YthefhfnmkjdekaaDoorCf10
namespace Go.Proofs.YthefhfnmkjdekaaDoor
open Go.RowKit Go.Shelf Go.Sort
set_option maxRecDepth 100000
theorem short_great {l : List SetE} (h : greatE l = false) : l.length ≤ 30 ∧ Short l := by
  rw [greatE, Bool.or_eq_false_iff] at h
  obtain ⟨h1, h2⟩ := h
  refine ⟨by simp at h1; omega, fun p hp => ?_⟩
  have := List.any_eq_false.1 h2 p hp
  simp [longE] at this
  omega
set_option maxHeartbeats 4000000 in
theorem cfgchecks_any (w : World) (A : Option Addr) (c : Nat) (l : List SetE) (hl : l.length ≤ maxLen) (hr : Rd w 2 A l.length (setsV l)) (N : ByteArray) (hM : MaxL w) :
    Calls Tryd.prog 4 #[.slice A l.length c, .string N] w fun e w' => e = .returned (.bool true) ∧ Below w.heap.size w w' := by
  have cG := rgreat_any w A c l hl hr
  have cF := fun (W : World) (hb : Below w.heap.size w W) => fixed_any W (hM.on hb)
  have CF := hid2 cF
  cases hg : greatE l with
  | true =>
    rw [hg] at cG
    clear hr hM cF hg
    go_enter Tryd.func4, Tryd.ntmps4
    go_wp2_with (first
      | (go_at_call 7; refine cG.mono ?_; rintro e w1 ⟨rfl, rfl⟩)
      | (go_at_call 9; refine (CF.out _ (Below.refl _ _)).mono ?_; rintro e w2 ⟨rfl, hb2⟩))
    go_ret
    exact ⟨rfl, hb2⟩
  | false =>
    rw [hg] at cG
    by_cases h100 : (100 : Int) < N.size
    · clear hr hM cF hg
      go_enter Tryd.func4, Tryd.ntmps4
      go_wp2_with (first
        | (go_at_call 7; refine cG.mono ?_; rintro e w1 ⟨rfl, rfl⟩)
        | (go_at_call 9; refine (CF.out _ (Below.refl _ _)).mono ?_; rintro e w2 ⟨rfl, hb2⟩))
      go_ret
      exact ⟨rfl, hb2⟩
    · obtain ⟨h30, hs⟩ := short_great hg
      have c1 := fun (W : World) (hb : Below w.heap.size w W) => get_any W A c l N.data.toList (by omega) (hr.below_all hb)
      have c2 := fun (W : World) (hb : Below w.heap.size w W) => rget_any W A c l N.data.toList (by omega) (hr.below_all hb)
      have c3 := fun (W : World) (hb : Below w.heap.size w W) => check_any W A c l (by omega) hs (hr.below_all hb)
      have c4 := fun (W : World) (hb : Below w.heap.size w W) => rcheck_any W A c l (by omega) hs (hr.below_all hb)
      have c5 := fun (W : World) (hb : Below w.heap.size w W) => text_any W A c l (by omega) hs (hr.below_all hb)
      have c6 := fun (W : World) (hb : Below w.heap.size w W) => rtext_any W A c l (by omega) hs (hr.below_all hb)
      rw [strB_of] at c1 c2
      obtain ⟨n, hn⟩ : ∃ n, n = l.length := ⟨_, rfl⟩
      obtain ⟨G, hG⟩ : ∃ G, G = strB (getE l N.data.toList).1 := ⟨_, rfl⟩
      obtain ⟨B, hB⟩ : ∃ B, B = (getE l N.data.toList).2 := ⟨_, rfl⟩
      obtain ⟨E, hE⟩ : ∃ E, E = checkE l := ⟨_, rfl⟩
      obtain ⟨T, hT⟩ : ∃ T, T = strB (textE l) := ⟨_, rfl⟩
      rw [← hn, ← hG, ← hB] at c1 c2
      rw [← hn, ← hE] at c3 c4
      rw [← hn, ← hT] at c5 c6
      rw [← hn] at cG ⊢
      have C1 := hid2 c1
      have C2 := hid2 c2
      have C3 := hid2 c3
      have C4 := hid2 c4
      have C5 := hid2 c5
      have C6 := hid2 c6
      clear hr hM cF hg hs h30 c1 c2 c3 c4 c5 c6 hn hG hB hE hT hl
      go_enter Tryd.func4, Tryd.ntmps4
      go_wp2_with (first
        | (go_at_call 7; refine cG.mono ?_; rintro e w1 ⟨rfl, rfl⟩; clear cG)
        | (go_at_call 13; refine (C1.out _ (Below.refl _ _)).mono ?_; rintro e w2 ⟨rfl, hb2⟩)
        | (go_at_call 14; refine (C2.out _ hb2).mono ?_; rintro e w3 ⟨rfl, hc3⟩; have hb3 := hb2.trans (hc3.mono hb2.size))
        | (go_at_call 15; refine (C3.out _ hb3).mono ?_; rintro e w4 ⟨rfl, hc4⟩; have hb4 := hb3.trans (hc4.mono hb3.size))
        | (go_at_call 8; refine (C4.out _ hb4).mono ?_; rintro e w5 ⟨rfl, hc5⟩; have hb5 := hb4.trans (hc5.mono hb4.size))
        | (go_at_call 11; refine (C5.out _ hb5).mono ?_; rintro e w6 ⟨rfl, hc6⟩; have hb6 := hb5.trans (hc6.mono hb5.size))
        | (go_at_call 16; refine (C6.out _ hb6).mono ?_; rintro e w7 ⟨rfl, hc7⟩; have hb7 := hb6.trans (hc7.mono hb6.size))
        | (go_at_call 9; refine (CF.out _ hb7).mono ?_; rintro e w8 ⟨rfl, hc8⟩))
      go_ret
      exact ⟨by simp, hb7.trans (hc8.mono hb7.size)⟩
/-- the text that the statement builds, with g settings left -/
def backT (l : List SetE) (g : Nat) : Tx := joinE ((l.drop g).reverse) ++ (if 0 < g ∧ g < l.length then [44] else [])
theorem backT_start (l : List SetE) : backT l l.length = [] := by
  rw [backT, List.drop_length, if_neg (by omega)]
  rfl
theorem backT_end (l : List SetE) : backT l 0 = joinE l.reverse := by
  rw [backT, if_neg (by omega), List.drop_zero, List.append_nil]
theorem backT_step {l : List SetE} {g : Nat} {p : SetE} (hp : l[g]? = some p) : backT l g = backT l (g + 1) ++ setT p ++ (if 0 < g then [44] else []) := by
  obtain ⟨hg, rfl⟩ := List.getElem?_eq_some_iff.1 hp
  have hd : (l.drop g).reverse = (l.drop (g + 1)).reverse ++ [l[g]] := by rw [List.drop_eq_getElem_cons hg, List.reverse_cons]
  have h1 : (if 0 < g ∧ g < l.length then ([44] : Tx) else []) = if 0 < g then [44] else [] := by simp [hg]
  rw [backT, backT, hd, h1]
  congr 1
  by_cases he : g + 1 < l.length
  · rw [if_pos ⟨by omega, he⟩, joinE, List.map_append]
    refine join_snoc _ _ fun e => ?_
    have := congrArg List.length e
    rw [List.length_map, List.length_reverse, List.length_drop, List.length_nil] at this
    omega
  · rw [if_neg (by omega), List.drop_of_length_le (by omega)]
    simp [joinE, Lib.join_one, Lib.join_nil]
theorem backT_len {l : List SetE} (hs : ∀ p ∈ l, oneE p = 0) (h16 : l.length ≤ 16) (g : Nat) : (backT l g).length ≤ 3000 := by
  have h2 := join_len ((l.drop g).reverse.map setT) 129 (fun x hx => by
    obtain ⟨p, hp, rfl⟩ := List.mem_map.1 hx
    have := oneE_len (hs p (List.mem_of_mem_drop (List.mem_reverse.1 hp)))
    simp only [setT, List.length_append, List.length_cons, List.length_nil]
    omega)
  rw [List.length_map, List.length_reverse, List.length_drop] at h2
  have h3 : (l.length - g) * (129 + 1) ≤ 16 * 130 := Nat.mul_le_mul_right _ (by omega)
  have h4 : (joinE ((l.drop g).reverse)).length ≤ 16 * 130 := Nat.le_trans h2 h3
  rw [backT, List.length_append]
  split <;> simp <;> omega
set_option maxHeartbeats 400000 in
theorem cfgback_any (w : World) (A : Option Addr) (c : Nat) (l : List SetE) (hl : l.length ≤ maxLen) (hr : Rd w 2 A l.length (setsV l)) (hM : MaxL w) :
    Calls Tryd.prog 3 #[.slice A l.length c] w fun e w' => e = .returned (.bool true) ∧ Below w.heap.size w w' := by
  have cG := rgreat_any w A c l hl hr
  have cF := fun (W : World) (hb : Below w.heap.size w W) => fixed_any W (hM.on hb)
  have CF := hid2 cF
  cases hg : greatE l with
  | true =>
    rw [hg] at cG
    clear hr hM cF hg
    go_enter Tryd.func3, Tryd.ntmps3
    go_wp2_with (first
      | (go_at_call 7; refine cG.mono ?_; rintro e w1 ⟨rfl, rfl⟩)
      | (go_at_call 9; refine (CF.out _ (Below.refl _ _)).mono ?_; rintro e w2 ⟨rfl, hb2⟩))
    go_ret
    exact ⟨rfl, hb2⟩
  | false =>
    rw [hg] at cG
    obtain ⟨h30, hs⟩ := short_great hg
    have c4 := rcheck_any w A c l (by omega) hs hr
    by_cases h0 : checkE l = 0
    · have h1 := checkE_one h0
      have h16 := checkE_len h0
      have hri := checkE_rising h0
      have hnd := rising_nodup hri
      have c5 := fun (W : World) (hb : Below w.heap.size w W) => text_any W A c l (by omega) hs (hr.below_all hb)
      have c6 := fun (W : World) (hb : Below w.heap.size w W) => read_ok W l h16 h1 hnd (hM.on hb)
      have c7 := fun (W : World) (hb : Below w.heap.size w W) => read_ok W l.reverse (by rw [List.length_reverse]; exact h16) (fun p hp => h1 p (List.mem_reverse.1 hp)) (by rw [List.map_reverse]; exact List.pairwise_reverse.2 (List.Pairwise.imp (fun h => Ne.symm h) hnd)) (hM.on hb)
      have c8 := fun (W : World) (hb : Below w.heap.size w W) (B : Option Addr) (d : Nat) (hB : Rd W 2 B l.length (setsV l)) => rsame_eq W B A d c l (by omega) hB (hr.below_all hb)
      rw [text_ok h0] at c5
      rw [h0] at c4
      have hm : ∀ m : List SetE, m.Perm l → ByName m → m = l := fun m hp hm => sorted_eq hp hm hri
      have hst := backT_start l
      have hen := backT_end l
      have hbl := backT_len h1 h16
      obtain ⟨n, hn⟩ : ∃ n, n = l.length := ⟨_, rfl⟩
      obtain ⟨T, hT⟩ : ∃ T, T = strB (joinE l) := ⟨_, rfl⟩
      rw [← hn] at c4 c5 c8 cG hr h16 hst ⊢
      rw [← hT] at c5 c6
      have C4 := hid2 c4
      have C5 := hid2 c5
      have C6 := hid2 c6
      have C7 := hid2 c7
      have C8 := hid2 c8
      have HMM := hid2 hm
      have HR := hid2 hr
      have HN := hid2 hn
      have HST := hid2 hst
      have HEN := hid2 hen
      have HBL := hid2 hbl
      have H1 := hid2 h1
      clear hr hM cF hg hs h30 c4 c5 c6 c7 c8 hn hT hl h0 h1 hri hnd hm hst hen hbl
      go_enter Tryd.func3, Tryd.ntmps3
      go_wp2_with (first
        | (go_at_call 7; refine cG.mono ?_; rintro e w1 ⟨rfl, rfl⟩; clear cG)
        | (go_at_call 8; refine C4.out.mono ?_; rintro e w2 ⟨rfl, hb2⟩)
        | (go_at_call 11; refine (C5.out _ hb2).mono ?_; rintro e w3 ⟨rfl, hc3⟩; have hb3 := hb2.trans (hc3.mono hb2.size); have HB3 := hid2 hb3; clear hb2 hc3)
        | (go_at_call 10; refine (C6.out _ hb3).mono ?_; rintro e w4 ⟨A4, c4, m, rfl, hr4, hp4, hm4, hc4⟩; obtain rfl : m = l := HMM.out m hp4 hm4; rw [← HN.out] at hr4 ⊢; have HB4 := hid2 (HB3.out.trans (hc4.mono HB3.out.size)); have HR4 := hid2 hr4; clear hb3 C6 hr4 hp4 hm4 hc4))
      go_loopg [5, 6] n (fun gk sv iv wr => gk ≤ n ∧ ∃ (i : Int), iv = .int .i64 i ∧ i = (gk : Int) - 1 ∧ sv = .string (strB (backT m gk)) ∧ Below w4.heap.size w4 wr)
      case atStart => exact ⟨Nat.le_refl _, _, rfl, by omega, by rw [HST.out]; rfl, Below.refl _ _⟩
      case round =>
        obtain ⟨hgn, i, rfl, hi, rfl, hbe⟩ := hrel
        have hbf := HB4.out.trans (hbe.mono HB4.out.size)
        have HBE := hid2 hbe
        have HBF := hid2 hbf
        by_cases h0 : 0 < gk
        · obtain ⟨p, rfl⟩ : ∃ p, gk = p + 1 := ⟨gk - 1, by omega⟩
          obtain rfl : i = (p : Int) := by omega
          clear hi
          have hp0 : (0 : Int) ≤ p := by omega
          have hpn : (p : Int) < n := by omega
          obtain ⟨x, hx⟩ : ∃ x, m[p]? = some x := ⟨_, List.getElem?_eq_getElem (by rw [← HN.out]; omega)⟩
          obtain ⟨b, o, rfl, hc0, hc1⟩ := (HR.out.below_all hbf).set_at hx
          have hxl := oneE_len (H1.out x (List.mem_of_getElem? hx))
          have hbs := backT_step hx
          have hSs : (strB (backT m (p + 1))).size ≤ 3000 := by rw [strB_size]; exact HBL.out _
          obtain ⟨X, hX⟩ : ∃ X, X = strB x.1 := ⟨_, rfl⟩
          obtain ⟨Y, hY⟩ : ∃ Y, Y = strB x.2 := ⟨_, rfl⟩
          have hXs : X.size ≤ 1000 := by rw [hX, strB_size]; omega
          have hYs : Y.size ≤ 1000 := by rw [hY, strB_size]; omega
          have hsx := setT_strB x
          rw [← hX] at hc0 hsx
          rw [← hY] at hc1 hsx
          obtain ⟨S, hS⟩ : ∃ S, S = strB (backT m (p + 1)) := ⟨_, rfl⟩
          rw [← hS] at hSs ⊢
          obtain ⟨Z1, hZ1⟩ : ∃ Z, X ++ (⟨#[61]⟩ : ByteArray) = Z := ⟨_, rfl⟩
          obtain ⟨Z2, hZ2⟩ : ∃ Z, Z1 ++ Y = Z := ⟨_, rfl⟩
          obtain ⟨U, hU⟩ : ∃ Z, S ++ Z2 = Z := ⟨_, rfl⟩
          obtain ⟨V, hV⟩ : ∃ Z, U ++ (⟨#[44]⟩ : ByteArray) = Z := ⟨_, rfl⟩
          have hs1 : Z1.size = X.size + 1 := by rw [← hZ1, ByteArray.size_append]; rfl
          have hs2 : Z2.size = Z1.size + Y.size := by rw [← hZ2, ByteArray.size_append]
          have hs3 : U.size = S.size + Z2.size := by rw [← hU, ByteArray.size_append]
          have ha1 : ¬ (X.size + (⟨#[61]⟩ : ByteArray).size > 9223372036854775807) := by show ¬ (X.size + 1 > _); omega
          have ha2 : ¬ (Z1.size + Y.size > 9223372036854775807) := by omega
          have ha3 : ¬ (S.size + Z2.size > 9223372036854775807) := by omega
          have ha4 : ¬ (U.size + (⟨#[44]⟩ : ByteArray).size > 9223372036854775807) := by show ¬ (U.size + 1 > _); omega
          rw [hZ1, hZ2] at hsx
          have hUe : U = strB (backT m (p + 1) ++ setT x) := by rw [← hU, hS, hsx, strB_append]
          have hVe : V = strB (backT m (p + 1) ++ setT x ++ [44]) := by rw [← hV, hUe, show (⟨#[44]⟩ : ByteArray) = strB [44] from rfl, strB_append]
          have HBS := hid2 hbs
          have HUE := hid2 hUe
          have HVE := hid2 hVe
          clear hX hY hbe hbf hx hsx hS hs1 hs2 hs3 hSs hXs hYs hxl hUe hVe hbs h0
          by_cases hp1 : 0 < p
          · have hpi : (0 : Int) < p := by omega
            go_wp2_with fail
            go_quiet (fail)
            go_wp2_with fail
            go_roundg p
            case rel => exact ⟨by omega, _, rfl, by omega, by rw [HBS.out, if_pos hp1, ← HVE.out], below_drewN HBE.out _⟩
            case measure => omega
          · have hpi : ¬ (0 : Int) < p := by omega
            clear hV ha4
            go_wp2_with fail
            go_quiet (fail)
            go_wp2_with fail
            go_roundg p
            case rel => exact ⟨by omega, _, rfl, by omega, by rw [HBS.out, if_neg hp1, List.append_nil, ← HUE.out], below_drewN HBE.out _⟩
            case measure => omega
        · obtain rfl : gk = 0 := by omega
          obtain rfl : i = -1 := by omega
          have c7 := C7.out wr hbf
          rw [← HEN.out] at c7
          obtain ⟨S, hS⟩ : ∃ S, S = strB (backT m 0) := ⟨_, rfl⟩
          rw [← hS] at c7 ⊢
          have C7B := hid2 c7
          have K1 := hid2 trivial
          have K2 := hid2 trivial
          clear hi hbe hbf h0 hS c7
          go_wp2_with (first
            | (go_at_call 10; refine C7B.out.mono ?_; rintro e w5 ⟨A5, c5, m5, rfl, hr5, hp5, hm5, hc5⟩; obtain rfl : m = m5 := (HMM.out m5 (hp5.trans (List.reverse_perm _)) hm5).symm; rw [← HN.out] at hr5 ⊢; have HB5 := hid2 (HBF.out.trans (hc5.mono HBF.out.size)); have HR5 := hid2 hr5; have HR45 := hid2 ((HR4.out.below_all HBE.out).below_all hc5); clear C7B hp5 hm5 hr5 hc5)
            | (go_at_call 12; have _k := K1; refine (C8.out w5 HB5.out A4 c4 HR45.out).mono ?_; rintro e w6 ⟨rfl, hc6⟩; have HB6 := hid2 (HB5.out.trans (hc6.mono HB5.out.size)); have HR56 := hid2 (HR5.out.below_all hc6); clear K1 hc6)
            | (go_at_call 12; have _k := K2; refine (C8.out w6 HB6.out A5 c5 HR56.out).mono ?_; rintro e w7 ⟨rfl, hc7⟩; have HB7 := hid2 (HB6.out.trans (hc7.mono HB6.out.size)); clear K2 hc7)
            | (go_at_call 9; refine (CF.out _ HB7.out).mono ?_; rintro e w8 ⟨rfl, hc8⟩))
          go_ret
          exact ⟨by simp, HB7.out.trans (hc8.mono HB7.out.size)⟩
    · have hne : ¬ ((checkE l : Nat) : Int) = 0 := by omega
      obtain ⟨E, hE⟩ : ∃ E, E = checkE l := ⟨_, rfl⟩
      rw [← hE] at c4 hne
      clear hr hM cF hg hs h30 h0 hE
      go_enter Tryd.func3, Tryd.ntmps3
      go_wp2_with (first
        | (go_at_call 7; refine cG.mono ?_; rintro e w1 ⟨rfl, rfl⟩; clear cG)
        | (go_at_call 8; refine c4.mono ?_; rintro e w2 ⟨rfl, hb2⟩)
        | (go_at_call 9; refine (CF.out _ hb2).mono ?_; rintro e w3 ⟨rfl, hc3⟩))
      go_ret
      exact ⟨rfl, hb2.trans (hc3.mono hb2.size)⟩
end Go.Proofs.YthefhfnmkjdekaaDoor
