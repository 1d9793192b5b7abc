/- The walks of the document's Dir, Base, Ext and Under. -/
import Derived.Test.YtdhmebilloefjaaDoorPath8
namespace Go.Proofs.YtdhmebilloefjaaDoor
open Go.RowKit
theorem joinL_snoc : ∀ {ps : List (List UInt8)} (q : List UInt8), ps ≠ [] → joinL (ps ++ [q]) = joinL ps ++ 47 :: q
  | [], _, h => absurd rfl h
  | [p], q, _ => rfl
  | p :: p' :: r, q, _ => by
    show p ++ 47 :: joinL ((p' :: r) ++ [q]) = (p ++ 47 :: joinL (p' :: r)) ++ 47 :: q
    rw [joinL_snoc q (by simp)]; simp
theorem joinL_grow : ∀ (qs : List (List UInt8)) {ps : List (List UInt8)}, ps ≠ [] → (joinL ps).length ≤ (joinL (ps ++ qs)).length
  | [], ps, _ => by simp
  | q :: qs, ps, h => by
    have := joinL_grow qs (ps := ps ++ [q]) (by simp)
    rw [joinL_snoc q h] at this
    rw [show ps ++ q :: qs = (ps ++ [q]) ++ qs by simp]
    simp at this ⊢; omega
theorem joinL_take_le (l : List UInt8) {k : Nat} (hk : 1 ≤ k) : (joinL ((splitL l).take k)).length ≤ l.length := by
  have hne : (splitL l).take k ≠ [] := by
    obtain ⟨p, r, h⟩ := splitL_ex l
    rw [h]
    obtain ⟨m, rfl⟩ : ∃ m, k = m + 1 := ⟨k - 1, by omega⟩
    simp
  have := joinL_grow ((splitL l).drop k) hne
  rw [List.take_append_drop, joinL_splitL] at this
  exact this
theorem take_one_join : ∀ {L : List (List UInt8)}, 1 ≤ L.length → ∃ p, L[0]? = some p ∧ joinL (L.take 1) = p
  | [], h => by simp at h
  | p :: r, _ => ⟨p, rfl, rfl⟩
theorem joinL_take_succ {L : List (List UInt8)} {k : Nat} {p : List UInt8} (hk : 1 ≤ k) (hp : L[k]? = some p) : joinL (L.take (k + 1)) = joinL (L.take k) ++ 47 :: p := by
  obtain ⟨hlt, hp⟩ := List.getElem?_eq_some_iff.1 hp
  have hne : L.take k ≠ [] := by
    cases L with
    | nil => simp at hlt
    | cons q r =>
      obtain ⟨m, rfl⟩ : ∃ m, k = m + 1 := ⟨k - 1, by omega⟩
      simp
  rw [List.take_succ_eq_append_getElem hlt, joinL_snoc _ hne, hp]
/-- a part, read -/
theorem part_cell {w : World} {A : Option Addr} {N : Nat} {L : List (List UInt8)} {p : List UInt8} (hr : Rd w 1 A N (strV L)) {k : Nat} (hp : L[k]? = some p) : ∃ b o, A = some ⟨b, o, none⟩ ∧ w.cell? ⟨b, o + k, none⟩ = some (.string (strB p)) := by
  have hk : k < L.length := (List.getElem?_eq_some_iff.1 hp).1
  obtain ⟨b, o, rfl, hcell⟩ := hr.cell (j := k) (by rw [strV_length]; exact hk)
  refine ⟨b, o, rfl, ?_⟩
  rw [hcell]
  rw [List.getElem?_eq_getElem hk] at hp
  simp [strV, Option.some.inj hp]
theorem refbase_any (w : World) (s : ByteArray) (l : List UInt8) (hl : s.data.toList = l) (hs : s.size ≤ 90000) : Calls Tryd.prog 18 #[.string s] w fun e w' => e = .returned (.string (strB (baseL l))) ∧ Below w.heap.size w w' := by
  have hB := Below.refl w.heap.size w
  by_cases hm : mayB l = true
  · have hmc := fun w => refmay_of w s l (by omega) hl hm
    have hpc := fun w => parts_any w s (by omega)
    rw [hl] at hpc
    obtain ⟨L, hL⟩ : ∃ L, L = splitL l := ⟨_, rfl⟩
    obtain ⟨N, hN⟩ : ∃ N, N = L.length := ⟨_, rfl⟩
    have hN1 : 1 ≤ N := by rw [hN, hL]; exact splitL_length_pos l
    have hN2 : N ≤ 100000 := by have := splitL_length_le l; rw [hN, hL]; rw [← hl, toList_length] at this; rw [← hl]; omega
    have hlast : L[N - 1]? = some (baseL l) := by
      rw [baseL, if_pos hm, ← hL, List.getLastD_eq_getLast?, List.getLast?_eq_getElem?, ← hN]
      rw [List.getElem?_eq_getElem (show N - 1 < L.length by omega)]; rfl
    have hw1 : IntKind.i64.wrap ((N : Int) - 1) = (N : Int) - 1 := IntWalk.i64_in _ (by constructor <;> omega)
    have ha0 : (0 : Int) ≤ (N : Int) - 1 := by omega
    have ha1 : (1 : Int) ≤ N := by omega
    have hat : ((N : Int) - 1).toNat = N - 1 := by omega
    have HNL := hid2 hN
    have HL := hid2 hL
    have HLA := hid2 hlast
    clear hl hm hN hL hlast
    go_enter Tryd.func18, Tryd.ntmps18
    go_wp2_with (first
      | (go_at_call 10; (with_reducible refine (hmc _).mono ?_); rintro e w2 ⟨rfl, hb2⟩; replace hB := hB.trans (hb2.mono hB.size); clear hb2)
      | (go_at_call 21; (with_reducible refine (hpc _).mono ?_); rintro e w2 ⟨A, c, rfl, hr, hb2⟩; replace hB := hB.trans (hb2.mono hB.size); clear hb2; rw [← HL.out, ← HNL.out] at hr; rw [← HL.out, ← HNL.out]; obtain ⟨b, o, rfl, hcell⟩ := part_cell hr HLA.out; clear hr))
    go_ret
    exact ⟨rfl, hB⟩
  · have hm' : mayB l = false := by simpa using hm
    have hmc := fun w => refmay_of w s l (by omega) hl hm'
    rw [(noPath hm').2.1]
    clear hl hm hm'
    go_enter Tryd.func18, Tryd.ntmps18
    go_wp2_with (first
      | (go_at_call 10; (with_reducible refine (hmc _).mono ?_); rintro e w2 ⟨rfl, hb2⟩; replace hB := hB.trans (hb2.mono hB.size); clear hb2))
    go_ret
    exact ⟨rfl, hB⟩
theorem refext_any (w : World) (s : ByteArray) (l : List UInt8) (hl : s.data.toList = l) (hs : s.size ≤ 90000) : Calls Tryd.prog 20 #[.string s] w fun e w' => e = .returned (.string (strB (extL l))) ∧ Below w.heap.size w w' := by
  have hc := fun w => refbase_any w s l hl hs
  have hbl : (baseL l).length ≤ 90000 := by have := baseL_length l; rw [← hl, toList_length] at this; rw [← hl]; omega
  obtain ⟨p, hp⟩ : ∃ p, p = baseL l := ⟨_, rfl⟩
  obtain ⟨B, hB⟩ : ∃ B, B = strB (baseL l) := ⟨_, rfl⟩
  have hBs : (B.size : Int) ≤ 90000 := by rw [hB, strB_size]; omega
  have hBl : Hid2 (B.data.toList = p) := hid2 (by rw [hB, strB_list, hp])
  have hBn : Hid2 (p.length = B.size) := hid2 (by rw [← hBl.out, toList_length])
  rw [← hB] at hc
  rw [extL, ← hp]
  clear hB hp hbl hl
  go_enter Tryd.func20, Tryd.ntmps20
  go_wp2_with (go_at_call 18; refine (hc _).mono ?_; rintro e w1 ⟨rfl, hb⟩)
  go_loop [4] (fun i => ∃ k : Nat, k ≤ B.size ∧ i = .int .i64 ((k : Int) - 1) ∧ Hid2 (extFrom p k = extOf p)) (fun i => (intOf i + 1).toNat)
  case atStart => exact ⟨B.size, Nat.le_refl _, rfl, hid2 (by rw [extOf, hBn.out])⟩
  case round =>
    obtain ⟨k, hk, rfl, hx⟩ := hrel
    by_cases h2 : k < 2
    · have hr : Hid2 (extOf p = []) := hid2 (by
        rw [← hx.out]
        rcases (by omega : k = 0 ∨ k = 1) with rfl | rfl <;> rfl)
      have hno : ¬ (0 : Int) < (k : Int) - 1 := by omega
      go_wp2_with fail
      go_ret
      exact ⟨by rw [hr.out]; rfl, hb⟩
    · obtain ⟨m, rfl⟩ : ∃ m, k = m + 1 := ⟨k - 1, by omega⟩
      have e : ((m + 1 : Nat) : Int) - 1 = m := by omega
      rw [e]
      have hm : m < B.size := by omega
      have hm0 : (0 : Int) < m := by omega
      have hmle : (m : Int) ≤ B.size := by omega
      by_cases hc46 : (B[m]'hm).toNat = 46
      · have hc' : ((B[m]'hm).toNat : Int) = 46 := by omega
        have hr : Hid2 (strB (extOf p) = B.extract m B.size) := hid2 (by
          have h := hx.out
          rw [extFrom, if_neg (by omega), if_pos] at h
          · rw [← h]
            refine (strB_eq ?_).symm
            rw [extract_list, hBl.out, List.take_of_length_le (by rw [List.length_drop, hBn.out]; omega)]
          · rw [← hBl.out, get_list B hm]
            exact congrArg some (UInt8.toNat_inj.1 hc46))
        clear hc46 e h2
        go_wp2_with fail
        go_ret
        exact ⟨by rw [hr.out]; rfl, hb⟩
      · have hc' : ¬ ((B[m]'hm).toNat : Int) = 46 := by omega
        have hr : Hid2 (extFrom p m = extOf p) := hid2 (by
          have h := hx.out
          rw [extFrom, if_neg (by omega), if_neg] at h
          · exact h
          · rw [← hBl.out, get_list B hm]
            intro e'
            exact hc46 (by rw [Option.some.inj e']; rfl))
        clear hc46 e h2
        go_wp2_with fail
        go_round
        case rel => exact ⟨m, by omega, by go_num, hr⟩
        case measure => simp [intOf]
theorem refdir_any (w : World) (s : ByteArray) (l : List UInt8) (hl : s.data.toList = l) (hs : s.size ≤ 90000) : Calls Tryd.prog 16 #[.string s] w fun e w' => e = .returned (.string (strB (dirL l))) ∧ Below w.heap.size w w' := by
  have hB := Below.refl w.heap.size w
  have hpc := fun w => parts_any w s (by omega)
  rw [hl] at hpc
  obtain ⟨L, hL⟩ : ∃ L, L = splitL l := ⟨_, rfl⟩
  obtain ⟨N, hN⟩ : ∃ N, N = L.length := ⟨_, rfl⟩
  have hN1 : 1 ≤ N := by rw [hN, hL]; exact splitL_length_pos l
  have hll : l.length ≤ 90000 := by rw [← hl, toList_length]; exact hs
  have hN2 : N ≤ 100000 := by have := splitL_length_le l; rw [hN, hL]; omega
  have hN1' : (1 : Int) ≤ N := by omega
  have hN2' : (N : Int) ≤ 100000 := by omega
  have HNL := hid2 hN
  have HL := hid2 hL
  by_cases hm : mayB l = true
  · have hmc := fun w => refmay_of w s l (by omega) hl hm
    by_cases h1 : N = 1
    · have hd : dirL l = [] := dirL_top hm (by rw [← hL, ← hN, h1]; exact Nat.le_refl _)
      have h1' : (N : Int) = 1 := by omega
      have HN1 := hid2 h1
      rw [hd]
      clear hl hm hN hL hd h1' h1
      go_enter Tryd.func16, Tryd.ntmps16
      go_wp2_with (first
        | (go_at_call 10; (with_reducible refine (hmc _).mono ?_); rintro e w2 ⟨rfl, hb2⟩; replace hB := hB.trans (hb2.mono hB.size); clear hb2)
        | (go_at_call 21; (with_reducible refine (hpc _).mono ?_); rintro e w2 ⟨A, c, rfl, hr, hb2⟩; replace hB := hB.trans (hb2.mono hB.size); clear hb2; rw [← HL.out, ← HNL.out, HN1.out]; clear hr))
      go_ret
      exact ⟨rfl, hB⟩
    · have h1' : ¬ (N : Int) = 1 := by omega
      have hd : Hid2 (dirL l = joinL (L.take (N - 1))) := hid2 (by rw [dirL, if_pos hm, ← hL, List.dropLast_eq_take, ← hN])
      have hjl : ∀ k, 1 ≤ k → (joinL (L.take k)).length ≤ 90000 := fun k hk => by have := joinL_take_le l hk; rw [← hL] at this; omega
      have HJ := hid2 hjl
      have hfst : ∃ p, L[0]? = some p ∧ joinL (L.take 1) = p := take_one_join (by omega)
      obtain ⟨p0, hp0, hj0⟩ := hfst
      have HP0 := hid2 hp0
      have HJ0 := hid2 hj0
      have hN3 : 2 ≤ N := by omega
      have hN3' : (2 : Int) ≤ N := by omega
      clear hl hm hN hL h1 hjl hp0 hj0
      go_enter Tryd.func16, Tryd.ntmps16
      go_wp2_with (first
        | (go_at_call 10; (with_reducible refine (hmc _).mono ?_); rintro e w2 ⟨rfl, hb2⟩; replace hB := hB.trans (hb2.mono hB.size); have hr2 := hr.below_all hb2; clear hb2 hr; obtain ⟨b, o, rfl, hcell⟩ := part_cell hr2 HP0.out; rw [Nat.add_zero] at hcell)
        | (go_at_call 21; (with_reducible refine (hpc _).mono ?_); rintro e w2 ⟨A, c, rfl, hr, hb2⟩; replace hB := hB.trans (hb2.mono hB.size); clear hb2; rw [← HL.out, ← HNL.out] at hr; rw [← HL.out, ← HNL.out]))
      clear hcell
      go_loop [4, 5] (fun v i => ∃ k : Nat, 1 ≤ k ∧ k ≤ N - 1 ∧ i = .int .i64 k ∧ v = .string (strB (joinL (L.take k)))) (fun _ i => N - (intOf i).toNat)
      case atStart => exact ⟨1, Nat.le_refl _, by omega, rfl, by rw [HJ0.out]⟩
      case round =>
        obtain ⟨k, hk1, hk, rfl, rfl⟩ := hrel
        by_cases hlt : k < N - 1
        · have hkL : k < L.length := by rw [← HNL.out]; omega
          obtain ⟨p, hp⟩ : ∃ p, L[k]? = some p := ⟨_, List.getElem?_eq_getElem hkL⟩
          obtain ⟨b', o', e, hcell⟩ := part_cell hr2 hp
          cases e
          have hJs := joinL_take_succ hk1 hp
          have hb1 := HJ.out k hk1
          have hb2 := HJ.out (k + 1) (by omega)
          rw [hJs, List.length_append, List.length_cons] at hb2
          obtain ⟨X, hX⟩ : ∃ X, X = strB (joinL (L.take k)) := ⟨_, rfl⟩
          obtain ⟨Y, hY⟩ : ∃ Y, Y = strB p := ⟨_, rfl⟩
          have hXs : X.size ≤ 90000 := by rw [hX, strB_size]; exact hb1
          have hYs : Y.size ≤ 90000 := by rw [hY, strB_size]; omega
          obtain ⟨Z, hZ⟩ : ∃ Z, Z = X ++ ⟨#[47]⟩ := ⟨_, rfl⟩
          have hZs : Z.size = X.size + 1 := by rw [hZ, ByteArray.size_append]; rfl
          have ha1 : ¬ (X.size + (⟨#[47]⟩ : ByteArray).size > 9223372036854775807) := by show ¬ (X.size + 1 > _); omega
          have ha2 : ¬ (Z.size + Y.size > 9223372036854775807) := by omega
          have hnew : Hid2 (Z ++ Y = strB (joinL (L.take (k + 1)))) := hid2 (strB_eq (by rw [string_append_toList, hZ, string_append_toList, hX, strB_list, hY, strB_list, hJs]; simp))
          rw [← hY] at hcell
          rw [← hX]
          have hlt' : (k : Int) < (N : Int) - 1 := by omega
          have hZ' := hZ.symm
          clear hp hJs hX hY hZ hZs hkL
          go_wp2_with fail
          go_round
          case rel => exact ⟨k + 1, by omega, by omega, by go_num, by rw [hnew.out]⟩
          case measure => simp [intOf]; omega
        · have hkN : Hid2 (k = N - 1) := hid2 (by omega)
          have hlt' : ¬ (k : Int) < (N : Int) - 1 := by omega
          go_wp2_with fail
          go_ret
          exact ⟨by rw [hkN.out, hd.out]; rfl, hB⟩
  · have hm' : mayB l = false := by simpa using hm
    have hmc := fun w => refmay_of w s l (by omega) hl hm'
    rw [(noPath hm').1]
    clear hl hm hm' hN hL
    go_enter Tryd.func16, Tryd.ntmps16
    go_wp2_with (first
      | (go_at_call 10; (with_reducible refine (hmc _).mono ?_); rintro e w2 ⟨rfl, hb2⟩; replace hB := hB.trans (hb2.mono hB.size); clear hb2)
      | (go_at_call 21; (with_reducible refine (hpc _).mono ?_); rintro e w2 ⟨A, c, rfl, hr, hb2⟩; replace hB := hB.trans (hb2.mono hB.size); clear hb2; rw [← HL.out, ← HNL.out]; clear hr))
    go_ret
    exact ⟨rfl, hB⟩
theorem dirL_length {l : List UInt8} (h : mayB l = true) : (dirL l).length < l.length := by
  have hne := mayB_ne h
  rcases last_stroke l with h47 | ⟨a, b, rfl, hb⟩
  · rw [dirL_pure h47]
    cases l with
    | nil => exact absurd rfl hne
    | cons c r => simp
  · rw [dirL_last hb h]; simp
theorem refunder_any (d : ByteArray) (hd : d.size ≤ 90000) (n : Nat) : ∀ (w : World) (s : ByteArray) (l : List UInt8), s.data.toList = l → l.length ≤ n → s.size ≤ 90000 →
    Calls Tryd.prog 14 #[.string s, .string d] w fun e w' => e = .returned (.bool (underB l d.data.toList)) ∧ Below w.heap.size w w' := by
  induction n with
  | zero =>
    intro w s l hl hn hs
    have hB := Below.refl w.heap.size w
    have hm : mayB l = false := by
      rw [List.eq_nil_of_length_eq_zero (show l.length = 0 by omega)]; decide
    have hmc := fun w => refmay_of w s l (by omega) hl hm
    rw [underB_no hm]
    clear hl hm hn
    go_enter Tryd.func14, Tryd.ntmps14
    go_wp2_with (first
      | (go_at_call 10; (with_reducible refine (hmc _).mono ?_); rintro e w2 ⟨rfl, hb2⟩; replace hB := hB.trans (hb2.mono hB.size); clear hb2))
    go_ret
    exact ⟨rfl, hB⟩
  | succ n ih =>
    intro w s l hl hn hs
    have hB := Below.refl w.heap.size w
    by_cases hm : mayB l = true
    · have hmc := fun w => refmay_of w s l (by omega) hl hm
      by_cases h0 : d.data.toList.isEmpty = true
      · have h0n : d.data.toList = [] := List.isEmpty_iff.1 h0
        have h01 := empty_yes h0
        rw [h0n, underB_nil hm]
        clear hl hm hn ih h0 h0n
        go_enter Tryd.func14, Tryd.ntmps14
        go_wp2_with (first
          | (go_at_call 10; (with_reducible refine (hmc _).mono ?_); rintro e w2 ⟨rfl, hb2⟩; replace hB := hB.trans (hb2.mono hB.size); clear hb2))
        go_ret
        exact ⟨rfl, hB⟩
      · have h0' : d.data.toList.isEmpty = false := by simpa using h0
        have hne : d.data.toList ≠ [] := by intro e; rw [e] at h0'; cases h0'
        have hdc := fun w => refdir_any w s l hl hs
        have hde : d.toList.isEmpty = false := empty_iff h0'
        have hstep := underB_dir (d := d.data.toList) hm hne
        have hdl := dirL_length hm
        obtain ⟨U, hU⟩ : ∃ U, U = strB (dirL l) := ⟨_, rfl⟩
        rw [← hU] at hdc
        have hUl : U.data.toList = dirL l := by rw [hU, strB_list]
        have hUs : U.size ≤ 90000 := by rw [hU, strB_size]; have := toList_length s; rw [hl] at this; omega
        have hUt : U.toList = dirL l := by rw [ByteArray.toList_eq]; exact hUl
        have hdt := ByteArray.toList_eq d
        obtain ⟨q, hq⟩ : ∃ q, q = d.data.toList := ⟨_, rfl⟩
        rw [← hq] at hstep hne hdt ih ⊢
        have hqe : ¬ [] = q := fun e => hne e.symm
        by_cases hu0 : dirL l = []
        · have hr : underB l q = false := by
            rw [hstep, hu0]
            simp [hqe]
          have hue : U.toList.isEmpty = true := by rw [hUt, hu0]; rfl
          rw [hr]
          clear hl hm hn ih h0 h0' hne hstep hdl hU hUl hUs hUt hdt hu0 hr hq hqe
          go_enter Tryd.func14, Tryd.ntmps14
          go_wp2_with (first
            | (go_at_call 10; (with_reducible refine (hmc _).mono ?_); rintro e w2 ⟨rfl, hb2⟩; replace hB := hB.trans (hb2.mono hB.size); clear hb2)
            | (go_at_call 16; (with_reducible refine (hdc _).mono ?_); rintro e w2 ⟨rfl, hb2⟩; replace hB := hB.trans (hb2.mono hB.size); clear hb2))
          go_ret
          exact ⟨by simp [hue], hB⟩
        · have hue : U.toList.isEmpty = false := by rw [hUt]; cases h : dirL l <;> simp_all
          by_cases hud : dirL l = q
          · have hr : underB l q = true := by rw [hstep, hud]; simp
            have hbe : (U.toList == d.toList) = true := by rw [hUt, hdt, hud]; exact beq_self_eq_true _
            rw [hr]
            clear hl hm hn ih h0 h0' hne hstep hdl hU hUl hUs hUt hdt hu0 hr hq hqe hud
            go_enter Tryd.func14, Tryd.ntmps14
            go_wp2_with (first
            | (go_at_call 10; (with_reducible refine (hmc _).mono ?_); rintro e w2 ⟨rfl, hb2⟩; replace hB := hB.trans (hb2.mono hB.size); clear hb2)
            | (go_at_call 16; (with_reducible refine (hdc _).mono ?_); rintro e w2 ⟨rfl, hb2⟩; replace hB := hB.trans (hb2.mono hB.size); clear hb2))
            go_ret
            exact ⟨by simp [hue, hbe], hB⟩
          · have hr : underB l q = underB (dirL l) q := by rw [hstep]; simp [hu0, hud]
            have hbe : (U.toList == d.toList) = false := by rw [hUt, hdt]; simpa using hud
            have huc := fun w => ih w U (dirL l) hUl (by omega) hUs
            rw [hr]
            obtain ⟨v, hv⟩ : ∃ v, v = underB (dirL l) q := ⟨_, rfl⟩
            rw [← hv] at huc ⊢
            clear hl hm hn ih h0 h0' hne hstep hdl hU hUl hUs hUt hdt hu0 hr hq hqe hud hv
            go_enter Tryd.func14, Tryd.ntmps14
            go_wp2_with (first
            | (go_at_call 10; (with_reducible refine (hmc _).mono ?_); rintro e w2 ⟨rfl, hb2⟩; replace hB := hB.trans (hb2.mono hB.size); clear hb2)
            | (go_at_call 16; (with_reducible refine (hdc _).mono ?_); rintro e w2 ⟨rfl, hb2⟩; replace hB := hB.trans (hb2.mono hB.size); clear hb2)
            | (go_at_call 14; (with_reducible refine (huc _).mono ?_); rintro e w2 ⟨rfl, hb2⟩; replace hB := hB.trans (hb2.mono hB.size); clear hb2))
            go_ret
            exact ⟨by simp [hue, hbe], hB⟩
    · have hm' : mayB l = false := by simpa using hm
      have hmc := fun w => refmay_of w s l (by omega) hl hm'
      rw [underB_no hm']
      clear hl hm hm' hn ih
      go_enter Tryd.func14, Tryd.ntmps14
      go_wp2_with (first
        | (go_at_call 10; (with_reducible refine (hmc _).mono ?_); rintro e w2 ⟨rfl, hb2⟩; replace hB := hB.trans (hb2.mono hB.size); clear hb2))
      go_ret
      exact ⟨rfl, hB⟩
end Go.Proofs.YtdhmebilloefjaaDoor
