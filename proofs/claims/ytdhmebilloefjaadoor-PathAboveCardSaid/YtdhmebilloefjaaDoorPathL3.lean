/- The walk of the law PathAbove. -/
import Derived.Test.YtdhmebilloefjaaDoorPathL2
namespace Go.Proofs.YtdhmebilloefjaaDoor
open Go.RowKit
theorem dirL_le (l : List UInt8) : (dirL l).length ≤ l.length := by
  by_cases h : mayB l = true
  · have := dirL_length h; omega
  · simp [dirL, h]
theorem upL_le (l : List UInt8) : ∀ k, (upL l k).length ≤ l.length
  | 0 => Nat.le_refl _
  | k + 1 => Nat.le_trans (dirL_le _) (upL_le l k)
theorem lawAbove_any (w : World) (s d : ByteArray) : Calls Tryd.prog 7 #[.string s, .string d] w fun e w' => e = .returned (.bool true) ∧ Below w.heap.size w w' := by
  have hB := Below.refl w.heap.size w
  by_cases h : 1500 < s.size
  · have h' : (1500 : Int) < s.size := by omega
    go_enter Tryd.func7, Tryd.ntmps7
    go_wp2_with (first
      | (go_at_call 8; (with_reducible refine (alive_any _).mono ?_); rintro e w2 ⟨rfl, hb2⟩; replace hB := hB.trans (hb2.mono hB.size); clear hb2))
    go_ret
    exact ⟨rfl, hB⟩
  by_cases h2 : 1500 < d.size
  · have h1' : ¬ (1500 : Int) < s.size := by omega
    have h2' : (1500 : Int) < d.size := by omega
    go_enter Tryd.func7, Tryd.ntmps7
    go_wp2_with (first
      | (go_at_call 8; (with_reducible refine (alive_any _).mono ?_); rintro e w2 ⟨rfl, hb2⟩; replace hB := hB.trans (hb2.mono hB.size); clear hb2))
    go_ret
    exact ⟨rfl, hB⟩
  have h1' : ¬ (1500 : Int) < s.size := by omega
  have h2' : ¬ (1500 : Int) < d.size := by omega
  by_cases hm : mayB s.data.toList = true
  · have r4 := fun w => refmay_of w s _ (by omega) rfl hm
    obtain ⟨l, hl⟩ : ∃ l, l = s.data.toList := ⟨_, rfl⟩
    obtain ⟨q, hq⟩ : ∃ q, q = d.data.toList := ⟨_, rfl⟩
    obtain ⟨N, hN⟩ : ∃ N, N = (splitL l).length := ⟨_, rfl⟩
    rw [← hl] at hm
    have hll : l.length = s.size := by rw [hl, toList_length]
    have hN16 : N ≤ 16 := by
      have := hm
      simp only [mayB, Bool.and_eq_true, decide_eq_true_eq] at this
      rw [hN]; exact this.2
    have hN16' : (N : Int) ≤ 16 := by omega
    have hpc := fun w => partsN_any w s N (by omega) (by rw [← hl, hN])
    have hu := fun w => under_any w s d (by omega) (by omega)
    have hend := metB_end (d := q) hm
    rw [← hN] at hend
    rw [← hl, ← hq, ← hend] at hu
    have HM := hid2 hm
    have HL := hid2 hl
    have HQ := hid2 hq
    have HN := hid2 hN
    have HLL := hid2 hll
    have hs1 : s.size ≤ 1500 := by omega
    have hd1 : d.size ≤ 1500 := by omega
    clear h h2 hm hl hq hN hll hend
    go_enter Tryd.func7, Tryd.ntmps7
    go_wp2_with (first
      | (go_at_call 8; (with_reducible refine (alive_any _).mono ?_); rintro e w2 ⟨rfl, hb2⟩; replace hB := hB.trans (hb2.mono hB.size); clear hb2)
      | (go_at_call 10; (with_reducible refine (r4 _).mono ?_); rintro e w2 ⟨rfl, hb2⟩; replace hB := hB.trans (hb2.mono hB.size); clear hb2))
    go_loopw [5, 6, 7] (fun a i m wr => ∃ k : Nat, k ≤ N ∧ a = .string (strB (upL l k)) ∧ i = .int .i64 k ∧ m = .bool (metB l q k) ∧ Below w.heap.size w wr) (fun _ i _ _ => N - (intOf i).toNat)
    case atStart => exact ⟨0, Nat.zero_le _, by rw [upL, HL.out, strB_of], rfl, rfl, hB⟩
    case round =>
      obtain ⟨k, hk, rfl, rfl, rfl, hBr⟩ := hrel
      obtain ⟨A, hA⟩ : ∃ A, A = strB (upL l k) := ⟨_, rfl⟩
      rw [← hA]
      have hAl : A.data.toList = upL l k := by rw [hA, strB_list]
      have hAs : A.size ≤ 1500 := by rw [hA, strB_size]; have := upL_le l k; have := HLL.out; omega
      obtain ⟨mk, hmk⟩ : ∃ mk, mk = metB l q k := ⟨_, rfl⟩
      rw [← hmk]
      by_cases hlt : k < N
      · have hne := upL_ne HM.out (k := k) (by rw [← HN.out]; exact hlt)
        have hAe : A.toList.isEmpty = false := empty_iff (by rw [hAl]; cases h : upL l k <;> simp_all)
        have c1 := fun w => dir_any w A _ hAl (by omega)
        have hUm := underB_met HM.out (k := k) (by rw [← HN.out]; exact hlt)
        obtain ⟨U, hU⟩ : ∃ U, U = strB (upL l (k + 1)) := ⟨_, rfl⟩
        have hUl : U.data.toList = upL l (k + 1) := by rw [hU, strB_list]
        have hUs : U.size ≤ 1500 := by rw [hU, strB_size]; have := upL_le l (k + 1); have := HLL.out; omega
        rw [show strB (dirL (upL l k)) = U from hU.symm] at c1
        have c2 : ∀ w, Calls Tryd.prog 13 #[.string s, .string U] w fun e w' => e = .returned (.bool true) ∧ Below w.heap.size w w' := fun w => by
          have := under_any w s U (by omega) (by omega)
          rw [hUl, ← HL.out, hUm] at this
          exact this
        have hmet : metB l q (k + 1) = (mk || (U.toList == d.toList)) := by
          rw [metB, ← hmk, ByteArray.toList_eq, ByteArray.toList_eq, hUl, ← HQ.out]
          congr 1
          rw [Bool.eq_iff_iff]; simp
        have HMET := hid2 hmet
        have HU := hid2 hU
        have hk16 : (k : Int) + 1 ≤ 16 := by omega
        clear hA hAl hne hUm hU hUl hmk hmet
        cases mk
        · by_cases hud : (U.toList == d.toList) = true
          · have hmet2 : Hid2 (metB l q (k + 1) = true) := hid2 (by rw [HMET.out, hud]; rfl)
            go_wp2_with (first
              | (go_at_call 15; (with_reducible refine (c1 _).mono ?_); rintro e w2 ⟨rfl, hb2⟩; replace hBr := hBr.trans (hb2.mono hBr.size); clear hb2)
              | (go_at_call 13; (with_reducible refine (c2 _).mono ?_); rintro e w2 ⟨rfl, hb2⟩; replace hBr := hBr.trans (hb2.mono hBr.size); clear hb2))
            go_roundw
            case rel => exact ⟨k + 1, by omega, by rw [HU.out], by go_num, by rw [hmet2.out], hBr⟩
            case measure => simp [intOf]; omega
          · have hud' : (U.toList == d.toList) = false := by simpa using hud
            have hmet2 : Hid2 (metB l q (k + 1) = false) := hid2 (by rw [HMET.out, hud']; rfl)
            clear hud
            go_wp2_with (first
              | (go_at_call 15; (with_reducible refine (c1 _).mono ?_); rintro e w2 ⟨rfl, hb2⟩; replace hBr := hBr.trans (hb2.mono hBr.size); clear hb2)
              | (go_at_call 13; (with_reducible refine (c2 _).mono ?_); rintro e w2 ⟨rfl, hb2⟩; replace hBr := hBr.trans (hb2.mono hBr.size); clear hb2))
            go_roundw
            case rel => exact ⟨k + 1, by omega, by rw [HU.out], by go_num, by rw [hmet2.out], hBr⟩
            case measure => simp [intOf]; omega
        · have hmet2 : Hid2 (metB l q (k + 1) = true) := hid2 (by rw [HMET.out]; rfl)
          go_wp2_with (first
            | (go_at_call 15; (with_reducible refine (c1 _).mono ?_); rintro e w2 ⟨rfl, hb2⟩; replace hBr := hBr.trans (hb2.mono hBr.size); clear hb2)
            | (go_at_call 13; (with_reducible refine (c2 _).mono ?_); rintro e w2 ⟨rfl, hb2⟩; replace hBr := hBr.trans (hb2.mono hBr.size); clear hb2))
          go_roundw
          case rel => exact ⟨k + 1, by omega, by rw [HU.out], by go_num, by rw [hmet2.out], hBr⟩
          case measure => simp [intOf]; omega
      · have hkN : k = N := by omega
        have hA0 : A.toList.isEmpty = true := empty_iff (by rw [hAl, hkN, HN.out, upL_end HM.out]; rfl)
        rw [hkN] at hmk
        rw [← hmk] at hu
        subst hkN
        clear hA hAl hmk hlt
        go_wp2_with (first
          | (go_at_call 21; (with_reducible refine (hpc _).mono ?_); rintro e w2 ⟨A1, c1, rfl, hb2⟩; replace hBr := hBr.trans (hb2.mono hBr.size); clear hb2)
          | (go_at_call 13; (with_reducible refine (hu _).mono ?_); rintro e w2 ⟨rfl, hb2⟩; replace hBr := hBr.trans (hb2.mono hBr.size); clear hb2))
        go_ret
        exact ⟨by simp, hBr⟩
  · have hm' : mayB s.data.toList = false := by simpa using hm
    have r4 := fun w => refmay_of w s _ (by omega) rfl hm'
    clear hm hm'
    go_enter Tryd.func7, Tryd.ntmps7
    go_wp2_with (first
      | (go_at_call 8; (with_reducible refine (alive_any _).mono ?_); rintro e w2 ⟨rfl, hb2⟩; replace hB := hB.trans (hb2.mono hB.size); clear hb2)
      | (go_at_call 10; (with_reducible refine (r4 _).mono ?_); rintro e w2 ⟨rfl, hb2⟩; replace hB := hB.trans (hb2.mono hB.size); clear hb2))
    go_ret
    exact ⟨rfl, hB⟩
end Go.Proofs.YtdhmebilloefjaaDoor
