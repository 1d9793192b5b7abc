/- Settings: the document's name, value and one. -/
import Derived.Test.YthefhfnmkjdekaaDoorCf2
namespace Go.Proofs.YthefhfnmkjdekaaDoor
open Go.RowKit
set_option maxRecDepth 100000
set_option maxHeartbeats 1000000 in
theorem rsmall_any (w : World) (c : Nat) : Calls Tryd.prog 57 #[.int .u8 c] w fun e w' => e = .returned (.bool (nameN c)) ∧ w' = w := by
  obtain ⟨b, hb⟩ : ∃ b, b = nameN c := ⟨_, rfl⟩
  rw [← hb]
  have hb2 : b = true ↔ ((97 ≤ (c : Int) ∧ (c : Int) ≤ 122) ∨ (48 ≤ (c : Int) ∧ (c : Int) ≤ 57) ∨ (c : Int) = 45 ∨ (c : Int) = 95) := by
    rw [hb]
    unfold nameN smallN
    simp only [Bool.or_eq_true, Bool.and_eq_true, decide_eq_true_eq]
    omega
  have HB := hid2 hb2
  clear hb hb2
  by_cases h1 : (97 : Int) ≤ c
  · by_cases h2 : (c : Int) ≤ 122
    · go_enter Tryd.func57, Tryd.ntmps57
      go_wp2_with fail
      go_ret
      exact ⟨ret_bool (by rw [Bool.eq_iff_iff, HB.out]; simp; omega), rfl⟩
    · have h3 : ¬ (c : Int) ≤ 57 := by omega
      have h4 : (48 : Int) ≤ c := by omega
      have h5 : ¬ (c : Int) = 45 := by omega
      have h6 : ¬ (c : Int) = 95 := by omega
      go_enter Tryd.func57, Tryd.ntmps57
      go_wp2_with fail
      go_ret
      exact ⟨ret_bool (by rw [Bool.eq_iff_iff, HB.out]; simp; omega), rfl⟩
  · by_cases h4 : (48 : Int) ≤ c
    · by_cases h3 : (c : Int) ≤ 57
      · go_enter Tryd.func57, Tryd.ntmps57
        go_wp2_with fail
        go_ret
        exact ⟨ret_bool (by rw [Bool.eq_iff_iff, HB.out]; simp; omega), rfl⟩
      · have h5 : ¬ (c : Int) = 45 := by omega
        go_enter Tryd.func57, Tryd.ntmps57
        go_wp2_with fail
        all_goals go_ret
        all_goals exact ⟨ret_bool (by rw [Bool.eq_iff_iff, HB.out]; simp; omega), rfl⟩
    · have h6 : ¬ (c : Int) = 95 := by omega
      go_enter Tryd.func57, Tryd.ntmps57
      go_wp2_with fail
      all_goals go_ret
      all_goals exact ⟨ret_bool (by rw [Bool.eq_iff_iff, HB.out]; simp; omega), rfl⟩
set_option maxHeartbeats 1000000 in
theorem rname_any (w : World) (s : ByteArray) (hs : s.size ≤ 1000000) : Calls Tryd.prog 37 #[.string s] w fun e w' => e = .returned (.bool (isName s.data.toList)) ∧ w' = w := by
  obtain ⟨l, hl⟩ : ∃ l, l = s.data.toList := ⟨_, rfl⟩
  rw [← hl]
  have hll : l.length = s.size := by rw [hl, toList_length]
  obtain ⟨b, hb⟩ : ∃ b, b = isName l := ⟨_, rfl⟩
  rw [← hb]
  have HB := hid2 hb
  have HL := hid2 hl
  have HLL := hid2 hll
  by_cases h1 : s.size < 1
  · have i1 : (s.size : Int) < 1 := by omega
    have hbf : b = false := by rw [hb]; exact isName_short (by omega)
    subst hbf
    clear hb hl hll h1
    go_enter Tryd.func37, Tryd.ntmps37
    go_wp2_with fail
    go_ret
    exact ⟨rfl, rfl⟩
  · have h0 : 0 < s.size := by omega
    have i1 : ¬ (s.size : Int) < 1 := by omega
    by_cases h2 : 64 < s.size
    · have i2 : (64 : Int) < s.size := by omega
      have hbf : b = false := by rw [hb]; exact isName_long (by omega)
      subst hbf
      clear hb hl hll h1
      go_enter Tryd.func37, Tryd.ntmps37
      go_wp2_with fail
      go_ret
      exact ⟨rfl, rfl⟩
    · have i2 : ¬ (64 : Int) < s.size := by omega
      have hhd := headD_get hl h0
      by_cases h3 : (s[0]'h0).toNat < 97
      · have i3 : ((s[0]'h0).toNat : Int) < 97 := by omega
        have hbf : b = false := by rw [hb]; exact isName_head (by rw [hhd]; exact h3)
        subst hbf
        clear hb hl hll h1 hhd h3
        go_enter Tryd.func37, Tryd.ntmps37
        go_wp2_with fail
        go_ret
        exact ⟨rfl, rfl⟩
      · have i3 : ¬ ((s[0]'h0).toNat : Int) < 97 := by omega
        have hg0 := at_get hl h0
        by_cases h4 : 122 < (s[0]'h0).toNat
        · have i4 : (122 : Int) < ((s[0]'h0).toNat : Int) := by omega
          have hbf : b = false := by rw [hb]; exact isName_bad (nameB_take hg0 (nameN_head h4))
          subst hbf
          clear hb hl hll h1 hhd h3 hg0 h4
          go_enter Tryd.func37, Tryd.ntmps37
          go_wp2_with fail
          go_ret
          exact ⟨rfl, rfl⟩
        · have i4 : ¬ (122 : Int) < ((s[0]'h0).toNat : Int) := by omega
          have hok : nameB l = true → b = true := fun h => by rw [hb]; exact isName_ok (by omega) (by omega) h (by rw [hhd]; omega)
          have hbad : nameB l = false → b = false := fun h => by rw [hb]; exact isName_bad h
          have HOK := hid2 hok
          have HBAD := hid2 hbad
          clear hb hl hll h1 hhd h3 hg0 h4 hok hbad
          go_enter Tryd.func37, Tryd.ntmps37
          go_wp2_with fail
          go_loopw [3] (fun i wr => ∃ k : Nat, k ≤ s.size ∧ i = .int .i64 k ∧ wr = w ∧ nameB (l.take k) = true) (fun i _ => s.size - (intOf i).toNat)
          case atStart => exact ⟨0, by omega, rfl, rfl, rfl⟩
          case round =>
            obtain ⟨k, hk, rfl, rfl, htk⟩ := hrel
            have HTK := hid2 htk
            clear htk
            by_cases hlt : k < s.size
            · have hkl : (k : Int) < s.size := by omega
              have cS := rsmall_any wr (s[k]'hlt).toNat
              have hgk := at_get HL.out hlt
              obtain ⟨c, hc⟩ : ∃ c, c = s[k]'hlt := ⟨_, rfl⟩
              rw [← hc] at cS hgk
              have hcv : (s[k]'hlt) = c := hc.symm
              cases hn : nameN c.toNat with
              | true =>
                rw [hn] at cS
                have hnx := nameB_snoc hgk HTK.out hn
                have HNX := hid2 hnx
                clear hn hgk hnx hc
                go_wp2_with (go_at_call 57; refine cS.mono ?_; rintro e w2 ⟨rfl, rfl⟩)
                go_roundw
                case rel => exact ⟨k + 1, by omega, by go_num, by first | rfl | trivial, HNX.out⟩
                case measure => simp [intOf]; omega
              | false =>
                rw [hn] at cS
                have hbf := HBAD.out (nameB_take hgk hn)
                have HBF := hid2 hbf
                clear hn hgk hbf hc
                go_wp2_with (go_at_call 57; refine cS.mono ?_; rintro e w2 ⟨rfl, rfl⟩)
                go_ret
                exact ⟨ret_bool HBF.out.symm, rfl⟩
            · have hkl : ¬ (k : Int) < s.size := by omega
              have hbt := HOK.out (by have := HTK.out; rwa [List.take_of_length_le (by have := HLL.out; omega)] at this)
              have HBT := hid2 hbt
              clear hbt
              go_wp2_with fail
              go_ret
              exact ⟨ret_bool HBT.out.symm, rfl⟩
theorem valN_int (c : Nat) (hc : c < 256) : valN c = (nameN c || (decide (65 ≤ (c : Int)) && decide ((c : Int) ≤ 90)) || decide ((c : Int) = 46) || decide ((c : Int) = 43) || decide ((c : Int) = 47)) := by
  rw [Bool.eq_iff_iff]
  unfold valN nameN smallN markN
  simp only [Bool.or_eq_true, Bool.and_eq_true, decide_eq_true_eq]
  omega
set_option maxHeartbeats 2000000 in
theorem rvalue_any (w : World) (s : ByteArray) (hs : s.size ≤ 1000000) : Calls Tryd.prog 38 #[.string s] w fun e w' => e = .returned (.bool (isVal s.data.toList)) ∧ w' = w := by
  obtain ⟨l, hl⟩ : ∃ l, l = s.data.toList := ⟨_, rfl⟩
  rw [← hl]
  have hll : l.length = s.size := by rw [hl, toList_length]
  have hbad : valB l = false → isVal l = false := fun h => by rw [isVal, h, Bool.and_false]
  have hok : valB l = true → isVal l = decide ((s.size : Int) ≤ 64) := fun h => by rw [isVal, h, Bool.and_true, hll, decide_eq_decide]; omega
  obtain ⟨b, hb⟩ : ∃ b, b = isVal l := ⟨_, rfl⟩
  rw [← hb] at hbad hok ⊢
  have HL := hid2 hl
  have HLL := hid2 hll
  have HOK := hid2 hok
  have HBAD := hid2 hbad
  clear hb hl hll hok hbad
  go_enter Tryd.func38, Tryd.ntmps38
  go_wp2_with fail
  go_loopw [3, 4] (fun i cv wr => ∃ k : Nat, k ≤ s.size ∧ i = .int .i64 k ∧ wr = w ∧ valB (l.take k) = true) (fun i _ _ => s.size - (intOf i).toNat)
  case atStart => exact ⟨0, by omega, rfl, rfl, rfl⟩
  case round =>
    obtain ⟨k, hk, rfl, rfl, htk⟩ := hrel
    have HTK := hid2 htk
    clear htk
    by_cases hlt : k < s.size
    · have hkl : (k : Int) < s.size := by omega
      have cS := rsmall_any wr (s[k]'hlt).toNat
      have hgk := at_get HL.out hlt
      have hv := valN_int (s[k]'hlt).toNat (s[k]'hlt).toNat_lt
      obtain ⟨c, hc⟩ : ∃ c, c = (s[k]'hlt).toNat := ⟨_, rfl⟩
      have hsnoc : valN c = true → valB (l.take (k + 1)) = true := fun h => valB_snoc hgk HTK.out (by rw [← hc]; exact h)
      have hbadk : valN c = false → b = false := fun h => HBAD.out (valB_take hgk (by rw [← hc]; exact h))
      rw [← hc] at cS hv
      have hcv : ((s[k]'hlt).toNat) = c := hc.symm
      have HSN := hid2 hsnoc
      have HBK := hid2 hbadk
      have HV := hid2 hv
      clear hgk hv hc hsnoc hbadk
      cases hn : nameN c with
      | true =>
        rw [hn] at cS
        have hnx := HSN.out (by rw [HV.out, hn]; rfl)
        have HNX := hid2 hnx
        clear hn hnx
        go_wp2_with (go_at_call 57; refine cS.mono ?_; rintro e w2 ⟨rfl, rfl⟩)
        go_roundw
        case rel => exact ⟨k + 1, by omega, by go_num, by first | rfl | trivial, HNX.out⟩
        case measure => simp [intOf]; omega
      | false =>
        rw [hn] at cS
        have HNF := hid2 hn
        clear hn
        by_cases hu : (65 : Int) ≤ c ∧ (c : Int) ≤ 90
        · obtain ⟨u1, u2⟩ := hu
          have hnx := HSN.out (by rw [HV.out, HNF.out, decide_eq_true u1, decide_eq_true u2]; rfl)
          have HNX := hid2 hnx
          clear hnx
          go_wp2_with (go_at_call 57; refine cS.mono ?_; rintro e w2 ⟨rfl, rfl⟩)
          go_roundw
          case rel => exact ⟨k + 1, by omega, by go_num, by first | rfl | trivial, HNX.out⟩
          case measure => simp [intOf]; omega
        · have hup : (decide (65 ≤ (c : Int)) && decide ((c : Int) ≤ 90)) = false := by simp only [Bool.and_eq_false_iff, decide_eq_false_iff_not]; omega
          have HUP := hid2 hup
          by_cases h46 : (c : Int) = 46 ∨ (c : Int) = 43 ∨ (c : Int) = 47
          · have hnx := HSN.out (by rw [HV.out, HNF.out, HUP.out]; rcases h46 with h | h | h <;> simp [h])
            have HNX := hid2 hnx
            have hcc : c = 46 ∨ c = 43 ∨ c = 47 := by omega
            clear hnx hup hu h46
            rcases hcc with rfl | rfl | rfl <;> (
              go_wp2_with (go_at_call 57; refine cS.mono ?_; rintro e w2 ⟨rfl, rfl⟩)
              go_roundw
              case rel => exact ⟨k + 1, by omega, by go_num, by first | rfl | trivial, HNX.out⟩
              case measure => simp [intOf]; omega)
          · have h1 : ¬ (c : Int) = 46 := by omega
            have h2 : ¬ (c : Int) = 43 := by omega
            have h3 : ¬ (c : Int) = 47 := by omega
            have hbf := HBK.out (by rw [HV.out, HNF.out, HUP.out, decide_eq_false h1, decide_eq_false h2, decide_eq_false h3]; rfl)
            have HBF := hid2 hbf
            have n1 : ((c : Int) != 46) = true := by simpa using h1
            have n2 : ((c : Int) != 43) = true := by simpa using h2
            have n3 : ((c : Int) != 47) = true := by simpa using h3
            clear hbf hup h46 h1 h2 h3
            by_cases hu1 : (65 : Int) ≤ c
            · have hu2 : decide ((c : Int) ≤ 90) = false := by rw [decide_eq_false_iff_not]; omega
              clear hu
              go_wp2_with (go_at_call 57; refine cS.mono ?_; rintro e w2 ⟨rfl, rfl⟩)
              go_ret
              exact ⟨ret_bool HBF.out.symm, rfl⟩
            · clear hu
              go_wp2_with (go_at_call 57; refine cS.mono ?_; rintro e w2 ⟨rfl, rfl⟩)
              go_ret
              exact ⟨ret_bool HBF.out.symm, rfl⟩
    · have hkl : ¬ (k : Int) < s.size := by omega
      have hbt := HOK.out (by have := HTK.out; rwa [List.take_of_length_le (by have := HLL.out; omega)] at this)
      have HBT := hid2 hbt
      clear hbt
      go_wp2_with fail
      go_ret
      exact ⟨ret_bool HBT.out.symm, rfl⟩
set_option maxHeartbeats 1000000 in
theorem rone_any (w : World) (a b : ByteArray) (ha : a.size ≤ 1000000) (hb : b.size ≤ 1000000) : Calls Tryd.prog 21 #[.agg #[.string a, .string b]] w fun e w' => e = .returned (.int .i64 (oneE (a.data.toList, b.data.toList))) ∧ Below w.heap.size w w' := by
  have c1 := fun W => rname_any W a ha
  have c2 := fun W => rvalue_any W b hb
  have hb0 : Below w.heap.size w (w.alloc (.cells #[.string a, .string b] 31)) := (Below.refl _ w).alloc (Nat.le_refl _) _
  have h3 : oneE (a.data.toList, b.data.toList) = if !isName a.data.toList then 7 else if !isVal b.data.toList then 1 else 0 := rfl
  obtain ⟨E, hE⟩ : ∃ E, E = oneE (a.data.toList, b.data.toList) := ⟨_, rfl⟩
  rw [← hE] at h3 ⊢
  obtain ⟨x, hx⟩ : ∃ x, x = isName a.data.toList := ⟨_, rfl⟩
  obtain ⟨y, hy⟩ : ∃ y, y = isVal b.data.toList := ⟨_, rfl⟩
  rw [← hx] at c1 h3
  rw [← hy] at c2 h3
  have HE := hid2 h3
  have HB0 := hid2 hb0
  clear hE hx hy h3 hb0
  cases x
  · go_enter Tryd.func21, Tryd.ntmps21
    go_wp2_with (go_at_call 37; refine (c1 _).mono ?_; rintro e w2 ⟨rfl, rfl⟩)
    go_ret
    exact ⟨by rw [HE.out]; rfl, HB0.out⟩
  · cases y
    all_goals go_enter Tryd.func21, Tryd.ntmps21
    all_goals go_wp2_with (first
      | (go_at_call 37; refine (c1 _).mono ?_; rintro e w2 ⟨rfl, rfl⟩)
      | (go_at_call 38; refine (c2 _).mono ?_; rintro e w2 ⟨rfl, rfl⟩))
    all_goals go_ret
    all_goals exact ⟨by rw [HE.out]; rfl, HB0.out⟩
end Go.Proofs.YthefhfnmkjdekaaDoor
