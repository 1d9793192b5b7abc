/- The walks of Dir, Base, Ext, Under and Join. -/
import Derived.Test.YtdhmebilloefjaaDoorPath7
namespace Go.Proofs.YtdhmebilloefjaaDoor
open Go.RowKit
theorem dir_any (w : World) (s : ByteArray) (l : List UInt8) (hl : s.data.toList = l) (hs : s.size ≤ 1000000) : Calls Tryd.prog 15 #[.string s] w fun e w' => e = .returned (.string (strB (dirL l))) ∧ Below w.heap.size w w' := by
  have hc := fun w => cut_any w s l hl hs
  obtain ⟨D, hD⟩ : ∃ D, D = strB (dirL l) := ⟨_, rfl⟩
  obtain ⟨B, hB⟩ : ∃ B, B = strB (baseL l) := ⟨_, rfl⟩
  rw [← hD, ← hB] at hc
  rw [← hD]
  clear hD hB hl
  go_enter Tryd.func15, Tryd.ntmps15
  go_wp2_with (go_at_call 26; refine (hc _).mono ?_; rintro e w2 ⟨rfl, hb⟩)
  go_ret
  exact ⟨rfl, hb⟩
theorem base_any (w : World) (s : ByteArray) (l : List UInt8) (hl : s.data.toList = l) (hs : s.size ≤ 1000000) : Calls Tryd.prog 17 #[.string s] w fun e w' => e = .returned (.string (strB (baseL l))) ∧ Below w.heap.size w w' := by
  have hc := fun w => cut_any w s l hl hs
  obtain ⟨D, hD⟩ : ∃ D, D = strB (dirL l) := ⟨_, rfl⟩
  obtain ⟨B, hB⟩ : ∃ B, B = strB (baseL l) := ⟨_, rfl⟩
  rw [← hD, ← hB] at hc
  rw [← hB]
  clear hD hB hl
  go_enter Tryd.func17, Tryd.ntmps17
  go_wp2_with (go_at_call 26; refine (hc _).mono ?_; rintro e w2 ⟨rfl, hb⟩)
  go_ret
  exact ⟨rfl, hb⟩
theorem baseL_length (l : List UInt8) : (baseL l).length ≤ l.length := by
  unfold baseL
  split
  · rcases last_stroke l with h | ⟨a, b, rfl, hb⟩
    · rw [splitL_pure h]; simp
    · rw [splitL_last hb]; simp; omega
  · simp
theorem ext_any (w : World) (s : ByteArray) (l : List UInt8) (hl : s.data.toList = l) (hs : s.size ≤ 1000000) : Calls Tryd.prog 19 #[.string s] w fun e w' => e = .returned (.string (strB (extL l))) ∧ Below w.heap.size w w' := by
  have hc := fun w => base_any w s l hl hs
  have hbl : (baseL l).length ≤ 1000000 := by have := baseL_length l; rw [← hl, toList_length] at this; rw [← hl]; omega
  obtain ⟨B, hB⟩ : ∃ B, B = strB (baseL l) := ⟨_, rfl⟩
  have hBs : B.size ≤ 1000000 := by rw [hB, strB_size]; exact hbl
  have hBl : B.data.toList = baseL l := by rw [hB, strB_list]
  rw [← hB] at hc
  have hlc := fun w => last_any w B 46 hBs
  rw [hBl] at hlc
  rw [extL, extOf_last]
  have hr := lastFrom_lt (baseL l) 46 (baseL l).length
  rw [show lastFrom (baseL l) 46 (baseL l).length = lastL (baseL l) 46 from rfl] at hr
  have hbb : (baseL l).length = B.size := by rw [hB, strB_size]
  rw [hbb] at hr
  obtain ⟨v, hv⟩ : ∃ v, v = lastL (baseL l) 46 := ⟨_, rfl⟩
  rw [← hv] at hlc hr ⊢
  have hBs0 : (B.size : Int) ≤ 1000000 := by omega
  by_cases h0 : 0 < v
  · rw [if_pos h0]
    obtain ⟨k, rfl⟩ : ∃ k : Nat, v = k := ⟨v.toNat, by omega⟩
    have hk1 : (k : Int) ≤ B.size := by omega
    have hx : B.extract k B.size = strB ((baseL l).drop (k : Int).toNat) := strB_eq (by
      rw [extract_list, hBl, Int.toNat_natCast, List.take_of_length_le (by rw [List.length_drop, hbb]; omega)])
    obtain ⟨E, hE⟩ : ∃ E, E = strB ((baseL l).drop (k : Int).toNat) := ⟨_, rfl⟩
    rw [← hE] at hx ⊢
    clear hB hBl hbb hv hE hl hbl
    go_enter Tryd.func19, Tryd.ntmps19
    go_wp2_with (first
      | (go_at_call 17; refine (hc _).mono ?_; rintro e w2 ⟨rfl, hb⟩)
      | (go_at_call 27; refine (hlc _).mono ?_; rintro e w2 ⟨rfl, rfl⟩))
    go_ret
    exact ⟨rfl, hb⟩
  · rw [if_neg h0]
    clear hB hBl hbb hv hl hbl
    go_enter Tryd.func19, Tryd.ntmps19
    go_wp2_with (first
      | (go_at_call 17; refine (hc _).mono ?_; rintro e w2 ⟨rfl, hb⟩)
      | (go_at_call 27; refine (hlc _).mono ?_; rintro e w2 ⟨rfl, rfl⟩))
    go_ret
    exact ⟨rfl, hb⟩
theorem prefix_take {p l : List UInt8} (h : p.length ≤ l.length) : p.isPrefixOf l = (l.take p.length == p) := by
  rw [Bool.eq_iff_iff, List.isPrefixOf_iff_prefix, beq_iff_eq]
  constructor
  · rintro ⟨t, rfl⟩; simp
  · intro e; rw [← e]; exact List.take_prefix _ _
theorem prefix_short {p l : List UInt8} (h : ¬ p.length ≤ l.length) : p.isPrefixOf l = false := by
  rw [← Bool.not_eq_true, List.isPrefixOf_iff_prefix]
  exact fun e => h e.length_le
theorem shas_any (w : World) (s p : ByteArray) (hs : s.size ≤ 1000000) (hp : p.size ≤ 1000001) : Calls Tryd.prog 32 #[.string s, .string p] w fun e w' => e = .returned (.bool (p.data.toList.isPrefixOf s.data.toList)) ∧ w' = w := by
  have hs0 : (s.size : Int) ≤ 1000000 := by omega
  have hp0 : (p.size : Int) ≤ 1000001 := by omega
  by_cases h : p.size ≤ s.size
  · have h1 : (p.size : Int) ≤ s.size := by omega
    have e : p.data.toList.isPrefixOf s.data.toList = ((s.extract 0 p.size).toList == p.toList) := by
      rw [prefix_take (by rw [toList_length, toList_length]; exact h), ByteArray.toList_eq, ByteArray.toList_eq, extract_list, toList_length, List.drop_zero, Nat.sub_zero]
    rw [e]
    obtain ⟨X, hX⟩ : ∃ X, X = s.extract 0 p.size := ⟨_, rfl⟩
    rw [← hX]
    have hX' := hX.symm
    clear e hX
    go_enter Tryd.func32, Tryd.ntmps32
    go_wp2_with fail
    go_ret
    exact ⟨by simp, rfl⟩
  · rw [prefix_short (by rw [toList_length, toList_length]; exact h)]
    have h1 : ¬ (p.size : Int) ≤ s.size := by omega
    go_enter Tryd.func32, Tryd.ntmps32
    go_wp2_with fail
    go_ret
    exact ⟨rfl, rfl⟩
theorem has_any (w : World) (s p : ByteArray) (v : Bool) (hs : s.size ≤ 1000000) (hp : p.size ≤ 1000001) (hv : p.data.toList.isPrefixOf s.data.toList = v) : Calls Tryd.prog 25 #[.string s, .string p] w fun e w' => e = .returned (.bool v) ∧ w' = w := by
  have hc := fun w => shas_any w s p hs hp
  rw [hv] at hc
  clear hv
  go_enter Tryd.func25, Tryd.ntmps25
  go_wp2_with (go_at_call 32; refine (hc _).mono ?_; rintro e w2 ⟨rfl, rfl⟩)
  go_ret
  exact ⟨rfl, rfl⟩
theorem under_any (w : World) (s d : ByteArray) (hs : s.size ≤ 900000) (hd : d.size ≤ 900000) : Calls Tryd.prog 13 #[.string s, .string d] w fun e w' => e = .returned (.bool (underB s.data.toList d.data.toList)) ∧ Below w.heap.size w w' := by
  have hd0 : (d.size : Int) ≤ 900000 := by omega
  have hsl := hid2 (ByteArray.toList_eq s)
  have hdl := hid2 (ByteArray.toList_eq d)
  by_cases hm : mayB s.data.toList = true
  · have hmc := fun w => may_of w s _ (by omega) rfl hm
    by_cases h0 : d.toList = []
    · have hr : underB s.data.toList d.data.toList = true := by rw [← hdl.out, h0]; exact underB_nil hm
      rw [hr]
      clear hr hm
      go_enter Tryd.func13, Tryd.ntmps13
      go_wp2_with (go_at_call 9; refine (hmc _).mono ?_; rintro e w2 ⟨rfl, hb⟩)
      go_ret
      exact ⟨rfl, hb⟩
    · have he : d.toList.isEmpty = false := by cases h : d.toList <;> simp_all
      have he2 : d.data.toList.isEmpty = false := by rw [← hdl.out]; exact he
      by_cases hmd : mayB d.data.toList = true
      · have hmdc := fun w => may_of w d _ (by omega) rfl hmd
        obtain ⟨D, hD⟩ : ∃ D, D = d ++ ⟨#[47]⟩ := ⟨_, rfl⟩
        have hDl : D.data.toList = d.data.toList ++ [47] := by rw [hD, string_append_toList]
        have hDs : D.size = d.size + 1 := by rw [← toList_length, hDl]; simp
        obtain ⟨v, hv⟩ : ∃ v, v = (d.data.toList ++ [47]).isPrefixOf s.data.toList := ⟨_, rfl⟩
        have hhc := fun w => has_any w s D v (by omega) (by omega) (by rw [hDl, hv])
        have hr : underB s.data.toList d.data.toList = v := by rw [underB, hm, he2, hmd, hv]; simp
        rw [hr]
        have hadd : ¬ (d.size + (⟨#[47]⟩ : ByteArray).size > 9223372036854775807) := by show ¬ (d.size + 1 > _); omega
        have hD' := hD.symm
        clear hr hm hmd hDl hDs hv h0 he2 hD
        go_enter Tryd.func13, Tryd.ntmps13
        go_wp2_with (first
          | (go_at_call 9; (with_reducible refine (hmc _).mono ?_); rintro e w2 ⟨rfl, hb⟩; have hb2 := hb; clear hb)
          | (go_at_call 9; (with_reducible refine (hmdc _).mono ?_); rintro e w3 ⟨rfl, hb3⟩)
          | (go_at_call 25; refine (hhc _).mono ?_; rintro e w4 ⟨rfl, rfl⟩))
        go_ret
        exact ⟨rfl, hb2.trans (hb3.mono hb2.size)⟩
      · have hmd' : mayB d.data.toList = false := by simpa using hmd
        have hmdc := fun w => may_of w d _ (by omega) rfl hmd'
        have hr : underB s.data.toList d.data.toList = false := by rw [underB, he2, hmd']; simp
        rw [hr]
        clear hr hm hmd hmd' h0 he2
        go_enter Tryd.func13, Tryd.ntmps13
        go_wp2_with (first
          | (go_at_call 9; (with_reducible refine (hmc _).mono ?_); rintro e w2 ⟨rfl, hb⟩; have hb2 := hb; clear hb)
          | (go_at_call 9; (with_reducible refine (hmdc _).mono ?_); rintro e w3 ⟨rfl, hb3⟩))
        go_ret
        exact ⟨rfl, hb2.trans (hb3.mono hb2.size)⟩
  · have hm' : mayB s.data.toList = false := by simpa using hm
    have hmc := fun w => may_of w s _ (by omega) rfl hm'
    rw [underB_no hm']
    clear hm hm'
    go_enter Tryd.func13, Tryd.ntmps13
    go_wp2_with (go_at_call 9; refine (hmc _).mono ?_; rintro e w2 ⟨rfl, hb⟩)
    go_ret
    exact ⟨rfl, hb⟩
theorem isEmpty_of {s : ByteArray} {b : Bool} (h : s.data.toList.isEmpty = b) : s.toList.isEmpty = b := by rw [ByteArray.toList_eq]; exact h
/-- what a Join answers -/
def joinV (r : List UInt8 × Int) : Value := .tuple #[.string (strB r.1), .int .i64 r.2]
theorem pj_A {d s : List UInt8} (h0 : d.isEmpty = false) (hd : mayB d = false) : pjoin d s = ([], 1) := by simp [pjoin, h0, hd]
theorem pj_B1 {d s : List UInt8} (h0 : d.isEmpty = true) (hs : mayB s = false) : pjoin d s = ([], 1) := by simp [pjoin, h0, hs]
theorem pj_B2 {d s : List UInt8} (h0 : d.isEmpty = false) (hd : mayB d = true) (hs : mayB s = false) : pjoin d s = ([], 1) := by simp [pjoin, h0, hd, hs]
theorem pj_C {d s : List UInt8} (h0 : d.isEmpty = true) (hs : mayB s = true) : pjoin d s = (s, 0) := by simp [pjoin, h0, hs]
theorem pj_D {d s : List UInt8} (h0 : d.isEmpty = false) (hd : mayB d = true) (hs : mayB s = true) (hj : mayB (d ++ 47 :: s) = true) : pjoin d s = (d ++ 47 :: s, 0) := by simp [pjoin, h0, hd, hs, hj]
theorem pj_E {d s : List UInt8} (h0 : d.isEmpty = false) (hd : mayB d = true) (hs : mayB s = true) (hj : mayB (d ++ 47 :: s) = false) : pjoin d s = ([], 6) := by simp [pjoin, h0, hd, hs, hj]
theorem refmay_of {v : Bool} (w : World) (s : ByteArray) (l : List UInt8) (hs : s.size ≤ 100000) (hl : s.data.toList = l) (h : mayB l = v) : Calls Tryd.prog 10 #[.string s] w fun e w' => e = .returned (.bool v) ∧ Below w.heap.size w w' := by
  have := refmay_any w s hs
  rw [hl, h] at this
  exact this
theorem empty_iff {s : ByteArray} {b : Bool} (h : s.data.toList.isEmpty = b) : s.toList.isEmpty = b := by rw [ByteArray.toList_eq]; exact h
theorem empty_not {s : ByteArray} (h : s.data.toList.isEmpty = false) : ¬ s.toList = [] := by
  rw [ByteArray.toList_eq]
  intro e; rw [e] at h; cases h
theorem empty_yes {s : ByteArray} (h : s.data.toList.isEmpty = true) : s.toList = [] := by
  rw [ByteArray.toList_eq]
  exact List.isEmpty_iff.1 h
theorem join_any (w : World) (d s : ByteArray) (hd : d.size ≤ 400000) (hs : s.size ≤ 400000) : Calls Tryd.prog 11 #[.string d, .string s] w fun e w' => e = .returned (joinV (pjoin d.data.toList s.data.toList)) ∧ Below w.heap.size w w' := by
  have hd0 : (d.size : Int) ≤ 400000 := by omega
  have hs0 : (s.size : Int) ≤ 400000 := by omega
  by_cases h0 : d.data.toList.isEmpty = true
  · have hd1 := empty_yes h0
    have hd2 := empty_iff h0
    by_cases hm : mayB s.data.toList = true
    · have hsc := fun w => may_of w s _ (by omega) rfl hm
      rw [pj_C h0 hm, joinV, strB_of]
      clear h0 hm hd1
      have hB := Below.refl w.heap.size w
      go_enter Tryd.func11, Tryd.ntmps11
      go_wp2_with (first
        | (go_at_call 9; (with_reducible refine (hsc _).mono ?_); rintro e w2 ⟨rfl, hb2⟩; replace hB := hB.trans (hb2.mono hB.size); clear hb2))
      go_ret2
      exact ⟨rfl, hB⟩
    · have hm' : mayB s.data.toList = false := by simpa using hm
      have hsc := fun w => may_of w s _ (by omega) rfl hm'
      rw [pj_B1 h0 hm', joinV]
      clear h0 hm hm' hd1
      have hB := Below.refl w.heap.size w
      go_enter Tryd.func11, Tryd.ntmps11
      go_wp2_with (first
        | (go_at_call 9; (with_reducible refine (hsc _).mono ?_); rintro e w2 ⟨rfl, hb2⟩; replace hB := hB.trans (hb2.mono hB.size); clear hb2))
      go_ret2
      exact ⟨rfl, hB⟩
  · have h0' : d.data.toList.isEmpty = false := by simpa using h0
    have hd2 := empty_iff h0'
    by_cases hmd : mayB d.data.toList = true
    · have hdc := fun w => may_of w d _ (by omega) rfl hmd
      by_cases hm : mayB s.data.toList = true
      · have hsc := fun w => may_of w s _ (by omega) rfl hm
        obtain ⟨X, hX⟩ : ∃ X, X = d ++ ⟨#[47]⟩ := ⟨_, rfl⟩
        obtain ⟨O, hO⟩ : ∃ O, O = X ++ s := ⟨_, rfl⟩
        have hOl : O.data.toList = d.data.toList ++ 47 :: s.data.toList := by rw [hO, hX, string_append_toList, string_append_toList]; simp
        have hXs : X.size = d.size + 1 := by rw [hX]; show (d ++ (⟨#[47]⟩ : ByteArray)).size = _; rw [ByteArray.size_append]; rfl
        have hOs : O.size = d.size + 1 + s.size := by rw [hO, ByteArray.size_append, hXs]
        have ha1 : ¬ (d.size + (⟨#[47]⟩ : ByteArray).size > 9223372036854775807) := by show ¬ (d.size + 1 > _); omega
        have ha2 : ¬ (X.size + s.size > 9223372036854775807) := by omega
        have hX' := hX.symm
        have hO' := hO.symm
        by_cases hj : mayB (d.data.toList ++ 47 :: s.data.toList) = true
        · rw [pj_D h0' hmd hm hj, joinV, show strB (d.data.toList ++ 47 :: s.data.toList) = O from (strB_eq hOl).symm]
          have hoc := fun w => may_of w O _ (by omega) hOl hj
          clear h0 h0' hmd hm hj hOl hX hO hXs hOs
          have hB := Below.refl w.heap.size w
          go_enter Tryd.func11, Tryd.ntmps11
          go_wp2_with (first
            | (go_at_call 9; (with_reducible refine (hdc _).mono ?_); rintro e w2 ⟨rfl, hb2⟩; replace hB := hB.trans (hb2.mono hB.size); clear hb2)
            | (go_at_call 9; (with_reducible refine (hsc _).mono ?_); rintro e w2 ⟨rfl, hb2⟩; replace hB := hB.trans (hb2.mono hB.size); clear hb2)
            | (go_at_call 9; (with_reducible refine (hoc _).mono ?_); rintro e w2 ⟨rfl, hb2⟩; replace hB := hB.trans (hb2.mono hB.size); clear hb2))
          go_ret2
          exact ⟨rfl, hB⟩
        · have hj' : mayB (d.data.toList ++ 47 :: s.data.toList) = false := by simpa using hj
          rw [pj_E h0' hmd hm hj', joinV]
          have hoc := fun w => may_of w O _ (by omega) hOl hj'
          clear h0 h0' hmd hm hj' hj hOl hX hO hXs hOs
          have hB := Below.refl w.heap.size w
          go_enter Tryd.func11, Tryd.ntmps11
          go_wp2_with (first
            | (go_at_call 9; (with_reducible refine (hdc _).mono ?_); rintro e w2 ⟨rfl, hb2⟩; replace hB := hB.trans (hb2.mono hB.size); clear hb2)
            | (go_at_call 9; (with_reducible refine (hsc _).mono ?_); rintro e w2 ⟨rfl, hb2⟩; replace hB := hB.trans (hb2.mono hB.size); clear hb2)
            | (go_at_call 9; (with_reducible refine (hoc _).mono ?_); rintro e w2 ⟨rfl, hb2⟩; replace hB := hB.trans (hb2.mono hB.size); clear hb2))
          go_ret2
          exact ⟨rfl, hB⟩
      · have hm' : mayB s.data.toList = false := by simpa using hm
        have hsc := fun w => may_of w s _ (by omega) rfl hm'
        rw [pj_B2 h0' hmd hm', joinV]
        clear h0 h0' hmd hm hm'
        have hB := Below.refl w.heap.size w
        go_enter Tryd.func11, Tryd.ntmps11
        go_wp2_with (first
          | (go_at_call 9; (with_reducible refine (hdc _).mono ?_); rintro e w2 ⟨rfl, hb2⟩; replace hB := hB.trans (hb2.mono hB.size); clear hb2)
          | (go_at_call 9; (with_reducible refine (hsc _).mono ?_); rintro e w2 ⟨rfl, hb2⟩; replace hB := hB.trans (hb2.mono hB.size); clear hb2))
        go_ret2
        exact ⟨rfl, hB⟩
    · have hmd' : mayB d.data.toList = false := by simpa using hmd
      have hdc := fun w => may_of w d _ (by omega) rfl hmd'
      rw [pj_A h0' hmd', joinV]
      clear h0 h0' hmd hmd'
      have hB := Below.refl w.heap.size w
      go_enter Tryd.func11, Tryd.ntmps11
      go_wp2_with (first
        | (go_at_call 9; (with_reducible refine (hdc _).mono ?_); rintro e w2 ⟨rfl, hb2⟩; replace hB := hB.trans (hb2.mono hB.size); clear hb2))
      go_ret2
      exact ⟨rfl, hB⟩
/-- Parts, where only their number counts -/
theorem partsN_any (w : World) (s : ByteArray) (N : Nat) (hs : s.size ≤ 100000) (hN : (splitL s.data.toList).length = N) : Calls Tryd.prog 21 #[.string s] w fun e w' => ∃ A c, e = .returned (.slice A N c) ∧ Below w.heap.size w w' := by
  refine (parts_any w s hs).mono ?_
  rintro e w' ⟨A, c, rfl, _, hb⟩
  exact ⟨A, c, by rw [hN], hb⟩
theorem refjoin_any (w : World) (d s : ByteArray) (hd : d.size ≤ 90000) (hs : s.size ≤ 90000) : Calls Tryd.prog 12 #[.string d, .string s] w fun e w' => e = .returned (joinV (pjoin d.data.toList s.data.toList)) ∧ Below w.heap.size w w' := by
  have hd0 : (d.size : Int) ≤ 90000 := by omega
  have hs0 : (s.size : Int) ≤ 90000 := by omega
  by_cases h0 : d.data.toList.isEmpty = true
  · have hd1 := empty_yes h0
    have hd2 := empty_iff h0
    by_cases hm : mayB s.data.toList = true
    · have hsc := fun w => refmay_of w s _ (by omega) rfl hm
      rw [pj_C h0 hm, joinV, strB_of]
      clear h0 hm hd1
      have hB := Below.refl w.heap.size w
      go_enter Tryd.func12, Tryd.ntmps12
      go_wp2_with (first
        | (go_at_call 10; (with_reducible refine (hsc _).mono ?_); rintro e w2 ⟨rfl, hb2⟩; replace hB := hB.trans (hb2.mono hB.size); clear hb2))
      go_ret2
      exact ⟨rfl, hB⟩
    · have hm' : mayB s.data.toList = false := by simpa using hm
      have hsc := fun w => refmay_of w s _ (by omega) rfl hm'
      rw [pj_B1 h0 hm', joinV]
      clear h0 hm hm' hd1
      have hB := Below.refl w.heap.size w
      go_enter Tryd.func12, Tryd.ntmps12
      go_wp2_with (first
        | (go_at_call 10; (with_reducible refine (hsc _).mono ?_); rintro e w2 ⟨rfl, hb2⟩; replace hB := hB.trans (hb2.mono hB.size); clear hb2))
      go_ret2
      exact ⟨rfl, hB⟩
  · have h0' : d.data.toList.isEmpty = false := by simpa using h0
    have hd2 := empty_iff h0'
    by_cases hmd : mayB d.data.toList = true
    · have hdc := fun w => refmay_of w d _ (by omega) rfl hmd
      by_cases hm : mayB s.data.toList = true
      · have hsc := fun w => refmay_of w s _ (by omega) rfl hm
        obtain ⟨X, hX⟩ : ∃ X, X = d ++ ⟨#[47]⟩ := ⟨_, rfl⟩
        obtain ⟨O, hO⟩ : ∃ O, O = X ++ s := ⟨_, rfl⟩
        have hOl : O.data.toList = d.data.toList ++ 47 :: s.data.toList := by rw [hO, hX, string_append_toList, string_append_toList]; simp
        have hXs : X.size = d.size + 1 := by rw [hX]; show (d ++ (⟨#[47]⟩ : ByteArray)).size = _; rw [ByteArray.size_append]; rfl
        have hOs : O.size = d.size + 1 + s.size := by rw [hO, ByteArray.size_append, hXs]
        have ha1 : ¬ (d.size + (⟨#[47]⟩ : ByteArray).size > 9223372036854775807) := by show ¬ (d.size + 1 > _); omega
        have ha2 : ¬ (X.size + s.size > 9223372036854775807) := by omega
        have hX' := hX.symm
        have hO' := hO.symm
        by_cases hj : mayB (d.data.toList ++ 47 :: s.data.toList) = true
        · rw [pj_D h0' hmd hm hj, joinV, show strB (d.data.toList ++ 47 :: s.data.toList) = O from (strB_eq hOl).symm]
          have hsum := mayB_append _ _ hmd hm
          rw [hj] at hsum
          have hdl := splitL_length_le d.data.toList
          have hsl := splitL_length_le s.data.toList
          rw [toList_length] at hdl hsl
          have hdp := parts_any
          obtain ⟨N, hN⟩ : ∃ N, N = (splitL d.data.toList).length := ⟨_, rfl⟩
          obtain ⟨M, hM⟩ : ∃ M, M = (splitL s.data.toList).length := ⟨_, rfl⟩
          have hdp := fun w => partsN_any w d N (by omega) hN.symm
          have hsp := fun w => partsN_any w s M (by omega) hM.symm
          rw [← hN, ← hM] at hsum
          rw [← hN] at hdl
          rw [← hM] at hsl
          have hNM : (N : Int) + M ≤ 16 := by have := of_decide_eq_true hsum.symm; omega
          clear h0 h0' hmd hm hj hOl hX hO hXs hOs hsum hN hM
          have hB := Below.refl w.heap.size w
          go_enter Tryd.func12, Tryd.ntmps12
          go_wp2_with (first
            | (go_at_call 10; (with_reducible refine (hdc _).mono ?_); rintro e w2 ⟨rfl, hb2⟩; replace hB := hB.trans (hb2.mono hB.size); clear hb2)
            | (go_at_call 10; (with_reducible refine (hsc _).mono ?_); rintro e w2 ⟨rfl, hb2⟩; replace hB := hB.trans (hb2.mono hB.size); clear hb2)
            | (go_at_call 21; (with_reducible refine (hdp _).mono ?_); rintro e w2 ⟨A1, c1, rfl, hb2⟩; replace hB := hB.trans (hb2.mono hB.size); clear hb2)
            | (go_at_call 21; (with_reducible refine (hsp _).mono ?_); rintro e w2 ⟨A2, c2, rfl, hb2⟩; replace hB := hB.trans (hb2.mono hB.size); clear hb2))
          go_ret2
          exact ⟨rfl, hB⟩
        · have hj' : mayB (d.data.toList ++ 47 :: s.data.toList) = false := by simpa using hj
          rw [pj_E h0' hmd hm hj', joinV]
          have hsum := mayB_append _ _ hmd hm
          rw [hj'] at hsum
          have hdl := splitL_length_le d.data.toList
          have hsl := splitL_length_le s.data.toList
          rw [toList_length] at hdl hsl
          have hdp := parts_any
          obtain ⟨N, hN⟩ : ∃ N, N = (splitL d.data.toList).length := ⟨_, rfl⟩
          obtain ⟨M, hM⟩ : ∃ M, M = (splitL s.data.toList).length := ⟨_, rfl⟩
          have hdp := fun w => partsN_any w d N (by omega) hN.symm
          have hsp := fun w => partsN_any w s M (by omega) hM.symm
          rw [← hN, ← hM] at hsum
          rw [← hN] at hdl
          rw [← hM] at hsl
          have hNM : (16 : Int) < (N : Int) + M := by have := of_decide_eq_false hsum.symm; omega
          clear h0 h0' hmd hm hj' hj hOl hX hO hXs hOs hsum hN hM
          have hB := Below.refl w.heap.size w
          go_enter Tryd.func12, Tryd.ntmps12
          go_wp2_with (first
            | (go_at_call 10; (with_reducible refine (hdc _).mono ?_); rintro e w2 ⟨rfl, hb2⟩; replace hB := hB.trans (hb2.mono hB.size); clear hb2)
            | (go_at_call 10; (with_reducible refine (hsc _).mono ?_); rintro e w2 ⟨rfl, hb2⟩; replace hB := hB.trans (hb2.mono hB.size); clear hb2)
            | (go_at_call 21; (with_reducible refine (hdp _).mono ?_); rintro e w2 ⟨A1, c1, rfl, hb2⟩; replace hB := hB.trans (hb2.mono hB.size); clear hb2)
            | (go_at_call 21; (with_reducible refine (hsp _).mono ?_); rintro e w2 ⟨A2, c2, rfl, hb2⟩; replace hB := hB.trans (hb2.mono hB.size); clear hb2))
          go_ret2
          exact ⟨rfl, hB⟩
      · have hm' : mayB s.data.toList = false := by simpa using hm
        have hsc := fun w => refmay_of w s _ (by omega) rfl hm'
        rw [pj_B2 h0' hmd hm', joinV]
        clear h0 h0' hmd hm hm'
        have hB := Below.refl w.heap.size w
        go_enter Tryd.func12, Tryd.ntmps12
        go_wp2_with (first
          | (go_at_call 10; (with_reducible refine (hdc _).mono ?_); rintro e w2 ⟨rfl, hb2⟩; replace hB := hB.trans (hb2.mono hB.size); clear hb2)
          | (go_at_call 10; (with_reducible refine (hsc _).mono ?_); rintro e w2 ⟨rfl, hb2⟩; replace hB := hB.trans (hb2.mono hB.size); clear hb2))
        go_ret2
        exact ⟨rfl, hB⟩
    · have hmd' : mayB d.data.toList = false := by simpa using hmd
      have hdc := fun w => refmay_of w d _ (by omega) rfl hmd'
      rw [pj_A h0' hmd', joinV]
      clear h0 h0' hmd hmd'
      have hB := Below.refl w.heap.size w
      go_enter Tryd.func12, Tryd.ntmps12
      go_wp2_with (first
        | (go_at_call 10; (with_reducible refine (hdc _).mono ?_); rintro e w2 ⟨rfl, hb2⟩; replace hB := hB.trans (hb2.mono hB.size); clear hb2))
      go_ret2
      exact ⟨rfl, hB⟩
end Go.Proofs.YtdhmebilloefjaaDoor
