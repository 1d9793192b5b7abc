/- The walks of the laws PathJoins, PathUnder, PathParts. -/
import Derived.Test.YtdhmebilloefjaaDoorPathL
namespace Go.Proofs.YtdhmebilloefjaaDoor
open Go.RowKit
theorem pjoin_fst_length (d s : List UInt8) : (pjoin d s).1.length ≤ d.length + s.length + 1 := by
  unfold pjoin
  repeat' split
  all_goals simp
  all_goals omega
theorem pjoin_snd (d s : List UInt8) : (pjoin d s).2 = 0 ∨ (pjoin d s).2 = 1 ∨ (pjoin d s).2 = 6 := by
  unfold pjoin
  repeat' split
  all_goals simp
theorem lawJoins_any (w : World) (d s : ByteArray) : Calls Tryd.prog 4 #[.string d, .string s] w fun e w' => e = .returned (.bool true) ∧ Below w.heap.size w w' := by
  have hB := Below.refl w.heap.size w
  by_cases h : 1500 < d.size
  · have h' : (1500 : Int) < d.size := by omega
    go_enter Tryd.func4, Tryd.ntmps4
    go_wp2_with (first
      | (go_at_call 8; (with_reducible refine (alive_any _).mono ?_); rintro e w2 ⟨rfl, hb2⟩; replace hB := hB.trans (hb2.mono hB.size); clear hb2))
    go_ret
    exact ⟨rfl, hB⟩
  by_cases h2 : 1500 < s.size
  · have h1' : ¬ (1500 : Int) < d.size := by omega
    have h2' : (1500 : Int) < s.size := by omega
    go_enter Tryd.func4, Tryd.ntmps4
    go_wp2_with (first
      | (go_at_call 8; (with_reducible refine (alive_any _).mono ?_); rintro e w2 ⟨rfl, hb2⟩; replace hB := hB.trans (hb2.mono hB.size); clear hb2))
    go_ret
    exact ⟨rfl, hB⟩
  · have h1' : ¬ (1500 : Int) < d.size := by omega
    have h2' : ¬ (1500 : Int) < s.size := by omega
    obtain ⟨r, hr⟩ : ∃ r, r = pjoin d.data.toList s.data.toList := ⟨_, rfl⟩
    have c1 := fun w => join_any w d s (by omega) (by omega)
    have c2 := fun w => refjoin_any w d s (by omega) (by omega)
    have hx : (strB r.1).size ≤ 3001 := by
      have := pjoin_fst_length d.data.toList s.data.toList
      rw [toList_length, toList_length] at this
      rw [strB_size, hr]; omega
    have hok := fun h => pjoin_ok (d := d.data.toList) (s := s.data.toList) h
    have he := pjoin_snd d.data.toList s.data.toList
    rw [← hr] at c1 c2 hok he
    obtain ⟨a, e⟩ := r
    obtain ⟨X, hX⟩ : ∃ X, X = strB a := ⟨_, rfl⟩
    have hXl : X.data.toList = a := by rw [hX, strB_list]
    simp only [joinV, ← hX] at c1 c2 hx
    simp only at hok he
    by_cases h0 : e = 0
    · subst h0
      obtain ⟨hm, hu⟩ := hok rfl
      have c3 := fun w => may_of w X a (by omega) hXl hm
      have c4 : ∀ w, Calls Tryd.prog 13 #[.string X, .string d] w fun e w' => e = .returned (.bool true) ∧ Below w.heap.size w w' := fun w => by
        have := under_any w X d (by omega) (by omega)
        rw [hXl, hu] at this
        exact this
      clear hok he hm hu hX hXl hr
      go_enter Tryd.func4, Tryd.ntmps4
      go_wp2_with (first
        | (go_at_call 8; (with_reducible refine (alive_any _).mono ?_); rintro e w2 ⟨rfl, hb2⟩; replace hB := hB.trans (hb2.mono hB.size); clear hb2)
        | (go_at_call 11; (with_reducible refine (c1 _).mono ?_); rintro e w2 ⟨rfl, hb2⟩; replace hB := hB.trans (hb2.mono hB.size); clear hb2)
        | (go_at_call 12; (with_reducible refine (c2 _).mono ?_); rintro e w2 ⟨rfl, hb2⟩; replace hB := hB.trans (hb2.mono hB.size); clear hb2)
        | (go_at_call 9; (with_reducible refine (c3 _).mono ?_); rintro e w2 ⟨rfl, hb2⟩; replace hB := hB.trans (hb2.mono hB.size); clear hb2)
        | (go_at_call 13; (with_reducible refine (c4 _).mono ?_); rintro e w2 ⟨rfl, hb2⟩; replace hB := hB.trans (hb2.mono hB.size); clear hb2))
      go_ret
      exact ⟨by simp, hB⟩
    · have hne : ¬ e = 0 := h0
      clear hok he hX hXl hr h0
      go_enter Tryd.func4, Tryd.ntmps4
      go_wp2_with (first
        | (go_at_call 8; (with_reducible refine (alive_any _).mono ?_); rintro e w2 ⟨rfl, hb2⟩; replace hB := hB.trans (hb2.mono hB.size); clear hb2)
        | (go_at_call 11; (with_reducible refine (c1 _).mono ?_); rintro e w2 ⟨rfl, hb2⟩; replace hB := hB.trans (hb2.mono hB.size); clear hb2)
        | (go_at_call 12; (with_reducible refine (c2 _).mono ?_); rintro e w2 ⟨rfl, hb2⟩; replace hB := hB.trans (hb2.mono hB.size); clear hb2))
      go_ret
      exact ⟨by simp, hB⟩
theorem lawUnder_any (w : World) (s d : ByteArray) : Calls Tryd.prog 5 #[.string s, .string d] w fun e w' => e = .returned (.bool true) ∧ Below w.heap.size w w' := by
  have hB := Below.refl w.heap.size w
  by_cases h : 1500 < s.size
  · have h' : (1500 : Int) < s.size := by omega
    go_enter Tryd.func5, Tryd.ntmps5
    go_wp2_with (first
      | (go_at_call 8; (with_reducible refine (alive_any _).mono ?_); rintro e w2 ⟨rfl, hb2⟩; replace hB := hB.trans (hb2.mono hB.size); clear hb2))
    go_ret
    exact ⟨rfl, hB⟩
  by_cases h2 : 1500 < d.size
  · have h1' : ¬ (1500 : Int) < s.size := by omega
    have h2' : (1500 : Int) < d.size := by omega
    go_enter Tryd.func5, Tryd.ntmps5
    go_wp2_with (first
      | (go_at_call 8; (with_reducible refine (alive_any _).mono ?_); rintro e w2 ⟨rfl, hb2⟩; replace hB := hB.trans (hb2.mono hB.size); clear hb2))
    go_ret
    exact ⟨rfl, hB⟩
  · have h1' : ¬ (1500 : Int) < s.size := by omega
    have h2' : ¬ (1500 : Int) < d.size := by omega
    have c1 := fun w => under_any w s d (by omega) (by omega)
    have c2 := fun w => refunder_any d (by omega) s.size w s s.data.toList rfl (by rw [toList_length]; exact Nat.le_refl _) (by omega)
    have c3 := fun w => under_any w s s (by omega) (by omega)
    simp only [underB_self] at c3
    obtain ⟨v, hv⟩ : ∃ v, v = underB s.data.toList d.data.toList := ⟨_, rfl⟩
    rw [← hv] at c1 c2
    clear hv
    go_enter Tryd.func5, Tryd.ntmps5
    go_wp2_with (first
      | (go_at_call 8; (with_reducible refine (alive_any _).mono ?_); rintro e w2 ⟨rfl, hb2⟩; replace hB := hB.trans (hb2.mono hB.size); clear hb2)
      | (go_at_call 13; (with_reducible refine (c1 _).mono ?_); rintro e w2 ⟨rfl, hb2⟩; replace hB := hB.trans (hb2.mono hB.size); clear hb2)
      | (go_at_call 13; (with_reducible refine (c3 _).mono ?_); rintro e w2 ⟨rfl, hb2⟩; replace hB := hB.trans (hb2.mono hB.size); clear hb2)
      | (go_at_call 14; (with_reducible refine (c2 _).mono ?_); rintro e w2 ⟨rfl, hb2⟩; replace hB := hB.trans (hb2.mono hB.size); clear hb2))
    go_ret
    exact ⟨by simp, hB⟩
theorem lawParts_any (w : World) (s : ByteArray) : Calls Tryd.prog 6 #[.string s] w fun e w' => e = .returned (.bool true) ∧ Below w.heap.size w w' := by
  have hB := Below.refl w.heap.size w
  by_cases h : 2000 < s.size
  · have h' : (2000 : Int) < s.size := by omega
    go_enter Tryd.func6, Tryd.ntmps6
    go_wp2_with (first
      | (go_at_call 8; (with_reducible refine (alive_any _).mono ?_); rintro e w2 ⟨rfl, hb2⟩; replace hB := hB.trans (hb2.mono hB.size); clear hb2))
    go_ret
    exact ⟨rfl, hB⟩
  · have h' : ¬ (2000 : Int) < s.size := by omega
    have c1 := fun w => dir_any w s _ rfl (by omega)
    have c2 := fun w => base_any w s _ rfl (by omega)
    have c3 := fun w => ext_any w s _ rfl (by omega)
    have r1 := fun w => refdir_any w s _ rfl (by omega)
    have r2 := fun w => refbase_any w s _ rfl (by omega)
    have r3 := fun w => refext_any w s _ rfl (by omega)
    obtain ⟨D, hD⟩ : ∃ D, D = strB (dirL s.data.toList) := ⟨_, rfl⟩
    obtain ⟨B, hBb⟩ : ∃ B, B = strB (baseL s.data.toList) := ⟨_, rfl⟩
    obtain ⟨E, hE⟩ : ∃ E, E = strB (extL s.data.toList) := ⟨_, rfl⟩
    rw [← hD] at c1 r1
    rw [← hBb] at c2 r2
    rw [← hE] at c3 r3
    by_cases hm : mayB s.data.toList = true
    · have r4 := fun w => refmay_of w s _ (by omega) rfl hm
      have hj := pjoin_back hm
      have c5 : ∀ w, Calls Tryd.prog 11 #[.string D, .string B] w fun e w' => e = .returned (.tuple #[.string s, .int .i64 0]) ∧ Below w.heap.size w w' := fun w => by
        have h1 : D.size ≤ 400000 := by
          have := dirL_length hm
          rw [toList_length] at this
          rw [hD, strB_size]; omega
        have h2 : B.size ≤ 400000 := by
          have := baseL_length s.data.toList
          rw [toList_length] at this
          rw [hBb, strB_size]; omega
        have := join_any w D B h1 h2
        rw [hD, hBb, strB_list, strB_list, hj, joinV, strB_of, ← hD, ← hBb] at this
        exact this
      clear hD hBb hE hm hj
      go_enter Tryd.func6, Tryd.ntmps6
      go_wp2_with (first
        | (go_at_call 8; (with_reducible refine (alive_any _).mono ?_); rintro e w2 ⟨rfl, hb2⟩; replace hB := hB.trans (hb2.mono hB.size); clear hb2)
        | (go_at_call 15; (with_reducible refine (c1 _).mono ?_); rintro e w2 ⟨rfl, hb2⟩; replace hB := hB.trans (hb2.mono hB.size); clear hb2)
        | (go_at_call 17; (with_reducible refine (c2 _).mono ?_); rintro e w2 ⟨rfl, hb2⟩; replace hB := hB.trans (hb2.mono hB.size); clear hb2)
        | (go_at_call 19; (with_reducible refine (c3 _).mono ?_); rintro e w2 ⟨rfl, hb2⟩; replace hB := hB.trans (hb2.mono hB.size); clear hb2)
        | (go_at_call 16; (with_reducible refine (r1 _).mono ?_); rintro e w2 ⟨rfl, hb2⟩; replace hB := hB.trans (hb2.mono hB.size); clear hb2)
        | (go_at_call 18; (with_reducible refine (r2 _).mono ?_); rintro e w2 ⟨rfl, hb2⟩; replace hB := hB.trans (hb2.mono hB.size); clear hb2)
        | (go_at_call 20; (with_reducible refine (r3 _).mono ?_); rintro e w2 ⟨rfl, hb2⟩; replace hB := hB.trans (hb2.mono hB.size); clear hb2)
        | (go_at_call 10; (with_reducible refine (r4 _).mono ?_); rintro e w2 ⟨rfl, hb2⟩; replace hB := hB.trans (hb2.mono hB.size); clear hb2)
        | (go_at_call 11; (with_reducible refine (c5 _).mono ?_); rintro e w2 ⟨rfl, hb2⟩; replace hB := hB.trans (hb2.mono hB.size); clear hb2))
      go_ret
      exact ⟨by simp, hB⟩
    · have hm' : mayB s.data.toList = false := by simpa using hm
      have r4 := fun w => refmay_of w s _ (by omega) rfl hm'
      obtain ⟨n1, n2, n3⟩ := noPath hm'
      have eD : D.toList = [] := by rw [ByteArray.toList_eq, hD, strB_list, n1]
      have eB : B.toList = [] := by rw [ByteArray.toList_eq, hBb, strB_list, n2]
      have eE : E.toList = [] := by rw [ByteArray.toList_eq, hE, strB_list, n3]
      clear hD hBb hE hm hm' n1 n2 n3
      go_enter Tryd.func6, Tryd.ntmps6
      go_wp2_with (first
        | (go_at_call 8; (with_reducible refine (alive_any _).mono ?_); rintro e w2 ⟨rfl, hb2⟩; replace hB := hB.trans (hb2.mono hB.size); clear hb2)
        | (go_at_call 15; (with_reducible refine (c1 _).mono ?_); rintro e w2 ⟨rfl, hb2⟩; replace hB := hB.trans (hb2.mono hB.size); clear hb2)
        | (go_at_call 17; (with_reducible refine (c2 _).mono ?_); rintro e w2 ⟨rfl, hb2⟩; replace hB := hB.trans (hb2.mono hB.size); clear hb2)
        | (go_at_call 19; (with_reducible refine (c3 _).mono ?_); rintro e w2 ⟨rfl, hb2⟩; replace hB := hB.trans (hb2.mono hB.size); clear hb2)
        | (go_at_call 16; (with_reducible refine (r1 _).mono ?_); rintro e w2 ⟨rfl, hb2⟩; replace hB := hB.trans (hb2.mono hB.size); clear hb2)
        | (go_at_call 18; (with_reducible refine (r2 _).mono ?_); rintro e w2 ⟨rfl, hb2⟩; replace hB := hB.trans (hb2.mono hB.size); clear hb2)
        | (go_at_call 20; (with_reducible refine (r3 _).mono ?_); rintro e w2 ⟨rfl, hb2⟩; replace hB := hB.trans (hb2.mono hB.size); clear hb2)
        | (go_at_call 10; (with_reducible refine (r4 _).mono ?_); rintro e w2 ⟨rfl, hb2⟩; replace hB := hB.trans (hb2.mono hB.size); clear hb2))
      go_ret
      exact ⟨by simp, hB⟩
end Go.Proofs.YtdhmebilloefjaaDoor
