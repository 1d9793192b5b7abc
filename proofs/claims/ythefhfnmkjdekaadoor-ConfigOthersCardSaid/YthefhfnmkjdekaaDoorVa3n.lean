/- Values: the document's node. -/
import Derived.Test.YthefhfnmkjdekaaDoorVa3k
namespace Go.Proofs.YthefhfnmkjdekaaDoor
open Go.RowKit
set_option maxRecDepth 100000
theorem beq_int (a b : Int) : (a == b) = decide (a = b) := rfl
set_option maxHeartbeats 4000000 in
theorem node_any (w : World) (v : VT) (a : VA) (h : VAt w v a) : Calls Tryd.prog 81 #[.agg (vV v a)] w fun e w' => e = .returned (.bool (nodeB v)) ∧ Below w.heap.size w w' := by
  obtain ⟨hbx, hb0⟩ := box_value w v a h
  have hV : vV v a = #[.int .i64 v.k, .int .i64 v.n, .string (strB v.s), .slice a.L v.l.length a.cL, .slice a.K v.ks.length a.cK] := rfl
  rw [hV] at hbx hb0 ⊢
  obtain ⟨AL, AK, cL, cK⟩ := a
  obtain ⟨n, hn⟩ : ∃ n, n = v.l.length := ⟨_, rfl⟩
  obtain ⟨nk, hnk⟩ : ∃ n, n = v.ks.length := ⟨_, rfl⟩
  obtain ⟨S, hS⟩ : ∃ S, S = strB v.s := ⟨_, rfl⟩
  have hl := h.lenL
  have hlk := h.lenK
  rw [← hn] at hl
  rw [← hnk] at hlk
  unfold maxLen at hl hlk
  simp only at hbx hb0 ⊢
  rw [← hn, ← hnk, ← hS] at hbx hb0 ⊢
  have hcs := hbx.cells
  rw [← hn, ← hnk, ← hS] at hcs
  obtain ⟨q0, q1, q2, q3, q4⟩ := hcs
  simp only at q3 q4
  obtain ⟨W0, hW⟩ : ∃ W0, W0 = w.alloc (.cells #[.int .i64 v.k, .int .i64 v.n, .string S, .slice AL n cL, .slice AK nk cK] 40) := ⟨_, rfl⟩
  rw [← hW] at hbx hb0
  have HW := hid2 hW
  have HBX := hid2 hbx
  have HB0 := hid2 hb0
  have HN := hid2 hn
  have HNK := hid2 hnk
  have HS := hid2 hS
  have HAT := hid2 h
  obtain ⟨g, hg⟩ : ∃ g, g = w.heap.size := ⟨_, rfl⟩
  have HG := hid2 hg
  have BXC := hid2 (fun (W : World) (hb : Below W0.heap.size W0 W) => show W.cell? ⟨g, 0, none⟩ = some (.int .i64 v.k) ∧ W.cell? ⟨g, 1, none⟩ = some (.int .i64 v.n) ∧ W.cell? ⟨g, 2, none⟩ = some (.string S) ∧ W.cell? ⟨g, 3, none⟩ = some (.slice AL n cL) ∧ W.cell? ⟨g, 4, none⟩ = some (.slice AK nk cK) from by
    have := (HBX.out.below hb).cells
    rw [← HG.out, ← HN.out, ← HNK.out, ← HS.out] at this
    exact this)
  have EL := hid2 (fun (W : World) (hb : Below W0.heap.size W0 W) (i : Nat) (x : VT) (hx : v.l[i]? = some x) => (HBX.out.below hb).at_.elem5 hx)
  have KEY := hid2 (fun (W : World) (hb : Below W0.heap.size W0 W) (i : Nat) (x : Tx) (hx : v.ks[i]? = some x) => (HBX.out.below hb).at_.key hx)
  obtain ⟨se, hse⟩ : ∃ se, se = v.s.isEmpty := ⟨_, rfl⟩
  have hs1 : S.toList.isEmpty = se := by rw [hS, toList_strB, hse]
  have hs2 : (S.toList == []) = se := by rw [hS, toList_strB, hse]; cases v.s <;> rfl
  have hss : S.size = v.s.length := by rw [hS, strB_size]
  obtain ⟨kb, hkb⟩ : ∃ kb, kb = keysB v := ⟨_, rfl⟩
  have hnb : nodeB v = if v.k = 0 then decide (v.n = 0) && se && decide ((n : Int) = 0) && decide ((nk : Int) = 0)
      else if v.k = 1 then (decide (v.n = 0) || decide (v.n = 1)) && se && decide ((n : Int) = 0) && decide ((nk : Int) = 0)
      else if v.k = 2 then se && decide ((n : Int) = 0) && decide ((nk : Int) = 0)
      else if v.k = 3 then decide (v.n = 0) && decide ((S.size : Int) ≤ 65536) && decide ((n : Int) = 0) && decide ((nk : Int) = 0)
      else if v.k = 4 then decide (v.n = 0) && se && decide ((n : Int) ≤ 1000) && decide ((nk : Int) = 0)
      else if v.k = 5 then decide (v.n = 0) && se && decide ((n : Int) ≤ 1000) && kb
      else false := by
    have e1 : decide ((n : Int) = 0) = decide (v.l.length = 0) := by rw [decide_eq_decide]; omega
    have e2 : decide ((nk : Int) = 0) = decide (v.ks.length = 0) := by rw [decide_eq_decide]; omega
    have e3 : decide ((n : Int) ≤ 1000) = decide (v.l.length ≤ 1000) := by rw [decide_eq_decide]; omega
    have e4 : decide ((S.size : Int) ≤ 65536) = decide (v.s.length ≤ 65536) := by rw [decide_eq_decide]; omega
    rw [e1, e2, e3, e4, hse, hkb]
    rfl
  have ck := fun (W : World) (hb : Below W0.heap.size W0 W) => keys_any W v ⟨AL, AK, cL, cK⟩ (hbx.below hb).at_
  rw [vV_eq] at ck
  simp only at ck
  rw [← hn, ← hnk, ← hS, ← hkb] at ck
  obtain ⟨R, hR⟩ : ∃ R, R = nodeB v := ⟨_, rfl⟩
  rw [← hR] at hnb ⊢
  have HNB := hid2 hnb
  have CK := hid2 ck
  clear hse hkb hnb hR ck hss
  clear h hbx hb0 hV hn hnk hS hW hg
  go_enter Tryd.func81, Tryd.ntmps81
  by_cases hk0 : v.k = 0
  · have HK := hid2 hk0
    rcases Decidable.em (v.n = 0) with h1 | h1 <;> cases se <;> rcases Decidable.em ((n : Int) = 0) with h2 | h2 <;> rcases Decidable.em ((nk : Int) = 0) with h3 | h3 <;> (
      have H1 := hid2 h1
      have H2 := hid2 h2
      have H3 := hid2 h3
      go_wp2_with fail
      go_ret
      exact ⟨ret_bool (by rw [HNB.out, if_pos HK.out]; have h1 := H1.out; have h2 := H2.out; have h3 := H3.out; (simp only [beq_int, h1, h2, h3] <;> simp <;> intros <;> omega)), (Below.refl _ w).alloc (Nat.le_refl _) _⟩)
  · have HK0 := hid2 hk0
    by_cases hk1 : v.k = 1
    · have HK := hid2 hk1
      rcases Decidable.em (v.n = 0) with h1 | h1 <;> rcases Decidable.em (v.n = 1) with h4 | h4 <;> cases se <;> rcases Decidable.em ((n : Int) = 0) with h2 | h2 <;> rcases Decidable.em ((nk : Int) = 0) with h3 | h3 <;> first | (exfalso; omega) | (
        have H1 := hid2 h1
        have H2 := hid2 h2
        have H3 := hid2 h3
        have H4 := hid2 h4
        go_wp2_with fail
        go_ret
        exact ⟨ret_bool (by rw [HNB.out, if_neg HK0.out, if_pos HK.out]; have h1 := H1.out; have h2 := H2.out; have h3 := H3.out; have h4 := H4.out; (simp only [beq_int, h1, h2, h3, h4] <;> simp <;> intros <;> omega)), (Below.refl _ w).alloc (Nat.le_refl _) _⟩)
    · have HK1 := hid2 hk1
      by_cases hk2 : v.k = 2
      · have HK := hid2 hk2
        cases se <;> rcases Decidable.em ((n : Int) = 0) with h2 | h2 <;> rcases Decidable.em ((nk : Int) = 0) with h3 | h3 <;> (
          have H2 := hid2 h2
          have H3 := hid2 h3
          go_wp2_with fail
          go_ret
          exact ⟨ret_bool (by rw [HNB.out, if_neg HK0.out, if_neg HK1.out, if_pos HK.out]; have h2 := H2.out; have h3 := H3.out; (simp only [beq_int, h2, h3] <;> simp <;> intros <;> omega)), (Below.refl _ w).alloc (Nat.le_refl _) _⟩)
      · have HK2 := hid2 hk2
        by_cases hk3 : v.k = 3
        · have HK := hid2 hk3
          rcases Decidable.em (v.n = 0) with h1 | h1 <;> rcases Decidable.em ((S.size : Int) ≤ 65536) with h4 | h4 <;> rcases Decidable.em ((n : Int) = 0) with h2 | h2 <;> rcases Decidable.em ((nk : Int) = 0) with h3 | h3 <;> (
            have H1 := hid2 h1
            have H2 := hid2 h2
            have H3 := hid2 h3
            have H4 := hid2 h4
            go_wp2_with fail
            go_ret
            exact ⟨ret_bool (by rw [HNB.out, if_neg HK0.out, if_neg HK1.out, if_neg HK2.out, if_pos HK.out]; have h1 := H1.out; have h2 := H2.out; have h3 := H3.out; have h4 := H4.out; (simp only [beq_int, h1, h2, h3, h4] <;> simp <;> intros <;> omega)), (Below.refl _ w).alloc (Nat.le_refl _) _⟩)
        · have HK3 := hid2 hk3
          by_cases hk4 : v.k = 4
          · have HK := hid2 hk4
            rcases Decidable.em (v.n = 0) with h1 | h1 <;> cases se <;> rcases Decidable.em ((n : Int) ≤ 1000) with h2 | h2 <;> rcases Decidable.em ((nk : Int) = 0) with h3 | h3 <;> (
              have H1 := hid2 h1
              have H2 := hid2 h2
              have H3 := hid2 h3
              go_wp2_with fail
              go_ret
              exact ⟨ret_bool (by rw [HNB.out, if_neg HK0.out, if_neg HK1.out, if_neg HK2.out, if_neg HK3.out, if_pos HK.out]; have h1 := H1.out; have h2 := H2.out; have h3 := H3.out; (simp only [beq_int, h1, h2, h3] <;> simp <;> intros <;> omega)), (Below.refl _ w).alloc (Nat.le_refl _) _⟩)
          · have HK4 := hid2 hk4
            by_cases hk5 : v.k = 5
            · have HK := hid2 hk5
              by_cases hall : v.n = 0 ∧ se = true ∧ (n : Int) ≤ 1000
              · obtain ⟨h1, rfl, h2⟩ := hall
                have H1 := hid2 h1
                have H2 := hid2 h2
                have hw5 := HW.out
                have ck := CK.out W0 (Below.refl _ _)
                rw [hk5, h1] at hw5 ck
                have HW5 := hid2 hw5
                have CK5 := hid2 ck
                clear hw5 ck
                go_wp2_with (go_at_call 98; rw [← HW5.out]; refine CK5.out.mono ?_; rintro e w1 ⟨rfl, hb1⟩)
                go_ret
                exact ⟨ret_bool (by rw [HNB.out, if_neg HK0.out, if_neg HK1.out, if_neg HK2.out, if_neg HK3.out, if_neg HK4.out, if_pos HK.out]; have h1 := H1.out; have h2 := H2.out; simp [h1, h2]), HB0.out.trans (hb1.mono HB0.out.size)⟩
              · have HALL := hid2 hall
                rcases Decidable.em (v.n = 0) with h1 | h1 <;> cases se <;> rcases Decidable.em ((n : Int) ≤ 1000) with h2 | h2 <;> try (exfalso; apply hall; constructor; assumption; constructor; rfl; assumption)
                all_goals (
                  have H1 := hid2 h1
                  have H2 := hid2 h2
                  clear hall
                  go_wp2_with fail
                  go_ret
                  exact ⟨ret_bool (by rw [HNB.out, if_neg HK0.out, if_neg HK1.out, if_neg HK2.out, if_neg HK3.out, if_neg HK4.out, if_pos HK.out]; have h1 := H1.out; have h2 := H2.out; (simp only [beq_int, h1, h2] <;> simp <;> intros <;> omega)), (Below.refl _ w).alloc (Nat.le_refl _) _⟩)
            · have HK5 := hid2 hk5
              go_wp2_with fail
              go_ret
              exact ⟨ret_bool (by rw [HNB.out, if_neg HK0.out, if_neg HK1.out, if_neg HK2.out, if_neg HK3.out, if_neg HK4.out, if_neg HK5.out]), (Below.refl _ w).alloc (Nat.le_refl _) _⟩
end Go.Proofs.YthefhfnmkjdekaaDoor
