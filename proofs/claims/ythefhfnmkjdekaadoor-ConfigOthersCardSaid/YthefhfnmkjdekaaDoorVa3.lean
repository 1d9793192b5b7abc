/- Values: what a node may be; keys that rise. -/
import Derived.Test.YthefhfnmkjdekaaDoorVa2
namespace Go.Proofs.YthefhfnmkjdekaaDoor
open Go.RowKit
set_option maxRecDepth 100000
def stepK (ks : List Tx) : Nat → Bool
  | 0 => match ks[0]? with
    | none => true
    | some x => decide (x.length ≤ 65536)
  | j + 1 => match ks[j]?, ks[j + 1]? with
    | some y, some x => decide (x.length ≤ 65536) && decide (y < x)
    | _, _ => true
def risesB (ks : List Tx) : Bool := (List.range ks.length).all (stepK ks)
theorem risesB_bad {ks : List Tx} {k : Nat} (hk : k < ks.length) (h : stepK ks k = false) : risesB ks = false := by
  rw [risesB, List.all_eq_false]
  exact ⟨k, List.mem_range.2 hk, by simp [h]⟩
theorem risesB_ok {ks : List Tx} (h : ∀ j, j < ks.length → stepK ks j = true) : risesB ks = true := by
  rw [risesB, List.all_eq_true]
  exact fun j hj => h j (List.mem_range.1 hj)
theorem stepK_zero {ks : List Tx} {x : Tx} (h : ks[0]? = some x) : stepK ks 0 = decide (x.length ≤ 65536) := by rw [stepK]; simp [h]
theorem stepK_succ {ks : List Tx} {j : Nat} {y x : Tx} (hy : ks[j]? = some y) (hx : ks[j + 1]? = some x) : stepK ks (j + 1) = (decide (x.length ≤ 65536) && decide (y < x)) := by rw [stepK]; simp [hy, hx]
def keysB (v : VT) : Bool := decide (v.ks.length = v.l.length) && risesB v.ks
/-- may a value be, but for what is in it? -/
def nodeB (v : VT) : Bool :=
  if v.k = 0 then decide (v.n = 0) && v.s.isEmpty && decide (v.l.length = 0) && decide (v.ks.length = 0)
  else if v.k = 1 then (decide (v.n = 0) || decide (v.n = 1)) && v.s.isEmpty && decide (v.l.length = 0) && decide (v.ks.length = 0)
  else if v.k = 2 then v.s.isEmpty && decide (v.l.length = 0) && decide (v.ks.length = 0)
  else if v.k = 3 then decide (v.n = 0) && decide (v.s.length ≤ 65536) && decide (v.l.length = 0) && decide (v.ks.length = 0)
  else if v.k = 4 then decide (v.n = 0) && v.s.isEmpty && decide (v.l.length ≤ 1000) && decide (v.ks.length = 0)
  else if v.k = 5 then decide (v.n = 0) && v.s.isEmpty && decide (v.l.length ≤ 1000) && keysB v
  else false
mutual
def VT.okAll : VT → Bool | .mk k n s l ks => VT.oks l && nodeB (.mk k n s l ks)
def VT.oks : List VT → Bool
  | [] => true
  | x :: r => x.okAll && VT.oks r
end
theorem VT.okAll_eq (v : VT) : v.okAll = (VT.oks v.l && nodeB v) := by
  cases v
  rw [VT.okAll]
  rfl
theorem oks_take {l : List VT} {i : Nat} {x : VT} (h : l[i]? = some x) : VT.oks (l.take (i + 1)) = (VT.oks (l.take i) && x.okAll) := by
  induction l generalizing i with
  | nil => simp at h
  | cons y l ih =>
    cases i with
    | zero =>
      simp only [List.getElem?_cons_zero, Option.some.injEq] at h
      subst h
      simp [VT.oks]
    | succ i =>
      have := ih (i := i) (by simpa using h)
      simp only [List.take_succ_cons, VT.oks, this, Bool.and_assoc]
theorem oks_bad : ∀ {l : List VT} {i : Nat} {x : VT}, l[i]? = some x → x.okAll = false → VT.oks l = false
  | y :: l, 0, x, h, hx => by
    simp only [List.getElem?_cons_zero, Option.some.injEq] at h
    subst h
    rw [VT.oks, hx]
    rfl
  | y :: l, i + 1, x, h, hx => by
    rw [VT.oks, oks_bad (l := l) (i := i) (by simpa using h) hx, Bool.and_false]
theorem run_geq (w : World) (X Y : ByteArray) : (binOp BinOp.geq 9 (.string X) (.string Y)).run Tryd.prog w = .ok (.bool (!Op.bytesLess X.toList Y.toList)) w := by
  simp [go_sem, binOp, Op.stringOp, Tryd.underlying9]
theorem run_leq (w : World) (X Y : ByteArray) : (binOp BinOp.leq 9 (.string X) (.string Y)).run Tryd.prog w = .ok (.bool (Op.bytesLess X.toList Y.toList || X.toList == Y.toList)) w := by
  simp [go_sem, binOp, Op.stringOp, Tryd.underlying9]
theorem leq_dec (x y : Tx) : (Op.bytesLess (strB x).toList (strB y).toList || (strB x).toList == (strB y).toList) = !decide (y < x) := by
  rw [less_dec, toList_strB, toList_strB]
  by_cases h1 : y < x
  · have h2 : ¬ x < y := fun h => less_irrefl x (List.lt_trans h h1)
    have h3 : ¬ x = y := fun h => less_irrefl x (by rw [← h] at h1; exact h1)
    simp [h1, h2, h3]
  · by_cases h2 : x < y
    · simp [h1, h2]
    · have h3 : x = y := Classical.byContradiction fun h => h1 (less_else h2 h)
      simp [h3, less_irrefl]
set_option maxHeartbeats 2000000 in
theorem rises_any (w : World) (A : Option Addr) (c : Nat) (ks : List Tx) (hl : ks.length ≤ maxLen) (hr : Rd w 1 A ks.length (strV ks)) :
    Calls Tryd.prog 78 #[.slice A ks.length c] w fun e w' => e = .returned (.bool (risesB ks && decide (ks.length ≤ 1000))) ∧ w' = w := by
  obtain ⟨n, hn⟩ : ∃ n, n = ks.length := ⟨_, rfl⟩
  have hat := fun (k : Nat) (hk : k < ks.length) => risesB_bad hk
  have hend := risesB_ok (ks := ks)
  rw [← hn] at hr hl ⊢
  unfold maxLen at hl
  obtain ⟨r, hr2⟩ : ∃ r, r = risesB ks := ⟨_, rfl⟩
  rw [← hr2] at hat hend ⊢
  have HAT := hid2 hat
  have HEND := hid2 hend
  have HR := hid2 hr
  have HN := hid2 hn
  clear hat hend hr hn hr2
  go_enter Tryd.func78, Tryd.ntmps78
  go_wp2_with fail
  go_loopw [7] (fun i wr => ∃ k : Nat, k ≤ n ∧ i = .int .i64 k ∧ wr = w ∧ ∀ j, j < k → stepK ks j = true) (fun i _ => n - (intOf i).toNat)
  case atStart => exact ⟨0, by omega, rfl, rfl, fun j hj => absurd hj (Nat.not_lt_zero _)⟩
  case round =>
    obtain ⟨k, hk, rfl, rfl, hz⟩ := hrel
    have HZ := hid2 hz
    clear hz
    by_cases hlt : k < n
    · have hkl : (k : Int) < n := by omega
      have hk0 : (0 : Int) ≤ k := by omega
      obtain ⟨x, hx⟩ : ∃ x, ks[k]? = some x := ⟨_, List.getElem?_eq_getElem (by rw [← HN.out]; exact hlt)⟩
      obtain ⟨b, o, rfl, hcc⟩ := HR.out.2 (by omega)
      have hc0 : wr.cell? ⟨b, o + k, none⟩ = some (.string (strB x)) := hcc k _ (strV_get hx)
      have hxs := strB_size x
      cases k with
      | zero =>
        obtain ⟨X, hX⟩ : ∃ X, X = strB x := ⟨_, rfl⟩
        rw [← hX] at hc0 hxs
        rw [Nat.add_zero] at hc0
        have hst := stepK_zero hx
        by_cases h1 : 65536 < X.size
        · have i1 : (65536 : Int) < X.size := by omega
          have hb := HAT.out 0 (by rw [← HN.out]; exact hlt) (by rw [hst, decide_eq_false_iff_not]; omega)
          have HB := hid2 hb
          clear hX hx hcc hst hb h1 hxs
          go_wp2_with fail
          go_ret
          exact ⟨ret_bool (by rw [HB.out]; rfl), by first | rfl | trivial⟩
        · have i1 : ¬ (65536 : Int) < X.size := by omega
          have hb : stepK ks 0 = true := by rw [hst, decide_eq_true_eq]; omega
          have HB := hid2 hb
          clear hX hx hcc hst hb h1 hxs
          go_wp2_with fail
          go_roundw
          case rel => exact ⟨1, by omega, by go_num, by first | rfl | trivial, fun j hj => by obtain rfl : j = 0 := (by omega); exact HB.out⟩
          case measure => simp [intOf]; omega
      | succ j =>
        obtain ⟨y, hy⟩ : ∃ y, ks[j]? = some y := ⟨_, List.getElem?_eq_getElem (by rw [← HN.out]; omega)⟩
        have hc1 : wr.cell? ⟨b, o + j, none⟩ = some (.string (strB y)) := hcc j _ (strV_get hy)
        have hle := less_dec y x
        obtain ⟨X, hX⟩ : ∃ X, X = strB x := ⟨_, rfl⟩
        obtain ⟨Y, hY⟩ : ∃ Y, Y = strB y := ⟨_, rfl⟩
        rw [← hX] at hc0 hxs
        rw [← hX, ← hY] at hle
        rw [← hY] at hc1
        have hst := stepK_succ hy hx
        have hj0 : (0 : Int) ≤ j := by omega
        have hjl : (j : Int) < n := by omega
        have hj1 : (0 : Int) < (j : Int) + 1 := by omega
        have hwj : IntKind.i64.wrap (j : Int) = j := by unfold IntKind.wrap; simp [IntKind.bits, IntKind.signed]; omega
        by_cases h1 : 65536 < X.size
        · have i1 : (65536 : Int) < X.size := by omega
          have hb := HAT.out (j + 1) (by rw [← HN.out]; exact hlt) (by rw [hst, Bool.and_eq_false_iff, decide_eq_false_iff_not]; left; omega)
          have HB := hid2 hb
          clear hX hY hx hy hcc hst hb h1 hxs hle
          go_wp2_with fail
          go_ret
          exact ⟨ret_bool (by rw [HB.out]; rfl), by first | rfl | trivial⟩
        · have i1 : ¬ (65536 : Int) < X.size := by omega
          have hq := fun (w : World) => (run_geq w Y X).trans (by rw [hle])
          by_cases h2 : y < x
          · rw [decide_eq_true h2] at hq
            have hb : stepK ks (j + 1) = true := by rw [hst, Bool.and_eq_true, decide_eq_true_eq, decide_eq_true_eq]; exact ⟨by omega, h2⟩
            have HB := hid2 hb
            have hqq := hq wr
            clear hX hY hx hy hcc hst hb h1 hxs hle h2 hq
            go_wp2_with fail
            go_roundw
            case rel => exact ⟨j + 2, by omega, by go_num, by first | rfl | trivial, fun i hi => (Nat.lt_or_ge i (j + 1)).elim (HZ.out i) fun h => by obtain rfl : i = j + 1 := (by omega); exact HB.out⟩
            case measure => simp [intOf]; omega
          · rw [decide_eq_false h2] at hq
            have hb := HAT.out (j + 1) (by rw [← HN.out]; exact hlt) (by rw [hst, decide_eq_false h2, Bool.and_false])
            have HB := hid2 hb
            have hqq := hq wr
            clear hX hY hx hy hcc hst hb h1 hxs hle h2 hq
            go_wp2_with fail
            go_ret
            exact ⟨ret_bool (by rw [HB.out]; rfl), by first | rfl | trivial⟩
    · have hkl : ¬ (k : Int) < n := by omega
      have hE0 := HEND.out fun j hj => HZ.out j (by have := HN.out; omega)
      have HE0 := hid2 hE0
      have hd : decide ((n : Int) ≤ 1000) = decide (n ≤ 1000) := by rw [decide_eq_decide]; omega
      have HD := hid2 hd
      clear hE0 hd
      go_wp2_with fail
      go_ret
      exact ⟨ret_bool (by rw [HE0.out, Bool.true_and, ← HD.out]), by first | rfl | trivial⟩
end Go.Proofs.YthefhfnmkjdekaaDoor
