/- The walks of cut, Dir, Base, Ext and Under. -/
import Derived.Test.YtdhmebilloefjaaDoorPath4
import Derived.Test.YtdhmebilloefjaaDoorPath6
import Derived.BigQuiet
namespace Go.Proofs.YtdhmebilloefjaaDoor
open Go.RowKit
/-- the last place of a byte among the first k, or -1 -/
def lastFrom (l : List UInt8) (c : UInt8) : Nat → Int
  | 0 => -1
  | k + 1 => if l[k]? = some c then (k : Int) else lastFrom l c k
def lastL (l : List UInt8) (c : UInt8) : Int := lastFrom l c l.length
theorem lastFrom_lt (l : List UInt8) (c : UInt8) : ∀ k, -1 ≤ lastFrom l c k ∧ lastFrom l c k < k
  | 0 => by simp [lastFrom]
  | k + 1 => by
    have ih := lastFrom_lt l c k
    unfold lastFrom
    split <;> omega
theorem lastFrom_none {l : List UInt8} {c : UInt8} (h : c ∉ l) : ∀ k, lastFrom l c k = -1
  | 0 => rfl
  | k + 1 => by
    rw [lastFrom, if_neg (fun e => h (List.mem_of_getElem? e))]
    exact lastFrom_none h k
theorem lastL_none {l : List UInt8} {c : UInt8} (h : c ∉ l) : lastL l c = -1 := lastFrom_none h _
theorem lastL_some {a b : List UInt8} {c : UInt8} (h : c ∉ b) : lastL (a ++ c :: b) c = a.length := by
  have key : ∀ k, k ≤ b.length → lastFrom (a ++ c :: b) c (a.length + 1 + k) = a.length := by
    intro k
    induction k with
    | zero => intro _; rw [Nat.add_zero, lastFrom, if_pos (by simp)]
    | succ k ih =>
      intro hk
      show lastFrom (a ++ c :: b) c ((a.length + 1 + k) + 1) = _
      rw [lastFrom, if_neg, ih (by omega)]
      intro e
      rw [List.getElem?_append_right (by omega), show a.length + 1 + k - a.length = k + 1 by omega, List.getElem?_cons_succ] at e
      exact h (List.mem_of_getElem? e)
  have := key b.length (Nat.le_refl _)
  rw [lastL, List.length_append, List.length_cons]
  rw [show a.length + (b.length + 1) = a.length + 1 + b.length by omega]
  exact this
theorem extFrom_last (b : List UInt8) : ∀ k, extFrom b k = if 0 < lastFrom b 46 k then b.drop (lastFrom b 46 k).toNat else []
  | 0 => rfl
  | k + 1 => by
    have ih := extFrom_last b k
    unfold extFrom lastFrom
    by_cases hk : k = 0
    · subst hk
      rw [if_pos rfl]
      by_cases h : b[0]? = some 46
      · rw [if_pos h]; rfl
      · rw [if_neg h]; rfl
    · rw [if_neg hk]
      by_cases h : b[k]? = some 46
      · rw [if_pos h, if_pos h, if_pos (by omega)]; rfl
      · rw [if_neg h, if_neg h, ih]
theorem extOf_last (b : List UInt8) : extOf b = if 0 < lastL b 46 then b.drop (lastL b 46).toNat else [] := extFrom_last b _
theorem get_list (s : ByteArray) {k : Nat} (h : k < s.size) : s.data.toList[k]? = some (s[k]'h) := by
  rw [List.getElem?_eq_getElem (by rw [toList_length]; exact h)]
  simp; rfl
theorem slast_any (w : World) (s : ByteArray) (c : UInt8) (hs : s.size ≤ 1000000) : Calls Tryd.prog 33 #[.string s, .int .u8 c.toNat] w fun e w' => e = .returned (.int .i64 (lastL s.data.toList c)) ∧ w' = w := by
  obtain ⟨l, hL⟩ : ∃ l, l = s.data.toList := ⟨_, rfl⟩
  have HLL := hid2 (show l.length = s.size by rw [hL, toList_length])
  rw [← hL]
  have HL := hid2 hL
  have hs0 : (s.size : Int) ≤ 1000000 := by omega
  clear hL
  go_enter Tryd.func33, Tryd.ntmps33
  go_wp2_with fail
  go_loop [5] (fun i => ∃ k : Nat, k ≤ s.size ∧ i = .int .i64 ((k : Int) - 1) ∧ Hid2 (lastFrom l c k = lastL l c)) (fun i => (intOf i + 1).toNat)
  case atStart => exact ⟨s.size, Nat.le_refl _, rfl, hid2 (by rw [lastL, HLL.out])⟩
  case round =>
    obtain ⟨k, hk, rfl, hl⟩ := hrel
    by_cases h0 : k = 0
    · subst h0
      go_wp2_with fail
      go_ret
      exact ⟨by rw [← hl.out]; rfl, rfl⟩
    · obtain ⟨m, rfl⟩ : ∃ m, k = m + 1 := ⟨k - 1, by omega⟩
      have e : ((m + 1 : Nat) : Int) - 1 = m := by omega
      rw [e]
      have hm : m < s.size := by omega
      have hm' : (m : Int) < s.size := by omega
      by_cases hc : (s[m]'hm).toNat = c.toNat
      · have hc' : ((s[m]'hm).toNat : Int) = c.toNat := by omega
        have hr : Hid2 (lastL l c = m) := hid2 (by
          have h := hl.out
          rw [lastFrom, if_pos] at h
          · exact h.symm
          · rw [HL.out, get_list s hm]
            exact congrArg some (UInt8.toNat_inj.1 hc))
        clear hc e h0
        go_wp2_with fail
        go_ret
        exact ⟨by rw [hr.out]; rfl, rfl⟩
      · have hc' : ¬ ((s[m]'hm).toNat : Int) = c.toNat := by omega
        have hr : Hid2 (lastFrom l c m = lastL l c) := hid2 (by
          have h := hl.out
          rw [lastFrom, if_neg] at h
          · exact h
          · rw [HL.out, get_list s hm]
            intro e'
            exact hc (by rw [Option.some.inj e']))
        clear hc e h0
        go_wp2_with fail
        go_round
        case rel => exact ⟨m, by omega, by go_num, hr⟩
        case measure => simp [intOf]
theorem last_any (w : World) (s : ByteArray) (c : UInt8) (hs : s.size ≤ 1000000) : Calls Tryd.prog 27 #[.string s, .int .u8 c.toNat] w fun e w' => e = .returned (.int .i64 (lastL s.data.toList c)) ∧ w' = w := by
  obtain ⟨v, hv⟩ : ∃ v, v = lastL s.data.toList c := ⟨_, rfl⟩
  obtain ⟨x, hx⟩ : ∃ x : Int, x = c.toNat := ⟨_, rfl⟩
  have hc : ∀ w, Calls Tryd.prog 33 #[.string s, .int .u8 x] w fun e w' => e = .returned (.int .i64 v) ∧ w' = w := fun w => by rw [hv, hx]; exact slast_any w s c hs
  rw [← hv, ← hx]
  clear hv hx
  go_enter Tryd.func27, Tryd.ntmps27
  go_wp2_with (go_at_call 33; refine (hc _).mono ?_; rintro e w2 ⟨rfl, rfl⟩)
  go_ret
  exact ⟨rfl, rfl⟩
theorem may_of {v : Bool} (w : World) (s : ByteArray) (l : List UInt8) (hs : s.size ≤ 1000000) (hl : s.data.toList = l) (h : mayB l = v) : Calls Tryd.prog 9 #[.string s] w fun e w' => e = .returned (.bool v) ∧ Below w.heap.size w w' := by
  have := may_any w s hs
  rw [hl, h] at this
  exact this
theorem last_of {v : Int} (w : World) (s : ByteArray) (l : List UInt8) (c : UInt8) (hs : s.size ≤ 1000000) (hl : s.data.toList = l) (h : lastL l c = v) : Calls Tryd.prog 27 #[.string s, .int .u8 c.toNat] w fun e w' => e = .returned (.int .i64 v) ∧ w' = w := by
  have := last_any w s c hs
  rw [hl, h] at this
  exact this
theorem cut_any (w : World) (s : ByteArray) (l : List UInt8) (hl : s.data.toList = l) (hs : s.size ≤ 1000000) : Calls Tryd.prog 26 #[.string s] w fun e w' => e = .returned (.tuple #[.string (strB (dirL l)), .string (strB (baseL l))]) ∧ Below w.heap.size w w' := by
  have HL := hid2 hl
  have hs0 : (s.size : Int) ≤ 1000000 := by omega
  by_cases hm : mayB l = true
  · have hmc := fun w => may_of w s l hs hl hm
    rcases last_stroke l with h47 | ⟨a, b, rfl, hb⟩
    · have hlc := fun w => last_of w s l 47 hs hl (lastL_none h47)
      rw [dirL_pure h47, baseL_pure h47 hm, ← hl, strB_of]
      clear hl hm h47
      go_enter Tryd.func26, Tryd.ntmps26
      go_wp2_with (first
        | (go_at_call 9; refine (hmc _).mono ?_; rintro e w2 ⟨rfl, hb⟩)
        | (go_at_call 27; refine (hlc _).mono ?_; rintro e w2 ⟨rfl, rfl⟩))
      go_ret2
      exact ⟨rfl, hb⟩
    · have hlc := fun w => last_of w s _ 47 hs hl (lastL_some (a := a) hb)
      rw [dirL_last hb hm, baseL_last hb hm]
      have hsz : s.size = a.length + 1 + b.length := by rw [← toList_length, hl]; simp; omega
      obtain ⟨k, hk⟩ : ∃ k, k = a.length := ⟨_, rfl⟩
      have hx1 : s.extract 0 k = strB a := strB_eq (by rw [extract_list, hl, hk]; simp)
      have hx2 : s.extract (k + 1) s.size = strB b := strB_eq (by rw [hsz, extract_list, hl, hk]; simp)
      rw [← hk] at hlc hsz
      obtain ⟨Fr, hFr⟩ : ∃ Fr, Fr = strB a := ⟨_, rfl⟩
      obtain ⟨Nx, hNx⟩ : ∃ Nx, Nx = strB b := ⟨_, rfl⟩
      rw [← hFr] at hx1 ⊢
      rw [← hNx] at hx2 ⊢
      have hk1 : (k : Int) + 1 ≤ s.size := by omega
      have hk2 : (k : Int) ≤ s.size := by omega
      have hk3 : ((k : Int) + 1).toNat = k + 1 := by omega
      have hk4 : IntKind.i64.wrap ((k : Int) + 1) = (k : Int) + 1 := IntWalk.i64_in _ (by constructor <;> omega)
      have hk5 : (0 : Int) ≤ (k : Int) + 1 := by omega
      have HX2 := hid2 hx2
      clear hl hm hb hsz hk hFr hNx
      go_enter Tryd.func26, Tryd.ntmps26
      go_wp2_with (first
        | (go_at_call 9; refine (hmc _).mono ?_; rintro e w2 ⟨rfl, hb⟩)
        | (go_at_call 27; refine (hlc _).mono ?_; rintro e w2 ⟨rfl, rfl⟩))
      go_quiet (fail)
      go_wp2_with fail
      go_ret2
      exact ⟨rfl, below_drewN hb _⟩
  · have hm' : mayB l = false := by simpa using hm
    have hmc := fun w => may_of w s l hs hl hm'
    obtain ⟨e1, e2, _⟩ := noPath hm'
    rw [e1, e2]
    clear hl hm hm' e1 e2
    go_enter Tryd.func26, Tryd.ntmps26
    go_wp2_with (first
      | (go_at_call 9; refine (hmc _).mono ?_; rintro e w2 ⟨rfl, hb⟩))
    go_ret2
    exact ⟨rfl, hb⟩
end Go.Proofs.YtdhmebilloefjaaDoor
