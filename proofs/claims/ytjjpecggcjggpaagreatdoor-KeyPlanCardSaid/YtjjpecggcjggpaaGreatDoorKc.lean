/- Rows of texts as bytes, and their one form, in plain: no program is named. -/
import Derived.Lib.ItoaNum
import Derived.Lib.SlicesCompact
set_option linter.unusedSimpArgs false
set_option linter.unusedVariables false
namespace Go.Proofs.YtjjpecggcjggpaaGreatDoor
open Go.Lib
/-! digits -/
def valL (l : List UInt8) : Nat := l.foldl (fun a d => 10 * a + (d.toNat - 48)) 0
theorem valL_snoc (l : List UInt8) (d : UInt8) : valL (l ++ [d]) = 10 * valL l + (d.toNat - 48) := by simp [valL, List.foldl_append]
theorem dig_toNat {n : Nat} (h : n < 10) : (UInt8.ofNat (48 + n)).toNat = 48 + n := by
  rw [UInt8.toNat_ofNat']
  omega
theorem val_dec : ∀ n : Nat, valL (decDigits n) = n := fun n => by
  induction n using Nat.strongRecOn with
  | _ n ih =>
    rw [decDigits]
    split
    · rename_i h
      simp only [valL, List.foldl_cons, List.foldl_nil]
      rw [dig_toNat h]
      omega
    · rename_i h
      rw [valL_snoc, ih (n / 10) (by omega), dig_toNat (by omega)]
      omega
theorem dec_inj {a b : Nat} (h : decDigits a = decDigits b) : a = b := by rw [← val_dec a, ← val_dec b, h]
theorem dec_mem : ∀ (n : Nat) (d : UInt8), d ∈ decDigits n → d ≠ 58 := fun n => by
  induction n using Nat.strongRecOn with
  | _ n ih =>
    intro d hd
    rw [decDigits] at hd
    split at hd
    · rename_i h
      rw [List.mem_singleton] at hd
      subst hd
      intro e
      have := congrArg UInt8.toNat e
      rw [dig_toNat h] at this
      have h58 : (58 : UInt8).toNat = 58 := rfl
      omega
    · rename_i h
      rw [List.mem_append, List.mem_singleton] at hd
      rcases hd with hd | hd
      · exact ih (n / 10) (by omega) d hd
      · subst hd
        intro e
        have := congrArg UInt8.toNat e
        rw [dig_toNat (by omega)] at this
        have h58 : (58 : UInt8).toNat = 58 := rfl
        omega
theorem dec_pos (n : Nat) : 0 < (decDigits n).length := by
  rw [decDigits]
  split <;> simp
theorem dec_len : ∀ (k n : Nat), n < 10 ^ (k + 1) → (decDigits n).length ≤ k + 1
  | 0, n, h => by
    rw [decDigits, dif_pos (by omega)]
    simp
  | k + 1, n, h => by
    rw [decDigits]
    split
    · simp
    · have := dec_len k (n / 10) (by rw [Nat.pow_succ] at h; omega)
      rw [List.length_append]
      simp only [List.length_cons, List.length_nil]
      omega
/-! a row of texts as bytes -/
def rowL (l : List (List UInt8)) : List UInt8 := l.flatMap fun s => decDigits s.length ++ 58 :: s
theorem rowL_nil : rowL [] = [] := rfl
theorem rowL_cons (s : List UInt8) (l : List (List UInt8)) : rowL (s :: l) = decDigits s.length ++ 58 :: (s ++ rowL l) := by simp [rowL]
theorem rowL_snoc (l : List (List UInt8)) (s : List UInt8) : rowL (l ++ [s]) = rowL l ++ (decDigits s.length ++ 58 :: s) := by simp [rowL]
theorem split58 : ∀ {a b r t : List UInt8}, (∀ d ∈ a, d ≠ 58) → (∀ d ∈ b, d ≠ 58) → a ++ 58 :: r = b ++ 58 :: t → a = b ∧ r = t
  | [], [], r, t, _, _, h => ⟨rfl, by simpa using h⟩
  | [], y :: b, r, t, _, hb, h => by
    rw [List.nil_append, List.cons_append] at h
    injection h with h1 _
    exact absurd h1.symm (hb y (by simp))
  | x :: a, [], r, t, ha, _, h => by
    rw [List.nil_append, List.cons_append] at h
    injection h with h1 _
    exact absurd h1 (ha x (by simp))
  | x :: a, y :: b, r, t, ha, hb, h => by
    rw [List.cons_append, List.cons_append] at h
    injection h with h1 h2
    obtain ⟨h3, h4⟩ := split58 (fun d hd => ha d (by simp [hd])) (fun d hd => hb d (by simp [hd])) h2
    exact ⟨by rw [h1, h3], h4⟩
theorem rowL_inj : ∀ {a b : List (List UInt8)}, rowL a = rowL b → a = b
  | [], [], _ => rfl
  | [], t :: b, h => by
    have := congrArg List.length h
    rw [rowL_cons, rowL_nil] at this
    simp at this
  | s :: a, [], h => by
    have := congrArg List.length h
    rw [rowL_cons, rowL_nil] at this
    simp at this
  | s :: a, t :: b, h => by
    rw [rowL_cons, rowL_cons] at h
    obtain ⟨h1, h2⟩ := split58 (dec_mem _) (dec_mem _) h
    have hl := dec_inj h1
    obtain ⟨h3, h4⟩ := List.append_inj h2 hl
    rw [h3, rowL_inj h4]
/-! a set of texts: rising, each once -/
theorem tx_le_of_lt {a b : List UInt8} (h : a < b) : a ≤ b := List.le_of_lt h
theorem tx_lt_of {a b : List UInt8} (h : a ≤ b) (hne : a ≠ b) : a < b := by
  rcases List.le_iff_lt_or_eq.1 h with h | h
  · exact h
  · exact absurd h hne
def IsSet (l m : List (List UInt8)) : Prop := m.Pairwise (· < ·) ∧ ∀ x, x ∈ m ↔ x ∈ l
theorem riseT_eq : ∀ {l m : List (List UInt8)}, l.Pairwise (· < ·) → m.Pairwise (· < ·) → (∀ x, x ∈ l ↔ x ∈ m) → l = m
  | [], [], _, _, _ => rfl
  | [], b :: m, _, _, h => by have := (h b).2 (by simp); simp at this
  | a :: l, [], _, _, h => by have := (h a).1 (by simp); simp at this
  | a :: l, b :: m, h1, h2, h => by
    obtain ⟨ha, k1⟩ := List.pairwise_cons.1 h1
    obtain ⟨hb, k2⟩ := List.pairwise_cons.1 h2
    have e : a = b := by
      have x := (h a).1 (by simp)
      have y := (h b).2 (by simp)
      rcases List.mem_cons.1 x with x | x
      · exact x
      · rcases List.mem_cons.1 y with y | y
        · exact y.symm
        · exact absurd (ha b y) (List.lt_asymm (hb a x))
    subst e
    have hm : ∀ x, x ∈ l ↔ x ∈ m := by
      intro x
      constructor
      · intro hx
        rcases List.mem_cons.1 ((h x).1 (List.mem_cons_of_mem _ hx)) with e | e
        · subst e; exact absurd (ha x hx) (List.lt_irrefl x)
        · exact e
      · intro hx
        rcases List.mem_cons.1 ((h x).2 (List.mem_cons_of_mem _ hx)) with e | e
        · subst e; exact absurd (hb x hx) (List.lt_irrefl x)
        · exact e
    rw [riseT_eq k1 k2 hm]
theorem IsSet.one {l m m' : List (List UInt8)} (h : IsSet l m) (h' : IsSet l m') : m = m' := riseT_eq h.1 h'.1 fun x => (h.2 x).trans (h'.2 x).symm
theorem IsSet.of_mem {l l' m : List (List UInt8)} (h : IsSet l m) (he : ∀ x, x ∈ l ↔ x ∈ l') : IsSet l' m := ⟨h.1, fun x => (h.2 x).trans (he x)⟩
theorem compactT_rise {ys : List (List UInt8)} (h : ys.Pairwise (· ≤ ·)) : ∀ m, m ≤ ys.length → (compactUpTo ys.toArray m).Pairwise (· < ·) ∧ ∀ x, x ∈ compactUpTo ys.toArray m ↔ x ∈ ys.take m
  | 0, _ => by simp [compactUpTo]
  | m + 1, hm => by
    obtain ⟨h1, h2⟩ := compactT_rise h m (by omega)
    rw [compactUpTo_succ]
    have hd : ys.toArray[m]! = ys[m] := by simp [getElem!_pos, show m < ys.length by omega]
    have htk : ys.take (m + 1) = ys.take m ++ [ys[m]] := by rw [List.take_add_one, List.getElem?_eq_getElem (by omega)]; rfl
    rw [htk, hd]
    have hp := List.pairwise_iff_getElem.1 h
    by_cases hk : keeps ys.toArray m = true
    · rw [if_pos hk]
      refine ⟨List.pairwise_append.2 ⟨h1, by simp, fun a ha b hb => ?_⟩, fun x => by simp only [List.mem_append, List.mem_singleton, h2 x]⟩
      have := (h2 a).1 ha
      simp only [List.mem_singleton] at hb
      subst hb
      obtain ⟨j, hj, rfl⟩ := List.mem_iff_getElem.1 this
      rw [List.length_take] at hj
      rw [List.getElem_take]
      simp only [keeps, decide_eq_true_eq] at hk
      rcases hk with hk | hk
      · omega
      · have e : ys.toArray[m - 1]! = ys[m - 1] := by simp [getElem!_pos, show m - 1 < ys.length by omega]
        rw [hd, e] at hk
        have q1 := tx_lt_of (hp (m - 1) m (by omega) (by omega) (by omega)) (fun e => hk e.symm)
        rcases Nat.lt_or_ge j (m - 1) with hlt | hge
        · have q2 := hp j (m - 1) (by omega) (by omega) hlt
          exact tx_lt_of (List.le_trans q2 (List.le_of_lt q1)) (fun e2 => by rw [e2] at q2; exact absurd q1 (List.not_lt.2 q2))
        · obtain rfl : j = m - 1 := by omega
          exact q1
    · rw [if_neg hk]
      simp only [keeps, decide_eq_true_eq, not_or] at hk
      obtain ⟨hm0, hk⟩ := hk
      have e : ys.toArray[m - 1]! = ys[m - 1] := by simp [getElem!_pos, show m - 1 < ys.length by omega]
      have he : ys[m] = ys[m - 1] := by
        rw [hd, e] at hk
        exact Classical.not_not.1 hk
      have hmem : ys[m] ∈ ys.take m := by
        rw [he]
        exact List.mem_iff_getElem.2 ⟨m - 1, by rw [List.length_take]; omega, by rw [List.getElem_take]⟩
      refine ⟨by simpa using h1, fun x => ?_⟩
      simp only [List.append_nil, List.mem_append, List.mem_singleton]
      rw [h2 x]
      exact ⟨fun hx => .inl hx, fun hx => hx.elim id fun e => by rw [e]; exact hmem⟩
def sortT (l : List (List UInt8)) : List (List UInt8) := l.mergeSort fun x y => decide (x ≤ y)
theorem sortT_le (l : List (List UInt8)) : (sortT l).Pairwise (· ≤ ·) := by
  have := List.pairwise_mergeSort (le := fun x y : List UInt8 => decide (x ≤ y)) (fun a b c h1 h2 => by simp only [decide_eq_true_eq] at *; exact List.le_trans h1 h2) (fun a b => by simp only [Bool.or_eq_true, decide_eq_true_eq]; exact List.le_total a b) l
  exact this.imp fun h => by simpa using h
theorem sortT_mem (l : List (List UInt8)) (x : List UInt8) : x ∈ sortT l ↔ x ∈ l := List.mem_mergeSort
theorem sortT_length (l : List (List UInt8)) : (sortT l).length = l.length := List.length_mergeSort l
/-- the set of a row's texts -/
def setL (l : List (List UInt8)) : List (List UInt8) := compact (sortT l)
theorem setL_is (l : List (List UInt8)) : IsSet l (setL l) := by
  obtain ⟨h1, h2⟩ := compactT_rise (sortT_le l) (sortT l).length (Nat.le_refl _)
  refine ⟨h1, fun x => ?_⟩
  rw [setL, compact, h2 x, List.take_length, sortT_mem]
theorem compactT_len (ys : List (List UInt8)) : (compact ys).length ≤ ys.length := by
  rw [compact, compactUpTo, List.length_map]
  exact Nat.le_trans (List.length_filter_le _ _) (by simp)
theorem setL_len (l : List (List UInt8)) : (setL l).length ≤ l.length := by
  have := compactT_len (sortT l)
  rw [sortT_length] at this
  exact this
theorem setL_of_mem {l l' : List (List UInt8)} (h : ∀ x, x ∈ l ↔ x ∈ l') : setL l = setL l' := ((setL_is l).of_mem h).one (setL_is l')
/-! settings -/
abbrev SetE := List UInt8 × List UInt8
/-- the first one's value -/
def valOf (l : List SetE) (n : List UInt8) : List UInt8 := ((l.find? fun p => p.1 == n).map (·.2)).getD []
def envL (l : List SetE) : List (List UInt8) := (setL (l.map (·.1))).flatMap fun n => [n, valOf l n]
/-- an action: tool, env, ins, asks, outs -/
structure ActK where
  tool : List UInt8
  env : List SetE
  ins : List (List UInt8)
  asks : List (List UInt8)
  outs : List (List UInt8)
def partsK (a : ActK) : List (List (List UInt8)) := [envL a.env, setL a.ins, setL a.asks, setL a.outs]
def textK (a : ActK) : List UInt8 := rowL (a.tool :: (partsK a).map rowL)
theorem textK_inj {a b : ActK} : textK a = textK b ↔ a.tool = b.tool ∧ partsK a = partsK b := by
  constructor
  · intro h
    have := rowL_inj h
    injection this with h1 h2
    refine ⟨h1, ?_⟩
    simp only [partsK, List.map_cons, List.map_nil, List.cons.injEq, and_true] at h2 ⊢
    exact ⟨rowL_inj h2.1, rowL_inj h2.2.1, rowL_inj h2.2.2.1, rowL_inj h2.2.2.2⟩
  · rintro ⟨h1, h2⟩
    rw [textK, textK, h1, h2]
end Go.Proofs.YtjjpecggcjggpaaGreatDoor
