/- A value as an argument: opened. -/
import Derived.Test.YthefhfnmkjdekaaDoorLawCfg
import Derived.Test.YthefhfnmkjdekaaDoorVs1
namespace Go.Proofs.YthefhfnmkjdekaaDoor
open Go.ChangeShapes Go.WideShapes Go.ChangeAt Go.RowKit
set_option maxRecDepth 100000
variable {H : Type} {enc : TypeId × Value → H}
theorem open_strsV {W : World} {n : Nat} {v : Value} {x : DataW H × List MemPlace} (hf : DataW.trod enc Tryd.prog W 0 (fun _ => true) true n 38 [v] = some x) :
    ∃ (A : Option Addr) (c : Nat) (l : List Tx), v = .slice A l.length c ∧ Rd W 1 A l.length (strV l) ∧ l.length ≤ maxLen := by
  have h1 : Tryd.prog.cellsOf 9 = 1 := by kernel_rfl
  rcases Go.Deep.open_slice1 Tryd.underlying38 h1 hf with ⟨h1, _⟩ | ⟨a, len, cap, m, n', V, D, Pl, h1, _, hlc, hcm, hm, hx, hel⟩
  · exact ⟨none, 0, [], by simpa using h1, Rd.none_ _ _ _, by unfold maxLen; simp⟩
  · have hml : len ≤ m := by rw [hm]; split <;> omega
    have hch : ∀ i, i < len → ∃ s : Tx, W.cell? (a.add i) = some (.string (strB s)) := fun i hi => by
      obtain ⟨h2, h3⟩ := hel i (by omega)
      obtain ⟨s, e, _, _⟩ := DataW.trod_string Tryd.underlying9 h3
      exact ⟨s.data.toList, by rw [h2, (List.cons.inj e).1, strB_of]⟩
    obtain ⟨S, hS⟩ := Go.Deep.choose_lt (α := Tx) (p := fun i s => W.cell? (a.add i) = some (.string (strB s))) hch
    have hll : ((List.range len).map S).length = len := by simp
    refine ⟨some a, cap, (List.range len).map S, by rw [hll]; simpa using h1, ?_, by rw [hll]; omega⟩
    refine ⟨by rw [strV_length, Nat.mul_one], fun h0 => ?_⟩
    obtain ⟨b, o, sp⟩ := a
    have hc0 := hS 0 (by omega)
    cases sp with
    | some x =>
      exfalso
      rw [Addr.add] at hc0
      unfold World.cell? at hc0
      split at hc0
      · simp at hc0
      · simp at hc0
    | none =>
      refine ⟨b, o, rfl, fun j u hu => ?_⟩
      have hj : j < len := by
        have := (List.getElem?_eq_some_iff.1 hu).1
        simpa [strV] using this
      have h2 := hS j hj
      rw [addr_add] at h2
      rw [h2, ← hu, strV, List.getElem?_map, List.getElem?_map, List.getElem?_range hj]
      rfl
instance : Inhabited (VT × VA) := ⟨(.zero, ⟨none, none, 0, 0⟩)⟩
theorem vats_of {W : World} (P : Nat → VT × VA) (R : Nat → List Value) : ∀ (n k : Nat), (∀ i, k ≤ i → i < k + n → R i = (vV (P i).1 (P i).2).toList ∧ VAt W (P i).1 (P i).2) → VAts W ((List.range' k n).map fun i => (P i).1) ((List.range' k n).flatMap R)
  | 0, k, h => by
    rw [List.range'_zero, List.map_nil, VAts]
    trivial
  | n + 1, k, h => by
    rw [List.range'_succ, List.map_cons, List.flatMap_cons, VAts]
    obtain ⟨h1, h2⟩ := h k (Nat.le_refl _) (by omega)
    have hl : (R k).length = 5 := by rw [h1]; rfl
    refine ⟨⟨(P k).2, ?_, h2⟩, ?_⟩
    · rw [List.take_append_of_le_length (by omega), List.take_of_length_le (by omega), h1]
    · rw [List.drop_append_of_le_length (by omega), List.drop_of_length_le (by omega), List.nil_append]
      exact vats_of P R n (k + 1) fun i hi hi2 => h i (by omega) (by omega)
theorem flat5_len (R : Nat → List Value) : ∀ (n k : Nat), (∀ i, k ≤ i → i < k + n → (R i).length = 5) → ((List.range' k n).flatMap R).length = n * 5
  | 0, k, _ => by simp
  | n + 1, k, h => by
    rw [List.range'_succ, List.flatMap_cons, List.length_append, h k (Nat.le_refl _) (by omega), flat5_len R n (k + 1) fun i hi hi2 => h i (by omega) (by omega)]
    omega
theorem flat5_at (R : Nat → List Value) : ∀ (n k j : Nat) (u : Value), (∀ i, k ≤ i → i < k + n → (R i).length = 5) → ((List.range' k n).flatMap R)[j]? = some u → ∃ i r, i < n ∧ r < 5 ∧ j = i * 5 + r ∧ (R (k + i))[r]? = some u
  | 0, k, j, u, _, h => by simp at h
  | n + 1, k, j, u, hl, h => by
    rw [List.range'_succ, List.flatMap_cons] at h
    have h5 := hl k (Nat.le_refl _) (by omega)
    rcases Nat.lt_or_ge j 5 with hj | hj
    · rw [List.getElem?_append_left (by omega)] at h
      exact ⟨0, j, by omega, hj, by omega, h⟩
    · rw [List.getElem?_append_right (by omega), h5] at h
      obtain ⟨i, r, h1, h2, h3, h4⟩ := flat5_at R n (k + 1) (j - 5) u (fun i hi hi2 => hl i (by omega) (by omega)) h
      exact ⟨i + 1, r, by omega, h2, by omega, by rw [show k + (i + 1) = k + 1 + i by omega]; exact h4⟩
theorem open_valueT {W : World} : ∀ (n : Nat) {cs : List Value} {x : DataW H × List MemPlace}, DataW.trod enc Tryd.prog W 0 (fun _ => true) true n 40 cs = some x → ∃ (v : VT) (a : VA), cs = (vV v a).toList ∧ VAt W v a := by
  intro n
  induction n using Nat.strongRecOn with
  | _ n ih =>
  intro cs x h
  obtain ⟨xs, m, rfl, rfl, hlen, hxl, hf⟩ := DataW.trod_struct Tryd.underlying40 h
  have h5 : Tryd.prog.cellsOf 40 = 5 := by kernel_rfl
  rw [h5] at hlen
  obtain ⟨v0, v1, v2, v3, v4, rfl⟩ : ∃ v0 v1 v2 v3 v4, cs = [v0, v1, v2, v3, v4] := by
    match cs, hlen with
    | [v0, v1, v2, v3, v4], _ => exact ⟨v0, v1, v2, v3, v4, rfl⟩
  obtain ⟨x0, x1, x2, x3, x4, rfl⟩ : ∃ x0 x1 x2 x3 x4, xs = [x0, x1, x2, x3, x4] := by
    match xs, hxl with
    | [x0, x1, x2, x3, x4], _ => exact ⟨x0, x1, x2, x3, x4, rfl⟩
  have c0 : Tryd.prog.cellsOf 3 = 1 := by kernel_rfl
  have c1 : Tryd.prog.cellsOf 2 = 1 := by kernel_rfl
  have c2 : Tryd.prog.cellsOf 9 = 1 := by kernel_rfl
  have c3 : Tryd.prog.cellsOf 37 = 1 := by kernel_rfl
  have c4 : Tryd.prog.cellsOf 38 = 1 := by kernel_rfl
  have h0 : DataW.trod enc Tryd.prog W 0 (fun _ => true) true m 3 ((List.drop 0 [v0, v1, v2, v3, v4]).take (Tryd.prog.cellsOf 3)) = some x0 := hf 0 _ rfl
  have h1 : DataW.trod enc Tryd.prog W 0 (fun _ => true) true m 2 ((List.drop 1 [v0, v1, v2, v3, v4]).take (Tryd.prog.cellsOf 2)) = some x1 := hf 1 _ rfl
  have h2 : DataW.trod enc Tryd.prog W 0 (fun _ => true) true m 9 ((List.drop 2 [v0, v1, v2, v3, v4]).take (Tryd.prog.cellsOf 9)) = some x2 := hf 2 _ rfl
  have h3 : DataW.trod enc Tryd.prog W 0 (fun _ => true) true m 37 ((List.drop 3 [v0, v1, v2, v3, v4]).take (Tryd.prog.cellsOf 37)) = some x3 := hf 3 _ rfl
  have h4 : DataW.trod enc Tryd.prog W 0 (fun _ => true) true m 38 ((List.drop 4 [v0, v1, v2, v3, v4]).take (Tryd.prog.cellsOf 38)) = some x4 := hf 4 _ rfl
  rw [c0] at h0
  rw [c1] at h1
  rw [c2] at h2
  rw [c3] at h3
  rw [c4] at h4
  obtain ⟨k, e0, _, _⟩ := DataW.trod_int Tryd.underlying3 (show DataW.trod enc Tryd.prog W 0 (fun _ => true) true m 3 [v0] = some x0 from h0)
  obtain ⟨nn, e1, _, _⟩ := DataW.trod_int Tryd.underlying2 (show DataW.trod enc Tryd.prog W 0 (fun _ => true) true m 2 [v1] = some x1 from h1)
  obtain ⟨s, e2, _, _⟩ := DataW.trod_string Tryd.underlying9 (show DataW.trod enc Tryd.prog W 0 (fun _ => true) true m 9 [v2] = some x2 from h2)
  obtain ⟨AK, cK, ks, rfl, hK, hkl⟩ := open_strsV (show DataW.trod enc Tryd.prog W 0 (fun _ => true) true m 38 [v4] = some x4 from h4)
  obtain ⟨rfl⟩ := e0
  obtain ⟨rfl⟩ := e1
  obtain ⟨rfl⟩ := e2
  have h3 : DataW.trod enc Tryd.prog W 0 (fun _ => true) true m 37 [v3] = some x3 := h3
  suffices hL : ∃ (AL : Option Addr) (cL : Nat) (l : List VT) (rows : List Value), v3 = .slice AL l.length cL ∧ l.length ≤ maxLen ∧ Rd W 5 AL l.length rows ∧ VAts W l rows by
    obtain ⟨AL, cL, l, rows, rfl, hll, hr, hv⟩ := hL
    exact ⟨.mk k nn s.data.toList l ks, ⟨AL, AK, cL, cK⟩, by rw [vV, VT.s, strB_of]; rfl, by rw [VAt]; exact ⟨hK, hll, hkl, rows, hr, hv⟩⟩
  rcases DataW.trod_slice Tryd.underlying37 h3 with ⟨e3, _⟩ | ⟨a, len, cap, elems, rest, n', rfl, e3, rfl, _, hlc, hcm, hlen3, hel, _, _⟩
  · exact ⟨none, 0, [], [], by simpa using e3, by unfold maxLen; simp, Rd.none_ _ _ _, by rw [VAts]; trivial⟩
  · have hch : ∀ i, i < len → ∃ p : VT × VA, W.cells? 0 (a.add (i * 5)) 5 = some (vV p.1 p.2).toList ∧ VAt W p.1 p.2 := fun i hi => by
      have h6 := hel i hi
      rw [h5, List.getElem?_eq_getElem (by omega)] at h6
      obtain ⟨cs', h7, h8⟩ := Option.bind_eq_some_iff.1 h6
      obtain ⟨v, a', e, hv⟩ := ih n' (by omega) h8
      exact ⟨(v, a'), by rw [h7, e], hv⟩
    obtain ⟨P, hP⟩ := Go.Deep.choose_lt (α := VT × VA) (p := fun i p => W.cells? 0 (a.add (i * 5)) 5 = some (vV p.1 p.2).toList ∧ VAt W p.1 p.2) hch
    have hll : ((List.range' 0 len).map fun i => (P i).1).length = len := by simp
    have hR5 : ∀ i, 0 ≤ i → i < 0 + len → ((vV (P i).1 (P i).2).toList).length = 5 := fun i _ _ => rfl
    refine ⟨some a, cap, (List.range' 0 len).map fun i => (P i).1, (List.range' 0 len).flatMap fun i => (vV (P i).1 (P i).2).toList, by rw [hll]; simpa using e3, by rw [hll]; omega, ⟨?_, fun h0 => ?_⟩, vats_of P _ len 0 fun i _ hi => ⟨rfl, (hP i (by omega)).2⟩⟩
    · rw [hll]
      exact flat5_len _ len 0 hR5
    · rw [hll] at h0
      obtain ⟨b, o, sp⟩ := a
      have hc0 := (World.cells?_some (hP 0 (by omega)).1).2.2 0 (by omega)
      cases sp with
      | some x =>
        exfalso
        rw [show (vV (P 0).1 (P 0).2).toList[0]? = some (.int .i64 (P 0).1.k) from rfl, Addr.add, Addr.add] at hc0
        unfold World.cell? at hc0
        split at hc0
        · simp at hc0
        · simp at hc0
      | none =>
        refine ⟨b, o, rfl, fun j u hu => ?_⟩
        obtain ⟨i, r, h1, h2, rfl, h4⟩ := flat5_at _ len 0 j u hR5 hu
        rw [Nat.zero_add] at h4
        have := (World.cells?_some (hP i h1).1).2.2 r h2
        rw [h4, addr_add, addr_add] at this
        rw [← this, Nat.add_assoc]
theorem open_value {W : World} {b0 : Nat} {v : Value} {d : DataW H} {p : List MemPlace} (h : DataW.Trod enc Tryd.prog W 0 (fun _ => true) true 40 v d p) (hval : Value.okWide Tryd.prog W .any b0 40 v) :
    ∃ (x : VT) (a : VA), v = .agg (vV x a) ∧ VAt W x a := by
  obtain ⟨fuel, hf⟩ := h
  have hag : ∃ cs : Array Value, v = .agg cs := by
    unfold Value.okWide at hval
    rw [Tryd.underlying40] at hval
    obtain ⟨cs, rfl, _⟩ := hval
    exact ⟨cs, rfl⟩
  obtain ⟨cs, rfl⟩ := hag
  obtain ⟨x, a, e, hv⟩ := open_valueT fuel hf
  have hcc : (Value.agg cs).cells.toList = cs.toList := rfl
  exact ⟨x, a, congrArg Value.agg (Array.toList_inj.1 (hcc.symm.trans e)), hv⟩
end Go.Proofs.YthefhfnmkjdekaaDoor
