/- Rows of settings as an argument: opened. -/
import Derived.Test.YthefhfnmkjdekaaDoorCardS
import Derived.Test.YthefhfnmkjdekaaDoorCf11
import Derived.Deep.Slices
import Derived.LaidMore
import Derived.Stop.Joined
namespace Go.Proofs.YthefhfnmkjdekaaDoor
open Go.ChangeShapes Go.WideShapes Go.ChangeAt Go.RowKit
set_option maxRecDepth 100000
variable {H : Type} {enc : TypeId × Value → H}
theorem open_setting {W : World} {sp : Nat → Bool} {n : Nat} {cs : List Value} {x : DataW H × List MemPlace} (h : DataW.trod enc Tryd.prog W 0 sp true n 31 cs = some x) : ∃ p : SetE, cs = [.string (strB p.1), .string (strB p.2)] := by
  obtain ⟨xs, m, rfl, rfl, hlen, hxl, hf⟩ := DataW.trod_struct Tryd.underlying31 h
  have h2 : Tryd.prog.cellsOf 31 = 2 := by kernel_rfl
  have hc : Tryd.prog.cellsOf 9 = 1 := by kernel_rfl
  rw [h2] at hlen
  obtain ⟨v0, v1, rfl⟩ : ∃ v0 v1, cs = [v0, v1] := by
    match cs, hlen with
    | [v0, v1], _ => exact ⟨v0, v1, rfl⟩
  obtain ⟨x0, x1, rfl⟩ : ∃ x0 x1, xs = [x0, x1] := by
    match xs, hxl with
    | [x0, x1], _ => exact ⟨x0, x1, rfl⟩
  have h0 : DataW.trod enc Tryd.prog W 0 sp true m 9 ((List.drop 0 [v0, v1]).take (Tryd.prog.cellsOf 9)) = some x0 := hf 0 _ rfl
  have h1 : DataW.trod enc Tryd.prog W 0 sp true m 9 ((List.drop 1 [v0, v1]).take (Tryd.prog.cellsOf 9)) = some x1 := hf 1 _ rfl
  rw [hc] at h0 h1
  obtain ⟨s0, e0, r0, _⟩ := DataW.trod_string Tryd.underlying9 (show DataW.trod enc Tryd.prog W 0 sp true m 9 [v0] = some x0 from h0)
  obtain ⟨s1, e1, r1, _⟩ := DataW.trod_string Tryd.underlying9 (show DataW.trod enc Tryd.prog W 0 sp true m 9 [v1] = some x1 from h1)
  obtain ⟨rfl⟩ := e0
  obtain ⟨rfl⟩ := e1
  exact ⟨(s0.data.toList, s1.data.toList), by rw [strB_of, strB_of]⟩
theorem setsV_at : ∀ {l : List SetE} (j : Nat) (u : Value), (setsV l)[j]? = some u → ∃ i p r, l[i]? = some p ∧ ([Value.string (strB p.1), .string (strB p.2)] : List Value)[r]? = some u ∧ j = i * 2 + r
  | [], j, u, h => by simp [setsV] at h
  | x :: q, j, u, h => by
    rw [setsV, List.flatMap_cons] at h
    rcases Nat.lt_or_ge j 2 with hj | hj
    · rw [List.getElem?_append_left (by simpa using hj)] at h
      exact ⟨0, x, j, rfl, h, by omega⟩
    · rw [List.getElem?_append_right (by simpa using hj)] at h
      obtain ⟨i, a, r, h1, h2, h3⟩ := setsV_at (l := q) _ u h
      exact ⟨i + 1, a, r, by simpa using h1, h2, by simp at h3; omega⟩
theorem open_setsT {W : World} {n : Nat} {v : Value} {x : DataW H × List MemPlace} (hf : DataW.trod enc Tryd.prog W 0 (fun _ => true) true n 22 [v] = some x) :
    ∃ (A : Option Addr) (c : Nat) (l : List SetE), v = .slice A l.length c ∧ Rd W 2 A l.length (setsV l) ∧ l.length ≤ maxLen := by
  have h2 : Tryd.prog.cellsOf 31 = 2 := by kernel_rfl
  rcases Go.Deep.open_slice Tryd.underlying22 hf with ⟨h1, _⟩ | ⟨a, len, cap, m, n', D, Pl, h1, _, hlc, hcm, hm, hx, hel⟩
  · exact ⟨none, 0, [], by simpa using h1, Rd.none_ _ _ _, by unfold maxLen; simp⟩
  · have hml : len ≤ m := by rw [hm]; split <;> omega
    have hch : ∀ i, i < len → ∃ e : SetE, W.cells? 0 (a.add (i * 2)) 2 = some [.string (strB e.1), .string (strB e.2)] := fun i hi => by
      obtain ⟨cs, hc, ht⟩ := hel i (by omega)
      obtain ⟨e, rfl⟩ := open_setting ht
      rw [h2] at hc
      exact ⟨e, hc⟩
    obtain ⟨V, hV⟩ := Go.Deep.choose_lt (α := SetE) (p := fun i e => W.cells? 0 (a.add (i * 2)) 2 = some [.string (strB e.1), .string (strB e.2)]) hch
    have hll : ((List.range len).map V).length = len := by simp
    have hget : ∀ i e, ((List.range len).map V)[i]? = some e → i < len ∧ e = V i := fun i e h => by
      rw [List.getElem?_map] at h
      obtain ⟨q, hq, rfl⟩ := Option.map_eq_some_iff.1 h
      obtain ⟨hi, hqi⟩ := List.getElem?_eq_some_iff.1 hq
      rw [List.getElem_range] at hqi
      subst hqi
      exact ⟨by simpa using hi, rfl⟩
    refine ⟨some a, cap, (List.range len).map V, by rw [hll]; simpa using h1, ?_, by rw [hll]; omega⟩
    refine ⟨setsV_length _, fun h0 => ?_⟩
    obtain ⟨b, o, sp⟩ := a
    have hc0 := (World.cells?_some (hV 0 (by omega))).2.2 0 (by omega)
    cases sp with
    | some x =>
      exfalso
      rw [Addr.add, Addr.add] at hc0
      unfold World.cell? at hc0
      split at hc0
      · simp at hc0
      · simp at hc0
    | none =>
      refine ⟨b, o, rfl, fun j u hu => ?_⟩
      obtain ⟨i, e, r, h1, h3, rfl⟩ := setsV_at j u hu
      obtain ⟨hi, rfl⟩ := hget i e h1
      have hr2 : r < 2 := by
        have := (List.getElem?_eq_some_iff.1 h3).1
        simpa using this
      have := (World.cells?_some (hV i hi)).2.2 r hr2
      rw [h3, addr_add, addr_add] at this
      rw [← this, Nat.add_assoc]
theorem open_sets {W : World} {b0 : Nat} {v : Value} {d : DataW H} {p : List MemPlace} (h : DataW.Trod enc Tryd.prog W 0 (fun _ => true) true 22 v d p) (hval : Value.okWide Tryd.prog W .any b0 22 v) :
    ∃ (A : Option Addr) (c : Nat) (l : List SetE), v = .slice A l.length c ∧ Rd W 2 A l.length (setsV l) ∧ l.length ≤ maxLen := by
  obtain ⟨fuel, hf⟩ := h
  obtain ⟨a, len, cap, rfl⟩ := okWide_slice Tryd.underlying22 hval
  exact open_setsT hf
theorem maxl_of {W : World} (h : W.ShapedOpen Tryd.prog) : MaxL W := Tryd.cfgSplit.s1_3 W h
end Go.Proofs.YthefhfnmkjdekaaDoor
