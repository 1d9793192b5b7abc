/- Rows of rows of texts as an argument: opened. -/
import Derived.Test.YtehpapoboeejkaaDoorLaw0
import Derived.Test.YtehpapoboeejkaaDoorLawInts
import Derived.Test.YtehpapoboeejkaaDoorRow3
import Derived.Deep.Slices
import Derived.Lib.LaidTab
import Derived.LaidMore
import Derived.Stop.Joined
import Derived.Stop.LaidErr
namespace Go.Proofs.YtehpapoboeejkaaDoor
open Go.ChangeShapes Go.WideShapes Go.ChangeAt Go.RowKit
set_option maxRecDepth 100000
variable {H : Type} {enc : TypeId × Value → H}
theorem open_strsR {W : World} {n : Nat} {v : Value} {x : DataW H × List MemPlace} (hf : DataW.trod enc Tryd.prog W 0 (fun _ => true) true n 28 [v] = some x) :
    ∃ y : TRow, v = .slice y.A y.l.length y.c ∧ Rd W 1 y.A y.l.length (strV y.l) ∧ y.l.length ≤ maxLen := by
  have h1 : Tryd.prog.cellsOf 9 = 1 := by kernel_rfl
  rcases Go.Deep.open_slice1 Tryd.underlying28 h1 hf with ⟨h1, _⟩ | ⟨a, len, cap, m, n', V, D, Pl, h1, _, hlc, hcm, hm, hx, hel⟩
  · exact ⟨⟨none, 0, []⟩, by simpa using h1, Rd.none_ _ _ _, by unfold maxLen; simp⟩
  · have hml : len ≤ m := by rw [hm]; split <;> omega
    have hch : ∀ i, i < len → ∃ s : Tq, W.cell? (a.add i) = some (.string (strB s)) := fun i hi => by
      obtain ⟨h2, h3⟩ := hel i (by omega)
      obtain ⟨s, e, _, _⟩ := DataW.trod_string Tryd.underlying9 h3
      exact ⟨s.data.toList, by rw [h2, (List.cons.inj e).1, strB_of]⟩
    obtain ⟨S, hS⟩ := Go.Deep.choose_lt (α := Tq) (p := fun i s => W.cell? (a.add i) = some (.string (strB s))) hch
    have hll : ((List.range len).map S).length = len := by simp
    refine ⟨⟨some a, cap, (List.range len).map S⟩, by simp only; rw [hll]; simpa using h1, ?_, by simp only; rw [hll]; omega⟩
    refine ⟨by rw [strV_length, Nat.mul_one], fun h0 => ?_⟩
    simp only at h0
    obtain ⟨b, o, sp⟩ := a
    have hc0 := hS 0 (by omega)
    cases sp with
    | some x =>
      exfalso
      rw [Addr.add] at hc0
      unfold World.cell? at hc0
      split at hc0
      · simp at hc0
      · simp at hc0
    | none =>
      refine ⟨b, o, rfl, fun j u hu => ?_⟩
      have hj : j < len := by
        have := (List.getElem?_eq_some_iff.1 hu).1
        simpa [strV] using this
      have h2 := hS j hj
      rw [addr_add] at h2
      rw [h2, ← hu, strV, List.getElem?_map, List.getElem?_map, List.getElem?_range hj]
      rfl
instance : Inhabited TRow := ⟨⟨none, 0, []⟩⟩
theorem open_trows {W : World} {b0 : Nat} {v : Value} {d : DataW H} {p : List MemPlace} (h : DataW.Trod enc Tryd.prog W 0 (fun _ => true) true 22 v d p) (hval : Value.okWide Tryd.prog W .any b0 22 v) :
    ∃ (A : Option Addr) (c : Nat) (X : List TRow), v = .slice A X.length c ∧ RowsRd W A X ∧ X.length ≤ maxLen := by
  obtain ⟨fuel, hf⟩ := h
  have hv : v.cells.toList = [v] := by
    rcases okWide_slice Tryd.underlying22 hval with ⟨A, n, c, rfl⟩
    rfl
  rw [hv] at hf
  have h1 : Tryd.prog.cellsOf 28 = 1 := by kernel_rfl
  rcases Go.Deep.open_slice1 Tryd.underlying22 h1 hf with ⟨h1, _⟩ | ⟨a, len, cap, m, n', V, D, Pl, h1, _, hlc, hcm, hm, hx, hel⟩
  · exact ⟨none, 0, [], by simpa using h1, ⟨Rd.none_ _ _ _, fun x hx => by cases hx⟩, by unfold maxLen; simp⟩
  · have hml : len ≤ m := by rw [hm]; split <;> omega
    have hch : ∀ i, i < len → ∃ y : TRow, W.cell? (a.add i) = some (.slice y.A y.l.length y.c) ∧ Rd W 1 y.A y.l.length (strV y.l) ∧ y.l.length ≤ maxLen := fun i hi => by
      obtain ⟨h2, h3⟩ := hel i (by omega)
      obtain ⟨y, e, e2, e3⟩ := open_strsR h3
      exact ⟨y, by rw [h2, e], e2, e3⟩
    obtain ⟨S, hS⟩ := Go.Deep.choose_lt (α := TRow) (p := fun i y => W.cell? (a.add i) = some (.slice y.A y.l.length y.c) ∧ Rd W 1 y.A y.l.length (strV y.l) ∧ y.l.length ≤ maxLen) hch
    have hll : ((List.range len).map S).length = len := by simp
    refine ⟨some a, cap, (List.range len).map S, by rw [hll]; simpa using h1, ⟨⟨by rw [rowsV, List.length_map, Nat.mul_one], fun h0 => ?_⟩, fun x hx => ?_⟩, by rw [hll]; omega⟩
    · rw [hll] at h0
      obtain ⟨b, o, sp⟩ := a
      have hc0 := (hS 0 (by omega)).1
      cases sp with
      | some x =>
        exfalso
        rw [Addr.add] at hc0
        unfold World.cell? at hc0
        split at hc0
        · simp at hc0
        · simp at hc0
      | none =>
        refine ⟨b, o, rfl, fun j u hu => ?_⟩
        have hj : j < len := by
          have := (List.getElem?_eq_some_iff.1 hu).1
          simpa [rowsV] using this
        have h2 := (hS j hj).1
        rw [addr_add] at h2
        rw [h2, ← hu, rowsV, List.getElem?_map, List.getElem?_map, List.getElem?_range hj]
        rfl
    · obtain ⟨i, hi, rfl⟩ := List.mem_map.1 hx
      exact (hS i (by simpa using hi)).2
theorem tabs_of {W : World} {a b : String × DataW Unit} (h : laidMet Tryd.prog [a, b, ("internal/strconv.uint64pow10", Lib.tabData .u64 Lib.pow10Tab)] W) : Tabs W := by
  have h3 := h.tail.tail
  refine Lib.tabBelow_of_tabIs ?_
  exact Lib.tabIs_of_head (g := 0) (t := 112) (e := 95) (n := 20) (by kernel_rfl) (by kernel_rfl) Tryd.underlying112 Tryd.underlying95 (by kernel_rfl) (by kernel_rfl) h3
end Go.Proofs.YtehpapoboeejkaaDoor
