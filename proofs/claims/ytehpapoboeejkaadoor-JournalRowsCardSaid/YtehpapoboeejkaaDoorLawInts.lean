/- A row of integers as an argument: opened. -/
import Derived.Test.YtehpapoboeejkaaDoorLaw0
import Derived.Test.YtehpapoboeejkaaDoorDisk3
import Derived.OpenShut
namespace Go.Proofs.YtehpapoboeejkaaDoor
open Go.ChangeShapes Go.WideShapes Go.ChangeAt Go.RowKit Go.Maps
set_option maxRecDepth 100000
variable {H : Type} {enc : TypeId × Value → H}
theorem open_picks {W : World} {b0 : Nat} {v : Value} {d : DataW H} {p : List MemPlace} (h : DataW.Trod enc Tryd.prog W 0 (fun _ => true) true 23 v d p) (hval : Value.okWide Tryd.prog W .any b0 23 v) :
    ∃ (A : Option Addr) (c : Nat) (ps : List Int), v = .slice A ps.length c ∧ Rd W 1 A ps.length (intV ps) ∧ ps.length ≤ c := by
  obtain ⟨fuel, hf⟩ := h
  have hv : v.cells.toList = [v] := by
    rcases okWide_slice Tryd.underlying23 hval with ⟨A, n, c, rfl⟩
    rfl
  rw [hv] at hf
  rcases open_ints Tryd.underlying23 Tryd.underlying3 (by kernel_rfl) hf with ⟨h1, _⟩ | ⟨a, len, cap, r, h1, _, hlc, _, hl, _, hcell, _⟩
  · exact ⟨none, 0, [], by simpa using h1, Rd.none_ _ _ _, Nat.le_refl _⟩
  · have hl' : r.length = cap := by simpa using hl
    have ht : (r.take len).length = len := by rw [List.length_take]; omega
    refine ⟨some a, cap, r.take len, by rw [ht]; simpa using h1, ⟨by simp [intV], fun h0 => ?_⟩, by omega⟩
    rw [ht] at h0
    obtain ⟨b, o, sp⟩ := a
    have h30 := hcell 0 (by omega)
    cases sp with
    | some x =>
      exfalso
      unfold World.cell? at h30
      split at h30
      · simp [Addr.add] at h30
      · cases h30
    | none =>
      refine ⟨b, o, rfl, fun j u hu => ?_⟩
      have hj : j < len := by
        rcases Nat.lt_or_ge j len with h | h
        · exact h
        · rw [List.getElem?_eq_none (by rw [intV, List.length_map]; omega)] at hu; cases hu
      have h := hcell j (by omega)
      rw [addr_add] at h
      rw [h, ← hu]
      rw [intV, List.getElem?_map, List.getElem?_take, if_pos hj, List.getD_eq_getElem?_getD, List.getElem?_eq_getElem (show j < r.length by omega)]
      rfl
end Go.Proofs.YtehpapoboeejkaaDoor
