/- A pair of texts and a row of integers as arguments: opened. -/
import Derived.Test.YtbighckpogfcaaaLawActs
import Derived.OpenShut
namespace Go.Proofs.Ytbighckpogfcaaa
open Go.ChangeShapes Go.WideShapes Go.ChangeAt Go.RowKit Go.Maps
set_option maxRecDepth 100000
variable {H : Type} {enc : TypeId × Value → H}
theorem open_two {W : World} {b0 : Nat} {v : Value} {d : DataW H} {p : List MemPlace} (h : DataW.Trod enc Try.prog W 0 (fun _ => true) true 35 v d p) (hval : Value.okWide Try.prog W .any b0 35 v) :
    ∃ s0 s1 : ByteArray, v = .agg #[.string s0, .string s1] ∧ d = .agg [.lit (.string s0.data.toList), .lit (.string s1.data.toList)] := by
  have hu : Try.prog.underlying 35 = some (.array 2 9) := Try.underlying35
  have hc : Try.prog.cellsOf 35 = 2 := by kernel_rfl
  have hcs : Try.prog.cellsOf 9 = 1 := by kernel_rfl
  unfold Value.okWide at hval
  rw [hu] at hval
  obtain ⟨cs, rfl, hsz, _⟩ := hval
  obtain ⟨fuel, hf⟩ := h
  obtain ⟨xs, m, rfl, hx, hlen, hxl, hel⟩ := DataW.trod_array hu hf
  rw [hc] at hsz
  have hcl : (Value.agg cs).cells = cs := rfl
  rw [hcl] at hel
  obtain ⟨l⟩ := cs
  match l, hsz, xs, hxl with
  | [v0, v1], _, [x0, x1], _ =>
    have h0 : DataW.trod enc Try.prog W 0 (fun _ => true) true m 9 ((List.drop (0 * Try.prog.cellsOf 9) [v0, v1]).take (Try.prog.cellsOf 9)) = some x0 := hel 0 (by decide)
    have h1 : DataW.trod enc Try.prog W 0 (fun _ => true) true m 9 ((List.drop (1 * Try.prog.cellsOf 9) [v0, v1]).take (Try.prog.cellsOf 9)) = some x1 := hel 1 (by decide)
    rw [hcs] at h0 h1
    obtain ⟨s0, e0, r0, _⟩ := DataW.trod_string Try.underlying9 (show DataW.trod enc Try.prog W 0 (fun _ => true) true m 9 [v0] = some x0 from h0)
    obtain ⟨s1, e1, r1, _⟩ := DataW.trod_string Try.underlying9 (show DataW.trod enc Try.prog W 0 (fun _ => true) true m 9 [v1] = some x1 from h1)
    obtain ⟨rfl⟩ := e0
    obtain ⟨rfl⟩ := e1
    subst r0 r1
    exact ⟨s0, s1, rfl, congrArg Prod.fst hx⟩
theorem open_picks {W : World} {b0 : Nat} {v : Value} {d : DataW H} {p : List MemPlace} (h : DataW.Trod enc Try.prog W 0 (fun _ => true) true 36 v d p) (hval : Value.okWide Try.prog W .any b0 36 v) :
    ∃ (A : Option Addr) (c : Nat) (ps : List Int), v = .slice A ps.length c ∧ Rd W 1 A ps.length (intV ps) ∧ ps.length ≤ c := by
  obtain ⟨fuel, hf⟩ := h
  have hv : v.cells.toList = [v] := by
    rcases okWide_slice Try.underlying36 hval with ⟨A, n, c, rfl⟩
    rfl
  rw [hv] at hf
  rcases open_ints Try.underlying36 Try.underlying3 (by kernel_rfl) hf with ⟨h1, _⟩ | ⟨a, len, cap, r, h1, _, hlc, _, hl, _, hcell, _⟩
  · exact ⟨none, 0, [], by simpa using h1, Rd.none_ _ _ _, Nat.le_refl _⟩
  · have hl' : r.length = cap := by simpa using hl
    have ht : (r.take len).length = len := by rw [List.length_take]; omega
    refine ⟨some a, cap, r.take len, by rw [ht]; simpa using h1, ⟨by simp [intV], fun h0 => ?_⟩, by omega⟩
    rw [ht] at h0
    obtain ⟨b, o, sp⟩ := a
    have h30 := hcell 0 (by omega)
    cases sp with
    | some x =>
      exfalso
      unfold World.cell? at h30
      split at h30
      · simp [Addr.add] at h30
      · cases h30
    | none =>
      refine ⟨b, o, rfl, fun j u hu => ?_⟩
      have hj : j < len := by
        rcases Nat.lt_or_ge j len with h | h
        · exact h
        · rw [List.getElem?_eq_none (by rw [intV, List.length_map]; omega)] at hu; cases hu
      have h := hcell j (by omega)
      rw [addr_add] at h
      rw [h, ← hu]
      rw [intV, List.getElem?_map, List.getElem?_take, if_pos hj, List.getD_eq_getElem?_getD, List.getElem?_eq_getElem (show j < r.length by omega)]
      rfl
end Go.Proofs.Ytbighckpogfcaaa
