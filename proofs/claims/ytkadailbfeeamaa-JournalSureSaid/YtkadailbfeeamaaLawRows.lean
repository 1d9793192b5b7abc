/- How a law's statement is closed: rows of texts whose room counts. -/
import Derived.Test.YtkadailbfeeamaaLaw
namespace Go.Proofs.Ytkadailbfeeamaa
open Go.ChangeShapes Go.WideShapes Go.ChangeAt Go.RowKit
set_option maxRecDepth 100000
variable {H : Type} {enc : TypeId × Value → H} {P : Program}
/-- a row of texts, opened: and its room -/
theorem open_rows {W : World} {b0 : Nat} {v : Value} {d : DataW H} {p : List MemPlace} (h : DataW.Trod enc Try.prog W 0 (fun _ => true) true 30 v d p) (hval : Value.okWide Try.prog W .any b0 30 v) :
    ∃ (A : Option Addr) (n c : Nat) (ps : List ByteArray), v = .slice A n c ∧ Rd W 1 A n (ps.map Value.string) ∧ (n = 0 ∨ ∃ el sp, d = .slice el sp ∧ n ≤ el.length) ∧ n ≤ c := by
  obtain ⟨fuel, hf⟩ := h
  have hv : v.cells.toList = [v] := by
    rcases okWide_slice Try.underlying30 hval with ⟨A, n, c, rfl⟩
    rfl
  rw [hv] at hf
  rcases open_strings Try.underlying30 Try.underlying9 (by kernel_rfl) hf with ⟨h1, h2⟩ | ⟨a, len, cap, ss, h1, _, hlc, hcm, hl, h2, h3, h4⟩
  · exact ⟨none, 0, 0, [], by simpa using h1, Rd.none_ _ _ _, .inl rfl, Nat.le_refl _⟩
  · have hl' : ss.length = cap := by simpa using hl
    refine ⟨some a, len, cap, ss.take len, by simpa using h1, ⟨by simp; omega, fun h0 => ?_⟩, .inr ⟨strs (ss.take len), strs (ss.drop len), congrArg Prod.fst h2, by simp [strs]; omega⟩, hlc⟩
    obtain ⟨b, o, sp⟩ := a
    have h30 := h3 0 (by omega)
    cases sp with
    | some x =>
      exfalso
      unfold World.cell? at h30
      split at h30
      · simp [Addr.add] at h30
      · cases h30
    | none =>
      refine ⟨b, o, rfl, fun j u hu => ?_⟩
      have hj : j < len := by
        rcases Nat.lt_or_ge j len with h | h
        · exact h
        · rw [List.getElem?_eq_none (by simp; omega)] at hu; cases hu
      have h := h3 j (by omega)
      rw [addr_add] at h
      rw [h, ← hu]
      rw [List.getElem?_map, List.getElem?_take, if_pos hj, List.getD_eq_getElem?_getD, List.getElem?_eq_getElem (show j < ss.length by omega)]
      rfl
end Go.Proofs.Ytkadailbfeeamaa
