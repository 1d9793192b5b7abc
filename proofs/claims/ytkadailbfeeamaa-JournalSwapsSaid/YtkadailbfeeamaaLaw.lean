/- How a law's statement is closed: rows of texts and digests as arguments. -/
import Derived.Test.YtkadailbfeeamaaLaw0
namespace Go.Proofs.Ytkadailbfeeamaa
open Go.ChangeShapes Go.WideShapes Go.ChangeAt Go.RowKit
set_option maxRecDepth 100000
variable {H : Type} {enc : TypeId × Value → H} {P : Program}
/-- a row of texts, opened -/
theorem open_parts {W : World} {b0 : Nat} {v : Value} {d : DataW H} {p : List MemPlace} (h : DataW.Trod enc Try.prog W 0 (fun _ => true) true 30 v d p) (hval : Value.okWide Try.prog W .any b0 30 v) :
    ∃ (A : Option Addr) (n c : Nat) (ps : List ByteArray), v = .slice A n c ∧ Rd W 1 A n (ps.map Value.string) ∧ (n = 0 ∨ ∃ el sp, d = .slice el sp ∧ n ≤ el.length) := by
  obtain ⟨fuel, hf⟩ := h
  have hv : v.cells.toList = [v] := by
    rcases okWide_slice Try.underlying30 hval with ⟨A, n, c, rfl⟩
    rfl
  rw [hv] at hf
  rcases open_strings Try.underlying30 Try.underlying9 (by kernel_rfl) hf with ⟨h1, h2⟩ | ⟨a, len, cap, ss, h1, _, hlc, hcm, hl, h2, h3, h4⟩
  · exact ⟨none, 0, 0, [], by simpa using h1, Rd.none_ _ _ _, .inl rfl⟩
  · have hl' : ss.length = cap := by simpa using hl
    refine ⟨some a, len, cap, ss.take len, by simpa using h1, ⟨by simp; omega, fun h0 => ?_⟩, .inr ⟨strs (ss.take len), strs (ss.drop len), congrArg Prod.fst h2, by simp [strs]; omega⟩⟩
    obtain ⟨b, o, sp⟩ := a
    have h30 := h3 0 (by omega)
    cases sp with
    | some x =>
      exfalso
      unfold World.cell? at h30
      split at h30
      · simp [Addr.add] at h30
      · cases h30
    | none =>
      refine ⟨b, o, rfl, fun j u hu => ?_⟩
      have hj : j < len := by
        rcases Nat.lt_or_ge j len with h | h
        · exact h
        · rw [List.getElem?_eq_none (by simp; omega)] at hu; cases hu
      have h := h3 j (by omega)
      rw [addr_add] at h
      rw [h, ← hu]
      rw [List.getElem?_map, List.getElem?_take, if_pos hj, List.getD_eq_getElem?_getD, List.getElem?_eq_getElem (show j < ss.length by omega)]
      rfl
/-- the byte in a cell -/
def byteIn : Value → UInt8
  | .int _ n => UInt8.ofNat n.toNat
  | _ => 0
/-- a digest, opened -/
theorem open_dig {W : World} {b0 : Nat} {v : Value} (hval : Value.okWide Try.prog W .any b0 34 v) : ∃ l : List UInt8, l.length = 32 ∧ v = .agg (u8s l).toArray := by
  have hu : Try.prog.underlying 34 = some (.array 32 5) := Try.underlying34
  have hc : Try.prog.cellsOf 34 = 32 := by kernel_rfl
  have hct : Try.prog.cellTypes Try.prog.depth 34 = some (List.replicate 32 5) := by kernel_rfl
  unfold Value.okWide at hval
  rw [hu] at hval
  obtain ⟨cs, rfl, hsz, ts, hts, _, hcell⟩ := hval
  rw [hct] at hts
  rw [hc] at hsz
  obtain rfl := (Option.some.inj hts).symm
  refine ⟨cs.toList.map byteIn, by simp [hsz], ?_⟩
  congr 1
  apply Array.ext'
  simp only [u8s, List.map_map]
  symm
  conv => rhs; rw [← List.map_id cs.toList]
  refine List.map_congr_left fun x hx => ?_
  obtain ⟨i, hi⟩ := List.getElem?_of_mem hx
  have hi32 : i < 32 := by
    have := (List.getElem?_eq_some_iff.1 hi).1
    simpa [hsz] using this
  obtain ⟨u, hu1, hu2⟩ := hcell i x (by rw [← Array.getElem?_toList]; exact hi)
  rw [List.length_replicate, List.getElem?_replicate, if_pos (Nat.mod_lt _ (by decide))] at hu1
  obtain rfl := Option.some.inj hu1
  have hv : Value.okWide Try.prog W .any b0 5 x := by
    unfold Value.okWide
    rw [show Try.prog.underlying 5 = some (.int .u8) from Try.underlying5]
    exact hu2
  obtain ⟨n, rfl⟩ := okWide_int Try.underlying5 hv
  have hr : 0 ≤ n ∧ n ≤ 255 := by
    unfold Cell.okWide at hu2
    rw [show Try.prog.underlying 5 = some (.int .u8) from Try.underlying5] at hu2
    simp [Cell.ok, show Try.prog.underlying 5 = some (.int .u8) from Try.underlying5, IntKind.has, show IntKind.u8.min = 0 by decide, show IntKind.u8.max = 255 by decide] at hu2
    exact hu2
  simp only [Function.comp_apply, byteIn, id_eq]
  congr 1
  rw [UInt8.toNat_ofNat']
  omega
end Go.Proofs.Ytkadailbfeeamaa
