/- A pair of numbers as an argument: opened. -/
import Derived.Test.YtccilmnlepekeaaLawGraph
namespace Go.Proofs.Ytccilmnlepekeaa
open Go.ChangeShapes Go.WideShapes Go.ChangeAt Go.RowKit
set_option maxRecDepth 100000
variable {H : Type} {enc : TypeId × Value → H}
theorem open_ends {W : World} {b0 : Nat} {v : Value} {d : DataW H} {p : List MemPlace} (h : DataW.Trod enc Try.prog W 0 (fun _ => true) true 33 v d p) (hval : Value.okWide Try.prog W .any b0 33 v) :
    ∃ a b : Int, v = .agg #[.int .i64 a, .int .i64 b] := by
  have hu : Try.prog.underlying 33 = some (.array 2 3) := Try.underlying33
  have hc : Try.prog.cellsOf 33 = 2 := by kernel_rfl
  have hcs : Try.prog.cellsOf 3 = 1 := by kernel_rfl
  unfold Value.okWide at hval
  rw [hu] at hval
  obtain ⟨cs, rfl, hsz, _⟩ := hval
  obtain ⟨fuel, hf⟩ := h
  obtain ⟨xs, m, rfl, hx, hlen, hxl, hel⟩ := DataW.trod_array hu hf
  rw [hc] at hsz
  have hcl : (Value.agg cs).cells = cs := rfl
  rw [hcl] at hel
  obtain ⟨l⟩ := cs
  match l, hsz, xs, hxl with
  | [v0, v1], _, [x0, x1], _ =>
    have h0 : DataW.trod enc Try.prog W 0 (fun _ => true) true m 3 ((List.drop (0 * Try.prog.cellsOf 3) [v0, v1]).take (Try.prog.cellsOf 3)) = some x0 := hel 0 (by decide)
    have h1 : DataW.trod enc Try.prog W 0 (fun _ => true) true m 3 ((List.drop (1 * Try.prog.cellsOf 3) [v0, v1]).take (Try.prog.cellsOf 3)) = some x1 := hel 1 (by decide)
    rw [hcs] at h0 h1
    obtain ⟨s0, e0, r0, _⟩ := DataW.trod_int Try.underlying3 (show DataW.trod enc Try.prog W 0 (fun _ => true) true m 3 [v0] = some x0 from h0)
    obtain ⟨s1, e1, r1, _⟩ := DataW.trod_int Try.underlying3 (show DataW.trod enc Try.prog W 0 (fun _ => true) true m 3 [v1] = some x1 from h1)
    obtain ⟨rfl⟩ := e0
    obtain ⟨rfl⟩ := e1
    exact ⟨s0, s1, rfl⟩
end Go.Proofs.Ytccilmnlepekeaa
