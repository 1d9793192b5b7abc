/- The law CycleTrue answers true for every input, with no condition. -/
import Derived.Test.YtccilmnlepekeaaCyp6
import Derived.Test.YtccilmnlepekeaaLaw0
import Derived.Test.YtccilmnlepekeaaLawGraph
namespace Go.Proofs.Ytccilmnlepekeaa.cycleTrue
open Go.ChangeShapes Go.WideShapes Go.ChangeAt Go.RowKit Go.ChangeMaps
set_option maxRecDepth 100000 in
theorem lifted (os : Os) (started : os.Started) (H : Type) (enc : TypeId × Value → H) :
    ReturnsInHanded {} Try.checked os 4 .any (Rows.cycleTrueSpec.pre6 enc Try.prog Try.f4 Rows.cycleTrueRow.domain false) (Rows.cycleTrueSpec.post enc Try.prog Try.f4 false true false false) := by
  refine returnsInHanded_of_change_sized (C := Try.checked) own_knob started (by kernel_rfl) Try.func4
    (ChangeSpec.witness6 (enc := enc) (C := Try.checked) false ⟨#[], #[.slice none 0 0], []⟩ 80 (by kernel_rfl) (by kernel_rfl) (by kernel_rfl) (by kernel_rfl)) ?_
  intro W base args ds gs before hval0 hW _ hsz _
  have hval : ∀ (j : Nat) t v, Try.f4.params[j]? = some t → args[j]? = some v → Value.okWide Try.prog W .any base t v := hval0
  have hW' := hW
  obtain ⟨p, q, hA0, hV, rfl, hfz, hnd⟩ := hW
  have hA : DataW.TrodAll enc Try.prog W 0 (fun _ => true) true Try.f4.params.toList args.toList ds p := hA0
  rw [Try.params4] at hA hval hsz
  obtain ⟨rfl, rfl⟩ := trodVars_none hV
  obtain ⟨v0, vs0, d0, ds0, p0, q0, hargs0, rfl, rfl, h0, r0⟩ := trodAll_cons hA
  obtain ⟨rfl, rfl, rfl⟩ := trodAll_nil r0
  obtain rfl : args = #[v0] := by cases args; simp_all
  obtain ⟨A0, c0, G0, rfl, hr0, hn0⟩ := open_graph h0 (hval 0 22 v0 rfl rfl)
  have hz0 := graph_sized hsz (j := 0) rfl rfl hn0
  refine (cycleTrue_walk W A0 c0 G0 hr0 hz0.1 hz0.2).mono fun e W2 ⟨he, hg⟩ => ?_
  subst he
  exact ⟨_, rfl, law_close (by kernel_rfl) (by kernel_rfl) (by first | rfl | kernel_rfl) Try.underlying4 rfl hW' rfl hg⟩
set_option maxRecDepth 100000 in
theorem over : Rows.cycleTrueRow.holds Try.pinned (OpenSpec.ofChange Rows.cycleTrueSpec) :=
  OpenClaim.holds_of_wide 4 Try.f4 rfl rfl rfl rfl rfl rfl rfl ⟨rfl, rfl, rfl, rfl, rfl⟩ rfl rfl rfl rfl rfl (by kernel_rfl) Try.func4 (by kernel_rfl)
    (of_decide_eq_true (by kernel_rfl)) (by unfold Func.isWrapper; first | (rw [if_pos (by decide +kernel)]; kernel_rfl) | (rw [if_neg (by decide +kernel)]; exact ⟨rfl, rfl⟩))
    (fun os started H enc _ => lifted os started H enc)
end Go.Proofs.Ytccilmnlepekeaa.cycleTrue
namespace Go.Proofs.Ytccilmnlepekeaa
theorem cycleTrue_proved : Rows.CycleTrueSaid := cycleTrue.over
end Go.Proofs.Ytccilmnlepekeaa
