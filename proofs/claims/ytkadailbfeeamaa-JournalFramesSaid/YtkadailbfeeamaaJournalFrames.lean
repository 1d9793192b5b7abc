/- The law JournalFrames answers true for every input, with no condition. -/
import Derived.Test.YtkadailbfeeamaaJour2
import Derived.Test.YtkadailbfeeamaaLaw
namespace Go.Proofs.Ytkadailbfeeamaa.journalFrames
open Go.ChangeShapes Go.WideShapes Go.ChangeAt Go.RowKit Go.ChangeMaps
set_option maxRecDepth 100000 in
theorem lifted (os : Os) (started : os.Started) (H : Type) (enc : TypeId × Value → H) :
    ReturnsInHanded {} Try.checked os 3 .any (Rows.journalFramesSpec.pre6 enc Try.prog Try.f3 Rows.journalFramesRow.domain false) (Rows.journalFramesSpec.post enc Try.prog Try.f3 false true false false) := by
  refine returnsInHanded_of_change_sized (C := Try.checked) own_knob started (by kernel_rfl) Try.func3
    (ChangeSpec.witness6 (enc := enc) (C := Try.checked) false ⟨#[], #[.string ⟨#[]⟩, .int .u8 0], []⟩ 80 (by kernel_rfl) (by kernel_rfl) (by kernel_rfl) (by kernel_rfl)) ?_
  intro W base args ds gs before hval0 hW _ hsz _
  have hval : ∀ (j : Nat) t v, Try.f3.params[j]? = some t → args[j]? = some v → Value.okWide Try.prog W .any base t v := hval0
  have hW' := hW
  obtain ⟨p, q, hA0, hV, rfl, hfz, hnd⟩ := hW
  have hA : DataW.TrodAll enc Try.prog W 0 (fun _ => true) true Try.f3.params.toList args.toList ds p := hA0
  rw [Try.params3] at hA hval hsz
  obtain ⟨rfl, rfl⟩ := trodVars_none hV
  obtain ⟨v0, vs0, d0, ds0, p0, q0, hargs0, rfl, rfl, h0, r0⟩ := trodAll_cons hA
  obtain ⟨v1, vs1, d1, ds1, p1, q1, hargs1, rfl, rfl, h1, r1⟩ := trodAll_cons r0
  obtain ⟨rfl, rfl, rfl⟩ := trodAll_nil r1
  obtain rfl : args = #[v0, v1] := by cases args; simp_all
  obtain ⟨s0, rfl, hd0, hp0, hs0⟩ := open_string Try.underlying9 (hval 0 9 v0 rfl rfl) h0
  obtain ⟨a1, rfl, hd1, hp1, w1⟩ := open_int Try.underlying5 (hval 1 5 v1 rfl rfl) h1
  have hx1 : 0 ≤ a1 ∧ a1 ≤ 255 := by simpa [Lit.wf, IntKind.min, IntKind.max, IntKind.signed, IntKind.bits] using w1
  obtain ⟨b1, hb1⟩ : ∃ b : Nat, a1 = (b : Int) := ⟨a1.toNat, by omega⟩
  subst hb1
  refine (jframes_any W s0 b1 (by omega)).mono fun e W2 ⟨he, hg⟩ => ?_
  subst he
  exact ⟨_, rfl, law_close (by kernel_rfl) (by kernel_rfl) (by first | rfl | kernel_rfl) Try.underlying4 rfl hW' rfl hg⟩
set_option maxRecDepth 100000 in
theorem over : Rows.journalFramesRow.holds Try.pinned (OpenSpec.ofChange Rows.journalFramesSpec) :=
  OpenClaim.holds_of_wide 3 Try.f3 rfl rfl rfl rfl rfl rfl rfl ⟨rfl, rfl, rfl, rfl, rfl⟩ rfl rfl rfl rfl rfl (by kernel_rfl) Try.func3 (by kernel_rfl)
    (of_decide_eq_true (by kernel_rfl)) (by unfold Func.isWrapper; first | (rw [if_pos (by decide +kernel)]; kernel_rfl) | (rw [if_neg (by decide +kernel)]; exact ⟨rfl, rfl⟩))
    (fun os started H enc _ => lifted os started H enc)
end Go.Proofs.Ytkadailbfeeamaa.journalFrames
namespace Go.Proofs.Ytkadailbfeeamaa
theorem journalFrames_proved : Rows.JournalFramesSaid := journalFrames.over
end Go.Proofs.Ytkadailbfeeamaa
