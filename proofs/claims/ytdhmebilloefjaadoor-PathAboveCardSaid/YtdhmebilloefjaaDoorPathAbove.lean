/- The law PathAbove answers true for every input, with no condition: its row, and the card that ties the variables which the row lists. -/
import Derived.Test.YtdhmebilloefjaaDoorPathL3
import Derived.Test.YtdhmebilloefjaaDoorCards
import Derived.Test.YtdhmebilloefjaaDoorTie
import Derived.Test.YtdhmebilloefjaaDoorLaw0
import Derived.LaidMore
import Derived.Lay
import Derived.SevenTiedAt
import Derived.Stop.Joined
namespace Go.Proofs.YtdhmebilloefjaaDoor.pathAbove
open Go.ChangeShapes Go.WideShapes Go.ChangeAt Go.RowKit Go.ChangeMaps
set_option maxRecDepth 100000 in
theorem lifted (os : Os) (started : os.Started) (H : Type) (enc : TypeId × Value → H) :
    ReturnsInHanded {} Tryd.checked os 7 .any (fun w args => (Rows.pathAboveSpec.pre enc Tryd.prog Tryd.f7 Rows.pathAboveRow.domain false w args ∧ laidMetH Tryd.prog Rows.pathAboveRow.laid w) ∧ sizedMet enc Tryd.prog Tryd.f7 (OpenSpec.ofChange Rows.pathAboveSpec) false w args)
      (Rows.pathAboveSpec.post enc Tryd.prog Tryd.f7 false true false false) := by
  refine returnsInHanded_of_change_and (C := Tryd.checked) (X := fun w _ => laidMetH Tryd.prog Rows.pathAboveRow.laid w) (fun _ _ _ hh h => h.of_heap hh) own_knob started (by kernel_rfl) Tryd.func7
    (ChangeSpec.witness_shaped (enc := enc) (C := Tryd.checked) (os := os) (X := fun w _ => laidMetH Tryd.prog Rows.pathAboveRow.laid w) false (World.laidAll Tryd.prog os Rows.pathAboveRow.laid) #[.string ⟨#[]⟩, .string ⟨#[]⟩] 8 (World.laidAll_os _ _ _)
      (World.shaped_of_ZipB (by kernel_rfl) (by kernel_rfl)) (by kernel_rfl) (by kernel_rfl) (by kernel_rfl)
      (by rw [MakeChecks.laidMetH_plain _ _ _ (by kernel_rfl)]; exact laidMet_laidAll _ (by kernel_rfl) (by kernel_rfl))) ?_
  intro W base args ds gs before hval0 hW _ _ _ hsz
  have hval : ∀ (j : Nat) t v, Tryd.f7.params[j]? = some t → args[j]? = some v → Value.okWide Tryd.prog W .any base t v := hval0
  have hW' := hW
  obtain ⟨p, q, hA0, hV, rfl, hfz, hnd⟩ := hW
  have hA : DataW.TrodAll enc Tryd.prog W 0 (fun _ => true) true Tryd.f7.params.toList args.toList ds p := hA0
  rw [Tryd.params7] at hA hval
  obtain ⟨rfl, rfl⟩ := trodVars_none hV
  obtain ⟨v0, vs0, d0, ds0, p0, q0, hargs0, rfl, rfl, h0, r0⟩ := trodAll_cons hA
  obtain ⟨v1, vs1, d1, ds1, p1, q1, hargs1, rfl, rfl, h1, r1⟩ := trodAll_cons r0
  obtain ⟨rfl, rfl, rfl⟩ := trodAll_nil r1
  obtain rfl : args = #[v0, v1] := by cases args; simp_all
  obtain ⟨s0, rfl, hd0, hp0, hs0⟩ := open_string Tryd.underlying9 (hval 0 9 v0 rfl rfl) h0
  obtain ⟨s1, rfl, hd1, hp1, hs1⟩ := open_string Tryd.underlying9 (hval 1 9 v1 rfl rfl) h1
  refine (lawAbove_any W s0 s1).mono fun e W2 ⟨he, hg⟩ => ?_
  subst he
  exact ⟨_, rfl, law_close (by kernel_rfl) (by kernel_rfl) (by first | rfl | kernel_rfl) Tryd.underlying4 rfl hW' rfl hg⟩
set_option maxRecDepth 100000 in
theorem over : Rows.pathAboveRow.holds Tryd.pinned (OpenSpec.ofChange Rows.pathAboveSpec) :=
  OpenClaim.holds_of_wide 7 Tryd.f7 rfl rfl rfl rfl rfl rfl rfl ⟨rfl, rfl, rfl, rfl, rfl⟩ rfl rfl rfl rfl rfl (by kernel_rfl) Tryd.func7 (by kernel_rfl)
    (of_decide_eq_true (by kernel_rfl)) (by unfold Func.isWrapper; first | (rw [if_pos (by decide +kernel)]; kernel_rfl) | (rw [if_neg (by decide +kernel)]; exact ⟨rfl, rfl⟩))
    (fun os started H enc _ => lifted os started H enc)
theorem plain (f : FuncId) (fn : Func) (hf : Tryd.pinned.checked.prog.funcNamed "bloomery/bloomerylaw03.PathAbove" = some f) (hfn : Tryd.pinned.checked.prog.funcs[f]? = some fn) :
    false = Tryd.pinned.checked.prog.looks [] ∧ ∀ (j : Nat) t, fn.params[j]? = some t → Tryd.pinned.checked.prog.wantsStandIn t = false := by
  obtain rfl : f = 7 := Option.some.inj ((show Tryd.prog.funcNamed "bloomery/bloomerylaw03.PathAbove" = some 7 by kernel_rfl).symm.trans hf) |>.symm
  obtain rfl : fn = Tryd.f7 := (Option.some.inj (Tryd.func7.symm.trans hfn)).symm
  refine ⟨by kernel_rfl, fun j t ht => ?_⟩
  rw [Tryd.params7] at ht
  have hm : t ∈ [9, 9] := by simpa using Array.mem_of_getElem? ht
  have hall : ([9, 9].all fun u => !Tryd.prog.wantsStandIn u) = true := by kernel_rfl
  exact (show Tryd.prog.wantsStandIn t = false by simpa using List.all_eq_true.1 hall t hm)
end Go.Proofs.YtdhmebilloefjaaDoor.pathAbove
namespace Go.Proofs.YtdhmebilloefjaaDoor
theorem pathAbove_proved : Rows.PathAboveCardSaid :=
  Claim7.holds_tied_plain_at .later [] _ _ _ _ pathAbove.over (fun _ h => by cases h) (by kernel_rfl) (fun _ h => by cases h) pathAbove_row_tie rfl ⟨rfl, rfl⟩ (by kernel_rfl) rfl pathAbove.plain (by kernel_rfl)
end Go.Proofs.YtdhmebilloefjaaDoor
