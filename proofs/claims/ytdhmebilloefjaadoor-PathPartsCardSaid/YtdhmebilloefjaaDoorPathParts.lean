/- The law PathParts answers true for every input, with no condition: its row, and the card that ties the variables which the row lists. -/
import Derived.Test.YtdhmebilloefjaaDoorPathL2
import Derived.Test.YtdhmebilloefjaaDoorCards
import Derived.Test.YtdhmebilloefjaaDoorTie
import Derived.Test.YtdhmebilloefjaaDoorLaw0
import Derived.LaidMore
import Derived.Lay
import Derived.SevenTiedAt
import Derived.Stop.Joined
namespace Go.Proofs.YtdhmebilloefjaaDoor.pathParts
open Go.ChangeShapes Go.WideShapes Go.ChangeAt Go.RowKit Go.ChangeMaps
set_option maxRecDepth 100000 in
theorem lifted (os : Os) (started : os.Started) (H : Type) (enc : TypeId × Value → H) :
    ReturnsInHanded {} Tryd.checked os 6 .any (fun w args => (Rows.pathPartsSpec.pre enc Tryd.prog Tryd.f6 Rows.pathPartsRow.domain false w args ∧ laidMetH Tryd.prog Rows.pathPartsRow.laid w) ∧ sizedMet enc Tryd.prog Tryd.f6 (OpenSpec.ofChange Rows.pathPartsSpec) false w args)
      (Rows.pathPartsSpec.post enc Tryd.prog Tryd.f6 false true false false) := by
  refine returnsInHanded_of_change_and (C := Tryd.checked) (X := fun w _ => laidMetH Tryd.prog Rows.pathPartsRow.laid w) (fun _ _ _ hh h => h.of_heap hh) own_knob started (by kernel_rfl) Tryd.func6
    (ChangeSpec.witness_shaped (enc := enc) (C := Tryd.checked) (os := os) (X := fun w _ => laidMetH Tryd.prog Rows.pathPartsRow.laid w) false (World.laidAll Tryd.prog os Rows.pathPartsRow.laid) #[.string ⟨#[]⟩] 8 (World.laidAll_os _ _ _)
      (World.shaped_of_ZipB (by kernel_rfl) (by kernel_rfl)) (by kernel_rfl) (by kernel_rfl) (by kernel_rfl)
      (by rw [MakeChecks.laidMetH_plain _ _ _ (by kernel_rfl)]; exact laidMet_laidAll _ (by kernel_rfl) (by kernel_rfl))) ?_
  intro W base args ds gs before hval0 hW _ _ _ hsz
  have hval : ∀ (j : Nat) t v, Tryd.f6.params[j]? = some t → args[j]? = some v → Value.okWide Tryd.prog W .any base t v := hval0
  have hW' := hW
  obtain ⟨p, q, hA0, hV, rfl, hfz, hnd⟩ := hW
  have hA : DataW.TrodAll enc Tryd.prog W 0 (fun _ => true) true Tryd.f6.params.toList args.toList ds p := hA0
  rw [Tryd.params6] at hA hval
  obtain ⟨rfl, rfl⟩ := trodVars_none hV
  obtain ⟨v0, vs0, d0, ds0, p0, q0, hargs0, rfl, rfl, h0, r0⟩ := trodAll_cons hA
  obtain ⟨rfl, rfl, rfl⟩ := trodAll_nil r0
  obtain rfl : args = #[v0] := by cases args; simp_all
  obtain ⟨s0, rfl, hd0, hp0, hs0⟩ := open_string Tryd.underlying9 (hval 0 9 v0 rfl rfl) h0
  refine (lawParts_any W s0).mono fun e W2 ⟨he, hg⟩ => ?_
  subst he
  exact ⟨_, rfl, law_close (by kernel_rfl) (by kernel_rfl) (by first | rfl | kernel_rfl) Tryd.underlying4 rfl hW' rfl hg⟩
set_option maxRecDepth 100000 in
theorem over : Rows.pathPartsRow.holds Tryd.pinned (OpenSpec.ofChange Rows.pathPartsSpec) :=
  OpenClaim.holds_of_wide 6 Tryd.f6 rfl rfl rfl rfl rfl rfl rfl ⟨rfl, rfl, rfl, rfl, rfl⟩ rfl rfl rfl rfl rfl (by kernel_rfl) Tryd.func6 (by kernel_rfl)
    (of_decide_eq_true (by kernel_rfl)) (by unfold Func.isWrapper; first | (rw [if_pos (by decide +kernel)]; kernel_rfl) | (rw [if_neg (by decide +kernel)]; exact ⟨rfl, rfl⟩))
    (fun os started H enc _ => lifted os started H enc)
theorem plain (f : FuncId) (fn : Func) (hf : Tryd.pinned.checked.prog.funcNamed "bloomery/bloomerylaw03.PathParts" = some f) (hfn : Tryd.pinned.checked.prog.funcs[f]? = some fn) :
    false = Tryd.pinned.checked.prog.looks [] ∧ ∀ (j : Nat) t, fn.params[j]? = some t → Tryd.pinned.checked.prog.wantsStandIn t = false := by
  obtain rfl : f = 6 := Option.some.inj ((show Tryd.prog.funcNamed "bloomery/bloomerylaw03.PathParts" = some 6 by kernel_rfl).symm.trans hf) |>.symm
  obtain rfl : fn = Tryd.f6 := (Option.some.inj (Tryd.func6.symm.trans hfn)).symm
  refine ⟨by kernel_rfl, fun j t ht => ?_⟩
  rw [Tryd.params6] at ht
  have hm : t ∈ [9] := by simpa using Array.mem_of_getElem? ht
  have hall : ([9].all fun u => !Tryd.prog.wantsStandIn u) = true := by kernel_rfl
  exact (show Tryd.prog.wantsStandIn t = false by simpa using List.all_eq_true.1 hall t hm)
end Go.Proofs.YtdhmebilloefjaaDoor.pathParts
namespace Go.Proofs.YtdhmebilloefjaaDoor
theorem pathParts_proved : Rows.PathPartsCardSaid :=
  Claim7.holds_tied_plain_at .later [] _ _ _ _ pathParts.over (fun _ h => by cases h) (by kernel_rfl) (fun _ h => by cases h) pathParts_row_tie rfl ⟨rfl, rfl⟩ (by kernel_rfl) rfl pathParts.plain (by kernel_rfl)
end Go.Proofs.YtdhmebilloefjaaDoor
