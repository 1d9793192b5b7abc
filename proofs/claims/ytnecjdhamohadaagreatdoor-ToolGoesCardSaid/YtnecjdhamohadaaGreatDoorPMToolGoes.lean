/- The law ToolGoes answers true for every input, with no condition: its row, and the card that ties the variables which the row lists. -/
import Derived.Test.YtnecjdhamohadaaGreatDoorPMRg15
import Derived.Test.YtnecjdhamohadaaGreatDoorCards
import Derived.Test.YtnecjdhamohadaaGreatDoorTie
import Derived.Test.YtnecjdhamohadaaGreatDoorPMu
import Derived.LaidMore
import Derived.Lay
import Derived.SevenTiedAt
import Derived.Stop.Joined
set_option linter.unusedSimpArgs false
set_option linter.unusedVariables false
namespace Go.Proofs.YtnecjdhamohadaaGreatDoor.toolGoes
open Go.ChangeShapes Go.WideShapes Go.ChangeAt Go.RowKit Go.ChangeMaps
set_option maxRecDepth 100000 in
theorem lifted (os : Os) (started : os.Started) (H : Type) (enc : TypeId × Value → H) :
    ReturnsInHanded {} Tryz.checked os 3 .any (fun w args => (Rows.toolGoesSpec.pre enc Tryz.prog Tryz.f3 Rows.toolGoesRow.domain false w args ∧ laidMetH Tryz.prog Rows.toolGoesRow.laid w) ∧ sizedMet enc Tryz.prog Tryz.f3 (OpenSpec.ofChange Rows.toolGoesSpec) false w args)
      (Rows.toolGoesSpec.post enc Tryz.prog Tryz.f3 false true false false) := by
  refine returns_laid_shaped (C := Tryz.checked) (X := fun w _ => laidMetH Tryz.prog Rows.toolGoesRow.laid w) (fun _ _ _ hh h => h.of_heap hh) own_knob started (by kernel_rfl) Tryz.func3
    (ChangeSpec.witness_shaped (enc := enc) (C := Tryz.checked) (os := os) (X := fun w _ => laidMetH Tryz.prog Rows.toolGoesRow.laid w) false (World.laidAll Tryz.prog os Rows.toolGoesRow.laid) #[.string ⟨#[]⟩, .slice none 0 0, .slice none 0 0] 8 (World.laidAll_os _ _ _)
      (World.shaped_of_ZipB (by kernel_rfl) (by kernel_rfl)) (by kernel_rfl) (by kernel_rfl) (by kernel_rfl)
      (by rw [MakeChecks.laidMetH_plain _ _ _ (by kernel_rfl)]; exact laidMet_laidAll _ (by kernel_rfl) (by kernel_rfl))) ?_
  intro W base args ds gs before hval0 hW hsz hX hsh
  have hval : ∀ (j : Nat) t v, Tryz.f3.params[j]? = some t → args[j]? = some v → Value.okWide Tryz.prog W .any base t v := hval0
  have hW' := hW
  obtain ⟨p, q, hA0, hV, rfl, hfz, hnd⟩ := hW
  have hA : DataW.TrodAll enc Tryz.prog W 0 (fun _ => true) true Tryz.f3.params.toList args.toList ds p := hA0
  rw [Tryz.params3] at hA hval hsz
  obtain ⟨rfl, rfl⟩ := trodVars_none hV
  obtain ⟨v0, vs0, d0, ds0, p0, q0, hargs0, rfl, rfl, h0, r0⟩ := trodAll_cons hA
  obtain ⟨v1, vs1, d1, ds1, p1, q1, hargs1, rfl, rfl, h1, r1⟩ := trodAll_cons r0
  obtain ⟨v2, vs2, d2, ds2, p2, q2, hargs2, rfl, rfl, h2, r2⟩ := trodAll_cons r1
  obtain ⟨rfl, rfl, rfl⟩ := trodAll_nil r2
  obtain rfl : args = #[v0, v1, v2] := by cases args; simp_all
  obtain ⟨s0, rfl, hd0, hp0, hs0⟩ := open_string Tryz.underlying9 (hval 0 9 v0 rfl rfl) h0
  obtain ⟨A1, c1, l1, rfl, hR1, hD1⟩ := open_env h1 (hval 1 22 v1 rfl rfl)
  have hz1 := env_sized hsz (j := 1) rfl rfl hD1
  obtain ⟨A2, c2, l2, rfl, hR2, hD2⟩ := open_kn h2 (hval 2 23 v2 rfl rfl)
  have hz2 := kn_sized hsz (j := 2) rfl rfl hD2
  have hX2 := hX
  rw [MakeChecks.laidMetH_plain _ _ _ (by kernel_rfl)] at hX2
  have hl3 : Lib3 W := ⟨maxl_of hsh, tabs_ofT hX2⟩
  have cU : Calls Tryz.prog 3 #[.string s0, .slice A1 l1.length c1, .slice A2 l2.length c2] W fun e w' => e = .returned (.bool true) ∧ Below W.heap.size W w' := by
    have := goes_any W l1 l2 s0.data.toList hl3 hz1 hz2 A1 A2 c1 c2 hR1 hR2
    rwa [strB_of] at this
  refine cU.mono fun e W2 ⟨he, hg⟩ => ?_
  subst he
  exact ⟨_, rfl, law_close (by kernel_rfl) (by kernel_rfl) (by first | rfl | kernel_rfl) Tryz.underlying4 rfl hW' rfl hg⟩
set_option maxRecDepth 100000 in
theorem over : Rows.toolGoesRow.holds Tryz.pinned (OpenSpec.ofChange Rows.toolGoesSpec) :=
  OpenClaim.holds_of_wide 3 Tryz.f3 rfl rfl rfl rfl rfl rfl rfl ⟨rfl, rfl, rfl, rfl, rfl⟩ rfl rfl rfl rfl rfl (by kernel_rfl) Tryz.func3 (by kernel_rfl)
    (of_decide_eq_true (by kernel_rfl)) (by unfold Func.isWrapper; first | (rw [if_pos (by decide +kernel)]; kernel_rfl) | (rw [if_neg (by decide +kernel)]; exact ⟨rfl, rfl⟩))
    (fun os started H enc _ => lifted os started H enc)
theorem plain (f : FuncId) (fn : Func) (hf : Tryz.pinned.checked.prog.funcNamed "bloomery/bloomerylaw19.ToolGoes" = some f) (hfn : Tryz.pinned.checked.prog.funcs[f]? = some fn) :
    false = Tryz.pinned.checked.prog.looks [] ∧ ∀ (j : Nat) t, fn.params[j]? = some t → Tryz.pinned.checked.prog.wantsStandIn t = false := by
  obtain rfl : f = 3 := Option.some.inj ((show Tryz.prog.funcNamed "bloomery/bloomerylaw19.ToolGoes" = some 3 by kernel_rfl).symm.trans hf) |>.symm
  obtain rfl : fn = Tryz.f3 := (Option.some.inj (Tryz.func3.symm.trans hfn)).symm
  refine ⟨by kernel_rfl, fun j t ht => ?_⟩
  rw [Tryz.params3] at ht
  have hm : t ∈ [9, 9, 22, 23] := by simpa using Array.mem_of_getElem? ht
  have hall : ([9, 9, 22, 23].all fun u => !Tryz.prog.wantsStandIn u) = true := by kernel_rfl
  exact (show Tryz.prog.wantsStandIn t = false by simpa using List.all_eq_true.1 hall t hm)
end Go.Proofs.YtnecjdhamohadaaGreatDoor.toolGoes
namespace Go.Proofs.YtnecjdhamohadaaGreatDoor
theorem toolGoes_proved : Rows.ToolGoesCardSaid :=
  Claim7.holds_tied_plain_at .later [] _ _ _ _ toolGoes.over (fun _ h => by cases h) (by kernel_rfl) (fun _ h => by cases h) toolGoes_row_tie rfl ⟨rfl, rfl⟩ (by kernel_rfl) rfl toolGoes.plain (by kernel_rfl)
end Go.Proofs.YtnecjdhamohadaaGreatDoor
