/- The law ConfigSelects answers true for every input, with no condition: its row, and the card that ties the variables which the row lists. -/
import Derived.Test.YthefhfnmkjdekaaDoorVs4
import Derived.Test.YthefhfnmkjdekaaDoorLawVal
import Derived.Test.YthefhfnmkjdekaaDoorCards
import Derived.Test.YthefhfnmkjdekaaDoorTie
import Derived.Test.YthefhfnmkjdekaaDoorLaw0
import Derived.Test.YthefhfnmkjdekaaDoorLawCfg
import Derived.Test.YthefhfnmkjdekaaDoorLawVal
import Derived.LaidMore
import Derived.Lay
import Derived.SevenTiedAt
import Derived.Stop.Joined
namespace Go.Proofs.YthefhfnmkjdekaaDoor.configSelects
open Go.ChangeShapes Go.WideShapes Go.ChangeAt Go.RowKit Go.ChangeMaps
set_option maxRecDepth 100000 in
theorem lifted (os : Os) (started : os.Started) (H : Type) (enc : TypeId × Value → H) :
    ReturnsInHanded {} Tryd.checked os 5 .any (fun w args => (Rows.configSelectsSpec.pre enc Tryd.prog Tryd.f5 Rows.configSelectsRow.domain false w args ∧ laidMetH Tryd.prog Rows.configSelectsRow.laid w) ∧ sizedMet enc Tryd.prog Tryd.f5 (OpenSpec.ofChange Rows.configSelectsSpec) false w args)
      (Rows.configSelectsSpec.post enc Tryd.prog Tryd.f5 false true false false) := by
  refine returns_laid_shaped (C := Tryd.checked) (X := fun w _ => laidMetH Tryd.prog Rows.configSelectsRow.laid w) (fun _ _ _ hh h => h.of_heap hh) own_knob started (by kernel_rfl) Tryd.func5
    (ChangeSpec.witness_shaped (enc := enc) (C := Tryd.checked) (os := os) (X := fun w _ => laidMetH Tryd.prog Rows.configSelectsRow.laid w) false (World.laidAll Tryd.prog os Rows.configSelectsRow.laid) #[.slice none 0 0, .string ⟨#[]⟩, .agg #[.int .i64 0, .int .i64 0, .string ⟨#[]⟩, .slice none 0 0, .slice none 0 0]] 8 (World.laidAll_os _ _ _)
      (World.shaped_of_ZipB (by kernel_rfl) (by kernel_rfl)) (by kernel_rfl) (by kernel_rfl) (by kernel_rfl)
      (by rw [MakeChecks.laidMetH_plain _ _ _ (by kernel_rfl)]; exact laidMet_laidAll _ (by kernel_rfl) (by kernel_rfl))) ?_
  intro W base args ds gs before hval0 hW hsz hX hsh
  have hval : ∀ (j : Nat) t v, Tryd.f5.params[j]? = some t → args[j]? = some v → Value.okWide Tryd.prog W .any base t v := hval0
  have hW' := hW
  obtain ⟨p, q, hA0, hV, rfl, hfz, hnd⟩ := hW
  have hA : DataW.TrodAll enc Tryd.prog W 0 (fun _ => true) true Tryd.f5.params.toList args.toList ds p := hA0
  rw [Tryd.params5] at hA hval
  obtain ⟨rfl, rfl⟩ := trodVars_none hV
  obtain ⟨v0, vs0, d0, ds0, p0, q0, hargs0, rfl, rfl, h0, r0⟩ := trodAll_cons hA
  obtain ⟨v1, vs1, d1, ds1, p1, q1, hargs1, rfl, rfl, h1, r1⟩ := trodAll_cons r0
  obtain ⟨v2, vs2, d2, ds2, p2, q2, hargs2, rfl, rfl, h2, r2⟩ := trodAll_cons r1
  obtain ⟨rfl, rfl, rfl⟩ := trodAll_nil r2
  obtain rfl : args = #[v0, v1, v2] := by cases args; simp_all
  obtain ⟨s1, rfl, hd1, hp1, hs1⟩ := open_string Tryd.underlying9 (hval 1 9 v1 rfl rfl) h1
  obtain ⟨A0, c0, l0, rfl, hR0, hm0⟩ := open_sets h0 (hval 0 22 v0 rfl rfl)
  obtain ⟨x2, a2, rfl, hV2⟩ := open_value h2 (hval 2 40 v2 rfl rfl)
  refine (cfgselects_any W A0 c0 l0 hm0 hR0 s1 x2 a2 hV2 (maxl_of hsh)).mono fun e W2 ⟨he, hg⟩ => ?_
  subst he
  exact ⟨_, rfl, law_close (by kernel_rfl) (by kernel_rfl) (by first | rfl | kernel_rfl) Tryd.underlying4 rfl hW' rfl hg⟩
set_option maxRecDepth 100000 in
theorem over : Rows.configSelectsRow.holds Tryd.pinned (OpenSpec.ofChange Rows.configSelectsSpec) :=
  OpenClaim.holds_of_wide 5 Tryd.f5 rfl rfl rfl rfl rfl rfl rfl ⟨rfl, rfl, rfl, rfl, rfl⟩ rfl rfl rfl rfl rfl (by kernel_rfl) Tryd.func5 (by kernel_rfl)
    (of_decide_eq_true (by kernel_rfl)) (by unfold Func.isWrapper; first | (rw [if_pos (by decide +kernel)]; kernel_rfl) | (rw [if_neg (by decide +kernel)]; exact ⟨rfl, rfl⟩))
    (fun os started H enc _ => lifted os started H enc)
theorem plain (f : FuncId) (fn : Func) (hf : Tryd.pinned.checked.prog.funcNamed "bloomery/bloomerylaw14.ConfigSelects" = some f) (hfn : Tryd.pinned.checked.prog.funcs[f]? = some fn) :
    false = Tryd.pinned.checked.prog.looks [] ∧ ∀ (j : Nat) t, fn.params[j]? = some t → Tryd.pinned.checked.prog.wantsStandIn t = false := by
  obtain rfl : f = 5 := Option.some.inj ((show Tryd.prog.funcNamed "bloomery/bloomerylaw14.ConfigSelects" = some 5 by kernel_rfl).symm.trans hf) |>.symm
  obtain rfl : fn = Tryd.f5 := (Option.some.inj (Tryd.func5.symm.trans hfn)).symm
  refine ⟨by kernel_rfl, fun j t ht => ?_⟩
  rw [Tryd.params5] at ht
  have hm : t ∈ [22, 9, 40] := by simpa using Array.mem_of_getElem? ht
  have hall : ([22, 9, 40].all fun u => !Tryd.prog.wantsStandIn u) = true := by kernel_rfl
  exact (show Tryd.prog.wantsStandIn t = false by simpa using List.all_eq_true.1 hall t hm)
end Go.Proofs.YthefhfnmkjdekaaDoor.configSelects
namespace Go.Proofs.YthefhfnmkjdekaaDoor
theorem configSelects_proved : Rows.ConfigSelectsCardSaid :=
  Claim7.holds_tied_plain_at .later [] _ _ _ _ configSelects.over (fun _ h => by cases h) (by kernel_rfl) (fun _ h => by cases h) configSelects_row_tie rfl ⟨rfl, rfl⟩ (by kernel_rfl) rfl configSelects.plain (by kernel_rfl)
end Go.Proofs.YthefhfnmkjdekaaDoor
