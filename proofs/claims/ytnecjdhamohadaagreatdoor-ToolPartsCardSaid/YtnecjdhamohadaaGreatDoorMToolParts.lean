/- The law ToolParts answers true for every input, with no condition: its row, and the card that ties the variables which the row lists. -/
import Derived.Test.YtnecjdhamohadaaGreatDoorMTp4
import Derived.Test.YtnecjdhamohadaaGreatDoorCards
import Derived.Test.YtnecjdhamohadaaGreatDoorTie
import Derived.Test.YtnecjdhamohadaaGreatDoorMu
import Derived.LaidMore
import Derived.Lay
import Derived.SevenTiedAt
import Derived.Stop.Joined
set_option linter.unusedSimpArgs false
set_option linter.unusedVariables false
namespace Go.Proofs.YtnecjdhamohadaaGreatDoor.toolParts
open Go.ChangeShapes Go.WideShapes Go.ChangeAt Go.RowKit Go.ChangeMaps
set_option maxRecDepth 100000 in
theorem lifted (os : Os) (started : os.Started) (H : Type) (enc : TypeId × Value → H) :
    ReturnsInHanded {} Tryz.checked os 7 .any (fun w args => (Rows.toolPartsSpec.pre enc Tryz.prog Tryz.f7 Rows.toolPartsRow.domain false w args ∧ laidMetH Tryz.prog Rows.toolPartsRow.laid w) ∧ sizedMet enc Tryz.prog Tryz.f7 (OpenSpec.ofChange Rows.toolPartsSpec) false w args)
      (Rows.toolPartsSpec.post enc Tryz.prog Tryz.f7 false true false false) := by
  refine returns_laid_shaped (C := Tryz.checked) (X := fun w _ => laidMetH Tryz.prog Rows.toolPartsRow.laid w) (fun _ _ _ hh h => h.of_heap hh) own_knob started (by kernel_rfl) Tryz.func7
    (ChangeSpec.witness_shaped (enc := enc) (C := Tryz.checked) (os := os) (X := fun w _ => laidMetH Tryz.prog Rows.toolPartsRow.laid w) false (World.laidAll Tryz.prog os Rows.toolPartsRow.laid) #[.string ⟨#[]⟩, .string ⟨#[]⟩, .slice none 0 0, .slice none 0 0] 8 (World.laidAll_os _ _ _)
      (World.shaped_of_ZipB (by kernel_rfl) (by kernel_rfl)) (by kernel_rfl) (by kernel_rfl) (by kernel_rfl)
      (by rw [MakeChecks.laidMetH_plain _ _ _ (by kernel_rfl)]; exact laidMet_laidAll _ (by kernel_rfl) (by kernel_rfl))) ?_
  intro W base args ds gs before hval0 hW hsz hX hsh
  have hval : ∀ (j : Nat) t v, Tryz.f7.params[j]? = some t → args[j]? = some v → Value.okWide Tryz.prog W .any base t v := hval0
  have hW' := hW
  obtain ⟨p, q, hA0, hV, rfl, hfz, hnd⟩ := hW
  have hA : DataW.TrodAll enc Tryz.prog W 0 (fun _ => true) true Tryz.f7.params.toList args.toList ds p := hA0
  rw [Tryz.params7] at hA hval hsz
  obtain ⟨rfl, rfl⟩ := trodVars_none hV
  obtain ⟨v0, vs0, d0, ds0, p0, q0, hargs0, rfl, rfl, h0, r0⟩ := trodAll_cons hA
  obtain ⟨v1, vs1, d1, ds1, p1, q1, hargs1, rfl, rfl, h1, r1⟩ := trodAll_cons r0
  obtain ⟨v2, vs2, d2, ds2, p2, q2, hargs2, rfl, rfl, h2, r2⟩ := trodAll_cons r1
  obtain ⟨v3, vs3, d3, ds3, p3, q3, hargs3, rfl, rfl, h3, r3⟩ := trodAll_cons r2
  obtain ⟨rfl, rfl, rfl⟩ := trodAll_nil r3
  obtain rfl : args = #[v0, v1, v2, v3] := by cases args; simp_all
  obtain ⟨s0, rfl, hd0, hp0, hs0⟩ := open_string Tryz.underlying9 (hval 0 9 v0 rfl rfl) h0
  obtain ⟨s1, rfl, hd1, hp1, hs1⟩ := open_string Tryz.underlying9 (hval 1 9 v1 rfl rfl) h1
  obtain ⟨A2, c2, l2, rfl, hR2, hD2⟩ := open_env h2 (hval 2 22 v2 rfl rfl)
  have hz2 := env_sized hsz (j := 2) rfl rfl hD2
  obtain ⟨A3, c3, l3, rfl, hR3, hD3⟩ := open_kn h3 (hval 3 23 v3 rfl rfl)
  have hz3 := kn_sized hsz (j := 3) rfl rfl hD3
  have hX2 := hX
  rw [MakeChecks.laidMetH_plain _ _ _ (by kernel_rfl)] at hX2
  have hl3 : Lib3 W := ⟨maxl_of hsh, tabs_ofT hX2⟩
  have cU : Calls Tryz.prog 7 #[.string s0, .string s1, .slice A2 l2.length c2, .slice A3 l3.length c3] W fun e w' => e = .returned (.bool true) ∧ Below W.heap.size W w' := by
    have := partsl_any W l2 l3 s0.data.toList s1.data.toList hl3 hz2 hz3 A2 A3 c2 c3 hR2 hR3
    rwa [strB_of, strB_of] at this
  refine cU.mono fun e W2 ⟨he, hg⟩ => ?_
  subst he
  exact ⟨_, rfl, law_close (by kernel_rfl) (by kernel_rfl) (by first | rfl | kernel_rfl) Tryz.underlying4 rfl hW' rfl hg⟩
set_option maxRecDepth 100000 in
theorem over : Rows.toolPartsRow.holds Tryz.pinned (OpenSpec.ofChange Rows.toolPartsSpec) :=
  OpenClaim.holds_of_wide 7 Tryz.f7 rfl rfl rfl rfl rfl rfl rfl ⟨rfl, rfl, rfl, rfl, rfl⟩ rfl rfl rfl rfl rfl (by kernel_rfl) Tryz.func7 (by kernel_rfl)
    (of_decide_eq_true (by kernel_rfl)) (by unfold Func.isWrapper; first | (rw [if_pos (by decide +kernel)]; kernel_rfl) | (rw [if_neg (by decide +kernel)]; exact ⟨rfl, rfl⟩))
    (fun os started H enc _ => lifted os started H enc)
theorem plain (f : FuncId) (fn : Func) (hf : Tryz.pinned.checked.prog.funcNamed "bloomery/bloomerylaw19.ToolParts" = some f) (hfn : Tryz.pinned.checked.prog.funcs[f]? = some fn) :
    false = Tryz.pinned.checked.prog.looks [] ∧ ∀ (j : Nat) t, fn.params[j]? = some t → Tryz.pinned.checked.prog.wantsStandIn t = false := by
  obtain rfl : f = 7 := Option.some.inj ((show Tryz.prog.funcNamed "bloomery/bloomerylaw19.ToolParts" = some 7 by kernel_rfl).symm.trans hf) |>.symm
  obtain rfl : fn = Tryz.f7 := (Option.some.inj (Tryz.func7.symm.trans hfn)).symm
  refine ⟨by kernel_rfl, fun j t ht => ?_⟩
  rw [Tryz.params7] at ht
  have hm : t ∈ [9, 9, 9, 9, 22, 23] := by simpa using Array.mem_of_getElem? ht
  have hall : ([9, 9, 9, 9, 22, 23].all fun u => !Tryz.prog.wantsStandIn u) = true := by kernel_rfl
  exact (show Tryz.prog.wantsStandIn t = false by simpa using List.all_eq_true.1 hall t hm)
end Go.Proofs.YtnecjdhamohadaaGreatDoor.toolParts
namespace Go.Proofs.YtnecjdhamohadaaGreatDoor
theorem toolParts_proved : Rows.ToolPartsCardSaid :=
  Claim7.holds_tied_plain_at .later [] _ _ _ _ toolParts.over (fun _ h => by cases h) (by kernel_rfl) (fun _ h => by cases h) toolParts_row_tie rfl ⟨rfl, rfl⟩ (by kernel_rfl) rfl toolParts.plain (by kernel_rfl)
end Go.Proofs.YtnecjdhamohadaaGreatDoor
