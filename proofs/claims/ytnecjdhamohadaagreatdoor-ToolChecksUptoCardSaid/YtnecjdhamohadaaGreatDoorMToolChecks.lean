/- The law ToolChecks answers true where what it reads is of bulk at most 1048576: its second row's card, with no other condition. -/
import Derived.Test.YtnecjdhamohadaaGreatDoorMTc1
import Derived.Test.YtnecjdhamohadaaGreatDoorCards
import Derived.Test.YtnecjdhamohadaaGreatDoorTie
import Derived.Test.YtnecjdhamohadaaGreatDoorMu
import Derived.LaidMore
import Derived.Lay
import Derived.SevenTiedAt
import Derived.Stop.Joined
import Derived.Deep.DeepHandedRow
set_option linter.unusedSimpArgs false
set_option linter.unusedVariables false
namespace Go.Proofs.YtnecjdhamohadaaGreatDoor.toolChecks
open Go.ChangeShapes Go.WideShapes Go.ChangeAt Go.RowKit Go.ChangeMaps
theorem reads (os : Os) {H : Type} (enc : TypeId × Value → H) : ∃ places, DataW.whole enc Tryz.prog ((World.laidAll Tryz.prog os Rows.toolChecksUptoRow.laid).forCall (fun _ _ => 0) ⟨#[], #[.string ⟨#[]⟩], []⟩).memory Tryz.f8.params.toList Rows.toolChecksSpec.vars false #[Value.string ⟨#[]⟩].toList 8 = some ([.lit (.string [])], [], places) :=
  ⟨[], by kernel_rfl⟩
set_option maxRecDepth 100000 in
theorem lifted (os : Os) (started : os.Started) (H : Type) (enc : TypeId × Value → H) (F : Stop.Interp) :
    ReturnsInHanded {} Tryz.checked os 8 .any ((Rows.OpenSpec.upto Rows.toolChecksSpec).preRow enc Tryz.prog Tryz.f8 Rows.toolChecksUptoRow.domain false Rows.toolChecksUptoRow.laid) (((Rows.OpenSpec.upto Rows.toolChecksSpec).at F).post enc Tryz.prog Tryz.f8 false true false false) := by
  obtain ⟨places, hx⟩ := reads os enc
  have hok : Input.okWideB Tryz.prog ((World.laidAll Tryz.prog os Rows.toolChecksUptoRow.laid).forCall (fun _ _ => 0) ⟨#[], #[.string ⟨#[]⟩], []⟩) 8 ⟨#[], #[.string ⟨#[]⟩], []⟩ = true := by kernel_rfl
  refine returnsInHanded_of_row (C := Tryz.checked) (s := Rows.OpenSpec.upto Rows.toolChecksSpec) own_knob started (by kernel_rfl) Tryz.func8
    ⟨World.laidAll Tryz.prog os Rows.toolChecksUptoRow.laid, fun _ _ => 0, ⟨#[], #[.string ⟨#[]⟩], []⟩, World.laidAll_os _ _ _, World.shaped_of_ZipB (by kernel_rfl) (by kernel_rfl), (Input.okWide_of_okWideB (base := 0) hok).1, (Input.okWide_of_okWideB hok).2,
      OpenSpec.preRow_of_cond 8 hx (by kernel_rfl) (fun k hk => by cases hk; kernel_rfl) (by kernel_rfl) (by rw [MakeChecks.laidMetH_plain _ _ _ (by kernel_rfl)]; exact laidMet_laidAll _ (by kernel_rfl) (by kernel_rfl)), by
        simp only [Assume.holds]
        exact ⟨by simp, by simp, fun _ => Modest.zero, by simp, by simp⟩⟩ ?_
  intro W base args ds gs before hval0 hW _ hcond _ hX hsh _
  have hval : ∀ (j : Nat) t v, Tryz.f8.params[j]? = some t → args[j]? = some v → Value.okWide Tryz.prog W .any base t v := hval0
  have hk := of_decide_eq_true (hcond _ rfl)
  have hW' := hW
  obtain ⟨p, q, hA0, hV, rfl, hfz, hnd⟩ := hW
  have hA : DataW.TrodAll enc Tryz.prog W 0 (fun _ => true) true Tryz.f8.params.toList args.toList ds p := hA0
  rw [Tryz.params8] at hA hval
  obtain ⟨rfl, rfl⟩ := trodVars_none hV
  obtain ⟨v0, vs0, d0, ds0, p0, q0, hargs0, rfl, rfl, h0, r0⟩ := trodAll_cons hA
  obtain ⟨rfl, rfl, rfl⟩ := trodAll_nil r0
  obtain rfl : args = #[v0] := by cases args; simp_all
  obtain ⟨s0, rfl, hd0, hp0, hs0⟩ := open_string Tryz.underlying9 (hval 0 9 v0 rfl rfl) h0
  have hX2 := hX
  rw [MakeChecks.laidMetH_plain _ _ _ (by kernel_rfl)] at hX2
  have hl3 : Lib3 W := ⟨maxl_of hsh, tabs_ofT hX2⟩
  have hsz : s0.size ≤ 1048576 := by
    rw [hd0] at hk
    simp only [List.append_nil, Rows.uptoBulkAll, Rows.uptoBulk] at hk
    have := toList_length s0
    omega
  have cU : Calls Tryz.prog 8 #[.string s0] W fun e w' => e = .returned (.bool true) ∧ Below W.heap.size W w' := checks_any W s0 hl3 hsz
  refine cU.mono fun e W2 ⟨he, hg⟩ => ?_
  subst he
  exact ⟨_, rfl, law_close (by kernel_rfl) (by kernel_rfl) (by first | rfl | kernel_rfl) Tryz.underlying4 rfl hW' rfl hg⟩
set_option maxRecDepth 100000 in
theorem over : Rows.ToolChecksUptoSaid :=
  OpenClaim.holds_of_cond 8 Tryz.f8 rfl rfl rfl rfl rfl rfl rfl ⟨rfl, rfl, rfl, rfl, rfl⟩ rfl rfl rfl rfl rfl (by kernel_rfl) Tryz.func8 (by kernel_rfl)
    (of_decide_eq_true (by kernel_rfl)) (by unfold Func.isWrapper; first | (rw [if_pos (by decide +kernel)]; kernel_rfl) | (rw [if_neg (by decide +kernel)]; exact ⟨rfl, rfl⟩))
    (fun os started H enc _ F => by rw [OpenClaim.pre_eq_preRow]; exact lifted os started H enc F)
theorem plain (f : FuncId) (fn : Func) (hf : Tryz.pinned.checked.prog.funcNamed "bloomery/bloomerylaw19.ToolChecks" = some f) (hfn : Tryz.pinned.checked.prog.funcs[f]? = some fn) :
    false = Tryz.pinned.checked.prog.looks [] ∧ ∀ (j : Nat) t, fn.params[j]? = some t → Tryz.pinned.checked.prog.wantsStandIn t = false := by
  obtain rfl : f = 8 := Option.some.inj ((show Tryz.prog.funcNamed "bloomery/bloomerylaw19.ToolChecks" = some 8 by kernel_rfl).symm.trans hf) |>.symm
  obtain rfl : fn = Tryz.f8 := (Option.some.inj (Tryz.func8.symm.trans hfn)).symm
  refine ⟨by kernel_rfl, fun j t ht => ?_⟩
  rw [Tryz.params8] at ht
  have hm : t ∈ [9] := by simpa using Array.mem_of_getElem? ht
  have hall : ([9].all fun u => !Tryz.prog.wantsStandIn u) = true := by kernel_rfl
  exact (show Tryz.prog.wantsStandIn t = false by simpa using List.all_eq_true.1 hall t hm)
end Go.Proofs.YtnecjdhamohadaaGreatDoor.toolChecks
namespace Go.Proofs.YtnecjdhamohadaaGreatDoor
theorem toolChecks_proved : Rows.ToolChecksUptoCardSaid :=
  Claim7.holds_tied_plain_at .later [] _ _ _ _ toolChecks.over (fun _ h => by cases h) (by kernel_rfl) (fun _ h => by cases h) toolChecksUpto_row_tie rfl ⟨rfl, rfl⟩ (by kernel_rfl) rfl toolChecks.plain (by kernel_rfl)
end Go.Proofs.YtnecjdhamohadaaGreatDoor
