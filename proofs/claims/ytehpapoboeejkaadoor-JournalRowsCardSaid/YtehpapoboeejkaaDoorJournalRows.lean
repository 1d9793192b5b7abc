/- The law JournalRows answers true for every input, with no condition: its row, and the card that ties the variables which the row lists. -/
import Derived.Test.YtehpapoboeejkaaDoorRow3
import Derived.Test.YtehpapoboeejkaaDoorCards
import Derived.Test.YtehpapoboeejkaaDoorTie
import Derived.Test.YtehpapoboeejkaaDoorLaw0
import Derived.Test.YtehpapoboeejkaaDoorLawRow
import Derived.LaidMore
import Derived.Lay
import Derived.SevenTiedAt
import Derived.Stop.Joined
namespace Go.Proofs.YtehpapoboeejkaaDoor.journalRows
open Go.ChangeShapes Go.WideShapes Go.ChangeAt Go.RowKit Go.ChangeMaps
set_option maxRecDepth 100000 in
theorem lifted (os : Os) (started : os.Started) (H : Type) (enc : TypeId × Value → H) :
    ReturnsInHanded {} Tryd.checked os 3 .any (fun w args => (Rows.journalRowsSpec.pre enc Tryd.prog Tryd.f3 Rows.journalRowsRow.domain false w args ∧ laidMetH Tryd.prog Rows.journalRowsRow.laid w) ∧ sizedMet enc Tryd.prog Tryd.f3 (OpenSpec.ofChange Rows.journalRowsSpec) false w args)
      (Rows.journalRowsSpec.post enc Tryd.prog Tryd.f3 false true false false) := by
  refine returnsInHanded_of_change_and (C := Tryd.checked) (X := fun w _ => laidMetH Tryd.prog Rows.journalRowsRow.laid w) (fun _ _ _ hh h => h.of_heap hh) own_knob started (by kernel_rfl) Tryd.func3
    (ChangeSpec.witness_shaped (enc := enc) (C := Tryd.checked) (os := os) (X := fun w _ => laidMetH Tryd.prog Rows.journalRowsRow.laid w) false (World.laidAll Tryd.prog os Rows.journalRowsRow.laid) #[.slice none 0 0, .slice none 0 0] 8 (World.laidAll_os _ _ _)
      (World.shaped_of_ZipB (by kernel_rfl) (by kernel_rfl)) (by kernel_rfl) (by kernel_rfl) (by kernel_rfl)
      (by rw [MakeChecks.laidMetH_plain _ _ _ (by kernel_rfl)]; exact laidMet_laidAll _ (by kernel_rfl) (by kernel_rfl))) ?_
  intro W base args ds gs before hval0 hW _ hsz hX _
  have hval : ∀ (j : Nat) t v, Tryd.f3.params[j]? = some t → args[j]? = some v → Value.okWide Tryd.prog W .any base t v := hval0
  have hW' := hW
  obtain ⟨p, q, hA0, hV, rfl, hfz, hnd⟩ := hW
  have hA : DataW.TrodAll enc Tryd.prog W 0 (fun _ => true) true Tryd.f3.params.toList args.toList ds p := hA0
  rw [Tryd.params3] at hA hval
  obtain ⟨rfl, rfl⟩ := trodVars_none hV
  obtain ⟨v0, vs0, d0, ds0, p0, q0, hargs0, rfl, rfl, h0, r0⟩ := trodAll_cons hA
  obtain ⟨v1, vs1, d1, ds1, p1, q1, hargs1, rfl, rfl, h1, r1⟩ := trodAll_cons r0
  obtain ⟨rfl, rfl, rfl⟩ := trodAll_nil r1
  obtain rfl : args = #[v0, v1] := by cases args; simp_all
  obtain ⟨A0, c0, X0, rfl, hR0, hm0⟩ := open_trows h0 (hval 0 22 v0 rfl rfl)
  obtain ⟨A1, c1, ps1, rfl, hr1, hc1⟩ := open_picks h1 (hval 1 23 v1 rfl rfl)
  have hX2 := hX
  rw [MakeChecks.laidMetH_plain _ _ _ (by kernel_rfl)] at hX2
  refine (JournalRows_walk W A0 c0 X0 hR0 hm0 A1 c1 ps1 hr1 hc1 (tabs_of hX2)).mono fun e W2 ⟨he, hg⟩ => ?_
  subst he
  exact ⟨_, rfl, law_close (by kernel_rfl) (by kernel_rfl) (by first | rfl | kernel_rfl) Tryd.underlying4 rfl hW' rfl hg⟩
set_option maxRecDepth 100000 in
theorem over : Rows.journalRowsRow.holds Tryd.pinned (OpenSpec.ofChange Rows.journalRowsSpec) :=
  OpenClaim.holds_of_wide 3 Tryd.f3 rfl rfl rfl rfl rfl rfl rfl ⟨rfl, rfl, rfl, rfl, rfl⟩ rfl rfl rfl rfl rfl (by kernel_rfl) Tryd.func3 (by kernel_rfl)
    (of_decide_eq_true (by kernel_rfl)) (by unfold Func.isWrapper; first | (rw [if_pos (by decide +kernel)]; kernel_rfl) | (rw [if_neg (by decide +kernel)]; exact ⟨rfl, rfl⟩))
    (fun os started H enc _ => lifted os started H enc)
theorem plain (f : FuncId) (fn : Func) (hf : Tryd.pinned.checked.prog.funcNamed "bloomery/bloomerylaw08.JournalRows" = some f) (hfn : Tryd.pinned.checked.prog.funcs[f]? = some fn) :
    false = Tryd.pinned.checked.prog.looks [] ∧ ∀ (j : Nat) t, fn.params[j]? = some t → Tryd.pinned.checked.prog.wantsStandIn t = false := by
  obtain rfl : f = 3 := Option.some.inj ((show Tryd.prog.funcNamed "bloomery/bloomerylaw08.JournalRows" = some 3 by kernel_rfl).symm.trans hf) |>.symm
  obtain rfl : fn = Tryd.f3 := (Option.some.inj (Tryd.func3.symm.trans hfn)).symm
  refine ⟨by kernel_rfl, fun j t ht => ?_⟩
  rw [Tryd.params3] at ht
  have hm : t ∈ [22, 23] := by simpa using Array.mem_of_getElem? ht
  have hall : ([22, 23].all fun u => !Tryd.prog.wantsStandIn u) = true := by kernel_rfl
  exact (show Tryd.prog.wantsStandIn t = false by simpa using List.all_eq_true.1 hall t hm)
end Go.Proofs.YtehpapoboeejkaaDoor.journalRows
namespace Go.Proofs.YtehpapoboeejkaaDoor
theorem journalRows_proved : Rows.JournalRowsCardSaid :=
  Claim7.holds_tied_plain_at .later [] _ _ _ _ journalRows.over (fun _ h => by cases h) (by kernel_rfl) (fun _ h => by cases h) journalRows_row_tie rfl ⟨rfl, rfl⟩ (by kernel_rfl) rfl journalRows.plain (by kernel_rfl)
end Go.Proofs.YtehpapoboeejkaaDoor
