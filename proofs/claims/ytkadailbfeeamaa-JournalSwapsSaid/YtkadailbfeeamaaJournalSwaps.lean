/- The law JournalSwaps answers true for every input, with no condition. -/
import Derived.Test.YtkadailbfeeamaaJo10
import Derived.Test.YtkadailbfeeamaaLaw
import Derived.Test.YtkadailbfeeamaaLawInts
namespace Go.Proofs.Ytkadailbfeeamaa.journalSwaps
open Go.ChangeShapes Go.WideShapes Go.ChangeAt Go.RowKit Go.ChangeMaps
set_option maxRecDepth 100000 in
theorem lifted (os : Os) (started : os.Started) (H : Type) (enc : TypeId × Value → H) :
    ReturnsInHanded {} Try.checked os 12 .any (Rows.journalSwapsSpec.pre6 enc Try.prog Try.f12 Rows.journalSwapsRow.domain false) (Rows.journalSwapsSpec.post enc Try.prog Try.f12 false true false false) := by
  refine returnsInHanded_of_change_sized (C := Try.checked) own_knob started (by kernel_rfl) Try.func12
    (ChangeSpec.witness6 (enc := enc) (C := Try.checked) false ⟨#[], #[.slice none 0 0, .slice none 0 0, .int .u8 0, .slice none 0 0], []⟩ 80 (by kernel_rfl) (by kernel_rfl) (by kernel_rfl) (by kernel_rfl)) ?_
  intro W base args ds gs before hval0 hW _ hsz _
  have hval : ∀ (j : Nat) t v, Try.f12.params[j]? = some t → args[j]? = some v → Value.okWide Try.prog W .any base t v := hval0
  have hW' := hW
  obtain ⟨p, q, hA0, hV, rfl, hfz, hnd⟩ := hW
  have hA : DataW.TrodAll enc Try.prog W 0 (fun _ => true) true Try.f12.params.toList args.toList ds p := hA0
  rw [Try.params12] at hA hval hsz
  obtain ⟨rfl, rfl⟩ := trodVars_none hV
  obtain ⟨v0, vs0, d0, ds0, p0, q0, hargs0, rfl, rfl, h0, r0⟩ := trodAll_cons hA
  obtain ⟨v1, vs1, d1, ds1, p1, q1, hargs1, rfl, rfl, h1, r1⟩ := trodAll_cons r0
  obtain ⟨v2, vs2, d2, ds2, p2, q2, hargs2, rfl, rfl, h2, r2⟩ := trodAll_cons r1
  obtain ⟨v3, vs3, d3, ds3, p3, q3, hargs3, rfl, rfl, h3, r3⟩ := trodAll_cons r2
  obtain ⟨rfl, rfl, rfl⟩ := trodAll_nil r3
  obtain rfl : args = #[v0, v1, v2, v3] := by cases args; simp_all
  obtain ⟨A0, n0, c0, ps0, rfl, hr0, hn0⟩ := open_parts h0 (hval 0 30 v0 rfl rfl)
  have hmx0 : n0 ≤ 8796093022208 := by
    rcases hn0 with rfl | ⟨el, sp, rfl, hn0⟩
    · omega
    · have h16 : Try.prog.bytesOf 9 = 16 := by kernel_rfl
      have := sized_slice (P := Try.prog) hsz (j := 0) (t := 30) (e := 9) rfl rfl Try.underlying30
      have h47 := reachBytes_lt
      rw [h16] at this
      omega
  obtain ⟨A1, n1, c1, ps1, rfl, hr1, hn1⟩ := open_parts h1 (hval 1 30 v1 rfl rfl)
  have hmx1 : n1 ≤ 8796093022208 := by
    rcases hn1 with rfl | ⟨el, sp, rfl, hn1⟩
    · omega
    · have h16 : Try.prog.bytesOf 9 = 16 := by kernel_rfl
      have := sized_slice (P := Try.prog) hsz (j := 1) (t := 30) (e := 9) rfl rfl Try.underlying30
      have h47 := reachBytes_lt
      rw [h16] at this
      omega
  obtain ⟨a2, rfl, hd2, hp2, w2⟩ := open_int Try.underlying5 (hval 2 5 v2 rfl rfl) h2
  have hx2 : 0 ≤ a2 ∧ a2 ≤ 255 := by simpa [Lit.wf, IntKind.min, IntKind.max, IntKind.signed, IntKind.bits] using w2
  obtain ⟨b2, hb2⟩ : ∃ b : Nat, a2 = (b : Int) := ⟨a2.toNat, by omega⟩
  subst hb2
  obtain ⟨A3, c3, ps3, rfl, hr3, hc3⟩ := open_picks h3 (hval 3 54 v3 rfl rfl)
  refine (JournalSwaps_walk W A0 n0 c0 ps0 hr0 hmx0 A1 n1 c1 ps1 hr1 hmx1 b2 (by omega) A3 c3 ps3 hr3 hc3).mono fun e W2 ⟨he, hg⟩ => ?_
  subst he
  exact ⟨_, rfl, law_close (by kernel_rfl) (by kernel_rfl) (by first | rfl | kernel_rfl) Try.underlying4 rfl hW' rfl hg⟩
set_option maxRecDepth 100000 in
theorem over : Rows.journalSwapsRow.holds Try.pinned (OpenSpec.ofChange Rows.journalSwapsSpec) :=
  OpenClaim.holds_of_wide 12 Try.f12 rfl rfl rfl rfl rfl rfl rfl ⟨rfl, rfl, rfl, rfl, rfl⟩ rfl rfl rfl rfl rfl (by kernel_rfl) Try.func12 (by kernel_rfl)
    (of_decide_eq_true (by kernel_rfl)) (by unfold Func.isWrapper; first | (rw [if_pos (by decide +kernel)]; kernel_rfl) | (rw [if_neg (by decide +kernel)]; exact ⟨rfl, rfl⟩))
    (fun os started H enc _ => lifted os started H enc)
end Go.Proofs.Ytkadailbfeeamaa.journalSwaps
namespace Go.Proofs.Ytkadailbfeeamaa
theorem journalSwaps_proved : Rows.JournalSwapsSaid := journalSwaps.over
end Go.Proofs.Ytkadailbfeeamaa
