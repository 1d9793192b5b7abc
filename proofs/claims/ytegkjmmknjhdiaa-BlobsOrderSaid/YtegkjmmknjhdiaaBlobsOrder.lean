/- The law BlobsOrder answers true for every input, with no condition. -/
import Derived.Test.YtegkjmmknjhdiaaBlob25
import Derived.Test.YtegkjmmknjhdiaaLaw
import Derived.Test.YtegkjmmknjhdiaaLawU8s
namespace Go.Proofs.Ytegkjmmknjhdiaa.blobsOrder
open Go.ChangeShapes Go.WideShapes Go.ChangeAt Go.RowKit Go.ChangeMaps
set_option maxRecDepth 100000 in
theorem lifted (os : Os) (started : os.Started) (H : Type) (enc : TypeId × Value → H) :
    ReturnsInHanded {} Try.checked os 6 .any (Rows.blobsOrderSpec.pre6 enc Try.prog Try.f6 Rows.blobsOrderRow.domain false) (Rows.blobsOrderSpec.post enc Try.prog Try.f6 false true false false) := by
  refine returnsInHanded_of_change_sized (C := Try.checked) own_knob started (by kernel_rfl) Try.func6
    (ChangeSpec.witness6 (enc := enc) (C := Try.checked) false ⟨#[], #[.slice none 0 0, .slice none 0 0], []⟩ 80 (by kernel_rfl) (by kernel_rfl) (by kernel_rfl) (by kernel_rfl)) ?_
  intro W base args ds gs before hval0 hW _ hsz _
  have hval : ∀ (j : Nat) t v, Try.f6.params[j]? = some t → args[j]? = some v → Value.okWide Try.prog W .any base t v := hval0
  have hW' := hW
  obtain ⟨p, q, hA0, hV, rfl, hfz, hnd⟩ := hW
  have hA : DataW.TrodAll enc Try.prog W 0 (fun _ => true) true Try.f6.params.toList args.toList ds p := hA0
  rw [Try.params6] at hA hval hsz
  obtain ⟨rfl, rfl⟩ := trodVars_none hV
  obtain ⟨v0, vs0, d0, ds0, p0, q0, hargs0, rfl, rfl, h0, r0⟩ := trodAll_cons hA
  obtain ⟨v1, vs1, d1, ds1, p1, q1, hargs1, rfl, rfl, h1, r1⟩ := trodAll_cons r0
  obtain ⟨rfl, rfl, rfl⟩ := trodAll_nil r1
  obtain rfl : args = #[v0, v1] := by cases args; simp_all
  obtain ⟨A0, n0, c0, ps0, rfl, hr0, hn0⟩ := open_parts h0 (hval 0 54 v0 rfl rfl)
  have hmx0 : n0 ≤ 8796093022208 := by
    rcases hn0 with rfl | ⟨el, sp, rfl, hn0⟩
    · omega
    · have h16 : Try.prog.bytesOf 9 = 16 := by kernel_rfl
      have := sized_slice (P := Try.prog) hsz (j := 0) (t := 54) (e := 9) rfl rfl Try.underlying54
      have h47 := reachBytes_lt
      rw [h16] at this
      omega
  obtain ⟨A1, c1, bs1, rfl, hr1, hn1⟩ := open_u8s h1 (hval 1 55 v1 rfl rfl)
  have hmx1 : bs1.length ≤ 140737488355328 := by
    rcases hn1 with h0 | ⟨el, sp, rfl, hn1⟩
    · omega
    · have h1 : Try.prog.bytesOf 5 = 1 := by kernel_rfl
      have := sized_slice (P := Try.prog) hsz (j := 1) (t := 55) (e := 5) rfl rfl Try.underlying55
      have h47 := reachBytes_lt
      rw [h1] at this
      omega
  refine (blobsOrder_walk W A0 n0 c0 ps0 hr0 hmx0 A1 c1 bs1 hr1 hmx1).mono fun e W2 ⟨he, hg⟩ => ?_
  subst he
  exact ⟨_, rfl, law_close (by kernel_rfl) (by kernel_rfl) (by first | rfl | kernel_rfl) Try.underlying4 rfl hW' rfl hg⟩
set_option maxRecDepth 100000 in
theorem over : Rows.blobsOrderRow.holds Try.pinned (OpenSpec.ofChange Rows.blobsOrderSpec) :=
  OpenClaim.holds_of_wide 6 Try.f6 rfl rfl rfl rfl rfl rfl rfl ⟨rfl, rfl, rfl, rfl, rfl⟩ rfl rfl rfl rfl rfl (by kernel_rfl) Try.func6 (by kernel_rfl)
    (of_decide_eq_true (by kernel_rfl)) (by unfold Func.isWrapper; first | (rw [if_pos (by decide +kernel)]; kernel_rfl) | (rw [if_neg (by decide +kernel)]; exact ⟨rfl, rfl⟩))
    (fun os started H enc _ => lifted os started H enc)
end Go.Proofs.Ytegkjmmknjhdiaa.blobsOrder
namespace Go.Proofs.Ytegkjmmknjhdiaa
theorem blobsOrder_proved : Rows.BlobsOrderSaid := blobsOrder.over
end Go.Proofs.Ytegkjmmknjhdiaa
