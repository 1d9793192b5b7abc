/- The walks of the laws over paths. -/
import Derived.Test.YtdhmebilloefjaaDoorPath9
namespace Go.Proofs.YtdhmebilloefjaaDoor
open Go.RowKit
theorem alive_any (w : World) : Calls Tryd.prog 8 #[] w fun e w' => e = .returned (.bool true) ∧ Below w.heap.size w w' := by
  have hB := Below.refl w.heap.size w
  have c1 : ∀ w, Calls Tryd.prog 11 #[.string ⟨#[97, 47, 98]⟩, .string ⟨#[99, 46, 103, 111]⟩] w fun e w' => e = .returned (.tuple #[.string ⟨#[97, 47, 98, 47, 99, 46, 103, 111]⟩, .int .i64 0]) ∧ Below w.heap.size w w' := fun w => by
    have h := join_any w ⟨#[97, 47, 98]⟩ ⟨#[99, 46, 103, 111]⟩ (by decide) (by decide)
    rw [show pjoin (⟨#[97, 47, 98]⟩ : ByteArray).data.toList (⟨#[99, 46, 103, 111]⟩ : ByteArray).data.toList = ([97, 47, 98, 47, 99, 46, 103, 111], 0) by decide +kernel] at h
    exact h
  have c2 : ∀ w, Calls Tryd.prog 19 #[.string ⟨#[120, 46, 116, 97, 114, 46, 103, 122]⟩] w fun e w' => e = .returned (.string ⟨#[46, 103, 122]⟩) ∧ Below w.heap.size w w' := fun w => by
    have h := ext_any w ⟨#[120, 46, 116, 97, 114, 46, 103, 122]⟩ _ rfl (by decide)
    rw [show extL (⟨#[120, 46, 116, 97, 114, 46, 103, 122]⟩ : ByteArray).data.toList = [46, 103, 122] by decide +kernel] at h
    exact h
  have c3 : ∀ w, Calls Tryd.prog 19 #[.string ⟨#[46, 114, 99]⟩] w fun e w' => e = .returned (.string ⟨#[]⟩) ∧ Below w.heap.size w w' := fun w => by
    have h := ext_any w ⟨#[46, 114, 99]⟩ _ rfl (by decide)
    rw [show extL (⟨#[46, 114, 99]⟩ : ByteArray).data.toList = [] by decide +kernel] at h
    exact h
  have c4 : ∀ w, Calls Tryd.prog 13 #[.string ⟨#[97, 98, 47, 99]⟩, .string ⟨#[97]⟩] w fun e w' => e = .returned (.bool false) ∧ Below w.heap.size w w' := fun w => by
    have h := under_any w ⟨#[97, 98, 47, 99]⟩ ⟨#[97]⟩ (by decide) (by decide)
    rw [show underB (⟨#[97, 98, 47, 99]⟩ : ByteArray).data.toList (⟨#[97]⟩ : ByteArray).data.toList = false by decide +kernel] at h
    exact h
  have c5 : ∀ w, Calls Tryd.prog 9 #[.string ⟨#[97]⟩] w fun e w' => e = .returned (.bool true) ∧ Below w.heap.size w w' := fun w => may_of w ⟨#[97]⟩ _ (by decide) rfl (by decide +kernel)
  have c6 : ∀ w, Calls Tryd.prog 9 #[.string ⟨#[97, 47, 47, 98]⟩] w fun e w' => e = .returned (.bool false) ∧ Below w.heap.size w w' := fun w => may_of w ⟨#[97, 47, 47, 98]⟩ _ (by decide) rfl (by decide +kernel)
  go_enter Tryd.func8, Tryd.ntmps8
  go_wp2_with (first
    | (go_at_call 11; (with_reducible refine (c1 _).mono ?_); rintro e w2 ⟨rfl, hb2⟩; replace hB := hB.trans (hb2.mono hB.size); clear hb2)
    | (go_at_call 19; (with_reducible refine (c2 _).mono ?_); rintro e w2 ⟨rfl, hb2⟩; replace hB := hB.trans (hb2.mono hB.size); clear hb2)
    | (go_at_call 19; (with_reducible refine (c3 _).mono ?_); rintro e w2 ⟨rfl, hb2⟩; replace hB := hB.trans (hb2.mono hB.size); clear hb2)
    | (go_at_call 13; (with_reducible refine (c4 _).mono ?_); rintro e w2 ⟨rfl, hb2⟩; replace hB := hB.trans (hb2.mono hB.size); clear hb2)
    | (go_at_call 9; (with_reducible refine (c5 _).mono ?_); rintro e w2 ⟨rfl, hb2⟩; replace hB := hB.trans (hb2.mono hB.size); clear hb2)
    | (go_at_call 9; (with_reducible refine (c6 _).mono ?_); rintro e w2 ⟨rfl, hb2⟩; replace hB := hB.trans (hb2.mono hB.size); clear hb2))
  go_ret
  exact ⟨rfl, hB⟩
theorem lawMay_any (w : World) (s : ByteArray) : Calls Tryd.prog 3 #[.string s] w fun e w' => e = .returned (.bool true) ∧ Below w.heap.size w w' := by
  have hB := Below.refl w.heap.size w
  by_cases h : 2000 < s.size
  · have h' : (2000 : Int) < s.size := by omega
    go_enter Tryd.func3, Tryd.ntmps3
    go_wp2_with (first
      | (go_at_call 8; (with_reducible refine (alive_any _).mono ?_); rintro e w2 ⟨rfl, hb2⟩; replace hB := hB.trans (hb2.mono hB.size); clear hb2))
    go_ret
    exact ⟨rfl, hB⟩
  · have h' : ¬ (2000 : Int) < s.size := by omega
    obtain ⟨v, hv⟩ : ∃ v, v = mayB s.data.toList := ⟨_, rfl⟩
    have c1 := fun w => may_of w s _ (by omega) rfl hv.symm
    have c2 := fun w => refmay_of w s _ (by omega) rfl hv.symm
    clear hv
    go_enter Tryd.func3, Tryd.ntmps3
    go_wp2_with (first
      | (go_at_call 8; (with_reducible refine (alive_any _).mono ?_); rintro e w2 ⟨rfl, hb2⟩; replace hB := hB.trans (hb2.mono hB.size); clear hb2)
      | (go_at_call 9; (with_reducible refine (c1 _).mono ?_); rintro e w2 ⟨rfl, hb2⟩; replace hB := hB.trans (hb2.mono hB.size); clear hb2)
      | (go_at_call 10; (with_reducible refine (c2 _).mono ?_); rintro e w2 ⟨rfl, hb2⟩; replace hB := hB.trans (hb2.mono hB.size); clear hb2))
    go_ret
    exact ⟨by simp, hB⟩
end Go.Proofs.YtdhmebilloefjaaDoor
