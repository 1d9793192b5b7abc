/- The reference's disk as a row of files: pass. -/
import Derived.Test.YtbighckpogfcaaaRefd6
namespace Go.Proofs.Ytbighckpogfcaaa
open Go.RowKit Go.Maps
set_option maxRecDepth 100000 in
theorem pass07m_any (w : World) (B : Option Addr) (n2 c2 : Nat) (left : Int) (hle : -1 ≤ left ∧ left ≤ 9223372036854775807) (A : Option Addr) (n c : Nat) :
    Calls Try.prog 87 #[.agg #[.slice B n2 c2, .int .i64 left], .slice A n c] w fun e w' =>
      e = .returned (if left = 0 then .tuple #[.agg #[.slice B n2 c2, .int .i64 left], .int .i64 18] else .tuple #[.agg #[.slice A n c, .int .i64 (if 0 < left then left - 1 else left)], .int .i64 0]) ∧ Below w.heap.size w w' := by
  by_cases h0 : left = 0
  · rw [if_pos h0]
    go_enter Try.func87, Try.ntmps87
    go_wp2_with fail
    exact bodyPost_ret (v := .tuple #[.agg #[.slice B n2 c2, .int .i64 left], .int .i64 18]) (by simp [results, Try.results87, go_sem, h0]) rfl ⟨rfl, ((Below.refl _ _).alloc (Nat.le_refl _) _).alloc (by simp) _⟩
  · rw [if_neg h0]
    by_cases h1 : 0 < left
    · rw [if_pos h1]
      have hw : IntKind.i64.wrap (left - 1) = left - 1 := IntWalk.i64_in _ (by constructor <;> omega)
      go_enter Try.func87, Try.ntmps87
      go_wp2_with fail
      exact bodyPost_ret (v := .tuple #[.agg #[.slice A n c, .int .i64 (left - 1)], .int .i64 0]) (by simp [results, Try.results87, go_sem]) rfl ⟨rfl, ((Below.refl _ _).alloc (Nat.le_refl _) _).alloc (by simp) _⟩
    · rw [if_neg h1]
      go_enter Try.func87, Try.ntmps87
      go_wp2_with fail
      exact bodyPost_ret (v := .tuple #[.agg #[.slice A n c, .int .i64 left], .int .i64 0]) (by simp [results, Try.results87, go_sem]) rfl ⟨rfl, ((Below.refl _ _).alloc (Nat.le_refl _) _).alloc (by simp) _⟩
end Go.Proofs.Ytbighckpogfcaaa
