/- The reference's disk as a row of files: Budget. -/
import Derived.Test.YtbighckpogfcaaaRefd7
namespace Go.Proofs.Ytbighckpogfcaaa
open Go.RowKit Go.Maps
set_option maxRecDepth 100000 in
theorem budget07m_any (w : World) (A : Option Addr) (n c : Nat) (left x : Int) :
    Calls Try.prog 62 #[.agg #[.slice A n c, .int .i64 left], .int .i64 x] w fun e w' => e = .returned (.agg #[.slice A n c, .int .i64 (if x < 0 then -1 else x)]) ∧ Below w.heap.size w w' := by
  by_cases h0 : x < 0
  · rw [if_pos h0]
    go_enter Try.func62, Try.ntmps62
    go_wp2_with fail
    exact bodyPost_ret (v := .agg #[.slice A n c, .int .i64 (-1)]) (by simp [results, Try.results62, go_sem]) rfl ⟨rfl, ((Below.refl _ _).alloc (Nat.le_refl _) _).alloc (by simp) _⟩
  · rw [if_neg h0]
    go_enter Try.func62, Try.ntmps62
    go_wp2_with fail
    exact bodyPost_ret (v := .agg #[.slice A n c, .int .i64 x]) (by simp [results, Try.results62, go_sem]) rfl ⟨rfl, ((Below.refl _ _).alloc (Nat.le_refl _) _).alloc (by simp) _⟩
end Go.Proofs.Ytbighckpogfcaaa
