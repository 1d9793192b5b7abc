/- The function value by which All sorts. -/
import Derived.Test.YtegkjmmknjhdiaaBlob9
import Derived.BigQuiet
namespace Go.Proofs.Ytegkjmmknjhdiaa
open Go.RowKit Go.Maps Go.Sort Go.Lib
set_option maxRecDepth 100000 in
set_option maxHeartbeats 2000000 in
theorem digcmp_any (W : World) (x y : Dig) : Calls Try.prog 58 #[.agg (digC x).toArray, .agg (digC y).toArray] W fun e w' => e = .returned (.int .i64 (cfD x y)) ∧ ∃ q os', w' = grow (W.drewN q) os' := by
  obtain ⟨W1, hW1⟩ : ∃ W1, W1 = W.alloc (.cells (digC x).toArray 39) := ⟨_, rfl⟩
  obtain ⟨W2, hW2⟩ : ∃ W2, W2 = W1.alloc (.cells (digC y).toArray 39) := ⟨_, rfl⟩
  have hs1 : W1.heap.size = W.heap.size + 1 := by rw [hW1]; simp
  have h2 : W2.heap[W.heap.size + 1]? = some (.cells (u8s y.1).toArray 39 (0, 0)) := by rw [hW2, ← hs1]; exact heap_alloc_new W1 _
  have h1 : W2.heap[W.heap.size]? = some (.cells (u8s x.1).toArray 39 (0, 0)) := by rw [hW2]; exact (Below.heap_alloc W1 _ _ (by omega)).trans (by rw [hW1]; exact heap_alloc_new W _)
  have cC : ∀ m, Calls Try.prog 59 #[.slice (some ⟨W.heap.size, 0, none⟩) 32 32, .slice (some ⟨W.heap.size + 1, 0, none⟩) 32 32] (W2.drewN m) fun e w' => e = .returned (.int .i64 (cfD x y)) ∧ w' = W2.drewN m := fun m => compare_any (W2.drewN m) _ _ 32 32 32 32 x.1 y.1 x.2 y.2 h1 h2
  have hfin : ∀ q, ∃ q' os', W2.drewN q = grow (W.drewN q') os' := fun q => ⟨q, _, by rw [hW2, hW1, alloc_eq_grow, alloc_eq_grow, grow_grow]; rfl⟩
  generalize cfD x y = r at cC ⊢
  have HW1 := hid2 hW1
  have HW2 := hid2 hW2
  clear h1 h2 hW1 hW2
  go_enter Try.func58, Try.ntmps58
  go_wp2
  rw [← HW1.out, ← HW2.out]
  go_quiet ((go_at_call 59; exact Calls.quiet_of_same (cC _)))
  go_wp2
  go_ret
  exact ⟨rfl, hfin _⟩
end Go.Proofs.Ytegkjmmknjhdiaa
