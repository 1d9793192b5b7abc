/- The walks of the two tables of constants. -/
import Derived.Test.YtjmfmlkjippiaaaDoorSha2
namespace Go.Proofs.YtjmfmlkjippiaaaDoor
open Go.RowKit
theorem info_ks : (Tryd.prog.info? 98).map (·.size) = some (w32s Sha.ks).length := by kernel_rfl
theorem fit_ks : 0 + (w32s Sha.ks).length ≤ (Array.size #[Value.int .u32 0, Value.int .u32 0, Value.int .u32 0, Value.int .u32 0, Value.int .u32 0, Value.int .u32 0, Value.int .u32 0, Value.int .u32 0, Value.int .u32 0, Value.int .u32 0, Value.int .u32 0, Value.int .u32 0, Value.int .u32 0, Value.int .u32 0, Value.int .u32 0, Value.int .u32 0, Value.int .u32 0, Value.int .u32 0, Value.int .u32 0, Value.int .u32 0, Value.int .u32 0, Value.int .u32 0, Value.int .u32 0, Value.int .u32 0, Value.int .u32 0, Value.int .u32 0, Value.int .u32 0, Value.int .u32 0, Value.int .u32 0, Value.int .u32 0, Value.int .u32 0, Value.int .u32 0, Value.int .u32 0, Value.int .u32 0, Value.int .u32 0, Value.int .u32 0, Value.int .u32 0, Value.int .u32 0, Value.int .u32 0, Value.int .u32 0, Value.int .u32 0, Value.int .u32 0, Value.int .u32 0, Value.int .u32 0, Value.int .u32 0, Value.int .u32 0, Value.int .u32 0, Value.int .u32 0, Value.int .u32 0, Value.int .u32 0, Value.int .u32 0, Value.int .u32 0, Value.int .u32 0, Value.int .u32 0, Value.int .u32 0, Value.int .u32 0, Value.int .u32 0, Value.int .u32 0, Value.int .u32 0, Value.int .u32 0, Value.int .u32 0, Value.int .u32 0, Value.int .u32 0, Value.int .u32 0]) := by decide
set_option maxRecDepth 100000 in
theorem constants_any (w : World) : Calls Tryd.prog 59 #[] w fun e w' => e = .returned (.agg (w32s Sha.ks).toArray) ∧ Below w.heap.size w w' := by
  go_enter Tryd.func59, Tryd.ntmps59
  go_wp2_with (first
    | (with_reducible refine wpList_build_lit (w32s Sha.ks).toArray ?_ ?_; kernel_rfl)
    | (with_reducible refine wpList_store_lit w.heap.size 0 (.agg (w32s Sha.ks).toArray) (w32s Sha.ks) (agg_cells _) _ _ (heap_alloc_new w _) info_ks fit_ks (w32s_one _) ?_ ?_; exact ⟨rfl, rfl⟩))
  refine bodyPost_ret (v := .agg (w32s Sha.ks).toArray) (results_cell_row rfl _ _ w.heap.size 98 _ (0, 0) _ rfl (setRow_heap _ _ _ _ _ _ (heap_alloc_new w _)) Tryd.underlying98 rfl (by kernel_rfl)) rfl ⟨rfl, below_setRow ((Below.refl _ _).alloc (Nat.le_refl _) _) (Nat.le_refl _) _⟩

theorem ks_any (w : World) : Calls Tryd.prog 51 #[] w fun e w' => ∃ A, e = .returned (.slice A 64 64) ∧ Rd w' 1 A 64 (w32s Sha.ks) ∧ Below w.heap.size w w' := by
  go_enter Tryd.func51, Tryd.ntmps51
  go_wp2
  go_ret
  exact ⟨_, rfl, Rd.of_lit w (w32s Sha.ks).toArray _ 1 64 (by decide) (by decide), (Below.refl _ _).alloc (Nat.le_refl _) _⟩
end Go.Proofs.YtjmfmlkjippiaaaDoor
