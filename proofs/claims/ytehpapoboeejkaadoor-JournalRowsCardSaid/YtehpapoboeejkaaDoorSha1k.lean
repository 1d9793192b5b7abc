/- The walks of the two tables of constants. -/
import Derived.Test.YtehpapoboeejkaaDoorSha2
namespace Go.Proofs.YtehpapoboeejkaaDoor
open Go.RowKit
theorem info_ks : (Tryd.prog.info? 126).map (·.size) = some (w32s Sha.ks).length := by kernel_rfl
theorem fit_ks : 0 + (w32s Sha.ks).length ≤ (Array.size #[Value.int .u32 0, Value.int .u32 0, Value.int .u32 0, Value.int .u32 0, Value.int .u32 0, Value.int .u32 0, Value.int .u32 0, Value.int .u32 0, Value.int .u32 0, Value.int .u32 0, Value.int .u32 0, Value.int .u32 0, Value.int .u32 0, Value.int .u32 0, Value.int .u32 0, Value.int .u32 0, Value.int .u32 0, Value.int .u32 0, Value.int .u32 0, Value.int .u32 0, Value.int .u32 0, Value.int .u32 0, Value.int .u32 0, Value.int .u32 0, Value.int .u32 0, Value.int .u32 0, Value.int .u32 0, Value.int .u32 0, Value.int .u32 0, Value.int .u32 0, Value.int .u32 0, Value.int .u32 0, Value.int .u32 0, Value.int .u32 0, Value.int .u32 0, Value.int .u32 0, Value.int .u32 0, Value.int .u32 0, Value.int .u32 0, Value.int .u32 0, Value.int .u32 0, Value.int .u32 0, Value.int .u32 0, Value.int .u32 0, Value.int .u32 0, Value.int .u32 0, Value.int .u32 0, Value.int .u32 0, Value.int .u32 0, Value.int .u32 0, Value.int .u32 0, Value.int .u32 0, Value.int .u32 0, Value.int .u32 0, Value.int .u32 0, Value.int .u32 0, Value.int .u32 0, Value.int .u32 0, Value.int .u32 0, Value.int .u32 0, Value.int .u32 0, Value.int .u32 0, Value.int .u32 0, Value.int .u32 0]) := by decide
set_option maxRecDepth 100000 in
theorem constants_any (w : World) : Calls Tryd.prog 77 #[] w fun e w' => e = .returned (.agg (w32s Sha.ks).toArray) ∧ Below w.heap.size w w' := by
  go_enter Tryd.func77, Tryd.ntmps77
  go_wp2_with (first
    | (with_reducible refine wpList_build_lit (w32s Sha.ks).toArray ?_ ?_; kernel_rfl)
    | (with_reducible refine wpList_store_lit w.heap.size 0 (.agg (w32s Sha.ks).toArray) (w32s Sha.ks) (agg_cells _) _ _ (heap_alloc_new w _) info_ks fit_ks (w32s_one _) ?_ ?_; exact ⟨rfl, rfl⟩))
  refine bodyPost_ret (v := .agg (w32s Sha.ks).toArray) (results_cell_row rfl _ _ w.heap.size 126 _ (0, 0) _ rfl (setRow_heap _ _ _ _ _ _ (heap_alloc_new w _)) Tryd.underlying126 rfl (by kernel_rfl)) rfl ⟨rfl, below_setRow ((Below.refl _ _).alloc (Nat.le_refl _) _) (Nat.le_refl _) _⟩

end Go.Proofs.YtehpapoboeejkaaDoor
