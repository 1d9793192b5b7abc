/- A pair of texts as an argument: its sizes. -/
import Derived.Test.YtbighckpogfcaaaLawTwo
namespace Go.Proofs.Ytbighckpogfcaaa
open Go.ChangeShapes Go.WideShapes Go.ChangeAt Go.RowKit Go.Maps
set_option maxRecDepth 100000
variable {H : Type}
theorem two_sized {ts : List TypeId} {ds : List (DataW H)} (h : (DataW.weightsEach Try.prog ts ds).all (· ≤ reachBytes) = true) {j : Nat} (ht : ts[j]? = some 35) {d : DataW H} (hd : ds[j]? = some d) {s0 s1 : ByteArray}
    (hl : d = .agg [.lit (.string s0.data.toList), .lit (.string s1.data.toList)]) : (s0.size : Int) ≤ 140737488355328 ∧ (s1.size : Int) ≤ 140737488355328 := by
  subst hl
  have h47 := reachBytes_lt
  have hle := fun n hn => of_decide_eq_true (List.all_eq_true.1 h n (DataW.weights_mem_each ht hd n hn))
  have hu : Try.prog.underlying 35 = some (.array 2 9) := Try.underlying35
  rw [DataW.weights, hu] at hle
  simp only [DataW.weightsAll, DataW.weights, List.mem_append, List.mem_cons, List.not_mem_nil, or_false] at hle
  have h0 := hle _ (.inl rfl)
  have h1 := hle _ (.inr rfl)
  rw [toList_length] at h0 h1
  omega
end Go.Proofs.Ytbighckpogfcaaa
