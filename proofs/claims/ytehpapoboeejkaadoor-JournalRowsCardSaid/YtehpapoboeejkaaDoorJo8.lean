/- A journal's Swap: the walk. -/
import Derived.Test.YtehpapoboeejkaaDoorJo5
import Derived.Test.YtehpapoboeejkaaDoorBld
namespace Go.Proofs.YtehpapoboeejkaaDoor
open Go.RowKit Go.Maps
/-- what Swap answers, and leaves -/
def swapR (M : Tab FileE) (left : Int) (nm : List UInt8) (rs : List (List UInt8)) : Int × Tab FileE × Int :=
  if tidE M left (newL nm) ≠ 0 then (tidE M left (newL nm), tidM M left (newL nm), tidL M left (newL nm))
  else anewR (tidM M left (newL nm)) (tidL M left (newL nm)) (newL nm) (framesL rs) nm
theorem framesL_le {rs : List (List UInt8)} (h : ∀ r ∈ rs, r.length ≤ 100) : (framesL rs).length ≤ 112 * rs.length := by
  induction rs with
  | nil => simp [framesL]
  | cons r l ih =>
    have h1 := ih (fun x hx => h x (List.mem_cons_of_mem _ hx))
    have h2 := h r (List.mem_cons_self ..)
    simp only [framesL, List.length_append, frameL_length, List.length_cons]
    omega
theorem framesL_ne {rs : List (List UInt8)} (h : rs ≠ []) : framesL rs ≠ [] := by
  cases rs with
  | nil => exact absurd rfl h
  | cons r l =>
    intro e
    have := congrArg List.length e
    simp only [framesL, List.length_append, frameL_length, List.length_nil] at this
    omega
theorem JBut.low {j p b : Nat} {x y z : World} (h : JBut j p b x y) (k : Below x.heap.size y z) : JBut j p b x z :=
  ⟨k.os.trans h.os, k.tape.trans h.tape, k.output.trans h.output, Nat.le_trans h.size k.size, fun i h1 h2 h3 h4 => (k.block i h1).trans (h.block i h1 h2 h3 h4)⟩
theorem tid_all {M : Tab FileE} {B : Nat} (h : ∀ x ∈ M, x.2.1.length ≤ B) (left : Int) (k : List UInt8) : ∀ x ∈ tidM M left k, x.2.1.length ≤ B := by
  unfold tidM
  split
  · unfold remM
    split
    · exact fun x hx => h x (List.mem_filter.1 hx).1
    · exact h
  · exact h
theorem file_all {M : Tab FileE} {B : Nat} (h : ∀ x ∈ M, x.2.1.length ≤ B) (k : List UInt8) : (fileOf M k).1.length ≤ B := by
  unfold fileOf
  cases hq : getM M k with
  | none => simp
  | some y =>
    unfold getM at hq
    obtain ⟨x, hx, rfl⟩ := Option.map_eq_some_iff.1 hq
    exact h x (List.mem_of_find?_eq_some hx)
theorem tid_file {M : Tab FileE} (h : ∀ x ∈ M, x.2.1.length ≤ 1000000) (left : Int) (k : List UInt8) : (fileOf (tidM M left k) k).1.length ≤ 100000000 :=
  Nat.le_trans (file_all (tid_all h left k) k) (by decide)
end Go.Proofs.YtehpapoboeejkaaDoor
