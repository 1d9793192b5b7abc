/- Rows of numbers of the call's own, in a row of the call's own. -/
import Derived.Test.YtccilmnlepekeaaCyc7
namespace Go.Proofs.Ytccilmnlepekeaa
open Go.RowKit
/-- the rows lie each for itself -/
structure Nest (w : World) (base gO : Nat) (rows : List (List Int)) (As : Nat → Option Addr) (cs : Nat → Nat) : Prop where
  vs : ∃ vs : List Value, w.heap[gO]? = some (.cells vs.toArray 25 (0, 0)) ∧ vs.length = rows.length ∧ ∀ i row, rows[i]? = some row → vs[i]? = some (Value.slice (As i) row.length (cs i))
  own : ∀ i row, rows[i]? = some row → Own w base 3 1 (As i) row.length (cs i) (intV row)
  apart : ∀ i j b, i < rows.length → j < rows.length → i ≠ j → blockOf (As i) = some b → blockOf (As j) ≠ some b
section
variable {w w' : World} {base gO : Nat} {rows : List (List Int)} {As : Nat → Option Addr} {cs : Nat → Nat}
theorem Nest.lt (h : Nest w base gO rows As cs) : gO < w.heap.size := by
  obtain ⟨vs, h1, _⟩ := h.vs
  exact heap_lt h1
theorem Nest.get (h : Nest w base gO rows As cs) {i : Nat} {row : List Int} (hi : rows[i]? = some row) : w.cell? ⟨gO, i, none⟩ = some (.slice (As i) row.length (cs i)) ∧ w.frozen? ⟨gO, i, none⟩ = false := by
  obtain ⟨vs, h1, _, h3⟩ := h.vs
  refine ⟨?_, frozen_of_row w gO i _ _ h1⟩
  rw [cell_of_row w gO i _ _ _ h1]
  simpa using h3 i row hi
theorem Nest.ne (h : Nest w base gO rows As cs) {i : Nat} {row : List Int} (hi : rows[i]? = some row) : blockOf (As i) ≠ some gO := by
  obtain ⟨vs, h1, _⟩ := h.vs
  exact (h.own i row hi).ne h1 (by decide)
theorem Nest.grd (h : Nest w base gO rows As cs) : GRd w (some ⟨gO, 0, none⟩) rows := by
  obtain ⟨vs, h1, h2, h3⟩ := h.vs
  refine ⟨vs, Box.rd ⟨_, h1⟩ h2, fun i row hi => ⟨As i, cs i, h3 i row hi, (h.own i row hi).rd⟩⟩
theorem Nest.alloc (h : Nest w base gO rows As cs) (o : Obj) : Nest (w.alloc o) base gO rows As cs := by
  obtain ⟨vs, h1, h2, h3⟩ := h.vs
  exact ⟨⟨vs, by rw [Below.heap_alloc w o _ (heap_lt h1)]; exact h1, h2, h3⟩, fun i row hi => (h.own i row hi).alloc o, h.apart⟩
theorem Nest.below (h : Nest w base gO rows As cs) {B : Nat} (hb : Below B w w') (hB : w.heap.size ≤ B) : Nest w' base gO rows As cs := by
  obtain ⟨vs, h1, h2, h3⟩ := h.vs
  exact ⟨⟨vs, by rw [hb.block _ (by have := heap_lt h1; omega)]; exact h1, h2, h3⟩, fun i row hi => (h.own i row hi).below hb hB, h.apart⟩
/-- one row's block was written on, its header stays -/
theorem Nest.wrote (h : Nest w base gO rows As cs) {i : Nat} {row row' : List Int} (hi : rows[i]? = some row) (hl : row'.length = row.length) (hg : w.grownBy w' (blockOf (As i))) (ho : Own w' base 3 1 (As i) row'.length (cs i) (intV row')) :
    Nest w' base gO (rows.set i row') As cs := by
  have hlt := (List.getElem?_eq_some_iff.1 hi).1
  obtain ⟨vs, h1, h2, h3⟩ := h.vs
  refine ⟨⟨vs, ?_, by rw [List.length_set]; exact h2, fun j row2 hj => ?_⟩, fun j row2 hj => ?_, fun a b c ha hb => h.apart a b c (by rwa [List.length_set] at ha) (by rwa [List.length_set] at hb)⟩
  · rw [hg.block gO (heap_lt h1) (fun e => h.ne hi e.symm)]
    exact h1
  · by_cases hij : i = j
    · subst hij
      rw [List.getElem?_set_self hlt] at hj
      cases hj
      rw [h3 i row hi, hl]
    · rw [List.getElem?_set_ne hij] at hj
      exact h3 j row2 hj
  · by_cases hij : i = j
    · subst hij
      rw [List.getElem?_set_self hlt] at hj
      cases hj
      exact ho
    · rw [List.getElem?_set_ne hij] at hj
      exact (h.own j row2 hj).grown hg fun b hb e => h.apart j i b (List.getElem?_eq_some_iff.1 hj).1 hlt (fun e => hij e.symm) hb e.symm
/-- one row was put in the place of what was there -/
theorem Nest.put (h : Nest w base gO rows As cs) {i : Nat} {row row' : List Int} {A' : Option Addr} {c' : Nat} (hi : rows[i]? = some row) (hg : w.grownBy w' (blockOf (As i))) (ho : Own w' base 3 1 A' row'.length c' (intV row'))
    (hb : blockOf A' = blockOf (As i) ∨ ∀ b, blockOf A' = some b → w.heap.size ≤ b) :
    Nest (w'.setCell ⟨gO, i, none⟩ (.slice A' row'.length c')) base gO (rows.set i row') (fun j => if j = i then A' else As j) (fun j => if j = i then c' else cs j) := by
  have hlt := (List.getElem?_eq_some_iff.1 hi).1
  obtain ⟨vs, h1, h2, h3⟩ := h.vs
  have h1' : w'.heap[gO]? = some (.cells vs.toArray 25 (0, 0)) := by
    rw [hg.block gO (heap_lt h1) (fun e => h.ne hi e.symm)]
    exact h1
  refine ⟨⟨vs.set i (.slice A' row'.length c'), row_setCell1 h1' i _, by simp [h2], fun j row2 hj => ?_⟩, fun j row2 hj => ?_, fun a b c ha hb' hab => ?_⟩
  · by_cases hij : i = j
    · subst hij
      rw [List.getElem?_set_self hlt] at hj
      cases hj
      rw [List.getElem?_set_self (by omega), if_pos rfl, if_pos rfl]
    · rw [List.getElem?_set_ne hij] at hj
      rw [List.getElem?_set_ne hij, if_neg (fun e => hij e.symm), if_neg (fun e => hij e.symm)]
      exact h3 j row2 hj
  · by_cases hij : i = j
    · subst hij
      rw [List.getElem?_set_self hlt] at hj
      cases hj
      rw [if_pos rfl, if_pos rfl]
      exact ho.setOther (p := ⟨gO, i, none⟩) (ho.ne h1' (by decide)) _
    · rw [List.getElem?_set_ne hij] at hj
      rw [if_neg (fun e => hij e.symm), if_neg (fun e => hij e.symm)]
      exact ((h.own j row2 hj).grown hg fun b hb e => h.apart j i b (List.getElem?_eq_some_iff.1 hj).1 hlt (fun e => hij e.symm) hb e.symm).setOther (p := ⟨gO, i, none⟩) (h.ne hj) _
  · rw [List.length_set] at ha hb'
    have hlt2 : ∀ j, j < rows.length → ∀ b, blockOf (As j) = some b → b < w.heap.size := fun j hj b hbb => ((h.own j _ (List.getElem?_eq_getElem hj)).block b hbb).2.1
    have hnew : ∀ j, j < rows.length → j ≠ i → ∀ b, blockOf A' = some b → blockOf (As j) ≠ some b := fun j hj hji b e1 e2 => by
      rcases hb with hb | hb
      · exact h.apart i j b hlt hj (fun e => hji e.symm) (by rw [← hb]; exact e1) e2
      · have := hb b e1
        have := hlt2 j hj b e2
        omega
    intro e1 e2
    by_cases hai : a = i
    · rw [if_pos hai] at e1
      by_cases hbi : b = i
      · exact hab (by rw [hai, hbi])
      · rw [if_neg hbi] at e2
        exact hnew b hb' hbi c e1 e2
    · rw [if_neg hai] at e1
      by_cases hbi : b = i
      · rw [if_pos hbi] at e2
        exact hnew a ha hai c e2 e1
      · rw [if_neg hbi] at e2
        exact h.apart a b c ha hb' hab e1 e2
end
theorem info_ints : (Try.prog.info? 25).map (fun i => (i.zero, i.size, i.bytes)) = some (some (.slice none 0 0), 1, 24) := by kernel_rfl
theorem made_rows_at (w : World) (t : TypeId) (ht : Try.prog.underlying t = some (.slice 25)) (m : Nat) (hm : m ≤ 1000) : (Instr.makeSlice t (.int .i64 (m : Int)) (.int .i64 (m : Int))).run Try.prog w = .ok (.slice (some ⟨w.heap.size, 0, none⟩) m m) (w.alloc (.cells (List.replicate m (Value.slice none 0 0)).toArray 25)) := by
  have h := info_ints
  cases hi : Try.prog.info? 25 with
  | none => rw [hi] at h; cases h
  | some i =>
    rw [hi] at h
    simp only [Option.map_some, Option.some.injEq, Prod.mk.injEq] at h
    obtain ⟨hz, hs, hb⟩ := h
    rw [run_make w t 25 i (.slice none 0 0) ht hi hz .i64 .i64 m m (by omega) (Int.le_refl _) (by rw [hb]; omega) (by omega), Int.toNat_natCast, hs, Nat.mul_one]
    have e : madeCells (Value.slice none 0 0).cells m = (List.replicate m (Value.slice none 0 0)).toArray := by
      have := toList_madeCells_one (Value.slice none 0 0) m
      rw [show (Value.slice none 0 0).cells = #[Value.slice none 0 0] from rfl, ← Array.toArray_toList (xs := madeCells #[Value.slice none 0 0] m), this]
    rw [e]
theorem made_rows (w : World) (m : Nat) (hm : m ≤ 1000) : (Instr.makeSlice 22 (.int .i64 (m : Int)) (.int .i64 (m : Int))).run Try.prog w = .ok (.slice (some ⟨w.heap.size, 0, none⟩) m m) (w.alloc (.cells (List.replicate m (Value.slice none 0 0)).toArray 25)) := made_rows_at w _ Try.underlying22 m hm
theorem Nest.bare {w : World} {g m : Nat} (h : w.heap[g]? = some (.cells (List.replicate m (Value.slice none 0 0)).toArray 25 (0, 0))) (base : Nat) : Nest w base g (List.replicate m []) (fun _ => none) (fun _ => 0) := by
  refine ⟨⟨_, h, by simp, fun i row hi => ?_⟩, fun i row hi => ?_, (fun i j b _ _ _ e => by cases e)⟩
  · rw [List.getElem?_replicate] at hi ⊢
    split at hi
    · rename_i h
      rw [if_pos h]
      cases hi
      rfl
    · cases hi
  · rw [List.getElem?_replicate] at hi
    split at hi
    · cases hi
      exact Own.nil _ _ _ _
    · cases hi
theorem Nest.made (w : World) (m base : Nat) : Nest (w.alloc (.cells (List.replicate m (Value.slice none 0 0)).toArray 25)) base w.heap.size (List.replicate m []) (fun _ => none) (fun _ => 0) :=
  Nest.bare (heap_alloc_new w _) base
/-- rows of numbers read in each world in which some blocks are as they were -/
def GRdK (R : World → Prop) (A : Option Addr) (G : List (List Int)) : Prop :=
  ∃ hs : List Value, (∀ W, R W → Rd W 1 A G.length hs) ∧ ∀ (i : Nat) (row : List Int), G[i]? = some row → ∃ (B : Option Addr) (c : Nat), hs[i]? = some (Value.slice B row.length c) ∧ ∀ W, R W → Rd W 1 B row.length (intV row)
theorem GRdK.grd {R : World → Prop} {A : Option Addr} {G : List (List Int)} (h : GRdK R A G) {W : World} (hW : R W) : GRd W A G := by
  obtain ⟨hs, h1, h2⟩ := h
  refine ⟨hs, h1 W hW, fun i row hi => ?_⟩
  obtain ⟨B, c, h3, h4⟩ := h2 i row hi
  exact ⟨B, c, h3, h4 W hW⟩
theorem GRdK.imp {R S : World → Prop} {A : Option Addr} {G : List (List Int)} (h : GRdK R A G) (hi : ∀ W, S W → R W) : GRdK S A G := by
  obtain ⟨hs, h1, h2⟩ := h
  refine ⟨hs, fun W hW => h1 W (hi W hW), fun i row hr => ?_⟩
  obtain ⟨B, c, h3, h4⟩ := h2 i row hr
  exact ⟨B, c, h3, fun W hW => h4 W (hi W hW)⟩
theorem GRdK.row {R : World → Prop} {A : Option Addr} {G : List (List Int)} (h : GRdK R A G) {W0 : World} (h0 : R W0) {i : Nat} {row : List Int} (hi : G[i]? = some row) :
    ∃ a o B c, A = some ⟨a, o, none⟩ ∧ (∀ W, R W → W.cell? ⟨a, o + i, none⟩ = some (.slice B row.length c)) ∧ ∀ W, R W → Rd W 1 B row.length (intV row) := by
  obtain ⟨hs, h1, h2⟩ := h
  obtain ⟨B, c, h3, h4⟩ := h2 i row hi
  have hil := (List.getElem?_eq_some_iff.1 hi).1
  obtain ⟨a, o, rfl, hc⟩ := (h1 W0 h0).2 (by omega)
  refine ⟨a, o, B, c, rfl, fun W hW => ?_, h4⟩
  obtain ⟨a', o', e, hc'⟩ := (h1 W hW).2 (by omega)
  cases e
  exact hc' i _ h3
theorem GRd.k {w : World} {A : Option Addr} {G : List (List Int)} (h : GRd w A G) : GRdK (fun W => Below w.heap.size w W) A G := by
  obtain ⟨hs, h1, h2⟩ := h
  refine ⟨hs, fun W hW => h1.below_all hW, fun i row hi => ?_⟩
  obtain ⟨B, c, h3, h4⟩ := h2 i row hi
  exact ⟨B, c, h3, fun W hW => h4.below_all hW⟩
theorem Nest.grdk {w : World} {base gO : Nat} {rows : List (List Int)} {As : Nat → Option Addr} {cs : Nat → Nat} (h : Nest w base gO rows As cs) {b0 : Nat} (hb : b0 ≤ base) (hg : b0 ≤ gO) : GRdK (fun W => ∀ b, b0 ≤ b → b < w.heap.size → W.heap[b]? = w.heap[b]?) (some ⟨gO, 0, none⟩) rows := by
  obtain ⟨vs, h1, h2, h3⟩ := h.vs
  refine ⟨vs, fun W hW => Box.rd ⟨_, by rw [hW gO hg (heap_lt h1)]; exact h1⟩ h2, fun i row hi => ⟨As i, cs i, h3 i row hi, fun W hW => ?_⟩⟩
  exact ((h.own i row hi).keep fun b _ hb2 hlt => hW b (by omega) hlt).rd
end Go.Proofs.Ytccilmnlepekeaa
