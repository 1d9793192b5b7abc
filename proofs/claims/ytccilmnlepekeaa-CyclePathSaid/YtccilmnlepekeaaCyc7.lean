/- slices.Sort and slices.Compact on a slice of the call's own; the plain law of what they leave. -/
import Derived.Test.YtccilmnlepekeaaCyc6
import Derived.Test.YtccilmnlepekeaaCycD
namespace Go.Proofs.Ytccilmnlepekeaa
open Go.RowKit Go.Sort Go.Lib
/-- two rising rows with the same members are one -/
theorem rise_eq : ∀ {l m : List Int}, l.Pairwise (· < ·) → m.Pairwise (· < ·) → (∀ x, x ∈ l ↔ x ∈ m) → l = m
  | [], [], _, _, _ => rfl
  | [], b :: m, _, _, h => by have := (h b).2 (by simp); simp at this
  | a :: l, [], _, _, h => by have := (h a).1 (by simp); simp at this
  | a :: l, b :: m, h1, h2, h => by
    obtain ⟨ha, k1⟩ := List.pairwise_cons.1 h1
    obtain ⟨hb, k2⟩ := List.pairwise_cons.1 h2
    have e : a = b := by
      have x := (h a).1 (by simp)
      have y := (h b).2 (by simp)
      rcases List.mem_cons.1 x with x | x
      · exact x
      · rcases List.mem_cons.1 y with y | y
        · exact y.symm
        · have := ha b y
          have := hb a x
          omega
    subst e
    have hm : ∀ x, x ∈ l ↔ x ∈ m := by
      intro x
      constructor
      · intro hx
        rcases List.mem_cons.1 ((h x).1 (List.mem_cons_of_mem _ hx)) with e | e
        · subst e; have := ha x hx; omega
        · exact e
      · intro hx
        rcases List.mem_cons.1 ((h x).2 (List.mem_cons_of_mem _ hx)) with e | e
        · subst e; have := hb x hx; omega
        · exact e
    rw [rise_eq k1 k2 hm]
theorem compact_rise {ys : List Int} (h : ys.Pairwise (· ≤ ·)) : ∀ m, m ≤ ys.length → (compactUpTo ys.toArray m).Pairwise (· < ·) ∧ ∀ x, x ∈ compactUpTo ys.toArray m ↔ x ∈ ys.take m
  | 0, _ => by simp [compactUpTo]
  | m + 1, hm => by
    obtain ⟨h1, h2⟩ := compact_rise h m (by omega)
    rw [compactUpTo_succ]
    have hd : ys.toArray[m]! = ys[m] := by simp [getElem!_pos, show m < ys.length by omega]
    have htk : ys.take (m + 1) = ys.take m ++ [ys[m]] := by rw [List.take_add_one, List.getElem?_eq_getElem (by omega)]; rfl
    rw [htk, hd]
    have hp := List.pairwise_iff_getElem.1 h
    by_cases hk : keeps ys.toArray m = true
    · rw [if_pos hk]
      refine ⟨List.pairwise_append.2 ⟨h1, by simp, fun a ha b hb => ?_⟩, fun x => by simp only [List.mem_append, List.mem_singleton, h2 x]⟩
      have := (h2 a).1 ha
      simp only [List.mem_singleton] at hb
      subst hb
      obtain ⟨j, hj, rfl⟩ := List.mem_iff_getElem.1 this
      rw [List.length_take] at hj
      rw [List.getElem_take]
      simp only [keeps, decide_eq_true_eq] at hk
      rcases hk with hk | hk
      · omega
      · have e : ys.toArray[m - 1]! = ys[m - 1] := by simp [getElem!_pos, show m - 1 < ys.length by omega]
        rw [hd, e] at hk
        have q1 := hp (m - 1) m (by omega) (by omega) (by omega)
        rcases Nat.lt_or_ge j (m - 1) with hlt | hge
        · have := hp j (m - 1) (by omega) (by omega) hlt
          omega
        · obtain rfl : j = m - 1 := by omega
          omega
    · rw [if_neg hk]
      simp only [keeps, decide_eq_true_eq, not_or] at hk
      obtain ⟨hm0, hk⟩ := hk
      have e : ys.toArray[m - 1]! = ys[m - 1] := by simp [getElem!_pos, show m - 1 < ys.length by omega]
      have he : ys[m] = ys[m - 1] := by
        rw [hd, e] at hk
        exact Classical.not_not.1 hk
      have hmem : ys[m] ∈ ys.take m := by
        rw [he]
        exact List.mem_iff_getElem.2 ⟨m - 1, by rw [List.length_take]; omega, by rw [List.getElem_take]⟩
      refine ⟨by simpa using h1, fun x => ?_⟩
      simp only [List.append_nil, List.mem_append, List.mem_singleton]
      rw [h2 x]
      exact ⟨fun hx => .inl hx, fun hx => hx.elim id fun e => by rw [e]; exact hmem⟩
/-- a row sorted, each once -/
def sortI (l : List Int) : List Int := l.mergeSort fun x y => decide (x ≤ y)
theorem sortI_le (l : List Int) : (sortI l).Pairwise (· ≤ ·) := by
  have := List.pairwise_mergeSort (le := fun x y : Int => decide (x ≤ y)) (fun a b c h1 h2 => by simp only [decide_eq_true_eq] at *; omega) (fun a b => by simp only [Bool.or_eq_true, decide_eq_true_eq]; omega) l
  exact this.imp fun h => by simpa using h
theorem sortI_mem (l : List Int) (x : Int) : x ∈ sortI l ↔ x ∈ l := List.mem_mergeSort
theorem sortI_length (l : List Int) : (sortI l).length = l.length := List.length_mergeSort l
theorem compact_sort (l : List Int) : (compact (sortI l)).Pairwise (· < ·) ∧ ∀ x, x ∈ compact (sortI l) ↔ x ∈ l := by
  obtain ⟨h1, h2⟩ := compact_rise (sortI_le l) (sortI l).length (Nat.le_refl _)
  refine ⟨h1, fun x => ?_⟩
  rw [compact, h2 x, List.take_length, sortI_mem]
theorem toArray_bang (ys : List Int) {j : Nat} (hj : j < ys.length) : ys.toArray[j]! = ys[j] := by simp [getElem!_pos, hj]
/-- what a row of the call's own holds, as slices.Sort's contract asks it -/
theorem Own.holds {w : World} {base b o c : Nat} {t : TypeId} {ys : List Int} (h : Own w base t 1 (some ⟨b, o, none⟩) ys.length c (intV ys)) : Holds (Value.int .i64) w b o ys.toArray := by
  intro j hj
  rw [List.size_toArray] at hj
  obtain ⟨hl, hn, hm, hc⟩ := h
  rcases hc with ⟨e, _⟩ | ⟨b', o', cur, fr, e, hb, hg, hf, hs, hx⟩
  · cases e
  cases e
  have hjx := hx j (by omega)
  rw [intV_get (List.getElem?_eq_getElem hj)] at hjx
  refine ⟨?_, hf.cell hg (by have := (Array.getElem?_eq_some_iff.1 hjx).1; exact this)⟩
  rw [toArray_bang ys hj]
  simp [World.cell?, hg, hjx]
theorem heap_putRow {w : World} {b o n : Nat} {os : Array Obj} {cur : Array Value} {e : TypeId} {fr : Nat × Nat} (d : Array Int) (hb : w.heap[b]? = some (.cells cur e fr)) :
    (grow (putRow (Value.int .i64) (Sort.ahead w n) b o d) os).heap[b]? = some (.cells (putCells (Value.int .i64) o d cur) e fr) := by
  have hg : b < w.heap.size := (Array.getElem?_eq_some_iff.1 hb).1
  rw [heap_grow_old _ _ (by simpa using hg)]
  simp [putRow, mapBlock, Sort.ahead, Array.getElem?_modify, hb, onCells]
theorem grownBy_putRow {w : World} {b o n : Nat} {os : Array Obj} (d : Array Int) : w.grownBy (grow (putRow (Value.int .i64) (Sort.ahead w n) b o d) os) (some b) := by
  refine ⟨rfl, rfl, rfl, by simp, fun k hk hne => ?_⟩
  rw [heap_grow_old _ _ (by simpa using hk)]
  have : b ≠ k := fun e => hne (by rw [e])
  simp [putRow, mapBlock, Sort.ahead, Array.getElem?_modify, this]
/-- .. and behind it: the row that it wrote, or what it begins with -/
theorem Own.putRow {w : World} {base b o c n k : Nat} {t : TypeId} {ys : List Int} {zs : List Int} {os : Array Obj} (h : Own w base t 1 (some ⟨b, o, none⟩) ys.length c (intV ys)) (hk : k ≤ zs.length) (hz : zs.length = ys.length) :
    Own (grow (Go.Sort.putRow (Value.int .i64) (Sort.ahead w n) b o zs.toArray) os) base t 1 (some ⟨b, o, none⟩) k c (intV (zs.take k)) := by
  obtain ⟨hl, hn, hm, hc⟩ := h
  rcases hc with ⟨e, _⟩ | ⟨b', o', cur, fr, e, hb, hg, hf, hs, hx⟩
  · cases e
  cases e
  refine ⟨by rw [intV_length, List.length_take]; omega, by omega, hm, .inr ⟨b, o, _, fr, rfl, hb, heap_putRow _ hg, by simpa [putCells] using hf, by simpa [putCells] using hs, fun j hj => ?_⟩⟩
  rw [intV_get (x := zs[j]) (by rw [List.getElem?_take_of_lt (by omega), List.getElem?_eq_getElem (by omega)])]
  have hcu : o + j < cur.size := by omega
  simp only [putCells, Array.getElem?_mapIdx, Array.getElem?_eq_getElem hcu, Option.map_some, List.size_toArray]
  rw [if_pos (by omega), show o + j - o = j by omega, toArray_bang zs (by omega)]
theorem compact_len (ys : List Int) : (compact ys).length ≤ ys.length := by
  rw [compact, compactUpTo, List.length_map]
  exact Nat.le_trans (List.length_filter_le _ _) (by simp)
/-- slices.Sort on a row of the call's own -/
theorem sort_own (w : World) (base : Nat) (A : Option Addr) (c : Nat) (ys : List Int) (h : Own w base 3 1 A ys.length c (intV ys)) (hl : ys.length ≤ 1000) :
    Calls Try.prog 32 #[.slice A ys.length c] w fun e w' => e = .returned (.tuple #[]) ∧ Own w' base 3 1 A ys.length c (intV (sortI ys)) ∧ w.grownBy w' (blockOf A) := by
  rcases Nat.eq_zero_or_pos ys.length with h0 | h0
  · obtain rfl : ys = [] := List.eq_nil_of_length_eq_zero h0
    refine (AnyM.slices_Sort_int_none Try.cycSort A c w).mono ?_
    rintro e w' ⟨rfl, rfl⟩
    refine ⟨rfl, by simpa [sortI] using h, ⟨rfl, rfl, rfl, Nat.le_refl _, fun _ _ _ => rfl⟩⟩
  · obtain ⟨b, o, cur, fr, rfl, hb, hg, _⟩ := h.at_ (by have := h.2.1; omega)
    refine (AnyM.slices_Sort_int Try.cycSort b o c ys w h.holds (heap_lt hg) (by omega)).mono ?_
    rintro e w' ⟨rfl, n, os, rfl⟩
    refine ⟨rfl, ?_, grownBy_putRow _⟩
    have hp := h.putRow (n := n) (os := os) (zs := sortI ys) (k := ys.length) (by rw [sortI_length]; omega) (sortI_length ys)
    rw [List.take_of_length_le (by rw [sortI_length]; omega)] at hp
    exact hp
/-- slices.Compact on a row of the call's own -/
theorem compact_own (w : World) (base : Nat) (A : Option Addr) (c : Nat) (ys : List Int) (h : Own w base 3 1 A ys.length c (intV ys)) (hl : ys.length ≤ 1000) :
    Calls Try.prog 33 #[.slice A ys.length c] w fun e w' => e = .returned (.slice A (compact ys).length c) ∧ Own w' base 3 1 A (compact ys).length c (intV (compact ys)) ∧ w.grownBy w' (blockOf A) := by
  rcases Nat.eq_zero_or_pos ys.length with h0 | h0
  · obtain rfl : ys = [] := List.eq_nil_of_length_eq_zero h0
    refine (AnyG.slices_Compact_int_empty Try.cycCompact A c w).mono ?_
    rintro e w' ⟨rfl, rfl⟩
    refine ⟨rfl, h, ⟨rfl, rfl, rfl, Nat.le_refl _, fun _ _ _ => rfl⟩⟩
  · obtain ⟨b, o, cur, fr, rfl, hb, hg, _⟩ := h.at_ (by have := h.2.1; omega)
    refine (AnyG.slices_Compact_int Try.cycCompact b o c ys w h.holds (by omega) h.2.1).mono ?_
    rintro e w' ⟨rfl, n, rfl⟩
    refine ⟨rfl, ?_, ?_⟩
    · have hc := compact_len ys
      have hp := h.putRow (n := n) (os := #[]) (zs := compact ys ++ List.replicate (ys.length - (compact ys).length) 0) (k := (compact ys).length) (by simp) (by simp; omega)
      rw [List.take_left, grow_empty] at hp
      exact hp
    · have := grownBy_putRow (w := w) (b := b) (o := o) (n := n) (os := #[]) (compact ys ++ List.replicate (ys.length - (compact ys).length) 0).toArray
      rw [grow_empty] at this
      exact this
end Go.Proofs.Ytccilmnlepekeaa
