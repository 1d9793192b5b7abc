/- slices.Sort and slices.Compact at texts, on a slice of the call's own. -/
import Derived.Test.YtjjpecggcjggpaaGreatDoorKb
import Derived.Test.YtjjpecggcjggpaaGreatDoorKc
import Derived.Test.YtjjpecggcjggpaaGreatDoorKeyD
set_option linter.unusedSimpArgs false
set_option linter.unusedVariables false
namespace Go.Proofs.YtjjpecggcjggpaaGreatDoor
open Go.RowKit Go.Sort Go.Lib
theorem encStr_strB (l : List UInt8) : encStr l = .string (strB l) := rfl
theorem strV_get {l : List (List UInt8)} {j : Nat} {x : List UInt8} (h : l[j]? = some x) : (strV l)[j]? = some (encStr x) := by rw [strV, List.getElem?_map, h]; rfl
theorem toArrT_bang (ys : List (List UInt8)) {j : Nat} (hj : j < ys.length) : ys.toArray[j]! = ys[j] := by simp [getElem!_pos, hj]
theorem Own.holdsT {w : World} {base b o c : Nat} {t : TypeId} {ys : List (List UInt8)} (h : Own w base t 1 (some ⟨b, o, none⟩) ys.length c (strV ys)) : Holds encStr w b o ys.toArray := by
  intro j hj
  rw [List.size_toArray] at hj
  obtain ⟨hl, hn, hm, hc⟩ := h
  rcases hc with ⟨e, _⟩ | ⟨b', o', cur, fr, e, hb, hg, hf, hs, hx⟩
  · cases e
  cases e
  have hjx := hx j (by omega)
  rw [strV_get (List.getElem?_eq_getElem hj)] at hjx
  refine ⟨?_, hf.cell hg (by have := (Array.getElem?_eq_some_iff.1 hjx).1; exact this)⟩
  rw [toArrT_bang ys hj]
  simp [World.cell?, hg, hjx]
theorem heap_putRowT {w : World} {b o n : Nat} {os : Array Obj} {cur : Array Value} {e : TypeId} {fr : Nat × Nat} (d : Array (List UInt8)) (hb : w.heap[b]? = some (.cells cur e fr)) :
    (grow (putRow encStr (Sort.ahead w n) b o d) os).heap[b]? = some (.cells (putCells encStr o d cur) e fr) := by
  have hg : b < w.heap.size := (Array.getElem?_eq_some_iff.1 hb).1
  rw [heap_grow_old _ _ (by simpa using hg)]
  simp [putRow, mapBlock, Sort.ahead, Array.getElem?_modify, hb, onCells]
theorem grownBy_putRowT {w : World} {b o n : Nat} {os : Array Obj} (d : Array (List UInt8)) : w.grownBy (grow (putRow encStr (Sort.ahead w n) b o d) os) (some b) := by
  refine ⟨rfl, rfl, rfl, by simp, fun k hk hne => ?_⟩
  rw [heap_grow_old _ _ (by simpa using hk)]
  have : b ≠ k := fun e => hne (by rw [e])
  simp [putRow, mapBlock, Sort.ahead, Array.getElem?_modify, this]
theorem Own.putRowT {w : World} {base b o c n k : Nat} {t : TypeId} {ys : List (List UInt8)} {zs : List (List UInt8)} {os : Array Obj} (h : Own w base t 1 (some ⟨b, o, none⟩) ys.length c (strV ys)) (hk : k ≤ zs.length) (hz : zs.length = ys.length) :
    Own (grow (Go.Sort.putRow encStr (Sort.ahead w n) b o zs.toArray) os) base t 1 (some ⟨b, o, none⟩) k c (strV (zs.take k)) := by
  obtain ⟨hl, hn, hm, hc⟩ := h
  rcases hc with ⟨e, _⟩ | ⟨b', o', cur, fr, e, hb, hg, hf, hs, hx⟩
  · cases e
  cases e
  refine ⟨by rw [strV, List.length_map, List.length_take]; omega, by omega, hm, .inr ⟨b, o, _, fr, rfl, hb, heap_putRowT _ hg, by simpa [putCells] using hf, by simpa [putCells] using hs, fun j hj => ?_⟩⟩
  rw [strV_get (x := zs[j]) (by rw [List.getElem?_take_of_lt (by omega), List.getElem?_eq_getElem (by omega)])]
  have hcu : o + j < cur.size := by omega
  simp only [putCells, Array.getElem?_mapIdx, Array.getElem?_eq_getElem hcu, Option.map_some, List.size_toArray]
  rw [if_pos (by omega), show o + j - o = j by omega, toArrT_bang zs (by omega)]
theorem sortT_own (w : World) (base : Nat) (A : Option Addr) (c : Nat) (ys : List (List UInt8)) (h : Own w base 9 1 A ys.length c (strV ys)) (hl : ys.length ≤ 1000000) :
    Calls Tryz.prog 53 #[.slice A ys.length c] w fun e w' => e = .returned (.tuple #[]) ∧ Own w' base 9 1 A ys.length c (strV (sortT ys)) ∧ w.grownBy w' (blockOf A) := by
  rcases Nat.eq_zero_or_pos ys.length with h0 | h0
  · obtain rfl : ys = [] := List.eq_nil_of_length_eq_zero h0
    refine (AnyM.slices_Sort_string_none Tryz.keySort A c w).mono ?_
    rintro e w' ⟨rfl, rfl⟩
    refine ⟨rfl, by simpa [sortT] using h, ⟨rfl, rfl, rfl, Nat.le_refl _, fun _ _ _ => rfl⟩⟩
  · obtain ⟨b, o, cur, fr, rfl, hb, hg, _⟩ := h.at_ (by have := h.2.1; omega)
    refine (AnyM.slices_Sort_string Tryz.keySort b o c ys w h.holdsT (heap_lt hg) (by omega)).mono ?_
    rintro e w' ⟨rfl, n, os, rfl⟩
    refine ⟨rfl, ?_, grownBy_putRowT _⟩
    have hp := h.putRowT (n := n) (os := os) (zs := sortT ys) (k := ys.length) (by rw [sortT_length]; omega) (sortT_length ys)
    rw [List.take_of_length_le (by rw [sortT_length]; omega)] at hp
    exact hp
theorem compactT_own (w : World) (base : Nat) (A : Option Addr) (c : Nat) (ys : List (List UInt8)) (h : Own w base 9 1 A ys.length c (strV ys)) (hl : ys.length ≤ 1000000) :
    Calls Tryz.prog 30 #[.slice A ys.length c] w fun e w' => e = .returned (.slice A (compact ys).length c) ∧ Own w' base 9 1 A (compact ys).length c (strV (compact ys)) ∧ w.grownBy w' (blockOf A) := by
  rcases Nat.eq_zero_or_pos ys.length with h0 | h0
  · obtain rfl : ys = [] := List.eq_nil_of_length_eq_zero h0
    refine (AnyG.slices_Compact_string_empty Tryz.keyCompact A c w).mono ?_
    rintro e w' ⟨rfl, rfl⟩
    refine ⟨rfl, h, ⟨rfl, rfl, rfl, Nat.le_refl _, fun _ _ _ => rfl⟩⟩
  · obtain ⟨b, o, cur, fr, rfl, hb, hg, _⟩ := h.at_ (by have := h.2.1; omega)
    refine (AnyG.slices_Compact_string Tryz.keyCompact b o c ys w h.holdsT (by omega) h.2.1).mono ?_
    rintro e w' ⟨rfl, n, rfl⟩
    refine ⟨rfl, ?_, ?_⟩
    · have hc := compactT_len ys
      have hp := h.putRowT (n := n) (os := #[]) (zs := compact ys ++ List.replicate (ys.length - (compact ys).length) []) (k := (compact ys).length) (by simp) (by simp; omega)
      rw [List.take_left, grow_empty] at hp
      exact hp
    · have := grownBy_putRowT (w := w) (b := b) (o := o) (n := n) (os := #[]) (compact ys ++ List.replicate (ys.length - (compact ys).length) []).toArray
      rw [grow_empty] at this
      exact this
end Go.Proofs.YtjjpecggcjggpaaGreatDoor
/- The key's set of texts. -/
namespace Go.Proofs.YtjjpecggcjggpaaGreatDoor
open Go.RowKit Go.Shelf
set_option maxRecDepth 100000
theorem collectT_any (w : World) (Bs : Nat) (A : Option Addr) (cap : Nat) (zs : List (List UInt8)) (hz : zs.length ≤ 1000000) (hBs : w.heap[Bs]? = some (.cells #[.slice A zs.length cap] 28 (0, 0))) (hr : Rd w 1 A zs.length (strV zs)) :
    Calls Tryz.prog 52 #[.func (.func 55) #[] #[.pointer (some ⟨Bs, 0, none⟩)]] w fun e w' => ∃ A' c, e = .returned (.slice A' zs.length c) ∧ Own w' w.heap.size 9 1 A' zs.length c (strV zs) ∧ Below w.heap.size w w' := by
  refine (callsIn_wide (n := 3)).1 ?_
  refine (collectT_in 3 (by omega) 55 #[.pointer (some ⟨Bs, 0, none⟩)] (enters_of Tryz.func55 (by kernel_rfl) rfl) _ _ zs.length w.heap.size (by unfold maxLen; omega) (by omega) w (Nat.le_refl _)
    (tvalues_stops 1 (Nat.le_refl _) Bs w.heap.size A cap zs (by omega) w (heap_lt hBs) (Nat.le_refl _) (cell_of_row w Bs 0 _ _ _ hBs) (fun W' hW' => hr.below_all hW'))).mono ?_
  rintro e w' ⟨v, ss, rfl, rfl, hrow, hb⟩
  obtain ⟨A', c, rfl, hown⟩ := own_of_rowT hrow
  exact ⟨A', c, rfl, hown, hb⟩
theorem sortedT_any (w : World) (Bs : Nat) (A : Option Addr) (cap : Nat) (zs : List (List UInt8)) (hz : zs.length ≤ 1000000) (hBs : w.heap[Bs]? = some (.cells #[.slice A zs.length cap] 28 (0, 0))) (hr : Rd w 1 A zs.length (strV zs)) :
    Calls Tryz.prog 28 #[.func (.func 55) #[] #[.pointer (some ⟨Bs, 0, none⟩)]] w fun e w' => ∃ A' c, e = .returned (.slice A' zs.length c) ∧ Own w' w.heap.size 9 1 A' zs.length c (strV (sortT zs)) ∧ Below w.heap.size w w' := by
  have cC := collectT_any w Bs A cap zs hz hBs hr
  clear hr hBs
  go_enter Tryz.func28, Tryz.ntmps28
  go_wp2_with (first
    | (go_at_call 52; refine cC.mono ?_; rintro e w1 ⟨A1, c1, rfl, hown1, hb1⟩)
    | (go_at_call 53; refine (sortT_own w1 w.heap.size A1 c1 zs hown1 hz).mono ?_; rintro e w2 ⟨rfl, hown2, hg2⟩))
  go_ret
  exact ⟨A1, c1, rfl, hown2, hb1.grown hg2 hb1.size (fun k e => (hown1.block k e).1)⟩
theorem values_any (w : World) (A : Option Addr) (n cap : Nat) : Calls Tryz.prog 31 #[.slice A n cap] w fun e w' => e = .returned (.func (.func 55) #[] #[.pointer (some ⟨w.heap.size, 0, none⟩)]) ∧ w' = w.alloc (.cells #[.slice A n cap] 28) :=
  (callsIn_wide (n := 3)).1 (tvalues_in 3 A n cap w)
theorem set_any (w : World) (A : Option Addr) (cap : Nat) (l : List (List UInt8)) (hl : l.length ≤ 1000000) (hr : Rd w 1 A l.length (strV l)) :
    Calls Tryz.prog 14 #[.slice A l.length cap] w fun e w' => ∃ A' c, e = .returned (.slice A' (setL l).length c) ∧ Own w' w.heap.size 9 1 A' (setL l).length c (strV (setL l)) ∧ Below w.heap.size w w' := by
  obtain ⟨w1, hw1⟩ : ∃ w1, w1 = w.alloc (.cells #[.slice A l.length cap] 28) := ⟨_, rfl⟩
  have hB1 : Below w.heap.size w w1 := by rw [hw1]; exact (Below.refl _ w).alloc (Nat.le_refl _) _
  have hbox : w1.heap[w.heap.size]? = some (.cells #[.slice A l.length cap] 28 (0, 0)) := by rw [hw1]; exact World.alloc_heap_new w _
  have cS := sortedT_any w1 w.heap.size A cap l hl hbox (hr.below_all hB1)
  have cV := values_any w A l.length cap
  rw [← hw1] at cV
  have hsl := sortT_length l
  have HSL := hid2 hsl
  clear hr hbox hw1 hsl
  go_enter Tryz.func14, Tryz.ntmps14
  go_wp2_with (first
    | (go_at_call 31; refine cV.mono ?_; rintro e wv ⟨rfl, hwv⟩; obtain rfl := hwv.symm)
    | (go_at_call 28; refine cS.mono ?_; rintro e w2 ⟨A2, c2, rfl, hown2, hb2⟩; rw [← HSL.out] at hown2 ⊢)
    | (go_at_call 30; refine (compactT_own w2 w1.heap.size A2 c2 (sortT l) hown2 (by rw [HSL.out]; exact hl)).mono ?_; rintro e w3 ⟨rfl, hown3, hg3⟩))
  go_ret
  have hB2 := hB1.trans (hb2.mono hB1.size)
  exact ⟨A2, c2, rfl, hown3.mono hB1.size, hB2.grown hg3 hB2.size (fun k e => Nat.le_trans hB1.size (hown2.block k e).1)⟩
end Go.Proofs.YtjjpecggcjggpaaGreatDoor
