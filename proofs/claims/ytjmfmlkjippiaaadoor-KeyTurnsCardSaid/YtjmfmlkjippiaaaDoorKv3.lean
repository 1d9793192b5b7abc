/- slices.Sort and slices.Compact at texts, on a slice of the call's own. -/
import Derived.Test.YtjmfmlkjippiaaaDoorKv2
import Derived.Test.YtjmfmlkjippiaaaDoorKeyP
import Derived.Test.YtjmfmlkjippiaaaDoorKeyD
namespace Go.Proofs.YtjmfmlkjippiaaaDoor
open Go.RowKit Go.Sort Go.Lib
theorem encStr_strB (l : List UInt8) : encStr l = .string (strB l) := rfl
theorem strV_get {l : List (List UInt8)} {j : Nat} {x : List UInt8} (h : l[j]? = some x) : (strV l)[j]? = some (encStr x) := by rw [strV, List.getElem?_map, h]; rfl
theorem toArrT_bang (ys : List (List UInt8)) {j : Nat} (hj : j < ys.length) : ys.toArray[j]! = ys[j] := by simp [getElem!_pos, hj]
theorem Own.holdsT {w : World} {base b o c : Nat} {t : TypeId} {ys : List (List UInt8)} (h : Own w base t 1 (some ⟨b, o, none⟩) ys.length c (strV ys)) : Holds encStr w b o ys.toArray := by
  intro j hj
  rw [List.size_toArray] at hj
  obtain ⟨hl, hn, hm, hc⟩ := h
  rcases hc with ⟨e, _⟩ | ⟨b', o', cur, fr, e, hb, hg, hf, hs, hx⟩
  · cases e
  cases e
  have hjx := hx j (by omega)
  rw [strV_get (List.getElem?_eq_getElem hj)] at hjx
  refine ⟨?_, hf.cell hg (by have := (Array.getElem?_eq_some_iff.1 hjx).1; exact this)⟩
  rw [toArrT_bang ys hj]
  simp [World.cell?, hg, hjx]
theorem heap_putRowT {w : World} {b o n : Nat} {os : Array Obj} {cur : Array Value} {e : TypeId} {fr : Nat × Nat} (d : Array (List UInt8)) (hb : w.heap[b]? = some (.cells cur e fr)) :
    (grow (putRow encStr (Sort.ahead w n) b o d) os).heap[b]? = some (.cells (putCells encStr o d cur) e fr) := by
  have hg : b < w.heap.size := (Array.getElem?_eq_some_iff.1 hb).1
  rw [heap_grow_old _ _ (by simpa using hg)]
  simp [putRow, mapBlock, Sort.ahead, Array.getElem?_modify, hb, onCells]
theorem grownBy_putRowT {w : World} {b o n : Nat} {os : Array Obj} (d : Array (List UInt8)) : w.grownBy (grow (putRow encStr (Sort.ahead w n) b o d) os) (some b) := by
  refine ⟨rfl, rfl, rfl, by simp, fun k hk hne => ?_⟩
  rw [heap_grow_old _ _ (by simpa using hk)]
  have : b ≠ k := fun e => hne (by rw [e])
  simp [putRow, mapBlock, Sort.ahead, Array.getElem?_modify, this]
theorem Own.putRowT {w : World} {base b o c n k : Nat} {t : TypeId} {ys : List (List UInt8)} {zs : List (List UInt8)} {os : Array Obj} (h : Own w base t 1 (some ⟨b, o, none⟩) ys.length c (strV ys)) (hk : k ≤ zs.length) (hz : zs.length = ys.length) :
    Own (grow (Go.Sort.putRow encStr (Sort.ahead w n) b o zs.toArray) os) base t 1 (some ⟨b, o, none⟩) k c (strV (zs.take k)) := by
  obtain ⟨hl, hn, hm, hc⟩ := h
  rcases hc with ⟨e, _⟩ | ⟨b', o', cur, fr, e, hb, hg, hf, hs, hx⟩
  · cases e
  cases e
  refine ⟨by rw [strV, List.length_map, List.length_take]; omega, by omega, hm, .inr ⟨b, o, _, fr, rfl, hb, heap_putRowT _ hg, by simpa [putCells] using hf, by simpa [putCells] using hs, fun j hj => ?_⟩⟩
  rw [strV_get (x := zs[j]) (by rw [List.getElem?_take_of_lt (by omega), List.getElem?_eq_getElem (by omega)])]
  have hcu : o + j < cur.size := by omega
  simp only [putCells, Array.getElem?_mapIdx, Array.getElem?_eq_getElem hcu, Option.map_some, List.size_toArray]
  rw [if_pos (by omega), show o + j - o = j by omega, toArrT_bang zs (by omega)]
theorem sortT_own (w : World) (base : Nat) (A : Option Addr) (c : Nat) (ys : List (List UInt8)) (h : Own w base 9 1 A ys.length c (strV ys)) (hl : ys.length ≤ 1000000) :
    Calls Tryd.prog 44 #[.slice A ys.length c] w fun e w' => e = .returned (.tuple #[]) ∧ Own w' base 9 1 A ys.length c (strV (sortT ys)) ∧ w.grownBy w' (blockOf A) := by
  rcases Nat.eq_zero_or_pos ys.length with h0 | h0
  · obtain rfl : ys = [] := List.eq_nil_of_length_eq_zero h0
    refine (AnyM.slices_Sort_string_none Tryd.keySort A c w).mono ?_
    rintro e w' ⟨rfl, rfl⟩
    refine ⟨rfl, by simpa [sortT] using h, ⟨rfl, rfl, rfl, Nat.le_refl _, fun _ _ _ => rfl⟩⟩
  · obtain ⟨b, o, cur, fr, rfl, hb, hg, _⟩ := h.at_ (by have := h.2.1; omega)
    refine (AnyM.slices_Sort_string Tryd.keySort b o c ys w h.holdsT (heap_lt hg) (by omega)).mono ?_
    rintro e w' ⟨rfl, n, os, rfl⟩
    refine ⟨rfl, ?_, grownBy_putRowT _⟩
    have hp := h.putRowT (n := n) (os := os) (zs := sortT ys) (k := ys.length) (by rw [sortT_length]; omega) (sortT_length ys)
    rw [List.take_of_length_le (by rw [sortT_length]; omega)] at hp
    exact hp
theorem compactT_own (w : World) (base : Nat) (A : Option Addr) (c : Nat) (ys : List (List UInt8)) (h : Own w base 9 1 A ys.length c (strV ys)) (hl : ys.length ≤ 1000000) :
    Calls Tryd.prog 28 #[.slice A ys.length c] w fun e w' => e = .returned (.slice A (compact ys).length c) ∧ Own w' base 9 1 A (compact ys).length c (strV (compact ys)) ∧ w.grownBy w' (blockOf A) := by
  rcases Nat.eq_zero_or_pos ys.length with h0 | h0
  · obtain rfl : ys = [] := List.eq_nil_of_length_eq_zero h0
    refine (AnyG.slices_Compact_string_empty Tryd.keyCompact A c w).mono ?_
    rintro e w' ⟨rfl, rfl⟩
    refine ⟨rfl, h, ⟨rfl, rfl, rfl, Nat.le_refl _, fun _ _ _ => rfl⟩⟩
  · obtain ⟨b, o, cur, fr, rfl, hb, hg, _⟩ := h.at_ (by have := h.2.1; omega)
    refine (AnyG.slices_Compact_string Tryd.keyCompact b o c ys w h.holdsT (by omega) h.2.1).mono ?_
    rintro e w' ⟨rfl, n, rfl⟩
    refine ⟨rfl, ?_, ?_⟩
    · have hc := compactT_len ys
      have hp := h.putRowT (n := n) (os := #[]) (zs := compact ys ++ List.replicate (ys.length - (compact ys).length) []) (k := (compact ys).length) (by simp) (by simp; omega)
      rw [List.take_left, grow_empty] at hp
      exact hp
    · have := grownBy_putRowT (w := w) (b := b) (o := o) (n := n) (os := #[]) (compact ys ++ List.replicate (ys.length - (compact ys).length) []).toArray
      rw [grow_empty] at this
      exact this
end Go.Proofs.YtjmfmlkjippiaaaDoor
