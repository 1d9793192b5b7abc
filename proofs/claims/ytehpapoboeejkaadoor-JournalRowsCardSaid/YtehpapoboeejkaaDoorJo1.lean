/- A journal's object; there; does: some calls, one behind the other, up to the first error. -/
import Derived.Test.YtehpapoboeejkaaDoorDisk9
import Derived.Test.YtehpapoboeejkaaDoorBox
import Derived.Shelf.Abstract
namespace Go.Proofs.YtehpapoboeejkaaDoor
open Go.RowKit Go.Maps
/-- the journal j: its disk, its name, whether it is broken -/
def JIs (w : World) (j p : Nat) (nm : ByteArray) (br : Bool) : Prop := w.heap[j]? = some (.cells #[.pointer (some ⟨p, 0, none⟩), .string nm, .bool br] 46 (0, 0))
theorem JIs.box {w : World} {j p : Nat} {nm : ByteArray} {br : Bool} (h : JIs w j p nm br) : Box w j [.pointer (some ⟨p, 0, none⟩), .string nm, .bool br] := ⟨_, h⟩
theorem JIs.lt {w : World} {j p : Nat} {nm : ByteArray} {br : Bool} (h : JIs w j p nm br) : j < w.heap.size := heap_lt h
theorem JIs.keep {w w' : World} {j p : Nat} {nm : ByteArray} {br : Bool} (h : JIs w j p nm br) (hk : w'.heap[j]? = w.heap[j]?) : JIs w' j p nm br := hk.trans h
theorem JIs.breaks {w : World} {j p : Nat} {nm : ByteArray} {br : Bool} (h : JIs w j p nm br) : JIs (w.setCell ⟨j, 2, none⟩ (.bool true)) j p nm true := by
  unfold JIs at h ⊢
  rw [setCell_eq_setRow w j 2 _ _ _ _ h]
  exact setRow_heap w j _ _ _ _ h
theorem JIs.ne {w : World} {j p b n : Nat} {M : Tab FileE} {left : Int} {q : Nat} {nm : ByteArray} {br : Bool} (h : JIs w j q nm br) (hd : DiskIs w p b n M left) : j ≠ p ∧ j ≠ b := by
  refine ⟨fun e => ?_, fun e => ?_⟩
  · subst e
    have := hd.1
    rw [h] at this
    injection this with this
    injection this with h1
    simp at h1
  · subst e
    obtain ⟨es, clock, hh, _⟩ := hd.2
    rw [h] at hh
    cases hh
/-- nothing has turned but a journal, its disk, and what is new -/
structure JBut (j p b : Nat) (w w' : World) : Prop where
  os : w'.os = w.os
  tape : w'.tape = w.tape
  output : w'.output = w.output
  size : w.heap.size ≤ w'.heap.size
  block : ∀ k, k < w.heap.size → k ≠ j → k ≠ p → k ≠ b → w'.heap[k]? = w.heap[k]?
theorem JBut.refl (j p b : Nat) (w : World) : JBut j p b w w := ⟨rfl, rfl, rfl, Nat.le_refl _, fun _ _ _ _ _ => rfl⟩
theorem JBut.trans {j p b : Nat} {x y z : World} (h : JBut j p b x y) (k : JBut j p b y z) : JBut j p b x z :=
  ⟨k.os.trans h.os, k.tape.trans h.tape, k.output.trans h.output, Nat.le_trans h.size k.size, fun i h1 h2 h3 h4 => (k.block i (Nat.lt_of_lt_of_le h1 h.size) h2 h3 h4).trans (h.block i h1 h2 h3 h4)⟩
theorem JBut.of_but {j p b : Nat} {w w' : World} (h : But p b w w') : JBut j p b w w' := ⟨h.os, h.tape, h.output, h.size, fun k h1 _ h2 h3 => h.block k h1 h2 h3⟩
theorem JBut.of_below {j p b : Nat} {w w' : World} (h : Below w.heap.size w w') : JBut j p b w w' := .of_but (.of_below h)
theorem JBut.breaks {j p b : Nat} (w : World) (o : Nat) (v : Value) : JBut j p b w (w.setCell ⟨j, o, none⟩ v) := ⟨rfl, rfl, rfl, by rw [World.size_setCell]; exact Nat.le_refl _, fun k _ hk _ _ => Below.heap_setCell _ _ _ k hk⟩
theorem JBut.below {j p b B : Nat} {w0 w w' : World} (h : Below B w0 w) (k : JBut j p b w w') (hB : B ≤ w.heap.size) (hj : B ≤ j) (hp : B ≤ p) (hb : B ≤ b) : Below B w0 w' :=
  h.trans ⟨k.os, k.tape, k.output, k.size, fun i hi => k.block i (by omega) (by omega) (by omega) (by omega)⟩
theorem getM_iff {α : Type} (M : Tab α) (s : ByteArray) : (getM M s.data.toList).isSome = true ↔ s ∈ (M.map (·.1)).map strB := by
  constructor
  · intro h
    obtain ⟨a, ha⟩ := Option.isSome_iff_exists.1 h
    unfold getM at ha
    obtain ⟨x, hx, rfl⟩ := Option.map_eq_some_iff.1 ha
    have h1 := List.mem_of_find?_eq_some hx
    have h2 := List.find?_some hx
    have : x.1 = s.data.toList := by simpa using h2
    exact List.mem_map.2 ⟨x.1, List.mem_map.2 ⟨x, h1, rfl⟩, by rw [this, strB_of]⟩
  · intro h
    obtain ⟨k, hk, rfl⟩ := List.mem_map.1 h
    obtain ⟨x, hx, rfl⟩ := List.mem_map.1 hk
    rw [strB_list]
    unfold getM
    rw [Option.isSome_map, List.find?_isSome]
    exact ⟨x, hx, by simp⟩
theorem there_any (w : World) (j p b n : Nat) (nm : ByteArray) (br : Bool) (M : Tab FileE) (left : Int) (hj : JIs w j p nm br) (h : DiskIs w p b n M left) (hn : n ≤ 1000000) (s : ByteArray) {v : Bool} (hv : v = (getM M s.data.toList).isSome) :
    Calls Tryd.prog 16 #[.pointer (some ⟨j, 0, none⟩), .string s] w fun e w' => e = .returned (.bool v) ∧ Below w.heap.size w w' := by
  have hc := fun (W : World) (A : Option Addr) (c : Nat) (hr : Rd W 1 A M.length (strV (M.map (·.1)))) => contains_any W A c ((M.map (·.1)).map strB) s v (by rw [List.length_map, List.length_map, ← strV_map]; exact hr) (by have := h.2.length_le; rw [List.length_map, List.length_map]; omega) (by rw [hv]; exact getM_iff M s)
  have hn2 := names_any w p b n M left h (by omega)
  obtain ⟨N, hN⟩ : ∃ N, N = M.length := ⟨_, rfl⟩
  rw [show ((M.map (·.1)).map strB).length = N by rw [List.length_map, List.length_map, hN]] at hc
  rw [← hN] at hc hn2
  have c0 : w.cell? ⟨j, 0, none⟩ = some (.pointer (some ⟨p, 0, none⟩)) := hj.box.cells 0
  have HC := hid2 hc
  have HN2 := hid2 hn2
  clear hc hn2 hv hN hj h hn
  go_enter Tryd.func16, Tryd.ntmps16
  go_wp2_with (first
    | (go_at_call 28; refine HN2.out.mono ?_; rintro e w2 ⟨A, c, rfl, ho, hb⟩; have HO := hid2 ho.rd; have HB := hid2 hb; clear ho hb)
    | (go_at_call 32; refine (HC.out _ A c HO.out).mono ?_; rintro e w3 ⟨rfl, rfl⟩))
  go_ret
  exact ⟨rfl, HB.out⟩
/-- a function value: its number, what was bound first, what it captured -/
structure FnE where
  f : Nat
  first : Array Value
  cap : Array Value
def fnV (x : FnE) : Value := .func (.func x.f) x.first x.cap
/-- what does answers -/
def DoesPost (j n : Nat) (I : Nat → World → Prop) (X : Int → World → Prop) (e : Ending) (w' : World) : Prop :=
  ∃ E : Int, e = .returned (.int .i64 E) ∧ (E = 0 ∧ I n w' ∨ E ≠ 0 ∧ ∃ W, X E W ∧ w' = W.setCell ⟨j, 2, none⟩ (.bool true))
set_option maxHeartbeats 1000000 in
theorem does_any (w : World) (j : Nat) (A : Option Addr) (c : Nat) (fs : List FnE) (hl : fs.length ≤ 1000000) (I : Nat → World → Prop) (X : Int → World → Prop) (h0 : I 0 w)
    (hrd : ∀ i W, I i W → Rd W 1 A fs.length (fs.map fnV))
    (hen : ∀ x ∈ fs, Enters Tryd.prog x.f)
    (hst : ∀ i x, fs[i]? = some x → ∀ W, I i W → Calls Tryd.prog x.f (x.first ++ x.cap) W fun e w' => ∃ E : Int, e = .returned (.int .i64 E) ∧ (E = 0 ∧ I (i + 1) w' ∨ E ≠ 0 ∧ X E w'))
    (hX : ∀ E W, X E W → ∃ u v t, Box W j [u, v, t]) :
    Calls Tryd.prog 14 #[.pointer (some ⟨j, 0, none⟩), .slice A fs.length c] w (DoesPost j fs.length I X) := by
  obtain ⟨N, hN⟩ : ∃ N, N = fs.length := ⟨_, rfl⟩
  have hN' : (N : Int) ≤ 1000000 := by omega
  rw [← hN] at hrd hl ⊢
  have HN := hid2 hN
  have HRD := hid2 hrd
  have HEN := hid2 hen
  have HST := hid2 hst
  have HX := hid2 hX
  have H0 := hid2 h0
  clear hrd hen hst hX h0 hN
  go_enter Tryd.func14, Tryd.ntmps14
  go_wp2_with fail
  go_loopg [10] N (fun gk i wr => ∃ k : Nat, k + gk = N ∧ i = .int .i64 k ∧ I k wr)
  case atStart => exact ⟨0, by omega, rfl, H0.out⟩
  case round =>
    obtain ⟨k, hk, rfl, hinv⟩ := hrel
    by_cases hlt : k < N
    · have hlt' : (k : Int) < N := by omega
      obtain ⟨x, hx⟩ : ∃ x, fs[k]? = some x := ⟨_, List.getElem?_eq_getElem (by rw [← HN.out]; exact hlt)⟩
      obtain ⟨b, o, rfl, hc⟩ := (HRD.out k wr hinv).2 (by omega)
      have hcell := hc k (fnV x) (by rw [List.getElem?_map, hx]; rfl)
      have heg := HEN.out x (List.mem_of_getElem? hx)
      have hcall := HST.out k x hx wr hinv
      obtain ⟨f, fi, ca⟩ := x
      simp only [fnV] at hcell heg hcall
      have eg : ∀ (args : Array Value) (w : World), (callFunc f args).run Tryd.prog w = .ok (.enter f args) w := heg
      have HCALL := hid2 hcall
      clear hc hx heg hcall hinv hlt
      go_wp2_with fail
      refine HCALL.out.mono ?_
      rintro e w2 ⟨E, rfl, hE⟩
      by_cases h0 : E = 0
      · have hI : Hid2 (I (k + 1) w2) := hid2 ((hE.resolve_right (fun h => h.1 h0)).2)
        subst h0
        clear hE
        go_wp2_with fail
        go_roundg (gk - 1)
        case rel => exact ⟨k + 1, by omega, by go_num, hI.out⟩
        case measure => omega
      · have hx := (hE.resolve_left (fun h => h0 h.1)).2
        obtain ⟨u, v, t, hbx⟩ := HX.out E w2 hx
        have c2 : w2.cell? ⟨j, 2, none⟩ = some t := hbx.cells 2
        have f2 : w2.frozen? ⟨j, 2, none⟩ = false := hbx.free 2
        have HXX := hid2 hx
        have h0' : (E == 0) = false := by simpa using h0
        clear hE hx hbx
        go_wp2_with fail
        go_ret
        exact ⟨E, rfl, .inr ⟨h0, w2, HXX.out, rfl⟩⟩
    · have hkN : k = N := by omega
      have hlt' : ¬ (k : Int) < N := by omega
      have HINV := hid2 hinv
      have HKN := hid2 hkN
      clear hinv hkN hlt
      go_wp2_with fail
      go_ret
      exact ⟨0, rfl, .inl ⟨rfl, by have := HINV.out; rw [HKN.out] at this; exact this⟩⟩
end Go.Proofs.YtehpapoboeejkaaDoor
