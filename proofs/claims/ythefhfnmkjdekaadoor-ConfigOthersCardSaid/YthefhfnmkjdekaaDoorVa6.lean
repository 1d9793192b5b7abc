/- Values: the walk of value.may, kind by kind. -/
import Derived.Test.YthefhfnmkjdekaaDoorVa5
import Derived.Test.YthefhfnmkjdekaaDoorReg3
namespace Go.Proofs.YthefhfnmkjdekaaDoor
open Go.RowKit
set_option maxRecDepth 100000
theorem row_setM {w : World} {b o : Nat} {cs : Array Value} {t : TypeId} (h : w.heap[b]? = some (.cells cs t (0, 0))) (u : Value) : (w.setCell ⟨b, o, none⟩ u).heap[b]? = some (.cells (cs.setIfInBounds o u) t (0, 0)) := by
  simp [World.setCell, h, Array.getElem?_modify]
/-- what may keeps: all but what is left; and what its closure captures -/
structure M5 (W : World) (gl deep : Nat) (L : Int) (W' : World) : Prop where
  grow : W.grownBy W' (some gl)
  left : Left W' gl L
  caps : Caps W' (W.heap.size + 1) (W.heap.size + 1 + 1) gl deep
  lt : gl < W.heap.size
theorem M5.drew {W W' : World} {gl deep : Nat} {L : Int} (h : M5 W gl deep L W') : M5 W gl deep L W'.drew :=
  ⟨⟨h.grow.os, h.grow.tape, h.grow.output, h.grow.size, h.grow.block⟩, h.left, ⟨h.caps.d, h.caps.p, h.caps.n4, h.caps.n5⟩, h.lt⟩
theorem M5.set {W W' : World} {gl deep k i : Nat} {L : Int} (h : M5 W gl deep L W') (hk : W.heap.size + 1 + 1 < k) (v : Value) : M5 W gl deep L (W'.setCell ⟨k, i, none⟩ v) := by
  have hlt := h.lt
  have ho := fun (j : Nat) (hj : j ≠ k) => Below.heap_setCell W' ⟨k, i, none⟩ v j hj
  refine ⟨⟨h.grow.os, h.grow.tape, h.grow.output, by rw [World.size_setCell]; exact h.grow.size, fun j hj hne => (ho j (by omega)).trans (h.grow.block j hj hne)⟩, (ho gl (by omega)).trans h.left, ⟨(ho _ (by omega)).trans h.caps.d, (ho _ (by omega)).trans h.caps.p, h.caps.n4, h.caps.n5⟩, hlt⟩
theorem M5.alloc {W W' : World} {gl deep : Nat} {L : Int} (h : M5 W gl deep L W') (o : Obj) : M5 W gl deep L (W'.alloc o) :=
  ⟨grownBy_trans h.grow (World.grownBy_alloc W' o _), (Below.heap_alloc W' o gl h.left.lt).trans h.left, h.caps.grown (World.grownBy_alloc W' o _), h.lt⟩
theorem m4_of {W : World} {gl deep : Nat} {L0 : Int} (hl : Left W gl L0) (a : Obj) (L : Int) : M5 W gl deep L ((((W.alloc a).alloc (.cells #[.int .i64 deep] 3)).alloc (.cells #[.pointer (some ⟨gl, 0, none⟩)] 84)).setCell ⟨gl, 0, none⟩ (.int .i64 L)) := by
  have hlt := hl.lt
  have hg := grownBy_trans (grownBy_trans (World.grownBy_alloc W a (some gl)) (World.grownBy_alloc _ (.cells #[.int .i64 deep] 3) (some gl))) (World.grownBy_alloc _ (.cells #[.pointer (some ⟨gl, 0, none⟩)] 84) (some gl))
  have hs1 : (W.alloc a).heap.size = W.heap.size + 1 := World.size_alloc ..
  have hs2 : ((W.alloc a).alloc (.cells #[.int .i64 deep] 3)).heap.size = W.heap.size + 1 + 1 := by rw [World.size_alloc, hs1]
  have hd2 : ((W.alloc a).alloc (.cells #[.int .i64 deep] 3)).heap[W.heap.size + 1]? = some (.cells #[.int .i64 deep] 3 (0, 0)) := by rw [← hs1]; exact heap_alloc_new _ _
  have hd3 : (((W.alloc a).alloc (.cells #[.int .i64 deep] 3)).alloc (.cells #[.pointer (some ⟨gl, 0, none⟩)] 84)).heap[W.heap.size + 1]? = some (.cells #[.int .i64 deep] 3 (0, 0)) := (Below.heap_alloc _ _ _ (by omega)).trans hd2
  have hp3 : (((W.alloc a).alloc (.cells #[.int .i64 deep] 3)).alloc (.cells #[.pointer (some ⟨gl, 0, none⟩)] 84)).heap[W.heap.size + 1 + 1]? = some (.cells #[.pointer (some ⟨gl, 0, none⟩)] 84 (0, 0)) := by rw [← hs2]; exact heap_alloc_new _ _
  have hl3 : Left (((W.alloc a).alloc (.cells #[.int .i64 deep] 3)).alloc (.cells #[.pointer (some ⟨gl, 0, none⟩)] 84)) gl L0 := (Below.heap_alloc _ _ _ (by omega)).trans ((Below.heap_alloc _ _ _ (by omega)).trans ((Below.heap_alloc _ _ _ hlt).trans hl))
  have ho := fun (w : World) (j : Nat) (hj : j ≠ gl) => Below.heap_setCell w ⟨gl, 0, none⟩ (.int .i64 L) j hj
  refine ⟨⟨hg.os, hg.tape, hg.output, by rw [World.size_setCell]; exact hg.size, fun k hk hne => (ho _ k (fun e => hne (by rw [e]))).trans (hg.block k hk hne)⟩, by rw [Left, row_setM hl3]; rfl, ⟨(ho _ _ (by omega)).trans hd3, (ho _ _ (by omega)).trans hp3, by omega, by omega⟩, hlt⟩
def HAS (W : World) (gl deep : Nat) (L : Int) (AL : Option Addr) (n cL : Nat) (G : Prop) (ts : Int) : Prop := ∀ W', M5 W gl deep (L - 1) W' →
  Calls Tryd.prog 79 #[.slice AL n cL, .func (.func 80) #[] #[.pointer (some ⟨W.heap.size + 1, 0, none⟩), .pointer (some ⟨W.heap.size + 1 + 1, 0, none⟩)]] W' fun e w2 => ∃ (r : Bool) (L' : Int), e = .returned (.bool (!r)) ∧ Left w2 gl L' ∧ W'.grownBy w2 (some gl) ∧ ((r = true ∧ L' = L - 1 - ts ∧ G) ∨ (r = false ∧ ¬ G))
def KPost (W : World) (gl : Nat) (L : Int) (G : Prop) (ts : Int) (K : Prop) (e : Ending) (w' : World) : Prop :=
  ∃ (r : Bool) (L' : Int), e = .returned (.bool r) ∧ Left w' gl L' ∧ W.grownBy w' (some gl) ∧ ((r = true ∧ L' = L - 1 - ts ∧ K ∧ G) ∨ (r = false ∧ ¬ (K ∧ G)))
theorem kpost_no {W W' : World} {gl deep : Nat} {L ts : Int} {G K : Prop} {e : Ending} (he : e = .returned (.bool false)) (h : M5 W gl deep (L - 1) W') (hk : ¬ K) : KPost W gl L G ts K e W' :=
  ⟨false, L - 1, he, h.left, h.grow, .inr ⟨rfl, fun x => hk x.1⟩⟩
theorem kpost_yes {W W' w2 : World} {gl deep : Nat} {L ts L' : Int} {G K : Prop} {r : Bool} {e : Ending} (he : e = .returned (.bool r)) (h : M5 W gl deep (L - 1) W') (hk : K) (hl : Left w2 gl L') (hg : W'.grownBy w2 (some gl)) (hr : (r = true ∧ L' = L - 1 - ts ∧ G) ∨ (r = false ∧ ¬ G)) : KPost W gl L G ts K e w2 :=
  ⟨r, L', he, hl, grownBy_trans h.grow hg, hr.imp (fun x => ⟨x.1, x.2.1, hk, x.2.2⟩) fun x => ⟨x.1, fun y => x.2 y.2⟩⟩
def Row7 (W : World) (w : World) (R : Array Value) : Prop := w.heap[W.heap.size + 1 + 1 + 1]? = some (.cells R 40 (0, 0))
/-- within a drawn region that writes the bare value -/
structure XM (W : World) (gl deep : Nat) (L : Int) (vc : Array Value) (rowf : Bool → Bool → Array Value) (w2 : World) : Prop where
  m : M5 W gl deep L w2
  v : w2.heap[W.heap.size]? = some (.cells vc 40 (0, 0))
  b : ∃ p q, Row7 W w2 (rowf p q)
theorem XM.put {W w2 : World} {gl deep : Nat} {L : Int} {vc : Array Value} {rowf : Bool → Bool → Array Value} (h : XM W gl deep L vc rowf w2) {p q p' q' : Bool} (hb : Row7 W w2 (rowf p q)) (i : Nat) (u : Value) (he : (rowf p q).setIfInBounds i u = rowf p' q') :
    XM W gl deep L vc rowf (w2.setCell ⟨W.heap.size + 1 + 1 + 1, i, none⟩ u) ∧ Row7 W (w2.setCell ⟨W.heap.size + 1 + 1 + 1, i, none⟩ u) (rowf p' q') := by
  have hr : Row7 W (w2.setCell ⟨W.heap.size + 1 + 1 + 1, i, none⟩ u) (rowf p' q') := by rw [Row7, row_setM hb, he]
  exact ⟨⟨h.m.set (by omega) u, (Below.heap_setCell w2 ⟨W.heap.size + 1 + 1 + 1, i, none⟩ u _ (show W.heap.size ≠ W.heap.size + 1 + 1 + 1 by omega)).trans h.v, p', q', hr⟩, hr⟩
def Ext7 (W : World) (rowf : Bool → Bool → Array Value) (a b : World) : Prop := ∀ p q, Row7 W a (rowf p q) → ∃ p' q', Row7 W b (rowf p' q') ∧ (p = true → p' = true) ∧ (q = true → q' = true)
theorem Ext7.refl {W : World} {rowf : Bool → Bool → Array Value} (a : World) : Ext7 W rowf a a := fun p q h => ⟨p, q, h, id, id⟩
def V7 (W : World) (rowf : Bool → Bool → Array Value) (vals : List Value) (ia ib : Nat) (j : Nat) (v : Value) (w : World) : Prop := vals[j]? = some v ∧ (j = ia → ∃ q, Row7 W w (rowf true q)) ∧ (j = ib → ∃ p, Row7 W w (rowf p true))
theorem V7.keep {W : World} {rowf : Bool → Bool → Array Value} {vals : List Value} {ia ib j : Nat} {v : Value} {a b : World} (hv : V7 W rowf vals ia ib j v a) (he : Ext7 W rowf a b) : V7 W rowf vals ia ib j v b := by
  refine ⟨hv.1, fun h => ?_, fun h => ?_⟩
  · obtain ⟨q, hr⟩ := hv.2.1 h
    obtain ⟨p', q', h1, h2, _⟩ := he _ _ hr
    rw [h2 rfl] at h1
    exact ⟨_, h1⟩
  · obtain ⟨p, hr⟩ := hv.2.2 h
    obtain ⟨p', q', h1, _, h2⟩ := he _ _ hr
    rw [h2 rfl] at h1
    exact ⟨_, h1⟩
set_option maxHeartbeats 800000 in
theorem may_k0 (W : World) (gl deep : Nat) (L nn : Int) (S : ByteArray) (AL AK : Option Addr) (n nk cL cK : Nat) (G K : Prop) (hK : K ↔ (nn = 0 ∧ S.toList = [] ∧ n = 0 ∧ nk = 0)) (ts : Int) (hl : Left W gl L) (h0 : 0 ≤ L) (h1 : L ≤ 20000) (hd : deep ≤ 60) (hL : ¬ L - 1 < 0) (hln : n ≤ maxLen) (hlk : nk ≤ maxLen) (has : HAS W gl deep L AL n cL G ts) :
    Calls Tryd.prog 53 #[.agg #[.int .i64 0, .int .i64 nn, .string S, .slice AL n cL, .slice AK nk cK], .int .i64 deep, .pointer (some ⟨gl, 0, none⟩)] W (KPost W gl L G ts K) := by
  have hlt := hl.lt
  have hwl : IntKind.i64.wrap (L - 1) = L - 1 := by unfold IntKind.wrap; simp [IntKind.bits, IntKind.signed]; omega
  have hdd : ¬ (60 : Int) < deep := by omega
  have h4 := m4_of (deep := deep) hl (.cells #[.int .i64 0, .int .i64 nn, .string S, .slice AL n cL, .slice AK nk cK] 40) (L - 1)
  have h5 := h4.alloc (.cells #[.int .i64 0, .int .i64 0, .string ⟨#[]⟩, .slice none 0 0, .slice none 0 0] 40)
  have hl3 : Left (((W.alloc (.cells #[.int .i64 0, .int .i64 nn, .string S, .slice AL n cL, .slice AK nk cK] 40)).alloc (.cells #[.int .i64 deep] 3)).alloc (.cells #[.pointer (some ⟨gl, 0, none⟩)] 84)) gl L := (Below.heap_alloc _ _ _ (by rw [World.size_alloc, World.size_alloc]; omega)).trans ((Below.heap_alloc _ _ _ (by rw [World.size_alloc]; omega)).trans ((Below.heap_alloc _ _ _ hlt).trans hl))
  have hp3 : ((((W.alloc (.cells #[.int .i64 0, .int .i64 nn, .string S, .slice AL n cL, .slice AK nk cK] 40)).alloc (.cells #[.int .i64 deep] 3)).alloc (.cells #[.pointer (some ⟨gl, 0, none⟩)] 84))).cell? ⟨W.heap.size + 1 + 1, 0, none⟩ = some (.pointer (some ⟨gl, 0, none⟩)) := by rw [show W.heap.size + 1 + 1 = ((W.alloc (.cells #[.int .i64 0, .int .i64 nn, .string S, .slice AL n cL, .slice AK nk cK] 40)).alloc (.cells #[.int .i64 deep] 3)).heap.size by rw [World.size_alloc, World.size_alloc]]; exact cell_of_row _ _ 0 _ _ _ (heap_alloc_new _ _)
  have q3 := hl3.cell
  have f3 := hl3.free
  have q4 := h4.left.cell
  have p4 := cell_of_row ((((W.alloc (.cells #[.int .i64 0, .int .i64 nn, .string S, .slice AL n cL, .slice AK nk cK] 40)).alloc (.cells #[.int .i64 deep] 3)).alloc (.cells #[.pointer (some ⟨gl, 0, none⟩)] 84)).setCell ⟨gl, 0, none⟩ (.int .i64 (L - 1))) _ 0 _ _ _ h4.caps.p
  have d4 := cell_of_row ((((W.alloc (.cells #[.int .i64 0, .int .i64 nn, .string S, .slice AL n cL, .slice AK nk cK] 40)).alloc (.cells #[.int .i64 deep] 3)).alloc (.cells #[.pointer (some ⟨gl, 0, none⟩)] 84)).setCell ⟨gl, 0, none⟩ (.int .i64 (L - 1))) _ 0 _ _ _ h4.caps.d
  have hb3 : ((((W.alloc (.cells #[.int .i64 0, .int .i64 nn, .string S, .slice AL n cL, .slice AK nk cK] 40)).alloc (.cells #[.int .i64 deep] 3)).alloc (.cells #[.pointer (some ⟨gl, 0, none⟩)] 84))).heap[W.heap.size]? = some (.cells #[.int .i64 0, .int .i64 nn, .string S, .slice AL n cL, .slice AK nk cK] 40) := by
    have e1 := heap_alloc_new W (.cells #[.int .i64 0, .int .i64 nn, .string S, .slice AL n cL, .slice AK nk cK] 40)
    exact (Below.heap_alloc _ _ _ (by rw [World.size_alloc, World.size_alloc]; omega)).trans ((Below.heap_alloc _ _ _ (by rw [World.size_alloc]; omega)).trans e1)
  have hb4 : (((((W.alloc (.cells #[.int .i64 0, .int .i64 nn, .string S, .slice AL n cL, .slice AK nk cK] 40)).alloc (.cells #[.int .i64 deep] 3)).alloc (.cells #[.pointer (some ⟨gl, 0, none⟩)] 84)).setCell ⟨gl, 0, none⟩ (.int .i64 (L - 1)))).heap[W.heap.size]? = some (.cells #[.int .i64 0, .int .i64 nn, .string S, .slice AL n cL, .slice AK nk cK] 40) := (Below.heap_setCell _ ⟨gl, 0, none⟩ _ _ (show W.heap.size ≠ gl by omega)).trans hb3
  have r0 : (((((W.alloc (.cells #[.int .i64 0, .int .i64 nn, .string S, .slice AL n cL, .slice AK nk cK] 40)).alloc (.cells #[.int .i64 deep] 3)).alloc (.cells #[.pointer (some ⟨gl, 0, none⟩)] 84)).setCell ⟨gl, 0, none⟩ (.int .i64 (L - 1)))).cell? ⟨W.heap.size, 0, none⟩ = some (.int .i64 0) := cell_of_row _ _ 0 _ _ _ hb4
  have hz4 : (((((W.alloc (.cells #[.int .i64 0, .int .i64 nn, .string S, .slice AL n cL, .slice AK nk cK] 40)).alloc (.cells #[.int .i64 deep] 3)).alloc (.cells #[.pointer (some ⟨gl, 0, none⟩)] 84)).setCell ⟨gl, 0, none⟩ (.int .i64 (L - 1)))).heap.size = W.heap.size + 1 + 1 + 1 := by rw [World.size_setCell, World.size_alloc, World.size_alloc, World.size_alloc]
  have hb5 : ((((((W.alloc (.cells #[.int .i64 0, .int .i64 nn, .string S, .slice AL n cL, .slice AK nk cK] 40)).alloc (.cells #[.int .i64 deep] 3)).alloc (.cells #[.pointer (some ⟨gl, 0, none⟩)] 84)).setCell ⟨gl, 0, none⟩ (.int .i64 (L - 1))).alloc (.cells #[.int .i64 0, .int .i64 0, .string ⟨#[]⟩, .slice none 0 0, .slice none 0 0] 40))).heap[W.heap.size]? = some (.cells #[.int .i64 0, .int .i64 nn, .string S, .slice AL n cL, .slice AK nk cK] 40) := (Below.heap_alloc _ _ _ (by rw [hz4]; omega)).trans hb4
  have ha5 : ((((((W.alloc (.cells #[.int .i64 0, .int .i64 nn, .string S, .slice AL n cL, .slice AK nk cK] 40)).alloc (.cells #[.int .i64 deep] 3)).alloc (.cells #[.pointer (some ⟨gl, 0, none⟩)] 84)).setCell ⟨gl, 0, none⟩ (.int .i64 (L - 1))).alloc (.cells #[.int .i64 0, .int .i64 0, .string ⟨#[]⟩, .slice none 0 0, .slice none 0 0] 40))).heap[W.heap.size + 1 + 1 + 1]? = some (.cells #[.int .i64 0, .int .i64 0, .string ⟨#[]⟩, .slice none 0 0, .slice none 0 0] 40) := by rw [← hz4]; exact heap_alloc_new _ _
  have b0 : ((((((W.alloc (.cells #[.int .i64 0, .int .i64 nn, .string S, .slice AL n cL, .slice AK nk cK] 40)).alloc (.cells #[.int .i64 deep] 3)).alloc (.cells #[.pointer (some ⟨gl, 0, none⟩)] 84)).setCell ⟨gl, 0, none⟩ (.int .i64 (L - 1))).alloc (.cells #[.int .i64 0, .int .i64 0, .string ⟨#[]⟩, .slice none 0 0, .slice none 0 0] 40))).cell? ⟨W.heap.size, 0, none⟩ = some (.int .i64 0) := cell_of_row _ _ 0 _ _ _ hb5
  have HL := hid2 hl
  have HAS2 := hid2 has
  have HK := hid2 hK
  clear hK h4 hl3 hb3 hb4 hz4 has
  go_enter Tryd.func53, Tryd.ntmps53
  clear h5 hb5 ha5
  unfold maxLen at hln hlk
  go_wp2_with (go_at_call 79; refine (HAS2.out _ (by have hl := HL.out; (repeat first | (with_reducible exact m4_of (by assumption) _ _) | (with_reducible refine M5.drew ?_) | (with_reducible refine M5.alloc ?_ _) | (with_reducible refine M5.set ?_ (by omega) _)))).mono ?_; rintro e w2 ⟨r, L', rfl, hl2, hg2, hr2⟩)
  all_goals go_ret
  all_goals clear q3 f3 q4 p4 d4 r0 b0 hp3
  all_goals first
    | (refine kpost_no (deep := deep) rfl ?_ ?_
       · have hl := HL.out
         (repeat first | (with_reducible exact m4_of (by assumption) _ _) | (with_reducible refine M5.drew ?_) | (with_reducible refine M5.alloc ?_ _) | (with_reducible refine M5.set ?_ (by omega) _))
       · rw [HK.out]
         rintro hK
         first
           | omega
           | (simp only [bne_iff_ne, bne_eq_false_iff_eq, ne_eq] at *; omega)
           | (obtain ⟨x1, x2, x3, x4⟩ := hK; contradiction)
           | (obtain ⟨x1, x2, x3⟩ := hK; contradiction)
           | fail "left")
    | (refine kpost_yes (deep := deep) (r := r) rfl (W' := _) (?_ : M5 W gl deep (L - 1) _) ?_ hl2 hg2 hr2
       · have hl := HL.out
         (repeat first | (with_reducible exact m4_of (by assumption) _ _) | (with_reducible refine M5.drew ?_) | (with_reducible refine M5.alloc ?_ _) | (with_reducible refine M5.set ?_ (by omega) _))
       · rw [HK.out]
         try simp only [bne_iff_ne, bne_eq_false_iff_eq, ne_eq] at *
         first
           | omega
           | (refine ⟨?_, ?_, ?_, ?_⟩ <;> first | omega | assumption | (left; trivial) | (right; trivial) | trivial)
           | (refine ⟨?_, ?_, ?_⟩ <;> first | omega | assumption))

set_option maxHeartbeats 800000 in
theorem may_kk (W : World) (gl deep : Nat) (L nn : Int) (S : ByteArray) (AL AK : Option Addr) (n nk cL cK : Nat) (k : Int) (k0 : ¬ k = 0) (k1 : ¬ k = 1) (k2 : ¬ k = 2) (k3 : ¬ k = 3) (k4 : ¬ k = 4) (k5 : ¬ k = 5) (G K : Prop) (hK : K ↔ (False)) (ts : Int) (hl : Left W gl L) (h0 : 0 ≤ L) (h1 : L ≤ 20000) (hd : deep ≤ 60) (hL : ¬ L - 1 < 0) (hln : n ≤ maxLen) (hlk : nk ≤ maxLen) (has : HAS W gl deep L AL n cL G ts) :
    Calls Tryd.prog 53 #[.agg #[.int .i64 k, .int .i64 nn, .string S, .slice AL n cL, .slice AK nk cK], .int .i64 deep, .pointer (some ⟨gl, 0, none⟩)] W (KPost W gl L G ts K) := by
  have hlt := hl.lt
  have hwl : IntKind.i64.wrap (L - 1) = L - 1 := by unfold IntKind.wrap; simp [IntKind.bits, IntKind.signed]; omega
  have hdd : ¬ (60 : Int) < deep := by omega
  have h4 := m4_of (deep := deep) hl (.cells #[.int .i64 k, .int .i64 nn, .string S, .slice AL n cL, .slice AK nk cK] 40) (L - 1)
  have h5 := h4.alloc (.cells #[.int .i64 k, .int .i64 0, .string ⟨#[]⟩, .slice none 0 0, .slice none 0 0] 40)
  have hl3 : Left (((W.alloc (.cells #[.int .i64 k, .int .i64 nn, .string S, .slice AL n cL, .slice AK nk cK] 40)).alloc (.cells #[.int .i64 deep] 3)).alloc (.cells #[.pointer (some ⟨gl, 0, none⟩)] 84)) gl L := (Below.heap_alloc _ _ _ (by rw [World.size_alloc, World.size_alloc]; omega)).trans ((Below.heap_alloc _ _ _ (by rw [World.size_alloc]; omega)).trans ((Below.heap_alloc _ _ _ hlt).trans hl))
  have hp3 : ((((W.alloc (.cells #[.int .i64 k, .int .i64 nn, .string S, .slice AL n cL, .slice AK nk cK] 40)).alloc (.cells #[.int .i64 deep] 3)).alloc (.cells #[.pointer (some ⟨gl, 0, none⟩)] 84))).cell? ⟨W.heap.size + 1 + 1, 0, none⟩ = some (.pointer (some ⟨gl, 0, none⟩)) := by rw [show W.heap.size + 1 + 1 = ((W.alloc (.cells #[.int .i64 k, .int .i64 nn, .string S, .slice AL n cL, .slice AK nk cK] 40)).alloc (.cells #[.int .i64 deep] 3)).heap.size by rw [World.size_alloc, World.size_alloc]]; exact cell_of_row _ _ 0 _ _ _ (heap_alloc_new _ _)
  have q3 := hl3.cell
  have f3 := hl3.free
  have q4 := h4.left.cell
  have p4 := cell_of_row ((((W.alloc (.cells #[.int .i64 k, .int .i64 nn, .string S, .slice AL n cL, .slice AK nk cK] 40)).alloc (.cells #[.int .i64 deep] 3)).alloc (.cells #[.pointer (some ⟨gl, 0, none⟩)] 84)).setCell ⟨gl, 0, none⟩ (.int .i64 (L - 1))) _ 0 _ _ _ h4.caps.p
  have d4 := cell_of_row ((((W.alloc (.cells #[.int .i64 k, .int .i64 nn, .string S, .slice AL n cL, .slice AK nk cK] 40)).alloc (.cells #[.int .i64 deep] 3)).alloc (.cells #[.pointer (some ⟨gl, 0, none⟩)] 84)).setCell ⟨gl, 0, none⟩ (.int .i64 (L - 1))) _ 0 _ _ _ h4.caps.d
  have hb3 : ((((W.alloc (.cells #[.int .i64 k, .int .i64 nn, .string S, .slice AL n cL, .slice AK nk cK] 40)).alloc (.cells #[.int .i64 deep] 3)).alloc (.cells #[.pointer (some ⟨gl, 0, none⟩)] 84))).heap[W.heap.size]? = some (.cells #[.int .i64 k, .int .i64 nn, .string S, .slice AL n cL, .slice AK nk cK] 40) := by
    have e1 := heap_alloc_new W (.cells #[.int .i64 k, .int .i64 nn, .string S, .slice AL n cL, .slice AK nk cK] 40)
    exact (Below.heap_alloc _ _ _ (by rw [World.size_alloc, World.size_alloc]; omega)).trans ((Below.heap_alloc _ _ _ (by rw [World.size_alloc]; omega)).trans e1)
  have hb4 : (((((W.alloc (.cells #[.int .i64 k, .int .i64 nn, .string S, .slice AL n cL, .slice AK nk cK] 40)).alloc (.cells #[.int .i64 deep] 3)).alloc (.cells #[.pointer (some ⟨gl, 0, none⟩)] 84)).setCell ⟨gl, 0, none⟩ (.int .i64 (L - 1)))).heap[W.heap.size]? = some (.cells #[.int .i64 k, .int .i64 nn, .string S, .slice AL n cL, .slice AK nk cK] 40) := (Below.heap_setCell _ ⟨gl, 0, none⟩ _ _ (show W.heap.size ≠ gl by omega)).trans hb3
  have r0 : (((((W.alloc (.cells #[.int .i64 k, .int .i64 nn, .string S, .slice AL n cL, .slice AK nk cK] 40)).alloc (.cells #[.int .i64 deep] 3)).alloc (.cells #[.pointer (some ⟨gl, 0, none⟩)] 84)).setCell ⟨gl, 0, none⟩ (.int .i64 (L - 1)))).cell? ⟨W.heap.size, 0, none⟩ = some (.int .i64 k) := cell_of_row _ _ 0 _ _ _ hb4
  have hz4 : (((((W.alloc (.cells #[.int .i64 k, .int .i64 nn, .string S, .slice AL n cL, .slice AK nk cK] 40)).alloc (.cells #[.int .i64 deep] 3)).alloc (.cells #[.pointer (some ⟨gl, 0, none⟩)] 84)).setCell ⟨gl, 0, none⟩ (.int .i64 (L - 1)))).heap.size = W.heap.size + 1 + 1 + 1 := by rw [World.size_setCell, World.size_alloc, World.size_alloc, World.size_alloc]
  have hb5 : ((((((W.alloc (.cells #[.int .i64 k, .int .i64 nn, .string S, .slice AL n cL, .slice AK nk cK] 40)).alloc (.cells #[.int .i64 deep] 3)).alloc (.cells #[.pointer (some ⟨gl, 0, none⟩)] 84)).setCell ⟨gl, 0, none⟩ (.int .i64 (L - 1))).alloc (.cells #[.int .i64 k, .int .i64 0, .string ⟨#[]⟩, .slice none 0 0, .slice none 0 0] 40))).heap[W.heap.size]? = some (.cells #[.int .i64 k, .int .i64 nn, .string S, .slice AL n cL, .slice AK nk cK] 40) := (Below.heap_alloc _ _ _ (by rw [hz4]; omega)).trans hb4
  have ha5 : ((((((W.alloc (.cells #[.int .i64 k, .int .i64 nn, .string S, .slice AL n cL, .slice AK nk cK] 40)).alloc (.cells #[.int .i64 deep] 3)).alloc (.cells #[.pointer (some ⟨gl, 0, none⟩)] 84)).setCell ⟨gl, 0, none⟩ (.int .i64 (L - 1))).alloc (.cells #[.int .i64 k, .int .i64 0, .string ⟨#[]⟩, .slice none 0 0, .slice none 0 0] 40))).heap[W.heap.size + 1 + 1 + 1]? = some (.cells #[.int .i64 k, .int .i64 0, .string ⟨#[]⟩, .slice none 0 0, .slice none 0 0] 40) := by rw [← hz4]; exact heap_alloc_new _ _
  have b0 : ((((((W.alloc (.cells #[.int .i64 k, .int .i64 nn, .string S, .slice AL n cL, .slice AK nk cK] 40)).alloc (.cells #[.int .i64 deep] 3)).alloc (.cells #[.pointer (some ⟨gl, 0, none⟩)] 84)).setCell ⟨gl, 0, none⟩ (.int .i64 (L - 1))).alloc (.cells #[.int .i64 k, .int .i64 0, .string ⟨#[]⟩, .slice none 0 0, .slice none 0 0] 40))).cell? ⟨W.heap.size, 0, none⟩ = some (.int .i64 k) := cell_of_row _ _ 0 _ _ _ hb5
  have HL := hid2 hl
  have HAS2 := hid2 has
  have HK := hid2 hK
  clear hK h4 hl3 hb3 hb4 hz4 has
  go_enter Tryd.func53, Tryd.ntmps53
  clear h5 hb5 ha5
  unfold maxLen at hln hlk
  go_wp2_with (go_at_call 79; refine (HAS2.out _ (by have hl := HL.out; (repeat first | (with_reducible exact m4_of (by assumption) _ _) | (with_reducible refine M5.drew ?_) | (with_reducible refine M5.alloc ?_ _) | (with_reducible refine M5.set ?_ (by omega) _)))).mono ?_; rintro e w2 ⟨r, L', rfl, hl2, hg2, hr2⟩)
  all_goals go_ret
  all_goals clear q3 f3 q4 p4 d4 r0 b0 hp3
  all_goals first
    | (refine kpost_no (deep := deep) rfl ?_ ?_
       · have hl := HL.out
         (repeat first | (with_reducible exact m4_of (by assumption) _ _) | (with_reducible refine M5.drew ?_) | (with_reducible refine M5.alloc ?_ _) | (with_reducible refine M5.set ?_ (by omega) _))
       · rw [HK.out]
         rintro hK
         first
           | omega
           | (simp only [bne_iff_ne, bne_eq_false_iff_eq, ne_eq] at *; omega)
           | (obtain ⟨x1, x2, x3, x4⟩ := hK; contradiction)
           | (obtain ⟨x1, x2, x3⟩ := hK; contradiction)
           | fail "left")
    | (refine kpost_yes (deep := deep) (r := r) rfl (W' := _) (?_ : M5 W gl deep (L - 1) _) ?_ hl2 hg2 hr2
       · have hl := HL.out
         (repeat first | (with_reducible exact m4_of (by assumption) _ _) | (with_reducible refine M5.drew ?_) | (with_reducible refine M5.alloc ?_ _) | (with_reducible refine M5.set ?_ (by omega) _))
       · rw [HK.out]
         try simp only [bne_iff_ne, bne_eq_false_iff_eq, ne_eq] at *
         first
           | omega
           | (refine ⟨?_, ?_, ?_, ?_⟩ <;> first | omega | assumption | (left; trivial) | (right; trivial) | trivial)
           | (refine ⟨?_, ?_, ?_⟩ <;> first | omega | assumption))

set_option maxHeartbeats 800000 in
theorem may_k2 (W : World) (gl deep : Nat) (L nn : Int) (S : ByteArray) (AL AK : Option Addr) (n nk cL cK : Nat) (G K : Prop) (hK : K ↔ (S.toList = [] ∧ n = 0 ∧ nk = 0)) (ts : Int) (hl : Left W gl L) (h0 : 0 ≤ L) (h1 : L ≤ 20000) (hd : deep ≤ 60) (hL : ¬ L - 1 < 0) (hln : n ≤ maxLen) (hlk : nk ≤ maxLen) (has : HAS W gl deep L AL n cL G ts) :
    Calls Tryd.prog 53 #[.agg #[.int .i64 2, .int .i64 nn, .string S, .slice AL n cL, .slice AK nk cK], .int .i64 deep, .pointer (some ⟨gl, 0, none⟩)] W (KPost W gl L G ts K) := by
  have hlt := hl.lt
  have hwl : IntKind.i64.wrap (L - 1) = L - 1 := by unfold IntKind.wrap; simp [IntKind.bits, IntKind.signed]; omega
  have hdd : ¬ (60 : Int) < deep := by omega
  have h4 := m4_of (deep := deep) hl (.cells #[.int .i64 2, .int .i64 nn, .string S, .slice AL n cL, .slice AK nk cK] 40) (L - 1)
  have h5 := h4.alloc (.cells #[.int .i64 2, .int .i64 0, .string ⟨#[]⟩, .slice none 0 0, .slice none 0 0] 40)
  have hl3 : Left (((W.alloc (.cells #[.int .i64 2, .int .i64 nn, .string S, .slice AL n cL, .slice AK nk cK] 40)).alloc (.cells #[.int .i64 deep] 3)).alloc (.cells #[.pointer (some ⟨gl, 0, none⟩)] 84)) gl L := (Below.heap_alloc _ _ _ (by rw [World.size_alloc, World.size_alloc]; omega)).trans ((Below.heap_alloc _ _ _ (by rw [World.size_alloc]; omega)).trans ((Below.heap_alloc _ _ _ hlt).trans hl))
  have hp3 : ((((W.alloc (.cells #[.int .i64 2, .int .i64 nn, .string S, .slice AL n cL, .slice AK nk cK] 40)).alloc (.cells #[.int .i64 deep] 3)).alloc (.cells #[.pointer (some ⟨gl, 0, none⟩)] 84))).cell? ⟨W.heap.size + 1 + 1, 0, none⟩ = some (.pointer (some ⟨gl, 0, none⟩)) := by rw [show W.heap.size + 1 + 1 = ((W.alloc (.cells #[.int .i64 2, .int .i64 nn, .string S, .slice AL n cL, .slice AK nk cK] 40)).alloc (.cells #[.int .i64 deep] 3)).heap.size by rw [World.size_alloc, World.size_alloc]]; exact cell_of_row _ _ 0 _ _ _ (heap_alloc_new _ _)
  have q3 := hl3.cell
  have f3 := hl3.free
  have q4 := h4.left.cell
  have p4 := cell_of_row ((((W.alloc (.cells #[.int .i64 2, .int .i64 nn, .string S, .slice AL n cL, .slice AK nk cK] 40)).alloc (.cells #[.int .i64 deep] 3)).alloc (.cells #[.pointer (some ⟨gl, 0, none⟩)] 84)).setCell ⟨gl, 0, none⟩ (.int .i64 (L - 1))) _ 0 _ _ _ h4.caps.p
  have d4 := cell_of_row ((((W.alloc (.cells #[.int .i64 2, .int .i64 nn, .string S, .slice AL n cL, .slice AK nk cK] 40)).alloc (.cells #[.int .i64 deep] 3)).alloc (.cells #[.pointer (some ⟨gl, 0, none⟩)] 84)).setCell ⟨gl, 0, none⟩ (.int .i64 (L - 1))) _ 0 _ _ _ h4.caps.d
  have hb3 : ((((W.alloc (.cells #[.int .i64 2, .int .i64 nn, .string S, .slice AL n cL, .slice AK nk cK] 40)).alloc (.cells #[.int .i64 deep] 3)).alloc (.cells #[.pointer (some ⟨gl, 0, none⟩)] 84))).heap[W.heap.size]? = some (.cells #[.int .i64 2, .int .i64 nn, .string S, .slice AL n cL, .slice AK nk cK] 40) := by
    have e1 := heap_alloc_new W (.cells #[.int .i64 2, .int .i64 nn, .string S, .slice AL n cL, .slice AK nk cK] 40)
    exact (Below.heap_alloc _ _ _ (by rw [World.size_alloc, World.size_alloc]; omega)).trans ((Below.heap_alloc _ _ _ (by rw [World.size_alloc]; omega)).trans e1)
  have hb4 : (((((W.alloc (.cells #[.int .i64 2, .int .i64 nn, .string S, .slice AL n cL, .slice AK nk cK] 40)).alloc (.cells #[.int .i64 deep] 3)).alloc (.cells #[.pointer (some ⟨gl, 0, none⟩)] 84)).setCell ⟨gl, 0, none⟩ (.int .i64 (L - 1)))).heap[W.heap.size]? = some (.cells #[.int .i64 2, .int .i64 nn, .string S, .slice AL n cL, .slice AK nk cK] 40) := (Below.heap_setCell _ ⟨gl, 0, none⟩ _ _ (show W.heap.size ≠ gl by omega)).trans hb3
  have r0 : (((((W.alloc (.cells #[.int .i64 2, .int .i64 nn, .string S, .slice AL n cL, .slice AK nk cK] 40)).alloc (.cells #[.int .i64 deep] 3)).alloc (.cells #[.pointer (some ⟨gl, 0, none⟩)] 84)).setCell ⟨gl, 0, none⟩ (.int .i64 (L - 1)))).cell? ⟨W.heap.size, 0, none⟩ = some (.int .i64 2) := cell_of_row _ _ 0 _ _ _ hb4
  have hz4 : (((((W.alloc (.cells #[.int .i64 2, .int .i64 nn, .string S, .slice AL n cL, .slice AK nk cK] 40)).alloc (.cells #[.int .i64 deep] 3)).alloc (.cells #[.pointer (some ⟨gl, 0, none⟩)] 84)).setCell ⟨gl, 0, none⟩ (.int .i64 (L - 1)))).heap.size = W.heap.size + 1 + 1 + 1 := by rw [World.size_setCell, World.size_alloc, World.size_alloc, World.size_alloc]
  have hb5 : ((((((W.alloc (.cells #[.int .i64 2, .int .i64 nn, .string S, .slice AL n cL, .slice AK nk cK] 40)).alloc (.cells #[.int .i64 deep] 3)).alloc (.cells #[.pointer (some ⟨gl, 0, none⟩)] 84)).setCell ⟨gl, 0, none⟩ (.int .i64 (L - 1))).alloc (.cells #[.int .i64 2, .int .i64 0, .string ⟨#[]⟩, .slice none 0 0, .slice none 0 0] 40))).heap[W.heap.size]? = some (.cells #[.int .i64 2, .int .i64 nn, .string S, .slice AL n cL, .slice AK nk cK] 40) := (Below.heap_alloc _ _ _ (by rw [hz4]; omega)).trans hb4
  have ha5 : ((((((W.alloc (.cells #[.int .i64 2, .int .i64 nn, .string S, .slice AL n cL, .slice AK nk cK] 40)).alloc (.cells #[.int .i64 deep] 3)).alloc (.cells #[.pointer (some ⟨gl, 0, none⟩)] 84)).setCell ⟨gl, 0, none⟩ (.int .i64 (L - 1))).alloc (.cells #[.int .i64 2, .int .i64 0, .string ⟨#[]⟩, .slice none 0 0, .slice none 0 0] 40))).heap[W.heap.size + 1 + 1 + 1]? = some (.cells #[.int .i64 2, .int .i64 0, .string ⟨#[]⟩, .slice none 0 0, .slice none 0 0] 40) := by rw [← hz4]; exact heap_alloc_new _ _
  have b0 : ((((((W.alloc (.cells #[.int .i64 2, .int .i64 nn, .string S, .slice AL n cL, .slice AK nk cK] 40)).alloc (.cells #[.int .i64 deep] 3)).alloc (.cells #[.pointer (some ⟨gl, 0, none⟩)] 84)).setCell ⟨gl, 0, none⟩ (.int .i64 (L - 1))).alloc (.cells #[.int .i64 2, .int .i64 0, .string ⟨#[]⟩, .slice none 0 0, .slice none 0 0] 40))).cell? ⟨W.heap.size, 0, none⟩ = some (.int .i64 2) := cell_of_row _ _ 0 _ _ _ hb5
  have HL := hid2 hl
  have HAS2 := hid2 has
  have HK := hid2 hK
  clear hK h4 hl3 hb3 hb4 hz4 has
  go_enter Tryd.func53, Tryd.ntmps53
  clear h5 hb5 ha5
  unfold maxLen at hln hlk
  go_wp2_with (go_at_call 79; refine (HAS2.out _ (by have hl := HL.out; (repeat first | (with_reducible exact m4_of (by assumption) _ _) | (with_reducible refine M5.drew ?_) | (with_reducible refine M5.alloc ?_ _) | (with_reducible refine M5.set ?_ (by omega) _)))).mono ?_; rintro e w2 ⟨r, L', rfl, hl2, hg2, hr2⟩)
  all_goals go_ret
  all_goals clear q3 f3 q4 p4 d4 r0 b0 hp3
  all_goals first
    | (refine kpost_no (deep := deep) rfl ?_ ?_
       · have hl := HL.out
         (repeat first | (with_reducible exact m4_of (by assumption) _ _) | (with_reducible refine M5.drew ?_) | (with_reducible refine M5.alloc ?_ _) | (with_reducible refine M5.set ?_ (by omega) _))
       · rw [HK.out]
         rintro hK
         first
           | omega
           | (simp only [bne_iff_ne, bne_eq_false_iff_eq, ne_eq] at *; omega)
           | (obtain ⟨x1, x2, x3, x4⟩ := hK; contradiction)
           | (obtain ⟨x1, x2, x3⟩ := hK; contradiction)
           | fail "left")
    | (refine kpost_yes (deep := deep) (r := r) rfl (W' := _) (?_ : M5 W gl deep (L - 1) _) ?_ hl2 hg2 hr2
       · have hl := HL.out
         (repeat first | (with_reducible exact m4_of (by assumption) _ _) | (with_reducible refine M5.drew ?_) | (with_reducible refine M5.alloc ?_ _) | (with_reducible refine M5.set ?_ (by omega) _))
       · rw [HK.out]
         try simp only [bne_iff_ne, bne_eq_false_iff_eq, ne_eq] at *
         first
           | omega
           | (refine ⟨?_, ?_, ?_, ?_⟩ <;> first | omega | assumption | (left; trivial) | (right; trivial) | trivial)
           | (refine ⟨?_, ?_, ?_⟩ <;> first | omega | assumption))

set_option maxHeartbeats 800000 in
theorem may_k3 (W : World) (gl deep : Nat) (L nn : Int) (S : ByteArray) (AL AK : Option Addr) (n nk cL cK : Nat) (G K : Prop) (hK : K ↔ (nn = 0 ∧ S.size ≤ 65536 ∧ n = 0 ∧ nk = 0)) (ts : Int) (hl : Left W gl L) (h0 : 0 ≤ L) (h1 : L ≤ 20000) (hd : deep ≤ 60) (hL : ¬ L - 1 < 0) (hln : n ≤ maxLen) (hlk : nk ≤ maxLen) (has : HAS W gl deep L AL n cL G ts) :
    Calls Tryd.prog 53 #[.agg #[.int .i64 3, .int .i64 nn, .string S, .slice AL n cL, .slice AK nk cK], .int .i64 deep, .pointer (some ⟨gl, 0, none⟩)] W (KPost W gl L G ts K) := by
  have hlt := hl.lt
  have hwl : IntKind.i64.wrap (L - 1) = L - 1 := by unfold IntKind.wrap; simp [IntKind.bits, IntKind.signed]; omega
  have hdd : ¬ (60 : Int) < deep := by omega
  have h4 := m4_of (deep := deep) hl (.cells #[.int .i64 3, .int .i64 nn, .string S, .slice AL n cL, .slice AK nk cK] 40) (L - 1)
  have h5 := h4.alloc (.cells #[.int .i64 3, .int .i64 0, .string ⟨#[]⟩, .slice none 0 0, .slice none 0 0] 40)
  have hl3 : Left (((W.alloc (.cells #[.int .i64 3, .int .i64 nn, .string S, .slice AL n cL, .slice AK nk cK] 40)).alloc (.cells #[.int .i64 deep] 3)).alloc (.cells #[.pointer (some ⟨gl, 0, none⟩)] 84)) gl L := (Below.heap_alloc _ _ _ (by rw [World.size_alloc, World.size_alloc]; omega)).trans ((Below.heap_alloc _ _ _ (by rw [World.size_alloc]; omega)).trans ((Below.heap_alloc _ _ _ hlt).trans hl))
  have hp3 : ((((W.alloc (.cells #[.int .i64 3, .int .i64 nn, .string S, .slice AL n cL, .slice AK nk cK] 40)).alloc (.cells #[.int .i64 deep] 3)).alloc (.cells #[.pointer (some ⟨gl, 0, none⟩)] 84))).cell? ⟨W.heap.size + 1 + 1, 0, none⟩ = some (.pointer (some ⟨gl, 0, none⟩)) := by rw [show W.heap.size + 1 + 1 = ((W.alloc (.cells #[.int .i64 3, .int .i64 nn, .string S, .slice AL n cL, .slice AK nk cK] 40)).alloc (.cells #[.int .i64 deep] 3)).heap.size by rw [World.size_alloc, World.size_alloc]]; exact cell_of_row _ _ 0 _ _ _ (heap_alloc_new _ _)
  have q3 := hl3.cell
  have f3 := hl3.free
  have q4 := h4.left.cell
  have p4 := cell_of_row ((((W.alloc (.cells #[.int .i64 3, .int .i64 nn, .string S, .slice AL n cL, .slice AK nk cK] 40)).alloc (.cells #[.int .i64 deep] 3)).alloc (.cells #[.pointer (some ⟨gl, 0, none⟩)] 84)).setCell ⟨gl, 0, none⟩ (.int .i64 (L - 1))) _ 0 _ _ _ h4.caps.p
  have d4 := cell_of_row ((((W.alloc (.cells #[.int .i64 3, .int .i64 nn, .string S, .slice AL n cL, .slice AK nk cK] 40)).alloc (.cells #[.int .i64 deep] 3)).alloc (.cells #[.pointer (some ⟨gl, 0, none⟩)] 84)).setCell ⟨gl, 0, none⟩ (.int .i64 (L - 1))) _ 0 _ _ _ h4.caps.d
  have hb3 : ((((W.alloc (.cells #[.int .i64 3, .int .i64 nn, .string S, .slice AL n cL, .slice AK nk cK] 40)).alloc (.cells #[.int .i64 deep] 3)).alloc (.cells #[.pointer (some ⟨gl, 0, none⟩)] 84))).heap[W.heap.size]? = some (.cells #[.int .i64 3, .int .i64 nn, .string S, .slice AL n cL, .slice AK nk cK] 40) := by
    have e1 := heap_alloc_new W (.cells #[.int .i64 3, .int .i64 nn, .string S, .slice AL n cL, .slice AK nk cK] 40)
    exact (Below.heap_alloc _ _ _ (by rw [World.size_alloc, World.size_alloc]; omega)).trans ((Below.heap_alloc _ _ _ (by rw [World.size_alloc]; omega)).trans e1)
  have hb4 : (((((W.alloc (.cells #[.int .i64 3, .int .i64 nn, .string S, .slice AL n cL, .slice AK nk cK] 40)).alloc (.cells #[.int .i64 deep] 3)).alloc (.cells #[.pointer (some ⟨gl, 0, none⟩)] 84)).setCell ⟨gl, 0, none⟩ (.int .i64 (L - 1)))).heap[W.heap.size]? = some (.cells #[.int .i64 3, .int .i64 nn, .string S, .slice AL n cL, .slice AK nk cK] 40) := (Below.heap_setCell _ ⟨gl, 0, none⟩ _ _ (show W.heap.size ≠ gl by omega)).trans hb3
  have r0 : (((((W.alloc (.cells #[.int .i64 3, .int .i64 nn, .string S, .slice AL n cL, .slice AK nk cK] 40)).alloc (.cells #[.int .i64 deep] 3)).alloc (.cells #[.pointer (some ⟨gl, 0, none⟩)] 84)).setCell ⟨gl, 0, none⟩ (.int .i64 (L - 1)))).cell? ⟨W.heap.size, 0, none⟩ = some (.int .i64 3) := cell_of_row _ _ 0 _ _ _ hb4
  have hz4 : (((((W.alloc (.cells #[.int .i64 3, .int .i64 nn, .string S, .slice AL n cL, .slice AK nk cK] 40)).alloc (.cells #[.int .i64 deep] 3)).alloc (.cells #[.pointer (some ⟨gl, 0, none⟩)] 84)).setCell ⟨gl, 0, none⟩ (.int .i64 (L - 1)))).heap.size = W.heap.size + 1 + 1 + 1 := by rw [World.size_setCell, World.size_alloc, World.size_alloc, World.size_alloc]
  have hb5 : ((((((W.alloc (.cells #[.int .i64 3, .int .i64 nn, .string S, .slice AL n cL, .slice AK nk cK] 40)).alloc (.cells #[.int .i64 deep] 3)).alloc (.cells #[.pointer (some ⟨gl, 0, none⟩)] 84)).setCell ⟨gl, 0, none⟩ (.int .i64 (L - 1))).alloc (.cells #[.int .i64 3, .int .i64 0, .string ⟨#[]⟩, .slice none 0 0, .slice none 0 0] 40))).heap[W.heap.size]? = some (.cells #[.int .i64 3, .int .i64 nn, .string S, .slice AL n cL, .slice AK nk cK] 40) := (Below.heap_alloc _ _ _ (by rw [hz4]; omega)).trans hb4
  have ha5 : ((((((W.alloc (.cells #[.int .i64 3, .int .i64 nn, .string S, .slice AL n cL, .slice AK nk cK] 40)).alloc (.cells #[.int .i64 deep] 3)).alloc (.cells #[.pointer (some ⟨gl, 0, none⟩)] 84)).setCell ⟨gl, 0, none⟩ (.int .i64 (L - 1))).alloc (.cells #[.int .i64 3, .int .i64 0, .string ⟨#[]⟩, .slice none 0 0, .slice none 0 0] 40))).heap[W.heap.size + 1 + 1 + 1]? = some (.cells #[.int .i64 3, .int .i64 0, .string ⟨#[]⟩, .slice none 0 0, .slice none 0 0] 40) := by rw [← hz4]; exact heap_alloc_new _ _
  have b0 : ((((((W.alloc (.cells #[.int .i64 3, .int .i64 nn, .string S, .slice AL n cL, .slice AK nk cK] 40)).alloc (.cells #[.int .i64 deep] 3)).alloc (.cells #[.pointer (some ⟨gl, 0, none⟩)] 84)).setCell ⟨gl, 0, none⟩ (.int .i64 (L - 1))).alloc (.cells #[.int .i64 3, .int .i64 0, .string ⟨#[]⟩, .slice none 0 0, .slice none 0 0] 40))).cell? ⟨W.heap.size, 0, none⟩ = some (.int .i64 3) := cell_of_row _ _ 0 _ _ _ hb5
  have HL := hid2 hl
  have HAS2 := hid2 has
  have HK := hid2 hK
  clear hK h4 hl3 hb3 hb4 hz4 has
  unfold maxLen at hln hlk
  go_enter Tryd.func53, Tryd.ntmps53
  go_wp2_with fail
  have hx0 : XM W gl deep (L - 1) #[.int .i64 3, .int .i64 nn, .string S, .slice AL n cL, .slice AK nk cK] (fun p q => #[.int .i64 3, .int .i64 0, if p then .string S else .string ⟨#[]⟩, .slice none 0 0, .slice none 0 0]) ((((((W.alloc (.cells #[.int .i64 3, .int .i64 nn, .string S, .slice AL n cL, .slice AK nk cK] 40)).alloc (.cells #[.int .i64 deep] 3)).alloc (.cells #[.pointer (some ⟨gl, 0, none⟩)] 84)).setCell ⟨gl, 0, none⟩ (.int .i64 (L - 1))).alloc (.cells #[.int .i64 3, .int .i64 0, .string ⟨#[]⟩, .slice none 0 0, .slice none 0 0] 40))).drew := ⟨h5.drew, hb5, false, false, ha5⟩
  have HX0 := hid2 hx0
  clear hx0 h5 hb5 ha5 q3 f3 q4 p4 d4 r0 b0 hp3
  refine wp_region_grd 9 (by kernel_rfl) (by kernel_rfl) (by kernel_rfl) _ rfl (by kernel_rfl) (V7 W (fun p q => #[.int .i64 3, .int .i64 0, if p then .string S else .string ⟨#[]⟩, .slice none 0 0, .slice none 0 0]) [.pointer (some ⟨W.heap.size, 2, none⟩), .string S, .pointer (some ⟨W.heap.size, 2, none⟩), .string S, .int .i64 S.size, .bool (decide ((S.size : Int) ≤ 65536)), .pointer (some ⟨W.heap.size + 1 + 1 + 1, 2, none⟩), .bool false, .bool (decide ((S.size : Int) ≤ 65536))] 7 1000) (XM W gl deep (L - 1) #[.int .i64 3, .int .i64 nn, .string S, .slice AL n cL, .slice AK nk cK] (fun p q => #[.int .i64 3, .int .i64 0, if p then .string S else .string ⟨#[]⟩, .slice none 0 0, .slice none 0 0])) (Ext7 W (fun p q => #[.int .i64 3, .int .i64 0, if p then .string S else .string ⟨#[]⟩, .slice none 0 0, .slice none 0 0])) (HX0.out) (fun _ _ _ _ hb hv => V7.keep hv hb) ?_ ?_
  · refine of_allOps ⟨?_, ?_, ?_, ?_, ?_, ?_, ?_, ?_, ?_, trivial⟩
    · intro T2 w2 hM hN hO hE K hK
      have o3 : T2[3]? = some (.pointer (some ⟨W.heap.size, 0, none⟩)) := hO 3 rfl
      clear hE hO hN
      refine step_plain0 rfl ?_
      go_simp
      exact hK _ _ ⟨rfl, fun h => absurd h (by decide), fun h => absurd h (by decide)⟩ hM (Ext7.refl _)
    · intro T2 w2 hM hN hO hE K hK
      obtain ⟨v0, h0, e0⟩ := hE ⟨0, .data⟩ (by simp) rfl _ _ rfl rfl
      rw [show v0 = .pointer (some ⟨W.heap.size, 2, none⟩) from (Option.some.inj e0.1).symm] at h0
      clear hE hO hN
      refine step_plain0 rfl ?_
      have hc : w2.cell? ⟨W.heap.size, 2, none⟩ = some (.string S) := cell_of_row w2 _ 2 _ _ _ hM.v
      go_simp
      exact hK _ _ ⟨rfl, fun h => absurd h (by decide), fun h => absurd h (by decide)⟩ hM (Ext7.refl _)
    · intro T2 w2 hM hN hO hE K hK
      have o3 : T2[3]? = some (.pointer (some ⟨W.heap.size, 0, none⟩)) := hO 3 rfl
      clear hE hO hN
      refine step_plain0 rfl ?_
      go_simp
      exact hK _ _ ⟨rfl, fun h => absurd h (by decide), fun h => absurd h (by decide)⟩ hM (Ext7.refl _)
    · intro T2 w2 hM hN hO hE K hK
      obtain ⟨v2, h2, e2⟩ := hE ⟨2, .data⟩ (by simp) rfl _ _ rfl rfl
      rw [show v2 = .pointer (some ⟨W.heap.size, 2, none⟩) from (Option.some.inj e2.1).symm] at h2
      clear hE hO hN
      refine step_plain0 rfl ?_
      have hc : w2.cell? ⟨W.heap.size, 2, none⟩ = some (.string S) := cell_of_row w2 _ 2 _ _ _ hM.v
      go_simp
      exact hK _ _ ⟨rfl, fun h => absurd h (by decide), fun h => absurd h (by decide)⟩ hM (Ext7.refl _)
    · intro T2 w2 hM hN hO hE K hK
      obtain ⟨v3, h3, e3⟩ := hE ⟨3, .data⟩ (by simp) rfl _ _ rfl rfl
      rw [show v3 = .string S from (Option.some.inj e3.1).symm] at h3
      clear hE hO hN
      refine step_plain0 rfl ?_
      go_simp
      exact hK _ _ ⟨rfl, fun h => absurd h (by decide), fun h => absurd h (by decide)⟩ hM (Ext7.refl _)
    · intro T2 w2 hM hN hO hE K hK
      obtain ⟨v4, h4, e4⟩ := hE ⟨4, .data⟩ (by simp) rfl _ _ rfl rfl
      rw [show v4 = .int .i64 S.size from (Option.some.inj e4.1).symm] at h4
      clear hE hO hN
      refine step_plain0 rfl ?_
      go_simp
      exact hK _ _ ⟨rfl, fun h => absurd h (by decide), fun h => absurd h (by decide)⟩ hM (Ext7.refl _)
    · intro T2 w2 hM hN hO hE K hK
      have o7 : T2[7]? = some (.pointer (some ⟨W.heap.size + 1 + 1 + 1, 0, none⟩)) := hO 7 rfl
      clear hE hO hN
      refine step_plain0 rfl ?_
      go_simp
      exact hK _ _ ⟨rfl, fun h => absurd h (by decide), fun h => absurd h (by decide)⟩ hM (Ext7.refl _)
    · intro T2 w2 hM hN hO hE K hK
      obtain ⟨v6, h6, e6⟩ := hE ⟨6, .data⟩ (by simp) rfl _ _ rfl rfl
      rw [show v6 = .pointer (some ⟨W.heap.size + 1 + 1 + 1, 2, none⟩) from (Option.some.inj e6.1).symm] at h6
      obtain ⟨v1, h1, e1⟩ := hE ⟨1, .data⟩ (by simp) rfl _ _ rfl rfl
      rw [show v1 = .string S from (Option.some.inj e1.1).symm] at h1
      clear hE hO hN
      refine step_plain0 rfl ?_
      obtain ⟨p, q, hb⟩ := hM.b
      obtain ⟨xx, hc⟩ : ∃ xx, w2.cell? ⟨W.heap.size + 1 + 1 + 1, 2, none⟩ = some xx := by cases p <;> cases q <;> exact ⟨_, cell_of_row w2 _ 2 _ _ _ hb⟩
      have hf := frozen_of_row w2 _ 2 _ _ hb
      go_simp
      exact hK (.bool false) _ ⟨rfl, fun _ => ⟨q, (hM.put (p := p) (q := q) hb 2 (.string S) (p' := true) (q' := q) (by cases p <;> cases q <;> rfl)).2⟩, fun h => absurd h (by decide)⟩ (hM.put (p := p) (q := q) hb 2 (.string S) (p' := true) (q' := q) (by cases p <;> cases q <;> rfl)).1 (fun p1 q1 h1 => ⟨true, q1, (hM.put (p := p1) (q := q1) h1 2 (.string S) (p' := true) (q' := q1) (by cases p1 <;> cases q1 <;> rfl)).2, fun _ => rfl, id⟩)
    · intro T2 w2 hM hN hO hE K hK
      obtain ⟨v5, h5, e5⟩ := hE ⟨5, .data⟩ (by simp) rfl _ _ rfl rfl
      rw [show v5 = .bool (decide ((S.size : Int) ≤ 65536)) from (Option.some.inj e5.1).symm] at h5
      clear hE hO hN
      refine step_plain0 rfl ?_
      go_simp
      exact hK _ _ ⟨rfl, fun h => absurd h (by decide), fun h => absurd h (by decide)⟩ hM (Ext7.refl _)
  · intro u w2 hM hF
    have e8 : u 8 = .bool (decide ((S.size : Int) ≤ 65536)) := (Option.some.inj (hF 8 (by omega)).1).symm
    obtain ⟨q7, hr7⟩ := (hF 7 (by omega)).2.1 rfl
    clear hF
    simp only [fillAll, Nat.reduceAdd, e8, List.take_succ_cons, List.take_zero, List.drop_succ_cons, List.drop_zero, List.setIfInBounds_toArray, List.set_cons_succ, List.set_cons_zero]
    clear e8
    have h5 := hM.m
    have hv5 := hM.v
    have c0 : w2.cell? ⟨W.heap.size, 0, none⟩ = some (.int .i64 3) := cell_of_row w2 _ 0 _ _ _ hv5
    have a0 : w2.cell? ⟨W.heap.size + 1 + 1 + 1, 0, none⟩ = some (.int .i64 3) := cell_of_row w2 _ 0 _ _ _ hr7
    have c1 : w2.cell? ⟨W.heap.size, 1, none⟩ = some (.int .i64 nn) := cell_of_row w2 _ 1 _ _ _ hv5
    have a1 : w2.cell? ⟨W.heap.size + 1 + 1 + 1, 1, none⟩ = some (.int .i64 0) := cell_of_row w2 _ 1 _ _ _ hr7
    have c2 : w2.cell? ⟨W.heap.size, 2, none⟩ = some (.string S) := cell_of_row w2 _ 2 _ _ _ hv5
    have a2 : w2.cell? ⟨W.heap.size + 1 + 1 + 1, 2, none⟩ = some (.string S) := cell_of_row w2 _ 2 _ _ _ hr7
    have c3 : w2.cell? ⟨W.heap.size, 3, none⟩ = some (.slice AL n cL) := cell_of_row w2 _ 3 _ _ _ hv5
    have a3 : w2.cell? ⟨W.heap.size + 1 + 1 + 1, 3, none⟩ = some (.slice none 0 0) := cell_of_row w2 _ 3 _ _ _ hr7
    have c4 : w2.cell? ⟨W.heap.size, 4, none⟩ = some (.slice AK nk cK) := cell_of_row w2 _ 4 _ _ _ hv5
    have a4 : w2.cell? ⟨W.heap.size + 1 + 1 + 1, 4, none⟩ = some (.slice none 0 0) := cell_of_row w2 _ 4 _ _ _ hr7
    have H5 := hid2 h5
    clear h5 hv5 hr7 hM
    go_wp2_with (go_at_call 79; refine (HAS2.out _ (by have h5 := H5.out; (repeat first | (with_reducible assumption) | (with_reducible refine M5.drew ?_) | (with_reducible refine M5.set ?_ (by omega) _)))).mono ?_; rintro e w3 ⟨r, L', rfl, hl2, hg2, hr2⟩)
    all_goals go_ret
    all_goals clear c0 c1 c2 c3 c4 a0 a1 a2 a3 a4
    all_goals first
      | (refine kpost_no (deep := deep) rfl ?_ ?_
         · have h5 := H5.out
           (repeat first | (with_reducible assumption) | (with_reducible refine M5.drew ?_) | (with_reducible refine M5.set ?_ (by omega) _))
         · rw [HK.out]
           rintro hK
           first
             | omega
             | (simp only [bne_iff_ne, bne_eq_false_iff_eq, ne_eq] at *; omega)
             | (obtain ⟨x1, x2, x3, x4⟩ := hK; contradiction)
             | (obtain ⟨x1, x2, x3⟩ := hK; contradiction)
             | fail "left")
      | (refine kpost_yes (deep := deep) (r := r) rfl (W' := _) (?_ : M5 W gl deep (L - 1) _) ?_ hl2 hg2 hr2
         · have h5 := H5.out
           (repeat first | (with_reducible assumption) | (with_reducible refine M5.drew ?_) | (with_reducible refine M5.set ?_ (by omega) _))
         · rw [HK.out]
           try simp only [bne_iff_ne, bne_eq_false_iff_eq, ne_eq] at *
           first
             | omega
             | (refine ⟨?_, ?_, ?_, ?_⟩ <;> first | omega | assumption | (left; trivial) | (right; trivial) | trivial)
             | (refine ⟨?_, ?_, ?_⟩ <;> first | omega | assumption))

set_option maxHeartbeats 800000 in
theorem may_k4 (W : World) (gl deep : Nat) (L nn : Int) (S : ByteArray) (AL AK : Option Addr) (n nk cL cK : Nat) (G K : Prop) (hK : K ↔ (nn = 0 ∧ S.toList = [] ∧ n ≤ 1000 ∧ nk = 0)) (ts : Int) (hl : Left W gl L) (h0 : 0 ≤ L) (h1 : L ≤ 20000) (hd : deep ≤ 60) (hL : ¬ L - 1 < 0) (hln : n ≤ maxLen) (hlk : nk ≤ maxLen) (has : HAS W gl deep L AL n cL G ts) :
    Calls Tryd.prog 53 #[.agg #[.int .i64 4, .int .i64 nn, .string S, .slice AL n cL, .slice AK nk cK], .int .i64 deep, .pointer (some ⟨gl, 0, none⟩)] W (KPost W gl L G ts K) := by
  have hlt := hl.lt
  have hwl : IntKind.i64.wrap (L - 1) = L - 1 := by unfold IntKind.wrap; simp [IntKind.bits, IntKind.signed]; omega
  have hdd : ¬ (60 : Int) < deep := by omega
  have h4 := m4_of (deep := deep) hl (.cells #[.int .i64 4, .int .i64 nn, .string S, .slice AL n cL, .slice AK nk cK] 40) (L - 1)
  have h5 := h4.alloc (.cells #[.int .i64 4, .int .i64 0, .string ⟨#[]⟩, .slice none 0 0, .slice none 0 0] 40)
  have hl3 : Left (((W.alloc (.cells #[.int .i64 4, .int .i64 nn, .string S, .slice AL n cL, .slice AK nk cK] 40)).alloc (.cells #[.int .i64 deep] 3)).alloc (.cells #[.pointer (some ⟨gl, 0, none⟩)] 84)) gl L := (Below.heap_alloc _ _ _ (by rw [World.size_alloc, World.size_alloc]; omega)).trans ((Below.heap_alloc _ _ _ (by rw [World.size_alloc]; omega)).trans ((Below.heap_alloc _ _ _ hlt).trans hl))
  have hp3 : ((((W.alloc (.cells #[.int .i64 4, .int .i64 nn, .string S, .slice AL n cL, .slice AK nk cK] 40)).alloc (.cells #[.int .i64 deep] 3)).alloc (.cells #[.pointer (some ⟨gl, 0, none⟩)] 84))).cell? ⟨W.heap.size + 1 + 1, 0, none⟩ = some (.pointer (some ⟨gl, 0, none⟩)) := by rw [show W.heap.size + 1 + 1 = ((W.alloc (.cells #[.int .i64 4, .int .i64 nn, .string S, .slice AL n cL, .slice AK nk cK] 40)).alloc (.cells #[.int .i64 deep] 3)).heap.size by rw [World.size_alloc, World.size_alloc]]; exact cell_of_row _ _ 0 _ _ _ (heap_alloc_new _ _)
  have q3 := hl3.cell
  have f3 := hl3.free
  have q4 := h4.left.cell
  have p4 := cell_of_row ((((W.alloc (.cells #[.int .i64 4, .int .i64 nn, .string S, .slice AL n cL, .slice AK nk cK] 40)).alloc (.cells #[.int .i64 deep] 3)).alloc (.cells #[.pointer (some ⟨gl, 0, none⟩)] 84)).setCell ⟨gl, 0, none⟩ (.int .i64 (L - 1))) _ 0 _ _ _ h4.caps.p
  have d4 := cell_of_row ((((W.alloc (.cells #[.int .i64 4, .int .i64 nn, .string S, .slice AL n cL, .slice AK nk cK] 40)).alloc (.cells #[.int .i64 deep] 3)).alloc (.cells #[.pointer (some ⟨gl, 0, none⟩)] 84)).setCell ⟨gl, 0, none⟩ (.int .i64 (L - 1))) _ 0 _ _ _ h4.caps.d
  have hb3 : ((((W.alloc (.cells #[.int .i64 4, .int .i64 nn, .string S, .slice AL n cL, .slice AK nk cK] 40)).alloc (.cells #[.int .i64 deep] 3)).alloc (.cells #[.pointer (some ⟨gl, 0, none⟩)] 84))).heap[W.heap.size]? = some (.cells #[.int .i64 4, .int .i64 nn, .string S, .slice AL n cL, .slice AK nk cK] 40) := by
    have e1 := heap_alloc_new W (.cells #[.int .i64 4, .int .i64 nn, .string S, .slice AL n cL, .slice AK nk cK] 40)
    exact (Below.heap_alloc _ _ _ (by rw [World.size_alloc, World.size_alloc]; omega)).trans ((Below.heap_alloc _ _ _ (by rw [World.size_alloc]; omega)).trans e1)
  have hb4 : (((((W.alloc (.cells #[.int .i64 4, .int .i64 nn, .string S, .slice AL n cL, .slice AK nk cK] 40)).alloc (.cells #[.int .i64 deep] 3)).alloc (.cells #[.pointer (some ⟨gl, 0, none⟩)] 84)).setCell ⟨gl, 0, none⟩ (.int .i64 (L - 1)))).heap[W.heap.size]? = some (.cells #[.int .i64 4, .int .i64 nn, .string S, .slice AL n cL, .slice AK nk cK] 40) := (Below.heap_setCell _ ⟨gl, 0, none⟩ _ _ (show W.heap.size ≠ gl by omega)).trans hb3
  have r0 : (((((W.alloc (.cells #[.int .i64 4, .int .i64 nn, .string S, .slice AL n cL, .slice AK nk cK] 40)).alloc (.cells #[.int .i64 deep] 3)).alloc (.cells #[.pointer (some ⟨gl, 0, none⟩)] 84)).setCell ⟨gl, 0, none⟩ (.int .i64 (L - 1)))).cell? ⟨W.heap.size, 0, none⟩ = some (.int .i64 4) := cell_of_row _ _ 0 _ _ _ hb4
  have hz4 : (((((W.alloc (.cells #[.int .i64 4, .int .i64 nn, .string S, .slice AL n cL, .slice AK nk cK] 40)).alloc (.cells #[.int .i64 deep] 3)).alloc (.cells #[.pointer (some ⟨gl, 0, none⟩)] 84)).setCell ⟨gl, 0, none⟩ (.int .i64 (L - 1)))).heap.size = W.heap.size + 1 + 1 + 1 := by rw [World.size_setCell, World.size_alloc, World.size_alloc, World.size_alloc]
  have hb5 : ((((((W.alloc (.cells #[.int .i64 4, .int .i64 nn, .string S, .slice AL n cL, .slice AK nk cK] 40)).alloc (.cells #[.int .i64 deep] 3)).alloc (.cells #[.pointer (some ⟨gl, 0, none⟩)] 84)).setCell ⟨gl, 0, none⟩ (.int .i64 (L - 1))).alloc (.cells #[.int .i64 4, .int .i64 0, .string ⟨#[]⟩, .slice none 0 0, .slice none 0 0] 40))).heap[W.heap.size]? = some (.cells #[.int .i64 4, .int .i64 nn, .string S, .slice AL n cL, .slice AK nk cK] 40) := (Below.heap_alloc _ _ _ (by rw [hz4]; omega)).trans hb4
  have ha5 : ((((((W.alloc (.cells #[.int .i64 4, .int .i64 nn, .string S, .slice AL n cL, .slice AK nk cK] 40)).alloc (.cells #[.int .i64 deep] 3)).alloc (.cells #[.pointer (some ⟨gl, 0, none⟩)] 84)).setCell ⟨gl, 0, none⟩ (.int .i64 (L - 1))).alloc (.cells #[.int .i64 4, .int .i64 0, .string ⟨#[]⟩, .slice none 0 0, .slice none 0 0] 40))).heap[W.heap.size + 1 + 1 + 1]? = some (.cells #[.int .i64 4, .int .i64 0, .string ⟨#[]⟩, .slice none 0 0, .slice none 0 0] 40) := by rw [← hz4]; exact heap_alloc_new _ _
  have b0 : ((((((W.alloc (.cells #[.int .i64 4, .int .i64 nn, .string S, .slice AL n cL, .slice AK nk cK] 40)).alloc (.cells #[.int .i64 deep] 3)).alloc (.cells #[.pointer (some ⟨gl, 0, none⟩)] 84)).setCell ⟨gl, 0, none⟩ (.int .i64 (L - 1))).alloc (.cells #[.int .i64 4, .int .i64 0, .string ⟨#[]⟩, .slice none 0 0, .slice none 0 0] 40))).cell? ⟨W.heap.size, 0, none⟩ = some (.int .i64 4) := cell_of_row _ _ 0 _ _ _ hb5
  have HL := hid2 hl
  have HAS2 := hid2 has
  have HK := hid2 hK
  clear hK h4 hl3 hb3 hb4 hz4 has
  unfold maxLen at hln hlk
  go_enter Tryd.func53, Tryd.ntmps53
  go_wp2_with fail
  have hx0 : XM W gl deep (L - 1) #[.int .i64 4, .int .i64 nn, .string S, .slice AL n cL, .slice AK nk cK] (fun p q => #[.int .i64 4, .int .i64 0, .string ⟨#[]⟩, if p then .slice AL n cL else .slice none 0 0, .slice none 0 0]) ((((((W.alloc (.cells #[.int .i64 4, .int .i64 nn, .string S, .slice AL n cL, .slice AK nk cK] 40)).alloc (.cells #[.int .i64 deep] 3)).alloc (.cells #[.pointer (some ⟨gl, 0, none⟩)] 84)).setCell ⟨gl, 0, none⟩ (.int .i64 (L - 1))).alloc (.cells #[.int .i64 4, .int .i64 0, .string ⟨#[]⟩, .slice none 0 0, .slice none 0 0] 40))).drew := ⟨h5.drew, hb5, false, false, ha5⟩
  have HX0 := hid2 hx0
  clear hx0 h5 hb5 ha5 q3 f3 q4 p4 d4 r0 b0 hp3
  refine wp_region_grd 9 (by kernel_rfl) (by kernel_rfl) (by kernel_rfl) _ rfl (by kernel_rfl) (V7 W (fun p q => #[.int .i64 4, .int .i64 0, .string ⟨#[]⟩, if p then .slice AL n cL else .slice none 0 0, .slice none 0 0]) [.pointer (some ⟨W.heap.size, 3, none⟩), .slice AL n cL, .pointer (some ⟨W.heap.size, 3, none⟩), .slice AL n cL, .int .i64 n, .bool (decide ((n : Int) ≤ 1000)), .pointer (some ⟨W.heap.size + 1 + 1 + 1, 3, none⟩), .bool false, .bool (decide ((n : Int) ≤ 1000))] 7 1000) (XM W gl deep (L - 1) #[.int .i64 4, .int .i64 nn, .string S, .slice AL n cL, .slice AK nk cK] (fun p q => #[.int .i64 4, .int .i64 0, .string ⟨#[]⟩, if p then .slice AL n cL else .slice none 0 0, .slice none 0 0])) (Ext7 W (fun p q => #[.int .i64 4, .int .i64 0, .string ⟨#[]⟩, if p then .slice AL n cL else .slice none 0 0, .slice none 0 0])) (HX0.out) (fun _ _ _ _ hb hv => V7.keep hv hb) ?_ ?_
  · refine of_allOps ⟨?_, ?_, ?_, ?_, ?_, ?_, ?_, ?_, ?_, trivial⟩
    · intro T2 w2 hM hN hO hE K hK
      have o3 : T2[3]? = some (.pointer (some ⟨W.heap.size, 0, none⟩)) := hO 3 rfl
      clear hE hO hN
      refine step_plain0 rfl ?_
      go_simp
      exact hK _ _ ⟨rfl, fun h => absurd h (by decide), fun h => absurd h (by decide)⟩ hM (Ext7.refl _)
    · intro T2 w2 hM hN hO hE K hK
      obtain ⟨v0, h0, e0⟩ := hE ⟨0, .data⟩ (by simp) rfl _ _ rfl rfl
      rw [show v0 = .pointer (some ⟨W.heap.size, 3, none⟩) from (Option.some.inj e0.1).symm] at h0
      clear hE hO hN
      refine step_plain0 rfl ?_
      have hc : w2.cell? ⟨W.heap.size, 3, none⟩ = some (.slice AL n cL) := cell_of_row w2 _ 3 _ _ _ hM.v
      go_simp
      exact hK _ _ ⟨rfl, fun h => absurd h (by decide), fun h => absurd h (by decide)⟩ hM (Ext7.refl _)
    · intro T2 w2 hM hN hO hE K hK
      have o3 : T2[3]? = some (.pointer (some ⟨W.heap.size, 0, none⟩)) := hO 3 rfl
      clear hE hO hN
      refine step_plain0 rfl ?_
      go_simp
      exact hK _ _ ⟨rfl, fun h => absurd h (by decide), fun h => absurd h (by decide)⟩ hM (Ext7.refl _)
    · intro T2 w2 hM hN hO hE K hK
      obtain ⟨v2, h2, e2⟩ := hE ⟨2, .data⟩ (by simp) rfl _ _ rfl rfl
      rw [show v2 = .pointer (some ⟨W.heap.size, 3, none⟩) from (Option.some.inj e2.1).symm] at h2
      clear hE hO hN
      refine step_plain0 rfl ?_
      have hc : w2.cell? ⟨W.heap.size, 3, none⟩ = some (.slice AL n cL) := cell_of_row w2 _ 3 _ _ _ hM.v
      go_simp
      exact hK _ _ ⟨rfl, fun h => absurd h (by decide), fun h => absurd h (by decide)⟩ hM (Ext7.refl _)
    · intro T2 w2 hM hN hO hE K hK
      obtain ⟨v3, h3, e3⟩ := hE ⟨3, .data⟩ (by simp) rfl _ _ rfl rfl
      rw [show v3 = .slice AL n cL from (Option.some.inj e3.1).symm] at h3
      clear hE hO hN
      refine step_plain0 rfl ?_
      go_simp
      exact hK _ _ ⟨rfl, fun h => absurd h (by decide), fun h => absurd h (by decide)⟩ hM (Ext7.refl _)
    · intro T2 w2 hM hN hO hE K hK
      obtain ⟨v4, h4, e4⟩ := hE ⟨4, .data⟩ (by simp) rfl _ _ rfl rfl
      rw [show v4 = .int .i64 n from (Option.some.inj e4.1).symm] at h4
      clear hE hO hN
      refine step_plain0 rfl ?_
      go_simp
      exact hK _ _ ⟨rfl, fun h => absurd h (by decide), fun h => absurd h (by decide)⟩ hM (Ext7.refl _)
    · intro T2 w2 hM hN hO hE K hK
      have o7 : T2[7]? = some (.pointer (some ⟨W.heap.size + 1 + 1 + 1, 0, none⟩)) := hO 7 rfl
      clear hE hO hN
      refine step_plain0 rfl ?_
      go_simp
      exact hK _ _ ⟨rfl, fun h => absurd h (by decide), fun h => absurd h (by decide)⟩ hM (Ext7.refl _)
    · intro T2 w2 hM hN hO hE K hK
      obtain ⟨v6, h6, e6⟩ := hE ⟨6, .data⟩ (by simp) rfl _ _ rfl rfl
      rw [show v6 = .pointer (some ⟨W.heap.size + 1 + 1 + 1, 3, none⟩) from (Option.some.inj e6.1).symm] at h6
      obtain ⟨v1, h1, e1⟩ := hE ⟨1, .data⟩ (by simp) rfl _ _ rfl rfl
      rw [show v1 = .slice AL n cL from (Option.some.inj e1.1).symm] at h1
      clear hE hO hN
      refine step_plain0 rfl ?_
      obtain ⟨p, q, hb⟩ := hM.b
      obtain ⟨xx, hc⟩ : ∃ xx, w2.cell? ⟨W.heap.size + 1 + 1 + 1, 3, none⟩ = some xx := by cases p <;> cases q <;> exact ⟨_, cell_of_row w2 _ 3 _ _ _ hb⟩
      have hf := frozen_of_row w2 _ 3 _ _ hb
      go_simp
      exact hK (.bool false) _ ⟨rfl, fun _ => ⟨q, (hM.put (p := p) (q := q) hb 3 (.slice AL n cL) (p' := true) (q' := q) (by cases p <;> cases q <;> rfl)).2⟩, fun h => absurd h (by decide)⟩ (hM.put (p := p) (q := q) hb 3 (.slice AL n cL) (p' := true) (q' := q) (by cases p <;> cases q <;> rfl)).1 (fun p1 q1 h1 => ⟨true, q1, (hM.put (p := p1) (q := q1) h1 3 (.slice AL n cL) (p' := true) (q' := q1) (by cases p1 <;> cases q1 <;> rfl)).2, fun _ => rfl, id⟩)
    · intro T2 w2 hM hN hO hE K hK
      obtain ⟨v5, h5, e5⟩ := hE ⟨5, .data⟩ (by simp) rfl _ _ rfl rfl
      rw [show v5 = .bool (decide ((n : Int) ≤ 1000)) from (Option.some.inj e5.1).symm] at h5
      clear hE hO hN
      refine step_plain0 rfl ?_
      go_simp
      exact hK _ _ ⟨rfl, fun h => absurd h (by decide), fun h => absurd h (by decide)⟩ hM (Ext7.refl _)
  · intro u w2 hM hF
    have e8 : u 8 = .bool (decide ((n : Int) ≤ 1000)) := (Option.some.inj (hF 8 (by omega)).1).symm
    obtain ⟨q7, hr7⟩ := (hF 7 (by omega)).2.1 rfl
    clear hF
    simp only [fillAll, Nat.reduceAdd, e8, List.take_succ_cons, List.take_zero, List.drop_succ_cons, List.drop_zero, List.setIfInBounds_toArray, List.set_cons_succ, List.set_cons_zero]
    clear e8
    have h5 := hM.m
    have hv5 := hM.v
    have c0 : w2.cell? ⟨W.heap.size, 0, none⟩ = some (.int .i64 4) := cell_of_row w2 _ 0 _ _ _ hv5
    have a0 : w2.cell? ⟨W.heap.size + 1 + 1 + 1, 0, none⟩ = some (.int .i64 4) := cell_of_row w2 _ 0 _ _ _ hr7
    have c1 : w2.cell? ⟨W.heap.size, 1, none⟩ = some (.int .i64 nn) := cell_of_row w2 _ 1 _ _ _ hv5
    have a1 : w2.cell? ⟨W.heap.size + 1 + 1 + 1, 1, none⟩ = some (.int .i64 0) := cell_of_row w2 _ 1 _ _ _ hr7
    have c2 : w2.cell? ⟨W.heap.size, 2, none⟩ = some (.string S) := cell_of_row w2 _ 2 _ _ _ hv5
    have a2 : w2.cell? ⟨W.heap.size + 1 + 1 + 1, 2, none⟩ = some (.string ⟨#[]⟩) := cell_of_row w2 _ 2 _ _ _ hr7
    have c3 : w2.cell? ⟨W.heap.size, 3, none⟩ = some (.slice AL n cL) := cell_of_row w2 _ 3 _ _ _ hv5
    have a3 : w2.cell? ⟨W.heap.size + 1 + 1 + 1, 3, none⟩ = some (.slice AL n cL) := cell_of_row w2 _ 3 _ _ _ hr7
    have c4 : w2.cell? ⟨W.heap.size, 4, none⟩ = some (.slice AK nk cK) := cell_of_row w2 _ 4 _ _ _ hv5
    have a4 : w2.cell? ⟨W.heap.size + 1 + 1 + 1, 4, none⟩ = some (.slice none 0 0) := cell_of_row w2 _ 4 _ _ _ hr7
    have H5 := hid2 h5
    clear h5 hv5 hr7 hM
    go_wp2_with (go_at_call 79; refine (HAS2.out _ (by have h5 := H5.out; (repeat first | (with_reducible assumption) | (with_reducible refine M5.drew ?_) | (with_reducible refine M5.set ?_ (by omega) _)))).mono ?_; rintro e w3 ⟨r, L', rfl, hl2, hg2, hr2⟩)
    all_goals go_ret
    all_goals clear c0 c1 c2 c3 c4 a0 a1 a2 a3 a4
    all_goals first
      | (refine kpost_no (deep := deep) rfl ?_ ?_
         · have h5 := H5.out
           (repeat first | (with_reducible assumption) | (with_reducible refine M5.drew ?_) | (with_reducible refine M5.set ?_ (by omega) _))
         · rw [HK.out]
           rintro hK
           first
             | omega
             | (simp only [bne_iff_ne, bne_eq_false_iff_eq, ne_eq] at *; omega)
             | (obtain ⟨x1, x2, x3, x4⟩ := hK; contradiction)
             | (obtain ⟨x1, x2, x3⟩ := hK; contradiction)
             | fail "left")
      | (refine kpost_yes (deep := deep) (r := r) rfl (W' := _) (?_ : M5 W gl deep (L - 1) _) ?_ hl2 hg2 hr2
         · have h5 := H5.out
           (repeat first | (with_reducible assumption) | (with_reducible refine M5.drew ?_) | (with_reducible refine M5.set ?_ (by omega) _))
         · rw [HK.out]
           try simp only [bne_iff_ne, bne_eq_false_iff_eq, ne_eq] at *
           first
             | omega
             | (refine ⟨?_, ?_, ?_, ?_⟩ <;> first | omega | assumption | (left; trivial) | (right; trivial) | trivial)
             | (refine ⟨?_, ?_, ?_⟩ <;> first | omega | assumption))

end Go.Proofs.YthefhfnmkjdekaaDoor
