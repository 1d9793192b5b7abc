/- Values: what they are, and how they lie in memory. -/
import Derived.Test.YthefhfnmkjdekaaDoorCf10
namespace Go.Proofs.YthefhfnmkjdekaaDoor
open Go.RowKit
set_option maxRecDepth 100000
inductive VT where
  | mk (k n : Int) (s : Tx) (l : List VT) (ks : List Tx) : VT
def VT.k : VT → Int | .mk k _ _ _ _ => k
def VT.n : VT → Int | .mk _ n _ _ _ => n
def VT.s : VT → Tx | .mk _ _ s _ _ => s
def VT.l : VT → List VT | .mk _ _ _ l _ => l
def VT.ks : VT → List Tx | .mk _ _ _ _ ks => ks
def VT.zero : VT := .mk 0 0 [] [] []
mutual
def VT.total : VT → Nat | .mk _ _ _ l _ => 1 + VT.totals l
def VT.totals : List VT → Nat
  | [] => 0
  | x :: r => x.total + VT.totals r
end
mutual
def VT.depth : VT → Nat | .mk _ _ _ l _ => 1 + VT.depths l
def VT.depths : List VT → Nat
  | [] => 0
  | x :: r => max x.depth (VT.depths r)
end
/-- where a value's rows lie -/
structure VA where
  L : Option Addr
  K : Option Addr
  cL : Nat
  cK : Nat
def vV (v : VT) (a : VA) : Array Value := #[.int .i64 v.k, .int .i64 v.n, .string (strB v.s), .slice a.L v.l.length a.cL, .slice a.K v.ks.length a.cK]
mutual
def VAt (w : World) : VT → VA → Prop
  | .mk _ _ _ l ks, a => Rd w 1 a.K ks.length (strV ks) ∧ l.length ≤ maxLen ∧ ks.length ≤ maxLen ∧ ∃ rows, Rd w 5 a.L l.length rows ∧ VAts w l rows
def VAts (w : World) : List VT → List Value → Prop
  | [], _ => True
  | x :: r, rows => (∃ a, rows.take 5 = (vV x a).toList ∧ VAt w x a) ∧ VAts w r (rows.drop 5)
end
theorem VAts.get {w : World} : ∀ {l : List VT} {rows : List Value}, VAts w l rows → ∀ {i : Nat} {x : VT}, l[i]? = some x → ∃ a, (rows.drop (i * 5)).take 5 = (vV x a).toList ∧ VAt w x a
  | [], _, _, i, x, h => by simp at h
  | y :: l, rows, h, 0, x, hx => by
    rw [VAts] at h
    simp only [List.getElem?_cons_zero, Option.some.injEq] at hx
    subst hx
    simpa using h.1
  | y :: l, rows, h, i + 1, x, hx => by
    rw [VAts] at h
    obtain ⟨a, h1, h2⟩ := VAts.get h.2 (i := i) (x := x) (by simpa using hx)
    rw [List.drop_drop] at h1
    exact ⟨a, by rw [← h1]; congr 2; omega, h2⟩
theorem VAt.keys {w : World} {v : VT} {a : VA} (h : VAt w v a) : Rd w 1 a.K v.ks.length (strV v.ks) := by
  cases v
  rw [VAt] at h
  exact h.1
theorem VAt.lenL {w : World} {v : VT} {a : VA} (h : VAt w v a) : v.l.length ≤ maxLen := by
  cases v
  rw [VAt] at h
  exact h.2.1
theorem VAt.lenK {w : World} {v : VT} {a : VA} (h : VAt w v a) : v.ks.length ≤ maxLen := by
  cases v
  rw [VAt] at h
  exact h.2.2.1
theorem VAt.elem {w : World} {v : VT} {a : VA} (h : VAt w v a) {i : Nat} {x : VT} (hx : v.l[i]? = some x) :
    ∃ b o ax, a.L = some ⟨b, o, none⟩ ∧ VAt w x ax ∧ ∀ j u, (vV x ax)[j]? = some u → w.cell? ⟨b, o + i * 5 + j, none⟩ = some u := by
  cases v with
  | mk k n s l ks =>
    rw [VAt] at h
    obtain ⟨_, _, _, rows, hr, hv⟩ := h
    have hx' : l[i]? = some x := hx
    obtain ⟨ax, h1, h2⟩ := hv.get hx'
    have hil : i < l.length := (List.getElem?_eq_some_iff.1 hx').1
    obtain ⟨b, o, hA, hc⟩ := hr.2 (by omega)
    refine ⟨b, o, ax, hA, h2, fun j u hu => ?_⟩
    rw [Nat.add_assoc]
    refine hc (i * 5 + j) u ?_
    have hj : j < 5 := by
      have := (Array.getElem?_eq_some_iff.1 hu).1
      simpa [vV] using this
    have h3 : ((rows.drop (i * 5)).take 5)[j]? = some u := by rw [h1, Array.getElem?_toList]; exact hu
    rw [List.getElem?_take, if_pos hj, List.getElem?_drop] at h3
    exact h3
mutual
theorem VAt.below {w w' : World} (hb : Below w.heap.size w w') : ∀ (v : VT) (a : VA), VAt w v a → VAt w' v a
  | .mk k n s l ks, a, h => by
    rw [VAt] at *
    obtain ⟨h1, h2, h3, rows, h4, h5⟩ := h
    exact ⟨h1.below_all hb, h2, h3, rows, h4.below_all hb, VAts.below hb l rows h5⟩
theorem VAts.below {w w' : World} (hb : Below w.heap.size w w') : ∀ (l : List VT) (rows : List Value), VAts w l rows → VAts w' l rows
  | [], rows, _ => by rw [VAts]; trivial
  | x :: r, rows, h => by
    rw [VAts] at *
    obtain ⟨⟨a, h1, h2⟩, h3⟩ := h
    exact ⟨⟨a, h1, VAt.below hb x a h2⟩, VAts.below hb r _ h3⟩
end
theorem totals_mem : ∀ {l : List VT} {x : VT}, x ∈ l → x.total ≤ VT.totals l
  | y :: l, x, h => by
    rw [VT.totals]
    rcases List.mem_cons.1 h with rfl | h
    · omega
    · have := totals_mem h
      omega
theorem total_lt {v x : VT} {i : Nat} (h : v.l[i]? = some x) : x.total < v.total := by
  cases v with
  | mk k n s l ks =>
    rw [VT.total]
    have := totals_mem (List.mem_of_getElem? (show l[i]? = some x from h))
    omega
theorem totals_take {l : List VT} {i : Nat} {x : VT} (h : l[i]? = some x) : VT.totals (l.take (i + 1)) = VT.totals (l.take i) + x.total := by
  induction l generalizing i with
  | nil => simp at h
  | cons y l ih =>
    cases i with
    | zero =>
      simp only [List.getElem?_cons_zero, Option.some.injEq] at h
      subst h
      simp [VT.totals]
    | succ i =>
      have := ih (i := i) (by simpa using h)
      simp only [List.take_succ_cons, VT.totals, this]
      omega
theorem depths_take {l : List VT} {i : Nat} {x : VT} (h : l[i]? = some x) : VT.depths (l.take (i + 1)) = max (VT.depths (l.take i)) x.depth := by
  induction l generalizing i with
  | nil => simp at h
  | cons y l ih =>
    cases i with
    | zero =>
      simp only [List.getElem?_cons_zero, Option.some.injEq] at h
      subst h
      simp [VT.depths]
    | succ i =>
      have := ih (i := i) (by simpa using h)
      simp only [List.take_succ_cons, VT.depths, this]
      omega
/-- a value in a box -/
structure VBox (W : World) (g : Nat) (v : VT) (a : VA) : Prop where
  row : W.heap[g]? = some (.cells (vV v a) 40 (0, 0))
  at_ : VAt W v a
theorem VBox.below {W W' : World} {g : Nat} {v : VT} {a : VA} (h : VBox W g v a) (hb : Below W.heap.size W W') : VBox W' g v a := ⟨(hb.block g (heap_lt h.row)).trans h.row, VAt.below hb v a h.at_⟩
theorem VBox.cell {W : World} {g : Nat} {v : VT} {a : VA} (h : VBox W g v a) (j : Nat) : W.cell? ⟨g, j, none⟩ = (vV v a)[j]? := cell_of_row W g j _ _ _ h.row
theorem VBox.cells {W : World} {g : Nat} {v : VT} {a : VA} (h : VBox W g v a) : W.cell? ⟨g, 0, none⟩ = some (.int .i64 v.k) ∧ W.cell? ⟨g, 1, none⟩ = some (.int .i64 v.n) ∧ W.cell? ⟨g, 2, none⟩ = some (.string (strB v.s)) ∧ W.cell? ⟨g, 3, none⟩ = some (.slice a.L v.l.length a.cL) ∧ W.cell? ⟨g, 4, none⟩ = some (.slice a.K v.ks.length a.cK) :=
  ⟨h.cell 0, h.cell 1, h.cell 2, h.cell 3, h.cell 4⟩
theorem box_value (w : World) (v : VT) (a : VA) (h : VAt w v a) : VBox (w.alloc (.cells (vV v a) 40)) w.heap.size v a ∧ Below w.heap.size w (w.alloc (.cells (vV v a) 40)) :=
  ⟨⟨heap_alloc_new w _, VAt.below ((Below.refl _ w).alloc (Nat.le_refl _) _) v a h⟩, (Below.refl _ w).alloc (Nat.le_refl _) _⟩
theorem info_val : (Tryd.prog.info? 40).map (·.size) = some 5 := by kernel_rfl
theorem zero_vV : (vV .zero ⟨none, none, 0, 0⟩) = #[.int .i64 0, .int .i64 0, .string ⟨#[]⟩, .slice none 0 0, .slice none 0 0] := rfl
theorem VAt.zero (w : World) : VAt w .zero ⟨none, none, 0, 0⟩ := by
  rw [VT.zero, VAt]
  exact ⟨Rd.none_ _ _ _, by simp, by simp, [], Rd.none_ _ _ _, by rw [VAts]; trivial⟩
end Go.Proofs.YthefhfnmkjdekaaDoor
