/- How long an action's text is. -/
import Derived.Test.YtjmfmlkjippiaaaDoorKref6
namespace Go.Proofs.YtjmfmlkjippiaaaDoor
open Go.Lib (decDigits)
theorem rowL_cons_len (s : Tx) (l : List Tx) : (rowL (s :: l)).length = (decDigits s.length).length + 1 + s.length + (rowL l).length := by
  rw [rowL_cons]
  simp only [List.length_append, List.length_cons]
  omega
theorem dec_le {n : Nat} (h : n ≤ 1000000000) : (decDigits n).length ≤ 10 := dec_len 9 n (by omega)
theorem rowL_len_le {M : Nat} (hM : M ≤ 1000000000) : ∀ (l : List Tx) (n : Nat), l.length ≤ n → (∀ x ∈ l, x.length ≤ M) → (rowL l).length ≤ n * (M + 11)
  | [], n, _, _ => by rw [rowL_nil]; simp
  | s :: l, n, hn, h => by
    obtain ⟨m, rfl⟩ : ∃ m, n = m + 1 := ⟨n - 1, by simp at hn; omega⟩
    have h1 := rowL_len_le hM l m (by simpa using hn) (fun x hx => h x (by simp [hx]))
    have h2 := h s (by simp)
    have h3 := dec_le (n := s.length) (by omega)
    rw [rowL_cons_len, Nat.add_mul]
    omega
theorem setL_mem_len {M : Nat} {l : List Tx} (h : ∀ x ∈ l, x.length ≤ M) : ∀ x ∈ setL l, x.length ≤ M := fun x hx => h x (((setL_is l).2 x).1 hx)
theorem envL_mem_len {M : Nat} {l : List SetE} (h : ∀ p ∈ l, p.1.length ≤ M ∧ p.2.length ≤ M) : ∀ x ∈ envL l, x.length ≤ M := fun x hx => by
  rw [envL, List.mem_flatMap] at hx
  obtain ⟨n, hn, hx⟩ := hx
  rcases List.mem_cons.1 hx with rfl | hx
  · have := ((setL_is _).2 _).1 hn
    obtain ⟨p, hp, rfl⟩ := List.mem_map.1 this
    exact (h p hp).1
  · rw [List.mem_singleton] at hx
    subst hx
    exact valOf_mem fun p hp => (h p hp).2
structure PartLens (a : ActK) : Prop where
  env : (rowL (envL a.env)).length ≤ 4884
  ins : (rowL (setL a.ins)).length ≤ 2442
  asks : (rowL (setL a.asks)).length ≤ 2442
  outs : (rowL (setL a.outs)).length ≤ 2442
  nE : (envL a.env).length ≤ 44
  nI : (setL a.ins).length ≤ 22
  nA : (setL a.asks).length ≤ 22
  nO : (setL a.outs).length ≤ 22
  text : (textK a).length ≤ 14000
theorem partLens {a : ActK} (h : Mild a) : PartLens a := by
  have nE : (envL a.env).length ≤ 44 := by
    rw [envL_len]
    have := setL_len (a.env.map (·.1))
    rw [List.length_map] at this
    have := h.env
    omega
  have nI := Nat.le_trans (setL_len a.ins) h.ins
  have nA := Nat.le_trans (setL_len a.asks) h.asks
  have nO := Nat.le_trans (setL_len a.outs) h.outs
  have e1 := rowL_len_le (M := 100) (by omega) _ _ nE (envL_mem_len h.lE)
  have e2 := rowL_len_le (M := 100) (by omega) _ _ nI (setL_mem_len h.lI)
  have e3 := rowL_len_le (M := 100) (by omega) _ _ nA (setL_mem_len h.lA)
  have e4 := rowL_len_le (M := 100) (by omega) _ _ nO (setL_mem_len h.lO)
  refine ⟨e1, e2, e3, e4, nE, nI, nA, nO, ?_⟩
  have d0 := dec_le (n := a.tool.length) (by have := h.tool; omega)
  have d1 := dec_le (n := (rowL (envL a.env)).length) (by omega)
  have d2 := dec_le (n := (rowL (setL a.ins)).length) (by omega)
  have d3 := dec_le (n := (rowL (setL a.asks)).length) (by omega)
  have d4 := dec_le (n := (rowL (setL a.outs)).length) (by omega)
  have ht := h.tool
  rw [textK, partsK]
  simp only [List.map_cons, List.map_nil]
  rw [rowL_cons_len, rowL_cons_len, rowL_cons_len, rowL_cons_len, rowL_cons_len, rowL_nil]
  simp only [List.length_nil]
  omega
/-- the row that the text is of, so far -/
def rowsK (a : ActK) (k : Nat) : List Tx := a.tool :: ((partsK a).take (k - 1)).map rowL
theorem rowsK_step {a : ActK} {k : Nat} {x : List Tx} (h : ([a.tool] :: partsK a)[k + 1]? = some x) : rowsK a (k + 2) = rowsK a (k + 1) ++ [rowL x] := by
  rw [List.getElem?_cons_succ] at h
  rw [rowsK, rowsK, show k + 2 - 1 = k + 1 by omega, show k + 1 - 1 = k by omega, List.take_add_one, h]
  simp
theorem rowsK_all (a : ActK) : rowL (rowsK a 5) = textK a := rfl
theorem rowsK_len {a : ActK} {k : Nat} (h1 : 1 ≤ k) (h5 : k ≤ 5) : (rowsK a k).length = k := by
  rw [rowsK]
  simp [partsK]
  omega
theorem part_len {a : ActK} (h : PartLens a) {k : Nat} {x : List Tx} (hx : ([a.tool] :: partsK a)[k + 1]? = some x) : (rowL x).length ≤ 4884 ∧ x.length ≤ 44 := by
  rw [List.getElem?_cons_succ] at hx
  have := h.env
  have := h.ins
  have := h.asks
  have := h.outs
  have := h.nE
  have := h.nI
  have := h.nA
  have := h.nO
  match k, hx with
  | 0, hx => cases hx; omega
  | 1, hx => cases hx; omega
  | 2, hx => cases hx; omega
  | 3, hx => cases hx; omega
  | k + 4, hx => simp [partsK] at hx
end Go.Proofs.YtjmfmlkjippiaaaDoor
