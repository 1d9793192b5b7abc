/- A graph (rows of rows of numbers) and a row of numbers as arguments: opened. -/
import Derived.Test.YtccilmnlepekeaaLaw0
import Derived.Test.YtccilmnlepekeaaCyc1
import Derived.OpenShut
import Derived.Deep.Matrix
namespace Go.Proofs.Ytccilmnlepekeaa
open Go.ChangeShapes Go.WideShapes Go.ChangeAt Go.RowKit
set_option maxRecDepth 100000
variable {H : Type} {enc : TypeId × Value → H}
theorem Addr.bare {w : World} {a : Addr} {v : Value} (h : w.cell? (a.add 0) = some v) : ∃ b o, a = ⟨b, o, none⟩ := by
  obtain ⟨b, o, sp⟩ := a
  cases sp with
  | some x =>
    exfalso
    unfold World.cell? at h
    split at h
    · simp [Addr.add] at h
    · cases h
  | none => exact ⟨b, o, rfl⟩
theorem open_nums {W : World} {b0 : Nat} {v : Value} {d : DataW H} {p : List MemPlace} (h : DataW.Trod enc Try.prog W 0 (fun _ => true) true 25 v d p) (hval : Value.okWide Try.prog W .any b0 25 v) :
    ∃ (A : Option Addr) (c : Nat) (ps : List Int), v = .slice A ps.length c ∧ Rd W 1 A ps.length (intV ps) ∧ (ps = [] ∨ ∃ el sp, d = .slice el sp ∧ el.length = ps.length) := by
  obtain ⟨fuel, hf⟩ := h
  have hv : v.cells.toList = [v] := by
    rcases okWide_slice Try.underlying25 hval with ⟨A, n, c, rfl⟩
    rfl
  rw [hv] at hf
  rcases open_ints Try.underlying25 Try.underlying3 (by kernel_rfl) hf with ⟨h1, _⟩ | ⟨a, len, cap, r, h1, _, hlc, _, hl, hd, hcell, _⟩
  · exact ⟨none, 0, [], by simpa using h1, Rd.none_ _ _ _, .inl rfl⟩
  · have hl' : r.length = cap := by simpa using hl
    have ht : (r.take len).length = len := by rw [List.length_take]; omega
    refine ⟨some a, cap, r.take len, by rw [ht]; simpa using h1, ⟨by simp [intV], fun h0 => ?_⟩, .inr ⟨_, _, congrArg Prod.fst hd, by simp [lits]⟩⟩
    rw [ht] at h0
    obtain ⟨b, o, rfl⟩ := Addr.bare (hcell 0 (by omega))
    refine ⟨b, o, rfl, fun j u hu => ?_⟩
    have hj : j < len := by
      rcases Nat.lt_or_ge j len with h | h
      · exact h
      · rw [List.getElem?_eq_none (by rw [intV, List.length_map]; omega)] at hu; cases hu
    have h := hcell j (by omega)
    rw [addr_add] at h
    rw [h, ← hu]
    rw [intV, List.getElem?_map, List.getElem?_take, if_pos hj, List.getD_eq_getElem?_getD, List.getElem?_eq_getElem (show j < r.length by omega)]
    rfl
theorem nums_sized {ts : List TypeId} {ds : List (DataW H)} (h : (DataW.weightsEach Try.prog ts ds).all (· ≤ reachBytes) = true) {j : Nat} (ht : ts[j]? = some 25) {d : DataW H} (hd : ds[j]? = some d) {l : List Int}
    (hl : l = [] ∨ ∃ el sp, d = .slice el sp ∧ el.length = l.length) : l.length ≤ 140737488355328 := by
  rcases hl with rfl | ⟨el, sp, rfl, hlen⟩
  · exact Nat.zero_le _
  have h47 := reachBytes_lt
  have h8 : Try.prog.bytesOf 3 = 8 := by kernel_rfl
  have := sized_slice (P := Try.prog) h ht hd Try.underlying25
  rw [h8] at this
  omega
theorem open_graph {W : World} {b0 : Nat} {v : Value} {d : DataW H} {p : List MemPlace} (h : DataW.Trod enc Try.prog W 0 (fun _ => true) true 22 v d p) (hval : Value.okWide Try.prog W .any b0 22 v) :
    ∃ (A : Option Addr) (c : Nat) (G : List (List Int)), v = .slice A G.length c ∧ GRd W A G ∧ (G = [] ∨ ∃ el sp, d = .slice el sp ∧ el.length = G.length ∧ ∀ (i : Nat) (row : List Int), G[i]? = some row → ∃ x, el[i]? = some x ∧ (row = [] ∨ ∃ e2 s2, x = .slice e2 s2 ∧ e2.length = row.length)) := by
  obtain ⟨fuel, hf⟩ := h
  have hv : v.cells.toList = [v] := by
    rcases okWide_slice Try.underlying22 hval with ⟨A, n, c, rfl⟩
    rfl
  rw [hv] at hf
  rcases Go.Deep.open_int_rows Try.underlying22 Try.underlying25 Try.underlying3 (by kernel_rfl) (by kernel_rfl) hf with ⟨h1, _⟩ | ⟨a, len, cap, A, L, C, Z, h1, _, hlc, _, hx, hcell⟩
  · exact ⟨none, 0, [], by simpa using h1, ⟨[], Rd.none_ _ _ _, fun i row hi => by simp at hi⟩, .inl rfl⟩
  · have hgl : ((List.range len).map fun r => (Z r).take (L r)).length = len := by simp
    have hget : ∀ (i : Nat) (row : List Int), ((List.range len).map fun r => (Z r).take (L r))[i]? = some row → i < len ∧ row = (Z i).take (L i) := fun i row hi => by
      rw [List.getElem?_map] at hi
      rcases Nat.lt_or_ge i len with hlt | hge
      · rw [List.getElem?_range hlt] at hi
        exact ⟨hlt, (Option.some.inj hi).symm⟩
      · rw [List.getElem?_eq_none (by simpa using hge)] at hi
        cases hi
    have hrl : ∀ i, i < len → ((Z i).take (L i)).length = L i := fun i hi => by
      obtain ⟨_, h2, _, h4, _⟩ := hcell i (by omega)
      rw [List.length_take]
      omega
    refine ⟨some a, cap, (List.range len).map fun r => (Z r).take (L r), by rw [hgl]; simpa using h1, ⟨(List.range len).map fun r => Value.slice (A r) (L r) (C r), ?_, fun i row hrow => ?_⟩, .inr ⟨_, _, congrArg Prod.fst hx, by simp, fun i row hrow => ?_⟩⟩
    · rw [hgl]
      refine ⟨by simp, fun h0 => ?_⟩
      obtain ⟨b, o, rfl⟩ := Addr.bare (hcell 0 (by omega)).1
      refine ⟨b, o, rfl, fun j u hu => ?_⟩
      rw [List.getElem?_map] at hu
      rcases Nat.lt_or_ge j len with hlt | hge
      · rw [List.getElem?_range hlt] at hu
        have := (hcell j (by omega)).1
        rw [addr_add] at this
        rw [this, ← hu]
        rfl
      · rw [List.getElem?_eq_none (by simpa using hge)] at hu
        cases hu
    · obtain ⟨hi, rfl⟩ := hget i row hrow
      obtain ⟨h1, h2, h3, h4, _, h6, h7⟩ := hcell i (by omega)
      rw [hrl i hi]
      refine ⟨A i, C i, by rw [List.getElem?_map, List.getElem?_range hi]; rfl, ⟨by rw [intV_length, hrl i hi, Nat.mul_one], fun h0 => ?_⟩⟩
      cases hA : A i with
      | none => have := h6 hA; omega
      | some a' =>
        obtain ⟨_, h8⟩ := h7 a' hA
        obtain ⟨b, o, rfl⟩ := Addr.bare (h8 0 (by omega))
        refine ⟨b, o, rfl, fun j u hu => ?_⟩
        have hj : j < L i := by
          rcases Nat.lt_or_ge j (L i) with h | h
          · exact h
          · rw [List.getElem?_eq_none (by rw [intV_length, hrl i hi]; exact h)] at hu; cases hu
        have h := h8 j (by omega)
        rw [addr_add] at h
        rw [h, ← hu, intV, List.getElem?_map, List.getElem?_take, if_pos hj, List.getD_eq_getElem?_getD, List.getElem?_eq_getElem (show j < (Z i).length by omega)]
        rfl
    · obtain ⟨hi, rfl⟩ := hget i row hrow
      obtain ⟨h1, h2, h3, h4, _, h6, h7⟩ := hcell i (by omega)
      refine ⟨Go.Deep.intRow .i64 (A i) (L i) (Z i), by rw [List.getElem?_map, List.getElem?_range hi]; rfl, ?_⟩
      cases hA : A i with
      | none =>
        left
        have := h6 hA
        exact List.eq_nil_of_length_eq_zero (by rw [hrl i hi]; omega)
      | some a' => exact .inr ⟨_, _, rfl, by simp [lits]⟩
theorem weightsAll_memG {P : Program} {e : TypeId} : ∀ {l : List (DataW H)} {d : DataW H}, d ∈ l → ∀ n ∈ d.weights P e, n ∈ DataW.weightsAll P e l
  | d' :: r, d, hd, n, hn => by
    simp only [DataW.weightsAll, List.mem_append]
    rcases List.mem_cons.1 hd with rfl | h
    · exact Or.inl hn
    · exact Or.inr (weightsAll_memG h n hn)
theorem graph_sized {ts : List TypeId} {ds : List (DataW H)} (h : (DataW.weightsEach Try.prog ts ds).all (· ≤ reachBytes) = true) {j : Nat} (ht : ts[j]? = some 22) {d : DataW H} (hd : ds[j]? = some d) {G : List (List Int)}
    (hl : G = [] ∨ ∃ el sp, d = .slice el sp ∧ el.length = G.length ∧ ∀ (i : Nat) (row : List Int), G[i]? = some row → ∃ x, el[i]? = some x ∧ (row = [] ∨ ∃ e2 s2, x = .slice e2 s2 ∧ e2.length = row.length)) :
    G.length ≤ 8796093022208 ∧ ∀ (i : Nat) (row : List Int), G[i]? = some row → row.length ≤ 140737488355328 := by
  rcases hl with rfl | ⟨el, sp, rfl, hlen, hx⟩
  · exact ⟨by decide, fun i row hi => by simp at hi⟩
  have h47 := reachBytes_lt
  have hle := fun n hn => of_decide_eq_true (List.all_eq_true.1 h n (DataW.weights_mem_each ht hd n hn))
  constructor
  · have h24 : Try.prog.bytesOf 25 = 24 := by kernel_rfl
    have := sized_slice (P := Try.prog) h ht hd Try.underlying22
    rw [h24] at this
    omega
  · intro i row hi
    obtain ⟨x, hxe, hr⟩ := hx i row hi
    rcases hr with rfl | ⟨e2, s2, rfl, hl2⟩
    · exact Nat.zero_le _
    have h8 : Try.prog.bytesOf 3 = 8 := by kernel_rfl
    have := hle ((e2.length + s2.length) * Try.prog.bytesOf 3) (by
      rw [DataW.weights, show Try.prog.underlying 22 = _ from Try.underlying22]
      simp only [List.mem_cons, List.mem_append]
      refine .inr (.inl (weightsAll_memG (List.mem_of_getElem? hxe) _ ?_))
      rw [DataW.weights, show Try.prog.underlying 25 = _ from Try.underlying25]
      simp only [List.mem_cons]
      exact .inl trivial)
    rw [h8] at this
    omega
end Go.Proofs.Ytccilmnlepekeaa
