/- Rows of acts as arguments, with their picks: opened. -/
import Derived.Test.YtbighckpogfcaaaLawActs
import Derived.Test.YtbighckpogfcaaaLawTwo
import Derived.Test.YtbighckpogfcaaaDruns6b
namespace Go.Proofs.Ytbighckpogfcaaa
open Go.ChangeShapes Go.WideShapes Go.ChangeAt Go.RowKit Go.Maps
set_option maxRecDepth 100000
variable {H : Type} {enc : TypeId × Value → H}
theorem open_picks0 {W : World} {sp : Nat → Bool} {m : Nat} {v : Value} {x : DataW H × List MemPlace} (hf : DataW.trod enc Try.prog W 0 sp true m 36 [v] = some x) :
    ∃ (A : Option Addr) (c : Nat) (ps : List Int), v = .slice A ps.length c ∧ Rd W 1 A ps.length (intV ps) ∧ ps.length ≤ c ∧ (ps.length = 0 ∨ ∃ pe psp, x.1 = .slice pe psp ∧ pe.length = ps.length) := by
  rcases open_ints Try.underlying36 Try.underlying3 (by kernel_rfl) hf with ⟨h1, _⟩ | ⟨a, len, cap, r, h1, h2, hlc, h3, hl, h4, hcell, h5⟩
  · exact ⟨none, 0, [], by simpa using h1, Rd.none_ _ _ _, Nat.le_refl _, .inl rfl⟩
  · have hl' : len ≤ r.length := by rw [hl]; split <;> omega
    have ht : (r.take len).length = len := by rw [List.length_take]; omega
    refine ⟨some a, cap, r.take len, by rw [ht]; simpa using h1, ⟨by simp [intV], fun h0 => ?_⟩, by omega, ?_⟩
    rotate_left
    · exact .inr ⟨_, _, congrArg Prod.fst h4, by simp [lits]⟩
    rw [ht] at h0
    obtain ⟨b, o, sp⟩ := a
    have h30 := hcell 0 (by omega)
    cases sp with
    | some x =>
      exfalso
      unfold World.cell? at h30
      split at h30
      · simp [Addr.add] at h30
      · cases h30
    | none =>
      refine ⟨b, o, rfl, fun j u hu => ?_⟩
      have hj : j < len := by
        rcases Nat.lt_or_ge j len with h | h
        · exact h
        · rw [List.getElem?_eq_none (by rw [intV, List.length_map]; omega)] at hu; cases hu
      have h := hcell j (by omega)
      rw [addr_add] at h
      rw [h, ← hu]
      rw [intV, List.getElem?_map, List.getElem?_take, if_pos hj, List.getD_eq_getElem?_getD, List.getElem?_eq_getElem (show j < r.length by omega)]
      rfl
theorem open_act2 {W : World} {sp : Nat → Bool} {n : Nat} {cs : List Value} {x : DataW H × List MemPlace} (h : DataW.trod enc Try.prog W 0 sp true n 39 cs = some x) : ∃ a : ActE, cs = actV a ∧ ActD a x.1 ∧ ActP W a := by
  obtain ⟨xs, m, rfl, rfl, hlen, hxl, hf⟩ := DataW.trod_struct Try.underlying39 h
  have h6 : Try.prog.cellsOf 39 = 6 := by kernel_rfl
  have hci : Try.prog.cellsOf 3 = 1 := by kernel_rfl
  have hcs : Try.prog.cellsOf 9 = 1 := by kernel_rfl
  have hcl : Try.prog.cellsOf 36 = 1 := by kernel_rfl
  rw [h6] at hlen
  match cs, hlen, xs, hxl with
  | [v0, v1, v2, v3, v4, v5], _, [x0, x1, x2, x3, x4, x5], _ =>
    have h0 : DataW.trod enc Try.prog W 0 sp true m 3 ((List.drop 0 [v0, v1, v2, v3, v4, v5]).take (Try.prog.cellsOf 3)) = some x0 := hf 0 _ rfl
    have h1 : DataW.trod enc Try.prog W 0 sp true m 3 ((List.drop 1 [v0, v1, v2, v3, v4, v5]).take (Try.prog.cellsOf 3)) = some x1 := hf 1 _ rfl
    have h2 : DataW.trod enc Try.prog W 0 sp true m 9 ((List.drop 2 [v0, v1, v2, v3, v4, v5]).take (Try.prog.cellsOf 9)) = some x2 := hf 2 _ rfl
    have h3 : DataW.trod enc Try.prog W 0 sp true m 9 ((List.drop 3 [v0, v1, v2, v3, v4, v5]).take (Try.prog.cellsOf 9)) = some x3 := hf 3 _ rfl
    have h4 : DataW.trod enc Try.prog W 0 sp true m 9 ((List.drop 4 [v0, v1, v2, v3, v4, v5]).take (Try.prog.cellsOf 9)) = some x4 := hf 4 _ rfl
    have h5 : DataW.trod enc Try.prog W 0 sp true m 36 ((List.drop 5 [v0, v1, v2, v3, v4, v5]).take (Try.prog.cellsOf 36)) = some x5 := hf 5 _ rfl
    rw [hci] at h0 h1
    rw [hcs] at h2 h3 h4
    rw [hcl] at h5
    obtain ⟨n0, e0, r0, _⟩ := DataW.trod_int Try.underlying3 (show DataW.trod enc Try.prog W 0 sp true m 3 [v0] = some x0 from h0)
    obtain ⟨n1, e1, r1, wf1⟩ := DataW.trod_int Try.underlying3 (show DataW.trod enc Try.prog W 0 sp true m 3 [v1] = some x1 from h1)
    obtain ⟨s2, e2, r2, _⟩ := DataW.trod_string Try.underlying9 (show DataW.trod enc Try.prog W 0 sp true m 9 [v2] = some x2 from h2)
    obtain ⟨s3, e3, r3, _⟩ := DataW.trod_string Try.underlying9 (show DataW.trod enc Try.prog W 0 sp true m 9 [v3] = some x3 from h3)
    obtain ⟨s4, e4, r4, _⟩ := DataW.trod_string Try.underlying9 (show DataW.trod enc Try.prog W 0 sp true m 9 [v4] = some x4 from h4)
    obtain ⟨rfl⟩ := e0
    obtain ⟨rfl⟩ := e1
    obtain ⟨rfl⟩ := e2
    obtain ⟨rfl⟩ := e3
    obtain ⟨rfl⟩ := e4
    subst r0 r1 r2 r3 r4
    have hn1 : n1 ≤ 9223372036854775807 := by
      have : -9223372036854775808 ≤ n1 ∧ n1 ≤ 9223372036854775807 := by simpa [Lit.wf, IntKind.min, IntKind.max, IntKind.signed, IntKind.bits] using wf1
      exact this.2
    have hps := open_picks0 (show DataW.trod enc Try.prog W 0 sp true m 36 [v5] = some x5 from h5)
    obtain ⟨a, c, ps, rfl, hrd, hpc, hx5⟩ := hps
    exact ⟨⟨n0, n1, s2, s3, s4, a, ps.length, c⟩, rfl, ⟨_, _, _, rfl, hx5⟩, hn1, hpc, ps, rfl, hrd⟩
theorem open_acts2 {W : World} {b0 : Nat} {v : Value} {d : DataW H} {p : List MemPlace} (h : DataW.Trod enc Try.prog W 0 (fun _ => true) true 34 v d p) (hval : Value.okWide Try.prog W .any b0 34 v) :
    ∃ (A : Option Addr) (c : Nat) (l : List ActE), v = .slice A l.length c ∧ Rd W 6 A l.length (actsV l) ∧ (l = [] ∨ ∃ el sp, d = .slice el sp ∧ el.length = l.length ∧ ∀ (i : Nat) (a : ActE), l[i]? = some a → ∃ x, el[i]? = some x ∧ ActD a x) ∧ ∀ a ∈ l, ActP W a := by
  obtain ⟨fuel, hf⟩ := h
  have hv : v.cells.toList = [v] := by
    rcases okWide_slice Try.underlying34 hval with ⟨A, n, c, rfl⟩
    rfl
  have h6 : Try.prog.cellsOf 39 = 6 := by kernel_rfl
  rw [hv] at hf
  rcases Go.Deep.open_slice Try.underlying34 hf with ⟨h1, _⟩ | ⟨a, len, cap, m, n, D, Pl, h1, _, hlc, hcm, hm, hx, hel⟩
  · exact ⟨none, 0, [], by simpa using h1, Rd.none_ _ _ _, .inl rfl, fun a ha => absurd ha List.not_mem_nil⟩
  · have hml : len ≤ m := by rw [hm]; split <;> omega
    have hch : ∀ i, i < len → ∃ e : ActE, W.cells? 0 (a.add (i * 6)) 6 = some (actV e) ∧ ActD e (D i) ∧ ActP W e := fun i hi => by
      obtain ⟨cs, hc, ht⟩ := hel i (by omega)
      obtain ⟨e, rfl, he⟩ := open_act2 ht
      rw [h6] at hc
      exact ⟨e, hc, he⟩
    obtain ⟨V, hV⟩ := Go.Deep.choose_lt (α := ActE) (p := fun i e => W.cells? 0 (a.add (i * 6)) 6 = some (actV e) ∧ ActD e (D i) ∧ ActP W e) hch
    have hll : ((List.range len).map V).length = len := by simp
    have hget : ∀ i e, ((List.range len).map V)[i]? = some e → i < len ∧ e = V i := fun i e h => by
      rw [List.getElem?_map] at h
      obtain ⟨q, hq, rfl⟩ := Option.map_eq_some_iff.1 h
      obtain ⟨hi, hqi⟩ := List.getElem?_eq_some_iff.1 hq
      rw [List.getElem_range] at hqi
      subst hqi
      exact ⟨by simpa using hi, rfl⟩
    refine ⟨some a, cap, (List.range len).map V, by rw [hll]; simpa using h1, ?_, .inr ⟨_, _, congrArg Prod.fst hx, by simp, fun i e he => ?_⟩, fun e he => ?_⟩
    · refine ⟨by rw [actsV_length], fun h0 => ?_⟩
      obtain ⟨b, o, sp⟩ := a
      have hc0 := (World.cells?_some (hV 0 (by omega)).1).2.2 0 (by omega)
      cases sp with
      | some x =>
        exfalso
        rw [Addr.add, Addr.add] at hc0
        unfold World.cell? at hc0
        split at hc0
        · simp [actV] at hc0
        · simp [actV] at hc0
      | none =>
        refine ⟨b, o, rfl, fun j u hu => ?_⟩
        obtain ⟨i, e, r, h1, h2, rfl⟩ := actsV_at _ j u hu
        obtain ⟨hi, rfl⟩ := hget i e h1
        have hr6 : r < 6 := by
          have := (List.getElem?_eq_some_iff.1 h2).1
          simpa [actV] using this
        have := (World.cells?_some (hV i hi).1).2.2 r hr6
        rw [h2, addr_add, addr_add] at this
        rw [← this, Nat.add_assoc]
    · obtain ⟨hi, rfl⟩ := hget i e he
      exact ⟨D i, by rw [List.getElem?_map, List.getElem?_range hi]; rfl, (hV i hi).2.1⟩
    · obtain ⟨i, hi⟩ := List.getElem?_of_mem he
      obtain ⟨hi2, rfl⟩ := hget i e hi
      exact (hV i hi2).2.2
end Go.Proofs.Ytbighckpogfcaaa
