/- Rows of acts as arguments: opened. -/
import Derived.Test.YtbighckpogfcaaaLaw0
import Derived.Test.YtbighckpogfcaaaActs
import Derived.Deep.Slices
import Derived.SizedLaws
namespace Go.Proofs.Ytbighckpogfcaaa
open Go.ChangeShapes Go.WideShapes Go.ChangeAt Go.RowKit Go.Maps
set_option maxRecDepth 100000
variable {H : Type} {enc : TypeId × Value → H}
/-- what an act's datum says of its sizes -/
def ActD (a : ActE) (d : DataW H) : Prop := ∃ x0 x1 xp, d = .agg [x0, x1, .lit (.string a.name.data.toList), .lit (.string a.to.data.toList), .lit (.string a.data.data.toList), xp] ∧ (a.pn = 0 ∨ ∃ pe psp, xp = .slice pe psp ∧ pe.length = a.pn)
theorem open_act {W : World} {sp : Nat → Bool} {n : Nat} {cs : List Value} {x : DataW H × List MemPlace} (h : DataW.trod enc Try.prog W 0 sp true n 39 cs = some x) : ∃ a : ActE, cs = actV a ∧ ActD a x.1 := by
  obtain ⟨xs, m, rfl, rfl, hlen, hxl, hf⟩ := DataW.trod_struct Try.underlying39 h
  have h6 : Try.prog.cellsOf 39 = 6 := by kernel_rfl
  have hci : Try.prog.cellsOf 3 = 1 := by kernel_rfl
  have hcs : Try.prog.cellsOf 9 = 1 := by kernel_rfl
  have hcl : Try.prog.cellsOf 36 = 1 := by kernel_rfl
  rw [h6] at hlen
  match cs, hlen, xs, hxl with
  | [v0, v1, v2, v3, v4, v5], _, [x0, x1, x2, x3, x4, x5], _ =>
    have h0 : DataW.trod enc Try.prog W 0 sp true m 3 ((List.drop 0 [v0, v1, v2, v3, v4, v5]).take (Try.prog.cellsOf 3)) = some x0 := hf 0 _ rfl
    have h1 : DataW.trod enc Try.prog W 0 sp true m 3 ((List.drop 1 [v0, v1, v2, v3, v4, v5]).take (Try.prog.cellsOf 3)) = some x1 := hf 1 _ rfl
    have h2 : DataW.trod enc Try.prog W 0 sp true m 9 ((List.drop 2 [v0, v1, v2, v3, v4, v5]).take (Try.prog.cellsOf 9)) = some x2 := hf 2 _ rfl
    have h3 : DataW.trod enc Try.prog W 0 sp true m 9 ((List.drop 3 [v0, v1, v2, v3, v4, v5]).take (Try.prog.cellsOf 9)) = some x3 := hf 3 _ rfl
    have h4 : DataW.trod enc Try.prog W 0 sp true m 9 ((List.drop 4 [v0, v1, v2, v3, v4, v5]).take (Try.prog.cellsOf 9)) = some x4 := hf 4 _ rfl
    have h5 : DataW.trod enc Try.prog W 0 sp true m 36 ((List.drop 5 [v0, v1, v2, v3, v4, v5]).take (Try.prog.cellsOf 36)) = some x5 := hf 5 _ rfl
    rw [hci] at h0 h1
    rw [hcs] at h2 h3 h4
    rw [hcl] at h5
    obtain ⟨n0, e0, r0, _⟩ := DataW.trod_int Try.underlying3 (show DataW.trod enc Try.prog W 0 sp true m 3 [v0] = some x0 from h0)
    obtain ⟨n1, e1, r1, _⟩ := DataW.trod_int Try.underlying3 (show DataW.trod enc Try.prog W 0 sp true m 3 [v1] = some x1 from h1)
    obtain ⟨s2, e2, r2, _⟩ := DataW.trod_string Try.underlying9 (show DataW.trod enc Try.prog W 0 sp true m 9 [v2] = some x2 from h2)
    obtain ⟨s3, e3, r3, _⟩ := DataW.trod_string Try.underlying9 (show DataW.trod enc Try.prog W 0 sp true m 9 [v3] = some x3 from h3)
    obtain ⟨s4, e4, r4, _⟩ := DataW.trod_string Try.underlying9 (show DataW.trod enc Try.prog W 0 sp true m 9 [v4] = some x4 from h4)
    obtain ⟨rfl⟩ := e0
    obtain ⟨rfl⟩ := e1
    obtain ⟨rfl⟩ := e2
    obtain ⟨rfl⟩ := e3
    obtain ⟨rfl⟩ := e4
    subst r0 r1 r2 r3 r4
    rcases Go.Deep.open_slice Try.underlying36 (show DataW.trod enc Try.prog W 0 sp true m 36 [v5] = some x5 from h5) with ⟨e5, r5⟩ | ⟨a, len, cap, mm, nn, D, Pl, e5, _, _, _, _, r5, _⟩
    · obtain ⟨rfl⟩ := e5
      subst r5
      exact ⟨⟨n0, n1, s2, s3, s4, none, 0, 0⟩, rfl, _, _, _, rfl, .inl rfl⟩
    · obtain ⟨rfl⟩ := e5
      subst r5
      exact ⟨⟨n0, n1, s2, s3, s4, some a, len, cap⟩, rfl, _, _, _, rfl, .inr ⟨_, _, rfl, by simp⟩⟩
instance : Inhabited ActE := ⟨⟨0, 0, ⟨#[]⟩, ⟨#[]⟩, ⟨#[]⟩, none, 0, 0⟩⟩
theorem actsV_at : ∀ (l : List ActE) (j : Nat) (u : Value), (actsV l)[j]? = some u → ∃ i a r, l[i]? = some a ∧ (actV a)[r]? = some u ∧ j = i * 6 + r
  | [], j, u, h => by simp [actsV] at h
  | x :: r, j, u, h => by
    rw [actsV, List.flatMap_cons] at h
    rcases Nat.lt_or_ge j 6 with hj | hj
    · rw [List.getElem?_append_left (by simp [actV]; omega)] at h
      exact ⟨0, x, j, rfl, h, by omega⟩
    · rw [List.getElem?_append_right (by simp [actV]; omega)] at h
      obtain ⟨i, a, q, h1, h2, h3⟩ := actsV_at r _ u h
      refine ⟨i + 1, a, q, by simpa using h1, h2, ?_⟩
      have : (actV x).length = 6 := by simp [actV]
      omega
theorem open_acts {W : World} {b0 : Nat} {v : Value} {d : DataW H} {p : List MemPlace} (h : DataW.Trod enc Try.prog W 0 (fun _ => true) true 34 v d p) (hval : Value.okWide Try.prog W .any b0 34 v) :
    ∃ (A : Option Addr) (c : Nat) (l : List ActE), v = .slice A l.length c ∧ Rd W 6 A l.length (actsV l) ∧ (l = [] ∨ ∃ el sp, d = .slice el sp ∧ el.length = l.length ∧ ∀ (i : Nat) (a : ActE), l[i]? = some a → ∃ x, el[i]? = some x ∧ ActD a x) := by
  obtain ⟨fuel, hf⟩ := h
  have hv : v.cells.toList = [v] := by
    rcases okWide_slice Try.underlying34 hval with ⟨A, n, c, rfl⟩
    rfl
  have h6 : Try.prog.cellsOf 39 = 6 := by kernel_rfl
  rw [hv] at hf
  rcases Go.Deep.open_slice Try.underlying34 hf with ⟨h1, _⟩ | ⟨a, len, cap, m, n, D, Pl, h1, _, hlc, hcm, hm, hx, hel⟩
  · exact ⟨none, 0, [], by simpa using h1, Rd.none_ _ _ _, .inl rfl⟩
  · have hml : len ≤ m := by rw [hm]; split <;> omega
    have hch : ∀ i, i < len → ∃ e : ActE, W.cells? 0 (a.add (i * 6)) 6 = some (actV e) ∧ ActD e (D i) := fun i hi => by
      obtain ⟨cs, hc, ht⟩ := hel i (by omega)
      obtain ⟨e, rfl, he⟩ := open_act ht
      rw [h6] at hc
      exact ⟨e, hc, he⟩
    obtain ⟨V, hV⟩ := Go.Deep.choose_lt (α := ActE) (p := fun i e => W.cells? 0 (a.add (i * 6)) 6 = some (actV e) ∧ ActD e (D i)) hch
    have hll : ((List.range len).map V).length = len := by simp
    have hget : ∀ i e, ((List.range len).map V)[i]? = some e → i < len ∧ e = V i := fun i e h => by
      rw [List.getElem?_map] at h
      obtain ⟨q, hq, rfl⟩ := Option.map_eq_some_iff.1 h
      obtain ⟨hi, hqi⟩ := List.getElem?_eq_some_iff.1 hq
      rw [List.getElem_range] at hqi
      subst hqi
      exact ⟨by simpa using hi, rfl⟩
    refine ⟨some a, cap, (List.range len).map V, by rw [hll]; simpa using h1, ?_, .inr ⟨_, _, congrArg Prod.fst hx, by simp, fun i e he => ?_⟩⟩
    · refine ⟨by rw [actsV_length], fun h0 => ?_⟩
      obtain ⟨b, o, sp⟩ := a
      have hc0 := (World.cells?_some (hV 0 (by omega)).1).2.2 0 (by omega)
      cases sp with
      | some x =>
        exfalso
        rw [Addr.add, Addr.add] at hc0
        unfold World.cell? at hc0
        split at hc0
        · simp [actV] at hc0
        · simp [actV] at hc0
      | none =>
        refine ⟨b, o, rfl, fun j u hu => ?_⟩
        obtain ⟨i, e, r, h1, h2, rfl⟩ := actsV_at _ j u hu
        obtain ⟨hi, rfl⟩ := hget i e h1
        have hr6 : r < 6 := by
          have := (List.getElem?_eq_some_iff.1 h2).1
          simpa [actV] using this
        have := (World.cells?_some (hV i hi).1).2.2 r hr6
        rw [h2, addr_add, addr_add] at this
        rw [← this, Nat.add_assoc]
    · obtain ⟨hi, rfl⟩ := hget i e he
      exact ⟨D i, by rw [List.getElem?_map, List.getElem?_range hi]; rfl, (hV i hi).2⟩
theorem weightsAll_mem2 {P : Program} {e : TypeId} : ∀ {l : List (DataW H)} {d : DataW H}, d ∈ l → ∀ n ∈ d.weights P e, n ∈ DataW.weightsAll P e l
  | d' :: r, d, hd, n, hn => by
    simp only [DataW.weightsAll, List.mem_append]
    rcases List.mem_cons.1 hd with rfl | h
    · exact Or.inl hn
    · exact Or.inr (weightsAll_mem2 h n hn)
/-- an act's texts are not great -/
theorem acts_sized {ts : List TypeId} {ds : List (DataW H)} (h : (DataW.weightsEach Try.prog ts ds).all (· ≤ reachBytes) = true) {j : Nat} (ht : ts[j]? = some 34) {d : DataW H} (hd : ds[j]? = some d) {l : List ActE}
    (hl : l = [] ∨ ∃ el sp, d = .slice el sp ∧ el.length = l.length ∧ ∀ (i : Nat) (a : ActE), l[i]? = some a → ∃ x, el[i]? = some x ∧ ActD a x) : l.length ≤ 8796093022208 ∧ ∀ a ∈ l, ActOk a := by
  rcases hl with rfl | ⟨el, sp, rfl, hlen, hx⟩
  · exact ⟨by decide, fun a ha => by cases ha⟩
  have h47 := reachBytes_lt
  have hle := fun n hn => of_decide_eq_true (List.all_eq_true.1 h n (DataW.weights_mem_each ht hd n hn))
  constructor
  · have h16 : Try.prog.bytesOf 39 = 88 := by kernel_rfl
    have := sized_slice (P := Try.prog) h ht hd Try.underlying34
    rw [h16] at this
    omega
  · intro a ha
    obtain ⟨i, hi⟩ := List.getElem?_of_mem ha
    obtain ⟨x, hxe, x0, x1, xp, rfl, hp⟩ := hx i a hi
    have hall : ∀ n ∈ DataW.weights Try.prog 39 (.agg [x0, x1, .lit (.string a.name.data.toList), .lit (.string a.to.data.toList), .lit (.string a.data.data.toList), xp]), n ≤ reachBytes := fun n hn => by
      refine hle n ?_
      rw [DataW.weights, show Try.prog.underlying 34 = _ from Try.underlying34]
      simp only [List.mem_cons, List.mem_append]
      exact .inr (.inl (weightsAll_mem2 (List.mem_of_getElem? hxe) n hn))
    rw [DataW.weights, show Try.prog.underlying 39 = _ from Try.underlying39] at hall
    simp only [List.map_cons, List.map_nil, DataW.weightsEach, DataW.weights, List.mem_append, List.mem_cons, List.not_mem_nil, or_false] at hall
    refine ⟨?_, ?_, ?_, ?_⟩
    · have := hall _ (.inr (.inr (.inl rfl))); rw [toList_length] at this; omega
    · have := hall _ (.inr (.inr (.inr (.inl rfl)))); rw [toList_length] at this; omega
    · have := hall _ (.inr (.inr (.inr (.inr (.inl rfl))))); rw [toList_length] at this; omega
    · rcases hp with h0 | ⟨pe, psp, rfl, hpe⟩
      · omega
      · have hb : Try.prog.bytesOf 3 = 8 := by kernel_rfl
        rw [DataW.weights, show Try.prog.underlying 36 = _ from Try.underlying36] at hall
        have := hall _ (.inr (.inr (.inr (.inr (.inr (by simp only [List.mem_cons]; exact .inl rfl))))))
        rw [hb] at this
        omega
end Go.Proofs.Ytbighckpogfcaaa
