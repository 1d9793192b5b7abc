/- An action as an argument: opened. What a row lists of the table of powers of ten. -/
import Derived.Test.YtjmfmlkjippiaaaDoorLaw0
import Derived.Test.YtjmfmlkjippiaaaDoorKact
import Derived.Deep.Slices
import Derived.Lib.LaidTab
import Derived.LaidMore
import Derived.Stop.Joined
import Derived.Stop.LaidErr
namespace Go.Proofs.YtjmfmlkjippiaaaDoor
open Go.ChangeShapes Go.WideShapes Go.ChangeAt Go.RowKit
set_option maxRecDepth 100000
variable {H : Type} {enc : TypeId × Value → H}
theorem strV_of (ps : List ByteArray) : strV (ps.map fun s => s.data.toList) = ps.map Value.string := by
  rw [strV, List.map_map]
  exact List.map_congr_left fun s _ => by show Value.string (strB s.data.toList) = _; rw [strB_of]
theorem open_rowT {W : World} {n : Nat} {v : Value} {x : DataW H × List MemPlace} (hf : DataW.trod enc Tryd.prog W 0 (fun _ => true) true n 25 [v] = some x) :
    ∃ (A : Option Addr) (c : Nat) (l : List Tx), v = .slice A l.length c ∧ Rd W 1 A l.length (strV l) ∧ l.length ≤ maxLen := by
  rcases open_strings Tryd.underlying25 Tryd.underlying9 (by kernel_rfl) hf with ⟨h1, h2⟩ | ⟨a, len, cap, ss, h1, _, hlc, hcm, hl, h2, h3, h4⟩
  · exact ⟨none, 0, [], by simpa using h1, Rd.none_ _ _ _, by unfold maxLen; simp⟩
  · have hl' : ss.length = cap := by simpa using hl
    have hll : ((ss.take len).map fun s => s.data.toList).length = len := by simp; omega
    refine ⟨some a, cap, (ss.take len).map fun s => s.data.toList, by rw [hll]; simpa using h1, ?_, by rw [hll]; omega⟩
    rw [hll, strV_of]
    refine ⟨by simp; omega, fun h0 => ?_⟩
    obtain ⟨b, o, sp⟩ := a
    have h30 := h3 0 (by omega)
    cases sp with
    | some x =>
      exfalso
      unfold World.cell? at h30
      split at h30
      · simp [Addr.add] at h30
      · cases h30
    | none =>
      refine ⟨b, o, rfl, fun j u hu => ?_⟩
      have hj : j < len := by
        rcases Nat.lt_or_ge j len with h | h
        · exact h
        · rw [List.getElem?_eq_none (by simp; omega)] at hu; cases hu
      have h := h3 j (by omega)
      rw [addr_add] at h
      rw [h, ← hu]
      rw [List.getElem?_map, List.getElem?_take, if_pos hj, List.getD_eq_getElem?_getD, List.getElem?_eq_getElem (show j < ss.length by omega)]
      rfl
theorem open_setting {W : World} {sp : Nat → Bool} {n : Nat} {cs : List Value} {x : DataW H × List MemPlace} (h : DataW.trod enc Tryd.prog W 0 sp true n 37 cs = some x) : ∃ p : SetE, cs = [.string (strB p.1), .string (strB p.2)] := by
  obtain ⟨xs, m, rfl, rfl, hlen, hxl, hf⟩ := DataW.trod_struct Tryd.underlying37 h
  have h2 : Tryd.prog.cellsOf 37 = 2 := by kernel_rfl
  have hc : Tryd.prog.cellsOf 9 = 1 := by kernel_rfl
  rw [h2] at hlen
  obtain ⟨v0, v1, rfl⟩ : ∃ v0 v1, cs = [v0, v1] := by
    match cs, hlen with
    | [v0, v1], _ => exact ⟨v0, v1, rfl⟩
  obtain ⟨x0, x1, rfl⟩ : ∃ x0 x1, xs = [x0, x1] := by
    match xs, hxl with
    | [x0, x1], _ => exact ⟨x0, x1, rfl⟩
  have h0 : DataW.trod enc Tryd.prog W 0 sp true m 9 ((List.drop 0 [v0, v1]).take (Tryd.prog.cellsOf 9)) = some x0 := hf 0 _ rfl
  have h1 : DataW.trod enc Tryd.prog W 0 sp true m 9 ((List.drop 1 [v0, v1]).take (Tryd.prog.cellsOf 9)) = some x1 := hf 1 _ rfl
  rw [hc] at h0 h1
  obtain ⟨s0, e0, r0, _⟩ := DataW.trod_string Tryd.underlying9 (show DataW.trod enc Tryd.prog W 0 sp true m 9 [v0] = some x0 from h0)
  obtain ⟨s1, e1, r1, _⟩ := DataW.trod_string Tryd.underlying9 (show DataW.trod enc Tryd.prog W 0 sp true m 9 [v1] = some x1 from h1)
  obtain ⟨rfl⟩ := e0
  obtain ⟨rfl⟩ := e1
  exact ⟨(s0.data.toList, s1.data.toList), by rw [strB_of, strB_of]⟩
instance : Inhabited SetE := ⟨([], [])⟩
theorem setsV_at : ∀ {l : List SetE} (j : Nat) (u : Value), (setsV l)[j]? = some u → ∃ i p r, l[i]? = some p ∧ ([Value.string (strB p.1), .string (strB p.2)] : List Value)[r]? = some u ∧ j = i * 2 + r
  | [], j, u, h => by simp [setsV] at h
  | x :: q, j, u, h => by
    rw [setsV, List.flatMap_cons] at h
    rcases Nat.lt_or_ge j 2 with hj | hj
    · rw [List.getElem?_append_left (by simpa using hj)] at h
      exact ⟨0, x, j, rfl, h, by omega⟩
    · rw [List.getElem?_append_right (by simpa using hj)] at h
      obtain ⟨i, a, r, h1, h2, h3⟩ := setsV_at (l := q) _ u h
      exact ⟨i + 1, a, r, by simpa using h1, h2, by simp at h3; omega⟩
theorem open_setsT {W : World} {n : Nat} {v : Value} {x : DataW H × List MemPlace} (hf : DataW.trod enc Tryd.prog W 0 (fun _ => true) true n 24 [v] = some x) :
    ∃ (A : Option Addr) (c : Nat) (l : List SetE), v = .slice A l.length c ∧ Rd W 2 A l.length (setsV l) ∧ l.length ≤ maxLen := by
  have h2 : Tryd.prog.cellsOf 37 = 2 := by kernel_rfl
  rcases Go.Deep.open_slice Tryd.underlying24 hf with ⟨h1, _⟩ | ⟨a, len, cap, m, n', D, Pl, h1, _, hlc, hcm, hm, hx, hel⟩
  · exact ⟨none, 0, [], by simpa using h1, Rd.none_ _ _ _, by unfold maxLen; simp⟩
  · have hml : len ≤ m := by rw [hm]; split <;> omega
    have hch : ∀ i, i < len → ∃ e : SetE, W.cells? 0 (a.add (i * 2)) 2 = some [.string (strB e.1), .string (strB e.2)] := fun i hi => by
      obtain ⟨cs, hc, ht⟩ := hel i (by omega)
      obtain ⟨e, rfl⟩ := open_setting ht
      rw [h2] at hc
      exact ⟨e, hc⟩
    obtain ⟨V, hV⟩ := Go.Deep.choose_lt (α := SetE) (p := fun i e => W.cells? 0 (a.add (i * 2)) 2 = some [.string (strB e.1), .string (strB e.2)]) hch
    have hll : ((List.range len).map V).length = len := by simp
    have hget : ∀ i e, ((List.range len).map V)[i]? = some e → i < len ∧ e = V i := fun i e h => by
      rw [List.getElem?_map] at h
      obtain ⟨q, hq, rfl⟩ := Option.map_eq_some_iff.1 h
      obtain ⟨hi, hqi⟩ := List.getElem?_eq_some_iff.1 hq
      rw [List.getElem_range] at hqi
      subst hqi
      exact ⟨by simpa using hi, rfl⟩
    refine ⟨some a, cap, (List.range len).map V, by rw [hll]; simpa using h1, ?_, by rw [hll]; omega⟩
    refine ⟨setsV_length _, fun h0 => ?_⟩
    obtain ⟨b, o, sp⟩ := a
    have hc0 := (World.cells?_some (hV 0 (by omega))).2.2 0 (by omega)
    cases sp with
    | some x =>
      exfalso
      rw [Addr.add, Addr.add] at hc0
      unfold World.cell? at hc0
      split at hc0
      · simp at hc0
      · simp at hc0
    | none =>
      refine ⟨b, o, rfl, fun j u hu => ?_⟩
      obtain ⟨i, e, r, h1, h3, rfl⟩ := setsV_at j u hu
      obtain ⟨hi, rfl⟩ := hget i e h1
      have hr2 : r < 2 := by
        have := (List.getElem?_eq_some_iff.1 h3).1
        simpa using this
      have := (World.cells?_some (hV i hi)).2.2 r hr2
      rw [h3, addr_add, addr_add] at this
      rw [← this, Nat.add_assoc]
theorem open_label {W : World} {sp : Nat → Bool} {n : Nat} {cs : List Value} {x : DataW H × List MemPlace} (h : DataW.trod enc Tryd.prog W 0 sp true n 23 cs = some x) : ∃ s t : ByteArray, cs = [.string s, .string t] := by
  obtain ⟨xs, m, rfl, rfl, hlen, hxl, hf⟩ := DataW.trod_struct Tryd.underlying23 h
  have h2 : Tryd.prog.cellsOf 23 = 2 := by kernel_rfl
  have hc : Tryd.prog.cellsOf 9 = 1 := by kernel_rfl
  rw [h2] at hlen
  obtain ⟨v0, v1, rfl⟩ : ∃ v0 v1, cs = [v0, v1] := by
    match cs, hlen with
    | [v0, v1], _ => exact ⟨v0, v1, rfl⟩
  obtain ⟨x0, x1, rfl⟩ : ∃ x0 x1, xs = [x0, x1] := by
    match xs, hxl with
    | [x0, x1], _ => exact ⟨x0, x1, rfl⟩
  have h0 : DataW.trod enc Tryd.prog W 0 sp true m 9 ((List.drop 0 [v0, v1]).take (Tryd.prog.cellsOf 9)) = some x0 := hf 0 _ rfl
  have h1 : DataW.trod enc Tryd.prog W 0 sp true m 9 ((List.drop 1 [v0, v1]).take (Tryd.prog.cellsOf 9)) = some x1 := hf 1 _ rfl
  rw [hc] at h0 h1
  obtain ⟨s0, e0, r0, _⟩ := DataW.trod_string Tryd.underlying9 (show DataW.trod enc Tryd.prog W 0 sp true m 9 [v0] = some x0 from h0)
  obtain ⟨s1, e1, r1, _⟩ := DataW.trod_string Tryd.underlying9 (show DataW.trod enc Tryd.prog W 0 sp true m 9 [v1] = some x1 from h1)
  obtain ⟨rfl⟩ := e0
  obtain ⟨rfl⟩ := e1
  exact ⟨_, _, rfl⟩
/-- an owner, opened -/
theorem open_owner {W : World} {b0 : Nat} {v : Value} {d : DataW H} {p : List MemPlace} (h : DataW.Trod enc Tryd.prog W 0 (fun _ => true) true 23 v d p) (hval : Value.okWide Tryd.prog W .any b0 23 v) :
    ∃ pk nm : ByteArray, v = .agg #[.string pk, .string nm] := by
  obtain ⟨fuel, hf⟩ := h
  have hag : ∃ cs : Array Value, v = .agg cs := by
    unfold Value.okWide at hval
    rw [Tryd.underlying23] at hval
    obtain ⟨cs, rfl, _⟩ := hval
    exact ⟨cs, rfl⟩
  obtain ⟨cs, rfl⟩ := hag
  obtain ⟨s, t, e⟩ := open_label hf
  refine ⟨s, t, ?_⟩
  have hcc : (Value.agg cs).cells.toList = cs.toList := rfl
  obtain ⟨l⟩ := cs
  have hl : l = [.string s, .string t] := e
  rw [hl]
/-- an action, opened -/
theorem open_action {W : World} {b0 : Nat} {v : Value} {d : DataW H} {p : List MemPlace} (h : DataW.Trod enc Tryd.prog W 0 (fun _ => true) true 27 v d p) (hval : Value.okWide Tryd.prog W .any b0 27 v) :
    ∃ (L : LayA) (a : ActK), v = .agg (actV L a) ∧ ActAt W L a := by
  obtain ⟨fuel, hf⟩ := h
  have hag : ∃ cs : Array Value, v = .agg cs := by
    unfold Value.okWide at hval
    rw [Tryd.underlying27] at hval
    obtain ⟨cs, rfl, _⟩ := hval
    exact ⟨cs, rfl⟩
  obtain ⟨cs, rfl⟩ := hag
  obtain ⟨xs, m, rfl, hx, hlen, hxl, hel⟩ := DataW.trod_struct Tryd.underlying27 hf
  have h7 : Tryd.prog.cellsOf 27 = 7 := by kernel_rfl
  have hcl : Tryd.prog.cellsOf 23 = 2 := by kernel_rfl
  have hcs : Tryd.prog.cellsOf 9 = 1 := by kernel_rfl
  have hce : Tryd.prog.cellsOf 24 = 1 := by kernel_rfl
  have hcr : Tryd.prog.cellsOf 25 = 1 := by kernel_rfl
  rw [h7] at hlen
  have hcc : (Value.agg cs).cells = cs := rfl
  rw [hcc] at hel hlen
  obtain ⟨l⟩ := cs
  match l, hlen, xs, hxl with
  | [v0, v1, v2, v3, v4, v5, v6], _, [x0, x1, x2, x3, x4, x5], _ =>
    have t0 : DataW.trod enc Tryd.prog W 0 (fun _ => true) true m 23 ((List.drop 0 [v0, v1, v2, v3, v4, v5, v6]).take (Tryd.prog.cellsOf 23)) = some x0 := hel 0 _ rfl
    have t1 : DataW.trod enc Tryd.prog W 0 (fun _ => true) true m 9 ((List.drop 2 [v0, v1, v2, v3, v4, v5, v6]).take (Tryd.prog.cellsOf 9)) = some x1 := hel 1 _ rfl
    have t2 : DataW.trod enc Tryd.prog W 0 (fun _ => true) true m 24 ((List.drop 3 [v0, v1, v2, v3, v4, v5, v6]).take (Tryd.prog.cellsOf 24)) = some x2 := hel 2 _ rfl
    have t3 : DataW.trod enc Tryd.prog W 0 (fun _ => true) true m 25 ((List.drop 4 [v0, v1, v2, v3, v4, v5, v6]).take (Tryd.prog.cellsOf 25)) = some x3 := hel 3 _ rfl
    have t4 : DataW.trod enc Tryd.prog W 0 (fun _ => true) true m 25 ((List.drop 5 [v0, v1, v2, v3, v4, v5, v6]).take (Tryd.prog.cellsOf 25)) = some x4 := hel 4 _ rfl
    have t5 : DataW.trod enc Tryd.prog W 0 (fun _ => true) true m 25 ((List.drop 6 [v0, v1, v2, v3, v4, v5, v6]).take (Tryd.prog.cellsOf 25)) = some x5 := hel 5 _ rfl
    rw [hcl] at t0
    rw [hcs] at t1
    rw [hce] at t2
    rw [hcr] at t3 t4 t5
    obtain ⟨pk, nm, e0⟩ := open_label (show DataW.trod enc Tryd.prog W 0 (fun _ => true) true m 23 [v0, v1] = some x0 from t0)
    obtain ⟨s1, e1, _, _⟩ := DataW.trod_string Tryd.underlying9 (show DataW.trod enc Tryd.prog W 0 (fun _ => true) true m 9 [v2] = some x1 from t1)
    obtain ⟨AE, cE, lE, rfl, rE, mE⟩ := open_setsT (show DataW.trod enc Tryd.prog W 0 (fun _ => true) true m 24 [v3] = some x2 from t2)
    obtain ⟨AI, cI, lI, rfl, rI, mI⟩ := open_rowT (show DataW.trod enc Tryd.prog W 0 (fun _ => true) true m 25 [v4] = some x3 from t3)
    obtain ⟨AA, cA, lA, rfl, rA, mA⟩ := open_rowT (show DataW.trod enc Tryd.prog W 0 (fun _ => true) true m 25 [v5] = some x4 from t4)
    obtain ⟨AO, cO, lO, rfl, rO, mO⟩ := open_rowT (show DataW.trod enc Tryd.prog W 0 (fun _ => true) true m 25 [v6] = some x5 from t5)
    obtain ⟨rfl, rfl⟩ : v0 = .string pk ∧ v1 = .string nm := by simpa using e0
    obtain ⟨rfl⟩ := e1
    refine ⟨⟨pk, nm, AE, AI, AA, AO, cE, cI, cA, cO⟩, ⟨s1.data.toList, lE, lI, lA, lO⟩, ?_, ⟨rE, rI, rA, rO, mE, mI, mA, mO⟩⟩
    unfold actV
    simp only [strB_of]
theorem tabs_of {W : World} {a b : String × DataW Unit} (h : laidMet Tryd.prog [a, b, ("internal/strconv.uint64pow10", Lib.tabData .u64 Lib.pow10Tab)] W) : Tabs W := by
  have h3 := h.tail.tail
  refine Lib.tabBelow_of_tabIs ?_
  exact Lib.tabIs_of_head (g := 0) (t := 124) (e := 83) (n := 20) (by kernel_rfl) (by kernel_rfl) Tryd.underlying124 Tryd.underlying83 (by kernel_rfl) (by kernel_rfl) h3
end Go.Proofs.YtjmfmlkjippiaaaDoor
