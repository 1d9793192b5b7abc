/- Rows of the blobs' acts as arguments: opened. -/
import Derived.Test.YtegkjmmknjhdiaaLaw0
import Derived.Test.YtegkjmmknjhdiaaBacts
import Derived.Deep.Slices
import Derived.SizedLaws
namespace Go.Proofs.Ytegkjmmknjhdiaa
open Go.ChangeShapes Go.WideShapes Go.ChangeAt Go.RowKit Go.Maps
set_option maxRecDepth 100000
variable {H : Type} {enc : TypeId × Value → H}
/-- what an act's datum says of its text -/
def BActD (a : BActE) (d : DataW H) : Prop := ∃ x0 x2 x3, d = .agg [x0, .lit (.string a.data.data.toList), x2, x3]
theorem u8_list : ∀ cs : List Value, (∀ v ∈ cs, ∃ n : Int, v = .int .u8 n ∧ (Lit.int .u8 n).wf = true) → ∃ l : List UInt8, cs = u8s l
  | [], _ => ⟨[], rfl⟩
  | v :: cs, h => by
    obtain ⟨n, rfl, hw⟩ := h v (List.mem_cons_self ..)
    obtain ⟨b, rfl⟩ := u8_of_wf hw
    obtain ⟨l, rfl⟩ := u8_list cs (fun w hw => h w (List.mem_cons_of_mem _ hw))
    exact ⟨b :: l, rfl⟩
theorem open_dig_cells {W : World} {sp : Nat → Bool} {n : Nat} {cs : List Value} {x : DataW H × List MemPlace} (h : DataW.trod enc Try.prog W 0 sp true n 39 cs = some x) : ∃ l : List UInt8, l.length = 32 ∧ cs = u8s l := by
  obtain ⟨xs, m, rfl, rfl, hlen, hxl, hf⟩ := DataW.trod_array (show Try.prog.underlying 39 = some (.array 32 5) from Try.underlying39) h
  have h32 : Try.prog.cellsOf 39 = 32 := by kernel_rfl
  have h1 : Try.prog.cellsOf 5 = 1 := by kernel_rfl
  rw [h32] at hlen
  rw [h1] at hf
  obtain ⟨l, rfl⟩ := u8_list cs (fun v hv => by
    obtain ⟨i, hi, rfl⟩ := List.mem_iff_getElem.1 hv
    have hh := hf i (by omega)
    rw [Nat.mul_one, List.drop_eq_getElem_cons hi, List.take_succ_cons, List.take_zero, List.getElem?_eq_getElem (by omega)] at hh
    obtain ⟨n, e, _, hw⟩ := DataW.trod_int (show Try.prog.underlying 5 = some (.int .u8) from Try.underlying5) hh
    injection e with e
    exact ⟨n, e, hw⟩)
  exact ⟨l, by rwa [u8s_length] at hlen, rfl⟩
theorem open_bact {W : World} {sp : Nat → Bool} {n : Nat} {cs : List Value} {x : DataW H × List MemPlace} (h : DataW.trod enc Try.prog W 0 sp true n 41 cs = some x) : ∃ a : BActE, cs = bactV a ∧ BActD a x.1 ∧ a.other.length = 32 ∧ 0 ≤ a.kind ∧ a.kind ≤ 255 := by
  obtain ⟨xs, m, rfl, rfl, hlen, hxl, hf⟩ := DataW.trod_struct Try.underlying41 h
  have h35 : Try.prog.cellsOf 41 = 35 := by kernel_rfl
  have hc0 : Try.prog.cellsOf 5 = 1 := by kernel_rfl
  have hc1 : Try.prog.cellsOf 9 = 1 := by kernel_rfl
  have hc2 : Try.prog.cellsOf 4 = 1 := by kernel_rfl
  have hc3 : Try.prog.cellsOf 39 = 32 := by kernel_rfl
  rw [h35] at hlen
  obtain ⟨v0, v1, v2, r, rfl⟩ : ∃ v0 v1 v2 r, cs = v0 :: v1 :: v2 :: r := by
    match cs, hlen with
    | v0 :: v1 :: v2 :: r, _ => exact ⟨v0, v1, v2, r, rfl⟩
  obtain ⟨x0, x1, x2, x3, rfl⟩ : ∃ x0 x1 x2 x3, xs = [x0, x1, x2, x3] := by
    match xs, hxl with
    | [x0, x1, x2, x3], _ => exact ⟨x0, x1, x2, x3, rfl⟩
  have hr : r.length = 32 := by simpa using hlen
  have h0 : DataW.trod enc Try.prog W 0 sp true m 5 ((List.drop 0 (v0 :: v1 :: v2 :: r)).take (Try.prog.cellsOf 5)) = some x0 := hf 0 _ rfl
  have h1 : DataW.trod enc Try.prog W 0 sp true m 9 ((List.drop 1 (v0 :: v1 :: v2 :: r)).take (Try.prog.cellsOf 9)) = some x1 := hf 1 _ rfl
  have h2 : DataW.trod enc Try.prog W 0 sp true m 4 ((List.drop 2 (v0 :: v1 :: v2 :: r)).take (Try.prog.cellsOf 4)) = some x2 := hf 2 _ rfl
  have h3 : DataW.trod enc Try.prog W 0 sp true m 39 ((List.drop 3 (v0 :: v1 :: v2 :: r)).take (Try.prog.cellsOf 39)) = some x3 := hf 3 _ rfl
  rw [hc0] at h0
  rw [hc1] at h1
  rw [hc2] at h2
  rw [hc3, List.drop_succ_cons, List.drop_succ_cons, List.drop_succ_cons, List.drop_zero, List.take_of_length_le (by omega)] at h3
  obtain ⟨n0, e0, r0, w0⟩ := DataW.trod_int Try.underlying5 (show DataW.trod enc Try.prog W 0 sp true m 5 [v0] = some x0 from h0)
  obtain ⟨s1, e1, r1, _⟩ := DataW.trod_string Try.underlying9 (show DataW.trod enc Try.prog W 0 sp true m 9 [v1] = some x1 from h1)
  obtain ⟨b2, e2, r2⟩ := DataW.trod_bool Try.underlying4 (show DataW.trod enc Try.prog W 0 sp true m 4 [v2] = some x2 from h2)
  obtain ⟨l, hl, rfl⟩ := open_dig_cells h3
  obtain ⟨rfl⟩ := e0
  obtain ⟨rfl⟩ := e1
  obtain ⟨rfl⟩ := e2
  subst r0 r1 r2
  refine ⟨⟨n0, s1, b2, l⟩, rfl, ⟨_, _, _, rfl⟩, hl, ?_⟩
  simpa [Lit.wf, IntKind.min, IntKind.max, IntKind.signed, IntKind.bits] using w0
instance : Inhabited BActE := ⟨⟨0, ⟨#[]⟩, false, []⟩⟩
theorem bactsV_at : ∀ {l : List BActE} (_ : ∀ a ∈ l, a.other.length = 32) (j : Nat) (u : Value), (bactsV l)[j]? = some u → ∃ i a r, l[i]? = some a ∧ (bactV a)[r]? = some u ∧ j = i * 35 + r
  | [], _, j, u, h => by simp [bactsV] at h
  | x :: r, hk, j, u, h => by
    have hx := bactV_length (hk x (List.mem_cons_self ..))
    rw [bactsV, List.flatMap_cons] at h
    rcases Nat.lt_or_ge j 35 with hj | hj
    · rw [List.getElem?_append_left (by omega)] at h
      exact ⟨0, x, j, rfl, h, by omega⟩
    · rw [List.getElem?_append_right (by omega)] at h
      obtain ⟨i, a, q, h1, h2, h3⟩ := bactsV_at (l := r) (fun z hz => hk z (List.mem_cons_of_mem _ hz)) _ u h
      exact ⟨i + 1, a, q, by simpa using h1, h2, by omega⟩
theorem open_bacts {W : World} {b0 : Nat} {v : Value} {d : DataW H} {p : List MemPlace} (h : DataW.Trod enc Try.prog W 0 (fun _ => true) true 33 v d p) (hval : Value.okWide Try.prog W .any b0 33 v) :
    ∃ (A : Option Addr) (c : Nat) (l : List BActE), v = .slice A l.length c ∧ Rd W 35 A l.length (bactsV l) ∧ (∀ a ∈ l, a.other.length = 32 ∧ 0 ≤ a.kind ∧ a.kind ≤ 255) ∧ (l = [] ∨ ∃ el sp, d = .slice el sp ∧ el.length = l.length ∧ ∀ (i : Nat) (a : BActE), l[i]? = some a → ∃ x, el[i]? = some x ∧ BActD a x) := by
  obtain ⟨fuel, hf⟩ := h
  have hv : v.cells.toList = [v] := by
    rcases okWide_slice Try.underlying33 hval with ⟨A, n, c, rfl⟩
    rfl
  have h35 : Try.prog.cellsOf 41 = 35 := by kernel_rfl
  rw [hv] at hf
  rcases Go.Deep.open_slice Try.underlying33 hf with ⟨h1, _⟩ | ⟨a, len, cap, m, n, D, Pl, h1, _, hlc, hcm, hm, hx, hel⟩
  · exact ⟨none, 0, [], by simpa using h1, Rd.none_ _ _ _, (fun a ha => by cases ha), .inl rfl⟩
  · have hml : len ≤ m := by rw [hm]; split <;> omega
    have hch : ∀ i, i < len → ∃ e : BActE, W.cells? 0 (a.add (i * 35)) 35 = some (bactV e) ∧ BActD e (D i) ∧ e.other.length = 32 ∧ 0 ≤ e.kind ∧ e.kind ≤ 255 := fun i hi => by
      obtain ⟨cs, hc, ht⟩ := hel i (by omega)
      obtain ⟨e, rfl, he⟩ := open_bact ht
      rw [h35] at hc
      exact ⟨e, hc, he⟩
    obtain ⟨V, hV⟩ := Go.Deep.choose_lt (α := BActE) (p := fun i e => W.cells? 0 (a.add (i * 35)) 35 = some (bactV e) ∧ BActD e (D i) ∧ e.other.length = 32 ∧ 0 ≤ e.kind ∧ e.kind ≤ 255) hch
    have hll : ((List.range len).map V).length = len := by simp
    have hget : ∀ i e, ((List.range len).map V)[i]? = some e → i < len ∧ e = V i := fun i e h => by
      rw [List.getElem?_map] at h
      obtain ⟨q, hq, rfl⟩ := Option.map_eq_some_iff.1 h
      obtain ⟨hi, hqi⟩ := List.getElem?_eq_some_iff.1 hq
      rw [List.getElem_range] at hqi
      subst hqi
      exact ⟨by simpa using hi, rfl⟩
    have hall : ∀ e ∈ (List.range len).map V, e.other.length = 32 ∧ 0 ≤ e.kind ∧ e.kind ≤ 255 := fun e he => by
      obtain ⟨i, hi⟩ := List.getElem?_of_mem he
      obtain ⟨hi2, rfl⟩ := hget i e hi
      exact (hV i hi2).2.2
    refine ⟨some a, cap, (List.range len).map V, by rw [hll]; simpa using h1, ?_, hall, .inr ⟨_, _, congrArg Prod.fst hx, by simp, fun i e he => ?_⟩⟩
    · refine ⟨by rw [bactsV_length (fun a h => (hall a h).1)], fun h0 => ?_⟩
      obtain ⟨b, o, sp⟩ := a
      have hc0 := (World.cells?_some (hV 0 (by omega)).1).2.2 0 (by omega)
      cases sp with
      | some x =>
        exfalso
        rw [Addr.add, Addr.add] at hc0
        unfold World.cell? at hc0
        split at hc0
        · simp [bactV] at hc0
        · simp [bactV] at hc0
      | none =>
        refine ⟨b, o, rfl, fun j u hu => ?_⟩
        obtain ⟨i, e, r, h1, h2, rfl⟩ := bactsV_at (fun a h => (hall a h).1) j u hu
        have h32 := (hall e (List.mem_of_getElem? h1)).1
        obtain ⟨hi, rfl⟩ := hget i e h1
        have hr35 : r < 35 := by
          have := (List.getElem?_eq_some_iff.1 h2).1
          rwa [bactV_length h32] at this
        have := (World.cells?_some (hV i hi).1).2.2 r hr35
        rw [h2, addr_add, addr_add] at this
        rw [← this, Nat.add_assoc]
    · obtain ⟨hi, rfl⟩ := hget i e he
      exact ⟨D i, by rw [List.getElem?_map, List.getElem?_range hi]; rfl, (hV i hi).2.1⟩
theorem weightsAll_memB {P : Program} {e : TypeId} : ∀ {l : List (DataW H)} {d : DataW H}, d ∈ l → ∀ n ∈ d.weights P e, n ∈ DataW.weightsAll P e l
  | d' :: r, d, hd, n, hn => by
    simp only [DataW.weightsAll, List.mem_append]
    rcases List.mem_cons.1 hd with rfl | h
    · exact Or.inl hn
    · exact Or.inr (weightsAll_memB h n hn)
/-- an act's text is not great -/
theorem bacts_sized {ts : List TypeId} {ds : List (DataW H)} (h : (DataW.weightsEach Try.prog ts ds).all (· ≤ reachBytes) = true) {j : Nat} (ht : ts[j]? = some 33) {d : DataW H} (hd : ds[j]? = some d) {l : List BActE}
    (hk : ∀ a ∈ l, a.other.length = 32 ∧ 0 ≤ a.kind ∧ a.kind ≤ 255)
    (hl : l = [] ∨ ∃ el sp, d = .slice el sp ∧ el.length = l.length ∧ ∀ (i : Nat) (a : BActE), l[i]? = some a → ∃ x, el[i]? = some x ∧ BActD a x) : l.length ≤ 8796093022208 ∧ ∀ a ∈ l, BActOk a := by
  rcases hl with rfl | ⟨el, sp, rfl, hlen, hx⟩
  · exact ⟨by decide, fun a ha => by cases ha⟩
  have h47 := reachBytes_lt
  have hle := fun n hn => of_decide_eq_true (List.all_eq_true.1 h n (DataW.weights_mem_each ht hd n hn))
  constructor
  · have h64 : 16 ≤ Try.prog.bytesOf 41 := by decide +kernel
    have := sized_slice (P := Try.prog) h ht hd Try.underlying33
    have h2 := Nat.mul_le_mul_left el.length h64
    have h3 := Nat.mul_le_mul_right (Try.prog.bytesOf 41) (Nat.le_add_right el.length sp.length)
    omega
  · intro a ha
    obtain ⟨i, hi⟩ := List.getElem?_of_mem ha
    obtain ⟨x, hxe, x0, x2, x3, rfl⟩ := hx i a hi
    have hall : ∀ n ∈ DataW.weights Try.prog 41 (.agg [x0, .lit (.string a.data.data.toList), x2, x3]), n ≤ reachBytes := fun n hn => by
      refine hle n ?_
      rw [DataW.weights, show Try.prog.underlying 33 = _ from Try.underlying33]
      simp only [List.mem_cons, List.mem_append]
      exact .inr (.inl (weightsAll_memB (List.mem_of_getElem? hxe) n hn))
    rw [DataW.weights, show Try.prog.underlying 41 = _ from Try.underlying41] at hall
    simp only [List.map_cons, List.map_nil, DataW.weightsEach, DataW.weights, List.mem_append, List.mem_cons, List.not_mem_nil, or_false] at hall
    obtain ⟨k1, k2, k3⟩ := hk a ha
    refine ⟨k1, ⟨k2, k3⟩, ?_⟩
    have := hall _ (.inr (.inl rfl))
    rw [toList_length] at this
    omega
end Go.Proofs.Ytegkjmmknjhdiaa
