/- Words for memory: a slice that reads as a list, a slice that the call owns (at whatever offset), one law on append for both kinds of sources. Nothing of the program is named. -/
import Derived.WalkKit
import Derived.Lib.Hide
import Derived.RegionTactic
import Derived.Deep.QuietTactic
namespace Go.Proofs.YtehpapoboeejkaaDoor
open Go.RowKit

theorem addr_add (b o i : Nat) : (⟨b, o, none⟩ : Addr).add i = ⟨b, o + i, none⟩ := by
  unfold Addr.add
  split
  · subst_vars; rfl
  · rfl

/-- the slice with address A and n elements of sz cells each reads as the cells xs -/
def Rd (w : World) (sz : Nat) (A : Option Addr) (n : Nat) (xs : List Value) : Prop :=
  xs.length = n * sz ∧ (0 < n → ∃ b o, A = some ⟨b, o, none⟩ ∧ ∀ j u, xs[j]? = some u → w.cell? ⟨b, o + j, none⟩ = some u)

/-- no cell of a row of n cells is frozen by this mark: there is none, or it is the one of '[]byte(s)', behind the row's end -/
def Free (fr : Nat × Nat) (n : Nat) : Prop := fr = (0, 0) ∨ fr = (n, n + 1)
theorem Free.cell {fr : Nat × Nat} {w : World} {b j : Nat} {cur : Array Value} {t : TypeId} (h : Free fr cur.size) (hb : w.heap[b]? = some (.cells cur t fr)) (hj : j < cur.size) : w.frozen? ⟨b, j, none⟩ = false := by
  rcases h with rfl | rfl <;> simp [World.frozen?, hb]
  omega
theorem run_storeCells_free (P : Program) (g o : Nat) (t : TypeId) (fr : Nat × Nat) : ∀ (vs : List Value) (i : Nat) (cur : Array Value) (w : World), Free fr cur.size → w.heap[g]? = some (.cells cur t fr) → o + i + vs.length ≤ cur.size → (∀ v ∈ vs, v.oneCell' = true) →
    (storeCells ⟨g, o, none⟩ vs i).run P w = .ok () (w.setRow g (cur.toList.take (o + i) ++ vs ++ cur.toList.drop (o + i + vs.length)).toArray)
  | [], i, cur, w, _, hg, _, _ => by
    simp only [storeCells, List.append_nil, List.length_nil, Nat.add_zero, List.take_append_drop, Array.toArray_toList]
    rw [setRow_self w g cur t fr hg]
    rfl
  | v :: rest, i, cur, w, hfr, hg, hl, h1 => by
    have hi : o + i < cur.size := by simp at hl; omega
    have hcell : w.cell? ⟨g, o + i, none⟩ = some cur[o + i] := by simp [World.cell?, hg, hi]
    have hfro : w.frozen? ⟨g, o + i, none⟩ = false := hfr.cell hg hi
    have hst : (store ((⟨g, o, none⟩ : Addr).add i) v).run P w = .ok () (w.setRow g (cur.setIfInBounds (o + i) v)) := by
      rw [addr_add, run_store P w _ v _ (h1 v (by simp)), hcell]
      simp [hfro, setCell_eq_setRow w g (o + i) cur t fr v hg]
    have ih := run_storeCells_free P g o t fr rest (i + 1) (cur.setIfInBounds (o + i) v) (w.setRow g (cur.setIfInBounds (o + i) v)) (by rw [Array.size_setIfInBounds]; exact hfr) (setRow_heap w g cur _ t _ hg) (by simp at hl ⊢; omega) (fun x hx => h1 x (by simp [hx]))
    simp only [storeCells, Sem.run_bind, hst, Result.andThen_ok, ih, setRow_setRow]
    congr 3
    have e := list_seg_step cur.toList (o + i) v rest (by simp at hl ⊢; omega)
    simpa [Array.toList_setIfInBounds, Nat.add_assoc] using e
/-- the slice (A, n, c) is nil, or lies in memory of the call's own (blocks from base on), and reads as the cells xs -/
def Own (w : World) (base : Nat) (t : TypeId) (sz : Nat) (A : Option Addr) (n c : Nat) (xs : List Value) : Prop :=
  xs.length = n * sz ∧ n ≤ c ∧ c ≤ maxLen ∧ ((A = none ∧ c = 0) ∨ ∃ b o cur fr, A = some ⟨b, o, none⟩ ∧ base ≤ b ∧ w.heap[b]? = some (.cells cur t fr) ∧ Free fr cur.size ∧ o + c * sz ≤ cur.size ∧ ∀ j, j < n * sz → cur[o + j]? = xs[j]?)

def blockOf (A : Option Addr) : Option Nat := A.map (·.block)

section
variable {w w' : World} {base sz n c : Nat} {t : TypeId} {A : Option Addr} {xs : List Value}

theorem heap_lt {b : Nat} {o : Obj} (h : w.heap[b]? = some o) : b < w.heap.size := by
  rcases Nat.lt_or_ge b w.heap.size with hlt | hge
  · exact hlt
  · rw [Array.getElem?_eq_none hge] at h; cases h

theorem Own.at_ (h : Own w base t sz A n c xs) (h0 : 0 < c) : ∃ b o cur fr, A = some ⟨b, o, none⟩ ∧ base ≤ b ∧ w.heap[b]? = some (.cells cur t fr) ∧ Free fr cur.size ∧ o + c * sz ≤ cur.size ∧ ∀ j, j < n * sz → cur[o + j]? = xs[j]? := by
  rcases h.2.2.2 with ⟨_, hc⟩ | h
  · omega
  · exact h
theorem Own.rd (h : Own w base t sz A n c xs) : Rd w sz A n xs := by
  have hA := h.at_
  obtain ⟨hl, hn, hm, _⟩ := h
  refine ⟨hl, fun h0 => ?_⟩
  obtain ⟨b, o, cur, fr, rfl, _, hb, _, hs, hx⟩ := hA (by omega)
  refine ⟨b, o, rfl, fun j u hu => ?_⟩
  have hj : j < xs.length := by
    rcases Nat.lt_or_ge j xs.length with hlt | hge
    · exact hlt
    · rw [List.getElem?_eq_none hge] at hu; cases hu
  rw [cell_of_row w b _ cur t _ hb, hx j (by omega), hu]

theorem Own.nil (w : World) (base : Nat) (t : TypeId) (sz : Nat) : Own w base t sz none 0 0 [] := ⟨by simp, by simp, by simp, .inl ⟨rfl, rfl⟩⟩
theorem Own.block (h : Own w base t sz A n c xs) : ∀ b, blockOf A = some b → base ≤ b ∧ b < w.heap.size ∧ ∃ cur fr, w.heap[b]? = some (.cells cur t fr) := by
  intro b hb
  rcases h.2.2.2 with ⟨rfl, _⟩ | ⟨b', o, cur, fr, rfl, hbb, hg, _⟩
  · simp [blockOf] at hb
  · simp only [blockOf, Option.map_some, Option.some.injEq] at hb
    subst hb
    exact ⟨hbb, heap_lt hg, cur, fr, hg⟩
/-- its block is none of another element type -/
theorem Own.ne {g : Nat} {t' : TypeId} {cs : Array Value} {fr : Nat × Nat} (h : Own w base t sz A n c xs) (hg : w.heap[g]? = some (.cells cs t' fr)) (hne : t ≠ t') : blockOf A ≠ some g := by
  intro e
  obtain ⟨_, _, cur, _, hc⟩ := h.block g e
  rw [hg] at hc
  injection hc with hc
  injection hc with _ ht
  exact hne ht.symm
/-- kept where the block of its own is as it was -/
theorem Own.keep (h : Own w base t sz A n c xs) (hk : ∀ b, blockOf A = some b → base ≤ b → b < w.heap.size → w'.heap[b]? = w.heap[b]?) : Own w' base t sz A n c xs := by
  obtain ⟨hl, hn, hm, hc⟩ := h
  refine ⟨hl, hn, hm, ?_⟩
  rcases hc with hc | ⟨b, o, cur, fr, rfl, hb, hg, hf, hs, hx⟩
  · exact .inl hc
  · exact .inr ⟨b, o, cur, fr, rfl, hb, (hk b rfl hb (heap_lt hg)).trans hg, hf, hs, hx⟩
theorem Own.drewN (h : Own w base t sz A n c xs) (k : Nat) : Own (w.drewN k) base t sz A n c xs := h
theorem Own.drew (h : Own w base t sz A n c xs) : Own w.drew base t sz A n c xs := h
theorem Own.alloc (h : Own w base t sz A n c xs) (o : Obj) : Own (w.alloc o) base t sz A n c xs := h.keep fun _ _ _ hb => Below.heap_alloc w o _ hb
theorem Own.mono {base' : Nat} (h : Own w base t sz A n c xs) (hb : base' ≤ base) : Own w base' t sz A n c xs := by
  obtain ⟨hl, hn, hm, hc⟩ := h
  refine ⟨hl, hn, hm, ?_⟩
  rcases hc with hc | ⟨b, o, cur, fr, rfl, hb', r⟩
  · exact .inl hc
  · exact .inr ⟨b, o, cur, fr, rfl, by omega, r⟩
theorem Own.below {B : Nat} (h : Own w base t sz A n c xs) (hb : Below B w w') (hB : w.heap.size ≤ B) : Own w' base t sz A n c xs := h.keep fun _ _ _ hlt => hb.block _ (by omega)
theorem Own.setOther (h : Own w base t sz A n c xs) {p : Addr} (hp : blockOf A ≠ some p.block) (u : Value) : Own (w.setCell p u) base t sz A n c xs :=
  h.keep fun b hb _ _ => Below.heap_setCell w p u b (fun e => hp (by rw [hb, e]))
theorem Own.grown {row : Option Nat} (h : Own w base t sz A n c xs) (hg : w.grownBy w' row) (hr : ∀ b, blockOf A = some b → some b ≠ row) : Own w' base t sz A n c xs :=
  h.keep fun b hb _ hlt => hg.block b hlt (hr b hb)
/-- 's[k:]' as the model writes it -/
theorem Own.drop (h : Own w base t sz A n c xs) {k : Nat} (hk : k ≤ n) : Own w base t sz (if c = k then A else A.map (·.add (k * sz))) (n - k) (c - k) (xs.drop (k * sz)) := by
  obtain ⟨hl, hn, hm, hc⟩ := h
  refine ⟨by rw [List.length_drop, hl, Nat.sub_mul], by omega, by omega, ?_⟩
  rcases hc with ⟨rfl, hc⟩ | ⟨b, o, cur, fr, rfl, hb, hg, hf, hs, hx⟩
  · exact .inl ⟨by simp, by omega⟩
  · right
    by_cases hck : c = k
    · rw [if_pos hck]
      refine ⟨b, o, cur, fr, rfl, hb, hg, hf, by rw [hck, Nat.sub_self]; omega, fun j hj => ?_⟩
      rw [show n - k = 0 by omega] at hj
      omega
    · rw [if_neg hck]
      refine ⟨b, o + k * sz, cur, fr, by simp [addr_add], hb, hg, hf, ?_, fun j hj => ?_⟩
      · rw [Nat.sub_mul]
        have : k * sz ≤ c * sz := Nat.mul_le_mul_right _ (by omega)
        omega
      · have hks : k * sz ≤ n * sz := Nat.mul_le_mul_right _ hk
        rw [Nat.sub_mul] at hj
        have := hx (k * sz + j) (by omega)
        rw [List.getElem?_drop, ← this]
        congr 1; omega
/-- 's[:k]' within the length -/
theorem Own.take (h : Own w base t sz A n c xs) {k : Nat} (hk : k ≤ n) : Own w base t sz A k c (xs.take (k * sz)) := by
  obtain ⟨hl, hn, hm, hc⟩ := h
  have hks : k * sz ≤ n * sz := Nat.mul_le_mul_right _ hk
  refine ⟨by rw [List.length_take, hl]; omega, by omega, hm, ?_⟩
  rcases hc with hc | ⟨b, o, cur, fr, rfl, hb, hg, hf, hs, hx⟩
  · exact .inl hc
  · refine .inr ⟨b, o, cur, fr, rfl, hb, hg, hf, hs, fun j hj => ?_⟩
    rw [hx j (by omega), List.getElem?_take, if_pos hj]
/-- a block that was made now, read from its head -/
theorem Own.made (w : World) (cs : Array Value) (t : TypeId) (sz n c : Nat) (base : Nat) (hb : base ≤ w.heap.size) (hn : n ≤ c) (hm : c ≤ maxLen) (hs : cs.size = c * sz) :
    Own (w.alloc (.cells cs t)) base t sz (some ⟨w.heap.size, 0, none⟩) n c (cs.toList.take (n * sz)) := by
  have : n * sz ≤ c * sz := Nat.mul_le_mul_right _ hn
  refine ⟨by rw [List.length_take, Array.length_toList, hs]; omega, hn, hm, .inr ⟨w.heap.size, 0, cs, (0, 0), rfl, hb, heap_alloc_new w _, .inl rfl, by omega, fun j hj => ?_⟩⟩
  rw [List.getElem?_take, if_pos hj, Nat.zero_add]
  simp
theorem Own.lit (w : World) (cs : Array Value) (t : TypeId) (sz n : Nat) (base : Nat) (hb : base ≤ w.heap.size) (hm : n ≤ maxLen) (hs : cs.size = n * sz) :
    Own (w.alloc (.cells cs t)) base t sz (some ⟨w.heap.size, 0, none⟩) n n cs.toList := by
  have h := Own.made w cs t sz n n base hb (Nat.le_refl _) hm hs
  rw [List.take_of_length_le (by simp [hs])] at h
  exact h
theorem Rd.of_lit (w : World) (cs : Array Value) (t : TypeId) (sz n : Nat) (hm : n ≤ maxLen) (hs : cs.size = n * sz) : Rd (w.alloc (.cells cs t)) sz (some ⟨w.heap.size, 0, none⟩) n cs.toList :=
  (Own.lit w cs t sz n 0 (Nat.zero_le _) hm hs).rd
theorem Rd.keep (h : Rd w sz A n xs) (hk : ∀ b o u, blockOf A = some b → w.cell? ⟨b, o, none⟩ = some u → w'.cell? ⟨b, o, none⟩ = some u) : Rd w' sz A n xs := by
  obtain ⟨hl, hc⟩ := h
  refine ⟨hl, fun h0 => ?_⟩
  obtain ⟨b, o, rfl, hx⟩ := hc h0
  exact ⟨b, o, rfl, fun j u hu => hk b _ _ rfl (hx j u hu)⟩
theorem Rd.alloc (h : Rd w sz A n xs) (o : Obj) : Rd (w.alloc o) sz A n xs := h.keep fun b o' u _ hu => by
  rw [World.cell?_alloc_lt _ _ _ (World.block_lt_of_cell? w _ hu)]; exact hu
theorem Rd.drewN (h : Rd w sz A n xs) (k : Nat) : Rd (w.drewN k) sz A n xs := h
theorem Rd.drew (h : Rd w sz A n xs) : Rd w.drew sz A n xs := h
theorem Rd.below {B : Nat} (h : Rd w sz A n xs) (hb : Below B w w') (hB : ∀ b, blockOf A = some b → b < w.heap.size → b < B) : Rd w' sz A n xs := h.keep fun b o' u hbl hu => by
  rw [hb.cell (p := ⟨b, o', none⟩) (hB b hbl (World.block_lt_of_cell? w _ hu))]; exact hu
theorem Rd.below_all (h : Rd w sz A n xs) (hb : Below w.heap.size w w') : Rd w' sz A n xs := h.below hb fun _ _ h => h
theorem Rd.none_ (w : World) (sz : Nat) (A : Option Addr) : Rd w sz A 0 [] := ⟨by simp, fun h => absurd h (by omega)⟩
theorem Rd.drop (h : Rd w sz A n xs) {k c : Nat} (hk : k ≤ n) (hc : n ≤ c) : Rd w sz (if c = k then A else A.map (·.add (k * sz))) (n - k) (xs.drop (k * sz)) := by
  obtain ⟨hl, hq⟩ := h
  refine ⟨by rw [List.length_drop, hl, Nat.sub_mul], fun h0 => ?_⟩
  obtain ⟨b, o, rfl, hx⟩ := hq (by omega)
  rw [if_neg (by omega)]
  refine ⟨b, o + k * sz, by simp [addr_add], fun j u hu => ?_⟩
  rw [Nat.add_assoc]
  exact hx _ u (by rw [← hu, List.getElem?_drop])
theorem Rd.take (h : Rd w sz A n xs) {k : Nat} (hk : k ≤ n) : Rd w sz A k (xs.take (k * sz)) := by
  obtain ⟨hl, hq⟩ := h
  have hks : k * sz ≤ n * sz := Nat.mul_le_mul_right _ hk
  refine ⟨by rw [List.length_take, hl]; omega, fun h0 => ?_⟩
  obtain ⟨b, o, rfl, hx⟩ := hq (by omega)
  refine ⟨b, o, rfl, fun j u hu => hx j u ?_⟩
  rw [List.getElem?_take] at hu
  split at hu
  · exact hu
  · cases hu
theorem Rd.cell (h : Rd w sz A n xs) {j : Nat} (hj : j < xs.length) : ∃ b o, A = some ⟨b, o, none⟩ ∧ w.cell? ⟨b, o + j, none⟩ = some xs[j] := by
  obtain ⟨b, o, rfl, hx⟩ := h.2 (by rcases Nat.eq_zero_or_pos n with h0 | h0
                                    · have := h.1; subst h0; omega
                                    · exact h0)
  exact ⟨b, o, rfl, hx j _ (List.getElem?_eq_getElem hj)⟩
end

/-- what append reads of its source: m elements of sz cells, the cells news -/
def Src (P : Program) (w : World) (u : TypeId) (sz : Nat) (x : Value) (m : Nat) (news : List Value) : Prop :=
  news.length = m * sz ∧ ((∃ e, P.underlying u = some (.slice e)) ∨ P.underlying u = some .string) ∧ (∀ k, (Builtin.lenOf x).run P (w.drewN k) = .ok m (w.drewN k)) ∧ ∀ k, (Builtin.firstCells sz m x).run P (w.drewN k) = .ok news.toArray (w.drewN k)

section
variable {P : Program} {w : World}
theorem Src.slice {sz m c : Nat} {A : Option Addr} {news : List Value} {u e : TypeId} (hu : P.underlying u = some (.slice e)) (h : Rd w sz A m news) : Src P w u sz (.slice A m c) m news := by
  refine ⟨h.1, .inl ⟨_, hu⟩, fun k => by simp [Builtin.lenOf], fun k => ?_⟩
  rcases Nat.eq_zero_or_pos m with h0 | h0
  · subst h0
    have : news = [] := List.eq_nil_of_length_eq_zero (by simpa using h.1)
    subst this
    cases A <;> simp [Builtin.firstCells, loadCells, loadCellsFrom]
  · obtain ⟨b, o, rfl, hx⟩ := h.2 h0
    exact run_firstCells_some (P := P) (w.drewN k) sz m ⟨b, o, none⟩ m c news h.1 (fun j v hv => by rw [addr_add]; exact hx j v hv)
theorem Src.str {s : ByteArray} {u : TypeId} (hu : P.underlying u = some .string) : Src P w u 1 (.string s) s.size (s.data.toList.map fun b => Value.int .u8 b.toNat) := by
  refine ⟨by simp, .inr hu, fun k => by simp [Builtin.lenOf], fun k => ?_⟩
  simp [Builtin.firstCells]
  apply Array.toList_inj.1
  simp

/-- APPEND onto a slice of the call's own (nil, empty, at whatever offset) -/
theorem run_append_gen (t u ty e : TypeId) (i : TypeInfo) (z : Value) (sz bytes : Nat) (ht : P.underlying t = some (.slice e)) (hi : P.info? e = some i) (hz : i.zero = some z)
    (hsize : i.size = sz) (hby : i.bytes = bytes) (hzs : z.cells.size = sz)
    {base : Nat} {A : Option Addr} {n c : Nat} {xs : List Value} (hown : Own w base e sz A n c xs)
    {x : Value} {m : Nat} {news : List Value} (hsrc : Src P w u sz x m news) (h1 : ∀ v ∈ news, v.oneCell' = true)
    (h63 : n + m ≤ maxLen) (hbytes : (n + m) * bytes ≤ 140737488355328) (hbase : base ≤ w.heap.size) :
    ∃ A' c' w', (Builtin.append_ #[t, u] ty #[.slice A n c, x]).run P w = .ok (.slice A' (n + m) c') w' ∧ Own w' base e sz A' (n + m) c' (xs ++ news) ∧ w.grownBy w' (blockOf A) ∧
      (blockOf A' = blockOf A ∨ blockOf A' = some w.heap.size) := by
  subst hsize
  subst hby
  have hsmall : n + m ≤ 9223372036854775807 := by simp only [maxLen] at h63; omega
  obtain ⟨hl, hnc, hcm, hc⟩ := hown
  obtain ⟨hnl, hd, hlen, hfirst⟩ := hsrc
  have hlen0 := hlen 0
  have hlen' : (xs ++ news).length = (n + m) * i.size := by rw [List.length_append, hl, hnl, Nat.add_mul]
  by_cases hroom : n + m ≤ c
  · -- there is room
    rcases Nat.eq_zero_or_pos c with h0 | h0
    · subst h0
      obtain rfl : n = 0 := by omega
      obtain rfl : m = 0 := by omega
      have hx0 : xs = [] := List.eq_nil_of_length_eq_zero (by simpa using hl)
      have hn0 : news = [] := List.eq_nil_of_length_eq_zero (by simpa using hnl)
      subst hx0 hn0
      refine ⟨A, 0, w, ?_, ⟨by simp, Nat.le_refl _, hcm, hc⟩, ⟨rfl, rfl, rfl, Nat.le_refl _, fun _ _ _ => rfl⟩, .inl rfl⟩
      have hf := hfirst 0
      simp only [World.drewN_zero] at hf hlen0
      rcases hd with ⟨_, hd⟩ | hd <;> cases A <;> simp [Builtin.append_, run_underlying ht, run_underlying hd, sizeOf, typeInfo, hi, hlen0, hf, storeCells]
    · obtain ⟨b, o, cur, fr, rfl, hb, hg, hfr, hs, hx⟩ := hc.resolve_left (fun e => by omega)
      have hns : n * i.size + news.length ≤ c * i.size := by rw [hnl, ← Nat.add_mul]; exact Nat.mul_le_mul_right _ hroom
      have hst := run_storeCells_free P b (o + n * i.size) e fr news 0 cur w hfr hg (by omega) h1
      simp only [Nat.add_zero] at hst
      have hf := hfirst 0
      simp only [World.drewN_zero] at hf hlen0
      refine ⟨some ⟨b, o, none⟩, c, w.setRow b (cur.toList.take (o + n * i.size) ++ news ++ cur.toList.drop (o + n * i.size + news.length)).toArray, ?_, ?_, ?_, .inl rfl⟩
      · rcases hd with ⟨_, hd⟩ | hd <;> simp [Builtin.append_, run_underlying ht, run_underlying hd, sizeOf, typeInfo, hi, hlen0, hf, hroom, addr_add, hst]
      · refine ⟨hlen', hroom, hcm, .inr ⟨b, o, _, fr, rfl, hb, setRow_heap w b cur _ e _ hg, ?_, ?_, fun j hj => ?_⟩⟩
        · simp only [List.size_toArray, List.length_append, List.length_take, List.length_drop, Array.length_toList]
          rw [show min (o + n * i.size) cur.size + news.length + (cur.size - (o + n * i.size + news.length)) = cur.size by omega]
          exact hfr
        · simp only [List.size_toArray, List.length_append, List.length_take, List.length_drop, Array.length_toList]
          omega
        · have hlt : (cur.toList.take (o + n * i.size)).length = o + n * i.size := by rw [List.length_take, Array.length_toList]; omega
          have hnx : n * i.size = xs.length := hl.symm
          simp only [List.getElem?_toArray]
          rw [List.append_assoc]
          by_cases hjn : j < n * i.size
          · rw [List.getElem?_append_left (by omega), List.getElem?_append_left (by omega), List.getElem?_take, if_pos (by omega), ← hx j hjn]
            simp
          · rw [Nat.add_mul] at hj
            rw [List.getElem?_append_right (by omega), List.getElem?_append_left (by omega), List.getElem?_append_right (l₁ := xs) (by omega)]
            congr 1
            omega
      · exact ⟨rfl, rfl, rfl, by simp, fun k _ hk => setRow_other w b k _ (fun e => hk (by simp [blockOf, e]))⟩
  · -- a new row
    have hge := grownCap_ge w (n + m) c e
    have hcm' : grownCap w (n + m) c e ≤ maxLen := grownCap_le_maxLen w (n + m) c e h63
    have h63' : ¬ (9223372036854775807 < ((n : Int) + (m : Int))) := by omega
    have h48' : ¬ (281474976710656 < Builtin.nextslicecap (n + m) c * i.bytes) := by
      have := growslice_fits (need := n + m) (old := c) (by omega) hbytes
      omega
    have hf := hfirst 1
    have hfo : (Builtin.firstCells i.size n (.slice A n c)).run P (w.drewN 1) = .ok xs.toArray (w.drewN 1) := by
      rcases Nat.eq_zero_or_pos c with h0 | h0
      · obtain rfl : n = 0 := by omega
        have hx0 : xs = [] := List.eq_nil_of_length_eq_zero (by simpa using hl)
        subst hx0
        cases A <;> simp [Builtin.firstCells, loadCells, loadCellsFrom]
      · obtain ⟨b, o, cur, fr, rfl, hb, hg, hfr, hs, hx⟩ := hc.resolve_left (fun e => by omega)
        refine run_firstCells_some (P := P) (w.drewN 1) i.size n ⟨b, o, none⟩ n c xs hl (fun j v hv => ?_)
        have hj : j < xs.length := by
          rcases Nat.lt_or_ge j xs.length with hlt | hge
          · exact hlt
          · rw [List.getElem?_eq_none hge] at hv; cases hv
        rw [addr_add]
        show w.cell? _ = _
        rw [cell_of_row w b _ cur e _ hg, hx j (by omega), hv]
    have e1 : w.drewN 1 = w.drew := rfl
    rw [e1] at hf hfo
    simp only [World.drewN_zero] at hlen0
    refine ⟨some ⟨w.heap.size, 0, none⟩, grownCap w (n + m) c e, w.drew.alloc (.cells (xs.toArray ++ news.toArray ++ Builtin.zeroCells z.cells (grownCap w (n + m) c e - (n + m))) e), ?_, ?_, ?_, .inr rfl⟩
    · rcases hd with ⟨_, hd⟩ | hd <;> simp [Builtin.append_, run_underlying ht, run_underlying hd, sizeOf, typeInfo, zeroValue, hi, hz, hlen0, hroom, h63', h48', Question.forced, hf, hfo, newRow, grownCap, -List.append_toArray]
    · have hsz : (xs.toArray ++ news.toArray ++ Builtin.zeroCells z.cells (grownCap w (n + m) c e - (n + m))).size = grownCap w (n + m) c e * i.size := by
        simp only [Array.size_append, List.size_toArray, size_zeroCells, hzs, hl, hnl, ← Nat.add_mul]
        congr 1; omega
      have h := Own.made w.drew (xs.toArray ++ news.toArray ++ Builtin.zeroCells z.cells (grownCap w (n + m) c e - (n + m))) e i.size (n + m) _ base hbase hge hcm' hsz
      have ht : (xs.toArray ++ news.toArray ++ Builtin.zeroCells z.cells (grownCap w (n + m) c e - (n + m))).toList.take ((n + m) * i.size) = xs ++ news := by
        simp only [Array.toList_append]
        rw [← hlen']
        exact List.take_left
      rw [ht] at h
      exact h
    · exact ⟨rfl, rfl, rfl, by simp, fun k hk _ => Below.heap_alloc w.drew _ k hk⟩

theorem wp_append_gen {o : Oper} {a : Act} {K : Act → World → Prop} {Q : Exit → Act → World → Prop} (s x : Operand) (t u : TypeId)
    (ho : o.op = .call { callee := .builtin .append, args := #[s, x], argTypes := #[t, u] })
    (e : TypeId) (z : Value) (sz bytes : Nat) (ht : P.underlying t = some (.slice e)) (hi : (P.info? e).map (fun i => (i.zero, i.size, i.bytes)) = some (some z, sz, bytes)) (hzs : z.cells.size = sz)
    (base : Nat) (A : Option Addr) (n c : Nat) (xs : List Value) (hs : a.eval s = .slice A n c) (hown : Own w base e sz A n c xs)
    (m : Nat) (news : List Value) (v : Value) (hx : a.eval x = v) (hsrc : Src P w u sz v m news) (h1 : ∀ v ∈ news, v.oneCell' = true)
    (h63 : n + m ≤ maxLen) (hbytes : (n + m) * bytes ≤ 140737488355328) (hbase : base ≤ w.heap.size)
    (h : ∀ A' c' w', Own w' base e sz A' (n + m) c' (xs ++ news) → w.grownBy w' (blockOf A) → (blockOf A' = blockOf A ∨ blockOf A' = some w.heap.size) → K (a.put o.dst (.slice A' (n + m) c')) w') : o.wp P a w K Q := by
  obtain ⟨i, hi0, hz, hsz, hby⟩ := info_parts hi
  obtain ⟨A', c', w', hr, h2, h3, h4⟩ := run_append_gen (P := P) t u o.type e i z sz bytes ht hi0 hz hsz hby hzs hown hsrc h1 h63 hbytes hbase
  unfold Oper.wp execOp
  simp only [ho, resolve, invoke, builtin, Sem.run_bind, Sem.run_pure, Result.andThen_ok, List.map_toArray, List.map_cons, List.map_nil, hs, hx, hr]
  exact h A' c' w' h2 h3 h4
theorem wpList_append_gen {ops : Array Oper} {rest : List Oper} {o : Oper} {a : Act} {Q : Exit → Act → World → Prop} (hgd : o.guard = none) (s x : Operand) (t u : TypeId)
    (ho : o.op = .call { callee := .builtin .append, args := #[s, x], argTypes := #[t, u] })
    (e : TypeId) (z : Value) (sz bytes : Nat) (ht : P.underlying t = some (.slice e)) (hi : (P.info? e).map (fun i => (i.zero, i.size, i.bytes)) = some (some z, sz, bytes)) (hzs : z.cells.size = sz)
    (base : Nat) (A : Option Addr) (n c : Nat) (xs : List Value) (hs : a.eval s = .slice A n c) (hown : Own w base e sz A n c xs)
    (m : Nat) (news : List Value) (v : Value) (hx : a.eval x = v) (hsrc : Src P w u sz v m news) (h1 : ∀ v ∈ news, v.oneCell' = true)
    (h63 : n + m ≤ maxLen) (hbytes : (n + m) * bytes ≤ 140737488355328) (hbase : base ≤ w.heap.size)
    (h : ∀ A' c' w', Own w' base e sz A' (n + m) c' (xs ++ news) → w.grownBy w' (blockOf A) → (blockOf A' = blockOf A ∨ blockOf A' = some w.heap.size) → wpList P ops Q rest (a.put o.dst (.slice A' (n + m) c')) w') : wpList P ops Q (o :: rest) a w :=
  wpList_plain hgd fun _ hK => wp_append_gen s x t u ho e z sz bytes ht hi hzs base A n c xs hs hown m news v hx hsrc h1 h63 hbytes hbase fun A' c' w' h2 h3 h4 => hK _ _ (h A' c' w' h2 h3 h4)
/-- at a step of a region that draws its order -/
theorem step_append_gen {ops : Array Oper} {o : Oper} {a : Act} {K : Act → World → Prop} {Q : Exit → Act → World → Prop} {E : Prop} (hgd : o.guard = none) (s x : Operand) (t u : TypeId)
    (ho : o.op = .call { callee := .builtin .append, args := #[s, x], argTypes := #[t, u] })
    (e : TypeId) (z : Value) (sz bytes : Nat) (ht : P.underlying t = some (.slice e)) (hi : (P.info? e).map (fun i => (i.zero, i.size, i.bytes)) = some (some z, sz, bytes)) (hzs : z.cells.size = sz)
    (base : Nat) (A : Option Addr) (n c : Nat) (xs : List Value) (hs : a.eval s = .slice A n c) (hown : Own w base e sz A n c xs)
    (m : Nat) (news : List Value) (v : Value) (hx : a.eval x = v) (hsrc : Src P w u sz v m news) (h1 : ∀ v ∈ news, v.oneCell' = true)
    (h63 : n + m ≤ maxLen) (hbytes : (n + m) * bytes ≤ 140737488355328) (hbase : base ≤ w.heap.size)
    (h : ∀ A' c' w', Own w' base e sz A' (n + m) c' (xs ++ news) → w.grownBy w' (blockOf A) → (blockOf A' = blockOf A ∨ blockOf A' = some w.heap.size) → K (a.put o.dst (.slice A' (n + m) c')) w') :
    if Region.wanted o (yielded ops a.tmps) = true then Oper.wp P o a w K Q else E := by
  rw [if_pos (by simp [Region.wanted, hgd])]
  exact wp_append_gen s x t u ho e z sz bytes ht hi hzs base A n c xs hs hown m news v hx hsrc h1 h63 hbytes hbase h
end
end Go.Proofs.YtehpapoboeejkaaDoor
