/- Words for memory: a slice that reads as a list, a slice that the call owns (at whatever offset), one law on append for both kinds of sources. Nothing of the program is named. -/
import Derived.WalkKit
import Derived.Lib.Hide
import Derived.RegionTactic
import Derived.Deep.QuietTactic
import Derived.Laws.IdiomStrings
import Derived.Test.YtjjpecggcjggpaaGreatDoorChecked
import Derived.Deep.DeepMust
import Derived.Deep.LoopGhost
import Derived.OwnWalk
import Derived.StillTailTactics
import Derived.BigRegion
import Derived.Outline
import Derived.Laws.Concat
import Derived.Maps.Ext
import Derived.Maps.OwnSet
import Derived.Sort.KeysCollected
import Derived.Test.YtjjpecggcjggpaaGreatDoorProg
import Derived.BigQuiet
set_option linter.unusedSimpArgs false
set_option linter.unusedVariables false
namespace Go.Proofs.YtjjpecggcjggpaaGreatDoor
open Go.RowKit

theorem addr_add (b o i : Nat) : (⟨b, o, none⟩ : Addr).add i = ⟨b, o + i, none⟩ := by
  unfold Addr.add
  split
  · subst_vars; rfl
  · rfl

/-- the slice with address A and n elements of sz cells each reads as the cells xs -/
def Rd (w : World) (sz : Nat) (A : Option Addr) (n : Nat) (xs : List Value) : Prop :=
  xs.length = n * sz ∧ (0 < n → ∃ b o, A = some ⟨b, o, none⟩ ∧ ∀ j u, xs[j]? = some u → w.cell? ⟨b, o + j, none⟩ = some u)

/-- no cell of a row of n cells is frozen by this mark: there is none, or it is the one of '[]byte(s)', behind the row's end -/
def Free (fr : Nat × Nat) (n : Nat) : Prop := fr = (0, 0) ∨ fr = (n, n + 1)
theorem Free.cell {fr : Nat × Nat} {w : World} {b j : Nat} {cur : Array Value} {t : TypeId} (h : Free fr cur.size) (hb : w.heap[b]? = some (.cells cur t fr)) (hj : j < cur.size) : w.frozen? ⟨b, j, none⟩ = false := by
  rcases h with rfl | rfl <;> simp [World.frozen?, hb]
  omega
theorem run_storeCells_free (P : Program) (g o : Nat) (t : TypeId) (fr : Nat × Nat) : ∀ (vs : List Value) (i : Nat) (cur : Array Value) (w : World), Free fr cur.size → w.heap[g]? = some (.cells cur t fr) → o + i + vs.length ≤ cur.size → (∀ v ∈ vs, v.oneCell' = true) →
    (storeCells ⟨g, o, none⟩ vs i).run P w = .ok () (w.setRow g (cur.toList.take (o + i) ++ vs ++ cur.toList.drop (o + i + vs.length)).toArray)
  | [], i, cur, w, _, hg, _, _ => by
    simp only [storeCells, List.append_nil, List.length_nil, Nat.add_zero, List.take_append_drop, Array.toArray_toList]
    rw [setRow_self w g cur t fr hg]
    rfl
  | v :: rest, i, cur, w, hfr, hg, hl, h1 => by
    have hi : o + i < cur.size := by simp at hl; omega
    have hcell : w.cell? ⟨g, o + i, none⟩ = some cur[o + i] := by simp [World.cell?, hg, hi]
    have hfro : w.frozen? ⟨g, o + i, none⟩ = false := hfr.cell hg hi
    have hst : (store ((⟨g, o, none⟩ : Addr).add i) v).run P w = .ok () (w.setRow g (cur.setIfInBounds (o + i) v)) := by
      rw [addr_add, run_store P w _ v _ (h1 v (by simp)), hcell]
      simp [hfro, setCell_eq_setRow w g (o + i) cur t fr v hg]
    have ih := run_storeCells_free P g o t fr rest (i + 1) (cur.setIfInBounds (o + i) v) (w.setRow g (cur.setIfInBounds (o + i) v)) (by rw [Array.size_setIfInBounds]; exact hfr) (setRow_heap w g cur _ t _ hg) (by simp at hl ⊢; omega) (fun x hx => h1 x (by simp [hx]))
    simp only [storeCells, Sem.run_bind, hst, Result.andThen_ok, ih, setRow_setRow]
    congr 3
    have e := list_seg_step cur.toList (o + i) v rest (by simp at hl ⊢; omega)
    simpa [Array.toList_setIfInBounds, Nat.add_assoc] using e
/-- the slice (A, n, c) is nil, or lies in memory of the call's own (blocks from base on), and reads as the cells xs -/
def Own (w : World) (base : Nat) (t : TypeId) (sz : Nat) (A : Option Addr) (n c : Nat) (xs : List Value) : Prop :=
  xs.length = n * sz ∧ n ≤ c ∧ c ≤ maxLen ∧ ((A = none ∧ c = 0) ∨ ∃ b o cur fr, A = some ⟨b, o, none⟩ ∧ base ≤ b ∧ w.heap[b]? = some (.cells cur t fr) ∧ Free fr cur.size ∧ o + c * sz ≤ cur.size ∧ ∀ j, j < n * sz → cur[o + j]? = xs[j]?)

def blockOf (A : Option Addr) : Option Nat := A.map (·.block)

section
variable {w w' : World} {base sz n c : Nat} {t : TypeId} {A : Option Addr} {xs : List Value}

theorem heap_lt {b : Nat} {o : Obj} (h : w.heap[b]? = some o) : b < w.heap.size := by
  rcases Nat.lt_or_ge b w.heap.size with hlt | hge
  · exact hlt
  · rw [Array.getElem?_eq_none hge] at h; cases h

theorem Own.at_ (h : Own w base t sz A n c xs) (h0 : 0 < c) : ∃ b o cur fr, A = some ⟨b, o, none⟩ ∧ base ≤ b ∧ w.heap[b]? = some (.cells cur t fr) ∧ Free fr cur.size ∧ o + c * sz ≤ cur.size ∧ ∀ j, j < n * sz → cur[o + j]? = xs[j]? := by
  rcases h.2.2.2 with ⟨_, hc⟩ | h
  · omega
  · exact h
theorem Own.rd (h : Own w base t sz A n c xs) : Rd w sz A n xs := by
  have hA := h.at_
  obtain ⟨hl, hn, hm, _⟩ := h
  refine ⟨hl, fun h0 => ?_⟩
  obtain ⟨b, o, cur, fr, rfl, _, hb, _, hs, hx⟩ := hA (by omega)
  refine ⟨b, o, rfl, fun j u hu => ?_⟩
  have hj : j < xs.length := by
    rcases Nat.lt_or_ge j xs.length with hlt | hge
    · exact hlt
    · rw [List.getElem?_eq_none hge] at hu; cases hu
  rw [cell_of_row w b _ cur t _ hb, hx j (by omega), hu]

theorem Own.nil (w : World) (base : Nat) (t : TypeId) (sz : Nat) : Own w base t sz none 0 0 [] := ⟨by simp, by simp, by simp, .inl ⟨rfl, rfl⟩⟩
theorem Own.block (h : Own w base t sz A n c xs) : ∀ b, blockOf A = some b → base ≤ b ∧ b < w.heap.size ∧ ∃ cur fr, w.heap[b]? = some (.cells cur t fr) := by
  intro b hb
  rcases h.2.2.2 with ⟨rfl, _⟩ | ⟨b', o, cur, fr, rfl, hbb, hg, _⟩
  · simp [blockOf] at hb
  · simp only [blockOf, Option.map_some, Option.some.injEq] at hb
    subst hb
    exact ⟨hbb, heap_lt hg, cur, fr, hg⟩
/-- its block is none of another element type -/
theorem Own.ne {g : Nat} {t' : TypeId} {cs : Array Value} {fr : Nat × Nat} (h : Own w base t sz A n c xs) (hg : w.heap[g]? = some (.cells cs t' fr)) (hne : t ≠ t') : blockOf A ≠ some g := by
  intro e
  obtain ⟨_, _, cur, _, hc⟩ := h.block g e
  rw [hg] at hc
  injection hc with hc
  injection hc with _ ht
  exact hne ht.symm
/-- kept where the block of its own is as it was -/
theorem Own.keep (h : Own w base t sz A n c xs) (hk : ∀ b, blockOf A = some b → base ≤ b → b < w.heap.size → w'.heap[b]? = w.heap[b]?) : Own w' base t sz A n c xs := by
  obtain ⟨hl, hn, hm, hc⟩ := h
  refine ⟨hl, hn, hm, ?_⟩
  rcases hc with hc | ⟨b, o, cur, fr, rfl, hb, hg, hf, hs, hx⟩
  · exact .inl hc
  · exact .inr ⟨b, o, cur, fr, rfl, hb, (hk b rfl hb (heap_lt hg)).trans hg, hf, hs, hx⟩
theorem Own.drewN (h : Own w base t sz A n c xs) (k : Nat) : Own (w.drewN k) base t sz A n c xs := h
theorem Own.drew (h : Own w base t sz A n c xs) : Own w.drew base t sz A n c xs := h
theorem Own.alloc (h : Own w base t sz A n c xs) (o : Obj) : Own (w.alloc o) base t sz A n c xs := h.keep fun _ _ _ hb => Below.heap_alloc w o _ hb
theorem Own.mono {base' : Nat} (h : Own w base t sz A n c xs) (hb : base' ≤ base) : Own w base' t sz A n c xs := by
  obtain ⟨hl, hn, hm, hc⟩ := h
  refine ⟨hl, hn, hm, ?_⟩
  rcases hc with hc | ⟨b, o, cur, fr, rfl, hb', r⟩
  · exact .inl hc
  · exact .inr ⟨b, o, cur, fr, rfl, by omega, r⟩
theorem Own.below {B : Nat} (h : Own w base t sz A n c xs) (hb : Below B w w') (hB : w.heap.size ≤ B) : Own w' base t sz A n c xs := h.keep fun _ _ _ hlt => hb.block _ (by omega)
theorem Own.setOther (h : Own w base t sz A n c xs) {p : Addr} (hp : blockOf A ≠ some p.block) (u : Value) : Own (w.setCell p u) base t sz A n c xs :=
  h.keep fun b hb _ _ => Below.heap_setCell w p u b (fun e => hp (by rw [hb, e]))
theorem Own.grown {row : Option Nat} (h : Own w base t sz A n c xs) (hg : w.grownBy w' row) (hr : ∀ b, blockOf A = some b → some b ≠ row) : Own w' base t sz A n c xs :=
  h.keep fun b hb _ hlt => hg.block b hlt (hr b hb)
/-- 's[k:]' as the model writes it -/
theorem Own.drop (h : Own w base t sz A n c xs) {k : Nat} (hk : k ≤ n) : Own w base t sz (if c = k then A else A.map (·.add (k * sz))) (n - k) (c - k) (xs.drop (k * sz)) := by
  obtain ⟨hl, hn, hm, hc⟩ := h
  refine ⟨by rw [List.length_drop, hl, Nat.sub_mul], by omega, by omega, ?_⟩
  rcases hc with ⟨rfl, hc⟩ | ⟨b, o, cur, fr, rfl, hb, hg, hf, hs, hx⟩
  · exact .inl ⟨by simp, by omega⟩
  · right
    by_cases hck : c = k
    · rw [if_pos hck]
      refine ⟨b, o, cur, fr, rfl, hb, hg, hf, by rw [hck, Nat.sub_self]; omega, fun j hj => ?_⟩
      rw [show n - k = 0 by omega] at hj
      omega
    · rw [if_neg hck]
      refine ⟨b, o + k * sz, cur, fr, by simp [addr_add], hb, hg, hf, ?_, fun j hj => ?_⟩
      · rw [Nat.sub_mul]
        have : k * sz ≤ c * sz := Nat.mul_le_mul_right _ (by omega)
        omega
      · have hks : k * sz ≤ n * sz := Nat.mul_le_mul_right _ hk
        rw [Nat.sub_mul] at hj
        have := hx (k * sz + j) (by omega)
        rw [List.getElem?_drop, ← this]
        congr 1; omega
/-- 's[:k]' within the length -/
theorem Own.take (h : Own w base t sz A n c xs) {k : Nat} (hk : k ≤ n) : Own w base t sz A k c (xs.take (k * sz)) := by
  obtain ⟨hl, hn, hm, hc⟩ := h
  have hks : k * sz ≤ n * sz := Nat.mul_le_mul_right _ hk
  refine ⟨by rw [List.length_take, hl]; omega, by omega, hm, ?_⟩
  rcases hc with hc | ⟨b, o, cur, fr, rfl, hb, hg, hf, hs, hx⟩
  · exact .inl hc
  · refine .inr ⟨b, o, cur, fr, rfl, hb, hg, hf, hs, fun j hj => ?_⟩
    rw [hx j (by omega), List.getElem?_take, if_pos hj]
/-- a block that was made now, read from its head -/
theorem Own.made (w : World) (cs : Array Value) (t : TypeId) (sz n c : Nat) (base : Nat) (hb : base ≤ w.heap.size) (hn : n ≤ c) (hm : c ≤ maxLen) (hs : cs.size = c * sz) :
    Own (w.alloc (.cells cs t)) base t sz (some ⟨w.heap.size, 0, none⟩) n c (cs.toList.take (n * sz)) := by
  have : n * sz ≤ c * sz := Nat.mul_le_mul_right _ hn
  refine ⟨by rw [List.length_take, Array.length_toList, hs]; omega, hn, hm, .inr ⟨w.heap.size, 0, cs, (0, 0), rfl, hb, heap_alloc_new w _, .inl rfl, by omega, fun j hj => ?_⟩⟩
  rw [List.getElem?_take, if_pos hj, Nat.zero_add]
  simp
theorem Own.lit (w : World) (cs : Array Value) (t : TypeId) (sz n : Nat) (base : Nat) (hb : base ≤ w.heap.size) (hm : n ≤ maxLen) (hs : cs.size = n * sz) :
    Own (w.alloc (.cells cs t)) base t sz (some ⟨w.heap.size, 0, none⟩) n n cs.toList := by
  have h := Own.made w cs t sz n n base hb (Nat.le_refl _) hm hs
  rw [List.take_of_length_le (by simp [hs])] at h
  exact h
theorem Rd.of_lit (w : World) (cs : Array Value) (t : TypeId) (sz n : Nat) (hm : n ≤ maxLen) (hs : cs.size = n * sz) : Rd (w.alloc (.cells cs t)) sz (some ⟨w.heap.size, 0, none⟩) n cs.toList :=
  (Own.lit w cs t sz n 0 (Nat.zero_le _) hm hs).rd
theorem Rd.keep (h : Rd w sz A n xs) (hk : ∀ b o u, blockOf A = some b → w.cell? ⟨b, o, none⟩ = some u → w'.cell? ⟨b, o, none⟩ = some u) : Rd w' sz A n xs := by
  obtain ⟨hl, hc⟩ := h
  refine ⟨hl, fun h0 => ?_⟩
  obtain ⟨b, o, rfl, hx⟩ := hc h0
  exact ⟨b, o, rfl, fun j u hu => hk b _ _ rfl (hx j u hu)⟩
theorem Rd.alloc (h : Rd w sz A n xs) (o : Obj) : Rd (w.alloc o) sz A n xs := h.keep fun b o' u _ hu => by
  rw [World.cell?_alloc_lt _ _ _ (World.block_lt_of_cell? w _ hu)]; exact hu
theorem Rd.drewN (h : Rd w sz A n xs) (k : Nat) : Rd (w.drewN k) sz A n xs := h
theorem Rd.drew (h : Rd w sz A n xs) : Rd w.drew sz A n xs := h
theorem Rd.below {B : Nat} (h : Rd w sz A n xs) (hb : Below B w w') (hB : ∀ b, blockOf A = some b → b < w.heap.size → b < B) : Rd w' sz A n xs := h.keep fun b o' u hbl hu => by
  rw [hb.cell (p := ⟨b, o', none⟩) (hB b hbl (World.block_lt_of_cell? w _ hu))]; exact hu
theorem Rd.below_all (h : Rd w sz A n xs) (hb : Below w.heap.size w w') : Rd w' sz A n xs := h.below hb fun _ _ h => h
theorem Rd.none_ (w : World) (sz : Nat) (A : Option Addr) : Rd w sz A 0 [] := ⟨by simp, fun h => absurd h (by omega)⟩
theorem Rd.drop (h : Rd w sz A n xs) {k c : Nat} (hk : k ≤ n) (hc : n ≤ c) : Rd w sz (if c = k then A else A.map (·.add (k * sz))) (n - k) (xs.drop (k * sz)) := by
  obtain ⟨hl, hq⟩ := h
  refine ⟨by rw [List.length_drop, hl, Nat.sub_mul], fun h0 => ?_⟩
  obtain ⟨b, o, rfl, hx⟩ := hq (by omega)
  rw [if_neg (by omega)]
  refine ⟨b, o + k * sz, by simp [addr_add], fun j u hu => ?_⟩
  rw [Nat.add_assoc]
  exact hx _ u (by rw [← hu, List.getElem?_drop])
theorem Rd.take (h : Rd w sz A n xs) {k : Nat} (hk : k ≤ n) : Rd w sz A k (xs.take (k * sz)) := by
  obtain ⟨hl, hq⟩ := h
  have hks : k * sz ≤ n * sz := Nat.mul_le_mul_right _ hk
  refine ⟨by rw [List.length_take, hl]; omega, fun h0 => ?_⟩
  obtain ⟨b, o, rfl, hx⟩ := hq (by omega)
  refine ⟨b, o, rfl, fun j u hu => hx j u ?_⟩
  rw [List.getElem?_take] at hu
  split at hu
  · exact hu
  · cases hu
theorem Rd.cell (h : Rd w sz A n xs) {j : Nat} (hj : j < xs.length) : ∃ b o, A = some ⟨b, o, none⟩ ∧ w.cell? ⟨b, o + j, none⟩ = some xs[j] := by
  obtain ⟨b, o, rfl, hx⟩ := h.2 (Nat.pos_of_ne_zero fun h0 => by have := h.1; subst h0; omega)
  exact ⟨b, o, rfl, hx j _ (List.getElem?_eq_getElem hj)⟩
end

/-- what append reads of its source: m elements of sz cells, the cells news -/
def Src (P : Program) (w : World) (u : TypeId) (sz : Nat) (x : Value) (m : Nat) (news : List Value) : Prop :=
  news.length = m * sz ∧ ((∃ e, P.underlying u = some (.slice e)) ∨ P.underlying u = some .string) ∧ (∀ k, (Builtin.lenOf x).run P (w.drewN k) = .ok m (w.drewN k)) ∧ ∀ k, (Builtin.firstCells sz m x).run P (w.drewN k) = .ok news.toArray (w.drewN k)

section
variable {P : Program} {w : World}
theorem Src.slice {sz m c : Nat} {A : Option Addr} {news : List Value} {u e : TypeId} (hu : P.underlying u = some (.slice e)) (h : Rd w sz A m news) : Src P w u sz (.slice A m c) m news := by
  refine ⟨h.1, .inl ⟨_, hu⟩, fun k => by simp [Builtin.lenOf], fun k => ?_⟩
  rcases Nat.eq_zero_or_pos m with h0 | h0
  · subst h0
    have : news = [] := List.eq_nil_of_length_eq_zero (by simpa using h.1)
    subst this
    cases A <;> simp [Builtin.firstCells, loadCells, loadCellsFrom]
  · obtain ⟨b, o, rfl, hx⟩ := h.2 h0
    exact run_firstCells_some (P := P) (w.drewN k) sz m ⟨b, o, none⟩ m c news h.1 (fun j v hv => by rw [addr_add]; exact hx j v hv)
theorem Src.str {s : ByteArray} {u : TypeId} (hu : P.underlying u = some .string) : Src P w u 1 (.string s) s.size (s.data.toList.map fun b => Value.int .u8 b.toNat) := by
  refine ⟨by simp, .inr hu, fun k => by simp [Builtin.lenOf], fun k => ?_⟩
  simp [Builtin.firstCells]
  apply Array.toList_inj.1
  simp

/-- APPEND onto a slice of the call's own (nil, empty, at whatever offset) -/
theorem run_append_gen (t u ty e : TypeId) (i : TypeInfo) (z : Value) (sz bytes : Nat) (ht : P.underlying t = some (.slice e)) (hi : P.info? e = some i) (hz : i.zero = some z)
    (hsize : i.size = sz) (hby : i.bytes = bytes) (hzs : z.cells.size = sz)
    {base : Nat} {A : Option Addr} {n c : Nat} {xs : List Value} (hown : Own w base e sz A n c xs)
    {x : Value} {m : Nat} {news : List Value} (hsrc : Src P w u sz x m news) (h1 : ∀ v ∈ news, v.oneCell' = true)
    (h63 : n + m ≤ maxLen) (hbytes : (n + m) * bytes ≤ 140737488355328) (hbase : base ≤ w.heap.size) :
    ∃ A' c' w', (Builtin.append_ #[t, u] ty #[.slice A n c, x]).run P w = .ok (.slice A' (n + m) c') w' ∧ Own w' base e sz A' (n + m) c' (xs ++ news) ∧ w.grownBy w' (blockOf A) ∧
      (blockOf A' = blockOf A ∨ blockOf A' = some w.heap.size) := by
  subst hsize
  subst hby
  have hsmall : n + m ≤ 9223372036854775807 := by simp only [maxLen] at h63; omega
  obtain ⟨hl, hnc, hcm, hc⟩ := hown
  obtain ⟨hnl, hd, hlen, hfirst⟩ := hsrc
  have hlen0 := hlen 0
  have hlen' : (xs ++ news).length = (n + m) * i.size := by rw [List.length_append, hl, hnl, Nat.add_mul]
  by_cases hroom : n + m ≤ c
  · -- there is room
    rcases Nat.eq_zero_or_pos c with h0 | h0
    · subst h0
      obtain rfl : n = 0 := by omega
      obtain rfl : m = 0 := by omega
      have hx0 : xs = [] := List.eq_nil_of_length_eq_zero (by simpa using hl)
      have hn0 : news = [] := List.eq_nil_of_length_eq_zero (by simpa using hnl)
      subst hx0 hn0
      refine ⟨A, 0, w, ?_, ⟨by simp, Nat.le_refl _, hcm, hc⟩, ⟨rfl, rfl, rfl, Nat.le_refl _, fun _ _ _ => rfl⟩, .inl rfl⟩
      have hf := hfirst 0
      simp only [World.drewN_zero] at hf hlen0
      rcases hd with ⟨_, hd⟩ | hd <;> cases A <;> simp [Builtin.append_, run_underlying ht, run_underlying hd, sizeOf, typeInfo, hi, hlen0, hf, storeCells]
    · obtain ⟨b, o, cur, fr, rfl, hb, hg, hfr, hs, hx⟩ := hc.resolve_left (fun e => by omega)
      have hns : n * i.size + news.length ≤ c * i.size := by rw [hnl, ← Nat.add_mul]; exact Nat.mul_le_mul_right _ hroom
      have hst := run_storeCells_free P b (o + n * i.size) e fr news 0 cur w hfr hg (by omega) h1
      simp only [Nat.add_zero] at hst
      have hf := hfirst 0
      simp only [World.drewN_zero] at hf hlen0
      refine ⟨some ⟨b, o, none⟩, c, w.setRow b (cur.toList.take (o + n * i.size) ++ news ++ cur.toList.drop (o + n * i.size + news.length)).toArray, ?_, ?_, ?_, .inl rfl⟩
      · rcases hd with ⟨_, hd⟩ | hd <;> simp [Builtin.append_, run_underlying ht, run_underlying hd, sizeOf, typeInfo, hi, hlen0, hf, hroom, addr_add, hst]
      · refine ⟨hlen', hroom, hcm, .inr ⟨b, o, _, fr, rfl, hb, setRow_heap w b cur _ e _ hg, ?_, ?_, fun j hj => ?_⟩⟩
        · simp only [List.size_toArray, List.length_append, List.length_take, List.length_drop, Array.length_toList]
          rw [show min (o + n * i.size) cur.size + news.length + (cur.size - (o + n * i.size + news.length)) = cur.size by omega]
          exact hfr
        · simp only [List.size_toArray, List.length_append, List.length_take, List.length_drop, Array.length_toList]
          omega
        · have hlt : (cur.toList.take (o + n * i.size)).length = o + n * i.size := by rw [List.length_take, Array.length_toList]; omega
          have hnx : n * i.size = xs.length := hl.symm
          simp only [List.getElem?_toArray]
          rw [List.append_assoc]
          by_cases hjn : j < n * i.size
          · rw [List.getElem?_append_left (by omega), List.getElem?_append_left (by omega), List.getElem?_take, if_pos (by omega), ← hx j hjn]
            simp
          · rw [Nat.add_mul] at hj
            rw [List.getElem?_append_right (by omega), List.getElem?_append_left (by omega), List.getElem?_append_right (l₁ := xs) (by omega)]
            congr 1
            omega
      · exact ⟨rfl, rfl, rfl, by simp, fun k _ hk => setRow_other w b k _ (fun e => hk (by simp [blockOf, e]))⟩
  · -- a new row
    have hge := grownCap_ge w (n + m) c e
    have hcm' : grownCap w (n + m) c e ≤ maxLen := grownCap_le_maxLen w (n + m) c e h63
    have h63' : ¬ (9223372036854775807 < ((n : Int) + (m : Int))) := by omega
    have h48' : ¬ (281474976710656 < Builtin.nextslicecap (n + m) c * i.bytes) := by
      have := growslice_fits (need := n + m) (old := c) (by omega) hbytes
      omega
    have hf := hfirst 1
    have hfo : (Builtin.firstCells i.size n (.slice A n c)).run P (w.drewN 1) = .ok xs.toArray (w.drewN 1) := by
      rcases Nat.eq_zero_or_pos c with h0 | h0
      · obtain rfl : n = 0 := by omega
        have hx0 : xs = [] := List.eq_nil_of_length_eq_zero (by simpa using hl)
        subst hx0
        cases A <;> simp [Builtin.firstCells, loadCells, loadCellsFrom]
      · obtain ⟨b, o, cur, fr, rfl, hb, hg, hfr, hs, hx⟩ := hc.resolve_left (fun e => by omega)
        refine run_firstCells_some (P := P) (w.drewN 1) i.size n ⟨b, o, none⟩ n c xs hl (fun j v hv => ?_)
        have hj : j < xs.length := by
          rcases Nat.lt_or_ge j xs.length with hlt | hge
          · exact hlt
          · rw [List.getElem?_eq_none hge] at hv; cases hv
        rw [addr_add]
        show w.cell? _ = _
        rw [cell_of_row w b _ cur e _ hg, hx j (by omega), hv]
    have e1 : w.drewN 1 = w.drew := rfl
    rw [e1] at hf hfo
    simp only [World.drewN_zero] at hlen0
    refine ⟨some ⟨w.heap.size, 0, none⟩, grownCap w (n + m) c e, w.drew.alloc (.cells (xs.toArray ++ news.toArray ++ Builtin.zeroCells z.cells (grownCap w (n + m) c e - (n + m))) e), ?_, ?_, ?_, .inr rfl⟩
    · rcases hd with ⟨_, hd⟩ | hd <;> simp [Builtin.append_, run_underlying ht, run_underlying hd, sizeOf, typeInfo, zeroValue, hi, hz, hlen0, hroom, h63', h48', Question.forced, hf, hfo, newRow, grownCap, -List.append_toArray]
    · have hsz : (xs.toArray ++ news.toArray ++ Builtin.zeroCells z.cells (grownCap w (n + m) c e - (n + m))).size = grownCap w (n + m) c e * i.size := by
        simp only [Array.size_append, List.size_toArray, size_zeroCells, hzs, hl, hnl, ← Nat.add_mul]
        congr 1; omega
      have h := Own.made w.drew (xs.toArray ++ news.toArray ++ Builtin.zeroCells z.cells (grownCap w (n + m) c e - (n + m))) e i.size (n + m) _ base hbase hge hcm' hsz
      have ht : (xs.toArray ++ news.toArray ++ Builtin.zeroCells z.cells (grownCap w (n + m) c e - (n + m))).toList.take ((n + m) * i.size) = xs ++ news := by
        simp only [Array.toList_append]
        rw [← hlen']
        exact List.take_left
      rw [ht] at h
      exact h
    · exact ⟨rfl, rfl, rfl, by simp, fun k hk _ => Below.heap_alloc w.drew _ k hk⟩

theorem wp_append_gen {o : Oper} {a : Act} {K : Act → World → Prop} {Q : Exit → Act → World → Prop} (s x : Operand) (t u : TypeId)
    (ho : o.op = .call { callee := .builtin .append, args := #[s, x], argTypes := #[t, u] })
    (e : TypeId) (z : Value) (sz bytes : Nat) (ht : P.underlying t = some (.slice e)) (hi : (P.info? e).map (fun i => (i.zero, i.size, i.bytes)) = some (some z, sz, bytes)) (hzs : z.cells.size = sz)
    (base : Nat) (A : Option Addr) (n c : Nat) (xs : List Value) (hs : a.eval s = .slice A n c) (hown : Own w base e sz A n c xs)
    (m : Nat) (news : List Value) (v : Value) (hx : a.eval x = v) (hsrc : Src P w u sz v m news) (h1 : ∀ v ∈ news, v.oneCell' = true)
    (h63 : n + m ≤ maxLen) (hbytes : (n + m) * bytes ≤ 140737488355328) (hbase : base ≤ w.heap.size)
    (h : ∀ A' c' w', Own w' base e sz A' (n + m) c' (xs ++ news) → w.grownBy w' (blockOf A) → (blockOf A' = blockOf A ∨ blockOf A' = some w.heap.size) → K (a.put o.dst (.slice A' (n + m) c')) w') : o.wp P a w K Q := by
  obtain ⟨i, hi0, hz, hsz, hby⟩ := info_parts hi
  obtain ⟨A', c', w', hr, h2, h3, h4⟩ := run_append_gen (P := P) t u o.type e i z sz bytes ht hi0 hz hsz hby hzs hown hsrc h1 h63 hbytes hbase
  unfold Oper.wp execOp
  simp only [ho, resolve, invoke, builtin, Sem.run_bind, Sem.run_pure, Result.andThen_ok, List.map_toArray, List.map_cons, List.map_nil, hs, hx, hr]
  exact h A' c' w' h2 h3 h4
theorem wpList_append_gen {ops : Array Oper} {rest : List Oper} {o : Oper} {a : Act} {Q : Exit → Act → World → Prop} (hgd : o.guard = none) (s x : Operand) (t u : TypeId)
    (ho : o.op = .call { callee := .builtin .append, args := #[s, x], argTypes := #[t, u] })
    (e : TypeId) (z : Value) (sz bytes : Nat) (ht : P.underlying t = some (.slice e)) (hi : (P.info? e).map (fun i => (i.zero, i.size, i.bytes)) = some (some z, sz, bytes)) (hzs : z.cells.size = sz)
    (base : Nat) (A : Option Addr) (n c : Nat) (xs : List Value) (hs : a.eval s = .slice A n c) (hown : Own w base e sz A n c xs)
    (m : Nat) (news : List Value) (v : Value) (hx : a.eval x = v) (hsrc : Src P w u sz v m news) (h1 : ∀ v ∈ news, v.oneCell' = true)
    (h63 : n + m ≤ maxLen) (hbytes : (n + m) * bytes ≤ 140737488355328) (hbase : base ≤ w.heap.size)
    (h : ∀ A' c' w', Own w' base e sz A' (n + m) c' (xs ++ news) → w.grownBy w' (blockOf A) → (blockOf A' = blockOf A ∨ blockOf A' = some w.heap.size) → wpList P ops Q rest (a.put o.dst (.slice A' (n + m) c')) w') : wpList P ops Q (o :: rest) a w :=
  wpList_plain hgd fun _ hK => wp_append_gen s x t u ho e z sz bytes ht hi hzs base A n c xs hs hown m news v hx hsrc h1 h63 hbytes hbase fun A' c' w' h2 h3 h4 => hK _ _ (h A' c' w' h2 h3 h4)
/-- at a step of a region that draws its order -/
theorem step_append_gen {ops : Array Oper} {o : Oper} {a : Act} {K : Act → World → Prop} {Q : Exit → Act → World → Prop} {E : Prop} (hgd : o.guard = none) (s x : Operand) (t u : TypeId)
    (ho : o.op = .call { callee := .builtin .append, args := #[s, x], argTypes := #[t, u] })
    (e : TypeId) (z : Value) (sz bytes : Nat) (ht : P.underlying t = some (.slice e)) (hi : (P.info? e).map (fun i => (i.zero, i.size, i.bytes)) = some (some z, sz, bytes)) (hzs : z.cells.size = sz)
    (base : Nat) (A : Option Addr) (n c : Nat) (xs : List Value) (hs : a.eval s = .slice A n c) (hown : Own w base e sz A n c xs)
    (m : Nat) (news : List Value) (v : Value) (hx : a.eval x = v) (hsrc : Src P w u sz v m news) (h1 : ∀ v ∈ news, v.oneCell' = true)
    (h63 : n + m ≤ maxLen) (hbytes : (n + m) * bytes ≤ 140737488355328) (hbase : base ≤ w.heap.size)
    (h : ∀ A' c' w', Own w' base e sz A' (n + m) c' (xs ++ news) → w.grownBy w' (blockOf A) → (blockOf A' = blockOf A ∨ blockOf A' = some w.heap.size) → K (a.put o.dst (.slice A' (n + m) c')) w') :
    if Region.wanted o (yielded ops a.tmps) = true then Oper.wp P o a w K Q else E := by
  rw [if_pos (by simp [Region.wanted, hgd])]
  exact wp_append_gen s x t u ho e z sz bytes ht hi hzs base A n c xs hs hown m news v hx hsrc h1 h63 hbytes hbase h
end
end Go.Proofs.YtjjpecggcjggpaaGreatDoor
/- Words for memory, the second part: whole variables stored into, and loaded out of, rows that are known whole. -/
namespace Go.Proofs.YtjjpecggcjggpaaGreatDoor
open Go.RowKit
section
variable {P : Program} {w : World}

/-- a row with the cells vs laid over it from o on -/
def laid (cur : Array Value) (o : Nat) (vs : List Value) : Array Value := (cur.toList.take o ++ vs ++ cur.toList.drop (o + vs.length)).toArray
theorem laid_size {cur : Array Value} {o : Nat} {vs : List Value} (h : o + vs.length ≤ cur.size) : (laid cur o vs).size = cur.size := by
  simp only [laid, List.size_toArray, List.length_append, List.length_take, List.length_drop, Array.length_toList]; omega
theorem laid_get {cur : Array Value} {o : Nat} {vs : List Value} (h : o + vs.length ≤ cur.size) (j : Nat) :
    (laid cur o vs)[j]? = if j < o then cur[j]? else if j < o + vs.length then vs[j - o]? else cur[j]? := by
  have hlt : (cur.toList.take o).length = o := by rw [List.length_take, Array.length_toList]; omega
  simp only [laid, List.getElem?_toArray, List.append_assoc]
  split
  · rw [List.getElem?_append_left (by omega), List.getElem?_take, if_pos (by omega)]; simp
  · rw [List.getElem?_append_right (by omega), hlt]
    split
    · rw [List.getElem?_append_left (by omega)]
    · rw [List.getElem?_append_right (by omega), List.getElem?_drop, ← Array.getElem?_toList]
      congr 1; omega
theorem laid_all {cur : Array Value} {vs : List Value} (h : vs.length = cur.size) : laid cur 0 vs = vs.toArray := by
  simp only [laid, List.take_zero, List.nil_append, Nat.zero_add]
  rw [List.drop_of_length_le (by simp; omega), List.append_nil]

/-- A STORE of a whole variable (an array, a struct, or one cell) into a row that is known whole -/
theorem wp_store_at {o : Oper} {a : Act} {K : Act → World → Prop} {Q : Exit → Act → World → Prop} (ty : TypeId) (x v : Operand) (ho : o.op = .store ty x v)
    (g off : Nat) (hx : a.eval x = .pointer (some ⟨g, off, none⟩)) (val : Value) (hv : a.eval v = val) (vs : List Value) (hvs : val.cells.toList = vs) (cur : Array Value) (t : TypeId) (hg : w.heap[g]? = some (.cells cur t (0, 0)))
    (hi : (P.info? ty).map (·.size) = some vs.length) (hfit : off + vs.length ≤ cur.size) (h1 : ∀ v ∈ vs, v.oneCell' = true)
    (h : K (a.put o.dst undef) (w.setRow g (laid cur off vs))) : o.wp P a w K Q := by
  have hst : (storeCells ⟨g, off, none⟩ vs).run P w = .ok () (w.setRow g (laid cur off vs)) := by
    have hst := run_storeCells_at P g off t vs 0 cur w hg (by omega) h1
    simp only [Nat.add_zero] at hst
    exact hst
  cases hq : P.info? ty with
  | none => simp [hq] at hi
  | some i =>
    have hs : i.size = vs.length := by simpa [hq] using hi
    have hcs : val.cells.size = vs.length := by rw [← hvs]; simp
    unfold Oper.wp execOp
    simp [ho, hx, hv, Instr.storeAt, Instr.sureAddr, storeVar, sizeOf, typeInfo, hq, hs, hcs, hvs, hst]
    exact h
/-- (the operation written out, so that an arm that opens 'with_reducible refine' fails at once where it does not fit) -/
theorem wpList_store_lit {ops : Array Oper} {rest : List Oper} {a : Act} {Q : Exit → Act → World → Prop} {dst : Option Tmp} {ty tt : TypeId} {x v : Operand} {pos : String} {after : Array Edge}
    (g off : Nat) (val : Value) (vs : List Value) (hvs : val.cells.toList = vs) (cur : Array Value) (t : TypeId) (hg : w.heap[g]? = some (.cells cur t (0, 0)))
    (hi : (P.info? ty).map (·.size) = some vs.length) (hfit : off + vs.length ≤ cur.size) (h1 : ∀ v ∈ vs, v.oneCell' = true)
    (hxv : a.eval x = .pointer (some ⟨g, off, none⟩) ∧ a.eval v = val)
    (h : wpList P ops Q rest (a.put dst undef) (w.setRow g (laid cur off vs))) : wpList P ops Q (⟨dst, .store ty x v, tt, pos, after, none⟩ :: rest) a w :=
  wpList_plain rfl fun _ hK => wp_store_at ty x v rfl g off hxv.1 val hxv.2 vs hvs cur t hg hi hfit h1 (hK _ _ h)
theorem step_store_at {ops : Array Oper} {o : Oper} {a : Act} {K : Act → World → Prop} {Q : Exit → Act → World → Prop} {E : Prop} (hgd : o.guard = none) (ty : TypeId) (x v : Operand) (ho : o.op = .store ty x v)
    (g off : Nat) (hx : a.eval x = .pointer (some ⟨g, off, none⟩)) (val : Value) (hv : a.eval v = val) (vs : List Value) (hvs : val.cells.toList = vs) (cur : Array Value) (t : TypeId) (hg : w.heap[g]? = some (.cells cur t (0, 0)))
    (hi : (P.info? ty).map (·.size) = some vs.length) (hfit : off + vs.length ≤ cur.size) (h1 : ∀ v ∈ vs, v.oneCell' = true)
    (h : K (a.put o.dst undef) (w.setRow g (laid cur off vs))) : if Region.wanted o (yielded ops a.tmps) = true then Oper.wp P o a w K Q else E := by
  rw [if_pos (by simp [Region.wanted, hgd])]
  exact wp_store_at ty x v ho g off hx val hv vs hvs cur t hg hi hfit h1 h

/-- A LOAD of a whole array or struct out of a row that is known whole -/
theorem wp_load_at {o : Oper} {a : Act} {K : Act → World → Prop} {Q : Exit → Act → World → Prop} (ty : TypeId) (x : Operand) (ho : o.op = .load ty x)
    (g off : Nat) (hx : a.eval x = .pointer (some ⟨g, off, none⟩)) (cur : Array Value) (t : TypeId) (fr : Nat × Nat) (hg : w.heap[g]? = some (.cells cur t fr)) (vs : List Value)
    (hvs : ∀ j, j < vs.length → cur[off + j]? = vs[j]?) (d : TypeDesc)
    (hu : P.underlying ty = some d) (hd : (match d with | .struct _ | .array _ _ => true | _ => false) = true) (hi : (P.info? ty).map (·.size) = some vs.length)
    (h : K (a.put o.dst (.agg vs.toArray)) w) : o.wp P a w K Q := by
  have hl : (loadCells ⟨g, off, none⟩ vs.length).run P w = .ok vs.toArray w :=
    run_loadCells_list (P := P) w ⟨g, off, none⟩ vs (fun j v hv => by
      have hj : j < vs.length := by
        rcases Nat.lt_or_ge j vs.length with hlt | hge
        · exact hlt
        · rw [List.getElem?_eq_none hge] at hv; cases hv
      rw [addr_add, cell_of_row w g _ cur t fr hg, hvs j hj, hv])
  cases hq : P.info? ty with
  | none => simp [hq] at hi
  | some i =>
    have hs : i.size = vs.length := by simpa [hq] using hi
    have hagg : (isAgg ty).run P w = .ok true w := by
      unfold isAgg
      rw [Sem.run_bind, run_underlying hu w]
      cases d <;> simp_all
    unfold Oper.wp execOp
    simp [ho, hx, Instr.loadAt, Instr.sureAddr, loadVar, Sem.run_bind, hagg, sizeOf, typeInfo, hq, hs, hl]
    exact h
theorem wp_load_lit {a : Act} {K : Act → World → Prop} {Q : Exit → Act → World → Prop} {dst : Option Tmp} {ty tt : TypeId} {x : Operand} {pos : String} {after : Array Edge} {gd : Option (Nat × Bool)}
    (g off : Nat) (cur : Array Value) (t : TypeId) (fr : Nat × Nat) (hg : w.heap[g]? = some (.cells cur t fr)) (vs : List Value)
    (hvs : ∀ j, j < vs.length → cur[off + j]? = vs[j]?) (d : TypeDesc) (hu : P.underlying ty = some d) (hi : (P.info? ty).map (·.size) = some vs.length)
    (hx : a.eval x = .pointer (some ⟨g, off, none⟩) ∧ (match d with | .struct _ | .array _ _ => true | _ => false) = true)
    (h : K (a.put dst (.agg vs.toArray)) w) : Oper.wp P ⟨dst, .load ty x, tt, pos, after, gd⟩ a w K Q :=
  wp_load_at ty x rfl g off hx.1 cur t fr hg vs hvs d hu hx.2 hi h
theorem wpList_load_lit {ops : Array Oper} {rest : List Oper} {a : Act} {Q : Exit → Act → World → Prop} {dst : Option Tmp} {ty tt : TypeId} {x : Operand} {pos : String} {after : Array Edge}
    (g off : Nat) (cur : Array Value) (t : TypeId) (fr : Nat × Nat) (hg : w.heap[g]? = some (.cells cur t fr)) (vs : List Value)
    (hvs : ∀ j, j < vs.length → cur[off + j]? = vs[j]?) (d : TypeDesc) (hu : P.underlying ty = some d) (hi : (P.info? ty).map (·.size) = some vs.length)
    (hx : a.eval x = .pointer (some ⟨g, off, none⟩) ∧ (match d with | .struct _ | .array _ _ => true | _ => false) = true)
    (h : wpList P ops Q rest (a.put dst (.agg vs.toArray)) w) : wpList P ops Q (⟨dst, .load ty x, tt, pos, after, none⟩ :: rest) a w :=
  wpList_plain rfl fun _ hK => wp_load_at ty x rfl g off hx.1 cur t fr hg vs hvs d hu hx.2 hi (hK _ _ h)
/-- a composite whose cells are known -/
theorem wpList_build_lit {ops : Array Oper} {rest : List Oper} {a : Act} {Q : Exit → Act → World → Prop} {dst : Option Tmp} {t tt : TypeId} {parts : Array (Nat × Operand)} {pos : String} {after : Array Edge}
    (cells : Array Value) (hf : P.built t (parts.map fun (i, x) => (i, a.eval x)).toList = some cells)
    (h : wpList P ops Q rest (a.put dst (.agg cells)) w) : wpList P ops Q (⟨dst, .build t parts, tt, pos, after, none⟩ :: rest) a w :=
  wpList_plain rfl fun _ hK => wp_build t parts rfl (by rw [hf]; rfl) (hK _ _ (by rw [hf]; exact h))
/-- append, the operation written out -/
theorem wpList_append_lit {ops : Array Oper} {rest : List Oper} {a : Act} {Q : Exit → Act → World → Prop} {dst : Option Tmp} {tt : TypeId} {s x : Operand} {t u : TypeId} {pos : String} {after : Array Edge}
    (e : TypeId) (z : Value) (sz bytes : Nat) (ht : P.underlying t = some (.slice e)) (hi : (P.info? e).map (fun i => (i.zero, i.size, i.bytes)) = some (some z, sz, bytes)) (hzs : z.cells.size = sz)
    (base : Nat) (A : Option Addr) (n c : Nat) (xs : List Value) (hown : Own w base e sz A n c xs)
    (m : Nat) (news : List Value) (v : Value) (hsrc : Src P w u sz v m news) (h1 : ∀ v ∈ news, v.oneCell' = true)
    (h63 : n + m ≤ maxLen) (hbytes : (n + m) * bytes ≤ 140737488355328) (hbase : base ≤ w.heap.size) (hsx : a.eval s = .slice A n c ∧ a.eval x = v)
    (h : ∀ A' c' w', Own w' base e sz A' (n + m) c' (xs ++ news) → w.grownBy w' (blockOf A) → (blockOf A' = blockOf A ∨ blockOf A' = some w.heap.size) → wpList P ops Q rest (a.put dst (.slice A' (n + m) c')) w') :
    wpList P ops Q (⟨dst, .call ⟨.builtin .append, #[s, x], #[t, u]⟩, tt, pos, after, none⟩ :: rest) a w :=
  wpList_append_gen rfl s x t u rfl e z sz bytes ht hi hzs base A n c xs hsx.1 hown m news v hsx.2 hsrc h1 h63 hbytes hbase h
end
/-- a callee that leaves the world as it is, in a region that draws: the first such region of a body, and those behind it -/
theorem quiet_one {P : Program} {f : FuncId} {args : Array Value} {w : World} {n : Nat} {v : Value} (h : Calls P f args (w.drewN n) fun e w' => e = .returned v ∧ w.drewN n = w') :
    Calls P f args (w.drewN n) fun e w'' => e = .returned v ∧ ∃ m, w'' = w.drewN m := h.mono fun _ _ ⟨he, hw⟩ => ⟨he, n, hw.symm⟩
theorem quiet_more {P : Program} {f : FuncId} {args : Array Value} {w : World} {a n : Nat} {v : Value} (h : Calls P f args (w.drewN (a + n)) fun e w' => e = .returned v ∧ w.drewN (a + n) = w') :
    Calls P f args (w.drewN (a + n)) fun e w'' => e = .returned v ∧ ∃ m, w'' = w.drewN (a + m) := h.mono fun _ _ ⟨he, hw⟩ => ⟨he, n, hw.symm⟩
/-- a callee that draws, likewise -/
theorem quiet_one_d {P : Program} {f : FuncId} {args : Array Value} {w : World} {n : Nat} {v : Value} (h : Calls P f args (w.drewN n) fun e w' => e = .returned v ∧ ∃ k, w' = (w.drewN n).drewN k) :
    Calls P f args (w.drewN n) fun e w'' => e = .returned v ∧ ∃ m, w'' = w.drewN m := h.mono fun _ _ ⟨he, k, hw⟩ => ⟨he, n + k, by rw [hw, World.drewN_drewN]⟩
theorem quiet_more_d {P : Program} {f : FuncId} {args : Array Value} {w : World} {a n : Nat} {v : Value} (h : Calls P f args (w.drewN (a + n)) fun e w' => e = .returned v ∧ ∃ k, w' = (w.drewN (a + n)).drewN k) :
    Calls P f args (w.drewN (a + n)) fun e w'' => e = .returned v ∧ ∃ m, w'' = w.drewN (a + m) := h.mono fun _ _ ⟨he, k, hw⟩ => ⟨he, n + k, by rw [hw, World.drewN_drewN, Nat.add_assoc]⟩
theorem heap_of_drewN {w : World} {g : Nat} {o : Option Obj} (n : Nat) (h : w.heap[g]? = o) : (w.drewN n).heap[g]? = o := h
/-- a fact kept from the walk, and from whatever opens both sides of an equation -/
def Hid2 (p : Prop) : Prop := Unit → p
theorem hid2 {p : Prop} (h : p) : Hid2 p := fun _ => h
theorem Hid2.out {p : Prop} (h : Hid2 p) : p := h ()
theorem agg_cells (l : List Value) : (Value.agg l.toArray).cells.toList = l := by simp [Value.cells]
theorem getElem?_zero_add (l : List Value) (j : Nat) : l.toArray[0 + j]? = l[j]? := by rw [Nat.zero_add, List.getElem?_toArray]
theorem below_setRow {B : Nat} {a w : World} (h : Below B a w) {g : Nat} (hg : B ≤ g) (cs : Array Value) : Below B a (w.setRow g cs) :=
  h.trans ⟨rfl, rfl, rfl, by simp, fun k hk => setRow_other w g k cs (by omega)⟩
theorem below_drewN {B : Nat} {a w : World} (h : Below B a w) (n : Nat) : Below B a (w.drewN n) := ⟨h.os, h.tape, h.output, h.size, h.block⟩
end Go.Proofs.YtjjpecggcjggpaaGreatDoor
/- Bytes: a text made bytes, bytes made a text. -/
namespace Go.Proofs.YtjjpecggcjggpaaGreatDoor
open Go.RowKit

/-- bytes as cells -/
def u8s (l : List UInt8) : List Value := l.map fun b => .int .u8 b.toNat
theorem u8s_length (l : List UInt8) : (u8s l).length = l.length := by simp [u8s]
theorem u8s_append (l m : List UInt8) : u8s (l ++ m) = u8s l ++ u8s m := by simp [u8s]
theorem u8s_drop (l : List UInt8) (k : Nat) : u8s (l.drop k) = (u8s l).drop k := by simp [u8s, List.map_drop]
theorem u8s_take (l : List UInt8) (k : Nat) : u8s (l.take k) = (u8s l).take k := by simp [u8s, List.map_take]
theorem u8s_get (l : List UInt8) {j : Nat} (h : j < l.length) : (u8s l)[j]? = some (.int .u8 (l.getD j 0).toNat) := by
  rw [u8s, List.getElem?_map, List.getElem?_eq_getElem h, List.getD_eq_getElem?_getD, List.getElem?_eq_getElem h]; rfl
theorem u8s_one (l : List UInt8) : ∀ v ∈ u8s l, v.oneCell' = true := by
  intro v hv
  obtain ⟨x, _, rfl⟩ := List.mem_map.1 hv
  rfl
theorem u8s_snoc (l : List UInt8) (b : UInt8) : u8s l ++ [.int .u8 b.toNat] = u8s (l ++ [b]) := by simp [u8s]
/-- one element, in a block that was made now -/
theorem Rd.one (w : World) (v : Value) (t : TypeId) : Rd (w.alloc (.cells #[v] t)) 1 (some ⟨w.heap.size, 0, none⟩) 1 [v] := Rd.of_lit w #[v] t 1 1 (by decide) rfl
theorem one_int {k : IntKind} {x : Int} : ∀ v ∈ [Value.int k x], v.oneCell' = true := by simp [Value.oneCell']
theorem toList_length (s : ByteArray) : s.data.toList.length = s.size := by rw [Array.length_toList]; rfl

/-- the world behind a name, with what is known of it -/
theorem wpList_gen {P : Program} {ops : Array Oper} {rest : List Oper} {a : Act} {Q : Exit → Act → World → Prop} {W : World} (M : World → Prop) (h : M W) (k : ∀ w1, M w1 → wpList P ops Q rest a w1) : wpList P ops Q rest a W := k W h
section
variable {P : Program} {w : World}
theorem run_to_bytes (src dst e : TypeId) (base : Nat) (s : ByteArray) (hs : P.underlying src = some .string) (hd : P.underlying dst = some (.slice e)) (he : P.underlying e = some (.int .u8)) (hbase : base ≤ w.heap.size) (hmax : s.size ≤ maxLen) :
    ∃ A c w', (convert src dst (.string s)).run P w = .ok (.slice A s.size c) w' ∧ Own w' base e 1 A s.size c (u8s s.data.toList) ∧ Below w.heap.size w w' ∧ blockOf A = some w.heap.size := by
  have hge := grownCap_ge w s.size 0 e
  have hle := grownCap_le_maxLen w s.size 0 e hmax
  have hsz : (bytesRow s (grownCap w s.size 0 e)).size = grownCap w s.size 0 e := by
    simp only [bytesRow, Array.size_append, Array.size_map, Array.size_replicate]
    have : s.data.size = s.size := rfl
    omega
  refine ⟨_, _, _, run_bytes_of_string w src dst e s hs hd he, ⟨by rw [u8s_length, toList_length, Nat.mul_one], hge, hle, .inr ⟨w.heap.size, 0, _, _, rfl, hbase, heap_alloc_new w.drew _, .inr rfl, by rw [hsz]; omega, fun j hj => ?_⟩⟩, (Below.refl _ _).drew.alloc (Nat.le_refl _) _, rfl⟩
  rw [Nat.zero_add]
  have hj' : j < s.data.size := by have : s.data.size = s.size := rfl; omega
  rw [bytesRow, Array.getElem?_append_left (by rw [Array.size_map]; exact hj'), Array.getElem?_map, u8s, List.getElem?_map]
  simp
theorem wpList_to_bytes_lit {ops : Array Oper} {rest : List Oper} {a : Act} {Q : Exit → Act → World → Prop} {dst : Option Tmp} {src dt tt : TypeId} {x : Operand} {pos : String} {after : Array Edge}
    (e : TypeId) (base : Nat) (s : ByteArray) (hs : P.underlying src = some .string) (hd : P.underlying dt = some (.slice e)) (he : P.underlying e = some (.int .u8)) (hbase : base ≤ w.heap.size) (hmax : s.size ≤ maxLen)
    (hx : a.eval x = .string s)
    (h : ∀ A c w', Own w' base e 1 A s.size c (u8s s.data.toList) → Below w.heap.size w w' → blockOf A = some w.heap.size → wpList P ops Q rest (a.put dst (.slice A s.size c)) w') :
    wpList P ops Q (⟨dst, .convert src dt x, tt, pos, after, none⟩ :: rest) a w := by
  refine wpList_plain rfl fun K hK => ?_
  obtain ⟨A, c, w', hr, h1, h2, h3⟩ := run_to_bytes (P := P) (w := w) src dt e base s hs hd he hbase hmax
  unfold Oper.wp execOp
  simp only [hx, Sem.run_bind, hr, Result.andThen_ok]
  exact hK _ _ (h A c w' h1 h2 h3)
theorem run_to_string (src dst e : TypeId) (A : Option Addr) (c : Nat) (l : List UInt8) (hs : P.underlying src = some (.slice e)) (he : P.underlying e = some (.int .u8)) (hd : P.underlying dst = some .string) (hr : Rd w 1 A l.length (u8s l)) :
    (convert src dst (.slice A l.length c)).run P w = .ok (.string ⟨l.toArray⟩) w := by
  rcases Nat.eq_zero_or_pos l.length with h0 | h0
  · have : l = [] := List.eq_nil_of_length_eq_zero h0
    subst this
    show (convert src dst (.slice A 0 c)).run P w = _
    rw [run_convert_bytes_string w src dst e A 0 c hs he hd]
    cases A <;> simp [Conv.bytesToString, loadCells, loadCellsFrom] <;> rfl
  · obtain ⟨b, o, rfl, hx⟩ := hr.2 h0
    refine run_convert_bytes_back w src dst e ⟨b, o, none⟩ c l hs he hd (fun j hj => ?_)
    rw [addr_add]
    refine hx j _ ?_
    rw [u8s, List.getElem?_map, List.getElem?_eq_getElem hj]; rfl
theorem wpList_to_string_lit {ops : Array Oper} {rest : List Oper} {a : Act} {Q : Exit → Act → World → Prop} {dst : Option Tmp} {src dt tt : TypeId} {x : Operand} {pos : String} {after : Array Edge}
    (e : TypeId) (A : Option Addr) (n c : Nat) (l : List UInt8) (hs : P.underlying src = some (.slice e)) (he : P.underlying e = some (.int .u8)) (hd : P.underlying dt = some .string) (hn : l.length = n) (hr : Rd w 1 A n (u8s l))
    (hx : a.eval x = .slice A n c) (h : wpList P ops Q rest (a.put dst (.string ⟨l.toArray⟩)) w) :
    wpList P ops Q (⟨dst, .convert src dt x, tt, pos, after, none⟩ :: rest) a w := by
  refine wpList_plain rfl fun K hK => ?_
  subst hn
  have hr := run_to_string (P := P) (w := w) src dt e A c l hs he hd hr
  unfold Oper.wp execOp
  simp only [hx, Sem.run_bind, hr, Result.andThen_ok]
  exact hK _ _ h
end
end Go.Proofs.YtjjpecggcjggpaaGreatDoor
/- A list of bytes as a string. -/
namespace Go.Proofs.YtjjpecggcjggpaaGreatDoor
open Go.RowKit
theorem string_append_toList (a b : ByteArray) : (a ++ b).data.toList = a.data.toList ++ b.data.toList := by simp
theorem bytes_ext {a b : ByteArray} (h : a.data.toList = b.data.toList) : a = b := by
  cases a; cases b
  simp only [ByteArray.mk.injEq]
  exact Array.toList_inj.1 h
/-- a list of bytes as a string -/
def strB (l : List UInt8) : ByteArray := ⟨l.toArray⟩
theorem strB_list (l : List UInt8) : (strB l).data.toList = l := by simp [strB]
theorem strB_size (l : List UInt8) : (strB l).size = l.length := by show l.toArray.size = _; simp
theorem strB_of (s : ByteArray) : strB s.data.toList = s := by cases s; simp [strB]
theorem strB_eq {s : ByteArray} {l : List UInt8} (h : s.data.toList = l) : s = strB l := by rw [← h, strB_of]
theorem strB_append (a b : List UInt8) : strB a ++ strB b = strB (a ++ b) := bytes_ext (by rw [string_append_toList, strB_list, strB_list, strB_list])
theorem extract_list (s : ByteArray) (a b : Nat) : (s.extract a b).data.toList = (s.data.toList.drop a).take (b - a) := by
  rw [ByteArray.data_extract, Array.toList_extract, List.extract_eq_take_drop]
/-- a row of texts as cells -/
def strV (l : List (List UInt8)) : List Value := l.map fun r => .string (strB r)
theorem strV_length (l : List (List UInt8)) : (strV l).length = l.length := by simp [strV]
theorem strV_snoc (l : List (List UInt8)) (r : List UInt8) : strV l ++ [.string (strB r)] = strV (l ++ [r]) := by simp [strV]
theorem one_str {s : ByteArray} : ∀ v ∈ [Value.string s], v.oneCell' = true := by simp [Value.oneCell']
theorem info_str : (Tryz.prog.info? 9).map (fun i => (i.zero, i.size, i.bytes)) = some (some (.string ⟨#[]⟩), 1, 16) := by kernel_rfl
end Go.Proofs.YtjjpecggcjggpaaGreatDoor
/- Paths as plain functions of bytes. -/
namespace Go.Proofs.YtjjpecggcjggpaaGreatDoor

/-- what stands between strokes -/
def splitL : List UInt8 → List (List UInt8)
  | [] => [[]]
  | c :: l => if c = 47 then [] :: splitL l else (c :: (splitL l).headD []) :: (splitL l).tail
def joinL : List (List UInt8) → List UInt8
  | [] => []
  | [p] => p
  | p :: q :: r => p ++ 47 :: joinL (q :: r)
theorem splitL_ex (l : List UInt8) : ∃ p r, splitL l = p :: r := by
  cases l with
  | nil => exact ⟨_, _, rfl⟩
  | cons c l =>
    unfold splitL
    split
    · exact ⟨_, _, rfl⟩
    · exact ⟨_, _, rfl⟩
theorem splitL_ne (l : List UInt8) : splitL l ≠ [] := by
  obtain ⟨p, r, h⟩ := splitL_ex l
  rw [h]; simp
theorem splitL_stroke (l : List UInt8) : splitL (47 :: l) = [] :: splitL l := by rw [splitL, if_pos rfl]
theorem splitL_other {c : UInt8} {l p : List UInt8} {r : List (List UInt8)} (hc : c ≠ 47) (h : splitL l = p :: r) : splitL (c :: l) = (c :: p) :: r := by
  rw [splitL, if_neg hc, h]; rfl
theorem joinL_head (c : UInt8) (p : List UInt8) (r : List (List UInt8)) : joinL ((c :: p) :: r) = c :: joinL (p :: r) := by
  cases r <;> rfl
theorem joinL_splitL : ∀ l : List UInt8, joinL (splitL l) = l
  | [] => rfl
  | c :: l => by
    have ih := joinL_splitL l
    obtain ⟨p, r, h⟩ := splitL_ex l
    by_cases hc : c = 47
    · subst hc
      rw [splitL_stroke, h]
      show [] ++ 47 :: joinL (p :: r) = _
      rw [← h, ih]; rfl
    · rw [splitL_other hc h, joinL_head, ← h, ih]
theorem splitL_append : ∀ a b : List UInt8, splitL (a ++ 47 :: b) = splitL a ++ splitL b
  | [], b => by rw [List.nil_append, splitL_stroke]; rfl
  | c :: a, b => by
    have ih := splitL_append a b
    by_cases hc : c = 47
    · subst hc
      rw [List.cons_append, splitL_stroke, splitL_stroke, ih]; rfl
    · obtain ⟨p, r, h⟩ := splitL_ex a
      rw [h, List.cons_append] at ih
      rw [List.cons_append, splitL_other hc ih, splitL_other hc h]; rfl
theorem splitL_pure : ∀ {l : List UInt8}, 47 ∉ l → splitL l = [l]
  | [], _ => rfl
  | c :: l, h => by
    have hc : c ≠ 47 := fun e => h (by simp [e])
    exact splitL_other hc (splitL_pure (fun e => h (List.mem_cons_of_mem _ e)))
theorem splitL_mem : ∀ (l : List UInt8) {p : List UInt8}, p ∈ splitL l → 47 ∉ p
  | [], p, h => by rw [splitL, List.mem_singleton] at h; subst h; simp
  | c :: l, p, h => by
    obtain ⟨q, r, hq⟩ := splitL_ex l
    have ih : ∀ {x : List UInt8}, x ∈ splitL l → 47 ∉ x := fun hx => splitL_mem l hx
    by_cases hc : c = 47
    · subst hc
      rw [splitL_stroke, List.mem_cons] at h
      rcases h with rfl | h
      · simp
      · exact ih h
    · rw [splitL_other hc hq, List.mem_cons] at h
      rcases h with rfl | h
      · intro hm
        rcases List.mem_cons.1 hm with e | e
        · exact hc e.symm
        · exact ih (by rw [hq]; simp) e
      · exact ih (by rw [hq]; exact List.mem_cons_of_mem _ h)
/-- a text has no stroke, or a last one -/
theorem last_stroke : ∀ l : List UInt8, 47 ∉ l ∨ ∃ a b, l = a ++ 47 :: b ∧ 47 ∉ b
  | [] => .inl (by simp)
  | c :: l => by
    rcases last_stroke l with h | ⟨a, b, rfl, hb⟩
    · by_cases hc : c = 47
      · exact .inr ⟨[], l, by rw [hc]; rfl, h⟩
      · exact .inl (by simp [h]; exact fun e => hc e.symm)
    · exact .inr ⟨c :: a, b, rfl, hb⟩
theorem splitL_last {a b : List UInt8} (hb : 47 ∉ b) : splitL (a ++ 47 :: b) = splitL a ++ [b] := by rw [splitL_append, splitL_pure hb]
theorem splitL_snoc_stroke (l : List UInt8) : splitL (l ++ [47]) = splitL l ++ [[]] := by rw [splitL_append]; rfl
theorem splitL_snoc (l : List UInt8) {c : UInt8} (hc : c ≠ 47) : ∃ r p, splitL l = r ++ [p] ∧ splitL (l ++ [c]) = r ++ [p ++ [c]] := by
  rcases last_stroke l with h | ⟨a, b, rfl, hb⟩
  · refine ⟨[], l, by rw [splitL_pure h]; rfl, ?_⟩
    rw [splitL_pure (by simp [h]; exact fun e => hc e.symm)]; rfl
  · refine ⟨splitL a, b, splitL_last hb, ?_⟩
    rw [List.append_assoc, List.cons_append, splitL_last (by simp [hb]; exact fun e => hc e.symm)]
theorem splitL_length_le (l : List UInt8) : (splitL l).length ≤ l.length + 1 := by
  induction l with
  | nil => simp [splitL]
  | cons c l ih =>
    obtain ⟨p, r, h⟩ := splitL_ex l
    by_cases hc : c = 47
    · subst hc; rw [splitL_stroke]; simp; omega
    · rw [splitL_other hc h]; rw [h] at ih; simp at ih ⊢; omega
theorem splitL_length_pos (l : List UInt8) : 1 ≤ (splitL l).length := by
  obtain ⟨p, r, h⟩ := splitL_ex l
  rw [h]; simp

/-- may a part have it? -/
def signB (c : UInt8) : Bool := (decide (97 ≤ c.toNat) && decide (c.toNat ≤ 122)) || (decide (65 ≤ c.toNat) && decide (c.toNat ≤ 90)) || (decide (48 ≤ c.toNat) && decide (c.toNat ≤ 57)) || decide (c.toNat = 95) || decide (c.toNat = 46) || decide (c.toNat = 45) || decide (c.toNat = 43)
/-- is a text a part? -/
def partB (p : List UInt8) : Bool := !p.isEmpty && decide (p.length ≤ 64) && !(p == [46]) && !(p == [46, 46]) && p.all signB
/-- is a text a path? -/
def mayB (l : List UInt8) : Bool := (splitL l).all partB && decide ((splitL l).length ≤ 16)
def dirL (l : List UInt8) : List UInt8 := if mayB l = true then joinL (splitL l).dropLast else []
def baseL (l : List UInt8) : List UInt8 := if mayB l = true then (splitL l).getLastD [] else []
/-- from the last dot on, among the first k signs but the first one -/
def extFrom (b : List UInt8) : Nat → List UInt8
  | 0 => []
  | k + 1 => if k = 0 then [] else if b[k]? = some 46 then b.drop k else extFrom b k
def extOf (b : List UInt8) : List UInt8 := extFrom b b.length
def extL (l : List UInt8) : List UInt8 := extOf (baseL l)
/-- a path joined to a directory, or the error's number -/
def pjoin (d s : List UInt8) : List UInt8 × Int :=
  if (!d.isEmpty && !mayB d) || !mayB s then ([], 1) else if d.isEmpty then (s, 0) else if mayB (d ++ 47 :: s) then (d ++ 47 :: s, 0) else ([], 6)
def underB (l d : List UInt8) : Bool := mayB l && (d.isEmpty || (mayB d && (d ++ [47]).isPrefixOf l))

theorem partB_ne {p : List UInt8} (h : partB p = true) : p ≠ [] := by
  rintro rfl; simp [partB] at h
theorem mayB_ne {l : List UInt8} (h : mayB l = true) : l ≠ [] := by
  rintro rfl; simp [mayB, splitL, partB] at h
theorem mayB_append (d s : List UInt8) (hd : mayB d = true) (hs : mayB s = true) : mayB (d ++ 47 :: s) = decide ((splitL d).length + (splitL s).length ≤ 16) := by
  simp only [mayB, Bool.and_eq_true] at hd hs
  rw [mayB, splitL_append, List.all_append, hd.1, hs.1, List.length_append]; rfl
theorem mayB_front {a b : List UInt8} (h : mayB (a ++ 47 :: b) = true) : mayB a = true := by
  simp only [mayB, splitL_append, List.all_append, List.length_append, Bool.and_eq_true, decide_eq_true_eq] at h ⊢
  exact ⟨h.1.1, by omega⟩
theorem mayB_parts {a b : List UInt8} (hb : 47 ∉ b) (h : mayB (a ++ 47 :: b) = true) : partB b = true := by
  simp only [mayB, splitL_last hb, List.all_append, List.length_append, Bool.and_eq_true, decide_eq_true_eq] at h
  simpa using h.1.2
theorem dirL_pure {l : List UInt8} (h : 47 ∉ l) : dirL l = [] := by
  unfold dirL
  split
  · rw [splitL_pure h]; rfl
  · rfl
theorem dirL_last {a b : List UInt8} (hb : 47 ∉ b) (h : mayB (a ++ 47 :: b) = true) : dirL (a ++ 47 :: b) = a := by
  rw [dirL, if_pos h, splitL_last hb, List.dropLast_concat, joinL_splitL]
theorem baseL_pure {l : List UInt8} (h : 47 ∉ l) (hm : mayB l = true) : baseL l = l := by rw [baseL, if_pos hm, splitL_pure h]; rfl
theorem baseL_last {a b : List UInt8} (hb : 47 ∉ b) (h : mayB (a ++ 47 :: b) = true) : baseL (a ++ 47 :: b) = b := by
  rw [baseL, if_pos h, splitL_last hb]; simp
theorem mayB_one {p : List UInt8} (h47 : 47 ∉ p) (h : partB p = true) : mayB p = true := by
  rw [mayB, splitL_pure h47]; simp [h]

/-- a prefix with a stroke behind it, across the last stroke -/
theorem prefix_last {d a b : List UInt8} (hb : 47 ∉ b) : (d ++ [47]).isPrefixOf (a ++ 47 :: b) = (decide (d = a) || (d ++ [47]).isPrefixOf a) := by
  rw [Bool.eq_iff_iff, Bool.or_eq_true, decide_eq_true_eq, List.isPrefixOf_iff_prefix, List.isPrefixOf_iff_prefix]
  constructor
  · rintro ⟨t, ht⟩
    rw [List.append_assoc, List.singleton_append] at ht
    rcases List.append_eq_append_iff.1 ht with ⟨x, h1, h2⟩ | ⟨x, h1, h2⟩
    · cases x with
      | nil => left; simpa using h1.symm
      | cons y x =>
        right
        simp only [List.cons_append, List.cons.injEq] at h2
        refine ⟨x, ?_⟩
        rw [h1, ← h2.1, List.append_assoc]; rfl
    · cases x with
      | nil => left; simpa using h1
      | cons y x =>
        simp only [List.cons_append, List.cons.injEq] at h2
        exact absurd (by rw [h2.2]; simp) hb
  · rintro (rfl | ⟨t, ht⟩)
    · exact ⟨b, by simp⟩
    · exact ⟨t ++ 47 :: b, by rw [← List.append_assoc, ht]⟩
theorem prefix_pure {d l : List UInt8} (h : 47 ∉ l) : (d ++ [47]).isPrefixOf l = false := by
  rw [← Bool.not_eq_true, List.isPrefixOf_iff_prefix]
  rintro ⟨t, ht⟩
  exact h (by rw [← ht]; simp)
/-- a path is under its directory, or under what that one is under -/
theorem underB_step {a b d : List UInt8} (hb : 47 ∉ b) (h : mayB (a ++ 47 :: b) = true) (hd : d ≠ []) : underB (a ++ 47 :: b) d = (decide (a = d) || underB a d) := by
  have ha := mayB_front h
  have he : d.isEmpty = false := by cases d <;> simp_all
  rw [underB, h, he, prefix_last hb, underB, ha, he]
  by_cases hda : d = a
  · subst hda; simp [ha]
  · have hda' : ¬ a = d := fun e => hda e.symm
    simp [hda, hda']
theorem underB_pure {l d : List UInt8} (h : 47 ∉ l) (hd : d ≠ []) : underB l d = false := by
  have he : d.isEmpty = false := by cases d <;> simp_all
  rw [underB, he, prefix_pure h]; simp
theorem underB_nil {l : List UInt8} (h : mayB l = true) : underB l [] = true := by simp [underB, h]
theorem underB_no {l d : List UInt8} (h : mayB l = false) : underB l d = false := by simp [underB, h]
theorem underB_self (l : List UInt8) : underB l l = false := by
  by_cases hm : mayB l = true
  · have hne := mayB_ne hm
    have he : l.isEmpty = false := by cases l <;> simp_all
    rw [underB, he]
    have : (l ++ [47]).isPrefixOf l = false := by
      rw [← Bool.not_eq_true, List.isPrefixOf_iff_prefix]
      intro h
      have := h.length_le
      simp at this
      omega
    rw [this]; simp
  · simp [underB, hm]
/-- what is joined is a path under the directory -/
theorem pjoin_ok {d s : List UInt8} (h : (pjoin d s).2 = 0) : mayB (pjoin d s).1 = true ∧ underB (pjoin d s).1 d = true := by
  revert h
  unfold pjoin
  by_cases h1 : ((!d.isEmpty && !mayB d) || !mayB s) = true
  · rw [if_pos h1]; intro h; cases h
  · rw [if_neg h1]
    simp only [Bool.or_eq_true, Bool.and_eq_true, Bool.not_eq_true', not_or, not_and, Bool.not_eq_false] at h1
    by_cases h2 : d.isEmpty = true
    · rw [if_pos h2]
      have : d = [] := by simpa using h2
      subst this
      exact fun _ => ⟨h1.2, underB_nil h1.2⟩
    · rw [if_neg h2]
      by_cases h3 : mayB (d ++ 47 :: s) = true
      · rw [if_pos h3]
        intro _
        refine ⟨h3, ?_⟩
        rw [underB, h3, h1.1 (by simpa using h2)]
        have : (d ++ [47]).isPrefixOf (d ++ 47 :: s) = true := by rw [List.isPrefixOf_iff_prefix]; exact ⟨s, by simp⟩
        rw [this]; simp
      · rw [if_neg h3]; intro h; cases h
/-- the first two of a path are joined to it again -/
theorem pjoin_back {l : List UInt8} (h : mayB l = true) : pjoin (dirL l) (baseL l) = (l, 0) := by
  rcases last_stroke l with h47 | ⟨a, b, rfl, hb⟩
  · rw [dirL_pure h47, baseL_pure h47 h]
    simp [pjoin, h]
  · rw [dirL_last hb h, baseL_last hb h]
    have ha := mayB_front h
    have hb' := mayB_one hb (mayB_parts hb h)
    have hne := mayB_ne ha
    have he : a.isEmpty = false := by cases a <;> simp_all
    simp [pjoin, h, ha, hb', hne]
theorem noPath {l : List UInt8} (h : mayB l = false) : dirL l = [] ∧ baseL l = [] ∧ extL l = [] := by
  have hb : baseL l = [] := by simp [baseL, h]
  refine ⟨by simp [dirL, h], hb, ?_⟩
  rw [extL, hb]; rfl
/-- the directory's directory, so many times -/
def upL (l : List UInt8) : Nat → List UInt8
  | 0 => l
  | k + 1 => dirL (upL l k)
theorem dirL_parts {l : List UInt8} (h : mayB l = true) (h1 : 2 ≤ (splitL l).length) : mayB (dirL l) = true ∧ (splitL (dirL l)).length + 1 = (splitL l).length := by
  rcases last_stroke l with h47 | ⟨a, b, rfl, hb⟩
  · rw [splitL_pure h47] at h1; simp at h1
  · rw [dirL_last hb h]
    exact ⟨mayB_front h, by rw [splitL_last hb]; simp⟩
theorem dirL_top {l : List UInt8} (h : mayB l = true) (h1 : (splitL l).length ≤ 1) : dirL l = [] := by
  rcases last_stroke l with h47 | ⟨a, b, rfl, hb⟩
  · exact dirL_pure h47
  · rw [splitL_last hb, List.length_append, List.length_singleton] at h1
    have := splitL_length_pos a
    omega
theorem upL_may {l : List UInt8} (h : mayB l = true) : ∀ k, k < (splitL l).length → mayB (upL l k) = true ∧ (splitL (upL l k)).length + k = (splitL l).length
  | 0, _ => ⟨h, rfl⟩
  | k + 1, hk => by
    obtain ⟨h1, h2⟩ := upL_may h k (by omega)
    obtain ⟨h3, h4⟩ := dirL_parts h1 (by omega)
    exact ⟨h3, by show (splitL (dirL (upL l k))).length + (k + 1) = _; omega⟩
theorem upL_end {l : List UInt8} (h : mayB l = true) : upL l (splitL l).length = [] := by
  have hp := splitL_length_pos l
  obtain ⟨k, hk⟩ : ∃ k, (splitL l).length = k + 1 := ⟨(splitL l).length - 1, by omega⟩
  obtain ⟨h1, h2⟩ := upL_may h k (by omega)
  rw [hk]
  exact dirL_top h1 (by omega)
theorem upL_ne {l : List UInt8} (h : mayB l = true) {k : Nat} (hk : k < (splitL l).length) : upL l k ≠ [] := mayB_ne (upL_may h k hk).1
/-- a path is under what is below its directory -/
theorem underB_dir {l d : List UInt8} (h : mayB l = true) (hd : d ≠ []) : underB l d = (decide (dirL l = d) || (decide (dirL l ≠ []) && underB (dirL l) d)) := by
  rcases last_stroke l with h47 | ⟨a, b, rfl, hb⟩
  · have hd' : ¬ [] = d := fun e => hd e.symm
    rw [dirL_pure h47, underB_pure h47 hd]
    simp [hd']
  · have hne := mayB_ne (mayB_front h)
    rw [dirL_last hb h, underB_step hb h hd]
    simp [hne]
/-- was a directory met on the way up, in so many steps? -/
def metB (l d : List UInt8) : Nat → Bool
  | 0 => false
  | k + 1 => metB l d k || decide (upL l (k + 1) = d)
theorem underB_up {l d : List UInt8} (h : mayB l = true) (hd : d ≠ []) : ∀ k, k < (splitL l).length → underB l d = (metB l d k || underB (upL l k) d)
  | 0, _ => by simp [metB, upL]
  | k + 1, hk => by
    have ih := underB_up h hd k (by omega)
    obtain ⟨h1, h2⟩ := upL_may h k (by omega)
    have hn : upL l (k + 1) ≠ [] := upL_ne h hk
    rw [ih, underB_dir h1 hd, metB]
    show (metB l d k || (decide (upL l (k + 1) = d) || (decide (upL l (k + 1) ≠ []) && underB (upL l (k + 1)) d))) = _
    rw [Bool.or_assoc]; simp [hn]
theorem metB_end {l d : List UInt8} (h : mayB l = true) : metB l d (splitL l).length = underB l d := by
  have hp := splitL_length_pos l
  obtain ⟨k, hk⟩ : ∃ k, (splitL l).length = k + 1 := ⟨(splitL l).length - 1, by omega⟩
  obtain ⟨h1, h2⟩ := upL_may h k (by omega)
  have he : upL l (k + 1) = [] := by rw [← hk]; exact upL_end h
  by_cases hd : d = []
  · subst hd
    rw [hk, metB, he, underB_nil h]; simp
  · have htop : dirL (upL l k) = [] := he
    have hd' : ¬ [] = d := fun e => hd e.symm
    rw [underB_up h hd k (by omega), hk, metB, he, underB_dir h1 hd, htop]
    simp [hd']
/-- a path is under each of those -/
theorem underB_met {l : List UInt8} (h : mayB l = true) {k : Nat} (hk : k < (splitL l).length) : underB l (upL l (k + 1)) = true := by
  by_cases hd : upL l (k + 1) = []
  · rw [hd]; exact underB_nil h
  · obtain ⟨h1, h2⟩ := upL_may h k hk
    rw [underB_up h hd k hk, underB_dir h1 hd]
    simp [upL]
end Go.Proofs.YtjjpecggcjggpaaGreatDoor
/- A tool as a machine, in plain: its words, lines, commands, and steps. No program is named. -/
namespace Go.Proofs.YtjjpecggcjggpaaGreatDoor
abbrev TT := List UInt8
/-! words and lines -/
def segs (p : UInt8 → Bool) : TT → List TT
  | [] => [[]]
  | c :: s => if p c then [] :: segs p s else match segs p s with
    | [] => [[c]]
    | x :: r => (c :: x) :: r
def isB (c : UInt8) : Bool := c == 32 || c == 9
def wordsT (s : TT) : List TT := (segs isB s).filter fun x => !x.isEmpty
def linesT (s : TT) : List TT := if s = [] then [] else if s.getLast? = some 10 then segs (· == 10) s.dropLast else segs (· == 10) s
theorem segs_ne (p : UInt8 → Bool) : ∀ s : TT, segs p s ≠ []
  | [] => by simp [segs]
  | c :: s => by
    rw [segs]
    split
    · simp
    · split <;> simp
theorem segs_cons (p : UInt8 → Bool) (c : UInt8) (s : TT) : ∃ x r, segs p s = x :: r ∧ segs p (c :: s) = if p c then [] :: x :: r else (c :: x) :: r := by
  cases h : segs p s with
  | nil => exact absurd h (segs_ne p s)
  | cons x r =>
    refine ⟨x, r, rfl, ?_⟩
    rw [segs, h]
theorem segs_no {p : UInt8 → Bool} : ∀ {s : TT}, (∀ c ∈ s, p c = false) → segs p s = [s]
  | [], _ => rfl
  | c :: s, h => by
    have h1 := h c (by simp)
    have h2 := segs_no (s := s) fun d hd => h d (by simp [hd])
    rw [segs, h1, h2]
    rfl
theorem segs_at {p : UInt8 → Bool} {c : UInt8} (hc : p c = true) (b : TT) : ∀ {a : TT}, (∀ d ∈ a, p d = false) → segs p (a ++ c :: b) = a :: segs p b
  | [], _ => by rw [List.nil_append, segs, hc]; rfl
  | d :: a, h => by
    have h1 := h d (by simp)
    have h2 := segs_at hc b (a := a) fun e he => h e (by simp [he])
    rw [List.cons_append, segs, h1, h2]
    rfl
theorem segs_free {p : UInt8 → Bool} : ∀ {s : TT} {x : TT}, x ∈ segs p s → ∀ c ∈ x, p c = false
  | [], x, h, c, hc => by
    rw [segs, List.mem_singleton] at h
    subst h
    cases hc
  | d :: s, x, h, c, hc => by
    obtain ⟨y, r, h1, h2⟩ := segs_cons p d s
    rw [h2] at h
    split at h
    · rcases List.mem_cons.1 h with rfl | h
      · cases hc
      · exact segs_free (s := s) (by rw [h1]; exact h) c hc
    · rename_i hd
      rcases List.mem_cons.1 h with rfl | h
      · rcases List.mem_cons.1 hc with rfl | hc
        · simpa using hd
        · exact segs_free (s := s) (x := y) (by rw [h1]; simp) c hc
      · exact segs_free (s := s) (by rw [h1]; simp [h]) c hc
theorem segs_len (p : UInt8 → Bool) : ∀ s : TT, (segs p s).length ≤ s.length + 1
  | [] => by simp [segs]
  | c :: s => by
    obtain ⟨y, r, h1, h2⟩ := segs_cons p c s
    have ih := segs_len p s
    rw [h1] at ih
    rw [h2]
    split <;> simp at ih ⊢ <;> omega
theorem segs_le (p : UInt8 → Bool) : ∀ {s x : TT}, x ∈ segs p s → x.length ≤ s.length
  | [], x, h => by
    rw [segs, List.mem_singleton] at h
    subst h
    simp
  | c :: s, x, h => by
    obtain ⟨y, r, h1, h2⟩ := segs_cons p c s
    rw [h2] at h
    have h3 : ∀ z ∈ y :: r, z.length ≤ s.length := fun z hz => segs_le p (by rw [h1]; exact hz)
    split at h
    · rcases List.mem_cons.1 h with rfl | h
      · simp
      · have := h3 x h; simp; omega
    · rcases List.mem_cons.1 h with rfl | h
      · have := h3 y (by simp); simp; omega
      · have := h3 x (by simp [h]); simp; omega
theorem linesT_nil : linesT [] = [] := rfl
theorem linesT_end (s : TT) : linesT (s ++ [10]) = segs (· == 10) s := by
  rw [linesT, if_neg (by simp), if_pos (by simp), List.dropLast_concat]
theorem linesT_open {s : TT} (h : s ≠ []) (hl : s.getLast? ≠ some 10) : linesT s = segs (· == 10) s := by
  rw [linesT, if_neg h, if_neg hl]
theorem linesT_len (s : TT) : (linesT s).length ≤ s.length + 1 := by
  rw [linesT]
  split
  · simp
  · split
    · have := segs_len (· == 10) s.dropLast
      rw [List.length_dropLast] at this
      omega
    · exact segs_len _ s
theorem linesT_free {s x : TT} (h : x ∈ linesT s) : ∀ c ∈ x, c ≠ 10 := by
  have key : ∀ t : TT, x ∈ segs (· == 10) t → ∀ c ∈ x, c ≠ 10 := fun t ht c hc => by
    have := segs_free ht c hc
    simpa using this
  rw [linesT] at h
  split at h
  · cases h
  · split at h
    · exact key _ h
    · exact key _ h
theorem linesT_le {s x : TT} (h : x ∈ linesT s) : x.length ≤ s.length := by
  rw [linesT] at h
  split at h
  · cases h
  · split at h
    · have := segs_le _ h
      rw [List.length_dropLast] at this
      omega
    · exact segs_le _ h
theorem linesT_one {a : TT} (h0 : a ≠ []) (h : ∀ c ∈ a, c ≠ 10) : linesT a = [a] := by
  have hl : a.getLast? ≠ some 10 := fun e => h 10 (List.mem_of_getLast? e) rfl
  rw [linesT_open h0 hl]
  exact segs_no fun c hc => by simpa using h c hc
theorem linesT_at {a : TT} (h : ∀ c ∈ a, c ≠ 10) (b : TT) : linesT (a ++ 10 :: b) = a :: linesT b := by
  have hf : ∀ d ∈ a, (d == 10) = false := fun d hd => by simpa using h d hd
  rcases List.eq_nil_or_concat b with rfl | ⟨b', x, rfl⟩
  · rw [linesT_end, segs_no hf]
    rfl
  · rw [List.concat_eq_append]
    have e1 : a ++ 10 :: (b' ++ [x]) = (a ++ 10 :: b') ++ [x] := by simp
    by_cases hx : x = 10
    · subst hx
      rw [e1, linesT_end, linesT_end, segs_at (by simp) b' hf]
    · have hl1 : ((a ++ 10 :: b') ++ [x]).getLast? ≠ some 10 := by rw [List.getLast?_concat]; simpa using hx
      have hl2 : (b' ++ [x]).getLast? ≠ some 10 := by simpa using hx
      rw [e1, linesT_open (by simp) hl1, linesT_open (by simp) hl2, ← e1, segs_at (by simp) (b' ++ [x]) hf]
theorem wordsT_nil : wordsT [] = [] := rfl
theorem wordsT_blank {c : UInt8} (h : isB c = true) (s : TT) : wordsT (c :: s) = wordsT s := by
  rw [wordsT, wordsT, segs, h]
  rfl
theorem wordsT_one {a : TT} (h0 : a ≠ []) (h : ∀ c ∈ a, isB c = false) : wordsT a = [a] := by
  rw [wordsT, segs_no h]
  simp [h0]
theorem wordsT_at {a : TT} (h0 : a ≠ []) (h : ∀ c ∈ a, isB c = false) {c : UInt8} (hc : isB c = true) (b : TT) : wordsT (a ++ c :: b) = a :: wordsT b := by
  rw [wordsT, segs_at hc b h, List.filter_cons]
  simp [h0, wordsT]
theorem wordsT_mem {s x : TT} (h : x ∈ wordsT s) : x ≠ [] ∧ (∀ c ∈ x, isB c = false) ∧ x.length ≤ s.length := by
  rw [wordsT, List.mem_filter] at h
  exact ⟨by simpa using h.2, segs_free h.1, segs_le _ h.1⟩
theorem wordsT_len (s : TT) : (wordsT s).length ≤ s.length + 1 := Nat.le_trans (List.length_filter_le _ _) (segs_len _ s)
end Go.Proofs.YtjjpecggcjggpaaGreatDoor
/- Patterns as plain functions of bytes. -/
namespace Go.Proofs.YtjjpecggcjggpaaGreatDoor
/-- may a sign stand in a path's part? -/
def plainG (c : UInt8) : Bool := mayB [97, c, 97] && !(c == 47)
/-- what may not stand at a pattern's part's place -/
def badG (s : List UInt8) (k : Nat) (c : UInt8) : Bool := (!plainG c && !(c == 63) && !(c == 42)) || ([42, 42] : List UInt8).isPrefixOf (s.drop k)
def badsG (s : List UInt8) (n : Nat) : Bool := (List.range n).any fun k => badG s k (s.getD k 0)
def tailG (s : List UInt8) : Bool := decide (1 ≤ s.length) && decide (s.length ≤ 64) && !(s == [46]) && !(s == [46, 46])
def partG (s : List UInt8) : Bool := if s = [42, 42] then true else if badsG s s.length = true then false else tailG s
def mayG (s : List UInt8) : Bool := decide ((segs (· == 47) s).length ≤ 16) && !((segs (· == 47) s).any fun x => !partG x)
theorem badsG_succ (s : List UInt8) (k : Nat) : badsG s (k + 1) = (badsG s k || badG s k (s.getD k 0)) := by
  unfold badsG
  rw [List.range_succ, List.any_append]
  simp
theorem badsG_of {s : List UInt8} {k : Nat} (hk : k < s.length) (h : badG s k (s.getD k 0) = true) : badsG s s.length = true := by
  unfold badsG
  exact List.any_eq_true.2 ⟨k, by simpa using hk, h⟩
theorem partG_star {s : List UInt8} (h : s = [42, 42]) : partG s = true := by rw [partG, if_pos h]
theorem partG_bad {s : List UInt8} {k : Nat} (h : s ≠ [42, 42]) (hk : k < s.length) (hb : badG s k (s.getD k 0) = true) : partG s = false := by
  rw [partG, if_neg h, if_pos (badsG_of hk hb)]
theorem partG_tail {s : List UInt8} (h : s ≠ [42, 42]) (hb : badsG s s.length = false) : partG s = tailG s := by
  rw [partG, if_neg h, hb]
  rfl
end Go.Proofs.YtjjpecggcjggpaaGreatDoor
/- One cell of an own slice, read and written. -/
namespace Go.Proofs.YtjjpecggcjggpaaGreatDoor
open Go.RowKit
section
variable {w : World} {base n c : Nat} {t : TypeId} {A : Option Addr} {xs : List Value}
theorem Own.spot (h : Own w base t 1 A n c xs) {j : Nat} (hj : j < n) : ∃ b o u, A = some ⟨b, o, none⟩ ∧ base ≤ b ∧ b < w.heap.size ∧ xs[j]? = some u ∧ w.cell? ⟨b, o + j, none⟩ = some u ∧ w.frozen? ⟨b, o + j, none⟩ = false ∧
    ∀ v, Own (w.setCell ⟨b, o + j, none⟩ v) base t 1 A n c (xs.set j v) := by
  have hl := h.1
  have hn := h.2.1
  have hm := h.2.2.1
  obtain ⟨b, o, cur, fr, rfl, hb, hg, hf, hs, hx⟩ := h.at_ (by omega)
  have hjo : o + j < cur.size := by omega
  have hjl : j < xs.length := by omega
  refine ⟨b, o, xs[j], rfl, hb, heap_lt hg, List.getElem?_eq_getElem hjl, ?_, hf.cell hg hjo, fun v => ?_⟩
  · rw [cell_of_row w b _ cur t _ hg, hx j (by omega), List.getElem?_eq_getElem]
  · rw [setCell_eq_setRow w b (o + j) cur t fr v hg]
    refine ⟨by rw [List.length_set]; exact hl, hn, hm, .inr ⟨b, o, cur.setIfInBounds (o + j) v, fr, rfl, hb, setRow_heap w b cur _ t _ hg, by rw [Array.size_setIfInBounds]; exact hf, by rw [Array.size_setIfInBounds]; exact hs, fun i hi => ?_⟩⟩
    rw [Array.getElem?_setIfInBounds, List.getElem?_set]
    by_cases hij : j = i
    · subst hij
      have : j < xs.length := by omega
      simp [hjo, this]
    · rw [if_neg (by omega), if_neg hij, hx i (by omega)]
end
end Go.Proofs.YtjjpecggcjggpaaGreatDoor
/- A map with texts as keys, as a plain table that rises. Nothing of the program is named. -/
namespace Go.Proofs.YtjjpecggcjggpaaGreatDoor
open Go.RowKit Go.Maps Go.WideMaps Go.WideAt Go.MapKept Go.ChangeMaps
section
variable {α : Type} {enc : α → Value}
open Classical in
/-- how an element reads: as what it is -/
noncomputable def elemR (enc : α → Value) (v : Value) : Option (DataW α × List MemPlace) := if h : ∃ a, v = enc a then some (.held (Classical.choose h), []) else none
theorem elemR_mk (hinj : ∀ a b, enc a = enc b → a = b) (a : α) : elemR enc (enc a) = some (.held a, []) := by
  have h : ∃ b, enc a = enc b := ⟨a, rfl⟩
  unfold elemR
  rw [dif_pos h, ← hinj _ _ (Classical.choose_spec h)]
theorem elemR_inv {v : Value} {d : DataW α} {ps : List MemPlace} (h : elemR enc v = some (d, ps)) : ∃ a, v = enc a ∧ d = .held a := by
  unfold elemR at h
  split at h
  · rename_i hx
    simp only [Option.some.injEq, Prod.mk.injEq] at h
    exact ⟨_, Classical.choose_spec hx, h.1.symm⟩
  · cases h

abbrev Tab (α : Type) := List (List UInt8 × α)
def mapD (M : Tab α) : DataW α := .map (M.map fun p => (.string p.1, .held p.2))
def getM (M : Tab α) (k : List UInt8) : Option α := (M.find? (fun p => p.1 == k)).map (·.2)
def insM (x : List UInt8 × α) : Tab α → Tab α
  | [] => [x]
  | y :: r => if bytesBefore x.1 y.1 then x :: y :: r else y :: insM x r
def delM (M : Tab α) (k : List UInt8) : Tab α := M.filter fun p => !(p.1 == k)
def putM (M : Tab α) (k : List UInt8) (a : α) : Tab α := insM (k, a) (delM M k)
def Rises (M : Tab α) : Prop := M.Pairwise fun p q => bytesBefore p.1 q.1 = true

theorem mapD_ins (x : List UInt8 × α) : ∀ M : Tab α, DataW.insert (.string x.1, .held x.2) (M.map fun p => ((.string p.1 : Lit), (.held p.2 : DataW α))) = (insM x M).map fun p => (.string p.1, .held p.2)
  | [] => rfl
  | y :: r => by
    have ih := mapD_ins x r
    rw [List.map_cons]
    unfold DataW.insert insM
    by_cases h : bytesBefore x.1 y.1 = true
    · rw [if_pos (show (Lit.string x.1).before (Lit.string y.1) = true from h), if_pos h]; rfl
    · rw [if_neg (show ¬ (Lit.string x.1).before (Lit.string y.1) = true from h), if_neg h, List.map_cons, ih]
theorem filter_mapD (M : Tab α) (k : List UInt8) : ((M.map fun p => ((.string p.1 : Lit), (.held p.2 : DataW α))).filter fun p => !p.1.sameKey (.string k)) = (delM M k).map fun p => (.string p.1, .held p.2) := by
  unfold delM
  rw [List.filter_map]
  rfl
theorem mapD_put (M : Tab α) (k : List UInt8) (a : α) : (mapD M).put (.string k) (.held a) = mapD (putM M k a) := by
  show DataW.map _ = DataW.map _
  rw [filter_mapD]
  exact congrArg _ (mapD_ins (k, a) _)
theorem mapD_del (M : Tab α) (k : List UInt8) : (mapD M).del (.string k) = mapD (delM M k) := by
  show DataW.map _ = DataW.map _
  rw [filter_mapD]
theorem find_mapD (k : List UInt8) : ∀ M : Tab α, (M.map fun p => ((.string p.1 : Lit), (.held p.2 : DataW α))).find? (fun p => p.1.sameKey (.string k)) = (M.find? (fun p => p.1 == k)).map fun p => (.string p.1, .held p.2)
  | [] => rfl
  | y :: r => by
    have ih := find_mapD k r
    simp only [List.map_cons, List.find?_cons, Lit.sameKey]
    cases h : (y.1 == k)
    · exact ih
    · rfl
theorem any_find {β : Type} (f : β → Bool) : ∀ l : List β, l.any f = (l.find? f).isSome
  | [] => rfl
  | x :: r => by
    rw [List.any_cons, List.find?_cons, any_find f r]
    cases f x <;> rfl
theorem has_mapD (M : Tab α) (k : List UInt8) : has (mapD M) (.string k) = (getM M k).isSome := by
  show List.any _ _ = _
  rw [any_find, find_mapD, getM, Option.isSome_map, Option.isSome_map]
theorem atKey_mapD (M : Tab α) (k : List UInt8) (z : DataW α) : (mapD M).atKey (.string k) z = match getM M k with | some a => .held a | none => z := by
  unfold DataW.atKey mapD getM
  simp only [find_mapD]
  cases M.find? (fun p => p.1 == k) <;> rfl
theorem size_mapD (M : Tab α) : size (mapD M) = M.length := by show List.length _ = _; simp
theorem strKeys_mapD (M : Tab α) : strKeys (mapD M) = M.map (·.1) := by show List.map _ _ = _; rw [List.map_map]; rfl

/-- block b of w is a map that reads as the table M; at most n entries -/
def MapIs (w : World) (P : Program) (k : TypeId) (enc : α → Value) (b n : Nat) (M : Tab α) : Prop := w.ownsMap P k (elemR enc) b n (mapD M)
variable {w w' : World} {P : Program} {k : TypeId} {b n : Nat} {M : Tab α}
theorem MapIs.length_le (h : MapIs w P k enc b n M) : M.length ≤ n := by
  obtain ⟨es, clock, _, _, hs, hD⟩ := h
  have h1 := congrArg Maps.size hD
  rw [size_mapD] at h1
  rw [h1, size_eq, length_sorted, List.length_map, Array.length_toList]
  exact hs
theorem MapIs.rises (h : MapIs w P k enc b n M) (K : Keyed P k) : Rises M := by
  obtain ⟨es, he, hp, _⟩ := World.ownsMap.canon h K
  unfold mapD at he
  injection he with he
  subst he
  rw [List.pairwise_map] at hp
  exact hp
theorem MapIs.made (w : World) (P : Program) (k : TypeId) (enc : α → Value) : MapIs (w.alloc (.map #[] 0)) P k enc w.heap.size 0 ([] : Tab α) := World.ownsMap_made w P k _
theorem MapIs.mono (h : MapIs w P k enc b n M) {n' : Nat} (hn : n ≤ n') : MapIs w P k enc b n' M := World.ownsMap.mono h hn
theorem MapIs.lt (h : MapIs w P k enc b n M) : b < w.heap.size := World.ownsMap.lt h
theorem MapIs.keep (h : MapIs w P k enc b n M) (hb : w'.heap[b]? = w.heap[b]?) : MapIs w' P k enc b n M := by
  obtain ⟨es, clock, hh, F, hs, hD⟩ := h
  exact ⟨es, clock, hb.trans hh, F, hs, hD⟩
theorem MapIs.alloc (h : MapIs w P k enc b n M) (o : Obj) : MapIs (w.alloc o) P k enc b n M := h.keep (Below.heap_alloc w o _ h.lt)
theorem MapIs.below (h : MapIs w P k enc b n M) {B : Nat} (hb : Below B w w') (hB : b < B) : MapIs w' P k enc b n M := h.keep (hb.block _ hB)
theorem MapIs.setCell (h : MapIs w P k enc b n M) (p : Addr) (v : Value) (hne : b ≠ p.block) : MapIs (w.setCell p v) P k enc b n M := h.keep (Below.heap_setCell w p v b hne)
theorem MapIs.drewN (h : MapIs w P k enc b n M) (m : Nat) : MapIs (w.drewN m) P k enc b n M := h
end

section
variable {α : Type} {enc : α → Value} {w : World} {P : Program} {k t e : TypeId} {b n : Nat} {M : Tab α}
theorem MapIs.look_ok (h : MapIs w P k enc b n M) (hinj : ∀ a b, enc a = enc b → a = b) (hk : P.underlying k = some .string) (ht : P.underlying t = some (.map k e)) (z0 : α) (hz : (zeroValue e).run P w = .ok (enc z0) w) (s : ByteArray) (hs : s.size ≤ maxLen) :
    (Instr.lookup t (.map (some b)) (.string s) true).run P w = .ok (.tuple #[enc ((getM M s.data.toList).getD z0), .bool (getM M s.data.toList).isSome]) w := by
  obtain ⟨v, ps, hrun, hv⟩ := World.ownsMap.look_ok h (string_keyed hk) ht hz (elemR_mk hinj z0) (keyOf_string_mk hk hs)
  rw [has_mapD] at hrun
  rw [atKey_mapD] at hv
  obtain ⟨a, rfl, ha⟩ := elemR_inv hv
  rw [hrun]
  cases hg : getM M s.data.toList with
  | none => rw [hg] at ha; injection ha with ha; subst ha; rfl
  | some x => rw [hg] at ha; injection ha with ha; subst ha; rfl
theorem MapIs.look (h : MapIs w P k enc b n M) (hinj : ∀ a b, enc a = enc b → a = b) (hk : P.underlying k = some .string) (ht : P.underlying t = some (.map k e)) (z0 : α) (hz : (zeroValue e).run P w = .ok (enc z0) w) (s : ByteArray) (hs : s.size ≤ maxLen) :
    (Instr.lookup t (.map (some b)) (.string s) false).run P w = .ok (enc ((getM M s.data.toList).getD z0)) w := by
  obtain ⟨v, ps, hrun, hv⟩ := World.ownsMap.lookup h (string_keyed hk) ht hz (elemR_mk hinj z0) (keyOf_string_mk hk hs)
  rw [atKey_mapD] at hv
  obtain ⟨a, rfl, ha⟩ := elemR_inv hv
  rw [hrun]
  cases hg : getM M s.data.toList with
  | none => rw [hg] at ha; injection ha with ha; subst ha; rfl
  | some x => rw [hg] at ha; injection ha with ha; subst ha; rfl
/-- the entries of the map in block b are others; nothing else has turned -/
def Turn (b : Nat) (w w' : World) : Prop := w'.os = w.os ∧ w'.tape = w.tape ∧ w'.output = w.output ∧ w'.heap.size = w.heap.size ∧ ∀ k, k ≠ b → w'.heap[k]? = w.heap[k]?
theorem turn_of {w' : World} (h : w.mapTurned w' b) : Turn b w w' := by
  obtain ⟨es, clock, es', clock', hb, rfl⟩ := h
  exact ⟨rfl, rfl, rfl, by simp [setBlock], fun k hk => heap_setBlock_other hb _ hk⟩
theorem MapIs.update (h : MapIs w P k enc b n M) (hinj : ∀ a b, enc a = enc b → a = b) (hk : P.underlying k = some .string) (ht : P.underlying t = some (.map k e)) (hn : n < maxLen) (s : ByteArray) (hs : s.size ≤ maxLen) (a : α) :
    ∃ w', (Instr.mapUpdate t (.map (some b)) (.string s) (enc a)).run P w = .ok () w' ∧ MapIs w' P k enc b (n + 1) (putM M s.data.toList a) ∧ Turn b w w' := by
  obtain ⟨w', hrun, h1, h2⟩ := World.ownsMap.store h (string_keyed hk) ht hn (keyOf_string_mk hk hs) (elemR_mk hinj a)
  rw [mapD_put] at h1
  exact ⟨w', hrun, h1, turn_of h2⟩
theorem MapIs.drop (h : MapIs w P k enc b n M) (hk : P.underlying k = some .string) (ht : P.underlying t = some (.map k e)) (s : ByteArray) (hs : s.size ≤ maxLen) (ty : TypeId) :
    ∃ w', (Builtin.delete_ #[t, k] ty #[.map (some b), .string s]).run P w = .ok (.tuple #[]) w' ∧ MapIs w' P k enc b n (delM M s.data.toList) ∧ Turn b w w' := by
  obtain ⟨w', hrun, h1, h2⟩ := World.ownsMap.drop h (string_keyed hk) ht (keyOf_string_mk hk hs) ty
  rw [mapD_del] at h1
  exact ⟨w', hrun, h1, turn_of h2⟩
/-- 'm[k] = v' as an arm -/
theorem wpList_update_map {ops : Array Oper} {rest : List Oper} {a : Act} {Q : Exit → Act → World → Prop} {dst : Option Tmp} {tt : TypeId} {m x v : Operand} {pos : String} {after : Array Edge}
    (h : MapIs w P k enc b n M) (hinj : ∀ a b, enc a = enc b → a = b) (hk : P.underlying k = some .string) (ht : P.underlying t = some (.map k e)) (hn : n < maxLen) (s : ByteArray) (hs : s.size ≤ maxLen) (y : α)
    (hx : a.eval m = .map (some b) ∧ a.eval x = .string s ∧ a.eval v = enc y)
    (hK : ∀ w', MapIs w' P k enc b (n + 1) (putM M s.data.toList y) → Turn b w w' → wpList P ops Q rest (a.put dst undef) w') :
    wpList P ops Q (⟨dst, .mapUpdate t m x v, tt, pos, after, none⟩ :: rest) a w := by
  refine wpList_plain rfl fun K' hK' => ?_
  obtain ⟨w', hrun, r1, r2⟩ := h.update hinj hk ht hn s hs y
  unfold Oper.wp
  simp [execOp, hx.1, hx.2.1, hx.2.2, hrun, Result.andThen]
  exact hK' _ _ (hK w' r1 r2)
/-- 'delete(m, k)' as an arm -/
theorem wpList_drop_map {ops : Array Oper} {rest : List Oper} {a : Act} {Q : Exit → Act → World → Prop} {dst : Option Tmp} {tt : TypeId} {m x : Operand} {pos : String} {after : Array Edge}
    (h : MapIs w P k enc b n M) (hk : P.underlying k = some .string) (ht : P.underlying t = some (.map k e)) (s : ByteArray) (hs : s.size ≤ maxLen)
    (hx : a.eval m = .map (some b) ∧ a.eval x = .string s)
    (hK : ∀ w', MapIs w' P k enc b n (delM M s.data.toList) → Turn b w w' → wpList P ops Q rest (a.put dst (.tuple #[])) w') :
    wpList P ops Q (⟨dst, .call ⟨.builtin .delete, #[m, x], #[t, k]⟩, tt, pos, after, none⟩ :: rest) a w := by
  refine wpList_plain rfl fun K' hK' => ?_
  obtain ⟨w', hrun, r1, r2⟩ := h.drop hk ht s hs tt
  unfold Oper.wp
  simp [execOp, resolve, invoke, builtin, hx.1, hx.2, hrun, Result.andThen]
  exact hK' _ _ (hK w' r1 r2)
end

/-- Go's order of texts -/
theorem bytesBefore_lt : ∀ a b : List UInt8, bytesBefore a b = true ↔ a < b
  | [], [] => by simp [bytesBefore]
  | [], _ :: _ => by simp [bytesBefore]
  | _ :: _, [] => by simp [bytesBefore]
  | a :: r, b :: s => by
    have ih := bytesBefore_lt r s
    rw [List.cons_lt_cons_iff, ← ih]
    simp [bytesBefore]
theorem sort_rises {α : Type} {M : Tab α} (h : Rises M) {ss : List (List UInt8)} (hp : ss.Perm (M.map (·.1))) : ss.mergeSort (fun x y => decide (x ≤ y)) = M.map (·.1) := by
  rw [mergeSort_of_perm hp]
  refine List.mergeSort_of_pairwise (List.pairwise_map.2 (h.imp fun {p q} hpq => ?_))
  exact decide_eq_true (List.le_of_lt ((bytesBefore_lt _ _).1 hpq))
end Go.Proofs.YtjjpecggcjggpaaGreatDoor
/- Numbers of Go's kinds as the words and bytes of the plain laws: what the walk writes as integers, said of words. -/
namespace Go.Proofs.YtjjpecggcjggpaaGreatDoor

theorem bits_and31 (n : Int) (h0 : 0 ≤ n) (h1 : n ≤ 31) : bits BinOp.and IntKind.u64 n 31 = n := by
  obtain ⟨k, rfl⟩ := Int.eq_ofNat_of_zero_le h0
  have h : ∀ k : Fin 32, bits BinOp.and IntKind.u64 (k.val : Int) 31 = k.val := by decide +kernel
  exact h ⟨k, by omega⟩

theorem u32_lt (x : UInt32) : (x.toNat : Int) < 4294967296 := by have := x.toNat_lt; omega
theorem u8_lt (x : UInt8) : (x.toNat : Int) < 256 := by have := x.toNat_lt; omega

theorem ofInt_u32 (x : UInt32) : BitVec.ofInt IntKind.u32.bits (x.toNat : Int) = x.toBitVec := by
  show BitVec.ofInt 32 _ = _
  apply BitVec.eq_of_toNat_eq
  rw [BitVec.toNat_ofInt]
  have h := x.toNat_lt
  have : ((x.toNat : Int) % ((2 ^ 32 : Nat) : Int)).toNat = x.toNat := by
    rw [Int.emod_eq_of_lt (by omega) (by simp; omega)]; omega
  rw [this]; rfl
theorem wrap_u32_nat (n : Nat) (h : n < 4294967296) : IntKind.u32.wrap (n : Int) = n := IntWalk.u32_in _ (by omega)

theorem bits_xor_u32 (x y : UInt32) : bits BinOp.xor IntKind.u32 (x.toNat : Int) (y.toNat : Int) = ((x ^^^ y).toNat : Int) := by
  unfold bits
  simp only [ofInt_u32]
  exact wrap_u32_nat _ (x ^^^ y).toNat_lt
theorem bits_and_u32 (x y : UInt32) : bits BinOp.and IntKind.u32 (x.toNat : Int) (y.toNat : Int) = ((x &&& y).toNat : Int) := by
  unfold bits
  simp only [ofInt_u32]
  exact wrap_u32_nat _ (x &&& y).toNat_lt
theorem bits_or_u32 (x y : UInt32) : bits BinOp.or IntKind.u32 (x.toNat : Int) (y.toNat : Int) = ((x ||| y).toNat : Int) := by
  unfold bits
  simp only [ofInt_u32]
  exact wrap_u32_nat _ (x ||| y).toNat_lt
theorem bits_or_u32_u8 (x : UInt32) (y : UInt8) : bits BinOp.or IntKind.u32 (x.toNat : Int) (y.toNat : Int) = ((x ||| y.toUInt32).toNat : Int) := by
  have : y.toNat = y.toUInt32.toNat := by simp
  rw [this, bits_or_u32]
theorem add_u32 (x y : UInt32) : ((x.toNat : Int) + y.toNat) % 4294967296 = ((x + y).toNat : Int) := by
  rw [UInt32.toNat_add]; omega
theorem shl_u32 (x : UInt32) (n : Nat) (h : n < 32) : (x.toNat : Int) * 2 ^ n % 4294967296 = ((x <<< UInt32.ofNat n).toNat : Int) := by
  rw [UInt32.toNat_shiftLeft, UInt32.toNat_ofNat_of_lt' (by show n < 4294967296; omega), Nat.mod_eq_of_lt h, Nat.shiftLeft_eq]
  simp
theorem shr_u32 (x : UInt32) (n : Nat) (h : n < 32) : (x.toNat : Int) / 2 ^ n = ((x >>> UInt32.ofNat n).toNat : Int) := by
  rw [UInt32.toNat_shiftRight, UInt32.toNat_ofNat_of_lt' (by show n < 4294967296; omega), Nat.mod_eq_of_lt h, Nat.shiftRight_eq_div_pow]
  simp
/-! The words' operations behind names that the walk does not open. -/
def add32 (x y : UInt32) : UInt32 := x + y
def xor32 (x y : UInt32) : UInt32 := x ^^^ y
def and32 (x y : UInt32) : UInt32 := x &&& y
def or32 (x y : UInt32) : UInt32 := x ||| y
def not32 (x : UInt32) : UInt32 := ~~~x
def shl32 (x : UInt32) (n : UInt32) : UInt32 := x <<< n
def shr32 (x : UInt32) (n : UInt32) : UInt32 := x >>> n
def of8 (x : UInt8) : UInt32 := x.toUInt32
theorem w_add (x y : UInt32) : ((x.toNat : Int) + y.toNat) % 4294967296 = ((add32 x y).toNat : Int) := add_u32 x y
theorem w_xor (x y : UInt32) : bits BinOp.xor IntKind.u32 (x.toNat : Int) (y.toNat : Int) = ((xor32 x y).toNat : Int) := bits_xor_u32 x y
theorem w_and (x y : UInt32) : bits BinOp.and IntKind.u32 (x.toNat : Int) (y.toNat : Int) = ((and32 x y).toNat : Int) := bits_and_u32 x y
theorem w_or (x y : UInt32) : bits BinOp.or IntKind.u32 (x.toNat : Int) (y.toNat : Int) = ((or32 x y).toNat : Int) := bits_or_u32 x y
theorem w_or8 (x : UInt32) (y : UInt8) : bits BinOp.or IntKind.u32 (x.toNat : Int) (y.toNat : Int) = ((or32 x (of8 y)).toNat : Int) := bits_or_u32_u8 x y
theorem w_not (x : UInt32) : bits BinOp.xor IntKind.u32 4294967295 (x.toNat : Int) = ((not32 x).toNat : Int) := by
  have h : (4294967295 : Int) = ((4294967295 : UInt32).toNat : Int) := rfl
  rw [h, bits_xor_u32, not32]
  have e : (4294967295 : UInt32) ^^^ x = ~~~x := by
    apply UInt32.toBitVec_inj.1
    simp only [UInt32.toBitVec_xor, UInt32.toBitVec_not]
    exact BitVec.allOnes_xor
  rw [e]
theorem sgn32 : IntKind.u32.signed = false := rfl
theorem max32 : IntKind.u32.max = 4294967295 := by decide
theorem w_shl24 (x : UInt32) : (x.toNat : Int) * 16777216 % 4294967296 = ((shl32 x 24).toNat : Int) := shl_u32 x 24 (by omega)
theorem w_shl16 (x : UInt32) : (x.toNat : Int) * 65536 % 4294967296 = ((shl32 x 16).toNat : Int) := shl_u32 x 16 (by omega)
theorem w_shl8 (x : UInt32) : (x.toNat : Int) * 256 % 4294967296 = ((shl32 x 8).toNat : Int) := shl_u32 x 8 (by omega)
theorem w_shr3 (x : UInt32) : (x.toNat : Int) / 8 = ((shr32 x 3).toNat : Int) := shr_u32 x 3 (by omega)
theorem w_shr10 (x : UInt32) : (x.toNat : Int) / 1024 = ((shr32 x 10).toNat : Int) := shr_u32 x 10 (by omega)
theorem w_of8 (b : UInt8) : (b.toNat : Int) % 4294967296 = ((of8 b).toNat : Int) := by
  have := b.toNat_lt
  rw [of8, UInt8.toNat_toUInt32]; omega
end Go.Proofs.YtjjpecggcjggpaaGreatDoor
/- The sum of a text as a plain function of its bytes, and the laws on it that the walks and the joins use. Nothing of the program is named here. -/
namespace Go.Proofs.YtjjpecggcjggpaaGreatDoor.Sha

/-- turned right -/
def rotr (x : UInt32) (n : UInt32) : UInt32 := x >>> n ||| x <<< (32 - n)
def small0 (x : UInt32) : UInt32 := rotr x 7 ^^^ rotr x 18 ^^^ x >>> 3
def small1 (x : UInt32) : UInt32 := rotr x 17 ^^^ rotr x 19 ^^^ x >>> 10
def great0 (x : UInt32) : UInt32 := rotr x 2 ^^^ rotr x 13 ^^^ rotr x 22
def great1 (x : UInt32) : UInt32 := rotr x 6 ^^^ rotr x 11 ^^^ rotr x 25

def ks : List UInt32 := [
  0x428a2f98, 0x71374491, 0xb5c0fbcf, 0xe9b5dba5, 0x3956c25b, 0x59f111f1, 0x923f82a4, 0xab1c5ed5,
  0xd807aa98, 0x12835b01, 0x243185be, 0x550c7dc3, 0x72be5d74, 0x80deb1fe, 0x9bdc06a7, 0xc19bf174,
  0xe49b69c1, 0xefbe4786, 0x0fc19dc6, 0x240ca1cc, 0x2de92c6f, 0x4a7484aa, 0x5cb0a9dc, 0x76f988da,
  0x983e5152, 0xa831c66d, 0xb00327c8, 0xbf597fc7, 0xc6e00bf3, 0xd5a79147, 0x06ca6351, 0x14292967,
  0x27b70a85, 0x2e1b2138, 0x4d2c6dfc, 0x53380d13, 0x650a7354, 0x766a0abb, 0x81c2c92e, 0x92722c85,
  0xa2bfe8a1, 0xa81a664b, 0xc24b8b70, 0xc76c51a3, 0xd192e819, 0xd6990624, 0xf40e3585, 0x106aa070,
  0x19a4c116, 0x1e376c08, 0x2748774c, 0x34b0bcb5, 0x391c0cb3, 0x4ed8aa4a, 0x5b9cca4f, 0x682e6ff3,
  0x748f82ee, 0x78a5636f, 0x84c87814, 0x8cc70208, 0x90befffa, 0xa4506ceb, 0xbef9a3f7, 0xc67178f2]

/-- four bytes as a word, from place j on -/
def wordAt (b : List UInt8) (j : Nat) : UInt32 :=
  (b.getD j 0).toUInt32 <<< 24 ||| (b.getD (j + 1) 0).toUInt32 <<< 16 ||| (b.getD (j + 2) 0).toUInt32 <<< 8 ||| (b.getD (j + 3) 0).toUInt32
/-- the next word behind w, of which there are n + 16 -/
def nextWord (w : List UInt32) (n : Nat) : UInt32 :=
  w.getD n 0 + small0 (w.getD (n + 1) 0) + w.getD (n + 9) 0 + small1 (w.getD (n + 14) 0)
/-- the first n + 16 words of a block -/
def words (b : List UInt8) : Nat → List UInt32
  | 0 => (List.range 16).map fun i => wordAt b (4 * i)
  | n + 1 => words b n ++ [nextWord (words b n) n]

/-- eight words -/
structure S8 where
  a : UInt32
  b : UInt32
  c : UInt32
  d : UInt32
  e : UInt32
  f : UInt32
  g : UInt32
  h : UInt32

def S8.list (s : S8) : List UInt32 := [s.a, s.b, s.c, s.d, s.e, s.f, s.g, s.h]
def start : S8 := ⟨0x6a09e667, 0xbb67ae85, 0x3c6ef372, 0xa54ff53a, 0x510e527f, 0x9b05688c, 0x1f83d9ab, 0x5be0cd19⟩
def one (s : S8) (k w : UInt32) : UInt32 := s.h + great1 s.e + (s.e &&& s.f ^^^ ~~~s.e &&& s.g) + k + w
def two (s : S8) : UInt32 := great0 s.a + (s.a &&& s.b ^^^ s.a &&& s.c ^^^ s.b &&& s.c)
def step (s : S8) (k w : UInt32) : S8 := ⟨one s k w + two s, s.a, s.b, s.c, s.d + one s k w, s.e, s.f, s.g⟩
/-- behind n turns -/
def turns (w : List UInt32) (s : S8) : Nat → S8
  | 0 => s
  | n + 1 => step (turns w s n) (ks.getD n 0) (w.getD n 0)
def S8.plus (s t : S8) : S8 := ⟨s.a + t.a, s.b + t.b, s.c + t.c, s.d + t.d, s.e + t.e, s.f + t.f, s.g + t.g, s.h + t.h⟩
/-- behind a block -/
def block (s : S8) (b : List UInt8) : S8 := s.plus (turns (words b 48) s 64)
/-- behind n blocks -/
def blocks : Nat → S8 → List UInt8 → S8
  | 0, s, _ => s
  | n + 1, s, l => blocks n (block s (l.take 64)) (l.drop 64)

/-- eight bytes of a number, the greatest first -/
def eight (n : Nat) : List UInt8 := (List.range 8).map fun i => UInt8.ofNat (n / 2 ^ (56 - 8 * i) % 256)
/-- what stands behind a text of n bytes -/
def tail (n : Nat) : List UInt8 := 128 :: (List.replicate ((119 - n % 64) % 64) 0 ++ eight (8 * n))
def byteOf (s : S8) (i : Nat) : UInt8 := ((s.list.getD (i / 4) 0) >>> (UInt32.ofNat (24 - 8 * (i % 4)))).toUInt8
def out (s : S8) : List UInt8 := (List.range 32).map (byteOf s)
def whole (l : List UInt8) : List UInt8 := l ++ tail l.length
/-- the sum of a text -/
def sum (l : List UInt8) : List UInt8 := out (blocks ((whole l).length / 64) start (whole l))

theorem sum_abc : sum [97, 98, 99] = [0xba, 0x78, 0x16, 0xbf, 0x8f, 0x01, 0xcf, 0xea, 0x41, 0x41, 0x40, 0xde, 0x5d, 0xae, 0x22, 0x23, 0xb0, 0x03, 0x61, 0xa3, 0x96, 0x17, 0x7a, 0x9c, 0xb4, 0x10, 0xff, 0x61, 0xf2, 0x00, 0x15, 0xad] := by
  decide +kernel

end Go.Proofs.YtjjpecggcjggpaaGreatDoor.Sha
/- The walks of the small functions under the sums of both texts: turns of a word, a word of four bytes, the constants. -/
namespace Go.Proofs.YtjjpecggcjggpaaGreatDoor
open Go.RowKit
def rotI (x : UInt32) (n : Int) : UInt32 := Sha.rotr x (UInt32.ofNat n.toNat)

theorem rot_left (x : UInt32) (n : Int) (h0 : 1 ≤ n) (h1 : n ≤ 31) :
    bits BinOp.or IntKind.u32 (↑x.toNat * 2 ^ (32 - n).toNat % 4294967296) (↑x.toNat / 2 ^ n.toNat) = ((rotI x n).toNat : Int) := by
  obtain ⟨k, rfl⟩ := Int.eq_ofNat_of_zero_le (show 0 ≤ n by omega)
  have e : (32 - (k : Int)).toNat = 32 - k := by omega
  rw [e, Int.toNat_natCast, shl_u32 x (32 - k) (by omega), shr_u32 x k (by omega), bits_or_u32]
  have e2 : UInt32.ofNat (32 - k) = 32 - UInt32.ofNat k := by
    apply UInt32.toNat_inj.1
    rw [UInt32.toNat_sub_of_le]
    · simp; omega
    · rw [UInt32.le_iff_toNat_le]; simp; omega
  rw [e2, rotI, Sha.rotr, Int.toNat_natCast, UInt32.or_comm]
theorem rot_right (x : UInt32) (n : Int) (h0 : 1 ≤ n) (h1 : n ≤ 31) :
    bits BinOp.or IntKind.u32 (↑x.toNat / 2 ^ n.toNat) (↑x.toNat * 2 ^ (32 - n).toNat % 4294967296) = ((rotI x n).toNat : Int) := by
  rw [← rot_left x n h0 h1]
  obtain ⟨k, rfl⟩ := Int.eq_ofNat_of_zero_le (show 0 ≤ n by omega)
  have e : (32 - (k : Int)).toNat = 32 - k := by omega
  rw [e, Int.toNat_natCast, shl_u32 x (32 - k) (by omega), shr_u32 x k (by omega), bits_or_u32, bits_or_u32, UInt32.or_comm]

theorem ret_int {k : IntKind} {a b : Int} (h : a = b) : Ending.returned (.int k a) = .returned (.int k b) := by rw [h]

theorem turned_any (x : UInt32) (n : Int) (w : World) (h0 : 1 ≤ n) (h1 : n ≤ 31) :
    Calls Tryz.prog 82 #[.int .u32 x.toNat, .int .i64 n] w fun e w' => e = .returned (.int .u32 (rotI x n).toNat) ∧ w = w' := by
  have hb := bits_and31 (32 - n) (by omega) (by omega)
  go_enter Tryz.func82, Tryz.ntmps82
  go_wp2
  have e : (32 - (32 - n)) = n := by omega
  go_ret
  refine ⟨ret_int ?_, rfl⟩
  rw [← rot_left x n h0 h1]
  simp [e]
theorem turn_any (x : UInt32) (n : Int) (w : World) (h0 : 1 ≤ n) (h1 : n ≤ 31) :
    Calls Tryz.prog 62 #[.int .u32 x.toNat, .int .i64 n] w fun e w' => e = .returned (.int .u32 (rotI x n).toNat) ∧ ∃ n, w' = w.drewN n := by
  go_enter Tryz.func62, Tryz.ntmps62
  go_wp2
  go_quiet (fail)
  go_wp2
  go_ret
  exact ⟨ret_int (rot_right x n h0 h1), _, rfl⟩
section
attribute [local go_sem] w_or w_of8 w_shl24 w_shl16 w_shl8
theorem word_any (b o c : Nat) (l : List UInt8) (w : World) (hc : ∀ j, j < 4 → w.cell? ⟨b, o + j, none⟩ = some (.int .u8 (l.getD j 0).toNat)) :
    Calls Tryz.prog 61 #[.slice (some ⟨b, o, none⟩) 4 c] w fun e w' => e = .returned (.int .u32 (Sha.wordAt l 0).toNat) ∧ ∃ n, w' = w.drewN n := by
  have h0 := hc 0 (by omega)
  have h1 := hc 1 (by omega)
  have h2 := hc 2 (by omega)
  have h3 := hc 3 (by omega)
  clear hc
  simp only [Nat.add_zero] at h0
  go_enter Tryz.func61, Tryz.ntmps61
  go_wp2
  go_quiet (fail)
  go_wp2
  go_ret
  refine ⟨ret_int ?_, _, rfl⟩
  simp only [Sha.wordAt, List.getD_eq_getElem?_getD, Nat.zero_add]
  rfl
end
/-- words as cells -/
def w32 (x : UInt32) : Value := .int .u32 x.toNat
def w32s (l : List UInt32) : List Value := l.map w32
theorem w32s_start : w32s Sha.start.list = [.int .u32 1779033703, .int .u32 3144134277, .int .u32 1013904242, .int .u32 2773480762, .int .u32 1359893119, .int .u32 2600822924, .int .u32 528734635, .int .u32 1541459225] := rfl

theorem shabegin_any (w : World) : Calls Tryz.prog 58 #[] w fun e w' => e = .returned (.agg (w32s Sha.start.list).toArray) ∧ Below w.heap.size w w' := by
  go_enter Tryz.func58, Tryz.ntmps58
  go_wp2
  exact bodyPost_ret (v := .agg (w32s Sha.start.list).toArray) (by rw [w32s_start]; simp [results, Tryz.results58, go_sem]) rfl ⟨rfl, (Below.refl _ _).alloc (Nat.le_refl _) _⟩

end Go.Proofs.YtjjpecggcjggpaaGreatDoor
/- Plain laws on the words of a block: as they are gathered byte by byte in a row of 64, and stretched in place. -/
namespace Go.Proofs.YtjjpecggcjggpaaGreatDoor.Sha

theorem or4 (a b c d : UInt32) : or32 (shl32 (or32 (shl32 (or32 (shl32 (or32 (shl32 0 8) a) 8) b) 8) c) 8) d = a <<< 24 ||| b <<< 16 ||| c <<< 8 ||| d := by
  simp only [or32, shl32]
  apply UInt32.toBitVec_inj.1
  simp only [UInt32.toBitVec_or, UInt32.toBitVec_shiftLeft]
  have h8 : (8 : UInt32).toBitVec % 32 = 8#32 := rfl
  have h16 : (16 : UInt32).toBitVec % 32 = 16#32 := rfl
  have h24 : (24 : UInt32).toBitVec % 32 = 24#32 := rfl
  simp only [h8, h16, h24, BitVec.shiftLeft_or_distrib, BitVec.shiftLeft_eq', BitVec.toNat_ofNat, ← BitVec.shiftLeft_add]
  show (0#32) <<< _ ||| _ ||| _ ||| _ ||| _ = _
  simp

/-- the row of 64 words behind k bytes -/
def acc (l : List UInt8) : Nat → List UInt32
  | 0 => List.replicate 64 0
  | k + 1 => (acc l k).set (k / 4) (or32 (shl32 ((acc l k).getD (k / 4) 0) 8) (of8 (l.getD k 0)))
theorem acc_length (l : List UInt8) (k : Nat) : (acc l k).length = 64 := by
  induction k with
  | zero => rfl
  | succ k ih => rw [acc, List.length_set, ih]
theorem acc_four (l : List UInt8) (k : Nat) (hk : k < 64) (h0 : (acc l (4 * k)).getD k 0 = 0) : acc l (4 * (k + 1)) = (acc l (4 * k)).set k (wordAt l (4 * k)) := by
  have hl := acc_length l (4 * k)
  have e : 4 * (k + 1) = 4 * k + 1 + 1 + 1 + 1 := by omega
  have d0 : 4 * k / 4 = k := by omega
  have d1 : (4 * k + 1) / 4 = k := by omega
  have d2 : (4 * k + 1 + 1) / 4 = k := by omega
  have d3 : (4 * k + 1 + 1 + 1) / 4 = k := by omega
  rw [e]
  simp only [acc, d0, d1, d2, d3, List.set_set]
  have g : ∀ x : UInt32, ((acc l (4 * k)).set k x).getD k 0 = x := fun x => by
    rw [List.getD_eq_getElem?_getD, List.getElem?_set_self (by omega)]; rfl
  simp only [g, h0, or4, wordAt]
  rfl
theorem acc_words (l : List UInt8) : ∀ k, k ≤ 16 → acc l (4 * k) = ((List.range k).map fun i => wordAt l (4 * i)) ++ List.replicate (64 - k) 0 := by
  intro k
  induction k with
  | zero => intro _; rfl
  | succ k ih =>
    intro hk
    have ih := ih (by omega)
    rw [acc_four l k (by omega), ih, List.range_succ, List.map_append]
    · have e : 64 - k = (64 - (k + 1)) + 1 := by omega
      rw [e, List.replicate_succ, List.set_append_right _ _ (by simp)]
      simp
    · rw [ih, List.getD_eq_getElem?_getD, List.getElem?_append_right (by simp), List.getElem?_replicate]
      split <;> rfl
/-- the row of 64 words with n + 16 of them told -/
def row (l : List UInt8) (n : Nat) : List UInt32 := words l n ++ List.replicate (48 - n) 0
theorem acc_row (l : List UInt8) : acc l 64 = row l 0 := acc_words l 16 (by omega)
theorem words_length (l : List UInt8) (n : Nat) : (words l n).length = n + 16 := by
  induction n with
  | zero => simp [words]
  | succ n ih => simp only [words, List.length_append, ih, List.length_singleton]
theorem row_length (l : List UInt8) (n : Nat) (h : n ≤ 48) : (row l n).length = 64 := by simp only [row, List.length_append, words_length, List.length_replicate]; omega
theorem row_getD (l : List UInt8) (n j : Nat) (h : j < n + 16) : (row l n).getD j 0 = (words l n).getD j 0 := by
  rw [row, List.getD_eq_getElem?_getD, List.getElem?_append_left (by rw [words_length]; exact h), ← List.getD_eq_getElem?_getD]
theorem row_succ (l : List UInt8) (n : Nat) (h : n < 48) : row l (n + 1) = (row l n).set (n + 16) (nextWord (row l n) n) := by
  have e : 48 - n = (48 - (n + 1)) + 1 := by omega
  have hw := words_length l n
  have hn : nextWord (row l n) n = nextWord (words l n) n := by
    simp only [nextWord, row_getD l n n (by omega), row_getD l n (n + 1) (by omega), row_getD l n (n + 9) (by omega), row_getD l n (n + 14) (by omega)]
  rw [hn, row, row, words, e, List.replicate_succ, List.set_append_right _ _ (by omega), hw]
  simp
theorem row_full (l : List UInt8) : row l 48 = words l 48 := by simp [row]
/-! blocks one behind the other -/
theorem blocks_congr (n : Nat) : ∀ (s : S8) (l l' : List UInt8), l.take (64 * n) = l'.take (64 * n) → blocks n s l = blocks n s l' := by
  induction n with
  | zero => intros; rfl
  | succ n ih =>
    intro s l l' h
    have h1 : l.take 64 = l'.take 64 := by
      have := congrArg (List.take 64) h
      rwa [List.take_take, List.take_take, Nat.min_eq_left (by omega)] at this
    have h2 : (l.drop 64).take (64 * n) = (l'.drop 64).take (64 * n) := by
      have := congrArg (List.drop 64) h
      rw [List.drop_take, List.drop_take, show 64 * (n + 1) - 64 = 64 * n by omega] at this
      exact this
    rw [blocks, blocks, h1, ih _ _ _ h2]
theorem blocks_add (m : Nat) : ∀ (n : Nat) (s : S8) (l : List UInt8), blocks (n + m) s l = blocks m (blocks n s l) (l.drop (64 * n))
  | 0, s, l => by simp [blocks]
  | n + 1, s, l => by
    rw [show n + 1 + m = (n + m) + 1 by omega, blocks, blocks, blocks_add m n, List.drop_drop, show 64 + 64 * n = 64 * (n + 1) by omega]
theorem blocks_succ (n : Nat) (s : S8) (l : List UInt8) : blocks (n + 1) s l = block (blocks n s l) ((l.drop (64 * n)).take 64) := by
  rw [blocks_add 1 n, blocks, blocks]
end Go.Proofs.YtjjpecggcjggpaaGreatDoor.Sha
/- The walk of spread: a block of 64 bytes as 64 words. -/
namespace Go.Proofs.YtjjpecggcjggpaaGreatDoor
open Go.RowKit

theorem w32s_get (l : List UInt32) {j : Nat} (h : j < l.length) : (w32s l)[j]? = some (.int .u32 (l.getD j 0).toNat) := by
  rw [w32s, List.getElem?_map, List.getElem?_eq_getElem h, List.getD_eq_getElem?_getD, List.getElem?_eq_getElem h]; rfl
theorem w32s_set (l : List UInt32) (j : Nat) (x : UInt32) : (w32s l).toArray.setIfInBounds j (.int .u32 x.toNat) = (w32s (l.set j x)).toArray := by
  rw [w32s, w32s, List.map_set, List.setIfInBounds_toArray]; rfl
theorem w32s_length (l : List UInt32) : (w32s l).length = l.length := by simp [w32s]

theorem w32s_one (l : List UInt32) : ∀ v ∈ w32s l, v.oneCell' = true := by
  intro v hv
  obtain ⟨x, _, rfl⟩ := List.mem_map.1 hv
  rfl
theorem info_w64 : (Tryz.prog.info? 123).map (·.size) = some 64 := by kernel_rfl
theorem info_w64' {l : List UInt32} (h : l.length = 64) : (Tryz.prog.info? 123).map (·.size) = some (w32s l).length := by rw [w32s_length, h]; exact info_w64
theorem fit_w {l m : List UInt32} (h : l.length = m.length) : 0 + (w32s l).length ≤ (w32s m).toArray.size := by
  rw [List.size_toArray, w32s_length, w32s_length, h]; omega
/-- an element of an array of words, by value -/
theorem run_index_w {P : Program} (T E n : TypeId) (hT : P.underlying T = some (.array n E)) (hE : P.underlying E = some (.int .u32)) (hS : (P.info? E).map (·.size) = some 1) (l : List UInt32) (k : Nat) (hk : k < l.length) (hn : l.length = n) (w : World) :
    (Instr.index T (.agg (w32s l).toArray) (.int .i64 k)).run P w = .ok (.int .u32 (l.getD k 0).toNat) w := by
  cases hq : P.info? E with
  | none => simp [hq] at hS
  | some i =>
    have hs : i.size = 1 := by simpa [hq] using hS
    have hc := w32s_get l hk
    simp [Instr.index, asIntOf, run_underlying hT, sizeOf, typeInfo, hq, hs, part, isAgg, run_underlying hE]
    rw [hc]
    simp
    intro h
    omega
/-- block g is the row of words l -/
def Words (w : World) (g : Nat) (t : TypeId) (l : List UInt32) : Prop := w.heap[g]? = some (.cells (w32s l).toArray t (0, 0))
section
variable {w w' : World} {g : Nat} {t : TypeId} {l : List UInt32}
theorem Words.cell (h : Words w g t l) {j : Nat} (hj : j < l.length) : w.cell? ⟨g, j, none⟩ = some (.int .u32 (l.getD j 0).toNat) := by
  rw [cell_of_row w g j _ t _ h, List.getElem?_toArray, w32s_get l hj]
theorem Words.frozen (h : Words w g t l) (j : Nat) : w.frozen? ⟨g, j, none⟩ = false := frozen_of_row w g j _ t h
theorem Words.set (h : Words w g t l) (j : Nat) (x : UInt32) : Words (w.setCell ⟨g, j, none⟩ (.int .u32 x.toNat)) g t (l.set j x) := by
  unfold Words
  rw [heap_setCell_same w g j _ t _ h, w32s_set]
theorem Words.lt (h : Words w g t l) : g < w.heap.size := heap_lt h
end

/-- the two blocks that spread makes: the result's, untouched, and the row of words; all that was there is as it was -/
def Spr (w wr : World) (L : List UInt32) : Prop :=
  Words wr w.heap.size 123 (List.replicate 64 0) ∧ Words wr (w.heap.size + 1) 123 L ∧ Below w.heap.size w wr
theorem Spr.start (w : World) : Spr w ((w.alloc (.cells (w32s (List.replicate 64 0)).toArray 123)).alloc (.cells (w32s (List.replicate 64 0)).toArray 123)) (List.replicate 64 0) :=
  ⟨heap_alloc2_old w _ _, heap_alloc2_new w _ _, ((Below.refl _ _).alloc (Nat.le_refl _) _).alloc (by simp) _⟩
theorem Spr.set {w wr : World} {L : List UInt32} (h : Spr w wr L) (j : Nat) (x : UInt32) : Spr w (wr.setCell ⟨w.heap.size + 1, j, none⟩ (.int .u32 x.toNat)) (L.set j x) :=
  ⟨(heap_setCell_other wr _ _ _ (by simp)).trans h.1, h.2.1.set j x, h.2.2.setCell (by simp) _⟩
theorem Spr.drewN {w wr : World} {L : List UInt32} (h : Spr w wr L) (n : Nat) : Spr w (wr.drewN n) L := ⟨h.1, h.2.1, below_drewN h.2.2 n⟩
theorem Spr.drew {w wr : World} {L : List UInt32} (h : Spr w wr L) : Spr w wr.drew L := h.drewN 1

section
attribute [local go_sem] w_or w_or8 w_of8 w_shl8 w_add w_xor w_shr3 w_shr10
set_option maxHeartbeats 800000 in
set_option maxRecDepth 100000 in
theorem spread_any (b o c : Nat) (l : List UInt8) (w : World) (hb : b < w.heap.size) (hc : ∀ j, j < 64 → w.cell? ⟨b, o + j, none⟩ = some (.int .u8 (l.getD j 0).toNat)) :
    Calls Tryz.prog 81 #[.slice (some ⟨b, o, none⟩) 64 c] w fun e w' => e = .returned (.agg (w32s (Sha.words l 48)).toArray) ∧ Below w.heap.size w w' := by
  have HC := Lib.hid hc
  clear hc
  go_enter Tryz.func81, Tryz.ntmps81
  go_wp2
  go_loopw [13] (fun i wr => ∃ k : Nat, k ≤ 64 ∧ i = .int .i64 k ∧ Spr w wr (Sha.acc l k)) (fun i _ => 64 - (intOf i).toNat)
  case atStart => exact ⟨0, by omega, rfl, Spr.start w⟩
  case round =>
    obtain ⟨k, hk, rfl, hS⟩ := hrel
    by_cases hlt : k < 64
    · have hcell := (hS.2.2.cell (p := ⟨b, o + k, none⟩) hb).trans (HC.out k hlt)
      have hw := hS.2.1.cell (j := k / 4) (by rw [Sha.acc_length]; omega)
      have hf := hS.2.1.frozen (k / 4)
      go_wp2
      go_roundw
      case rel => exact ⟨k + 1, by omega, by go_num, hS.set (k / 4) _⟩
      case measure => simp [intOf]; omega
    · have HK : Hid (k = 64) := by exact (by omega : k = 64)
      rw [HK.out, Sha.acc_row] at hS
      go_wp2
      go_loopw [6] (fun i wr => ∃ n : Nat, n ≤ 48 ∧ i = .int .i64 ((n : Int) + 16) ∧ Spr w wr (Sha.row l n)) (fun i _ => 64 - (intOf i).toNat)
      case atStart => exact ⟨0, by omega, rfl, hS⟩
      case round =>
        clear hS
        obtain ⟨n, hn, rfl, hS⟩ := hrel
        by_cases hlt : n < 48
        · have hl := Sha.row_length l n (by omega)
          have c0 := hS.2.1.cell (j := n) (by omega)
          have c1 := hS.2.1.cell (j := n + 1) (by omega)
          have c9 := hS.2.1.cell (j := n + 9) (by omega)
          have c14 := hS.2.1.cell (j := n + 14) (by omega)
          have c16 := hS.2.1.cell (j := n + 16) (by omega)
          have hf := hS.2.1.frozen (n + 16)
          clear hl
          have hlt' : (n : Int) + 16 < 64 := by omega
          go_wp2
          go_quiet (fail)
          go_wp2_with (go_at_call 82; refine (turned_any _ _ _ (by omega) (by omega)).mono ?_; rintro e w' ⟨rfl, rfl⟩)
          go_region
          go_wp2
          go_roundw
          case rel => exact ⟨n + 1, by omega, by go_num, by rw [Sha.row_succ l n hlt]; exact (hS.drewN _).set _ _⟩
          case measure => simp [intOf]; omega
        · have HN : Hid (n = 48) := by exact (by omega : n = 48)
          rw [HN.out, Sha.row_full] at hS
          have h1 := Lib.hid (show wr.heap[w.heap.size]? = some (.cells (w32s (List.replicate 64 0)).toArray _ (0, 0)) from hS.1)
          have h2 := Lib.hid (show wr.heap[w.heap.size + 1]? = some (.cells (w32s (Sha.words l 48)).toArray _ (0, 0)) from hS.2.1)
          have HS := Lib.hid hS.2.2
          clear hS
          go_wp2_with (first
            | (with_reducible refine wpList_load_lit (w.heap.size + 1) 0 _ _ _ h2.out (w32s (Sha.words l 48)) (fun j _ => getElem?_zero_add _ j) _ Tryz.underlying123 (info_w64' (Sha.words_length l 48)) ?_ ?_; exact ⟨rfl, rfl⟩)
            | (with_reducible refine wpList_store_lit w.heap.size 0 (.agg (w32s (Sha.words l 48)).toArray) (w32s (Sha.words l 48)) (agg_cells _) _ _ h1.out (info_w64' (Sha.words_length l 48)) (fit_w ((Sha.words_length l 48).trans List.length_replicate.symm)) (w32s_one _) ?_ ?_; exact ⟨rfl, rfl⟩))
          have hr := setRow_heap wr w.heap.size _ (laid (w32s (List.replicate 64 0)).toArray 0 (w32s (Sha.words l 48))) _ _ h1.out
          rw [laid_all (by rw [w32s_length, Sha.words_length, List.size_toArray, w32s_length, List.length_replicate])] at hr
          have HR := Lib.hid hr
          clear hr
          refine bodyPost_ret (v := .agg (w32s (Sha.words l 48)).toArray) ?_ rfl ⟨rfl, below_setRow HS.out (Nat.le_refl _) _⟩
          rw [laid_all (by rw [w32s_length, Sha.words_length, List.size_toArray, w32s_length, List.length_replicate])]
          exact results_cell_row rfl _ _ w.heap.size 123 _ (0, 0) _ rfl HR.out Tryz.underlying123 rfl (by rw [List.size_toArray]; exact info_w64' (Sha.words_length l 48))
end
end Go.Proofs.YtjjpecggcjggpaaGreatDoor
/- The walks of the two tables of constants. -/
namespace Go.Proofs.YtjjpecggcjggpaaGreatDoor
open Go.RowKit
theorem info_ks : (Tryz.prog.info? 123).map (·.size) = some (w32s Sha.ks).length := by kernel_rfl
theorem fit_ks : 0 + (w32s Sha.ks).length ≤ (Array.size #[Value.int .u32 0, Value.int .u32 0, Value.int .u32 0, Value.int .u32 0, Value.int .u32 0, Value.int .u32 0, Value.int .u32 0, Value.int .u32 0, Value.int .u32 0, Value.int .u32 0, Value.int .u32 0, Value.int .u32 0, Value.int .u32 0, Value.int .u32 0, Value.int .u32 0, Value.int .u32 0, Value.int .u32 0, Value.int .u32 0, Value.int .u32 0, Value.int .u32 0, Value.int .u32 0, Value.int .u32 0, Value.int .u32 0, Value.int .u32 0, Value.int .u32 0, Value.int .u32 0, Value.int .u32 0, Value.int .u32 0, Value.int .u32 0, Value.int .u32 0, Value.int .u32 0, Value.int .u32 0, Value.int .u32 0, Value.int .u32 0, Value.int .u32 0, Value.int .u32 0, Value.int .u32 0, Value.int .u32 0, Value.int .u32 0, Value.int .u32 0, Value.int .u32 0, Value.int .u32 0, Value.int .u32 0, Value.int .u32 0, Value.int .u32 0, Value.int .u32 0, Value.int .u32 0, Value.int .u32 0, Value.int .u32 0, Value.int .u32 0, Value.int .u32 0, Value.int .u32 0, Value.int .u32 0, Value.int .u32 0, Value.int .u32 0, Value.int .u32 0, Value.int .u32 0, Value.int .u32 0, Value.int .u32 0, Value.int .u32 0, Value.int .u32 0, Value.int .u32 0, Value.int .u32 0, Value.int .u32 0]) := by decide
set_option maxRecDepth 100000 in
theorem constants_any (w : World) : Calls Tryz.prog 80 #[] w fun e w' => e = .returned (.agg (w32s Sha.ks).toArray) ∧ Below w.heap.size w w' := by
  go_enter Tryz.func80, Tryz.ntmps80
  go_wp2_with (first
    | (with_reducible refine wpList_build_lit (w32s Sha.ks).toArray ?_ ?_; kernel_rfl)
    | (with_reducible refine wpList_store_lit w.heap.size 0 (.agg (w32s Sha.ks).toArray) (w32s Sha.ks) (agg_cells _) _ _ (heap_alloc_new w _) info_ks fit_ks (w32s_one _) ?_ ?_; exact ⟨rfl, rfl⟩))
  refine bodyPost_ret (v := .agg (w32s Sha.ks).toArray) (results_cell_row rfl _ _ w.heap.size 123 _ (0, 0) _ rfl (setRow_heap _ _ _ _ _ _ (heap_alloc_new w _)) Tryz.underlying123 rfl (by kernel_rfl)) rfl ⟨rfl, below_setRow ((Below.refl _ _).alloc (Nat.le_refl _) _) (Nat.le_refl _) _⟩

theorem ks_any (w : World) : Calls Tryz.prog 60 #[] w fun e w' => ∃ A, e = .returned (.slice A 64 64) ∧ Rd w' 1 A 64 (w32s Sha.ks) ∧ Below w.heap.size w w' := by
  go_enter Tryz.func60, Tryz.ntmps60
  go_wp2
  go_ret
  exact ⟨_, rfl, Rd.of_lit w (w32s Sha.ks).toArray _ 1 64 (by decide) (by decide), (Below.refl _ _).alloc (Nat.le_refl _) _⟩
end Go.Proofs.YtjjpecggcjggpaaGreatDoor
