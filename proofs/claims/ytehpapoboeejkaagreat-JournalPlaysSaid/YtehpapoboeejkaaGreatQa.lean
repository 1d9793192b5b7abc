/- Words for memory: a slice that reads as a list, a slice that the call owns (at whatever offset), one law on append for both kinds of sources. Nothing of the program is named. -/
import Derived.WalkKit
import Derived.Lib.Hide
import Derived.RegionTactic
import Derived.Deep.QuietTactic
import Derived.Laws.IdiomStrings
import Derived.Deep.DeepMust
import Derived.Deep.LoopGhost
import Derived.OwnWalk
import Derived.StillTailTactics
import Derived.BigRegion
import Derived.Outline
import Derived.Laws.Concat
import Derived.Maps.Ext
import Derived.Maps.OwnSet
import Derived.Sort.KeysCollected
import Derived.Test.YtehpapoboeejkaaGreatChecked
set_option linter.unusedSimpArgs false
set_option linter.unusedVariables false
namespace Go.Proofs.YtehpapoboeejkaaGreat
open Go.RowKit

theorem addr_add (b o i : Nat) : (⟨b, o, none⟩ : Addr).add i = ⟨b, o + i, none⟩ := by
  unfold Addr.add
  split
  · subst_vars; rfl
  · rfl

/-- the slice with address A and n elements of sz cells each reads as the cells xs -/
def Rd (w : World) (sz : Nat) (A : Option Addr) (n : Nat) (xs : List Value) : Prop :=
  xs.length = n * sz ∧ (0 < n → ∃ b o, A = some ⟨b, o, none⟩ ∧ ∀ j u, xs[j]? = some u → w.cell? ⟨b, o + j, none⟩ = some u)

/-- no cell of a row of n cells is frozen by this mark: there is none, or it is the one of '[]byte(s)', behind the row's end -/
def Free (fr : Nat × Nat) (n : Nat) : Prop := fr = (0, 0) ∨ fr = (n, n + 1)
theorem Free.cell {fr : Nat × Nat} {w : World} {b j : Nat} {cur : Array Value} {t : TypeId} (h : Free fr cur.size) (hb : w.heap[b]? = some (.cells cur t fr)) (hj : j < cur.size) : w.frozen? ⟨b, j, none⟩ = false := by
  rcases h with rfl | rfl <;> simp [World.frozen?, hb]
  omega
theorem run_storeCells_free (P : Program) (g o : Nat) (t : TypeId) (fr : Nat × Nat) : ∀ (vs : List Value) (i : Nat) (cur : Array Value) (w : World), Free fr cur.size → w.heap[g]? = some (.cells cur t fr) → o + i + vs.length ≤ cur.size → (∀ v ∈ vs, v.oneCell' = true) →
    (storeCells ⟨g, o, none⟩ vs i).run P w = .ok () (w.setRow g (cur.toList.take (o + i) ++ vs ++ cur.toList.drop (o + i + vs.length)).toArray)
  | [], i, cur, w, _, hg, _, _ => by
    simp only [storeCells, List.append_nil, List.length_nil, Nat.add_zero, List.take_append_drop, Array.toArray_toList]
    rw [setRow_self w g cur t fr hg]
    rfl
  | v :: rest, i, cur, w, hfr, hg, hl, h1 => by
    have hi : o + i < cur.size := by simp at hl; omega
    have hcell : w.cell? ⟨g, o + i, none⟩ = some cur[o + i] := by simp [World.cell?, hg, hi]
    have hfro : w.frozen? ⟨g, o + i, none⟩ = false := hfr.cell hg hi
    have hst : (store ((⟨g, o, none⟩ : Addr).add i) v).run P w = .ok () (w.setRow g (cur.setIfInBounds (o + i) v)) := by
      rw [addr_add, run_store P w _ v _ (h1 v (by simp)), hcell]
      simp [hfro, setCell_eq_setRow w g (o + i) cur t fr v hg]
    have ih := run_storeCells_free P g o t fr rest (i + 1) (cur.setIfInBounds (o + i) v) (w.setRow g (cur.setIfInBounds (o + i) v)) (by rw [Array.size_setIfInBounds]; exact hfr) (setRow_heap w g cur _ t _ hg) (by simp at hl ⊢; omega) (fun x hx => h1 x (by simp [hx]))
    simp only [storeCells, Sem.run_bind, hst, Result.andThen_ok, ih, setRow_setRow]
    congr 3
    have e := list_seg_step cur.toList (o + i) v rest (by simp at hl ⊢; omega)
    simpa [Array.toList_setIfInBounds, Nat.add_assoc] using e
/-- the slice (A, n, c) is nil, or lies in memory of the call's own (blocks from base on), and reads as the cells xs -/
def Own (w : World) (base : Nat) (t : TypeId) (sz : Nat) (A : Option Addr) (n c : Nat) (xs : List Value) : Prop :=
  xs.length = n * sz ∧ n ≤ c ∧ c ≤ maxLen ∧ ((A = none ∧ c = 0) ∨ ∃ b o cur fr, A = some ⟨b, o, none⟩ ∧ base ≤ b ∧ w.heap[b]? = some (.cells cur t fr) ∧ Free fr cur.size ∧ o + c * sz ≤ cur.size ∧ ∀ j, j < n * sz → cur[o + j]? = xs[j]?)

def blockOf (A : Option Addr) : Option Nat := A.map (·.block)

section
variable {w w' : World} {base sz n c : Nat} {t : TypeId} {A : Option Addr} {xs : List Value}

theorem heap_lt {b : Nat} {o : Obj} (h : w.heap[b]? = some o) : b < w.heap.size := by
  rcases Nat.lt_or_ge b w.heap.size with hlt | hge
  · exact hlt
  · rw [Array.getElem?_eq_none hge] at h; cases h

theorem Own.at_ (h : Own w base t sz A n c xs) (h0 : 0 < c) : ∃ b o cur fr, A = some ⟨b, o, none⟩ ∧ base ≤ b ∧ w.heap[b]? = some (.cells cur t fr) ∧ Free fr cur.size ∧ o + c * sz ≤ cur.size ∧ ∀ j, j < n * sz → cur[o + j]? = xs[j]? := by
  rcases h.2.2.2 with ⟨_, hc⟩ | h
  · omega
  · exact h
theorem Own.rd (h : Own w base t sz A n c xs) : Rd w sz A n xs := by
  have hA := h.at_
  obtain ⟨hl, hn, hm, _⟩ := h
  refine ⟨hl, fun h0 => ?_⟩
  obtain ⟨b, o, cur, fr, rfl, _, hb, _, hs, hx⟩ := hA (by omega)
  refine ⟨b, o, rfl, fun j u hu => ?_⟩
  have hj : j < xs.length := by
    rcases Nat.lt_or_ge j xs.length with hlt | hge
    · exact hlt
    · rw [List.getElem?_eq_none hge] at hu; cases hu
  rw [cell_of_row w b _ cur t _ hb, hx j (by omega), hu]

theorem Own.nil (w : World) (base : Nat) (t : TypeId) (sz : Nat) : Own w base t sz none 0 0 [] := ⟨by simp, by simp, by simp, .inl ⟨rfl, rfl⟩⟩
theorem Own.block (h : Own w base t sz A n c xs) : ∀ b, blockOf A = some b → base ≤ b ∧ b < w.heap.size ∧ ∃ cur fr, w.heap[b]? = some (.cells cur t fr) := by
  intro b hb
  rcases h.2.2.2 with ⟨rfl, _⟩ | ⟨b', o, cur, fr, rfl, hbb, hg, _⟩
  · simp [blockOf] at hb
  · simp only [blockOf, Option.map_some, Option.some.injEq] at hb
    subst hb
    exact ⟨hbb, heap_lt hg, cur, fr, hg⟩
/-- its block is none of another element type -/
theorem Own.ne {g : Nat} {t' : TypeId} {cs : Array Value} {fr : Nat × Nat} (h : Own w base t sz A n c xs) (hg : w.heap[g]? = some (.cells cs t' fr)) (hne : t ≠ t') : blockOf A ≠ some g := by
  intro e
  obtain ⟨_, _, cur, _, hc⟩ := h.block g e
  rw [hg] at hc
  injection hc with hc
  injection hc with _ ht
  exact hne ht.symm
/-- kept where the block of its own is as it was -/
theorem Own.keep (h : Own w base t sz A n c xs) (hk : ∀ b, blockOf A = some b → base ≤ b → b < w.heap.size → w'.heap[b]? = w.heap[b]?) : Own w' base t sz A n c xs := by
  obtain ⟨hl, hn, hm, hc⟩ := h
  refine ⟨hl, hn, hm, ?_⟩
  rcases hc with hc | ⟨b, o, cur, fr, rfl, hb, hg, hf, hs, hx⟩
  · exact .inl hc
  · exact .inr ⟨b, o, cur, fr, rfl, hb, (hk b rfl hb (heap_lt hg)).trans hg, hf, hs, hx⟩
theorem Own.drewN (h : Own w base t sz A n c xs) (k : Nat) : Own (w.drewN k) base t sz A n c xs := h
theorem Own.drew (h : Own w base t sz A n c xs) : Own w.drew base t sz A n c xs := h
theorem Own.alloc (h : Own w base t sz A n c xs) (o : Obj) : Own (w.alloc o) base t sz A n c xs := h.keep fun _ _ _ hb => Below.heap_alloc w o _ hb
theorem Own.mono {base' : Nat} (h : Own w base t sz A n c xs) (hb : base' ≤ base) : Own w base' t sz A n c xs := by
  obtain ⟨hl, hn, hm, hc⟩ := h
  refine ⟨hl, hn, hm, ?_⟩
  rcases hc with hc | ⟨b, o, cur, fr, rfl, hb', r⟩
  · exact .inl hc
  · exact .inr ⟨b, o, cur, fr, rfl, by omega, r⟩
theorem Own.below {B : Nat} (h : Own w base t sz A n c xs) (hb : Below B w w') (hB : w.heap.size ≤ B) : Own w' base t sz A n c xs := h.keep fun _ _ _ hlt => hb.block _ (by omega)
theorem Own.setOther (h : Own w base t sz A n c xs) {p : Addr} (hp : blockOf A ≠ some p.block) (u : Value) : Own (w.setCell p u) base t sz A n c xs :=
  h.keep fun b hb _ _ => Below.heap_setCell w p u b (fun e => hp (by rw [hb, e]))
theorem Own.grown {row : Option Nat} (h : Own w base t sz A n c xs) (hg : w.grownBy w' row) (hr : ∀ b, blockOf A = some b → some b ≠ row) : Own w' base t sz A n c xs :=
  h.keep fun b hb _ hlt => hg.block b hlt (hr b hb)
/-- 's[k:]' as the model writes it -/
theorem Own.drop (h : Own w base t sz A n c xs) {k : Nat} (hk : k ≤ n) : Own w base t sz (if c = k then A else A.map (·.add (k * sz))) (n - k) (c - k) (xs.drop (k * sz)) := by
  obtain ⟨hl, hn, hm, hc⟩ := h
  refine ⟨by rw [List.length_drop, hl, Nat.sub_mul], by omega, by omega, ?_⟩
  rcases hc with ⟨rfl, hc⟩ | ⟨b, o, cur, fr, rfl, hb, hg, hf, hs, hx⟩
  · exact .inl ⟨by simp, by omega⟩
  · right
    by_cases hck : c = k
    · rw [if_pos hck]
      refine ⟨b, o, cur, fr, rfl, hb, hg, hf, by rw [hck, Nat.sub_self]; omega, fun j hj => ?_⟩
      rw [show n - k = 0 by omega] at hj
      omega
    · rw [if_neg hck]
      refine ⟨b, o + k * sz, cur, fr, by simp [addr_add], hb, hg, hf, ?_, fun j hj => ?_⟩
      · rw [Nat.sub_mul]
        have : k * sz ≤ c * sz := Nat.mul_le_mul_right _ (by omega)
        omega
      · have hks : k * sz ≤ n * sz := Nat.mul_le_mul_right _ hk
        rw [Nat.sub_mul] at hj
        have := hx (k * sz + j) (by omega)
        rw [List.getElem?_drop, ← this]
        congr 1; omega
/-- 's[:k]' within the length -/
theorem Own.take (h : Own w base t sz A n c xs) {k : Nat} (hk : k ≤ n) : Own w base t sz A k c (xs.take (k * sz)) := by
  obtain ⟨hl, hn, hm, hc⟩ := h
  have hks : k * sz ≤ n * sz := Nat.mul_le_mul_right _ hk
  refine ⟨by rw [List.length_take, hl]; omega, by omega, hm, ?_⟩
  rcases hc with hc | ⟨b, o, cur, fr, rfl, hb, hg, hf, hs, hx⟩
  · exact .inl hc
  · refine .inr ⟨b, o, cur, fr, rfl, hb, hg, hf, hs, fun j hj => ?_⟩
    rw [hx j (by omega), List.getElem?_take, if_pos hj]
/-- a block that was made now, read from its head -/
theorem Own.made (w : World) (cs : Array Value) (t : TypeId) (sz n c : Nat) (base : Nat) (hb : base ≤ w.heap.size) (hn : n ≤ c) (hm : c ≤ maxLen) (hs : cs.size = c * sz) :
    Own (w.alloc (.cells cs t)) base t sz (some ⟨w.heap.size, 0, none⟩) n c (cs.toList.take (n * sz)) := by
  have : n * sz ≤ c * sz := Nat.mul_le_mul_right _ hn
  refine ⟨by rw [List.length_take, Array.length_toList, hs]; omega, hn, hm, .inr ⟨w.heap.size, 0, cs, (0, 0), rfl, hb, heap_alloc_new w _, .inl rfl, by omega, fun j hj => ?_⟩⟩
  rw [List.getElem?_take, if_pos hj, Nat.zero_add]
  simp
theorem Own.lit (w : World) (cs : Array Value) (t : TypeId) (sz n : Nat) (base : Nat) (hb : base ≤ w.heap.size) (hm : n ≤ maxLen) (hs : cs.size = n * sz) :
    Own (w.alloc (.cells cs t)) base t sz (some ⟨w.heap.size, 0, none⟩) n n cs.toList := by
  have h := Own.made w cs t sz n n base hb (Nat.le_refl _) hm hs
  rw [List.take_of_length_le (by simp [hs])] at h
  exact h
theorem Rd.of_lit (w : World) (cs : Array Value) (t : TypeId) (sz n : Nat) (hm : n ≤ maxLen) (hs : cs.size = n * sz) : Rd (w.alloc (.cells cs t)) sz (some ⟨w.heap.size, 0, none⟩) n cs.toList :=
  (Own.lit w cs t sz n 0 (Nat.zero_le _) hm hs).rd
theorem Rd.keep (h : Rd w sz A n xs) (hk : ∀ b o u, blockOf A = some b → w.cell? ⟨b, o, none⟩ = some u → w'.cell? ⟨b, o, none⟩ = some u) : Rd w' sz A n xs := by
  obtain ⟨hl, hc⟩ := h
  refine ⟨hl, fun h0 => ?_⟩
  obtain ⟨b, o, rfl, hx⟩ := hc h0
  exact ⟨b, o, rfl, fun j u hu => hk b _ _ rfl (hx j u hu)⟩
theorem Rd.alloc (h : Rd w sz A n xs) (o : Obj) : Rd (w.alloc o) sz A n xs := h.keep fun b o' u _ hu => by
  rw [World.cell?_alloc_lt _ _ _ (World.block_lt_of_cell? w _ hu)]; exact hu
theorem Rd.drewN (h : Rd w sz A n xs) (k : Nat) : Rd (w.drewN k) sz A n xs := h
theorem Rd.drew (h : Rd w sz A n xs) : Rd w.drew sz A n xs := h
theorem Rd.below {B : Nat} (h : Rd w sz A n xs) (hb : Below B w w') (hB : ∀ b, blockOf A = some b → b < w.heap.size → b < B) : Rd w' sz A n xs := h.keep fun b o' u hbl hu => by
  rw [hb.cell (p := ⟨b, o', none⟩) (hB b hbl (World.block_lt_of_cell? w _ hu))]; exact hu
theorem Rd.below_all (h : Rd w sz A n xs) (hb : Below w.heap.size w w') : Rd w' sz A n xs := h.below hb fun _ _ h => h
theorem Rd.none_ (w : World) (sz : Nat) (A : Option Addr) : Rd w sz A 0 [] := ⟨by simp, fun h => absurd h (by omega)⟩
theorem Rd.drop (h : Rd w sz A n xs) {k c : Nat} (hk : k ≤ n) (hc : n ≤ c) : Rd w sz (if c = k then A else A.map (·.add (k * sz))) (n - k) (xs.drop (k * sz)) := by
  obtain ⟨hl, hq⟩ := h
  refine ⟨by rw [List.length_drop, hl, Nat.sub_mul], fun h0 => ?_⟩
  obtain ⟨b, o, rfl, hx⟩ := hq (by omega)
  rw [if_neg (by omega)]
  refine ⟨b, o + k * sz, by simp [addr_add], fun j u hu => ?_⟩
  rw [Nat.add_assoc]
  exact hx _ u (by rw [← hu, List.getElem?_drop])
theorem Rd.take (h : Rd w sz A n xs) {k : Nat} (hk : k ≤ n) : Rd w sz A k (xs.take (k * sz)) := by
  obtain ⟨hl, hq⟩ := h
  have hks : k * sz ≤ n * sz := Nat.mul_le_mul_right _ hk
  refine ⟨by rw [List.length_take, hl]; omega, fun h0 => ?_⟩
  obtain ⟨b, o, rfl, hx⟩ := hq (by omega)
  refine ⟨b, o, rfl, fun j u hu => hx j u ?_⟩
  rw [List.getElem?_take] at hu
  split at hu
  · exact hu
  · cases hu
theorem Rd.cell (h : Rd w sz A n xs) {j : Nat} (hj : j < xs.length) : ∃ b o, A = some ⟨b, o, none⟩ ∧ w.cell? ⟨b, o + j, none⟩ = some xs[j] := by
  obtain ⟨b, o, rfl, hx⟩ := h.2 (Nat.pos_of_ne_zero fun h0 => by have := h.1; subst h0; omega)
  exact ⟨b, o, rfl, hx j _ (List.getElem?_eq_getElem hj)⟩
end

/-- what append reads of its source: m elements of sz cells, the cells news -/
def Src (P : Program) (w : World) (u : TypeId) (sz : Nat) (x : Value) (m : Nat) (news : List Value) : Prop :=
  news.length = m * sz ∧ ((∃ e, P.underlying u = some (.slice e)) ∨ P.underlying u = some .string) ∧ (∀ k, (Builtin.lenOf x).run P (w.drewN k) = .ok m (w.drewN k)) ∧ ∀ k, (Builtin.firstCells sz m x).run P (w.drewN k) = .ok news.toArray (w.drewN k)

section
variable {P : Program} {w : World}
theorem Src.slice {sz m c : Nat} {A : Option Addr} {news : List Value} {u e : TypeId} (hu : P.underlying u = some (.slice e)) (h : Rd w sz A m news) : Src P w u sz (.slice A m c) m news := by
  refine ⟨h.1, .inl ⟨_, hu⟩, fun k => by simp [Builtin.lenOf], fun k => ?_⟩
  rcases Nat.eq_zero_or_pos m with h0 | h0
  · subst h0
    have : news = [] := List.eq_nil_of_length_eq_zero (by simpa using h.1)
    subst this
    cases A <;> simp [Builtin.firstCells, loadCells, loadCellsFrom]
  · obtain ⟨b, o, rfl, hx⟩ := h.2 h0
    exact run_firstCells_some (P := P) (w.drewN k) sz m ⟨b, o, none⟩ m c news h.1 (fun j v hv => by rw [addr_add]; exact hx j v hv)
theorem Src.str {s : ByteArray} {u : TypeId} (hu : P.underlying u = some .string) : Src P w u 1 (.string s) s.size (s.data.toList.map fun b => Value.int .u8 b.toNat) := by
  refine ⟨by simp, .inr hu, fun k => by simp [Builtin.lenOf], fun k => ?_⟩
  simp [Builtin.firstCells]
  apply Array.toList_inj.1
  simp

/-- APPEND onto a slice of the call's own (nil, empty, at whatever offset) -/
theorem run_append_gen (t u ty e : TypeId) (i : TypeInfo) (z : Value) (sz bytes : Nat) (ht : P.underlying t = some (.slice e)) (hi : P.info? e = some i) (hz : i.zero = some z)
    (hsize : i.size = sz) (hby : i.bytes = bytes) (hzs : z.cells.size = sz)
    {base : Nat} {A : Option Addr} {n c : Nat} {xs : List Value} (hown : Own w base e sz A n c xs)
    {x : Value} {m : Nat} {news : List Value} (hsrc : Src P w u sz x m news) (h1 : ∀ v ∈ news, v.oneCell' = true)
    (h63 : n + m ≤ maxLen) (hbytes : (n + m) * bytes ≤ 140737488355328) (hbase : base ≤ w.heap.size) :
    ∃ A' c' w', (Builtin.append_ #[t, u] ty #[.slice A n c, x]).run P w = .ok (.slice A' (n + m) c') w' ∧ Own w' base e sz A' (n + m) c' (xs ++ news) ∧ w.grownBy w' (blockOf A) ∧
      (blockOf A' = blockOf A ∨ blockOf A' = some w.heap.size) := by
  subst hsize
  subst hby
  have hsmall : n + m ≤ 9223372036854775807 := by simp only [maxLen] at h63; omega
  obtain ⟨hl, hnc, hcm, hc⟩ := hown
  obtain ⟨hnl, hd, hlen, hfirst⟩ := hsrc
  have hlen0 := hlen 0
  have hlen' : (xs ++ news).length = (n + m) * i.size := by rw [List.length_append, hl, hnl, Nat.add_mul]
  by_cases hroom : n + m ≤ c
  · -- there is room
    rcases Nat.eq_zero_or_pos c with h0 | h0
    · subst h0
      obtain rfl : n = 0 := by omega
      obtain rfl : m = 0 := by omega
      have hx0 : xs = [] := List.eq_nil_of_length_eq_zero (by simpa using hl)
      have hn0 : news = [] := List.eq_nil_of_length_eq_zero (by simpa using hnl)
      subst hx0 hn0
      refine ⟨A, 0, w, ?_, ⟨by simp, Nat.le_refl _, hcm, hc⟩, ⟨rfl, rfl, rfl, Nat.le_refl _, fun _ _ _ => rfl⟩, .inl rfl⟩
      have hf := hfirst 0
      simp only [World.drewN_zero] at hf hlen0
      rcases hd with ⟨_, hd⟩ | hd <;> cases A <;> simp [Builtin.append_, run_underlying ht, run_underlying hd, sizeOf, typeInfo, hi, hlen0, hf, storeCells]
    · obtain ⟨b, o, cur, fr, rfl, hb, hg, hfr, hs, hx⟩ := hc.resolve_left (fun e => by omega)
      have hns : n * i.size + news.length ≤ c * i.size := by rw [hnl, ← Nat.add_mul]; exact Nat.mul_le_mul_right _ hroom
      have hst := run_storeCells_free P b (o + n * i.size) e fr news 0 cur w hfr hg (by omega) h1
      simp only [Nat.add_zero] at hst
      have hf := hfirst 0
      simp only [World.drewN_zero] at hf hlen0
      refine ⟨some ⟨b, o, none⟩, c, w.setRow b (cur.toList.take (o + n * i.size) ++ news ++ cur.toList.drop (o + n * i.size + news.length)).toArray, ?_, ?_, ?_, .inl rfl⟩
      · rcases hd with ⟨_, hd⟩ | hd <;> simp [Builtin.append_, run_underlying ht, run_underlying hd, sizeOf, typeInfo, hi, hlen0, hf, hroom, addr_add, hst]
      · refine ⟨hlen', hroom, hcm, .inr ⟨b, o, _, fr, rfl, hb, setRow_heap w b cur _ e _ hg, ?_, ?_, fun j hj => ?_⟩⟩
        · simp only [List.size_toArray, List.length_append, List.length_take, List.length_drop, Array.length_toList]
          rw [show min (o + n * i.size) cur.size + news.length + (cur.size - (o + n * i.size + news.length)) = cur.size by omega]
          exact hfr
        · simp only [List.size_toArray, List.length_append, List.length_take, List.length_drop, Array.length_toList]
          omega
        · have hlt : (cur.toList.take (o + n * i.size)).length = o + n * i.size := by rw [List.length_take, Array.length_toList]; omega
          have hnx : n * i.size = xs.length := hl.symm
          simp only [List.getElem?_toArray]
          rw [List.append_assoc]
          by_cases hjn : j < n * i.size
          · rw [List.getElem?_append_left (by omega), List.getElem?_append_left (by omega), List.getElem?_take, if_pos (by omega), ← hx j hjn]
            simp
          · rw [Nat.add_mul] at hj
            rw [List.getElem?_append_right (by omega), List.getElem?_append_left (by omega), List.getElem?_append_right (l₁ := xs) (by omega)]
            congr 1
            omega
      · exact ⟨rfl, rfl, rfl, by simp, fun k _ hk => setRow_other w b k _ (fun e => hk (by simp [blockOf, e]))⟩
  · -- a new row
    have hge := grownCap_ge w (n + m) c e
    have hcm' : grownCap w (n + m) c e ≤ maxLen := grownCap_le_maxLen w (n + m) c e h63
    have h63' : ¬ (9223372036854775807 < ((n : Int) + (m : Int))) := by omega
    have h48' : ¬ (281474976710656 < Builtin.nextslicecap (n + m) c * i.bytes) := by
      have := growslice_fits (need := n + m) (old := c) (by omega) hbytes
      omega
    have hf := hfirst 1
    have hfo : (Builtin.firstCells i.size n (.slice A n c)).run P (w.drewN 1) = .ok xs.toArray (w.drewN 1) := by
      rcases Nat.eq_zero_or_pos c with h0 | h0
      · obtain rfl : n = 0 := by omega
        have hx0 : xs = [] := List.eq_nil_of_length_eq_zero (by simpa using hl)
        subst hx0
        cases A <;> simp [Builtin.firstCells, loadCells, loadCellsFrom]
      · obtain ⟨b, o, cur, fr, rfl, hb, hg, hfr, hs, hx⟩ := hc.resolve_left (fun e => by omega)
        refine run_firstCells_some (P := P) (w.drewN 1) i.size n ⟨b, o, none⟩ n c xs hl (fun j v hv => ?_)
        have hj : j < xs.length := by
          rcases Nat.lt_or_ge j xs.length with hlt | hge
          · exact hlt
          · rw [List.getElem?_eq_none hge] at hv; cases hv
        rw [addr_add]
        show w.cell? _ = _
        rw [cell_of_row w b _ cur e _ hg, hx j (by omega), hv]
    have e1 : w.drewN 1 = w.drew := rfl
    rw [e1] at hf hfo
    simp only [World.drewN_zero] at hlen0
    refine ⟨some ⟨w.heap.size, 0, none⟩, grownCap w (n + m) c e, w.drew.alloc (.cells (xs.toArray ++ news.toArray ++ Builtin.zeroCells z.cells (grownCap w (n + m) c e - (n + m))) e), ?_, ?_, ?_, .inr rfl⟩
    · rcases hd with ⟨_, hd⟩ | hd <;> simp [Builtin.append_, run_underlying ht, run_underlying hd, sizeOf, typeInfo, zeroValue, hi, hz, hlen0, hroom, h63', h48', Question.forced, hf, hfo, newRow, grownCap, -List.append_toArray]
    · have hsz : (xs.toArray ++ news.toArray ++ Builtin.zeroCells z.cells (grownCap w (n + m) c e - (n + m))).size = grownCap w (n + m) c e * i.size := by
        simp only [Array.size_append, List.size_toArray, size_zeroCells, hzs, hl, hnl, ← Nat.add_mul]
        congr 1; omega
      have h := Own.made w.drew (xs.toArray ++ news.toArray ++ Builtin.zeroCells z.cells (grownCap w (n + m) c e - (n + m))) e i.size (n + m) _ base hbase hge hcm' hsz
      have ht : (xs.toArray ++ news.toArray ++ Builtin.zeroCells z.cells (grownCap w (n + m) c e - (n + m))).toList.take ((n + m) * i.size) = xs ++ news := by
        simp only [Array.toList_append]
        rw [← hlen']
        exact List.take_left
      rw [ht] at h
      exact h
    · exact ⟨rfl, rfl, rfl, by simp, fun k hk _ => Below.heap_alloc w.drew _ k hk⟩

theorem wp_append_gen {o : Oper} {a : Act} {K : Act → World → Prop} {Q : Exit → Act → World → Prop} (s x : Operand) (t u : TypeId)
    (ho : o.op = .call { callee := .builtin .append, args := #[s, x], argTypes := #[t, u] })
    (e : TypeId) (z : Value) (sz bytes : Nat) (ht : P.underlying t = some (.slice e)) (hi : (P.info? e).map (fun i => (i.zero, i.size, i.bytes)) = some (some z, sz, bytes)) (hzs : z.cells.size = sz)
    (base : Nat) (A : Option Addr) (n c : Nat) (xs : List Value) (hs : a.eval s = .slice A n c) (hown : Own w base e sz A n c xs)
    (m : Nat) (news : List Value) (v : Value) (hx : a.eval x = v) (hsrc : Src P w u sz v m news) (h1 : ∀ v ∈ news, v.oneCell' = true)
    (h63 : n + m ≤ maxLen) (hbytes : (n + m) * bytes ≤ 140737488355328) (hbase : base ≤ w.heap.size)
    (h : ∀ A' c' w', Own w' base e sz A' (n + m) c' (xs ++ news) → w.grownBy w' (blockOf A) → (blockOf A' = blockOf A ∨ blockOf A' = some w.heap.size) → K (a.put o.dst (.slice A' (n + m) c')) w') : o.wp P a w K Q := by
  obtain ⟨i, hi0, hz, hsz, hby⟩ := info_parts hi
  obtain ⟨A', c', w', hr, h2, h3, h4⟩ := run_append_gen (P := P) t u o.type e i z sz bytes ht hi0 hz hsz hby hzs hown hsrc h1 h63 hbytes hbase
  unfold Oper.wp execOp
  simp only [ho, resolve, invoke, builtin, Sem.run_bind, Sem.run_pure, Result.andThen_ok, List.map_toArray, List.map_cons, List.map_nil, hs, hx, hr]
  exact h A' c' w' h2 h3 h4
theorem wpList_append_gen {ops : Array Oper} {rest : List Oper} {o : Oper} {a : Act} {Q : Exit → Act → World → Prop} (hgd : o.guard = none) (s x : Operand) (t u : TypeId)
    (ho : o.op = .call { callee := .builtin .append, args := #[s, x], argTypes := #[t, u] })
    (e : TypeId) (z : Value) (sz bytes : Nat) (ht : P.underlying t = some (.slice e)) (hi : (P.info? e).map (fun i => (i.zero, i.size, i.bytes)) = some (some z, sz, bytes)) (hzs : z.cells.size = sz)
    (base : Nat) (A : Option Addr) (n c : Nat) (xs : List Value) (hs : a.eval s = .slice A n c) (hown : Own w base e sz A n c xs)
    (m : Nat) (news : List Value) (v : Value) (hx : a.eval x = v) (hsrc : Src P w u sz v m news) (h1 : ∀ v ∈ news, v.oneCell' = true)
    (h63 : n + m ≤ maxLen) (hbytes : (n + m) * bytes ≤ 140737488355328) (hbase : base ≤ w.heap.size)
    (h : ∀ A' c' w', Own w' base e sz A' (n + m) c' (xs ++ news) → w.grownBy w' (blockOf A) → (blockOf A' = blockOf A ∨ blockOf A' = some w.heap.size) → wpList P ops Q rest (a.put o.dst (.slice A' (n + m) c')) w') : wpList P ops Q (o :: rest) a w :=
  wpList_plain hgd fun _ hK => wp_append_gen s x t u ho e z sz bytes ht hi hzs base A n c xs hs hown m news v hx hsrc h1 h63 hbytes hbase fun A' c' w' h2 h3 h4 => hK _ _ (h A' c' w' h2 h3 h4)
/-- at a step of a region that draws its order -/
theorem step_append_gen {ops : Array Oper} {o : Oper} {a : Act} {K : Act → World → Prop} {Q : Exit → Act → World → Prop} {E : Prop} (hgd : o.guard = none) (s x : Operand) (t u : TypeId)
    (ho : o.op = .call { callee := .builtin .append, args := #[s, x], argTypes := #[t, u] })
    (e : TypeId) (z : Value) (sz bytes : Nat) (ht : P.underlying t = some (.slice e)) (hi : (P.info? e).map (fun i => (i.zero, i.size, i.bytes)) = some (some z, sz, bytes)) (hzs : z.cells.size = sz)
    (base : Nat) (A : Option Addr) (n c : Nat) (xs : List Value) (hs : a.eval s = .slice A n c) (hown : Own w base e sz A n c xs)
    (m : Nat) (news : List Value) (v : Value) (hx : a.eval x = v) (hsrc : Src P w u sz v m news) (h1 : ∀ v ∈ news, v.oneCell' = true)
    (h63 : n + m ≤ maxLen) (hbytes : (n + m) * bytes ≤ 140737488355328) (hbase : base ≤ w.heap.size)
    (h : ∀ A' c' w', Own w' base e sz A' (n + m) c' (xs ++ news) → w.grownBy w' (blockOf A) → (blockOf A' = blockOf A ∨ blockOf A' = some w.heap.size) → K (a.put o.dst (.slice A' (n + m) c')) w') :
    if Region.wanted o (yielded ops a.tmps) = true then Oper.wp P o a w K Q else E := by
  rw [if_pos (by simp [Region.wanted, hgd])]
  exact wp_append_gen s x t u ho e z sz bytes ht hi hzs base A n c xs hs hown m news v hx hsrc h1 h63 hbytes hbase h
end
end Go.Proofs.YtehpapoboeejkaaGreat
/- Words for memory, the second part: whole variables stored into, and loaded out of, rows that are known whole. -/
namespace Go.Proofs.YtehpapoboeejkaaGreat
open Go.RowKit
section
variable {P : Program} {w : World}

/-- a row with the cells vs laid over it from o on -/
def laid (cur : Array Value) (o : Nat) (vs : List Value) : Array Value := (cur.toList.take o ++ vs ++ cur.toList.drop (o + vs.length)).toArray
theorem laid_size {cur : Array Value} {o : Nat} {vs : List Value} (h : o + vs.length ≤ cur.size) : (laid cur o vs).size = cur.size := by
  simp only [laid, List.size_toArray, List.length_append, List.length_take, List.length_drop, Array.length_toList]; omega
theorem laid_get {cur : Array Value} {o : Nat} {vs : List Value} (h : o + vs.length ≤ cur.size) (j : Nat) :
    (laid cur o vs)[j]? = if j < o then cur[j]? else if j < o + vs.length then vs[j - o]? else cur[j]? := by
  have hlt : (cur.toList.take o).length = o := by rw [List.length_take, Array.length_toList]; omega
  simp only [laid, List.getElem?_toArray, List.append_assoc]
  split
  · rw [List.getElem?_append_left (by omega), List.getElem?_take, if_pos (by omega)]; simp
  · rw [List.getElem?_append_right (by omega), hlt]
    split
    · rw [List.getElem?_append_left (by omega)]
    · rw [List.getElem?_append_right (by omega), List.getElem?_drop, ← Array.getElem?_toList]
      congr 1; omega
theorem laid_all {cur : Array Value} {vs : List Value} (h : vs.length = cur.size) : laid cur 0 vs = vs.toArray := by
  simp only [laid, List.take_zero, List.nil_append, Nat.zero_add]
  rw [List.drop_of_length_le (by simp; omega), List.append_nil]

/-- A STORE of a whole variable (an array, a struct, or one cell) into a row that is known whole -/
theorem wp_store_at {o : Oper} {a : Act} {K : Act → World → Prop} {Q : Exit → Act → World → Prop} (ty : TypeId) (x v : Operand) (ho : o.op = .store ty x v)
    (g off : Nat) (hx : a.eval x = .pointer (some ⟨g, off, none⟩)) (val : Value) (hv : a.eval v = val) (vs : List Value) (hvs : val.cells.toList = vs) (cur : Array Value) (t : TypeId) (hg : w.heap[g]? = some (.cells cur t (0, 0)))
    (hi : (P.info? ty).map (·.size) = some vs.length) (hfit : off + vs.length ≤ cur.size) (h1 : ∀ v ∈ vs, v.oneCell' = true)
    (h : K (a.put o.dst undef) (w.setRow g (laid cur off vs))) : o.wp P a w K Q := by
  have hst : (storeCells ⟨g, off, none⟩ vs).run P w = .ok () (w.setRow g (laid cur off vs)) := by
    have hst := run_storeCells_at P g off t vs 0 cur w hg (by omega) h1
    simp only [Nat.add_zero] at hst
    exact hst
  cases hq : P.info? ty with
  | none => simp [hq] at hi
  | some i =>
    have hs : i.size = vs.length := by simpa [hq] using hi
    have hcs : val.cells.size = vs.length := by rw [← hvs]; simp
    unfold Oper.wp execOp
    simp [ho, hx, hv, Instr.storeAt, Instr.sureAddr, storeVar, sizeOf, typeInfo, hq, hs, hcs, hvs, hst]
    exact h
/-- (the operation written out, so that an arm that opens 'with_reducible refine' fails at once where it does not fit) -/
theorem wpList_store_lit {ops : Array Oper} {rest : List Oper} {a : Act} {Q : Exit → Act → World → Prop} {dst : Option Tmp} {ty tt : TypeId} {x v : Operand} {pos : String} {after : Array Edge}
    (g off : Nat) (val : Value) (vs : List Value) (hvs : val.cells.toList = vs) (cur : Array Value) (t : TypeId) (hg : w.heap[g]? = some (.cells cur t (0, 0)))
    (hi : (P.info? ty).map (·.size) = some vs.length) (hfit : off + vs.length ≤ cur.size) (h1 : ∀ v ∈ vs, v.oneCell' = true)
    (hxv : a.eval x = .pointer (some ⟨g, off, none⟩) ∧ a.eval v = val)
    (h : wpList P ops Q rest (a.put dst undef) (w.setRow g (laid cur off vs))) : wpList P ops Q (⟨dst, .store ty x v, tt, pos, after, none⟩ :: rest) a w :=
  wpList_plain rfl fun _ hK => wp_store_at ty x v rfl g off hxv.1 val hxv.2 vs hvs cur t hg hi hfit h1 (hK _ _ h)
theorem step_store_at {ops : Array Oper} {o : Oper} {a : Act} {K : Act → World → Prop} {Q : Exit → Act → World → Prop} {E : Prop} (hgd : o.guard = none) (ty : TypeId) (x v : Operand) (ho : o.op = .store ty x v)
    (g off : Nat) (hx : a.eval x = .pointer (some ⟨g, off, none⟩)) (val : Value) (hv : a.eval v = val) (vs : List Value) (hvs : val.cells.toList = vs) (cur : Array Value) (t : TypeId) (hg : w.heap[g]? = some (.cells cur t (0, 0)))
    (hi : (P.info? ty).map (·.size) = some vs.length) (hfit : off + vs.length ≤ cur.size) (h1 : ∀ v ∈ vs, v.oneCell' = true)
    (h : K (a.put o.dst undef) (w.setRow g (laid cur off vs))) : if Region.wanted o (yielded ops a.tmps) = true then Oper.wp P o a w K Q else E := by
  rw [if_pos (by simp [Region.wanted, hgd])]
  exact wp_store_at ty x v ho g off hx val hv vs hvs cur t hg hi hfit h1 h

/-- A LOAD of a whole array or struct out of a row that is known whole -/
theorem wp_load_at {o : Oper} {a : Act} {K : Act → World → Prop} {Q : Exit → Act → World → Prop} (ty : TypeId) (x : Operand) (ho : o.op = .load ty x)
    (g off : Nat) (hx : a.eval x = .pointer (some ⟨g, off, none⟩)) (cur : Array Value) (t : TypeId) (fr : Nat × Nat) (hg : w.heap[g]? = some (.cells cur t fr)) (vs : List Value)
    (hvs : ∀ j, j < vs.length → cur[off + j]? = vs[j]?) (d : TypeDesc)
    (hu : P.underlying ty = some d) (hd : (match d with | .struct _ | .array _ _ => true | _ => false) = true) (hi : (P.info? ty).map (·.size) = some vs.length)
    (h : K (a.put o.dst (.agg vs.toArray)) w) : o.wp P a w K Q := by
  have hl : (loadCells ⟨g, off, none⟩ vs.length).run P w = .ok vs.toArray w :=
    run_loadCells_list (P := P) w ⟨g, off, none⟩ vs (fun j v hv => by
      have hj : j < vs.length := by
        rcases Nat.lt_or_ge j vs.length with hlt | hge
        · exact hlt
        · rw [List.getElem?_eq_none hge] at hv; cases hv
      rw [addr_add, cell_of_row w g _ cur t fr hg, hvs j hj, hv])
  cases hq : P.info? ty with
  | none => simp [hq] at hi
  | some i =>
    have hs : i.size = vs.length := by simpa [hq] using hi
    have hagg : (isAgg ty).run P w = .ok true w := by
      unfold isAgg
      rw [Sem.run_bind, run_underlying hu w]
      cases d <;> simp_all
    unfold Oper.wp execOp
    simp [ho, hx, Instr.loadAt, Instr.sureAddr, loadVar, Sem.run_bind, hagg, sizeOf, typeInfo, hq, hs, hl]
    exact h
theorem wp_load_lit {a : Act} {K : Act → World → Prop} {Q : Exit → Act → World → Prop} {dst : Option Tmp} {ty tt : TypeId} {x : Operand} {pos : String} {after : Array Edge} {gd : Option (Nat × Bool)}
    (g off : Nat) (cur : Array Value) (t : TypeId) (fr : Nat × Nat) (hg : w.heap[g]? = some (.cells cur t fr)) (vs : List Value)
    (hvs : ∀ j, j < vs.length → cur[off + j]? = vs[j]?) (d : TypeDesc) (hu : P.underlying ty = some d) (hi : (P.info? ty).map (·.size) = some vs.length)
    (hx : a.eval x = .pointer (some ⟨g, off, none⟩) ∧ (match d with | .struct _ | .array _ _ => true | _ => false) = true)
    (h : K (a.put dst (.agg vs.toArray)) w) : Oper.wp P ⟨dst, .load ty x, tt, pos, after, gd⟩ a w K Q :=
  wp_load_at ty x rfl g off hx.1 cur t fr hg vs hvs d hu hx.2 hi h
theorem wpList_load_lit {ops : Array Oper} {rest : List Oper} {a : Act} {Q : Exit → Act → World → Prop} {dst : Option Tmp} {ty tt : TypeId} {x : Operand} {pos : String} {after : Array Edge}
    (g off : Nat) (cur : Array Value) (t : TypeId) (fr : Nat × Nat) (hg : w.heap[g]? = some (.cells cur t fr)) (vs : List Value)
    (hvs : ∀ j, j < vs.length → cur[off + j]? = vs[j]?) (d : TypeDesc) (hu : P.underlying ty = some d) (hi : (P.info? ty).map (·.size) = some vs.length)
    (hx : a.eval x = .pointer (some ⟨g, off, none⟩) ∧ (match d with | .struct _ | .array _ _ => true | _ => false) = true)
    (h : wpList P ops Q rest (a.put dst (.agg vs.toArray)) w) : wpList P ops Q (⟨dst, .load ty x, tt, pos, after, none⟩ :: rest) a w :=
  wpList_plain rfl fun _ hK => wp_load_at ty x rfl g off hx.1 cur t fr hg vs hvs d hu hx.2 hi (hK _ _ h)
/-- a composite whose cells are known -/
theorem wpList_build_lit {ops : Array Oper} {rest : List Oper} {a : Act} {Q : Exit → Act → World → Prop} {dst : Option Tmp} {t tt : TypeId} {parts : Array (Nat × Operand)} {pos : String} {after : Array Edge}
    (cells : Array Value) (hf : P.built t (parts.map fun (i, x) => (i, a.eval x)).toList = some cells)
    (h : wpList P ops Q rest (a.put dst (.agg cells)) w) : wpList P ops Q (⟨dst, .build t parts, tt, pos, after, none⟩ :: rest) a w :=
  wpList_plain rfl fun _ hK => wp_build t parts rfl (by rw [hf]; rfl) (hK _ _ (by rw [hf]; exact h))
/-- append, the operation written out -/
theorem wpList_append_lit {ops : Array Oper} {rest : List Oper} {a : Act} {Q : Exit → Act → World → Prop} {dst : Option Tmp} {tt : TypeId} {s x : Operand} {t u : TypeId} {pos : String} {after : Array Edge}
    (e : TypeId) (z : Value) (sz bytes : Nat) (ht : P.underlying t = some (.slice e)) (hi : (P.info? e).map (fun i => (i.zero, i.size, i.bytes)) = some (some z, sz, bytes)) (hzs : z.cells.size = sz)
    (base : Nat) (A : Option Addr) (n c : Nat) (xs : List Value) (hown : Own w base e sz A n c xs)
    (m : Nat) (news : List Value) (v : Value) (hsrc : Src P w u sz v m news) (h1 : ∀ v ∈ news, v.oneCell' = true)
    (h63 : n + m ≤ maxLen) (hbytes : (n + m) * bytes ≤ 140737488355328) (hbase : base ≤ w.heap.size) (hsx : a.eval s = .slice A n c ∧ a.eval x = v)
    (h : ∀ A' c' w', Own w' base e sz A' (n + m) c' (xs ++ news) → w.grownBy w' (blockOf A) → (blockOf A' = blockOf A ∨ blockOf A' = some w.heap.size) → wpList P ops Q rest (a.put dst (.slice A' (n + m) c')) w') :
    wpList P ops Q (⟨dst, .call ⟨.builtin .append, #[s, x], #[t, u]⟩, tt, pos, after, none⟩ :: rest) a w :=
  wpList_append_gen rfl s x t u rfl e z sz bytes ht hi hzs base A n c xs hsx.1 hown m news v hsx.2 hsrc h1 h63 hbytes hbase h
end
/-- a callee that leaves the world as it is, in a region that draws: the first such region of a body, and those behind it -/
theorem quiet_one {P : Program} {f : FuncId} {args : Array Value} {w : World} {n : Nat} {v : Value} (h : Calls P f args (w.drewN n) fun e w' => e = .returned v ∧ w.drewN n = w') :
    Calls P f args (w.drewN n) fun e w'' => e = .returned v ∧ ∃ m, w'' = w.drewN m := h.mono fun _ _ ⟨he, hw⟩ => ⟨he, n, hw.symm⟩
theorem quiet_more {P : Program} {f : FuncId} {args : Array Value} {w : World} {a n : Nat} {v : Value} (h : Calls P f args (w.drewN (a + n)) fun e w' => e = .returned v ∧ w.drewN (a + n) = w') :
    Calls P f args (w.drewN (a + n)) fun e w'' => e = .returned v ∧ ∃ m, w'' = w.drewN (a + m) := h.mono fun _ _ ⟨he, hw⟩ => ⟨he, n, hw.symm⟩
/-- a callee that draws, likewise -/
theorem quiet_one_d {P : Program} {f : FuncId} {args : Array Value} {w : World} {n : Nat} {v : Value} (h : Calls P f args (w.drewN n) fun e w' => e = .returned v ∧ ∃ k, w' = (w.drewN n).drewN k) :
    Calls P f args (w.drewN n) fun e w'' => e = .returned v ∧ ∃ m, w'' = w.drewN m := h.mono fun _ _ ⟨he, k, hw⟩ => ⟨he, n + k, by rw [hw, World.drewN_drewN]⟩
theorem quiet_more_d {P : Program} {f : FuncId} {args : Array Value} {w : World} {a n : Nat} {v : Value} (h : Calls P f args (w.drewN (a + n)) fun e w' => e = .returned v ∧ ∃ k, w' = (w.drewN (a + n)).drewN k) :
    Calls P f args (w.drewN (a + n)) fun e w'' => e = .returned v ∧ ∃ m, w'' = w.drewN (a + m) := h.mono fun _ _ ⟨he, k, hw⟩ => ⟨he, n + k, by rw [hw, World.drewN_drewN, Nat.add_assoc]⟩
theorem heap_of_drewN {w : World} {g : Nat} {o : Option Obj} (n : Nat) (h : w.heap[g]? = o) : (w.drewN n).heap[g]? = o := h
/-- a fact kept from the walk, and from whatever opens both sides of an equation -/
def Hid2 (p : Prop) : Prop := Unit → p
theorem hid2 {p : Prop} (h : p) : Hid2 p := fun _ => h
theorem Hid2.out {p : Prop} (h : Hid2 p) : p := h ()
theorem agg_cells (l : List Value) : (Value.agg l.toArray).cells.toList = l := by simp [Value.cells]
theorem getElem?_zero_add (l : List Value) (j : Nat) : l.toArray[0 + j]? = l[j]? := by rw [Nat.zero_add, List.getElem?_toArray]
theorem below_setRow {B : Nat} {a w : World} (h : Below B a w) {g : Nat} (hg : B ≤ g) (cs : Array Value) : Below B a (w.setRow g cs) :=
  h.trans ⟨rfl, rfl, rfl, by simp, fun k hk => setRow_other w g k cs (by omega)⟩
theorem below_drewN {B : Nat} {a w : World} (h : Below B a w) (n : Nat) : Below B a (w.drewN n) := ⟨h.os, h.tape, h.output, h.size, h.block⟩
end Go.Proofs.YtehpapoboeejkaaGreat
/- Bytes: a text made bytes, bytes made a text. -/
namespace Go.Proofs.YtehpapoboeejkaaGreat
open Go.RowKit

/-- bytes as cells -/
def u8s (l : List UInt8) : List Value := l.map fun b => .int .u8 b.toNat
theorem u8s_length (l : List UInt8) : (u8s l).length = l.length := by simp [u8s]
theorem u8s_append (l m : List UInt8) : u8s (l ++ m) = u8s l ++ u8s m := by simp [u8s]
theorem u8s_drop (l : List UInt8) (k : Nat) : u8s (l.drop k) = (u8s l).drop k := by simp [u8s, List.map_drop]
theorem u8s_take (l : List UInt8) (k : Nat) : u8s (l.take k) = (u8s l).take k := by simp [u8s, List.map_take]
theorem u8s_get (l : List UInt8) {j : Nat} (h : j < l.length) : (u8s l)[j]? = some (.int .u8 (l.getD j 0).toNat) := by
  rw [u8s, List.getElem?_map, List.getElem?_eq_getElem h, List.getD_eq_getElem?_getD, List.getElem?_eq_getElem h]; rfl
theorem u8s_one (l : List UInt8) : ∀ v ∈ u8s l, v.oneCell' = true := by
  intro v hv
  obtain ⟨x, _, rfl⟩ := List.mem_map.1 hv
  rfl
theorem u8s_snoc (l : List UInt8) (b : UInt8) : u8s l ++ [.int .u8 b.toNat] = u8s (l ++ [b]) := by simp [u8s]
/-- one element, in a block that was made now -/
theorem Rd.one (w : World) (v : Value) (t : TypeId) : Rd (w.alloc (.cells #[v] t)) 1 (some ⟨w.heap.size, 0, none⟩) 1 [v] := Rd.of_lit w #[v] t 1 1 (by decide) rfl
theorem one_int {k : IntKind} {x : Int} : ∀ v ∈ [Value.int k x], v.oneCell' = true := by simp [Value.oneCell']
theorem toList_length (s : ByteArray) : s.data.toList.length = s.size := by rw [Array.length_toList]; rfl

/-- the world behind a name, with what is known of it -/
theorem wpList_gen {P : Program} {ops : Array Oper} {rest : List Oper} {a : Act} {Q : Exit → Act → World → Prop} {W : World} (M : World → Prop) (h : M W) (k : ∀ w1, M w1 → wpList P ops Q rest a w1) : wpList P ops Q rest a W := k W h
section
variable {P : Program} {w : World}
theorem run_to_bytes (src dst e : TypeId) (base : Nat) (s : ByteArray) (hs : P.underlying src = some .string) (hd : P.underlying dst = some (.slice e)) (he : P.underlying e = some (.int .u8)) (hbase : base ≤ w.heap.size) (hmax : s.size ≤ maxLen) :
    ∃ A c w', (convert src dst (.string s)).run P w = .ok (.slice A s.size c) w' ∧ Own w' base e 1 A s.size c (u8s s.data.toList) ∧ Below w.heap.size w w' ∧ blockOf A = some w.heap.size := by
  have hge := grownCap_ge w s.size 0 e
  have hle := grownCap_le_maxLen w s.size 0 e hmax
  have hsz : (bytesRow s (grownCap w s.size 0 e)).size = grownCap w s.size 0 e := by
    simp only [bytesRow, Array.size_append, Array.size_map, Array.size_replicate]
    have : s.data.size = s.size := rfl
    omega
  refine ⟨_, _, _, run_bytes_of_string w src dst e s hs hd he, ⟨by rw [u8s_length, toList_length, Nat.mul_one], hge, hle, .inr ⟨w.heap.size, 0, _, _, rfl, hbase, heap_alloc_new w.drew _, .inr rfl, by rw [hsz]; omega, fun j hj => ?_⟩⟩, (Below.refl _ _).drew.alloc (Nat.le_refl _) _, rfl⟩
  rw [Nat.zero_add]
  have hj' : j < s.data.size := by have : s.data.size = s.size := rfl; omega
  rw [bytesRow, Array.getElem?_append_left (by rw [Array.size_map]; exact hj'), Array.getElem?_map, u8s, List.getElem?_map]
  simp
theorem wpList_to_bytes_lit {ops : Array Oper} {rest : List Oper} {a : Act} {Q : Exit → Act → World → Prop} {dst : Option Tmp} {src dt tt : TypeId} {x : Operand} {pos : String} {after : Array Edge}
    (e : TypeId) (base : Nat) (s : ByteArray) (hs : P.underlying src = some .string) (hd : P.underlying dt = some (.slice e)) (he : P.underlying e = some (.int .u8)) (hbase : base ≤ w.heap.size) (hmax : s.size ≤ maxLen)
    (hx : a.eval x = .string s)
    (h : ∀ A c w', Own w' base e 1 A s.size c (u8s s.data.toList) → Below w.heap.size w w' → blockOf A = some w.heap.size → wpList P ops Q rest (a.put dst (.slice A s.size c)) w') :
    wpList P ops Q (⟨dst, .convert src dt x, tt, pos, after, none⟩ :: rest) a w := by
  refine wpList_plain rfl fun K hK => ?_
  obtain ⟨A, c, w', hr, h1, h2, h3⟩ := run_to_bytes (P := P) (w := w) src dt e base s hs hd he hbase hmax
  unfold Oper.wp execOp
  simp only [hx, Sem.run_bind, hr, Result.andThen_ok]
  exact hK _ _ (h A c w' h1 h2 h3)
theorem run_to_string (src dst e : TypeId) (A : Option Addr) (c : Nat) (l : List UInt8) (hs : P.underlying src = some (.slice e)) (he : P.underlying e = some (.int .u8)) (hd : P.underlying dst = some .string) (hr : Rd w 1 A l.length (u8s l)) :
    (convert src dst (.slice A l.length c)).run P w = .ok (.string ⟨l.toArray⟩) w := by
  rcases Nat.eq_zero_or_pos l.length with h0 | h0
  · have : l = [] := List.eq_nil_of_length_eq_zero h0
    subst this
    show (convert src dst (.slice A 0 c)).run P w = _
    rw [run_convert_bytes_string w src dst e A 0 c hs he hd]
    cases A <;> simp [Conv.bytesToString, loadCells, loadCellsFrom] <;> rfl
  · obtain ⟨b, o, rfl, hx⟩ := hr.2 h0
    refine run_convert_bytes_back w src dst e ⟨b, o, none⟩ c l hs he hd (fun j hj => ?_)
    rw [addr_add]
    refine hx j _ ?_
    rw [u8s, List.getElem?_map, List.getElem?_eq_getElem hj]; rfl
theorem wpList_to_string_lit {ops : Array Oper} {rest : List Oper} {a : Act} {Q : Exit → Act → World → Prop} {dst : Option Tmp} {src dt tt : TypeId} {x : Operand} {pos : String} {after : Array Edge}
    (e : TypeId) (A : Option Addr) (n c : Nat) (l : List UInt8) (hs : P.underlying src = some (.slice e)) (he : P.underlying e = some (.int .u8)) (hd : P.underlying dt = some .string) (hn : l.length = n) (hr : Rd w 1 A n (u8s l))
    (hx : a.eval x = .slice A n c) (h : wpList P ops Q rest (a.put dst (.string ⟨l.toArray⟩)) w) :
    wpList P ops Q (⟨dst, .convert src dt x, tt, pos, after, none⟩ :: rest) a w := by
  refine wpList_plain rfl fun K hK => ?_
  subst hn
  have hr := run_to_string (P := P) (w := w) src dt e A c l hs he hd hr
  unfold Oper.wp execOp
  simp only [hx, Sem.run_bind, hr, Result.andThen_ok]
  exact hK _ _ h
end
end Go.Proofs.YtehpapoboeejkaaGreat
/- One cell of an own slice, read and written. -/
namespace Go.Proofs.YtehpapoboeejkaaGreat
open Go.RowKit
section
variable {w : World} {base n c : Nat} {t : TypeId} {A : Option Addr} {xs : List Value}
theorem Own.spot (h : Own w base t 1 A n c xs) {j : Nat} (hj : j < n) : ∃ b o u, A = some ⟨b, o, none⟩ ∧ base ≤ b ∧ b < w.heap.size ∧ xs[j]? = some u ∧ w.cell? ⟨b, o + j, none⟩ = some u ∧ w.frozen? ⟨b, o + j, none⟩ = false ∧
    ∀ v, Own (w.setCell ⟨b, o + j, none⟩ v) base t 1 A n c (xs.set j v) := by
  have hl := h.1
  have hn := h.2.1
  have hm := h.2.2.1
  obtain ⟨b, o, cur, fr, rfl, hb, hg, hf, hs, hx⟩ := h.at_ (by omega)
  have hjo : o + j < cur.size := by omega
  have hjl : j < xs.length := by omega
  refine ⟨b, o, xs[j], rfl, hb, heap_lt hg, List.getElem?_eq_getElem hjl, ?_, hf.cell hg hjo, fun v => ?_⟩
  · rw [cell_of_row w b _ cur t _ hg, hx j (by omega), List.getElem?_eq_getElem]
  · rw [setCell_eq_setRow w b (o + j) cur t fr v hg]
    refine ⟨by rw [List.length_set]; exact hl, hn, hm, .inr ⟨b, o, cur.setIfInBounds (o + j) v, fr, rfl, hb, setRow_heap w b cur _ t _ hg, by rw [Array.size_setIfInBounds]; exact hf, by rw [Array.size_setIfInBounds]; exact hs, fun i hi => ?_⟩⟩
    rw [Array.getElem?_setIfInBounds, List.getElem?_set]
    by_cases hij : j = i
    · subst hij
      have : j < xs.length := by omega
      simp [hjo, this]
    · rw [if_neg (by omega), if_neg hij, hx i (by omega)]
end
end Go.Proofs.YtehpapoboeejkaaGreat
/- A map with texts as keys, as a plain table that rises. Nothing of the program is named. -/
namespace Go.Proofs.YtehpapoboeejkaaGreat
open Go.RowKit Go.Maps Go.WideMaps Go.WideAt Go.MapKept Go.ChangeMaps
section
variable {α : Type} {enc : α → Value}
open Classical in
/-- how an element reads: as what it is -/
noncomputable def elemR (enc : α → Value) (v : Value) : Option (DataW α × List MemPlace) := if h : ∃ a, v = enc a then some (.held (Classical.choose h), []) else none
theorem elemR_mk (hinj : ∀ a b, enc a = enc b → a = b) (a : α) : elemR enc (enc a) = some (.held a, []) := by
  have h : ∃ b, enc a = enc b := ⟨a, rfl⟩
  unfold elemR
  rw [dif_pos h, ← hinj _ _ (Classical.choose_spec h)]
theorem elemR_inv {v : Value} {d : DataW α} {ps : List MemPlace} (h : elemR enc v = some (d, ps)) : ∃ a, v = enc a ∧ d = .held a := by
  unfold elemR at h
  split at h
  · rename_i hx
    simp only [Option.some.injEq, Prod.mk.injEq] at h
    exact ⟨_, Classical.choose_spec hx, h.1.symm⟩
  · cases h

abbrev Tab (α : Type) := List (List UInt8 × α)
def mapD (M : Tab α) : DataW α := .map (M.map fun p => (.string p.1, .held p.2))
def getM (M : Tab α) (k : List UInt8) : Option α := (M.find? (fun p => p.1 == k)).map (·.2)
def insM (x : List UInt8 × α) : Tab α → Tab α
  | [] => [x]
  | y :: r => if bytesBefore x.1 y.1 then x :: y :: r else y :: insM x r
def delM (M : Tab α) (k : List UInt8) : Tab α := M.filter fun p => !(p.1 == k)
def putM (M : Tab α) (k : List UInt8) (a : α) : Tab α := insM (k, a) (delM M k)
def Rises (M : Tab α) : Prop := M.Pairwise fun p q => bytesBefore p.1 q.1 = true

theorem mapD_ins (x : List UInt8 × α) : ∀ M : Tab α, DataW.insert (.string x.1, .held x.2) (M.map fun p => ((.string p.1 : Lit), (.held p.2 : DataW α))) = (insM x M).map fun p => (.string p.1, .held p.2)
  | [] => rfl
  | y :: r => by
    have ih := mapD_ins x r
    rw [List.map_cons]
    unfold DataW.insert insM
    by_cases h : bytesBefore x.1 y.1 = true
    · rw [if_pos (show (Lit.string x.1).before (Lit.string y.1) = true from h), if_pos h]; rfl
    · rw [if_neg (show ¬ (Lit.string x.1).before (Lit.string y.1) = true from h), if_neg h, List.map_cons, ih]
theorem filter_mapD (M : Tab α) (k : List UInt8) : ((M.map fun p => ((.string p.1 : Lit), (.held p.2 : DataW α))).filter fun p => !p.1.sameKey (.string k)) = (delM M k).map fun p => (.string p.1, .held p.2) := by
  unfold delM
  rw [List.filter_map]
  rfl
theorem mapD_put (M : Tab α) (k : List UInt8) (a : α) : (mapD M).put (.string k) (.held a) = mapD (putM M k a) := by
  show DataW.map _ = DataW.map _
  rw [filter_mapD]
  exact congrArg _ (mapD_ins (k, a) _)
theorem mapD_del (M : Tab α) (k : List UInt8) : (mapD M).del (.string k) = mapD (delM M k) := by
  show DataW.map _ = DataW.map _
  rw [filter_mapD]
theorem find_mapD (k : List UInt8) : ∀ M : Tab α, (M.map fun p => ((.string p.1 : Lit), (.held p.2 : DataW α))).find? (fun p => p.1.sameKey (.string k)) = (M.find? (fun p => p.1 == k)).map fun p => (.string p.1, .held p.2)
  | [] => rfl
  | y :: r => by
    have ih := find_mapD k r
    simp only [List.map_cons, List.find?_cons, Lit.sameKey]
    cases h : (y.1 == k)
    · exact ih
    · rfl
theorem any_find {β : Type} (f : β → Bool) : ∀ l : List β, l.any f = (l.find? f).isSome
  | [] => rfl
  | x :: r => by
    rw [List.any_cons, List.find?_cons, any_find f r]
    cases f x <;> rfl
theorem has_mapD (M : Tab α) (k : List UInt8) : has (mapD M) (.string k) = (getM M k).isSome := by
  show List.any _ _ = _
  rw [any_find, find_mapD, getM, Option.isSome_map, Option.isSome_map]
theorem atKey_mapD (M : Tab α) (k : List UInt8) (z : DataW α) : (mapD M).atKey (.string k) z = match getM M k with | some a => .held a | none => z := by
  unfold DataW.atKey mapD getM
  simp only [find_mapD]
  cases M.find? (fun p => p.1 == k) <;> rfl
theorem size_mapD (M : Tab α) : size (mapD M) = M.length := by show List.length _ = _; simp
theorem strKeys_mapD (M : Tab α) : strKeys (mapD M) = M.map (·.1) := by show List.map _ _ = _; rw [List.map_map]; rfl

/-- block b of w is a map that reads as the table M; at most n entries -/
def MapIs (w : World) (P : Program) (k : TypeId) (enc : α → Value) (b n : Nat) (M : Tab α) : Prop := w.ownsMap P k (elemR enc) b n (mapD M)
variable {w w' : World} {P : Program} {k : TypeId} {b n : Nat} {M : Tab α}
theorem MapIs.length_le (h : MapIs w P k enc b n M) : M.length ≤ n := by
  obtain ⟨es, clock, _, _, hs, hD⟩ := h
  have h1 := congrArg Maps.size hD
  rw [size_mapD] at h1
  rw [h1, size_eq, length_sorted, List.length_map, Array.length_toList]
  exact hs
theorem MapIs.rises (h : MapIs w P k enc b n M) (K : Keyed P k) : Rises M := by
  obtain ⟨es, he, hp, _⟩ := World.ownsMap.canon h K
  unfold mapD at he
  injection he with he
  subst he
  rw [List.pairwise_map] at hp
  exact hp
theorem MapIs.made (w : World) (P : Program) (k : TypeId) (enc : α → Value) : MapIs (w.alloc (.map #[] 0)) P k enc w.heap.size 0 ([] : Tab α) := World.ownsMap_made w P k _
theorem MapIs.mono (h : MapIs w P k enc b n M) {n' : Nat} (hn : n ≤ n') : MapIs w P k enc b n' M := World.ownsMap.mono h hn
theorem MapIs.lt (h : MapIs w P k enc b n M) : b < w.heap.size := World.ownsMap.lt h
theorem MapIs.keep (h : MapIs w P k enc b n M) (hb : w'.heap[b]? = w.heap[b]?) : MapIs w' P k enc b n M := by
  obtain ⟨es, clock, hh, F, hs, hD⟩ := h
  exact ⟨es, clock, hb.trans hh, F, hs, hD⟩
theorem MapIs.alloc (h : MapIs w P k enc b n M) (o : Obj) : MapIs (w.alloc o) P k enc b n M := h.keep (Below.heap_alloc w o _ h.lt)
theorem MapIs.below (h : MapIs w P k enc b n M) {B : Nat} (hb : Below B w w') (hB : b < B) : MapIs w' P k enc b n M := h.keep (hb.block _ hB)
theorem MapIs.setCell (h : MapIs w P k enc b n M) (p : Addr) (v : Value) (hne : b ≠ p.block) : MapIs (w.setCell p v) P k enc b n M := h.keep (Below.heap_setCell w p v b hne)
theorem MapIs.drewN (h : MapIs w P k enc b n M) (m : Nat) : MapIs (w.drewN m) P k enc b n M := h
end

section
variable {α : Type} {enc : α → Value} {w : World} {P : Program} {k t e : TypeId} {b n : Nat} {M : Tab α}
theorem MapIs.look_ok (h : MapIs w P k enc b n M) (hinj : ∀ a b, enc a = enc b → a = b) (hk : P.underlying k = some .string) (ht : P.underlying t = some (.map k e)) (z0 : α) (hz : (zeroValue e).run P w = .ok (enc z0) w) (s : ByteArray) (hs : s.size ≤ maxLen) :
    (Instr.lookup t (.map (some b)) (.string s) true).run P w = .ok (.tuple #[enc ((getM M s.data.toList).getD z0), .bool (getM M s.data.toList).isSome]) w := by
  obtain ⟨v, ps, hrun, hv⟩ := World.ownsMap.look_ok h (string_keyed hk) ht hz (elemR_mk hinj z0) (keyOf_string_mk hk hs)
  rw [has_mapD] at hrun
  rw [atKey_mapD] at hv
  obtain ⟨a, rfl, ha⟩ := elemR_inv hv
  rw [hrun]
  cases hg : getM M s.data.toList with
  | none => rw [hg] at ha; injection ha with ha; subst ha; rfl
  | some x => rw [hg] at ha; injection ha with ha; subst ha; rfl
theorem MapIs.look (h : MapIs w P k enc b n M) (hinj : ∀ a b, enc a = enc b → a = b) (hk : P.underlying k = some .string) (ht : P.underlying t = some (.map k e)) (z0 : α) (hz : (zeroValue e).run P w = .ok (enc z0) w) (s : ByteArray) (hs : s.size ≤ maxLen) :
    (Instr.lookup t (.map (some b)) (.string s) false).run P w = .ok (enc ((getM M s.data.toList).getD z0)) w := by
  obtain ⟨v, ps, hrun, hv⟩ := World.ownsMap.lookup h (string_keyed hk) ht hz (elemR_mk hinj z0) (keyOf_string_mk hk hs)
  rw [atKey_mapD] at hv
  obtain ⟨a, rfl, ha⟩ := elemR_inv hv
  rw [hrun]
  cases hg : getM M s.data.toList with
  | none => rw [hg] at ha; injection ha with ha; subst ha; rfl
  | some x => rw [hg] at ha; injection ha with ha; subst ha; rfl
/-- the entries of the map in block b are others; nothing else has turned -/
def Turn (b : Nat) (w w' : World) : Prop := w'.os = w.os ∧ w'.tape = w.tape ∧ w'.output = w.output ∧ w'.heap.size = w.heap.size ∧ ∀ k, k ≠ b → w'.heap[k]? = w.heap[k]?
theorem turn_of {w' : World} (h : w.mapTurned w' b) : Turn b w w' := by
  obtain ⟨es, clock, es', clock', hb, rfl⟩ := h
  exact ⟨rfl, rfl, rfl, by simp [setBlock], fun k hk => heap_setBlock_other hb _ hk⟩
theorem MapIs.update (h : MapIs w P k enc b n M) (hinj : ∀ a b, enc a = enc b → a = b) (hk : P.underlying k = some .string) (ht : P.underlying t = some (.map k e)) (hn : n < maxLen) (s : ByteArray) (hs : s.size ≤ maxLen) (a : α) :
    ∃ w', (Instr.mapUpdate t (.map (some b)) (.string s) (enc a)).run P w = .ok () w' ∧ MapIs w' P k enc b (n + 1) (putM M s.data.toList a) ∧ Turn b w w' := by
  obtain ⟨w', hrun, h1, h2⟩ := World.ownsMap.store h (string_keyed hk) ht hn (keyOf_string_mk hk hs) (elemR_mk hinj a)
  rw [mapD_put] at h1
  exact ⟨w', hrun, h1, turn_of h2⟩
theorem MapIs.drop (h : MapIs w P k enc b n M) (hk : P.underlying k = some .string) (ht : P.underlying t = some (.map k e)) (s : ByteArray) (hs : s.size ≤ maxLen) (ty : TypeId) :
    ∃ w', (Builtin.delete_ #[t, k] ty #[.map (some b), .string s]).run P w = .ok (.tuple #[]) w' ∧ MapIs w' P k enc b n (delM M s.data.toList) ∧ Turn b w w' := by
  obtain ⟨w', hrun, h1, h2⟩ := World.ownsMap.drop h (string_keyed hk) ht (keyOf_string_mk hk hs) ty
  rw [mapD_del] at h1
  exact ⟨w', hrun, h1, turn_of h2⟩
/-- 'm[k] = v' as an arm -/
theorem wpList_update_map {ops : Array Oper} {rest : List Oper} {a : Act} {Q : Exit → Act → World → Prop} {dst : Option Tmp} {tt : TypeId} {m x v : Operand} {pos : String} {after : Array Edge}
    (h : MapIs w P k enc b n M) (hinj : ∀ a b, enc a = enc b → a = b) (hk : P.underlying k = some .string) (ht : P.underlying t = some (.map k e)) (hn : n < maxLen) (s : ByteArray) (hs : s.size ≤ maxLen) (y : α)
    (hx : a.eval m = .map (some b) ∧ a.eval x = .string s ∧ a.eval v = enc y)
    (hK : ∀ w', MapIs w' P k enc b (n + 1) (putM M s.data.toList y) → Turn b w w' → wpList P ops Q rest (a.put dst undef) w') :
    wpList P ops Q (⟨dst, .mapUpdate t m x v, tt, pos, after, none⟩ :: rest) a w := by
  refine wpList_plain rfl fun K' hK' => ?_
  obtain ⟨w', hrun, r1, r2⟩ := h.update hinj hk ht hn s hs y
  unfold Oper.wp
  simp [execOp, hx.1, hx.2.1, hx.2.2, hrun, Result.andThen]
  exact hK' _ _ (hK w' r1 r2)
/-- 'delete(m, k)' as an arm -/
theorem wpList_drop_map {ops : Array Oper} {rest : List Oper} {a : Act} {Q : Exit → Act → World → Prop} {dst : Option Tmp} {tt : TypeId} {m x : Operand} {pos : String} {after : Array Edge}
    (h : MapIs w P k enc b n M) (hk : P.underlying k = some .string) (ht : P.underlying t = some (.map k e)) (s : ByteArray) (hs : s.size ≤ maxLen)
    (hx : a.eval m = .map (some b) ∧ a.eval x = .string s)
    (hK : ∀ w', MapIs w' P k enc b n (delM M s.data.toList) → Turn b w w' → wpList P ops Q rest (a.put dst (.tuple #[])) w') :
    wpList P ops Q (⟨dst, .call ⟨.builtin .delete, #[m, x], #[t, k]⟩, tt, pos, after, none⟩ :: rest) a w := by
  refine wpList_plain rfl fun K' hK' => ?_
  obtain ⟨w', hrun, r1, r2⟩ := h.drop hk ht s hs tt
  unfold Oper.wp
  simp [execOp, resolve, invoke, builtin, hx.1, hx.2, hrun, Result.andThen]
  exact hK' _ _ (hK w' r1 r2)
end

/-- Go's order of texts -/
theorem bytesBefore_lt : ∀ a b : List UInt8, bytesBefore a b = true ↔ a < b
  | [], [] => by simp [bytesBefore]
  | [], _ :: _ => by simp [bytesBefore]
  | _ :: _, [] => by simp [bytesBefore]
  | a :: r, b :: s => by
    have ih := bytesBefore_lt r s
    rw [List.cons_lt_cons_iff, ← ih]
    simp [bytesBefore]
theorem sort_rises {α : Type} {M : Tab α} (h : Rises M) {ss : List (List UInt8)} (hp : ss.Perm (M.map (·.1))) : ss.mergeSort (fun x y => decide (x ≤ y)) = M.map (·.1) := by
  rw [mergeSort_of_perm hp]
  refine List.mergeSort_of_pairwise (List.pairwise_map.2 (h.imp fun {p q} hpq => ?_))
  exact decide_eq_true (List.le_of_lt ((bytesBefore_lt _ _).1 hpq))
end Go.Proofs.YtehpapoboeejkaaGreat
/- One rule for a region that draws its order: the first n operations come in whatever order their edges allow, each is shown once, from what is known of the ones that it waits for; behind them the rest in the text's order. -/
namespace Go.Proofs.YtehpapoboeejkaaGreat
open Go.RowKit

/-- the frame where operation j has yielded u j -/
def fillAll (T : Array Value) : List Oper → (Nat → Value) → Nat → Array Value
  | [], _, _ => T
  | o :: r, u, k => fillAll (match o.dst with | some d => T.setIfInBounds d (u k) | none => T) r u (k + 1)

def dstIn (d : Tmp) (r : List Oper) : Bool := r.any fun o => o.dst == some d
def distinctB : List Oper → Bool
  | [] => true
  | o :: r => (match o.dst with | some d => !dstIn d r | none => true) && distinctB r
def upd (u : Nat → Value) (i : Nat) (v : Value) : Nat → Value := fun j => if j = i then v else u j

theorem fillAll_comm (l : List Oper) : ∀ (T : Array Value) (u : Nat → Value) (k : Nat) (d : Tmp) (v : Value), dstIn d l = false →
    fillAll (T.setIfInBounds d v) l u k = (fillAll T l u k).setIfInBounds d v := by
  induction l with
  | nil => intros; rfl
  | cons o r ih =>
    intro T u k d v h
    simp only [dstIn, List.any_cons, Bool.or_eq_false_iff] at h
    cases hd : o.dst with
    | none => simp only [fillAll, hd]; exact ih T u (k + 1) d v h.2
    | some d' =>
      have hne : d' ≠ d := fun e => by have := h.1; rw [hd, e] at this; simp at this
      simp only [fillAll, hd]
      rw [← ih _ u (k + 1) d v h.2, Array.setIfInBounds_comm _ _ hne]
theorem fillAll_congr (l : List Oper) : ∀ (T : Array Value) (u u' : Nat → Value) (k : Nat), (∀ j, k ≤ j → u j = u' j) → fillAll T l u k = fillAll T l u' k := by
  induction l with
  | nil => intros; rfl
  | cons o r ih =>
    intro T u u' k h
    simp only [fillAll, h k (Nat.le_refl _)]
    exact ih _ u u' (k + 1) (fun j hj => h j (by omega))
theorem fillAll_put (l : List Oper) : ∀ (T : Array Value) (u : Nat → Value) (k i : Nat) (o : Oper) (v : Value), distinctB l = true → l[i]? = some o →
    (match o.dst with | some d => (fillAll T l u k).setIfInBounds d v | none => fillAll T l u k) = fillAll T l (upd u (k + i) v) k := by
  induction l with
  | nil => intro T u k i o v _ h; simp at h
  | cons o' r ih =>
    intro T u k i o v hd h
    simp only [distinctB, Bool.and_eq_true] at hd
    cases i with
    | zero =>
      simp only [List.getElem?_cons_zero, Option.some.injEq] at h
      subst h
      have hc : ∀ T, fillAll T r (upd u (k + 0) v) (k + 1) = fillAll T r u (k + 1) := fun T => fillAll_congr r T _ _ _ (fun j hj => by simp only [upd]; rw [if_neg (by omega)])
      cases hdd : o'.dst with
      | none => simp only [fillAll, hdd, hc]
      | some d =>
        have h1 : dstIn d r = false := by have := hd.1; rw [hdd] at this; simpa using this
        simp only [fillAll, hdd, hc]
        rw [← fillAll_comm r _ _ _ _ _ h1]
        simp [upd]
    | succ i =>
      simp only [List.getElem?_cons_succ] at h
      have := ih (match o'.dst with | some d => T.setIfInBounds d (u k) | none => T) u (k + 1) i o v hd.2 h
      have e : k + 1 + i = k + (i + 1) := by omega
      rw [e] at this
      simp only [fillAll]
      rw [this]
      have hk : upd u (k + (i + 1)) v k = u k := by simp only [upd]; rw [if_neg (by omega)]
      rw [hk]
/-- before anything has come, the frame is what it is -/
theorem fillAll_self (l : List Oper) : ∀ (T : Array Value) (k : Nat), distinctB l = true → ∃ u, fillAll T l u k = T := by
  induction l with
  | nil => intro T k _; exact ⟨fun _ => undef, rfl⟩
  | cons o r ih =>
    intro T k hd
    simp only [distinctB, Bool.and_eq_true] at hd
    obtain ⟨u, hu⟩ := ih T (k + 1) hd.2
    cases hdd : o.dst with
    | none => exact ⟨u, by simp only [fillAll, hdd]; exact hu⟩
    | some d =>
      refine ⟨upd u k (T.getD d undef), ?_⟩
      simp only [fillAll, hdd]
      have h0 : upd u k (T.getD d undef) k = T.getD d undef := by simp [upd]
      have hT : T.setIfInBounds d (T.getD d undef) = T := by
        apply Array.ext
        · simp
        · intro i h1 h2
          rw [Array.getElem_setIfInBounds]
          split
          · subst_vars; simp [h2]
          · rfl
      rw [h0, hT, fillAll_congr r T _ u (k + 1) (fun j hj => by simp only [upd]; rw [if_neg (by omega)])]
      exact hu

/-- the head's edges point back; the tail waits for all of the head, and comes in its order -/
def backB (ops : Array Oper) (n : Nat) : Bool := (List.range n).all fun i => ((ops[i]?).map (·.after.all fun e => decide (e.on < i))).getD true
def headB (ops : Array Oper) (n : Nat) : Bool :=
  backB ops n && (decide (n = ops.size) || (decide (n < ops.size) && Region.sinkB .any ops n && Region.chainB .any ops n && Region.seqB .any ops (ops.size - n) n ((Array.range ops.size).map fun j => decide (j < n))))

section
variable {P : Program}
theorem wp_region_head {id : Nat} {Q : Exit → Act → World → Prop} {w : World} {l : List Oper} {T : Array Value} {D : List Deferred} (n : Nat) (hm : P.follows .mixedOrders = true)
    (hB : headB l.toArray n = true) (hd : distinctB l = true)
    (V : Nat → Value → World → Prop) (M : World → Prop) (Ext : World → World → Prop)
    (hM0 : M w.drew) (hV : ∀ j v w w', Ext w w' → V j v w → V j v w')
    (hop : ∀ i o, i < n → l[i]? = some o → ∀ (u : Nat → Value) (w : World), M w → (∀ e ∈ o.after, Region.binds .any e = true → V e.on (u e.on) w) →
      ∀ K : Act → World → Prop, (∀ v w', V i v w' → M w' → Ext w w' → K ((⟨fillAll T l u 0, D⟩ : Act).put o.dst v) w') →
      if Region.wanted o (yielded l.toArray (fillAll T l u 0)) = true then Oper.wp P o ⟨fillAll T l u 0, D⟩ w K Q else K ((⟨fillAll T l u 0, D⟩ : Act).put o.dst undef) w)
    (hend : ∀ (u : Nat → Value) (w : World), M w → (∀ j, j < n → V j (u j) w) → wpList P l.toArray Q (l.drop n) ⟨fillAll T l u 0, D⟩ w) :
    (Code.region id l.toArray true).wp P Q ⟨T, D⟩ w := by
  simp only [headB, Bool.and_eq_true, Bool.or_eq_true, decide_eq_true_eq] at hB
  obtain ⟨hback, hB⟩ := hB
  have hsz : l.toArray.size = l.length := by simp
  have hn : n ≤ l.length := by rcases hB with h | h <;> omega
  refine wp_region_any hm ?_
  -- the state: some of the head have come
  have key : ∀ (f : Nat) (listed : Array Bool) (u : Nat → Value) (w : World), HeadInv .any l.toArray n listed →
      ((List.range n).filter fun j => !listed.getD j true).length = f → M w → (∀ j, j < n → listed.getD j false = true → V j (u j) w) →
      wpAny P .any l.toArray Q (f + (l.length - n)) listed ⟨fillAll T l u 0, D⟩ w := by
    intro f
    induction f with
    | zero =>
      intro listed u w inv hf hM hVs
      have hall : ∀ j, j < n → listed.getD j false = true := by
        intro j hj
        have : (List.range n).filter (fun j => !listed.getD j true) = [] := List.eq_nil_of_length_eq_zero hf
        have h1 := List.filter_eq_nil_iff.1 this j (List.mem_range.2 hj)
        have hjs : j < listed.size := by rw [inv.size, hsz]; omega
        simp only [Bool.not_eq_true', Bool.not_eq_false] at h1
        simp [hjs] at h1 ⊢
        exact h1
      have hL : listed = (Array.range l.toArray.size).map fun j => decide (j < n) := by
        apply Array.ext
        · simp [inv.size]
        · intro j h1 h2
          rw [Array.getElem_map, Array.getElem_range]
          by_cases hjn : j < n
          · have := hall j hjn
            simp only [hjn, decide_true]
            simpa [h1] using this
          · have hjl : j < l.toArray.size := by rw [← inv.size]; exact h1
            have := inv.tail j (by omega) hjl
            simp only [hjn, decide_false]
            simpa [h1] using this
      have hend' := hend u w hM (fun j hj => hVs j hj (hall j hj))
      rw [Nat.zero_add]
      rcases hB with hB | hB
      · have h0 : l.length - n = 0 := by omega
        rw [h0]
        rw [List.drop_of_length_le (by omega)] at hend'
        refine ⟨?_, hend'⟩
        rcases hr : Region.ready .any l.toArray listed with _ | ⟨i, r⟩
        · rfl
        · have hi : i ∈ Region.ready .any l.toArray listed := by rw [hr]; simp
          obtain ⟨h1, o, ho, _⟩ := mem_ready.1 hi
          have hil : i < l.toArray.size := (Array.getElem?_eq_some_iff.1 ho).1
          have := hall i (by omega)
          rw [getD_both h1] at this; cases this
      · have hdl : (l.drop n).length = l.length - n := by simp
        have hseq := hB.2
        rw [← hL, hsz, ← hdl] at hseq
        have := wpAny_of_seq (P := P) (md := .any) (ops := l.toArray) (Q' := Q) (l.drop n) n listed ⟨fillAll T l u 0, D⟩ w (fun j => by simp [List.getElem?_drop]) hseq hend'
        rw [hdl] at this
        exact this
    | succ f ih =>
      intro listed u w inv hf hM hVs
      rw [show f + 1 + (l.length - n) = (f + (l.length - n)) + 1 by omega]
      -- one of the head has not come: the least of them may come
      have hex : ∃ i, i < n ∧ listed.getD i true = false := by
        rcases hq : (List.range n).filter (fun j => !listed.getD j true) with _ | ⟨i, r⟩
        · rw [hq] at hf; simp at hf
        · have hi : i ∈ (List.range n).filter (fun j => !listed.getD j true) := by rw [hq]; simp
          rw [List.mem_filter, List.mem_range] at hi
          exact ⟨i, hi.1, by simpa using hi.2⟩
      refine ⟨fun h0 => ?_, fun i hi => ?_⟩
      · exfalso
        -- strong induction to the least
        have hleast : ∀ m i, i ≤ m → i < n → listed.getD i true = false → ∃ j, j ∈ Region.ready .any l.toArray listed := by
          intro m
          induction m with
          | zero =>
            intro i hi hin hun
            obtain rfl : i = 0 := by omega
            have hlt : 0 < l.length := by omega
            refine ⟨0, mem_ready.2 ⟨hun, l[0], by simp [hlt], fun e he hb => ?_⟩⟩
            have h1 := List.all_eq_true.1 hback 0 (List.mem_range.2 hin)
            rw [show l.toArray[0]? = some l[0] by simp [hlt]] at h1
            simp only [Option.map_some, Option.getD_some, Array.all_eq_true', decide_eq_true_eq] at h1
            have := h1 e he
            omega
          | succ m ihm =>
            intro i hi hin hun
            by_cases hdep : ∃ j, j < i ∧ listed.getD j true = false
            · obtain ⟨j, hj, hju⟩ := hdep
              exact ihm j (by omega) (by omega) hju
            · have hlt : i < l.length := by omega
              refine ⟨i, mem_ready.2 ⟨hun, l[i], by simp [hlt], fun e he hb => ?_⟩⟩
              have h1 := List.all_eq_true.1 hback i (List.mem_range.2 hin)
              rw [show l.toArray[i]? = some l[i] by simp [hlt]] at h1
              simp only [Option.map_some, Option.getD_some, Array.all_eq_true', decide_eq_true_eq] at h1
              have hlt2 := h1 e he
              have hes : e.on < listed.size := by rw [inv.size, hsz]; omega
              cases hq : listed.getD e.on false with
              | true => rfl
              | false => exact absurd ⟨e.on, hlt2, getD_in hes hq⟩ hdep
        obtain ⟨i, hin, hun⟩ := hex
        obtain ⟨j, hj⟩ := hleast i i (Nat.le_refl _) hin hun
        rw [h0] at hj; cases hj
      · obtain ⟨hun, o, ho, hall⟩ := mem_ready.1 hi
        have hin : i < n := by
          rcases hB with hB | hB
          · have := (Array.getElem?_eq_some_iff.1 ho).1; omega
          · rcases Nat.lt_or_ge i n with h | h
            · exact h
            · obtain ⟨k, hk, hku⟩ := hex
              exact absurd hi (tail_waits hB.1.1.2 hB.1.2 hB.1.1.1 inv _ k rfl hk hku i h)
        have hol : l[i]? = some o := by simpa using ho
        have hfacts : ∀ e ∈ o.after, Region.binds .any e = true → V e.on (u e.on) w := fun e he hb => by
          refine hVs e.on ?_ (hall e he hb)
          have h1 := List.all_eq_true.1 hback i (List.mem_range.2 hin)
          rw [ho] at h1
          simp only [Option.map_some, Option.getD_some, Array.all_eq_true', decide_eq_true_eq] at h1
          have := h1 e he
          omega
        refine wpOp_step ho fun K hK => ?_
        refine hop i o hin hol u w hM hfacts K fun v w' hv hM' hE => hK _ _ ?_
        have hput : (⟨fillAll T l u 0, D⟩ : Act).put o.dst v = ⟨fillAll T l (upd u i v) 0, D⟩ := by
          have := fillAll_put l T u 0 i o v hd hol
          rw [Nat.zero_add] at this
          rw [← this]
          cases o.dst <;> rfl
        rw [hput]
        refine ih (listed.setIfInBounds i true) (upd u i v) w' (inv.set hi hin) ?_ hM' ?_
        · have hils : i < listed.size := by rw [inv.size, hsz]; omega
          have hsplit : ∀ (r : List Nat), r.Nodup → i ∈ r → (r.filter fun j => !listed.getD j true).length = (r.filter fun j => !(listed.setIfInBounds i true).getD j true).length + 1 := by
            intro r
            induction r with
            | nil => intro _ h; cases h
            | cons x r ihr =>
              intro hnd hmem
              rw [List.nodup_cons] at hnd
              by_cases hx : x = i
              · subst hx
                have h2 : (listed.setIfInBounds x true).getD x true = true := by simp [hils]
                have hsame : ∀ (r' : List Nat), x ∉ r' → (r'.filter fun j => !listed.getD j true) = (r'.filter fun j => !(listed.setIfInBounds x true).getD j true) := by
                  intro r' hr'
                  refine List.filter_congr fun j hj => ?_
                  rw [getD_set_ne true (show x ≠ j from fun e => hr' (by rw [e]; exact hj))]
                rw [List.filter_cons, List.filter_cons, hun, h2]
                simp only [Bool.not_false, if_true, Bool.not_true, Bool.false_eq_true, if_false, List.length_cons]
                rw [hsame r hnd.1]
              · have hm' : i ∈ r := by
                  rcases List.mem_cons.1 hmem with h | h
                  · exact absurd h.symm hx
                  · exact h
                have := ihr hnd.2 hm'
                rw [List.filter_cons, List.filter_cons, getD_set_ne true (fun e => hx e.symm)]
                split
                · simp only [List.length_cons]; omega
                · exact this
          have := hsplit (List.range n) List.nodup_range (List.mem_range.2 hin)
          omega
        · intro j hj hl
          by_cases hji : j = i
          · subst hji
            simp only [upd, if_true]
            exact hv
          · rw [getD_set_ne false (Ne.symm hji)] at hl
            have h1 := hV j (u j) w w' hE (hVs j hj hl)
            simp only [upd, hji, if_false]
            exact h1
  obtain ⟨u, hu⟩ := fillAll_self l T 0 hd
  have inv0 : HeadInv .any l.toArray n (Array.replicate l.toArray.size false) :=
    ⟨by simp, fun j oj _ hl => (by rw [getD_replicate_false] at hl; cases hl), fun t _ ht => getD_in (by simpa using ht) (getD_replicate_false _ _)⟩
  have hf0 : ((List.range n).filter fun j => !(Array.replicate l.toArray.size false).getD j true).length = n := by
    rw [List.filter_eq_self.2]
    · simp
    · intro j hj
      have := List.mem_range.1 hj
      rw [getD_in (by simp; omega) (getD_replicate_false _ _)]; rfl
  have := key n (Array.replicate l.toArray.size false) u w.drew inv0 hf0 hM0 (fun j _ hl => by rw [getD_replicate_false] at hl; cases hl)
  rw [hu, show n + (l.length - n) = l.toArray.size by omega] at this
  exact this
end
theorem step_plain {P : Program} {ops : Array Oper} {T : Array Value} {D : List Deferred} {o : Oper} {w : World} {K : Act → World → Prop} {Q : Exit → Act → World → Prop} {E : Prop} (hg : o.guard = none)
    (h : Oper.wp P o ⟨T, D⟩ w K Q) : if Region.wanted o (yielded ops T) = true then Oper.wp P o ⟨T, D⟩ w K Q else E := by
  rw [if_pos (by simp [Region.wanted, hg])]; exact h
/-- a statement of each operation of a list, as one conjunction -/
def AllOps (F : Nat → Oper → Prop) : List Oper → Nat → Prop
  | [], _ => True
  | o :: r, k => F k o ∧ AllOps F r (k + 1)
theorem AllOps.get {F : Nat → Oper → Prop} : ∀ (l : List Oper) (k : Nat), AllOps F l k → ∀ i o, l[i]? = some o → F (k + i) o
  | [], _, _, i, o, h => by simp at h
  | o' :: r, k, ha, 0, o, h => by
    simp only [List.getElem?_cons_zero, Option.some.injEq] at h
    subst h
    exact ha.1
  | o' :: r, k, ha, i + 1, o, h => by
    simp only [List.getElem?_cons_succ] at h
    have := AllOps.get r (k + 1) ha.2 i o h
    rw [show k + (i + 1) = k + 1 + i by omega]
    exact this
theorem of_allOps {F : Nat → Oper → Prop} {l : List Oper} {n : Nat} (h : AllOps F (l.take n) 0) : ∀ i o, i < n → l[i]? = some o → F i o := fun i o hi ho => by
  have := AllOps.get (l.take n) 0 h i o (by rw [List.getElem?_take, if_pos hi]; exact ho)
  rwa [Nat.zero_add] at this
end Go.Proofs.YtehpapoboeejkaaGreat
/- A second rule for a region that draws its order: values that hang on nothing but the values before them. -/
namespace Go.Proofs.YtehpapoboeejkaaGreat
open Go.RowKit
theorem fillAll_congr_lt (l : List Oper) : ∀ (T : Array Value) (u u' : Nat → Value) (k : Nat), (∀ j, k ≤ j → j < k + l.length → u j = u' j) → fillAll T l u k = fillAll T l u' k := by
  induction l with
  | nil => intros; rfl
  | cons o r ih =>
    intro T u u' k h
    simp only [List.length_cons] at h
    simp only [fillAll, h k (Nat.le_refl _) (by omega)]
    exact ih _ u u' (k + 1) (fun j hj h2 => h j (by omega) (by omega))
theorem fillAll_size (l : List Oper) : ∀ (T : Array Value) (u : Nat → Value) (k : Nat), (fillAll T l u k).size = T.size := by
  induction l with
  | nil => intros; rfl
  | cons o r ih =>
    intro T u k
    simp only [fillAll]
    rw [ih]
    cases o.dst <;> simp
theorem fillAll_out (l : List Oper) : ∀ (T : Array Value) (u : Nat → Value) (k : Nat) (t : Tmp), dstIn t l = false → (fillAll T l u k)[t]? = T[t]? := by
  induction l with
  | nil => intros; rfl
  | cons o r ih =>
    intro T u k t h
    simp only [dstIn, List.any_cons, Bool.or_eq_false_iff] at h
    simp only [fillAll]
    rw [ih _ _ _ t h.2]
    cases hd : o.dst with
    | none => rfl
    | some d =>
      have hne : d ≠ t := fun e => by have := h.1; rw [hd, e] at this; simp at this
      exact Array.getElem?_setIfInBounds_ne hne
theorem fillAll_at (l : List Oper) : ∀ (T : Array Value) (u : Nat → Value) (k i : Nat) (o : Oper) (d : Tmp), distinctB l = true → l[i]? = some o → o.dst = some d → d < T.size → (fillAll T l u k)[d]? = some (u (k + i)) := by
  induction l with
  | nil => intro T u k i o d _ h; simp at h
  | cons o' r ih =>
    intro T u k i o d hd h hod hlt
    simp only [distinctB, Bool.and_eq_true] at hd
    cases i with
    | zero =>
      simp only [List.getElem?_cons_zero, Option.some.injEq] at h
      subst h
      have h1 : dstIn d r = false := by have := hd.1; rw [hod] at this; simpa using this
      simp only [fillAll, hod]
      rw [fillAll_out r _ _ _ d h1]
      simp [hlt]
    | succ i =>
      simp only [List.getElem?_cons_succ] at h
      simp only [fillAll]
      rw [ih _ u (k + 1) i o d hd.2 h hod (by cases o'.dst <;> simpa using hlt)]
      rw [show k + 1 + i = k + (i + 1) by omega]
theorem step_plain0 {P : Program} {ops : Array Oper} {T : Array Value} {D : List Deferred} {o : Oper} {w : World} {K : Act → World → Prop} {Q : Exit → Act → World → Prop} {E : Prop} (hg : o.guard = none)
    (h : Oper.wp P o ⟨T, D⟩ w K Q) : if Region.wanted o (yielded ops T) = true then Oper.wp P o ⟨T, D⟩ w K Q else E := by
  rw [if_pos (by simp [Region.wanted, hg])]; exact h
section
variable {P : Program}
/-- A region whose first n operations yield values that hang on nothing but the values before them (in worlds of a class C), in whatever order; each is shown once, over any frame; the rest is a chain. -/
theorem wp_region_vals {id : Nat} {Q : Exit → Act → World → Prop} {w : World} {l : List Oper} {T : Array Value} {D : List Deferred} (n : Nat) (hm : P.follows .mixedOrders = true)
    (hB : headB l.toArray n = true) (hd : distinctB (l.take n) = true) (N : Nat) (hN : T.size = N) (hNB : (l.all fun o => (o.dst.map fun d => decide (d < N)).getD true) = true)
    (val : Nat → Value) (C : World → Prop) (hM0 : C w.drew)
    (hop : ∀ i o, i < n → l[i]? = some o → o.guard = none ∧ ∀ (T' : Array Value) (w : World), C w → T'.size = T.size → (∀ t, dstIn t (l.take n) = false → T'[t]? = T[t]?) →
      (∀ e ∈ o.after, Region.binds .any e = true → ∀ oe d, l[e.on]? = some oe → oe.dst = some d → T'[d]? = some (val e.on)) →
      Oper.wp P o ⟨T', D⟩ w (fun a' w' => a' = (⟨T', D⟩ : Act).put o.dst (val i) ∧ C w') Q)
    (hend : ∀ (w : World), C w → wpList P l.toArray Q (l.drop n) ⟨fillAll T (l.take n) val 0, D⟩ w) :
    (Code.region id l.toArray true).wp P Q ⟨T, D⟩ w := by
  have hin_ : ∀ o d, o ∈ l → o.dst = some d → d < T.size := fun o d ho hd' => by
    have := List.all_eq_true.1 hNB o ho
    rw [hd'] at this
    rw [hN]
    simpa using this
  simp only [headB, Bool.and_eq_true, Bool.or_eq_true, decide_eq_true_eq] at hB
  obtain ⟨hback, hB⟩ := hB
  have hsz : l.toArray.size = l.length := by simp
  have hn : n ≤ l.length := by rcases hB with h | h <;> omega
  refine wp_region_any hm ?_
  -- the state: some of the head have come
  have key : ∀ (f : Nat) (listed : Array Bool) (u : Nat → Value) (w : World), HeadInv .any l.toArray n listed →
      ((List.range n).filter fun j => !listed.getD j true).length = f → C w → (∀ j, j < n → listed.getD j false = true → u j = val j) →
      wpAny P .any l.toArray Q (f + (l.length - n)) listed ⟨fillAll T (l.take n) u 0, D⟩ w := by
    intro f
    induction f with
    | zero =>
      intro listed u w inv hf hM hVs
      have hall : ∀ j, j < n → listed.getD j false = true := by
        intro j hj
        have : (List.range n).filter (fun j => !listed.getD j true) = [] := List.eq_nil_of_length_eq_zero hf
        have h1 := List.filter_eq_nil_iff.1 this j (List.mem_range.2 hj)
        have hjs : j < listed.size := by rw [inv.size, hsz]; omega
        simp only [Bool.not_eq_true', Bool.not_eq_false] at h1
        simp [hjs] at h1 ⊢
        exact h1
      have hL : listed = (Array.range l.toArray.size).map fun j => decide (j < n) := by
        apply Array.ext
        · simp [inv.size]
        · intro j h1 h2
          rw [Array.getElem_map, Array.getElem_range]
          by_cases hjn : j < n
          · have := hall j hjn
            simp only [hjn, decide_true]
            simpa [h1] using this
          · have hjl : j < l.toArray.size := by rw [← inv.size]; exact h1
            have := inv.tail j (by omega) hjl
            simp only [hjn, decide_false]
            simpa [h1] using this
      have hend' : wpList P l.toArray Q (l.drop n) ⟨fillAll T (l.take n) u 0, D⟩ w := by
        have e : fillAll T (l.take n) u 0 = fillAll T (l.take n) val 0 := fillAll_congr_lt (l.take n) T u val 0 (fun j _ hj => hVs j (by rw [List.length_take] at hj; omega) (hall j (by rw [List.length_take] at hj; omega)))
        rw [e]
        exact hend w hM
      rw [Nat.zero_add]
      rcases hB with hB | hB
      · have h0 : l.length - n = 0 := by omega
        rw [h0]
        rw [List.drop_of_length_le (by omega)] at hend'
        refine ⟨?_, hend'⟩
        rcases hr : Region.ready .any l.toArray listed with _ | ⟨i, r⟩
        · rfl
        · have hi : i ∈ Region.ready .any l.toArray listed := by rw [hr]; simp
          obtain ⟨h1, o, ho, _⟩ := mem_ready.1 hi
          have hil : i < l.toArray.size := (Array.getElem?_eq_some_iff.1 ho).1
          have := hall i (by omega)
          rw [getD_both h1] at this; cases this
      · have hdl : (l.drop n).length = l.length - n := by simp
        have hseq := hB.2
        rw [← hL, hsz, ← hdl] at hseq
        have := wpAny_of_seq (P := P) (md := .any) (ops := l.toArray) (Q' := Q) (l.drop n) n listed ⟨fillAll T (l.take n) u 0, D⟩ w (fun j => by simp [List.getElem?_drop]) hseq hend'
        rw [hdl] at this
        exact this
    | succ f ih =>
      intro listed u w inv hf hM hVs
      rw [show f + 1 + (l.length - n) = (f + (l.length - n)) + 1 by omega]
      -- one of the head has not come: the least of them may come
      have hex : ∃ i, i < n ∧ listed.getD i true = false := by
        rcases hq : (List.range n).filter (fun j => !listed.getD j true) with _ | ⟨i, r⟩
        · rw [hq] at hf; simp at hf
        · have hi : i ∈ (List.range n).filter (fun j => !listed.getD j true) := by rw [hq]; simp
          rw [List.mem_filter, List.mem_range] at hi
          exact ⟨i, hi.1, by simpa using hi.2⟩
      refine ⟨fun h0 => ?_, fun i hi => ?_⟩
      · exfalso
        -- strong induction to the least
        have hleast : ∀ m i, i ≤ m → i < n → listed.getD i true = false → ∃ j, j ∈ Region.ready .any l.toArray listed := by
          intro m
          induction m with
          | zero =>
            intro i hi hin hun
            obtain rfl : i = 0 := by omega
            have hlt : 0 < l.length := by omega
            refine ⟨0, mem_ready.2 ⟨hun, l[0], by simp [hlt], fun e he hb => ?_⟩⟩
            have h1 := List.all_eq_true.1 hback 0 (List.mem_range.2 hin)
            rw [show l.toArray[0]? = some l[0] by simp [hlt]] at h1
            simp only [Option.map_some, Option.getD_some, Array.all_eq_true', decide_eq_true_eq] at h1
            have := h1 e he
            omega
          | succ m ihm =>
            intro i hi hin hun
            by_cases hdep : ∃ j, j < i ∧ listed.getD j true = false
            · obtain ⟨j, hj, hju⟩ := hdep
              exact ihm j (by omega) (by omega) hju
            · have hlt : i < l.length := by omega
              refine ⟨i, mem_ready.2 ⟨hun, l[i], by simp [hlt], fun e he hb => ?_⟩⟩
              have h1 := List.all_eq_true.1 hback i (List.mem_range.2 hin)
              rw [show l.toArray[i]? = some l[i] by simp [hlt]] at h1
              simp only [Option.map_some, Option.getD_some, Array.all_eq_true', decide_eq_true_eq] at h1
              have hlt2 := h1 e he
              have hes : e.on < listed.size := by rw [inv.size, hsz]; omega
              cases hq : listed.getD e.on false with
              | true => rfl
              | false => exact absurd ⟨e.on, hlt2, getD_in hes hq⟩ hdep
        obtain ⟨i, hin, hun⟩ := hex
        obtain ⟨j, hj⟩ := hleast i i (Nat.le_refl _) hin hun
        rw [h0] at hj; cases hj
      · obtain ⟨hun, o, ho, hall⟩ := mem_ready.1 hi
        have hin : i < n := by
          rcases hB with hB | hB
          · have := (Array.getElem?_eq_some_iff.1 ho).1; omega
          · rcases Nat.lt_or_ge i n with h | h
            · exact h
            · obtain ⟨k, hk, hku⟩ := hex
              exact absurd hi (tail_waits hB.1.1.2 hB.1.2 hB.1.1.1 inv _ k rfl hk hku i h)
        have hol : l[i]? = some o := by simpa using ho
        have hfacts : ∀ e ∈ o.after, Region.binds .any e = true → u e.on = val e.on := fun e he hb => by
          refine hVs e.on ?_ (hall e he hb)
          have h1 := List.all_eq_true.1 hback i (List.mem_range.2 hin)
          rw [ho] at h1
          simp only [Option.map_some, Option.getD_some, Array.all_eq_true', decide_eq_true_eq] at h1
          have := h1 e he
          omega
        refine wpOp_step ho fun K hK => ?_
        obtain ⟨hg, hstep⟩ := hop i o hin hol
        have hst := hstep (fillAll T (l.take n) u 0) w hM (fillAll_size _ _ _ _) (fun t ht => fillAll_out _ _ _ _ t ht) (fun e he hb oe d hoe hod => by
          have hlt2 : e.on < n := by
            have h1 := List.all_eq_true.1 hback i (List.mem_range.2 hin)
            rw [ho] at h1
            simp only [Option.map_some, Option.getD_some, Array.all_eq_true', decide_eq_true_eq] at h1
            have := h1 e he
            omega
          rw [← hfacts e he hb]
          have := fillAll_at (l.take n) T u 0 e.on oe d hd (by rw [List.getElem?_take, if_pos hlt2]; exact hoe) hod (hin_ oe d (List.mem_of_getElem? hoe) hod)
          rwa [Nat.zero_add] at this)
        refine step_plain0 hg (Oper.wp_mono (fun a' w' ha => ?_) hst)
        obtain ⟨rfl, hM'⟩ := ha
        refine hK _ _ ?_
        have hv : val i = val i := rfl
        obtain ⟨v, hvv⟩ : ∃ v, v = val i := ⟨_, rfl⟩
        rw [← hvv]
        have hput : (⟨fillAll T (l.take n) u 0, D⟩ : Act).put o.dst v = ⟨fillAll T (l.take n) (upd u i v) 0, D⟩ := by
          have := fillAll_put (l.take n) T u 0 i o v hd (by rw [List.getElem?_take, if_pos hin]; exact hol)
          rw [Nat.zero_add] at this
          rw [← this]
          cases o.dst <;> rfl
        rw [hput]
        refine ih (listed.setIfInBounds i true) (upd u i v) w' (inv.set hi hin) ?_ hM' ?_
        · have hils : i < listed.size := by rw [inv.size, hsz]; omega
          have hsplit : ∀ (r : List Nat), r.Nodup → i ∈ r → (r.filter fun j => !listed.getD j true).length = (r.filter fun j => !(listed.setIfInBounds i true).getD j true).length + 1 := by
            intro r
            induction r with
            | nil => intro _ h; cases h
            | cons x r ihr =>
              intro hnd hmem
              rw [List.nodup_cons] at hnd
              by_cases hx : x = i
              · subst hx
                have h2 : (listed.setIfInBounds x true).getD x true = true := by simp [hils]
                have hsame : ∀ (r' : List Nat), x ∉ r' → (r'.filter fun j => !listed.getD j true) = (r'.filter fun j => !(listed.setIfInBounds x true).getD j true) := by
                  intro r' hr'
                  refine List.filter_congr fun j hj => ?_
                  rw [getD_set_ne true (show x ≠ j from fun e => hr' (by rw [e]; exact hj))]
                rw [List.filter_cons, List.filter_cons, hun, h2]
                simp only [Bool.not_false, if_true, Bool.not_true, Bool.false_eq_true, if_false, List.length_cons]
                rw [hsame r hnd.1]
              · have hm' : i ∈ r := by
                  rcases List.mem_cons.1 hmem with h | h
                  · exact absurd h.symm hx
                  · exact h
                have := ihr hnd.2 hm'
                rw [List.filter_cons, List.filter_cons, getD_set_ne true (fun e => hx e.symm)]
                split
                · simp only [List.length_cons]; omega
                · exact this
          have := hsplit (List.range n) List.nodup_range (List.mem_range.2 hin)
          omega
        · intro j hj hl
          by_cases hji : j = i
          · subst hji
            simp only [upd, if_true]
            exact hvv
          · rw [getD_set_ne false (Ne.symm hji)] at hl
            simp only [upd, hji, if_false]
            exact hVs j hj hl
  obtain ⟨u, hu⟩ := fillAll_self (l.take n) T 0 hd
  have inv0 : HeadInv .any l.toArray n (Array.replicate l.toArray.size false) :=
    ⟨by simp, fun j oj _ hl => (by rw [getD_replicate_false] at hl; cases hl), fun t _ ht => getD_in (by simpa using ht) (getD_replicate_false _ _)⟩
  have hf0 : ((List.range n).filter fun j => !(Array.replicate l.toArray.size false).getD j true).length = n := by
    rw [List.filter_eq_self.2]
    · simp
    · intro j hj
      have := List.mem_range.1 hj
      rw [getD_in (by simp; omega) (getD_replicate_false _ _)]; rfl
  have := key n (Array.replicate l.toArray.size false) u w.drew inv0 hf0 hM0 (fun j _ hl => by rw [getD_replicate_false] at hl; cases hl)
  rw [hu, show n + (l.length - n) = l.toArray.size by omega] at this
  exact this
end

section
variable {P : Program}
/-- A region whose first n operations yield values of which only this is known: V, kept by what comes behind (Ext); in whatever order; each is shown once, over any frame; the rest is a chain. -/
theorem wpAny_rel {Q : Exit → Act → World → Prop} {w : World} {l : List Oper} {T : Array Value} {D : List Deferred} (n : Nat)
    (hB : headB l.toArray n = true) (hd : distinctB (l.take n) = true) (N : Nat) (hN : T.size = N) (hNB : (l.all fun o => (o.dst.map fun d => decide (d < N)).getD true) = true)
    (V : Nat → Value → World → Prop) (M : World → Prop) (Ext : World → World → Prop) (hM0 : M w.drew) (hV : ∀ j v w w', Ext w w' → V j v w → V j v w')
    (hop : ∀ i o, i < n → l[i]? = some o → o.guard = none ∧ ∀ (T' : Array Value) (w : World), M w → T'.size = T.size → (∀ t, dstIn t (l.take n) = false → T'[t]? = T[t]?) →
      (∀ e ∈ o.after, Region.binds .any e = true → ∀ oe d, l[e.on]? = some oe → oe.dst = some d → ∃ v, T'[d]? = some v ∧ V e.on v w) →
      ∀ K : Act → World → Prop, (∀ v w', V i v w' → M w' → Ext w w' → K ((⟨T', D⟩ : Act).put o.dst v) w') → Oper.wp P o ⟨T', D⟩ w K Q)
    (hend : ∀ (u : Nat → Value) (w : World), M w → (∀ j, j < n → V j (u j) w) → wpList P l.toArray Q (l.drop n) ⟨fillAll T (l.take n) u 0, D⟩ w) :
    wpAny P .any l.toArray Q l.toArray.size (Array.replicate l.toArray.size false) ⟨T, D⟩ w.drew := by
  have hin_ : ∀ o d, o ∈ l → o.dst = some d → d < T.size := fun o d ho hd' => by
    have := List.all_eq_true.1 hNB o ho
    rw [hd'] at this
    rw [hN]
    simpa using this
  simp only [headB, Bool.and_eq_true, Bool.or_eq_true, decide_eq_true_eq] at hB
  obtain ⟨hback, hB⟩ := hB
  have hsz : l.toArray.size = l.length := by simp
  have hn : n ≤ l.length := by rcases hB with h | h <;> omega
  -- the state: some of the head have come
  have key : ∀ (f : Nat) (listed : Array Bool) (u : Nat → Value) (w : World), HeadInv .any l.toArray n listed →
      ((List.range n).filter fun j => !listed.getD j true).length = f → M w → (∀ j, j < n → listed.getD j false = true → V j (u j) w) →
      wpAny P .any l.toArray Q (f + (l.length - n)) listed ⟨fillAll T (l.take n) u 0, D⟩ w := by
    intro f
    induction f with
    | zero =>
      intro listed u w inv hf hM hVs
      have hall : ∀ j, j < n → listed.getD j false = true := by
        intro j hj
        have : (List.range n).filter (fun j => !listed.getD j true) = [] := List.eq_nil_of_length_eq_zero hf
        have h1 := List.filter_eq_nil_iff.1 this j (List.mem_range.2 hj)
        have hjs : j < listed.size := by rw [inv.size, hsz]; omega
        simp only [Bool.not_eq_true', Bool.not_eq_false] at h1
        simp [hjs] at h1 ⊢
        exact h1
      have hL : listed = (Array.range l.toArray.size).map fun j => decide (j < n) := by
        apply Array.ext
        · simp [inv.size]
        · intro j h1 h2
          rw [Array.getElem_map, Array.getElem_range]
          by_cases hjn : j < n
          · have := hall j hjn
            simp only [hjn, decide_true]
            simpa [h1] using this
          · have hjl : j < l.toArray.size := by rw [← inv.size]; exact h1
            have := inv.tail j (by omega) hjl
            simp only [hjn, decide_false]
            simpa [h1] using this
      have hend' := hend u w hM (fun j hj => hVs j hj (hall j hj))
      rw [Nat.zero_add]
      rcases hB with hB | hB
      · have h0 : l.length - n = 0 := by omega
        rw [h0]
        rw [List.drop_of_length_le (by omega)] at hend'
        refine ⟨?_, hend'⟩
        rcases hr : Region.ready .any l.toArray listed with _ | ⟨i, r⟩
        · rfl
        · have hi : i ∈ Region.ready .any l.toArray listed := by rw [hr]; simp
          obtain ⟨h1, o, ho, _⟩ := mem_ready.1 hi
          have hil : i < l.toArray.size := (Array.getElem?_eq_some_iff.1 ho).1
          have := hall i (by omega)
          rw [getD_both h1] at this; cases this
      · have hdl : (l.drop n).length = l.length - n := by simp
        have hseq := hB.2
        rw [← hL, hsz, ← hdl] at hseq
        have := wpAny_of_seq (P := P) (md := .any) (ops := l.toArray) (Q' := Q) (l.drop n) n listed ⟨fillAll T (l.take n) u 0, D⟩ w (fun j => by simp [List.getElem?_drop]) hseq hend'
        rw [hdl] at this
        exact this
    | succ f ih =>
      intro listed u w inv hf hM hVs
      rw [show f + 1 + (l.length - n) = (f + (l.length - n)) + 1 by omega]
      -- one of the head has not come: the least of them may come
      have hex : ∃ i, i < n ∧ listed.getD i true = false := by
        rcases hq : (List.range n).filter (fun j => !listed.getD j true) with _ | ⟨i, r⟩
        · rw [hq] at hf; simp at hf
        · have hi : i ∈ (List.range n).filter (fun j => !listed.getD j true) := by rw [hq]; simp
          rw [List.mem_filter, List.mem_range] at hi
          exact ⟨i, hi.1, by simpa using hi.2⟩
      refine ⟨fun h0 => ?_, fun i hi => ?_⟩
      · exfalso
        -- strong induction to the least
        have hleast : ∀ m i, i ≤ m → i < n → listed.getD i true = false → ∃ j, j ∈ Region.ready .any l.toArray listed := by
          intro m
          induction m with
          | zero =>
            intro i hi hin hun
            obtain rfl : i = 0 := by omega
            have hlt : 0 < l.length := by omega
            refine ⟨0, mem_ready.2 ⟨hun, l[0], by simp [hlt], fun e he hb => ?_⟩⟩
            have h1 := List.all_eq_true.1 hback 0 (List.mem_range.2 hin)
            rw [show l.toArray[0]? = some l[0] by simp [hlt]] at h1
            simp only [Option.map_some, Option.getD_some, Array.all_eq_true', decide_eq_true_eq] at h1
            have := h1 e he
            omega
          | succ m ihm =>
            intro i hi hin hun
            by_cases hdep : ∃ j, j < i ∧ listed.getD j true = false
            · obtain ⟨j, hj, hju⟩ := hdep
              exact ihm j (by omega) (by omega) hju
            · have hlt : i < l.length := by omega
              refine ⟨i, mem_ready.2 ⟨hun, l[i], by simp [hlt], fun e he hb => ?_⟩⟩
              have h1 := List.all_eq_true.1 hback i (List.mem_range.2 hin)
              rw [show l.toArray[i]? = some l[i] by simp [hlt]] at h1
              simp only [Option.map_some, Option.getD_some, Array.all_eq_true', decide_eq_true_eq] at h1
              have hlt2 := h1 e he
              have hes : e.on < listed.size := by rw [inv.size, hsz]; omega
              cases hq : listed.getD e.on false with
              | true => rfl
              | false => exact absurd ⟨e.on, hlt2, getD_in hes hq⟩ hdep
        obtain ⟨i, hin, hun⟩ := hex
        obtain ⟨j, hj⟩ := hleast i i (Nat.le_refl _) hin hun
        rw [h0] at hj; cases hj
      · obtain ⟨hun, o, ho, hall⟩ := mem_ready.1 hi
        have hin : i < n := by
          rcases hB with hB | hB
          · have := (Array.getElem?_eq_some_iff.1 ho).1; omega
          · rcases Nat.lt_or_ge i n with h | h
            · exact h
            · obtain ⟨k, hk, hku⟩ := hex
              exact absurd hi (tail_waits hB.1.1.2 hB.1.2 hB.1.1.1 inv _ k rfl hk hku i h)
        have hol : l[i]? = some o := by simpa using ho
        have hfacts : ∀ e ∈ o.after, Region.binds .any e = true → V e.on (u e.on) w := fun e he hb => by
          refine hVs e.on ?_ (hall e he hb)
          have h1 := List.all_eq_true.1 hback i (List.mem_range.2 hin)
          rw [ho] at h1
          simp only [Option.map_some, Option.getD_some, Array.all_eq_true', decide_eq_true_eq] at h1
          have := h1 e he
          omega
        refine wpOp_step ho fun K hK => ?_
        obtain ⟨hg, hstep⟩ := hop i o hin hol
        have hst := hstep (fillAll T (l.take n) u 0) w hM (fillAll_size _ _ _ _) (fun t ht => fillAll_out _ _ _ _ t ht) (fun e he hb oe d hoe hod => by
          have hlt2 : e.on < n := by
            have h1 := List.all_eq_true.1 hback i (List.mem_range.2 hin)
            rw [ho] at h1
            simp only [Option.map_some, Option.getD_some, Array.all_eq_true', decide_eq_true_eq] at h1
            have := h1 e he
            omega
          refine ⟨u e.on, ?_, hfacts e he hb⟩
          have := fillAll_at (l.take n) T u 0 e.on oe d hd (by rw [List.getElem?_take, if_pos hlt2]; exact hoe) hod (hin_ oe d (List.mem_of_getElem? hoe) hod)
          rwa [Nat.zero_add] at this)
        refine step_plain0 hg (hst K (fun v w' hv hM' hE => hK _ _ ?_))
        have hput : (⟨fillAll T (l.take n) u 0, D⟩ : Act).put o.dst v = ⟨fillAll T (l.take n) (upd u i v) 0, D⟩ := by
          have := fillAll_put (l.take n) T u 0 i o v hd (by rw [List.getElem?_take, if_pos hin]; exact hol)
          rw [Nat.zero_add] at this
          rw [← this]
          cases o.dst <;> rfl
        rw [hput]
        refine ih (listed.setIfInBounds i true) (upd u i v) w' (inv.set hi hin) ?_ hM' ?_
        · have hils : i < listed.size := by rw [inv.size, hsz]; omega
          have hsplit : ∀ (r : List Nat), r.Nodup → i ∈ r → (r.filter fun j => !listed.getD j true).length = (r.filter fun j => !(listed.setIfInBounds i true).getD j true).length + 1 := by
            intro r
            induction r with
            | nil => intro _ h; cases h
            | cons x r ihr =>
              intro hnd hmem
              rw [List.nodup_cons] at hnd
              by_cases hx : x = i
              · subst hx
                have h2 : (listed.setIfInBounds x true).getD x true = true := by simp [hils]
                have hsame : ∀ (r' : List Nat), x ∉ r' → (r'.filter fun j => !listed.getD j true) = (r'.filter fun j => !(listed.setIfInBounds x true).getD j true) := by
                  intro r' hr'
                  refine List.filter_congr fun j hj => ?_
                  rw [getD_set_ne true (show x ≠ j from fun e => hr' (by rw [e]; exact hj))]
                rw [List.filter_cons, List.filter_cons, hun, h2]
                simp only [Bool.not_false, if_true, Bool.not_true, Bool.false_eq_true, if_false, List.length_cons]
                rw [hsame r hnd.1]
              · have hm' : i ∈ r := by
                  rcases List.mem_cons.1 hmem with h | h
                  · exact absurd h.symm hx
                  · exact h
                have := ihr hnd.2 hm'
                rw [List.filter_cons, List.filter_cons, getD_set_ne true (fun e => hx e.symm)]
                split
                · simp only [List.length_cons]; omega
                · exact this
          have := hsplit (List.range n) List.nodup_range (List.mem_range.2 hin)
          omega
        · intro j hj hl
          by_cases hji : j = i
          · subst hji
            simp only [upd, if_true]
            exact hv
          · rw [getD_set_ne false (Ne.symm hji)] at hl
            have h1 := hV j (u j) w w' hE (hVs j hj hl)
            simp only [upd, hji, if_false]
            exact h1
  obtain ⟨u, hu⟩ := fillAll_self (l.take n) T 0 hd
  have inv0 : HeadInv .any l.toArray n (Array.replicate l.toArray.size false) :=
    ⟨by simp, fun j oj _ hl => (by rw [getD_replicate_false] at hl; cases hl), fun t _ ht => getD_in (by simpa using ht) (getD_replicate_false _ _)⟩
  have hf0 : ((List.range n).filter fun j => !(Array.replicate l.toArray.size false).getD j true).length = n := by
    rw [List.filter_eq_self.2]
    · simp
    · intro j hj
      have := List.mem_range.1 hj
      rw [getD_in (by simp; omega) (getD_replicate_false _ _)]; rfl
  have := key n (Array.replicate l.toArray.size false) u w.drew inv0 hf0 hM0 (fun j _ hl => by rw [getD_replicate_false] at hl; cases hl)
  rw [hu, show n + (l.length - n) = l.toArray.size by omega] at this
  exact this
theorem wp_region_rel {id : Nat} {Q : Exit → Act → World → Prop} {w : World} {l : List Oper} {T : Array Value} {D : List Deferred} (n : Nat) (hm : P.follows .mixedOrders = true)
    (hB : headB l.toArray n = true) (hd : distinctB (l.take n) = true) (N : Nat) (hN : T.size = N) (hNB : (l.all fun o => (o.dst.map fun d => decide (d < N)).getD true) = true)
    (V : Nat → Value → World → Prop) (M : World → Prop) (Ext : World → World → Prop) (hM0 : M w.drew) (hV : ∀ j v w w', Ext w w' → V j v w → V j v w')
    (hop : ∀ i o, i < n → l[i]? = some o → o.guard = none ∧ ∀ (T' : Array Value) (w : World), M w → T'.size = T.size → (∀ t, dstIn t (l.take n) = false → T'[t]? = T[t]?) →
      (∀ e ∈ o.after, Region.binds .any e = true → ∀ oe d, l[e.on]? = some oe → oe.dst = some d → ∃ v, T'[d]? = some v ∧ V e.on v w) →
      ∀ K : Act → World → Prop, (∀ v w', V i v w' → M w' → Ext w w' → K ((⟨T', D⟩ : Act).put o.dst v) w') → Oper.wp P o ⟨T', D⟩ w K Q)
    (hend : ∀ (u : Nat → Value) (w : World), M w → (∀ j, j < n → V j (u j) w) → wpList P l.toArray Q (l.drop n) ⟨fillAll T (l.take n) u 0, D⟩ w) :
    (Code.region id l.toArray true).wp P Q ⟨T, D⟩ w :=
  wp_region_any hm (wpAny_rel n hB hd N hN hNB V M Ext hM0 hV hop hend)
end

end Go.Proofs.YtehpapoboeejkaaGreat
/- A third rule for a region that draws its order: some of its operations are guarded. -/
namespace Go.Proofs.YtehpapoboeejkaaGreat
open Go.RowKit
section
variable {P : Program} {ops : Array Oper} {T : Array Value} {D : List Deferred} {o og : Oper} {w : World} {K : Act → World → Prop} {Q : Exit → Act → World → Prop} {E : Prop}
theorem grd_met {g : Nat} {b : Bool} {dg : Tmp} (hg : o.guard = some (g, b)) (ho : ops[g]? = some og) (hd : og.dst = some dg) (hv : T[dg]? = some (.bool b)) (h : Oper.wp P o ⟨T, D⟩ w K Q) :
    if Region.wanted o (yielded ops T) = true then Oper.wp P o ⟨T, D⟩ w K Q else E := by
  rw [if_pos (by simp [Region.wanted, hg, yielded, ho, hd, hv])]; exact h
theorem grd_not {g : Nat} {b b' : Bool} {dg : Tmp} {F : Prop} (hg : o.guard = some (g, b)) (ho : ops[g]? = some og) (hd : og.dst = some dg) (hv : T[dg]? = some (.bool b')) (hne : b' ≠ b) (h : E) :
    if Region.wanted o (yielded ops T) = true then F else E := by
  rw [if_neg (by simp [Region.wanted, hg, yielded, ho, hd, hv, hne])]; exact h
end

/-- the first n operations wait for none behind them -/
def backB2 (ops : Array Oper) (n : Nat) : Bool := (List.range n).all fun j => ((ops[j]?).map fun o => o.after.all fun e => !Region.binds .any e || decide (e.on < j)).getD true
def headB2 (ops : Array Oper) (n : Nat) : Bool :=
  backB2 ops n && (decide (n = ops.size) || (decide (n < ops.size) && Region.sinkB .any ops n && Region.chainB .any ops n && Region.seqB .any ops (ops.size - n) n ((Array.range ops.size).map fun j => decide (j < n))))
section
variable {P : Program}
/-- A region whose first n operations yield values of which only this is known: V, kept by what comes behind (Ext); in whatever order, guarded or not; each is shown once, over any frame; the rest is a chain. -/
theorem wp_region_grd {id : Nat} {Q : Exit → Act → World → Prop} {w : World} {l : List Oper} {T : Array Value} {D : List Deferred} (n : Nat) (hm : P.follows .mixedOrders = true)
    (hB : headB2 l.toArray n = true) (hd : distinctB (l.take n) = true) (N : Nat) (hN : T.size = N) (hNB : (l.all fun o => (o.dst.map fun d => decide (d < N)).getD true) = true)
    (V : Nat → Value → World → Prop) (M : World → Prop) (Ext : World → World → Prop) (hM0 : M w.drew) (hV : ∀ j v w w', Ext w w' → V j v w → V j v w')
    (hop : ∀ i o, i < n → l[i]? = some o → ∀ (T' : Array Value) (w : World), M w → T'.size = T.size → (∀ t, dstIn t (l.take n) = false → T'[t]? = T[t]?) →
      (∀ e ∈ o.after, Region.binds .any e = true → ∀ oe d, l[e.on]? = some oe → oe.dst = some d → ∃ v, T'[d]? = some v ∧ V e.on v w) →
      ∀ K : Act → World → Prop, (∀ v w', V i v w' → M w' → Ext w w' → K ((⟨T', D⟩ : Act).put o.dst v) w') → if Region.wanted o (yielded l.toArray T') = true then Oper.wp P o ⟨T', D⟩ w K Q else K ((⟨T', D⟩ : Act).put o.dst undef) w)
    (hend : ∀ (u : Nat → Value) (w : World), M w → (∀ j, j < n → V j (u j) w) → wpList P l.toArray Q (l.drop n) ⟨fillAll T (l.take n) u 0, D⟩ w) :
    (Code.region id l.toArray true).wp P Q ⟨T, D⟩ w := by
  have hin_ : ∀ o d, o ∈ l → o.dst = some d → d < T.size := fun o d ho hd' => by
    have := List.all_eq_true.1 hNB o ho
    rw [hd'] at this
    rw [hN]
    simpa using this
  simp only [headB2, Bool.and_eq_true, Bool.or_eq_true, decide_eq_true_eq] at hB
  obtain ⟨hback, hB⟩ := hB
  have hsz : l.toArray.size = l.length := by simp
  have hn : n ≤ l.length := by rcases hB with h | h <;> omega
  refine wp_region_any hm ?_
  -- the state: some of the head have come
  have key : ∀ (f : Nat) (listed : Array Bool) (u : Nat → Value) (w : World), HeadInv .any l.toArray n listed →
      ((List.range n).filter fun j => !listed.getD j true).length = f → M w → (∀ j, j < n → listed.getD j false = true → V j (u j) w) →
      wpAny P .any l.toArray Q (f + (l.length - n)) listed ⟨fillAll T (l.take n) u 0, D⟩ w := by
    intro f
    induction f with
    | zero =>
      intro listed u w inv hf hM hVs
      have hall : ∀ j, j < n → listed.getD j false = true := by
        intro j hj
        have : (List.range n).filter (fun j => !listed.getD j true) = [] := List.eq_nil_of_length_eq_zero hf
        have h1 := List.filter_eq_nil_iff.1 this j (List.mem_range.2 hj)
        have hjs : j < listed.size := by rw [inv.size, hsz]; omega
        simp only [Bool.not_eq_true', Bool.not_eq_false] at h1
        simp [hjs] at h1 ⊢
        exact h1
      have hL : listed = (Array.range l.toArray.size).map fun j => decide (j < n) := by
        apply Array.ext
        · simp [inv.size]
        · intro j h1 h2
          rw [Array.getElem_map, Array.getElem_range]
          by_cases hjn : j < n
          · have := hall j hjn
            simp only [hjn, decide_true]
            simpa [h1] using this
          · have hjl : j < l.toArray.size := by rw [← inv.size]; exact h1
            have := inv.tail j (by omega) hjl
            simp only [hjn, decide_false]
            simpa [h1] using this
      have hend' := hend u w hM (fun j hj => hVs j hj (hall j hj))
      rw [Nat.zero_add]
      rcases hB with hB | hB
      · have h0 : l.length - n = 0 := by omega
        rw [h0]
        rw [List.drop_of_length_le (by omega)] at hend'
        refine ⟨?_, hend'⟩
        rcases hr : Region.ready .any l.toArray listed with _ | ⟨i, r⟩
        · rfl
        · have hi : i ∈ Region.ready .any l.toArray listed := by rw [hr]; simp
          obtain ⟨h1, o, ho, _⟩ := mem_ready.1 hi
          have hil : i < l.toArray.size := (Array.getElem?_eq_some_iff.1 ho).1
          have := hall i (by omega)
          rw [getD_both h1] at this; cases this
      · have hdl : (l.drop n).length = l.length - n := by simp
        have hseq := hB.2
        rw [← hL, hsz, ← hdl] at hseq
        have := wpAny_of_seq (P := P) (md := .any) (ops := l.toArray) (Q' := Q) (l.drop n) n listed ⟨fillAll T (l.take n) u 0, D⟩ w (fun j => by simp [List.getElem?_drop]) hseq hend'
        rw [hdl] at this
        exact this
    | succ f ih =>
      intro listed u w inv hf hM hVs
      rw [show f + 1 + (l.length - n) = (f + (l.length - n)) + 1 by omega]
      -- one of the head has not come: the least of them may come
      have hex : ∃ i, i < n ∧ listed.getD i true = false := by
        rcases hq : (List.range n).filter (fun j => !listed.getD j true) with _ | ⟨i, r⟩
        · rw [hq] at hf; simp at hf
        · have hi : i ∈ (List.range n).filter (fun j => !listed.getD j true) := by rw [hq]; simp
          rw [List.mem_filter, List.mem_range] at hi
          exact ⟨i, hi.1, by simpa using hi.2⟩
      refine ⟨fun h0 => ?_, fun i hi => ?_⟩
      · exfalso
        -- strong induction to the least
        have hleast : ∀ m i, i ≤ m → i < n → listed.getD i true = false → ∃ j, j ∈ Region.ready .any l.toArray listed := by
          intro m
          induction m with
          | zero =>
            intro i hi hin hun
            obtain rfl : i = 0 := by omega
            have hlt : 0 < l.length := by omega
            refine ⟨0, mem_ready.2 ⟨hun, l[0], by simp [hlt], fun e he hb => ?_⟩⟩
            have h1 := List.all_eq_true.1 hback 0 (List.mem_range.2 hin)
            rw [show l.toArray[0]? = some l[0] by simp [hlt]] at h1
            simp only [Option.map_some, Option.getD_some, Array.all_eq_true', Bool.or_eq_true, Bool.not_eq_true', decide_eq_true_eq] at h1
            have := (h1 e he).resolve_left (by rw [hb]; decide)
            omega
          | succ m ihm =>
            intro i hi hin hun
            by_cases hdep : ∃ j, j < i ∧ listed.getD j true = false
            · obtain ⟨j, hj, hju⟩ := hdep
              exact ihm j (by omega) (by omega) hju
            · have hlt : i < l.length := by omega
              refine ⟨i, mem_ready.2 ⟨hun, l[i], by simp [hlt], fun e he hb => ?_⟩⟩
              have h1 := List.all_eq_true.1 hback i (List.mem_range.2 hin)
              rw [show l.toArray[i]? = some l[i] by simp [hlt]] at h1
              simp only [Option.map_some, Option.getD_some, Array.all_eq_true', Bool.or_eq_true, Bool.not_eq_true', decide_eq_true_eq] at h1
              have hlt2 := (h1 e he).resolve_left (by rw [hb]; decide)
              have hes : e.on < listed.size := by rw [inv.size, hsz]; omega
              cases hq : listed.getD e.on false with
              | true => rfl
              | false => exact absurd ⟨e.on, hlt2, getD_in hes hq⟩ hdep
        obtain ⟨i, hin, hun⟩ := hex
        obtain ⟨j, hj⟩ := hleast i i (Nat.le_refl _) hin hun
        rw [h0] at hj; cases hj
      · obtain ⟨hun, o, ho, hall⟩ := mem_ready.1 hi
        have hin : i < n := by
          rcases hB with hB | hB
          · have := (Array.getElem?_eq_some_iff.1 ho).1; omega
          · rcases Nat.lt_or_ge i n with h | h
            · exact h
            · obtain ⟨k, hk, hku⟩ := hex
              exact absurd hi (tail_waits hB.1.1.2 hB.1.2 hB.1.1.1 inv _ k rfl hk hku i h)
        have hol : l[i]? = some o := by simpa using ho
        have hfacts : ∀ e ∈ o.after, Region.binds .any e = true → V e.on (u e.on) w := fun e he hb => by
          refine hVs e.on ?_ (hall e he hb)
          have h1 := List.all_eq_true.1 hback i (List.mem_range.2 hin)
          rw [ho] at h1
          simp only [Option.map_some, Option.getD_some, Array.all_eq_true', Bool.or_eq_true, Bool.not_eq_true', decide_eq_true_eq] at h1
          have := (h1 e he).resolve_left (by rw [hb]; decide)
          omega
        refine wpOp_step ho fun K hK => ?_
        have hst := hop i o hin hol (fillAll T (l.take n) u 0) w hM (fillAll_size _ _ _ _) (fun t ht => fillAll_out _ _ _ _ t ht) (fun e he hb oe d hoe hod => by
          have hlt2 : e.on < n := by
            have h1 := List.all_eq_true.1 hback i (List.mem_range.2 hin)
            rw [ho] at h1
            simp only [Option.map_some, Option.getD_some, Array.all_eq_true', Bool.or_eq_true, Bool.not_eq_true', decide_eq_true_eq] at h1
            have := (h1 e he).resolve_left (by rw [hb]; decide)
            omega
          refine ⟨u e.on, ?_, hfacts e he hb⟩
          have := fillAll_at (l.take n) T u 0 e.on oe d hd (by rw [List.getElem?_take, if_pos hlt2]; exact hoe) hod (hin_ oe d (List.mem_of_getElem? hoe) hod)
          rwa [Nat.zero_add] at this)
        refine hst K (fun v w' hv hM' hE => hK _ _ ?_)
        have hput : (⟨fillAll T (l.take n) u 0, D⟩ : Act).put o.dst v = ⟨fillAll T (l.take n) (upd u i v) 0, D⟩ := by
          have := fillAll_put (l.take n) T u 0 i o v hd (by rw [List.getElem?_take, if_pos hin]; exact hol)
          rw [Nat.zero_add] at this
          rw [← this]
          cases o.dst <;> rfl
        rw [hput]
        refine ih (listed.setIfInBounds i true) (upd u i v) w' (inv.set hi hin) ?_ hM' ?_
        · have hils : i < listed.size := by rw [inv.size, hsz]; omega
          have hsplit : ∀ (r : List Nat), r.Nodup → i ∈ r → (r.filter fun j => !listed.getD j true).length = (r.filter fun j => !(listed.setIfInBounds i true).getD j true).length + 1 := by
            intro r
            induction r with
            | nil => intro _ h; cases h
            | cons x r ihr =>
              intro hnd hmem
              rw [List.nodup_cons] at hnd
              by_cases hx : x = i
              · subst hx
                have h2 : (listed.setIfInBounds x true).getD x true = true := by simp [hils]
                have hsame : ∀ (r' : List Nat), x ∉ r' → (r'.filter fun j => !listed.getD j true) = (r'.filter fun j => !(listed.setIfInBounds x true).getD j true) := by
                  intro r' hr'
                  refine List.filter_congr fun j hj => ?_
                  rw [getD_set_ne true (show x ≠ j from fun e => hr' (by rw [e]; exact hj))]
                rw [List.filter_cons, List.filter_cons, hun, h2]
                simp only [Bool.not_false, if_true, Bool.not_true, Bool.false_eq_true, if_false, List.length_cons]
                rw [hsame r hnd.1]
              · have hm' : i ∈ r := by
                  rcases List.mem_cons.1 hmem with h | h
                  · exact absurd h.symm hx
                  · exact h
                have := ihr hnd.2 hm'
                rw [List.filter_cons, List.filter_cons, getD_set_ne true (fun e => hx e.symm)]
                split
                · simp only [List.length_cons]; omega
                · exact this
          have := hsplit (List.range n) List.nodup_range (List.mem_range.2 hin)
          omega
        · intro j hj hl
          by_cases hji : j = i
          · subst hji
            simp only [upd, if_true]
            exact hv
          · rw [getD_set_ne false (Ne.symm hji)] at hl
            have h1 := hV j (u j) w w' hE (hVs j hj hl)
            simp only [upd, hji, if_false]
            exact h1
  obtain ⟨u, hu⟩ := fillAll_self (l.take n) T 0 hd
  have inv0 : HeadInv .any l.toArray n (Array.replicate l.toArray.size false) :=
    ⟨by simp, fun j oj _ hl => (by rw [getD_replicate_false] at hl; cases hl), fun t _ ht => getD_in (by simpa using ht) (getD_replicate_false _ _)⟩
  have hf0 : ((List.range n).filter fun j => !(Array.replicate l.toArray.size false).getD j true).length = n := by
    rw [List.filter_eq_self.2]
    · simp
    · intro j hj
      have := List.mem_range.1 hj
      rw [getD_in (by simp; omega) (getD_replicate_false _ _)]; rfl
  have := key n (Array.replicate l.toArray.size false) u w.drew inv0 hf0 hM0 (fun j _ hl => by rw [getD_replicate_false] at hl; cases hl)
  rw [hu, show n + (l.length - n) = l.toArray.size by omega] at this
  exact this
end

end Go.Proofs.YtehpapoboeejkaaGreat
/- A list of bytes as a string. -/
namespace Go.Proofs.YtehpapoboeejkaaGreat
open Go.RowKit
theorem string_append_toList (a b : ByteArray) : (a ++ b).data.toList = a.data.toList ++ b.data.toList := by simp
theorem bytes_ext {a b : ByteArray} (h : a.data.toList = b.data.toList) : a = b := by
  cases a; cases b
  simp only [ByteArray.mk.injEq]
  exact Array.toList_inj.1 h
/-- a list of bytes as a string -/
def strB (l : List UInt8) : ByteArray := ⟨l.toArray⟩
theorem strB_list (l : List UInt8) : (strB l).data.toList = l := by simp [strB]
theorem strB_size (l : List UInt8) : (strB l).size = l.length := by show l.toArray.size = _; simp
theorem strB_of (s : ByteArray) : strB s.data.toList = s := by cases s; simp [strB]
theorem strB_eq {s : ByteArray} {l : List UInt8} (h : s.data.toList = l) : s = strB l := by rw [← h, strB_of]
theorem strB_append (a b : List UInt8) : strB a ++ strB b = strB (a ++ b) := bytes_ext (by rw [string_append_toList, strB_list, strB_list, strB_list])
theorem extract_list (s : ByteArray) (a b : Nat) : (s.extract a b).data.toList = (s.data.toList.drop a).take (b - a) := by
  rw [ByteArray.data_extract, Array.toList_extract, List.extract_eq_take_drop]
/-- a row of texts as cells -/
def strV (l : List (List UInt8)) : List Value := l.map fun r => .string (strB r)
theorem strV_length (l : List (List UInt8)) : (strV l).length = l.length := by simp [strV]
theorem strV_snoc (l : List (List UInt8)) (r : List UInt8) : strV l ++ [.string (strB r)] = strV (l ++ [r]) := by simp [strV]
theorem one_str {s : ByteArray} : ∀ v ∈ [Value.string s], v.oneCell' = true := by simp [Value.oneCell']
theorem info_str : (Tryz.prog.info? 9).map (fun i => (i.zero, i.size, i.bytes)) = some (some (.string ⟨#[]⟩), 1, 16) := by kernel_rfl
end Go.Proofs.YtehpapoboeejkaaGreat
/- Worlds in which nothing has turned but two blocks and what is new. -/
namespace Go.Proofs.YtehpapoboeejkaaGreat
open Go.RowKit Go.Maps
/-- nothing has turned but a disk and what is new -/
structure But (p b : Nat) (w w' : World) : Prop where
  os : w'.os = w.os
  tape : w'.tape = w.tape
  output : w'.output = w.output
  size : w.heap.size ≤ w'.heap.size
  block : ∀ k, k < w.heap.size → k ≠ p → k ≠ b → w'.heap[k]? = w.heap[k]?
theorem But.refl (p b : Nat) (w : World) : But p b w w := ⟨rfl, rfl, rfl, Nat.le_refl _, fun _ _ _ _ => rfl⟩
theorem But.trans {p b : Nat} {x y z : World} (h : But p b x y) (k : But p b y z) : But p b x z :=
  ⟨k.os.trans h.os, k.tape.trans h.tape, k.output.trans h.output, Nat.le_trans h.size k.size, fun i h1 h2 h3 => (k.block i (Nat.lt_of_lt_of_le h1 h.size) h2 h3).trans (h.block i h1 h2 h3)⟩
theorem But.of_below {p b : Nat} {w w' : World} (h : Below w.heap.size w w') : But p b w w' := ⟨h.os, h.tape, h.output, h.size, fun k hk _ _ => h.block k hk⟩
theorem But.of_turn {p b : Nat} {w w' : World} (h : Turn b w w') : But p b w w' := ⟨h.1, h.2.1, h.2.2.1, by rw [h.2.2.2.1]; exact Nat.le_refl _, fun k _ _ hb => h.2.2.2.2 k hb⟩
theorem But.below {p b B : Nat} {w0 w w' : World} (h : Below B w0 w) (k : But p b w w') (hB : B ≤ w.heap.size) (hp : B ≤ p) (hb : B ≤ b) : Below B w0 w' :=
  h.trans ⟨k.os, k.tape, k.output, k.size, fun i hi => k.block i (by omega) (by omega) (by omega)⟩
theorem But.cell {p b : Nat} {w w' : World} (h : But p b w w') {q : Addr} {v : Value} (hq : w.cell? q = some v) (hp : q.block ≠ p) (hb : q.block ≠ b) : w'.cell? q = some v := by
  have hlt : q.block < w.heap.size := by
    rcases Nat.lt_or_ge q.block w.heap.size with h | h
    · exact h
    · unfold World.cell? at hq; rw [Array.getElem?_eq_none h] at hq; cases hq
  rw [← hq]; unfold World.cell?; rw [h.block q.block hlt hp hb]
end Go.Proofs.YtehpapoboeejkaaGreat
/- The walks of package disk: New, Budget, begin. -/
namespace Go.Proofs.YtehpapoboeejkaaGreat
open Go.RowKit Go.Maps
/-- a file: its bytes, and how many of them are sure -/
abbrev FileE := List UInt8 × Nat
def encFile (f : FileE) : Value := .agg #[.string (strB f.1), .int .i64 f.2]
theorem encFile_inj (a b : FileE) (h : encFile a = encFile b) : a = b := by
  unfold encFile at h
  injection h with h
  simp only [Array.mk.injEq, List.cons.injEq, Value.string.injEq, Value.int.injEq, and_true, true_and] at h
  have h1 : a.1 = b.1 := by rw [← strB_list a.1, ← strB_list b.1, h.1]
  exact Prod.ext h1 (by omega)
theorem zero_file (w : World) : (zeroValue 86).run Tryz.prog w = .ok (encFile ([], 0)) w := by kernel_rfl
/-- the disk p, its files in the map b: the table M, at most n entries ever, so many calls left -/
def DiskIs (w : World) (p b n : Nat) (M : Tab FileE) (left : Int) : Prop :=
  w.heap[p]? = some (.cells #[.map (some b), .int .i64 left] 62 (0, 0)) ∧ MapIs w Tryz.prog 9 encFile b n M
theorem DiskIs.ne {w : World} {p b n : Nat} {M : Tab FileE} {left : Int} (h : DiskIs w p b n M left) : p ≠ b := by
  rintro rfl
  obtain ⟨es, clock, hb, _⟩ := h.2
  rw [h.1] at hb; cases hb
theorem DiskIs.lt {w : World} {p b n : Nat} {M : Tab FileE} {left : Int} (h : DiskIs w p b n M left) : p < w.heap.size ∧ b < w.heap.size := ⟨heap_lt h.1, h.2.lt⟩
theorem DiskIs.below {w w' : World} {p b n B : Nat} {M : Tab FileE} {left : Int} (h : DiskIs w p b n M left) (hb : Below B w w') (h1 : p < B) (h2 : b < B) : DiskIs w' p b n M left := ⟨(hb.block _ h1).trans h.1, h.2.below hb h2⟩
theorem DiskIs.same {w w' : World} {p b n : Nat} {M : Tab FileE} {left : Int} (h : DiskIs w p b n M left) (h1 : w'.heap[p]? = w.heap[p]?) (h2 : w'.heap[b]? = w.heap[b]?) : DiskIs w' p b n M left := ⟨h1.trans h.1, h.2.keep h2⟩
theorem new_any (w : World) : Calls Tryz.prog 6 #[] w fun e w' => e = .returned (.pointer (some ⟨w.heap.size + 1, 0, none⟩)) ∧ DiskIs w' (w.heap.size + 1) w.heap.size 0 [] (-1) ∧ Below w.heap.size w w' ∧ w'.heap.size = w.heap.size + 2 := by
  have hmm := @run_makeMap Tryz.prog
  go_enter Tryz.func6, Tryz.ntmps6
  go_wp2
  go_ret
  refine ⟨rfl, ⟨?_, ?_⟩, ?_, ?_⟩
  · have := heap_alloc_new (w.alloc (.map #[] 0)) (.cells #[.map (some w.heap.size), .int .i64 (-1)] 62)
    rwa [World.size_alloc] at this
  · exact (MapIs.made w _ _ _).alloc _
  · exact ((Below.refl _ w).alloc (Nat.le_refl _) _).alloc (by simp) _
  · simp
theorem budget_any (w : World) (p b n : Nat) (M : Tab FileE) (left x : Int) (h : DiskIs w p b n M left) : Calls Tryz.prog 14 #[.pointer (some ⟨p, 0, none⟩), .int .i64 x] w fun e w' => e = .returned (.tuple #[]) ∧ DiskIs w' p b n M (if -1 ≤ x then x else -1) ∧ But p b w w' ∧ w'.heap.size = w.heap.size := by
  have hp := h.1
  have hne := h.ne
  have c1 : w.cell? ⟨p, 1, none⟩ = some (.int .i64 left) := (cell_of_row w p 1 _ _ _ hp).trans rfl
  have f1 : w.frozen? ⟨p, 1, none⟩ = false := frozen_of_row w p 1 _ _ hp
  have HP := hid2 hp
  have HM := hid2 h.2
  have key : ∀ y, DiskIs (w.setCell ⟨p, 1, none⟩ (.int .i64 y)) p b n M y ∧ But p b w (w.setCell ⟨p, 1, none⟩ (.int .i64 y)) ∧ (w.setCell ⟨p, 1, none⟩ (.int .i64 y)).heap.size = w.heap.size := fun y => by
    refine ⟨⟨?_, HM.out.setCell _ _ (fun e => hne e.symm)⟩, ⟨rfl, rfl, rfl, by rw [World.size_setCell]; exact Nat.le_refl _, fun k _ hk _ => Below.heap_setCell _ _ _ k hk⟩, World.size_setCell _ _ _⟩
    rw [setCell_eq_setRow w p 1 _ _ _ _ HP.out]
    exact setRow_heap w p _ _ _ _ HP.out
  have KEY := hid2 key
  clear h hp key
  by_cases hx : -1 ≤ x
  · rw [if_pos hx]
    go_enter Tryz.func14, Tryz.ntmps14
    go_wp2_with fail
    go_end0
    exact ⟨rfl, KEY.out _⟩
  · rw [if_neg hx]
    go_enter Tryz.func14, Tryz.ntmps14
    go_wp2_with fail
    go_end0
    exact ⟨rfl, KEY.out _⟩
/-- the first place of a text in a row, or -1 -/
theorem sindexs_any (w : World) (A : Option Addr) (c : Nat) (ns : List ByteArray) (x : ByteArray) (hr : Rd w 1 A ns.length (ns.map Value.string)) (hl : ns.length ≤ 1000000000) :
    Calls Tryz.prog 63 #[.slice A ns.length c, .string x] w fun e w' => ∃ v : Int, e = .returned (.int .i64 v) ∧ (0 ≤ v ↔ x ∈ ns) ∧ w' = w := by
  have hl' : (ns.length : Int) ≤ 1000000000 := by omega
  obtain ⟨N, hN⟩ : ∃ N, N = ns.length := ⟨_, rfl⟩
  rw [← hN] at hr hl hl' ⊢
  have HN := hid2 hN
  clear hN
  go_enter Tryz.func63, Tryz.ntmps63
  go_wp2_with fail
  go_loop [8] (fun i => ∃ k : Nat, k ≤ N ∧ i = .int .i64 k ∧ Hid2 (x ∉ ns.take k)) (fun i => N - (intOf i).toNat)
  case atStart => exact ⟨0, Nat.zero_le _, rfl, hid2 (by simp)⟩
  case round =>
    obtain ⟨k, hk, rfl, hno⟩ := hrel
    by_cases hlt : k < N
    · have hlt' : (k : Int) < N := by omega
      have hkl : k < ns.length := by rw [← HN.out]; exact hlt
      obtain ⟨b, o, rfl, hcell⟩ := hr.cell (j := k) (by simpa using hkl)
      rw [List.getElem_map] at hcell
      obtain ⟨y, hy⟩ : ∃ y, y = ns[k]'hkl := ⟨_, rfl⟩
      rw [← hy] at hcell
      by_cases hxy : x = y
      · have hin : Hid2 (x ∈ ns) := hid2 (by rw [hxy, hy]; exact List.getElem_mem hkl)
        have hbe : (x.toList == y.toList) = true := by rw [hxy]; exact beq_self_eq_true _
        clear hxy hy hkl
        go_wp2_with fail
        go_ret
        exact ⟨k, rfl, ⟨fun _ => hin.out, fun _ => by omega⟩, rfl⟩
      · have hno2 : Hid2 (x ∉ ns.take (k + 1)) := hid2 (by
          rw [List.take_succ_eq_append_getElem hkl, List.mem_append, List.mem_singleton, ← hy]
          exact fun h => h.elim hno.out hxy)
        have hbe : (x.toList == y.toList) = false := by
          rw [beq_eq_false_iff_ne]
          intro h
          exact hxy (bytes_ext (by rw [← ByteArray.toList_eq, ← ByteArray.toList_eq, h]))
        clear hxy hy hkl
        go_wp2_with fail
        go_round
        case rel => exact ⟨k + 1, by omega, by go_num, hno2⟩
        case measure => simp [intOf]; omega
    · have hlt' : ¬ (k : Int) < N := by omega
      have hno2 : Hid2 (x ∉ ns) := hid2 (by
        have := hno.out
        rwa [List.take_of_length_le (by rw [← HN.out]; omega)] at this)
      go_wp2_with fail
      go_ret
      exact ⟨-1, rfl, ⟨fun h => by omega, fun h => absurd h hno2.out⟩, rfl⟩
theorem contains_any (w : World) (A : Option Addr) (c : Nat) (ns : List ByteArray) (x : ByteArray) (v : Bool) (hr : Rd w 1 A ns.length (ns.map Value.string)) (hl : ns.length ≤ 1000000000) (hv : v = true ↔ x ∈ ns) :
    Calls Tryz.prog 50 #[.slice A ns.length c, .string x] w fun e w' => e = .returned (.bool v) ∧ w' = w := by
  have hc := sindexs_any w A c ns x hr hl
  obtain ⟨N, hN⟩ : ∃ N, N = ns.length := ⟨_, rfl⟩
  rw [← hN] at hc ⊢
  have HV := hid2 hv
  clear hN hv hr hl
  go_enter Tryz.func50, Tryz.ntmps50
  go_wp2_with (go_at_call 63; refine hc.mono ?_; rintro e w2 ⟨i, rfl, hi, rfl⟩; have HI := hid2 hi; clear hi)
  go_ret
  refine ⟨?_, rfl⟩
  show Ending.returned (Value.bool _) = Ending.returned (Value.bool v)
  congr 2
  rw [Bool.eq_iff_iff, decide_eq_true_eq, HI.out, HV.out]
theorem any_empty (ns : List ByteArray) : ns.any (fun s => s.data.toList.isEmpty) = true ↔ (⟨#[]⟩ : ByteArray) ∈ ns := by
  rw [List.any_eq_true]
  constructor
  · rintro ⟨s, hs, he⟩
    have : s = ⟨#[]⟩ := bytes_ext (by rw [List.isEmpty_iff.1 he])
    rw [← this]; exact hs
  · intro h
    exact ⟨_, h, rfl⟩
/-- what begin answers -/
def beginE (M : Tab FileE) (left : Int) (there : Bool) (ns : List ByteArray) (k : List UInt8) : Int :=
  if ns.any (fun s => s.data.toList.isEmpty) = true then 1 else if (there && (getM M k).isNone) = true then 10 else if left = 0 then 18 else 0
def beginL (M : Tab FileE) (left : Int) (there : Bool) (ns : List ByteArray) (k : List UInt8) : Int :=
  if beginE M left there ns k = 0 ∧ 0 < left then left - 1 else left
/-- files of a disk, in a region that draws -/
def Ext2 (H : Nat) (a b : World) : Prop := Below H a b ∧ ∀ (k : Nat) (cs : Array Value), a.heap[k]? = some (.cells cs 86 (0, 0)) → cs.size = 2 → ∃ cs' : Array Value, b.heap[k]? = some (.cells cs' 86 (0, 0)) ∧ cs'.size = 2
def Fresh (H : Nat) (v : Value) (w : World) : Prop := ∃ (B : Nat) (cs : Array Value), v = .pointer (some ⟨B, 0, none⟩) ∧ H ≤ B ∧ w.heap[B]? = some (.cells cs 86 (0, 0)) ∧ cs.size = 2
theorem Ext2.refl (H : Nat) (w : World) : Ext2 H w w := ⟨Below.refl _ _, fun _ cs h hs => ⟨cs, h, hs⟩⟩
theorem Ext2.alloc {H : Nat} {w : World} (h : H ≤ w.heap.size) (o : Obj) : Ext2 H w (w.alloc o) :=
  ⟨(Below.refl _ _).alloc h _, fun k cs hk hs => ⟨cs, (Below.heap_alloc w o k (heap_lt hk)).trans hk, hs⟩⟩
theorem Ext2.setRow {H B : Nat} {w : World} {cs : Array Value} (h : H ≤ B) (hh : w.heap[B]? = some (.cells cs 86 (0, 0))) (hs : cs.size = 2) (o : Nat) (vs : List Value) (hv : o + vs.length ≤ 2 := by decide) : Ext2 H w (w.setRow B (laid cs o vs)) := by
  refine ⟨below_setRow (Below.refl _ _) h _, fun k c hk hc => ?_⟩
  by_cases e : k = B
  · subst e
    exact ⟨_, setRow_heap w k cs _ _ _ hh, by rw [laid_size (by omega)]; exact hs⟩
  · exact ⟨c, (setRow_other w B k _ e).trans hk, hc⟩
theorem Fresh.keep {H : Nat} {v : Value} {a b : World} (h : Fresh H v a) (he : Ext2 H a b) : Fresh H v b := by
  obtain ⟨B, cs, rfl, hB, hh, hs⟩ := h
  obtain ⟨cs', h1, h2⟩ := he.2 B cs hh hs
  exact ⟨B, cs', rfl, hB, h1, h2⟩
def VB (H : Nat) (L : List Value) (j : Nat) (v : Value) (w : World) : Prop := match j with | 11 => Fresh H v w | j => L[j]? = some v
theorem VB.keep {H j : Nat} {L : List Value} {v : Value} {a b : World} (hb : Ext2 H a b) (hv : VB H L j v a) : VB H L j v b := by
  unfold VB at hv ⊢
  split at hv
  · exact hv.keep hb
  · exact hv
theorem info_file : (Tryz.prog.info? 86).map (·.size) = some 2 := by kernel_rfl
set_option maxRecDepth 100000 in
theorem begin_any (w : World) (p b n : Nat) (M : Tab FileE) (left : Int) (h : DiskIs w p b n M left) (there : Bool) (A : Option Addr) (c : Nat) (ns : List ByteArray) (s0 : ByteArray)
    (hr : Rd w 1 A ns.length (ns.map Value.string)) (hl : ns.length ≤ 1000000) (h0 : ns[0]? = some s0) (hs0 : s0.size ≤ 1000000000) (hle : -1 ≤ left ∧ left ≤ 9223372036854775807) :
    Calls Tryz.prog 43 #[.pointer (some ⟨p, 0, none⟩), .bool there, .slice A ns.length c] w fun e w' =>
      e = .returned (.int .i64 (beginE M left there ns s0.data.toList)) ∧ DiskIs w' p b n M (beginL M left there ns s0.data.toList) ∧ But p b w w' := by
  obtain ⟨N, hN⟩ : ∃ N, N = ns.length := ⟨_, rfl⟩
  have hn0 : 0 < ns.length := (List.getElem?_eq_some_iff.1 h0).1
  obtain ⟨bq, oq, rfl, hq⟩ := hr.cell (j := 0) (by simpa using hn0)
  rw [List.getElem_map, show ns[0] = s0 from by rw [List.getElem?_eq_getElem hn0] at h0; exact Option.some.inj h0, Nat.add_zero] at hq
  have hqlt : bq < w.heap.size := by
    rcases Nat.lt_or_ge bq w.heap.size with h | h
    · exact h
    · unfold World.cell? at hq; simp only at hq; rw [Array.getElem?_eq_none h] at hq; cases hq
  obtain ⟨H, hH⟩ : ∃ H, H = w.heap.size := ⟨_, rfl⟩
  have hlt := h.lt
  have hne := h.ne
  rw [← hH] at hqlt hlt
  have c0 : w.cell? ⟨p, 0, none⟩ = some (.map (some b)) := (cell_of_row w p 0 _ _ _ h.1).trans rfl
  have c1 : w.cell? ⟨p, 1, none⟩ = some (.int .i64 left) := (cell_of_row w p 1 _ _ _ h.1).trans rfl
  obtain ⟨is, his⟩ : ∃ is, is = (getM M s0.data.toList).isSome := ⟨_, rfl⟩
  obtain ⟨f, hf⟩ : ∃ f, f = encFile ((getM M s0.data.toList).getD ([], 0)) := ⟨_, rfl⟩
  have look : ∀ w2, Below H w w2 → (Instr.lookup 60 (.map (some b)) (.string s0) true).run Tryz.prog w2 = .ok (.tuple #[f, .bool is]) w2 := fun w2 hb => by
    rw [hf, his]
    exact (h.2.below hb hlt.2).look_ok encFile_inj Tryz.underlying9 Tryz.underlying60 ([], 0) (zero_file w2) s0 (by unfold maxLen; omega)
  obtain ⟨fa, fb, hff⟩ : ∃ fa fb, f = .agg #[.string fa, .int .i64 fb] := ⟨_, _, hf⟩
  rw [← hN]
  have HD := hid2 h
  have HR := hid2 hr
  have HF := hid2 hff
  have HIS := hid2 his
  have HH := hid2 hH
  have HN := hid2 hN
  have LOOK := hid2 look
  have C0 := hid2 c0
  have C1 := hid2 c1
  have CQ := hid2 hq
  have hN0 : (0 : Int) < N := by omega
  have hN0' : 0 < N := by omega
  clear h hr hf hff his hH hN h0 look c0 c1 hq hn0
  go_enter Tryz.func43, Tryz.ntmps43
  go_wp2_with fail
  refine wp_region_grd 14 (by kernel_rfl) (by kernel_rfl) (by kernel_rfl) _ rfl (by kernel_rfl) (VB H [.pointer (some ⟨p, 0, none⟩), .pointer (some ⟨p, 0, none⟩), .pointer (some ⟨p, 0, none⟩), .map (some b), .slice (some ⟨bq, oq, none⟩) N c, .pointer (some ⟨bq, oq, none⟩), .string s0, .tuple #[f, .bool is], .tuple #[f, .bool is], f, .bool is, undef, undef, .bool is]) (fun w4 => Below H w w4) (Ext2 H) (below_drewN (Below.refl _ _) 1) (fun _ _ _ _ hb hv => hv.keep hb) ?_ ?_
  · refine of_allOps ⟨?_, ?_, ?_, ?_, ?_, ?_, ?_, ?_, ?_, ?_, ?_, ?_, ?_, ?_, trivial⟩
    · intro T2 w2 hM hN hO hE K hK
      have o0 : T2[0]? = some (.pointer (some ⟨p, 0, none⟩)) := hO 0 rfl
      clear hE hO hN
      refine step_plain0 rfl ?_
      go_simp
      exact hK _ _ rfl hM (Ext2.refl _ _)
    · intro T2 w2 hM hN hO hE K hK
      obtain ⟨v0, h0, e0⟩ := hE ⟨0, .data⟩ (by simp) rfl _ _ rfl rfl
      rw [show v0 = .pointer (some ⟨p, 0, none⟩) from (Option.some.inj e0).symm] at h0
      clear hE hO hN
      refine step_plain0 rfl ?_
      go_simp
      exact hK _ _ rfl hM (Ext2.refl _ _)
    · intro T2 w2 hM hN hO hE K hK
      obtain ⟨v1, h1, e1⟩ := hE ⟨1, .data⟩ (by simp) rfl _ _ rfl rfl
      rw [show v1 = .pointer (some ⟨p, 0, none⟩) from (Option.some.inj e1).symm] at h1
      clear hE hO hN
      refine step_plain0 rfl ?_
      go_simp
      exact hK _ _ rfl hM (Ext2.refl _ _)
    · intro T2 w2 hM hN hO hE K hK
      obtain ⟨v2, h2, e2⟩ := hE ⟨2, .data⟩ (by simp) rfl _ _ rfl rfl
      rw [show v2 = .pointer (some ⟨p, 0, none⟩) from (Option.some.inj e2).symm] at h2
      clear hE hO hN
      refine step_plain0 rfl ?_
      have c0 : w2.cell? ⟨p, 0, none⟩ = some (.map (some b)) := (hM.cell (p := ⟨p, 0, none⟩) hlt.1).trans C0.out
      go_simp
      exact hK _ _ rfl hM (Ext2.refl _ _)
    · intro T2 w2 hM hN hO hE K hK
      have o2 : T2[2]? = some (.slice (some ⟨bq, oq, none⟩) N c) := hO 2 rfl
      clear hE hO hN
      refine step_plain0 rfl ?_
      go_simp
      exact hK _ _ rfl hM (Ext2.refl _ _)
    · intro T2 w2 hM hN hO hE K hK
      obtain ⟨v4, h4, e4⟩ := hE ⟨4, .data⟩ (by simp) rfl _ _ rfl rfl
      rw [show v4 = .slice (some ⟨bq, oq, none⟩) N c from (Option.some.inj e4).symm] at h4
      clear hE hO hN
      refine step_plain0 rfl ?_
      go_simp
      exact hK _ _ rfl hM (Ext2.refl _ _)
    · intro T2 w2 hM hN hO hE K hK
      obtain ⟨v5, h5, e5⟩ := hE ⟨5, .data⟩ (by simp) rfl _ _ rfl rfl
      rw [show v5 = .pointer (some ⟨bq, oq, none⟩) from (Option.some.inj e5).symm] at h5
      clear hE hO hN
      refine step_plain0 rfl ?_
      have cq : w2.cell? ⟨bq, oq, none⟩ = some (.string s0) := (hM.cell (p := ⟨bq, oq, none⟩) hqlt).trans CQ.out
      go_simp
      exact hK _ _ rfl hM (Ext2.refl _ _)
    · intro T2 w2 hM hN hO hE K hK
      obtain ⟨v3, h3, e3⟩ := hE ⟨3, .data⟩ (by simp) rfl _ _ rfl rfl
      rw [show v3 = .map (some b) from (Option.some.inj e3).symm] at h3
      obtain ⟨v6, h6, e6⟩ := hE ⟨6, .data⟩ (by simp) rfl _ _ rfl rfl
      rw [show v6 = .string s0 from (Option.some.inj e6).symm] at h6
      clear hE hO hN
      refine step_plain0 rfl ?_
      have hlk := LOOK.out w2 hM
      go_simp
      exact hK _ _ rfl hM (Ext2.refl _ _)
    · intro T2 w2 hM hN hO hE K hK
      obtain ⟨v7, h7, e7⟩ := hE ⟨7, .data⟩ (by simp) rfl _ _ rfl rfl
      rw [show v7 = .tuple #[f, .bool is] from (Option.some.inj e7).symm] at h7
      clear hE hO hN
      refine step_plain0 rfl ?_
      go_simp
      exact hK _ _ rfl hM (Ext2.refl _ _)
    · intro T2 w2 hM hN hO hE K hK
      obtain ⟨v8, h8, e8⟩ := hE ⟨8, .data⟩ (by simp) rfl _ _ rfl rfl
      rw [show v8 = .tuple #[f, .bool is] from (Option.some.inj e8).symm] at h8
      clear hE hO hN
      refine step_plain0 rfl ?_
      go_simp
      exact hK _ _ rfl hM (Ext2.refl _ _)
    · intro T2 w2 hM hN hO hE K hK
      obtain ⟨v8, h8, e8⟩ := hE ⟨8, .data⟩ (by simp) rfl _ _ rfl rfl
      rw [show v8 = .tuple #[f, .bool is] from (Option.some.inj e8).symm] at h8
      clear hE hO hN
      refine step_plain0 rfl ?_
      go_simp
      exact hK _ _ rfl hM (Ext2.refl _ _)
    · intro T2 w2 hM hN hO hE K hK
      clear hE hO hN
      refine step_plain0 rfl ?_
      go_simp
      exact hK _ _ ⟨w2.heap.size, _, rfl, by have := hM.size; have := HH.out; omega, heap_alloc_new w2 _, rfl⟩ (hM.alloc (by have := hM.size; have := HH.out; omega) _) (Ext2.alloc (by have := hM.size; have := HH.out; omega) _)
    · intro T2 w2 hM hN hO hE K hK
      obtain ⟨v11, h11, hv11⟩ := hE ⟨11, .data⟩ (by simp) rfl _ _ rfl rfl
      obtain ⟨v9, h9, e9⟩ := hE ⟨9, .data⟩ (by simp) rfl _ _ rfl rfl
      rw [show v9 = f from (Option.some.inj e9).symm] at h9
      clear hE hO hN
      refine step_plain0 rfl ?_
      obtain ⟨B, cs, rfl, hB, hh, hsz⟩ := hv11
      refine wp_store_at 86 (.tmp 7) (.tmp 18) rfl B 0 (by simp [go_sem, h11]) f (by simp [go_sem, h9]) [.string fa, .int .i64 fb] (by rw [HF.out]; rfl) cs 86 hh info_file (by rw [hsz]; simp) (by simp [Value.oneCell']) ?_
      exact hK _ _ rfl (below_setRow hM hB _) (Ext2.setRow hB hh hsz _ _ (by simp))
    · intro T2 w2 hM hN hO hE K hK
      obtain ⟨v10, h10, e10⟩ := hE ⟨10, .data⟩ (by simp) rfl _ _ rfl rfl
      rw [show v10 = .bool is from (Option.some.inj e10).symm] at h10
      clear hE hO hN
      refine step_plain0 rfl ?_
      go_simp
      exact hK _ _ rfl hM (Ext2.refl _ _)
  · intro u w2 hM hF
    have e13 : u 13 = .bool is := (Option.some.inj (hF 13 (by omega))).symm
    clear hF
    simp only [fillAll, Nat.reduceAdd, e13, List.take_succ_cons, List.take_zero, List.drop_succ_cons, List.drop_zero, List.setIfInBounds_toArray, List.set_cons_succ, List.set_cons_zero]
    refine wpList_nil ?_
    have c1 : w2.cell? ⟨p, 1, none⟩ = some (.int .i64 left) := (hM.cell (p := ⟨p, 1, none⟩) hlt.1).trans C1.out
    have hr2 : Rd w2 1 (some ⟨bq, oq, none⟩) ns.length (ns.map Value.string) := HR.out.below hM (fun b' hb' hl' => by rw [HH.out]; exact hl')
    have hd2 : DiskIs w2 p b n M left := HD.out.below hM hlt.1 hlt.2
    have f1 : w2.frozen? ⟨p, 1, none⟩ = false := frozen_of_row w2 p 1 _ _ hd2.1
    have hb2 : But p b w w2 := But.of_below (by rw [← HH.out]; exact hM)
    obtain ⟨e0, he0⟩ : ∃ e0, e0 = ns.any (fun s => s.data.toList.isEmpty) := ⟨_, rfl⟩
    have cc : ∀ w3, w3 = w2 → Calls Tryz.prog 50 #[.slice (some ⟨bq, oq, none⟩) N c, .string ⟨#[]⟩] w3 fun e w' => e = .returned (.bool e0) ∧ w3 = w' := fun w3 hw => by
      subst hw
      rw [HN.out]
      exact (contains_any _ _ c ns ⟨#[]⟩ e0 hr2 (by omega) (by rw [he0]; exact any_empty ns)).mono fun _ _ h => ⟨h.1, h.2.symm⟩
    have HE0 := hid2 he0
    have HD2 := hid2 hd2
    have HB2 := hid2 hb2
    have key : ∀ y, DiskIs (w2.setCell ⟨p, 1, none⟩ (.int .i64 y)) p b n M y ∧ But p b w (w2.setCell ⟨p, 1, none⟩ (.int .i64 y)) := fun y => by
      refine ⟨⟨?_, HD2.out.2.setCell _ _ (fun e => hne e.symm)⟩, HB2.out.trans ⟨rfl, rfl, rfl, by rw [World.size_setCell]; exact Nat.le_refl _, fun k _ hk _ => Below.heap_setCell _ _ _ k hk⟩⟩
      rw [setCell_eq_setRow w2 p 1 _ _ _ _ HD2.out.1]
      exact setRow_heap w2 p _ _ _ _ HD2.out.1
    have KEY := hid2 key
    clear hr2 hd2 hb2 he0 key e13
    cases e0
    · have hE0 : beginE M left there ns s0.data.toList = if (there && !is) = true then 10 else if left = 0 then 18 else 0 := by
        rw [beginE, ← HE0.out, if_neg (by simp), HIS.out]
        congr 2
        cases getM M s0.data.toList <;> rfl
      have HE := hid2 hE0
      clear hE0
      by_cases ht : (there && !is) = true
      · have hv : Hid2 (beginE M left there ns s0.data.toList = 10) := hid2 (by rw [HE.out, if_pos ht])
        have hl2 : Hid2 (beginL M left there ns s0.data.toList = left) := hid2 (by rw [beginL, hv.out, if_neg (by simp)])
        cases there <;> cases is <;> simp at ht
        go_wp2_with (go_at_call 50; refine (cc _ rfl).mono ?_; rintro e w3 ⟨rfl, rfl⟩)
        go_ret
        exact ⟨by rw [hv.out]; rfl, by rw [hl2.out]; exact HD2.out, HB2.out⟩
      · by_cases hz : left = 0
        · have hv : Hid2 (beginE M left there ns s0.data.toList = 18) := hid2 (by rw [HE.out, if_neg ht, if_pos hz])
          have hl2 : Hid2 (beginL M left there ns s0.data.toList = left) := hid2 (by rw [beginL, hv.out, if_neg (by simp)])
          have hz' : (left == 0) = true := by rw [hz]; rfl
          clear hz
          cases there <;> cases is <;> simp at ht
          all_goals go_wp2_with (go_at_call 50; refine (cc _ rfl).mono ?_; rintro e w3 ⟨rfl, rfl⟩)
          all_goals go_ret
          all_goals exact ⟨by rw [hv.out]; rfl, by rw [hl2.out]; exact HD2.out, HB2.out⟩
        · have hv : Hid2 (beginE M left there ns s0.data.toList = 0) := hid2 (by rw [HE.out, if_neg ht, if_neg hz])
          have hz' : (left == 0) = false := by simpa using hz
          by_cases hp : 0 < left
          · have hl2 : Hid2 (beginL M left there ns s0.data.toList = left - 1) := hid2 (by rw [beginL, hv.out, if_pos ⟨rfl, hp⟩])
            have hw1 : IntKind.i64.wrap (left - 1) = left - 1 := IntWalk.i64_in _ (by constructor <;> omega)
            clear hz
            cases there <;> cases is <;> simp at ht
            all_goals go_wp2_with (go_at_call 50; refine (cc _ rfl).mono ?_; rintro e w3 ⟨rfl, rfl⟩)
            all_goals go_ret
            all_goals exact ⟨by rw [hv.out]; rfl, by rw [hl2.out]; exact (KEY.out _).1, (KEY.out _).2⟩
          · have hl2 : Hid2 (beginL M left there ns s0.data.toList = left) := hid2 (by rw [beginL, hv.out, if_neg (by omega)])
            clear hz
            cases there <;> cases is <;> simp at ht
            all_goals go_wp2_with (go_at_call 50; refine (cc _ rfl).mono ?_; rintro e w3 ⟨rfl, rfl⟩)
            all_goals go_ret
            all_goals exact ⟨by rw [hv.out]; rfl, by rw [hl2.out]; exact HD2.out, HB2.out⟩
    · have hv : Hid2 (beginE M left there ns s0.data.toList = 1) := hid2 (by rw [beginE, ← HE0.out, if_pos rfl])
      have hl2 : Hid2 (beginL M left there ns s0.data.toList = left) := hid2 (by rw [beginL, hv.out, if_neg (by simp)])
      go_wp2_with (go_at_call 50; refine (cc _ rfl).mono ?_; rintro e w3 ⟨rfl, rfl⟩)
      go_ret
      exact ⟨by rw [hv.out]; rfl, by rw [hl2.out]; exact HD2.out, HB2.out⟩
end Go.Proofs.YtehpapoboeejkaaGreat
/- The walks of a disk's calls: Append, Sync, Remove, Read. -/
namespace Go.Proofs.YtehpapoboeejkaaGreat
open Go.RowKit Go.Maps
abbrev fileOf (M : Tab FileE) (k : List UInt8) : FileE := (getM M k).getD ([], 0)
/-- what a writing call leaves -/
def appM (M : Tab FileE) (left : Int) (k d : List UInt8) : Tab FileE := if beginE M left false [strB k] k = 0 then putM M k ((fileOf M k).1 ++ d, (fileOf M k).2) else M
def syncM (M : Tab FileE) (left : Int) (k : List UInt8) : Tab FileE := if beginE M left true [strB k] k = 0 then putM M k ((fileOf M k).1, (fileOf M k).1.length) else M
def remM (M : Tab FileE) (left : Int) (k : List UInt8) : Tab FileE := if beginE M left true [strB k] k = 0 then delM M k else M
theorem DiskIs.mono {w : World} {p b n m : Nat} {M : Tab FileE} {left : Int} (h : DiskIs w p b n M left) (hm : n ≤ m) : DiskIs w p b m M left := ⟨h.1, h.2.mono hm⟩
theorem DiskIs.look {w : World} {p b n : Nat} {M : Tab FileE} {left : Int} (h : DiskIs w p b n M left) (s : ByteArray) (hs : s.size ≤ 1000000000) :
    (Instr.lookup 60 (.map (some b)) (.string s) false).run Tryz.prog w = .ok (encFile (fileOf M s.data.toList)) w :=
  h.2.look encFile_inj Tryz.underlying9 Tryz.underlying60 ([], 0) (zero_file w) s (by unfold maxLen; omega)
theorem DiskIs.look_ok {w : World} {p b n : Nat} {M : Tab FileE} {left : Int} (h : DiskIs w p b n M left) (s : ByteArray) (hs : s.size ≤ 1000000000) :
    (Instr.lookup 60 (.map (some b)) (.string s) true).run Tryz.prog w = .ok (.tuple #[encFile (fileOf M s.data.toList), .bool (getM M s.data.toList).isSome]) w :=
  h.2.look_ok encFile_inj Tryz.underlying9 Tryz.underlying60 ([], 0) (zero_file w) s (by unfold maxLen; omega)
/-- begin at one name, in the world behind the row of names -/
theorem begin_one (w : World) (p b n : Nat) (M : Tab FileE) (left : Int) (h : DiskIs w p b n M left) (there : Bool) (s : ByteArray) (hs : s.size ≤ 1000000000) (hle : -1 ≤ left ∧ left ≤ 9223372036854775807) :
    Calls Tryz.prog 43 #[.pointer (some ⟨p, 0, none⟩), .bool there, .slice (some ⟨w.heap.size, 0, none⟩) 1 1] (w.alloc (.cells #[.string s] 9)) fun e w' =>
      e = .returned (.int .i64 (beginE M left there [strB s.data.toList] s.data.toList)) ∧ DiskIs w' p b n M (beginL M left there [strB s.data.toList] s.data.toList) ∧ But p b w w' := by
  have hr : Rd (w.alloc (.cells #[.string s] 9)) 1 (some ⟨w.heap.size, 0, none⟩) [s].length ([s].map Value.string) := Rd.one w _ _
  have hd : DiskIs (w.alloc (.cells #[.string s] 9)) p b n M left := h.below ((Below.refl _ _).alloc (Nat.le_refl _) _) h.lt.1 h.lt.2
  have := begin_any (w.alloc (.cells #[.string s] 9)) p b n M left hd there _ 1 [s] s hr (by simp) rfl hs hle
  rw [strB_of]
  exact this.mono fun _ _ ⟨h1, h2, h3⟩ => ⟨h1, h2, (But.of_below ((Below.refl _ _).alloc (Nat.le_refl _) _)).trans h3⟩
theorem encFile_eq (f : FileE) (s : ByteArray) (n : Int) (h1 : strB f.1 = s) (h2 : (f.2 : Int) = n) : encFile f = .agg #[.string s, .int .i64 n] := by rw [encFile, h1, h2]
set_option maxRecDepth 100000 in
theorem append_any (w : World) (p b n : Nat) (M : Tab FileE) (left : Int) (h : DiskIs w p b n M left) (s d : ByteArray) (hs : s.size ≤ 1000000000) (hd : d.size ≤ 1000000000) (hf : (fileOf M s.data.toList).1.length ≤ 1000000000) (hn : n < 1000000000) (hle : -1 ≤ left ∧ left ≤ 9223372036854775807) :
    Calls Tryz.prog 18 #[.pointer (some ⟨p, 0, none⟩), .string s, .string d] w fun e w' =>
      e = .returned (.int .i64 (beginE M left false [strB s.data.toList] s.data.toList)) ∧ DiskIs w' p b (n + 1) (appM M left s.data.toList d.data.toList) (beginL M left false [strB s.data.toList] s.data.toList) ∧ But p b w w' := by
  have hne := h.ne
  have hlt := h.lt
  have hbc := begin_one w p b n M left h false s hs hle
  obtain ⟨E, hE⟩ : ∃ E, E = beginE M left false [strB s.data.toList] s.data.toList := ⟨_, rfl⟩
  obtain ⟨L, hL⟩ : ∃ L, L = beginL M left false [strB s.data.toList] s.data.toList := ⟨_, rfl⟩
  rw [appM, ← hE, ← hL]
  rw [← hE, ← hL] at hbc
  obtain ⟨k, hk⟩ : ∃ k, k = s.data.toList := ⟨_, rfl⟩
  rw [← hk] at hf ⊢
  obtain ⟨fa, hfa⟩ : ∃ fa, fa = strB (fileOf M k).1 := ⟨_, rfl⟩
  obtain ⟨fb, hfb⟩ : ∃ fb : Int, fb = (fileOf M k).2 := ⟨_, rfl⟩
  obtain ⟨X, hX⟩ : ∃ X, X = fa ++ d := ⟨_, rfl⟩
  have henc := encFile_eq (fileOf M k) fa fb hfa.symm hfb.symm
  have henc2 := encFile_eq ((fileOf M k).1 ++ d.data.toList, (fileOf M k).2) X fb (by rw [hX, hfa]; exact (bytes_ext (by rw [string_append_toList, strB_list, strB_list])).symm) hfb.symm
  have hfs : fa.size ≤ 1000000000 := by rw [hfa, strB_size]; exact hf
  have hadd : ¬ (fa.size + d.size > 9223372036854775807) := by omega
  have hX' := hX.symm
  have HK := hid2 hk
  have HENC := hid2 henc
  have HENC2 := hid2 henc2
  obtain ⟨M', hM'⟩ : ∃ M', M' = putM M k ((fileOf M k).1 ++ d.data.toList, (fileOf M k).2) := ⟨_, rfl⟩
  have HM' := hid2 hM'
  have HH := hid2 h
  clear hE hL hk hfa hfb hX henc henc2 hf hM' h
  by_cases h0 : E = 0
  · subst h0
    rw [if_pos rfl, ← HM'.out]
    go_enter Tryz.func18, Tryz.ntmps18
    go_wp2_with (first
      | (go_at_call 43; refine hbc.mono ?_; rintro e w2 ⟨rfl, hd2, hb2⟩; have c0 : w2.cell? ⟨p, 0, none⟩ = some (.map (some b)) := (cell_of_row w2 p 0 _ _ _ hd2.1).trans rfl; have hlk := hd2.look s hs; rw [← HK.out, HENC.out] at hlk; have HD2 := hid2 hd2; have HB2 := hid2 hb2; have hlt2 := hd2.lt; clear hd2 hb2 hbc))
    obtain ⟨W, hW⟩ : ∃ W, W = w2.alloc (.cells #[.string X, .int .i64 fb] 86) := ⟨_, rfl⟩
    rw [← hW]
    obtain ⟨G, hG⟩ : ∃ G, G = w2.heap.size := ⟨_, rfl⟩
    have hmW : MapIs W Tryz.prog 9 encFile b n M := by rw [hW]; exact HD2.out.2.alloc _
    have hrW : W.heap[p]? = some (.cells #[.map (some b), .int .i64 L] 62 (0, 0)) := by rw [hW]; exact (Below.heap_alloc _ _ _ hlt2.1).trans HD2.out.1
    have e0 : W.cell? ⟨p, 0, none⟩ = some (.map (some b)) := (cell_of_row W p 0 _ _ _ hrW).trans rfl
    have r8 : W.heap[G]? = some (.cells #[.string X, .int .i64 fb] 86 (0, 0)) := by rw [hW, hG]; exact heap_alloc_new w2 _
    have l0 : W.cell? ⟨G, 0, none⟩ = some (.string X) := (cell_of_row W G 0 _ _ _ r8).trans rfl
    have l1 : W.cell? ⟨G, 1, none⟩ = some (.int .i64 fb) := (cell_of_row W G 1 _ _ _ r8).trans rfl
    have hbW : But p b w W := by rw [hW]; exact HB2.out.trans (But.of_below ((Below.refl _ _).alloc (Nat.le_refl _) _))
    rw [← hG]
    have HRW := hid2 hrW
    have HBW := hid2 hbW
    have hmWd : MapIs W.drew Tryz.prog 9 encFile b n M := hmW
    have HMW := hid2 hmWd
    clear hW hG hmW hrW r8 hbW c0 hlk hmWd
    go_still_tail 6, (by kernel_rfl)
    change wpList _ _ _ _ _ W.drew
    go_wp2_with (((with_reducible refine wpList_update_map HMW.out encFile_inj Tryz.underlying9 Tryz.underlying60 ?_ s ?_ ((fileOf M k).1 ++ d.data.toList, (fileOf M k).2) ?_ ?_); (unfold maxLen; omega); (unfold maxLen; omega); exact ⟨rfl, rfl, HENC2.out.symm⟩; intro w5 hm5 ht5))
    go_ret
    refine ⟨rfl, ⟨(ht5.2.2.2.2 p hne).trans HRW.out, ?_⟩, HBW.out.trans ((But.of_below ((Below.refl _ _).drew)).trans (But.of_turn ht5))⟩
    rw [HM'.out, HK.out]
    rw [HK.out] at hm5
    exact hm5
  · rw [if_neg h0]
    have h0' : (E == 0) = false := by simpa using h0
    go_enter Tryz.func18, Tryz.ntmps18
    go_wp2_with (first
      | (go_at_call 43; refine hbc.mono ?_; rintro e w2 ⟨rfl, hd2, hb2⟩; have HD2 := hid2 hd2; have HB2 := hid2 hb2; clear hd2 hb2 hbc))
    go_ret
    exact ⟨rfl, HD2.out.mono (by omega), HB2.out⟩
set_option maxRecDepth 100000 in
theorem sync_any (w : World) (p b n : Nat) (M : Tab FileE) (left : Int) (h : DiskIs w p b n M left) (s : ByteArray) (hs : s.size ≤ 1000000000) (hf : (fileOf M s.data.toList).1.length ≤ 1000000000) (hn : n < 1000000000) (hle : -1 ≤ left ∧ left ≤ 9223372036854775807) :
    Calls Tryz.prog 36 #[.pointer (some ⟨p, 0, none⟩), .string s] w fun e w' =>
      e = .returned (.int .i64 (beginE M left true [strB s.data.toList] s.data.toList)) ∧ DiskIs w' p b (n + 1) (syncM M left s.data.toList) (beginL M left true [strB s.data.toList] s.data.toList) ∧ But p b w w' := by
  have hne := h.ne
  have hlt := h.lt
  have hbc := begin_one w p b n M left h true s hs hle
  obtain ⟨E, hE⟩ : ∃ E, E = beginE M left true [strB s.data.toList] s.data.toList := ⟨_, rfl⟩
  obtain ⟨L, hL⟩ : ∃ L, L = beginL M left true [strB s.data.toList] s.data.toList := ⟨_, rfl⟩
  rw [syncM, ← hE, ← hL]
  rw [← hE, ← hL] at hbc
  obtain ⟨k, hk⟩ : ∃ k, k = s.data.toList := ⟨_, rfl⟩
  rw [← hk] at hf ⊢
  obtain ⟨fa, hfa⟩ : ∃ fa, fa = strB (fileOf M k).1 := ⟨_, rfl⟩
  obtain ⟨fb, hfb⟩ : ∃ fb : Int, fb = (fileOf M k).2 := ⟨_, rfl⟩
  obtain ⟨fz, hfz⟩ : ∃ fz : Int, fz = fa.size := ⟨_, rfl⟩
  have henc := encFile_eq (fileOf M k) fa fb hfa.symm hfb.symm
  have henc2 := encFile_eq ((fileOf M k).1, (fileOf M k).1.length) fa fz hfa.symm (by rw [hfz, hfa, strB_size])
  have hfs : fa.size ≤ 1000000000 := by rw [hfa, strB_size]; exact hf
  have hfz' := hfz.symm
  have HK := hid2 hk
  have HENC := hid2 henc
  have HENC2 := hid2 henc2
  obtain ⟨M', hM'⟩ : ∃ M', M' = putM M k ((fileOf M k).1, (fileOf M k).1.length) := ⟨_, rfl⟩
  have HM' := hid2 hM'
  have HH := hid2 h
  clear hE hL hk hfa hfb hfz henc henc2 hf hM' h
  by_cases h0 : E = 0
  · subst h0
    rw [if_pos rfl, ← HM'.out]
    go_enter Tryz.func36, Tryz.ntmps36
    go_wp2_with (first
      | (go_at_call 43; refine hbc.mono ?_; rintro e w2 ⟨rfl, hd2, hb2⟩; have c0 : w2.cell? ⟨p, 0, none⟩ = some (.map (some b)) := (cell_of_row w2 p 0 _ _ _ hd2.1).trans rfl; have hlk := hd2.look s hs; rw [← HK.out, HENC.out] at hlk; have HD2 := hid2 hd2; have HB2 := hid2 hb2; have hlt2 := hd2.lt; clear hd2 hb2 hbc))
    obtain ⟨W, hW⟩ : ∃ W, W = w2.alloc (.cells #[.string fa, .int .i64 fz] 86) := ⟨_, rfl⟩
    rw [← hW]
    obtain ⟨G, hG⟩ : ∃ G, G = w2.heap.size := ⟨_, rfl⟩
    have hmW : MapIs W Tryz.prog 9 encFile b n M := by rw [hW]; exact HD2.out.2.alloc _
    have hrW : W.heap[p]? = some (.cells #[.map (some b), .int .i64 L] 62 (0, 0)) := by rw [hW]; exact (Below.heap_alloc _ _ _ hlt2.1).trans HD2.out.1
    have e0 : W.cell? ⟨p, 0, none⟩ = some (.map (some b)) := (cell_of_row W p 0 _ _ _ hrW).trans rfl
    have r8 : W.heap[G]? = some (.cells #[.string fa, .int .i64 fz] 86 (0, 0)) := by rw [hW, hG]; exact heap_alloc_new w2 _
    have l0 : W.cell? ⟨G, 0, none⟩ = some (.string fa) := (cell_of_row W G 0 _ _ _ r8).trans rfl
    have l1 : W.cell? ⟨G, 1, none⟩ = some (.int .i64 fz) := (cell_of_row W G 1 _ _ _ r8).trans rfl
    have hbW : But p b w W := by rw [hW]; exact HB2.out.trans (But.of_below ((Below.refl _ _).alloc (Nat.le_refl _) _))
    rw [← hG]
    have HRW := hid2 hrW
    have HBW := hid2 hbW
    have hmWd : MapIs W.drew Tryz.prog 9 encFile b n M := hmW
    have HMW := hid2 hmWd
    clear hW hG hmW hrW r8 hbW c0 hlk hmWd
    go_still_tail 6, (by kernel_rfl)
    change wpList _ _ _ _ _ W.drew
    go_wp2_with (((with_reducible refine wpList_update_map HMW.out encFile_inj Tryz.underlying9 Tryz.underlying60 ?_ s ?_ ((fileOf M k).1, (fileOf M k).1.length) ?_ ?_); (unfold maxLen; omega); (unfold maxLen; omega); exact ⟨rfl, rfl, HENC2.out.symm⟩; intro w5 hm5 ht5))
    go_ret
    refine ⟨rfl, ⟨(ht5.2.2.2.2 p hne).trans HRW.out, ?_⟩, HBW.out.trans ((But.of_below ((Below.refl _ _).drew)).trans (But.of_turn ht5))⟩
    rw [HM'.out, HK.out]
    rw [HK.out] at hm5
    exact hm5
  · rw [if_neg h0]
    have h0' : (E == 0) = false := by simpa using h0
    go_enter Tryz.func36, Tryz.ntmps36
    go_wp2_with (first
      | (go_at_call 43; refine hbc.mono ?_; rintro e w2 ⟨rfl, hd2, hb2⟩; have HD2 := hid2 hd2; have HB2 := hid2 hb2; clear hd2 hb2 hbc))
    go_ret
    exact ⟨rfl, HD2.out.mono (by omega), HB2.out⟩
set_option maxRecDepth 100000 in
theorem remove_any (w : World) (p b n : Nat) (M : Tab FileE) (left : Int) (h : DiskIs w p b n M left) (s : ByteArray) (hs : s.size ≤ 1000000000) (hle : -1 ≤ left ∧ left ≤ 9223372036854775807) :
    Calls Tryz.prog 49 #[.pointer (some ⟨p, 0, none⟩), .string s] w fun e w' =>
      e = .returned (.int .i64 (beginE M left true [strB s.data.toList] s.data.toList)) ∧ DiskIs w' p b n (remM M left s.data.toList) (beginL M left true [strB s.data.toList] s.data.toList) ∧ But p b w w' := by
  have hne := h.ne
  have hbc := begin_one w p b n M left h true s hs hle
  obtain ⟨E, hE⟩ : ∃ E, E = beginE M left true [strB s.data.toList] s.data.toList := ⟨_, rfl⟩
  obtain ⟨L, hL⟩ : ∃ L, L = beginL M left true [strB s.data.toList] s.data.toList := ⟨_, rfl⟩
  rw [remM, ← hE, ← hL]
  rw [← hE, ← hL] at hbc
  clear hE hL h
  by_cases h0 : E = 0
  · subst h0
    rw [if_pos rfl]
    obtain ⟨M', hM'⟩ : ∃ M', M' = delM M s.data.toList := ⟨_, rfl⟩
    rw [← hM']
    have HM' := hid2 hM'
    clear hM'
    go_enter Tryz.func49, Tryz.ntmps49
    go_wp2_with (first
      | (go_at_call 43; refine hbc.mono ?_; rintro e w2 ⟨rfl, hd2, hb2⟩; have c0 : w2.cell? ⟨p, 0, none⟩ = some (.map (some b)) := (cell_of_row w2 p 0 _ _ _ hd2.1).trans rfl; have HD2 := hid2 hd2; have HB2 := hid2 hb2; have HMM := hid2 hd2.2; clear hd2 hb2 hbc)
      | (at_delete; go_must ((with_reducible refine wpList_drop_map HMM.out Tryz.underlying9 Tryz.underlying60 s ?_ ?_ ?_); (unfold maxLen; omega); exact ⟨rfl, rfl⟩; intro w5 hm5 ht5)))
    go_ret
    refine ⟨rfl, ⟨(ht5.2.2.2.2 p hne).trans HD2.out.1, ?_⟩, HB2.out.trans (But.of_turn ht5)⟩
    rw [HM'.out]
    exact hm5
  · rw [if_neg h0]
    have h0' : (E == 0) = false := by simpa using h0
    go_enter Tryz.func49, Tryz.ntmps49
    go_wp2_with (first
      | (go_at_call 43; refine hbc.mono ?_; rintro e w2 ⟨rfl, hd2, hb2⟩; have HD2 := hid2 hd2; have HB2 := hid2 hb2; clear hd2 hb2 hbc))
    go_ret
    exact ⟨rfl, HD2.out, HB2.out⟩
/-- what Read answers -/
def readV (M : Tab FileE) (k : List UInt8) : Value := match getM M k with
  | some f => .tuple #[.string (strB f.1), .int .i64 0]
  | none => .tuple #[.string ⟨#[]⟩, .int .i64 10]
set_option maxRecDepth 100000 in
theorem read_any (w : World) (p b n : Nat) (M : Tab FileE) (left : Int) (h : DiskIs w p b n M left) (s : ByteArray) (hs : s.size ≤ 1000000000) :
    Calls Tryz.prog 27 #[.pointer (some ⟨p, 0, none⟩), .string s] w fun e w' => e = .returned (readV M s.data.toList) ∧ Below w.heap.size w w' := by
  have c0 : w.cell? ⟨p, 0, none⟩ = some (.map (some b)) := (cell_of_row w p 0 _ _ _ h.1).trans rfl
  have hlk := h.look_ok s hs
  have hB := Below.refl w.heap.size w
  obtain ⟨fa, hfa⟩ : ∃ fa, fa = strB (fileOf M s.data.toList).1 := ⟨_, rfl⟩
  obtain ⟨fb, hfb⟩ : ∃ fb : Int, fb = (fileOf M s.data.toList).2 := ⟨_, rfl⟩
  rw [encFile_eq (fileOf M s.data.toList) fa fb hfa.symm hfb.symm] at hlk
  have hv : readV M s.data.toList = if (getM M s.data.toList).isSome = true then .tuple #[.string fa, .int .i64 0] else .tuple #[.string ⟨#[]⟩, .int .i64 10] := by
    rw [hfa, readV, fileOf]
    cases getM M s.data.toList <;> rfl
  obtain ⟨is, his⟩ : ∃ is, is = (getM M s.data.toList).isSome := ⟨_, rfl⟩
  rw [← his] at hlk hv
  rw [hv]
  have hA := ((Below.refl w.heap.size w).alloc (Nat.le_refl _) (.cells #[.string fa, .int .i64 fb] 86))
  clear hfa hfb his hv h
  cases is
  · go_enter Tryz.func27, Tryz.ntmps27
    go_wp2_with fail
    go_ret2
    exact ⟨rfl, hA⟩
  · go_enter Tryz.func27, Tryz.ntmps27
    go_wp2_with fail
    go_ret2
    exact ⟨rfl, hA⟩
end Go.Proofs.YtehpapoboeejkaaGreat
