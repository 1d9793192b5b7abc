/- Digests in a row of cells, sorted: the plain laws. -/
import Derived.Test.YtegkjmmknjhdiaaBlob7
import Derived.Lib.Bytealg
import Derived.Lib.BytesEntry
import Derived.Sort.Grow
import Derived.Shelf.GgSortFunc.RowK
import Derived.Shelf.SlSortCmp.InsertionK
namespace Go.Proofs.Ytegkjmmknjhdiaa
open Go.RowKit Go.Maps Go.Sort Go.Lib
instance : Inhabited Dig := ⟨⟨List.replicate 32 0, by simp⟩⟩
def digC (x : Dig) : List Value := u8s x.1
theorem digC_len (x : Dig) : (digC x).length = 32 := by rw [digC, u8s_length, x.2]
theorem digC_one (x : Dig) : ∀ v ∈ digC x, v.oneCell' = true := by
  intro v hv
  simp only [digC, u8s, List.mem_map] at hv
  obtain ⟨b, _, rfl⟩ := hv
  rfl
theorem digs_get : ∀ (l : List Dig) (t : Nat), t < l.length * 32 → (digs l)[t]! = (digC l[t / 32]!)[t % 32]!
  | [], t, h => by simp at h
  | x :: l, t, h => by
    have hx := digC_len x
    have e : digs (x :: l) = digC x ++ digs l := by simp [digs, digC]
    rw [e]
    by_cases ht : t < 32
    · rw [Nat.div_eq_of_lt ht, Nat.mod_eq_of_lt ht, getElem!_pos _ t (by rw [List.length_append]; omega), List.getElem_append_left (by omega), List.getElem!_cons_zero, getElem!_pos _ t (by omega)]
    · obtain ⟨u, rfl⟩ : ∃ u, t = u + 32 := ⟨t - 32, by omega⟩
      have hu : u < l.length * 32 := by rw [List.length_cons] at h; omega
      have ih := digs_get l u hu
      rw [show (u + 32) / 32 = u / 32 + 1 by omega, show (u + 32) % 32 = u % 32 by omega, List.getElem!_cons_succ, ← ih]
      have hl : u < (digs l).length := by rw [digs_length]; exact hu
      rw [getElem!_pos _ u hl, getElem!_pos _ (u + 32) (by rw [List.length_append]; omega), List.getElem_append_right (by omega)]
      simp only [hx]
      congr 1
theorem flatK_digs (l : List Dig) : flatK digC 32 l.toArray = (digs l).toArray := by
  refine ext_get! (by rw [size_flatK, List.size_toArray, List.size_toArray, digs_length]) fun t ht => ?_
  rw [size_flatK, List.size_toArray] at ht
  rw [get_flatK _ _ _ _ (by rw [List.size_toArray]; exact ht), List.getElem!_toArray, List.getElem!_toArray, digs_get l t ht]
theorem holds_id {w : World} {g : Nat} {cur : Array Value} {e : TypeId} {vs : List Value} (hb : w.heap[g]? = some (.cells cur e (0, 0))) (ht : cur.toList.take vs.length = vs) : Holds id w g 0 vs.toArray := by
  intro j hj
  have hj' : j < vs.length := by simpa using hj
  refine ⟨?_, by simp [World.frozen?, hb]⟩
  have h1 : (cur.toList.take vs.length)[j]? = vs[j]? := by rw [ht]
  rw [List.getElem?_take_of_lt hj'] at h1
  simp only [World.cell?, hb, Nat.zero_add]
  simp only [Option.isSome_none, Bool.false_eq_true, if_false]
  rw [← Array.getElem?_toList, h1]
  simp [hj']
theorem heap_sorted_id {w : World} {g n : Nat} {os : Array Obj} {cur : Array Value} {e : TypeId} {fr : Nat × Nat} (d : Array Value) (hb : w.heap[g]? = some (.cells cur e fr)) :
    (grow (putRow id (Sort.ahead w n) g 0 d) os).heap[g]? = some (.cells (putCells id 0 d cur) e fr) := by
  have hg : g < w.heap.size := (Array.getElem?_eq_some_iff.1 hb).1
  rw [heap_grow_old _ _ (by simpa using hg)]
  simp [putRow, mapBlock, Sort.ahead, Array.getElem?_modify, hb, onCells]
theorem grownBy_sorted_id {w : World} {g n : Nat} {os : Array Obj} (d : Array Value) : w.grownBy (grow (putRow id (Sort.ahead w n) g 0 d) os) (some g) := by
  refine ⟨rfl, rfl, rfl, by simp, fun k hk hne => ?_⟩
  rw [heap_grow_old _ _ (by simpa using hk)]
  have : g ≠ k := fun e => hne (by rw [e])
  simp [putRow, mapBlock, Sort.ahead, Array.getElem?_modify, this]
theorem take_putCells_id (cur : Array Value) (ts : List Value) (h : ts.length ≤ cur.size) : (putCells id 0 ts.toArray cur).toList.take ts.length = ts := by
  apply List.ext_getElem?
  intro j
  by_cases hj : j < ts.length
  · rw [List.getElem?_take_of_lt hj, Array.getElem?_toList]
    simp [putCells, hj, show j < cur.size by omega]
  · rw [List.getElem?_take_eq_none (by omega), List.getElem?_eq_none (by omega)]
theorem holdsK_digs {w : World} {g : Nat} {cur : Array Value} {e : TypeId} {l : List Dig} (hb : w.heap[g]? = some (.cells cur e (0, 0))) (ht : cur.toList.take (l.length * 32) = digs l) : HoldsK digC 32 w g 0 l.toArray := by
  unfold HoldsK
  rw [flatK_digs]
  exact holds_id hb (by rw [digs_length]; exact ht)
/-- behind the sort the same slice owns the sorted row -/
theorem ownsRow_sortedD {w : World} {base g cap n k : Nat} {e : TypeId} {os : Array Obj} {cur : Array Value} {ts : List Dig} (hl : ts.length = k) (hbase : base ≤ g) (hb : w.heap[g]? = some (.cells cur e (0, 0)))
    (h1 : k ≤ cap) (h2 : cap ≤ maxLen) (h3 : cur.size = cap * 32) :
    (sortWorldK digC 32 w g 0 n ts.toArray os).ownsRow base e 32 (.slice (some ⟨g, 0, none⟩) k cap) k (digs ts) := by
  unfold sortWorldK putRowK
  rw [flatK_digs]
  refine ⟨by rw [digs_length, hl], .inr ⟨g, cap, _, rfl, hbase, heap_sorted_id _ hb, h1, h2, by simp [putCells, h3], ?_⟩⟩
  rw [← hl, ← digs_length]
  refine take_putCells_id cur _ ?_
  rw [digs_length, h3]
  exact Nat.mul_le_mul_right 32 (by omega)
theorem grownBy_sortedD {w : World} {g n : Nat} {os : Array Obj} (ts : List Dig) : w.grownBy (sortWorldK digC 32 w g 0 n ts.toArray os) (some g) := by
  unfold sortWorldK putRowK
  exact grownBy_sorted_id _
/-! the order of digests -/
def cfD (x y : Dig) : Int := compareBytes x.1 y.1
theorem compareBytes_lt : ∀ a b : List UInt8, compareBytes a b < 0 ↔ a < b
  | [], [] => by simp [compareBytes]
  | [], _ :: _ => by simp [compareBytes]
  | _ :: _, [] => by simp [compareBytes]
  | x :: a, y :: b => by
    have ih := compareBytes_lt a b
    rw [List.cons_lt_cons_iff, ← ih, show compareBytes (x :: a) (y :: b) = if x < y then -1 else if y < x then 1 else compareBytes a b from rfl]
    by_cases h1 : x < y
    · simp [h1]
    · by_cases h2 : y < x
      · have : x ≠ y := fun e => h1 (e ▸ h2)
        simp [h1, h2, this]
      · have : x = y := UInt8.le_antisymm (UInt8.not_lt.1 h2) (UInt8.not_lt.1 h1)
        simp [this]
theorem cfD_lt (x y : Dig) : ltOf cfD x y = decide (x.1 < y.1) := by
  unfold ltOf cfD
  by_cases h : x.1 < y.1
  · simp only [h, decide_true, decide_eq_true_eq]; exact (compareBytes_lt _ _).2 h
  · have := mt (compareBytes_lt x.1 y.1).1 h
    simp [h, this]
theorem swoD : SWO (ltOf cfD) where
  irrefl x := by rw [cfD_lt]; simp [List.lt_irrefl]
  trans x y z h1 h2 := by
    rw [cfD_lt] at *
    simp only [decide_eq_true_eq] at *
    exact List.lt_trans h1 h2
  ntrans x y z h1 h2 := by
    rw [cfD_lt] at *
    simp only [decide_eq_false_iff_not, List.not_lt] at *
    exact List.le_trans h2 h1
/-- what the sort leaves is the table's row of keys -/
theorem sorted_keys {α : Type} {M : Tab α} (hr : Rises M) {ss : List Dig} {d' : Array Dig} (hp : (ss.map (·.1)).Perm (M.map (·.1))) (h1 : PermIn 0 ss.toArray.size ss.toArray d') (h2 : SortedIn (ltOf cfD) 0 ss.toArray.size d') :
    d'.toList.map (·.1) = M.map (·.1) := by
  have hsz : d'.size = ss.length := by simpa using h1.1
  have hpm : d'.toList.Perm ss := by
    have h := h1.2.2
    have e1 : (d'.extract 0 ss.toArray.size) = d' := by
      apply Array.extract_eq_self_of_le
      rw [hsz]; simp
    have e2 : (ss.toArray.extract 0 ss.toArray.size) = ss.toArray := Array.extract_eq_self_of_le (by simp)
    rw [e1, e2] at h
    simpa using h
  refine List.Perm.eq_of_pairwise (le := fun a b => a ≤ b) (fun a b _ _ h1 h2 => List.le_antisymm h1 h2) ?_ ?_ ((hpm.map _).trans hp)
  · rw [List.pairwise_map, List.pairwise_iff_getElem]
    intro i j hi hj hij
    have hj' : j < d'.size := by simpa using hj
    have := h2 i j (Nat.zero_le _) hij (by simp; omega)
    rw [cfD_lt, getElem!_pos d' j hj', getElem!_pos d' i (by omega)] at this
    simpa using this
  · rw [List.pairwise_map]
    exact hr.imp fun {p q} h => List.le_of_lt ((bytesBefore_lt _ _).1 h)
end Go.Proofs.Ytegkjmmknjhdiaa
