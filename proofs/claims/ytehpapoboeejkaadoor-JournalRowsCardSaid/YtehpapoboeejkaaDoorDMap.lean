/- A map with texts as keys, as a plain table that rises. Nothing of the program is named. -/
import Derived.Test.YtehpapoboeejkaaDoorMem4
import Derived.Maps.Ext
import Derived.Maps.OwnSet
import Derived.Sort.KeysCollected
namespace Go.Proofs.YtehpapoboeejkaaDoor
open Go.RowKit Go.Maps Go.WideMaps Go.WideAt Go.MapKept Go.ChangeMaps
section
variable {α : Type} {enc : α → Value}
open Classical in
/-- how an element reads: as what it is -/
noncomputable def elemR (enc : α → Value) (v : Value) : Option (DataW α × List MemPlace) := if h : ∃ a, v = enc a then some (.held (Classical.choose h), []) else none
theorem elemR_mk (hinj : ∀ a b, enc a = enc b → a = b) (a : α) : elemR enc (enc a) = some (.held a, []) := by
  have h : ∃ b, enc a = enc b := ⟨a, rfl⟩
  unfold elemR
  rw [dif_pos h, ← hinj _ _ (Classical.choose_spec h)]
theorem elemR_inv {v : Value} {d : DataW α} {ps : List MemPlace} (h : elemR enc v = some (d, ps)) : ∃ a, v = enc a ∧ d = .held a := by
  unfold elemR at h
  split at h
  · rename_i hx
    simp only [Option.some.injEq, Prod.mk.injEq] at h
    exact ⟨_, Classical.choose_spec hx, h.1.symm⟩
  · cases h

abbrev Tab (α : Type) := List (List UInt8 × α)
def mapD (M : Tab α) : DataW α := .map (M.map fun p => (.string p.1, .held p.2))
def getM (M : Tab α) (k : List UInt8) : Option α := (M.find? (fun p => p.1 == k)).map (·.2)
def insM (x : List UInt8 × α) : Tab α → Tab α
  | [] => [x]
  | y :: r => if bytesBefore x.1 y.1 then x :: y :: r else y :: insM x r
def delM (M : Tab α) (k : List UInt8) : Tab α := M.filter fun p => !(p.1 == k)
def putM (M : Tab α) (k : List UInt8) (a : α) : Tab α := insM (k, a) (delM M k)
def Rises (M : Tab α) : Prop := M.Pairwise fun p q => bytesBefore p.1 q.1 = true

theorem mapD_ins (x : List UInt8 × α) : ∀ M : Tab α, DataW.insert (.string x.1, .held x.2) (M.map fun p => ((.string p.1 : Lit), (.held p.2 : DataW α))) = (insM x M).map fun p => (.string p.1, .held p.2)
  | [] => rfl
  | y :: r => by
    have ih := mapD_ins x r
    rw [List.map_cons]
    unfold DataW.insert insM
    by_cases h : bytesBefore x.1 y.1 = true
    · rw [if_pos (show (Lit.string x.1).before (Lit.string y.1) = true from h), if_pos h]; rfl
    · rw [if_neg (show ¬ (Lit.string x.1).before (Lit.string y.1) = true from h), if_neg h, List.map_cons, ih]
theorem filter_mapD (M : Tab α) (k : List UInt8) : ((M.map fun p => ((.string p.1 : Lit), (.held p.2 : DataW α))).filter fun p => !p.1.sameKey (.string k)) = (delM M k).map fun p => (.string p.1, .held p.2) := by
  unfold delM
  rw [List.filter_map]
  rfl
theorem mapD_put (M : Tab α) (k : List UInt8) (a : α) : (mapD M).put (.string k) (.held a) = mapD (putM M k a) := by
  show DataW.map _ = DataW.map _
  rw [filter_mapD]
  exact congrArg _ (mapD_ins (k, a) _)
theorem mapD_del (M : Tab α) (k : List UInt8) : (mapD M).del (.string k) = mapD (delM M k) := by
  show DataW.map _ = DataW.map _
  rw [filter_mapD]
theorem find_mapD (k : List UInt8) : ∀ M : Tab α, (M.map fun p => ((.string p.1 : Lit), (.held p.2 : DataW α))).find? (fun p => p.1.sameKey (.string k)) = (M.find? (fun p => p.1 == k)).map fun p => (.string p.1, .held p.2)
  | [] => rfl
  | y :: r => by
    have ih := find_mapD k r
    simp only [List.map_cons, List.find?_cons, Lit.sameKey]
    cases h : (y.1 == k)
    · exact ih
    · rfl
theorem any_find {β : Type} (f : β → Bool) : ∀ l : List β, l.any f = (l.find? f).isSome
  | [] => rfl
  | x :: r => by
    rw [List.any_cons, List.find?_cons, any_find f r]
    cases f x <;> rfl
theorem has_mapD (M : Tab α) (k : List UInt8) : has (mapD M) (.string k) = (getM M k).isSome := by
  show List.any _ _ = _
  rw [any_find, find_mapD, getM, Option.isSome_map, Option.isSome_map]
theorem atKey_mapD (M : Tab α) (k : List UInt8) (z : DataW α) : (mapD M).atKey (.string k) z = match getM M k with | some a => .held a | none => z := by
  unfold DataW.atKey mapD getM
  simp only [find_mapD]
  cases M.find? (fun p => p.1 == k) <;> rfl
theorem size_mapD (M : Tab α) : size (mapD M) = M.length := by show List.length _ = _; simp
theorem strKeys_mapD (M : Tab α) : strKeys (mapD M) = M.map (·.1) := by show List.map _ _ = _; rw [List.map_map]; rfl

/-- block b of w is a map that reads as the table M; at most n entries -/
def MapIs (w : World) (P : Program) (k : TypeId) (enc : α → Value) (b n : Nat) (M : Tab α) : Prop := w.ownsMap P k (elemR enc) b n (mapD M)
variable {w w' : World} {P : Program} {k : TypeId} {b n : Nat} {M : Tab α}
theorem MapIs.length_le (h : MapIs w P k enc b n M) : M.length ≤ n := by
  obtain ⟨es, clock, _, _, hs, hD⟩ := h
  have h1 := congrArg Maps.size hD
  rw [size_mapD] at h1
  rw [h1, size_eq, length_sorted, List.length_map, Array.length_toList]
  exact hs
theorem MapIs.rises (h : MapIs w P k enc b n M) (K : Keyed P k) : Rises M := by
  obtain ⟨es, he, hp, _⟩ := World.ownsMap.canon h K
  unfold mapD at he
  injection he with he
  subst he
  rw [List.pairwise_map] at hp
  exact hp
theorem MapIs.made (w : World) (P : Program) (k : TypeId) (enc : α → Value) : MapIs (w.alloc (.map #[] 0)) P k enc w.heap.size 0 ([] : Tab α) := World.ownsMap_made w P k _
theorem MapIs.mono (h : MapIs w P k enc b n M) {n' : Nat} (hn : n ≤ n') : MapIs w P k enc b n' M := World.ownsMap.mono h hn
theorem MapIs.lt (h : MapIs w P k enc b n M) : b < w.heap.size := World.ownsMap.lt h
theorem MapIs.keep (h : MapIs w P k enc b n M) (hb : w'.heap[b]? = w.heap[b]?) : MapIs w' P k enc b n M := by
  obtain ⟨es, clock, hh, F, hs, hD⟩ := h
  exact ⟨es, clock, hb.trans hh, F, hs, hD⟩
theorem MapIs.alloc (h : MapIs w P k enc b n M) (o : Obj) : MapIs (w.alloc o) P k enc b n M := h.keep (Below.heap_alloc w o _ h.lt)
theorem MapIs.below (h : MapIs w P k enc b n M) {B : Nat} (hb : Below B w w') (hB : b < B) : MapIs w' P k enc b n M := h.keep (hb.block _ hB)
theorem MapIs.setCell (h : MapIs w P k enc b n M) (p : Addr) (v : Value) (hne : b ≠ p.block) : MapIs (w.setCell p v) P k enc b n M := h.keep (Below.heap_setCell w p v b hne)
theorem MapIs.drewN (h : MapIs w P k enc b n M) (m : Nat) : MapIs (w.drewN m) P k enc b n M := h
end

section
variable {α : Type} {enc : α → Value} {w : World} {P : Program} {k t e : TypeId} {b n : Nat} {M : Tab α}
theorem MapIs.look_ok (h : MapIs w P k enc b n M) (hinj : ∀ a b, enc a = enc b → a = b) (hk : P.underlying k = some .string) (ht : P.underlying t = some (.map k e)) (z0 : α) (hz : (zeroValue e).run P w = .ok (enc z0) w) (s : ByteArray) (hs : s.size ≤ maxLen) :
    (Instr.lookup t (.map (some b)) (.string s) true).run P w = .ok (.tuple #[enc ((getM M s.data.toList).getD z0), .bool (getM M s.data.toList).isSome]) w := by
  obtain ⟨v, ps, hrun, hv⟩ := World.ownsMap.look_ok h (string_keyed hk) ht hz (elemR_mk hinj z0) (keyOf_string_mk hk hs)
  rw [has_mapD] at hrun
  rw [atKey_mapD] at hv
  obtain ⟨a, rfl, ha⟩ := elemR_inv hv
  rw [hrun]
  cases hg : getM M s.data.toList with
  | none => rw [hg] at ha; injection ha with ha; subst ha; rfl
  | some x => rw [hg] at ha; injection ha with ha; subst ha; rfl
theorem MapIs.look (h : MapIs w P k enc b n M) (hinj : ∀ a b, enc a = enc b → a = b) (hk : P.underlying k = some .string) (ht : P.underlying t = some (.map k e)) (z0 : α) (hz : (zeroValue e).run P w = .ok (enc z0) w) (s : ByteArray) (hs : s.size ≤ maxLen) :
    (Instr.lookup t (.map (some b)) (.string s) false).run P w = .ok (enc ((getM M s.data.toList).getD z0)) w := by
  obtain ⟨v, ps, hrun, hv⟩ := World.ownsMap.lookup h (string_keyed hk) ht hz (elemR_mk hinj z0) (keyOf_string_mk hk hs)
  rw [atKey_mapD] at hv
  obtain ⟨a, rfl, ha⟩ := elemR_inv hv
  rw [hrun]
  cases hg : getM M s.data.toList with
  | none => rw [hg] at ha; injection ha with ha; subst ha; rfl
  | some x => rw [hg] at ha; injection ha with ha; subst ha; rfl
/-- the entries of the map in block b are others; nothing else has turned -/
def Turn (b : Nat) (w w' : World) : Prop := w'.os = w.os ∧ w'.tape = w.tape ∧ w'.output = w.output ∧ w'.heap.size = w.heap.size ∧ ∀ k, k ≠ b → w'.heap[k]? = w.heap[k]?
theorem turn_of {w' : World} (h : w.mapTurned w' b) : Turn b w w' := by
  obtain ⟨es, clock, es', clock', hb, rfl⟩ := h
  exact ⟨rfl, rfl, rfl, by simp [setBlock], fun k hk => heap_setBlock_other hb _ hk⟩
theorem MapIs.update (h : MapIs w P k enc b n M) (hinj : ∀ a b, enc a = enc b → a = b) (hk : P.underlying k = some .string) (ht : P.underlying t = some (.map k e)) (hn : n < maxLen) (s : ByteArray) (hs : s.size ≤ maxLen) (a : α) :
    ∃ w', (Instr.mapUpdate t (.map (some b)) (.string s) (enc a)).run P w = .ok () w' ∧ MapIs w' P k enc b (n + 1) (putM M s.data.toList a) ∧ Turn b w w' := by
  obtain ⟨w', hrun, h1, h2⟩ := World.ownsMap.store h (string_keyed hk) ht hn (keyOf_string_mk hk hs) (elemR_mk hinj a)
  rw [mapD_put] at h1
  exact ⟨w', hrun, h1, turn_of h2⟩
theorem MapIs.drop (h : MapIs w P k enc b n M) (hk : P.underlying k = some .string) (ht : P.underlying t = some (.map k e)) (s : ByteArray) (hs : s.size ≤ maxLen) (ty : TypeId) :
    ∃ w', (Builtin.delete_ #[t, k] ty #[.map (some b), .string s]).run P w = .ok (.tuple #[]) w' ∧ MapIs w' P k enc b n (delM M s.data.toList) ∧ Turn b w w' := by
  obtain ⟨w', hrun, h1, h2⟩ := World.ownsMap.drop h (string_keyed hk) ht (keyOf_string_mk hk hs) ty
  rw [mapD_del] at h1
  exact ⟨w', hrun, h1, turn_of h2⟩
/-- 'm[k] = v' as an arm -/
theorem wpList_update_map {ops : Array Oper} {rest : List Oper} {a : Act} {Q : Exit → Act → World → Prop} {dst : Option Tmp} {tt : TypeId} {m x v : Operand} {pos : String} {after : Array Edge}
    (h : MapIs w P k enc b n M) (hinj : ∀ a b, enc a = enc b → a = b) (hk : P.underlying k = some .string) (ht : P.underlying t = some (.map k e)) (hn : n < maxLen) (s : ByteArray) (hs : s.size ≤ maxLen) (y : α)
    (hx : a.eval m = .map (some b) ∧ a.eval x = .string s ∧ a.eval v = enc y)
    (hK : ∀ w', MapIs w' P k enc b (n + 1) (putM M s.data.toList y) → Turn b w w' → wpList P ops Q rest (a.put dst undef) w') :
    wpList P ops Q (⟨dst, .mapUpdate t m x v, tt, pos, after, none⟩ :: rest) a w := by
  refine wpList_plain rfl fun K' hK' => ?_
  obtain ⟨w', hrun, r1, r2⟩ := h.update hinj hk ht hn s hs y
  unfold Oper.wp
  simp [execOp, hx.1, hx.2.1, hx.2.2, hrun, Result.andThen]
  exact hK' _ _ (hK w' r1 r2)
/-- 'delete(m, k)' as an arm -/
theorem wpList_drop_map {ops : Array Oper} {rest : List Oper} {a : Act} {Q : Exit → Act → World → Prop} {dst : Option Tmp} {tt : TypeId} {m x : Operand} {pos : String} {after : Array Edge}
    (h : MapIs w P k enc b n M) (hk : P.underlying k = some .string) (ht : P.underlying t = some (.map k e)) (s : ByteArray) (hs : s.size ≤ maxLen)
    (hx : a.eval m = .map (some b) ∧ a.eval x = .string s)
    (hK : ∀ w', MapIs w' P k enc b n (delM M s.data.toList) → Turn b w w' → wpList P ops Q rest (a.put dst (.tuple #[])) w') :
    wpList P ops Q (⟨dst, .call ⟨.builtin .delete, #[m, x], #[t, k]⟩, tt, pos, after, none⟩ :: rest) a w := by
  refine wpList_plain rfl fun K' hK' => ?_
  obtain ⟨w', hrun, r1, r2⟩ := h.drop hk ht s hs tt
  unfold Oper.wp
  simp [execOp, resolve, invoke, builtin, hx.1, hx.2, hrun, Result.andThen]
  exact hK' _ _ (hK w' r1 r2)
end

/-- Go's order of texts -/
theorem bytesBefore_lt : ∀ a b : List UInt8, bytesBefore a b = true ↔ a < b
  | [], [] => by simp [bytesBefore]
  | [], _ :: _ => by simp [bytesBefore]
  | _ :: _, [] => by simp [bytesBefore]
  | a :: r, b :: s => by
    have ih := bytesBefore_lt r s
    rw [List.cons_lt_cons_iff, ← ih]
    simp [bytesBefore]
theorem sort_rises {α : Type} {M : Tab α} (h : Rises M) {ss : List (List UInt8)} (hp : ss.Perm (M.map (·.1))) : ss.mergeSort (fun x y => decide (x ≤ y)) = M.map (·.1) := by
  rw [mergeSort_of_perm hp]
  refine List.mergeSort_of_pairwise (List.pairwise_map.2 (h.imp fun {p q} hpq => ?_))
  exact decide_eq_true (List.le_of_lt ((bytesBefore_lt _ _).1 hpq))
end Go.Proofs.YtehpapoboeejkaaDoor
