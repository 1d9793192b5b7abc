/- Words for memory, the second part: whole variables stored into, and loaded out of, rows that are known whole. -/
import Derived.Test.YtehpapoboeejkaaDoorMem
namespace Go.Proofs.YtehpapoboeejkaaDoor
open Go.RowKit
section
variable {P : Program} {w : World}

/-- a row with the cells vs laid over it from o on -/
def laid (cur : Array Value) (o : Nat) (vs : List Value) : Array Value := (cur.toList.take o ++ vs ++ cur.toList.drop (o + vs.length)).toArray
theorem laid_size {cur : Array Value} {o : Nat} {vs : List Value} (h : o + vs.length ≤ cur.size) : (laid cur o vs).size = cur.size := by
  simp only [laid, List.size_toArray, List.length_append, List.length_take, List.length_drop, Array.length_toList]; omega
theorem laid_get {cur : Array Value} {o : Nat} {vs : List Value} (h : o + vs.length ≤ cur.size) (j : Nat) :
    (laid cur o vs)[j]? = if j < o then cur[j]? else if j < o + vs.length then vs[j - o]? else cur[j]? := by
  have hlt : (cur.toList.take o).length = o := by rw [List.length_take, Array.length_toList]; omega
  simp only [laid, List.getElem?_toArray, List.append_assoc]
  split
  · rw [List.getElem?_append_left (by omega), List.getElem?_take, if_pos (by omega)]; simp
  · rw [List.getElem?_append_right (by omega), hlt]
    split
    · rw [List.getElem?_append_left (by omega)]
    · rw [List.getElem?_append_right (by omega), List.getElem?_drop, ← Array.getElem?_toList]
      congr 1; omega
theorem laid_all {cur : Array Value} {vs : List Value} (h : vs.length = cur.size) : laid cur 0 vs = vs.toArray := by
  simp only [laid, List.take_zero, List.nil_append, Nat.zero_add]
  rw [List.drop_of_length_le (by simp; omega), List.append_nil]

/-- A STORE of a whole variable (an array, a struct, or one cell) into a row that is known whole -/
theorem wp_store_at {o : Oper} {a : Act} {K : Act → World → Prop} {Q : Exit → Act → World → Prop} (ty : TypeId) (x v : Operand) (ho : o.op = .store ty x v)
    (g off : Nat) (hx : a.eval x = .pointer (some ⟨g, off, none⟩)) (val : Value) (hv : a.eval v = val) (vs : List Value) (hvs : val.cells.toList = vs) (cur : Array Value) (t : TypeId) (hg : w.heap[g]? = some (.cells cur t (0, 0)))
    (hi : (P.info? ty).map (·.size) = some vs.length) (hfit : off + vs.length ≤ cur.size) (h1 : ∀ v ∈ vs, v.oneCell' = true)
    (h : K (a.put o.dst undef) (w.setRow g (laid cur off vs))) : o.wp P a w K Q := by
  have hst : (storeCells ⟨g, off, none⟩ vs).run P w = .ok () (w.setRow g (laid cur off vs)) := by
    have hst := run_storeCells_at P g off t vs 0 cur w hg (by omega) h1
    simp only [Nat.add_zero] at hst
    exact hst
  cases hq : P.info? ty with
  | none => simp [hq] at hi
  | some i =>
    have hs : i.size = vs.length := by simpa [hq] using hi
    have hcs : val.cells.size = vs.length := by rw [← hvs]; simp
    unfold Oper.wp execOp
    simp [ho, hx, hv, Instr.storeAt, Instr.sureAddr, storeVar, sizeOf, typeInfo, hq, hs, hcs, hvs, hst]
    exact h
/-- (the operation written out, so that an arm that opens 'with_reducible refine' fails at once where it does not fit) -/
theorem wpList_store_lit {ops : Array Oper} {rest : List Oper} {a : Act} {Q : Exit → Act → World → Prop} {dst : Option Tmp} {ty tt : TypeId} {x v : Operand} {pos : String} {after : Array Edge}
    (g off : Nat) (val : Value) (vs : List Value) (hvs : val.cells.toList = vs) (cur : Array Value) (t : TypeId) (hg : w.heap[g]? = some (.cells cur t (0, 0)))
    (hi : (P.info? ty).map (·.size) = some vs.length) (hfit : off + vs.length ≤ cur.size) (h1 : ∀ v ∈ vs, v.oneCell' = true)
    (hxv : a.eval x = .pointer (some ⟨g, off, none⟩) ∧ a.eval v = val)
    (h : wpList P ops Q rest (a.put dst undef) (w.setRow g (laid cur off vs))) : wpList P ops Q (⟨dst, .store ty x v, tt, pos, after, none⟩ :: rest) a w :=
  wpList_plain rfl fun _ hK => wp_store_at ty x v rfl g off hxv.1 val hxv.2 vs hvs cur t hg hi hfit h1 (hK _ _ h)
theorem step_store_at {ops : Array Oper} {o : Oper} {a : Act} {K : Act → World → Prop} {Q : Exit → Act → World → Prop} {E : Prop} (hgd : o.guard = none) (ty : TypeId) (x v : Operand) (ho : o.op = .store ty x v)
    (g off : Nat) (hx : a.eval x = .pointer (some ⟨g, off, none⟩)) (val : Value) (hv : a.eval v = val) (vs : List Value) (hvs : val.cells.toList = vs) (cur : Array Value) (t : TypeId) (hg : w.heap[g]? = some (.cells cur t (0, 0)))
    (hi : (P.info? ty).map (·.size) = some vs.length) (hfit : off + vs.length ≤ cur.size) (h1 : ∀ v ∈ vs, v.oneCell' = true)
    (h : K (a.put o.dst undef) (w.setRow g (laid cur off vs))) : if Region.wanted o (yielded ops a.tmps) = true then Oper.wp P o a w K Q else E := by
  rw [if_pos (by simp [Region.wanted, hgd])]
  exact wp_store_at ty x v ho g off hx val hv vs hvs cur t hg hi hfit h1 h

/-- A LOAD of a whole array or struct out of a row that is known whole -/
theorem wp_load_at {o : Oper} {a : Act} {K : Act → World → Prop} {Q : Exit → Act → World → Prop} (ty : TypeId) (x : Operand) (ho : o.op = .load ty x)
    (g off : Nat) (hx : a.eval x = .pointer (some ⟨g, off, none⟩)) (cur : Array Value) (t : TypeId) (fr : Nat × Nat) (hg : w.heap[g]? = some (.cells cur t fr)) (vs : List Value)
    (hvs : ∀ j, j < vs.length → cur[off + j]? = vs[j]?) (d : TypeDesc)
    (hu : P.underlying ty = some d) (hd : (match d with | .struct _ | .array _ _ => true | _ => false) = true) (hi : (P.info? ty).map (·.size) = some vs.length)
    (h : K (a.put o.dst (.agg vs.toArray)) w) : o.wp P a w K Q := by
  have hl : (loadCells ⟨g, off, none⟩ vs.length).run P w = .ok vs.toArray w :=
    run_loadCells_list (P := P) w ⟨g, off, none⟩ vs (fun j v hv => by
      have hj : j < vs.length := by
        rcases Nat.lt_or_ge j vs.length with hlt | hge
        · exact hlt
        · rw [List.getElem?_eq_none hge] at hv; cases hv
      rw [addr_add, cell_of_row w g _ cur t fr hg, hvs j hj, hv])
  cases hq : P.info? ty with
  | none => simp [hq] at hi
  | some i =>
    have hs : i.size = vs.length := by simpa [hq] using hi
    have hagg : (isAgg ty).run P w = .ok true w := by
      unfold isAgg
      rw [Sem.run_bind, run_underlying hu w]
      cases d <;> simp_all
    unfold Oper.wp execOp
    simp [ho, hx, Instr.loadAt, Instr.sureAddr, loadVar, Sem.run_bind, hagg, sizeOf, typeInfo, hq, hs, hl]
    exact h
theorem wp_load_lit {a : Act} {K : Act → World → Prop} {Q : Exit → Act → World → Prop} {dst : Option Tmp} {ty tt : TypeId} {x : Operand} {pos : String} {after : Array Edge} {gd : Option (Nat × Bool)}
    (g off : Nat) (cur : Array Value) (t : TypeId) (fr : Nat × Nat) (hg : w.heap[g]? = some (.cells cur t fr)) (vs : List Value)
    (hvs : ∀ j, j < vs.length → cur[off + j]? = vs[j]?) (d : TypeDesc) (hu : P.underlying ty = some d) (hi : (P.info? ty).map (·.size) = some vs.length)
    (hx : a.eval x = .pointer (some ⟨g, off, none⟩) ∧ (match d with | .struct _ | .array _ _ => true | _ => false) = true)
    (h : K (a.put dst (.agg vs.toArray)) w) : Oper.wp P ⟨dst, .load ty x, tt, pos, after, gd⟩ a w K Q :=
  wp_load_at ty x rfl g off hx.1 cur t fr hg vs hvs d hu hx.2 hi h
theorem wpList_load_lit {ops : Array Oper} {rest : List Oper} {a : Act} {Q : Exit → Act → World → Prop} {dst : Option Tmp} {ty tt : TypeId} {x : Operand} {pos : String} {after : Array Edge}
    (g off : Nat) (cur : Array Value) (t : TypeId) (fr : Nat × Nat) (hg : w.heap[g]? = some (.cells cur t fr)) (vs : List Value)
    (hvs : ∀ j, j < vs.length → cur[off + j]? = vs[j]?) (d : TypeDesc) (hu : P.underlying ty = some d) (hi : (P.info? ty).map (·.size) = some vs.length)
    (hx : a.eval x = .pointer (some ⟨g, off, none⟩) ∧ (match d with | .struct _ | .array _ _ => true | _ => false) = true)
    (h : wpList P ops Q rest (a.put dst (.agg vs.toArray)) w) : wpList P ops Q (⟨dst, .load ty x, tt, pos, after, none⟩ :: rest) a w :=
  wpList_plain rfl fun _ hK => wp_load_at ty x rfl g off hx.1 cur t fr hg vs hvs d hu hx.2 hi (hK _ _ h)
/-- a composite whose cells are known -/
theorem wpList_build_lit {ops : Array Oper} {rest : List Oper} {a : Act} {Q : Exit → Act → World → Prop} {dst : Option Tmp} {t tt : TypeId} {parts : Array (Nat × Operand)} {pos : String} {after : Array Edge}
    (cells : Array Value) (hf : P.built t (parts.map fun (i, x) => (i, a.eval x)).toList = some cells)
    (h : wpList P ops Q rest (a.put dst (.agg cells)) w) : wpList P ops Q (⟨dst, .build t parts, tt, pos, after, none⟩ :: rest) a w :=
  wpList_plain rfl fun _ hK => wp_build t parts rfl (by rw [hf]; rfl) (hK _ _ (by rw [hf]; exact h))
/-- append, the operation written out -/
theorem wpList_append_lit {ops : Array Oper} {rest : List Oper} {a : Act} {Q : Exit → Act → World → Prop} {dst : Option Tmp} {tt : TypeId} {s x : Operand} {t u : TypeId} {pos : String} {after : Array Edge}
    (e : TypeId) (z : Value) (sz bytes : Nat) (ht : P.underlying t = some (.slice e)) (hi : (P.info? e).map (fun i => (i.zero, i.size, i.bytes)) = some (some z, sz, bytes)) (hzs : z.cells.size = sz)
    (base : Nat) (A : Option Addr) (n c : Nat) (xs : List Value) (hown : Own w base e sz A n c xs)
    (m : Nat) (news : List Value) (v : Value) (hsrc : Src P w u sz v m news) (h1 : ∀ v ∈ news, v.oneCell' = true)
    (h63 : n + m ≤ maxLen) (hbytes : (n + m) * bytes ≤ 140737488355328) (hbase : base ≤ w.heap.size) (hsx : a.eval s = .slice A n c ∧ a.eval x = v)
    (h : ∀ A' c' w', Own w' base e sz A' (n + m) c' (xs ++ news) → w.grownBy w' (blockOf A) → (blockOf A' = blockOf A ∨ blockOf A' = some w.heap.size) → wpList P ops Q rest (a.put dst (.slice A' (n + m) c')) w') :
    wpList P ops Q (⟨dst, .call ⟨.builtin .append, #[s, x], #[t, u]⟩, tt, pos, after, none⟩ :: rest) a w :=
  wpList_append_gen rfl s x t u rfl e z sz bytes ht hi hzs base A n c xs hsx.1 hown m news v hsx.2 hsrc h1 h63 hbytes hbase h
end
/-- a callee that leaves the world as it is, in a region that draws: the first such region of a body, and those behind it -/
theorem quiet_one {P : Program} {f : FuncId} {args : Array Value} {w : World} {n : Nat} {v : Value} (h : Calls P f args (w.drewN n) fun e w' => e = .returned v ∧ w.drewN n = w') :
    Calls P f args (w.drewN n) fun e w'' => e = .returned v ∧ ∃ m, w'' = w.drewN m := h.mono fun _ _ ⟨he, hw⟩ => ⟨he, n, hw.symm⟩
theorem quiet_more {P : Program} {f : FuncId} {args : Array Value} {w : World} {a n : Nat} {v : Value} (h : Calls P f args (w.drewN (a + n)) fun e w' => e = .returned v ∧ w.drewN (a + n) = w') :
    Calls P f args (w.drewN (a + n)) fun e w'' => e = .returned v ∧ ∃ m, w'' = w.drewN (a + m) := h.mono fun _ _ ⟨he, hw⟩ => ⟨he, n, hw.symm⟩
/-- a callee that draws, likewise -/
theorem quiet_one_d {P : Program} {f : FuncId} {args : Array Value} {w : World} {n : Nat} {v : Value} (h : Calls P f args (w.drewN n) fun e w' => e = .returned v ∧ ∃ k, w' = (w.drewN n).drewN k) :
    Calls P f args (w.drewN n) fun e w'' => e = .returned v ∧ ∃ m, w'' = w.drewN m := h.mono fun _ _ ⟨he, k, hw⟩ => ⟨he, n + k, by rw [hw, World.drewN_drewN]⟩
theorem quiet_more_d {P : Program} {f : FuncId} {args : Array Value} {w : World} {a n : Nat} {v : Value} (h : Calls P f args (w.drewN (a + n)) fun e w' => e = .returned v ∧ ∃ k, w' = (w.drewN (a + n)).drewN k) :
    Calls P f args (w.drewN (a + n)) fun e w'' => e = .returned v ∧ ∃ m, w'' = w.drewN (a + m) := h.mono fun _ _ ⟨he, k, hw⟩ => ⟨he, n + k, by rw [hw, World.drewN_drewN, Nat.add_assoc]⟩
theorem heap_of_drewN {w : World} {g : Nat} {o : Option Obj} (n : Nat) (h : w.heap[g]? = o) : (w.drewN n).heap[g]? = o := h
/-- a fact kept from the walk, and from whatever opens both sides of an equation -/
def Hid2 (p : Prop) : Prop := Unit → p
theorem hid2 {p : Prop} (h : p) : Hid2 p := fun _ => h
theorem Hid2.out {p : Prop} (h : Hid2 p) : p := h ()
theorem agg_cells (l : List Value) : (Value.agg l.toArray).cells.toList = l := by simp [Value.cells]
theorem getElem?_zero_add (l : List Value) (j : Nat) : l.toArray[0 + j]? = l[j]? := by rw [Nat.zero_add, List.getElem?_toArray]
theorem below_setRow {B : Nat} {a w : World} (h : Below B a w) {g : Nat} (hg : B ≤ g) (cs : Array Value) : Below B a (w.setRow g cs) :=
  h.trans ⟨rfl, rfl, rfl, by simp, fun k hk => setRow_other w g k cs (by omega)⟩
theorem below_drewN {B : Nat} {a w : World} (h : Below B a w) (n : Nat) : Below B a (w.drewN n) := ⟨h.os, h.tape, h.output, h.size, h.block⟩
end Go.Proofs.YtehpapoboeejkaaDoor
