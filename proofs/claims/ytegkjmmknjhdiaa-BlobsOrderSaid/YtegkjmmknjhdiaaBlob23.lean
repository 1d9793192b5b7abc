/- What a row of blobs is behind Put and Drop: plain laws; a blob built; an act kept. -/
import Derived.Test.YtegkjmmknjhdiaaBlob22
namespace Go.Proofs.Ytegkjmmknjhdiaa
open Go.RowKit Go.Maps Go.Sort Go.Lib
theorem getM_some_mem {M : BTab} {X d : List UInt8} (h : getM M X = some d) : ∃ i : Nat, M[i]? = some (X, d) := by
  unfold getM at h
  obtain ⟨p, hp, rfl⟩ := Option.map_eq_some_iff.1 h
  have h1 := List.mem_of_find?_eq_some hp
  have h2 : p.1 = X := by simpa using List.find?_some hp
  subst h2
  exact List.getElem?_of_mem h1
theorem del_none {M : BTab} {X : List UInt8} (h : getM M X = none) : delM M X = M := by
  rw [delM, List.filter_eq_self]
  intro p hp
  rw [getM, Option.map_eq_none_iff, List.find?_eq_none] at h
  simpa using h p hp
theorem sizeM_ins (x : List UInt8 × List UInt8) : ∀ M : BTab, sizeM (insM x M) = sizeM M + x.2.length
  | [] => by rw [insM, sizeM_cons]; simp [sizeM]
  | y :: r => by
    unfold insM
    split
    · rw [sizeM_cons, Int.add_comm]
    · rw [sizeM_cons, sizeM_cons, sizeM_ins x r]; omega
theorem sizeM_putB (M : BTab) (X d : List UInt8) : sizeM (putB M X d) = if (getM M X).isSome = true then sizeM M else sizeM M + d.length := by
  unfold putB
  split
  · rfl
  · rename_i h
    rw [putM, del_none (by simpa using h), sizeM_ins]
theorem sizeM_del : ∀ {M : BTab} (_ : Rises M) (X : List UInt8), sizeM (delM M X) = sizeM M - ((getM M X).getD []).length
  | [], _, X => by simp [delM, sizeM, getM]
  | y :: r, hr, X => by
    have hr2 := (List.pairwise_cons.1 hr).2
    by_cases h : y.1 = X
    · have hn : getM r X = none := find_none (fun x hx e => by
        have hlt := (List.pairwise_cons.1 hr).1 x hx
        rw [bytesBefore_lt, h, e] at hlt
        exact List.lt_irrefl _ hlt)
      have e1 : delM (y :: r) X = r := by
        rw [delM, List.filter_cons, if_neg (by simp [h])]
        exact del_none hn
      have e2 : getM (y :: r) X = some y.2 := by simp [getM, h]
      rw [e1, e2, sizeM_cons, Option.getD_some]
      omega
    · have hb : (y.1 == X) = false := beq_eq_false_iff_ne.2 h
      have e1 : delM (y :: r) X = y :: delM r X := by rw [delM, List.filter_cons, if_pos (by simp [h])]; rfl
      have e2 : getM (y :: r) X = getM r X := by unfold getM; rw [List.find?_cons, hb]
      rw [e1, e2, sizeM_cons, sizeM_cons, sizeM_del hr2 X]
      omega
theorem KeysOk.ins {M : BTab} (h : KeysOk M) {x : List UInt8 × List UInt8} (hx : x.1.length = 32) : KeysOk (insM x M) := by
  induction M with
  | nil => intro y hy; obtain rfl : y = x := by simpa [insM] using hy
           exact hx
  | cons z r ih =>
    have h2 := ih (fun y hy => h y (List.mem_cons_of_mem _ hy))
    unfold insM
    split
    · intro y hy
      rcases List.mem_cons.1 hy with rfl | hy
      · exact hx
      · exact h y hy
    · intro y hy
      rcases List.mem_cons.1 hy with rfl | hy
      · exact h _ (List.mem_cons_self ..)
      · exact h2 y hy
theorem KeysOk.del {M : BTab} (h : KeysOk M) (X : List UInt8) : KeysOk (delM M X) := fun y hy => h y (List.mem_filter.1 hy).1
theorem KeysOk.putB {M : BTab} (h : KeysOk M) {X : List UInt8} (hX : X.length = 32) (d : List UInt8) : KeysOk (putB M X d) := by
  unfold Go.Proofs.Ytegkjmmknjhdiaa.putB
  split
  · exact h
  · exact (h.del X).ins hX
theorem ins_some (X d : List UInt8) : ∀ M : BTab, (getM (insM (X, d) M) X).isSome = true
  | [] => by simp [insM, getM]
  | y :: r => by
    unfold insM
    split
    · simp [getM]
    · have ih := ins_some X d r
      unfold getM at ih ⊢
      rw [List.find?_cons]
      split
      · rfl
      · exact ih
theorem putB_some (M : BTab) (X d : List UInt8) : (getM (putB M X d) X).isSome = true := by
  unfold putB
  split
  · assumption
  · exact ins_some X d _
theorem putB_again (M : BTab) (X d e : List UInt8) : putB (putB M X d) X e = putB M X d := by
  rw [putB, if_pos (putB_some M X d)]
/-- what Find tells, in the table's words -/
theorem find_cases {M : BTab} (hr : Rises M) {Y : List UInt8} {v : Int} (h : FindIs M Y v) : (∃ (i : Nat) (d : List UInt8), v = i ∧ M[i]? = some (Y, d) ∧ getM M Y = some d) ∨ (v = -1 ∧ getM M Y = none) := by
  rcases h with ⟨i, x, h1, rfl, rfl⟩ | ⟨rfl, h⟩
  · exact .inl ⟨i, x.2, rfl, h1, getM_rises hr h1⟩
  · exact .inr ⟨rfl, find_none h⟩
/-! a blob built of its parts -/
theorem foldl_set (off : Nat) : ∀ (l : List Value) (k : Nat) (acc : Array Value), off + k + l.length ≤ acc.size →
    ((l.zipIdx k).foldl (fun (cs : Array Value) (p : Value × Nat) => cs.setIfInBounds (off + p.2) p.1) acc).toList = acc.toList.take (off + k) ++ l ++ acc.toList.drop (off + k + l.length)
  | [], k, acc, _ => by simp
  | v :: l, k, acc, h => by
    have hk : off + k < acc.size := by rw [List.length_cons] at h; omega
    have h' : off + (k + 1) + l.length ≤ (acc.setIfInBounds (off + k) v).size := by rw [Array.size_setIfInBounds]; rw [List.length_cons] at h; omega
    rw [List.zipIdx_cons, List.foldl_cons, foldl_set off l (k + 1) _ h', Array.toList_setIfInBounds, show off + (k + 1) = off + k + 1 by omega, List.take_add_one, List.take_set_of_le (Nat.le_refl _), List.drop_set_of_lt (by omega), List.getElem?_set_self (by rw [Array.length_toList]; exact hk)]
    simp [Nat.add_assoc, Nat.add_comm 1]
theorem built_fill (parts : List (Nat × Value)) : Try.prog.built 47 parts = Instr.fill (fun i => (#[(0, 32), (32, 1)] : Array (Nat × Nat))[i]?) blobZ.cells parts := by kernel_rfl
theorem built_blob (X : List UInt8) (hX : X.length = 32) (d : List UInt8) : Try.prog.built 47 [(0, .agg (u8s X).toArray), (1, .string (strB d))] = some (blobV (X, d)).toArray := by
  have hz : blobZ.cells.size = 33 := by rfl
  have h1 : (Value.agg (u8s X).toArray).cells.size = 32 := by show (u8s X).toArray.size = 32; rw [List.size_toArray, u8s_length, hX]
  rw [built_fill]
  unfold Instr.fill
  simp only [List.getElem?_toArray, List.getElem?_cons_zero, h1, ne_eq, not_true, decide_false, Bool.false_or, hz]
  rw [if_neg (by decide)]
  obtain ⟨acc, hacc⟩ : ∃ acc, acc = (Value.agg (u8s X).toArray).cells.zipIdx.foldl (fun (cs : Array Value) (p : Value × Nat) => cs.setIfInBounds (0 + p.2) p.1) blobZ.cells := ⟨_, rfl⟩
  have hl := foldl_set 0 (u8s X) 0 blobZ.cells (by rw [hz, u8s_length, hX]; omega)
  have hacc2 : acc.toList = u8s X ++ [.string ⟨#[]⟩] := by
    rw [hacc, ← Array.foldl_toList, Array.toList_zipIdx]
    refine Eq.trans hl ?_
    rw [u8s_length, hX]
    rfl
  have hs : acc.size = 33 := by rw [← Array.length_toList, hacc2, List.length_append, u8s_length, hX]; rfl
  have h2 : (Value.string (strB d)).cells.size = 1 := rfl
  show Instr.fill _ ((Value.agg (u8s X).toArray).cells.zipIdx.foldl (fun (cs : Array Value) (p : Value × Nat) => cs.setIfInBounds (0 + p.2) p.1) blobZ.cells) _ = _
  rw [← hacc]
  unfold Instr.fill
  simp only [List.getElem?_toArray, List.getElem?_cons_succ, List.getElem?_cons_zero, h2, ne_eq, not_true, decide_false, Bool.false_or, hs]
  rw [if_neg (by decide)]
  unfold Instr.fill
  refine congrArg some ?_
  apply Array.toList_inj.1
  have hl2 := foldl_set 32 [Value.string (strB d)] 0 acc (by rw [hs]; simp)
  rw [← Array.foldl_toList, Array.toList_zipIdx]
  refine Eq.trans hl2 ?_
  rw [hacc2, List.take_append_of_le_length (by rw [u8s_length, hX]; omega), List.take_of_length_le (by rw [u8s_length, hX]; omega), List.drop_of_length_le (by rw [List.length_append, u8s_length, hX]; simp), List.append_nil]
  rfl
/-! an act stored into a fresh variable -/
def bactZ : List Value := [.int .u8 0, .string ⟨#[]⟩, .bool false] ++ u8s (List.replicate 32 0)
theorem wpList_store_act {ops : Array Oper} {rest : List Oper} {a : Act} {Q : Exit → Act → World → Prop} {w1 : World} {dst : Option Tmp} {tt : TypeId} {x v : Operand} {pos : String} {after : Array Edge} (b : BActE) (hb : b.other.length = 32)
    (hxv : a.eval x = .pointer (some ⟨w1.heap.size, 0, none⟩) ∧ a.eval v = .agg (bactV b).toArray)
    (h : wpList Try.prog ops Q rest (a.put dst undef) (w1.alloc (.cells (bactV b).toArray 41))) :
    wpList Try.prog ops Q (⟨dst, .store 41 x v, tt, pos, after, none⟩ :: rest) a (w1.alloc (.cells #[Value.int IntKind.u8 0, Value.string { data := #[] }, Value.bool false, Value.int IntKind.u8 0, Value.int IntKind.u8 0, Value.int IntKind.u8 0, Value.int IntKind.u8 0, Value.int IntKind.u8 0, Value.int IntKind.u8 0, Value.int IntKind.u8 0, Value.int IntKind.u8 0, Value.int IntKind.u8 0, Value.int IntKind.u8 0, Value.int IntKind.u8 0, Value.int IntKind.u8 0, Value.int IntKind.u8 0, Value.int IntKind.u8 0, Value.int IntKind.u8 0, Value.int IntKind.u8 0, Value.int IntKind.u8 0, Value.int IntKind.u8 0, Value.int IntKind.u8 0, Value.int IntKind.u8 0, Value.int IntKind.u8 0, Value.int IntKind.u8 0, Value.int IntKind.u8 0, Value.int IntKind.u8 0, Value.int IntKind.u8 0, Value.int IntKind.u8 0, Value.int IntKind.u8 0, Value.int IntKind.u8 0, Value.int IntKind.u8 0, Value.int IntKind.u8 0, Value.int IntKind.u8 0, Value.int IntKind.u8 0] 41)) := by
  show wpList Try.prog ops Q (⟨dst, .store 41 x v, tt, pos, after, none⟩ :: rest) a (w1.alloc (.cells bactZ.toArray 41))
  have h1 : ∀ v ∈ bactV b, v.oneCell' = true := by
    intro v hv
    rcases List.mem_append.1 hv with hv | hv
    · simp only [List.mem_cons, List.not_mem_nil, or_false] at hv
      rcases hv with rfl | rfl | rfl <;> rfl
    · exact u8s_one _ v hv
  have hz : bactZ.toArray.size = 35 := by rfl
  refine wpList_store_lit w1.heap.size 0 (.agg (bactV b).toArray) (bactV b) (agg_cells _) bactZ.toArray 41 (heap_alloc_new w1 _) (by rw [bactV_length hb]; exact info_bact) (by rw [bactV_length hb, hz]; decide) h1 hxv ?_
  rw [laid_all (by rw [bactV_length hb, hz]), World.setRow_alloc_new]
  exact h
end Go.Proofs.Ytegkjmmknjhdiaa
