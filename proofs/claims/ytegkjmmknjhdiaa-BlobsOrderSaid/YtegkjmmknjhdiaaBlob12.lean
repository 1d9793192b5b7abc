/- bloomerylaw06.alive, its walk. (slices.SortFunc's contract is a premise.) -/
import Derived.Test.YtegkjmmknjhdiaaBlob11
import Derived.Test.YtegkjmmknjhdiaaBlob3
import Derived.Test.YtegkjmmknjhdiaaEqDig
namespace Go.Proofs.Ytegkjmmknjhdiaa
open Go.RowKit Go.Maps Go.Sort Go.Lib
theorem wpList_load_lit_g {P : Program} {w : World} {ops : Array Oper} {rest : List Oper} {a : Act} {Q : Exit → Act → World → Prop} {dst : Option Tmp} {ty tt : TypeId} {x : Operand} {pos : String} {after : Array Edge} {gi : Nat} {gb : Bool}
    (g off : Nat) (cur : Array Value) (t : TypeId) (fr : Nat × Nat) (hg : w.heap[g]? = some (.cells cur t fr)) (vs : List Value)
    (hvs : ∀ j, j < vs.length → cur[off + j]? = vs[j]?) (d : TypeDesc) (hu : P.underlying ty = some d) (hi : (P.info? ty).map (·.size) = some vs.length)
    (hx : (a.eval x = .pointer (some ⟨g, off, none⟩) ∧ (match d with | .struct _ | .array _ _ => true | _ => false) = true) ∧ ∃ og dg, ops[gi]? = some og ∧ og.dst = some dg ∧ a.tmps[dg]? = some (.bool gb))
    (h : wpList P ops Q rest (a.put dst (.agg vs.toArray)) w) : wpList P ops Q (⟨dst, .load ty x, tt, pos, after, some (gi, gb)⟩ :: rest) a w := by
  obtain ⟨h1, og, dg, h2, h3, h4⟩ := hx
  unfold wpList
  rw [if_pos (by simp [Region.wanted, yielded, h2, h3, h4])]
  exact .inl (wp_load_at ty x rfl g off h1.1 cur t fr hg vs hvs d hu h1.2 hi h)
theorem sum_new (W : World) (s : ByteArray) (hs : s.size ≤ 1000000000) : Calls Try.prog 31 #[.slice (some ⟨W.heap.size, 0, none⟩) 1 1] (W.alloc (.cells #[.string s] 9)) fun e w' => e = .returned (.agg (u8s (Sha.sum s.data.toList)).toArray) ∧ Below W.heap.size W w' :=
  (sum_one _ _ s hs (Rd.one W (.string s) 9)).mono fun _ _ ⟨he, hb⟩ => ⟨he, ((Below.refl _ W).alloc (Nat.le_refl _) _).trans (hb.mono (by simp))⟩
theorem sum_ab : (Sha.sum [97] == Sha.sum [98]) = false := by decide +kernel
theorem get_one (A x : List UInt8) : getM [(A, x)] A = some x := by simp [getM]
theorem put_one (A x : List UInt8) : putM [] A x = [(A, x)] := rfl
theorem del_one (A x : List UInt8) : delM [(A, x)] A = [] := by simp [delM]
/-- what alive holds between two calls -/
structure AlAt (w : World) (s b n : Nat) (M : Tab (List UInt8)) (z : Int) (W : World) : Prop where
  st : StoreIs W s b n M z
  low : Below w.heap.size w W
  hs : w.heap.size ≤ s
  hb : w.heap.size ≤ b
theorem AlAt.ext {w W W' : World} {s b n : Nat} {M : Tab (List UInt8)} {z : Int} (h : AlAt w s b n M z W) (hb : Below W.heap.size W W') : AlAt w s b n M z W' :=
  ⟨h.st.below hb h.st.lt.1 h.st.lt.2, h.low.trans (hb.mono h.low.size), h.hs, h.hb⟩
theorem AlAt.but {w W W' : World} {s b n n' : Nat} {M M' : Tab (List UInt8)} {z z' : Int} (h : AlAt w s b n M z W) (hst : StoreIs W' s b n' M' z') (hb : But s b W W') : AlAt w s b n' M' z' W' :=
  ⟨hst, hb.below h.low h.low.size h.hs h.hb, h.hs, h.hb⟩
/-- a block of the walk's own, a digest in it -/
abbrev DigAt (W : World) (G : Nat) (X : List UInt8) : Prop := W.heap[G]? = some (.cells (u8s X).toArray 39 (0, 0))
theorem DigAt.ext {W W' : World} {G : Nat} {X : List UInt8} (h : DigAt W G X) (hb : Below W.heap.size W W') : DigAt W' G X := (hb.block _ (heap_lt h)).trans h
theorem DigAt.but {W W' : World} {G s b : Nat} {X : List UInt8} (h : DigAt W G X) (hb : But s b W W') (h1 : G ≠ s) (h2 : G ≠ b) : DigAt W' G X := (hb.block _ (heap_lt h) h1 h2).trans h
section
variable {w W : World} {s b n : Nat} {M : Tab (List UInt8)} {z : Int}
theorem al_put (h : AlAt w s b n M z W) (hn : n ≤ 1000000) (hz : 0 ≤ z ∧ z ≤ 1000000000) (d : ByteArray) (hd : d.size ≤ 1000000000) {X : List UInt8} (hX : X = Sha.sum d.data.toList) :
    Calls Try.prog 30 #[.pointer (some ⟨s, 0, none⟩), .string d] W fun e w' => e = .returned (.agg (u8s X).toArray) ∧ AlAt w s b (n + 1) (if (getM M X).isSome = true then M else putM M X d.data.toList) (if (getM M X).isSome = true then z else z + d.size) w' ∧ But s b W w' := by
  subst hX
  exact (put_any W s b n M z h.st hn hz d hd).mono fun e w' ⟨he, hst, hb⟩ => ⟨he, h.but (hst.mono (by split <;> omega)) hb, hb⟩
theorem al_get (h : AlAt w s b n M z W) {X : List UInt8} (hX : X.length = 32) :
    Calls Try.prog 27 #[.pointer (some ⟨s, 0, none⟩), .agg (u8s X).toArray] W fun e w' => e = .returned (.tuple #[.string (strB ((getM M X).getD [])), .bool (getM M X).isSome]) ∧ AlAt w s b n M z w' ∧ Below W.heap.size W w' :=
  (get_any W s b n M z h.st X hX).mono fun _ _ ⟨he, hb⟩ => ⟨he, h.ext hb, hb⟩
theorem al_drop (h : AlAt w s b n M z W) (hz : 0 ≤ z ∧ z ≤ 1000000000) {X : List UInt8} (hX : X.length = 32) (hf : ((getM M X).getD []).length ≤ 1000000000) :
    Calls Try.prog 28 #[.pointer (some ⟨s, 0, none⟩), .agg (u8s X).toArray] W fun e w' => e = .returned (.bool (getM M X).isSome) ∧ AlAt w s b n (if (getM M X).isSome = true then delM M X else M) (if (getM M X).isSome = true then z - ((getM M X).getD []).length else z) w' ∧ But s b W w' :=
  (drop_any W s b n M z h.st hz X hX hf).mono fun _ _ ⟨he, hst, hb⟩ => ⟨he, h.but hst hb, hb⟩
theorem al_all (hS : SortsD) (h : AlAt w s b n M z W) (hn : n ≤ 1000000000) :
    Calls Try.prog 34 #[.pointer (some ⟨s, 0, none⟩)] W fun e w' => ∃ A c, e = .returned (.slice A M.length c) ∧ Own w' W.heap.size 39 32 A M.length c (keysV M) ∧ AlAt w s b n M z w' ∧ Below W.heap.size W w' :=
  (all_any hS W s b n M z h.st hn).mono fun _ _ ⟨A, c, he, ho, hb⟩ => ⟨A, c, he, ho, h.ext hb, hb⟩
end
end Go.Proofs.Ytegkjmmknjhdiaa
