/- What a store holds behind Puts of texts: plain laws. -/
import Derived.Test.YtegkjmmknjhdiaaBlob23
namespace Go.Proofs.Ytegkjmmknjhdiaa
open Go.RowKit Go.Maps Go.Sort Go.Lib
def keyT (x : ByteArray) : List UInt8 := Sha.sum x.data.toList
theorem keyT_len (x : ByteArray) : (keyT x).length = 32 := sum_len _
def putsM (M : BTab) (xs : List ByteArray) : BTab := xs.foldl (fun M x => putB M (keyT x) x.data.toList) M
theorem putsM_snoc (M : BTab) (xs : List ByteArray) (x : ByteArray) : putsM M (xs ++ [x]) = putB (putsM M xs) (keyT x) x.data.toList := by simp [putsM, List.foldl_append]
theorem putsM_append (M : BTab) (xs ys : List ByteArray) : putsM M (xs ++ ys) = putsM (putsM M xs) ys := by simp [putsM, List.foldl_append]
/-- no two unlike texts have one digest -/
def NoClash (ps : List ByteArray) : Prop := ∀ x ∈ ps, ∀ y ∈ ps, keyT x = keyT y → x = y
theorem mem_insB {x y : List UInt8 × List UInt8} : ∀ {M : BTab}, y ∈ insM x M ↔ y = x ∨ y ∈ M
  | [] => by simp [insM]
  | z :: r => by
    have ih := mem_insB (x := x) (y := y) (M := r)
    unfold insM
    split
    · simp
    · simp only [List.mem_cons, ih]
      constructor
      · rintro (h | h | h)
        · exact .inr (.inl h)
        · exact .inl h
        · exact .inr (.inr h)
      · rintro (h | h | h)
        · exact .inr (.inl h)
        · exact .inl h
        · exact .inr (.inr h)
theorem getM_mem {M : BTab} {X d : List UInt8} (h : getM M X = some d) : (X, d) ∈ M := by
  obtain ⟨i, hi⟩ := getM_some_mem h
  exact List.mem_of_getElem? hi
theorem snoc_ind {α : Type} {P : List α → Prop} (h0 : P []) (h1 : ∀ l x, P l → P (l ++ [x])) (l : List α) : P l := by
  have : ∀ r : List α, P r.reverse := by
    intro r
    induction r with
    | nil => simpa using h0
    | cons x r ih => rw [List.reverse_cons]; exact h1 _ _ ih
  have := this l.reverse
  rwa [List.reverse_reverse] at this
theorem mem_puts {ps : List ByteArray} (hn : NoClash ps) : ∀ (xs : List ByteArray) (_ : ∀ x ∈ xs, x ∈ ps) (q : List UInt8 × List UInt8), q ∈ putsM [] xs ↔ ∃ x ∈ xs, q = (keyT x, x.data.toList) := by
  refine snoc_ind ?_ ?_
  · intro _ q; simp [putsM]
  · intro xs x ih hx q
    have ih := ih (fun y hy => hx y (List.mem_append_left _ hy))
    have hxp := hx x (by simp)
    rw [putsM_snoc, putB]
    have hE : (∃ y ∈ xs ++ [x], q = (keyT y, y.data.toList)) ↔ (∃ y ∈ xs, q = (keyT y, y.data.toList)) ∨ q = (keyT x, x.data.toList) := by
      constructor
      · rintro ⟨y, hy, e⟩
        rcases List.mem_append.1 hy with hy | hy
        · exact .inl ⟨y, hy, e⟩
        · obtain rfl := List.mem_singleton.1 hy
          exact .inr e
      · rintro (⟨y, hy, e⟩ | e)
        · exact ⟨y, List.mem_append_left _ hy, e⟩
        · exact ⟨x, by simp, e⟩
    rw [hE, ← ih q]
    split
    · rename_i h
      obtain ⟨d, hd⟩ := Option.isSome_iff_exists.1 h
      have hm := getM_mem hd
      obtain ⟨y, hy, e⟩ := (ih _).1 hm
      injection e with e1 e2
      have : x = y := hn x hxp y (hx y (List.mem_append_left _ hy)) e1
      constructor
      · exact .inl
      · rintro (h | rfl)
        · exact h
        · rw [this] at hm ⊢
          rw [← e2]
          exact hm
    · rename_i h
      rw [putM, del_none (by simpa using h), mem_insB]
      exact Or.comm
/-- two rising tables with the same rows are one -/
theorem rises_ext {M M' : BTab} (h : Rises M) (h' : Rises M') (hm : ∀ q, q ∈ M ↔ q ∈ M') : M = M' := by
  have hirr : ∀ p : List UInt8 × List UInt8, ¬ bytesBefore p.1 p.1 = true := fun p e => List.lt_irrefl _ ((bytesBefore_lt _ _).1 e)
  have nd : ∀ {L : BTab}, Rises L → L.Nodup := fun {L} hL => List.Pairwise.imp (S := fun a b => a ≠ b) (fun {a b} hab (e : a = b) => hirr a (by subst e; exact hab)) hL
  have hp : M.Perm M' := (List.perm_ext_iff_of_nodup (nd h) (nd h')).2 hm
  refine List.Perm.eq_of_pairwise (le := fun p q => p = q ∨ bytesBefore p.1 q.1 = true) ?_ (h.imp fun hab => .inr hab) (h'.imp fun hab => .inr hab) hp
  rintro a b _ _ (e | h1) (e' | h2)
  · exact e
  · exact e
  · exact e'.symm
  · rw [bytesBefore_lt] at h1 h2
    exact absurd (List.lt_trans h1 h2) (List.lt_irrefl _)
theorem rises_next {M : BTab} (h : Rises M) {i : Nat} {x y : List UInt8 × List UInt8} (hx : M[i]? = some x) (hy : M[i + 1]? = some y) : x.1 < y.1 := by
  obtain ⟨h1, e1⟩ := List.getElem?_eq_some_iff.1 hx
  obtain ⟨h2, e2⟩ := List.getElem?_eq_some_iff.1 hy
  have := List.pairwise_iff_getElem.1 h i (i + 1) h1 h2 (by omega)
  rw [e1, e2] at this
  exact (bytesBefore_lt _ _).1 this
theorem keysOk_puts (xs : List ByteArray) : KeysOk (putsM [] xs) := by
  refine snoc_ind (P := fun xs => KeysOk (putsM [] xs)) ?_ ?_ xs
  · intro x h; cases h
  · intro xs x ih
    rw [putsM_snoc]
    exact ih.putB (keyT_len x) _
/-- one store stays while another one is turned -/
theorem StoreIs.other {W W' : World} {p b p2 b2 n : Nat} {M : BTab} {z : Int} (h : StoreIs W p2 b2 n M z) (hb : But p b W W') (h1 : p2 ≠ p ∧ p2 ≠ b) (h2 : b2 ≠ p ∧ b2 ≠ b) : StoreIs W' p2 b2 n M z :=
  ⟨(hb.block _ h.lt.1 h1.1 h1.2).trans h.obj, h.map.keep (hb.block _ h.lt.2 h2.1 h2.2)⟩
end Go.Proofs.Ytegkjmmknjhdiaa
