/- strings.Builder, written by texts. -/
import Derived.Test.YtehpapoboeejkaaDoorJp8
import Derived.Lib.Builder
import Derived.Lib.UnsafeStr
import Derived.Laws.Externs
import Derived.BigRegion
namespace Go.Proofs.YtehpapoboeejkaaDoor
open Go.RowKit
set_option maxRecDepth 100000
/-- a builder in block g that holds l -/
def BldAt (w : World) (base g : Nat) (l : List UInt8) : Prop :=
  base ≤ g ∧ ∃ p A c, w.heap[g]? = some (.cells #[p, .slice A l.length c] 56 (0, 0)) ∧ (p = .pointer none ∨ p = .pointer (some ⟨g, 0, none⟩)) ∧ Own w base 5 1 A l.length c (u8s l)
theorem grownBy_refl (w : World) (r : Option Nat) : w.grownBy w r := ⟨rfl, rfl, rfl, Nat.le_refl _, fun _ _ _ => rfl⟩
theorem copyCheck_any (w : World) (g : Nat) (v p : Value) (hg : w.heap[g]? = some (.cells #[p, v] 56 (0, 0))) (hp : p = .pointer none ∨ p = .pointer (some ⟨g, 0, none⟩)) :
    Calls Tryd.prog 39 #[.pointer (some ⟨g, 0, none⟩)] w fun e w' => e = .returned (.tuple #[]) ∧ w'.heap[g]? = some (.cells #[.pointer (some ⟨g, 0, none⟩), v] 56 (0, 0)) ∧ w.grownBy w' (some g) := by
  have hc : w.cell? ⟨g, 0, none⟩ = some p := cell_of_row w g 0 _ _ _ hg
  have hfz : w.frozen? ⟨g, 0, none⟩ = false := frozen_of_row w g 0 _ _ hg
  have hsh : w.shape? g = some (56, 2) := by simp [World.shape?, hg]
  rcases hp with rfl | rfl
  · go_enter Tryd.func39, Tryd.ntmps39
    go_wp2
    rw [Lib.run_to_unsafe w ⟨g, 0, none⟩ Tryd.underlying53 Tryd.underlying86 rfl (by decide) hsh (Nat.zero_lt_succ 1)]
    simp only [Result.andThen]
    rw [Oper.upon_value]
    go_wp2
    rw [run_callFunc_extern Tryd.func45 (by kernel_rfl) (by kernel_rfl) (by kernel_rfl) (e := Extern.AbiNoEscape.same) (by kernel_rfl)]
    rw [Lib.run_noEscape]
    simp only [Result.andThen]
    rw [Oper.upon_value]
    go_wp2
    rw [Lib.run_from_unsafe w ⟨g, 0, none⟩ Tryd.underlying86 Tryd.underlying53 rfl hsh (by kernel_rfl)]
    simp only [Result.andThen]
    rw [Oper.upon_value]
    go_wp2
    go_end0
    exact ⟨rfl, by rw [heap_setCell_same w g 0 _ _ _ hg]; rfl, grownBy_setCell (grownBy_refl w _) _⟩
  · go_enter Tryd.func39, Tryd.ntmps39
    go_wp2
    rw [Lib.run_neq_ptr_same w _ Tryd.underlying53 rfl]
    go_wp2
    go_end0
    exact ⟨rfl, hg, grownBy_refl w _⟩
theorem heap_set1 {g : Nat} {p v : Value} {w : World} (t : TypeId) (h : w.heap[g]? = some (.cells #[p, v] t (0, 0))) (u : Value) : (w.setCell ⟨g, 1, none⟩ u).heap[g]? = some (.cells #[p, u] t (0, 0)) := by
  rw [heap_setCell_same w g 1 _ _ _ h]; rfl
theorem liesAt_bytes_at {P : Program} {e : TypeId} (hc : P.cellsOf e = 1) (count o n : Nat) (hn : o + n ≤ count) : liesAt P P.depth e count o e n = true := by
  have hd : P.depth = (2 * (P.types.size + Made.depth) + 1) + 1 := rfl
  rw [hd]
  simp only [liesAt, Bool.or_eq_true]
  left
  rw [hd]
  simp [rowAt, hc, hn, sameLayout, Nat.mod_one]
theorem run_unsafeString_at {P : Program} (w : World) (pt it ty e : TypeId) (hp : P.underlying pt = some (.pointer e)) (hc : P.cellsOf e = 1) (g o cells : Nat) (hsh : w.shape? g = some (e, cells)) (l : List UInt8) (h0 : l ≠ []) (hn : o + l.length ≤ cells) (h63 : l.length ≤ 9223372036854775807)
    (hcell : ∀ j x, l[j]? = some x → w.cell? ((⟨g, o, none⟩ : Addr).add j) = some (.int .u8 x.toNat)) :
    (Builtin.unsafeString_ #[pt, it] ty #[.pointer (some ⟨g, o, none⟩), .int .i64 l.length]).run P w = .ok (.string ⟨l.toArray⟩) (w.freeze ⟨g, o, none⟩ l.length) := by
  have hl : l.length ≠ 0 := by simpa using h0
  have hlb := Lib.run_loadBytes (P := P) w l ⟨g, o, none⟩ .empty hcell
  have hlies := liesAt_bytes_at (P := P) hc (cells / P.cellsOf e) o l.length (by rw [hc]; simpa using hn)
  have h63' : ¬ (9223372036854775807 : Int) < (l.length : Int) := by omega
  have hmax : IntKind.i64.max = 9223372036854775807 := rfl
  have hneg : ¬ (l.length : Int) < 0 := by omega
  show Sem.run P (Bind.bind (asInt (.int .i64 l.length)) _) w = _
  simp [asInt, asIntOf, hmax, h63', hneg, hl, variablesAt, hsh, elemOf, run_underlying hp, hlies, hlb]
theorem bstring_any (w : World) (base g : Nat) (l : List UInt8) (h : BldAt w base g l) (h0 : l ≠ []) :
    Calls Tryd.prog 27 #[.pointer (some ⟨g, 0, none⟩)] w fun e w' => e = .returned (.string ⟨l.toArray⟩) ∧ Below base w w' := by
  obtain ⟨hbg, p, A, c, hg, hp, hown⟩ := h
  have hgl := heap_lt hg
  have hc1 : w.drew.cell? ⟨g, 1, none⟩ = some (.slice A l.length c) := cell_of_row w g 1 _ _ _ hg
  have hl0 : 0 < l.length := List.length_pos_iff.2 h0
  have hnc := hown.2.1
  have hcm := hown.2.2.1
  obtain ⟨b, o, cur, fr, rfl, hbb, hcur, hfr, hoc, hcx⟩ := hown.at_ (by omega)
  have hSD : (Builtin.unsafeSliceData_ #[54] 76 #[.slice (some ⟨b, o, none⟩) l.length c]).run Tryd.prog w.drew = .ok (.pointer (some ⟨b, o, none⟩)) w.drew :=
    Lib.run_unsafeSliceData_row _ _ _ _ _ _ (by omega)
  have hUS : (Builtin.unsafeString_ #[76, 3] 9 #[.pointer (some ⟨b, o, none⟩), .int .i64 l.length]).run Tryd.prog w.drew = .ok (.string ⟨l.toArray⟩) (w.drew.freeze ⟨b, o, none⟩ l.length) := by
    refine run_unsafeString_at w.drew 76 3 9 5 Tryd.underlying76 (by kernel_rfl) b o cur.size (by have hg' : w.drew.heap[b]? = some (.cells cur 5 fr) := hcur; simp [World.shape?, hg']) l h0 (by omega) (by unfold maxLen at hcm; omega) ?_
    intro j x hx
    have hj : j < l.length := by
      rcases Nat.lt_or_ge j l.length with h | h
      · exact h
      · rw [List.getElem?_eq_none h] at hx; cases hx
    rw [addr_add]
    refine (cell_of_row w b (o + j) cur _ _ hcur).trans ?_
    rw [hcx j (by omega), u8s_get l hj, List.getD_eq_getElem?_getD, hx]
    rfl
  have hl63 : l.length ≤ 9223372036854775807 := by unfold maxLen at hcm; omega
  clear hcx hfr hoc hcur hown hg hp
  go_enter Tryd.func27, Tryd.ntmps27
  go_wp2
  go_region
  all_goals (go_wp2; go_ret; exact ⟨rfl, Lib.below_freeze (Below.drew (Below.refl base w)) (p := ⟨b, o, none⟩) hbb _⟩)
theorem BldAt.below {w w' : World} {base g B : Nat} {l : List UInt8} (h : BldAt w base g l) (hb : Below B w w') (hB : w.heap.size ≤ B) : BldAt w' base g l := by
  obtain ⟨hbg, p, A, c, hg, hp, hown⟩ := h
  exact ⟨hbg, p, A, c, (hb.block _ (by have := heap_lt hg; omega)).trans hg, hp, hown.below hb hB⟩
theorem BldAt.lt {w : World} {base g : Nat} {l : List UInt8} (h : BldAt w base g l) : g < w.heap.size := by
  obtain ⟨_, p, A, c, hg, _⟩ := h
  exact heap_lt hg
/-- a builder that nothing was written to -/
def BldNew (w : World) (g : Nat) : Prop := w.heap[g]? = some (.cells #[.pointer none, .slice none 0 0] 56 (0, 0))
theorem BldNew.at_ {w : World} {g base : Nat} (h : BldNew w g) (hb : base ≤ g) : BldAt w base g [] := ⟨hb, _, none, 0, h, .inl rfl, Own.nil _ _ _ _⟩
theorem writeString_any (w : World) (base g : Nat) (l : List UInt8) (h : BldAt w base g l) (s : ByteArray) (hlen : l.length + s.size ≤ 100000000) (hbase : base ≤ w.heap.size) :
    Calls Tryd.prog 24 #[.pointer (some ⟨g, 0, none⟩), .string s] w fun e w' => e = .returned (.tuple #[.int .i64 s.size, .nilIface]) ∧ BldAt w' base g (l ++ s.data.toList) ∧ Below base w w' := by
  obtain ⟨hbg, p, A, c, hg, hp, hown⟩ := h
  have hgl := heap_lt hg
  have hne := hown.ne hg (by decide)
  obtain ⟨n, hn⟩ : ∃ n, n = l.length := ⟨_, rfl⟩
  rw [← hn] at hg hown hlen
  have HN := hid2 hn
  have h63 : n + s.size ≤ maxLen := by unfold maxLen; omega
  clear hn
  go_enter Tryd.func24, Tryd.ntmps24
  go_wp2_with (first
    | (go_at_call 39; refine (copyCheck_any w g _ p hg hp).mono ?_; rintro e w1 ⟨rfl, hg1, hgr1⟩; have hc1 : w1.cell? ⟨g, 1, none⟩ = some (.slice A n c) := cell_of_row w1 g 1 _ _ _ hg1; have hf1 : w1.frozen? ⟨g, 1, none⟩ = false := frozen_of_row w1 g 1 _ _ hg1; have hown1 := hown.grown hgr1 (fun b hb e => hne (hb.trans e)); clear hown)
    | (at_builtin; have _t := hown1; go_must ((with_reducible refine wpList_append_lit 5 (.int .u8 0) 1 1 Tryd.underlying54 info_u8 rfl base A n c (u8s l) hown1 s.size (u8s s.data.toList) (.string s) (Src.str Tryd.underlying9) (u8s_one _) h63 (by omega) (by have := hgr1.size; omega) ?_ ?_); exact ⟨rfl, rfl⟩; intro A3 c3 w3 hown3 hgr3 hbl3; clear hown1; have hg3 := (hgr3.block g (by have := hgr1.size; omega) (fun e => hne e.symm)).trans hg1; have hc3 : w3.cell? ⟨g, 1, none⟩ = some (.slice A n c) := cell_of_row w3 g 1 _ _ _ hg3; have hf3 : w3.frozen? ⟨g, 1, none⟩ = false := frozen_of_row w3 g 1 _ _ hg3)))
  go_ret2
  have hb1 : Below base w w1 := (Below.refl base w).grown hgr1 hbase (fun k e => by injection e with e; omega)
  have hb3 : Below base w w3 := hb1.grown hgr3 (by have := hgr1.size; omega) (fun k e => (_t.block k e).1)
  refine ⟨rfl, ⟨hbg, _, A3, c3, ?_, .inr rfl, ?_⟩, hb3.setCell (p := ⟨g, 1, none⟩) (by exact hbg) _⟩
  · have := heap_set1 _ hg3 (.slice A3 (n + s.size) c3)
    rw [List.length_append, toList_length]
    rw [HN.out] at this ⊢
    exact this
  · have h4 := hown3.setOther (p := ⟨g, 1, none⟩) (hown3.ne hg3 (by decide)) (.slice A3 (n + s.size) c3)
    rw [← u8s_append] at h4
    rw [List.length_append, toList_length]
    rw [HN.out] at h4 ⊢
    exact h4
theorem bstring_new (w : World) (base g : Nat) (h : BldNew w g) :
    Calls Tryd.prog 27 #[.pointer (some ⟨g, 0, none⟩)] w fun e w' => e = .returned (.string ⟨#[]⟩) ∧ Below base w w' := by
  have hgl := heap_lt h
  have hc1 : w.drew.cell? ⟨g, 1, none⟩ = some (.slice none 0 0) := cell_of_row w g 1 _ _ _ h
  have hSD : (Builtin.unsafeSliceData_ #[54] 76 #[.slice none 0 0]).run Tryd.prog w.drew = .ok (.pointer none) w.drew := Lib.run_unsafeSliceData_nil _ _ _ _ _
  have hUS : (Builtin.unsafeString_ #[76, 3] 9 #[.pointer none, .int .i64 0]).run Tryd.prog w.drew = .ok (.string ⟨#[]⟩) w.drew := Lib.run_unsafeString_none _ _ _ _ _
  clear h
  go_enter Tryd.func27, Tryd.ntmps27
  go_wp2
  go_region
  all_goals (go_wp2; go_ret; exact ⟨rfl, (Below.refl base w).drew⟩)
end Go.Proofs.YtehpapoboeejkaaDoor
