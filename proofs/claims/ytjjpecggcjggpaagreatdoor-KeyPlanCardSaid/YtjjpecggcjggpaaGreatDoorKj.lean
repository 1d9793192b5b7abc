/- strings.Builder, written by texts. -/
import Derived.Test.YtjjpecggcjggpaaGreatDoorKi
import Derived.Lib.Builder
import Derived.Lib.UnsafeStr
import Derived.Laws.Externs
import Derived.BigRegion
import Derived.Lib.IndexMore
import Derived.Test.YtjjpecggcjggpaaGreatDoorKh
import Derived.Test.YtjjpecggcjggpaaGreatDoorKf
import Derived.Deep.WholeRow
import Derived.Test.YtjjpecggcjggpaaGreatDoorKe
set_option linter.unusedSimpArgs false
set_option linter.unusedVariables false
namespace Go.Proofs.YtjjpecggcjggpaaGreatDoor
open Go.RowKit
set_option maxRecDepth 100000
theorem ugrownBy_setCell {w w' : World} {g j : Nat} (h : w.grownBy w' (some g)) (v : Value) : w.grownBy (w'.setCell ⟨g, j, none⟩ v) (some g) :=
  ⟨h.os, h.tape, h.output, by simpa [World.setCell] using h.size, fun k hk hne => (heap_setCell_other w' _ k v (fun e => hne (by rw [e]))).trans (h.block k hk hne)⟩
theorem uinfo_u8 : (Tryz.prog.info? 5).map (fun i => (i.zero, i.size, i.bytes)) = some (some (.int .u8 0), 1, 1) := by kernel_rfl
/-- a builder in block g that holds l -/
def uBldAt (w : World) (base g : Nat) (l : List UInt8) : Prop :=
  base ≤ g ∧ ∃ p A c, w.heap[g]? = some (.cells #[p, .slice A l.length c] 67 (0, 0)) ∧ (p = .pointer none ∨ p = .pointer (some ⟨g, 0, none⟩)) ∧ Own w base 5 1 A l.length c (u8s l)
theorem ugrownBy_refl (w : World) (r : Option Nat) : w.grownBy w r := ⟨rfl, rfl, rfl, Nat.le_refl _, fun _ _ _ => rfl⟩
theorem ucopyCheck_any (w : World) (g : Nat) (v p : Value) (hg : w.heap[g]? = some (.cells #[p, v] 67 (0, 0))) (hp : p = .pointer none ∨ p = .pointer (some ⟨g, 0, none⟩)) :
    Calls Tryz.prog 56 #[.pointer (some ⟨g, 0, none⟩)] w fun e w' => e = .returned (.tuple #[]) ∧ w'.heap[g]? = some (.cells #[.pointer (some ⟨g, 0, none⟩), v] 67 (0, 0)) ∧ w.grownBy w' (some g) := by
  have hc : w.cell? ⟨g, 0, none⟩ = some p := cell_of_row w g 0 _ _ _ hg
  have hfz : w.frozen? ⟨g, 0, none⟩ = false := frozen_of_row w g 0 _ _ hg
  have hsh : w.shape? g = some (67, 2) := by simp [World.shape?, hg]
  rcases hp with rfl | rfl
  · go_enter Tryz.func56, Tryz.ntmps56
    go_wp2
    rw [Lib.run_to_unsafe w ⟨g, 0, none⟩ Tryz.underlying64 Tryz.underlying119 rfl (by decide) hsh (Nat.zero_lt_succ 1)]
    simp only [Result.andThen]
    rw [Oper.upon_value]
    go_wp2
    rw [run_callFunc_extern Tryz.func78 (by kernel_rfl) (by kernel_rfl) (by kernel_rfl) (e := Extern.AbiNoEscape.same) (by kernel_rfl)]
    rw [Lib.run_noEscape]
    simp only [Result.andThen]
    rw [Oper.upon_value]
    go_wp2
    rw [Lib.run_from_unsafe w ⟨g, 0, none⟩ Tryz.underlying119 Tryz.underlying64 rfl hsh (by kernel_rfl)]
    simp only [Result.andThen]
    rw [Oper.upon_value]
    go_wp2
    go_end0
    exact ⟨rfl, by rw [heap_setCell_same w g 0 _ _ _ hg]; rfl, ugrownBy_setCell (ugrownBy_refl w _) _⟩
  · go_enter Tryz.func56, Tryz.ntmps56
    go_wp2
    rw [Lib.run_neq_ptr_same w _ Tryz.underlying64 rfl]
    go_wp2
    go_end0
    exact ⟨rfl, hg, ugrownBy_refl w _⟩
theorem uheap_set1 {g : Nat} {p v : Value} {w : World} (t : TypeId) (h : w.heap[g]? = some (.cells #[p, v] t (0, 0))) (u : Value) : (w.setCell ⟨g, 1, none⟩ u).heap[g]? = some (.cells #[p, u] t (0, 0)) := by
  rw [heap_setCell_same w g 1 _ _ _ h]; rfl
theorem uliesAt_bytes_at {P : Program} {e : TypeId} (hc : P.cellsOf e = 1) (count o n : Nat) (hn : o + n ≤ count) : liesAt P P.depth e count o e n = true := by
  have hd : P.depth = (2 * (P.types.size + Made.depth) + 1) + 1 := rfl
  rw [hd]
  simp only [liesAt, Bool.or_eq_true]
  left
  rw [hd]
  simp [rowAt, hc, hn, sameLayout, Nat.mod_one]
theorem urun_unsafeString_at {P : Program} (w : World) (pt it ty e : TypeId) (hp : P.underlying pt = some (.pointer e)) (hc : P.cellsOf e = 1) (g o cells : Nat) (hsh : w.shape? g = some (e, cells)) (l : List UInt8) (h0 : l ≠ []) (hn : o + l.length ≤ cells) (h63 : l.length ≤ 9223372036854775807)
    (hcell : ∀ j x, l[j]? = some x → w.cell? ((⟨g, o, none⟩ : Addr).add j) = some (.int .u8 x.toNat)) :
    (Builtin.unsafeString_ #[pt, it] ty #[.pointer (some ⟨g, o, none⟩), .int .i64 l.length]).run P w = .ok (.string ⟨l.toArray⟩) (w.freeze ⟨g, o, none⟩ l.length) := by
  have hl : l.length ≠ 0 := by simpa using h0
  have hlb := Lib.run_loadBytes (P := P) w l ⟨g, o, none⟩ .empty hcell
  have hlies := uliesAt_bytes_at (P := P) hc (cells / P.cellsOf e) o l.length (by rw [hc]; simpa using hn)
  have h63' : ¬ (9223372036854775807 : Int) < (l.length : Int) := by omega
  have hmax : IntKind.i64.max = 9223372036854775807 := rfl
  have hneg : ¬ (l.length : Int) < 0 := by omega
  show Sem.run P (Bind.bind (asInt (.int .i64 l.length)) _) w = _
  simp [asInt, asIntOf, hmax, h63', hneg, hl, variablesAt, hsh, elemOf, run_underlying hp, hlies, hlb]
theorem ubstring_any (w : World) (base g : Nat) (l : List UInt8) (h : uBldAt w base g l) (h0 : l ≠ []) :
    Calls Tryz.prog 35 #[.pointer (some ⟨g, 0, none⟩)] w fun e w' => e = .returned (.string ⟨l.toArray⟩) ∧ Below base w w' := by
  obtain ⟨hbg, p, A, c, hg, hp, hown⟩ := h
  have hgl := heap_lt hg
  have hc1 : w.drew.cell? ⟨g, 1, none⟩ = some (.slice A l.length c) := cell_of_row w g 1 _ _ _ hg
  have hl0 : 0 < l.length := List.length_pos_iff.2 h0
  have hnc := hown.2.1
  have hcm := hown.2.2.1
  obtain ⟨b, o, cur, fr, rfl, hbb, hcur, hfr, hoc, hcx⟩ := hown.at_ (by omega)
  have hSD : (Builtin.unsafeSliceData_ #[65] 93 #[.slice (some ⟨b, o, none⟩) l.length c]).run Tryz.prog w.drew = .ok (.pointer (some ⟨b, o, none⟩)) w.drew :=
    Lib.run_unsafeSliceData_row _ _ _ _ _ _ (by omega)
  have hUS : (Builtin.unsafeString_ #[93, 3] 9 #[.pointer (some ⟨b, o, none⟩), .int .i64 l.length]).run Tryz.prog w.drew = .ok (.string ⟨l.toArray⟩) (w.drew.freeze ⟨b, o, none⟩ l.length) := by
    refine urun_unsafeString_at w.drew 93 3 9 5 Tryz.underlying93 (by kernel_rfl) b o cur.size (by have hg' : w.drew.heap[b]? = some (.cells cur 5 fr) := hcur; simp [World.shape?, hg']) l h0 (by omega) (by unfold maxLen at hcm; omega) ?_
    intro j x hx
    have hj : j < l.length := by
      rcases Nat.lt_or_ge j l.length with h | h
      · exact h
      · rw [List.getElem?_eq_none h] at hx; cases hx
    rw [addr_add]
    refine (cell_of_row w b (o + j) cur _ _ hcur).trans ?_
    rw [hcx j (by omega), u8s_get l hj, List.getD_eq_getElem?_getD, hx]
    rfl
  have hl63 : l.length ≤ 9223372036854775807 := by unfold maxLen at hcm; omega
  clear hcx hfr hoc hcur hown hg hp
  go_enter Tryz.func35, Tryz.ntmps35
  go_wp2
  go_region
  all_goals (go_wp2; go_ret; exact ⟨rfl, Lib.below_freeze (Below.drew (Below.refl base w)) (p := ⟨b, o, none⟩) hbb _⟩)
theorem uBldAt.below {w w' : World} {base g B : Nat} {l : List UInt8} (h : uBldAt w base g l) (hb : Below B w w') (hB : w.heap.size ≤ B) : uBldAt w' base g l := by
  obtain ⟨hbg, p, A, c, hg, hp, hown⟩ := h
  exact ⟨hbg, p, A, c, (hb.block _ (by have := heap_lt hg; omega)).trans hg, hp, hown.below hb hB⟩
theorem uBldAt.lt {w : World} {base g : Nat} {l : List UInt8} (h : uBldAt w base g l) : g < w.heap.size := by
  obtain ⟨_, p, A, c, hg, _⟩ := h
  exact heap_lt hg
/-- a builder that nothing was written to -/
def uBldNew (w : World) (g : Nat) : Prop := w.heap[g]? = some (.cells #[.pointer none, .slice none 0 0] 67 (0, 0))
theorem uBldNew.at_ {w : World} {g base : Nat} (h : uBldNew w g) (hb : base ≤ g) : uBldAt w base g [] := ⟨hb, _, none, 0, h, .inl rfl, Own.nil _ _ _ _⟩
theorem uwriteString_any (w : World) (base g : Nat) (l : List UInt8) (h : uBldAt w base g l) (s : ByteArray) (hlen : l.length + s.size ≤ 100000000) (hbase : base ≤ w.heap.size) :
    Calls Tryz.prog 32 #[.pointer (some ⟨g, 0, none⟩), .string s] w fun e w' => e = .returned (.tuple #[.int .i64 s.size, .nilIface]) ∧ uBldAt w' base g (l ++ s.data.toList) ∧ Below base w w' := by
  obtain ⟨hbg, p, A, c, hg, hp, hown⟩ := h
  have hgl := heap_lt hg
  have hne := hown.ne hg (by decide)
  obtain ⟨n, hn⟩ : ∃ n, n = l.length := ⟨_, rfl⟩
  rw [← hn] at hg hown hlen
  have HN := hid2 hn
  have h63 : n + s.size ≤ maxLen := by unfold maxLen; omega
  clear hn
  go_enter Tryz.func32, Tryz.ntmps32
  go_wp2_with (first
    | (go_at_call 56; refine (ucopyCheck_any w g _ p hg hp).mono ?_; rintro e w1 ⟨rfl, hg1, hgr1⟩; have hc1 : w1.cell? ⟨g, 1, none⟩ = some (.slice A n c) := cell_of_row w1 g 1 _ _ _ hg1; have hf1 : w1.frozen? ⟨g, 1, none⟩ = false := frozen_of_row w1 g 1 _ _ hg1; have hown1 := hown.grown hgr1 (fun b hb e => hne (hb.trans e)); clear hown)
    | (at_builtin; have _t := hown1; go_must ((with_reducible refine wpList_append_lit 5 (.int .u8 0) 1 1 Tryz.underlying65 uinfo_u8 rfl base A n c (u8s l) hown1 s.size (u8s s.data.toList) (.string s) (Src.str Tryz.underlying9) (u8s_one _) h63 (by omega) (by have := hgr1.size; omega) ?_ ?_); exact ⟨rfl, rfl⟩; intro A3 c3 w3 hown3 hgr3 hbl3; clear hown1; have hg3 := (hgr3.block g (by have := hgr1.size; omega) (fun e => hne e.symm)).trans hg1; have hc3 : w3.cell? ⟨g, 1, none⟩ = some (.slice A n c) := cell_of_row w3 g 1 _ _ _ hg3; have hf3 : w3.frozen? ⟨g, 1, none⟩ = false := frozen_of_row w3 g 1 _ _ hg3)))
  go_ret2
  have hb1 : Below base w w1 := (Below.refl base w).grown hgr1 hbase (fun k e => by injection e with e; omega)
  have hb3 : Below base w w3 := hb1.grown hgr3 (by have := hgr1.size; omega) (fun k e => (_t.block k e).1)
  refine ⟨rfl, ⟨hbg, _, A3, c3, ?_, .inr rfl, ?_⟩, hb3.setCell (p := ⟨g, 1, none⟩) (by exact hbg) _⟩
  · have := uheap_set1 _ hg3 (.slice A3 (n + s.size) c3)
    rw [List.length_append, toList_length]
    rw [HN.out] at this ⊢
    exact this
  · have h4 := hown3.setOther (p := ⟨g, 1, none⟩) (hown3.ne hg3 (by decide)) (.slice A3 (n + s.size) c3)
    rw [← u8s_append] at h4
    rw [List.length_append, toList_length]
    rw [HN.out] at h4 ⊢
    exact h4
theorem ubstring_new (w : World) (base g : Nat) (h : uBldNew w g) :
    Calls Tryz.prog 35 #[.pointer (some ⟨g, 0, none⟩)] w fun e w' => e = .returned (.string ⟨#[]⟩) ∧ Below base w w' := by
  have hgl := heap_lt h
  have hc1 : w.drew.cell? ⟨g, 1, none⟩ = some (.slice none 0 0) := cell_of_row w g 1 _ _ _ h
  have hSD : (Builtin.unsafeSliceData_ #[65] 93 #[.slice none 0 0]).run Tryz.prog w.drew = .ok (.pointer none) w.drew := Lib.run_unsafeSliceData_nil _ _ _ _ _
  have hUS : (Builtin.unsafeString_ #[93, 3] 9 #[.pointer none, .int .i64 0]).run Tryz.prog w.drew = .ok (.string ⟨#[]⟩) w.drew := Lib.run_unsafeString_none _ _ _ _ _
  clear h
  go_enter Tryz.func35, Tryz.ntmps35
  go_wp2
  go_region
  all_goals (go_wp2; go_ret; exact ⟨rfl, (Below.refl base w).drew⟩)
end Go.Proofs.YtjjpecggcjggpaaGreatDoor
/- A text's copy (strings.Clone). -/

namespace Go.Proofs.YtjjpecggcjggpaaGreatDoor
open Go.RowKit
set_option maxRecDepth 100000
theorem run_copy_str {P : Program} (w : World) (dT sT ty elem : TypeId) (g c : Nat) (cur : Array Value) (t : TypeId) (s : List UInt8)
    (hu : P.underlying dT = some (.slice elem)) (hs : (P.info? elem).map (·.size) = some 1) (hg : w.heap[g]? = some (.cells cur t (0, 0))) (hn : cur.size = s.length) :
    (Builtin.copy_ #[dT, sT] ty #[.slice (some ⟨g, 0, none⟩) s.length c, .string ⟨s.toArray⟩]).run P w = .ok (goInt s.length) (w.setRow g (u8s s).toArray) := by
  have hl : (u8s s).length = s.length := u8s_length s
  have hst := run_storeCells_at P g 0 t (u8s s) 0 cur w hg (by omega) (u8s_one s)
  simp only [Nat.add_zero, Nat.zero_add, List.take_zero, List.nil_append] at hst
  rw [List.drop_of_length_le (by rw [Array.length_toList]; omega), List.append_nil] at hst
  cases hq : P.info? elem with
  | none => simp [hq] at hs
  | some i =>
    have hi : i.size = 1 := by simpa [hq] using hs
    have hsz : (⟨s.toArray⟩ : ByteArray).size = s.length := by show s.toArray.size = _; simp
    have hcells : ((⟨s.toArray⟩ : ByteArray).data.toList.map fun x => Value.int .u8 (x.toNat : Int)) = u8s s := rfl
    simp [Builtin.copy_, run_underlying hu, Builtin.lenOf, Builtin.firstCells, sizeOf, typeInfo, hq, hi, hsz]
    rw [show (List.map (fun x => Value.int .u8 (x.toNat : Int)) s) = u8s s from rfl, List.take_of_length_le (by omega), hst]
    rfl
theorem wpList_copy_str {P : Program} {w : World} {s : List UInt8} {ops : Array Oper} {rest : List Oper} {a : Act} {Q : Exit → Act → World → Prop} {dst : Option Tmp} {tt dT sT : TypeId} {d x : Operand} {pos : String} {after : Array Edge}
    (elem : TypeId) (g c n : Nat) (hsn : s.length = n) (cur : Array Value) (t : TypeId)
    (hu : P.underlying dT = some (.slice elem)) (hs : (P.info? elem).map (·.size) = some 1) (hg : w.heap[g]? = some (.cells cur t (0, 0))) (hn : cur.size = n)
    (hdx : a.eval d = .slice (some ⟨g, 0, none⟩) n c ∧ a.eval x = .string (strB s))
    (h : wpList P ops Q rest (a.put dst (goInt n)) (w.setRow g (u8s s).toArray)) : wpList P ops Q (⟨dst, .call ⟨.builtin .copy, #[d, x], #[dT, sT]⟩, tt, pos, after, none⟩ :: rest) a w := by
  subst hsn
  refine wpList_plain rfl fun K hK => ?_
  have hrun := run_copy_str (P := P) w dT sT tt elem g c cur t s hu hs hg hn
  unfold Oper.wp
  simp [execOp, resolve, invoke, builtin, hdx.1, hdx.2, strB, hrun, Result.andThen]
  exact hK _ _ h
theorem made_row {w : World} {base g n : Nat} {t : TypeId} {xs : List Value} (h : w.ownsRow base t 1 (.slice (some ⟨g, 0, none⟩) n n) n xs) : ∃ cur, w.heap[g]? = some (.cells cur t (0, 0)) ∧ cur.size = n := by
  obtain ⟨hl, ⟨h1, _⟩ | ⟨g', cap, cur, e, hb, hg, hn, hm, hc, hx⟩⟩ := h
  · cases h1
  · cases e
    exact ⟨cur, hg, by omega⟩
theorem clone_run {w : World} {g n : Nat} {s : List UInt8} (hg : w.heap[g]? = some (.cells (u8s s).toArray 5 (0, 0))) (hn : n = s.length) (h0 : s ≠ []) (h63 : n ≤ 9223372036854775807) :
    (Builtin.unsafeString_ #[93, 3] 9 #[.pointer (some ⟨g, 0, none⟩), .int .i64 n]).run Tryz.prog w = .ok (.string ⟨s.toArray⟩) (w.freeze ⟨g, 0, none⟩ n) := by
  subst hn
  refine urun_unsafeString_at w 93 3 9 5 Tryz.underlying93 (by kernel_rfl) g 0 s.length (by simp [World.shape?, hg, u8s_length]) s h0 (by omega) h63 ?_
  intro j x hx
  have hj : j < s.length := (List.getElem?_eq_some_iff.1 hx).1
  rw [addr_add]
  refine (cell_of_row w g (0 + j) _ _ _ hg).trans ?_
  rw [Nat.zero_add, List.getElem?_toArray, u8s_get s hj, List.getD_eq_getElem?_getD, hx]
  rfl
set_option maxHeartbeats 1000000 in
theorem sclone_any (w : World) (s : List UInt8) (hl : s.length ≤ 1000000000) :
    Calls Tryz.prog 114 #[.string (strB s)] w fun e w' => e = .returned (.string (strB s)) ∧ Below w.heap.size w w' := by
  by_cases h0 : s = []
  · subst h0
    rw [show strB [] = ⟨#[]⟩ from rfl]
    go_enter Tryz.func114, Tryz.ntmps114
    go_wp2
    go_ret
    exact ⟨rfl, Below.refl _ _⟩
  · obtain ⟨i0, hi, hz0, hz1, hz2⟩ := info_parts uinfo_u8
    have hp : 0 < s.length := List.length_pos_iff.2 h0
    have hss : (strB s).size = s.length := strB_size s
    obtain ⟨n, hn⟩ : ∃ n, n = s.length := ⟨_, rfl⟩
    have hsi : ((strB s).size : Int) = (n : Int) := by omega
    have hn0 : (n : Int) ≠ 0 := by omega
    have hnp : (0 : Int) < n := by omega
    have hlim : (n : Int) ≤ 1000000000 := by omega
    obtain ⟨S, hS⟩ : ∃ S, S = strB s := ⟨_, rfl⟩
    rw [← hS] at hsi ⊢
    have HN := hid2 hn
    have HS := hid2 hS
    have H0 := hid2 h0
    clear hS hn hss hp h0 hl
    go_enter Tryz.func114, Tryz.ntmps114
    go_wp2_with (first
      | (refine wpList_make_full _ rfl (.tmp 8) (.tmp 8) 65 rfl w.heap.size 5 i0 (.int .u8 0) 1 Tryz.underlying65 hi hz0 hz1 .i64 .i64 _ _ n rfl rfl ?_ ?_ ?_ ?_ (Nat.le_refl _) ?_; (simp [hsi]); (simp [hsi]); (rw [hz2]; omega); (unfold maxLen; omega); intro w1 hown hgr; have hrow := made_row hown; obtain ⟨cur, hg1, hc1⟩ := hrow; have hb1 : Below w.heap.size w w1 := (Below.refl _ _).grown hgr (Nat.le_refl _) (fun k e => by cases e); clear hown hgr)
      | ((with_reducible refine wpList_copy_str (s := s) 5 w.heap.size n n HN.out.symm cur 5 Tryz.underlying65 (by kernel_rfl) hg1 hc1 ?_ ?_); (exact ⟨rfl, by rw [← HS.out]; rfl⟩); have hg2 := setRow_heap w1 w.heap.size cur (u8s s).toArray 5 (0, 0) hg1; have hb2 := below_setRow hb1 (Nat.le_refl _) (u8s s).toArray; have hUS := clone_run hg2 HN.out H0.out (by omega); obtain ⟨w2, hw2⟩ : ∃ w2, w2 = w1.setRow w.heap.size (u8s s).toArray := ⟨_, rfl⟩; rw [← hw2] at hg2 hb2 hUS ⊢; clear hw2 hg1 hb1 hc1))
    all_goals go_ret
    all_goals exact ⟨by rw [HS.out]; rfl, Lib.below_freeze hb2 (p := ⟨w.heap.size, 0, none⟩) (Nat.le_refl _) _⟩
end Go.Proofs.YtjjpecggcjggpaaGreatDoor
/- The first word of a line, and what stands behind it. Plain: no program is named. -/
namespace Go.Proofs.YtjjpecggcjggpaaGreatDoor
open Go.Lib
theorem words_head : ∀ (s : TT) {a : TT} {r : List TT}, wordsT s = a :: r → ∃ pre post, s = pre ++ a ++ post ∧ (∀ c ∈ pre, isB c = true) ∧ (post = [] ∨ ∃ b t, post = b :: t ∧ isB b = true) ∧ a ≠ [] ∧ ∀ c ∈ a, isB c = false
  | [], _, _, h => by cases h
  | c :: s, a, r, h => by
    cases hc : isB c with
    | true =>
      rw [wordsT_blank hc] at h
      obtain ⟨pre, post, h1, h2, h3, h4⟩ := words_head s h
      refine ⟨c :: pre, post, by rw [h1]; rfl, fun d hd => ?_, h3, h4⟩
      rcases List.mem_cons.1 hd with rfl | hd
      · exact hc
      · exact h2 d hd
    | false =>
      have hs : c :: s = ((c :: s).takeWhile fun d => !isB d) ++ (c :: s).dropWhile fun d => !isB d := (List.takeWhile_append_dropWhile).symm
      obtain ⟨a', ha'⟩ : ∃ a', a' = (c :: s).takeWhile fun d => !isB d := ⟨_, rfl⟩
      obtain ⟨post, hpost⟩ : ∃ p, p = (c :: s).dropWhile fun d => !isB d := ⟨_, rfl⟩
      rw [← ha', ← hpost] at hs
      have hne : a' ≠ [] := by
        rw [ha', List.takeWhile_cons, hc]
        simp
      have hfr : ∀ d ∈ a', isB d = false := fun d hd => by
        rw [ha'] at hd
        have := List.all_eq_true.1 (List.all_takeWhile (p := fun d => !isB d) (l := c :: s)) d hd
        simpa using this
      cases hp : post with
      | nil =>
        rw [hs, hp, List.append_nil, wordsT_one hne hfr] at h
        injection h with h1 h2
        subst h1
        exact ⟨[], [], by rw [hs, hp]; simp, by simp, .inl rfl, hne, hfr⟩
      | cons b t =>
        have hb : isB b = true := by
          have h0 : post ≠ [] := by rw [hp]; simp
          have := List.head_dropWhile_not (fun d => !isB d) (by rw [← hpost]; exact h0)
          have hh : ((c :: s).dropWhile fun d => !isB d).head? = some b := by rw [← hpost, hp]; rfl
          rw [List.head?_eq_some_head (by rw [← hpost]; exact h0)] at hh
          injection hh with hh
          rw [hh] at this
          simpa using this
        rw [hs, hp, wordsT_at hne hfr hb] at h
        injection h with h1 h2
        subst h1
        exact ⟨[], b :: t, by rw [hs, hp]; simp, by simp, .inr ⟨b, t, rfl, hb⟩, hne, hfr⟩
theorem dropWhile_all {p : UInt8 → Bool} : ∀ {a b : TT}, (∀ c ∈ a, p c = true) → (a ++ b).dropWhile p = b.dropWhile p
  | [], _, _ => rfl
  | c :: a, b, h => by
    rw [List.cons_append, List.dropWhile_cons, h c (by simp), if_pos rfl]
    exact dropWhile_all fun d hd => h d (by simp [hd])
theorem behind_at {pre a post : TT} (h1 : ∀ c ∈ pre, isB c = true) (h2 : post = [] ∨ ∃ b t, post = b :: t ∧ isB b = true) (h3 : a ≠ []) (h4 : ∀ c ∈ a, isB c = false) : behindT (pre ++ a ++ post) = post.drop 1 := by
  unfold behindT
  rw [List.append_assoc, dropWhile_all h1]
  have e1 : (a ++ post).dropWhile isB = a ++ post := by
    cases a with
    | nil => exact absurd rfl h3
    | cons c a => rw [List.cons_append, List.dropWhile_cons, h4 c (by simp)]; rfl
  rw [e1, dropWhile_all (p := fun c => !isB c) (fun c hc => by simp [h4 c hc])]
  rcases h2 with rfl | ⟨b, t, rfl, hb⟩
  · rfl
  · rw [List.dropWhile_cons, hb]
    rfl
/-- where the word 'text' stands, if it is the first one -/
theorem index_text {pre post : TT} (h1 : ∀ c ∈ pre, isB c = true) : Lib.index (pre ++ kText ++ post) kText = pre.length := by
  refine Lib.index_first (by simp) ?_ (fun j hj => ?_)
  · unfold Lib.occAt
    rw [List.append_assoc, List.drop_left]
    simp [List.isPrefixOf_iff_prefix]
  · unfold Lib.occAt
    have hd : (pre ++ kText ++ post).drop j = pre[j] :: (pre ++ kText ++ post).drop (j + 1) := by
      have hl : j < (pre ++ kText ++ post).length := by simp; omega
      rw [List.drop_eq_getElem_cons hl]
      congr 1
      rw [List.getElem_append_left (by simp; omega), List.getElem_append_left hj]
    rw [hd]
    have hb := h1 pre[j] (List.getElem_mem hj)
    have hne : ((116 : UInt8) == pre[j]) = false := by
      rw [beq_eq_false_iff_ne]
      intro e
      rw [← e] at hb
      revert hb
      decide
    simp [kText, List.isPrefixOf, hne]
end Go.Proofs.YtjjpecggcjggpaaGreatDoor
/- The tool's read: a line's command. -/
namespace Go.Proofs.YtjjpecggcjggpaaGreatDoor
open Go.RowKit Go.Shelf
set_option maxRecDepth 100000
theorem sclone2_any (w : World) (s : TT) (hl : s.length ≤ 1000000000) : Calls Tryz.prog 86 #[.string (strB s)] w fun e w' => e = .returned (.string (strB s)) ∧ Below w.heap.size w w' := by
  have h := sclone_any w s hl
  obtain ⟨S, hS⟩ : ∃ S, S = strB s := ⟨_, rfl⟩
  rw [← hS] at h ⊢
  have H := hid2 h
  clear h hS
  go_enter Tryz.func86, Tryz.ntmps86
  go_wp2_with (go_at_call 114; refine H.out.mono ?_; rintro e w1 ⟨rfl, hb⟩; have HB := hid2 hb; clear hb)
  go_ret
  exact ⟨rfl, HB.out⟩
theorem sindex2_any (w : World) (s t : TT) (hl : s.length ≤ 1000000000) (hM : MaxL w) : Calls Tryz.prog 85 #[.string (strB s), .string (strB t)] w fun e w' => e = .returned (.int .i64 (Lib.index s t)) ∧ w' = w := by
  obtain ⟨m, hm⟩ := hM
  have h := Any.strings_Index { Tryz.tlIndex with } (strB s) (strB t) m w (by rw [strB_size]; omega) hm
  rw [strB_list, strB_list] at h
  exact h
/-- a command in block g -/
def CmdBox (w : World) (base g : Nat) (c : CmdE) : Prop := ∃ A cA, w.heap[g]? = some (.cells #[.slice A c.ws.length cA, .string (strB c.rest)] 110 (0, 0)) ∧ base ≤ g ∧ Own w base 9 1 A c.ws.length cA (strV c.ws)
/-- what read answers -/
def ReadM (w : World) (e : Ending) (w' : World) : Option (Option CmdE) → Prop
  | none => e = .returned (.tuple #[.pointer none, .bool false])
  | some none => e = .returned (.tuple #[.pointer none, .bool true])
  | some (some c) => ∃ g, e = .returned (.tuple #[.pointer (some ⟨g, 0, none⟩), .bool true]) ∧ CmdBox w' w.heap.size g c
def ReadPost (w : World) (s : TT) (e : Ending) (w' : World) : Prop := Below w.heap.size w w' ∧ ReadM w e w' (readC mayB s)
theorem run_index_txt (s : ByteArray) (i : Nat) (x : Int) (hx : x = i) (h : i < s.size) (w : World) : (Instr.index 9 (.string s) (.int .i64 x)).run Tryz.prog w = .ok (.int .u8 (s.data.toList.getD i 0).toNat) w := by
  subst hx
  rw [run_index_string w 9 s .i64 i Tryz.underlying9, dif_pos ⟨by omega, by omega⟩]
  have e : s[(i : Int).toNat]'(by omega) = s.data.toList.getD i 0 := by
    rw [List.getD_eq_getElem?_getD, List.getElem?_eq_getElem (by rw [Array.length_toList]; exact h)]
    simp [ByteArray.getElem_eq_getElem_data]
  rw [e]
theorem takes_two (a : TT) : (takesT a).2 = true → 2 ≤ (takesT a).1 := by
  unfold takesT
  repeat' split
  all_goals simp
theorem text_box {w w1 : World} {b o c N : Nat} {L : List Value} {T : ByteArray} {ps : TT} (hb : Below w.heap.size w w1) (ho : Own w1 w.heap.size 9 1 (some ⟨b, o, none⟩) N c L) (hN : 0 < N) (hL : L[0]? = some (.string ⟨#[116, 101, 120, 116]⟩)) (hT : T = strB ps) :
    CmdBox (w1.alloc (.cells #[.slice (some ⟨b, o, none⟩) 1 c, .string T] 110)) w.heap.size w1.heap.size ⟨[kText], ps⟩ := by
  subst hT
  refine ⟨some ⟨b, o, none⟩, c, heap_alloc_new w1 _, hb.size, ?_⟩
  have h1 := ho.take (k := 1) (by omega)
  have h2 : L.take (1 * 1) = strV [kText] := by
    cases L with
    | nil => cases hL
    | cons x L =>
      injection hL with hL
      subst hL
      rfl
  rw [h2] at h1
  exact h1.alloc _
theorem read_box {w w1 : World} {A : Option Addr} {c N : Nat} {L : List Value} {h : TT} {r : List TT} (hb : Below w.heap.size w w1) (ho : Own w1 w.heap.size 9 1 A N c L) (hN : N = r.length + 1) (hL : L = strV (h :: r)) :
    CmdBox (w1.alloc (.cells #[.slice A N c, .string ⟨#[]⟩] 110)) w.heap.size w1.heap.size ⟨h :: r, []⟩ := by
  subst hN hL
  exact ⟨A, c, heap_alloc_new w1 _, hb.size, ho.alloc _⟩
set_option maxHeartbeats 2000000 in
theorem read_any (w : World) (s : TT) (hs : s.length ≤ 1000000) (hM : MaxL w) : Calls Tryz.prog 67 #[.string (strB s)] w (ReadPost w s) := by
  have cW := words_any w s (by omega)
  have cI := fun (W : World) (hb : Below w.heap.size w W) => sindex2_any W s kText (by omega) (hM.on hb)
  have hwl := wordsT_len s
  obtain ⟨S, hS⟩ : ∃ S, S = strB s := ⟨_, rfl⟩
  rw [← hS] at cW cI ⊢
  obtain ⟨post, hpost⟩ : ∃ p, p = readC mayB s := ⟨_, rfl⟩
  unfold ReadPost
  rw [← hpost]
  have CI := hid2 cI
  cases hw : wordsT s with
  | nil =>
    have hr : readC mayB s = some none := by rw [readC_eq, hw]; rfl
    rw [hr] at hpost
    subst hpost
    rw [hw] at cW
    have CW := hid2 cW
    clear cW cI hM hs hwl hS hw hr
    go_enter Tryz.func67, Tryz.ntmps67
    go_wp2_with (go_at_call 84; refine CW.out.mono ?_; rintro e w1 ⟨A, c, rfl, ho, hb⟩; have HB := hid2 hb; clear ho hb)
    go_ret2
    exact ⟨HB.out, rfl⟩
  | cons a r =>
    obtain ⟨pre, pos, hsp, hpre, hpos, hane, hafr⟩ := words_head s hw
    have hal : a.length ≤ 1000000 := (Nat.le_trans (wordsT_mem (s := s) (x := a) (by rw [hw]; simp)).2.2 hs)
    obtain ⟨a0, a1, rfl⟩ : ∃ a0 a1, a = a0 :: a1 := by cases a with
      | nil => exact absurd rfl hane
      | cons x y => exact ⟨x, y, rfl⟩
    rw [hw] at cW hwl
    obtain ⟨n, hn⟩ : ∃ n, n = r.length := ⟨_, rfl⟩
    rw [List.length_cons, ← hn] at cW hwl
    have hn1 : (n : Int) + 1 ≠ 0 := by omega
    have hn2 : (0 : Int) < (n : Int) + 1 := by omega
    obtain ⟨N, hN⟩ : ∃ N, N = n + 1 := ⟨_, rfl⟩
    rw [← hN] at cW hwl
    have hN0 : (N : Int) ≠ 0 := by omega
    have hN0b : ((N : Int) == 0) = false := by rw [beq_eq_false_iff_ne]; omega
    have hN1 : (0 : Int) < N := by omega
    have hNl : (N : Int) ≤ 1000001 := by omega
    have hixA : ∀ (l : TT) (wx : World), (Instr.index 9 (.string (strB (a0 :: l))) (.int .i64 0)).run Tryz.prog wx = .ok (.int .u8 a0.toNat) wx := fun l wx => by
      have := run_index_txt (strB (a0 :: l)) 0 0 rfl (by rw [strB_size]; simp) wx
      rw [strB_list] at this
      exact this
    have hix := hixA a1
    have htn := toList_strBT (a0 :: a1)
    obtain ⟨A0, hA0⟩ : ∃ A0, A0 = strB (a0 :: a1) := ⟨_, rfl⟩
    have hL0 : (strV ((a0 :: a1) :: r))[0]? = some (.string A0) := by rw [hA0]; rfl
    obtain ⟨L, hL⟩ : ∃ L, L = strV ((a0 :: a1) :: r) := ⟨_, rfl⟩
    rw [← hL] at hL0
    rw [← hL] at cW
    rw [← hA0] at hix htn
    have HL0 := hid2 hL0
    have HNP : Hid2 (0 < N) := hid2 (by omega)
    by_cases h35 : a0 = 35
    · have hr : readC mayB s = some none := by rw [readC_eq, hw, h35]; rfl
      rw [hr] at hpost
      subst hpost
      subst h35
      have CW := hid2 cW
      clear cW cI hM hs hwl hS hw hr hL hL0 hA0 htn hsp hpre hpos hane hafr hal hn hn1 hn2 hN hixA
      go_enter Tryz.func67, Tryz.ntmps67
      go_wp2_with (go_at_call 84; refine CW.out.mono ?_; rintro e w1 ⟨A, c, rfl, ho, hb⟩; have HB := hid2 hb; have HO := hid2 ho; obtain ⟨b, o, rfl, hc⟩ := ho.rd.2 HNP.out; have hc0 : w1.cell? ⟨b, o, none⟩ = some (.string A0) := hc 0 _ HL0.out; clear ho hb hc)
      go_ret2
      exact ⟨HB.out, rfl⟩
    · have hp35 : passedW ((a0 :: a1) :: r) = false := by simp [passedW, h35]
      have h35i : (a0.toNat : Int) ≠ 35 := fun e => h35 (UInt8.toNat_inj.1 (by have : (35 : UInt8).toNat = 35 := rfl; omega))
      have h35b : ((a0.toNat : Int) == 35) = false := by rw [beq_eq_false_iff_ne]; exact h35i
      obtain ⟨k0, hk0⟩ : ∃ k, k = a0.toNat := ⟨_, rfl⟩
      rw [← hk0] at hix h35i h35b
      by_cases htx : a0 :: a1 = kText
      · have hrc : post = some (some ⟨[kText], behindT s⟩) := by
          rw [hpost, readC_eq, hw, hp35, cond_false, show okW mayB ((a0 :: a1) :: r) = true by rw [htx]; simp [okW], cond_true, cmdW, hw]
          simp only
          rw [if_pos htx, htx]
        rw [htx] at hsp hA0 hafr hane
        have hbe : behindT s = pos.drop 1 := by rw [hsp]; exact behind_at hpre hpos hane hafr
        have hidx : Lib.index s kText = (pre.length : Int) := by rw [hsp]; exact index_text hpre
        have hlen : s.length = pre.length + 4 + pos.length := by rw [hsp]; simp; omega
        obtain ⟨p, hp⟩ : ∃ p, p = pre.length := ⟨_, rfl⟩
        have hex1 : S.extract (p + 4) S.size = strB pos := bytes_ext (by
          rw [extract_list, hS, strB_list, strB_list, strB_size, hlen, hp, hsp, show pre ++ kText ++ pos = (pre ++ kText) ++ pos from rfl, List.drop_left' (by simp)]
          exact List.take_of_length_le (by omega))
        have hSs : S.size = p + 4 + pos.length := by rw [hS, strB_size, hlen, hp]
        have hrc2 : post = some (some ⟨[kText], pos.drop 1⟩) := by rw [hrc, hbe]
        rw [hidx, ← hp] at cI
        have cK := fun (W : World) => sclone2_any W (pos.drop 1) (by rw [List.length_drop]; omega)
        have hRs : (strB pos).size = pos.length := strB_size pos
        have hex2 : (strB pos).extract (min 1 pos.length) (strB pos).size = strB (pos.drop 1) := bytes_ext (by
          rw [extract_list, strB_list, strB_list, hRs]
          rcases pos with _ | ⟨x, y⟩
          · rfl
          · simp)
        obtain ⟨R, hR⟩ : ∃ R, R = strB pos := ⟨_, rfl⟩
        obtain ⟨T, hT⟩ : ∃ T, T = strB (pos.drop 1) := ⟨_, rfl⟩
        obtain ⟨q, hq⟩ : ∃ q, q = pos.length := ⟨_, rfl⟩
        rw [← hR] at hex1 hex2 hRs
        rw [← hT] at hex2 cK
        rw [← hq] at hSs hex2 hRs
        have hA0' : A0 = ⟨#[116, 101, 120, 116]⟩ := hA0
        subst hA0'
        have CI := hid2 cI
        have CK := hid2 cK
        have CW := hid2 cW
        have HTT := hid2 hT
        have HGO := hid2 hrc2
        have hlim : (p : Int) + 4 + q ≤ 1000000 := by omega
        have hSi : (S.size : Int) = (p : Int) + 4 + q := by omega
        have hw4 : IntKind.i64.wrap ((p : Int) + 4) = (p : Int) + 4 := IntWalk.i64_in _ (by constructor <;> omega)
        have hp4 : ¬ (S.size : Int) < (p : Int) + 4 := by omega
        have hp0 : (0 : Int) ≤ (p : Int) + 4 := by omega
        have HX := hid2 hex2
        clear cW cI hM hs hwl hS hw hL hL0 hA0 htn hsp hpre hpos hane hafr hal hn hn1 hn2 hN hixA hp35 htx h35 hk0 hpost hrc hrc2 hbe hidx hlen hp hR hT hq cK hex2
        have hx1 : S.extract (p + 4) (p + 4 + q) = R := by rw [← hSs]; exact hex1
        have hx2 : R.extract (min (1 : Int) (q : Int)).toNat q = T := by
          have h := HX.out
          rw [hRs] at h
          rw [← h]
          congr 1
          omega
        clear hex1
        go_enter Tryz.func67, Tryz.ntmps67
        go_wp2_with (first
          | (go_at_call 84; refine CW.out.mono ?_; rintro e w1 ⟨A, c, rfl, ho, hb⟩; have HB := hid2 hb; have HO := hid2 ho; obtain ⟨b, o, rfl, hc⟩ := ho.rd.2 HNP.out; have hc0 : w1.cell? ⟨b, o, none⟩ = some (.string ⟨#[116, 101, 120, 116]⟩) := hc 0 _ HL0.out; have hcap : (1 : Int) ≤ c := (by have := ho.2.1; have := HNP.out; omega); have hcap2 : ¬ (c : Int) < 1 := (by omega); clear ho hb hc)
          | (go_at_call 85; refine (CI.out _ HB.out).mono ?_; rintro e w2 ⟨rfl, rfl⟩))
        go_region_with (go_at_call 86; refine (CK.out _).mono ?_; rintro e w3 ⟨rfl, hb3⟩)
        all_goals go_wp2
        all_goals go_ret2
        have hbB := HB.out.drew.trans (hb3.mono HB.out.size)
        refine ⟨hbB.alloc hbB.size _, ?_⟩
        rw [HGO.out]
        exact ⟨_, rfl, text_box hbB (HO.out.drew.below hb3 (Nat.le_refl _)) HNP.out HL0.out HTT.out⟩
      · have hne : (A0.toList == [116, 101, 120, 116]) = false := by rw [htn, beq_eq_false_iff_ne]; exact htx
        have hne2 : ¬ A0.toList = [116, 101, 120, 116] := by rw [htn]; exact htx
        have cT := fun (W : World) => takes_any W (a0 :: a1)
        rw [← hA0] at cT
        have hok : okW mayB ((a0 :: a1) :: r) = (decide ((takesT (a0 :: a1)).1 = N) && decide ((takesT (a0 :: a1)).1 ≠ 0) && (!(takesT (a0 :: a1)).2 || mayB (r.headD []))) := by
          rw [hN, hn, okW, decide_eq_false htx, Bool.false_or]
        have hrd : post = if okW mayB ((a0 :: a1) :: r) = true then some (some ⟨(a0 :: a1) :: r, []⟩) else none := by
          rw [hpost, readC_eq, hw, hp35, cond_false, cmdW, hw]
          simp only
          rw [if_neg htx]
          cases okW mayB ((a0 :: a1) :: r) <;> rfl
        have hb2 : (takesT (a0 :: a1)).2 = true → 2 ≤ (takesT (a0 :: a1)).1 := takes_two (a0 :: a1)
        obtain ⟨nT, hnT⟩ : ∃ nT, nT = (takesT (a0 :: a1)).1 := ⟨_, rfl⟩
        obtain ⟨bT, hbT⟩ : ∃ bT, bT = (takesT (a0 :: a1)).2 := ⟨_, rfl⟩
        rw [← hnT] at cT hok hb2
        rw [← hbT] at cT hok hb2
        have CT := hid2 cT
        have CW := hid2 cW
        have HRD := hid2 hrd
        have HLL := hid2 hL
        have HNN := hid2 (hN.trans (by rw [hn] : n + 1 = r.length + 1))
        by_cases h1 : nT = N ∧ nT ≠ 0
        · obtain ⟨h1a, h1b⟩ := h1
          subst h1a
          have hT1 : ((nT : Int) == 0) = false := hN0b
          rw [decide_eq_true rfl, decide_eq_true h1b, Bool.true_and, Bool.true_and] at hok
          cases bT with
          | false =>
            have hgo : post = some (some ⟨(a0 :: a1) :: r, []⟩) := by rw [hrd, hok]; rfl
            have HGO := hid2 hgo
            clear cW cI hM hs hwl hS hw hL hL0 hA0 htn hsp hpre hpos hane hafr hal hn hn1 hn2 hN hixA hok hrd hb2 hnT hbT cT hp35 htx h35 hk0 hpost hgo h1b
            go_enter Tryz.func67, Tryz.ntmps67
            go_wp2_with (first
              | (go_at_call 84; refine CW.out.mono ?_; rintro e w1 ⟨A, c, rfl, ho, hb⟩; have HB := hid2 hb; have HO := hid2 ho; obtain ⟨b, o, rfl, hc⟩ := ho.rd.2 HNP.out; have hc0 : w1.cell? ⟨b, o, none⟩ = some (.string A0) := hc 0 _ HL0.out; clear ho hb hc)
              | (go_at_call 87; refine (CT.out _).mono ?_; rintro e w2 ⟨rfl, rfl⟩))
            go_ret2
            refine ⟨HB.out.alloc HB.out.size _, ?_⟩
            rw [HGO.out]
            exact ⟨_, rfl, read_box HB.out HO.out HNN.out HLL.out⟩
          | true =>
            obtain ⟨x1, r1, rfl⟩ : ∃ x1 r1, r = x1 :: r1 := by
              cases r with
              | nil => simp at hn; have := hb2 rfl; omega
              | cons x y => exact ⟨x, y, rfl⟩
            have hx1 : x1.length ≤ 1000000 := Nat.le_trans (wordsT_mem (s := s) (x := x1) (by rw [hw]; simp)).2.2 hs
            have cP := fun (W : World) => may_any W (strB x1) (by rw [strB_size]; exact hx1)
            rw [strB_list] at cP
            obtain ⟨A1, hA1⟩ : ∃ A1, A1 = strB x1 := ⟨_, rfl⟩
            have hL1 : (strV ((a0 :: a1) :: x1 :: r1))[1]? = some (.string A1) := by rw [hA1]; rfl
            rw [← hA1] at cP
            rw [← hL] at hL1
            have HL1 := hid2 hL1
            have hn2' : (1 : Int) < nT := by have := hb2 rfl; omega
            simp only [List.headD_cons, Bool.not_true, Bool.false_or] at hok
            obtain ⟨m, hm⟩ : ∃ m, m = mayB x1 := ⟨_, rfl⟩
            rw [← hm] at cP hok
            have CP := hid2 cP
            cases m with
            | true =>
              have hgo : post = some (some ⟨(a0 :: a1) :: x1 :: r1, []⟩) := by rw [hrd, hok]; rfl
              have HGO := hid2 hgo
              clear cW cI hM hs hwl hS hw hL hL0 hA0 htn hsp hpre hpos hane hafr hal hn hn1 hn2 hN hixA hok hrd hb2 hnT hbT cT hp35 htx h35 hk0 hpost hgo h1b hL1 hA1 cP hm hx1
              go_enter Tryz.func67, Tryz.ntmps67
              go_wp2_with (first
                | (go_at_call 84; refine CW.out.mono ?_; rintro e w1 ⟨A, c, rfl, ho, hb⟩; have HB := hid2 hb; have HO := hid2 ho; obtain ⟨b, o, rfl, hc⟩ := ho.rd.2 HNP.out; have hc0 : w1.cell? ⟨b, o, none⟩ = some (.string A0) := hc 0 _ HL0.out; have hc1 : w1.cell? ⟨b, o + 1, none⟩ = some (.string A1) := hc 1 _ HL1.out; clear ho hb hc)
                | (go_at_call 87; refine (CT.out _).mono ?_; rintro e w2 ⟨rfl, rfl⟩)
                | (go_at_call 23; refine (CP.out _).mono ?_; rintro e w3 ⟨rfl, hb3⟩; have HB3 := hid2 (HB.out.trans (hb3.mono HB.out.size)); have HO3 := hid2 (HO.out.below hb3 (Nat.le_refl _)); clear hb3))
              go_ret2
              refine ⟨HB3.out.alloc HB3.out.size _, ?_⟩
              rw [HGO.out]
              exact ⟨_, rfl, read_box HB3.out HO3.out HNN.out HLL.out⟩
            | false =>
              have hgo : post = none := by rw [hrd, hok]; rfl
              have HGO := hid2 hgo
              clear cW cI hM hs hwl hS hw hL hL0 hA0 htn hsp hpre hpos hane hafr hal hn hn1 hn2 hN hixA hok hrd hb2 hnT hbT cT hp35 htx h35 hk0 hpost hgo h1b hL1 hA1 cP hm hx1
              go_enter Tryz.func67, Tryz.ntmps67
              go_wp2_with (first
                | (go_at_call 84; refine CW.out.mono ?_; rintro e w1 ⟨A, c, rfl, ho, hb⟩; have HB := hid2 hb; have HO := hid2 ho; obtain ⟨b, o, rfl, hc⟩ := ho.rd.2 HNP.out; have hc0 : w1.cell? ⟨b, o, none⟩ = some (.string A0) := hc 0 _ HL0.out; have hc1 : w1.cell? ⟨b, o + 1, none⟩ = some (.string A1) := hc 1 _ HL1.out; clear ho hb hc)
                | (go_at_call 87; refine (CT.out _).mono ?_; rintro e w2 ⟨rfl, rfl⟩)
                | (go_at_call 23; refine (CP.out _).mono ?_; rintro e w3 ⟨rfl, hb3⟩; have HB3 := hid2 (HB.out.trans (hb3.mono HB.out.size)); clear hb3))
              go_ret2
              refine ⟨HB3.out, ?_⟩
              rw [HGO.out]
              unfold ReadM
              rfl
        · have hgo : post = none := by
            rw [hrd, hok]
            rw [not_and] at h1
            by_cases h2 : nT = N
            · have : nT = 0 := by have := h1 h2; omega
              simp [this]
            · simp [h2]
          have HGO := hid2 hgo
          clear cI hM hs hwl hS hw hL hL0 hA0 htn hsp hpre hpos hane hafr hal hn hn1 hn2 hN hixA hok hrd hb2 hnT hbT cT hp35 htx h35 hk0 hpost hgo cW
          by_cases h2 : nT = N
          · subst h2
            exact absurd ⟨rfl, by omega⟩ h1
          · have h2i : (nT : Int) ≠ N := by omega
            have h2b : ((nT : Int) == N) = false := by rw [beq_eq_false_iff_ne]; omega
            clear h1
            go_enter Tryz.func67, Tryz.ntmps67
            go_wp2_with (first
              | (go_at_call 84; refine CW.out.mono ?_; rintro e w1 ⟨A, c, rfl, ho, hb⟩; have HB := hid2 hb; have HO := hid2 ho; obtain ⟨b, o, rfl, hc⟩ := ho.rd.2 HNP.out; have hc0 : w1.cell? ⟨b, o, none⟩ = some (.string A0) := hc 0 _ HL0.out; clear ho hb hc)
              | (go_at_call 87; refine (CT.out _).mono ?_; rintro e w2 ⟨rfl, rfl⟩))
            go_ret2
            refine ⟨HB.out, ?_⟩
            rw [HGO.out]
            unfold ReadM
            rfl
end Go.Proofs.YtjjpecggcjggpaaGreatDoor
/- The tool's commands, and Check. -/
namespace Go.Proofs.YtjjpecggcjggpaaGreatDoor
open Go.RowKit
set_option maxRecDepth 100000
theorem badL_at {may : TT → Bool} : ∀ {l : List TT} {i k : Nat} {s : TT}, (∀ (j : Nat) (x : TT), j < i → l[j]? = some x → readC may x ≠ none) → l[i]? = some s → readC may s = none → badL may l k = (3, k + i + 1)
  | [], _, _, _, _, h, _ => by cases h
  | x :: l, 0, k, s, _, h, hn => by
    cases h
    rw [badL, hn]
  | x :: l, i + 1, k, s, hb, h, hn => by
    have h0 := hb 0 x (by omega) rfl
    have ih := badL_at (k := k + 1) (i := i) (s := s) (fun j y hj hy => hb (j + 1) y (by omega) (by simpa using hy)) (by simpa using h) hn
    cases hx : readC may x with
    | none => exact absurd hx h0
    | some o =>
      rw [badL, hx]
      simp only
      rw [ih]
      congr 1
      omega
theorem badL_no {may : TT → Bool} : ∀ {l : List TT} {k : Nat}, (∀ (j : Nat) (x : TT), l[j]? = some x → readC may x ≠ none) → badL may l k = (0, 0)
  | [], _, _ => rfl
  | x :: l, k, hb => by
    have h0 := hb 0 x rfl
    have ih := badL_no (k := k + 1) fun j y hy => hb (j + 1) y (by simpa using hy)
    cases hx : readC may x with
    | none => exact absurd hx h0
    | some o =>
      rw [badL, hx]
      exact ih
theorem cmdsOf_snoc {may : TT → Bool} {l : List TT} {i : Nat} {s : TT} (h : l[i]? = some s) : cmdsOf may (l.take (i + 1)) = cmdsOf may (l.take i) ++ (match readC may s with | some (some c) => [c] | _ => []) := by
  rw [List.take_add_one, h, Option.toList_some, cmdsOf_append]
  congr 1
/-- a command as it lies in a row: where its words lie -/
structure TCmd where
  A : Option Addr
  cA : Nat
  c : CmdE
def cmdsV (X : List TCmd) : List Value := X.flatMap fun x => [.slice x.A x.c.ws.length x.cA, .string (strB x.c.rest)]
theorem cmdsV_snoc (X : List TCmd) (x : TCmd) : cmdsV X ++ [.slice x.A x.c.ws.length x.cA, .string (strB x.c.rest)] = cmdsV (X ++ [x]) := by simp [cmdsV]
theorem cmdsV_len : ∀ X : List TCmd, (cmdsV X).length = X.length * 2
  | [] => rfl
  | x :: X => by
    have := cmdsV_len X
    simp only [cmdsV, List.flatMap_cons, List.length_append, List.length_cons, List.length_nil] at this ⊢
    omega
structure CmdsAt (w : World) (base : Nat) (A : Option Addr) (c : Nat) (X : List TCmd) : Prop where
  row : Own w base 110 2 A X.length c (cmdsV X)
  words : ∀ x ∈ X, Own w base 9 1 x.A x.c.ws.length x.cA (strV x.c.ws)
theorem CmdsAt.below {w w' : World} {base c : Nat} {A : Option Addr} {X : List TCmd} (h : CmdsAt w base A c X) (hb : Below w.heap.size w w') : CmdsAt w' base A c X := ⟨h.row.below hb (Nat.le_refl _), fun x hx => (h.words x hx).below hb (Nat.le_refl _)⟩
theorem CmdsAt.mono {w : World} {base base' c : Nat} {A : Option Addr} {X : List TCmd} (h : CmdsAt w base A c X) (hb : base' ≤ base) : CmdsAt w base' A c X := ⟨h.row.mono hb, fun x hx => (h.words x hx).mono hb⟩
theorem Own.apart {w : World} {b1 b2 s1 s2 n m c d : Nat} {t u : TypeId} {A B : Option Addr} {xs ys : List Value} (h : Own w b1 t s1 A n c xs) (k : Own w b2 u s2 B m d ys) (hne : t ≠ u) : ∀ b, blockOf A = some b → some b ≠ blockOf B := by
  intro b hb e
  obtain ⟨_, _, cur, fr, h1⟩ := h.block b hb
  obtain ⟨_, _, cur2, fr2, h2⟩ := k.block b e.symm
  rw [h1] at h2
  injection h2 with h2
  injection h2 with _ h2
  exact hne h2
theorem info_cmd : (Tryz.prog.info? 110).map (fun i => (i.zero, i.size, i.bytes)) = some (some (.agg #[.slice none 0 0, .string ⟨#[]⟩]), 2, 40) := by kernel_rfl
theorem results_tmp3T {fn : Func} {t u v : Tmp} (h : fn.results = #[.tmp t, .tmp u, .tmp v]) (tmps : Array Value) (P : Program) (w : World) :
    (results fn tmps).run P w = .ok (.tuple #[tmps.getD t undef, tmps.getD u undef, tmps.getD v undef]) w := by
  simp [results, h]
/-- what commands answers -/
def CmdsPost (w : World) (s : TT) (e : Ending) (w' : World) : Prop := ∃ (A : Option Addr) (c : Nat) (X : List TCmd), e = .returned (.tuple #[.slice A X.length c, .int .i64 (checkT mayB s).1, .int .i64 (checkT mayB s).2]) ∧ CmdsAt w' w.heap.size A c X ∧ X.map (·.c) = (cmdsT mayB s).1 ∧ Below w.heap.size w w'
theorem CmdsPost.no {w w' : World} {s : TT} {a b : Nat} (h : checkT mayB s = (a, b)) (ha : a ≠ 0) (hb : Below w.heap.size w w') : CmdsPost w s (.returned (.tuple #[.slice none 0 0, .int .i64 a, .int .i64 b])) w' := by
  refine ⟨none, 0, [], by rw [h]; rfl, ⟨Own.nil _ _ _ _, fun x hx => by cases hx⟩, ?_, hb⟩
  rw [cmdsT_eq, h, if_neg ha]
  rfl
theorem one_cmd {x y : Value} (h1 : x.oneCell' = true) (h2 : y.oneCell' = true) : ∀ v ∈ [x, y], v.oneCell' = true := fun v hv => by
  simp at hv
  rcases hv with rfl | rfl
  · exact h1
  · exact h2
theorem cmds_more {w3 : World} {base m c3 nn cg : Nat} {A3 Ag : Option Addr} {X : List TCmd} {cm : CmdE} {V : List Value} {RR : ByteArray} (h : Own w3 base 110 2 A3 (m + 1) c3 (V ++ [.slice Ag nn cg, .string RR])) (hm : m = X.length) (hV : V = cmdsV X) (hn : nn = cm.ws.length) (hR : RR = strB cm.rest)
    (hX : ∀ x ∈ X, Own w3 base 9 1 x.A x.c.ws.length x.cA (strV x.c.ws)) (hc : Own w3 base 9 1 Ag cm.ws.length cg (strV cm.ws)) : CmdsAt w3 base A3 c3 (X ++ [⟨Ag, cg, cm⟩]) := by
  subst hm hV hn hR
  refine ⟨?_, fun x hx => ?_⟩
  · rw [List.length_append, ← cmdsV_snoc]
    exact h
  · rcases List.mem_append.1 hx with hx | hx
    · exact hX x hx
    · rw [List.mem_singleton] at hx
      subst hx
      exact hc
theorem keep_words {w2 w3 : World} {o : Obj} {base m c1 : Nat} {A1 : Option Addr} {V : List Value} (hg : (w2.alloc o).grownBy w3 (blockOf A1)) (h1 : Own w2 base 110 2 A1 m c1 V) : ∀ (base2 : Nat) (A : Option Addr) (n c : Nat) (xs : List Value), Own w2 base2 9 1 A n c xs → Own w3 base2 9 1 A n c xs :=
  fun _ _ _ _ _ h => (h.alloc o).grown hg (Own.apart (h.alloc o) (h1.alloc o) (by decide))
set_option maxHeartbeats 4000000 in
theorem commands_any (w : World) (s : TT) (hs : s.length ≤ 1000000) (hM : MaxL w) : Calls Tryz.prog 43 #[.string (strB s)] w (CmdsPost w s) := by
  have cL := lines_any w s (by omega) hM
  have hlen := linesT_len s
  have hle : ∀ x ∈ linesT s, x.length ≤ 1000000 := fun x hx => Nat.le_trans (linesT_le hx) hs
  obtain ⟨ls, hls⟩ : ∃ l, l = linesT s := ⟨_, rfl⟩
  obtain ⟨n, hn⟩ : ∃ n, n = ls.length := ⟨_, rfl⟩
  obtain ⟨S, hS⟩ : ∃ S, S = strB s := ⟨_, rfl⟩
  have hSs : S.size = s.length := by rw [hS, strB_size]
  rw [← hls, ← hn] at cL hlen
  rw [← hls] at hle
  rw [← hS] at cL ⊢
  have CL := hid2 cL
  have HM := hid2 hM
  have HLS := hid2 hls
  have HN := hid2 hn
  have HLE := hid2 hle
  have hni : (n : Int) ≤ 1000001 := by omega
  by_cases hbig : 65536 < s.length ∨ 400 < n
  · have hck : checkT mayB s = (6, 0) := by rw [checkT, if_pos (by rw [← hls, ← hn]; exact hbig)]
    have HCK := hid2 hck
    clear cL hM hlen hle hls hn hS hs hck
    by_cases h6 : 65536 < s.length
    · have h6i : (65536 : Int) < S.size := by omega
      clear hSs hbig h6
      go_enter Tryz.func43, Tryz.ntmps43
      go_wp2_with (go_at_call 66; refine CL.out.mono ?_; rintro e w1 ⟨A, c, rfl, ho, hb⟩; have HB := hid2 hb; clear ho hb)
      ((try simp only [Exit.inBlock, Exit.then]); refine bodyPost_ret (results_tmp3T rfl _ _ _) rfl ?_)
      exact CmdsPost.no HCK.out (by decide) HB.out
    · have h6i : ¬ (65536 : Int) < S.size := by omega
      have h4i : (400 : Int) < n := by omega
      clear hSs hbig h6
      go_enter Tryz.func43, Tryz.ntmps43
      go_wp2_with (go_at_call 66; refine CL.out.mono ?_; rintro e w1 ⟨A, c, rfl, ho, hb⟩; have HB := hid2 hb; clear ho hb)
      ((try simp only [Exit.inBlock, Exit.then]); refine bodyPost_ret (results_tmp3T rfl _ _ _) rfl ?_)
      exact CmdsPost.no HCK.out (by decide) HB.out
  · have hck : checkT mayB s = badL mayB ls 0 := by rw [checkT, if_neg (by rw [← hls, ← hn]; exact hbig), ← hls]
    have HCK := hid2 hck
    have h6i : ¬ (65536 : Int) < S.size := by omega
    have h4i : ¬ (400 : Int) < n := by omega
    have h4n : n ≤ 400 := by omega
    clear cL hM hlen hle hls hn hS hs hck hSs hbig
    go_enter Tryz.func43, Tryz.ntmps43
    go_wp2_with (go_at_call 66; refine CL.out.mono ?_; rintro e w1 ⟨A, c, rfl, ho, hb⟩; have HB := hid2 hb; have HO := hid2 ho; clear ho hb)
    go_loopg [6, 23] n (fun gk ov iv wr => ∃ (i : Nat) (A1 : Option Addr) (c1 m : Nat) (X : List TCmd), i + gk = n ∧ iv = .int .i64 i ∧ m = X.length ∧ ov = .slice A1 m c1 ∧ CmdsAt wr w1.heap.size A1 c1 X ∧ X.map (·.c) = cmdsOf mayB (ls.take i) ∧ (∀ (j : Nat) (x : TT), j < i → ls[j]? = some x → readC mayB x ≠ none) ∧ Below w1.heap.size w1 wr)
    case atStart => exact ⟨0, none, 0, 0, [], by omega, rfl, rfl, rfl, ⟨Own.nil _ _ _ _, fun x hx => by cases hx⟩, rfl, fun j x hj => absurd hj (Nat.not_lt_zero _), Below.refl _ _⟩
    case round =>
      obtain ⟨i, A1, c1, m, X, hi, rfl, hm, rfl, hX, hXm, hgood, hbe⟩ := hrel
      have hmle : m ≤ i := by
        have h1 := congrArg List.length hXm
        rw [List.length_map, ← hm] at h1
        have h2 := cmdsOf_len mayB (ls.take i)
        rw [List.length_take] at h2
        omega
      have hbw := HB.out.trans (hbe.mono HB.out.size)
      have HBW := hid2 hbw
      have HBE := hid2 hbe
      have HX := hid2 hX
      have HXM := hid2 hXm
      have HG := hid2 hgood
      have HMM := hid2 hm
      by_cases hin : i < n
      · have hii : (i : Int) < n := by omega
        have hi0 : (0 : Int) ≤ i := by omega
        obtain ⟨x, hx⟩ : ∃ x, ls[i]? = some x := ⟨_, List.getElem?_eq_getElem (by rw [← HN.out]; exact hin)⟩
        obtain ⟨b, o, rfl, hc⟩ := (HO.out.rd.below_all hbe).2 (by omega)
        have hcell : wr.cell? ⟨b, o + i, none⟩ = some (.string (strB x)) := hc i _ (by rw [strV, List.getElem?_map, hx]; rfl)
        have hR := read_any wr x (HLE.out x (List.mem_of_getElem? hx)) (HM.out.on hbw)
        unfold ReadPost at hR
        have hsn := cmdsOf_snoc (may := mayB) hx
        obtain ⟨rd, hrd⟩ : ∃ rd, rd = readC mayB x := ⟨_, rfl⟩
        rw [← hrd] at hR hsn
        obtain ⟨XS, hXS⟩ : ∃ XS, XS = strB x := ⟨_, rfl⟩
        rw [← hXS] at hcell hR
        have HR := hid2 hR
        have HSN := hid2 hsn
        have HRD := hid2 hrd
        have HXX := hid2 hx
        have hgood2 : rd ≠ none → ∀ (j : Nat) (y : TT), j < i + 1 → ls[j]? = some y → readC mayB y ≠ none := fun hne j y hj hy => by
          rcases Nat.lt_or_ge j i with h | h
          · exact HG.out j y h hy
          · obtain rfl : j = i := by omega
            rw [HXX.out] at hy
            cases hy
            rw [← HRD.out]
            exact hne
        have HG2 := hid2 hgood2
        clear hX hXm hgood hbe hbw hc hR hsn hx hrd hXS hgood2 hm
        cases rd with
        | none =>
          have hbad := (HCK.out).trans (badL_at (k := 0) HG.out HXX.out HRD.out.symm)
          rw [Nat.zero_add] at hbad
          have HBAD := hid2 hbad
          clear hbad
          go_wp2_with (go_at_call 67; refine HR.out.mono ?_; rintro e w2 ⟨hb2, hr2⟩; unfold ReadM at hr2; subst hr2; have HB2 := hid2 (HBW.out.trans (hb2.mono HBW.out.size)); clear hb2)
          ((try simp only [Exit.inBlock, Exit.then]); refine bodyPost_ret (results_tmp3T rfl _ _ _) rfl ?_)
          have hfin := CmdsPost.no HBAD.out (by decide) HB2.out
          rw [show ((i + 1 : Nat) : Int) = (i : Int) + 1 by omega] at hfin
          exact hfin
        | some oc =>
          cases oc with
          | none =>
            go_wp2_with (go_at_call 67; refine HR.out.mono ?_; rintro e w2 ⟨hb2, hr2⟩; unfold ReadM at hr2; subst hr2; have HB2 := hid2 (HBE.out.trans (hb2.mono HBE.out.size)); have HX2 := hid2 (HX.out.below hb2); clear hb2)
            go_roundg (gk - 1)
            case rel => exact ⟨i + 1, A1, c1, m, X, by omega, by go_num, HMM.out, rfl, HX2.out, by rw [HSN.out, HXM.out]; simp, HG2.out (by simp), HB2.out⟩
            case measure => omega
          | some cm =>
            obtain ⟨nn, hnn⟩ : ∃ nn, nn = cm.ws.length := ⟨_, rfl⟩
            obtain ⟨RR, hRR⟩ : ∃ RR, RR = strB cm.rest := ⟨_, rfl⟩
            obtain ⟨V, hV⟩ : ∃ V, V = cmdsV X := ⟨_, rfl⟩
            have hm1 : m ≤ 400 := by omega
            have HNN := hid2 hnn
            have HRR := hid2 hRR
            have HV := hid2 hV
            clear hnn hRR hV
            go_wp2_with (first
              | (go_at_call 67; refine HR.out.mono ?_; rintro e w2 ⟨hb2, hr2⟩; unfold ReadM at hr2; obtain ⟨g, rfl, Ag, cg, hg, hgb, hgo⟩ := hr2; rw [← HNN.out, ← HRR.out] at hg; have hcc0 : w2.cell? ⟨g, 0, none⟩ = some (.slice Ag nn cg) := cell_of_row w2 g 0 _ _ _ hg; have hcc1 : w2.cell? ⟨g, 1, none⟩ = some (.string RR) := cell_of_row w2 g 1 _ _ _ hg; have HB2 := hid2 (HBE.out.trans (hb2.mono HBE.out.size)); have HX2 := hid2 (HX.out.below hb2); have HGO := hid2 (hgo.mono HBE.out.size); have hown := HX2.out.row; rw [← HMM.out, ← HV.out] at hown; clear hb2 hg hgb hgo)
              | (at_builtin; have _t := hown; go_must ((with_reducible refine wpList_append_lit 110 (.agg #[.slice none 0 0, .string ⟨#[]⟩]) 2 40 Tryz.underlying85 info_cmd rfl w1.heap.size A1 m c1 V (hown.alloc _) 1 [.slice Ag nn cg, .string RR] (.slice (some ⟨w2.heap.size, 0, none⟩) 1 1) (Src.slice Tryz.underlying85 (Rd.of_lit w2 #[.slice Ag nn cg, .string RR] 110 2 1 (by decide) rfl)) (one_cmd (x := .slice Ag nn cg) (y := .string RR) rfl rfl) ?_ ?_ ?_ ?_ ?_); (unfold maxLen; omega); omega; (exact Nat.le_trans HB2.out.size (by simp)); exact ⟨rfl, rfl⟩; intro A3 c3 w3 hown3 hgr3 hbl3; have hb3 : Below w1.heap.size w1 w3 := (HB2.out.alloc HB2.out.size _).grown hgr3 (Nat.le_trans HB2.out.size (by simp)) (fun z e => (_t.block z e).1); have hk3 := keep_words hgr3 _t; clear hown)))
            go_roundg (gk - 1)
            case rel => exact ⟨i + 1, A3, c3, m + 1, X ++ [⟨Ag, cg, cm⟩], by omega, by go_num, by rw [List.length_append, ← HMM.out]; rfl, rfl, cmds_more hown3 HMM.out HV.out HNN.out HRR.out (fun x hx => hk3 _ _ _ _ _ (HX2.out.words x hx)) (hk3 _ _ _ _ _ HGO.out), by rw [HSN.out, List.map_append, HXM.out]; rfl, HG2.out (by simp), hb3⟩
            case measure => omega
      · obtain rfl : i = n := by omega
        have hii : ¬ (i : Int) < i := by omega
        have hall : badL mayB ls 0 = (0, 0) := badL_no fun j x hx => HG.out j x (by rw [HN.out]; exact (List.getElem?_eq_some_iff.1 hx).1) hx
        have hcs : X.map (·.c) = cmdsOf mayB ls := by rw [HXM.out, HN.out, List.take_length]
        have HALL := hid2 (HCK.out.trans hall)
        have HCS := hid2 hcs
        clear hX hXm hgood hbe hbw hall hcs hm
        go_wp2_with fail
        ((try simp only [Exit.inBlock, Exit.then]); refine bodyPost_ret (results_tmp3T rfl _ _ _) rfl ?_)
        refine ⟨A1, c1, X, by rw [HALL.out, ← HMM.out]; rfl, HX.out.mono HB.out.size, ?_, HBW.out⟩
        rw [cmdsT_eq, HALL.out, if_pos rfl, ← HLS.out]
        exact HCS.out
theorem check_any (w : World) (s : TT) (hs : s.length ≤ 1000000) (hM : MaxL w) : Calls Tryz.prog 19 #[.string (strB s)] w fun e w' => e = .returned (.tuple #[.int .i64 (checkT mayB s).1, .int .i64 (checkT mayB s).2]) ∧ Below w.heap.size w w' := by
  have h := commands_any w s hs hM
  unfold CmdsPost at h
  obtain ⟨S, hS⟩ : ∃ S, S = strB s := ⟨_, rfl⟩
  obtain ⟨r, hr⟩ : ∃ r, r = checkT mayB s := ⟨_, rfl⟩
  rw [← hS] at h ⊢
  rw [← hr] at h ⊢
  have H := hid2 h
  clear h hS hr hM
  go_enter Tryz.func19, Tryz.ntmps19
  go_wp2_with (go_at_call 43; refine H.out.mono ?_; rintro e w1 ⟨A, c, X, rfl, _, _, hb⟩; have HB := hid2 hb; clear hb)
  go_ret2
  exact ⟨rfl, HB.out⟩
end Go.Proofs.YtjjpecggcjggpaaGreatDoor
/- The walk of analyse.look. -/
namespace Go.Proofs.YtjjpecggcjggpaaGreatDoor
open Go.RowKit Go.Shelf
set_option maxRecDepth 100000
/-- the table tells just the texts of a list -/
def Knows (M : Tab Bool) (H : List Tx) : Prop := ∀ p, (getM M p).getD false = decide (p ∈ H)
theorem Knows.nil : Knows [] [] := fun p => by simp [getM]
theorem Knows.put {M : Tab Bool} {H : List Tx} (h : Knows M H) (p : Tx) : Knows (putM M p true) (H ++ [p]) := fun q => by
  by_cases e : q = p
  · subst e
    rw [getM_put_same]
    simp
  · rw [getM_put_ne M true e, h q]
    simp [e]
theorem boolV_inj (a b : Bool) (h : Value.bool a = .bool b) : a = b := by injection h
theorem zero_boolK (w : World) : (zeroValue 4).run Tryz.prog w = .ok (Value.bool false) w := by rw [Tryz.zeroValue4]
theorem turn_below {w0 w w' : World} {g : Nat} (h : Below w0.heap.size w0 w) (k : Turn g w w') (hg : w0.heap.size ≤ g) : Below w0.heap.size w0 w' :=
  h.trans ⟨k.1, k.2.1, k.2.2.1, by rw [k.2.2.2.1]; exact Nat.le_refl _, fun i hi => k.2.2.2.2 i (by omega)⟩
def BMapIs (w : World) (g n : Nat) (M : Tab Bool) : Prop := MapIs w Tryz.prog 9 Value.bool g n M
/-- what a look at an action answers -/
def LookPost (w0 : World) (g n : Nat) (H outs : List Tx) (e : Ending) (w' : World) : Prop :=
  ∃ r : Nat, e = .returned (.int .i64 r) ∧ Below w0.heap.size w0 w' ∧ (r = 0 → outs ≠ [] ∧ (H ++ outs).Nodup ∧ ∃ M, BMapIs w' g (n + outs.length) M ∧ Knows M (H ++ outs))
theorem LookPost.no {w0 w' : World} {g n : Nat} {H outs : List Tx} (r : Nat) (h : Below w0.heap.size w0 w') (hr : r ≠ 0) : LookPost w0 g n H outs (.returned (.int .i64 r)) w' := ⟨r, rfl, h, fun e => absurd e hr⟩
theorem nodup_snoc {H : List Tx} {x : Tx} (h : H.Nodup) (hx : x ∉ H) : (H ++ [x]).Nodup := by
  rw [List.nodup_append]
  refine ⟨h, by simp, fun a ha b hb => ?_⟩
  rw [List.mem_singleton] at hb
  subst hb
  exact fun e => hx (e ▸ ha)
set_option maxHeartbeats 4000000 in
theorem alook_any (w0 w : World) (L : LayA) (a : ActK) (hA : ActAt w0 L a) (hm : Mild a) (hM : MaxL w0) (hb : Below w0.heap.size w0 w) (g n : Nat) (M : Tab Bool) (H : List Tx) (hg : w0.heap.size ≤ g) (hmap : BMapIs w g n M) (hk : Knows M H) (hn : n ≤ 100000) (hnd : H.Nodup) :
    Calls Tryz.prog 12 #[.agg (actV L a), .map (some g)] w (LookPost w0 g n H a.outs) := by
  obtain ⟨W1, hW1⟩ : ∃ W1, W1 = w.alloc (.cells (actV L a) 30) := ⟨_, rfl⟩
  have hb1 : Below w.heap.size w W1 := by rw [hW1]; exact (Below.refl _ w).alloc (Nat.le_refl _) _
  have hrow : W1.heap[w.heap.size]? = some (.cells (actV L a) 30 (0, 0)) := by rw [hW1]; exact World.alloc_heap_new w _
  have hsz : W1.heap.size = w.heap.size + 1 := by rw [hW1]; simp
  have hB1 : Below w0.heap.size w0 W1 := hb.trans (hb1.mono hb.size)
  have cT := fun (W : World) (e : W = W1) => check_any W a.tool (by have := hm.tool; omega) (by rw [e]; exact hM.on hB1)
  have cO := fun (W : World) (h : Below w0.heap.size w0 W) => kpcontains_any W L.O L.cO a.outs (hA.below h).outs (by have := hm.outs; omega) 20 #[] (enters_of Tryz.func20 (by kernel_rfl) rfl) (fun x => !underB x [111, 117, 116]) fun W2 _ x hx => look1_any W2 x (by have := hm.lO x hx; omega)
  have cI := fun (W : World) (h : Below w0.heap.size w0 W) => kpcontains_any W L.I L.cI a.ins (hA.below h).ins (by have := hm.ins; omega) 22 #[] (enters_of Tryz.func22 (by kernel_rfl) rfl) (fun x => !mayB x) fun W2 _ x hx => look2_any W2 x (by have := hm.lI x hx; omega)
  have cA := fun (W : World) (h : Below w0.heap.size w0 W) => kpcontains_any W L.A L.cA a.asks (hA.below h).asks (by have := hm.asks; omega) 24 #[] (enters_of Tryz.func24 (by kernel_rfl) rfl) (fun x => !mayG x) fun W2 h2 x hx => look3_any W2 x (by have := hm.lA x hx; omega) ((hM.on h).on h2)
  have hrd := fun (W : World) (h : Below w0.heap.size w0 W) => (hA.below h).outs
  have hlen : ∀ x ∈ a.outs, x.length ≤ 100 := hm.lO
  have hmO := hm.outs
  have hmI := hm.ins
  have hmA := hm.asks
  unfold actV at hW1 hrow ⊢
  obtain ⟨pk, nm, E, I, A, O, cEE, cII, cAA, cOO⟩ := L
  simp only at cO cI cA hrd hW1 hrow ⊢
  obtain ⟨outs, hou⟩ : ∃ l, l = a.outs := ⟨_, rfl⟩
  obtain ⟨T, hT⟩ : ∃ T, T = strB a.tool := ⟨_, rfl⟩
  obtain ⟨te, hte⟩ : ∃ te, te = (checkT mayB a.tool).1 := ⟨_, rfl⟩
  obtain ⟨tl, htl⟩ : ∃ tl, tl = (checkT mayB a.tool).2 := ⟨_, rfl⟩
  obtain ⟨vo, hvo⟩ : ∃ v, v = a.outs.any fun x => !underB x [111, 117, 116] := ⟨_, rfl⟩
  obtain ⟨vi, hvi⟩ : ∃ v, v = a.ins.any fun x => !mayB x := ⟨_, rfl⟩
  obtain ⟨va, hva⟩ : ∃ v, v = a.asks.any fun x => !mayG x := ⟨_, rfl⟩
  obtain ⟨nE, hnE⟩ : ∃ n, n = a.env.length := ⟨_, rfl⟩
  obtain ⟨nI, hnI⟩ : ∃ n, n = a.ins.length := ⟨_, rfl⟩
  obtain ⟨nA, hnA⟩ : ∃ n, n = a.asks.length := ⟨_, rfl⟩
  obtain ⟨nO, hnO⟩ : ∃ n, n = a.outs.length := ⟨_, rfl⟩
  rw [← hT, ← hte, ← htl] at cT
  rw [← hvo, ← hnO] at cO
  rw [← hvi, ← hnI] at cI
  rw [← hva, ← hnA] at cA
  rw [← hT, ← hnE, ← hnI, ← hnA, ← hnO] at hW1 hrow
  rw [← hT, ← hnE, ← hnI, ← hnA, ← hnO, ← hou]
  rw [← hnO] at hrd hmO
  rw [← hou] at hrd hlen hnO
  rw [← hnI] at hmI
  rw [← hnA] at hmA
  have HW := hid2 hW1
  have HB1 := hid2 hB1
  have HCT := hid2 cT
  have HCO := hid2 cO
  have HCI := hid2 cI
  have HCA := hid2 cA
  have HRD := hid2 hrd
  have HLEN := hid2 hlen
  have HNO := hid2 hnO
  have HK := hid2 hk
  have HND := hid2 hnd
  have HMAP := hid2 (hmap.below hb1 hmap.lt)
  have HGL := hid2 (show g < W1.heap.size by have := hmap.lt; omega)
  have HC := hid2 (fun (W : World) (h : Below W1.heap.size W1 W) => (h.block w.heap.size (by omega)).trans hrow)
  have c2 : W1.cell? ⟨w.heap.size, 2, none⟩ = some (.string T) := cell_of_row W1 _ 2 _ _ _ hrow
  have HC2 := hid2 c2
  clear hou hT hte htl hvo hvi hva hnE hnI hnA hnO cT cO cI cA hrd hlen hk hnd hmap hrow hb1 hsz hB1 hW1 hM hm hA hb c2
  by_cases h0 : te = 0
  · subst h0
    by_cases hO0 : nO = 0
    · have hOb : ((nO : Int) == 0) = true := by rw [hO0]; rfl
      clear hO0
      go_enter Tryz.func12, Tryz.ntmps12
      go_wp2_with (first
        | (go_at_call 19; refine (HCT.out _ HW.out.symm).mono ?_; rintro e w2 ⟨rfl, hb2⟩; rw [← HW.out] at hb2; have HB2 := hid2 (HB1.out.trans (hb2.mono HB1.out.size)); have HX2 := hid2 hb2; have h2 := HC.out w2 hb2; have c4 : w2.cell? ⟨w.heap.size, 4, none⟩ = some (.slice I nI cII) := cell_of_row w2 _ 4 _ _ _ h2; have c5 : w2.cell? ⟨w.heap.size, 5, none⟩ = some (.slice A nA cAA) := cell_of_row w2 _ 5 _ _ _ h2; have c6 : w2.cell? ⟨w.heap.size, 6, none⟩ = some (.slice O nO cOO) := cell_of_row w2 _ 6 _ _ _ h2; clear hb2 h2))
      go_ret
      exact LookPost.no 1 HB2.out (by decide)
    · have hOb : ((nO : Int) == 0) = false := by simpa using hO0
      have HO0 := hid2 hO0
      clear hO0
      cases vo with
      | true =>
        go_enter Tryz.func12, Tryz.ntmps12
        go_wp2_with (first
          | (go_at_call 19; refine (HCT.out _ HW.out.symm).mono ?_; rintro e w2 ⟨rfl, hb2⟩; rw [← HW.out] at hb2; have HB2 := hid2 (HB1.out.trans (hb2.mono HB1.out.size)); have HX2 := hid2 hb2; have h2 := HC.out w2 hb2; have c4 : w2.cell? ⟨w.heap.size, 4, none⟩ = some (.slice I nI cII) := cell_of_row w2 _ 4 _ _ _ h2; have c5 : w2.cell? ⟨w.heap.size, 5, none⟩ = some (.slice A nA cAA) := cell_of_row w2 _ 5 _ _ _ h2; have c6 : w2.cell? ⟨w.heap.size, 6, none⟩ = some (.slice O nO cOO) := cell_of_row w2 _ 6 _ _ _ h2; clear hb2 h2)
          | (go_at_call 26; refine (HCO.out _ HB2.out).mono ?_; rintro e w3 ⟨rfl, hb3⟩; have HB3 := hid2 (HB2.out.trans (hb3.mono HB2.out.size)); have HX3 := hid2 (HX2.out.trans (hb3.mono HX2.out.size)); have h3 := HC.out w3 HX3.out; clear c4 c5 c6; have c4 : w3.cell? ⟨w.heap.size, 4, none⟩ = some (.slice I nI cII) := cell_of_row w3 _ 4 _ _ _ h3; have c5 : w3.cell? ⟨w.heap.size, 5, none⟩ = some (.slice A nA cAA) := cell_of_row w3 _ 5 _ _ _ h3; have c6 : w3.cell? ⟨w.heap.size, 6, none⟩ = some (.slice O nO cOO) := cell_of_row w3 _ 6 _ _ _ h3; clear hb3 h3))
        go_ret
        exact LookPost.no 1 HB3.out (by decide)
      | false =>
        cases vi with
        | true =>
          go_enter Tryz.func12, Tryz.ntmps12
          go_wp2_with (first
            | (go_at_call 19; refine (HCT.out _ HW.out.symm).mono ?_; rintro e w2 ⟨rfl, hb2⟩; rw [← HW.out] at hb2; have HB2 := hid2 (HB1.out.trans (hb2.mono HB1.out.size)); have HX2 := hid2 hb2; have h2 := HC.out w2 hb2; have c4 : w2.cell? ⟨w.heap.size, 4, none⟩ = some (.slice I nI cII) := cell_of_row w2 _ 4 _ _ _ h2; have c5 : w2.cell? ⟨w.heap.size, 5, none⟩ = some (.slice A nA cAA) := cell_of_row w2 _ 5 _ _ _ h2; have c6 : w2.cell? ⟨w.heap.size, 6, none⟩ = some (.slice O nO cOO) := cell_of_row w2 _ 6 _ _ _ h2; clear hb2 h2)
            | (go_at_call 26; refine (HCO.out _ HB2.out).mono ?_; rintro e w3 ⟨rfl, hb3⟩; have HB3 := hid2 (HB2.out.trans (hb3.mono HB2.out.size)); have HX3 := hid2 (HX2.out.trans (hb3.mono HX2.out.size)); have h3 := HC.out w3 HX3.out; clear c4 c5 c6; have c4 : w3.cell? ⟨w.heap.size, 4, none⟩ = some (.slice I nI cII) := cell_of_row w3 _ 4 _ _ _ h3; have c5 : w3.cell? ⟨w.heap.size, 5, none⟩ = some (.slice A nA cAA) := cell_of_row w3 _ 5 _ _ _ h3; have c6 : w3.cell? ⟨w.heap.size, 6, none⟩ = some (.slice O nO cOO) := cell_of_row w3 _ 6 _ _ _ h3; clear hb3 h3)
            | (go_at_call 26; refine (HCI.out _ HB3.out).mono ?_; rintro e w4 ⟨rfl, hb4⟩; have HB4 := hid2 (HB3.out.trans (hb4.mono HB3.out.size)); have HX4 := hid2 (HX3.out.trans (hb4.mono HX3.out.size)); have h4 := HC.out w4 HX4.out; clear c4 c5 c6; have c4 : w4.cell? ⟨w.heap.size, 4, none⟩ = some (.slice I nI cII) := cell_of_row w4 _ 4 _ _ _ h4; have c5 : w4.cell? ⟨w.heap.size, 5, none⟩ = some (.slice A nA cAA) := cell_of_row w4 _ 5 _ _ _ h4; have c6 : w4.cell? ⟨w.heap.size, 6, none⟩ = some (.slice O nO cOO) := cell_of_row w4 _ 6 _ _ _ h4; clear hb4 h4))
          go_ret
          exact LookPost.no 1 HB4.out (by decide)
        | false =>
          cases va with
          | true =>
            go_enter Tryz.func12, Tryz.ntmps12
            go_wp2_with (first
              | (go_at_call 19; refine (HCT.out _ HW.out.symm).mono ?_; rintro e w2 ⟨rfl, hb2⟩; rw [← HW.out] at hb2; have HB2 := hid2 (HB1.out.trans (hb2.mono HB1.out.size)); have HX2 := hid2 hb2; have h2 := HC.out w2 hb2; have c4 : w2.cell? ⟨w.heap.size, 4, none⟩ = some (.slice I nI cII) := cell_of_row w2 _ 4 _ _ _ h2; have c5 : w2.cell? ⟨w.heap.size, 5, none⟩ = some (.slice A nA cAA) := cell_of_row w2 _ 5 _ _ _ h2; have c6 : w2.cell? ⟨w.heap.size, 6, none⟩ = some (.slice O nO cOO) := cell_of_row w2 _ 6 _ _ _ h2; clear hb2 h2)
              | (go_at_call 26; refine (HCO.out _ HB2.out).mono ?_; rintro e w3 ⟨rfl, hb3⟩; have HB3 := hid2 (HB2.out.trans (hb3.mono HB2.out.size)); have HX3 := hid2 (HX2.out.trans (hb3.mono HX2.out.size)); have h3 := HC.out w3 HX3.out; clear c4 c5 c6; have c4 : w3.cell? ⟨w.heap.size, 4, none⟩ = some (.slice I nI cII) := cell_of_row w3 _ 4 _ _ _ h3; have c5 : w3.cell? ⟨w.heap.size, 5, none⟩ = some (.slice A nA cAA) := cell_of_row w3 _ 5 _ _ _ h3; have c6 : w3.cell? ⟨w.heap.size, 6, none⟩ = some (.slice O nO cOO) := cell_of_row w3 _ 6 _ _ _ h3; clear hb3 h3)
              | (go_at_call 26; refine (HCI.out _ HB3.out).mono ?_; rintro e w4 ⟨rfl, hb4⟩; have HB4 := hid2 (HB3.out.trans (hb4.mono HB3.out.size)); have HX4 := hid2 (HX3.out.trans (hb4.mono HX3.out.size)); have h4 := HC.out w4 HX4.out; clear c4 c5 c6; have c4 : w4.cell? ⟨w.heap.size, 4, none⟩ = some (.slice I nI cII) := cell_of_row w4 _ 4 _ _ _ h4; have c5 : w4.cell? ⟨w.heap.size, 5, none⟩ = some (.slice A nA cAA) := cell_of_row w4 _ 5 _ _ _ h4; have c6 : w4.cell? ⟨w.heap.size, 6, none⟩ = some (.slice O nO cOO) := cell_of_row w4 _ 6 _ _ _ h4; clear hb4 h4)
              | (go_at_call 26; refine (HCA.out _ HB4.out).mono ?_; rintro e w5 ⟨rfl, hb5⟩; have HB5 := hid2 (HB4.out.trans (hb5.mono HB4.out.size)); have HX5 := hid2 (HX4.out.trans (hb5.mono HX4.out.size)); have h5 := HC.out w5 HX5.out; clear c4 c5 c6; have c4 : w5.cell? ⟨w.heap.size, 4, none⟩ = some (.slice I nI cII) := cell_of_row w5 _ 4 _ _ _ h5; have c5 : w5.cell? ⟨w.heap.size, 5, none⟩ = some (.slice A nA cAA) := cell_of_row w5 _ 5 _ _ _ h5; have c6 : w5.cell? ⟨w.heap.size, 6, none⟩ = some (.slice O nO cOO) := cell_of_row w5 _ 6 _ _ _ h5; clear hb5 h5))
            go_ret
            exact LookPost.no 1 HB5.out (by decide)
          | false =>
            go_enter Tryz.func12, Tryz.ntmps12
            go_wp2_with (first
              | (go_at_call 19; refine (HCT.out _ HW.out.symm).mono ?_; rintro e w2 ⟨rfl, hb2⟩; rw [← HW.out] at hb2; have HB2 := hid2 (HB1.out.trans (hb2.mono HB1.out.size)); have HX2 := hid2 hb2; have h2 := HC.out w2 hb2; have c4 : w2.cell? ⟨w.heap.size, 4, none⟩ = some (.slice I nI cII) := cell_of_row w2 _ 4 _ _ _ h2; have c5 : w2.cell? ⟨w.heap.size, 5, none⟩ = some (.slice A nA cAA) := cell_of_row w2 _ 5 _ _ _ h2; have c6 : w2.cell? ⟨w.heap.size, 6, none⟩ = some (.slice O nO cOO) := cell_of_row w2 _ 6 _ _ _ h2; clear hb2 h2)
              | (go_at_call 26; refine (HCO.out _ HB2.out).mono ?_; rintro e w3 ⟨rfl, hb3⟩; have HB3 := hid2 (HB2.out.trans (hb3.mono HB2.out.size)); have HX3 := hid2 (HX2.out.trans (hb3.mono HX2.out.size)); have h3 := HC.out w3 HX3.out; clear c4 c5 c6; have c4 : w3.cell? ⟨w.heap.size, 4, none⟩ = some (.slice I nI cII) := cell_of_row w3 _ 4 _ _ _ h3; have c5 : w3.cell? ⟨w.heap.size, 5, none⟩ = some (.slice A nA cAA) := cell_of_row w3 _ 5 _ _ _ h3; have c6 : w3.cell? ⟨w.heap.size, 6, none⟩ = some (.slice O nO cOO) := cell_of_row w3 _ 6 _ _ _ h3; clear hb3 h3)
              | (go_at_call 26; refine (HCI.out _ HB3.out).mono ?_; rintro e w4 ⟨rfl, hb4⟩; have HB4 := hid2 (HB3.out.trans (hb4.mono HB3.out.size)); have HX4 := hid2 (HX3.out.trans (hb4.mono HX3.out.size)); have h4 := HC.out w4 HX4.out; clear c4 c5 c6; have c4 : w4.cell? ⟨w.heap.size, 4, none⟩ = some (.slice I nI cII) := cell_of_row w4 _ 4 _ _ _ h4; have c5 : w4.cell? ⟨w.heap.size, 5, none⟩ = some (.slice A nA cAA) := cell_of_row w4 _ 5 _ _ _ h4; have c6 : w4.cell? ⟨w.heap.size, 6, none⟩ = some (.slice O nO cOO) := cell_of_row w4 _ 6 _ _ _ h4; clear hb4 h4)
              | (go_at_call 26; refine (HCA.out _ HB4.out).mono ?_; rintro e w5 ⟨rfl, hb5⟩; have HB5 := hid2 (HB4.out.trans (hb5.mono HB4.out.size)); have HX5 := hid2 (HX4.out.trans (hb5.mono HX4.out.size)); have h5 := HC.out w5 HX5.out; clear c4 c5 c6; have c4 : w5.cell? ⟨w.heap.size, 4, none⟩ = some (.slice I nI cII) := cell_of_row w5 _ 4 _ _ _ h5; have c5 : w5.cell? ⟨w.heap.size, 5, none⟩ = some (.slice A nA cAA) := cell_of_row w5 _ 5 _ _ _ h5; have c6 : w5.cell? ⟨w.heap.size, 6, none⟩ = some (.slice O nO cOO) := cell_of_row w5 _ 6 _ _ _ h5; clear hb5 h5))
            have HMAP5 := hid2 (HMAP.out.below HX5.out HGL.out)
            clear c4 c5 c6
            go_loopw [11, 46] (fun x iv wr => ∃ k : Nat, k ≤ nO ∧ iv = .int .i64 k ∧ Below w0.heap.size w0 wr ∧ (H ++ outs.take k).Nodup ∧ ∃ Mk, BMapIs wr g (n + k) Mk ∧ Knows Mk (H ++ outs.take k)) (fun _ iv _ => nO - (intOf iv).toNat)
            case atStart => exact ⟨0, by omega, rfl, HB5.out, by simpa using HND.out, M, HMAP5.out, by simpa using HK.out⟩
            case round =>
              obtain ⟨k, hk, rfl, hlow, hnod, Mk, hmk, hkn⟩ := hrel
              by_cases hlt : k < nO
              · have hkl : (k : Int) < nO := by omega
                have hk0 : (0 : Int) ≤ k := by omega
                obtain ⟨x, hx⟩ : ∃ x, outs[k]? = some x := ⟨_, List.getElem?_eq_getElem (by rw [← HNO.out]; exact hlt)⟩
                have htk : outs.take (k + 1) = outs.take k ++ [x] := by rw [List.take_add_one, hx]; rfl
                obtain ⟨b, o, rfl, hcx⟩ := txt_cell (HRD.out wr hlow) hx
                obtain ⟨X, hX⟩ : ∃ X, X = strB x := ⟨_, rfl⟩
                have hXs : X.size ≤ 100 := by rw [hX, strB_size]; exact HLEN.out x (List.mem_of_getElem? hx)
                have hXl : X.data.toList = x := by rw [hX, strB_list]
                rw [← hX] at hcx
                have hlk := MapIs.look hmk boolV_inj Tryz.underlying9 Tryz.underlying43 false (zero_boolK wr) X (by unfold maxLen; omega)
                rw [hXl, hkn x] at hlk
                obtain ⟨v, hv⟩ : ∃ v, v = decide (x ∈ H ++ outs.take k) := ⟨_, rfl⟩
                rw [← hv] at hlk
                have HV := hid2 hv
                have HXL := hid2 hXl
                have HTK := hid2 htk
                have HLOW := hid2 hlow
                have HNOD := hid2 hnod
                have HMK := hid2 (show MapIs wr Tryz.prog 9 Value.bool g (n + k) Mk from hmk)
                have HKN := hid2 hkn
                clear hx htk hX hXl hv hlow hnod hmk hkn
                cases v with
                | true =>
                  go_wp2_with fail
                  go_ret
                  exact LookPost.no 8 HLOW.out (by decide)
                | false =>
                  go_wp2_with (((with_reducible refine wpList_update_map HMK.out boolV_inj Tryz.underlying9 Tryz.underlying43 ?_ X ?_ true ?_ ?_); (unfold maxLen; omega); (unfold maxLen; omega); exact ⟨rfl, rfl, rfl⟩; intro w6 hm6 ht6; have HM6 := hid2 hm6; have HT6 := hid2 ht6; clear hm6 ht6))
                  go_roundw
                  case rel =>
                    refine ⟨k + 1, by omega, by go_num, turn_below HLOW.out HT6.out hg, ?_, putM Mk x true, ?_, ?_⟩
                    · rw [HTK.out, ← List.append_assoc]
                      exact nodup_snoc HNOD.out (by have := HV.out; simpa using this)
                    · have := HM6.out
                      rw [HXL.out] at this
                      exact this
                    · rw [HTK.out, ← List.append_assoc]
                      exact HKN.out.put x
                  case measure => simp [intOf]; omega
              · have hkn2 : k = nO := by omega
                have hkl : ¬ (k : Int) < nO := by omega
                have htl : outs.take k = outs := by rw [hkn2, HNO.out, List.take_length]
                rw [htl] at hnod hkn
                have HLOW := hid2 hlow
                have HNOD := hid2 hnod
                have HMK := hid2 (show BMapIs wr g (n + outs.length) Mk by rw [← HNO.out, ← hkn2]; exact hmk)
                have HKN := hid2 hkn
                clear htl hkn2 hlow hnod hmk hkn
                go_wp2_with fail
                go_ret
                exact ⟨0, rfl, HLOW.out, fun _ => ⟨fun e => HO0.out (by rw [HNO.out, e]; rfl), HNOD.out, Mk, HMK.out, HKN.out⟩⟩
  · have h0i : ¬ (te : Int) = 0 := by omega
    go_enter Tryz.func12, Tryz.ntmps12
    go_wp2_with (first
      | (go_at_call 19; refine (HCT.out _ HW.out.symm).mono ?_; rintro e w2 ⟨rfl, hb2⟩; rw [← HW.out] at hb2; have HB2 := hid2 (HB1.out.trans (hb2.mono HB1.out.size)); have HX2 := hid2 hb2; have h2 := HC.out w2 hb2; have c4 : w2.cell? ⟨w.heap.size, 4, none⟩ = some (.slice I nI cII) := cell_of_row w2 _ 4 _ _ _ h2; have c5 : w2.cell? ⟨w.heap.size, 5, none⟩ = some (.slice A nA cAA) := cell_of_row w2 _ 5 _ _ _ h2; have c6 : w2.cell? ⟨w.heap.size, 6, none⟩ = some (.slice O nO cOO) := cell_of_row w2 _ 6 _ _ _ h2; clear hb2 h2))
    go_ret
    exact LookPost.no te HB2.out h0
end Go.Proofs.YtjjpecggcjggpaaGreatDoor
/- Rows of actions in memory; the walk of analyse.Check. -/
namespace Go.Proofs.YtjjpecggcjggpaaGreatDoor
open Go.RowKit Go.Shelf
set_option maxRecDepth 100000
theorem run_load_cells {P : Program} {w : World} (ty : TypeId) (b off : Nat) (vs : List Value) (hc : ∀ j v, vs[j]? = some v → w.cell? ⟨b, off + j, none⟩ = some v)
    (d : TypeDesc) (hu : P.underlying ty = some d) (hd : (match d with | .struct _ | .array _ _ => true | _ => false) = true) (hi : (P.info? ty).map (·.size) = some vs.length) :
    (loadVar ty ⟨b, off, none⟩).run P w = .ok (.agg vs.toArray) w := by
  have hl : (loadCells ⟨b, off, none⟩ vs.length).run P w = .ok vs.toArray w :=
    run_loadCells_list (P := P) w ⟨b, off, none⟩ vs (fun j v hv => by rw [addr_add]; exact hc j v hv)
  cases hq : P.info? ty with
  | none => simp [hq] at hi
  | some i =>
    have hs : i.size = vs.length := by simpa [hq] using hi
    have hagg : (isAgg ty).run P w = .ok true w := by
      unfold isAgg
      rw [Sem.run_bind, run_underlying hu w]
      cases d <;> simp_all
    simp [loadVar, Sem.run_bind, hagg, sizeOf, typeInfo, hq, hs, hl]
section
variable {P : Program} {w : World}
theorem wp_load_run {o : Oper} {a : Act} {K : Act → World → Prop} {Q : Exit → Act → World → Prop} (ty : TypeId) (x : Operand) (ho : o.op = .load ty x) {p : Addr} {v : Value}
    (hl : (loadVar ty p).run P w = .ok v w) (hx : a.eval x = .pointer (some p)) (h : K (a.put o.dst v) w) : o.wp P a w K Q := by
  unfold Oper.wp execOp
  simp [ho, hx, Instr.loadAt, Instr.sureAddr, hl]
  exact h
theorem wpList_load_run {ops : Array Oper} {rest : List Oper} {a : Act} {Q : Exit → Act → World → Prop} {dst : Option Tmp} {ty tt : TypeId} {x : Operand} {pos : String} {after : Array Edge} {p : Addr} {v : Value}
    (hl : (loadVar ty p).run P w = .ok v w) (hx : a.eval x = .pointer (some p)) (h : wpList P ops Q rest (a.put dst v) w) : wpList P ops Q (⟨dst, .load ty x, tt, pos, after, none⟩ :: rest) a w :=
  wpList_plain rfl fun _ hK => wp_load_run ty x rfl hl hx (hK _ _ h)
end
abbrev ActR := LayA × ActK
def actsV (X : List ActR) : List Value := X.flatMap fun x => (actV x.1 x.2).toList
theorem actV_len (L : LayA) (a : ActK) : (actV L a).toList.length = 7 := rfl
theorem actsV_length : ∀ X : List ActR, (actsV X).length = X.length * 7
  | [] => rfl
  | x :: X => by
    have := actsV_length X
    simp only [actsV, List.flatMap_cons, List.length_append, List.length_cons, actV_len] at this ⊢
    omega
theorem actsV_get : ∀ {X : List ActR} {k : Nat} {x : ActR}, X[k]? = some x → ∀ j v, (actV x.1 x.2).toList[j]? = some v → (actsV X)[k * 7 + j]? = some v
  | y :: X, 0, x, h, j, v, hj => by
    simp only [List.getElem?_cons_zero, Option.some.injEq] at h
    subst h
    have hl : j < 7 := by
      have := (List.getElem?_eq_some_iff.1 hj).1
      rwa [actV_len] at this
    rw [actsV, List.flatMap_cons, Nat.zero_mul, Nat.zero_add, List.getElem?_append_left (by rw [actV_len]; exact hl)]
    exact hj
  | y :: X, k + 1, x, h, j, v, hj => by
    have ih := actsV_get (X := X) (k := k) (x := x) (by simpa using h) j v hj
    rw [actsV, List.flatMap_cons, List.getElem?_append_right (by rw [actV_len]; omega), actV_len, show (k + 1) * 7 + j - 7 = k * 7 + j by omega]
    exact ih
/-- a row of actions in memory -/
structure ActsAt (w : World) (A : Option Addr) (X : List ActR) : Prop where
  row : Rd w 7 A X.length (actsV X)
  each : ∀ x ∈ X, ActAt w x.1 x.2
theorem ActsAt.below {w w' : World} {A : Option Addr} {X : List ActR} (h : ActsAt w A X) (hb : Below w.heap.size w w') : ActsAt w' A X := ⟨h.row.below_all hb, fun x hx => (h.each x hx).below hb⟩
/-- an element, loaded -/
theorem ActsAt.load {w : World} {A : Option Addr} {X : List ActR} (h : ActsAt w A X) {k : Nat} {x : ActR} (hx : X[k]? = some x) :
    ∃ b o, A = some ⟨b, o, none⟩ ∧ (loadVar 30 ⟨b, o + k * 7, none⟩).run Tryz.prog w = .ok (.agg (actV x.1 x.2)) w := by
  have hk := (List.getElem?_eq_some_iff.1 hx).1
  obtain ⟨b, o, rfl, hc⟩ := h.row.2 (by omega)
  refine ⟨b, o, rfl, ?_⟩
  have := run_load_cells (P := Tryz.prog) (w := w) 30 b (o + k * 7) (actV x.1 x.2).toList (fun j v hj => by
    rw [Nat.add_assoc]
    exact hc _ v (actsV_get hx j v hj)) _ Tryz.underlying30 rfl (by rw [actV_len]; exact info_act)
  simpa using this
def actZ : Array Value := #[.string ⟨#[]⟩, .string ⟨#[]⟩, .string ⟨#[]⟩, .slice none 0 0, .slice none 0 0, .slice none 0 0, .slice none 0 0]
theorem actV_one (L : LayA) (a : ActK) : ∀ v ∈ (actV L a).toList, v.oneCell' = true := by
  intro v hv
  simp only [actV, List.mem_cons, List.not_mem_nil, or_false] at hv
  rcases hv with rfl | rfl | rfl | rfl | rfl | rfl | rfl <;> rfl
/-- an action stored into a block that was made now -/
theorem wpList_store_act {ops : Array Oper} {rest : List Oper} {a : Act} {Q : Exit → Act → World → Prop} {w1 : World} {dst : Option Tmp} {tt : TypeId} {x v : Operand} {pos : String} {after : Array Edge} (V : Array Value) (L : LayA) (c : ActK) (hV : V = actV L c)
    (hxv : a.eval x = .pointer (some ⟨w1.heap.size, 0, none⟩) ∧ a.eval v = .agg V)
    (h : wpList Tryz.prog ops Q rest (a.put dst undef) (w1.alloc (.cells V 30))) :
    wpList Tryz.prog ops Q (⟨dst, .store 30 x v, tt, pos, after, none⟩ :: rest) a (w1.alloc (.cells #[.string ⟨#[]⟩, .string ⟨#[]⟩, .string ⟨#[]⟩, .slice none 0 0, .slice none 0 0, .slice none 0 0, .slice none 0 0] 30)) := by
  subst hV
  refine wpList_store_lit w1.heap.size 0 (.agg (actV L c)) (actV L c).toList rfl actZ 30 (World.alloc_heap_new w1 _) (by rw [actV_len]; exact info_act) (by rw [actV_len]; decide) (actV_one L c) hxv ?_
  rw [laid_all (by rw [actV_len]; rfl), World.setRow_alloc_new]
  exact h
def outsL (X : List ActR) : List Tx := X.flatMap fun x => x.2.outs
theorem outsL_snoc (X : List ActR) (x : ActR) : outsL (X ++ [x]) = outsL X ++ x.2.outs := by simp [outsL]
/-- what Check answers -/
def PlanPost (w0 : World) (X : List ActR) (e : Ending) (w' : World) : Prop :=
  ∃ r i : Nat, e = .returned (.tuple #[.int .i64 r, .int .i64 i]) ∧ Below w0.heap.size w0 w' ∧ (r = 0 → (∀ x ∈ X, x.2.outs ≠ []) ∧ (outsL X).Nodup)
theorem PlanPost.no {w0 w' : World} {X : List ActR} (r i : Nat) (h : Below w0.heap.size w0 w') (hr : r ≠ 0) : PlanPost w0 X (.returned (.tuple #[.int .i64 r, .int .i64 i])) w' := ⟨r, i, rfl, h, fun e => absurd e hr⟩
/-- the loop's invariant -/
def PlanI (w0 : World) (g : Nat) (X : List ActR) (k : Nat) (wr : World) : Prop :=
  Below w0.heap.size w0 wr ∧ (∀ x ∈ X.take k, x.2.outs ≠ []) ∧ (outsL (X.take k)).Nodup ∧ ∃ m M, m ≤ 22 * k ∧ BMapIs wr g m M ∧ Knows M (outsL (X.take k))
set_option maxHeartbeats 4000000 in
theorem acheck_any (w0 : World) (A : Option Addr) (c : Nat) (X : List ActR) (hX : ActsAt w0 A X) (hl : X.length ≤ 10) (hmi : ∀ x ∈ X, Mild x.2) (hM : MaxL w0) :
    Calls Tryz.prog 6 #[.slice A X.length c] w0 (PlanPost w0 X) := by
  obtain ⟨N, hN⟩ : ∃ N, N = X.length := ⟨_, rfl⟩
  obtain ⟨W1, hW1⟩ : ∃ W1, W1 = w0.alloc (.map #[] 0) := ⟨_, rfl⟩
  have hb1 : Below w0.heap.size w0 W1 := by rw [hW1]; exact (Below.refl _ w0).alloc (Nat.le_refl _) _
  have hst : PlanI w0 w0.heap.size X 0 W1 := ⟨hb1, fun x hx => by simp at hx, by simp [outsL], 0, [], by omega, by rw [hW1]; exact MapIs.made w0 Tryz.prog 9 Value.bool, by simpa [outsL] using Knows.nil⟩
  rw [← hN] at hl ⊢
  have HX := hid2 hX
  have HN := hid2 hN
  have HMI := hid2 hmi
  have HM := hid2 hM
  have HW := hid2 hW1
  have HST := hid2 hst
  clear hX hN hmi hM hW1 hb1 hst
  have hmm := @run_makeMap Tryz.prog
  have hN500 : ¬ (500 : Int) < N := by omega
  have hlim : (N : Int) ≤ 9223372036854775807 := by omega
  go_enter Tryz.func6, Tryz.ntmps6
  go_wp2_with fail
  clear hmm
  rw [← HW.out]
  go_loopw [5, 6, 7, 14] (fun x5 x6 x7 iv wr => ∃ k : Nat, k ≤ N ∧ iv = .int .i64 k ∧ PlanI w0 w0.heap.size X k wr) (fun _ _ _ iv _ => N - (intOf iv).toNat)
  case atStart => exact ⟨0, by omega, rfl, HST.out⟩
  case round =>
    obtain ⟨k, hk, rfl, hI⟩ := hrel
    obtain ⟨hlow, hne, hnod, m, M, hm, hmap, hkn⟩ := hI
    by_cases hlt : k < N
    · have hkl : (k : Int) < N := by omega
      have hk0 : (0 : Int) ≤ k := by omega
      obtain ⟨x, hx⟩ : ∃ x, X[k]? = some x := ⟨_, List.getElem?_eq_getElem (by rw [← HN.out]; exact hlt)⟩
      have hmem : x ∈ X := List.mem_of_getElem? hx
      have htk : X.take (k + 1) = X.take k ++ [x] := by rw [List.take_add_one, hx]; rfl
      obtain ⟨b, o, rfl, hld⟩ := (HX.out.below hlow).load hx
      obtain ⟨V, hV⟩ : ∃ V, V = actV x.1 x.2 := ⟨_, rfl⟩
      obtain ⟨W2, hW2⟩ : ∃ W2, W2 = wr.alloc (.cells V 30) := ⟨_, rfl⟩
      have hbr : Below wr.heap.size wr W2 := by rw [hW2]; exact (Below.refl _ wr).alloc (Nat.le_refl _) _
      have hb2 : Below w0.heap.size w0 W2 := hlow.trans (hbr.mono hlow.size)
      have hmap2 : BMapIs W2 w0.heap.size m M := hmap.below hbr hmap.lt
      have hcall := alook_any w0 W2 x.1 x.2 (HX.out.each x hmem) (HMI.out x hmem) HM.out hb2 w0.heap.size m M (outsL (X.take k)) (Nat.le_refl _) hmap2 hkn (by omega) hnod
      have hld2 : (loadVar 30 ⟨wr.heap.size, 0, none⟩).run Tryz.prog W2 = .ok (.agg V) W2 := by
        have hh : W2.heap[wr.heap.size]? = some (.cells V 30 (0, 0)) := by rw [hW2]; exact World.alloc_heap_new wr _
        have := run_load_cells (P := Tryz.prog) (w := W2) 30 wr.heap.size 0 (actV x.1 x.2).toList (fun j v hj => by
          rw [cell_of_row W2 _ _ _ _ _ hh, hV, Nat.zero_add]
          simpa using hj) _ Tryz.underlying30 rfl (by rw [actV_len]; exact info_act)
        rw [hV]
        simpa using this
      rw [← hV] at hld hcall
      have HV := hid2 hV
      have HW2 := hid2 hW2
      have HCALL := hid2 hcall
      have HLD := hid2 hld
      have HLD2 := hid2 hld2
      have HTK := hid2 htk
      have HNE := hid2 hne
      have HLO := hid2 (HMI.out x hmem).outs
      clear hx hmem htk hV hW2 hbr hb2 hmap2 hcall hld hld2 hlow hne hnod hmap hkn
      go_wp2_with (first
        | ((with_reducible refine wpList_load_run HLD.out ?_ ?_); exact rfl)
        | ((with_reducible refine wpList_store_act V _ _ HV.out ?_ ?_); exact ⟨rfl, rfl⟩; rw [← HW2.out])
        | ((with_reducible refine wpList_load_run HLD2.out ?_ ?_); exact rfl)
        | (go_at_call 12; refine HCALL.out.mono ?_; rintro e w3 ⟨r, rfl, hb3, hr3⟩; have HB3 := hid2 hb3; have HR3 := hid2 hr3; clear hb3 hr3))
      · rename_i hrr
        go_ret2
        exact PlanPost.no r k HB3.out (by rintro rfl; exact absurd hrr (by decide))
      · rename_i hrr
        have hr0 : r = 0 := by
          have : ((r : Int) == 0) = true := by simpa using hrr
          simpa using this
        obtain ⟨h1, h2, M2, h3, h4⟩ := HR3.out hr0
        refine ⟨⟨k + 1, by omega, by go_num, HB3.out, ?_, ?_, m + x.2.outs.length, M2, ?_, h3, ?_⟩, by simp [intOf]; omega⟩
        · intro y hy
          rw [HTK.out, List.mem_append, List.mem_singleton] at hy
          rcases hy with hy | rfl
          · exact HNE.out y hy
          · exact h1
        · rw [HTK.out, outsL_snoc]
          exact h2
        · have := HLO.out
          omega
        · rw [HTK.out, outsL_snoc]
          exact h4
    · have hkn2 : k = N := by omega
      have hkl : ¬ (k : Int) < N := by omega
      have htl : X.take k = X := by rw [hkn2, HN.out, List.take_length]
      rw [htl] at hne hnod
      have HLOW := hid2 hlow
      have HNE := hid2 hne
      have HNOD := hid2 hnod
      clear htl hkn2 hlow hne hnod hmap hkn
      go_wp2_with fail
      go_ret2
      exact ⟨0, 0, rfl, HLOW.out, fun _ => ⟨HNE.out, HNOD.out⟩⟩
end Go.Proofs.YtjjpecggcjggpaaGreatDoor
/- Actions with outs of their own have texts of their own. -/
namespace Go.Proofs.YtjjpecggcjggpaaGreatDoor
theorem outs_apart {X : List ActR} (hne : ∀ x ∈ X, x.2.outs ≠ []) (hnd : (outsL X).Nodup) {i k : Nat} {x y : ActR} (hx : X[i]? = some x) (hy : X[k]? = some y) (hik : k < i) : textK x.2 ≠ textK y.2 := by
  intro he
  have h1 := (textK_inj.1 he).2
  have h2 : setL x.2.outs = setL y.2.outs := by
    simp only [partsK, List.cons.injEq, and_true] at h1
    exact h1.2.2.2
  have hi := (List.getElem?_eq_some_iff.1 hx).1
  obtain ⟨p, hp⟩ := List.exists_mem_of_ne_nil _ (hne x (List.mem_of_getElem? hx))
  have hpy : p ∈ y.2.outs := ((setL_is y.2.outs).2 p).1 (h2 ▸ ((setL_is x.2.outs).2 p).2 hp)
  have hsp : X = X.take i ++ x :: X.drop (i + 1) := by
    have := (List.take_append_drop i X).symm
    rw [List.drop_eq_getElem_cons hi, (List.getElem?_eq_some_iff.1 hx).2] at this
    exact this
  have hyt : y ∈ X.take i := by
    rw [List.mem_iff_getElem?]
    exact ⟨k, by rw [List.getElem?_take, if_pos hik]; exact hy⟩
  rw [hsp, outsL, List.flatMap_append, List.nodup_append] at hnd
  exact hnd.2.2 p (List.mem_flatMap.2 ⟨y, hyt, hpy⟩) p (List.mem_flatMap.2 ⟨x, by simp, hp⟩) rfl
theorem rsame_no {X : List ActR} (hne : ∀ x ∈ X, x.2.outs ≠ []) (hnd : (outsL X).Nodup) {i k : Nat} {x y : ActR} (hx : X[i]? = some x) (hy : X[k]? = some y) (hik : k < i) : decide (textK x.2 = textK y.2) = false := by
  simpa using outs_apart hne hnd hx hy hik
end Go.Proofs.YtjjpecggcjggpaaGreatDoor
/- What an operation of a drawn region yields: a fixed value, or one of which something is told. -/
namespace Go.Proofs.YtjjpecggcjggpaaGreatDoor
def VV (vals : List (Option Value)) (X : Nat → Value → World → Prop) (j : Nat) (v : Value) (w : World) : Prop :=
  match vals.getD j none with
  | some u => v = u
  | none => X j v w
theorem VV.keep {vals : List (Option Value)} {X : Nat → Value → World → Prop} {j : Nat} {v : Value} {w w' : World} (hX : X j v w → X j v w') (h : VV vals X j v w) : VV vals X j v w' := by
  unfold VV at *
  split at h
  · exact h
  · exact hX h
end Go.Proofs.YtjjpecggcjggpaaGreatDoor
/- The document's example. -/
namespace Go.Proofs.YtjjpecggcjggpaaGreatDoor
open Go.RowKit Go.Shelf
open Go.Lib (decDigits)
set_option maxRecDepth 100000
def fxA : ActK := ⟨[], [], [[98], [97], [98]], [], []⟩
def fxB : ActK := ⟨[], [], [[97], [98]], [], []⟩
theorem dec_small {n : Nat} (h : n < 10) : decDigits n = [UInt8.ofNat (48 + n)] := by rw [decDigits, dif_pos h]
theorem refSet_ab : refSet [[98], [97], [98]] = [[97], [98]] := by decide
theorem refSet_ab2 : refSet [[97], [98]] = [[97], [98]] := by decide
theorem refSet_nil : refSet [] = [] := rfl
theorem fx_text (a : ActK) (h1 : a.tool = []) (h2 : a.env = []) (h3 : setL a.ins = [[97], [98]]) (h4 : a.asks = []) (h5 : a.outs = []) :
    textK a = [48, 58, 48, 58, 54, 58, 49, 58, 97, 49, 58, 98, 48, 58, 48, 58] := by
  have e1 : envL [] = [] := by rw [envL, List.map_nil, ← refSet_eq, refSet_nil]; rfl
  have e2 : setL [] = [] := by rw [← refSet_eq]; rfl
  have d0 := dec_small (n := 0) (by decide)
  have d1 := dec_small (n := 1) (by decide)
  have d6 := dec_small (n := 6) (by decide)
  have r1 : rowL [[97], [98]] = [49, 58, 97, 49, 58, 98] := by
    rw [rowL_cons, rowL_cons, rowL_nil]
    simp only [List.length_cons, List.length_nil, Nat.zero_add]
    rw [d1]
    rfl
  rw [textK, partsK, h1, h2, h3, h4, h5, e1, e2]
  simp only [List.map_cons, List.map_nil, rowL_nil, r1]
  rw [rowL_cons, rowL_cons, rowL_cons, rowL_cons, rowL_cons, rowL_nil]
  simp only [List.length_cons, List.length_nil, Nat.zero_add, Nat.reduceAdd]
  rw [d0, d6]
  rfl
theorem fxA_text : textK fxA = [48, 58, 48, 58, 54, 58, 49, 58, 97, 49, 58, 98, 48, 58, 48, 58] := fx_text fxA rfl rfl (by rw [← refSet_eq]; exact refSet_ab) rfl rfl
theorem fxB_text : textK fxB = [48, 58, 48, 58, 54, 58, 49, 58, 97, 49, 58, 98, 48, 58, 48, 58] := fx_text fxB rfl rfl (by rw [← refSet_eq]; exact refSet_ab2) rfl rfl
theorem fx_ne : (Sha.sum [48, 58, 48, 58, 54, 58, 49, 58, 97, 49, 58, 98, 48, 58, 48, 58] == List.replicate 32 0) = false := by decide +kernel
theorem fxA_mild : Mild fxA := ⟨by decide, by decide, by decide, by decide, by decide, by decide, by decide, by decide, by decide⟩
theorem fxB_mild : Mild fxB := ⟨by decide, by decide, by decide, by decide, by decide, by decide, by decide, by decide, by decide⟩
set_option maxHeartbeats 4000000 in
theorem fixed_any (w : World) (hTab : Tabs w) : Calls Tryz.prog 4 #[] w fun e w' => e = .returned (.bool true) ∧ Below w.heap.size w w' := by
  obtain ⟨W, hW⟩ : ∃ W, W = ((((w.alloc (.cells #[.string ⟨#[98]⟩, .string ⟨#[97]⟩, .string ⟨#[98]⟩] 9)).alloc (.cells #[.string ⟨#[97]⟩, .string ⟨#[98]⟩] 9)).alloc (.cells #[.string ⟨#[]⟩, .string ⟨#[]⟩, .string ⟨#[]⟩, .slice none 0 0, .slice (some ⟨w.heap.size, 0, none⟩) 3 3, .slice none 0 0, .slice none 0 0] 30)).alloc (.cells #[.string ⟨#[]⟩, .string ⟨#[]⟩, .string ⟨#[]⟩, .slice none 0 0, .slice (some ⟨w.heap.size + 1, 0, none⟩) 2 2, .slice none 0 0, .slice none 0 0] 30)) := ⟨_, rfl⟩
  have hB0 : Below w.heap.size w W := by rw [hW]; exact ((((Below.refl _ w).alloc (Nat.le_refl _) _).alloc (by simp) _).alloc (by simp; omega) _).alloc (by simp; omega) _
  have r1 := Rd.of_lit w #[.string ⟨#[98]⟩, .string ⟨#[97]⟩, .string ⟨#[98]⟩] 9 1 3 (by decide) rfl
  have r2 := Rd.of_lit (w.alloc (.cells #[.string ⟨#[98]⟩, .string ⟨#[97]⟩, .string ⟨#[98]⟩] 9)) #[.string ⟨#[97]⟩, .string ⟨#[98]⟩] 9 1 2 (by decide) rfl
  rw [World.size_alloc] at r2
  obtain ⟨VA, hVA⟩ : ∃ V : List Value, V = [.string ⟨#[]⟩, .string ⟨#[]⟩, .string ⟨#[]⟩, .slice none 0 0, .slice (some ⟨w.heap.size, 0, none⟩) 3 3, .slice none 0 0, .slice none 0 0] := ⟨_, rfl⟩
  obtain ⟨VB, hVB⟩ : ∃ V : List Value, V = [.string ⟨#[]⟩, .string ⟨#[]⟩, .string ⟨#[]⟩, .slice none 0 0, .slice (some ⟨w.heap.size + 1, 0, none⟩) 2 2, .slice none 0 0, .slice none 0 0] := ⟨_, rfl⟩
  have hhB : W.heap[w.heap.size + 1 + 1 + 1]? = some (.cells VB.toArray 30 (0, 0)) := by
    rw [hW, hVB]
    have := World.alloc_heap_new (((w.alloc (.cells #[.string ⟨#[98]⟩, .string ⟨#[97]⟩, .string ⟨#[98]⟩] 9)).alloc (.cells #[.string ⟨#[97]⟩, .string ⟨#[98]⟩] 9)).alloc (.cells #[.string ⟨#[]⟩, .string ⟨#[]⟩, .string ⟨#[]⟩, .slice none 0 0, .slice (some ⟨w.heap.size, 0, none⟩) 3 3, .slice none 0 0, .slice none 0 0] 30)) (.cells #[.string ⟨#[]⟩, .string ⟨#[]⟩, .string ⟨#[]⟩, .slice none 0 0, .slice (some ⟨w.heap.size + 1, 0, none⟩) 2 2, .slice none 0 0, .slice none 0 0] 30)
    rwa [World.size_alloc, World.size_alloc, World.size_alloc] at this
  have hhA : W.heap[w.heap.size + 1 + 1]? = some (.cells VA.toArray 30 (0, 0)) := by
    rw [hW, hVA]
    refine (Below.heap_alloc _ _ _ (by simp)).trans ?_
    have := World.alloc_heap_new ((w.alloc (.cells #[.string ⟨#[98]⟩, .string ⟨#[97]⟩, .string ⟨#[98]⟩] 9)).alloc (.cells #[.string ⟨#[97]⟩, .string ⟨#[98]⟩] 9)) (.cells #[.string ⟨#[]⟩, .string ⟨#[]⟩, .string ⟨#[]⟩, .slice none 0 0, .slice (some ⟨w.heap.size, 0, none⟩) 3 3, .slice none 0 0, .slice none 0 0] 30)
    rwa [World.size_alloc, World.size_alloc] at this
  have hA : ActBox W (w.heap.size + 1 + 1) VA ⟨⟨#[]⟩, ⟨#[]⟩, none, some ⟨w.heap.size, 0, none⟩, none, none, 0, 3, 0, 0⟩ fxA := ⟨hhA, by rw [hVA]; rfl, by rw [hVA]; rfl, ⟨Rd.none_ _ _ _, by rw [hW]; exact ((r1.alloc _).alloc _).alloc _, Rd.none_ _ _ _, Rd.none_ _ _ _, by decide, by decide, by decide, by decide⟩⟩
  have hBx : ActBox W (w.heap.size + 1 + 1 + 1) VB ⟨⟨#[]⟩, ⟨#[]⟩, none, some ⟨w.heap.size + 1, 0, none⟩, none, none, 0, 2, 0, 0⟩ fxB := ⟨hhB, by rw [hVB]; rfl, by rw [hVB]; rfl, ⟨Rd.none_ _ _ _, by rw [hW]; exact (r2.alloc _).alloc _, Rd.none_ _ _ _, Rd.none_ _ _ _, by decide, by decide, by decide, by decide⟩⟩
  have hT0 := hTab.on hB0
  obtain ⟨S, hS⟩ : ∃ S, S = Sha.sum [48, 58, 48, 58, 54, 58, 49, 58, 97, 49, 58, 98, 48, 58, 48, 58] := ⟨_, rfl⟩
  have hne := fx_ne
  rw [← hS] at hne
  have hSl : S.length = 32 := by rw [hS]; exact sum_len _
  have heq := run_eq_dig S S hSl hSl
  have hnq := run_neq_dig S (List.replicate 32 0) hSl (by simp)
  rw [hne] at hnq
  obtain ⟨Z, hZ⟩ : ∃ Z, Z = u8s (List.replicate 32 0) := ⟨_, rfl⟩
  rw [← hZ] at hnq
  have HZ := hid2 hZ
  have CA := hid2 (fun (w2 : World) (hb : Below W.heap.size W w2) => (hA.below hb).of fxA_mild (hT0.on hb))
  have CB := hid2 (fun (w2 : World) (hb : Below W.heap.size W w2) => (hBx.below hb).of fxB_mild (hT0.on hb))
  have CR := hid2 (fun (w2 : World) (hb : Below W.heap.size W w2) => (hBx.below hb).rof fxB_mild)
  rw [fxA_text, ← hS] at CA
  rw [fxB_text, ← hS] at CB CR
  obtain ⟨gB, hgB⟩ : ∃ g, g = w.heap.size + 1 + 1 + 1 := ⟨_, rfl⟩
  obtain ⟨gA, hgA⟩ : ∃ g, g = w.heap.size + 1 + 1 := ⟨_, rfl⟩
  rw [← hgA] at hA
  rw [← hgB] at hBx
  have HgA := hid2 (fun (w2 : World) (hb : Below W.heap.size W w2) => hA.below hb)
  have HgB := hid2 (fun (w2 : World) (hb : Below W.heap.size W w2) => hBx.below hb)
  have HB0 := hid2 hB0
  have HW := hid2 hW
  have HQA := hid2 hgA
  have HQB := hid2 hgB
  clear hZ hB0 r1 r2 hVA hVB hhA hhB hA hBx hT0 hS hne hSl hW hTab hgA hgB
  go_enter Tryz.func4, Tryz.ntmps4
  go_wp2_with fail
  rw [← HW.out, ← HQB.out, ← HQA.out]
  refine wp_region_grd 18 (by kernel_rfl) (by kernel_rfl) (by kernel_rfl) _ rfl (by kernel_rfl) (fun j v _ => ([.agg VA.toArray, .agg (u8s S).toArray, .agg VB.toArray, .agg (u8s S).toArray, .bool true, .bool true, .agg VA.toArray, .agg (u8s S).toArray, .agg VB.toArray, .agg (u8s S).toArray, .bool true, .bool true, .bool true, .agg VA.toArray, .agg (u8s S).toArray, .agg Z.toArray, .bool true, .bool true] : List Value)[j]? = some v) (fun w2 => Below W.heap.size W w2) (fun a b => Below a.heap.size a b) ((Below.refl _ W).drew) (fun _ _ _ _ hb hv => hv) ?_ ?_
  · refine of_allOps ⟨?_, ?_, ?_, ?_, ?_, ?_, ?_, ?_, ?_, ?_, ?_, ?_, ?_, ?_, ?_, ?_, ?_, ?_, trivial⟩
    · intro T2 w2 hM hN hO hE K hK
      have o1 : T2[1]? = some (.pointer (some ⟨gA, 0, none⟩)) := hO 1 rfl
      clear hE hO hN
      refine step_plain0 rfl ?_
      refine wp_load_lit gA 0 _ _ _ (HgA.out w2 hM).heap VA (fun j _ => getElem?_zero_add _ j) _ Tryz.underlying30 (HgA.out w2 hM).info ⟨?_, rfl⟩ ?_
      · simp [Act.eval, o1]
      · exact hK _ _ rfl hM (Below.refl _ _)
    · intro T2 w2 hM hN hO hE K hK
      obtain ⟨v0, h0, e0⟩ := hE ⟨0, .data⟩ (by simp) rfl _ _ rfl rfl
      rw [show v0 = .agg VA.toArray from (Option.some.inj e0).symm] at h0
      clear hE hO hN
      refine step_plain0 rfl ?_
      go_simp
      refine (CA.out w2 hM).mono ?_
      rintro e w3 ⟨rfl, hb⟩
      exact hK _ _ rfl (hM.trans (hb.mono hM.size)) hb
    · intro T2 w2 hM hN hO hE K hK
      have o2 : T2[2]? = some (.pointer (some ⟨gB, 0, none⟩)) := hO 2 rfl
      clear hE hO hN
      refine step_plain0 rfl ?_
      refine wp_load_lit gB 0 _ _ _ (HgB.out w2 hM).heap VB (fun j _ => getElem?_zero_add _ j) _ Tryz.underlying30 (HgB.out w2 hM).info ⟨?_, rfl⟩ ?_
      · simp [Act.eval, o2]
      · exact hK _ _ rfl hM (Below.refl _ _)
    · intro T2 w2 hM hN hO hE K hK
      obtain ⟨v2, h2, e2⟩ := hE ⟨2, .data⟩ (by simp) rfl _ _ rfl rfl
      rw [show v2 = .agg VB.toArray from (Option.some.inj e2).symm] at h2
      clear hE hO hN
      refine step_plain0 rfl ?_
      go_simp
      refine (CB.out w2 hM).mono ?_
      rintro e w3 ⟨rfl, hb⟩
      exact hK _ _ rfl (hM.trans (hb.mono hM.size)) hb
    · intro T2 w2 hM hN hO hE K hK
      obtain ⟨v1, h1, e1⟩ := hE ⟨1, .data⟩ (by simp) rfl _ _ rfl rfl
      rw [show v1 = .agg (u8s S).toArray from (Option.some.inj e1).symm] at h1
      obtain ⟨v3, h3, e3⟩ := hE ⟨3, .data⟩ (by simp) rfl _ _ rfl rfl
      rw [show v3 = .agg (u8s S).toArray from (Option.some.inj e3).symm] at h3
      clear hE hO hN
      refine step_plain0 rfl ?_
      have hq := heq w2
      rw [beq_self_eq_true] at hq
      go_simp
      exact hK _ _ rfl hM (Below.refl _ _)
    · intro T2 w2 hM hN hO hE K hK
      obtain ⟨v4, h4, e4⟩ := hE ⟨4, .data⟩ (by simp) rfl _ _ rfl rfl
      rw [show v4 = .bool true from (Option.some.inj e4).symm] at h4
      clear hE hO hN
      refine step_plain0 rfl ?_
      go_simp
      exact hK _ _ rfl hM (Below.refl _ _)
    · intro T2 w2 hM hN hO hE K hK
      obtain ⟨v5, h5, e5⟩ := hE ⟨5, .guard⟩ (by simp) rfl _ _ rfl rfl
      rw [show v5 = .bool true from (Option.some.inj e5).symm] at h5
      have o1 : T2[1]? = some (.pointer (some ⟨gA, 0, none⟩)) := hO 1 rfl
      clear hE hO hN
      refine grd_met rfl rfl rfl h5 ?_
      refine wp_load_lit gA 0 _ _ _ (HgA.out w2 hM).heap VA (fun j _ => getElem?_zero_add _ j) _ Tryz.underlying30 (HgA.out w2 hM).info ⟨?_, rfl⟩ ?_
      · simp [Act.eval, o1]
      · exact hK _ _ rfl hM (Below.refl _ _)
    · intro T2 w2 hM hN hO hE K hK
      obtain ⟨v6, h6, e6⟩ := hE ⟨6, .data⟩ (by simp) rfl _ _ rfl rfl
      rw [show v6 = .agg VA.toArray from (Option.some.inj e6).symm] at h6
      obtain ⟨v5, h5, e5⟩ := hE ⟨5, .guard⟩ (by simp) rfl _ _ rfl rfl
      rw [show v5 = .bool true from (Option.some.inj e5).symm] at h5
      clear hE hO hN
      refine grd_met rfl rfl rfl h5 ?_
      go_simp
      refine (CA.out w2 hM).mono ?_
      rintro e w3 ⟨rfl, hb⟩
      exact hK _ _ rfl (hM.trans (hb.mono hM.size)) hb
    · intro T2 w2 hM hN hO hE K hK
      obtain ⟨v5, h5, e5⟩ := hE ⟨5, .guard⟩ (by simp) rfl _ _ rfl rfl
      rw [show v5 = .bool true from (Option.some.inj e5).symm] at h5
      have o2 : T2[2]? = some (.pointer (some ⟨gB, 0, none⟩)) := hO 2 rfl
      clear hE hO hN
      refine grd_met rfl rfl rfl h5 ?_
      refine wp_load_lit gB 0 _ _ _ (HgB.out w2 hM).heap VB (fun j _ => getElem?_zero_add _ j) _ Tryz.underlying30 (HgB.out w2 hM).info ⟨?_, rfl⟩ ?_
      · simp [Act.eval, o2]
      · exact hK _ _ rfl hM (Below.refl _ _)
    · intro T2 w2 hM hN hO hE K hK
      obtain ⟨v8, h8, e8⟩ := hE ⟨8, .data⟩ (by simp) rfl _ _ rfl rfl
      rw [show v8 = .agg VB.toArray from (Option.some.inj e8).symm] at h8
      obtain ⟨v5, h5, e5⟩ := hE ⟨5, .guard⟩ (by simp) rfl _ _ rfl rfl
      rw [show v5 = .bool true from (Option.some.inj e5).symm] at h5
      clear hE hO hN
      refine grd_met rfl rfl rfl h5 ?_
      go_simp
      refine (CR.out w2 hM).mono ?_
      rintro e w3 ⟨rfl, hb⟩
      exact hK _ _ rfl (hM.trans (hb.mono hM.size)) hb
    · intro T2 w2 hM hN hO hE K hK
      obtain ⟨v7, h7, e7⟩ := hE ⟨7, .data⟩ (by simp) rfl _ _ rfl rfl
      rw [show v7 = .agg (u8s S).toArray from (Option.some.inj e7).symm] at h7
      obtain ⟨v9, h9, e9⟩ := hE ⟨9, .data⟩ (by simp) rfl _ _ rfl rfl
      rw [show v9 = .agg (u8s S).toArray from (Option.some.inj e9).symm] at h9
      obtain ⟨v5, h5, e5⟩ := hE ⟨5, .guard⟩ (by simp) rfl _ _ rfl rfl
      rw [show v5 = .bool true from (Option.some.inj e5).symm] at h5
      clear hE hO hN
      refine grd_met rfl rfl rfl h5 ?_
      have hq := heq w2
      rw [beq_self_eq_true] at hq
      go_simp
      exact hK _ _ rfl hM (Below.refl _ _)
    · intro T2 w2 hM hN hO hE K hK
      obtain ⟨v5, h5, e5⟩ := hE ⟨5, .data⟩ (by simp) rfl _ _ rfl rfl
      rw [show v5 = .bool true from (Option.some.inj e5).symm] at h5
      obtain ⟨v10, h10, e10⟩ := hE ⟨10, .data⟩ (by simp) rfl _ _ rfl rfl
      rw [show v10 = .bool true from (Option.some.inj e10).symm] at h10
      clear hE hO hN
      refine step_plain0 rfl ?_
      go_simp
      exact hK _ _ rfl hM (Below.refl _ _)
    · intro T2 w2 hM hN hO hE K hK
      obtain ⟨v11, h11, e11⟩ := hE ⟨11, .data⟩ (by simp) rfl _ _ rfl rfl
      rw [show v11 = .bool true from (Option.some.inj e11).symm] at h11
      clear hE hO hN
      refine step_plain0 rfl ?_
      go_simp
      exact hK _ _ rfl hM (Below.refl _ _)
    · intro T2 w2 hM hN hO hE K hK
      obtain ⟨v12, h12, e12⟩ := hE ⟨12, .guard⟩ (by simp) rfl _ _ rfl rfl
      rw [show v12 = .bool true from (Option.some.inj e12).symm] at h12
      have o1 : T2[1]? = some (.pointer (some ⟨gA, 0, none⟩)) := hO 1 rfl
      clear hE hO hN
      refine grd_met rfl rfl rfl h12 ?_
      refine wp_load_lit gA 0 _ _ _ (HgA.out w2 hM).heap VA (fun j _ => getElem?_zero_add _ j) _ Tryz.underlying30 (HgA.out w2 hM).info ⟨?_, rfl⟩ ?_
      · simp [Act.eval, o1]
      · exact hK _ _ rfl hM (Below.refl _ _)
    · intro T2 w2 hM hN hO hE K hK
      obtain ⟨v13, h13, e13⟩ := hE ⟨13, .data⟩ (by simp) rfl _ _ rfl rfl
      rw [show v13 = .agg VA.toArray from (Option.some.inj e13).symm] at h13
      obtain ⟨v12, h12, e12⟩ := hE ⟨12, .guard⟩ (by simp) rfl _ _ rfl rfl
      rw [show v12 = .bool true from (Option.some.inj e12).symm] at h12
      clear hE hO hN
      refine grd_met rfl rfl rfl h12 ?_
      go_simp
      refine (CA.out w2 hM).mono ?_
      rintro e w3 ⟨rfl, hb⟩
      exact hK _ _ rfl (hM.trans (hb.mono hM.size)) hb
    · intro T2 w2 hM hN hO hE K hK
      obtain ⟨v12, h12, e12⟩ := hE ⟨12, .guard⟩ (by simp) rfl _ _ rfl rfl
      rw [show v12 = .bool true from (Option.some.inj e12).symm] at h12
      clear hE hO hN
      refine grd_met rfl rfl rfl h12 ?_
      go_simp
      exact hK _ _ (by rw [HZ.out]; rfl) hM (Below.refl _ _)
    · intro T2 w2 hM hN hO hE K hK
      obtain ⟨v14, h14, e14⟩ := hE ⟨14, .data⟩ (by simp) rfl _ _ rfl rfl
      rw [show v14 = .agg (u8s S).toArray from (Option.some.inj e14).symm] at h14
      obtain ⟨v15, h15, e15⟩ := hE ⟨15, .data⟩ (by simp) rfl _ _ rfl rfl
      rw [show v15 = .agg Z.toArray from (Option.some.inj e15).symm] at h15
      obtain ⟨v12, h12, e12⟩ := hE ⟨12, .guard⟩ (by simp) rfl _ _ rfl rfl
      rw [show v12 = .bool true from (Option.some.inj e12).symm] at h12
      clear hE hO hN
      refine grd_met rfl rfl rfl h12 ?_
      have hq := hnq w2
      go_simp
      exact hK _ _ rfl hM (Below.refl _ _)
    · intro T2 w2 hM hN hO hE K hK
      obtain ⟨v12, h12, e12⟩ := hE ⟨12, .data⟩ (by simp) rfl _ _ rfl rfl
      rw [show v12 = .bool true from (Option.some.inj e12).symm] at h12
      obtain ⟨v16, h16, e16⟩ := hE ⟨16, .data⟩ (by simp) rfl _ _ rfl rfl
      rw [show v16 = .bool true from (Option.some.inj e16).symm] at h16
      clear hE hO hN
      refine step_plain0 rfl ?_
      go_simp
      exact hK _ _ rfl hM (Below.refl _ _)
  · intro u w2 hM hF
    have e17 : u 17 = .bool true := (Option.some.inj (hF 17 (by omega))).symm
    clear hF
    simp only [fillAll, Nat.reduceAdd, e17, List.take_succ_cons, List.take_zero, List.drop_succ_cons, List.drop_zero, List.setIfInBounds_toArray, List.set_cons_succ, List.set_cons_zero]
    go_wp2_with fail
    go_ret
    exact ⟨rfl, HB0.out.trans (hM.mono HB0.out.size)⟩
end Go.Proofs.YtjjpecggcjggpaaGreatDoor
