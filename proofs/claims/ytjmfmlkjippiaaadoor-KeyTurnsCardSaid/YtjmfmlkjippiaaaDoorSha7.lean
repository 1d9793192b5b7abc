/- The walks of strings.Builder as Hex uses it, and of Hex. -/
import Derived.Test.YtjmfmlkjippiaaaDoorSha6
import Derived.Lib.Builder
import Derived.Lib.UnsafeStr
import Derived.Laws.Externs
import Derived.BigRegion
namespace Go.Proofs.YtjmfmlkjippiaaaDoor
open Go.RowKit
set_option maxRecDepth 100000

/-- a builder in block g that holds l -/
def BldAt (w : World) (base g : Nat) (l : List UInt8) : Prop :=
  base ≤ g ∧ ∃ p A c, w.heap[g]? = some (.cells #[p, .slice A l.length c] 60 (0, 0)) ∧ (p = .pointer none ∨ p = .pointer (some ⟨g, 0, none⟩)) ∧ Own w base 5 1 A l.length c (u8s l)
theorem grownBy_refl (w : World) (r : Option Nat) : w.grownBy w r := ⟨rfl, rfl, rfl, Nat.le_refl _, fun _ _ _ => rfl⟩
theorem copyCheck_any (w : World) (g : Nat) (v p : Value) (hg : w.heap[g]? = some (.cells #[p, v] 60 (0, 0))) (hp : p = .pointer none ∨ p = .pointer (some ⟨g, 0, none⟩)) :
    Calls Tryd.prog 47 #[.pointer (some ⟨g, 0, none⟩)] w fun e w' => e = .returned (.tuple #[]) ∧ w'.heap[g]? = some (.cells #[.pointer (some ⟨g, 0, none⟩), v] 60 (0, 0)) ∧ w.grownBy w' (some g) := by
  have hc : w.cell? ⟨g, 0, none⟩ = some p := cell_of_row w g 0 _ _ _ hg
  have hfz : w.frozen? ⟨g, 0, none⟩ = false := frozen_of_row w g 0 _ _ hg
  have hsh : w.shape? g = some (60, 2) := by simp [World.shape?, hg]
  rcases hp with rfl | rfl
  · go_enter Tryd.func47, Tryd.ntmps47
    go_wp2
    rw [Lib.run_to_unsafe w ⟨g, 0, none⟩ Tryd.underlying57 Tryd.underlying94 rfl (by decide) hsh (Nat.zero_lt_succ 1)]
    simp only [Result.andThen]
    rw [Oper.upon_value]
    go_wp2
    rw [run_callFunc_extern Tryd.func57 (by kernel_rfl) (by kernel_rfl) (by kernel_rfl) (e := Extern.AbiNoEscape.same) (by kernel_rfl)]
    rw [Lib.run_noEscape]
    simp only [Result.andThen]
    rw [Oper.upon_value]
    go_wp2
    rw [Lib.run_from_unsafe w ⟨g, 0, none⟩ Tryd.underlying94 Tryd.underlying57 rfl hsh (by kernel_rfl)]
    simp only [Result.andThen]
    rw [Oper.upon_value]
    go_wp2
    go_end0
    exact ⟨rfl, by rw [heap_setCell_same w g 0 _ _ _ hg]; rfl, grownBy_setCell (grownBy_refl w _) _⟩
  · go_enter Tryd.func47, Tryd.ntmps47
    go_wp2
    rw [Lib.run_neq_ptr_same w _ Tryd.underlying57 rfl]
    go_wp2
    go_end0
    exact ⟨rfl, hg, grownBy_refl w _⟩
theorem heap_set1 {g : Nat} {p v : Value} {w : World} (t : TypeId) (h : w.heap[g]? = some (.cells #[p, v] t (0, 0))) (u : Value) : (w.setCell ⟨g, 1, none⟩ u).heap[g]? = some (.cells #[p, u] t (0, 0)) := by
  rw [heap_setCell_same w g 1 _ _ _ h]; rfl
theorem writeByte_any (w : World) (base g : Nat) (l : List UInt8) (h : BldAt w base g l) (b : UInt8) (hlen : l.length + 1 ≤ 140737488355328) (hbase : base ≤ w.heap.size) :
    Calls Tryd.prog 32 #[.pointer (some ⟨g, 0, none⟩), .int .u8 b.toNat] w fun e w' => e = .returned .nilIface ∧ BldAt w' base g (l ++ [b]) ∧ Below base w w' := by
  obtain ⟨hbg, p, A, c, hg, hp, hown⟩ := h
  have hgl := heap_lt hg
  have hne := hown.ne hg (by decide)
  obtain ⟨n, hn⟩ : ∃ n, n = l.length := ⟨_, rfl⟩
  rw [← hn] at hg hown hlen
  have HN := hid2 hn
  clear hn
  go_enter Tryd.func32, Tryd.ntmps32
  go_wp2_with (first
    | (go_at_call 47; refine (copyCheck_any w g _ p hg hp).mono ?_; rintro e w1 ⟨rfl, hg1, hgr1⟩; have hc1 : w1.cell? ⟨g, 1, none⟩ = some (.slice A n c) := cell_of_row w1 g 1 _ _ _ hg1; have hf1 : w1.frozen? ⟨g, 1, none⟩ = false := frozen_of_row w1 g 1 _ _ hg1; have hown1 := hown.grown hgr1 (fun b hb e => hne (hb.trans e)); clear hown)
    | (at_builtin; have _t := hown1; go_must ((with_reducible refine wpList_append_lit 5 (.int .u8 0) 1 1 Tryd.underlying58 info_u8 rfl base A n c (u8s l) (hown1.alloc _) 1 [.int .u8 b.toNat] (.slice (some ⟨w1.heap.size, 0, none⟩) 1 1) (Src.slice Tryd.underlying58 (Rd.one w1 _ _)) one_int ?_ ?_ ?_ ?_ ?_); (unfold maxLen; omega); omega; (simp; have := hgr1.size; omega); exact ⟨rfl, rfl⟩; intro A3 c3 w3 hown3 hgr3 hbl3; clear hown1; have hg3 := (hgr3.block g (by simp; have := hgr1.size; omega) (fun e => hne e.symm)).trans ((Below.heap_alloc w1 _ g (heap_lt hg1)).trans hg1); have hc3 : w3.cell? ⟨g, 1, none⟩ = some (.slice A n c) := cell_of_row w3 g 1 _ _ _ hg3; have hf3 : w3.frozen? ⟨g, 1, none⟩ = false := frozen_of_row w3 g 1 _ _ hg3)))
  go_ret
  have hb1 : Below base w w1 := (Below.refl base w).grown hgr1 hbase (fun k e => by injection e with e; omega)
  have hb3 : Below base w w3 := (hb1.alloc (by have := hgr1.size; omega) _).grown hgr3 (by simp; have := hgr1.size; omega) (fun k e => (_t.block k e).1)
  · refine ⟨rfl, ⟨hbg, _, A3, c3, ?_, .inr rfl, ?_⟩, hb3.setCell (p := ⟨g, 1, none⟩) (by exact hbg) _⟩
    · have := heap_set1 _ hg3 (.slice A3 (n + 1) c3)
      rw [List.length_append]
      rw [HN.out] at this ⊢
      exact this
    · have h4 := hown3.setOther (p := ⟨g, 1, none⟩) (hown3.ne hg3 (by decide)) (.slice A3 (n + 1) c3)
      rw [u8s_snoc] at h4
      rw [List.length_append]
      rw [HN.out] at h4 ⊢
      exact h4
theorem liesAt_bytes_at {P : Program} {e : TypeId} (hc : P.cellsOf e = 1) (count o n : Nat) (hn : o + n ≤ count) : liesAt P P.depth e count o e n = true := by
  have hd : P.depth = (2 * (P.types.size + Made.depth) + 1) + 1 := rfl
  rw [hd]
  simp only [liesAt, Bool.or_eq_true]
  left
  rw [hd]
  simp [rowAt, hc, hn, sameLayout, Nat.mod_one]
theorem run_unsafeString_at {P : Program} (w : World) (pt it ty e : TypeId) (hp : P.underlying pt = some (.pointer e)) (hc : P.cellsOf e = 1) (g o cells : Nat) (hsh : w.shape? g = some (e, cells)) (l : List UInt8) (h0 : l ≠ []) (hn : o + l.length ≤ cells) (h63 : l.length ≤ 9223372036854775807)
    (hcell : ∀ j x, l[j]? = some x → w.cell? ((⟨g, o, none⟩ : Addr).add j) = some (.int .u8 x.toNat)) :
    (Builtin.unsafeString_ #[pt, it] ty #[.pointer (some ⟨g, o, none⟩), .int .i64 l.length]).run P w = .ok (.string ⟨l.toArray⟩) (w.freeze ⟨g, o, none⟩ l.length) := by
  have hl : l.length ≠ 0 := by simpa using h0
  have hlb := Lib.run_loadBytes (P := P) w l ⟨g, o, none⟩ .empty hcell
  have hlies := liesAt_bytes_at (P := P) hc (cells / P.cellsOf e) o l.length (by rw [hc]; simpa using hn)
  have h63' : ¬ (9223372036854775807 : Int) < (l.length : Int) := by omega
  have hmax : IntKind.i64.max = 9223372036854775807 := rfl
  have hneg : ¬ (l.length : Int) < 0 := by omega
  show Sem.run P (Bind.bind (asInt (.int .i64 l.length)) _) w = _
  simp [asInt, asIntOf, hmax, h63', hneg, hl, variablesAt, hsh, elemOf, run_underlying hp, hlies, hlb]
theorem bstring_any (w : World) (base g : Nat) (l : List UInt8) (h : BldAt w base g l) (h0 : l ≠ []) :
    Calls Tryd.prog 33 #[.pointer (some ⟨g, 0, none⟩)] w fun e w' => e = .returned (.string ⟨l.toArray⟩) ∧ Below base w w' := by
  obtain ⟨hbg, p, A, c, hg, hp, hown⟩ := h
  have hgl := heap_lt hg
  have hc1 : w.drew.cell? ⟨g, 1, none⟩ = some (.slice A l.length c) := cell_of_row w g 1 _ _ _ hg
  have hl0 : 0 < l.length := List.length_pos_iff.2 h0
  have hnc := hown.2.1
  have hcm := hown.2.2.1
  obtain ⟨b, o, cur, fr, rfl, hbb, hcur, hfr, hoc, hcx⟩ := hown.at_ (by omega)
  have hSD : (Builtin.unsafeSliceData_ #[58] 79 #[.slice (some ⟨b, o, none⟩) l.length c]).run Tryd.prog w.drew = .ok (.pointer (some ⟨b, o, none⟩)) w.drew :=
    Lib.run_unsafeSliceData_row _ _ _ _ _ _ (by omega)
  have hUS : (Builtin.unsafeString_ #[79, 3] 9 #[.pointer (some ⟨b, o, none⟩), .int .i64 l.length]).run Tryd.prog w.drew = .ok (.string ⟨l.toArray⟩) (w.drew.freeze ⟨b, o, none⟩ l.length) := by
    refine run_unsafeString_at w.drew 79 3 9 5 Tryd.underlying79 (by kernel_rfl) b o cur.size (by have hg' : w.drew.heap[b]? = some (.cells cur 5 fr) := hcur; simp [World.shape?, hg']) l h0 (by omega) (by unfold maxLen at hcm; omega) ?_
    intro j x hx
    have hj : j < l.length := by
      rcases Nat.lt_or_ge j l.length with h | h
      · exact h
      · rw [List.getElem?_eq_none h] at hx; cases hx
    rw [addr_add]
    refine (cell_of_row w b (o + j) cur _ _ hcur).trans ?_
    rw [hcx j (by omega), u8s_get l hj, List.getD_eq_getElem?_getD, hx]
    rfl
  have hl63 : l.length ≤ 9223372036854775807 := by unfold maxLen at hcm; omega
  clear hcx hfr hoc hcur hown hg hp
  go_enter Tryd.func33, Tryd.ntmps33
  go_wp2
  go_region
  all_goals (go_wp2; go_ret; exact ⟨rfl, Lib.below_freeze (Below.drew (Below.refl base w)) (p := ⟨b, o, none⟩) hbb _⟩)
/-- a digit's sign -/
def digitOf (n : Nat) : UInt8 := [48, 49, 50, 51, 52, 53, 54, 55, 56, 57, 97, 98, 99, 100, 101, 102].getD n 0
/-- a byte's two signs -/
def twoOf (b : UInt8) : List UInt8 := [digitOf (b.toNat / 16), digitOf (b.toNat % 16)]
def hexOf (d : List UInt8) : List UInt8 := d.flatMap twoOf
theorem hexOf_take (d : List UInt8) (k : Nat) (h : k < d.length) : hexOf (d.take (k + 1)) = hexOf (d.take k) ++ twoOf (d.getD k 0) := by
  rw [List.take_succ_eq_append_getElem h, hexOf, hexOf, List.flatMap_append, List.getD_eq_getElem?_getD, List.getElem?_eq_getElem h]; simp
theorem hexOf_length (d : List UInt8) : (hexOf d).length = 2 * d.length := by
  induction d with
  | nil => rfl
  | cons x d ih => rw [hexOf, List.flatMap_cons, List.length_append, ← hexOf, ih]; simp [twoOf]; omega
theorem run_index_b {P : Program} (T E n : TypeId) (hT : P.underlying T = some (.array n E)) (hE : P.underlying E = some (.int .u8)) (hS : (P.info? E).map (·.size) = some 1) (l : List UInt8) (k : Nat) (hk : k < l.length) (hn : l.length = n) (w : World) :
    (Instr.index T (.agg (u8s l).toArray) (.int .i64 k)).run P w = .ok (.int .u8 (l.getD k 0).toNat) w := by
  cases hq : P.info? E with
  | none => simp [hq] at hS
  | some i =>
    have hs : i.size = 1 := by simpa [hq] using hS
    have hc := u8s_get l hk
    simp [Instr.index, asIntOf, run_underlying hT, sizeOf, typeInfo, hq, hs, part, isAgg, run_underlying hE]
    rw [hc]
    simp
    intro h
    omega
theorem info_b1 : (Tryd.prog.info? 5).map (·.size) = some 1 := by kernel_rfl
theorem digit_fin : ∀ n : Fin 16, (⟨#[48, 49, 50, 51, 52, 53, 54, 55, 56, 57, 97, 98, 99, 100, 101, 102]⟩ : ByteArray)[n.val]'n.isLt = digitOf n.val := by decide
theorem digit_at (n : Nat) (h : n < 16) : (⟨#[48, 49, 50, 51, 52, 53, 54, 55, 56, 57, 97, 98, 99, 100, 101, 102]⟩ : ByteArray)[n]'h = digitOf n := digit_fin ⟨n, h⟩
theorem hex_abc : hexOf (Sha.sum [97, 98, 99]) = [98, 97, 55, 56, 49, 54, 98, 102, 56, 102, 48, 49, 99, 102, 101, 97, 52, 49, 52, 49, 52, 48, 100, 101, 53, 100, 97, 101, 50, 50, 50, 51, 98, 48, 48, 51, 54, 49, 97, 51, 57, 54, 49, 55, 55, 97, 57, 99, 98, 52, 49, 48, 102, 102, 54, 49, 102, 50, 48, 48, 49, 53, 97, 100] := by
  rw [Sha.sum_abc]; decide
end Go.Proofs.YtjmfmlkjippiaaaDoor
