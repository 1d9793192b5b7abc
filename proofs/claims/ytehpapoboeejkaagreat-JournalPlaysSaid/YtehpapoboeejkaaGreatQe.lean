/- The document's Frames, Add and Swap. -/
import Derived.Test.YtehpapoboeejkaaGreatQd
import Derived.Test.YtehpapoboeejkaaGreatQa
import Derived.Test.YtehpapoboeejkaaGreatQc
set_option linter.unusedSimpArgs false
set_option linter.unusedVariables false
namespace Go.Proofs.YtehpapoboeejkaaGreat
open Go.RowKit Go.Maps
set_option maxRecDepth 100000
theorem strV_at {l : List (List UInt8)} {k : Nat} {x : List UInt8} (h : l[k]? = some x) : (strV l)[k]? = some (.string (strB x)) := by rw [strV, List.getElem?_map, h]; rfl
set_option maxHeartbeats 4000000 in
theorem rframes_any (w : World) (A : Option Addr) (c : Nat) (rs : List (List UInt8)) (hn : rs.length ≤ 12) (hr : Rd w 1 A rs.length (strV rs)) (hs : ∀ r ∈ rs, r.length ≤ 100) :
    Calls Tryz.prog 41 #[.slice A rs.length c] w fun e w' => e = .returned (.tuple #[.string (strB (framesL rs)), .int .i64 0]) ∧ Below w.heap.size w w' := by
  obtain ⟨N, hN⟩ : ∃ N, N = rs.length := ⟨_, rfl⟩
  rw [← hN] at hr hn ⊢
  have hlim : (N : Int) ≤ 12 := by omega
  have HR := hid2 hr
  have HN := hid2 hN
  have HS := hid2 hs
  clear hr hN hs
  go_enter Tryz.func41, Tryz.ntmps41
  go_wp2_with fail
  go_loopg [4, 10] N (fun gk o iv wr => ∃ k : Nat, k + gk = N ∧ iv = .int .i64 k ∧ o = .string (strB (framesL (rs.take k))) ∧ Below w.heap.size w wr)
  case atStart => exact ⟨0, by omega, rfl, rfl, Below.refl _ _⟩
  case round =>
    obtain ⟨k, hk, rfl, rfl, hbe⟩ := hrel
    have HBE := hid2 hbe
    have HK := hid2 hk
    by_cases hlt : k < N
    · have hil : (k : Int) < N := by omega
      have hi0 : (0 : Int) ≤ k := by omega
      have hlr : k < rs.length := by rw [← HN.out]; exact hlt
      obtain ⟨x, hx⟩ : ∃ x, x = rs[k] := ⟨_, rfl⟩
      have hxl : x.length ≤ 100 := by rw [hx]; exact HS.out _ (List.getElem_mem hlr)
      obtain ⟨b, o, hA, hcell⟩ := (HR.out.below_all hbe).2 (by omega)
      subst hA
      have hgx : rs[k]? = some x := by rw [List.getElem?_eq_getElem hlr, hx]
      have hcx := hcell _ _ (strV_at hgx)
      have cF := fun (W : World) => rframe_any W (strB x) (by rw [strB_size]; omega)
      rw [strB_list] at cF
      obtain ⟨F, hF⟩ : ∃ F, F = strB (frameL x) := ⟨_, rfl⟩
      rw [← hF] at cF
      obtain ⟨SX, hSX⟩ : ∃ S, S = strB x := ⟨_, rfl⟩
      rw [← hSX] at hcx cF
      have hFs : F.size ≤ 112 := by rw [hF, strB_size, frameL_length]; omega
      obtain ⟨O, hO⟩ : ∃ O, O = strB (framesL (rs.take k)) := ⟨_, rfl⟩
      have hOs : O.size ≤ 1344 := by
        rw [hO, strB_size]
        have := framesL_le (rs := rs.take k) (fun r h => HS.out r (List.mem_of_mem_take h))
        rw [List.length_take] at this
        omega
      have hadd : ¬ (O.size + F.size > 9223372036854775807) := by omega
      have hcat : strB (framesL (rs.take (k + 1))) = O ++ F := by rw [framesL_take rs k hlr, ← strB_append, ← hO, hF, hx]
      rw [← hO]
      have CF := hid2 cF
      have HCAT := hid2 hcat
      clear hbe hk hlr hx hxl hgx hcell cF hF hSX hO hcat
      go_wp2_with (go_at_call 37; refine (CF.out _).mono ?_; rintro e w3 ⟨rfl, hb3⟩; have HB3 := hid2 hb3; clear hb3)
      go_roundg (gk - 1)
      case rel => exact ⟨k + 1, by have := HK.out; omega, by go_num, by rw [HCAT.out], HBE.out.trans (HB3.out.mono HBE.out.size)⟩
      case measure => have := HK.out; omega
    · have hil : ¬ (k : Int) < N := by omega
      have hall : framesL (rs.take k) = framesL rs := by rw [List.take_of_length_le (by rw [← HN.out]; omega)]
      rw [hall]
      clear hbe hk hall
      go_wp2_with fail
      go_ret2
      exact ⟨rfl, HBE.out⟩
/-- a journal is answered: what was done, and the error -/
def RJPost (w : World) (A : Option Addr) (nm : ByteArray) (n : Nat) (M' : Tab FileE) (L E : Int) (e : Ending) (w' : World) : Prop :=
  ∃ A' c', e = .returned (.tuple #[.agg #[.slice A' n c', .int .i64 L, .string nm, .bool true, .bool (E != 0)], .int .i64 E]) ∧ Rd w' 3 A' M'.length (rfsV M') ∧ Below w.heap.size w w' ∧ RFar w A A' w'
/-- a stage of Add and Swap: the journal's block, and the answer's -/
structure JSt (w W : World) (A : Option Addr) (g : Nat) (A1 : Option Addr) (n1 c1 : Nat) (L1 : Int) (T1 : Tab FileE) (nm : ByteArray) (br : Bool) : Prop where
  b0 : Box W g [.slice A1 n1 c1, .int .i64 L1, .string nm, .bool true, .bool br]
  b1 : Box W (g + 1) [.slice none 0 0, .int .i64 0, .string ⟨#[]⟩, .bool false, .bool false]
  row : Rd W 3 A1 T1.length (rfsV T1)
  below : Below w.heap.size w W
  far : ∀ q, blockOf A1 = some q → blockOf A = some q ∨ g + 2 ≤ q ∧ q < W.heap.size
  gw : g = w.heap.size
section
variable {w W w3 : World} {A A1 A2 : Option Addr} {g n1 c1 n2 c2 : Nat} {L1 L2 : Int} {T1 T2 : Tab FileE} {nm : ByteArray} {br : Bool}
theorem JSt.later (h : JSt w W A g A1 n1 c1 L1 T1 nm br) (hb : Below W.heap.size W w3) : JSt w w3 A g A1 n1 c1 L1 T1 nm br :=
  ⟨h.b0.below_all hb, h.b1.below_all hb, h.row.below_all hb, h.below.trans (hb.mono h.below.size), fun q hq => (h.far q hq).imp id fun e => by have := hb.size; omega, h.gw⟩
theorem JSt.low (h : JSt w W A g A1 n1 c1 L1 T1 nm br) (hA : RLow w A) : RLow W A1 := fun q hq => by
  have := h.below.size
  rcases h.far q hq with e | e
  · have := hA q e; omega
  · omega
theorem JSt.ne (h : JSt w W A g A1 n1 c1 L1 T1 nm br) (hA : RLow w A) {k : Nat} (hk : g ≤ k) (hk2 : k < g + 2) : blockOf A1 ≠ some k := fun e => by
  have := h.gw
  rcases h.far _ e with e | e
  · have := hA _ e; omega
  · omega
theorem JSt.next (h : JSt w W A g A1 n1 c1 L1 T1 nm br) (hA : RLow w A) (hr : Rd w3 3 A2 T2.length (rfsV T2)) (hb : Below W.heap.size W w3) (hf : RFar W A1 A2 w3) :
    JSt w ((w3.setCell ⟨g, 0, none⟩ (.slice A2 n2 c2)).setCell ⟨g, 1, none⟩ (.int .i64 L2)) A g A2 n2 c2 L2 T2 nm br := by
  have hgw := h.gw
  have h1 := h.b1.lt
  have h2 := hb.size
  have haw : ∀ q, blockOf A2 = some q → blockOf A = some q ∨ g + 2 ≤ q ∧ q < w3.heap.size := fun q hq => by
    rcases hf q hq with e | e
    · rcases h.far q e with e | e
      · exact .inl e
      · exact .inr (by omega)
    · exact .inr (by omega)
  have hne : blockOf A2 ≠ some g := fun e => by
    rcases haw g e with e | e
    · have := hA g e; omega
    · omega
  refine ⟨((h.b0.below_all hb).set 0 _).set 1 _, ((h.b1.below_all hb).other (p := ⟨g, 0, none⟩) (show g + 1 ≠ g by omega) _).other (p := ⟨g, 1, none⟩) (show g + 1 ≠ g by omega) _, (hr.setFar 0 _ hne).setFar 1 _ hne, ?_, fun q hq => ?_, hgw⟩
  · exact ((h.below.trans (hb.mono h.below.size)).setCell (p := ⟨g, 0, none⟩) (by show w.heap.size ≤ g; omega) _).setCell (p := ⟨g, 1, none⟩) (by show w.heap.size ≤ g; omega) _
  · rw [World.size_setCell, World.size_setCell]
    exact haw q hq
theorem JSt.brk (h : JSt w W A g A1 n1 c1 L1 T1 nm br) (hA : RLow w A) (v : Bool) : JSt w (W.setCell ⟨g, 4, none⟩ (.bool v)) A g A1 n1 c1 L1 T1 nm v := by
  have hgw := h.gw
  refine ⟨h.b0.set 4 _, h.b1.other (p := ⟨g, 4, none⟩) (show g + 1 ≠ g by omega) _, h.row.setFar 4 _ (h.ne hA (Nat.le_refl _) (by omega)), h.below.setCell (p := ⟨g, 4, none⟩) (by show w.heap.size ≤ g; omega) _, fun q hq => ?_, hgw⟩
  rw [World.size_setCell]
  exact h.far q hq
theorem JSt.end_ {E : Int} {m : Nat} (h : JSt w W A g A1 n1 c1 L1 T1 nm (E != 0)) (hA : RLow w A) (hn : n1 = m) {v0 v1 v2 v3 v4 : Value} :
    RJPost w A nm m T1 L1 E (.returned (.tuple #[.agg #[.slice A1 n1 c1, .int .i64 L1, .string nm, .bool true, .bool (E != 0)], .int .i64 E])) (((((W.setCell ⟨g + 1, 0, none⟩ v0).setCell ⟨g + 1, 1, none⟩ v1).setCell ⟨g + 1, 2, none⟩ v2).setCell ⟨g + 1, 3, none⟩ v3).setCell ⟨g + 1, 4, none⟩ v4) := by
  subst hn
  have hgw := h.gw
  have hne := h.ne hA (k := g + 1) (by omega) (by omega)
  have hq : ∀ o, w.heap.size ≤ (⟨g + 1, o, none⟩ : Addr).block := fun o => by show w.heap.size ≤ g + 1; omega
  refine ⟨A1, c1, rfl, ((((h.row.setFar 0 _ hne).setFar 1 _ hne).setFar 2 _ hne).setFar 3 _ hne).setFar 4 _ hne, ((((h.below.setCell (hq 0) _).setCell (hq 1) _).setCell (hq 2) _).setCell (hq 3) _).setCell (hq 4) _, fun q hq => ?_⟩
  rw [World.size_setCell, World.size_setCell, World.size_setCell, World.size_setCell, World.size_setCell]
  exact (h.far q hq).imp id fun e => by omega
end
set_option maxHeartbeats 4000000 in
theorem radd_idle (w : World) (A : Option Addr) (n c : Nat) (left : Int) (nm : ByteArray) (is br : Bool) (h : is = false ∨ br = true) (rec : ByteArray) :
    Calls Tryz.prog 11 #[.agg #[.slice A n c, .int .i64 left, .string nm, .bool is, .bool br], .string rec] w fun e w' => e = .returned (.tuple #[.agg #[.slice A n c, .int .i64 left, .string nm, .bool is, .bool br], .int .i64 19]) ∧ Below w.heap.size w w' := by
  obtain ⟨g, hg⟩ : ∃ g, g = w.heap.size := ⟨_, rfl⟩
  obtain ⟨W3, hW3⟩ : ∃ W3, W3 = ((w.alloc (.cells #[.slice A n c, .int .i64 left, .string nm, .bool is, .bool br] 33)).alloc (.cells #[.slice none 0 0, .int .i64 0, .string ⟨#[]⟩, .bool false, .bool false] 33)) := ⟨_, rfl⟩
  have b0 : Box W3 g [.slice A n c, .int .i64 left, .string nm, .bool is, .bool br] := by rw [hW3]; exact (Box.new' _ _ _ (by simp [hg])).alloc _
  have b1 : Box W3 (g + 1) [.slice none 0 0, .int .i64 0, .string ⟨#[]⟩, .bool false, .bool false] := by rw [hW3]; exact Box.new' _ _ _ (by simp [hg])
  have hbW : Below w.heap.size w W3 := by rw [hW3]; exact ((Below.refl _ _).alloc (by simp) _).alloc (by simp) _
  have e0 : W3.cell? ⟨g, 0, none⟩ = some (.slice A n c) := b0.cells 0
  have e1 : W3.cell? ⟨g, 1, none⟩ = some (.int .i64 left) := b0.cells 1
  have e2 : W3.cell? ⟨g, 2, none⟩ = some (.string nm) := b0.cells 2
  have e3 : W3.cell? ⟨g, 3, none⟩ = some (.bool is) := b0.cells 3
  have e4 : W3.cell? ⟨g, 4, none⟩ = some (.bool br) := b0.cells 4
  have o0 : W3.cell? ⟨g + 1, 0, none⟩ = some (.slice none 0 0) := b1.cells 0
  have p0 : W3.frozen? ⟨g + 1, 0, none⟩ = false := b1.free 0
  have o1 : W3.cell? ⟨g + 1, 1, none⟩ = some (.int .i64 0) := b1.cells 1
  have p1 : W3.frozen? ⟨g + 1, 1, none⟩ = false := b1.free 1
  have o2 : W3.cell? ⟨g + 1, 2, none⟩ = some (.string ⟨#[]⟩) := b1.cells 2
  have p2 : W3.frozen? ⟨g + 1, 2, none⟩ = false := b1.free 2
  have o3 : W3.cell? ⟨g + 1, 3, none⟩ = some (.bool false) := b1.cells 3
  have p3 : W3.frozen? ⟨g + 1, 3, none⟩ = false := b1.free 3
  have o4 : W3.cell? ⟨g + 1, 4, none⟩ = some (.bool false) := b1.cells 4
  have p4 : W3.frozen? ⟨g + 1, 4, none⟩ = false := b1.free 4
  have HB := hid2 hbW
  have HG := hid2 hg
  have HW3 := hid2 hW3
  clear hbW b0 b1 hg hW3
  go_enter Tryz.func11, Tryz.ntmps11
  go_upto_region 1 with fail
  rw [← HW3.out, ← HG.out]
  have hfin : Below w.heap.size w (((((W3.setCell ⟨g + 1, 0, none⟩ (.slice A n c)).setCell ⟨g + 1, 1, none⟩ (.int .i64 left)).setCell ⟨g + 1, 2, none⟩ (.string nm)).setCell ⟨g + 1, 3, none⟩ (.bool is)).setCell ⟨g + 1, 4, none⟩ (.bool br)) := by
    have hq : ∀ o, w.heap.size ≤ (⟨g + 1, o, none⟩ : Addr).block := fun o => by show w.heap.size ≤ g + 1; have := HG.out; omega
    exact ((((HB.out.setCell (hq 0) _).setCell (hq 1) _).setCell (hq 2) _).setCell (hq 3) _).setCell (hq 4) _
  have HFIN := hid2 hfin
  clear hfin
  rcases h with rfl | rfl
  · go_wp2_with fail
    refine bodyPost_ret (v := .tuple #[.agg #[.slice A n c, .int .i64 left, .string nm, .bool false, .bool br], .int .i64 19]) (by simp [results, Tryz.results11, go_sem, o0, o1, o2, o3, o4]) rfl ?_
    exact ⟨rfl, HFIN.out⟩
  · cases is with
    | true =>
      go_wp2_with fail
      refine bodyPost_ret (v := .tuple #[.agg #[.slice A n c, .int .i64 left, .string nm, .bool true, .bool true], .int .i64 19]) (by simp [results, Tryz.results11, go_sem, o0, o1, o2, o3, o4]) rfl ?_
      exact ⟨rfl, HFIN.out⟩
    | false =>
      go_wp2_with fail
      refine bodyPost_ret (v := .tuple #[.agg #[.slice A n c, .int .i64 left, .string nm, .bool false, .bool true], .int .i64 19]) (by simp [results, Tryz.results11, go_sem, o0, o1, o2, o3, o4]) rfl ?_
      exact ⟨rfl, HFIN.out⟩
set_option maxHeartbeats 4000000 in
theorem rswap_idle (w : World) (A : Option Addr) (n c : Nat) (left : Int) (nm : ByteArray) (is br : Bool) (h : is = false ∨ br = true) (RA : Option Addr) (rn rc : Nat) :
    Calls Tryz.prog 13 #[.agg #[.slice A n c, .int .i64 left, .string nm, .bool is, .bool br], .slice RA rn rc] w fun e w' => e = .returned (.tuple #[.agg #[.slice A n c, .int .i64 left, .string nm, .bool is, .bool br], .int .i64 19]) ∧ Below w.heap.size w w' := by
  obtain ⟨g, hg⟩ : ∃ g, g = w.heap.size := ⟨_, rfl⟩
  obtain ⟨W3, hW3⟩ : ∃ W3, W3 = ((w.alloc (.cells #[.slice A n c, .int .i64 left, .string nm, .bool is, .bool br] 33)).alloc (.cells #[.slice none 0 0, .int .i64 0, .string ⟨#[]⟩, .bool false, .bool false] 33)) := ⟨_, rfl⟩
  have b0 : Box W3 g [.slice A n c, .int .i64 left, .string nm, .bool is, .bool br] := by rw [hW3]; exact (Box.new' _ _ _ (by simp [hg])).alloc _
  have b1 : Box W3 (g + 1) [.slice none 0 0, .int .i64 0, .string ⟨#[]⟩, .bool false, .bool false] := by rw [hW3]; exact Box.new' _ _ _ (by simp [hg])
  have hbW : Below w.heap.size w W3 := by rw [hW3]; exact ((Below.refl _ _).alloc (by simp) _).alloc (by simp) _
  have e0 : W3.cell? ⟨g, 0, none⟩ = some (.slice A n c) := b0.cells 0
  have e1 : W3.cell? ⟨g, 1, none⟩ = some (.int .i64 left) := b0.cells 1
  have e2 : W3.cell? ⟨g, 2, none⟩ = some (.string nm) := b0.cells 2
  have e3 : W3.cell? ⟨g, 3, none⟩ = some (.bool is) := b0.cells 3
  have e4 : W3.cell? ⟨g, 4, none⟩ = some (.bool br) := b0.cells 4
  have o0 : W3.cell? ⟨g + 1, 0, none⟩ = some (.slice none 0 0) := b1.cells 0
  have p0 : W3.frozen? ⟨g + 1, 0, none⟩ = false := b1.free 0
  have o1 : W3.cell? ⟨g + 1, 1, none⟩ = some (.int .i64 0) := b1.cells 1
  have p1 : W3.frozen? ⟨g + 1, 1, none⟩ = false := b1.free 1
  have o2 : W3.cell? ⟨g + 1, 2, none⟩ = some (.string ⟨#[]⟩) := b1.cells 2
  have p2 : W3.frozen? ⟨g + 1, 2, none⟩ = false := b1.free 2
  have o3 : W3.cell? ⟨g + 1, 3, none⟩ = some (.bool false) := b1.cells 3
  have p3 : W3.frozen? ⟨g + 1, 3, none⟩ = false := b1.free 3
  have o4 : W3.cell? ⟨g + 1, 4, none⟩ = some (.bool false) := b1.cells 4
  have p4 : W3.frozen? ⟨g + 1, 4, none⟩ = false := b1.free 4
  have HB := hid2 hbW
  have HG := hid2 hg
  have HW3 := hid2 hW3
  clear hbW b0 b1 hg hW3
  go_enter Tryz.func13, Tryz.ntmps13
  go_upto_region 1 with fail
  rw [← HW3.out, ← HG.out]
  have hfin : Below w.heap.size w (((((W3.setCell ⟨g + 1, 0, none⟩ (.slice A n c)).setCell ⟨g + 1, 1, none⟩ (.int .i64 left)).setCell ⟨g + 1, 2, none⟩ (.string nm)).setCell ⟨g + 1, 3, none⟩ (.bool is)).setCell ⟨g + 1, 4, none⟩ (.bool br)) := by
    have hq : ∀ o, w.heap.size ≤ (⟨g + 1, o, none⟩ : Addr).block := fun o => by show w.heap.size ≤ g + 1; have := HG.out; omega
    exact ((((HB.out.setCell (hq 0) _).setCell (hq 1) _).setCell (hq 2) _).setCell (hq 3) _).setCell (hq 4) _
  have HFIN := hid2 hfin
  clear hfin
  rcases h with rfl | rfl
  · go_wp2_with fail
    refine bodyPost_ret (v := .tuple #[.agg #[.slice A n c, .int .i64 left, .string nm, .bool false, .bool br], .int .i64 19]) (by simp [results, Tryz.results13, go_sem, o0, o1, o2, o3, o4]) rfl ?_
    exact ⟨rfl, HFIN.out⟩
  · cases is with
    | true =>
      go_wp2_with fail
      refine bodyPost_ret (v := .tuple #[.agg #[.slice A n c, .int .i64 left, .string nm, .bool true, .bool true], .int .i64 19]) (by simp [results, Tryz.results13, go_sem, o0, o1, o2, o3, o4]) rfl ?_
      exact ⟨rfl, HFIN.out⟩
    | false =>
      go_wp2_with fail
      refine bodyPost_ret (v := .tuple #[.agg #[.slice A n c, .int .i64 left, .string nm, .bool false, .bool true], .int .i64 19]) (by simp [results, Tryz.results13, go_sem, o0, o1, o2, o3, o4]) rfl ?_
      exact ⟨rfl, HFIN.out⟩
set_option maxHeartbeats 8000000 in
theorem radd_any (w : World) (A : Option Addr) (c : Nat) (M : Tab FileE) (left : Int) (hr : Rd w 3 A M.length (rfsV M)) (hle : LeftOk left) (hA : RLow w A) (nm : ByteArray) {W N : Nat} (hw : Wide W N M) (hW : W ≤ 15000) (hN : N ≤ 900000) (hnW : nm.size + 4 ≤ W) (rec : ByteArray) (hrec : rec.size ≤ 100) :
    Calls Tryz.prog 11 #[.agg #[.slice A M.length c, .int .i64 left, .string nm, .bool true, .bool false], .string rec] w fun e w' => RJPost w A nm (addR M left nm.data.toList (frameL rec.data.toList)).2.1.length (addR M left nm.data.toList (frameL rec.data.toList)).2.1 (addR M left nm.data.toList (frameL rec.data.toList)).2.2 (addR M left nm.data.toList (frameL rec.data.toList)).1 e w' := by
  have hP := fun (V : World) => rframe_any V rec (by omega)
  obtain ⟨f, hf⟩ : ∃ f, f = frameL rec.data.toList := ⟨_, rfl⟩
  rw [← hf] at hP ⊢
  obtain ⟨F, hF⟩ : ∃ F, F = strB f := ⟨_, rfl⟩
  rw [← hF] at hP
  have hFl : F.data.toList = f := by rw [hF, strB_list]
  have hfl : f.length ≤ 112 := by rw [hf, frameL_length, toList_length]; omega
  have hFz : F.size ≤ 112 := by rw [hF, strB_size]; exact hfl
  have hnl : nm.data.toList.length ≤ W := by rw [toList_length]; omega
  have w1 := hw.app left (k := nm.data.toList) (d := f) hnl
  obtain ⟨T1, hT1⟩ : ∃ T1, T1 = appM M left nm.data.toList f := ⟨_, rfl⟩
  obtain ⟨L1, hL1⟩ : ∃ L1, L1 = beginL M left false [strB nm.data.toList] nm.data.toList := ⟨_, rfl⟩
  obtain ⟨E1, hE1⟩ : ∃ E1, E1 = beginE M left false [strB nm.data.toList] nm.data.toList := ⟨_, rfl⟩
  have l1 : LeftOk L1 := by rw [hL1]; exact hle.begins _ _ _
  rw [← hT1] at w1
  obtain ⟨T2, hT2⟩ : ∃ T2, T2 = syncM T1 L1 nm.data.toList := ⟨_, rfl⟩
  obtain ⟨L2, hL2⟩ : ∃ L2, L2 = beginL T1 L1 true [strB nm.data.toList] nm.data.toList := ⟨_, rfl⟩
  obtain ⟨E2, hE2⟩ : ∃ E2, E2 = beginE T1 L1 true [strB nm.data.toList] nm.data.toList := ⟨_, rfl⟩
  have hR : addR M left nm.data.toList f = if E1 ≠ 0 then (E1, T1, L1) else (E2, T2, L2) := by
    unfold addR
    simp only [← hT1, ← hL1, ← hE1, ← hT2, ← hL2, ← hE2]
  obtain ⟨n1, hn1⟩ : ∃ n, n = T1.length := ⟨_, rfl⟩
  obtain ⟨n2, hn2⟩ : ∃ n, n = T2.length := ⟨_, rfl⟩
  have hO1 := fun (V : World) (hb : Below w.heap.size w V) => (append07m_any V A c M left (hr.below_all hb) (by have := hw.len; omega) hw.rises hle nm F (by omega) (by have := (hw.szs.file nm.data.toList).1; omega)).mono fun e w' h => RPost.two (n := n1) (by rw [hFl, ← hT1, ← hL1, ← hE1] at h; exact h) hn1
  have hO2 := fun (V : World) (A1 : Option Addr) (c1 : Nat) (h1 : Rd V 3 A1 T1.length (rfsV T1)) => (sync07m_any V A1 c1 T1 L1 h1 (by have := w1.len; omega) w1.rises l1 nm (by have := (w1.szs.file nm.data.toList).1; omega)).mono fun e w' h => RPost.two (n := n2) (by rw [← hT2, ← hL2, ← hE2] at h; exact h) hn2
  obtain ⟨n0, hn0⟩ : ∃ n, n = M.length := ⟨_, rfl⟩
  rw [← hn0] at hO1 ⊢
  rw [← hn1] at hO2
  obtain ⟨g, hg⟩ : ∃ g, g = w.heap.size := ⟨_, rfl⟩
  obtain ⟨W3, hW3⟩ : ∃ W3, W3 = ((w.alloc (.cells #[.slice A n0 c, .int .i64 left, .string nm, .bool true, .bool false] 33)).alloc (.cells #[.slice none 0 0, .int .i64 0, .string ⟨#[]⟩, .bool false, .bool false] 33)) := ⟨_, rfl⟩
  have b0 : Box W3 g [.slice A n0 c, .int .i64 left, .string nm, .bool true, .bool false] := by rw [hW3]; exact (Box.new' _ _ _ (by simp [hg])).alloc _
  have b1 : Box W3 (g + 1) [.slice none 0 0, .int .i64 0, .string ⟨#[]⟩, .bool false, .bool false] := by rw [hW3]; exact Box.new' _ _ _ (by simp [hg])
  have hbW : Below w.heap.size w W3 := by rw [hW3]; exact ((Below.refl _ _).alloc (by simp) _).alloc (by simp) _
  have HS0 := hid2 (show JSt w W3 A g A n0 c left M nm false from ⟨b0, b1, hr.below_all hbW, hbW, fun q hq => .inl hq, hg⟩)
  have HG := hid2 hg
  have HW3 := hid2 hW3
  have HP := hid2 hP
  have HO1 := hid2 hO1
  have HO2 := hid2 hO2
  have HA := hid2 hA
  have HN1 := hid2 hn1
  have HN2 := hid2 hn2
  have HR0 := hid2 hR
  clear hg hW3 b0 b1 hbW hP hO1 hO2 hA hn0 hn1 hn2 hR hr hle hw hW hN hnW hf hF hFl hfl hFz hnl w1 hT1 hL1 hE1 l1 hT2 hL2 hE2 hrec
  go_enter Tryz.func11, Tryz.ntmps11
  go_upto_region 1 with fail
  rw [← HW3.out, ← HG.out]
  have e00 : W3.cell? ⟨g, 0, none⟩ = some (.slice A n0 c) := HS0.out.b0.cells 0
  have e01 : W3.cell? ⟨g, 1, none⟩ = some (.int .i64 left) := HS0.out.b0.cells 1
  have e02 : W3.cell? ⟨g, 2, none⟩ = some (.string nm) := HS0.out.b0.cells 2
  have e03 : W3.cell? ⟨g, 3, none⟩ = some (.bool true) := HS0.out.b0.cells 3
  have e04 : W3.cell? ⟨g, 4, none⟩ = some (.bool false) := HS0.out.b0.cells 4
  go_upto_region 4 with (go_at_call 37; refine (HP.out W3).mono ?_; rintro e wF ⟨rfl, hbF⟩; have HBF := hid2 hbF; clear hbF)
  have HS9 := hid2 (HS0.out.later HBF.out)
  clear e00 e01 e02 e03 e04
  have e90 : wF.cell? ⟨g, 0, none⟩ = some (.slice A n0 c) := HS9.out.b0.cells 0
  have e91 : wF.cell? ⟨g, 1, none⟩ = some (.int .i64 left) := HS9.out.b0.cells 1
  have e92 : wF.cell? ⟨g, 2, none⟩ = some (.string nm) := HS9.out.b0.cells 2
  have e93 : wF.cell? ⟨g, 3, none⟩ = some (.bool true) := HS9.out.b0.cells 3
  have e94 : wF.cell? ⟨g, 4, none⟩ = some (.bool false) := HS9.out.b0.cells 4
  have f90 : wF.frozen? ⟨g, 0, none⟩ = false := HS9.out.b0.free 0
  have f91 : wF.frozen? ⟨g, 1, none⟩ = false := HS9.out.b0.free 1
  go_upto_region 7 with (go_at_call 19; refine (HO1.out wF HS9.out.below).mono ?_; rintro e w3 ⟨A1, c1, rfl, hr, hb, hf⟩; clear e90 e91 e92 e93 e94 f90 f91; have k0 := HS9.out.b0.below_all hb; have d0 : w3.cell? ⟨g, 0, none⟩ = some (.slice A n0 c) := k0.cells 0; have d1 : w3.cell? ⟨g, 1, none⟩ = some (.int .i64 left) := k0.cells 1; have f0 : w3.frozen? ⟨g, 0, none⟩ = false := k0.free 0; have f1 : w3.frozen? ⟨g, 1, none⟩ = false := k0.free 1; clear k0; have HR3 := hid2 hr; have HB3 := hid2 hb; have HF3 := hid2 hf; clear hr hb hf)
  obtain ⟨W4, hW4⟩ : ∃ W4, W4 = (w3.setCell ⟨g, 0, none⟩ (.slice A1 n1 c1)).setCell ⟨g, 1, none⟩ (.int .i64 L1) := ⟨_, rfl⟩
  rw [← hW4]
  have HS1 := hid2 (show JSt w W4 A g A1 n1 c1 L1 T1 nm false from by rw [hW4]; exact HS9.out.next HA.out HR3.out HB3.out HF3.out)
  clear hW4 d0 d1 f0 f1
  have e10 : W4.cell? ⟨g, 0, none⟩ = some (.slice A1 n1 c1) := HS1.out.b0.cells 0
  have e11 : W4.cell? ⟨g, 1, none⟩ = some (.int .i64 L1) := HS1.out.b0.cells 1
  have e12 : W4.cell? ⟨g, 2, none⟩ = some (.string nm) := HS1.out.b0.cells 2
  have e13 : W4.cell? ⟨g, 3, none⟩ = some (.bool true) := HS1.out.b0.cells 3
  have e14 : W4.cell? ⟨g, 4, none⟩ = some (.bool false) := HS1.out.b0.cells 4
  by_cases h1 : E1 = 0
  · have HIF := hid2 (show (if E1 ≠ 0 then (E1, T1, L1) else (E2, T2, L2)) = (E2, T2, L2) from if_neg (by rw [h1]; simp))
    subst h1
    have f10 : W4.frozen? ⟨g, 0, none⟩ = false := HS1.out.b0.free 0
    have f11 : W4.frozen? ⟨g, 1, none⟩ = false := HS1.out.b0.free 1
    go_upto_region 9 with (go_at_call 38; refine (HO2.out W4 A1 c1 (by rw [HN1.out]; exact HS1.out.row)).mono ?_; rintro e w5 ⟨A2, c2, rfl, hr, hb, hf⟩; clear e10 e11 e12 e13 e14 f10 f11; have k0 := HS1.out.b0.below_all hb; have d0 : w5.cell? ⟨g, 0, none⟩ = some (.slice A1 n1 c1) := k0.cells 0; have d1 : w5.cell? ⟨g, 1, none⟩ = some (.int .i64 L1) := k0.cells 1; have f0 : w5.frozen? ⟨g, 0, none⟩ = false := k0.free 0; have f1 : w5.frozen? ⟨g, 1, none⟩ = false := k0.free 1; clear k0; have HR5 := hid2 hr; have HB5 := hid2 hb; have HF5 := hid2 hf; clear hr hb hf)
    obtain ⟨W6, hW6⟩ : ∃ W6, W6 = (w5.setCell ⟨g, 0, none⟩ (.slice A2 n2 c2)).setCell ⟨g, 1, none⟩ (.int .i64 L2) := ⟨_, rfl⟩
    rw [← hW6]
    have HS2 := hid2 (show JSt w W6 A g A2 n2 c2 L2 T2 nm false from by rw [hW6]; exact HS1.out.next HA.out HR5.out HB5.out HF5.out)
    clear hW6 d0 d1 f0 f1
    have e20 : W6.cell? ⟨g, 0, none⟩ = some (.slice A2 n2 c2) := HS2.out.b0.cells 0
    have e21 : W6.cell? ⟨g, 1, none⟩ = some (.int .i64 L2) := HS2.out.b0.cells 1
    have e22 : W6.cell? ⟨g, 2, none⟩ = some (.string nm) := HS2.out.b0.cells 2
    have e23 : W6.cell? ⟨g, 3, none⟩ = some (.bool true) := HS2.out.b0.cells 3
    have e24 : W6.cell? ⟨g, 4, none⟩ = some (.bool false) := HS2.out.b0.cells 4
    have fq : W6.frozen? ⟨g, 4, none⟩ = false := HS2.out.b0.free 4
    go_upto_region 10 with fail
    obtain ⟨W8, hW8⟩ : ∃ W8, W8 = W6.setCell ⟨g, 4, none⟩ (.bool (E2 != 0)) := ⟨_, rfl⟩
    rw [← hW8]
    have HS8 := hid2 (show JSt w W8 A g A2 n2 c2 L2 T2 nm (E2 != 0) from by rw [hW8]; exact HS2.out.brk HA.out _)
    clear hW8 e20 e21 e22 e23 e24 fq
    have e80 : W8.cell? ⟨g, 0, none⟩ = some (.slice A2 n2 c2) := HS8.out.b0.cells 0
    have e81 : W8.cell? ⟨g, 1, none⟩ = some (.int .i64 L2) := HS8.out.b0.cells 1
    have e82 : W8.cell? ⟨g, 2, none⟩ = some (.string nm) := HS8.out.b0.cells 2
    have e83 : W8.cell? ⟨g, 3, none⟩ = some (.bool true) := HS8.out.b0.cells 3
    have e84 : W8.cell? ⟨g, 4, none⟩ = some (.bool (E2 != 0)) := HS8.out.b0.cells 4
    have o80 : W8.cell? ⟨g + 1, 0, none⟩ = some (.slice none 0 0) := HS8.out.b1.cells 0
    have p80 : W8.frozen? ⟨g + 1, 0, none⟩ = false := HS8.out.b1.free 0
    have o81 : W8.cell? ⟨g + 1, 1, none⟩ = some (.int .i64 0) := HS8.out.b1.cells 1
    have p81 : W8.frozen? ⟨g + 1, 1, none⟩ = false := HS8.out.b1.free 1
    have o82 : W8.cell? ⟨g + 1, 2, none⟩ = some (.string ⟨#[]⟩) := HS8.out.b1.cells 2
    have p82 : W8.frozen? ⟨g + 1, 2, none⟩ = false := HS8.out.b1.free 2
    have o83 : W8.cell? ⟨g + 1, 3, none⟩ = some (.bool false) := HS8.out.b1.cells 3
    have p83 : W8.frozen? ⟨g + 1, 3, none⟩ = false := HS8.out.b1.free 3
    have o84 : W8.cell? ⟨g + 1, 4, none⟩ = some (.bool false) := HS8.out.b1.cells 4
    have p84 : W8.frozen? ⟨g + 1, 4, none⟩ = false := HS8.out.b1.free 4
    go_wp2_with fail
    refine bodyPost_ret (v := .tuple #[.agg #[.slice A2 n2 c2, .int .i64 L2, .string nm, .bool true, .bool (E2 != 0)], .int .i64 E2]) (by simp [results, Tryz.results11, go_sem, o80, o81, o82, o83, o84]) rfl ?_
    have hend := HS8.out.end_ HA.out HN2.out (v0 := .slice A2 n2 c2) (v1 := .int .i64 L2) (v2 := .string nm) (v3 := .bool true) (v4 := .bool (E2 != 0))
    rw [HR0.out, HIF.out]
    exact hend
  · have HIF := hid2 (show (if E1 ≠ 0 then (E1, T1, L1) else (E2, T2, L2)) = (E1, T1, L1) from if_pos h1)
    have h1b : (E1 == 0) = false := by rw [beq_eq_false_iff_ne]; exact h1
    have fq : W4.frozen? ⟨g, 4, none⟩ = false := HS1.out.b0.free 4
    go_upto_region 10 with fail
    obtain ⟨W8, hW8⟩ : ∃ W8, W8 = W4.setCell ⟨g, 4, none⟩ (.bool (E1 != 0)) := ⟨_, rfl⟩
    rw [← hW8]
    have HS8 := hid2 (show JSt w W8 A g A1 n1 c1 L1 T1 nm (E1 != 0) from by rw [hW8]; exact HS1.out.brk HA.out _)
    clear hW8 e10 e11 e12 e13 e14 fq
    have e80 : W8.cell? ⟨g, 0, none⟩ = some (.slice A1 n1 c1) := HS8.out.b0.cells 0
    have e81 : W8.cell? ⟨g, 1, none⟩ = some (.int .i64 L1) := HS8.out.b0.cells 1
    have e82 : W8.cell? ⟨g, 2, none⟩ = some (.string nm) := HS8.out.b0.cells 2
    have e83 : W8.cell? ⟨g, 3, none⟩ = some (.bool true) := HS8.out.b0.cells 3
    have e84 : W8.cell? ⟨g, 4, none⟩ = some (.bool (E1 != 0)) := HS8.out.b0.cells 4
    have o80 : W8.cell? ⟨g + 1, 0, none⟩ = some (.slice none 0 0) := HS8.out.b1.cells 0
    have p80 : W8.frozen? ⟨g + 1, 0, none⟩ = false := HS8.out.b1.free 0
    have o81 : W8.cell? ⟨g + 1, 1, none⟩ = some (.int .i64 0) := HS8.out.b1.cells 1
    have p81 : W8.frozen? ⟨g + 1, 1, none⟩ = false := HS8.out.b1.free 1
    have o82 : W8.cell? ⟨g + 1, 2, none⟩ = some (.string ⟨#[]⟩) := HS8.out.b1.cells 2
    have p82 : W8.frozen? ⟨g + 1, 2, none⟩ = false := HS8.out.b1.free 2
    have o83 : W8.cell? ⟨g + 1, 3, none⟩ = some (.bool false) := HS8.out.b1.cells 3
    have p83 : W8.frozen? ⟨g + 1, 3, none⟩ = false := HS8.out.b1.free 3
    have o84 : W8.cell? ⟨g + 1, 4, none⟩ = some (.bool false) := HS8.out.b1.cells 4
    have p84 : W8.frozen? ⟨g + 1, 4, none⟩ = false := HS8.out.b1.free 4
    go_wp2_with fail
    refine bodyPost_ret (v := .tuple #[.agg #[.slice A1 n1 c1, .int .i64 L1, .string nm, .bool true, .bool (E1 != 0)], .int .i64 E1]) (by simp [results, Tryz.results11, go_sem, o80, o81, o82, o83, o84]) rfl ?_
    have hend := HS8.out.end_ HA.out HN1.out (v0 := .slice A1 n1 c1) (v1 := .int .i64 L1) (v2 := .string nm) (v3 := .bool true) (v4 := .bool (E1 != 0))
    rw [HR0.out, HIF.out]
    exact hend
set_option maxHeartbeats 8000000 in
theorem rswap_any (w : World) (A : Option Addr) (c : Nat) (M : Tab FileE) (left : Int) (hr : Rd w 3 A M.length (rfsV M)) (hle : LeftOk left) (hA : RLow w A) (nm : ByteArray) {W N : Nat} (hw : Wide W N M) (hW : W ≤ 15000) (hN : N ≤ 900000) (hnW : nm.size + 4 ≤ W) (hW2 : 1344 ≤ W) (RA : Option Addr) (rc : Nat) (rs : List (List UInt8)) (hrn : rs.length ≤ 12) (hrr : Rd w 1 RA rs.length (strV rs)) (hrs : ∀ r ∈ rs, r.length ≤ 100) :
    Calls Tryz.prog 13 #[.agg #[.slice A M.length c, .int .i64 left, .string nm, .bool true, .bool false], .slice RA rs.length rc] w fun e w' => RJPost w A nm (swapR M left nm.data.toList rs).2.1.length (swapR M left nm.data.toList rs).2.1 (swapR M left nm.data.toList rs).2.2 (swapR M left nm.data.toList rs).1 e w' := by
  have hP := fun (V : World) (hb : Below w.heap.size w V) => rframes_any V RA rc rs hrn (hrr.below_all hb) hrs
  obtain ⟨f, hf⟩ : ∃ f, f = framesL rs := ⟨_, rfl⟩
  rw [← hf] at hP
  obtain ⟨F, hF⟩ : ∃ F, F = strB f := ⟨_, rfl⟩
  rw [← hF] at hP
  obtain ⟨rn, hrn2⟩ : ∃ n, n = rs.length := ⟨_, rfl⟩
  rw [← hrn2] at hP ⊢
  have hFl : F.data.toList = f := by rw [hF, strB_list]
  have hfl : f.length ≤ 1344 := by rw [hf]; have := framesL_le hrs; omega
  have hFz : F.size ≤ 1344 := by rw [hF, strB_size]; exact hfl
  have w1 := hw.tid left (newL nm.data.toList)
  obtain ⟨T1, hT1⟩ : ∃ T1, T1 = tidM M left (newL nm.data.toList) := ⟨_, rfl⟩
  obtain ⟨L1, hL1⟩ : ∃ L1, L1 = tidL M left (newL nm.data.toList) := ⟨_, rfl⟩
  obtain ⟨E1, hE1⟩ : ∃ E1, E1 = tidE M left (newL nm.data.toList) := ⟨_, rfl⟩
  have l1 : LeftOk L1 := by rw [hL1]; exact hle.tid _
  have hno : E1 = 0 → (fileOf T1 (newL nm.data.toList)).1 = [] := fun h => by rw [hT1]; exact tid_none (by rw [← hE1]; exact h)
  rw [← hT1] at w1
  obtain ⟨T2, hT2⟩ : ∃ T2, T2 = (anewR T1 L1 (newL nm.data.toList) f nm.data.toList).2.1 := ⟨_, rfl⟩
  obtain ⟨L2, hL2⟩ : ∃ L2, L2 = (anewR T1 L1 (newL nm.data.toList) f nm.data.toList).2.2 := ⟨_, rfl⟩
  obtain ⟨E2, hE2⟩ : ∃ E2, E2 = (anewR T1 L1 (newL nm.data.toList) f nm.data.toList).1 := ⟨_, rfl⟩
  have hR : swapR M left nm.data.toList rs = if E1 ≠ 0 then (E1, T1, L1) else (E2, T2, L2) := by
    unfold swapR
    rw [← hT1, ← hL1, ← hE1, ← hf, hE2, hT2, hL2]
  obtain ⟨n1, hn1⟩ : ∃ n, n = T1.length := ⟨_, rfl⟩
  obtain ⟨n2, hn2⟩ : ∃ n, n = T2.length := ⟨_, rfl⟩
  have hO1 := fun (V : World) (hb : Below w.heap.size w V) => (rclear_any V A c M left (hr.below_all hb) (by have := hw.len; omega) hw.rises hle (fun q hq => Nat.lt_of_lt_of_le (hA q hq) hb.size) nm (by omega)).mono fun e w' h => RPost.two (n := n1) (by rw [← hT1, ← hL1, ← hE1] at h; exact h) hn1
  have hO2 := fun (V : World) (A1 : Option Addr) (c1 : Nat) (h1 : Rd V 3 A1 T1.length (rfsV T1)) (h0 : E1 = 0) (hlo : RLow V A1) => (ranew_any V A1 c1 T1 L1 h1 l1 hlo nm (by omega) F (by omega) w1 (by omega) hN hnW (by rw [hno h0, List.length_nil]; omega)).mono fun e w' h => RPost.two (n := n2) (by rw [hFl, ← hT2, ← hL2, ← hE2] at h; exact h) hn2
  obtain ⟨n0, hn0⟩ : ∃ n, n = M.length := ⟨_, rfl⟩
  rw [← hn0] at hO1 ⊢
  rw [← hn1] at hO2
  obtain ⟨g, hg⟩ : ∃ g, g = w.heap.size := ⟨_, rfl⟩
  obtain ⟨W3, hW3⟩ : ∃ W3, W3 = ((w.alloc (.cells #[.slice A n0 c, .int .i64 left, .string nm, .bool true, .bool false] 33)).alloc (.cells #[.slice none 0 0, .int .i64 0, .string ⟨#[]⟩, .bool false, .bool false] 33)) := ⟨_, rfl⟩
  have b0 : Box W3 g [.slice A n0 c, .int .i64 left, .string nm, .bool true, .bool false] := by rw [hW3]; exact (Box.new' _ _ _ (by simp [hg])).alloc _
  have b1 : Box W3 (g + 1) [.slice none 0 0, .int .i64 0, .string ⟨#[]⟩, .bool false, .bool false] := by rw [hW3]; exact Box.new' _ _ _ (by simp [hg])
  have hbW : Below w.heap.size w W3 := by rw [hW3]; exact ((Below.refl _ _).alloc (by simp) _).alloc (by simp) _
  have HS0 := hid2 (show JSt w W3 A g A n0 c left M nm false from ⟨b0, b1, hr.below_all hbW, hbW, fun q hq => .inl hq, hg⟩)
  have HG := hid2 hg
  have HW3 := hid2 hW3
  have HP := hid2 hP
  have HO1 := hid2 hO1
  have HO2 := hid2 hO2
  have HA := hid2 hA
  have HN1 := hid2 hn1
  have HN2 := hid2 hn2
  have HR0 := hid2 hR
  clear hg hW3 b0 b1 hbW hP hO1 hO2 hA hn0 hn1 hn2 hR hr hle hw hW hN hnW hf hF hrn2 hFl hfl hFz w1 hT1 hL1 hE1 l1 hno hT2 hL2 hE2 hrn hrr hrs hW2
  go_enter Tryz.func13, Tryz.ntmps13
  go_upto_region 1 with fail
  rw [← HW3.out, ← HG.out]
  have e00 : W3.cell? ⟨g, 0, none⟩ = some (.slice A n0 c) := HS0.out.b0.cells 0
  have e01 : W3.cell? ⟨g, 1, none⟩ = some (.int .i64 left) := HS0.out.b0.cells 1
  have e02 : W3.cell? ⟨g, 2, none⟩ = some (.string nm) := HS0.out.b0.cells 2
  have e03 : W3.cell? ⟨g, 3, none⟩ = some (.bool true) := HS0.out.b0.cells 3
  have e04 : W3.cell? ⟨g, 4, none⟩ = some (.bool false) := HS0.out.b0.cells 4
  go_upto_region 4 with (go_at_call 41; refine (HP.out W3 HS0.out.below).mono ?_; rintro e wF ⟨rfl, hbF⟩; have HBF := hid2 hbF; clear hbF)
  have HS9 := hid2 (HS0.out.later HBF.out)
  clear e00 e01 e02 e03 e04
  have e90 : wF.cell? ⟨g, 0, none⟩ = some (.slice A n0 c) := HS9.out.b0.cells 0
  have e91 : wF.cell? ⟨g, 1, none⟩ = some (.int .i64 left) := HS9.out.b0.cells 1
  have e92 : wF.cell? ⟨g, 2, none⟩ = some (.string nm) := HS9.out.b0.cells 2
  have e93 : wF.cell? ⟨g, 3, none⟩ = some (.bool true) := HS9.out.b0.cells 3
  have e94 : wF.cell? ⟨g, 4, none⟩ = some (.bool false) := HS9.out.b0.cells 4
  have f90 : wF.frozen? ⟨g, 0, none⟩ = false := HS9.out.b0.free 0
  have f91 : wF.frozen? ⟨g, 1, none⟩ = false := HS9.out.b0.free 1
  go_upto_region 7 with (go_at_call 30; refine (HO1.out wF HS9.out.below).mono ?_; rintro e w3 ⟨A1, c1, rfl, hr, hb, hf⟩; clear e90 e91 e92 e93 e94 f90 f91; have k0 := HS9.out.b0.below_all hb; have d0 : w3.cell? ⟨g, 0, none⟩ = some (.slice A n0 c) := k0.cells 0; have d1 : w3.cell? ⟨g, 1, none⟩ = some (.int .i64 left) := k0.cells 1; have f0 : w3.frozen? ⟨g, 0, none⟩ = false := k0.free 0; have f1 : w3.frozen? ⟨g, 1, none⟩ = false := k0.free 1; clear k0; have HR3 := hid2 hr; have HB3 := hid2 hb; have HF3 := hid2 hf; clear hr hb hf)
  obtain ⟨W4, hW4⟩ : ∃ W4, W4 = (w3.setCell ⟨g, 0, none⟩ (.slice A1 n1 c1)).setCell ⟨g, 1, none⟩ (.int .i64 L1) := ⟨_, rfl⟩
  rw [← hW4]
  have HS1 := hid2 (show JSt w W4 A g A1 n1 c1 L1 T1 nm false from by rw [hW4]; exact HS9.out.next HA.out HR3.out HB3.out HF3.out)
  clear hW4 d0 d1 f0 f1
  have e10 : W4.cell? ⟨g, 0, none⟩ = some (.slice A1 n1 c1) := HS1.out.b0.cells 0
  have e11 : W4.cell? ⟨g, 1, none⟩ = some (.int .i64 L1) := HS1.out.b0.cells 1
  have e12 : W4.cell? ⟨g, 2, none⟩ = some (.string nm) := HS1.out.b0.cells 2
  have e13 : W4.cell? ⟨g, 3, none⟩ = some (.bool true) := HS1.out.b0.cells 3
  have e14 : W4.cell? ⟨g, 4, none⟩ = some (.bool false) := HS1.out.b0.cells 4
  by_cases h1 : E1 = 0
  · have HIF := hid2 (show (if E1 ≠ 0 then (E1, T1, L1) else (E2, T2, L2)) = (E2, T2, L2) from if_neg (by rw [h1]; simp))
    subst h1
    have f10 : W4.frozen? ⟨g, 0, none⟩ = false := HS1.out.b0.free 0
    have f11 : W4.frozen? ⟨g, 1, none⟩ = false := HS1.out.b0.free 1
    go_upto_region 9 with (go_at_call 33; refine (HO2.out W4 A1 c1 (by rw [HN1.out]; exact HS1.out.row) rfl (HS1.out.low HA.out)).mono ?_; rintro e w5 ⟨A2, c2, rfl, hr, hb, hf⟩; clear e10 e11 e12 e13 e14 f10 f11; have k0 := HS1.out.b0.below_all hb; have d0 : w5.cell? ⟨g, 0, none⟩ = some (.slice A1 n1 c1) := k0.cells 0; have d1 : w5.cell? ⟨g, 1, none⟩ = some (.int .i64 L1) := k0.cells 1; have f0 : w5.frozen? ⟨g, 0, none⟩ = false := k0.free 0; have f1 : w5.frozen? ⟨g, 1, none⟩ = false := k0.free 1; clear k0; have HR5 := hid2 hr; have HB5 := hid2 hb; have HF5 := hid2 hf; clear hr hb hf)
    obtain ⟨W6, hW6⟩ : ∃ W6, W6 = (w5.setCell ⟨g, 0, none⟩ (.slice A2 n2 c2)).setCell ⟨g, 1, none⟩ (.int .i64 L2) := ⟨_, rfl⟩
    rw [← hW6]
    have HS2 := hid2 (show JSt w W6 A g A2 n2 c2 L2 T2 nm false from by rw [hW6]; exact HS1.out.next HA.out HR5.out HB5.out HF5.out)
    clear hW6 d0 d1 f0 f1
    have e20 : W6.cell? ⟨g, 0, none⟩ = some (.slice A2 n2 c2) := HS2.out.b0.cells 0
    have e21 : W6.cell? ⟨g, 1, none⟩ = some (.int .i64 L2) := HS2.out.b0.cells 1
    have e22 : W6.cell? ⟨g, 2, none⟩ = some (.string nm) := HS2.out.b0.cells 2
    have e23 : W6.cell? ⟨g, 3, none⟩ = some (.bool true) := HS2.out.b0.cells 3
    have e24 : W6.cell? ⟨g, 4, none⟩ = some (.bool false) := HS2.out.b0.cells 4
    have fq : W6.frozen? ⟨g, 4, none⟩ = false := HS2.out.b0.free 4
    go_upto_region 10 with fail
    obtain ⟨W8, hW8⟩ : ∃ W8, W8 = W6.setCell ⟨g, 4, none⟩ (.bool (E2 != 0)) := ⟨_, rfl⟩
    rw [← hW8]
    have HS8 := hid2 (show JSt w W8 A g A2 n2 c2 L2 T2 nm (E2 != 0) from by rw [hW8]; exact HS2.out.brk HA.out _)
    clear hW8 e20 e21 e22 e23 e24 fq
    have e80 : W8.cell? ⟨g, 0, none⟩ = some (.slice A2 n2 c2) := HS8.out.b0.cells 0
    have e81 : W8.cell? ⟨g, 1, none⟩ = some (.int .i64 L2) := HS8.out.b0.cells 1
    have e82 : W8.cell? ⟨g, 2, none⟩ = some (.string nm) := HS8.out.b0.cells 2
    have e83 : W8.cell? ⟨g, 3, none⟩ = some (.bool true) := HS8.out.b0.cells 3
    have e84 : W8.cell? ⟨g, 4, none⟩ = some (.bool (E2 != 0)) := HS8.out.b0.cells 4
    have o80 : W8.cell? ⟨g + 1, 0, none⟩ = some (.slice none 0 0) := HS8.out.b1.cells 0
    have p80 : W8.frozen? ⟨g + 1, 0, none⟩ = false := HS8.out.b1.free 0
    have o81 : W8.cell? ⟨g + 1, 1, none⟩ = some (.int .i64 0) := HS8.out.b1.cells 1
    have p81 : W8.frozen? ⟨g + 1, 1, none⟩ = false := HS8.out.b1.free 1
    have o82 : W8.cell? ⟨g + 1, 2, none⟩ = some (.string ⟨#[]⟩) := HS8.out.b1.cells 2
    have p82 : W8.frozen? ⟨g + 1, 2, none⟩ = false := HS8.out.b1.free 2
    have o83 : W8.cell? ⟨g + 1, 3, none⟩ = some (.bool false) := HS8.out.b1.cells 3
    have p83 : W8.frozen? ⟨g + 1, 3, none⟩ = false := HS8.out.b1.free 3
    have o84 : W8.cell? ⟨g + 1, 4, none⟩ = some (.bool false) := HS8.out.b1.cells 4
    have p84 : W8.frozen? ⟨g + 1, 4, none⟩ = false := HS8.out.b1.free 4
    go_wp2_with fail
    refine bodyPost_ret (v := .tuple #[.agg #[.slice A2 n2 c2, .int .i64 L2, .string nm, .bool true, .bool (E2 != 0)], .int .i64 E2]) (by simp [results, Tryz.results13, go_sem, o80, o81, o82, o83, o84]) rfl ?_
    have hend := HS8.out.end_ HA.out HN2.out (v0 := .slice A2 n2 c2) (v1 := .int .i64 L2) (v2 := .string nm) (v3 := .bool true) (v4 := .bool (E2 != 0))
    rw [HR0.out, HIF.out]
    exact hend
  · have HIF := hid2 (show (if E1 ≠ 0 then (E1, T1, L1) else (E2, T2, L2)) = (E1, T1, L1) from if_pos h1)
    have h1b : (E1 == 0) = false := by rw [beq_eq_false_iff_ne]; exact h1
    have fq : W4.frozen? ⟨g, 4, none⟩ = false := HS1.out.b0.free 4
    go_upto_region 10 with fail
    obtain ⟨W8, hW8⟩ : ∃ W8, W8 = W4.setCell ⟨g, 4, none⟩ (.bool (E1 != 0)) := ⟨_, rfl⟩
    rw [← hW8]
    have HS8 := hid2 (show JSt w W8 A g A1 n1 c1 L1 T1 nm (E1 != 0) from by rw [hW8]; exact HS1.out.brk HA.out _)
    clear hW8 e10 e11 e12 e13 e14 fq
    have e80 : W8.cell? ⟨g, 0, none⟩ = some (.slice A1 n1 c1) := HS8.out.b0.cells 0
    have e81 : W8.cell? ⟨g, 1, none⟩ = some (.int .i64 L1) := HS8.out.b0.cells 1
    have e82 : W8.cell? ⟨g, 2, none⟩ = some (.string nm) := HS8.out.b0.cells 2
    have e83 : W8.cell? ⟨g, 3, none⟩ = some (.bool true) := HS8.out.b0.cells 3
    have e84 : W8.cell? ⟨g, 4, none⟩ = some (.bool (E1 != 0)) := HS8.out.b0.cells 4
    have o80 : W8.cell? ⟨g + 1, 0, none⟩ = some (.slice none 0 0) := HS8.out.b1.cells 0
    have p80 : W8.frozen? ⟨g + 1, 0, none⟩ = false := HS8.out.b1.free 0
    have o81 : W8.cell? ⟨g + 1, 1, none⟩ = some (.int .i64 0) := HS8.out.b1.cells 1
    have p81 : W8.frozen? ⟨g + 1, 1, none⟩ = false := HS8.out.b1.free 1
    have o82 : W8.cell? ⟨g + 1, 2, none⟩ = some (.string ⟨#[]⟩) := HS8.out.b1.cells 2
    have p82 : W8.frozen? ⟨g + 1, 2, none⟩ = false := HS8.out.b1.free 2
    have o83 : W8.cell? ⟨g + 1, 3, none⟩ = some (.bool false) := HS8.out.b1.cells 3
    have p83 : W8.frozen? ⟨g + 1, 3, none⟩ = false := HS8.out.b1.free 3
    have o84 : W8.cell? ⟨g + 1, 4, none⟩ = some (.bool false) := HS8.out.b1.cells 4
    have p84 : W8.frozen? ⟨g + 1, 4, none⟩ = false := HS8.out.b1.free 4
    go_wp2_with fail
    refine bodyPost_ret (v := .tuple #[.agg #[.slice A1 n1 c1, .int .i64 L1, .string nm, .bool true, .bool (E1 != 0)], .int .i64 E1]) (by simp [results, Tryz.results13, go_sem, o80, o81, o82, o83, o84]) rfl ?_
    have hend := HS8.out.end_ HA.out HN1.out (v0 := .slice A1 n1 c1) (v1 := .int .i64 L1) (v2 := .string nm) (v3 := .bool true) (v4 := .bool (E1 != 0))
    rw [HR0.out, HIF.out]
    exact hend
end Go.Proofs.YtehpapoboeejkaaGreat
/- What an operation of a drawn region yields: a fixed value, or one of which something is told. -/
namespace Go.Proofs.YtehpapoboeejkaaGreat
def VV (vals : List (Option Value)) (X : Nat → Value → World → Prop) (j : Nat) (v : Value) (w : World) : Prop :=
  match vals.getD j none with
  | some u => v = u
  | none => X j v w
theorem VV.keep {vals : List (Option Value)} {X : Nat → Value → World → Prop} {j : Nat} {v : Value} {w w' : World} (hX : X j v w → X j v w') (h : VV vals X j v w) : VV vals X j v w' := by
  unfold VV at *
  split at h
  · exact h
  · exact hX h
end Go.Proofs.YtehpapoboeejkaaGreat
/- A fifth rule for a region that draws its order: stores among its operations. -/
namespace Go.Proofs.YtehpapoboeejkaaGreat
open Go.RowKit
section
variable {P : Program}
def updL (L : Nat → Bool) (i : Nat) : Nat → Bool := fun j => if j = i then true else L j
/-- whether operation j comes behind operation i -/
def edgeB (l : List Oper) (j i : Nat) : Bool := match l[j]? with
  | some o => o.after.any fun e => Region.binds .any e && e.on == i
  | none => false
def pathB (l : List Oper) : List Nat → Bool
  | a :: b :: r => edgeB l a b && pathB l (b :: r)
  | _ => true
theorem path_listed {l : List Oper} {L : Nat → Bool} (hcl : ∀ j k, L j = true → edgeB l j k = true → L k = true) : ∀ (r : List Nat) (a : Nat), pathB l (a :: r) = true → L a = true → ∀ x ∈ a :: r, L x = true
  | [], a, _, h, x, hx => by
    have : x = a := by simpa using hx
    rw [this]
    exact h
  | b :: r, a, hp, h, x, hx => by
    rw [pathB, Bool.and_eq_true] at hp
    rcases List.mem_cons.1 hx with e | e
    · rw [e]
      exact h
    · exact path_listed hcl r b hp.2 (hcl a b h hp.1) x e
/-- what has not come holds back what comes behind it -/
theorem not_come {l : List Oper} {L : Nat → Bool} (hcl : ∀ j k, L j = true → edgeB l j k = true → L k = true) {i : Nat} (hi : L i = false) (j : Nat) (r : List Nat) (hp : pathB l (j :: r) = true) (hx : i ∈ j :: r) : L j = false := by
  cases h : L j with
  | false => rfl
  | true =>
    have := path_listed hcl r j hp h i hx
    rw [hi] at this
    cases this
/-- As wp_region_grd; the world's invariant M may tell which operations have come (L) and what they yielded (u). -/
theorem wp_region_lst {id : Nat} {Q : Exit → Act → World → Prop} {w : World} {l : List Oper} {T : Array Value} {D : List Deferred} (n : Nat) (hm : P.follows .mixedOrders = true)
    (hB : headB2 l.toArray n = true) (hd : distinctB (l.take n) = true) (N : Nat) (hN : T.size = N) (hNB : (l.all fun o => (o.dst.map fun d => decide (d < N)).getD true) = true)
    (V : Nat → Value → World → Prop) (M : (Nat → Bool) → (Nat → Value) → World → Prop) (Ext : World → World → Prop) (hM0 : ∀ u, M (fun _ => false) u w.drew) (hV : ∀ j v w w', Ext w w' → V j v w → V j v w')
    (hop : ∀ i o, i < n → l[i]? = some o → ∀ (T' : Array Value) (w : World) (L : Nat → Bool) (u : Nat → Value), M L u w → L i = false → (∀ j k, L j = true → edgeB l j k = true → L k = true) → (∀ j oj d, j < n → L j = true → l[j]? = some oj → oj.dst = some d → T'[d]? = some (u j) ∧ V j (u j) w) → (∀ e ∈ o.after, Region.binds .any e = true → L e.on = true) → T'.size = T.size → (∀ t, dstIn t (l.take n) = false → T'[t]? = T[t]?) →
      (∀ e ∈ o.after, Region.binds .any e = true → ∀ oe d, l[e.on]? = some oe → oe.dst = some d → ∃ v, T'[d]? = some v ∧ V e.on v w ∧ u e.on = v) →
      ∀ K : Act → World → Prop, (∀ v w', V i v w' → M (updL L i) (upd u i v) w' → Ext w w' → K ((⟨T', D⟩ : Act).put o.dst v) w') → if Region.wanted o (yielded l.toArray T') = true then Oper.wp P o ⟨T', D⟩ w K Q else K ((⟨T', D⟩ : Act).put o.dst undef) w)
    (hend : ∀ (u : Nat → Value) (w : World), M (fun j => decide (j < n)) u w → (∀ j, j < n → V j (u j) w) → wpList P l.toArray Q (l.drop n) ⟨fillAll T (l.take n) u 0, D⟩ w) :
    (Code.region id l.toArray true).wp P Q ⟨T, D⟩ w := by
  have hin_ : ∀ o d, o ∈ l → o.dst = some d → d < T.size := fun o d ho hd' => by
    have := List.all_eq_true.1 hNB o ho
    rw [hd'] at this
    rw [hN]
    simpa using this
  simp only [headB2, Bool.and_eq_true, Bool.or_eq_true, decide_eq_true_eq] at hB
  obtain ⟨hback, hB⟩ := hB
  have hsz : l.toArray.size = l.length := by simp
  have hn : n ≤ l.length := by rcases hB with h | h <;> omega
  refine wp_region_any hm ?_
  -- the state: some of the head have come
  have key : ∀ (f : Nat) (listed : Array Bool) (u : Nat → Value) (w : World), HeadInv .any l.toArray n listed →
      ((List.range n).filter fun j => !listed.getD j true).length = f → M (fun j => listed.getD j false) u w → (∀ j, j < n → listed.getD j false = true → V j (u j) w) →
      wpAny P .any l.toArray Q (f + (l.length - n)) listed ⟨fillAll T (l.take n) u 0, D⟩ w := by
    intro f
    induction f with
    | zero =>
      intro listed u w inv hf hM hVs
      have hall : ∀ j, j < n → listed.getD j false = true := by
        intro j hj
        have : (List.range n).filter (fun j => !listed.getD j true) = [] := List.eq_nil_of_length_eq_zero hf
        have h1 := List.filter_eq_nil_iff.1 this j (List.mem_range.2 hj)
        have hjs : j < listed.size := by rw [inv.size, hsz]; omega
        simp only [Bool.not_eq_true', Bool.not_eq_false] at h1
        simp [hjs] at h1 ⊢
        exact h1
      have hL : listed = (Array.range l.toArray.size).map fun j => decide (j < n) := by
        apply Array.ext
        · simp [inv.size]
        · intro j h1 h2
          rw [Array.getElem_map, Array.getElem_range]
          by_cases hjn : j < n
          · have := hall j hjn
            simp only [hjn, decide_true]
            simpa [h1] using this
          · have hjl : j < l.toArray.size := by rw [← inv.size]; exact h1
            have := inv.tail j (by omega) hjl
            simp only [hjn, decide_false]
            simpa [h1] using this
      have hLf : (fun j => listed.getD j false) = fun j => decide (j < n) := by
        funext j
        by_cases hjn : j < n
        · rw [hall j hjn, decide_eq_true hjn]
        · rw [decide_eq_false hjn]
          rcases Nat.lt_or_ge j l.toArray.size with h | h
          · exact getD_both (inv.tail j (by omega) h)
          · have : listed.size ≤ j := by rw [inv.size]; exact h
            simp [Array.getElem?_eq_none this]
      rw [hLf] at hM
      have hend' := hend u w hM (fun j hj => hVs j hj (hall j hj))
      rw [Nat.zero_add]
      rcases hB with hB | hB
      · have h0 : l.length - n = 0 := by omega
        rw [h0]
        rw [List.drop_of_length_le (by omega)] at hend'
        refine ⟨?_, hend'⟩
        rcases hr : Region.ready .any l.toArray listed with _ | ⟨i, r⟩
        · rfl
        · have hi : i ∈ Region.ready .any l.toArray listed := by rw [hr]; simp
          obtain ⟨h1, o, ho, _⟩ := mem_ready.1 hi
          have hil : i < l.toArray.size := (Array.getElem?_eq_some_iff.1 ho).1
          have := hall i (by omega)
          rw [getD_both h1] at this; cases this
      · have hdl : (l.drop n).length = l.length - n := by simp
        have hseq := hB.2
        rw [← hL, hsz, ← hdl] at hseq
        have := wpAny_of_seq (P := P) (md := .any) (ops := l.toArray) (Q' := Q) (l.drop n) n listed ⟨fillAll T (l.take n) u 0, D⟩ w (fun j => by simp [List.getElem?_drop]) hseq hend'
        rw [hdl] at this
        exact this
    | succ f ih =>
      intro listed u w inv hf hM hVs
      rw [show f + 1 + (l.length - n) = (f + (l.length - n)) + 1 by omega]
      -- one of the head has not come: the least of them may come
      have hex : ∃ i, i < n ∧ listed.getD i true = false := by
        rcases hq : (List.range n).filter (fun j => !listed.getD j true) with _ | ⟨i, r⟩
        · rw [hq] at hf; simp at hf
        · have hi : i ∈ (List.range n).filter (fun j => !listed.getD j true) := by rw [hq]; simp
          rw [List.mem_filter, List.mem_range] at hi
          exact ⟨i, hi.1, by simpa using hi.2⟩
      refine ⟨fun h0 => ?_, fun i hi => ?_⟩
      · exfalso
        -- strong induction to the least
        have hleast : ∀ m i, i ≤ m → i < n → listed.getD i true = false → ∃ j, j ∈ Region.ready .any l.toArray listed := by
          intro m
          induction m with
          | zero =>
            intro i hi hin hun
            obtain rfl : i = 0 := by omega
            have hlt : 0 < l.length := by omega
            refine ⟨0, mem_ready.2 ⟨hun, l[0], by simp [hlt], fun e he hb => ?_⟩⟩
            have h1 := List.all_eq_true.1 hback 0 (List.mem_range.2 hin)
            rw [show l.toArray[0]? = some l[0] by simp [hlt]] at h1
            simp only [Option.map_some, Option.getD_some, Array.all_eq_true', Bool.or_eq_true, Bool.not_eq_true', decide_eq_true_eq] at h1
            have := (h1 e he).resolve_left (by rw [hb]; decide)
            omega
          | succ m ihm =>
            intro i hi hin hun
            by_cases hdep : ∃ j, j < i ∧ listed.getD j true = false
            · obtain ⟨j, hj, hju⟩ := hdep
              exact ihm j (by omega) (by omega) hju
            · have hlt : i < l.length := by omega
              refine ⟨i, mem_ready.2 ⟨hun, l[i], by simp [hlt], fun e he hb => ?_⟩⟩
              have h1 := List.all_eq_true.1 hback i (List.mem_range.2 hin)
              rw [show l.toArray[i]? = some l[i] by simp [hlt]] at h1
              simp only [Option.map_some, Option.getD_some, Array.all_eq_true', Bool.or_eq_true, Bool.not_eq_true', decide_eq_true_eq] at h1
              have hlt2 := (h1 e he).resolve_left (by rw [hb]; decide)
              have hes : e.on < listed.size := by rw [inv.size, hsz]; omega
              cases hq : listed.getD e.on false with
              | true => rfl
              | false => exact absurd ⟨e.on, hlt2, getD_in hes hq⟩ hdep
        obtain ⟨i, hin, hun⟩ := hex
        obtain ⟨j, hj⟩ := hleast i i (Nat.le_refl _) hin hun
        rw [h0] at hj; cases hj
      · obtain ⟨hun, o, ho, hall⟩ := mem_ready.1 hi
        have hin : i < n := by
          rcases hB with hB | hB
          · have := (Array.getElem?_eq_some_iff.1 ho).1; omega
          · rcases Nat.lt_or_ge i n with h | h
            · exact h
            · obtain ⟨k, hk, hku⟩ := hex
              exact absurd hi (tail_waits hB.1.1.2 hB.1.2 hB.1.1.1 inv _ k rfl hk hku i h)
        have hol : l[i]? = some o := by simpa using ho
        have hfacts : ∀ e ∈ o.after, Region.binds .any e = true → V e.on (u e.on) w := fun e he hb => by
          refine hVs e.on ?_ (hall e he hb)
          have h1 := List.all_eq_true.1 hback i (List.mem_range.2 hin)
          rw [ho] at h1
          simp only [Option.map_some, Option.getD_some, Array.all_eq_true', Bool.or_eq_true, Bool.not_eq_true', decide_eq_true_eq] at h1
          have := (h1 e he).resolve_left (by rw [hb]; decide)
          omega
        refine wpOp_step ho fun K hK => ?_
        have hst := hop i o hin hol (fillAll T (l.take n) u 0) w _ u hM (getD_both hun) (fun j k hj he => by
          unfold edgeB at he
          cases hoj : l[j]? with
          | none => rw [hoj] at he; cases he
          | some oj =>
            rw [hoj] at he
            simp only at he
            rw [Array.any_eq_true'] at he
            obtain ⟨e, he1, heb⟩ := he
            rw [Bool.and_eq_true, beq_iff_eq] at heb
            have := inv.closed j oj (by simpa using hoj) hj e he1 heb.1
            rw [heb.2] at this
            exact this) (fun j oj d hj hlj hoj hd' => by
          refine ⟨?_, hVs j hj hlj⟩
          have := fillAll_at (l.take n) T u 0 j oj d hd (by rw [List.getElem?_take, if_pos hj]; exact hoj) hd' (hin_ oj d (List.mem_of_getElem? hoj) hd')
          rwa [Nat.zero_add] at this) hall (fillAll_size _ _ _ _) (fun t ht => fillAll_out _ _ _ _ t ht) (fun e he hb oe d hoe hod => by
          have hlt2 : e.on < n := by
            have h1 := List.all_eq_true.1 hback i (List.mem_range.2 hin)
            rw [ho] at h1
            simp only [Option.map_some, Option.getD_some, Array.all_eq_true', Bool.or_eq_true, Bool.not_eq_true', decide_eq_true_eq] at h1
            have := (h1 e he).resolve_left (by rw [hb]; decide)
            omega
          refine ⟨u e.on, ?_, hfacts e he hb, rfl⟩
          have := fillAll_at (l.take n) T u 0 e.on oe d hd (by rw [List.getElem?_take, if_pos hlt2]; exact hoe) hod (hin_ oe d (List.mem_of_getElem? hoe) hod)
          rwa [Nat.zero_add] at this)
        refine hst K (fun v w' hv hM' hE => hK _ _ ?_)
        have hput : (⟨fillAll T (l.take n) u 0, D⟩ : Act).put o.dst v = ⟨fillAll T (l.take n) (upd u i v) 0, D⟩ := by
          have := fillAll_put (l.take n) T u 0 i o v hd (by rw [List.getElem?_take, if_pos hin]; exact hol)
          rw [Nat.zero_add] at this
          rw [← this]
          cases o.dst <;> rfl
        rw [hput]
        refine ih (listed.setIfInBounds i true) (upd u i v) w' (inv.set hi hin) ?_ ?_ ?_
        · have hils : i < listed.size := by rw [inv.size, hsz]; omega
          have hsplit : ∀ (r : List Nat), r.Nodup → i ∈ r → (r.filter fun j => !listed.getD j true).length = (r.filter fun j => !(listed.setIfInBounds i true).getD j true).length + 1 := by
            intro r
            induction r with
            | nil => intro _ h; cases h
            | cons x r ihr =>
              intro hnd hmem
              rw [List.nodup_cons] at hnd
              by_cases hx : x = i
              · subst hx
                have h2 : (listed.setIfInBounds x true).getD x true = true := by simp [hils]
                have hsame : ∀ (r' : List Nat), x ∉ r' → (r'.filter fun j => !listed.getD j true) = (r'.filter fun j => !(listed.setIfInBounds x true).getD j true) := by
                  intro r' hr'
                  refine List.filter_congr fun j hj => ?_
                  rw [getD_set_ne true (show x ≠ j from fun e => hr' (by rw [e]; exact hj))]
                rw [List.filter_cons, List.filter_cons, hun, h2]
                simp only [Bool.not_false, if_true, Bool.not_true, Bool.false_eq_true, if_false, List.length_cons]
                rw [hsame r hnd.1]
              · have hm' : i ∈ r := by
                  rcases List.mem_cons.1 hmem with h | h
                  · exact absurd h.symm hx
                  · exact h
                have := ihr hnd.2 hm'
                rw [List.filter_cons, List.filter_cons, getD_set_ne true (fun e => hx e.symm)]
                split
                · simp only [List.length_cons]; omega
                · exact this
          have := hsplit (List.range n) List.nodup_range (List.mem_range.2 hin)
          omega
        · have hils : i < listed.size := by rw [inv.size, hsz]; omega
          have hLe : (fun j => (listed.setIfInBounds i true).getD j false) = updL (fun j => listed.getD j false) i := by
            funext j
            by_cases hji : j = i
            · subst hji
              simp [updL, hils]
            · rw [getD_set_ne false (Ne.symm hji)]
              simp [updL, hji]
          rw [hLe]
          exact hM'
        · intro j hj hl
          by_cases hji : j = i
          · subst hji
            simp only [upd, if_true]
            exact hv
          · rw [getD_set_ne false (Ne.symm hji)] at hl
            have h1 := hV j (u j) w w' hE (hVs j hj hl)
            simp only [upd, hji, if_false]
            exact h1
  obtain ⟨u, hu⟩ := fillAll_self (l.take n) T 0 hd
  have inv0 : HeadInv .any l.toArray n (Array.replicate l.toArray.size false) :=
    ⟨by simp, fun j oj _ hl => (by rw [getD_replicate_false] at hl; cases hl), fun t _ ht => getD_in (by simpa using ht) (getD_replicate_false _ _)⟩
  have hf0 : ((List.range n).filter fun j => !(Array.replicate l.toArray.size false).getD j true).length = n := by
    rw [List.filter_eq_self.2]
    · simp
    · intro j hj
      have := List.mem_range.1 hj
      rw [getD_in (by simp; omega) (getD_replicate_false _ _)]; rfl
  have := key n (Array.replicate l.toArray.size false) u w.drew inv0 hf0 (by have hz : (fun j => (Array.replicate l.toArray.size false).getD j false) = fun _ => false := (by funext j; exact getD_replicate_false _ _); rw [hz]; exact hM0 u) (fun j _ hl => by rw [getD_replicate_false] at hl; cases hl)
  rw [hu, show n + (l.length - n) = l.toArray.size by omega] at this
  exact this
end
end Go.Proofs.YtehpapoboeejkaaGreat
/- The document's Open. -/
namespace Go.Proofs.YtehpapoboeejkaaGreat
open Go.RowKit Go.Maps
set_option maxRecDepth 100000
/-- Open is answered -/
def ROPost (w : World) (A : Option Addr) (nm : ByteArray) (r : Int × List (List UInt8) × Tab FileE × Int) (e : Ending) (w' : World) : Prop :=
  ∃ A' c' B cB, e = .returned (.tuple #[.agg #[.slice A' r.2.2.1.length c', .int .i64 r.2.2.2, .string (if r.1 = 0 then nm else ⟨#[]⟩), .bool (r.1 == 0), .bool false], .slice B r.2.1.length cB, .int .i64 r.1]) ∧ Rd w' 3 A' r.2.2.1.length (rfsV r.2.2.1) ∧ Rd w' 1 B r.2.1.length (strV r.2.1) ∧ Below w.heap.size w w' ∧ RFar w A A' w' ∧ ∀ q, blockOf B = some q → w.heap.size ≤ q
/-- a stage of Open: the disk's block, and the answer's -/
structure OSt (w W : World) (A : Option Addr) (g : Nat) (A1 : Option Addr) (n1 c1 : Nat) (L1 : Int) (T1 : Tab FileE) : Prop where
  b0 : Box W g [.slice A1 n1 c1, .int .i64 L1]
  b1 : Box W (g + 1) [.slice none 0 0, .int .i64 0, .string ⟨#[]⟩, .bool false, .bool false]
  row : Rd W 3 A1 T1.length (rfsV T1)
  below : Below w.heap.size w W
  far : ∀ q, blockOf A1 = some q → blockOf A = some q ∨ g + 2 ≤ q ∧ q < W.heap.size
  gw : g = w.heap.size
section
variable {w W w3 : World} {A A1 A2 : Option Addr} {g n1 c1 nQ c2 : Nat} {L1 LQ : Int} {T1 TQ : Tab FileE} {nm : ByteArray}
theorem OSt.later (h : OSt w W A g A1 n1 c1 L1 T1) (hb : Below W.heap.size W w3) : OSt w w3 A g A1 n1 c1 L1 T1 :=
  ⟨h.b0.below_all hb, h.b1.below_all hb, h.row.below_all hb, h.below.trans (hb.mono h.below.size), fun q hq => (h.far q hq).imp id fun e => by have := hb.size; omega, h.gw⟩
theorem OSt.low (h : OSt w W A g A1 n1 c1 L1 T1) (hA : RLow w A) : RLow W A1 := fun q hq => by
  have := h.below.size
  rcases h.far q hq with e | e
  · have := hA q e; omega
  · omega
theorem OSt.ne (h : OSt w W A g A1 n1 c1 L1 T1) (hA : RLow w A) {k : Nat} (hk : g ≤ k) (hk2 : k < g + 2) : blockOf A1 ≠ some k := fun e => by
  have := h.gw
  rcases h.far _ e with e | e
  · have := hA _ e; omega
  · omega
theorem OSt.next (h : OSt w W A g A1 n1 c1 L1 T1) (hA : RLow w A) (hr : Rd w3 3 A2 TQ.length (rfsV TQ)) (hb : Below W.heap.size W w3) (hf : RFar W A1 A2 w3) :
    OSt w ((w3.setCell ⟨g, 0, none⟩ (.slice A2 nQ c2)).setCell ⟨g, 1, none⟩ (.int .i64 LQ)) A g A2 nQ c2 LQ TQ := by
  have hgw := h.gw
  have h1 := h.b1.lt
  have h2 := hb.size
  have haw : ∀ q, blockOf A2 = some q → blockOf A = some q ∨ g + 2 ≤ q ∧ q < w3.heap.size := fun q hq => by
    rcases hf q hq with e | e
    · rcases h.far q e with e | e
      · exact .inl e
      · exact .inr (by omega)
    · exact .inr (by omega)
  have hne : blockOf A2 ≠ some g := fun e => by
    rcases haw g e with e | e
    · have := hA g e; omega
    · omega
  refine ⟨((h.b0.below_all hb).set 0 _).set 1 _, ((h.b1.below_all hb).other (p := ⟨g, 0, none⟩) (show g + 1 ≠ g by omega) _).other (p := ⟨g, 1, none⟩) (show g + 1 ≠ g by omega) _, (hr.setFar 0 _ hne).setFar 1 _ hne, ?_, fun q hq => ?_, hgw⟩
  · exact ((h.below.trans (hb.mono h.below.size)).setCell (p := ⟨g, 0, none⟩) (by show w.heap.size ≤ g; omega) _).setCell (p := ⟨g, 1, none⟩) (by show w.heap.size ≤ g; omega) _
  · rw [World.size_setCell, World.size_setCell]
    exact haw q hq
theorem OSt.away (h : OSt w W A g A1 n1 c1 L1 T1) (hA : RLow w A) (hb : Below W.heap.size W w3) {w4 : World} (hf : RFar w3 A1 A2 w4) : blockOf A2 ≠ some g := fun e => by
  have h1 := h.gw
  have h2 := h.b1.lt
  have h3 := hb.size
  rcases hf g e with q | q
  · rcases h.far g q with q | q
    · have := hA g q; omega
    · omega
  · omega
theorem OSt.end_ {r : Int × List (List UInt8) × Tab FileE × Int} {E : Int} {X : ByteArray} {is : Bool} {B : Option Addr} {nB cB : Nat} (h : OSt w W A g A1 n1 c1 L1 T1) (hA : RLow w A) (hn : n1 = T1.length) (hr1 : r.1 = E) (hrT : r.2.2.1 = T1) (hrL : r.2.2.2 = L1) (hX : (if r.1 = 0 then nm else ⟨#[]⟩) = X) (his : (r.1 == 0) = is) (hnB : nB = r.2.1.length) (hl : Rd W 1 B r.2.1.length (strV r.2.1)) (hB : blockOf B ≠ some (g + 1)) (hBq : ∀ q, blockOf B = some q → w.heap.size ≤ q) {v0 v1 v2 v3 v4 : Value} :
    ROPost w A nm r (.returned (.tuple #[.agg #[.slice A1 n1 c1, .int .i64 L1, .string X, .bool is, .bool false], .slice B nB cB, .int .i64 E])) (((((W.setCell ⟨g + 1, 0, none⟩ v0).setCell ⟨g + 1, 1, none⟩ v1).setCell ⟨g + 1, 2, none⟩ v2).setCell ⟨g + 1, 3, none⟩ v3).setCell ⟨g + 1, 4, none⟩ v4) := by
  have hgw := h.gw
  have hne := h.ne hA (k := g + 1) (by omega) (by omega)
  have hq : ∀ o, w.heap.size ≤ (⟨g + 1, o, none⟩ : Addr).block := fun o => by show w.heap.size ≤ g + 1; omega
  refine ⟨A1, c1, B, cB, by rw [hX, his, hr1, hrT, hrL, ← hn, ← hnB], ?_, ((((hl.setFar 0 _ hB).setFar 1 _ hB).setFar 2 _ hB).setFar 3 _ hB).setFar 4 _ hB, ((((h.below.setCell (hq 0) _).setCell (hq 1) _).setCell (hq 2) _).setCell (hq 3) _).setCell (hq 4) _, fun q hq => ?_, hBq⟩
  · rw [hrT]
    exact ((((h.row.setFar 0 _ hne).setFar 1 _ hne).setFar 2 _ hne).setFar 3 _ hne).setFar 4 _ hne
  · rw [World.size_setCell, World.size_setCell, World.size_setCell, World.size_setCell, World.size_setCell]
    exact (h.far q hq).imp id fun e => by omega
end
set_option maxHeartbeats 8000000 in
theorem ropen_none (w : World) (A : Option Addr) (c : Nat) (M : Tab FileE) (left : Int) (hr : Rd w 3 A M.length (rfsV M)) (hle : LeftOk left) (hA : RLow w A) :
    Calls Tryz.prog 9 #[.agg #[.slice A M.length c, .int .i64 left], .string ⟨#[]⟩] w (ROPost w A ⟨#[]⟩ (1, [], M, left)) := by
  obtain ⟨n0, hn0⟩ : ∃ n, n = M.length := ⟨_, rfl⟩
  rw [← hn0]
  obtain ⟨g, hg⟩ : ∃ g, g = w.heap.size := ⟨_, rfl⟩
  obtain ⟨W3, hW3⟩ : ∃ W3, W3 = (((w.alloc (.cells #[.slice A n0 c, .int .i64 left] 30)).alloc (.cells #[.slice none 0 0, .int .i64 0, .string ⟨#[]⟩, .bool false, .bool false] 33)).alloc (.cells #[] 9)) := ⟨_, rfl⟩
  have b0 : Box W3 g [.slice A n0 c, .int .i64 left] := by rw [hW3]; exact ((Box.new' _ _ _ (by simp [hg])).alloc _).alloc _
  have b1 : Box W3 (g + 1) [.slice none 0 0, .int .i64 0, .string ⟨#[]⟩, .bool false, .bool false] := by rw [hW3]; exact (Box.new' _ _ _ (by simp [hg])).alloc _
  have hbW : Below w.heap.size w W3 := by rw [hW3]; exact (((Below.refl _ _).alloc (by simp) _).alloc (by simp) _).alloc (by simp; omega) _
  have HS0 := hid2 (show OSt w W3 A g A n0 c left M from ⟨b0, b1, hr.below_all hbW, hbW, fun q hq => .inl hq, hg⟩)
  have HG := hid2 hg
  have HW3 := hid2 hW3
  have HA := hid2 hA
  have HN0 := hid2 hn0
  have HR3 := hid2 (show Rd W3 1 (some ⟨g + 1 + 1, 0, none⟩) 0 [] from Rd.none_ _ _ _)
  clear hg hW3 b0 b1 hbW hA hn0 hr hle
  go_enter Tryz.func9, Tryz.ntmps9
  go_upto_region 2 with fail
  rw [← HW3.out, ← HG.out]
  have e00 : W3.cell? ⟨g, 0, none⟩ = some (.slice A n0 c) := HS0.out.b0.cells 0
  have e01 : W3.cell? ⟨g, 1, none⟩ = some (.int .i64 left) := HS0.out.b0.cells 1
  have o00 : W3.cell? ⟨g + 1, 0, none⟩ = some (.slice none 0 0) := HS0.out.b1.cells 0
  have p00 : W3.frozen? ⟨g + 1, 0, none⟩ = false := HS0.out.b1.free 0
  have o01 : W3.cell? ⟨g + 1, 1, none⟩ = some (.int .i64 0) := HS0.out.b1.cells 1
  have p01 : W3.frozen? ⟨g + 1, 1, none⟩ = false := HS0.out.b1.free 1
  have o02 : W3.cell? ⟨g + 1, 2, none⟩ = some (.string ⟨#[]⟩) := HS0.out.b1.cells 2
  have p02 : W3.frozen? ⟨g + 1, 2, none⟩ = false := HS0.out.b1.free 2
  have o03 : W3.cell? ⟨g + 1, 3, none⟩ = some (.bool false) := HS0.out.b1.cells 3
  have p03 : W3.frozen? ⟨g + 1, 3, none⟩ = false := HS0.out.b1.free 3
  have o04 : W3.cell? ⟨g + 1, 4, none⟩ = some (.bool false) := HS0.out.b1.cells 4
  have p04 : W3.frozen? ⟨g + 1, 4, none⟩ = false := HS0.out.b1.free 4
  go_wp2_with fail
  refine bodyPost_ret (v := .tuple #[.agg #[.slice A n0 c, .int .i64 left, .string ⟨#[]⟩, .bool false, .bool false], .slice (some ⟨g + 1 + 1, 0, none⟩) 0 0, .int .i64 1]) (by simp [results, Tryz.results9, go_sem, o00, o01, o02, o03, o04]) rfl ?_
  exact HS0.out.end_ HA.out HN0.out rfl rfl rfl rfl rfl rfl HR3.out (fun e => by have : g + 1 + 1 = g + 1 := Option.some.inj e; omega) (fun q hq => by have h1 : g + 1 + 1 = q := Option.some.inj hq; have h2 := HG.out; omega)
/-- what is cut off where the bytes behind the records go -/
def cutR (T : Tab FileE) (L : Int) (nm f : List UInt8) : Int × List (List UInt8) × Tab FileE × Int :=
  if (scanL f).2 < f.length then
    (if (anewR T L (newL nm) (f.take (scanL f).2) nm).1 ≠ 0 then ((anewR T L (newL nm) (f.take (scanL f).2) nm).1, [], (anewR T L (newL nm) (f.take (scanL f).2) nm).2.1, (anewR T L (newL nm) (f.take (scanL f).2) nm).2.2)
     else (0, (scanL f).1, (anewR T L (newL nm) (f.take (scanL f).2) nm).2.1, (anewR T L (newL nm) (f.take (scanL f).2) nm).2.2))
  else (0, (scanL f).1, T, L)
theorem open_cut (M : Tab FileE) (left : Int) (nm : List UInt8) : openR M left nm = if tidE M left (newL nm) ≠ 0 then (tidE M left (newL nm), [], tidM M left (newL nm), tidL M left (newL nm)) else cutR (tidM M left (newL nm)) (tidL M left (newL nm)) nm (fileOf (tidM M left (newL nm)) nm).1 := by
  unfold openR cutR
  simp only
  split
  · rfl
  · cases h : getM (tidM M left (newL nm)) nm with
    | none =>
      have : (fileOf (tidM M left (newL nm)) nm).1 = [] := by unfold fileOf; rw [h]; rfl
      rw [this]
      rfl
    | some f =>
      have : (fileOf (tidM M left (newL nm)) nm).1 = f.1 := by unfold fileOf; rw [h]; rfl
      rw [this]
theorem read_file (T : Tab FileE) (k : List UInt8) : ∃ RE : Int, readV T k = .tuple #[.string (strB (fileOf T k).1), .int .i64 RE] := by
  unfold readV fileOf
  cases getM T k with
  | none => exact ⟨10, rfl⟩
  | some f => exact ⟨0, rfl⟩
set_option maxHeartbeats 1000000 in
theorem ropen_any (w : World) (A : Option Addr) (c : Nat) (M : Tab FileE) (left : Int) (hr : Rd w 3 A M.length (rfsV M)) (hle : LeftOk left) (hA : RLow w A) (nm : ByteArray) (h0 : nm.toList.isEmpty = false) {W N : Nat} (hw : Wide W N M) (hW : W ≤ 15000) (hN : N ≤ 900000) (hnW : nm.size + 4 ≤ W) :
    Calls Tryz.prog 9 #[.agg #[.slice A M.length c, .int .i64 left], .string nm] w (ROPost w A nm (openR M left nm.data.toList)) := by
  rw [open_cut]
  obtain ⟨n0, hn0⟩ : ∃ n, n = M.length := ⟨_, rfl⟩
  obtain ⟨g, hg⟩ : ∃ g, g = w.heap.size := ⟨_, rfl⟩
  obtain ⟨W3, hW3⟩ : ∃ W3, W3 = (((w.alloc (.cells #[.slice A n0 c, .int .i64 left] 30)).alloc (.cells #[.slice none 0 0, .int .i64 0, .string ⟨#[]⟩, .bool false, .bool false] 33)).alloc (.cells #[] 9)) := ⟨_, rfl⟩
  have b0 : Box W3 g [.slice A n0 c, .int .i64 left] := by rw [hW3]; exact ((Box.new' _ _ _ (by simp [hg])).alloc _).alloc _
  have b1 : Box W3 (g + 1) [.slice none 0 0, .int .i64 0, .string ⟨#[]⟩, .bool false, .bool false] := by rw [hW3]; exact (Box.new' _ _ _ (by simp [hg])).alloc _
  have hbW : Below w.heap.size w W3 := by rw [hW3]; exact (((Below.refl _ _).alloc (by simp) _).alloc (by simp) _).alloc (by simp; omega) _
  have HS0 := hid2 (show OSt w W3 A g A n0 c left M from ⟨b0, b1, hr.below_all hbW, hbW, fun q hq => .inl hq, hg⟩)
  have HG := hid2 hg
  have HW3 := hid2 hW3
  have h0b : ¬ nm.toList = [] := fun h => by rw [h] at h0; cases h0
  have w1 := hw.tid left (newL nm.data.toList)
  obtain ⟨T1, hT1⟩ : ∃ T1, T1 = tidM M left (newL nm.data.toList) := ⟨_, rfl⟩
  obtain ⟨L1, hL1⟩ : ∃ L1, L1 = tidL M left (newL nm.data.toList) := ⟨_, rfl⟩
  obtain ⟨E1, hE1⟩ : ∃ E1, E1 = tidE M left (newL nm.data.toList) := ⟨_, rfl⟩
  have l1 : LeftOk L1 := by rw [hL1]; exact hle.tid _
  have hno : E1 = 0 → (fileOf T1 (newL nm.data.toList)).1 = [] := fun h => by rw [hT1]; exact tid_none (by rw [← hE1]; exact h)
  obtain ⟨n1, hn1⟩ : ∃ n, n = T1.length := ⟨_, rfl⟩
  have hO1 := fun (V : World) (hb : Below w.heap.size w V) => (rclear_any V A c M left (hr.below_all hb) (by have := hw.len; omega) hw.rises hle (fun q hq => Nat.lt_of_lt_of_le (hA q hq) hb.size) nm (by omega)).mono fun e w' h => RPost.two (n := n1) (by rw [← hT1, ← hL1, ← hE1] at h; exact h) hn1
  rw [← hT1] at w1
  rw [← hE1, ← hT1, ← hL1]
  obtain ⟨f, hf⟩ : ∃ f, f = (fileOf T1 nm.data.toList).1 := ⟨_, rfl⟩
  rw [← hf]
  obtain ⟨RES, hRES⟩ : ∃ r, r = (if E1 ≠ 0 then (E1, [], T1, L1) else cutR T1 L1 nm.data.toList f) := ⟨_, rfl⟩
  rw [← hRES]
  have HRES := hid2 hRES
  have HFF := hid2 hf
  rw [← hn0] at hO1 ⊢
  have HA := hid2 hA
  have HN1 := hid2 hn1
  have HO1 := hid2 hO1
  clear hO1 hg hW3 b0 b1 hbW hA hn0 hn1 hr hle hT1 hL1 hE1 hRES hf
  go_enter Tryz.func9, Tryz.ntmps9
  go_upto_region 2 with fail
  rw [← HW3.out, ← HG.out]
  have e00 : W3.cell? ⟨g, 0, none⟩ = some (.slice A n0 c) := HS0.out.b0.cells 0
  have e01 : W3.cell? ⟨g, 1, none⟩ = some (.int .i64 left) := HS0.out.b0.cells 1
  have f00 : W3.frozen? ⟨g, 0, none⟩ = false := HS0.out.b0.free 0
  have f01 : W3.frozen? ⟨g, 1, none⟩ = false := HS0.out.b0.free 1
  go_upto_region 5 with (go_at_call 30; refine (HO1.out W3 HS0.out.below).mono ?_; rintro e w3 ⟨A1, c1, rfl, hr, hb, hf⟩; clear e00 e01 f00 f01; have k0 := HS0.out.b0.below_all hb; have d0 : w3.cell? ⟨g, 0, none⟩ = some (.slice A n0 c) := k0.cells 0; have d1 : w3.cell? ⟨g, 1, none⟩ = some (.int .i64 left) := k0.cells 1; have f0 : w3.frozen? ⟨g, 0, none⟩ = false := k0.free 0; have f1 : w3.frozen? ⟨g, 1, none⟩ = false := k0.free 1; clear k0; have HR3 := hid2 hr; have HB3 := hid2 hb; have HF3 := hid2 hf; clear hr hb hf)
  obtain ⟨W4, hW4⟩ : ∃ W4, W4 = (w3.setCell ⟨g, 0, none⟩ (.slice A1 n1 c1)).setCell ⟨g, 1, none⟩ (.int .i64 L1) := ⟨_, rfl⟩
  rw [← hW4]
  have HS1 := hid2 (show OSt w W4 A g A1 n1 c1 L1 T1 from by rw [hW4]; exact HS0.out.next HA.out HR3.out HB3.out HF3.out)
  have hs4 : W3.heap.size ≤ W4.heap.size := by rw [hW4, World.size_setCell, World.size_setCell]; exact HB3.out.size
  have hg3 : g + 2 < W3.heap.size := by rw [HW3.out]; simp; have := HG.out; omega
  have HZ4 := hid2 (show g + 2 < W4.heap.size from by omega)
  clear hW4 d0 d1 f0 f1 hs4 hg3
  have e10 : W4.cell? ⟨g, 0, none⟩ = some (.slice A1 n1 c1) := HS1.out.b0.cells 0
  have e11 : W4.cell? ⟨g, 1, none⟩ = some (.int .i64 L1) := HS1.out.b0.cells 1
  by_cases h1 : E1 = 0
  · have HRS0 := hid2 (show RES = cutR T1 L1 nm.data.toList f from by rw [HRES.out, if_neg (fun h => h h1)])
    have HNO1 := hid2 (hno h1)
    subst h1
    obtain ⟨RE, hre⟩ := read_file T1 nm.data.toList
    have hfl := (w1.szs.file nm.data.toList).1
    rw [← HFF.out] at hre hfl
    have hRd := fun (V : World) (h : Rd V 3 A1 T1.length (rfsV T1)) => read07m_any V A1 c1 T1 L1 h (by have := w1.len; omega) w1.rises nm
    rw [hre, ← HN1.out] at hRd
    obtain ⟨S, hS⟩ : ∃ S, S = strB f := ⟨_, rfl⟩
    rw [← hS] at hRd
    have hSl : S.data.toList = f := by rw [hS, strB_list]
    have hSz : S.size = f.length := by rw [hS, strB_size]
    have hsc := fun (V : World) => rscan_any V S (by omega)
    unfold SPost at hsc
    rw [hSl] at hsc
    obtain ⟨k, hk⟩ : ∃ k, k = (scanL f).2 := ⟨_, rfl⟩
    obtain ⟨R, hR⟩ : ∃ R, R = (scanL f).1 := ⟨_, rfl⟩
    obtain ⟨rn, hrn⟩ : ∃ n, n = R.length := ⟨_, rfl⟩
    have hle2 : (scanL f).2 ≤ f.length := scanL_le f
    rw [← hk] at hsc hle2
    rw [← hR, ← hrn] at hsc
    have hkS : k ≤ S.size := by omega
    have HRD := hid2 hRd
    have HSC := hid2 hsc
    have HRN := hid2 hrn
    have HKK := hid2 hk
    have HRR := hid2 hR
    have HSL := hid2 hSl
    have HSZ := hid2 hSz
    have HFL := hid2 hfl
    have HLW := hid2 (And.intro hW (And.intro hN hnW))
    have HW1 := hid2 w1
    have HL1 := hid2 l1
    clear hno hre hRd hsc hrn hk hR hS hSl hSz hfl hle2 hW hN hnW w1 l1 hw HFF HRES HO1
    go_upto_region 9 with (first
      | (go_at_call 31; refine (HRD.out W4 (by rw [HN1.out]; exact HS1.out.row)).mono ?_; rintro e w5 ⟨rfl, hb⟩; have HB5 := hid2 hb; clear hb e10 e11)
      | (go_at_call 32; refine (HSC.out w5).mono ?_; rintro e w6 ⟨B, cB, rfl, ho, hb⟩; have HB6 := hid2 hb; have HO := hid2 ho; clear hb ho))
    have HS6 := hid2 ((HS1.out.later HB5.out).later HB6.out)
    have hBn : blockOf B ≠ some (g + 1) := fun e => by
      have h1 := (HO.out.block _ e).1
      have h2 := HZ4.out
      have h3 := HB5.out.size
      omega
    have HBN := hid2 hBn
    have HBQ := hid2 (show ∀ q, blockOf B = some q → w.heap.size ≤ q from fun q hq => by
      have h1 := (HO.out.block _ hq).1
      have h2 := (HS1.out.later HB5.out).below.size
      omega)
    clear hBn
    have e60 : w6.cell? ⟨g, 0, none⟩ = some (.slice A1 n1 c1) := HS6.out.b0.cells 0
    have e61 : w6.cell? ⟨g, 1, none⟩ = some (.int .i64 L1) := HS6.out.b0.cells 1
    by_cases hcut : k < f.length
    · have hSl := HSL.out
      have hSz := HSZ.out
      have hfl := HFL.out
      have hW := HLW.out.1
      have hN := HLW.out.2.1
      have hnW := HLW.out.2.2
      have w1 := HW1.out
      have hcut' : (k : Int) < S.size := by omega
      have hk0 : (0 : Int) ≤ k := by omega
      have hk1 : (k : Int) ≤ S.size := by omega
      have hkt : (k : Int).toNat = k := by omega
      obtain ⟨Q, hQ⟩ : ∃ Q, Q = S.extract 0 k := ⟨_, rfl⟩
      have hQl : Q.data.toList = f.take k := by
        rw [hQ, ByteArray.data_extract, Array.toList_extract, hSl, List.extract_eq_take_drop]
        simp
      have hQz : Q.size ≤ f.length := by rw [← toList_length, hQl, List.length_take]; omega
      obtain ⟨TQ, hT2⟩ : ∃ TQ, TQ = (anewR T1 L1 (newL nm.data.toList) (f.take k) nm.data.toList).2.1 := ⟨_, rfl⟩
      obtain ⟨LQ, hL2⟩ : ∃ LQ, LQ = (anewR T1 L1 (newL nm.data.toList) (f.take k) nm.data.toList).2.2 := ⟨_, rfl⟩
      obtain ⟨EQ, hE2⟩ : ∃ EQ, EQ = (anewR T1 L1 (newL nm.data.toList) (f.take k) nm.data.toList).1 := ⟨_, rfl⟩
      obtain ⟨nQ, hn2⟩ : ∃ n, n = TQ.length := ⟨_, rfl⟩
      have hO2 := fun (V : World) (hb : Below w6.heap.size w6 V) => (ranew_any V A1 c1 T1 L1 (HS6.out.row.below_all hb) HL1.out ((HS6.out.later hb).low HA.out) nm (by omega) Q (by omega) w1 (by omega) hN hnW (by rw [HNO1.out, List.length_nil]; omega)).mono fun e w' h => RPost.two (n := nQ) (by rw [hQl, ← hT2, ← hL2, ← hE2] at h; exact h) hn2
      rw [← HN1.out] at hO2
      have HRS1 := hid2 (show RES = if EQ ≠ 0 then (EQ, [], TQ, LQ) else (0, R, TQ, LQ) from by
        rw [HRS0.out]
        unfold cutR
        rw [← HKK.out, if_pos hcut, ← hE2, ← hT2, ← hL2, ← HRR.out])
      have HO2 := hid2 hO2
      have HN2 := hid2 hn2
      have HQ := hid2 hQ
      have HK := hid2 hkt
      clear hO2 hn2 hQ hQl hQz hT2 hL2 hE2 hkt hcut hfl hSl hSz w1 hW hN hnW HFL HSZ HSL HW1 HL1 HLW HNO1 HRS0
      have hA0 := HA
      have HBG := hid2 (show blockOf B ≠ some g from fun e => by
        have h1 := (HO.out.block _ e).1
        have h2 := HZ4.out
        have h3 := HB5.out.size
        omega)
      go_upto_region 10 with fail
      refine wp_region_lst 10 (by kernel_rfl) (by kernel_rfl) (by kernel_rfl) _ rfl (by kernel_rfl) (VV [some (.agg #[.slice A1 n1 c1, .int .i64 L1]), some (.string nm), some (.string S), some (.int .i64 (k : Nat)), some (.string Q), none, none, none, some (.int .i64 EQ), none] (fun j v w2 => (j = 5 ∨ j = 6 → ∃ A2 c2, v = .tuple #[.agg #[.slice A2 nQ c2, .int .i64 LQ], .int .i64 EQ] ∧ Rd w2 3 A2 TQ.length (rfsV TQ) ∧ blockOf A2 ≠ some g ∧ RFar w6 A1 A2 w2) ∧ (j = 7 → ∃ A2 c2, v = .agg #[.slice A2 nQ c2, .int .i64 LQ] ∧ Rd w2 3 A2 TQ.length (rfsV TQ) ∧ blockOf A2 ≠ some g ∧ RFar w6 A1 A2 w2))) (fun Z _ w2 => (Z 9 = false → Below w6.heap.size w6 w2) ∧ (Z 9 = true → ∃ A2 c2, OSt w w2 A g A2 nQ c2 LQ TQ ∧ Rd w2 1 B rn (strV R))) (fun a b => a.heap.size ≤ b.heap.size ∧ ∀ A2, blockOf A2 ≠ some g → Rd a 3 A2 TQ.length (rfsV TQ) → Rd b 3 A2 TQ.length (rfsV TQ)) (fun _ => ⟨fun _ => (Below.refl _ w6).drew, fun e => absurd (show false = true from e) (by decide)⟩) (fun j v w1 w2 hb hv => VV.keep (fun h => ⟨fun e => (by obtain ⟨A2, c2, h1, h2, h3, h4⟩ := h.1 e; exact ⟨A2, c2, h1, hb.2 A2 h3 h2, h3, h4.later hb.1⟩), fun e => (by obtain ⟨A2, c2, h1, h2, h3, h4⟩ := h.2 e; exact ⟨A2, c2, h1, hb.2 A2 h3 h2, h3, h4.later hb.1⟩)⟩) hv) ?_ ?_
      · refine of_allOps ⟨?_, ?_, ?_, ?_, ?_, ?_, ?_, ?_, ?_, ?_, trivial⟩
        · intro T2 w2 L2 u2 hM hli hcl hT hLe hN hO hE K hK
          have o2 : T2[2]? = some (.pointer (some ⟨g, 0, none⟩)) := hO 2 rfl
          clear hE hO hN
          refine step_plain0 rfl ?_
          have hno9 := not_come hcl hli 9 [0] (by kernel_rfl) (by simp)
          have hbb := hM.1 hno9
          have k0 := HS6.out.b0.below_all hbb
          have c0 : w2.cell? ⟨g, 0, none⟩ = some (.slice A1 n1 c1) := k0.cells 0
          have c1' : w2.cell? ⟨g, 1, none⟩ = some (.int .i64 L1) := k0.cells 1
          clear k0
          go_simp
          exact hK _ _ rfl hM ⟨Nat.le_refl _, fun _ _ h => h⟩
        · intro T2 w2 L2 u2 hM hli hcl hT hLe hN hO hE K hK
          have o1 : T2[1]? = some (.string nm) := hO 1 rfl
          clear hE hO hN hli hcl hT hLe
          refine step_plain0 rfl ?_
          go_simp
          exact hK _ _ rfl hM (⟨Nat.le_refl _, fun _ _ h => h⟩)
        · intro T2 w2 L2 u2 hM hli hcl hT hLe hN hO hE K hK
          have o9 : T2[9]? = some (.string S) := hO 9 rfl
          clear hE hO hN hli hcl hT hLe
          refine step_plain0 rfl ?_
          go_simp
          exact hK _ _ rfl hM (⟨Nat.le_refl _, fun _ _ h => h⟩)
        · intro T2 w2 L2 u2 hM hli hcl hT hLe hN hO hE K hK
          have o12 : T2[12]? = some (.int .i64 (k : Nat)) := hO 12 rfl
          clear hE hO hN hli hcl hT hLe
          refine step_plain0 rfl ?_
          go_simp
          exact hK _ _ rfl hM (⟨Nat.le_refl _, fun _ _ h => h⟩)
        · intro T2 w2 L2 u2 hM hli hcl hT hLe hN hO hE K hK
          obtain ⟨v2, h2, e2, eu2⟩ := hE ⟨2, .data⟩ (by simp) rfl _ _ rfl rfl
          rw [show v2 = .string S from e2] at h2 eu2
          obtain ⟨v3, h3, e3, eu3⟩ := hE ⟨3, .data⟩ (by simp) rfl _ _ rfl rfl
          rw [show v3 = .int .i64 (k : Nat) from e3] at h3 eu3
          clear hE hO hN
          refine step_plain0 rfl ?_
          have hkt := HK.out
          go_simp
          rw [← HQ.out]
          exact hK _ _ rfl hM ⟨Nat.le_refl _, fun _ _ h => h⟩
        · intro T2 w2 L2 u2 hM hli hcl hT hLe hN hO hE K hK
          obtain ⟨v0, h0, e0, eu0⟩ := hE ⟨0, .data⟩ (by simp) rfl _ _ rfl rfl
          rw [show v0 = .agg #[.slice A1 n1 c1, .int .i64 L1] from e0] at h0 eu0
          obtain ⟨v1, h1, e1, eu1⟩ := hE ⟨1, .data⟩ (by simp) rfl _ _ rfl rfl
          rw [show v1 = .string nm from e1] at h1 eu1
          obtain ⟨v4, h4, e4, eu4⟩ := hE ⟨4, .data⟩ (by simp) rfl _ _ rfl rfl
          rw [show v4 = .string Q from e4] at h4 eu4
          clear hE hO hN
          refine step_plain0 rfl ?_
          have hno9 := not_come hcl hli 9 [5] (by kernel_rfl) (by simp)
          have hbb := hM.1 hno9
          go_simp
          refine (HO2.out w2 hbb).mono ?_
          rintro e w3 ⟨A2, c2, rfl, hr2, hb2, hf2⟩
          have hne := HS6.out.away hA0.out hbb hf2
          exact hK _ _ ⟨fun _ => ⟨A2, c2, rfl, hr2, hne, hf2.since hbb.size⟩, fun e => absurd e (by decide)⟩ ⟨fun _ => hbb.trans (hb2.mono hbb.size), fun e => absurd (hno9.symm.trans (show L2 9 = true from e)) (by decide)⟩ ⟨hb2.size, fun _ _ h => h.below_all hb2⟩
        · intro T2 w2 L2 u2 hM hli hcl hT hLe hN hO hE K hK
          obtain ⟨v5, h5, e5, eu5⟩ := hE ⟨5, .data⟩ (by simp) rfl _ _ rfl rfl
          clear hE hO hN
          refine step_plain0 rfl ?_
          have x5 := (show (5 = 5 ∨ 5 = 6 → ∃ A2 c2, v5 = .tuple #[.agg #[.slice A2 nQ c2, .int .i64 LQ], .int .i64 EQ] ∧ Rd w2 3 A2 TQ.length (rfsV TQ) ∧ blockOf A2 ≠ some g ∧ RFar w6 A1 A2 w2) ∧ (5 = 7 → ∃ A2 c2, v5 = .agg #[.slice A2 nQ c2, .int .i64 LQ] ∧ Rd w2 3 A2 TQ.length (rfsV TQ) ∧ blockOf A2 ≠ some g ∧ RFar w6 A1 A2 w2) from e5).1 (.inl rfl)
          go_simp
          exact hK _ _ ⟨fun _ => x5, fun e => absurd e (by decide)⟩ hM ⟨Nat.le_refl _, fun _ _ h => h⟩
        · intro T2 w2 L2 u2 hM hli hcl hT hLe hN hO hE K hK
          obtain ⟨v6, h6, e6, eu6⟩ := hE ⟨6, .data⟩ (by simp) rfl _ _ rfl rfl
          clear hE hO hN
          refine step_plain0 rfl ?_
          have x6 := (show (6 = 5 ∨ 6 = 6 → ∃ A2 c2, v6 = .tuple #[.agg #[.slice A2 nQ c2, .int .i64 LQ], .int .i64 EQ] ∧ Rd w2 3 A2 TQ.length (rfsV TQ) ∧ blockOf A2 ≠ some g ∧ RFar w6 A1 A2 w2) ∧ (6 = 7 → ∃ A2 c2, v6 = .agg #[.slice A2 nQ c2, .int .i64 LQ] ∧ Rd w2 3 A2 TQ.length (rfsV TQ) ∧ blockOf A2 ≠ some g ∧ RFar w6 A1 A2 w2) from e6).1 (.inr rfl)
          obtain ⟨A2, c2, rfl, hx2⟩ := x6
          clear e6
          have HX2 := hid2 hx2
          clear hx2
          go_simp
          exact hK _ _ ⟨fun e => absurd e (by decide), fun _ => ⟨A2, c2, rfl, HX2.out⟩⟩ hM ⟨Nat.le_refl _, fun _ _ h => h⟩
        · intro T2 w2 L2 u2 hM hli hcl hT hLe hN hO hE K hK
          obtain ⟨v6, h6, e6, eu6⟩ := hE ⟨6, .data⟩ (by simp) rfl _ _ rfl rfl
          clear hE hO hN
          refine step_plain0 rfl ?_
          have x6 := (show (6 = 5 ∨ 6 = 6 → ∃ A2 c2, v6 = .tuple #[.agg #[.slice A2 nQ c2, .int .i64 LQ], .int .i64 EQ] ∧ Rd w2 3 A2 TQ.length (rfsV TQ) ∧ blockOf A2 ≠ some g ∧ RFar w6 A1 A2 w2) ∧ (6 = 7 → ∃ A2 c2, v6 = .agg #[.slice A2 nQ c2, .int .i64 LQ] ∧ Rd w2 3 A2 TQ.length (rfsV TQ) ∧ blockOf A2 ≠ some g ∧ RFar w6 A1 A2 w2) from e6).1 (.inr rfl)
          obtain ⟨A2, c2, rfl, _⟩ := x6
          clear e6
          go_simp
          exact hK _ _ rfl hM ⟨Nat.le_refl _, fun _ _ h => h⟩
        · intro T2 w2 L2 u2 hM hli hcl hT hLe hN hO hE K hK
          have o2 : T2[2]? = some (.pointer (some ⟨g, 0, none⟩)) := hO 2 rfl
          obtain ⟨v7, h7, e7, eu7⟩ := hE ⟨7, .data⟩ (by simp) rfl _ _ rfl rfl
          clear hE hO hN
          refine step_plain0 rfl ?_
          have x7 := (show (7 = 5 ∨ 7 = 6 → ∃ A2 c2, v7 = .tuple #[.agg #[.slice A2 nQ c2, .int .i64 LQ], .int .i64 EQ] ∧ Rd w2 3 A2 TQ.length (rfsV TQ) ∧ blockOf A2 ≠ some g ∧ RFar w6 A1 A2 w2) ∧ (7 = 7 → ∃ A2 c2, v7 = .agg #[.slice A2 nQ c2, .int .i64 LQ] ∧ Rd w2 3 A2 TQ.length (rfsV TQ) ∧ blockOf A2 ≠ some g ∧ RFar w6 A1 A2 w2) from e7).2 rfl
          obtain ⟨A2, c2, rfl, hr2, hn2, hf2⟩ := x7
          clear e7
          have hbb := hM.1 hli
          have k0 := HS6.out.b0.below_all hbb
          have d0 : w2.cell? ⟨g, 0, none⟩ = some (.slice A1 n1 c1) := k0.cells 0
          have d1 : w2.cell? ⟨g, 1, none⟩ = some (.int .i64 L1) := k0.cells 1
          have f0 : w2.frozen? ⟨g, 0, none⟩ = false := k0.free 0
          have f1 : w2.frozen? ⟨g, 1, none⟩ = false := k0.free 1
          have HR2 := hid2 hr2
          have HN2 := hid2 hn2
          have HF2 := hid2 hf2
          have HBB := hid2 hbb
          clear k0 hr2 hn2 hf2 hbb
          go_simp
          exact hK undef _ ⟨fun e => absurd e (by decide), fun e => absurd e (by decide)⟩ ⟨fun e => absurd (show true = false from e) (by decide), fun _ => ⟨A2, c2, HS6.out.next hA0.out HR2.out HBB.out HF2.out, ((HO.out.rd.below_all HBB.out).setFar 0 _ HBG.out).setFar 1 _ HBG.out⟩⟩ ⟨by rw [World.size_setCell, World.size_setCell]; exact Nat.le_refl _, fun A3 h3 h => (h.setFar 0 _ h3).setFar 1 _ h3⟩
      · intro u W7 hM hF
        have e8 : u 8 = .int .i64 EQ := hF 8 (by omega)
        obtain ⟨A2, c2, hs2, ho7⟩ := hM.2 rfl
        have HS2 := hid2 hs2
        have HO7 := hid2 ho7
        clear hs2 ho7 hM
        clear hF
        simp only [fillAll, Nat.reduceAdd, e8, List.take_succ_cons, List.take_zero, List.drop_succ_cons, List.drop_zero, List.setIfInBounds_toArray, List.set_cons_succ, List.set_cons_zero]
        have e20 : W7.cell? ⟨g, 0, none⟩ = some (.slice A2 nQ c2) := HS2.out.b0.cells 0
        have e21 : W7.cell? ⟨g, 1, none⟩ = some (.int .i64 LQ) := HS2.out.b0.cells 1
        have o20 : W7.cell? ⟨g + 1, 0, none⟩ = some (.slice none 0 0) := HS2.out.b1.cells 0
        have p20 : W7.frozen? ⟨g + 1, 0, none⟩ = false := HS2.out.b1.free 0
        have o21 : W7.cell? ⟨g + 1, 1, none⟩ = some (.int .i64 0) := HS2.out.b1.cells 1
        have p21 : W7.frozen? ⟨g + 1, 1, none⟩ = false := HS2.out.b1.free 1
        have o22 : W7.cell? ⟨g + 1, 2, none⟩ = some (.string ⟨#[]⟩) := HS2.out.b1.cells 2
        have p22 : W7.frozen? ⟨g + 1, 2, none⟩ = false := HS2.out.b1.free 2
        have o23 : W7.cell? ⟨g + 1, 3, none⟩ = some (.bool false) := HS2.out.b1.cells 3
        have p23 : W7.frozen? ⟨g + 1, 3, none⟩ = false := HS2.out.b1.free 3
        have o24 : W7.cell? ⟨g + 1, 4, none⟩ = some (.bool false) := HS2.out.b1.cells 4
        have p24 : W7.frozen? ⟨g + 1, 4, none⟩ = false := HS2.out.b1.free 4
        go_upto_region 11 with fail
        by_cases h2 : EQ = 0
        · have HRS := hid2 (show RES = (0, R, TQ, LQ) from by rw [HRS1.out, if_neg (fun h => h h2)])
          subst h2
          go_wp2_with fail
          refine bodyPost_ret (v := .tuple #[.agg #[.slice A2 nQ c2, .int .i64 LQ, .string nm, .bool true, .bool false], .slice B rn cB, .int .i64 0]) (by simp [results, Tryz.results9, go_sem, o20, o21, o22, o23, o24]) rfl ?_
          rw [HRS.out]
          exact HS2.out.end_ HA.out HN2.out rfl rfl rfl rfl rfl HRN.out (by rw [← HRN.out]; exact HO7.out) HBN.out HBQ.out
        · have HRS := hid2 (show RES = (EQ, [], TQ, LQ) from by rw [HRS1.out, if_pos h2])
          have h2b : (EQ == 0) = false := by rw [beq_eq_false_iff_ne]; exact h2
          go_wp2_with fail
          refine bodyPost_ret (v := .tuple #[.agg #[.slice A2 nQ c2, .int .i64 LQ, .string ⟨#[]⟩, .bool false, .bool false], .slice (some ⟨g + 1 + 1, 0, none⟩) 0 0, .int .i64 EQ]) (by simp [results, Tryz.results9, go_sem, o20, o21, o22, o23, o24]) rfl ?_
          rw [HRS.out]
          exact HS2.out.end_ HA.out HN2.out rfl rfl rfl (if_neg h2) h2b rfl (Rd.none_ _ _ _) (fun e => by have : g + 1 + 1 = g + 1 := Option.some.inj e; omega) (fun q hq => by have h1 : g + 1 + 1 = q := Option.some.inj hq; have h2 := HG.out; omega)
    · have hcut' : ¬ (k : Int) < S.size := by have := HSZ.out; omega
      have HRS := hid2 (show RES = (0, R, T1, L1) from by
        rw [HRS0.out]
        unfold cutR
        rw [← HKK.out, if_neg hcut, ← HRR.out])
      clear hcut hkS
      have o60 : w6.cell? ⟨g + 1, 0, none⟩ = some (.slice none 0 0) := HS6.out.b1.cells 0
      have p60 : w6.frozen? ⟨g + 1, 0, none⟩ = false := HS6.out.b1.free 0
      have o61 : w6.cell? ⟨g + 1, 1, none⟩ = some (.int .i64 0) := HS6.out.b1.cells 1
      have p61 : w6.frozen? ⟨g + 1, 1, none⟩ = false := HS6.out.b1.free 1
      have o62 : w6.cell? ⟨g + 1, 2, none⟩ = some (.string ⟨#[]⟩) := HS6.out.b1.cells 2
      have p62 : w6.frozen? ⟨g + 1, 2, none⟩ = false := HS6.out.b1.free 2
      have o63 : w6.cell? ⟨g + 1, 3, none⟩ = some (.bool false) := HS6.out.b1.cells 3
      have p63 : w6.frozen? ⟨g + 1, 3, none⟩ = false := HS6.out.b1.free 3
      have o64 : w6.cell? ⟨g + 1, 4, none⟩ = some (.bool false) := HS6.out.b1.cells 4
      have p64 : w6.frozen? ⟨g + 1, 4, none⟩ = false := HS6.out.b1.free 4
      go_wp2_with fail
      refine bodyPost_ret (v := .tuple #[.agg #[.slice A1 n1 c1, .int .i64 L1, .string nm, .bool true, .bool false], .slice B rn cB, .int .i64 0]) (by simp [results, Tryz.results9, go_sem, o60, o61, o62, o63, o64]) rfl ?_
      rw [HRS.out]
      exact HS6.out.end_ HA.out HN1.out rfl rfl rfl rfl rfl HRN.out (by rw [← HRN.out]; exact HO.out.rd) HBN.out HBQ.out
  · have HRS := hid2 (show RES = (E1, [], T1, L1) from by rw [HRES.out, if_pos h1])
    have h1b : (E1 == 0) = false := by rw [beq_eq_false_iff_ne]; exact h1
    clear hno hw w1 l1 hW hN hnW
    have o10 : W4.cell? ⟨g + 1, 0, none⟩ = some (.slice none 0 0) := HS1.out.b1.cells 0
    have p10 : W4.frozen? ⟨g + 1, 0, none⟩ = false := HS1.out.b1.free 0
    have o11 : W4.cell? ⟨g + 1, 1, none⟩ = some (.int .i64 0) := HS1.out.b1.cells 1
    have p11 : W4.frozen? ⟨g + 1, 1, none⟩ = false := HS1.out.b1.free 1
    have o12 : W4.cell? ⟨g + 1, 2, none⟩ = some (.string ⟨#[]⟩) := HS1.out.b1.cells 2
    have p12 : W4.frozen? ⟨g + 1, 2, none⟩ = false := HS1.out.b1.free 2
    have o13 : W4.cell? ⟨g + 1, 3, none⟩ = some (.bool false) := HS1.out.b1.cells 3
    have p13 : W4.frozen? ⟨g + 1, 3, none⟩ = false := HS1.out.b1.free 3
    have o14 : W4.cell? ⟨g + 1, 4, none⟩ = some (.bool false) := HS1.out.b1.cells 4
    have p14 : W4.frozen? ⟨g + 1, 4, none⟩ = false := HS1.out.b1.free 4
    go_wp2_with fail
    refine bodyPost_ret (v := .tuple #[.agg #[.slice A1 n1 c1, .int .i64 L1, .string ⟨#[]⟩, .bool false, .bool false], .slice (some ⟨g + 1 + 1, 0, none⟩) 0 0, .int .i64 E1]) (by simp [results, Tryz.results9, go_sem, o10, o11, o12, o13, o14]) rfl ?_
    rw [HRS.out]
    exact HS1.out.end_ HA.out HN1.out rfl rfl rfl (if_neg h1) h1b rfl (Rd.none_ _ _ _) (fun e => by have : g + 1 + 1 = g + 1 := Option.some.inj e; omega) (fun q hq => by have h1 : g + 1 + 1 = q := Option.some.inj hq; have h2 := HG.out; omega)
end Go.Proofs.YtehpapoboeejkaaGreat
/- The statement's own functions: the same files, acts that are not great; a journal that is nil. -/
namespace Go.Proofs.YtehpapoboeejkaaGreat
open Go.RowKit Go.Maps
set_option maxRecDepth 100000
set_option maxHeartbeats 4000000 in
theorem add_nil (w : World) (s : ByteArray) : Calls Tryz.prog 10 #[.pointer none, .string s] w fun e w' => e = .returned (.int .i64 19) ∧ Below w.heap.size w w' := by
  go_enter Tryz.func10, Tryz.ntmps10
  go_wp2_with fail
  go_ret
  first
    | exact ⟨rfl, Below.refl _ _⟩
    | exact ⟨rfl, (Below.refl _ _).alloc (Nat.le_refl _) _⟩
    | exact ⟨rfl, ((Below.refl _ _).alloc (Nat.le_refl _) _).alloc (by simp) _⟩
set_option maxHeartbeats 4000000 in
theorem swap_nil (w : World) (A : Option Addr) (n c : Nat) : Calls Tryz.prog 12 #[.pointer none, .slice A n c] w fun e w' => e = .returned (.int .i64 19) ∧ Below w.heap.size w w' := by
  go_enter Tryz.func12, Tryz.ntmps12
  go_wp2_with fail
  go_ret
  first
    | exact ⟨rfl, Below.refl _ _⟩
    | exact ⟨rfl, (Below.refl _ _).alloc (Nat.le_refl _) _⟩
    | exact ⟨rfl, ((Below.refl _ _).alloc (Nat.le_refl _) _).alloc (by simp) _⟩
set_option maxHeartbeats 4000000 in
theorem open_none (w : World) (p : Nat) : Calls Tryz.prog 8 #[.pointer (some ⟨p, 0, none⟩), .string ⟨#[]⟩] w fun e w' => e = .returned (.tuple #[.pointer none, .slice none 0 0, .int .i64 1]) ∧ Below w.heap.size w w' := by
  go_enter Tryz.func8, Tryz.ntmps8
  go_wp2_with fail
  ((try simp only [Exit.inBlock, Exit.then]); refine bodyPost_ret (results_tmp3 rfl _ _ _) rfl ?_)
  exact ⟨rfl, Below.refl _ _⟩
theorem rows_at {M : Tab FileE} {k : Nat} {x : List UInt8 × FileE} (h : M[k]? = some x) : (strV (M.map (·.1)))[k]? = some (.string (strB x.1)) := strV_at (by rw [List.getElem?_map, h]; rfl)
set_option maxHeartbeats 8000000 in
theorem same08_any (w : World) (p b n : Nat) (M : Tab FileE) (left l2 : Int) (h : DiskIs w p b n M left) (hn : n ≤ 1000000000) (A : Option Addr) (c : Nat) (hr : Rd w 3 A M.length (rfsV M)) (hl : M.length ≤ 1000000) (hz : ∀ x ∈ M, x.1.length ≤ 1000000000) :
    Calls Tryz.prog 21 #[.pointer (some ⟨p, 0, none⟩), .agg #[.slice A M.length c, .int .i64 l2]] w fun e w' => e = .returned (.bool true) ∧ Below w.heap.size w w' := by
  have hri := MapIs.rises h.2 (string_keyed Tryz.underlying9)
  have hlt := h.lt
  obtain ⟨N, hN⟩ : ∃ N, N = M.length := ⟨_, rfl⟩
  have hD := fun (W : World) (hb : Below w.heap.size w W) => h.below hb hlt.1 hlt.2
  have hnames := fun (W : World) (hb : Below w.heap.size w W) => names_any W p b n M left (hD W hb) hn
  have hnames7 := fun (W : World) (hb : Below w.heap.size w W) => names07m_any W A c M l2 (hr.below_all hb) (by omega)
  have hread := fun (W : World) (hb : Below w.heap.size w W) (k : Nat) (x : List UInt8 × FileE) (hx : M[k]? = some x) => read_at W p b n M left (hD W hb) (strB x.1) (strB_list x.1) (hz x (List.mem_of_getElem? hx)) (show readV M x.1 = .tuple #[.string (strB x.2.1), .int .i64 0] by unfold readV; rw [getM_at hri hx])
  have hread7 := fun (W : World) (hb : Below w.heap.size w W) (k : Nat) (x : List UInt8 × FileE) (hx : M[k]? = some x) => read07m_any W A c M l2 (hr.below_all hb) (by omega) hri (strB x.1)
  have hrv := fun (k : Nat) (x : List UInt8 × FileE) (hx : M[k]? = some x) => show readV M (strB x.1).data.toList = .tuple #[.string (strB x.2.1), .int .i64 0] by rw [strB_list]; unfold readV; rw [getM_at hri hx]
  have hat := fun (k : Nat) (x : List UInt8 × FileE) (hx : M[k]? = some x) => rows_at hx
  obtain ⟨V, hV⟩ : ∃ V, V = strV (M.map (·.1)) := ⟨_, rfl⟩
  rw [← hN] at hread7 hnames hnames7
  rw [← hV] at hnames hnames7 hat
  have hsame := fun (W : World) (B1 B2 : Option Addr) (c1 c2 : Nat) (h1 : Rd W 1 B1 N V) (h2 : Rd W 1 B2 N V) => same_any W B1 B2 N c1 c2 ((M.map (·.1)).map strB) (by rw [← strV_map, ← hV]; exact h1) (by rw [← strV_map, ← hV]; exact h2) (by omega)
  have HN := hid2 hN
  have HNM := hid2 hnames
  have HNM7 := hid2 hnames7
  have HSM := hid2 hsame
  have HRD := hid2 hread
  have HRD7 := hid2 hread7
  have HRV := hid2 hrv
  have HAT := hid2 hat
  have hNl : (N : Int) ≤ 1000000 := by omega
  obtain ⟨g, hg⟩ : ∃ g, g = w.heap.size := ⟨_, rfl⟩
  obtain ⟨W, hW⟩ : ∃ W, W = w.alloc (.cells #[.slice A N c, .int .i64 l2] 30) := ⟨_, rfl⟩
  have r0 : Box W g [.slice A N c, .int .i64 l2] := by rw [hW]; exact Box.new' _ _ _ hg.symm
  have hbw : Below w.heap.size w W := by rw [hW]; exact (Below.refl _ _).alloc (Nat.le_refl _) _
  have HW := hid2 hW
  have HG := hid2 hg
  have HB := hid2 hbw
  have s0 : W.cell? ⟨g, 0, none⟩ = some (.slice A N c) := r0.cells 0
  have s1 : W.cell? ⟨g, 1, none⟩ = some (.int .i64 l2) := r0.cells 1
  have KS := hid2 (fun (w4 : World) (h : Below W.heap.size W w4) => show w4.cell? ⟨g, 0, none⟩ = some (.slice A N c) ∧ w4.cell? ⟨g, 1, none⟩ = some (.int .i64 l2) from ⟨(r0.below_all h).cells 0, (r0.below_all h).cells 1⟩)
  rw [← hN]
  clear hN hg hV hD hnames hnames7 hsame hread hread7 hrv hat hW r0 h hr hl hz hlt hri hn hbw
  go_enter Tryz.func21, Tryz.ntmps21
  go_upto_region 1 with fail
  rw [← HW.out, ← HG.out]
  go_upto_region 2 with (go_at_call 42; refine (HNM.out W HB.out).mono ?_; rintro e w3 ⟨A3, c3, rfl, ho, hb⟩; have HB3 := hid2 hb; have HO3 := hid2 ho.rd; have hs3 := KS.out w3 hb; obtain ⟨s30, s31⟩ := hs3; clear s0 s1 hb ho)
  go_wp2_with (first
    | (go_at_call 47; refine (HNM7.out w3 (HB.out.trans (HB3.out.mono HB.out.size))).mono ?_; rintro e w4 ⟨A4, c4, rfl, ho, hb⟩; have HB4 := hid2 (HB3.out.trans (hb.mono HB3.out.size)); have HO4 := hid2 ho; have HO34 := hid2 (HO3.out.below_all hb); clear s30 s31 hb ho)
    | (go_at_call 20; refine (HSM.out w4 A3 A4 c3 c4 HO34.out HO4.out).mono ?_; rintro e w5 ⟨rfl, hb⟩; have HB5 := hid2 (HB4.out.trans (hb.mono HB4.out.size)); have HO5 := hid2 (HO34.out.below_all hb); clear hb))
  go_loopg [6] N (fun gk i wr => ∃ k : Nat, k + gk = N ∧ i = .int .i64 k ∧ Below W.heap.size W wr ∧ Below w5.heap.size w5 wr)
  case atStart => exact ⟨0, by omega, rfl, HB5.out, Below.refl _ _⟩
  case round =>
    obtain ⟨k, hk, rfl, hbe, hb5⟩ := hrel
    have HBE := hid2 hbe
    have HBR := hid2 hb5
    have HK := hid2 hk
    by_cases hlt : k < N
    · have hil : (k : Int) < N := by omega
      have hi0 : (0 : Int) ≤ k := by omega
      obtain ⟨x, hx⟩ : ∃ x, M[k]? = some x := ⟨_, List.getElem?_eq_getElem (by rw [← HN.out]; exact hlt)⟩
      obtain ⟨b', o, hA3, hcell⟩ := HO5.out.2 (by omega)
      subst hA3
      have hcx := hcell _ _ (HAT.out k x hx)
      have hcW := fun (W2 : World) (hb : Below w5.heap.size w5 W2) => (hb.cell (p := ⟨b', o + k, none⟩) (World.block_lt_of_cell? _ _ hcx)).trans hcx
      have c1 := fun (W2 : World) (hb : Below w.heap.size w W2) => HRD.out W2 hb k x hx
      have c2 := fun (W2 : World) (hb : Below w.heap.size w W2) => HRD7.out W2 hb k x hx
      rw [HRV.out k x hx] at c2
      obtain ⟨S, hS⟩ : ∃ S, S = strB x.1 := ⟨_, rfl⟩
      obtain ⟨D, hD⟩ : ∃ D, D = strB x.2.1 := ⟨_, rfl⟩
      rw [← hS] at c1 c2 hcW
      rw [← hD] at c1 c2
      have hcr := hcW wr hb5
      have C1 := hid2 c1
      have C2 := hid2 c2
      have CW := hid2 hcW
      clear hcell hcx hcW c1 c2 hS hD hx hbe hb5 hk
      go_upto_region 8 with (go_at_call 27; refine (C1.out wr (HB.out.trans (HBE.out.mono HB.out.size))).mono ?_; rintro e w6 ⟨rfl, hb⟩; have HB6 := hid2 (HBE.out.trans (hb.mono HBE.out.size)); have HBR6 := hid2 (HBR.out.trans (hb.mono HBR.out.size)); clear hb hcr)
      refine wp_region_grd 10 (by kernel_rfl) (by kernel_rfl) (by kernel_rfl) _ rfl (by kernel_rfl) (VV [some (.agg #[.slice A N c, .int .i64 l2]), some (.slice (some ⟨b', o, none⟩) N c3), some (.int .i64 (k : Nat)), some (.pointer (some ⟨b', o + k, none⟩)), some (.string S), some (.tuple #[.string D, .int .i64 0]), some (.tuple #[.string D, .int .i64 0]), some (.string D), some (.int .i64 0), some (.string D)] (fun _ _ _ => False)) (fun w2 => Below w6.heap.size w6 w2) (fun a b => Below a.heap.size a b) ((Below.refl _ w6).drew) (fun j v w1 w2 hb hv => VV.keep (fun h => h.elim) hv) ?_ ?_
      · refine of_allOps ⟨?_, ?_, ?_, ?_, ?_, ?_, ?_, ?_, ?_, ?_, trivial⟩
        · intro T2 w2 hM hN hO hE K hK
          have o3 : T2[3]? = some (.pointer (some ⟨g, 0, none⟩)) := hO 3 rfl
          clear hE hO hN
          refine step_plain0 rfl ?_
          obtain ⟨s60, s61⟩ := KS.out w2 (HB6.out.trans (hM.mono HB6.out.size))
          go_simp
          exact hK _ _ rfl hM (Below.refl _ _)
        · intro T2 w2 hM hN hO hE K hK
          have o5 : T2[5]? = some (.slice (some ⟨b', o, none⟩) N c3) := hO 5 rfl
          clear hE hO hN
          refine step_plain0 rfl ?_
          go_simp
          exact hK _ _ rfl hM (Below.refl _ _)
        · intro T2 w2 hM hN hO hE K hK
          have o6 : T2[6]? = some (.int .i64 (k : Nat)) := hO 6 rfl
          clear hE hO hN
          refine step_plain0 rfl ?_
          go_simp
          exact hK _ _ rfl hM (Below.refl _ _)
        · intro T2 w2 hM hN hO hE K hK
          obtain ⟨v1, h1, e1⟩ := hE ⟨1, .data⟩ (by simp) rfl _ _ rfl rfl
          rw [show v1 = .slice (some ⟨b', o, none⟩) N c3 from e1] at h1
          obtain ⟨v2, h2, e2⟩ := hE ⟨2, .data⟩ (by simp) rfl _ _ rfl rfl
          rw [show v2 = .int .i64 (k : Nat) from e2] at h2
          clear hE hO hN
          refine step_plain0 rfl ?_
          go_simp
          exact hK _ _ rfl hM (Below.refl _ _)
        · intro T2 w2 hM hN hO hE K hK
          obtain ⟨v3, h3, e3⟩ := hE ⟨3, .data⟩ (by simp) rfl _ _ rfl rfl
          rw [show v3 = .pointer (some ⟨b', o + k, none⟩) from e3] at h3
          clear hE hO hN
          refine step_plain0 rfl ?_
          have hq := CW.out w2 (HBR6.out.trans (hM.mono HBR6.out.size))
          go_simp
          exact hK _ _ rfl hM (Below.refl _ _)
        · intro T2 w2 hM hN hO hE K hK
          obtain ⟨v0, h0, e0⟩ := hE ⟨0, .data⟩ (by simp) rfl _ _ rfl rfl
          rw [show v0 = .agg #[.slice A N c, .int .i64 l2] from e0] at h0
          obtain ⟨v4, h4, e4⟩ := hE ⟨4, .data⟩ (by simp) rfl _ _ rfl rfl
          rw [show v4 = .string S from e4] at h4
          clear hE hO hN
          refine step_plain0 rfl ?_
          go_simp
          refine (C2.out w2 (HB.out.trans ((HB6.out.trans (hM.mono HB6.out.size)).mono HB.out.size))).mono ?_
          rintro e w3 ⟨rfl, hb⟩
          exact hK _ _ rfl (hM.trans (hb.mono hM.size)) hb
        · intro T2 w2 hM hN hO hE K hK
          obtain ⟨v5, h5, e5⟩ := hE ⟨5, .data⟩ (by simp) rfl _ _ rfl rfl
          rw [show v5 = .tuple #[.string D, .int .i64 0] from e5] at h5
          clear hE hO hN
          refine step_plain0 rfl ?_
          go_simp
          exact hK _ _ rfl hM (Below.refl _ _)
        · intro T2 w2 hM hN hO hE K hK
          obtain ⟨v6, h6, e6⟩ := hE ⟨6, .data⟩ (by simp) rfl _ _ rfl rfl
          rw [show v6 = .tuple #[.string D, .int .i64 0] from e6] at h6
          clear hE hO hN
          refine step_plain0 rfl ?_
          go_simp
          exact hK _ _ rfl hM (Below.refl _ _)
        · intro T2 w2 hM hN hO hE K hK
          obtain ⟨v6, h6, e6⟩ := hE ⟨6, .data⟩ (by simp) rfl _ _ rfl rfl
          rw [show v6 = .tuple #[.string D, .int .i64 0] from e6] at h6
          clear hE hO hN
          refine step_plain0 rfl ?_
          go_simp
          exact hK _ _ rfl hM (Below.refl _ _)
        · intro T2 w2 hM hN hO hE K hK
          obtain ⟨v7, h7, e7⟩ := hE ⟨7, .data⟩ (by simp) rfl _ _ rfl rfl
          rw [show v7 = .string D from e7] at h7
          clear hE hO hN
          refine step_plain0 rfl ?_
          go_simp
          exact hK _ _ rfl hM (Below.refl _ _)
      · intro u w2 hM hF
        have e8 : u 8 = .int .i64 0 := hF 8 (by omega)
        have e9 : u 9 = .string D := hF 9 (by omega)
        clear hF
        simp only [fillAll, Nat.reduceAdd, e8, e9, List.take_succ_cons, List.take_zero, List.drop_succ_cons, List.drop_zero, List.setIfInBounds_toArray, List.set_cons_succ, List.set_cons_zero]
        have HBF := hid2 (HB6.out.trans (hM.mono HB6.out.size))
        have HBF5 := hid2 (HBR6.out.trans (hM.mono HBR6.out.size))
        clear hM
        go_wp2_with fail
        go_roundg (gk - 1)
        case rel => exact ⟨k + 1, by have := HK.out; omega, by go_num, HBF.out, HBF5.out⟩
        case measure => have := HK.out; omega
    · have hil : ¬ (k : Int) < N := by omega
      clear hbe hb5 hk
      go_wp2_with fail
      go_ret
      exact ⟨rfl, HB.out.trans (HBE.out.mono HB.out.size)⟩
/-! acts -/
structure ActJ where
  kind : Int
  n : Int
  name : ByteArray
  rec_ : ByteArray
  ra : Option Addr
  rc : Nat
  recs : List ByteArray
  pa : Option Addr
  pc : Nat
  picks : List Int
def ajV (a : ActJ) : List Value := [.int .i64 a.kind, .int .i64 a.n, .string a.name, .string a.rec_, .slice a.ra a.recs.length a.rc, .slice a.pa a.picks.length a.pc]
def ajsV (l : List ActJ) : List Value := l.flatMap ajV
theorem ajsV_length : ∀ l : List ActJ, (ajsV l).length = l.length * 6
  | [] => rfl
  | a :: r => by
    have h := ajsV_length r
    simp only [ajsV, List.flatMap_cons, List.length_append, List.length_cons] at h ⊢
    rw [h]
    simp [ajV]
    omega
theorem ajsV_get : ∀ (l : List ActJ) (k : Nat) (a : ActJ) (i : Nat) (v : Value), l[k]? = some a → (ajV a)[i]? = some v → (ajsV l)[k * 6 + i]? = some v
  | [], k, a, i, v, h, _ => by simp at h
  | x :: r, k, a, i, v, h, hv => by
    have hi : i < 6 := by
      have := (List.getElem?_eq_some_iff.1 hv).1
      simpa [ajV] using this
    cases k with
    | zero =>
      obtain rfl := Option.some.inj (show some x = some a by simpa using h)
      rw [ajsV, List.flatMap_cons, Nat.zero_mul, Nat.zero_add, List.getElem?_append_left (by simp [ajV]; omega)]
      exact hv
    | succ k =>
      have := ajsV_get r k a i v (by simpa using h) hv
      rw [ajsV, List.flatMap_cons, List.getElem?_append_right (by simp [ajV]; omega)]
      rw [show (k + 1) * 6 + i - (ajV x).length = k * 6 + i by simp [ajV]; omega]
      exact this
theorem aj_cells {w : World} {A : Option Addr} {l : List ActJ} (hr : Rd w 6 A l.length (ajsV l)) {k : Nat} {a : ActJ} (h : l[k]? = some a) :
    ∃ b o, A = some ⟨b, o, none⟩ ∧ ∀ i v, (ajV a)[i]? = some v → w.cell? ⟨b, o + (k * 6 + i), none⟩ = some v := by
  have hk : k < l.length := (List.getElem?_eq_some_iff.1 h).1
  obtain ⟨b, o, rfl, hc⟩ := hr.2 (by omega)
  exact ⟨b, o, rfl, fun i v hv => hc _ _ (ajsV_get l k a i v h hv)⟩
structure ActAtJ (w : World) (a : ActJ) : Prop where
  recs : Rd w 1 a.ra a.recs.length (a.recs.map Value.string)
  picks : Rd w 1 a.pa a.picks.length (intV a.picks)
  pc : a.picks.length ≤ a.pc
  n : -9223372036854775808 ≤ a.n ∧ a.n ≤ 9223372036854775807
  rl : a.recs.length ≤ 8796093022208
theorem ActAtJ.below {w w' : World} {a : ActJ} (h : ActAtJ w a) (hb : Below w.heap.size w w') : ActAtJ w' a := ⟨h.recs.below_all hb, h.picks.below_all hb, h.pc, h.n, h.rl⟩
def ActSm (a : ActJ) : Prop := a.name.size ≤ 20 ∧ a.rec_.size ≤ 100 ∧ a.picks.length ≤ 10 ∧ (∀ x ∈ a.recs, x.size ≤ 100) ∧ a.recs.length ≤ 12
def GJPost (w : World) (l : List ActJ) (e : Ending) (w' : World) : Prop := ∃ g, e = .returned (.bool g) ∧ (g = false → (∀ a ∈ l, ActSm a) ∧ l.length ≤ 20) ∧ Below w.heap.size w w'
theorem GJPost.yes {w w' : World} {l : List ActJ} (hb : Below w.heap.size w w') : GJPost w l (.returned (.bool true)) w' := ⟨true, rfl, fun h => absurd h (by decide), hb⟩
set_option maxHeartbeats 8000000 in
theorem great08_any (w : World) (A : Option Addr) (c : Nat) (l : List ActJ) (hr : Rd w 6 A l.length (ajsV l)) (hl : l.length ≤ 8796093022208) (hA : ∀ a ∈ l, ActAtJ w a) :
    Calls Tryz.prog 4 #[.slice A l.length c] w (GJPost w l) := by
  obtain ⟨N, hN⟩ : ∃ N, N = l.length := ⟨_, rfl⟩
  have HR := hid2 hr
  have HAA := hid2 hA
  have HN := hid2 hN
  have hlim : (N : Int) ≤ 8796093022208 := by omega
  rw [← hN]
  clear hr hA hN hl
  go_enter Tryz.func4, Tryz.ntmps4
  go_wp2_with fail
  go_loopg [3] N (fun gk iv wr => ∃ k : Nat, k + gk = N ∧ iv = .int .i64 k ∧ (∀ a ∈ l.take k, ActSm a) ∧ Below w.heap.size w wr)
  case atStart => exact ⟨0, by omega, rfl, by simp, Below.refl _ _⟩
  case round =>
    obtain ⟨k, hk, rfl, hsm, hbe⟩ := hrel
    have HSM := hid2 hsm
    have HBE := hid2 hbe
    have HK := hid2 hk
    by_cases hlt : k < N
    · have hil : (k : Int) < N := by omega
      have hi0 : (0 : Int) ≤ k := by omega
      obtain ⟨a, ha⟩ : ∃ a, l[k]? = some a := ⟨_, List.getElem?_eq_getElem (by rw [← HN.out]; exact hlt)⟩
      have hat := HAA.out a (List.mem_of_getElem? ha)
      obtain ⟨b, o, hA2, hcell⟩ := aj_cells (HR.out) ha
      subst hA2
      have hc : ∀ (i : Nat) (v : Value), (ajV a)[i]? = some v → wr.cell? ⟨b, o + (k * 6 + i), none⟩ = some v := fun i v hv => (hbe.cell (p := ⟨b, o + (k * 6 + i), none⟩) (World.block_lt_of_cell? _ _ (hcell i v hv))).trans (hcell i v hv)
      have x2 : wr.cell? ⟨b, o + k * 6 + 2, none⟩ = some (.string a.name) := hc 2 _ rfl
      have x3 : wr.cell? ⟨b, o + k * 6 + 3, none⟩ = some (.string a.rec_) := hc 3 _ rfl
      have x4 : wr.cell? ⟨b, o + k * 6 + 4, none⟩ = some (.slice a.ra a.recs.length a.rc) := hc 4 _ rfl
      have x5 : wr.cell? ⟨b, o + k * 6 + 5, none⟩ = some (.slice a.pa a.picks.length a.pc) := hc 5 _ rfl
      have hG := jgreat_any wr a.ra a.recs.length a.rc a.recs (hat.recs.below_all hbe) hat.rl
      obtain ⟨nm, hnm⟩ : ∃ s, s = a.name := ⟨_, rfl⟩
      obtain ⟨rc, hrc⟩ : ∃ s, s = a.rec_ := ⟨_, rfl⟩
      obtain ⟨rn, hrn⟩ : ∃ s, s = a.recs.length := ⟨_, rfl⟩
      obtain ⟨pn, hpn⟩ : ∃ s, s = a.picks.length := ⟨_, rfl⟩
      rw [← hnm] at x2
      rw [← hrc] at x3
      rw [← hrn] at x4 hG
      rw [← hpn] at x5
      have HGR := hid2 hG
      have HAX := hid2 (And.intro hnm (And.intro hrc (And.intro hrn hpn)))
      have HA1 := hid2 ha
      clear hnm hrc hrn hpn hG hc hcell hat ha hbe hk hsm
      by_cases h1 : 20 < nm.size
      · have h1i : (20 : Int) < nm.size := by omega
        go_wp2_with fail
        go_ret
        exact GJPost.yes HBE.out
      · have h1i : ¬ (20 : Int) < nm.size := by omega
        by_cases h2 : 100 < rc.size
        · have h2i : (100 : Int) < rc.size := by omega
          go_wp2_with fail
          go_ret
          exact GJPost.yes HBE.out
        · have h2i : ¬ (100 : Int) < rc.size := by omega
          by_cases h3 : 10 < pn
          · have h3i : (10 : Int) < pn := by omega
            go_wp2_with fail
            go_ret
            exact GJPost.yes HBE.out
          · have h3i : ¬ (10 : Int) < pn := by omega
            go_wp2_with (go_at_call 22; refine HGR.out.mono ?_; rintro e w3 ⟨gg, rfl, hgg, hb⟩; have HGG := hid2 hgg; have HB3 := hid2 hb; clear hgg hb x2 x3 x4 x5)
            · go_ret
              exact GJPost.yes (HBE.out.trans (HB3.out.mono HBE.out.size))
            · rename_i hgf
              go_roundg (gk - 1)
              case rel =>
                refine ⟨k + 1, by have := HK.out; omega, by go_num, fun y hy => ?_, HBE.out.trans (HB3.out.mono HBE.out.size)⟩
                obtain ⟨hkl, hka⟩ := List.getElem?_eq_some_iff.1 HA1.out
                rw [List.take_succ_eq_append_getElem hkl, List.mem_append] at hy
                rcases hy with hy | hy
                · exact HSM.out y hy
                · rw [List.mem_singleton.1 hy, hka]
                  obtain ⟨e1, e2, e3, e4⟩ := HAX.out
                  obtain ⟨g1, g2⟩ := HGG.out hgf
                  exact ⟨by rw [← e1]; omega, by rw [← e2]; omega, by rw [← e4]; omega, g1, g2⟩
              case measure => have := HK.out; omega
    · have hil : ¬ (k : Int) < N := by omega
      clear hbe hk hsm
      by_cases h20 : 20 < N
      · have h2i : (20 : Int) < N := by omega
        go_wp2_with fail
        go_ret
        exact GJPost.yes HBE.out
      · have h2i : ¬ (20 : Int) < N := by omega
        go_wp2_with fail
        go_ret
        have hall : l.take k = l := List.take_of_length_le (by rw [← HN.out]; omega)
        exact ⟨false, rfl, fun _ => ⟨by have := HSM.out; rw [hall] at this; exact this, by rw [← HN.out]; omega⟩, HBE.out⟩
end Go.Proofs.YtehpapoboeejkaaGreat
/- The reference's Crash at any list of files. -/
namespace Go.Proofs.YtehpapoboeejkaaGreat
open Go.RowKit Go.Maps
/-- between two rounds of the reference's Crash -/
structure RCInv (w : World) (p2 : Nat) (M : Tab FileE) (ps : List Int) (k K : Nat) (A' : Option Addr) (c' : Nat) (wr : World) : Prop where
  own : Own wr (p2 + 1) 88 3 A' k c' (rfsV (crashP (M.take k) ps).1)
  box : Box wr p2 [.slice A' k c', .int .i64 (-1)]
  below : Below w.heap.size w wr
  res : Box wr (w.heap.size + 1) [.slice none 0 0, .int .i64 0]
  rest : (crashP (M.take k) ps).2 = ps.drop K
  le : K ≤ k
theorem RCInv.next {w : World} {p2 : Nat} {M : Tab FileE} {ps : List Int} {k K K2 : Nat} {A' A3 : Option Addr} {c' c3 : Nat} {wr W w3 : World} (h : RCInv w p2 M ps k K A' c' wr) (hri : Rises M) {x : List UInt8 × FileE} (hx : M[k]? = some x)
    (hbW : Below wr.heap.size wr W) (hp : w.heap.size + 1 < p2) {cs : List Value} (hcs : cs = rfV (crash1 x (ps.drop K)).1) {O : Obj} (hg : (W.alloc O).grownBy w3 (blockOf A')) (ho : Own w3 (p2 + 1) 88 3 A3 (k + 1) c3 (rfsV (crashP (M.take k) ps).1 ++ cs))
    (hK : (crash1 x (ps.drop K)).2 = ps.drop K2) (hK2 : K2 ≤ K + 1) : RCInv w p2 M ps (k + 1) K2 A3 c3 (w3.setCell ⟨p2, 0, none⟩ (.slice A3 (k + 1) c3)) := by
  obtain ⟨h1, _⟩ := crash_step hri ps hx
  have hW2 : wr.heap.size ≤ W.heap.size := hbW.size
  have hpl := h.box.lt
  have hb3 : Below w.heap.size w w3 := ((h.below.trans (hbW.mono h.below.size)).alloc (Nat.le_trans h.below.size hW2) O).grown hg (by rw [World.size_alloc]; have := h.below.size; omega) (fun g e => by have := (h.own.block g e).1; omega)
  refine ⟨?_, ?_, hb3.setCell (show w.heap.size ≤ p2 by omega) _, ?_, ?_, by have := h.le; omega⟩
  · rw [h1, h.rest, ← rfsV_snoc, ← hcs]
    exact ho.setOther (p := ⟨p2, 0, none⟩) (fun e => by have := (ho.block _ e).1; simp at this; omega) _
  · exact ((((h.box.below hbW hpl).alloc O).grown hg (fun e => by have := (h.own.block _ e.symm).1; omega)).set 0 _)
  · exact ((((h.res.below hbW (by omega)).alloc O).grown hg (fun e => by have := (h.own.block _ e.symm).1; omega)).other (show _ ≠ p2 by omega) _)
  · rw [h1, h.rest]
    exact hK
/-- what the reference's Crash answers -/
def RCPost (w : World) (L : Tab FileE) (n : Nat) (e : Ending) (w' : World) : Prop := ∃ A' c', e = .returned (.agg #[.slice A' n c', .int .i64 (-1)]) ∧ Own w' w.heap.size 88 3 A' n c' (rfsV L) ∧ Below w.heap.size w w'
theorem ref_arith {u : Nat} {pick : Int} (hu : 0 < u) : ∃ P R : Int, pick.tmod ((u : Int) + 1) = P ∧ -(u : Int) - 1 < P ∧ P < (u : Int) + 1 ∧ (P + ((u : Int) + 1)).tmod ((u : Int) + 1) = R ∧ R = pick % ((u : Int) + 1) ∧ 0 ≤ R ∧ R ≤ u := by
  obtain ⟨P, R, h1, h2, h3, h4, h5, h6, h7⟩ := keep_arith (u := u) (pick := pick) hu
  exact ⟨P, R, h1, h2, h3, by rw [← Int.add_assoc]; exact h4, h5, h6, h7⟩
set_option maxRecDepth 100000 in
set_option maxHeartbeats 2000000 in
theorem crash07m_any (w : World) (A : Option Addr) (c : Nat) (M : Tab FileE) (left : Int) (hr : Rd w 3 A M.length (rfsV M)) (hl : M.length ≤ 1000000) (hri : Rises M) (hC : ∀ x ∈ M, x.1.length ≤ 1000000000 ∧ x.2.1.length ≤ 1000000000 ∧ x.2.2 ≤ x.2.1.length)
    (B : Option Addr) (c2 : Nat) (ps : List Int) (hp : Rd w 1 B ps.length (intV ps)) (hpl : ps.length ≤ 1000000000) :
    Calls Tryz.prog 17 #[.agg #[.slice A M.length c, .int .i64 left], .slice B ps.length c2] w (RCPost w (crashP M ps).1 M.length) := by
  obtain ⟨N, hN⟩ : ∃ N, N = M.length := ⟨_, rfl⟩
  obtain ⟨Q, hQ⟩ : ∃ Q, Q = ps.length := ⟨_, rfl⟩
  have hN' : (N : Int) ≤ 1000000 := by omega
  have HR := hid2 hr
  have HP := hid2 hp
  have HC := hid2 hC
  have HRI := hid2 hri
  rw [← hN] at hl ⊢
  rw [← hQ] at hpl ⊢
  have hpl' : (Q : Int) ≤ 1000000000 := by omega
  have HN := hid2 hN
  have HQ := hid2 hQ
  obtain ⟨g, hg⟩ : ∃ g, g = w.heap.size := ⟨_, rfl⟩
  obtain ⟨W3, hW3⟩ : ∃ W3, W3 = (w.alloc (.cells #[.slice A N c, .int .i64 left] 30)).alloc (.cells #[.slice none 0 0, .int .i64 0] 30) := ⟨_, rfl⟩
  have z3 : W3.heap.size = g + 2 := by rw [hW3, hg]; simp
  have b0 : Box W3 g [.slice A N c, .int .i64 left] := by rw [hW3]; exact (Box.new' _ _ _ (by simp [hg])).alloc _
  have b1 : Box W3 (g + 1) [.slice none 0 0, .int .i64 0] := by rw [hW3]; exact Box.new' _ _ _ (by simp [hg])
  have hbW : Below g w W3 := by rw [hW3, hg]; exact ((Below.refl _ _).alloc (by simp) _).alloc (by simp) _
  have HW3 := hid2 hW3
  have HG := hid2 hg
  clear hW3 hr hp hC hri hN hQ hg
  go_enter Tryz.func17, Tryz.ntmps17
  go_wp2_with (go_at_call 7; rw [← HW3.out, ← HG.out]; refine (new07_any _).mono ?_; rintro e w2 ⟨rfl, hb2⟩; have k0 := b0.below_all hb2; have k1 := b1.below_all hb2; have hbw2 := hbW.trans (hb2.mono (show g ≤ W3.heap.size by omega)); have hz2 := hb2.size; rw [z3] at hz2; have hgl : g < w2.heap.size := (by omega); have c0 : w2.cell? ⟨g, 0, none⟩ = some (.slice A N c) := k0.cells 0; have K0 := hid2 k0; have K1 := hid2 k1; have HBW2 := hid2 hbw2; clear b0 b1 hb2 k0 k1 hbW hbw2)
  obtain ⟨p2, hp2⟩ : ∃ p2, p2 = w2.heap.size := ⟨_, rfl⟩
  rw [← hp2]
  have HP2 := hid2 hp2
  clear hp2
  generalize hW : World.alloc _ _ = W
  have hinv0 : RCInv w p2 M ps 0 0 none 0 W := by
    refine ⟨Own.nil _ _ _ _, by rw [← hW]; exact Box.new' _ _ _ HP2.out.symm, by rw [← HG.out, ← hW]; exact HBW2.out.alloc (by omega) _, by rw [← HG.out, ← hW]; exact K1.out.alloc _, rfl, Nat.le_refl _⟩
  have HI0 := hid2 hinv0
  have hpg : g + 1 < p2 := by rw [HP2.out]; omega
  clear hinv0 hW
  clear hz2 hgl c0
  go_loopg [6, 15] N (fun gk kv i wr => ∃ (k K : Nat) (A' : Option Addr) (c' : Nat), k + gk = N ∧ i = .int .i64 k ∧ kv = .int .i64 K ∧ RCInv w p2 M ps k K A' c' wr)
  case atStart => exact ⟨0, 0, _, _, by omega, rfl, rfl, HI0.out⟩
  case round =>
    obtain ⟨k, K, A', c', hk, rfl, rfl, hinv⟩ := hrel
    by_cases hlt : k < N
    · have hlt' : (k : Int) < N := by omega
      obtain ⟨x, hx⟩ : ∃ x, M[k]? = some x := ⟨_, List.getElem?_eq_getElem (by rw [← HN.out]; exact hlt)⟩
      obtain ⟨kx, d, sv⟩ := x
      obtain ⟨hk1, hd1, hsvl⟩ := HC.out _ (List.mem_of_getElem? hx)
      simp only at hk1 hd1 hsvl
      obtain ⟨b, o, rfl, e0, e1, e2⟩ := rf_cells (HR.out.below_all hinv.below) hx
      simp only at e0 e1 e2
      obtain ⟨S, hS⟩ : ∃ S, S = strB kx := ⟨_, rfl⟩
      obtain ⟨Sd, hSd⟩ : ∃ Sd, Sd = strB d := ⟨_, rfl⟩
      rw [← hS] at e0
      rw [← hSd] at e1
      have hSds : Sd.size = d.length := by rw [hSd, strB_size]
      have hSdl : (Sd.size : Int) ≤ 1000000000 := by omega
      have hsvB : (sv : Int) ≤ 1000000000 := by omega
      have hK : K ≤ k := hinv.le
      have hKB : (K : Int) ≤ 1000000 := by omega
      obtain ⟨G, hG⟩ : ∃ G, G = wr.heap.size := ⟨_, rfl⟩
      have HGG := hid2 hG
      have HINV := hid2 hinv
      have HX := hid2 hx
      have HS := hid2 hS
      have HSD := hid2 hSd
      have HSDS := hid2 hSds
      have hpr := hinv.box.lt
      have hgr : g + 1 < wr.heap.size := by have := hinv.res.lt; rw [← HG.out] at this; exact this
      rw [← hG] at hpr hgr
      have hpG : p2 ≠ G := by omega
      have hGp : G ≠ p2 := by omega
      have hRP : ∀ h : K < Q, ∃ bp op, B = some ⟨bp, op, none⟩ ∧ wr.cell? ⟨bp, op + K, none⟩ = some (.int .i64 (ps[K]'(by rw [← HQ.out]; exact h))) ∧ bp < wr.heap.size := fun h => by
        have hl2 : K < ps.length := by rw [← HQ.out]; exact h
        obtain ⟨bp, op, e, hc⟩ := (HP.out.below_all hinv.below).cell (j := K) (by rw [intV_length]; exact hl2)
        exact ⟨bp, op, e, by simpa [intV] using hc, World.block_lt_of_cell? _ _ hc⟩
      have HRP := hid2 hRP
      clear hinv hx hS hSd hSds hG hRP hk1 hlt
      by_cases hu : sv < d.length
      · obtain ⟨u, hu'⟩ : ∃ u, u = d.length - sv := ⟨_, rfl⟩
        have hu0 : 0 < u := by omega
        have hlts : (sv : Int) < Sd.size := by rw [HSDS.out]; omega
        have hun2 : (Sd.size : Int) - sv = u := by rw [HSDS.out]; omega
        have hu0' : (0 : Int) < u := by omega
        have hune : ¬ ((u : Int) + 1 = 0) := by omega
        have huB : (u : Int) ≤ 1000000000 := by omega
        have hsv0 : (0 : Int) ≤ sv := by omega
        have HU := hid2 hu
        have HU2 := hid2 hu'
        have HD1 := hid2 hd1
        have HSVL := hid2 hsvl
        clear hu hu' hd1 hsvl hu0
        by_cases hKQ : K < Q
        · obtain ⟨bp, op, rfl, hpick, hbpr⟩ := HRP.out hKQ
          have hdr : ps.drop K = ps[K]'(by rw [← HQ.out]; exact hKQ) :: ps.drop (K + 1) := List.drop_eq_getElem_cons _
          obtain ⟨pick, hpk⟩ : ∃ pick, pick = ps[K]'(by rw [← HQ.out]; exact hKQ) := ⟨_, rfl⟩
          rw [← hpk] at hpick hdr
          have hKQ' : (K : Int) < Q := by omega
          have HDR := hid2 hdr
          have hKn : K + 1 ≤ K + 1 := Nat.le_refl _
          clear hpk hdr hKQ
          obtain ⟨P, R, hP, hP1, hP2, hR, hR1, hR2, hR3⟩ := ref_arith (u := u) (pick := pick) (by omega)
          obtain ⟨T, hT⟩ : ∃ T : Nat, T = sv + R.toNat := ⟨_, rfl⟩
          have hcr : crash1 (kx, (d, sv)) (ps.drop K) = ((kx, (d.take T, T)), ps.drop (K + 1)) := by
            unfold crash1
            rw [if_pos HU.out, HDR.out, hT, hR1, HU2.out]
            rfl
          have hTd : T ≤ d.length := by have := HU2.out; omega
          obtain ⟨St, hSt⟩ : ∃ St, St = strB (d.take T) := ⟨_, rfl⟩
          have hStz : (St.size : Int) = T := by rw [hSt, strB_size, List.length_take]; omega
          have hx1 : Sd.extract 0 T = St := by rw [hSt, HSD.out]; exact strB_take d T
          have hcs : [Value.string S, Value.string St, Value.int .i64 (St.size : Nat)] = rfV (crash1 (kx, (d, sv)) (ps.drop K)).1 := by rw [hcr, rfV, HS.out, hSt, show (T : Int) = ((strB (d.take T)).size : Nat) by rw [← hSt]; exact hStz.symm]
          have HNX : Hid2 ((crash1 (kx, (d, sv)) (ps.drop K)).2 = ps.drop (K + 1) ∧ K + 1 ≤ K + 1) := hid2 ⟨by rw [hcr], Nat.le_refl _⟩
          have hTi : (T : Int) ≤ Sd.size := by rw [HSDS.out]; omega
          have hw1 : IntKind.i64.wrap ((u : Int) + 1) = (u : Int) + 1 := IntWalk.i64_in _ (by constructor <;> omega)
          have hw3 : IntKind.i64.wrap (P + ((u : Int) + 1)) = P + ((u : Int) + 1) := IntWalk.i64_in _ (by constructor <;> omega)
          have hw4 : IntKind.i64.wrap ((sv : Int) + R) = (T : Int) := by rw [IntWalk.i64_in _ (by constructor <;> omega)]; omega
          have hwP : IntKind.i64.wrap P = P := IntWalk.i64_in _ (by constructor <;> omega)
          have hwR : IntKind.i64.wrap R = R := IntWalk.i64_in _ (by constructor <;> omega)
          have hStB : (St.size : Int) ≤ 1000000000 := by rw [hStz]; omega
          have HCS := hid2 hcs
          clear hcr hTd hSt hcs
          clear hT hR1 hStz
          go_upto_region 12 with (fail)
          rw [← HGG.out]
          generalize hW0 : World.alloc _ _ = W0
          have q0 : Box W0 G [.string S, .string Sd, .int .i64 sv] := by rw [← hW0]; exact Box.new' _ _ _ HGG.out.symm
          have hb0 : Below wr.heap.size wr W0 := by rw [← hW0]; exact (Below.refl _ _).alloc (Nat.le_refl _) _
          have w0 : W0.cell? ⟨G, 0, none⟩ = some (.string S) := q0.cells 0
          have w1 : W0.cell? ⟨G, 1, none⟩ = some (.string Sd) := q0.cells 1
          have w2 : W0.cell? ⟨G, 2, none⟩ = some (.int .i64 sv) := q0.cells 2
          have v1 : W0.frozen? ⟨G, 1, none⟩ = false := q0.free 1
          have v2 : W0.frozen? ⟨G, 2, none⟩ = false := q0.free 2
          have Q0 := hid2 q0
          have HB0 := hid2 hb0
          clear hW0 q0 hb0
          go_still_tail 14, (by kernel_rfl)
          change wpList _ _ _ _ _ W0.drew
          go_upto_region 14 with (fail)
          generalize hW : World.drew (World.setCell _ _ _) = W
          have q1 : Box W G [.string S, .string St, .int .i64 (St.size : Nat)] := by rw [← hW]; exact ((Q0.out.set 1 _).set 2 _).drew
          have hbW : Below wr.heap.size wr W := by rw [← hW]; exact ((HB0.out.setCell (p := ⟨G, 1, none⟩) (show wr.heap.size ≤ G by rw [HGG.out]; exact Nat.le_refl _) _).setCell (p := ⟨G, 2, none⟩) (show wr.heap.size ≤ G by rw [HGG.out]; exact Nat.le_refl _) _).drew
          have hownW := HINV.out.own.below hbW (Nat.le_refl _)
          have q2 := HINV.out.box.below hbW HINV.out.box.lt
          have x0 : W.cell? ⟨G, 0, none⟩ = some (.string S) := q1.cells 0
          have x1 : W.cell? ⟨G, 1, none⟩ = some (.string St) := q1.cells 1
          have x2 : W.cell? ⟨G, 2, none⟩ = some (.int .i64 (St.size : Nat)) := q1.cells 2
          have y0 : W.cell? ⟨p2, 0, none⟩ = some (.slice A' k c') := q2.cells 0
          obtain ⟨V, hV⟩ : ∃ V, V = rfsV (crashP (M.take k) ps).1 := ⟨_, rfl⟩
          rw [← hV] at hownW
          have HV := hid2 hV
          have HBW := hid2 hbW
          have HQ2 := hid2 q2
          have hpW := q2.lt
          have hown2 := hownW.alloc (.cells #[.string S, .string St, .int .i64 (St.size : Nat)] 88)
          have hrd0 := Rd.of_lit W #[.string S, .string St, .int .i64 (St.size : Nat)] 88 3 1 (by decide) rfl
          have hrd : Rd (W.alloc (.cells #[.string S, .string St, .int .i64 (St.size : Nat)] 88)) 3 (some ⟨W.heap.size, 0, none⟩) 1 [.string S, .string St, .int .i64 (St.size : Nat)] := by simpa using hrd0
          have hone : ∀ v ∈ [Value.string S, Value.string St, Value.int .i64 (St.size : Nat)], v.oneCell' = true := by simp [Value.oneCell']
          clear w0 w1 w2 v1 v2 hW q1 hbW hownW hV q2 hrd0
          go_wp2_with (at_builtin; have _t := hown2; go_must ((with_reducible refine wpList_append_lit 88 (.agg #[.string ⟨#[]⟩, .string ⟨#[]⟩, .int .i64 0]) 3 40 Tryz.underlying28 info_rfile rfl (p2 + 1) A' k c' V hown2 1 _ (.slice (some ⟨W.heap.size, 0, none⟩) 1 1) (Src.slice Tryz.underlying28 hrd) hone ?_ ?_ ?_ ?_ ?_); (unfold maxLen; omega); omega; (simp; omega); exact ⟨rfl, rfl⟩; intro A3 c3 w3 hown3 hgr3 hbl3; have p3 := (HQ2.out.alloc (.cells #[.string S, .string St, .int .i64 (St.size : Nat)] 88)).grown hgr3 (fun e => by have := (HINV.out.own.block _ e.symm).1; omega); have y3 : w3.cell? ⟨p2, 0, none⟩ = some (.slice A' k c') := p3.cells 0; have yf : w3.frozen? ⟨p2, 0, none⟩ = false := p3.free 0; clear hown2 p3))
          go_roundg (gk - 1)
          case rel => exact ⟨k + 1, K + 1, A3, c3, by omega, by go_num, by first | rfl | go_num, RCInv.next HINV.out HRI.out HX.out HBW.out (by rw [← HG.out]; omega) HCS.out hgr3 (by rw [← HV.out]; exact hown3) HNX.out.1 HNX.out.2⟩
          case measure => omega
        · obtain ⟨pick, hpk⟩ : ∃ pick : Int, pick = 0 := ⟨_, rfl⟩
          have hdr : ps.drop K = [] := by rw [List.drop_eq_nil_iff, ← HQ.out]; omega
          have hdr2 : ps.drop (K + 1) = [] := by rw [List.drop_eq_nil_iff, ← HQ.out]; omega
          have hKQ' : ¬ (K : Int) < Q := by omega
          have HDR := hid2 hdr
          have HDR2 := hid2 hdr2
          have HPK := hid2 hpk
          clear hpk hdr hdr2 hKQ
          obtain ⟨P, R, hP, hP1, hP2, hR, hR1, hR2, hR3⟩ := ref_arith (u := u) (pick := pick) (by omega)
          obtain ⟨T, hT⟩ : ∃ T : Nat, T = sv + R.toNat := ⟨_, rfl⟩
          have hcr : crash1 (kx, (d, sv)) (ps.drop K) = ((kx, (d.take T, T)), ps.drop (K + 1)) := by
            unfold crash1
            rw [if_pos HU.out, HDR.out, HDR2.out, hT, hR1, HU2.out]
            rw [HPK.out]; rfl
          have hTd : T ≤ d.length := by have := HU2.out; omega
          obtain ⟨St, hSt⟩ : ∃ St, St = strB (d.take T) := ⟨_, rfl⟩
          have hStz : (St.size : Int) = T := by rw [hSt, strB_size, List.length_take]; omega
          have hx1 : Sd.extract 0 T = St := by rw [hSt, HSD.out]; exact strB_take d T
          have hcs : [Value.string S, Value.string St, Value.int .i64 (St.size : Nat)] = rfV (crash1 (kx, (d, sv)) (ps.drop K)).1 := by rw [hcr, rfV, HS.out, hSt, show (T : Int) = ((strB (d.take T)).size : Nat) by rw [← hSt]; exact hStz.symm]
          have HNX : Hid2 ((crash1 (kx, (d, sv)) (ps.drop K)).2 = ps.drop (K + 1) ∧ K + 1 ≤ K + 1) := hid2 ⟨by rw [hcr], Nat.le_refl _⟩
          have hTi : (T : Int) ≤ Sd.size := by rw [HSDS.out]; omega
          have hw1 : IntKind.i64.wrap ((u : Int) + 1) = (u : Int) + 1 := IntWalk.i64_in _ (by constructor <;> omega)
          have hw3 : IntKind.i64.wrap (P + ((u : Int) + 1)) = P + ((u : Int) + 1) := IntWalk.i64_in _ (by constructor <;> omega)
          have hw4 : IntKind.i64.wrap ((sv : Int) + R) = (T : Int) := by rw [IntWalk.i64_in _ (by constructor <;> omega)]; omega
          have hwP : IntKind.i64.wrap P = P := IntWalk.i64_in _ (by constructor <;> omega)
          have hwR : IntKind.i64.wrap R = R := IntWalk.i64_in _ (by constructor <;> omega)
          have hStB : (St.size : Int) ≤ 1000000000 := by rw [hStz]; omega
          have HCS := hid2 hcs
          clear hcr hTd hSt hcs
          rw [HPK.out] at hP
          clear hT hR1 hStz
          go_upto_region 12 with (fail)
          rw [← HGG.out]
          generalize hW0 : World.alloc _ _ = W0
          have q0 : Box W0 G [.string S, .string Sd, .int .i64 sv] := by rw [← hW0]; exact Box.new' _ _ _ HGG.out.symm
          have hb0 : Below wr.heap.size wr W0 := by rw [← hW0]; exact (Below.refl _ _).alloc (Nat.le_refl _) _
          have w0 : W0.cell? ⟨G, 0, none⟩ = some (.string S) := q0.cells 0
          have w1 : W0.cell? ⟨G, 1, none⟩ = some (.string Sd) := q0.cells 1
          have w2 : W0.cell? ⟨G, 2, none⟩ = some (.int .i64 sv) := q0.cells 2
          have v1 : W0.frozen? ⟨G, 1, none⟩ = false := q0.free 1
          have v2 : W0.frozen? ⟨G, 2, none⟩ = false := q0.free 2
          have Q0 := hid2 q0
          have HB0 := hid2 hb0
          clear hW0 q0 hb0
          go_still_tail 14, (by kernel_rfl)
          change wpList _ _ _ _ _ W0.drew
          go_upto_region 14 with (fail)
          generalize hW : World.drew (World.setCell _ _ _) = W
          have q1 : Box W G [.string S, .string St, .int .i64 (St.size : Nat)] := by rw [← hW]; exact ((Q0.out.set 1 _).set 2 _).drew
          have hbW : Below wr.heap.size wr W := by rw [← hW]; exact ((HB0.out.setCell (p := ⟨G, 1, none⟩) (show wr.heap.size ≤ G by rw [HGG.out]; exact Nat.le_refl _) _).setCell (p := ⟨G, 2, none⟩) (show wr.heap.size ≤ G by rw [HGG.out]; exact Nat.le_refl _) _).drew
          have hownW := HINV.out.own.below hbW (Nat.le_refl _)
          have q2 := HINV.out.box.below hbW HINV.out.box.lt
          have x0 : W.cell? ⟨G, 0, none⟩ = some (.string S) := q1.cells 0
          have x1 : W.cell? ⟨G, 1, none⟩ = some (.string St) := q1.cells 1
          have x2 : W.cell? ⟨G, 2, none⟩ = some (.int .i64 (St.size : Nat)) := q1.cells 2
          have y0 : W.cell? ⟨p2, 0, none⟩ = some (.slice A' k c') := q2.cells 0
          obtain ⟨V, hV⟩ : ∃ V, V = rfsV (crashP (M.take k) ps).1 := ⟨_, rfl⟩
          rw [← hV] at hownW
          have HV := hid2 hV
          have HBW := hid2 hbW
          have HQ2 := hid2 q2
          have hpW := q2.lt
          have hown2 := hownW.alloc (.cells #[.string S, .string St, .int .i64 (St.size : Nat)] 88)
          have hrd0 := Rd.of_lit W #[.string S, .string St, .int .i64 (St.size : Nat)] 88 3 1 (by decide) rfl
          have hrd : Rd (W.alloc (.cells #[.string S, .string St, .int .i64 (St.size : Nat)] 88)) 3 (some ⟨W.heap.size, 0, none⟩) 1 [.string S, .string St, .int .i64 (St.size : Nat)] := by simpa using hrd0
          have hone : ∀ v ∈ [Value.string S, Value.string St, Value.int .i64 (St.size : Nat)], v.oneCell' = true := by simp [Value.oneCell']
          clear w0 w1 w2 v1 v2 hW q1 hbW hownW hV q2 hrd0
          go_wp2_with (at_builtin; have _t := hown2; go_must ((with_reducible refine wpList_append_lit 88 (.agg #[.string ⟨#[]⟩, .string ⟨#[]⟩, .int .i64 0]) 3 40 Tryz.underlying28 info_rfile rfl (p2 + 1) A' k c' V hown2 1 _ (.slice (some ⟨W.heap.size, 0, none⟩) 1 1) (Src.slice Tryz.underlying28 hrd) hone ?_ ?_ ?_ ?_ ?_); (unfold maxLen; omega); omega; (simp; omega); exact ⟨rfl, rfl⟩; intro A3 c3 w3 hown3 hgr3 hbl3; have p3 := (HQ2.out.alloc (.cells #[.string S, .string St, .int .i64 (St.size : Nat)] 88)).grown hgr3 (fun e => by have := (HINV.out.own.block _ e.symm).1; omega); have y3 : w3.cell? ⟨p2, 0, none⟩ = some (.slice A' k c') := p3.cells 0; have yf : w3.frozen? ⟨p2, 0, none⟩ = false := p3.free 0; clear hown2 p3))
          go_roundg (gk - 1)
          case rel => exact ⟨k + 1, K + 1, A3, c3, by omega, by go_num, by first | rfl | go_num, RCInv.next HINV.out HRI.out HX.out HBW.out (by rw [← HG.out]; omega) HCS.out hgr3 (by rw [← HV.out]; exact hown3) HNX.out.1 HNX.out.2⟩
          case measure => omega
      · have hcr : crash1 (kx, (d, sv)) (ps.drop K) = ((kx, (d, d.length)), ps.drop K) := by unfold crash1; rw [if_neg hu]
        have hlts : ¬ (sv : Int) < Sd.size := by rw [HSDS.out]; omega
        have HCR := hid2 hcr
        obtain ⟨T, hT⟩ : ∃ T : Nat, T = Sd.size := ⟨_, rfl⟩
        have hcs : [Value.string S, Value.string Sd, Value.int .i64 (T : Nat)] = rfV (crash1 (kx, (d, sv)) (ps.drop K)).1 := by rw [hcr, rfV, HS.out, HSD.out, hT, HSDS.out]
        have HCS := hid2 hcs
        have HT := hid2 hT
        have HSVL := hid2 hsvl
        have HNX : Hid2 ((crash1 (kx, (d, sv)) (ps.drop K)).2 = ps.drop K ∧ K ≤ K + 1) := hid2 ⟨by rw [hcr], by omega⟩
        clear hcr hu hT hcs hd1 hsvl
        go_upto_region 14 with (fail)
        rw [← HT.out]
        rw [← HGG.out]
        generalize hW : World.alloc _ _ = W
        have q1 : Box W G [.string S, .string Sd, .int .i64 T] := by rw [← hW]; exact Box.new' _ _ _ HGG.out.symm
        have hbW : Below wr.heap.size wr W := by rw [← hW]; exact (Below.refl _ _).alloc (Nat.le_refl _) _
        have hownW := HINV.out.own.below hbW (Nat.le_refl _)
        have q2 := HINV.out.box.below hbW HINV.out.box.lt
        have x0 : W.cell? ⟨G, 0, none⟩ = some (.string S) := q1.cells 0
        have x1 : W.cell? ⟨G, 1, none⟩ = some (.string Sd) := q1.cells 1
        have x2 : W.cell? ⟨G, 2, none⟩ = some (.int .i64 T) := q1.cells 2
        have y0 : W.cell? ⟨p2, 0, none⟩ = some (.slice A' k c') := q2.cells 0
        obtain ⟨V, hV⟩ : ∃ V, V = rfsV (crashP (M.take k) ps).1 := ⟨_, rfl⟩
        rw [← hV] at hownW
        have HV := hid2 hV
        have HBW := hid2 hbW
        have HQ2 := hid2 q2
        have hpW := q2.lt
        have hown2 := hownW.alloc (.cells #[.string S, .string Sd, .int .i64 T] 88)
        have hrd0 := Rd.of_lit W #[.string S, .string Sd, .int .i64 T] 88 3 1 (by decide) rfl
        have hrd : Rd (W.alloc (.cells #[.string S, .string Sd, .int .i64 T] 88)) 3 (some ⟨W.heap.size, 0, none⟩) 1 [.string S, .string Sd, .int .i64 T] := by simpa using hrd0
        have hone : ∀ v ∈ [Value.string S, Value.string Sd, Value.int .i64 T], v.oneCell' = true := by simp [Value.oneCell']
        clear hW q1 hbW hownW hV q2 hrd0
        go_wp2_with (at_builtin; have _t := hown2; go_must ((with_reducible refine wpList_append_lit 88 (.agg #[.string ⟨#[]⟩, .string ⟨#[]⟩, .int .i64 0]) 3 40 Tryz.underlying28 info_rfile rfl (p2 + 1) A' k c' V hown2 1 _ (.slice (some ⟨W.heap.size, 0, none⟩) 1 1) (Src.slice Tryz.underlying28 hrd) hone ?_ ?_ ?_ ?_ ?_); (unfold maxLen; omega); omega; (simp; omega); exact ⟨rfl, rfl⟩; intro A3 c3 w3 hown3 hgr3 hbl3; have p3 := (HQ2.out.alloc (.cells #[.string S, .string Sd, .int .i64 T] 88)).grown hgr3 (fun e => by have := (HINV.out.own.block _ e.symm).1; omega); have y3 : w3.cell? ⟨p2, 0, none⟩ = some (.slice A' k c') := p3.cells 0; have yf : w3.frozen? ⟨p2, 0, none⟩ = false := p3.free 0; clear hown2 p3))
        go_roundg (gk - 1)
        case rel => exact ⟨k + 1, K, A3, c3, by omega, by go_num, by first | rfl | go_num, RCInv.next HINV.out HRI.out HX.out HBW.out (by rw [← HG.out]; omega) HCS.out hgr3 (by rw [← HV.out]; exact hown3) HNX.out.1 HNX.out.2⟩
        case measure => omega
    · have hkN : k = N := by omega
      have hlt' : ¬ (k : Int) < N := by omega
      have hbx := hinv.box
      have hrs := hinv.res
      rw [← HG.out] at hrs
      have d0 : wr.cell? ⟨p2, 0, none⟩ = some (.slice A' k c') := hbx.cells 0
      have d1 : wr.cell? ⟨p2, 1, none⟩ = some (.int .i64 (-1)) := hbx.cells 1
      have d2 : wr.cell? ⟨g + 1, 0, none⟩ = some (.slice none 0 0) := hrs.cells 0
      have d3 : wr.cell? ⟨g + 1, 1, none⟩ = some (.int .i64 0) := hrs.cells 1
      have f2 : wr.frozen? ⟨g + 1, 0, none⟩ = false := hrs.free 0
      have f3 : wr.frozen? ⟨g + 1, 1, none⟩ = false := hrs.free 1
      have HINV := hid2 hinv
      have HKN := hid2 hkN
      clear hinv hkN hlt hbx hrs
      go_wp2_with fail
      refine bodyPost_ret (v := .agg #[.slice A' k c', .int .i64 (-1)]) (by simp [results, Tryz.results17, go_sem, d2, d3]) rfl ⟨A', c', by rw [HKN.out], ?_, ?_⟩
      · have ho := ((HINV.out.own.setOther (p := ⟨g + 1, 0, none⟩) (fun e => by have := (HINV.out.own.block _ e).1; simp at this; omega) (.slice A' k c')).setOther (p := ⟨g + 1, 1, none⟩) (fun e => by have := (HINV.out.own.block _ e).1; simp at this; omega) (.int .i64 (-1))).mono (show w.heap.size ≤ p2 + 1 by rw [← HG.out]; omega)
        rw [HKN.out, HN.out, List.take_of_length_le (Nat.le_refl _)] at ho
        rw [HKN.out, HN.out]
        exact ho
      · have hgg : w.heap.size ≤ g + 1 := by rw [← HG.out]; omega
        exact (HINV.out.below.setCell (p := ⟨g + 1, 0, none⟩) hgg _).setCell (p := ⟨g + 1, 1, none⟩) hgg _
end Go.Proofs.YtehpapoboeejkaaGreat
/- A disk, a journal on it, and the document's: between two acts, and what an act does. -/
namespace Go.Proofs.YtehpapoboeejkaaGreat
open Go.RowKit Go.Maps
set_option maxRecDepth 100000
/-- between two acts: the disk p, the journal jv, the document's journal in block q5 -/
structure JR (w : World) (q5 p b n : Nat) (M : Tab FileE) (left : Int) (jv : Value) (A : Option Addr) (c : Nat) (nm : ByteArray) (is br : Bool) (W : World) : Prop where
  disk : DiskIs W p b n M left
  row : Rd W 3 A M.length (rfsV M)
  box : W.heap[q5]? = some (.cells #[.slice A M.length c, .int .i64 left, .string nm, .bool is, .bool br] 33 (0, 0))
  below : Below w.heap.size w W
  apart : ∀ g, blockOf A = some g → g < W.heap.size ∧ g ≠ p ∧ g ≠ b ∧ g ≠ q5
  ge : w.heap.size ≤ p ∧ w.heap.size ≤ b ∧ w.heap.size ≤ q5
  ne : q5 ≠ p ∧ q5 ≠ b
  jrn : (is = false ∧ jv = .pointer none) ∨ (is = true ∧ ∃ j, jv = .pointer (some ⟨j, 0, none⟩) ∧ JIs W j p nm br ∧ w.heap.size ≤ j ∧ j ≠ q5 ∧ blockOf A ≠ some j)
/-- what an act leaves alone -/
structure Moved (W1 W2 : World) (p b : Nat) (jv : Value) : Prop where
  os : W2.os = W1.os
  tape : W2.tape = W1.tape
  output : W2.output = W1.output
  size : W1.heap.size ≤ W2.heap.size
  block : ∀ k, k < W1.heap.size → k ≠ p → k ≠ b → (∀ j, jv = .pointer (some ⟨j, 0, none⟩) → k ≠ j) → W2.heap[k]? = W1.heap[k]?
/-- what an act leaves -/
structure After (w W1 W2 : World) (q5 p b n : Nat) (M : Tab FileE) (left : Int) (jv jv2 : Value) (nm : ByteArray) (is br : Bool) : Prop where
  disk : DiskIs W2 p b n M left
  moved : Moved W1 W2 p b jv
  jrn : (is = false ∧ jv2 = .pointer none) ∨ (is = true ∧ ∃ j, jv2 = .pointer (some ⟨j, 0, none⟩) ∧ JIs W2 j p nm br ∧ w.heap.size ≤ j ∧ (W1.heap.size ≤ j ∨ jv = jv2))
section
variable {w W W1 W2 W3 : World} {q5 p b n : Nat} {M : Tab FileE} {left : Int} {jv : Value} {A : Option Addr} {c : Nat} {nm : ByteArray} {is br : Bool}
theorem Moved.of_below (h : Below W1.heap.size W1 W2) : Moved W1 W2 p b jv := ⟨h.os, h.tape, h.output, h.size, fun k hk _ _ _ => h.block k hk⟩
theorem Moved.of_but (h : But p b W1 W2) : Moved W1 W2 p b jv := ⟨h.os, h.tape, h.output, h.size, fun k hk h1 h2 _ => h.block k hk h1 h2⟩
theorem Moved.of_jbut {j : Nat} (h : JBut j p b W1 W2) (hj : jv = .pointer (some ⟨j, 0, none⟩)) : Moved W1 W2 p b jv := ⟨h.os, h.tape, h.output, h.size, fun k hk h1 h2 h3 => h.block k hk (h3 j hj) h1 h2⟩
theorem JR.low (h : JR w q5 p b n M left jv A c nm is br W) : RLow W A := fun q hq => (h.apart q hq).1
theorem JR.box_lt (h : JR w q5 p b n M left jv A c nm is br W) : q5 < W.heap.size := heap_lt h.box
theorem JR.rises (h : JR w q5 p b n M left jv A c nm is br W) : Rises M := MapIs.rises h.disk.2 (string_keyed Tryz.underlying9)
theorem JR.later (h : JR w q5 p b n M left jv A c nm is br W) (hb : Below W.heap.size W W2) : JR w q5 p b n M left jv A c nm is br W2 := by
  have hl := h.disk.lt
  refine ⟨h.disk.below hb hl.1 hl.2, h.row.below_all hb, (hb.block _ h.box_lt).trans h.box, h.below.trans (hb.mono h.below.size), fun g hg => ⟨by have := (h.apart g hg).1; have := hb.size; omega, (h.apart g hg).2⟩, h.ge, h.ne, ?_⟩
  rcases h.jrn with e | ⟨e, j, e1, e2, e3⟩
  · exact .inl e
  · exact .inr ⟨e, j, e1, e2.keep (hb.block j e2.lt), e3⟩
/-- the row behind an act -/
theorem JR.row2 (h : JR w q5 p b n M left jv A c nm is br W1) (hm : Moved W1 W2 p b jv) : Rd W2 3 A M.length (rfsV M) ∧ RLow W2 A := by
  refine ⟨h.row.keep fun g o u hg hu => ?_, fun g hg => by have := (h.apart g hg).1; have := hm.size; omega⟩
  obtain ⟨h1, h2, h3, h4⟩ := h.apart g hg
  have : W2.heap[g]? = W1.heap[g]? := hm.block g h1 h2 h3 fun j hj e => by
    rcases h.jrn with e1 | ⟨_, j2, e1, _, _, _, e2⟩
    · rw [hj] at e1
      cases e1.2
    · rw [hj] at e1
      cases e1
      exact e2 (by rw [hg, e])
  rw [← hu]
  exact World.cell?_of_block this
theorem JR.jv_ne (h : JR w q5 p b n M left jv A c nm is br W1) : ∀ j, jv = .pointer (some ⟨j, 0, none⟩) → q5 ≠ j := fun j hj e => by
  rcases h.jrn with e1 | ⟨_, j2, e1, _, _, e2, _⟩
  · rw [hj] at e1
    cases e1.2
  · rw [hj] at e1
    cases e1
    exact e2 e.symm
/-- the document's journal still stands behind an act of the program -/
theorem JR.box2 (h : JR w q5 p b n M left jv A c nm is br W1) (hm : Moved W1 W2 p b jv) : W2.heap[q5]? = some (.cells #[.slice A M.length c, .int .i64 left, .string nm, .bool is, .bool br] 33 (0, 0)) :=
  (hm.block q5 h.box_lt h.ne.1 h.ne.2 h.jv_ne).trans h.box
theorem JR.step {p2 b2 n2 : Nat} {M2 : Tab FileE} {left2 : Int} {jv2 : Value} {A2 : Option Addr} {c2 : Nat} {nm2 : ByteArray} {is2 br2 : Bool} (h : JR w q5 p b n M left jv A c nm is br W1) (hm : Moved W1 W2 p b jv)
    (hd : DiskIs W2 p2 b2 n2 M2 left2) (hp : (p2 = p ∧ b2 = b) ∨ (W1.heap.size ≤ p2 ∧ W1.heap.size ≤ b2)) (hj : (is2 = false ∧ jv2 = .pointer none) ∨ (is2 = true ∧ ∃ j, jv2 = .pointer (some ⟨j, 0, none⟩) ∧ JIs W2 j p2 nm2 br2 ∧ w.heap.size ≤ j ∧ (W1.heap.size ≤ j ∨ jv = jv2)))
    (hb : Below W2.heap.size W2 W3) (hr : Rd W3 3 A2 M2.length (rfsV M2)) (hf : RFar W2 A A2 W3) :
    JR w q5 p2 b2 n2 M2 left2 jv2 A2 c2 nm2 is2 br2 (W3.setRow q5 #[.slice A2 M2.length c2, .int .i64 left2, .string nm2, .bool is2, .bool br2]) := by
  have hq5 := h.box_lt
  have hms := hm.size
  have hbs := hb.size
  have hws := h.below.size
  have hdl := hd.lt
  have hge := h.ge
  have hne := h.ne
  have hold := (hb.block q5 (by omega)).trans (h.box2 hm)
  have hq2 : q5 ≠ p2 ∧ q5 ≠ b2 := by
    rcases hp with ⟨e1, e2⟩ | ⟨e1, e2⟩
    · rw [e1, e2]; exact hne
    · exact ⟨by omega, by omega⟩
  have hap : ∀ g, blockOf A2 = some g → g < W3.heap.size ∧ g ≠ p2 ∧ g ≠ b2 ∧ g ≠ q5 := fun g hg => by
    rcases hf g hg with e | e
    · obtain ⟨h1, h2, h3, h4⟩ := h.apart g e
      refine ⟨by omega, ?_, ?_, h4⟩
      · rcases hp with ⟨e1, e2⟩ | ⟨e1, e2⟩
        · rw [e1]; exact h2
        · omega
      · rcases hp with ⟨e1, e2⟩ | ⟨e1, e2⟩
        · rw [e2]; exact h3
        · omega
    · exact ⟨e.2, by omega, by omega, by omega⟩
  have oth : ∀ k, k ≠ q5 → (W3.setRow q5 #[.slice A2 M2.length c2, .int .i64 left2, .string nm2, .bool is2, .bool br2]).heap[k]? = W3.heap[k]? := fun k hk => setRow_other W3 q5 k _ hk
  have hd3 : DiskIs W3 p2 b2 n2 M2 left2 := hd.below hb hdl.1 hdl.2
  refine ⟨hd3.same (oth p2 hq2.1.symm) (oth b2 hq2.2.symm), hr.keep fun g o u hg hu => ?_, setRow_heap W3 q5 _ _ _ _ hold, below_setRow (?_ : Below w.heap.size w W3) hge.2.2 _, fun g hg => ?_, ⟨?_, ?_, hge.2.2⟩, hq2, ?_⟩
  · rw [← hu]
    exact World.cell?_of_block (oth g (hap g hg).2.2.2)
  · refine h.below.trans ⟨hb.os.trans hm.os, hb.tape.trans hm.tape, hb.output.trans hm.output, by omega, fun k hk => ?_⟩
    rw [hb.block k (by omega), hm.block k (by omega) (by omega) (by omega) (fun j hjv e => by
      rcases h.jrn with e1 | ⟨_, j2, e1, _, e2, _⟩
      · rw [hjv] at e1
        cases e1.2
      · rw [hjv] at e1
        cases e1
        omega)]
  · have hz : (W3.setRow q5 #[.slice A2 M2.length c2, .int .i64 left2, .string nm2, .bool is2, .bool br2]).heap.size = W3.heap.size := by simp
    rw [hz]
    exact hap g hg
  · rcases hp with ⟨e1, e2⟩ | ⟨e1, e2⟩ <;> omega
  · rcases hp with ⟨e1, e2⟩ | ⟨e1, e2⟩ <;> omega
  · rcases hj with e | ⟨e, j, e1, e2, e3, e4⟩
    · exact .inl e
    · have hjq : j ≠ q5 := by
        rcases e4 with e4 | e4
        · omega
        · exact fun e5 => h.jv_ne j (by rw [e4, e1]) e5.symm
      have hjA : blockOf A2 ≠ some j := fun e5 => by
        have hjl := e2.lt
        rcases hf j e5 with q | q
        · rcases e4 with e4 | e4
          · have := (h.apart j q).1; omega
          · rcases h.jrn with d | ⟨_, j2, d1, _, _, _, d2⟩
            · rw [e4, e1] at d; cases d.2
            · rw [e4, e1] at d1
              cases d1
              exact d2 q
        · omega
      exact .inr ⟨e, j, e1, (e2.keep (hb.block j e2.lt)).keep (oth j hjq), e3, hjq, hjA⟩
theorem JR.disk_eq (h : JR w q5 p b n M left jv A c nm is br W1) : p < W1.heap.size ∧ b < W1.heap.size := h.disk.lt
end
/-- the document's journal is answered -/
def RefPost (w : World) (A : Option Addr) (nm : ByteArray) (is : Bool) (n : Nat) (r : Int × Tab FileE × Int × Bool) (e : Ending) (w' : World) : Prop :=
  ∃ A' c', e = .returned (.tuple #[.agg #[.slice A' n c', .int .i64 r.2.2.1, .string nm, .bool is, .bool r.2.2.2], .int .i64 r.1]) ∧ Rd w' 3 A' r.2.1.length (rfsV r.2.1) ∧ Below w.heap.size w w' ∧ RFar w A A' w'
def addS (M : Tab FileE) (left : Int) (nm : List UInt8) (is br : Bool) (f : List UInt8) : Int × Tab FileE × Int × Bool :=
  if is = true ∧ br = false then ((addR M left nm f).1, (addR M left nm f).2.1, (addR M left nm f).2.2, (addR M left nm f).1 != 0) else (19, M, left, br)
def swapS (M : Tab FileE) (left : Int) (nm : List UInt8) (is br : Bool) (rs : List (List UInt8)) : Int × Tab FileE × Int × Bool :=
  if is = true ∧ br = false then ((swapR M left nm rs).1, (swapR M left nm rs).2.1, (swapR M left nm rs).2.2, (swapR M left nm rs).1 != 0) else (19, M, left, br)
def openS (M : Tab FileE) (left : Int) (nm : List UInt8) : Int × List (List UInt8) × Tab FileE × Int := if nm = [] then (1, [], M, left) else openR M left nm
theorem or_false_ne (E : Int) : (false || decide (E ≠ 0)) = (E != 0) := by simp [bne, BEq.beq]
section
variable {w W1 : World} {q5 p b n : Nat} {M : Tab FileE} {left : Int} {jv : Value} {A : Option Addr} {c : Nat} {nm : ByteArray} {is br : Bool}
theorem JR.keeps (h : JR w q5 p b n M left jv A c nm is br W1) {W2 : World} (hb : Below W1.heap.size W1 W2) : After w W1 W2 q5 p b (n + 3) M left jv jv nm is br := by
  have hl := h.disk.lt
  refine ⟨(h.disk.below hb hl.1 hl.2).mono (by omega), .of_below hb, ?_⟩
  rcases h.jrn with e | ⟨e, j, e1, e2, e3, _⟩
  · exact .inl e
  · exact .inr ⟨e, j, e1, e2.keep (hb.block j e2.lt), e3, .inr rfl⟩
theorem padd (h : JR w q5 p b n M left jv A c nm is br W1) {Wd N : Nat} (hw : Wide Wd N M) (hW : Wd ≤ 15000) (hn : n ≤ 700000) (hle : LeftOk left) (hz : nm.size ≤ 1000) (s : ByteArray) (hs : s.size ≤ 100) :
    Calls Tryz.prog 10 #[jv, .string s] W1 fun e W2 => e = .returned (.int .i64 (addS M left nm.data.toList is br (frameL s.data.toList)).1) ∧ After w W1 W2 q5 p b (n + 3) (addS M left nm.data.toList is br (frameL s.data.toList)).2.1 (addS M left nm.data.toList is br (frameL s.data.toList)).2.2.1 jv jv nm is (addS M left nm.data.toList is br (frameL s.data.toList)).2.2.2 := by
  rcases h.jrn with ⟨e, e1⟩ | ⟨e, j, e1, e2, e3, e4, _⟩
  · have : addS M left nm.data.toList is br (frameL s.data.toList) = (19, M, left, br) := by unfold addS; rw [if_neg (by rw [e]; simp)]
    rw [this, e1]
    exact (add_nil W1 s).mono fun e W2 ⟨h1, h2⟩ => ⟨h1, by have := h.keeps h2; rwa [e1] at this⟩
  · cases hbr : br with
    | true =>
      have : addS M left nm.data.toList is true (frameL s.data.toList) = (19, M, left, true) := by unfold addS; rw [if_neg (by simp)]
      rw [this, e1]
      rw [hbr] at e2
      exact (add_broken W1 j p nm e2 s).mono fun e W2 ⟨h1, h2⟩ => ⟨h1, by have := h.keeps h2; rwa [e1, hbr] at this⟩
    | false =>
      have : addS M left nm.data.toList is false (frameL s.data.toList) = ((addR M left nm.data.toList (frameL s.data.toList)).1, (addR M left nm.data.toList (frameL s.data.toList)).2.1, (addR M left nm.data.toList (frameL s.data.toList)).2.2, (addR M left nm.data.toList (frameL s.data.toList)).1 != 0) := by unfold addS; rw [if_pos ⟨e, rfl⟩]
      rw [this, e1]
      rw [hbr] at e2
      refine (add_any W1 j p b n nm M left e2 h.disk (by omega) hle (by omega) s (by omega) (by have := (hw.szs.file nm.data.toList).1; omega)).mono fun e' W2 hp => ?_
      obtain ⟨h1, h2, h3, h4⟩ := hp
      rw [or_false_ne] at h3
      exact ⟨h1, h2.mono (by omega), .of_jbut h4 rfl, .inr ⟨e, j, rfl, h3, e3, .inr rfl⟩⟩
theorem pswap (h : JR w q5 p b n M left jv A c nm is br W1) {Wd N : Nat} (hw : Wide Wd N M) (hW : Wd ≤ 15000) (hn : n ≤ 700000) (hle : LeftOk left) (hz : nm.size ≤ 1000) (RA : Option Addr) (rc : Nat) (ps : List ByteArray) (hps : ps.length ≤ 12) (hr : Rd W1 1 RA ps.length (ps.map Value.string)) (hs : ∀ s ∈ ps, s.size ≤ 100) :
    Calls Tryz.prog 12 #[jv, .slice RA ps.length rc] W1 fun e W2 => e = .returned (.int .i64 (swapS M left nm.data.toList is br (ps.map fun s => s.data.toList)).1) ∧ After w W1 W2 q5 p b (n + 3) (swapS M left nm.data.toList is br (ps.map fun s => s.data.toList)).2.1 (swapS M left nm.data.toList is br (ps.map fun s => s.data.toList)).2.2.1 jv jv nm is (swapS M left nm.data.toList is br (ps.map fun s => s.data.toList)).2.2.2 := by
  rcases h.jrn with ⟨e, e1⟩ | ⟨e, j, e1, e2, e3, e4, _⟩
  · have : swapS M left nm.data.toList is br (ps.map fun s => s.data.toList) = (19, M, left, br) := by unfold swapS; rw [if_neg (by rw [e]; simp)]
    rw [this, e1]
    exact (swap_nil W1 RA _ rc).mono fun e W2 ⟨h1, h2⟩ => ⟨h1, by have := h.keeps h2; rwa [e1] at this⟩
  · cases hbr : br with
    | true =>
      have : swapS M left nm.data.toList is true (ps.map fun s => s.data.toList) = (19, M, left, true) := by unfold swapS; rw [if_neg (by simp)]
      rw [this, e1]
      rw [hbr] at e2
      exact (swap_broken W1 j p nm e2 RA _ rc).mono fun e W2 ⟨h1, h2⟩ => ⟨h1, by have := h.keeps h2; rwa [e1, hbr] at this⟩
    | false =>
      have : swapS M left nm.data.toList is false (ps.map fun s => s.data.toList) = ((swapR M left nm.data.toList (ps.map fun s => s.data.toList)).1, (swapR M left nm.data.toList (ps.map fun s => s.data.toList)).2.1, (swapR M left nm.data.toList (ps.map fun s => s.data.toList)).2.2, (swapR M left nm.data.toList (ps.map fun s => s.data.toList)).1 != 0) := by unfold swapS; rw [if_pos ⟨e, rfl⟩]
      rw [this, e1]
      rw [hbr] at e2
      refine (swap_any W1 j p b n nm M left e2 h.disk (by omega) hle (by omega) (fun x hx => by have := (hw.szs x hx).2.1; omega) RA _ rc ps hr (by omega) hs).mono fun e' W2 hp => ?_
      obtain ⟨h1, h2, h3, h4⟩ := hp
      rw [or_false_ne] at h3
      exact ⟨h1, h2, .of_jbut h4 rfl, .inr ⟨e, j, rfl, h3, e3, .inr rfl⟩⟩
theorem popen (h : JR w q5 p b n M left jv A c nm is br W1) {Wd N : Nat} (hw : Wide Wd N M) (hW : Wd ≤ 15000) (hn : n ≤ 700000) (hle : LeftOk left) (s : ByteArray) (hs : s.size ≤ 100) :
    Calls Tryz.prog 8 #[.pointer (some ⟨p, 0, none⟩), .string s] W1 fun e W2 => ∃ jv2 A3 c3, e = .returned (.tuple #[jv2, .slice A3 (openS M left s.data.toList).2.1.length c3, .int .i64 (openS M left s.data.toList).1]) ∧ Own W2 W1.heap.size 9 1 A3 (openS M left s.data.toList).2.1.length c3 (strV (openS M left s.data.toList).2.1) ∧
      After w W1 W2 q5 p b (n + 3) (openS M left s.data.toList).2.2.1 (openS M left s.data.toList).2.2.2 jv jv2 (if (openS M left s.data.toList).1 = 0 then s else ⟨#[]⟩) ((openS M left s.data.toList).1 == 0) false := by
  have hl := h.disk.lt
  have hws := h.below.size
  by_cases h0 : s.data.toList = []
  · have hs0 : s = ⟨#[]⟩ := by
      apply bytes_ext
      rw [h0]
    have : openS M left s.data.toList = (1, [], M, left) := by unfold openS; rw [if_pos h0]
    rw [this, hs0]
    exact (open_none W1 p).mono fun e W2 ⟨h1, h2⟩ => ⟨_, none, 0, h1, Own.nil _ _ _ _, ⟨(h.disk.below h2 hl.1 hl.2).mono (by omega), .of_below h2, .inl ⟨rfl, rfl⟩⟩⟩
  · have : openS M left s.data.toList = openR M left s.data.toList := by unfold openS; rw [if_neg h0]
    rw [this]
    refine (open_any W1 p b n M left h.disk (by omega) hle s (by rw [ByteArray.toList_eq]; simpa using h0) (by omega) (fun x hx => by have := (hw.szs x hx).2.1; omega)).mono fun e W2 hp => ?_
    obtain ⟨jv2, A3, c3, h1, h2, h3, h4, h5, h6⟩ := hp
    refine ⟨jv2, A3, c3, h1, h2, h3, .of_but h4, ?_⟩
    by_cases hE : (openR M left s.data.toList).1 = 0
    · obtain ⟨j, e1, e2, e3⟩ := h5 hE
      rw [if_pos hE, hE]
      exact .inr ⟨rfl, j, e1, e2, by omega, .inl e3⟩
    · exact .inl ⟨by rw [beq_eq_false_iff_ne]; exact hE, h6 hE⟩
end
section
variable {w : World} {M : Tab FileE} {left : Int} {A : Option Addr} {nm : ByteArray}
theorem radd (hr : Rd w 3 A M.length (rfsV M)) (c : Nat) (hA : RLow w A) {Wd N : Nat} (hw : Wide Wd N M) (hW : Wd ≤ 15000) (hN : N ≤ 700000) (hle : LeftOk left) (hz : nm.size + 4 ≤ Wd) (is br : Bool) (s : ByteArray) (hs : s.size ≤ 100) :
    Calls Tryz.prog 11 #[.agg #[.slice A M.length c, .int .i64 left, .string nm, .bool is, .bool br], .string s] w (RefPost w A nm is (addS M left nm.data.toList is br (frameL s.data.toList)).2.1.length (addS M left nm.data.toList is br (frameL s.data.toList))) := by
  by_cases hg : is = true ∧ br = false
  · obtain ⟨rfl, rfl⟩ := hg
    have : addS M left nm.data.toList true false (frameL s.data.toList) = ((addR M left nm.data.toList (frameL s.data.toList)).1, (addR M left nm.data.toList (frameL s.data.toList)).2.1, (addR M left nm.data.toList (frameL s.data.toList)).2.2, (addR M left nm.data.toList (frameL s.data.toList)).1 != 0) := by unfold addS; rw [if_pos ⟨rfl, rfl⟩]
    rw [this]
    exact radd_any w A c M left hr hle hA nm hw hW (by omega) hz s hs
  · have : addS M left nm.data.toList is br (frameL s.data.toList) = (19, M, left, br) := by unfold addS; rw [if_neg hg]
    rw [this]
    refine (radd_idle w A _ c left nm is br ?_ s).mono fun e w' ⟨h1, h2⟩ => ⟨A, c, h1, hr.below_all h2, h2, RFar.refl _ _ _⟩
    cases is <;> cases br <;> simp at hg ⊢
theorem rswap (hr : Rd w 3 A M.length (rfsV M)) (c : Nat) (hA : RLow w A) {Wd N : Nat} (hw : Wide Wd N M) (hW : Wd ≤ 15000) (hW2 : 1344 ≤ Wd) (hN : N ≤ 700000) (hle : LeftOk left) (hz : nm.size + 4 ≤ Wd) (is br : Bool) (RA : Option Addr) (rc : Nat) (ps : List ByteArray) (hps : ps.length ≤ 12) (hrr : Rd w 1 RA ps.length (ps.map Value.string)) (hs : ∀ s ∈ ps, s.size ≤ 100) :
    Calls Tryz.prog 13 #[.agg #[.slice A M.length c, .int .i64 left, .string nm, .bool is, .bool br], .slice RA ps.length rc] w (RefPost w A nm is (swapS M left nm.data.toList is br (ps.map fun s => s.data.toList)).2.1.length (swapS M left nm.data.toList is br (ps.map fun s => s.data.toList))) := by
  by_cases hg : is = true ∧ br = false
  · obtain ⟨rfl, rfl⟩ := hg
    have : swapS M left nm.data.toList true false (ps.map fun s => s.data.toList) = ((swapR M left nm.data.toList (ps.map fun s => s.data.toList)).1, (swapR M left nm.data.toList (ps.map fun s => s.data.toList)).2.1, (swapR M left nm.data.toList (ps.map fun s => s.data.toList)).2.2, (swapR M left nm.data.toList (ps.map fun s => s.data.toList)).1 != 0) := by unfold swapS; rw [if_pos ⟨rfl, rfl⟩]
    rw [this]
    have hst : strV (ps.map fun s => s.data.toList) = ps.map Value.string := by
      rw [strV, List.map_map]
      exact List.map_congr_left fun x _ => by show Value.string (strB x.data.toList) = _; rw [strB_of]
    have := rswap_any w A c M left hr hle hA nm hw hW (by omega) hz hW2 RA rc (ps.map fun s => s.data.toList) (by rw [List.length_map]; exact hps) (by rw [List.length_map, hst]; exact hrr) (fun r hr => by obtain ⟨x, hx, rfl⟩ := List.mem_map.1 hr; show x.data.toList.length ≤ 100; rw [toList_length]; exact hs x hx)
    rw [List.length_map] at this
    exact this
  · have : swapS M left nm.data.toList is br (ps.map fun s => s.data.toList) = (19, M, left, br) := by unfold swapS; rw [if_neg hg]
    rw [this]
    refine (rswap_idle w A _ c left nm is br ?_ RA _ rc).mono fun e w' ⟨h1, h2⟩ => ⟨A, c, h1, hr.below_all h2, h2, RFar.refl _ _ _⟩
    cases is <;> cases br <;> simp at hg ⊢
theorem ropen (hr : Rd w 3 A M.length (rfsV M)) (c : Nat) (hA : RLow w A) {Wd N : Nat} (hw : Wide Wd N M) (hW : Wd ≤ 15000) (hN : N ≤ 700000) (hle : LeftOk left) (s : ByteArray) (hz : s.size + 4 ≤ Wd) :
    Calls Tryz.prog 9 #[.agg #[.slice A M.length c, .int .i64 left], .string s] w (ROPost w A s (openS M left s.data.toList)) := by
  by_cases h0 : s.data.toList = []
  · have hs0 : s = ⟨#[]⟩ := by
      apply bytes_ext
      rw [h0]
    have : openS M left s.data.toList = (1, [], M, left) := by unfold openS; rw [if_pos h0]
    rw [this, hs0]
    exact ropen_none w A c M left hr hle hA
  · have : openS M left s.data.toList = openR M left s.data.toList := by unfold openS; rw [if_neg h0]
    rw [this]
    exact ropen_any w A c M left hr hle hA s (by rw [ByteArray.toList_eq]; simpa using h0) hw hW (by omega) hz
end
theorem Wide.adds {W N : Nat} {M : Tab FileE} (h : Wide W N M) (left : Int) {nm : List UInt8} (hn : nm.length ≤ W) (is br : Bool) (s : List UInt8) (hs : s.length ≤ 100) : Wide (W + 112) (N + 3) (addS M left nm is br (frameL s)).2.1 := by
  unfold addS
  split
  · exact (h.add left hn).mono (by rw [frameL_length]; omega) (Nat.le_refl _)
  · exact h.mono (by omega) (by omega)
theorem LeftOk.adds {M : Tab FileE} {left : Int} (h : LeftOk left) (nm : List UInt8) (is br : Bool) (f : List UInt8) : LeftOk (addS M left nm is br f).2.2.1 := by
  unfold addS
  split
  · exact h.add _ _
  · exact h
theorem Wide.swaps {W N : Nat} {M : Tab FileE} (h : Wide W N M) (left : Int) {nm : List UInt8} (hn : nm.length + 4 ≤ W) (is br : Bool) {rs : List (List UInt8)} (hr : (framesL rs).length ≤ W) : Wide W (N + 3) (swapS M left nm is br rs).2.1 := by
  unfold swapS
  split
  · exact h.swap left hn hr
  · exact h.mono (by omega) (by omega)
theorem LeftOk.swaps {M : Tab FileE} {left : Int} (h : LeftOk left) (nm : List UInt8) (is br : Bool) (rs : List (List UInt8)) : LeftOk (swapS M left nm is br rs).2.2.1 := by
  unfold swapS
  split
  · exact h.swap _ _
  · exact h
theorem Wide.opens {W N : Nat} {M : Tab FileE} (h : Wide W N M) (left : Int) {nm : List UInt8} (hn : nm.length + 4 ≤ W) : Wide W (N + 3) (openS M left nm).2.2.1 := by
  unfold openS
  split
  · exact h.mono (by omega) (by omega)
  · exact h.open_ left hn
theorem LeftOk.opens {M : Tab FileE} {left : Int} (h : LeftOk left) (nm : List UInt8) : LeftOk (openS M left nm).2.2.2 := by
  unfold openS
  split
  · exact h
  · exact h.open_ _
theorem scanL_few (b : List UInt8) : (scanL b).1.length ≤ b.length := by
  have h : ∀ k, (scanK b k).1.length ≤ k := by
    intro k
    induction k with
    | zero => exact Nat.le_refl _
    | succ k ih =>
      cases h : firstL (b.drop (scanK b k).2) with
      | none => rw [scanK_none h 1]; omega
      | some r => rw [scanK_some h]; simp; omega
  exact h _
theorem open_few {W N : Nat} {M : Tab FileE} (h : Wide W N M) (left : Int) (nm : List UInt8) : (openS M left nm).2.1.length ≤ W := by
  unfold openS
  split
  · exact Nat.zero_le _
  · have h1 := h.tid left (newL nm)
    unfold openR
    simp only
    split
    · exact Nat.zero_le _
    · split
      · exact Nat.zero_le _
      · rename_i f hf
        have hfl : f.1.length ≤ W := by
          have := (h1.szs.file nm).1
          unfold fileOf at this
          rw [hf] at this
          exact this
        have := scanL_few f.1
        split
        · split
          · exact Nat.zero_le _
          · show (scanL f.1).1.length ≤ W
            omega
        · show (scanL f.1).1.length ≤ W
          omega
end Go.Proofs.YtehpapoboeejkaaGreat
