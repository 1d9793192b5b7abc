/- Values: the document's Great answers something. -/
import Derived.Test.YthefhfnmkjdekaaDoorVa1
namespace Go.Proofs.YthefhfnmkjdekaaDoor
open Go.RowKit
set_option maxRecDepth 100000
def SomeInt (e : Ending) : Prop := ∃ c : Int, e = .returned (.int .i64 c)
def SomeBool (e : Ending) : Prop := ∃ b : Bool, e = .returned (.bool b)
theorem VAt.elem5 {w : World} {v : VT} {a : VA} (h : VAt w v a) {i : Nat} {x : VT} (hx : v.l[i]? = some x) :
    ∃ b o ax, a.L = some ⟨b, o, none⟩ ∧ VAt w x ax ∧ w.cell? ⟨b, o + i * 5, none⟩ = some (.int .i64 x.k) ∧ w.cell? ⟨b, o + i * 5 + 1, none⟩ = some (.int .i64 x.n) ∧ w.cell? ⟨b, o + i * 5 + 2, none⟩ = some (.string (strB x.s)) ∧ w.cell? ⟨b, o + i * 5 + 3, none⟩ = some (.slice ax.L x.l.length ax.cL) ∧ w.cell? ⟨b, o + i * 5 + 4, none⟩ = some (.slice ax.K x.ks.length ax.cK) := by
  obtain ⟨b, o, ax, h1, h2, h3⟩ := h.elem hx
  exact ⟨b, o, ax, h1, h2, h3 0 _ rfl, h3 1 _ rfl, h3 2 _ rfl, h3 3 _ rfl, h3 4 _ rfl⟩
theorem VAt.key {w : World} {v : VT} {a : VA} (h : VAt w v a) {i : Nat} {x : Tx} (hx : v.ks[i]? = some x) : ∃ b o, a.K = some ⟨b, o, none⟩ ∧ w.cell? ⟨b, o + i, none⟩ = some (.string (strB x)) := by
  obtain ⟨b, o, h1, h2⟩ := h.keys.2 (by have := (List.getElem?_eq_some_iff.1 hx).1; omega)
  exact ⟨b, o, h1, h2 i _ (strV_get hx)⟩
theorem total_pos (v : VT) : 0 < v.total := by
  cases v
  rw [VT.total]
  omega
theorem wpList_load_lit_g {P : Program} {w : World} {ops : Array Oper} {rest : List Oper} {a : Act} {Q : Exit → Act → World → Prop} {dst : Option Tmp} {ty tt : TypeId} {x : Operand} {pos : String} {after : Array Edge} {gi : Nat} {gb : Bool}
    (g off : Nat) (cur : Array Value) (t : TypeId) (fr : Nat × Nat) (hg : w.heap[g]? = some (.cells cur t fr)) (vs : List Value)
    (hvs : ∀ j, j < vs.length → cur[off + j]? = vs[j]?) (d : TypeDesc) (hu : P.underlying ty = some d) (hi : (P.info? ty).map (·.size) = some vs.length)
    (hx : (a.eval x = .pointer (some ⟨g, off, none⟩) ∧ (match d with | .struct _ | .array _ _ => true | _ => false) = true) ∧ ∃ og dg, ops[gi]? = some og ∧ og.dst = some dg ∧ a.tmps[dg]? = some (.bool gb))
    (h : wpList P ops Q rest (a.put dst (.agg vs.toArray)) w) : wpList P ops Q (⟨dst, .load ty x, tt, pos, after, some (gi, gb)⟩ :: rest) a w := by
  obtain ⟨h1, og, dg, h2, h3, h4⟩ := hx
  unfold wpList
  rw [if_pos (by simp [Region.wanted, yielded, h2, h3, h4])]
  exact .inl (wp_load_at ty x rfl g off h1.1 cur t fr hg vs hvs d hu h1.2 hi h)
set_option maxHeartbeats 2000000 in
theorem count_some : ∀ (N : Nat) (v : VT), v.total ≤ N → ∀ (w : World) (a : VA) (most : Int), VAt w v a → Calls Tryd.prog 31 #[.agg (vV v a), .int .i64 most] w fun e w' => SomeInt e ∧ Below w.heap.size w w' := by
  intro N
  induction N with
  | zero =>
    intro v hv
    have := total_pos v
    omega
  | succ N ih =>
    intro v hv w a most h
    have ihx := fun (i : Nat) (x : VT) (hx : v.l[i]? = some x) => ih x (by have := total_lt hx; omega)
    have IHX := hid2 ihx
    obtain ⟨hbx, hb0⟩ := box_value w v a h
    have hV : vV v a = #[.int .i64 v.k, .int .i64 v.n, .string (strB v.s), .slice a.L v.l.length a.cL, .slice a.K v.ks.length a.cK] := rfl
    rw [hV] at hbx hb0 ⊢
    obtain ⟨AL, AK, cL, cK⟩ := a
    obtain ⟨n, hn⟩ : ∃ n, n = v.l.length := ⟨_, rfl⟩
    obtain ⟨nk, hnk⟩ : ∃ n, n = v.ks.length := ⟨_, rfl⟩
    obtain ⟨S, hS⟩ : ∃ S, S = strB v.s := ⟨_, rfl⟩
    have hl := h.lenL
    have hlk := h.lenK
    rw [← hn] at hl
    rw [← hnk] at hlk
    unfold maxLen at hl hlk
    simp only at hbx hb0 ⊢
    rw [← hn, ← hnk, ← hS] at hbx hb0 ⊢
    have hcs := hbx.cells
    rw [← hn, ← hnk, ← hS] at hcs
    obtain ⟨q0, q1, q2, q3, q4⟩ := hcs
    simp only at q3 q4
    obtain ⟨W0, hW⟩ : ∃ W0, W0 = w.alloc (.cells #[.int .i64 v.k, .int .i64 v.n, .string S, .slice AL n cL, .slice AK nk cK] 40) := ⟨_, rfl⟩
    rw [← hW] at hbx hb0
    have HW := hid2 hW
    have HBX := hid2 hbx
    have HB0 := hid2 hb0
    have HN := hid2 hn
    have HNK := hid2 hnk
    have HS := hid2 hS
    have HAT := hid2 h
    obtain ⟨g, hg⟩ : ∃ g, g = w.heap.size := ⟨_, rfl⟩
    have HG := hid2 hg
    have BXC := hid2 (fun (W : World) (hb : Below W0.heap.size W0 W) => show W.cell? ⟨g, 0, none⟩ = some (.int .i64 v.k) ∧ W.cell? ⟨g, 1, none⟩ = some (.int .i64 v.n) ∧ W.cell? ⟨g, 2, none⟩ = some (.string S) ∧ W.cell? ⟨g, 3, none⟩ = some (.slice AL n cL) ∧ W.cell? ⟨g, 4, none⟩ = some (.slice AK nk cK) from by
      have := (HBX.out.below hb).cells
      rw [← HG.out, ← HN.out, ← HNK.out, ← HS.out] at this
      exact this)
    have EL := hid2 (fun (W : World) (hb : Below W0.heap.size W0 W) (i : Nat) (x : VT) (hx : v.l[i]? = some x) => (HBX.out.below hb).at_.elem5 hx)
    have KEY := hid2 (fun (W : World) (hb : Below W0.heap.size W0 W) (i : Nat) (x : Tx) (hx : v.ks[i]? = some x) => (HBX.out.below hb).at_.key hx)
    clear h hbx hb0 hV hn hnk hS hW hg ih ihx
    go_enter Tryd.func31, Tryd.ntmps31
    go_wp2_with fail
    rw [← HW.out, ← HG.out]
    go_loopw [5, 10] (fun nv iv wr => ∃ (m : Int) (i : Nat), nv = .int .i64 m ∧ iv = .int .i64 i ∧ i ≤ n ∧ Below W0.heap.size W0 wr) (fun _ iv _ => n - (intOf iv).toNat)
    case atStart => exact ⟨1, 0, rfl, rfl, by omega, Below.refl _ _⟩
    case round =>
      obtain ⟨m, i, rfl, rfl, hi, hbe⟩ := hrel
      have HBE := hid2 hbe
      obtain ⟨q0, q1, q2, q3, q4⟩ := BXC.out wr hbe
      by_cases hlt : i < n
      · have hil : (i : Int) < n := by omega
        have hi0 : (0 : Int) ≤ i := by omega
        by_cases hm : most < m
        · clear hbe
          go_wp2_with fail
          go_ret
          exact ⟨⟨_, rfl⟩, HB0.out.trans (HBE.out.mono HB0.out.size)⟩
        · obtain ⟨x, hx⟩ : ∃ x, v.l[i]? = some x := ⟨_, List.getElem?_eq_getElem (by rw [← HN.out]; exact hlt)⟩
          obtain ⟨b, o, ax, rfl, hax, e0, e1, e2, e3, e4⟩ := EL.out wr hbe i x hx
          have cx := IHX.out i x hx wr ax most hax
          rw [show vV x ax = #[.int .i64 x.k, .int .i64 x.n, .string (strB x.s), .slice ax.L x.l.length ax.cL, .slice ax.K x.ks.length ax.cK] from rfl] at cx
          have CX := hid2 cx
          clear hbe hx hax cx
          go_wp2_with (go_at_call 31; refine CX.out.mono ?_; rintro e w2 ⟨⟨cc, rfl⟩, hb2⟩)
          go_roundw
          case rel => exact ⟨_, i + 1, rfl, by go_num, by omega, HBE.out.trans (hb2.mono HBE.out.size)⟩
          case measure => simp [intOf]; omega
      · have hil : ¬ (i : Int) < n := by omega
        clear hbe
        go_wp2_with fail
        go_ret
        exact ⟨⟨_, rfl⟩, HB0.out.trans (HBE.out.mono HB0.out.size)⟩
set_option maxHeartbeats 2000000 in
theorem long_some : ∀ (N : Nat) (v : VT), v.total ≤ N → ∀ (w : World) (a : VA) , VAt w v a → Calls Tryd.prog 32 #[.agg (vV v a)] w fun e w' => SomeBool e ∧ Below w.heap.size w w' := by
  intro N
  induction N with
  | zero =>
    intro v hv
    have := total_pos v
    omega
  | succ N ih =>
    intro v hv w a  h
    have ihx := fun (i : Nat) (x : VT) (hx : v.l[i]? = some x) => ih x (by have := total_lt hx; omega)
    have IHX := hid2 ihx
    obtain ⟨hbx, hb0⟩ := box_value w v a h
    have hV : vV v a = #[.int .i64 v.k, .int .i64 v.n, .string (strB v.s), .slice a.L v.l.length a.cL, .slice a.K v.ks.length a.cK] := rfl
    rw [hV] at hbx hb0 ⊢
    obtain ⟨AL, AK, cL, cK⟩ := a
    obtain ⟨n, hn⟩ : ∃ n, n = v.l.length := ⟨_, rfl⟩
    obtain ⟨nk, hnk⟩ : ∃ n, n = v.ks.length := ⟨_, rfl⟩
    obtain ⟨S, hS⟩ : ∃ S, S = strB v.s := ⟨_, rfl⟩
    have hl := h.lenL
    have hlk := h.lenK
    rw [← hn] at hl
    rw [← hnk] at hlk
    unfold maxLen at hl hlk
    simp only at hbx hb0 ⊢
    rw [← hn, ← hnk, ← hS] at hbx hb0 ⊢
    have hcs := hbx.cells
    rw [← hn, ← hnk, ← hS] at hcs
    obtain ⟨q0, q1, q2, q3, q4⟩ := hcs
    simp only at q3 q4
    obtain ⟨W0, hW⟩ : ∃ W0, W0 = w.alloc (.cells #[.int .i64 v.k, .int .i64 v.n, .string S, .slice AL n cL, .slice AK nk cK] 40) := ⟨_, rfl⟩
    rw [← hW] at hbx hb0
    have HW := hid2 hW
    have HBX := hid2 hbx
    have HB0 := hid2 hb0
    have HN := hid2 hn
    have HNK := hid2 hnk
    have HS := hid2 hS
    have HAT := hid2 h
    obtain ⟨g, hg⟩ : ∃ g, g = w.heap.size := ⟨_, rfl⟩
    have HG := hid2 hg
    have BXC := hid2 (fun (W : World) (hb : Below W0.heap.size W0 W) => show W.cell? ⟨g, 0, none⟩ = some (.int .i64 v.k) ∧ W.cell? ⟨g, 1, none⟩ = some (.int .i64 v.n) ∧ W.cell? ⟨g, 2, none⟩ = some (.string S) ∧ W.cell? ⟨g, 3, none⟩ = some (.slice AL n cL) ∧ W.cell? ⟨g, 4, none⟩ = some (.slice AK nk cK) from by
      have := (HBX.out.below hb).cells
      rw [← HG.out, ← HN.out, ← HNK.out, ← HS.out] at this
      exact this)
    have EL := hid2 (fun (W : World) (hb : Below W0.heap.size W0 W) (i : Nat) (x : VT) (hx : v.l[i]? = some x) => (HBX.out.below hb).at_.elem5 hx)
    have KEY := hid2 (fun (W : World) (hb : Below W0.heap.size W0 W) (i : Nat) (x : Tx) (hx : v.ks[i]? = some x) => (HBX.out.below hb).at_.key hx)
    clear h hbx hb0 hV hn hnk hS hW hg ih ihx
    go_enter Tryd.func32, Tryd.ntmps32
    by_cases h1 : (100 : Int) < S.size
    · go_wp2_with fail
      go_ret
      exact ⟨⟨_, rfl⟩, by rw [← HW.out]; exact HB0.out⟩
    · by_cases h2 : (60 : Int) < nk
      · go_wp2_with fail
        go_ret
        exact ⟨⟨_, rfl⟩, by rw [← HW.out]; exact HB0.out⟩
      · go_wp2_with fail
        rw [← HW.out, ← HG.out]
        clear q0 q1 q2 q3 q4
        go_loopw [18] (fun iv wr => ∃ (i : Nat), iv = .int .i64 i ∧ i ≤ nk ∧ wr = W0) (fun iv _ => nk - (intOf iv).toNat)
        case atStart => exact ⟨0, rfl, by omega, rfl⟩
        case round =>
          obtain ⟨i, rfl, hi, rfl⟩ := hrel
          obtain ⟨q0, q1, q2, q3, q4⟩ := BXC.out wr (Below.refl _ _)
          by_cases hlt : i < nk
          · have hil : (i : Int) < nk := by omega
            have hi0 : (0 : Int) ≤ i := by omega
            obtain ⟨x, hx⟩ : ∃ x, v.ks[i]? = some x := ⟨_, List.getElem?_eq_getElem (by rw [← HNK.out]; exact hlt)⟩
            obtain ⟨b, o, rfl, hc⟩ := KEY.out wr (Below.refl _ _) i x hx
            obtain ⟨X, hX⟩ : ∃ X, X = strB x := ⟨_, rfl⟩
            rw [← hX] at hc
            clear hX hx
            by_cases h3 : (100 : Int) < X.size
            · go_wp2_with fail
              go_ret
              exact ⟨⟨_, rfl⟩, HB0.out⟩
            · go_wp2_with fail
              go_roundw
              case rel => exact ⟨i + 1, by go_num, by omega, by first | rfl | trivial⟩
              case measure => simp [intOf]; omega
          · have hil : ¬ (i : Int) < nk := by omega
            obtain ⟨W1, rfl⟩ : ∃ W1, W1 = wr := ⟨_, rfl⟩
            go_wp2_with fail
            clear q0 q1 q2 q3 q4
            go_loopw [32] (fun iv w3 => ∃ (j : Nat), iv = .int .i64 j ∧ j ≤ n ∧ Below W1.heap.size W1 w3) (fun iv _ => n - (intOf iv).toNat)
            case atStart => exact ⟨0, rfl, by omega, Below.refl _ _⟩
            case round =>
              obtain ⟨j, rfl, hj, hbe⟩ := hrel
              have HBE := hid2 hbe
              obtain ⟨q0, q1, q2, q3, q4⟩ := BXC.out wr hbe
              by_cases hjl : j < n
              · have hjl2 : (j : Int) < n := by omega
                have hj0 : (0 : Int) ≤ j := by omega
                obtain ⟨x, hx⟩ : ∃ x, v.l[j]? = some x := ⟨_, List.getElem?_eq_getElem (by rw [← HN.out]; exact hjl)⟩
                obtain ⟨b, o, ax, rfl, hax, e0, e1, e2, e3, e4⟩ := EL.out wr hbe j x hx
                have cx := IHX.out j x hx wr ax hax
                rw [show vV x ax = #[.int .i64 x.k, .int .i64 x.n, .string (strB x.s), .slice ax.L x.l.length ax.cL, .slice ax.K x.ks.length ax.cK] from rfl] at cx
                have CX := hid2 cx
                clear hbe hx hax cx
                go_wp2_with (go_at_call 32; refine CX.out.mono ?_; rintro e w2 ⟨⟨cc, rfl⟩, hb2⟩; cases cc)
                · go_roundw
                  case rel => exact ⟨j + 1, by go_num, by omega, HBE.out.trans (hb2.mono HBE.out.size)⟩
                  case measure => simp [intOf]; omega
                · go_ret
                  have b1 := HB0.out.trans (HBE.out.mono HB0.out.size)
                  exact ⟨⟨_, rfl⟩, b1.trans (hb2.mono b1.size)⟩
              · have hjl2 : ¬ (j : Int) < n := by omega
                clear hbe
                go_wp2_with fail
                go_ret
                exact ⟨⟨_, rfl⟩, HB0.out.trans (HBE.out.mono HB0.out.size)⟩
/-- the box of a value, for a walk that reads it cell by cell -/
theorem VBox.five {W : World} {g : Nat} {v : VT} {a : VA} (h : VBox W g v a) : W.cell? ⟨g, 0, none⟩ = some (.int .i64 v.k) ∧ W.cell? ⟨g, 1, none⟩ = some (.int .i64 v.n) ∧ W.cell? ⟨g, 2, none⟩ = some (.string (strB v.s)) ∧ W.cell? ⟨g, 3, none⟩ = some (.slice a.L v.l.length a.cL) ∧ W.cell? ⟨g, 4, none⟩ = some (.slice a.K v.ks.length a.cK) := h.cells
theorem vV_eq (v : VT) (a : VA) : vV v a = #[.int .i64 v.k, .int .i64 v.n, .string (strB v.s), .slice a.L v.l.length a.cL, .slice a.K v.ks.length a.cK] := rfl
set_option maxHeartbeats 1000000 in
theorem vgreat_some (w : World) (v : VT) (a : VA) (h : VAt w v a) : Calls Tryd.prog 17 #[.agg (vV v a)] w fun e w' => SomeBool e ∧ Below w.heap.size w w' := by
  obtain ⟨hbx, hb0⟩ := box_value w v a h
  have c1 := fun (W : World) (hb : Below (w.alloc (.cells (vV v a) 40)).heap.size (w.alloc (.cells (vV v a) 40)) W) => count_some v.total v (Nat.le_refl _) W a 60 (hbx.below hb).at_
  have c2 := fun (W : World) (hb : Below (w.alloc (.cells (vV v a) 40)).heap.size (w.alloc (.cells (vV v a) 40)) W) => long_some v.total v (Nat.le_refl _) W a (hbx.below hb).at_
  have hr2 := fun (W : World) (hb : Below (w.alloc (.cells (vV v a) 40)).heap.size (w.alloc (.cells (vV v a) 40)) W) => (hbx.below hb).five
  have hr1 := hbx.five
  rw [vV_eq] at c1 c2 hr2 hb0 hr1 ⊢
  obtain ⟨W0, hW⟩ : ∃ W0, W0 = w.alloc (.cells #[.int .i64 v.k, .int .i64 v.n, .string (strB v.s), .slice a.L v.l.length a.cL, .slice a.K v.ks.length a.cK] 40) := ⟨_, rfl⟩
  rw [← hW] at c1 c2 hr2 hb0
  obtain ⟨q0, q1, q2, q3, q4⟩ := hr1
  have C1 := hid2 c1
  have C2 := hid2 c2
  have HR2 := hid2 hr2
  have HW := hid2 hW
  have HB0 := hid2 hb0
  clear hbx hb0 hW c1 c2 hr2 h
  go_enter Tryd.func17, Tryd.ntmps17
  go_wp2_with (first
    | (go_at_call 31; rw [← HW.out]; refine (C1.out _ (Below.refl _ _)).mono ?_; rintro e w1 ⟨⟨c, rfl⟩, hb1⟩; obtain ⟨r0, r1, r2, r3, r4⟩ := HR2.out w1 hb1; clear q0 q1 q2 q3 q4; by_cases hc : 60 < c)
    | (go_at_call 32; refine (C2.out w1 hb1).mono ?_; rintro e w2 ⟨⟨c2, rfl⟩, hb2⟩))
  all_goals go_ret
  · exact ⟨⟨_, rfl⟩, HB0.out.trans (hb1.mono HB0.out.size)⟩
  · have b1 := HB0.out.trans (hb1.mono HB0.out.size)
    exact ⟨⟨_, rfl⟩, b1.trans (hb2.mono b1.size)⟩
end Go.Proofs.YthefhfnmkjdekaaDoor
