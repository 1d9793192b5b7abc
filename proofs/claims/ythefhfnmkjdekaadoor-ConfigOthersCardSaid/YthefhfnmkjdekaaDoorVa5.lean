/- Values: the walk of value.may: its closure and the search for a child that may not be. -/
import Derived.Test.YthefhfnmkjdekaaDoorVa4
namespace Go.Proofs.YthefhfnmkjdekaaDoor
open Go.RowKit
set_option maxRecDepth 100000
/-- the cell of what is left -/
def Left (W : World) (gl : Nat) (L : Int) : Prop := W.heap[gl]? = some (.cells #[.int .i64 L] 3 (0, 0))
theorem Left.cell {W : World} {gl : Nat} {L : Int} (h : Left W gl L) : W.cell? ⟨gl, 0, none⟩ = some (.int .i64 L) := cell_of_row W gl 0 _ _ _ h
theorem Left.free {W : World} {gl : Nat} {L : Int} (h : Left W gl L) : W.frozen? ⟨gl, 0, none⟩ = false := frozen_of_row W gl 0 _ _ h
theorem Left.lt {W : World} {gl : Nat} {L : Int} (h : Left W gl L) : gl < W.heap.size := heap_lt h
/-- all but what is left is kept -/
theorem grown_below {wB W W' : World} {gl : Nat} (hb : Below wB.heap.size wB W) (hg : W.grownBy W' (some gl)) (h : wB.heap.size ≤ gl) : Below wB.heap.size wB W' := hb.grown hg hb.size fun k e => by cases e; exact h
def Fits (v : VT) (deep : Nat) (L : Int) : Prop := (v.total : Int) ≤ L ∧ deep + v.depth ≤ 61 ∧ v.okAll = true
def FitsL (l : List VT) (deep : Nat) (L : Int) : Prop := (VT.totals l : Int) ≤ L ∧ deep + VT.depths l ≤ 61 ∧ VT.oks l = true
def MayPost (v : VT) (deep : Nat) (L : Int) (gl : Nat) (W : World) (e : Ending) (W' : World) : Prop :=
  ∃ (r : Bool) (L' : Int), e = .returned (.bool r) ∧ Left W' gl L' ∧ W.grownBy W' (some gl) ∧ ((r = true ∧ L' = L - v.total ∧ Fits v deep L) ∨ (r = false ∧ ¬ Fits v deep L))
def MayC (wB : World) (gl : Nat) (x : VT) (ax : VA) : Prop := ∀ (W : World) (deep : Nat) (L : Int), Below wB.heap.size wB W → Left W gl L → 0 ≤ L → L ≤ 20000 → 1 ≤ deep → deep ≤ 61 →
  Calls Tryd.prog 53 #[.agg (vV x ax), .int .i64 deep, .pointer (some ⟨gl, 0, none⟩)] W (MayPost x deep L gl W)
def ClosPost (v : VT) (deep : Nat) (L : Int) (gl : Nat) (W : World) (e : Ending) (W' : World) : Prop :=
  ∃ (r : Bool) (L' : Int), e = .returned (.bool (!r)) ∧ Left W' gl L' ∧ W.grownBy W' (some gl) ∧ ((r = true ∧ L' = L - v.total ∧ Fits v deep L) ∨ (r = false ∧ ¬ Fits v deep L))
/-- what the closure has captured -/
structure Caps (W : World) (g4 g5 gl : Nat) (deep : Nat) : Prop where
  d : W.heap[g4]? = some (.cells #[.int .i64 deep] 3 (0, 0))
  p : W.heap[g5]? = some (.cells #[.pointer (some ⟨gl, 0, none⟩)] 84 (0, 0))
  n4 : g4 ≠ gl
  n5 : g5 ≠ gl
theorem Caps.grown {W W' : World} {g4 g5 gl deep : Nat} (h : Caps W g4 g5 gl deep) (hg : W.grownBy W' (some gl)) : Caps W' g4 g5 gl deep :=
  ⟨(hg.block g4 (heap_lt h.d) (fun e => h.n4 (by cases e; rfl))).trans h.d, (hg.block g5 (heap_lt h.p) (fun e => h.n5 (by cases e; rfl))).trans h.p, h.n4, h.n5⟩
theorem grownBy_trans {a b c : World} {r : Option Nat} (h : a.grownBy b r) (k : b.grownBy c r) : a.grownBy c r :=
  ⟨k.os.trans h.os, k.tape.trans h.tape, k.output.trans h.output, Nat.le_trans h.size k.size, fun i hi hr => (k.block i (Nat.lt_of_lt_of_le hi h.size) hr).trans (h.block i hi hr)⟩
theorem grownBy_self (w : World) (r : Option Nat) : w.grownBy w r := ⟨rfl, rfl, rfl, Nat.le_refl _, fun _ _ _ => rfl⟩
set_option maxHeartbeats 1000000 in
theorem clos_any {wB : World} {gl : Nat} {x : VT} {ax : VA} (hc : MayC wB gl x ax) (W : World) (deep : Nat) (L : Int) (hb : Below wB.heap.size wB W) (hl : Left W gl L) (h0 : 0 ≤ L) (h1 : L ≤ 20000) (hd : deep ≤ 60) (hgl : wB.heap.size ≤ gl) (g4 g5 : Nat) (hcap : Caps W g4 g5 gl deep) :
    Calls Tryd.prog 80 #[.agg (vV x ax), .pointer (some ⟨g4, 0, none⟩), .pointer (some ⟨g5, 0, none⟩)] W (ClosPost x (deep + 1) L gl W) := by
  obtain ⟨W1, hW1⟩ : ∃ W1, W1 = W.alloc (.cells (vV x ax) 40) := ⟨_, rfl⟩
  have hg1 : W.grownBy W1 (some gl) := by rw [hW1]; exact World.grownBy_alloc W _ _
  have hb1 : Below wB.heap.size wB W1 := grown_below hb hg1 hgl
  have hl1 : Left W1 gl L := by rw [hW1]; exact (Below.heap_alloc W _ gl hl.lt).trans hl
  have hcp1 : Caps W1 g4 g5 gl deep := hcap.grown hg1
  have hx1 : W1.heap[W.heap.size]? = some (.cells (vV x ax) 40 (0, 0)) := by rw [hW1]; exact heap_alloc_new W _
  have cm := hc W1 (deep + 1) L hb1 hl1 h0 h1 (by omega) (by omega)
  have q4 : W1.cell? ⟨g4, 0, none⟩ = some (.int .i64 deep) := cell_of_row W1 g4 0 _ _ _ hcp1.d
  have q5 : W1.cell? ⟨g5, 0, none⟩ = some (.pointer (some ⟨gl, 0, none⟩)) := cell_of_row W1 g5 0 _ _ _ hcp1.p
  have r0 : W1.cell? ⟨W.heap.size, 0, none⟩ = some (.int .i64 x.k) := cell_of_row W1 _ 0 _ _ _ hx1
  have r1 : W1.cell? ⟨W.heap.size, 1, none⟩ = some (.int .i64 x.n) := cell_of_row W1 _ 1 _ _ _ hx1
  have r2 : W1.cell? ⟨W.heap.size, 2, none⟩ = some (.string (strB x.s)) := cell_of_row W1 _ 2 _ _ _ hx1
  have r3 : W1.cell? ⟨W.heap.size, 3, none⟩ = some (.slice ax.L x.l.length ax.cL) := cell_of_row W1 _ 3 _ _ _ hx1
  have r4 : W1.cell? ⟨W.heap.size, 4, none⟩ = some (.slice ax.K x.ks.length ax.cK) := cell_of_row W1 _ 4 _ _ _ hx1
  have hwd : IntKind.i64.wrap ((deep : Int) + 1) = ((deep + 1 : Nat) : Int) := by unfold IntKind.wrap; simp [IntKind.bits, IntKind.signed]; omega
  rw [vV_eq] at hW1 cm ⊢
  rw [hW1] at q4 q5 r0 r1 r2 r3 r4
  have HW1 := hid2 hW1
  have HG1 := hid2 hg1
  have CM := hid2 cm
  clear hW1 hg1 hb1 hl1 hcp1 hx1 cm hc hb hl hcap
  go_enter Tryd.func80, Tryd.ntmps80
  go_wp2_with (go_at_call 53; rw [← HW1.out]; refine CM.out.mono ?_; rintro e W2 ⟨r, L', rfl, hl2, hg2, hr2⟩)
  go_ret
  exact ⟨r, L', by first | rfl | simp, hl2, grownBy_trans HG1.out hg2, hr2⟩
def IdxPost (l : List VT) (deep : Nat) (L : Int) (gl : Nat) (W : World) (e : Ending) (W' : World) : Prop :=
  ∃ (i L' : Int), e = .returned (.int .i64 i) ∧ Left W' gl L' ∧ W.grownBy W' (some gl) ∧ ((i = -1 ∧ L' = L - VT.totals l ∧ FitsL l deep L) ∨ (0 ≤ i ∧ ¬ FitsL l deep L))
theorem fits_take {l : List VT} {i : Nat} {x : VT} (hx : l[i]? = some x) {deep : Nat} {L : Int} (h : FitsL (l.take i) deep L) (hd : Fits x deep (L - VT.totals (l.take i))) : FitsL (l.take (i + 1)) deep L := by
  obtain ⟨h1, h2, h3⟩ := h
  obtain ⟨d1, d2, d3⟩ := hd
  refine ⟨?_, ?_, ?_⟩
  · rw [totals_take hx]; omega
  · rw [depths_take hx]; omega
  · rw [oks_take hx, h3, d3]; rfl
theorem depths_take_le (l : List VT) (i : Nat) : VT.depths (l.take i) ≤ VT.depths l := by
  induction l generalizing i with
  | nil => simp
  | cons x l ih =>
    cases i with
    | zero => simp [VT.depths]
    | succ i =>
      have := ih i
      simp only [List.take_succ_cons, VT.depths]
      omega
theorem fits_not {l : List VT} {i : Nat} {x : VT} (hx : l[i]? = some x) {deep : Nat} {L : Int} (hd : ¬ Fits x deep (L - VT.totals (l.take i))) : ¬ FitsL l deep L := by
  rintro ⟨h1, h2, h3⟩
  refine hd ⟨?_, ?_, ?_⟩
  · have := totals_take hx
    have := totals_take_le l (i + 1)
    omega
  · have := depths_take hx
    have := depths_take_le l (i + 1)
    omega
  · cases ho : x.okAll with
    | true => rfl
    | false => rw [oks_bad hx ho] at h3; cases h3
set_option maxHeartbeats 2000000 in
theorem idx_any {wB : World} {gl : Nat} {v : VT} {AL : Option Addr} {cL : Nat} (hlen : v.l.length ≤ maxLen)
    (EL : ∀ (W : World), Below wB.heap.size wB W → ∀ (i : Nat) (x : VT), v.l[i]? = some x → ∃ b o ax, AL = some ⟨b, o, none⟩ ∧ MayC wB gl x ax ∧ W.cell? ⟨b, o + i * 5, none⟩ = some (.int .i64 x.k) ∧ W.cell? ⟨b, o + i * 5 + 1, none⟩ = some (.int .i64 x.n) ∧ W.cell? ⟨b, o + i * 5 + 2, none⟩ = some (.string (strB x.s)) ∧ W.cell? ⟨b, o + i * 5 + 3, none⟩ = some (.slice ax.L x.l.length ax.cL) ∧ W.cell? ⟨b, o + i * 5 + 4, none⟩ = some (.slice ax.K x.ks.length ax.cK))
    (W : World) (deep : Nat) (L : Int) (hb : Below wB.heap.size wB W) (hl : Left W gl L) (h0 : 0 ≤ L) (h1 : L ≤ 20000) (hd : deep ≤ 60) (hgl : wB.heap.size ≤ gl) (g4 g5 : Nat) (hcap : Caps W g4 g5 gl deep) :
    Calls Tryd.prog 97 #[.slice AL v.l.length cL, .func (.func 80) #[] #[.pointer (some ⟨g4, 0, none⟩), .pointer (some ⟨g5, 0, none⟩)]] W (IdxPost v.l (deep + 1) L gl W) := by
  obtain ⟨n, hn⟩ : ∃ n, n = v.l.length := ⟨_, rfl⟩
  rw [← hn] at hlen ⊢
  unfold maxLen at hlen
  have HEL := hid2 EL
  have HB := hid2 hb
  have HL := hid2 hl
  have HCAP := hid2 hcap
  have HN := hid2 hn
  clear EL hb hl hcap hn
  go_enter Tryd.func97, Tryd.ntmps97
  go_wp2_with fail
  go_loopw [8] (fun iv wr => ∃ (i : Nat) (M : Int), iv = .int .i64 i ∧ i ≤ n ∧ Left wr gl M ∧ W.grownBy wr (some gl) ∧ M = L - VT.totals (v.l.take i) ∧ FitsL (v.l.take i) (deep + 1) L) (fun iv _ => n - (intOf iv).toNat)
  case atStart => exact ⟨0, L, rfl, by omega, HL.out, grownBy_self _ _, by rw [List.take_zero, VT.totals]; omega, by rw [List.take_zero]; exact ⟨by rw [VT.totals]; omega, by rw [VT.depths]; omega, by rw [VT.oks]⟩⟩
  case round =>
    obtain ⟨i, M, rfl, hi, hlM, hgr, hM, hft⟩ := hrel
    by_cases hlt : i < n
    · have hil : (i : Int) < n := by omega
      have hi0 : (0 : Int) ≤ i := by omega
      obtain ⟨x, hx⟩ : ∃ x, v.l[i]? = some x := ⟨_, List.getElem?_eq_getElem (by rw [← HN.out]; exact hlt)⟩
      have hbr := grown_below HB.out hgr hgl
      obtain ⟨b, o, ax, rfl, hmc, e0, e1, e2, e3, e4⟩ := HEL.out wr hbr i x hx
      have hM0 : 0 ≤ M := by have := hft.1; omega
      have cx := clos_any hmc wr deep M hbr hlM hM0 (by omega) hd hgl g4 g5 (HCAP.out.grown hgr)
      rw [show vV x ax = #[.int .i64 x.k, .int .i64 x.n, .string (strB x.s), .slice ax.L x.l.length ax.cL, .slice ax.K x.ks.length ax.cK] from rfl] at cx
      have CX := hid2 cx
      have hnf := fun (h : ¬ Fits x (deep + 1) M) => fits_not (L := L) hx (by rw [← hM]; exact h)
      have hyf := fun (h : Fits x (deep + 1) M) => fits_take hx hft (by rw [← hM]; exact h)
      have htk := totals_take hx
      have HNF := hid2 hnf
      have HYF := hid2 hyf
      have HTK := hid2 htk
      have HM := hid2 hM
      have HGR := hid2 hgr
      clear hbr hlM hM0 hmc hx cx hnf hyf htk hM hgr hft
      go_wp2_with (go_at_call 80; refine CX.out.mono ?_; rintro e W2 ⟨r, L', rfl, hl2, hg2, hr2⟩; have HR2 := hid2 hr2; clear hr2; cases r)
      · have h2 : ¬ Fits x (deep + 1) M := by
          rcases HR2.out with ⟨h, _⟩ | ⟨_, h⟩
          · cases h
          · exact h
        go_ret
        exact ⟨i, L', rfl, hl2, grownBy_trans HGR.out hg2, .inr ⟨by omega, HNF.out h2⟩⟩
      · have h2 : L' = M - x.total ∧ Fits x (deep + 1) M := by
          rcases HR2.out with ⟨_, h, h'⟩ | ⟨h, _⟩
          · exact ⟨h, h'⟩
          · cases h
        have H2 := hid2 h2
        clear h2
        go_roundw
        case rel => exact ⟨i + 1, L', by go_num, by omega, hl2, grownBy_trans HGR.out hg2, by rw [H2.out.1, HM.out, HTK.out]; omega, HYF.out H2.out.2⟩
        case measure => simp [intOf]; omega
    · have hil : ¬ (i : Int) < n := by omega
      rw [List.take_of_length_le (by have := HN.out; omega)] at hft hM
      have HM := hid2 hM
      have HFT := hid2 hft
      have HLM := hid2 hlM
      have HGR := hid2 hgr
      clear hM hft hlM hgr
      go_wp2_with fail
      go_ret
      exact ⟨-1, M, rfl, HLM.out, HGR.out, .inl ⟨rfl, HM.out, HFT.out⟩⟩
theorem has_may {wB : World} {gl : Nat} {v : VT} {AL : Option Addr} {cL : Nat} {W : World} {deep : Nat} {L : Int} {g4 g5 : Nat}
    (hc : Calls Tryd.prog 97 #[.slice AL v.l.length cL, .func (.func 80) #[] #[.pointer (some ⟨g4, 0, none⟩), .pointer (some ⟨g5, 0, none⟩)]] W (IdxPost v.l (deep + 1) L gl W)) :
    Calls Tryd.prog 79 #[.slice AL v.l.length cL, .func (.func 80) #[] #[.pointer (some ⟨g4, 0, none⟩), .pointer (some ⟨g5, 0, none⟩)]] W fun e W' => ∃ (r : Bool) (L' : Int), e = .returned (.bool (!r)) ∧ Left W' gl L' ∧ W.grownBy W' (some gl) ∧ ((r = true ∧ L' = L - VT.totals v.l ∧ FitsL v.l (deep + 1) L) ∨ (r = false ∧ ¬ FitsL v.l (deep + 1) L)) := by
  go_enter Tryd.func79, Tryd.ntmps79
  go_wp2_with (go_at_call 97; refine hc.mono ?_; rintro e W2 ⟨i, L', rfl, hl2, hg2, hr2⟩; have HR2 := hid2 hr2; clear hr2)
  go_ret
  rcases HR2.out with ⟨h1, h2, h3⟩ | ⟨h1, h2⟩
  · exact ⟨true, L', by rw [h1]; rfl, hl2, hg2, .inl ⟨rfl, h2, h3⟩⟩
  · exact ⟨false, L', by show Ending.returned (.bool (decide (0 ≤ i))) = _; rw [decide_eq_true h1]; rfl, hl2, hg2, .inr ⟨rfl, h2⟩⟩
end Go.Proofs.YthefhfnmkjdekaaDoor
