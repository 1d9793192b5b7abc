/- Rows of rows; the document's parts of an action. -/
import Derived.Test.YtjmfmlkjippiaaaDoorKref5
import Derived.Test.YtjmfmlkjippiaaaDoorReg2
namespace Go.Proofs.YtjmfmlkjippiaaaDoor
open Go.RowKit Go.Shelf
set_option maxRecDepth 100000
/-- what an operation of a region yielded: a row of texts, or a value that is told -/
def KV (rows : List (Option (List Tx))) (vals : List Value) (j : Nat) (v : Value) (w : World) : Prop :=
  match rows.getD j none with
  | some x => ∃ A c, v = .slice A x.length c ∧ Rd w 1 A x.length (strV x)
  | none => vals[j]? = some v
theorem KV.keep {rows : List (Option (List Tx))} {vals : List Value} {j : Nat} {v : Value} {w w' : World} (h : KV rows vals j v w) (hb : Below w.heap.size w w') : KV rows vals j v w' := by
  unfold KV at *
  split
  · rename_i x hj
    simp only [hj] at h
    obtain ⟨A, c, h1, h2⟩ := h
    exact ⟨A, c, h1, h2.below_all hb⟩
  · rename_i hj
    simp only [hj] at h
    exact h
/-- block g holds the rows L -/
def RowsAt (w : World) (g : Nat) (L : List (List Tx)) (As : Nat → Option Addr) (cs : Nat → Nat) : Prop :=
  ∀ i x, L[i]? = some x → w.cell? ⟨g, i, none⟩ = some (.slice (As i) x.length (cs i)) ∧ Rd w 1 (As i) x.length (strV x)
theorem RowsAt.below {w w' : World} {g : Nat} {L : List (List Tx)} {As : Nat → Option Addr} {cs : Nat → Nat} (h : RowsAt w g L As cs) (hb : Below w.heap.size w w') : RowsAt w' g L As cs := fun i x hx => by
  obtain ⟨h1, h2⟩ := h i x hx
  exact ⟨(hb.cell (p := ⟨g, i, none⟩) (World.block_lt_of_cell? w _ h1)).trans h1, h2.below_all hb⟩
theorem ActAt.lens {w : World} {L : LayA} {a : ActK} (h : ActAt w L a) : a.env.length ≤ maxLen := h.lE
/-- an action that is no great one -/
structure Mild (a : ActK) : Prop where
  env : a.env.length ≤ 22
  tool : a.tool.length ≤ 500
  ins : a.ins.length ≤ 22
  asks : a.asks.length ≤ 22
  outs : a.outs.length ≤ 22
  lI : ∀ x ∈ a.ins, x.length ≤ 100
  lA : ∀ x ∈ a.asks, x.length ≤ 100
  lO : ∀ x ∈ a.outs, x.length ≤ 100
  lE : ∀ p ∈ a.env, p.1.length ≤ 100 ∧ p.2.length ≤ 100
theorem wideL_not {l : List Tx} (h : wideL l = false) : l.length ≤ 20 ∧ ∀ x ∈ l, x.length ≤ 100 := by
  rw [wideL, Bool.or_eq_false_iff] at h
  refine ⟨by have := h.2; simp at this; omega, fun x hx => ?_⟩
  have := List.any_eq_false.1 h.1 x hx
  simp at this
  omega
theorem mild_of {a : ActK} (h : greatL a = false) : Mild a := by
  rw [greatL] at h
  simp only [Bool.or_eq_false_iff] at h
  obtain ⟨⟨⟨⟨⟨h1, h2⟩, h3⟩, h4⟩, h5⟩, h6⟩ := h
  obtain ⟨i1, i2⟩ := wideL_not h3
  obtain ⟨a1, a2⟩ := wideL_not h4
  obtain ⟨o1, o2⟩ := wideL_not h5
  refine ⟨by simp at h1; omega, by simp at h2; omega, by omega, by omega, by omega, i2, a2, o2, fun p hp => ?_⟩
  have := List.any_eq_false.1 h6 p hp
  simp at this
  omega
set_option maxHeartbeats 4000000 in
theorem parts_any (w : World) (L : LayA) (a : ActK) (h : ActAt w L a) (hmi : Mild a) :
    Calls Tryd.prog 20 #[.agg (actV L a)] w fun e w' => ∃ g As cs, e = .returned (.slice (some ⟨g, 0, none⟩) 5 5) ∧ RowsAt w' g ([a.tool] :: partsK a) As cs ∧ Below w.heap.size w w' := by
  obtain ⟨pk, nm, E, I, A, O, cE, cI, cA, cO⟩ := L
  have hE := h.env
  have hI := h.ins
  have hA := h.asks
  have hO := h.outs
  have lE := hmi.env
  have lI := hmi.ins
  have lA := hmi.asks
  have lO := hmi.outs
  simp only at hE hI hA hO
  unfold actV
  simp only
  obtain ⟨W, hW⟩ : ∃ W, W = w.alloc (.cells #[.string pk, .string nm, .string (strB a.tool), .slice E a.env.length cE, .slice I a.ins.length cI, .slice A a.asks.length cA, .slice O a.outs.length cO] 27) := ⟨_, rfl⟩
  obtain ⟨gB, hgB⟩ : ∃ g, g = w.heap.size := ⟨_, rfl⟩
  have hb0 : Below w.heap.size w W := by rw [hW]; exact (Below.refl _ w).alloc (Nat.le_refl _) _
  have hbx : W.heap[gB]? = some (.cells #[.string pk, .string nm, .string (strB a.tool), .slice E a.env.length cE, .slice I a.ins.length cI, .slice A a.asks.length cA, .slice O a.outs.length cO] 27 (0, 0)) := by rw [hW, hgB]; exact World.alloc_heap_new w _
  have CE := hid2 (fun (w2 : World) (hb : Below W.heap.size W w2) => refenv_any w2 E cE a.env (by omega) ((hE.below_all hb0).below_all hb))
  have CI := hid2 (fun (w2 : World) (hb : Below W.heap.size W w2) => refset_any w2 I cI a.ins (by omega) ((hI.below_all hb0).below_all hb))
  have CA := hid2 (fun (w2 : World) (hb : Below W.heap.size W w2) => refset_any w2 A cA a.asks (by omega) ((hA.below_all hb0).below_all hb))
  have CO := hid2 (fun (w2 : World) (hb : Below W.heap.size W w2) => refset_any w2 O cO a.outs (by omega) ((hO.below_all hb0).below_all hb))
  have HTV := hid2 (show strV [a.tool] = [.string (strB a.tool)] from rfl)
  obtain ⟨T, hT⟩ : ∃ T, T = strB a.tool := ⟨_, rfl⟩
  obtain ⟨nE, hnE⟩ : ∃ n, n = a.env.length := ⟨_, rfl⟩
  obtain ⟨nI, hnI⟩ : ∃ n, n = a.ins.length := ⟨_, rfl⟩
  obtain ⟨nA, hnA⟩ : ∃ n, n = a.asks.length := ⟨_, rfl⟩
  obtain ⟨nO, hnO⟩ : ∃ n, n = a.outs.length := ⟨_, rfl⟩
  rw [← hT] at hW hbx HTV ⊢
  rw [← hnE] at hW hbx CE lE ⊢
  rw [← hnI] at hW hbx CI lI ⊢
  rw [← hnA] at hW hbx CA lA ⊢
  rw [← hnO] at hW hbx CO lO ⊢
  have hgl := heap_lt hbx
  have HCELL := hid2 (show ∀ w2, Below W.heap.size W w2 → w2.cell? ⟨gB, 2, none⟩ = some (.string T) ∧ w2.cell? ⟨gB, 3, none⟩ = some (.slice E nE cE) ∧ w2.cell? ⟨gB, 4, none⟩ = some (.slice I nI cI) ∧ w2.cell? ⟨gB, 5, none⟩ = some (.slice A nA cA) ∧ w2.cell? ⟨gB, 6, none⟩ = some (.slice O nO cO) from fun w2 hb => by
    have hh := (hb.block gB hgl).trans hbx
    exact ⟨cell_of_row w2 _ 2 _ _ _ hh, cell_of_row w2 _ 3 _ _ _ hh, cell_of_row w2 _ 4 _ _ _ hh, cell_of_row w2 _ 5 _ _ _ hh, cell_of_row w2 _ 6 _ _ _ hh⟩)
  have HW := hid2 hW
  have HB0 := hid2 hb0
  have HGB := hid2 hgB
  have HT := hid2 hT
  have HTC := hid2 (show W.cell? ⟨gB, 2, none⟩ = some (.string T) from cell_of_row W _ 2 _ _ _ hbx)
  clear h hmi hE hI hA hO hT hnE hnI hnA hnO hbx hb0 hgl hW hgB
  go_enter Tryd.func20, Tryd.ntmps20
  go_wp2_with fail
  rw [← HW.out, ← HGB.out]
  refine wp_region_rel 15 (by kernel_rfl) (by kernel_rfl) (by kernel_rfl) _ rfl (by kernel_rfl) (KV [none, none, some ([a.tool]), none, none, some (envL a.env), none, none, some (setL a.ins), none, none, some (setL a.asks), none, none, some (setL a.outs)] [.pointer (some ⟨gB, 2, none⟩), .string T, undef, .pointer (some ⟨gB, 3, none⟩), .slice E nE cE, undef, .pointer (some ⟨gB, 4, none⟩), .slice I nI cI, undef, .pointer (some ⟨gB, 5, none⟩), .slice A nA cA, undef, .pointer (some ⟨gB, 6, none⟩), .slice O nO cO, undef]) (fun w2 => Below W.heap.size W w2) (fun a b => Below a.heap.size a b) ((Below.refl _ W).drew) (fun _ _ _ _ hb hv => hv.keep hb) ?_ ?_
  · refine of_allOps ⟨?_, ?_, ?_, ?_, ?_, ?_, ?_, ?_, ?_, ?_, ?_, ?_, ?_, ?_, ?_, trivial⟩
    · refine ⟨rfl, fun T2 w2 hM hN hO hE K hK => ?_⟩
      have o1 : T2[1]? = some (.pointer (some ⟨gB, 0, none⟩)) := hO 1 rfl
      clear hE hO hN
      go_simp
      exact hK _ _ rfl hM (Below.refl _ _)
    · refine ⟨rfl, fun T2 w2 hM hN hO hE K hK => ?_⟩
      obtain ⟨v0, h0, e0⟩ := hE ⟨0, .data⟩ (by simp) rfl _ _ rfl rfl
      rw [show v0 = .pointer (some ⟨gB, 2, none⟩) from (Option.some.inj e0).symm] at h0
      have hcc := (HCELL.out w2 hM).1
      clear hE hO hN
      go_simp
      exact hK _ _ rfl hM (Below.refl _ _)
    · refine ⟨rfl, fun T2 w2 hM hN hO hE K hK => ?_⟩
      obtain ⟨v1, h1, e1⟩ := hE ⟨1, .data⟩ (by simp) rfl _ _ rfl rfl
      rw [show v1 = .string T from (Option.some.inj e1).symm] at h1
      clear hE hO hN
      go_simp
      exact hK _ _ ⟨_, _, rfl, by rw [show strV [a.tool] = [.string T] from HTV.out]; exact Rd.one w2 _ _⟩ (hM.alloc hM.size _) ((Below.refl _ _).alloc (Nat.le_refl _) _)
    · refine ⟨rfl, fun T2 w2 hM hN hO hE K hK => ?_⟩
      have o1 : T2[1]? = some (.pointer (some ⟨gB, 0, none⟩)) := hO 1 rfl
      clear hE hO hN
      go_simp
      exact hK _ _ rfl hM (Below.refl _ _)
    · refine ⟨rfl, fun T2 w2 hM hN hO hE K hK => ?_⟩
      obtain ⟨v3, h3, e3⟩ := hE ⟨3, .data⟩ (by simp) rfl _ _ rfl rfl
      rw [show v3 = .pointer (some ⟨gB, 3, none⟩) from (Option.some.inj e3).symm] at h3
      have hcc := (HCELL.out w2 hM).2.1
      clear hE hO hN
      go_simp
      exact hK _ _ rfl hM (Below.refl _ _)
    · refine ⟨rfl, fun T2 w2 hM hN hO hE K hK => ?_⟩
      obtain ⟨v4, h4, e4⟩ := hE ⟨4, .data⟩ (by simp) rfl _ _ rfl rfl
      rw [show v4 = .slice E nE cE from (Option.some.inj e4).symm] at h4
      clear hE hO hN
      go_simp
      refine (CE.out w2 hM).mono ?_
      rintro e w3 ⟨A3, c3, rfl, ho3, hb3⟩
      exact hK _ _ ⟨A3, c3, rfl, ho3.rd⟩ (hM.trans (hb3.mono hM.size)) hb3
    · refine ⟨rfl, fun T2 w2 hM hN hO hE K hK => ?_⟩
      have o1 : T2[1]? = some (.pointer (some ⟨gB, 0, none⟩)) := hO 1 rfl
      clear hE hO hN
      go_simp
      exact hK _ _ rfl hM (Below.refl _ _)
    · refine ⟨rfl, fun T2 w2 hM hN hO hE K hK => ?_⟩
      obtain ⟨v6, h6, e6⟩ := hE ⟨6, .data⟩ (by simp) rfl _ _ rfl rfl
      rw [show v6 = .pointer (some ⟨gB, 4, none⟩) from (Option.some.inj e6).symm] at h6
      have hcc := (HCELL.out w2 hM).2.2.1
      clear hE hO hN
      go_simp
      exact hK _ _ rfl hM (Below.refl _ _)
    · refine ⟨rfl, fun T2 w2 hM hN hO hE K hK => ?_⟩
      obtain ⟨v7, h7, e7⟩ := hE ⟨7, .data⟩ (by simp) rfl _ _ rfl rfl
      rw [show v7 = .slice I nI cI from (Option.some.inj e7).symm] at h7
      clear hE hO hN
      go_simp
      refine (CI.out w2 hM).mono ?_
      rintro e w3 ⟨A3, c3, rfl, ho3, hb3⟩
      exact hK _ _ ⟨A3, c3, rfl, ho3.rd⟩ (hM.trans (hb3.mono hM.size)) hb3
    · refine ⟨rfl, fun T2 w2 hM hN hO hE K hK => ?_⟩
      have o1 : T2[1]? = some (.pointer (some ⟨gB, 0, none⟩)) := hO 1 rfl
      clear hE hO hN
      go_simp
      exact hK _ _ rfl hM (Below.refl _ _)
    · refine ⟨rfl, fun T2 w2 hM hN hO hE K hK => ?_⟩
      obtain ⟨v9, h9, e9⟩ := hE ⟨9, .data⟩ (by simp) rfl _ _ rfl rfl
      rw [show v9 = .pointer (some ⟨gB, 5, none⟩) from (Option.some.inj e9).symm] at h9
      have hcc := (HCELL.out w2 hM).2.2.2.1
      clear hE hO hN
      go_simp
      exact hK _ _ rfl hM (Below.refl _ _)
    · refine ⟨rfl, fun T2 w2 hM hN hO hE K hK => ?_⟩
      obtain ⟨v10, h10, e10⟩ := hE ⟨10, .data⟩ (by simp) rfl _ _ rfl rfl
      rw [show v10 = .slice A nA cA from (Option.some.inj e10).symm] at h10
      clear hE hO hN
      go_simp
      refine (CA.out w2 hM).mono ?_
      rintro e w3 ⟨A3, c3, rfl, ho3, hb3⟩
      exact hK _ _ ⟨A3, c3, rfl, ho3.rd⟩ (hM.trans (hb3.mono hM.size)) hb3
    · refine ⟨rfl, fun T2 w2 hM hN hO hE K hK => ?_⟩
      have o1 : T2[1]? = some (.pointer (some ⟨gB, 0, none⟩)) := hO 1 rfl
      clear hE hO hN
      go_simp
      exact hK _ _ rfl hM (Below.refl _ _)
    · refine ⟨rfl, fun T2 w2 hM hN hO hE K hK => ?_⟩
      obtain ⟨v12, h12, e12⟩ := hE ⟨12, .data⟩ (by simp) rfl _ _ rfl rfl
      rw [show v12 = .pointer (some ⟨gB, 6, none⟩) from (Option.some.inj e12).symm] at h12
      have hcc := (HCELL.out w2 hM).2.2.2.2
      clear hE hO hN
      go_simp
      exact hK _ _ rfl hM (Below.refl _ _)
    · refine ⟨rfl, fun T2 w2 hM hN hO hE K hK => ?_⟩
      obtain ⟨v13, h13, e13⟩ := hE ⟨13, .data⟩ (by simp) rfl _ _ rfl rfl
      rw [show v13 = .slice O nO cO from (Option.some.inj e13).symm] at h13
      clear hE hO hN
      go_simp
      refine (CO.out w2 hM).mono ?_
      rintro e w3 ⟨A3, c3, rfl, ho3, hb3⟩
      exact hK _ _ ⟨A3, c3, rfl, ho3.rd⟩ (hM.trans (hb3.mono hM.size)) hb3
  · intro u w2 hM hF
    obtain ⟨A0, c0, e0, r0⟩ : ∃ A c, u 2 = .slice A ([a.tool]).length c ∧ Rd w2 1 A ([a.tool]).length (strV ([a.tool])) := hF 2 (by omega)
    obtain ⟨A1, c1, e1, r1⟩ : ∃ A c, u 5 = .slice A (envL a.env).length c ∧ Rd w2 1 A (envL a.env).length (strV (envL a.env)) := hF 5 (by omega)
    obtain ⟨A2, c2, e2, r2⟩ : ∃ A c, u 8 = .slice A (setL a.ins).length c ∧ Rd w2 1 A (setL a.ins).length (strV (setL a.ins)) := hF 8 (by omega)
    obtain ⟨A3, c3, e3, r3⟩ : ∃ A c, u 11 = .slice A (setL a.asks).length c ∧ Rd w2 1 A (setL a.asks).length (strV (setL a.asks)) := hF 11 (by omega)
    obtain ⟨A4, c4, e4, r4⟩ : ∃ A c, u 14 = .slice A (setL a.outs).length c ∧ Rd w2 1 A (setL a.outs).length (strV (setL a.outs)) := hF 14 (by omega)
    clear hF
    simp only [fillAll, Nat.reduceAdd, e0, e1, e2, e3, e4, List.take_succ_cons, List.take_zero, List.drop_succ_cons, List.drop_zero, List.setIfInBounds_toArray, List.set_cons_succ, List.set_cons_zero]
    go_wp2_with fail
    go_ret
    refine ⟨w2.heap.size, fun i => [A0, A1, A2, A3, A4].getD i none, fun i => [c0, c1, c2, c3, c4].getD i 0, rfl, ?_, HB0.out.trans ((hM.alloc hM.size _).mono HB0.out.size)⟩
    have hn := World.alloc_heap_new w2 (.cells #[.slice A0 [a.tool].length c0, .slice A1 (envL a.env).length c1, .slice A2 (setL a.ins).length c2, .slice A3 (setL a.asks).length c3, .slice A4 (setL a.outs).length c4] 25)
    have hal : ∀ (A : Option Addr) (x : List Tx), Rd w2 1 A x.length (strV x) → Rd (w2.alloc (.cells #[.slice A0 [a.tool].length c0, .slice A1 (envL a.env).length c1, .slice A2 (setL a.ins).length c2, .slice A3 (setL a.asks).length c3, .slice A4 (setL a.outs).length c4] 25)) 1 A x.length (strV x) := fun A x h => h.alloc _
    intro i x hx
    match i, hx with
    | 0, hx => cases hx; exact ⟨cell_of_row _ _ 0 _ _ _ hn, hal _ _ r0⟩
    | 1, hx => cases hx; exact ⟨cell_of_row _ _ 1 _ _ _ hn, hal _ _ r1⟩
    | 2, hx => cases hx; exact ⟨cell_of_row _ _ 2 _ _ _ hn, hal _ _ r2⟩
    | 3, hx => cases hx; exact ⟨cell_of_row _ _ 3 _ _ _ hn, hal _ _ r3⟩
    | 4, hx => cases hx; exact ⟨cell_of_row _ _ 4 _ _ _ hn, hal _ _ r4⟩
    | i + 5, hx => simp [partsK] at hx
end Go.Proofs.YtjmfmlkjippiaaaDoor
