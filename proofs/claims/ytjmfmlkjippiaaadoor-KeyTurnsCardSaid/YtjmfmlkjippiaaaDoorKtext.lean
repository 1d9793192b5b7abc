/- The program's text of an action, and its key. -/
import Derived.Test.YtjmfmlkjippiaaaDoorKenv
import Derived.Test.YtjmfmlkjippiaaaDoorKref7
namespace Go.Proofs.YtjmfmlkjippiaaaDoor
open Go.RowKit Go.Shelf
set_option maxRecDepth 100000
set_option maxHeartbeats 4000000 in
theorem text_any (w : World) (L : LayA) (a : ActK) (h : ActAt w L a) (hmi : Mild a) (hTab : Tabs w) :
    Calls Tryd.prog 9 #[.agg (actV L a)] w fun e w' => e = .returned (.string (strB (textK a))) ∧ Below w.heap.size w w' := by
  have hpl := partLens hmi
  have hpa : ∀ k, ∀ x, (partsK a)[k]? = some x → (rowL x).length ≤ 4884 ∧ x.length ≤ 44 := fun k x hx => part_len hpl (k := k) (by rw [List.getElem?_cons_succ]; exact hx)
  have hst : ∀ k, ∀ x, (partsK a)[k]? = some x → rowsK a (k + 2) = rowsK a (k + 1) ++ [rowL x] := fun k x hx => rowsK_step (by rw [List.getElem?_cons_succ]; exact hx)
  have hrl := fun (k : Nat) (h1 : 1 ≤ k) (h5 : k ≤ 5) => rowsK_len (a := a) h1 h5
  have htl : (textK a).length ≤ 14000 := hpl.text
  have hal := rowsK_all a
  have hPn : (partsK a).length = 4 := rfl
  obtain ⟨pk, nm, E, I, A, O, cE, cI, cA, cO⟩ := L
  have hE := h.env
  have hI := h.ins
  have hA := h.asks
  have hO := h.outs
  have lE := hmi.env
  have lI := hmi.ins
  have lA := hmi.asks
  have lO := hmi.outs
  simp only at hE hI hA hO
  unfold actV
  simp only
  obtain ⟨W, hW⟩ : ∃ W, W = w.alloc (.cells #[.string pk, .string nm, .string (strB a.tool), .slice E a.env.length cE, .slice I a.ins.length cI, .slice A a.asks.length cA, .slice O a.outs.length cO] 27) := ⟨_, rfl⟩
  obtain ⟨gB, hgB⟩ : ∃ g, g = w.heap.size := ⟨_, rfl⟩
  have hb0 : Below w.heap.size w W := by rw [hW]; exact (Below.refl _ w).alloc (Nat.le_refl _) _
  have hbx : W.heap[gB]? = some (.cells #[.string pk, .string nm, .string (strB a.tool), .slice E a.env.length cE, .slice I a.ins.length cI, .slice A a.asks.length cA, .slice O a.outs.length cO] 27 (0, 0)) := by rw [hW, hgB]; exact World.alloc_heap_new w _
  have CE := hid2 (fun (w2 : World) (hb : Below W.heap.size W w2) => env_any w2 E cE a.env (by omega) (fun p hp => by have := (hmi.lE p hp).1; omega) ((hE.below_all hb0).below_all hb))
  have CI := hid2 (fun (w2 : World) (hb : Below W.heap.size W w2) => set_any w2 I cI a.ins (by omega) ((hI.below_all hb0).below_all hb))
  have CA := hid2 (fun (w2 : World) (hb : Below W.heap.size W w2) => set_any w2 A cA a.asks (by omega) ((hA.below_all hb0).below_all hb))
  have CO := hid2 (fun (w2 : World) (hb : Below W.heap.size W w2) => set_any w2 O cO a.outs (by omega) ((hO.below_all hb0).below_all hb))
  have HTV := hid2 (show strV [a.tool] = [.string (strB a.tool)] from rfl)
  obtain ⟨T, hT⟩ : ∃ T, T = strB a.tool := ⟨_, rfl⟩
  obtain ⟨nE, hnE⟩ : ∃ n, n = a.env.length := ⟨_, rfl⟩
  obtain ⟨nI, hnI⟩ : ∃ n, n = a.ins.length := ⟨_, rfl⟩
  obtain ⟨nA, hnA⟩ : ∃ n, n = a.asks.length := ⟨_, rfl⟩
  obtain ⟨nO, hnO⟩ : ∃ n, n = a.outs.length := ⟨_, rfl⟩
  rw [← hT] at hW hbx HTV ⊢
  rw [← hnE] at hW hbx CE lE ⊢
  rw [← hnI] at hW hbx CI lI ⊢
  rw [← hnA] at hW hbx CA lA ⊢
  rw [← hnO] at hW hbx CO lO ⊢
  have hgl := heap_lt hbx
  have HCELL := hid2 (show ∀ w2, Below W.heap.size W w2 → w2.cell? ⟨gB, 2, none⟩ = some (.string T) ∧ w2.cell? ⟨gB, 3, none⟩ = some (.slice E nE cE) ∧ w2.cell? ⟨gB, 4, none⟩ = some (.slice I nI cI) ∧ w2.cell? ⟨gB, 5, none⟩ = some (.slice A nA cA) ∧ w2.cell? ⟨gB, 6, none⟩ = some (.slice O nO cO) from fun w2 hb => by
    have hh := (hb.block gB hgl).trans hbx
    exact ⟨cell_of_row w2 _ 2 _ _ _ hh, cell_of_row w2 _ 3 _ _ _ hh, cell_of_row w2 _ 4 _ _ _ hh, cell_of_row w2 _ 5 _ _ _ hh, cell_of_row w2 _ 6 _ _ _ hh⟩)
  have HW := hid2 hW
  have HB0 := hid2 hb0
  have HGB := hid2 hgB
  have HT := hid2 hT
  have HTC := hid2 (show W.cell? ⟨gB, 2, none⟩ = some (.string T) from cell_of_row W _ 2 _ _ _ hbx)
  have HTB := hid2 (show Tabs W from hTab.on hb0)
  have HP := hid2 hpa
  have HST := hid2 hst
  have HRL := hid2 hrl
  have HTL := hid2 htl
  have HAL := hid2 hal
  have HPN := hid2 hPn
  have HO1 := hid2 (show ∀ wq : World, Own (wq.alloc (.cells #[.string T] 9)) wq.heap.size 9 1 (some ⟨wq.heap.size, 0, none⟩) 1 1 (strV (rowsK a 1)) from fun wq => by
    rw [show strV (rowsK a 1) = [.string T] from HTV.out]
    exact Own.lit wq #[.string T] 9 1 1 wq.heap.size (Nat.le_refl _) (by decide) rfl)
  clear hpl hpa hst hrl htl hal hPn hTab h hmi hE hI hA hO hT hnE hnI hnA hnO hbx hb0 hgl hW hgB
  go_enter Tryd.func9, Tryd.ntmps9
  go_wp2_with fail
  rw [← HW.out, ← HGB.out]
  refine wp_region_rel 12 (by kernel_rfl) (by kernel_rfl) (by kernel_rfl) _ rfl (by kernel_rfl) (KV [none, none, some (envL a.env), none, none, some (setL a.ins), none, none, some (setL a.asks), none, none, some (setL a.outs)] [.pointer (some ⟨gB, 3, none⟩), .slice E nE cE, undef, .pointer (some ⟨gB, 4, none⟩), .slice I nI cI, undef, .pointer (some ⟨gB, 5, none⟩), .slice A nA cA, undef, .pointer (some ⟨gB, 6, none⟩), .slice O nO cO, undef]) (fun w2 => Below W.heap.size W w2) (fun a b => Below a.heap.size a b) ((Below.refl _ W).drew) (fun _ _ _ _ hb hv => hv.keep hb) ?_ ?_
  · refine of_allOps ⟨?_, ?_, ?_, ?_, ?_, ?_, ?_, ?_, ?_, ?_, ?_, ?_, trivial⟩
    · refine ⟨rfl, fun T2 w2 hM hN hO hE K hK => ?_⟩
      have o1 : T2[1]? = some (.pointer (some ⟨gB, 0, none⟩)) := hO 1 rfl
      clear hE hO hN
      go_simp
      exact hK _ _ rfl hM (Below.refl _ _)
    · refine ⟨rfl, fun T2 w2 hM hN hO hE K hK => ?_⟩
      obtain ⟨v0, h0, e0⟩ := hE ⟨0, .data⟩ (by simp) rfl _ _ rfl rfl
      rw [show v0 = .pointer (some ⟨gB, 3, none⟩) from (Option.some.inj e0).symm] at h0
      have hcc := (HCELL.out w2 hM).2.1
      clear hE hO hN
      go_simp
      exact hK _ _ rfl hM (Below.refl _ _)
    · refine ⟨rfl, fun T2 w2 hM hN hO hE K hK => ?_⟩
      obtain ⟨v1, h1, e1⟩ := hE ⟨1, .data⟩ (by simp) rfl _ _ rfl rfl
      rw [show v1 = .slice E nE cE from (Option.some.inj e1).symm] at h1
      clear hE hO hN
      go_simp
      refine (CE.out w2 hM).mono ?_
      rintro e w3 ⟨A3, c3, rfl, ho3, hb3⟩
      exact hK _ _ ⟨A3, c3, rfl, ho3.rd⟩ (hM.trans (hb3.mono hM.size)) hb3
    · refine ⟨rfl, fun T2 w2 hM hN hO hE K hK => ?_⟩
      have o1 : T2[1]? = some (.pointer (some ⟨gB, 0, none⟩)) := hO 1 rfl
      clear hE hO hN
      go_simp
      exact hK _ _ rfl hM (Below.refl _ _)
    · refine ⟨rfl, fun T2 w2 hM hN hO hE K hK => ?_⟩
      obtain ⟨v3, h3, e3⟩ := hE ⟨3, .data⟩ (by simp) rfl _ _ rfl rfl
      rw [show v3 = .pointer (some ⟨gB, 4, none⟩) from (Option.some.inj e3).symm] at h3
      have hcc := (HCELL.out w2 hM).2.2.1
      clear hE hO hN
      go_simp
      exact hK _ _ rfl hM (Below.refl _ _)
    · refine ⟨rfl, fun T2 w2 hM hN hO hE K hK => ?_⟩
      obtain ⟨v4, h4, e4⟩ := hE ⟨4, .data⟩ (by simp) rfl _ _ rfl rfl
      rw [show v4 = .slice I nI cI from (Option.some.inj e4).symm] at h4
      clear hE hO hN
      go_simp
      refine (CI.out w2 hM).mono ?_
      rintro e w3 ⟨A3, c3, rfl, ho3, hb3⟩
      exact hK _ _ ⟨A3, c3, rfl, ho3.rd⟩ (hM.trans (hb3.mono hM.size)) hb3
    · refine ⟨rfl, fun T2 w2 hM hN hO hE K hK => ?_⟩
      have o1 : T2[1]? = some (.pointer (some ⟨gB, 0, none⟩)) := hO 1 rfl
      clear hE hO hN
      go_simp
      exact hK _ _ rfl hM (Below.refl _ _)
    · refine ⟨rfl, fun T2 w2 hM hN hO hE K hK => ?_⟩
      obtain ⟨v6, h6, e6⟩ := hE ⟨6, .data⟩ (by simp) rfl _ _ rfl rfl
      rw [show v6 = .pointer (some ⟨gB, 5, none⟩) from (Option.some.inj e6).symm] at h6
      have hcc := (HCELL.out w2 hM).2.2.2.1
      clear hE hO hN
      go_simp
      exact hK _ _ rfl hM (Below.refl _ _)
    · refine ⟨rfl, fun T2 w2 hM hN hO hE K hK => ?_⟩
      obtain ⟨v7, h7, e7⟩ := hE ⟨7, .data⟩ (by simp) rfl _ _ rfl rfl
      rw [show v7 = .slice A nA cA from (Option.some.inj e7).symm] at h7
      clear hE hO hN
      go_simp
      refine (CA.out w2 hM).mono ?_
      rintro e w3 ⟨A3, c3, rfl, ho3, hb3⟩
      exact hK _ _ ⟨A3, c3, rfl, ho3.rd⟩ (hM.trans (hb3.mono hM.size)) hb3
    · refine ⟨rfl, fun T2 w2 hM hN hO hE K hK => ?_⟩
      have o1 : T2[1]? = some (.pointer (some ⟨gB, 0, none⟩)) := hO 1 rfl
      clear hE hO hN
      go_simp
      exact hK _ _ rfl hM (Below.refl _ _)
    · refine ⟨rfl, fun T2 w2 hM hN hO hE K hK => ?_⟩
      obtain ⟨v9, h9, e9⟩ := hE ⟨9, .data⟩ (by simp) rfl _ _ rfl rfl
      rw [show v9 = .pointer (some ⟨gB, 6, none⟩) from (Option.some.inj e9).symm] at h9
      have hcc := (HCELL.out w2 hM).2.2.2.2
      clear hE hO hN
      go_simp
      exact hK _ _ rfl hM (Below.refl _ _)
    · refine ⟨rfl, fun T2 w2 hM hN hO hE K hK => ?_⟩
      obtain ⟨v10, h10, e10⟩ := hE ⟨10, .data⟩ (by simp) rfl _ _ rfl rfl
      rw [show v10 = .slice O nO cO from (Option.some.inj e10).symm] at h10
      clear hE hO hN
      go_simp
      refine (CO.out w2 hM).mono ?_
      rintro e w3 ⟨A3, c3, rfl, ho3, hb3⟩
      exact hK _ _ ⟨A3, c3, rfl, ho3.rd⟩ (hM.trans (hb3.mono hM.size)) hb3
  · intro u w2 hM hF
    obtain ⟨A0, c0, e0, r0⟩ : ∃ A c, u 2 = .slice A (envL a.env).length c ∧ Rd w2 1 A (envL a.env).length (strV (envL a.env)) := hF 2 (by omega)
    obtain ⟨A1, c1, e1, r1⟩ : ∃ A c, u 5 = .slice A (setL a.ins).length c ∧ Rd w2 1 A (setL a.ins).length (strV (setL a.ins)) := hF 5 (by omega)
    obtain ⟨A2, c2, e2, r2⟩ : ∃ A c, u 8 = .slice A (setL a.asks).length c ∧ Rd w2 1 A (setL a.asks).length (strV (setL a.asks)) := hF 8 (by omega)
    obtain ⟨A3, c3, e3, r3⟩ : ∃ A c, u 11 = .slice A (setL a.outs).length c ∧ Rd w2 1 A (setL a.outs).length (strV (setL a.outs)) := hF 11 (by omega)
    clear hF
    simp only [fillAll, Nat.reduceAdd, e0, e1, e2, e3, List.take_succ_cons, List.take_zero, List.drop_succ_cons, List.drop_zero, List.setIfInBounds_toArray, List.set_cons_succ, List.set_cons_zero]
    have hn := World.alloc_heap_new w2 (.cells #[.slice A0 (envL a.env).length c0, .slice A1 (setL a.ins).length c1, .slice A2 (setL a.asks).length c2, .slice A3 (setL a.outs).length c3] 25)
    obtain ⟨W3, hW3⟩ : ∃ W3, W3 = w2.alloc (.cells #[.slice A0 (envL a.env).length c0, .slice A1 (setL a.ins).length c1, .slice A2 (setL a.asks).length c2, .slice A3 (setL a.outs).length c3] 25) := ⟨_, rfl⟩
    have hM3 : Below W.heap.size W W3 := by rw [hW3]; exact hM.alloc hM.size _
    have hal : ∀ (A : Option Addr) (x : List Tx), Rd w2 1 A x.length (strV x) → Rd W3 1 A x.length (strV x) := fun A x h => by rw [hW3]; exact h.alloc _
    rw [← hW3] at hn
    have hra : RowsAt W3 w2.heap.size (partsK a) (fun i => [A0, A1, A2, A3].getD i none) (fun i => [c0, c1, c2, c3].getD i 0) := by
      intro i x hx
      match i, hx with
      | 0, hx => cases hx; exact ⟨cell_of_row _ _ 0 _ _ _ hn, hal _ _ r0⟩
      | 1, hx => cases hx; exact ⟨cell_of_row _ _ 1 _ _ _ hn, hal _ _ r1⟩
      | 2, hx => cases hx; exact ⟨cell_of_row _ _ 2 _ _ _ hn, hal _ _ r2⟩
      | 3, hx => cases hx; exact ⟨cell_of_row _ _ 3 _ _ _ hn, hal _ _ r3⟩
      | i + 4, hx => simp [partsK] at hx
    have hcT := (HCELL.out W3 hM3).1
    have HW3 := hid2 hW3
    have HRA := hid2 hra
    have HM3 := hid2 hM3
    obtain ⟨g, hg⟩ : ∃ g, g = w2.heap.size := ⟨_, rfl⟩
    obtain ⟨As, hAs⟩ : ∃ As : Nat → Option Addr, As = fun i => [A0, A1, A2, A3].getD i none := ⟨_, rfl⟩
    obtain ⟨cs, hcs⟩ : ∃ cs : Nat → Nat, cs = fun i => [c0, c1, c2, c3].getD i 0 := ⟨_, rfl⟩
    rw [← hg, ← hAs, ← hcs] at HRA
    have hb0' := HB0.out
    have hszW := hM3.size
    obtain ⟨P1, hP1⟩ : ∃ P1, P1 = partsK a := ⟨_, rfl⟩
    rw [← hP1] at HRA HP HST HPN
    have HG := hid2 hg
    clear hn hal hra hM hM3 hW3 hAs hcs r0 r1 r2 r3 CE CI CA CO HCELL hg hP1
    go_wp2_with (first
      | (rw [← HW3.out, ← HG.out])
      | fail)
    go_loopg [4, 25] 4 (fun gk ov iv wr => ∃ (k j : Nat) (A1 : Option Addr) (c1 : Nat), k + gk = 4 ∧ j = k + 1 ∧ iv = .int .i64 k ∧ ov = .slice A1 j c1 ∧ Own wr W3.heap.size 9 1 A1 j c1 (strV (rowsK a j)) ∧ Below W3.heap.size W3 wr)
    case atStart => exact ⟨0, 1, _, _, by omega, rfl, rfl, rfl, HO1.out W3, (Below.refl _ _).alloc (Nat.le_refl _) _⟩
    case round =>
      obtain ⟨k, j, A5, c5, hk, hj, rfl, rfl, hown, hbe⟩ := hrel
      have HJ := hid2 hj
      have hjl : j ≤ 5 := by omega
      clear hj
      by_cases hlt : k < 4
      · have hkl : (k : Int) < 4 := by omega
        have hk0 : (0 : Int) ≤ k := by omega
        obtain ⟨x, hx⟩ : ∃ x, P1[k]? = some x := ⟨_, List.getElem?_eq_getElem (by rw [HPN.out]; exact hlt)⟩
        have hstep : rowsK a (j + 1) = rowsK a j ++ [rowL x] := by rw [HJ.out]; exact HST.out k x hx
        obtain ⟨hx1, hx2⟩ := HP.out k x hx
        obtain ⟨hcr, hrx⟩ := (HRA.out.below hbe) k x hx
        have cR := row_any wr (As k) (cs k) x (by omega) hrx ((HTB.out.on HM3.out).on hbe) (by omega)
        have hsz := hbe.size
        obtain ⟨R, hR⟩ : ∃ R, R = strB (rowL x) := ⟨_, rfl⟩
        rw [← hR] at cR
        obtain ⟨n, hn⟩ : ∃ n, n = x.length := ⟨_, rfl⟩
        rw [← hn] at cR hcr
        obtain ⟨V1, hV1⟩ : ∃ V1, V1 = strV (rowsK a j) := ⟨_, rfl⟩
        rw [← hV1] at hown
        have HSTEP := hid2 hstep
        have HBE := hid2 hbe
        have HR := hid2 hR
        have HV1 := hid2 hV1
        clear hx hstep hx1 hx2 hrx hR hn hV1 hbe
        go_wp2_with (first
          | (go_at_call 19; refine cR.mono ?_; rintro e w5 ⟨rfl, hb5⟩; have hown2 := hown.below hb5 (Nat.le_refl _); have hsz2 := hb5.size; have HB5 := hid2 hb5; clear cR hown hb5)
          | (at_builtin; have _t := hown2; go_must ((with_reducible refine wpList_append_lit 9 (.string ⟨#[]⟩) 1 16 Tryd.underlying25 info_str rfl W3.heap.size A5 j c5 V1 (hown2.alloc _) 1 [.string R] (.slice (some ⟨w5.heap.size, 0, none⟩) 1 1) (Src.slice Tryd.underlying25 (Rd.one w5 _ _)) one_str ?_ ?_ ?_ ?_ ?_); (unfold maxLen; omega); omega; (simp; omega); exact ⟨rfl, rfl⟩; intro A6 c6 w6 hown3 hgr3 hbl3; clear hown2; have hb6 : Below W3.heap.size W3 w6 := (((HBE.out.trans (HB5.out.mono hsz))).alloc (by omega) _).grown hgr3 (by simp; omega) (fun g e => (_t.block g e).1))))
        go_roundg (gk - 1)
        case rel => exact ⟨k + 1, j + 1, A6, c6, by omega, by have := HJ.out; omega, by go_num, rfl, by rw [HSTEP.out, ← strV_snoc, ← HV1.out, ← HR.out]; exact hown3, hb6⟩
        case measure => omega
      · have hk4 : k = 4 := by omega
        have hkl : ¬ (k : Int) < 4 := by omega
        obtain rfl : j = 5 := by have := HJ.out; omega
        have hln := HRL.out 5 (by omega) (by omega)
        have hrd := hown.rd
        have hlen2 : (rowL (rowsK a 5)).length ≤ 1000000 := by rw [HAL.out]; have := HTL.out; omega
        have cR := row_any wr A5 c5 (rowsK a 5) (by rw [hln]; omega) (by rw [hln]; exact hrd) ((HTB.out.on HM3.out).on hbe) hlen2
        rw [hln, HAL.out] at cR
        have HBE := hid2 hbe
        clear hrd hlen2 hown hln hbe hk4
        go_wp2_with (first
          | (go_at_call 19; refine cR.mono ?_; rintro e w5 ⟨rfl, hb5⟩; have HB5 := hid2 hb5; clear cR hb5))
        go_ret
        have b1 := HB0.out.trans (HM3.out.mono HB0.out.size)
        have b2 := b1.trans (HBE.out.mono b1.size)
        exact ⟨rfl, b2.trans (HB5.out.mono b2.size)⟩
end Go.Proofs.YtjmfmlkjippiaaaDoor
