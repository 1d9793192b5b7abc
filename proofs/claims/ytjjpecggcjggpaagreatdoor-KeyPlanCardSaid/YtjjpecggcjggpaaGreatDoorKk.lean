/- key.Same, and the document's. -/
import Derived.Test.YtjjpecggcjggpaaGreatDoorKj
import Derived.Test.YtjjpecggcjggpaaGreatDoorRows
import Derived.WalkKit
import Derived.ProofKit
import Derived.OpenShut
import Derived.ChangeMaps5
import Derived.SliceStrings
import Derived.JoinedCond
import Derived.Carry
import Derived.SizedLaws
import Derived.Test.YtjjpecggcjggpaaGreatDoorKa
import Derived.Test.YtjjpecggcjggpaaGreatDoorKh
import Derived.Deep.Slices
import Derived.Lib.LaidTab
import Derived.LaidMore
import Derived.Stop.Joined
import Derived.Stop.LaidErr
import Derived.HandedShaped
import Derived.Handed
set_option linter.unusedSimpArgs false
set_option linter.unusedVariables false
namespace Go.Proofs.YtjjpecggcjggpaaGreatDoor
open Go.RowKit Go.Shelf
set_option maxRecDepth 100000
theorem box_two (w : World) (L L' : LayA) (a b : ActK) (h : ActAt w L a) (h' : ActAt w L' b) : ∃ V V' : List Value, V.toArray = actV L a ∧ V'.toArray = actV L' b ∧
    ActBox ((w.alloc (.cells V.toArray 30)).alloc (.cells V'.toArray 30)) w.heap.size V L a ∧
    ActBox ((w.alloc (.cells V.toArray 30)).alloc (.cells V'.toArray 30)) (w.heap.size + 1) V' L' b ∧
    Below w.heap.size w ((w.alloc (.cells V.toArray 30)).alloc (.cells V'.toArray 30)) := by
  have hb : Below w.heap.size w ((w.alloc (.cells (actV L a).toList.toArray 30)).alloc (.cells (actV L' b).toList.toArray 30)) := ((Below.refl _ w).alloc (Nat.le_refl _) _).alloc (by simp) _
  exact ⟨(actV L a).toList, (actV L' b).toList, by simp, by simp, ⟨heap_alloc2_old w _ _, rfl, by simp, h.below hb⟩, ⟨heap_alloc2_new w _ _, rfl, by simp, h'.below hb⟩, hb⟩
set_option maxHeartbeats 4000000 in
theorem same_any (w : World) (L L' : LayA) (a b : ActK) (h : ActAt w L a) (h' : ActAt w L' b) (hm : Mild a) (hm' : Mild b) (hTab : Tabs w) :
    Calls Tryz.prog 7 #[.agg (actV L a), .agg (actV L' b)] w fun e w' => e = .returned (.bool (decide (textK a = textK b))) ∧ Below w.heap.size w w' := by
  obtain ⟨VA, VB, hVA, hVB, hA, hB, hb0⟩ := box_two w L L' a b h h'
  rw [← hVA, ← hVB]
  obtain ⟨W, hW⟩ : ∃ W, W = (w.alloc (.cells VA.toArray 30)).alloc (.cells VB.toArray 30) := ⟨_, rfl⟩
  rw [← hW] at hA hB hb0
  obtain ⟨gA, hgA⟩ : ∃ g, g = w.heap.size := ⟨_, rfl⟩
  obtain ⟨gB, hgB⟩ : ∃ g, g = w.heap.size + 1 := ⟨_, rfl⟩
  rw [← hgA] at hA
  rw [← hgB] at hB
  have HgA := hid2 (fun (w2 : World) (hb : Below W.heap.size W w2) => hA.below hb)
  have HgB := hid2 (fun (w2 : World) (hb : Below W.heap.size W w2) => hB.below hb)
  have HW := hid2 hW
  have HB0 := hid2 hb0
  have HQA := hid2 hgA
  have HQB := hid2 hgB
  have hT0 := hTab.on hb0
  have C1 := hid2 (fun (w2 : World) (hb : Below W.heap.size W w2) => (HgA.out w2 hb).text hm (hT0.on hb))
  have C2 := hid2 (fun (w2 : World) (hb : Below W.heap.size W w2) => (HgB.out w2 hb).text hm' (hT0.on hb))
  obtain ⟨r, hr⟩ : ∃ r, r = decide (textK a = textK b) := ⟨_, rfl⟩
  rw [← hr]
  have ha := toList_strB (textK a)
  have hb := toList_strB (textK b)
  obtain ⟨s, hs⟩ : ∃ s, s = strB (textK a) := ⟨_, rfl⟩
  obtain ⟨q, hq⟩ : ∃ q, q = strB (textK b) := ⟨_, rfl⟩
  rw [← hs] at C1 ha
  rw [← hq] at C2 hb
  have hsq : (s.toList == q.toList) = r := by rw [ha, hb, hr, Bool.eq_iff_iff]; simp
  clear hs hq ha hb hr h h' hm hm' hTab hVA hVB hA hB hb0 hW hgA hgB hT0
  go_enter Tryz.func7, Tryz.ntmps7
  go_wp2_with fail
  rw [← HW.out, ← HQB.out, ← HQA.out]
  refine wp_region_grd 5 (by kernel_rfl) (by kernel_rfl) (by kernel_rfl) _ rfl (by kernel_rfl) (fun j v _ => ([.agg VA.toArray, .string s, .agg VB.toArray, .string q, .bool r] : List Value)[j]? = some v) (fun w2 => Below W.heap.size W w2) (fun a b => Below a.heap.size a b) ((Below.refl _ W).drew) (fun _ _ _ _ hb hv => hv) ?_ ?_
  · refine of_allOps ⟨?_, ?_, ?_, ?_, ?_, trivial⟩
    · intro T2 w2 hM hN hO hE K hK
      have o2 : T2[2]? = some (.pointer (some ⟨gA, 0, none⟩)) := hO 2 rfl
      clear hE hO hN
      refine step_plain0 rfl ?_
      refine wp_load_lit gA 0 _ _ _ (HgA.out w2 hM).heap VA (fun j _ => getElem?_zero_add _ j) _ Tryz.underlying30 (HgA.out w2 hM).info ⟨?_, rfl⟩ ?_
      · simp [Act.eval, o2]
      · exact hK _ _ rfl hM (Below.refl _ _)
    · intro T2 w2 hM hN hO hE K hK
      obtain ⟨v0, h0, e0⟩ := hE ⟨0, .data⟩ (by simp) rfl _ _ rfl rfl
      rw [show v0 = .agg VA.toArray from (Option.some.inj e0).symm] at h0
      clear hE hO hN
      refine step_plain0 rfl ?_
      go_simp
      refine (C1.out w2 hM).mono ?_
      rintro e w3 ⟨rfl, hb⟩
      exact hK _ _ rfl (hM.trans (hb.mono hM.size)) hb
    · intro T2 w2 hM hN hO hE K hK
      have o3 : T2[3]? = some (.pointer (some ⟨gB, 0, none⟩)) := hO 3 rfl
      clear hE hO hN
      refine step_plain0 rfl ?_
      refine wp_load_lit gB 0 _ _ _ (HgB.out w2 hM).heap VB (fun j _ => getElem?_zero_add _ j) _ Tryz.underlying30 (HgB.out w2 hM).info ⟨?_, rfl⟩ ?_
      · simp [Act.eval, o3]
      · exact hK _ _ rfl hM (Below.refl _ _)
    · intro T2 w2 hM hN hO hE K hK
      obtain ⟨v2, h2, e2⟩ := hE ⟨2, .data⟩ (by simp) rfl _ _ rfl rfl
      rw [show v2 = .agg VB.toArray from (Option.some.inj e2).symm] at h2
      clear hE hO hN
      refine step_plain0 rfl ?_
      go_simp
      refine (C2.out w2 hM).mono ?_
      rintro e w3 ⟨rfl, hb⟩
      exact hK _ _ rfl (hM.trans (hb.mono hM.size)) hb
    · intro T2 w2 hM hN hO hE K hK
      obtain ⟨v1, h1, e1⟩ := hE ⟨1, .data⟩ (by simp) rfl _ _ rfl rfl
      rw [show v1 = .string s from (Option.some.inj e1).symm] at h1
      obtain ⟨v3, h3, e3⟩ := hE ⟨3, .data⟩ (by simp) rfl _ _ rfl rfl
      rw [show v3 = .string q from (Option.some.inj e3).symm] at h3
      clear hE hO hN
      refine step_plain0 rfl ?_
      go_simp
      exact hK _ _ rfl hM (Below.refl _ _)
  · intro u w2 hM hF
    have e4 : u 4 = .bool r := (Option.some.inj (hF 4 (by omega))).symm
    clear hF
    simp only [fillAll, Nat.reduceAdd, e4, List.take_succ_cons, List.take_zero, List.drop_succ_cons, List.drop_zero, List.setIfInBounds_toArray, List.set_cons_succ, List.set_cons_zero]
    go_wp2_with fail
    go_ret
    exact ⟨rfl, HB0.out.trans (hM.mono HB0.out.size)⟩
/-- a row of rows that a call made, or a value that is told -/
def PV (rows : List (Option (List (List Tx)))) (vals : List Value) (j : Nat) (v : Value) (w : World) : Prop :=
  match rows.getD j none with
  | some x => ∃ g As cs, v = .slice (some ⟨g, 0, none⟩) 5 5 ∧ RowsAt w g x As cs
  | none => vals[j]? = some v
theorem PV.keep {rows : List (Option (List (List Tx)))} {vals : List Value} {j : Nat} {v : Value} {w w' : World} (h : PV rows vals j v w) (hb : Below w.heap.size w w') : PV rows vals j v w' := by
  unfold PV at *
  split
  · rename_i x hj
    simp only [hj] at h
    obtain ⟨g, As, cs, h1, h2⟩ := h
    exact ⟨g, As, cs, h1, h2.below hb⟩
  · rename_i hj
    simp only [hj] at h
    exact h
theorem rows_eq {a b : ActK} : (([a.tool] :: partsK a) = ([b.tool] :: partsK b)) ↔ textK a = textK b := by
  rw [textK_inj]
  simp
theorem row_small {a : ActK} (h : Mild a) {k : Nat} {x : List Tx} (hx : ([a.tool] :: partsK a)[k]? = some x) : x.length ≤ 44 := by
  cases k with
  | zero =>
    simp at hx
    subst hx
    simp
  | succ k => exact (part_len (partLens h) hx).2
end Go.Proofs.YtjjpecggcjggpaaGreatDoor
/- The walk of KeyPlan. -/
namespace Go.Proofs.YtjjpecggcjggpaaGreatDoor
open Go.RowKit Go.Shelf
set_option maxRecDepth 100000
set_option maxHeartbeats 8000000 in
theorem keyplan_any (w : World) (A : Option Addr) (c : Nat) (X : List ActR) (hX : ActsAt w A X) (hl : X.length ≤ maxLen) (hT : Tabs w) (hM : MaxL w) :
    Calls Tryz.prog 3 #[.slice A X.length c] w fun e w' => e = .returned (.bool true) ∧ Below w.heap.size w w' := by
  obtain ⟨N, hN⟩ : ∃ N, N = X.length := ⟨_, rfl⟩
  have cF := fun (W : World) (h : Below w.heap.size w W) => fixed_any W (hT.on h)
  have cK := fun (W : World) (h : Below w.heap.size w W) (h10 : N ≤ 10) (hg : ∀ x ∈ X, greatL x.2 = false) => acheck_any W A c X (hX.below h) (by omega) (fun x hx => mild_of (hg x hx)) (hM.on h)
  rw [← hN] at hl cK ⊢
  have hlim : (N : Int) ≤ 9223372036854775807 := by unfold maxLen at hl; omega
  have HX := hid2 hX
  have HN := hid2 hN
  have HT := hid2 hT
  have HCF := hid2 cF
  have HCK := hid2 cK
  clear hX hN hT hM cF cK hl
  by_cases h10 : N ≤ 10
  · have h10i : ¬ (10 : Int) < N := by omega
    go_enter Tryz.func3, Tryz.ntmps3
    go_wp2_with fail
    go_loopw [3] (fun iv wr => ∃ k : Nat, k ≤ N ∧ iv = .int .i64 k ∧ Below w.heap.size w wr ∧ ∀ x ∈ X.take k, greatL x.2 = false) (fun iv _ => N - (intOf iv).toNat)
    case atStart => exact ⟨0, by omega, rfl, Below.refl _ _, fun x hx => by simp at hx⟩
    case round =>
      obtain ⟨k, hk, rfl, hlow, hgr⟩ := hrel
      have HLOW := hid2 hlow
      have HGR := hid2 hgr
      clear hlow hgr
      by_cases hlt : k < N
      · have hkl : (k : Int) < N := by omega
        have hk0 : (0 : Int) ≤ k := by omega
        obtain ⟨x, hx⟩ : ∃ x, X[k]? = some x := ⟨_, List.getElem?_eq_getElem (by rw [← HN.out]; exact hlt)⟩
        have htk : X.take (k + 1) = X.take k ++ [x] := by rw [List.take_add_one, hx]; rfl
        have hcall := great_any wr x.1 x.2 ((HX.out.below HLOW.out).each x (List.mem_of_getElem? hx))
        obtain ⟨b, o, hA2, hld⟩ := (HX.out.below HLOW.out).load hx
        subst hA2
        obtain ⟨V, hV⟩ : ∃ V, V = actV x.1 x.2 := ⟨_, rfl⟩
        obtain ⟨gv, hgv⟩ : ∃ v, v = greatL x.2 := ⟨_, rfl⟩
        rw [← hV] at hld hcall
        rw [← hgv] at hcall
        have HLD := hid2 hld
        have HCALL := hid2 hcall
        have HTK := hid2 htk
        have HGV := hid2 hgv
        clear hx htk hcall hld hV hgv
        cases gv with
        | true =>
          go_wp2_with (first
            | ((with_reducible refine wpList_load_run HLD.out ?_ ?_); exact rfl)
            | (go_at_call 5; refine HCALL.out.mono ?_; rintro e w2 ⟨rfl, hb2⟩; have HB2 := hid2 (HLOW.out.trans (hb2.mono HLOW.out.size)); clear hb2)
            | (go_at_call 4; refine (HCF.out _ HB2.out).mono ?_; rintro e w3 ⟨rfl, hb3⟩; have HB3 := hid2 (HB2.out.trans (hb3.mono HB2.out.size)); clear hb3))
          go_ret
          exact ⟨rfl, HB3.out⟩
        | false =>
          go_wp2_with (first
            | ((with_reducible refine wpList_load_run HLD.out ?_ ?_); exact rfl)
            | (go_at_call 5; refine HCALL.out.mono ?_; rintro e w2 ⟨rfl, hb2⟩; have HB2 := hid2 (HLOW.out.trans (hb2.mono HLOW.out.size)); clear hb2))
          go_roundw
          case rel =>
            refine ⟨k + 1, by omega, by go_num, HB2.out, fun y hy => ?_⟩
            rw [HTK.out, List.mem_append, List.mem_singleton] at hy
            rcases hy with hy | rfl
            · exact HGR.out y hy
            · exact HGV.out.symm
          case measure => simp [intOf]; omega
      · have hkn2 : k = N := by omega
        have hkl : ¬ (k : Int) < N := by omega
        have htl : X.take k = X := by rw [hkn2, HN.out, List.take_length]
        have hg : ∀ x ∈ X, greatL x.2 = false := by rw [← htl]; exact HGR.out
        have hcall := HCK.out wr HLOW.out h10 hg
        have HCALL := hid2 hcall
        have HG := hid2 hg
        clear hkn2 htl hg hcall hlt
        go_wp2_with (go_at_call 6; refine HCALL.out.mono ?_; rintro e w2 ⟨r, ri, rfl, hb2, hpl⟩; have HB2 := hid2 (HLOW.out.trans (hb2.mono HLOW.out.size)); have HPL := hid2 hpl; clear hb2 hpl)
        by_cases hr : r = 0
        · subst hr
          obtain ⟨hne, hnd⟩ := HPL.out rfl
          have HNE := hid2 hne
          have HND := hid2 hnd
          clear hne hnd
          go_loopw [6, 7] (fun iv jv wr => ∃ i : Nat, i ≤ N ∧ iv = .int .i64 i ∧ Below w.heap.size w wr) (fun iv _ _ => N - (intOf iv).toNat)
          case atStart => exact ⟨0, by omega, rfl, HB2.out⟩
          case round =>
            obtain ⟨i, hi, rfl, hlow⟩ := hrel
            have HLOW2 := hid2 hlow
            clear hlow
            by_cases hlt : i < N
            · have hil : (i : Int) < N := by omega
              have hi0 : (0 : Int) ≤ i := by omega
              obtain ⟨x, hx⟩ : ∃ x, X[i]? = some x := ⟨_, List.getElem?_eq_getElem (by rw [← HN.out]; exact hlt)⟩
              obtain ⟨b, o, hA2, -⟩ := HX.out.load hx
              subst hA2
              have HXX := hid2 hx
              clear hx
              go_wp2_with fail
              go_loopw [7] (fun jv wy => ∃ j : Nat, j ≤ i ∧ jv = .int .i64 j ∧ Below w.heap.size w wy) (fun jv _ => i - (intOf jv).toNat)
              case atStart => exact ⟨0, by omega, rfl, HLOW2.out⟩
              case round =>
                obtain ⟨j, hj, rfl, hlow⟩ := hrel
                have HLOW3 := hid2 hlow
                clear hlow
                by_cases hjt : j < i
                · have hjl : (j : Int) < i := by omega
                  have hjN : (j : Int) < N := by omega
                  have hj0 : (0 : Int) ≤ j := by omega
                  obtain ⟨y, hy⟩ : ∃ y, X[j]? = some y := ⟨_, List.getElem?_eq_getElem (by rw [← HN.out]; omega)⟩
                  have hno := rsame_no HNE.out HND.out HXX.out hy hjt
                  have hmx := List.mem_of_getElem? HXX.out
                  have hmy := List.mem_of_getElem? hy
                  have m1 := mild_of (HG.out x hmx)
                  have m2 := mild_of (HG.out y hmy)
                  obtain ⟨W, hW⟩ : ∃ W, W = wr := ⟨_, rfl⟩
                  rw [← hW] at HLOW3
                  have lw := fun (w2 : World) (hb : Below W.heap.size W w2) => HLOW3.out.trans (hb.mono HLOW3.out.size)
                  have L1 := fun (w2 : World) (hb : Below W.heap.size W w2) => (show (loadVar 30 ⟨b, o + i * 7, none⟩).run Tryz.prog w2 = .ok (.agg (actV x.1 x.2)) w2 by
                    obtain ⟨b', o', e, h⟩ := (HX.out.below (lw w2 hb)).load HXX.out
                    cases e
                    exact h)
                  have L2 := fun (w2 : World) (hb : Below W.heap.size W w2) => (show (loadVar 30 ⟨b, o + j * 7, none⟩).run Tryz.prog w2 = .ok (.agg (actV y.1 y.2)) w2 by
                    obtain ⟨b', o', e, h⟩ := (HX.out.below (lw w2 hb)).load hy
                    cases e
                    exact h)
                  have C1 := fun (w2 : World) (hb : Below W.heap.size W w2) => same_any w2 x.1 y.1 x.2 y.2 ((HX.out.below (lw w2 hb)).each x hmx) ((HX.out.below (lw w2 hb)).each y hmy) m1 m2 (HT.out.on (lw w2 hb))
                  have C2 := fun (w2 : World) (hb : Below W.heap.size W w2) => text_any w2 x.1 x.2 ((HX.out.below (lw w2 hb)).each x hmx) m1 (HT.out.on (lw w2 hb))
                  have C3 := fun (w2 : World) (hb : Below W.heap.size W w2) => text_any w2 y.1 y.2 ((HX.out.below (lw w2 hb)).each y hmy) m2 (HT.out.on (lw w2 hb))
                  have hne2 : textK x.2 ≠ textK y.2 := by simpa using hno
                  obtain ⟨VI, hVI⟩ : ∃ V, V = actV x.1 x.2 := ⟨_, rfl⟩
                  obtain ⟨VK, hVK⟩ : ∃ V, V = actV y.1 y.2 := ⟨_, rfl⟩
                  obtain ⟨SI, hSI⟩ : ∃ S, S = strB (textK x.2) := ⟨_, rfl⟩
                  obtain ⟨SK, hSK⟩ : ∃ S, S = strB (textK y.2) := ⟨_, rfl⟩
                  have hse : (SI.toList == SK.toList) = false := by
                    rw [ByteArray.toList_eq, ByteArray.toList_eq, hSI, hSK, strB_list, strB_list]
                    simpa using hne2
                  rw [← hVI] at L1 C1 C2
                  rw [← hVK] at L2 C1 C3
                  rw [hno] at C1
                  rw [← hSI] at C2
                  rw [← hSK] at C3
                  have HL1 := hid2 L1
                  have HL2 := hid2 L2
                  have HC1 := hid2 C1
                  have HC2 := hid2 C2
                  have HC3 := hid2 C3
                  clear hy hno hmx hmy m1 m2 lw L1 L2 C1 C2 C3 hne2 hVI hVK hSI hSK
                  go_wp2_with fail
                  rw [← hW]
                  clear hW
                  refine wp_region_grd 20 (by kernel_rfl) (by kernel_rfl) (by kernel_rfl) _ rfl (by kernel_rfl) (VV [some (.slice (some ⟨b, o, none⟩) N c), some (.int .i64 i), some (.pointer (some ⟨b, o + i * 7, none⟩)), some (.agg VI), some (.slice (some ⟨b, o, none⟩) N c), some (.int .i64 j), some (.pointer (some ⟨b, o + j * 7, none⟩)), some (.agg VK), some (.bool false), some (.bool false), some (.slice (some ⟨b, o, none⟩) N c), some (.int .i64 i), some (.pointer (some ⟨b, o + i * 7, none⟩)), some (.agg VI), some (.string SI), some (.slice (some ⟨b, o, none⟩) N c), some (.int .i64 j), some (.pointer (some ⟨b, o + j * 7, none⟩)), some (.agg VK), some (.string SK)] (fun _ _ _ => False)) (fun w2 => Below W.heap.size W w2) (fun a b => Below a.heap.size a b) ((Below.refl _ W).drew) (fun j v w1 w2 hb hv => VV.keep (fun h => h.elim) hv) ?_ ?_
                  · refine of_allOps ⟨?_, ?_, ?_, ?_, ?_, ?_, ?_, ?_, ?_, ?_, ?_, ?_, ?_, ?_, ?_, ?_, ?_, ?_, ?_, ?_, trivial⟩
                    · intro T2 w2 hM hN hO hE K hK
                      have o0 : T2[0]? = some (.slice (some ⟨b, o, none⟩) N c) := hO 0 rfl
                      clear hE hO hN
                      refine step_plain0 rfl ?_
                      go_simp
                      exact hK _ _ rfl hM (Below.refl _ _)
                    · intro T2 w2 hM hN hO hE K hK
                      have o6 : T2[6]? = some (.int .i64 i) := hO 6 rfl
                      clear hE hO hN
                      refine step_plain0 rfl ?_
                      go_simp
                      exact hK _ _ rfl hM (Below.refl _ _)
                    · intro T2 w2 hM hN hO hE K hK
                      obtain ⟨v0, h0, e0⟩ := hE ⟨0, .data⟩ (by simp) rfl _ _ rfl rfl
                      rw [show v0 = .slice (some ⟨b, o, none⟩) N c from e0] at h0
                      obtain ⟨v1, h1, e1⟩ := hE ⟨1, .data⟩ (by simp) rfl _ _ rfl rfl
                      rw [show v1 = .int .i64 i from e1] at h1
                      clear hE hO hN
                      refine step_plain0 rfl ?_
                      go_simp
                      exact hK _ _ rfl hM (Below.refl _ _)
                    · intro T2 w2 hM hN hO hE K hK
                      obtain ⟨v2, h2, e2⟩ := hE ⟨2, .data⟩ (by simp) rfl _ _ rfl rfl
                      rw [show v2 = .pointer (some ⟨b, o + i * 7, none⟩) from e2] at h2
                      clear hE hO hN
                      refine step_plain0 rfl ?_
                      refine wp_load_run _ _ rfl (HL1.out w2 hM) (by simp [Act.eval, h2]) ?_
                      exact hK _ _ rfl hM (Below.refl _ _)
                    · intro T2 w2 hM hN hO hE K hK
                      have o0 : T2[0]? = some (.slice (some ⟨b, o, none⟩) N c) := hO 0 rfl
                      clear hE hO hN
                      refine step_plain0 rfl ?_
                      go_simp
                      exact hK _ _ rfl hM (Below.refl _ _)
                    · intro T2 w2 hM hN hO hE K hK
                      have o7 : T2[7]? = some (.int .i64 j) := hO 7 rfl
                      clear hE hO hN
                      refine step_plain0 rfl ?_
                      go_simp
                      exact hK _ _ rfl hM (Below.refl _ _)
                    · intro T2 w2 hM hN hO hE K hK
                      obtain ⟨v4, h4, e4⟩ := hE ⟨4, .data⟩ (by simp) rfl _ _ rfl rfl
                      rw [show v4 = .slice (some ⟨b, o, none⟩) N c from e4] at h4
                      obtain ⟨v5, h5, e5⟩ := hE ⟨5, .data⟩ (by simp) rfl _ _ rfl rfl
                      rw [show v5 = .int .i64 j from e5] at h5
                      clear hE hO hN
                      refine step_plain0 rfl ?_
                      go_simp
                      exact hK _ _ rfl hM (Below.refl _ _)
                    · intro T2 w2 hM hN hO hE K hK
                      obtain ⟨v6, h6, e6⟩ := hE ⟨6, .data⟩ (by simp) rfl _ _ rfl rfl
                      rw [show v6 = .pointer (some ⟨b, o + j * 7, none⟩) from e6] at h6
                      clear hE hO hN
                      refine step_plain0 rfl ?_
                      refine wp_load_run _ _ rfl (HL2.out w2 hM) (by simp [Act.eval, h6]) ?_
                      exact hK _ _ rfl hM (Below.refl _ _)
                    · intro T2 w2 hM hN hO hE K hK
                      obtain ⟨v3, h3, e3⟩ := hE ⟨3, .data⟩ (by simp) rfl _ _ rfl rfl
                      rw [show v3 = .agg VI from e3] at h3
                      obtain ⟨v7, h7, e7⟩ := hE ⟨7, .data⟩ (by simp) rfl _ _ rfl rfl
                      rw [show v7 = .agg VK from e7] at h7
                      clear hE hO hN
                      refine step_plain0 rfl ?_
                      go_simp
                      refine (HC1.out w2 hM).mono ?_
                      rintro e w3 ⟨rfl, hb⟩
                      exact hK _ _ rfl (hM.trans (hb.mono hM.size)) hb
                    · intro T2 w2 hM hN hO hE K hK
                      obtain ⟨v8, h8, e8⟩ := hE ⟨8, .data⟩ (by simp) rfl _ _ rfl rfl
                      rw [show v8 = .bool false from e8] at h8
                      clear hE hO hN
                      refine step_plain0 rfl ?_
                      go_simp
                      exact hK _ _ rfl hM (Below.refl _ _)
                    · intro T2 w2 hM hN hO hE K hK
                      have o0 : T2[0]? = some (.slice (some ⟨b, o, none⟩) N c) := hO 0 rfl
                      obtain ⟨v9, h9, e9⟩ := hE ⟨9, .guard⟩ (by simp) rfl _ _ rfl rfl
                      rw [show v9 = .bool false from e9] at h9
                      clear hE hO hN
                      refine grd_met rfl rfl rfl h9 ?_
                      go_simp
                      exact hK _ _ rfl hM (Below.refl _ _)
                    · intro T2 w2 hM hN hO hE K hK
                      have o6 : T2[6]? = some (.int .i64 i) := hO 6 rfl
                      obtain ⟨v9, h9, e9⟩ := hE ⟨9, .guard⟩ (by simp) rfl _ _ rfl rfl
                      rw [show v9 = .bool false from e9] at h9
                      clear hE hO hN
                      refine grd_met rfl rfl rfl h9 ?_
                      go_simp
                      exact hK _ _ rfl hM (Below.refl _ _)
                    · intro T2 w2 hM hN hO hE K hK
                      obtain ⟨v10, h10, e10⟩ := hE ⟨10, .data⟩ (by simp) rfl _ _ rfl rfl
                      rw [show v10 = .slice (some ⟨b, o, none⟩) N c from e10] at h10
                      obtain ⟨v11, h11, e11⟩ := hE ⟨11, .data⟩ (by simp) rfl _ _ rfl rfl
                      rw [show v11 = .int .i64 i from e11] at h11
                      obtain ⟨v9, h9, e9⟩ := hE ⟨9, .guard⟩ (by simp) rfl _ _ rfl rfl
                      rw [show v9 = .bool false from e9] at h9
                      clear hE hO hN
                      refine grd_met rfl rfl rfl h9 ?_
                      go_simp
                      exact hK _ _ rfl hM (Below.refl _ _)
                    · intro T2 w2 hM hN hO hE K hK
                      obtain ⟨v12, h12, e12⟩ := hE ⟨12, .data⟩ (by simp) rfl _ _ rfl rfl
                      rw [show v12 = .pointer (some ⟨b, o + i * 7, none⟩) from e12] at h12
                      obtain ⟨v9, h9, e9⟩ := hE ⟨9, .guard⟩ (by simp) rfl _ _ rfl rfl
                      rw [show v9 = .bool false from e9] at h9
                      clear hE hO hN
                      refine grd_met rfl rfl rfl h9 ?_
                      refine wp_load_run _ _ rfl (HL1.out w2 hM) (by simp [Act.eval, h12]) ?_
                      exact hK _ _ rfl hM (Below.refl _ _)
                    · intro T2 w2 hM hN hO hE K hK
                      obtain ⟨v13, h13, e13⟩ := hE ⟨13, .data⟩ (by simp) rfl _ _ rfl rfl
                      rw [show v13 = .agg VI from e13] at h13
                      obtain ⟨v9, h9, e9⟩ := hE ⟨9, .guard⟩ (by simp) rfl _ _ rfl rfl
                      rw [show v9 = .bool false from e9] at h9
                      clear hE hO hN
                      refine grd_met rfl rfl rfl h9 ?_
                      go_simp
                      refine (HC2.out w2 hM).mono ?_
                      rintro e w3 ⟨rfl, hb⟩
                      exact hK _ _ rfl (hM.trans (hb.mono hM.size)) hb
                    · intro T2 w2 hM hN hO hE K hK
                      have o0 : T2[0]? = some (.slice (some ⟨b, o, none⟩) N c) := hO 0 rfl
                      obtain ⟨v9, h9, e9⟩ := hE ⟨9, .guard⟩ (by simp) rfl _ _ rfl rfl
                      rw [show v9 = .bool false from e9] at h9
                      clear hE hO hN
                      refine grd_met rfl rfl rfl h9 ?_
                      go_simp
                      exact hK _ _ rfl hM (Below.refl _ _)
                    · intro T2 w2 hM hN hO hE K hK
                      have o7 : T2[7]? = some (.int .i64 j) := hO 7 rfl
                      obtain ⟨v9, h9, e9⟩ := hE ⟨9, .guard⟩ (by simp) rfl _ _ rfl rfl
                      rw [show v9 = .bool false from e9] at h9
                      clear hE hO hN
                      refine grd_met rfl rfl rfl h9 ?_
                      go_simp
                      exact hK _ _ rfl hM (Below.refl _ _)
                    · intro T2 w2 hM hN hO hE K hK
                      obtain ⟨v15, h15, e15⟩ := hE ⟨15, .data⟩ (by simp) rfl _ _ rfl rfl
                      rw [show v15 = .slice (some ⟨b, o, none⟩) N c from e15] at h15
                      obtain ⟨v16, h16, e16⟩ := hE ⟨16, .data⟩ (by simp) rfl _ _ rfl rfl
                      rw [show v16 = .int .i64 j from e16] at h16
                      obtain ⟨v9, h9, e9⟩ := hE ⟨9, .guard⟩ (by simp) rfl _ _ rfl rfl
                      rw [show v9 = .bool false from e9] at h9
                      clear hE hO hN
                      refine grd_met rfl rfl rfl h9 ?_
                      go_simp
                      exact hK _ _ rfl hM (Below.refl _ _)
                    · intro T2 w2 hM hN hO hE K hK
                      obtain ⟨v17, h17, e17⟩ := hE ⟨17, .data⟩ (by simp) rfl _ _ rfl rfl
                      rw [show v17 = .pointer (some ⟨b, o + j * 7, none⟩) from e17] at h17
                      obtain ⟨v9, h9, e9⟩ := hE ⟨9, .guard⟩ (by simp) rfl _ _ rfl rfl
                      rw [show v9 = .bool false from e9] at h9
                      clear hE hO hN
                      refine grd_met rfl rfl rfl h9 ?_
                      refine wp_load_run _ _ rfl (HL2.out w2 hM) (by simp [Act.eval, h17]) ?_
                      exact hK _ _ rfl hM (Below.refl _ _)
                    · intro T2 w2 hM hN hO hE K hK
                      obtain ⟨v18, h18, e18⟩ := hE ⟨18, .data⟩ (by simp) rfl _ _ rfl rfl
                      rw [show v18 = .agg VK from e18] at h18
                      obtain ⟨v9, h9, e9⟩ := hE ⟨9, .guard⟩ (by simp) rfl _ _ rfl rfl
                      rw [show v9 = .bool false from e9] at h9
                      clear hE hO hN
                      refine grd_met rfl rfl rfl h9 ?_
                      go_simp
                      refine (HC3.out w2 hM).mono ?_
                      rintro e w3 ⟨rfl, hb⟩
                      exact hK _ _ rfl (hM.trans (hb.mono hM.size)) hb
                  · intro u w2 hM hF
                    have e9 : u 9 = .bool false := hF 9 (by omega)
                    have e14 : u 14 = .string SI := hF 14 (by omega)
                    have e19 : u 19 = .string SK := hF 19 (by omega)
                    clear hF
                    simp only [fillAll, Nat.reduceAdd, e9, e14, e19, List.take_succ_cons, List.take_zero, List.drop_succ_cons, List.drop_zero, List.setIfInBounds_toArray, List.set_cons_succ, List.set_cons_zero]
                    go_wp2_with fail
                    go_roundw
                    case rel => exact ⟨j + 1, by omega, by go_num, HLOW3.out.trans (hM.mono HLOW3.out.size)⟩
                    case measure => simp [intOf]; omega
                · have hjl : ¬ (j : Int) < i := by omega
                  go_wp2_with fail
                  go_roundw
                  case rel => exact ⟨i + 1, by omega, by go_num, HLOW3.out⟩
                  case measure => simp [intOf]; omega
            · have hil : ¬ (i : Int) < N := by omega
              go_wp2_with (go_at_call 4; refine (HCF.out _ HLOW2.out).mono ?_; rintro e w3 ⟨rfl, hb3⟩; have HB3 := hid2 (HLOW2.out.trans (hb3.mono HLOW2.out.size)); clear hb3)
              go_ret
              exact ⟨rfl, HB3.out⟩
        · have hri : ¬ (r : Int) = 0 := by omega
          have hrb : ((r : Int) == 0) = false := by simpa using hr
          clear hr hri
          go_loopw [6, 7] (fun iv jv wr => iv = .int .i64 0 ∧ Below w.heap.size w wr) (fun iv _ _ => 0)
          case atStart => exact ⟨rfl, HB2.out⟩
          case round =>
            obtain ⟨rfl, hlow⟩ := hrel
            have HLOW2 := hid2 hlow
            clear hlow
            go_wp2_with (go_at_call 4; refine (HCF.out _ HLOW2.out).mono ?_; rintro e w3 ⟨rfl, hb3⟩; have HB3 := hid2 (HLOW2.out.trans (hb3.mono HLOW2.out.size)); clear hb3)
            go_ret
            exact ⟨rfl, HB3.out⟩
  · have h10i : (10 : Int) < N := by omega
    go_enter Tryz.func3, Tryz.ntmps3
    go_wp2_with (go_at_call 4; refine (HCF.out _ (Below.refl _ _)).mono ?_; rintro e w3 ⟨rfl, hb3⟩)
    go_ret
    exact ⟨rfl, hb3⟩
end Go.Proofs.YtjjpecggcjggpaaGreatDoor
/- How a law's statement is closed: what is kept below the call's own floor reads as it did. -/
namespace Go.Proofs.YtjjpecggcjggpaaGreatDoor
open Go.ChangeShapes Go.WideShapes Go.ChangeAt Go.RowKit
variable {H : Type} {enc : TypeId × Value → H} {P : Program}
theorem own_knob : ownKnob Tryz.prog.godebug = none := by kernel_rfl
/-- one bool comes back, all else reads as it did -/
theorem post_law {f : Func} {s : ChangeSpec} {apart fresh handsOn : Bool} {W W' : World} {args : Array Value} {v : Value} {ds gs : List (DataW H)} {before pa pv : List MemPlace}
    (hW : DataW.Whole enc P f.params.toList s.vars apart W args.toList ds gs before)
    (hres : ∀ (b : Nat) (sp : Nat → Bool) (hd : Bool), DataW.TrodAll enc P W' b sp hd f.resultTypes.toList (v.resultList f.resultTypes.size) (s.fn H (ds ++ gs)).results [])
    (hargs : ∀ sp : Nat → Bool, (∀ p ∈ before, sp p.block = true) → DataW.TrodAll enc P W' 0 sp true f.params.toList args.toList (s.fn H (ds ++ gs)).args pa)
    (hvars : ∀ sp : Nat → Bool, (∀ p ∈ before, sp p.block = true) → DataW.TrodVars enc P W' sp s.vars (s.fn H (ds ++ gs)).vars pv)
    (hps : before = pa ++ pv) (hk : W.keptBut W' (· ∈ before)) : s.post enc P f apart fresh handsOn false W args v W' := by
  have hold : ∀ p ∈ before, (fun b => decide (b < W.heap.size)) p.block = true := fun p hp => by simpa using hW.lt p hp
  refine ⟨ds, gs, before, [], pa, pv, hW, hres _ _ _, hargs _ hold, hvars _ hold, World.keptBut_mono (fun p hp => ⟨hp, ?_⟩) hk, fun h => nomatch h⟩
  rw [hps, List.mem_append] at hp
  exact Or.inr hp
/-- arguments read as they did -/
theorem args_stay (hl : laidOutB P = true) {W W' : World} (hb : Below W.heap.size W W') : ∀ (ts : List TypeId) (vs : List Value) (ds : List (DataW H)) (p : List MemPlace), (∀ t ∈ ts, P.readableRec t = true ∧ t < P.types.size) →
    DataW.TrodAll enc P W 0 (fun _ => true) true ts vs ds p → (∀ x ∈ p, x.block < W.heap.size) → DataW.TrodAll enc P W' 0 (fun b => decide (b < W.heap.size)) true ts vs ds p
  | [], [], [], _, _, h, _ => h
  | t :: ts, v :: vs, d :: ds, _, ht, ⟨p, q, h1, h2, rfl⟩, hlt =>
    ⟨p, q, Below.trod hl (ht t (by simp)).1 (ht t (by simp)).2 h1 hb (fun x hx => hlt x (by simp [hx])), args_stay hl hb ts vs ds q (fun t' h' => ht t' (by simp [h'])) h2 (fun x hx => hlt x (by simp [hx])), rfl⟩
  | [], [], _ :: _, _, _, h, _ => h.elim
  | [], _ :: _, _, _, _, h, _ => h.elim
  | _ :: _, [], _, _, _, h, _ => h.elim
  | _ :: _, _ :: _, [], _, _, h, _ => h.elim
/-- a law's end: true came back, and nothing below the call's own floor was touched -/
theorem law_close {f : Func} {s : ChangeSpec} {W W' : World} {args : Array Value} {ds gs : List (DataW H)} {before : List MemPlace} {tb : TypeId}
    (hl : laidOutB P = true) (hts : (f.params.toList.all fun t => P.readableRec t && decide (t < P.types.size)) = true) (hrt : f.resultTypes = #[tb]) (hbool : P.underlying tb = some .bool) (hvs : s.vars = [])
    (hW : DataW.Whole enc P f.params.toList s.vars false W args.toList ds gs before)
    (hfn : s.fn H (ds ++ gs) = { results := [.lit (.bool true)], args := ds }) (hb : Below W.heap.size W W') : s.post enc P f false true false false W args (.bool true) W' := by
  have hlt := hW.lt
  have hW0 := hW
  obtain ⟨p, q, hA, hV, rfl, hfz, hnd⟩ := hW
  rw [hvs] at hV
  obtain ⟨rfl, rfl⟩ := trodVars_none hV
  rw [List.append_nil] at hlt hW0
  refine ⟨ds, [], p, [], p, [], hW0, ?_, ?_, ?_, World.keptBut_mono (fun x hx => ⟨hx, Or.inr (Or.inl hx)⟩) (hb.frame _), fun h => nomatch h⟩
  · rw [hfn, hrt]
    exact trodAll_cons_mk (shut_bool hbool _) trodAll_mk0
  · rw [hfn]
    exact args_stay hl hb _ _ _ _ (fun t ht => by have := List.all_eq_true.1 hts t ht; simpa using this) hA hlt
  · rw [hfn, hvs]
    exact rfl
end Go.Proofs.YtjjpecggcjggpaaGreatDoor
/- An action as an argument: opened. What a row lists of the table of powers of ten. -/
namespace Go.Proofs.YtjjpecggcjggpaaGreatDoor
open Go.ChangeShapes Go.WideShapes Go.ChangeAt Go.RowKit
set_option maxRecDepth 100000
variable {H : Type} {enc : TypeId × Value → H}
theorem strV_of (ps : List ByteArray) : strV (ps.map fun s => s.data.toList) = ps.map Value.string := by
  rw [strV, List.map_map]
  exact List.map_congr_left fun s _ => by show Value.string (strB s.data.toList) = _; rw [strB_of]
theorem open_rowT {W : World} {n : Nat} {v : Value} {x : DataW H × List MemPlace} (hf : DataW.trod enc Tryz.prog W 0 (fun _ => true) true n 28 [v] = some x) :
    ∃ (A : Option Addr) (c : Nat) (l : List Tx), v = .slice A l.length c ∧ Rd W 1 A l.length (strV l) ∧ l.length ≤ maxLen := by
  rcases open_strings Tryz.underlying28 Tryz.underlying9 (by kernel_rfl) hf with ⟨h1, h2⟩ | ⟨a, len, cap, ss, h1, _, hlc, hcm, hl, h2, h3, h4⟩
  · exact ⟨none, 0, [], by simpa using h1, Rd.none_ _ _ _, by unfold maxLen; simp⟩
  · have hl' : ss.length = cap := by simpa using hl
    have hll : ((ss.take len).map fun s => s.data.toList).length = len := by simp; omega
    refine ⟨some a, cap, (ss.take len).map fun s => s.data.toList, by rw [hll]; simpa using h1, ?_, by rw [hll]; omega⟩
    rw [hll, strV_of]
    refine ⟨by simp; omega, fun h0 => ?_⟩
    obtain ⟨b, o, sp⟩ := a
    have h30 := h3 0 (by omega)
    cases sp with
    | some x =>
      exfalso
      unfold World.cell? at h30
      split at h30
      · simp [Addr.add] at h30
      · cases h30
    | none =>
      refine ⟨b, o, rfl, fun j u hu => ?_⟩
      have hj : j < len := by
        rcases Nat.lt_or_ge j len with h | h
        · exact h
        · rw [List.getElem?_eq_none (by simp; omega)] at hu; cases hu
      have h := h3 j (by omega)
      rw [addr_add] at h
      rw [h, ← hu]
      rw [List.getElem?_map, List.getElem?_take, if_pos hj, List.getD_eq_getElem?_getD, List.getElem?_eq_getElem (show j < ss.length by omega)]
      rfl
theorem open_setting {W : World} {sp : Nat → Bool} {n : Nat} {cs : List Value} {x : DataW H × List MemPlace} (h : DataW.trod enc Tryz.prog W 0 sp true n 42 cs = some x) : ∃ p : SetE, cs = [.string (strB p.1), .string (strB p.2)] := by
  obtain ⟨xs, m, rfl, rfl, hlen, hxl, hf⟩ := DataW.trod_struct Tryz.underlying42 h
  have h2 : Tryz.prog.cellsOf 42 = 2 := by kernel_rfl
  have hc : Tryz.prog.cellsOf 9 = 1 := by kernel_rfl
  rw [h2] at hlen
  obtain ⟨v0, v1, rfl⟩ : ∃ v0 v1, cs = [v0, v1] := by
    match cs, hlen with
    | [v0, v1], _ => exact ⟨v0, v1, rfl⟩
  obtain ⟨x0, x1, rfl⟩ : ∃ x0 x1, xs = [x0, x1] := by
    match xs, hxl with
    | [x0, x1], _ => exact ⟨x0, x1, rfl⟩
  have h0 : DataW.trod enc Tryz.prog W 0 sp true m 9 ((List.drop 0 [v0, v1]).take (Tryz.prog.cellsOf 9)) = some x0 := hf 0 _ rfl
  have h1 : DataW.trod enc Tryz.prog W 0 sp true m 9 ((List.drop 1 [v0, v1]).take (Tryz.prog.cellsOf 9)) = some x1 := hf 1 _ rfl
  rw [hc] at h0 h1
  obtain ⟨s0, e0, r0, _⟩ := DataW.trod_string Tryz.underlying9 (show DataW.trod enc Tryz.prog W 0 sp true m 9 [v0] = some x0 from h0)
  obtain ⟨s1, e1, r1, _⟩ := DataW.trod_string Tryz.underlying9 (show DataW.trod enc Tryz.prog W 0 sp true m 9 [v1] = some x1 from h1)
  obtain ⟨rfl⟩ := e0
  obtain ⟨rfl⟩ := e1
  exact ⟨(s0.data.toList, s1.data.toList), by rw [strB_of, strB_of]⟩
instance : Inhabited SetE := ⟨([], [])⟩
theorem setsV_at : ∀ {l : List SetE} (j : Nat) (u : Value), (setsV l)[j]? = some u → ∃ i p r, l[i]? = some p ∧ ([Value.string (strB p.1), .string (strB p.2)] : List Value)[r]? = some u ∧ j = i * 2 + r
  | [], j, u, h => by simp [setsV] at h
  | x :: q, j, u, h => by
    rw [setsV, List.flatMap_cons] at h
    rcases Nat.lt_or_ge j 2 with hj | hj
    · rw [List.getElem?_append_left (by simpa using hj)] at h
      exact ⟨0, x, j, rfl, h, by omega⟩
    · rw [List.getElem?_append_right (by simpa using hj)] at h
      obtain ⟨i, a, r, h1, h2, h3⟩ := setsV_at (l := q) _ u h
      exact ⟨i + 1, a, r, by simpa using h1, h2, by simp at h3; omega⟩
theorem open_setsT {W : World} {n : Nat} {v : Value} {x : DataW H × List MemPlace} (hf : DataW.trod enc Tryz.prog W 0 (fun _ => true) true n 27 [v] = some x) :
    ∃ (A : Option Addr) (c : Nat) (l : List SetE), v = .slice A l.length c ∧ Rd W 2 A l.length (setsV l) ∧ l.length ≤ maxLen := by
  have h2 : Tryz.prog.cellsOf 42 = 2 := by kernel_rfl
  rcases Go.Deep.open_slice Tryz.underlying27 hf with ⟨h1, _⟩ | ⟨a, len, cap, m, n', D, Pl, h1, _, hlc, hcm, hm, hx, hel⟩
  · exact ⟨none, 0, [], by simpa using h1, Rd.none_ _ _ _, by unfold maxLen; simp⟩
  · have hml : len ≤ m := by rw [hm]; split <;> omega
    have hch : ∀ i, i < len → ∃ e : SetE, W.cells? 0 (a.add (i * 2)) 2 = some [.string (strB e.1), .string (strB e.2)] := fun i hi => by
      obtain ⟨cs, hc, ht⟩ := hel i (by omega)
      obtain ⟨e, rfl⟩ := open_setting ht
      rw [h2] at hc
      exact ⟨e, hc⟩
    obtain ⟨V, hV⟩ := Go.Deep.choose_lt (α := SetE) (p := fun i e => W.cells? 0 (a.add (i * 2)) 2 = some [.string (strB e.1), .string (strB e.2)]) hch
    have hll : ((List.range len).map V).length = len := by simp
    have hget : ∀ i e, ((List.range len).map V)[i]? = some e → i < len ∧ e = V i := fun i e h => by
      rw [List.getElem?_map] at h
      obtain ⟨q, hq, rfl⟩ := Option.map_eq_some_iff.1 h
      obtain ⟨hi, hqi⟩ := List.getElem?_eq_some_iff.1 hq
      rw [List.getElem_range] at hqi
      subst hqi
      exact ⟨by simpa using hi, rfl⟩
    refine ⟨some a, cap, (List.range len).map V, by rw [hll]; simpa using h1, ?_, by rw [hll]; omega⟩
    refine ⟨setsV_length _, fun h0 => ?_⟩
    obtain ⟨b, o, sp⟩ := a
    have hc0 := (World.cells?_some (hV 0 (by omega))).2.2 0 (by omega)
    cases sp with
    | some x =>
      exfalso
      rw [Addr.add, Addr.add] at hc0
      unfold World.cell? at hc0
      split at hc0
      · simp at hc0
      · simp at hc0
    | none =>
      refine ⟨b, o, rfl, fun j u hu => ?_⟩
      obtain ⟨i, e, r, h1, h3, rfl⟩ := setsV_at j u hu
      obtain ⟨hi, rfl⟩ := hget i e h1
      have hr2 : r < 2 := by
        have := (List.getElem?_eq_some_iff.1 h3).1
        simpa using this
      have := (World.cells?_some (hV i hi)).2.2 r hr2
      rw [h3, addr_add, addr_add] at this
      rw [← this, Nat.add_assoc]
theorem open_label {W : World} {sp : Nat → Bool} {n : Nat} {cs : List Value} {x : DataW H × List MemPlace} (h : DataW.trod enc Tryz.prog W 0 sp true n 26 cs = some x) : ∃ s t : ByteArray, cs = [.string s, .string t] := by
  obtain ⟨xs, m, rfl, rfl, hlen, hxl, hf⟩ := DataW.trod_struct Tryz.underlying26 h
  have h2 : Tryz.prog.cellsOf 26 = 2 := by kernel_rfl
  have hc : Tryz.prog.cellsOf 9 = 1 := by kernel_rfl
  rw [h2] at hlen
  obtain ⟨v0, v1, rfl⟩ : ∃ v0 v1, cs = [v0, v1] := by
    match cs, hlen with
    | [v0, v1], _ => exact ⟨v0, v1, rfl⟩
  obtain ⟨x0, x1, rfl⟩ : ∃ x0 x1, xs = [x0, x1] := by
    match xs, hxl with
    | [x0, x1], _ => exact ⟨x0, x1, rfl⟩
  have h0 : DataW.trod enc Tryz.prog W 0 sp true m 9 ((List.drop 0 [v0, v1]).take (Tryz.prog.cellsOf 9)) = some x0 := hf 0 _ rfl
  have h1 : DataW.trod enc Tryz.prog W 0 sp true m 9 ((List.drop 1 [v0, v1]).take (Tryz.prog.cellsOf 9)) = some x1 := hf 1 _ rfl
  rw [hc] at h0 h1
  obtain ⟨s0, e0, r0, _⟩ := DataW.trod_string Tryz.underlying9 (show DataW.trod enc Tryz.prog W 0 sp true m 9 [v0] = some x0 from h0)
  obtain ⟨s1, e1, r1, _⟩ := DataW.trod_string Tryz.underlying9 (show DataW.trod enc Tryz.prog W 0 sp true m 9 [v1] = some x1 from h1)
  obtain ⟨rfl⟩ := e0
  obtain ⟨rfl⟩ := e1
  exact ⟨_, _, rfl⟩
/-- an owner, opened -/
theorem open_owner {W : World} {b0 : Nat} {v : Value} {d : DataW H} {p : List MemPlace} (h : DataW.Trod enc Tryz.prog W 0 (fun _ => true) true 26 v d p) (hval : Value.okWide Tryz.prog W .any b0 26 v) :
    ∃ pk nm : ByteArray, v = .agg #[.string pk, .string nm] := by
  obtain ⟨fuel, hf⟩ := h
  have hag : ∃ cs : Array Value, v = .agg cs := by
    unfold Value.okWide at hval
    rw [Tryz.underlying26] at hval
    obtain ⟨cs, rfl, _⟩ := hval
    exact ⟨cs, rfl⟩
  obtain ⟨cs, rfl⟩ := hag
  obtain ⟨s, t, e⟩ := open_label hf
  refine ⟨s, t, ?_⟩
  have hcc : (Value.agg cs).cells.toList = cs.toList := rfl
  obtain ⟨l⟩ := cs
  have hl : l = [.string s, .string t] := e
  rw [hl]
/-- an action, opened -/
theorem open_action {W : World} {b0 : Nat} {v : Value} {d : DataW H} {p : List MemPlace} (h : DataW.Trod enc Tryz.prog W 0 (fun _ => true) true 30 v d p) (hval : Value.okWide Tryz.prog W .any b0 30 v) :
    ∃ (L : LayA) (a : ActK), v = .agg (actV L a) ∧ ActAt W L a := by
  obtain ⟨fuel, hf⟩ := h
  have hag : ∃ cs : Array Value, v = .agg cs := by
    unfold Value.okWide at hval
    rw [Tryz.underlying30] at hval
    obtain ⟨cs, rfl, _⟩ := hval
    exact ⟨cs, rfl⟩
  obtain ⟨cs, rfl⟩ := hag
  obtain ⟨xs, m, rfl, hx, hlen, hxl, hel⟩ := DataW.trod_struct Tryz.underlying30 hf
  have h7 : Tryz.prog.cellsOf 30 = 7 := by kernel_rfl
  have hcl : Tryz.prog.cellsOf 26 = 2 := by kernel_rfl
  have hcs : Tryz.prog.cellsOf 9 = 1 := by kernel_rfl
  have hce : Tryz.prog.cellsOf 27 = 1 := by kernel_rfl
  have hcr : Tryz.prog.cellsOf 28 = 1 := by kernel_rfl
  rw [h7] at hlen
  have hcc : (Value.agg cs).cells = cs := rfl
  rw [hcc] at hel hlen
  obtain ⟨l⟩ := cs
  match l, hlen, xs, hxl with
  | [v0, v1, v2, v3, v4, v5, v6], _, [x0, x1, x2, x3, x4, x5], _ =>
    have t0 : DataW.trod enc Tryz.prog W 0 (fun _ => true) true m 26 ((List.drop 0 [v0, v1, v2, v3, v4, v5, v6]).take (Tryz.prog.cellsOf 26)) = some x0 := hel 0 _ rfl
    have t1 : DataW.trod enc Tryz.prog W 0 (fun _ => true) true m 9 ((List.drop 2 [v0, v1, v2, v3, v4, v5, v6]).take (Tryz.prog.cellsOf 9)) = some x1 := hel 1 _ rfl
    have t2 : DataW.trod enc Tryz.prog W 0 (fun _ => true) true m 27 ((List.drop 3 [v0, v1, v2, v3, v4, v5, v6]).take (Tryz.prog.cellsOf 27)) = some x2 := hel 2 _ rfl
    have t3 : DataW.trod enc Tryz.prog W 0 (fun _ => true) true m 28 ((List.drop 4 [v0, v1, v2, v3, v4, v5, v6]).take (Tryz.prog.cellsOf 28)) = some x3 := hel 3 _ rfl
    have t4 : DataW.trod enc Tryz.prog W 0 (fun _ => true) true m 28 ((List.drop 5 [v0, v1, v2, v3, v4, v5, v6]).take (Tryz.prog.cellsOf 28)) = some x4 := hel 4 _ rfl
    have t5 : DataW.trod enc Tryz.prog W 0 (fun _ => true) true m 28 ((List.drop 6 [v0, v1, v2, v3, v4, v5, v6]).take (Tryz.prog.cellsOf 28)) = some x5 := hel 5 _ rfl
    rw [hcl] at t0
    rw [hcs] at t1
    rw [hce] at t2
    rw [hcr] at t3 t4 t5
    obtain ⟨pk, nm, e0⟩ := open_label (show DataW.trod enc Tryz.prog W 0 (fun _ => true) true m 26 [v0, v1] = some x0 from t0)
    obtain ⟨s1, e1, _, _⟩ := DataW.trod_string Tryz.underlying9 (show DataW.trod enc Tryz.prog W 0 (fun _ => true) true m 9 [v2] = some x1 from t1)
    obtain ⟨AE, cE, lE, rfl, rE, mE⟩ := open_setsT (show DataW.trod enc Tryz.prog W 0 (fun _ => true) true m 27 [v3] = some x2 from t2)
    obtain ⟨AI, cI, lI, rfl, rI, mI⟩ := open_rowT (show DataW.trod enc Tryz.prog W 0 (fun _ => true) true m 28 [v4] = some x3 from t3)
    obtain ⟨AA, cA, lA, rfl, rA, mA⟩ := open_rowT (show DataW.trod enc Tryz.prog W 0 (fun _ => true) true m 28 [v5] = some x4 from t4)
    obtain ⟨AO, cO, lO, rfl, rO, mO⟩ := open_rowT (show DataW.trod enc Tryz.prog W 0 (fun _ => true) true m 28 [v6] = some x5 from t5)
    obtain ⟨rfl, rfl⟩ : v0 = .string pk ∧ v1 = .string nm := by simpa using e0
    obtain ⟨rfl⟩ := e1
    refine ⟨⟨pk, nm, AE, AI, AA, AO, cE, cI, cA, cO⟩, ⟨s1.data.toList, lE, lI, lA, lO⟩, ?_, ⟨rE, rI, rA, rO, mE, mI, mA, mO⟩⟩
    unfold actV
    simp only [strB_of]
theorem tabs_of {W : World} {a b : String × DataW Unit} (h : laidMet Tryz.prog [a, b, ("internal/strconv.uint64pow10", Lib.tabData .u64 Lib.pow10Tab)] W) : Tabs W := by
  have h3 := h.tail.tail
  refine Lib.tabBelow_of_tabIs ?_
  exact Lib.tabIs_of_head (g := 0) (t := 160) (e := 97) (n := 20) (by kernel_rfl) (by kernel_rfl) Tryz.underlying160 Tryz.underlying97 (by kernel_rfl) (by kernel_rfl) h3
end Go.Proofs.YtjjpecggcjggpaaGreatDoor
/- A law's frame where a listed variable is laid and the world's shape is wanted too. -/
namespace Go.Proofs.YtjjpecggcjggpaaGreatDoor
open Go.ChangeShapes Go.WideShapes Go.ChangeAt Go.RowKit
theorem returns_laid_shaped {H : Type} {enc : TypeId × Value → H} {a : Assume} {C : Checked} {os : Os} {f : FuncId} {fn : Func} {s : ChangeSpec} {conds : List PathCond} {apart fresh handsOn again : Bool} {X : World → Array Value → Prop}
    (hX : ∀ (w w' : World) (args : Array Value), w.heap = w'.heap → X w args → X w' args)
    (own : ownKnob C.prog.godebug = none) (started : os.Started) (noInit : C.prog.inits.idxOf? f = none) (hfn : C.prog.funcs[f]? = some fn)
    (witness : ∃ (w : World) (tape : Tape) (i : Input), w.os = os ∧ (w.forCall tape i).Shaped C.prog ∧ i.vars = [] ∧ Input.okWide C.prog (w.forCall tape i) .any w.heap.size f i ∧
      ((s.pre enc C.prog fn conds apart (w.forCall tape i).memory i.args ∧ X (w.forCall tape i).memory i.args) ∧ sizedMet enc C.prog fn (OpenSpec.ofChange s) apart (w.forCall tape i).memory i.args) ∧ a.holds C.prog (lone (Frame.enter C.prog f i.args .normal) [] (w.forCall tape i)))
    (contract : ∀ (W : World) (base : Nat) (args : Array Value) (ds gs : List (DataW H)) (before : List MemPlace),
      (∀ (j : Nat) t v, fn.params[j]? = some t → args[j]? = some v → Value.okWide C.prog W .any base t v) →
      DataW.Whole enc C.prog fn.params.toList s.vars apart W args.toList ds gs before →
      (DataW.weightsEach C.prog (fn.params.toList ++ s.plain.varTypes C.prog) (ds ++ gs)).all (· ≤ reachBytes) = true → X W args → W.ShapedOpen C.prog →
      Calls C.prog f args W fun e W' => ∃ v, e = .returned v ∧ s.post enc C.prog fn apart fresh handsOn again W args v W') :
    ReturnsInHanded a C os f .any (fun w args => (s.pre enc C.prog fn conds apart w args ∧ X w args) ∧ sizedMet enc C.prog fn (OpenSpec.ofChange s) apart w args) (s.post enc C.prog fn apart fresh handsOn again) := by
  refine returnsInHanded_of_calls own started noInit witness ?_
  intro w tape i _ hsh _ hok hpre _
  obtain ⟨_, _, _, fn', hfn', _, _, _, _, hval⟩ := hok
  obtain rfl : fn' = fn := Option.some.inj (hfn'.symm.trans hfn)
  obtain ⟨⟨⟨ds, gs, before, hw, _⟩, hx⟩, hz⟩ := hpre
  have hw2 := DataW.Whole.of_heap (w' := w.forCall tape i) (by rfl) hw
  refine (contract (w.forCall tape i) w.heap.size i.args ds gs before hval hw2 (hz.weights hw) (hX _ _ _ (by rfl) hx) hsh).mono fun e W' ⟨v, he, hp⟩ => ?_
  subst he
  exact ChangeSpec.post_blind hp
end Go.Proofs.YtjjpecggcjggpaaGreatDoor
/- A row of actions as an argument: opened. What the row lists, and the world's shape. -/
namespace Go.Proofs.YtjjpecggcjggpaaGreatDoor
open Go.ChangeShapes Go.WideShapes Go.ChangeAt Go.RowKit
set_option maxRecDepth 100000
variable {H : Type} {enc : TypeId × Value → H}
theorem open_actT {W : World} {n : Nat} {cs : List Value} {x : DataW H × List MemPlace} (hf : DataW.trod enc Tryz.prog W 0 (fun _ => true) true n 30 cs = some x) :
    ∃ y : ActR, cs = (actV y.1 y.2).toList ∧ ActAt W y.1 y.2 := by
  obtain ⟨xs, m, rfl, hx, hlen, hxl, hel⟩ := DataW.trod_struct Tryz.underlying30 hf
  have h7 : Tryz.prog.cellsOf 30 = 7 := by kernel_rfl
  have hcl : Tryz.prog.cellsOf 26 = 2 := by kernel_rfl
  have hcs : Tryz.prog.cellsOf 9 = 1 := by kernel_rfl
  have hce : Tryz.prog.cellsOf 27 = 1 := by kernel_rfl
  have hcr : Tryz.prog.cellsOf 28 = 1 := by kernel_rfl
  rw [h7] at hlen
  match cs, hlen, xs, hxl with
  | [v0, v1, v2, v3, v4, v5, v6], _, [x0, x1, x2, x3, x4, x5], _ =>
    have t0 : DataW.trod enc Tryz.prog W 0 (fun _ => true) true m 26 ((List.drop 0 [v0, v1, v2, v3, v4, v5, v6]).take (Tryz.prog.cellsOf 26)) = some x0 := hel 0 _ rfl
    have t1 : DataW.trod enc Tryz.prog W 0 (fun _ => true) true m 9 ((List.drop 2 [v0, v1, v2, v3, v4, v5, v6]).take (Tryz.prog.cellsOf 9)) = some x1 := hel 1 _ rfl
    have t2 : DataW.trod enc Tryz.prog W 0 (fun _ => true) true m 27 ((List.drop 3 [v0, v1, v2, v3, v4, v5, v6]).take (Tryz.prog.cellsOf 27)) = some x2 := hel 2 _ rfl
    have t3 : DataW.trod enc Tryz.prog W 0 (fun _ => true) true m 28 ((List.drop 4 [v0, v1, v2, v3, v4, v5, v6]).take (Tryz.prog.cellsOf 28)) = some x3 := hel 3 _ rfl
    have t4 : DataW.trod enc Tryz.prog W 0 (fun _ => true) true m 28 ((List.drop 5 [v0, v1, v2, v3, v4, v5, v6]).take (Tryz.prog.cellsOf 28)) = some x4 := hel 4 _ rfl
    have t5 : DataW.trod enc Tryz.prog W 0 (fun _ => true) true m 28 ((List.drop 6 [v0, v1, v2, v3, v4, v5, v6]).take (Tryz.prog.cellsOf 28)) = some x5 := hel 5 _ rfl
    rw [hcl] at t0
    rw [hcs] at t1
    rw [hce] at t2
    rw [hcr] at t3 t4 t5
    obtain ⟨pk, nm, e0⟩ := open_label (show DataW.trod enc Tryz.prog W 0 (fun _ => true) true m 26 [v0, v1] = some x0 from t0)
    obtain ⟨s1, e1, _, _⟩ := DataW.trod_string Tryz.underlying9 (show DataW.trod enc Tryz.prog W 0 (fun _ => true) true m 9 [v2] = some x1 from t1)
    obtain ⟨AE, cE, lE, rfl, rE, mE⟩ := open_setsT (show DataW.trod enc Tryz.prog W 0 (fun _ => true) true m 27 [v3] = some x2 from t2)
    obtain ⟨AI, cI, lI, rfl, rI, mI⟩ := open_rowT (show DataW.trod enc Tryz.prog W 0 (fun _ => true) true m 28 [v4] = some x3 from t3)
    obtain ⟨AA, cA, lA, rfl, rA, mA⟩ := open_rowT (show DataW.trod enc Tryz.prog W 0 (fun _ => true) true m 28 [v5] = some x4 from t4)
    obtain ⟨AO, cO, lO, rfl, rO, mO⟩ := open_rowT (show DataW.trod enc Tryz.prog W 0 (fun _ => true) true m 28 [v6] = some x5 from t5)
    obtain ⟨rfl, rfl⟩ : v0 = .string pk ∧ v1 = .string nm := by simpa using e0
    obtain ⟨rfl⟩ := e1
    refine ⟨(⟨pk, nm, AE, AI, AA, AO, cE, cI, cA, cO⟩, ⟨s1.data.toList, lE, lI, lA, lO⟩), ?_, ⟨rE, rI, rA, rO, mE, mI, mA, mO⟩⟩
    unfold actV
    simp only [strB_of]
instance : Inhabited LayA := ⟨⟨⟨#[]⟩, ⟨#[]⟩, none, none, none, none, 0, 0, 0, 0⟩⟩
instance : Inhabited ActK := ⟨⟨[], [], [], [], []⟩⟩
theorem actsV_at : ∀ {X : List ActR} (j : Nat) (u : Value), (actsV X)[j]? = some u → ∃ i p r, X[i]? = some p ∧ (actV p.1 p.2).toList[r]? = some u ∧ j = i * 7 + r
  | [], j, u, h => by simp [actsV] at h
  | x :: q, j, u, h => by
    rw [actsV, List.flatMap_cons] at h
    rcases Nat.lt_or_ge j 7 with hj | hj
    · rw [List.getElem?_append_left (by rw [actV_len]; exact hj)] at h
      exact ⟨0, x, j, rfl, h, by omega⟩
    · rw [List.getElem?_append_right (by rw [actV_len]; exact hj)] at h
      obtain ⟨i, a, r, h1, h2, h3⟩ := actsV_at (X := q) _ u h
      exact ⟨i + 1, a, r, by simpa using h1, h2, by rw [actV_len] at h3; omega⟩
theorem open_acts {W : World} {b0 : Nat} {v : Value} {d : DataW H} {p : List MemPlace} (h : DataW.Trod enc Tryz.prog W 0 (fun _ => true) true 22 v d p) (hval : Value.okWide Tryz.prog W .any b0 22 v) :
    ∃ (A : Option Addr) (c : Nat) (X : List ActR), v = .slice A X.length c ∧ ActsAt W A X ∧ X.length ≤ maxLen := by
  obtain ⟨fuel, hf⟩ := h
  have hv : v.cells.toList = [v] := by
    rcases okWide_slice Tryz.underlying22 hval with ⟨A, n, c, rfl⟩
    rfl
  rw [hv] at hf
  have h7 : Tryz.prog.cellsOf 30 = 7 := by kernel_rfl
  rcases Go.Deep.open_slice Tryz.underlying22 hf with ⟨h1, _⟩ | ⟨a, len, cap, m, n', D, Pl, h1, _, hlc, hcm, hm, hx, hel⟩
  · exact ⟨none, 0, [], by simpa using h1, ⟨Rd.none_ _ _ _, fun x hx => by cases hx⟩, by unfold maxLen; simp⟩
  · have hml : len ≤ m := by rw [hm]; split <;> omega
    have hch : ∀ i, i < len → ∃ y : ActR, W.cells? 0 (a.add (i * 7)) 7 = some (actV y.1 y.2).toList ∧ ActAt W y.1 y.2 := fun i hi => by
      obtain ⟨cs, hc, ht⟩ := hel i (by omega)
      obtain ⟨y, rfl, hy⟩ := open_actT ht
      rw [h7] at hc
      exact ⟨y, hc, hy⟩
    obtain ⟨V, hV⟩ := Go.Deep.choose_lt (α := ActR) (p := fun i y => W.cells? 0 (a.add (i * 7)) 7 = some (actV y.1 y.2).toList ∧ ActAt W y.1 y.2) hch
    have hll : ((List.range len).map V).length = len := by simp
    have hget : ∀ i e, ((List.range len).map V)[i]? = some e → i < len ∧ e = V i := fun i e h => by
      rw [List.getElem?_map] at h
      obtain ⟨q, hq, rfl⟩ := Option.map_eq_some_iff.1 h
      obtain ⟨hi, hqi⟩ := List.getElem?_eq_some_iff.1 hq
      rw [List.getElem_range] at hqi
      subst hqi
      exact ⟨by simpa using hi, rfl⟩
    refine ⟨some a, cap, (List.range len).map V, by rw [hll]; simpa using h1, ⟨⟨actsV_length _, fun h0 => ?_⟩, fun y hy => ?_⟩, by rw [hll]; omega⟩
    · obtain ⟨b, o, sp⟩ := a
      have hc0 := (World.cells?_some (hV 0 (by rw [hll] at h0; exact h0)).1).2.2 0 (by omega)
      cases sp with
      | some x =>
        exfalso
        rw [Addr.add, Addr.add] at hc0
        unfold World.cell? at hc0
        split at hc0
        · simp [actV] at hc0
        · simp [actV] at hc0
      | none =>
        refine ⟨b, o, rfl, fun j u hu => ?_⟩
        obtain ⟨i, e, r, h1, h3, rfl⟩ := actsV_at j u hu
        obtain ⟨hi, rfl⟩ := hget i e h1
        have hr7 : r < 7 := by
          have := (List.getElem?_eq_some_iff.1 h3).1
          rwa [actV_len] at this
        have := (World.cells?_some (hV i hi).1).2.2 r hr7
        rw [h3, addr_add, addr_add] at this
        rw [← this, Nat.add_assoc]
    · obtain ⟨i, hi⟩ := List.getElem?_of_mem hy
      obtain ⟨hi2, rfl⟩ := hget i y hi
      exact (hV i hi2).2
theorem maxl_ofK {W : World} (h : W.ShapedOpen Tryz.prog) : MaxL W := Tryz.tlSplit.s1_3 W h
theorem tabs_ofK {W : World} {a b c d : String × DataW Unit} (h : laidMet Tryz.prog [a, b, ("internal/strconv.uint64pow10", Lib.tabData .u64 Lib.pow10Tab), c, d] W) : Tabs W := by
  have h3 := h.tail.tail
  refine Lib.tabBelow_of_tabIs ?_
  exact Lib.tabIs_of_head (g := 0) (t := 160) (e := 97) (n := 20) (by kernel_rfl) (by kernel_rfl) Tryz.underlying160 Tryz.underlying97 (by kernel_rfl) (by kernel_rfl) h3
end Go.Proofs.YtjjpecggcjggpaaGreatDoor
