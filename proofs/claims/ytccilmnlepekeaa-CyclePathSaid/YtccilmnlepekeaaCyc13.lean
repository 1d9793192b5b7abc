/- The walk of the program's far. -/
import Derived.Test.YtccilmnlepekeaaCyc12
namespace Go.Proofs.Ytccilmnlepekeaa
open Go.RowKit
set_option maxRecDepth 100000 in
set_option maxHeartbeats 4000000 in
theorem cfar_any (w : World) (A : Option Addr) (c : Nat) (G : List (List Int)) (hg : GRd w A (turnG G)) (hs : Small G) (to : Nat) (hto : to < G.length) :
    Calls Try.prog 27 #[.slice A G.length c, .int .i64 to] w fun e w' => CFarPost w G to e w' := by
  have hn := hs.n
  have hmi := made_int w G.length (by omega)
  have hgk := hg.k
  have hrow := fun (i : Nat) (hi : i < G.length) => hgk.row (Below.refl _ w) (turnG_get G hi)
  have hbl : ∀ i, (backs G i).length ≤ G.length := fun i => Nat.le_trans (List.length_filter_le _ _) (by simp)
  unfold CFarPost
  have hz := fun (l : List Int) (h1 : l.length = G.length) (h2 : ∀ q, q < G.length → l[q]? = some (-1)) => dstL_zero (to := to) h1 h2
  have hlz : Lev G to 0 [to] := Lev.zero hto
  have hld := fun (n : Nat) (h1 : 1 ≤ n) (h2 : n ≤ G.length + 1) (h : Lev G to n []) => lev_done h1 h2 h
  have hlb := fun (n : Nat) (row : List Nat) (h : Lev G to n row) (h0 : 0 < row.length) => lev_bound h h0
  have hll := fun (n : Nat) (row : List Nat) (h : Lev G to n row) => h.length
  have hml := fun (n : Nat) (seen next : List Nat) (h : Met G to n seen next) => h.length
  have hnx := fun (n : Nat) (row next : List Nat) (h : Lev G to n row) (hm : Met G to n (row.flatMap (backs G)) next) => lev_next hto h hm (fun k => seen_all k)
  have hul := updL_length G to
  have hun := updL_nil G to
  have hus := fun (n : Nat) (next : List Nat) (k : Nat) (h : k < G.length) => updL_set (to := to) (n := n) (next := next) h
  have hut := fun (n : Nat) (next : List Nat) (k : Nat) (x : Int) (hx : (updL G to n next)[k]? = some x) (hk : k < G.length) => updL_test hx hk
  have hur := fun (n : Nat) (row next seen : List Nat) (i : Nat) (h : Lev G to n row) (hm : Met G to n seen next) (hi : i ∈ row) => updL_row h hm hi
  have hma := fun (n : Nat) (seen next : List Nat) (k : Nat) (h : Met G to n seen next) (hk : k < G.length) (hd : dstA G to n k < 0) (hn : ¬ k ∈ next) => h.add hk hd hn
  have hms := fun (n : Nat) (seen next : List Nat) (k : Nat) (h : Met G to n seen next) (hd : 0 ≤ dstA G to n k ∨ k ∈ next) => h.skip hd
  have hbk := fun (i k : Nat) (h : k ∈ backs G i) => (backs_lt h).1
  have hm0 := Met.start G to
  have hzn : ¬ Lev G to 0 [] := fun h => by
    have h := (h.2 to).2 ⟨hto, by simp [dstA]⟩
    simp at h
  have hdl : (dstL G to G.length).length = G.length := by simp [dstL]
  obtain ⟨N, hN⟩ : ∃ N, N = G.length := ⟨_, rfl⟩
  rw [← hN] at hdl hn hmi hrow hbl hz hld hlb hll hml hul hus hut hur hma hbk hto ⊢
  obtain ⟨D, hD⟩ : ∃ D, D = dstL G to := ⟨_, rfl⟩
  obtain ⟨U, hU⟩ : ∃ U, U = updL G to := ⟨_, rfl⟩
  obtain ⟨B, hB⟩ : ∃ B, B = backs G := ⟨_, rfl⟩
  obtain ⟨LV, hLV⟩ : ∃ LV, LV = Lev G to := ⟨_, rfl⟩
  obtain ⟨MT, hMT⟩ : ∃ MT, MT = Met G to := ⟨_, rfl⟩
  obtain ⟨DA, hDA⟩ : ∃ DA, DA = dstA G to := ⟨_, rfl⟩
  have hTG : turnG G = (List.range N).map fun k => castI (B k) := by rw [hB, hN]; rfl
  rw [← hD, ← hLV] at hld
  rw [← hLV] at hlb hll hlz
  rw [← hMT] at hml hm0
  rw [← hD] at hz hdl
  rw [← hLV] at hzn
  rw [← hLV, ← hMT, ← hB, ← hU, ← hD] at hnx
  rw [← hU] at hul hus
  rw [← hU, ← hD] at hun
  rw [← hU, ← hDA] at hut
  rw [← hU, ← hLV, ← hMT] at hur
  rw [← hMT, ← hDA] at hma hms
  rw [← hB] at hbk hbl hrow
  rw [← hD]
  obtain ⟨gO, hgO⟩ : ∃ gO, gO = w.heap.size := ⟨_, rfl⟩
  obtain ⟨W1, hW1⟩ : ∃ W1, W1 = w.alloc (.cells (intV (List.replicate N 0)).toArray 3) := ⟨_, rfl⟩
  have hbx1 : W1.heap[gO]? = some (.cells (intV (List.replicate N 0)).toArray 3 (0, 0)) := by rw [hW1, hgO]; exact heap_alloc_new w _
  have hb1 : Below w.heap.size w W1 := by rw [hW1]; exact (Below.refl _ w).alloc (Nat.le_refl _) _
  rw [← hgO] at hmi
  have HMI := hid2 hmi
  have HZN := hid2 hzn
  have HDL := hid2 hdl
  have HROW := hid2 hrow
  have HBL := hid2 hbl
  have HZ := hid2 hz
  have HLZ := hid2 hlz
  have HLD := hid2 hld
  have HLB := hid2 hlb
  have HLL := hid2 hll
  have HML := hid2 hml
  have HNX := hid2 hnx
  have HUL := hid2 hul
  have HUN := hid2 hun
  have HUS := hid2 hus
  have HUT := hid2 hut
  have HUR := hid2 hur
  have HMA := hid2 hma
  have HMS := hid2 hms
  have HBK := hid2 hbk
  have HM0 := hid2 hm0
  have HBX1 := hid2 hbx1
  have HB1 := hid2 hb1
  have HGO := hid2 hgO
  have HW1 := hid2 hW1
  have HTO := hid2 hto
  have hto0 : (0 : Int) ≤ to := by omega
  have htoN : (to : Int) < N := by omega
  clear hzn hdl hg hs hmi hgk hrow hbl hz hlz hld hlb hll hml hnx hul hun hus hut hur hma hms hbk hm0 hN hD hU hB hLV hMT hDA hTG hbx1 hb1 hgO hW1 hto
  go_enter Try.func27, Try.ntmps27
  go_wp2_with (first
    | ((with_reducible refine wpList_made HMI.out ?_ ?_); exact ⟨rfl, rfl⟩; rw [← HW1.out]))
  go_loopg [6, 18] N (fun gk x6 iv wr => ∃ (i : Nat) (l : List Int), i + gk = N ∧ iv = .int .i64 i ∧ l.length = N ∧ (∀ q, q < i → l[q]? = some (-1)) ∧ wr.heap[gO]? = some (.cells (intV l).toArray 3 (0, 0)) ∧ Below w.heap.size w wr)
  case atStart => exact ⟨0, List.replicate N 0, by omega, rfl, by simp, fun q h => absurd h (by omega), HBX1.out, HB1.out⟩
  case round =>
    obtain ⟨i, l, hi, rfl, hl, hq, hbx, hlow⟩ := hrel
    have HL := hid2 hl
    have HQ := hid2 hq
    have HBX := hid2 hbx
    have HLOW := hid2 hlow
    clear hl hq hbx hlow
    by_cases hiN : i < N
    · have hiN' : (i : Int) < N := by omega
      have hi0 : (0 : Int) ≤ i := by omega
      obtain ⟨x, hx⟩ : ∃ x, l[i]? = some x := ⟨_, List.getElem?_eq_getElem (by rw [HL.out]; exact hiN)⟩
      have cu : wr.cell? ⟨gO, i, none⟩ = some (.int .i64 x) := by rw [(typed_box HBX.out).cells, intV_get hx]
      have fu := (typed_box HBX.out).free i
      have HIN := hid2 hiN
      clear hx hiN
      go_wp2_with fail
      go_roundg (gk - 1)
      case rel =>
        refine ⟨i + 1, l.set i (-1), by omega, by go_num, by rw [List.length_set]; exact HL.out, fun q hq => ?_, by rw [row_setCell1 HBX.out, intV_set], HLOW.out.setCell (by rw [HGO.out]; exact Nat.le_refl _) _⟩
        by_cases hqi : i = q
        · subst hqi
          rw [List.getElem?_set_self (by rw [HL.out]; exact HIN.out)]
        · rw [List.getElem?_set_ne hqi]
          exact HQ.out q (by omega)
      case measure => omega
    · have hiN2 : i = N := by omega
      have hlt' : ¬ (i : Int) < N := by omega
      obtain ⟨x, hx⟩ : ∃ x, l[to]? = some x := ⟨_, List.getElem?_eq_getElem (by rw [HL.out]; exact HTO.out)⟩
      have cu : wr.cell? ⟨gO, to, none⟩ = some (.int .i64 x) := by rw [(typed_box HBX.out).cells, intV_get hx]
      have fu := (typed_box HBX.out).free to
      obtain ⟨W2, hW2⟩ : ∃ W2, W2 = wr.setCell ⟨gO, to, none⟩ (.int .i64 0) := ⟨_, rfl⟩
      have hbx2 : W2.heap[gO]? = some (.cells (intV (D 0)).toArray 3 (0, 0)) := by
        rw [hW2, row_setCell1 HBX.out, intV_set, HZ.out l HL.out (fun q h => HQ.out q (by omega))]
      have hb2 : Below w.heap.size w W2 := by rw [hW2]; exact HLOW.out.setCell (by rw [HGO.out]; exact Nat.le_refl _) _
      have hs2 : gO < W2.heap.size := heap_lt hbx2
      obtain ⟨W3, hW3⟩ : ∃ W3, W3 = W2.alloc (.cells #[.int .i64 (to : Int)] 3) := ⟨_, rfl⟩
      have hsz : W2.heap.size = wr.heap.size := by rw [hW2, World.size_setCell]
      have hown3 : Own W3 w.heap.size 3 1 (some ⟨wr.heap.size, 0, none⟩) 1 1 (natV [to]) := by
        rw [hW3, ← hsz]
        exact Own.lit W2 #[.int .i64 (to : Int)] 3 1 1 w.heap.size hb2.size (by decide) rfl
      have hb3 : Below w.heap.size w W3 := by rw [hW3]; exact hb2.alloc hb2.size _
      have hbx3 : W3.heap[gO]? = some (.cells (intV (D 0)).toArray 3 (0, 0)) := by rw [hW3, Below.heap_alloc W2 _ _ hs2]; exact hbx2
      have hne3 : blockOf (some (⟨wr.heap.size, 0, none⟩ : Addr)) ≠ some gO := fun e => by
        have := Option.some.inj e
        simp only at this
        omega
      have HW2 := hid2 hW2
      have HW3 := hid2 hW3
      have HOWN3 := hid2 hown3
      have HB3 := hid2 hb3
      have HBX3 := hid2 hbx3
      have HNE3 := hid2 hne3
      clear hx hiN hiN2 hbx2 hb2 hs2 hsz hW2 hW3 hown3 hb3 hbx3 hne3
      go_wp2_with fail
      rw [← HW2.out, ← HW3.out]
      clear cu fu
      go_loopg [7, 8, 10, 12, 35, 44] (N + 1) (fun gk rv x8 x10 x12 x35 x44 wr2 => ∃ (n : Nat) (row : List Nat) (L : Nat) (A7 : Option Addr) (c7 : Nat), n + gk = N + 1 ∧ rv = .slice A7 L c7 ∧ L = row.length ∧ LV n row ∧ wr2.heap[gO]? = some (.cells (intV (D n)).toArray 3 (0, 0)) ∧ Own wr2 w.heap.size 3 1 A7 L c7 (natV row) ∧ Below w.heap.size w wr2 ∧ blockOf A7 ≠ some gO)
      case atStart => exact ⟨0, [to], 1, _, _, by omega, rfl, rfl, HLZ.out, HBX3.out, HOWN3.out, HB3.out, HNE3.out⟩
      case round =>
        clear HBX HLOW HL HQ HW2 HW3 HOWN3 HB3 HBX3 HNE3
        obtain ⟨n, row, L, A7, c7, hng, rfl, hL, hlv, hbx, hown, hlow, hne⟩ := hrel
        have HL := hid2 hL
        have HLV := hid2 hlv
        have HBX := hid2 hbx
        have HOWN := hid2 hown
        have HLOW := hid2 hlow
        have HNE := hid2 hne
        have hLN : L ≤ N := by rw [hL]; exact HLL.out n row hlv
        have hnN1 : n ≤ N + 1 := by omega
        clear hL hlv hbx hown hlow hne
        by_cases hL0 : 0 < L
        · have hL0' : (0 : Int) < L := by omega
          have hnN : n ≤ N := HLB.out n row HLV.out (by rw [← HL.out]; exact hL0)
          have hls : LvS w gO (U n []) A7 c7 row none 0 [] wr := by
            refine ⟨by rw [HUN.out n]; exact HBX.out, by rw [← HL.out]; exact HOWN.out, Own.nil _ _ _ _, HLOW.out, by rw [HGO.out]; exact Nat.le_refl _, HNE.out, (fun e => by cases e), fun b _ e => by cases e⟩
          have HLS := hid2 hls
          obtain ⟨g0, hg0⟩ : ∃ g0, g0 = gk := ⟨_, rfl⟩
          clear hls
          go_wp2_with fail
          go_loopg [8, 10, 12, 35, 44] L (fun gk nv x10 x12 pv x44 wr2 => ∃ (p : Nat) (next : List Nat) (M : Nat) (A8 : Option Addr) (c8 : Nat), p + gk = L ∧ pv = .int .i64 p ∧ nv = .slice A8 M c8 ∧ M = next.length ∧ MT n ((row.take p).flatMap B) next ∧ LvS w gO (U n next) A7 c7 row A8 c8 next wr2)
          case atStart => exact ⟨0, [], 0, none, 0, by omega, rfl, rfl, rfl, HM0.out n, HLS.out⟩
          case round =>
            clear HLS HBX HOWN HLOW
            obtain ⟨p, next, M, A8, c8, hp, rfl, rfl, hM, hmt, hls⟩ := hrel
            have HM := hid2 hM
            have HMT := hid2 hmt
            have HLS := hid2 hls
            clear hM hmt hls
            by_cases hpL : p < L
            · have hpL' : (p : Int) < L := by omega
              have hp0 : (0 : Int) ≤ p := by omega
              obtain ⟨i, hi⟩ : ∃ i, row[p]? = some i := ⟨_, List.getElem?_eq_getElem (by rw [← HL.out]; exact hpL)⟩
              obtain ⟨b7, o7, rfl, c1⟩ := int_cell HLS.out.own7.rd (castI_get hi)
              have hir := HUR.out n row next _ i HLV.out HMT.out (List.mem_of_getElem? hi)
              obtain ⟨hiN, hiU⟩ := hir
              have hi0 : (0 : Int) ≤ i := by omega
              have hiN' : (i : Int) < N := by omega
              obtain ⟨at_, ot, BT, cT, e0, hc1, hB⟩ := HROW.out i hiN
              have c2 := hc1 wr HLS.out.low
              rw [castI_length] at c2
              rw [castI_length] at hB
              cases e0
              have hft := flat_take (f := B) hi
              have hbL := HBL.out i
              obtain ⟨Q, hQ⟩ : ∃ Q, Q = (B i).length := ⟨_, rfl⟩
              rw [← hQ] at c2 hB hbL
              have HQ := hid2 hQ
              have HB := hid2 hB
              have HFT := hid2 hft
              have HIU := hid2 (fun (next seen : List Nat) (h : MT n seen next) => (HUR.out n row next seen i HLV.out h (List.mem_of_getElem? hi)).2)
              obtain ⟨g1, hg1⟩ : ∃ g1, g1 = gk := ⟨_, rfl⟩
              clear hi hiU hc1 hQ hB hft hpL
              go_wp2_with fail
              go_loopg [8, 12, 44] Q (fun gk nv x12 qv wr2 => ∃ (q : Nat) (next : List Nat) (M : Nat) (A8 : Option Addr) (c8 : Nat), q + gk = Q ∧ qv = .int .i64 q ∧ nv = .slice A8 M c8 ∧ M = next.length ∧ MT n ((row.take p).flatMap B ++ (B i).take q) next ∧ LvS w gO (U n next) (some ⟨b7, o7, none⟩) c7 row A8 c8 next wr2)
              case atStart => exact ⟨0, next, M, A8, c8, by omega, rfl, rfl, HM.out, by rw [List.take_zero, List.append_nil]; exact HMT.out, HLS.out⟩
              case round =>
                clear HLS HMT HM
                clear M A8 c8 next
                obtain ⟨q, next, M, A8, c8, hq, rfl, rfl, hM, hmt, hls⟩ := hrel
                have HM := hid2 hM
                have HMT := hid2 hmt
                have HLS := hid2 hls
                have hMN : M ≤ N := by rw [hM]; exact HML.out n _ next hmt
                clear hM hmt hls
                by_cases hqQ : q < Q
                · have hqQ' : (q : Int) < Q := by omega
                  have hq0 : (0 : Int) ≤ q := by omega
                  obtain ⟨k, hk⟩ : ∃ k, (B i)[q]? = some k := ⟨_, List.getElem?_eq_getElem (by rw [← HQ.out]; exact hqQ)⟩
                  obtain ⟨bB, oB, rfl, ck⟩ := int_cell (HB.out wr HLS.out.low) (castI_get hk)
                  have hkN := HBK.out i k (List.mem_of_getElem? hk)
                  have hk0 : (0 : Int) ≤ k := by omega
                  have hkN' : (k : Int) < N := by omega
                  obtain ⟨x, hx⟩ : ∃ x, (U n next)[k]? = some x := ⟨_, List.getElem?_eq_getElem (by rw [HUL.out]; exact hkN)⟩
                  obtain ⟨cx, fx⟩ := HLS.out.get hx
                  have hts := HUT.out n next k x hx hkN
                  have hta := take_succ_some hk
                  have HTS := hid2 hts
                  have HTA := hid2 hta
                  have HKN := hid2 hkN
                  clear hk hx hts hta hkN hqQ
                  by_cases hx0 : x < 0
                  · obtain ⟨hd, hnm⟩ := HTS.out.1 hx0
                    have hma := HMA.out n _ next k HMT.out HKN.out hd hnm
                    obtain ⟨cI, _⟩ := HLS.out.get (HIU.out next _ HMT.out)
                    have hwn : IntKind.i64.wrap ((n : Int) + 1) = (n : Int) + 1 := IntWalk.i64_in _ (by constructor <;> omega)
                    obtain ⟨W5, hW5⟩ : ∃ W5, W5 = wr.setCell ⟨gO, k, none⟩ (.int .i64 ((n : Int) + 1)) := ⟨_, rfl⟩
                    have hls5 : LvS w gO (U n (next ++ [k])) (some ⟨b7, o7, none⟩) c7 row A8 c8 next W5 := by
                      rw [hW5, ← HUS.out n next k HKN.out]
                      exact HLS.out.set k _
                    have hown := hls5.own8.alloc (.cells #[.int .i64 (k : Int)] 3)
                    obtain ⟨V, hV⟩ : ∃ V, V = natV next := ⟨_, rfl⟩
                    rw [← hV, ← HM.out] at hown
                    have hrd := Rd.of_lit W5 #[.int .i64 (k : Int)] 3 1 1 (by decide) rfl
                    have hone : ∀ v ∈ [Value.int .i64 (k : Int)], v.oneCell' = true := by simp [Value.oneCell']
                    have hlws := hls5.low.size
                    have HMAA := hid2 hma
                    have HW5 := hid2 hW5
                    have HLS5 := hid2 hls5
                    have HOWN5 := hid2 hown
                    have HV := hid2 hV
                    have HRD := hid2 hrd
                    clear hd hnm hma hW5 hls5 hown hV hrd
                    go_upto_region 19 with (fail)
                    rw [← HW5.out]
                    clear cx fx cI ck c1 c2
                    go_wp2_with (first
                      | (at_builtin; go_must ((with_reducible refine wpList_append_lit 3 (.int .i64 0) 1 8 Try.underlying25 info_int1 rfl w.heap.size A8 M c8 V HOWN5.out 1 _ (.slice (some ⟨W5.heap.size, 0, none⟩) 1 1) (Src.slice Try.underlying25 HRD.out) hone ?_ ?_ ?_ ?_ ?_); (unfold maxLen; omega); omega; (simp; omega); exact ⟨rfl, rfl⟩; intro A3 c3 w3 hown3 hgr3 hbl3)))
                    go_roundg (gk - 1)
                    case rel =>
                      refine ⟨q + 1, next ++ [k], M + 1, A3, c3, by omega, by go_num, rfl, by rw [List.length_append, HM.out]; rfl, ?_, ?_⟩
                      · rw [HTA.out, ← List.append_assoc]; exact HMAA.out
                      · exact HLS5.out.add (by rw [← HM.out, ← HV.out]; exact hown3) hgr3 hbl3
                    case measure => omega
                  · have hx0' : 0 ≤ x := by omega
                    have HMSS := hid2 (HMS.out n _ next k HMT.out (HTS.out.2 hx0'))
                    clear hx0
                    go_wp2_with fail
                    go_roundg (gk - 1)
                    case rel => exact ⟨q + 1, next, M, A8, c8, by omega, by go_num, rfl, HM.out, by rw [HTA.out, ← List.append_assoc]; exact HMSS.out, HLS.out⟩
                    case measure => omega
                · have hqQ2 : q = Q := by omega
                  have hqQ' : ¬ (q : Int) < Q := by omega
                  have HM2 := hid2 (show MT n ((row.take (p + 1)).flatMap B) next from by
                    have h := HMT.out
                    rw [hqQ2, HQ.out, List.take_length] at h
                    rw [HFT.out]
                    exact h)
                  clear hqQ hqQ2
                  go_wp2_with fail
                  go_roundg (g1 - 1)
                  case rel => exact ⟨p + 1, next, M, A8, c8, by omega, by go_num, rfl, HM.out, HM2.out, HLS.out⟩
                  case measure => omega
            · have hpL2 : p = L := by omega
              have hpL' : ¬ (p : Int) < L := by omega
              have hnx := HNX.out n row next HLV.out (by
                have h := HMT.out
                rwa [hpL2, HL.out, List.take_length] at h)
              have HLV2 := hid2 hnx.1
              have HBX2 := hid2 (show wr.heap[gO]? = some (.cells (intV (D (n + 1))).toArray 3 (0, 0)) from by rw [← hnx.2]; exact HLS.out.box)
              have HOWN2 := hid2 (show Own wr w.heap.size 3 1 A8 M c8 (natV next) from by rw [HM.out]; exact HLS.out.own8)
              clear hpL hpL2 hnx
              go_wp2_with fail
              go_roundg (g0 - 1)
              case rel => exact ⟨n + 1, next, M, A8, c8, by omega, rfl, HM.out, HLV2.out, HBX2.out, HOWN2.out, HLS.out.low, HLS.out.n8⟩
              case measure => omega
        · have hLz : L = 0 := by omega
          have hL0' : ¬ (0 : Int) < L := by omega
          have hre : row = [] := List.eq_nil_of_length_eq_zero (by rw [← HL.out]; exact hLz)
          have hn1 : 1 ≤ n := by
            rcases Nat.eq_zero_or_pos n with h | h
            · exfalso
              have h1 := HLV.out
              have h2 := HZN.out
              rw [h, hre] at h1
              exact h2 h1
            · exact h
          have hdd := HLD.out n hn1 hnN1 (by have h := HLV.out; rwa [hre] at h)
          have HDD := hid2 (show Own wr w.heap.size 3 1 (some ⟨gO, 0, none⟩) N N (intV (D N)) from by
            rw [← hdd]
            exact Own.ofBlock HBX.out (by rw [HGO.out]; exact Nat.le_refl _) (by rw [intV_length, hdd]; exact HDL.out) (by omega))
          clear hre hdd hLz
          go_wp2_with fail
          go_ret
          exact ⟨_, _, rfl, HDD.out, HLOW.out⟩
end Go.Proofs.Ytccilmnlepekeaa
