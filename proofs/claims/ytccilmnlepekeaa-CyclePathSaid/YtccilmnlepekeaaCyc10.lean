/- cycle.Turn: the graph the other way round. -/
import Derived.Test.YtccilmnlepekeaaCyc9
namespace Go.Proofs.Ytccilmnlepekeaa
open Go.RowKit
def backs (G : List (List Int)) (k : Nat) : List Nat := (List.range G.length).filter fun j => adj G j k
def turnG (G : List (List Int)) : List (List Int) := (List.range G.length).map fun k => castI (backs G k)
theorem turnG_length (G : List (List Int)) : (turnG G).length = G.length := by simp [turnG]
theorem turnG_get (G : List (List Int)) {k : Nat} (h : k < G.length) : (turnG G)[k]? = some (castI (backs G k)) := by
  rw [turnG, List.getElem?_map, List.getElem?_range h]
  rfl
theorem castI_contains (l : List Nat) (k : Nat) : (castI l).contains (k : Int) = l.contains k := by
  induction l with
  | nil => rfl
  | cons a l ih =>
    rw [castI, List.map_cons, List.contains_cons, List.contains_cons, show ((k : Int) == (a : Int)) = (k == a) from by rw [Bool.eq_iff_iff, beq_iff_eq, beq_iff_eq]; omega]
    exact congrArg _ ih
theorem turnG_adj {G : List (List Int)} {i k : Nat} (hi : i < G.length) (hk : k < G.length) : adj (turnG G) i k = adj G k i := by
  rw [adj_row (turnG_get G hi), castI_contains, backs]
  cases h : adj G k i with
  | true => exact List.contains_iff_mem.2 (List.mem_filter.2 ⟨List.mem_range.2 hk, h⟩)
  | false =>
    rw [Bool.eq_false_iff]
    intro e
    have := (List.mem_filter.1 (List.contains_iff_mem.1 e)).2
    rw [h] at this
    cases this
theorem castI_length (l : List Nat) : (castI l).length = l.length := by simp [castI]
theorem turnG_small {G : List (List Int)} (h : Small G) : Small (turnG G) := by
  refine ⟨by rw [turnG_length]; exact h.n, fun i row hi => ?_⟩
  have hl : i < G.length := by rw [← turnG_length G]; exact (List.getElem?_eq_some_iff.1 hi).1
  rw [turnG_get G hl] at hi
  cases hi
  rw [castI_length]
  have := h.n
  exact Nat.le_trans (List.length_filter_le _ _) (by simp; omega)
/-- rows of the call's own from B on, under the block gO, and all else as it was -/
structure NR (w : World) (B gO : Nat) (rows : List (List Int)) (wr : World) : Prop where
  nest : ∃ As cs, Nest wr B gO rows As cs
  low : Below w.heap.size w wr
  gt : w.heap.size ≤ gO
  bt : w.heap.size ≤ B
  bl : B ≤ wr.heap.size
theorem NR.opened {w : World} {B gO i : Nat} {rows : List (List Int)} {cur : List Int} {wr : World} (h : NR w B gO rows wr) (hget : rows[i]? = some cur) :
    ∃ (Ai : Option Addr) (ci : Nat), wr.cell? ⟨gO, i, none⟩ = some (.slice Ai cur.length ci) ∧ wr.frozen? ⟨gO, i, none⟩ = false ∧ Own wr B 3 1 Ai cur.length ci (intV cur) ∧ blockOf Ai ≠ some gO ∧ gO < wr.heap.size ∧
      ∀ (w0 w' : World) (A' : Option Addr) (c' : Nat) (new : List Int), Below wr.heap.size wr w0 → w0.grownBy w' (blockOf Ai) → Own w' B 3 1 A' new.length c' (intV new) → (blockOf A' = blockOf Ai ∨ ∀ b, blockOf A' = some b → w0.heap.size ≤ b) →
        NR w B gO (rows.set i new) (w'.setCell ⟨gO, i, none⟩ (.slice A' new.length c')) ∧ ∀ b, b < B → b ≠ gO → (w'.setCell ⟨gO, i, none⟩ (.slice A' new.length c')).heap[b]? = wr.heap[b]? := by
  obtain ⟨⟨As, cs, hn⟩, hb, hgt, hbt, hbl0⟩ := h
  obtain ⟨h1, h2⟩ := hn.get hget
  have hown := hn.own i cur hget
  refine ⟨As i, cs i, h1, h2, hown, hn.ne hget, hn.lt, fun w0 w' A' c' new hb0 hg ho hbl => ⟨⟨?_, ?_, hgt, hbt, ?_⟩, fun b hbB hbg => ?_⟩⟩
  · exact ⟨_, _, (hn.below hb0 (Nat.le_refl _)).put (row' := new) hget hg ho hbl⟩
  · have h0 : Below w.heap.size w w0 := hb.trans (hb0.mono hb.size)
    exact ((h0.grown hg h0.size fun k e => by have := (hown.block k e).1; omega).setCell hgt _)
  · rw [World.size_setCell]
    have := hb0.size
    have := hg.size
    omega
  · rw [Below.heap_setCell w' _ _ b hbg, hg.block b (by have := hb0.size; omega) (fun e => by have := (hown.block b e.symm).1; omega)]
    exact hb0.block b (by omega)
/-- what stands in the rows behind i nodes and q of the next one's -/
def tRow (G : List (List Int)) (i q k : Nat) : List Int := castI ((List.range i).filter fun j => adj G j k) ++ if ((leans G i).take q).contains k = true then [(i : Int)] else []
def tR (G : List (List Int)) (i q : Nat) : List (List Int) := (List.range G.length).map (tRow G i q)
theorem tR_get {G : List (List Int)} {i q k : Nat} (h : k < G.length) : (tR G i q)[k]? = some (tRow G i q k) := by
  rw [tR, List.getElem?_map, List.getElem?_range h]
  rfl
theorem tR_length (G : List (List Int)) (i q : Nat) : (tR G i q).length = G.length := by simp [tR]
theorem leans_nodup (G : List (List Int)) (i : Nat) : (leans G i).Nodup := ((range_rise G.length).filter _).imp fun h => by omega
theorem tR_set {G : List (List Int)} {i q k : Nat} (hk : (leans G i)[q]? = some k) : (tR G i q).set k (tRow G i q k ++ [(i : Int)]) = tR G i (q + 1) := by
  have hkN : k < G.length := by
    have := List.mem_of_getElem? hk
    rw [leans, List.mem_filter] at this
    simpa using this.1
  have htk : (leans G i).take (q + 1) = (leans G i).take q ++ [k] := by rw [List.take_add_one, hk]; rfl
  apply List.ext_getElem?
  intro j
  by_cases hj : k = j
  · subst hj
    rw [List.getElem?_set_self (by rw [tR_length]; exact hkN), tR_get hkN]
    have hno : ((leans G i).take q).contains k = false := by
      rw [Bool.eq_false_iff]
      intro e
      have hm := List.contains_iff_mem.1 e
      obtain ⟨a, ha, hak⟩ := List.mem_iff_getElem.1 hm
      rw [List.length_take] at ha
      rw [List.getElem_take] at hak
      have hql := (List.getElem?_eq_some_iff.1 hk)
      have hp := List.pairwise_iff_getElem.1 (leans_nodup G i) a q (by omega) hql.1 (by omega)
      exact hp (hak.trans hql.2.symm)
    have hyes : ((leans G i).take (q + 1)).contains k = true := by rw [htk]; simp
    rw [tRow, tRow, hno, hyes]
    simp
  · rw [List.getElem?_set_ne hj]
    by_cases hjN : j < G.length
    · rw [tR_get hjN, tR_get hjN, tRow, tRow, htk]
      have : ((leans G i).take q ++ [k]).contains j = ((leans G i).take q).contains j := by
        have : ¬ j = k := fun e => hj e.symm
        simp [this]
      rw [this]
    · rw [List.getElem?_eq_none (by rw [tR_length]; omega), List.getElem?_eq_none (by rw [tR_length]; omega)]
theorem tR_next (G : List (List Int)) (i : Nat) (hi : i < G.length) : tR G i (leans G i).length = tR G (i + 1) 0 := by
  unfold tR
  apply List.map_congr_left
  intro k hk
  rw [List.mem_range] at hk
  rw [tRow, tRow, List.take_length, List.take_zero, List.range_succ, List.filter_append, castI, castI, List.map_append]
  have : (leans G i).contains k = adj G i k := by
    cases h : adj G i k with
    | true => exact List.contains_iff_mem.2 (List.mem_filter.2 ⟨List.mem_range.2 hk, h⟩)
    | false =>
      rw [Bool.eq_false_iff]
      intro e
      have := (List.mem_filter.1 (List.contains_iff_mem.1 e)).2
      rw [h] at this
      cases this
  rw [this]
  cases h : adj G i k <;> simp [h]
theorem tR_zero (G : List (List Int)) : tR G 0 0 = List.replicate G.length [] := by
  apply List.ext_getElem?
  intro j
  by_cases hj : j < G.length
  · rw [tR_get hj, List.getElem?_replicate, if_pos hj]
    rfl
  · rw [List.getElem?_eq_none (by rw [tR_length]; omega), List.getElem?_replicate, if_neg hj]
theorem tR_all (G : List (List Int)) : tR G G.length 0 = turnG G := by
  unfold tR turnG
  apply List.map_congr_left
  intro k _
  rw [tRow, List.take_zero]
  simp [backs]
def TurnPost (w : World) (G : List (List Int)) (e : Ending) (w' : World) : Prop := ∃ A' : Option Addr, e = .returned (.slice A' G.length G.length) ∧ GRdK (fun W => ∀ b, w.heap.size ≤ b → b < w'.heap.size → W.heap[b]? = w'.heap[b]?) A' (turnG G) ∧ Below w.heap.size w w'
theorem ofG_get {G : List (List Int)} {i : Nat} (h : i < G.length) : (ofG G)[i]? = some (castI (leans G i)) := by
  rw [ofG, List.getElem?_map, List.getElem?_range h]
  rfl
theorem castI_get {l : List Nat} {q k : Nat} (h : l[q]? = some k) : (castI l)[q]? = some (k : Int) := by rw [castI, List.getElem?_map, h]; rfl
theorem tRow_length (G : List (List Int)) (i q k : Nat) (hi : i < G.length) : (tRow G i q k).length ≤ G.length := by
  rw [tRow, List.length_append, castI_length]
  have : ((List.range i).filter fun j => adj G j k).length ≤ i := Nat.le_trans (List.length_filter_le _ _) (by simp)
  split <;> simp <;> omega
set_option maxRecDepth 100000 in
set_option maxHeartbeats 4000000 in
theorem turn_any (w : World) (A : Option Addr) (c : Nat) (G : List (List Int)) (hg : GRd w A G) (hs : Small G) :
    Calls Try.prog 16 #[.slice A G.length c] w fun e w' => TurnPost w G e w' := by
  have hn := hs.n
  have hmk := made_rows w G.length (by omega)
  obtain ⟨W1, hW1⟩ : ∃ W1, W1 = w.alloc (.cells (List.replicate G.length (Value.slice none 0 0)).toArray 25) := ⟨_, rfl⟩
  have hb1 : Below w.heap.size w W1 := by rw [hW1]; exact (Below.refl _ w).alloc (Nat.le_refl _) _
  have hcO := of_any W1 A c G (hg.below hb1) hs
  have hh1 : W1.heap[w.heap.size]? = some (.cells (List.replicate G.length (Value.slice none 0 0)).toArray 25 (0, 0)) := by rw [hW1]; exact heap_alloc_new w _
  have hs1 : W1.heap.size = w.heap.size + 1 := by rw [hW1]; simp
  have hnr : ∀ W, Below W1.heap.size W1 W → NR w W.heap.size w.heap.size (tR G 0 0) W := fun W hW => by
    have hbl := hb1.trans (hW.mono hb1.size)
    refine ⟨⟨fun _ => none, fun _ => 0, ?_⟩, hbl, Nat.le_refl _, hbl.size, Nat.le_refl _⟩
    · rw [tR_zero]
      exact Nest.bare (by rw [hW.block _ (by omega)]; exact hh1) _
  have hgt := fun (i : Nat) (h : i < G.length) => ofG_get h
  have hop := fun (B i q : Nat) (wr : World) (h : NR w B w.heap.size (tR G i q) wr) (k : Nat) (hk : k < G.length) => h.opened (tR_get hk)
  have hset := fun (i q k : Nat) (hk : (leans G i)[q]? = some k) => tR_set hk
  have hnx := fun (i : Nat) (h : i < G.length) => tR_next G i h
  have hal := tR_all G
  have hml : ∀ (i q k : Nat), (leans G i)[q]? = some k → k < G.length := fun i q k hk => by
    have := List.mem_of_getElem? hk
    rw [leans, List.mem_filter] at this
    simpa using this.1
  have hll := leans_length G
  have htl := tRow_length G
  unfold TurnPost
  unfold OfPost at hcO
  obtain ⟨gO, hgO⟩ : ∃ gO, gO = w.heap.size := ⟨_, rfl⟩
  obtain ⟨N, hN⟩ : ∃ N, N = G.length := ⟨_, rfl⟩
  rw [← hN] at hn hmk hop hgt hnx hal hW1 hcO hml hll htl ⊢
  rw [← hgO] at hmk hnr hop hs1
  have HMK := hid2 hmk
  have HCO := hid2 hcO
  have HNR := hid2 hnr
  have HGT := hid2 hgt
  have HOP := hid2 hop
  have HSET := hid2 hset
  have HNX := hid2 hnx
  have HAL := hid2 hal
  have HML := hid2 hml
  have HLL := hid2 hll
  have HTL := hid2 htl
  have HW1 := hid2 hW1
  have HB1 := hid2 hb1
  have HGO := hid2 hgO
  have HS1 := hid2 hs1
  clear hg hs hmk hcO hnr hgt hop hset hnx hal hml hll htl hW1 hN hh1 hb1 hs1 hgO
  go_enter Try.func16, Try.ntmps16
  go_wp2_with (first
    | ((with_reducible refine wpList_made HMK.out ?_ ?_); exact ⟨rfl, rfl⟩; rw [← HW1.out])
    | (go_at_call 22; refine HCO.out.mono ?_; rintro e w2 ⟨AX, rfl, hgx, hb2⟩; have HGX := hid2 hgx; have HB2 := hid2 hb2; clear hgx hb2))
  obtain ⟨R, hR⟩ : ∃ R : World → Prop, R = fun W => ∀ b, b < w2.heap.size → b ≠ gO → W.heap[b]? = w2.heap[b]? := ⟨_, rfl⟩
  have hgk : GRdK R AX (ofG G) := HGX.out.imp fun W hW b hb1 hb2 => by
    rw [hR] at hW
    exact hW b hb2 (by have := HS1.out; omega)
  have hR0 : R w2 := by rw [hR]; exact fun _ _ _ => rfl
  have hRn : ∀ (W W' : World), R W → (∀ b, b < w2.heap.size → b ≠ gO → W'.heap[b]? = W.heap[b]?) → R W' := fun W W' h1 h2 => by
    rw [hR] at h1 ⊢
    exact fun b hb hg => (h2 b hb hg).trans (h1 b hb hg)
  have HGK := hid2 hgk
  have HR0 := hid2 hR0
  have HRN := hid2 hRn
  clear hR hgk hR0 hRn HGX
  go_loopg [4, 5, 7, 14, 21] N (fun gk x4 x5 x7 iv x21 wr => ∃ i : Nat, i + gk = N ∧ iv = .int .i64 i ∧ NR w w2.heap.size gO (tR G i 0) wr ∧ R wr)
  case atStart => exact ⟨0, by omega, rfl, HNR.out w2 HB2.out, HR0.out⟩
  case round =>
    obtain ⟨i, hi, rfl, hnr, hbw⟩ := hrel
    have HNRR := hid2 hnr
    have HBW := hid2 hbw
    clear hnr hbw
    by_cases hiN : i < N
    · have hiN' : (i : Int) < N := by omega
      have hi0 : (0 : Int) ≤ i := by omega
      have HIN := hid2 hiN
      obtain ⟨g0, hg0⟩ : ∃ g0, g0 = gk := ⟨_, rfl⟩
      obtain ⟨a, o, B, c2, e0, hc1, hB⟩ := HGK.out.row HR0.out (HGT.out i hiN)
      have c1 := hc1 wr HBW.out
      rw [castI_length] at c1
      rw [castI_length] at hB
      cases e0
      have hL := HLL.out i
      have hnx := HNX.out i hiN
      obtain ⟨L, hL0⟩ : ∃ L, L = (leans G i).length := ⟨_, rfl⟩
      rw [← hL0] at c1 hB hL hnx
      have HB := hid2 hB
      have HL0 := hid2 hL0
      have HNXI := hid2 hnx
      clear hL0 hB hc1 hiN hnx
      go_wp2_with fail
      go_loopg [7, 21] L (fun gj x7 qv wr2 => ∃ q : Nat, q + gj = L ∧ qv = .int .i64 q ∧ NR w w2.heap.size gO (tR G i q) wr2 ∧ R wr2)
      case atStart => exact ⟨0, by omega, rfl, HNRR.out, HBW.out⟩
      case round =>
        clear c1
        obtain ⟨q, hq, rfl, hnr, hbw⟩ := hrel
        have HNR2 := hid2 hnr
        have HBW2 := hid2 hbw
        clear hnr hbw
        by_cases hqL : q < L
        · have hqL' : (q : Int) < L := by omega
          have hq0 : (0 : Int) ≤ q := by omega
          obtain ⟨k, hk⟩ : ∃ k, (leans G i)[q]? = some k := ⟨_, List.getElem?_eq_getElem (by rw [← HL0.out]; exact hqL)⟩
          obtain ⟨bB, oB, rfl, cx⟩ := int_cell (HB.out wr HBW2.out) (castI_get hk)
          have hkN := HML.out i q k hk
          have hkN' : (k : Int) < N := by omega
          have hk0 : (0 : Int) ≤ k := by omega
          obtain ⟨Ai, ci, hcA, hfA, hoA, hnA, hgt, hput⟩ := HOP.out w2.heap.size i q wr HNR2.out k hkN
          have hcl := HTL.out i q k HIN.out
          have hst := HSET.out i q k hk
          obtain ⟨cur, hcur⟩ : ∃ cur, cur = tRow G i q k := ⟨_, rfl⟩
          rw [← hcur] at hcA hoA hcl hst
          obtain ⟨n, hnl⟩ : ∃ n, n = cur.length := ⟨_, rfl⟩
          rw [← hnl] at hcA hoA hcl
          obtain ⟨V, hV⟩ : ∃ V, V = intV cur := ⟨_, rfl⟩
          have hown : Own (wr.alloc (.cells #[.int .i64 (i : Int)] 3)) w2.heap.size 3 1 Ai n ci V := by rw [hV]; exact hoA.alloc _
          have hrd := Rd.of_lit wr #[.int .i64 (i : Int)] 3 1 1 (by decide) rfl
          have hone : ∀ v ∈ [Value.int .i64 (i : Int)], v.oneCell' = true := by simp [Value.oneCell']
          have hlws := HNR2.out.bl
          have HV := hid2 hV
          have HOWN := hid2 hown
          have HRDD := hid2 hrd
          have HGTT := hid2 hgt
          have HCA := hid2 hcA
          have HFA := hid2 hfA
          have HNL := hid2 hnl
          have HNA := hid2 hnA
          have HPUT := hid2 hput
          have HST := hid2 hst
          clear hV hown hrd hgt hk hcur hnl hnA hput hst hoA hqL hkN
          go_wp2_with (first
            | (at_builtin; go_must ((with_reducible refine wpList_append_lit 3 (.int .i64 0) 1 8 Try.underlying25 info_int1 rfl w2.heap.size Ai n ci V HOWN.out 1 _ (.slice (some ⟨wr.heap.size, 0, none⟩) 1 1) (Src.slice Try.underlying25 HRDD.out) hone ?_ ?_ ?_ ?_ ?_); (unfold maxLen; omega); omega; (simp; omega); exact ⟨rfl, rfl⟩; intro A3 c3 w3 hown3 hgr3 hbl3; have cu3 : w3.cell? ⟨gO, k, none⟩ = some (.slice Ai n ci) := hgr3.cell (by rw [World.cell?_alloc_lt _ _ _ HGTT.out]; exact HCA.out) (fun e => HNA.out e.symm); have fz3 : w3.frozen? ⟨gO, k, none⟩ = false := by rw [World.frozen?_of_block (hgr3.block gO (by simp; have := HGTT.out; omega) (fun e => HNA.out e.symm)), World.frozen?_of_block (Below.heap_alloc wr _ _ HGTT.out)]; exact HFA.out)))
          go_roundg (gk - 1)
          case rel =>
            have hp := HPUT.out (wr.alloc (.cells #[.int .i64 (i : Int)] 3)) w3 A3 c3 (cur ++ [(i : Int)]) ((Below.refl _ wr).alloc (Nat.le_refl _) _) hgr3 (by
              have h := hown3
              rw [HV.out] at h
              rw [List.length_append, ← HNL.out, intV, List.map_append]
              exact h) (hbl3.imp id fun h b e => by rw [h] at e; cases e; exact Nat.le_refl _)
            rw [List.length_append, ← HNL.out, HST.out] at hp
            exact ⟨q + 1, by omega, by go_num, hp.1, HRN.out wr _ HBW2.out hp.2⟩
          case measure => omega
        · have hqL2 : q = L := by omega
          have hqL' : ¬ (q : Int) < L := by omega
          have HNN := hid2 (show NR w w2.heap.size gO (tR G (i + 1) 0) wr from by rw [← HNXI.out, ← hqL2]; exact HNR2.out)
          clear hqL hqL2
          go_wp2_with fail
          go_roundg (g0 - 1)
          case rel => exact ⟨i + 1, by omega, by go_num, HNN.out, HBW2.out⟩
          case measure => omega
    · have hiN2 : i = N := by omega
      have hlt' : ¬ (i : Int) < N := by omega
      have HF := hid2 (show GRdK (fun W => ∀ b, w.heap.size ≤ b → b < wr.heap.size → W.heap[b]? = wr.heap[b]?) (some ⟨gO, 0, none⟩) (turnG G) from by
        obtain ⟨⟨As, cs, h⟩, _, hgt, hbt, _⟩ := HNRR.out
        have h := h.grdk hbt hgt
        rwa [hiN2, HAL.out] at h)
      clear hiN hiN2
      go_wp2_with fail
      go_ret
      exact ⟨_, rfl, HF.out, HNRR.out.low⟩
end Go.Proofs.Ytccilmnlepekeaa
