/- cycle.of: each row rising, each node once. -/
import Derived.Test.YtccilmnlepekeaaCyc8
namespace Go.Proofs.Ytccilmnlepekeaa
open Go.RowKit Go.Lib
/-- those that a node leans on, rising -/
def leans (G : List (List Int)) (i : Nat) : List Nat := (List.range G.length).filter (adj G i)
def castI (l : List Nat) : List Int := l.map fun (x : Nat) => (x : Int)
def ofG (G : List (List Int)) : List (List Int) := (List.range G.length).map fun i => castI (leans G i)
def inN (N : Nat) (row : List Int) : List Int := row.filter fun x => decide (0 ≤ x ∧ x < (N : Int))
theorem range_rise (N : Nat) : (List.range N).Pairwise (· < ·) := List.pairwise_lt_range
theorem leans_rise (G : List (List Int)) (i : Nat) : (castI (leans G i)).Pairwise (· < ·) := by
  rw [castI, List.pairwise_map]
  exact ((range_rise G.length).filter _).imp fun h => by omega
theorem of_row {G : List (List Int)} {i : Nat} {row : List Int} (h : G[i]? = some row) : compact (sortI (inN G.length row)) = castI (leans G i) := by
  obtain ⟨h1, h2⟩ := compact_sort (inN G.length row)
  refine rise_eq h1 (leans_rise G i) fun x => ?_
  rw [h2 x, inN, List.mem_filter, castI, List.mem_map]
  constructor
  · rintro ⟨hx, hr⟩
    simp only [decide_eq_true_eq] at hr
    refine ⟨x.toNat, ?_, by omega⟩
    rw [leans, List.mem_filter, List.mem_range, adj_row h]
    refine ⟨by omega, ?_⟩
    rw [show ((x.toNat : Nat) : Int) = x by omega]
    simpa using hx
  · rintro ⟨k, hk, rfl⟩
    rw [leans, List.mem_filter, List.mem_range, adj_row h] at hk
    obtain ⟨hk1, hk2⟩ := hk
    refine ⟨by simpa using hk2, ?_⟩
    simp only [decide_eq_true_eq]
    omega
theorem leans_length (G : List (List Int)) (i : Nat) : (leans G i).length ≤ G.length := Nat.le_trans (List.length_filter_le _ _) (by simp)
/-- the rows behind so many rounds -/
def ofS (G : List (List Int)) (i : Nat) (cur : List Int) : List (List Int) := (List.range G.length).map fun j => if j < i then castI (leans G j) else if j = i then cur else []
theorem ofS_at (G : List (List Int)) (i : Nat) (cur : List Int) (j : Nat) : (ofS G i cur)[j]? = if j < G.length then some (if j < i then castI (leans G j) else if j = i then cur else []) else none := by
  rw [ofS, List.getElem?_map]
  by_cases h : j < G.length
  · rw [List.getElem?_range h, if_pos h, Option.map_some]
  · rw [List.getElem?_eq_none (by simpa using h), if_neg h, Option.map_none]
theorem ofS_get (G : List (List Int)) {i : Nat} (cur : List Int) (h : i < G.length) : (ofS G i cur)[i]? = some cur := by
  rw [ofS_at, if_pos h, if_neg (by omega), if_pos rfl]
theorem ofS_length (G : List (List Int)) (i : Nat) (cur : List Int) : (ofS G i cur).length = G.length := by simp [ofS]
theorem ofS_set (G : List (List Int)) {i : Nat} (cur new : List Int) (h : i < G.length) : (ofS G i cur).set i new = ofS G i new := by
  apply List.ext_getElem?
  intro j
  by_cases hj : i = j
  · subst hj
    rw [List.getElem?_set_self (by rw [ofS_length]; exact h), ofS_get G new h]
  · rw [List.getElem?_set_ne hj, ofS_at, ofS_at, if_neg (show ¬ j = i from fun e => hj e.symm), if_neg (show ¬ j = i from fun e => hj e.symm)]
theorem ofS_next (G : List (List Int)) (i : Nat) : ofS G i (castI (leans G i)) = ofS G (i + 1) [] := by
  unfold ofS
  congr 1
  funext j
  by_cases h1 : j < i
  · rw [if_pos h1, if_pos (by omega)]
  · rw [if_neg h1]
    by_cases h2 : j = i
    · rw [if_pos h2, if_pos (by omega), h2]
    · rw [if_neg h2, if_neg (by omega)]
      split <;> rfl
theorem ofS_zero (G : List (List Int)) : ofS G 0 [] = List.replicate G.length [] := by
  apply List.ext_getElem?
  intro j
  rw [ofS_at, List.getElem?_replicate]
  simp
theorem ofS_all (G : List (List Int)) (cur : List Int) : ofS G G.length cur = ofG G := by
  unfold ofS ofG
  apply List.map_congr_left
  intro j hj
  rw [if_pos (List.mem_range.1 hj)]
theorem inN_take {N : Nat} {row : List Int} {q : Nat} {x : Int} (h : row[q]? = some x) : inN N (row.take (q + 1)) = if 0 ≤ x ∧ x < (N : Int) then inN N (row.take q) ++ [x] else inN N (row.take q) := by
  rw [List.take_add_one, h, inN, List.filter_append]
  by_cases hx : 0 ≤ x ∧ x < (N : Int) <;> simp [hx, inN]
theorem inN_length (N : Nat) (row : List Int) (q : Nat) : (inN N (row.take q)).length ≤ row.length := Nat.le_trans (List.length_filter_le _ _) (by simp; omega)
def OfPost (w : World) (G : List (List Int)) (e : Ending) (w' : World) : Prop := ∃ A' : Option Addr, e = .returned (.slice A' G.length G.length) ∧ GRdK (fun W => ∀ b, w.heap.size ≤ b → b < w'.heap.size → W.heap[b]? = w'.heap[b]?) A' (ofG G) ∧ Below w.heap.size w w'
/-- between two steps of of -/
def OfR (w : World) (G : List (List Int)) (gO i : Nat) (cur : List Int) (wr : World) : Prop := (∃ As cs, Nest wr w.heap.size gO (ofS G i cur) As cs) ∧ Below w.heap.size w wr ∧ w.heap.size ≤ gO
theorem OfR.opened {w : World} {G : List (List Int)} {gO i : Nat} {cur : List Int} {wr : World} (h : OfR w G gO i cur wr) (hi : i < G.length) :
    ∃ (Ai : Option Addr) (ci : Nat), wr.cell? ⟨gO, i, none⟩ = some (.slice Ai cur.length ci) ∧ wr.frozen? ⟨gO, i, none⟩ = false ∧ Own wr w.heap.size 3 1 Ai cur.length ci (intV cur) ∧ blockOf Ai ≠ some gO ∧ gO < wr.heap.size ∧
      ∀ (w0 w' : World) (A' : Option Addr) (c' : Nat) (new : List Int), Below wr.heap.size wr w0 → w0.grownBy w' (blockOf Ai) → Own w' w.heap.size 3 1 A' new.length c' (intV new) → (blockOf A' = blockOf Ai ∨ ∀ b, blockOf A' = some b → w0.heap.size ≤ b) →
        OfR w G gO i new (w'.setCell ⟨gO, i, none⟩ (.slice A' new.length c')) := by
  obtain ⟨⟨As, cs, hn⟩, hb, hgO⟩ := h
  have hget := ofS_get G cur hi
  obtain ⟨h1, h2⟩ := hn.get hget
  refine ⟨As i, cs i, h1, h2, hn.own i cur hget, hn.ne hget, hn.lt, fun w0 w' A' c' new hb0 hg ho hbl => ⟨?_, ?_, hgO⟩⟩
  · have hp := (hn.below hb0 (Nat.le_refl _)).put (row' := new) hget hg ho hbl
    rw [ofS_set G cur new hi] at hp
    exact ⟨_, _, hp⟩
  · have h0 : Below w.heap.size w w0 := hb.trans (hb0.mono hb.size)
    exact ((h0.grown hg h0.size fun k e => ((hn.own i cur hget).block k e).1).setCell hgO _)
theorem OfR.next {w : World} {G : List (List Int)} {gO i : Nat} {wr : World} (h : OfR w G gO i (castI (leans G i)) wr) : OfR w G gO (i + 1) [] wr := by
  rw [OfR, ofS_next] at h
  exact h
theorem grown_trans {w1 w2 w3 : World} {row : Option Nat} (h1 : w1.grownBy w2 row) (h2 : w2.grownBy w3 row) : w1.grownBy w3 row :=
  ⟨h2.os.trans h1.os, h2.tape.trans h1.tape, h2.output.trans h1.output, Nat.le_trans h1.size h2.size, fun k hk hne => (h2.block k (Nat.lt_of_lt_of_le hk h1.size) hne).trans (h1.block k hk hne)⟩
set_option maxRecDepth 100000 in
set_option maxHeartbeats 4000000 in
theorem of_any (w : World) (A : Option Addr) (c : Nat) (G : List (List Int)) (hg : GRd w A G) (hs : Small G) :
    Calls Try.prog 22 #[.slice A G.length c] w fun e w' => OfPost w G e w' := by
  have hn := hs.n
  have hmk := fun W => made_rows_at W 38 Try.underlying38 G.length (by omega)
  have hlen : ∀ (i : Nat) (row : List Int), G[i]? = some row → row.length ≤ 300 := fun i row h => hs.row i row h
  have hrow : ∀ i : Nat, i < G.length → ∃ row, G[i]? = some row := fun i h => ⟨_, List.getElem?_eq_getElem h⟩
  have hop := fun (gO i : Nat) (cur : List Int) (wr : World) (h : OfR w G gO i cur wr) (hi : i < G.length) => h.opened hi
  have hfin : ∀ (gO : Nat) (wr : World), OfR w G gO G.length [] wr → GRdK (fun W => ∀ b, w.heap.size ≤ b → b < wr.heap.size → W.heap[b]? = wr.heap[b]?) (some ⟨gO, 0, none⟩) (ofG G) := fun gO wr h => by
    obtain ⟨⟨As, cs, h⟩, _, hg⟩ := h
    have := h.grdk (Nat.le_refl _) hg
    rwa [ofS_all] at this
  have hrd := fun (i : Nat) (row : List Int) (h : G[i]? = some row) => of_row h
  obtain ⟨W1, hW1⟩ : ∃ W1, W1 = w.alloc (.cells (List.replicate G.length (Value.slice none 0 0)).toArray 25) := ⟨_, rfl⟩
  have hor0 : OfR w G w.heap.size 0 [] W1 := by
    refine ⟨⟨fun _ => none, fun _ => 0, ?_⟩, by rw [hW1]; exact (Below.refl _ w).alloc (Nat.le_refl _) _, Nat.le_refl _⟩
    rw [hW1, ofS_zero]
    exact Nest.made w G.length w.heap.size
  unfold OfPost
  obtain ⟨gO, hgO⟩ : ∃ gO, gO = w.heap.size := ⟨_, rfl⟩
  obtain ⟨N, hN⟩ : ∃ N, N = G.length := ⟨_, rfl⟩
  rw [← hN] at hn hmk hrow hop hfin hrd hW1 ⊢
  rw [← hgO] at hor0
  have HMK := hid2 hmk
  have HGR := hid2 hg
  have HLEN := hid2 hlen
  have HROW := hid2 hrow
  have HOP := hid2 hop
  have HFIN := hid2 hfin
  have HRD := hid2 hrd
  have HW1 := hid2 hW1
  have HOR0 := hid2 hor0
  have HGO := hid2 hgO
  clear hg hs hmk hlen hrow hop hfin hrd hW1 hor0 hgO hN
  go_enter Try.func22, Try.ntmps22
  go_wp2_with (first
    | ((with_reducible refine wpList_made (HMK.out w) ?_ ?_); exact ⟨rfl, rfl⟩; rw [← HW1.out, ← HGO.out]))
  go_loopg [4, 5, 7, 13, 20] N (fun gk x4 x5 x7 iv x20 wr => ∃ i : Nat, i + gk = N ∧ iv = .int .i64 i ∧ OfR w G gO i [] wr)
  case atStart => exact ⟨0, by omega, rfl, HOR0.out⟩
  case round =>
    obtain ⟨i, hi, rfl, hor⟩ := hrel
    have HOR := hid2 hor
    clear hor
    by_cases hiN : i < N
    · have hiN' : (i : Int) < N := by omega
      have hi0 : (0 : Int) ≤ i := by omega
      have HIN := hid2 hiN
      obtain ⟨g0, hg0⟩ : ∃ g0, g0 = gk := ⟨_, rfl⟩
      obtain ⟨row, hrow⟩ := HROW.out i hiN
      obtain ⟨a, o, B, c2, rfl, c1w, hBw⟩ := HGR.out.row hrow
      have c1 : wr.cell? ⟨a, o + i, none⟩ = some (.slice B row.length c2) := (HOR.out.2.1.cell (p := ⟨a, o + i, none⟩) (World.block_lt_of_cell? w _ c1w)).trans c1w
      have hL := HLEN.out i row hrow
      have hB : ∀ W, Below w.heap.size w W → Rd W 1 B row.length (intV row) := fun W hW => hBw.below_all hW
      obtain ⟨L, hL0⟩ : ∃ L, L = row.length := ⟨_, rfl⟩
      rw [← hL0] at c1 hL hB
      have hfr := HRD.out i row hrow
      have HB := hid2 hB
      have HFR := hid2 hfr
      have HL0 := hid2 hL0
      clear hrow hL0 hB hfr hiN c1w hBw
      go_wp2_with fail
      go_loopg [7, 20] L (fun gj x7 qv wr2 => ∃ (q : Nat) (cur : List Int), q + gj = L ∧ qv = .int .i64 q ∧ cur = inN N (row.take q) ∧ OfR w G gO i cur wr2)
      case atStart => exact ⟨0, [], by omega, rfl, rfl, HOR.out⟩
      case round =>
        clear HOR c1
        obtain ⟨q, cur, hq, rfl, hcur, hor⟩ := hrel
        have hcl : cur.length ≤ L := by rw [hcur, HL0.out]; exact inN_length N row q
        have HCUR := hid2 hcur
        have HOR := hid2 hor
        obtain ⟨Ai, ci, hcA, hfA, hoA, hnA, hgt, hput⟩ := HOP.out gO i cur wr hor HIN.out
        obtain ⟨n, hnl⟩ : ∃ n, n = cur.length := ⟨_, rfl⟩
        rw [← hnl] at hcA hoA hcl
        have HNL := hid2 hnl
        have HOA := hid2 hoA
        have HNA := hid2 hnA
        have HPUT := hid2 hput
        clear hcur hor hoA hnA hput hnl
        by_cases hqL : q < L
        · have hqL' : (q : Int) < L := by omega
          have hq0 : (0 : Int) ≤ q := by omega
          obtain ⟨x, hx⟩ : ∃ x, row[q]? = some x := ⟨_, List.getElem?_eq_getElem (by rw [← HL0.out]; exact hqL)⟩
          obtain ⟨bB, oB, rfl, cx⟩ := int_cell (HB.out wr HOR.out.2.1) hx
          have hst := inN_take (N := N) hx
          rw [← HCUR.out] at hst
          have HST := hid2 hst
          clear hx hst hqL
          by_cases hx0 : 0 ≤ x
          · by_cases hxN : x < N
            · obtain ⟨V, hV⟩ : ∃ V, V = intV cur := ⟨_, rfl⟩
              have hown : Own (wr.alloc (.cells #[.int .i64 x] 3)) w.heap.size 3 1 Ai n ci V := by rw [hV]; exact HOA.out.alloc _
              have hrd := Rd.of_lit wr #[.int .i64 x] 3 1 1 (by decide) rfl
              have hone : ∀ v ∈ [Value.int .i64 x], v.oneCell' = true := by simp [Value.oneCell']
              have hlws := HOR.out.2.1.size
              have HST2 := hid2 (show inN N (row.take (q + 1)) = cur ++ [x] from by rw [HST.out, if_pos ⟨hx0, hxN⟩])
              have HV := hid2 hV
              have HOWN := hid2 hown
              have HRDD := hid2 hrd
              have HGT := hid2 hgt
              have HCA := hid2 hcA
              have HFA := hid2 hfA
              clear hV hown hrd HST hgt
              go_wp2_with (first
                | (at_builtin; go_must ((with_reducible refine wpList_append_lit 3 (.int .i64 0) 1 8 Try.underlying25 info_int1 rfl w.heap.size Ai n ci V HOWN.out 1 _ (.slice (some ⟨wr.heap.size, 0, none⟩) 1 1) (Src.slice Try.underlying25 HRDD.out) hone ?_ ?_ ?_ ?_ ?_); (unfold maxLen; omega); omega; (simp; omega); exact ⟨rfl, rfl⟩; intro A3 c3 w3 hown3 hgr3 hbl3; have cu3 : w3.cell? ⟨gO, i, none⟩ = some (.slice Ai n ci) := hgr3.cell (by rw [World.cell?_alloc_lt _ _ _ HGT.out]; exact HCA.out) (fun e => HNA.out e.symm); have fz3 : w3.frozen? ⟨gO, i, none⟩ = false := by rw [World.frozen?_of_block (hgr3.block gO (by simp; have := HGT.out; omega) (fun e => HNA.out e.symm)), World.frozen?_of_block (Below.heap_alloc wr _ _ HGT.out)]; exact HFA.out)))
              go_roundg (gk - 1)
              case rel =>
                refine ⟨q + 1, cur ++ [x], by omega, by go_num, HST2.out.symm, ?_⟩
                have hp := HPUT.out (wr.alloc (.cells #[.int .i64 x] 3)) w3 A3 c3 (cur ++ [x]) ((Below.refl _ wr).alloc (Nat.le_refl _) _) hgr3 (by rw [List.length_append, ← HNL.out, intV, List.map_append]; rw [HV.out] at hown3; exact hown3) (hbl3.imp id fun h b e => by rw [h] at e; cases e; exact Nat.le_refl _)
                rw [List.length_append, ← HNL.out] at hp
                exact hp
              case measure => omega
            · have hxf : decide (x < (N : Int)) = false := decide_eq_false hxN
              have HST2 := hid2 (show inN N (row.take (q + 1)) = cur from by rw [HST.out, if_neg (fun h => hxN h.2)])
              clear HST hcA hfA
              go_wp2_with fail
              go_roundg (gk - 1)
              case rel => exact ⟨q + 1, cur, by omega, by go_num, HST2.out.symm, HOR.out⟩
              case measure => omega
          · have hxf : decide ((0 : Int) ≤ x) = false := decide_eq_false hx0
            have HST2 := hid2 (show inN N (row.take (q + 1)) = cur from by rw [HST.out, if_neg (fun h => hx0 h.1)])
            clear HST hcA hfA
            go_wp2_with fail
            go_roundg (gk - 1)
            case rel => exact ⟨q + 1, cur, by omega, by go_num, HST2.out.symm, HOR.out⟩
            case measure => omega
        · have hqL2 : q = L := by omega
          have hqL' : ¬ (q : Int) < L := by omega
          obtain ⟨new, hnew⟩ : ∃ new, new = castI (leans G i) := ⟨_, rfl⟩
          have hcn : compact (sortI cur) = new := by
            rw [hnew, ← HFR.out, HCUR.out, hqL2, HL0.out, List.take_length]
          have hnl2 : n = (sortI cur).length := by rw [sortI_length, HNL.out]
          have cS := sort_own wr w.heap.size Ai ci cur (by rw [← HNL.out]; exact HOA.out) (by rw [← HNL.out]; omega)
          rw [← HNL.out] at cS
          have cC : ∀ W, Own W w.heap.size 3 1 Ai n ci (intV (sortI cur)) → Calls Try.prog 33 #[.slice Ai n ci] W fun e w' => e = .returned (.slice Ai new.length ci) ∧ Own w' w.heap.size 3 1 Ai new.length ci (intV new) ∧ W.grownBy w' (blockOf Ai) := fun W h => by
            have := compact_own W w.heap.size Ai ci (sortI cur) (by rw [← hnl2]; exact h) (by rw [← hnl2]; omega)
            rw [hcn, ← hnl2] at this
            exact this
          have hpn : ∀ w', wr.grownBy w' (blockOf Ai) → Own w' w.heap.size 3 1 Ai new.length ci (intV new) → OfR w G gO (i + 1) [] (w'.setCell ⟨gO, i, none⟩ (.slice Ai new.length ci)) := fun w' h1 h2 => by
            have := HPUT.out wr w' Ai ci new (Below.refl _ wr) h1 h2 (.inl rfl)
            have := (show OfR w G gO i (castI (leans G i)) _ from by rw [← hnew]; exact this).next
            exact this
          obtain ⟨nl, hnl3⟩ : ∃ nl, nl = new.length := ⟨_, rfl⟩
          rw [← hnl3] at cC hpn
          have HCS := hid2 cS
          have HCC := hid2 cC
          have HPN := hid2 hpn
          have HGT := hid2 hgt
          have HCA := hid2 hcA
          have HFA := hid2 hfA
          clear hnew hcn hnl2 cS cC hpn hqL hqL2 HPUT hnl3 hgt
          go_wp2_with (first
            | (go_at_call 32; refine HCS.out.mono ?_; rintro e w4 ⟨rfl, hown4, hgr4⟩; have HO4 := hid2 hown4; have HG4 := hid2 hgr4; have cu4 : w4.cell? ⟨gO, i, none⟩ = some (.slice Ai n ci) := hgr4.cell HCA.out (fun e => HNA.out e.symm); clear hown4 hgr4)
            | (go_at_call 33; refine (HCC.out _ HO4.out).mono ?_; rintro e w5 ⟨rfl, hown5, hgr5⟩; have HO5 := hid2 hown5; have HG5 := hid2 (grown_trans HG4.out hgr5); have cu5 : w5.cell? ⟨gO, i, none⟩ = some (.slice Ai n ci) := HG5.out.cell HCA.out (fun e => HNA.out e.symm); have fz5 : w5.frozen? ⟨gO, i, none⟩ = false := by (rw [World.frozen?_of_block (HG5.out.block gO HGT.out (fun e => HNA.out e.symm))]; exact HFA.out)))
          go_roundg (g0 - 1)
          case rel => exact ⟨i + 1, by omega, by go_num, HPN.out _ HG5.out HO5.out⟩
          case measure => omega
    · have hiN2 : i = N := by omega
      have hlt' : ¬ (i : Int) < N := by omega
      have HF := hid2 (HFIN.out gO wr (by have := HOR.out; rwa [hiN2] at this))
      clear hiN hiN2
      go_wp2_with fail
      go_ret
      exact ⟨_, rfl, HF.out, HOR.out.2.1⟩
end Go.Proofs.Ytccilmnlepekeaa
