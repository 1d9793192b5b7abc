/- The walk of KeyTurns. -/
import Derived.Test.YtjmfmlkjippiaaaDoorKsame
namespace Go.Proofs.YtjmfmlkjippiaaaDoor
open Go.RowKit Go.Shelf
set_option maxRecDepth 100000
section
variable {P : Program} {w : World}
/-- append onto a slice of the call's own: either in its own row, or in a new one, and all else is kept -/
theorem run_append_two (t u ty e : TypeId) (i : TypeInfo) (z : Value) (sz bytes : Nat) (ht : P.underlying t = some (.slice e)) (hi : P.info? e = some i) (hz : i.zero = some z)
    (hsize : i.size = sz) (hby : i.bytes = bytes) (hzs : z.cells.size = sz)
    {base : Nat} {A : Option Addr} {n c : Nat} {xs : List Value} (hown : Own w base e sz A n c xs)
    {x : Value} {m : Nat} {news : List Value} (hsrc : Src P w u sz x m news) (h1 : ∀ v ∈ news, v.oneCell' = true)
    (h63 : n + m ≤ maxLen) (hbytes : (n + m) * bytes ≤ 140737488355328) (hbase : base ≤ w.heap.size) :
    ∃ A' c' w', (Builtin.append_ #[t, u] ty #[.slice A n c, x]).run P w = .ok (.slice A' (n + m) c') w' ∧ Own w' base e sz A' (n + m) c' (xs ++ news) ∧ w.grownBy w' (blockOf A) ∧
      ((A' = A ∧ c' = c) ∨ (blockOf A' = some w.heap.size ∧ Below w.heap.size w w')) := by
  subst hsize
  subst hby
  have hsmall : n + m ≤ 9223372036854775807 := by simp only [maxLen] at h63; omega
  obtain ⟨hl, hnc, hcm, hc⟩ := hown
  obtain ⟨hnl, hd, hlen, hfirst⟩ := hsrc
  have hlen0 := hlen 0
  have hlen' : (xs ++ news).length = (n + m) * i.size := by rw [List.length_append, hl, hnl, Nat.add_mul]
  by_cases hroom : n + m ≤ c
  · -- there is room
    rcases Nat.eq_zero_or_pos c with h0 | h0
    · subst h0
      obtain rfl : n = 0 := by omega
      obtain rfl : m = 0 := by omega
      have hx0 : xs = [] := List.eq_nil_of_length_eq_zero (by simpa using hl)
      have hn0 : news = [] := List.eq_nil_of_length_eq_zero (by simpa using hnl)
      subst hx0 hn0
      refine ⟨A, 0, w, ?_, ⟨by simp, Nat.le_refl _, hcm, hc⟩, ⟨rfl, rfl, rfl, Nat.le_refl _, fun _ _ _ => rfl⟩, .inl ⟨rfl, rfl⟩⟩
      have hf := hfirst 0
      simp only [World.drewN_zero] at hf hlen0
      rcases hd with ⟨_, hd⟩ | hd <;> cases A <;> simp [Builtin.append_, run_underlying ht, run_underlying hd, sizeOf, typeInfo, hi, hlen0, hf, storeCells]
    · obtain ⟨b, o, cur, fr, rfl, hb, hg, hfr, hs, hx⟩ := hc.resolve_left (fun e => by omega)
      have hns : n * i.size + news.length ≤ c * i.size := by rw [hnl, ← Nat.add_mul]; exact Nat.mul_le_mul_right _ hroom
      have hst := run_storeCells_free P b (o + n * i.size) e fr news 0 cur w hfr hg (by omega) h1
      simp only [Nat.add_zero] at hst
      have hf := hfirst 0
      simp only [World.drewN_zero] at hf hlen0
      refine ⟨some ⟨b, o, none⟩, c, w.setRow b (cur.toList.take (o + n * i.size) ++ news ++ cur.toList.drop (o + n * i.size + news.length)).toArray, ?_, ?_, ?_, .inl ⟨rfl, rfl⟩⟩
      · rcases hd with ⟨_, hd⟩ | hd <;> simp [Builtin.append_, run_underlying ht, run_underlying hd, sizeOf, typeInfo, hi, hlen0, hf, hroom, addr_add, hst]
      · refine ⟨hlen', hroom, hcm, .inr ⟨b, o, _, fr, rfl, hb, setRow_heap w b cur _ e _ hg, ?_, ?_, fun j hj => ?_⟩⟩
        · simp only [List.size_toArray, List.length_append, List.length_take, List.length_drop, Array.length_toList]
          rw [show min (o + n * i.size) cur.size + news.length + (cur.size - (o + n * i.size + news.length)) = cur.size by omega]
          exact hfr
        · simp only [List.size_toArray, List.length_append, List.length_take, List.length_drop, Array.length_toList]
          omega
        · have hlt : (cur.toList.take (o + n * i.size)).length = o + n * i.size := by rw [List.length_take, Array.length_toList]; omega
          have hnx : n * i.size = xs.length := hl.symm
          simp only [List.getElem?_toArray]
          rw [List.append_assoc]
          by_cases hjn : j < n * i.size
          · rw [List.getElem?_append_left (by omega), List.getElem?_append_left (by omega), List.getElem?_take, if_pos (by omega), ← hx j hjn]
            simp
          · rw [Nat.add_mul] at hj
            rw [List.getElem?_append_right (by omega), List.getElem?_append_left (by omega), List.getElem?_append_right (l₁ := xs) (by omega)]
            congr 1
            omega
      · exact ⟨rfl, rfl, rfl, by simp, fun k _ hk => setRow_other w b k _ (fun e => hk (by simp [blockOf, e]))⟩
  · -- a new row
    have hge := grownCap_ge w (n + m) c e
    have hcm' : grownCap w (n + m) c e ≤ maxLen := grownCap_le_maxLen w (n + m) c e h63
    have h63' : ¬ (9223372036854775807 < ((n : Int) + (m : Int))) := by omega
    have h48' : ¬ (281474976710656 < Builtin.nextslicecap (n + m) c * i.bytes) := by
      have := growslice_fits (need := n + m) (old := c) (by omega) hbytes
      omega
    have hf := hfirst 1
    have hfo : (Builtin.firstCells i.size n (.slice A n c)).run P (w.drewN 1) = .ok xs.toArray (w.drewN 1) := by
      rcases Nat.eq_zero_or_pos c with h0 | h0
      · obtain rfl : n = 0 := by omega
        have hx0 : xs = [] := List.eq_nil_of_length_eq_zero (by simpa using hl)
        subst hx0
        cases A <;> simp [Builtin.firstCells, loadCells, loadCellsFrom]
      · obtain ⟨b, o, cur, fr, rfl, hb, hg, hfr, hs, hx⟩ := hc.resolve_left (fun e => by omega)
        refine run_firstCells_some (P := P) (w.drewN 1) i.size n ⟨b, o, none⟩ n c xs hl (fun j v hv => ?_)
        have hj : j < xs.length := by
          rcases Nat.lt_or_ge j xs.length with hlt | hge
          · exact hlt
          · rw [List.getElem?_eq_none hge] at hv; cases hv
        rw [addr_add]
        show w.cell? _ = _
        rw [cell_of_row w b _ cur e _ hg, hx j (by omega), hv]
    have e1 : w.drewN 1 = w.drew := rfl
    rw [e1] at hf hfo
    simp only [World.drewN_zero] at hlen0
    refine ⟨some ⟨w.heap.size, 0, none⟩, grownCap w (n + m) c e, w.drew.alloc (.cells (xs.toArray ++ news.toArray ++ Builtin.zeroCells z.cells (grownCap w (n + m) c e - (n + m))) e), ?_, ?_, ?_, .inr ⟨rfl, (Below.refl _ w).drew.alloc (Nat.le_refl _) _⟩⟩
    · rcases hd with ⟨_, hd⟩ | hd <;> simp [Builtin.append_, run_underlying ht, run_underlying hd, sizeOf, typeInfo, zeroValue, hi, hz, hlen0, hroom, h63', h48', Question.forced, hf, hfo, newRow, grownCap, -List.append_toArray]
    · have hsz : (xs.toArray ++ news.toArray ++ Builtin.zeroCells z.cells (grownCap w (n + m) c e - (n + m))).size = grownCap w (n + m) c e * i.size := by
        simp only [Array.size_append, List.size_toArray, size_zeroCells, hzs, hl, hnl, ← Nat.add_mul]
        congr 1; omega
      have h := Own.made w.drew (xs.toArray ++ news.toArray ++ Builtin.zeroCells z.cells (grownCap w (n + m) c e - (n + m))) e i.size (n + m) _ base hbase hge hcm' hsz
      have ht : (xs.toArray ++ news.toArray ++ Builtin.zeroCells z.cells (grownCap w (n + m) c e - (n + m))).toList.take ((n + m) * i.size) = xs ++ news := by
        simp only [Array.toList_append]
        rw [← hlen']
        exact List.take_left
      rw [ht] at h
      exact h
    · exact ⟨rfl, rfl, rfl, by simp, fun k hk _ => Below.heap_alloc w.drew _ k hk⟩


/-- the row of n elements, and one that has come of it by append: in its own row, or elsewhere -/
def Came (base : Nat) (t : TypeId) (sz : Nat) (A : Option Addr) (c : Nat) (n : Nat) (xs : List Value) (A' : Option Addr) (c' : Nat) (w : World) : Prop :=
  Own w base t sz A' n c' xs ∧ ((A' = A ∧ c' = c) ∨ blockOf A' ≠ blockOf A)
/-- all that lies there but the row's block is kept, and what came of the row too -/
def KeptBut (base : Nat) (t : TypeId) (sz : Nat) (A : Option Addr) (c : Nat) (n : Nat) (xs : List Value) (w w' : World) : Prop :=
  w.grownBy w' (blockOf A) ∧ ∀ A' c', Came base t sz A c n xs A' c' w → Came base t sz A c n xs A' c' w'
theorem KeptBut.refl {base : Nat} {t : TypeId} {sz : Nat} {A : Option Addr} {c n : Nat} {xs : List Value} (w : World) : KeptBut base t sz A c n xs w w := ⟨⟨rfl, rfl, rfl, Nat.le_refl _, fun _ _ _ => rfl⟩, fun _ _ h => h⟩
theorem KeptBut.alloc {base : Nat} {t : TypeId} {sz : Nat} {A : Option Addr} {c n : Nat} {xs : List Value} (w : World) (o : Obj) : KeptBut base t sz A c n xs w (w.alloc o) := ⟨World.grownBy_alloc w o _, fun _ _ h => ⟨h.1.alloc o, h.2⟩⟩
theorem wp_append_two {o : Oper} {a : Act} {K : Act → World → Prop} {Q : Exit → Act → World → Prop} (s x : Operand) (t u : TypeId)
    (ho : o.op = .call { callee := .builtin .append, args := #[s, x], argTypes := #[t, u] })
    (e : TypeId) (z : Value) (sz bytes : Nat) (ht : P.underlying t = some (.slice e)) (hi : (P.info? e).map (fun i => (i.zero, i.size, i.bytes)) = some (some z, sz, bytes)) (hzs : z.cells.size = sz)
    (base : Nat) (A : Option Addr) (n c : Nat) (xs : List Value) (hown : Own w base e sz A n c xs)
    (m : Nat) (news : List Value) (v : Value) (hsrc : Src P w u sz v m news) (h1 : ∀ v ∈ news, v.oneCell' = true)
    (h63 : n + m ≤ maxLen) (hbytes : (n + m) * bytes ≤ 140737488355328) (hbase : base ≤ w.heap.size) (hsx : a.eval s = .slice A n c ∧ a.eval x = v)
    (h : ∀ A' c' w', Came base e sz A c (n + m) (xs ++ news) A' c' w' → KeptBut base e sz A c (n + m) (xs ++ news) w w' → Own w' base e sz A n c xs → K (a.put o.dst (.slice A' (n + m) c')) w') : o.wp P a w K Q := by
  obtain ⟨i, hi0, hz, hsz, hby⟩ := info_parts hi
  obtain ⟨A', c', w', hr, h2, h3, h4⟩ := run_append_two (P := P) t u o.type e i z sz bytes ht hi0 hz hsz hby hzs hown hsrc h1 h63 hbytes hbase
  unfold Oper.wp execOp
  simp only [ho, resolve, invoke, builtin, Sem.run_bind, Sem.run_pure, Result.andThen_ok, List.map_toArray, List.map_cons, List.map_nil, hsx.1, hsx.2, hr]
  have hl := hown.1
  rcases h4 with ⟨rfl, rfl⟩ | ⟨h5, h6⟩
  · refine h A' c' w' ⟨h2, .inl ⟨rfl, rfl⟩⟩ ⟨h3, fun B cB hB => ?_⟩ ?_
    · rcases hB with ⟨hB1, ⟨rfl, rfl⟩ | hB2⟩
      · exact ⟨h2, .inl ⟨rfl, rfl⟩⟩
      · exact ⟨hB1.grown h3 fun b hb e => hB2 (by rw [hb, e]), .inr hB2⟩
    · have := h2.take (k := n) (by omega)
      rwa [List.take_append_of_le_length (by omega), List.take_of_length_le (by omega)] at this
  · have hne : blockOf A' ≠ blockOf A := fun e => by
      rw [h5] at e
      have := (hown.block _ e.symm).2.1
      omega
    refine h A' c' w' ⟨h2, .inr hne⟩ ⟨h3, fun B cB hB => ⟨hB.1.below h6 (Nat.le_refl _), hB.2⟩⟩ (hown.below h6 (Nat.le_refl _))
end
def turnL (l : List Tx) : List Tx := l.reverse ++ l.take 1
theorem turnL_mem (l : List Tx) (x : Tx) : x ∈ turnL l ↔ x ∈ l := by
  rw [turnL, List.mem_append, List.mem_reverse]
  exact ⟨fun h => h.elim id List.mem_of_mem_take, .inl⟩
theorem turnL_set (l : List Tx) : setL (turnL l) = setL l := setL_of_mem (turnL_mem l)
theorem turnL_len (l : List Tx) : (turnL l).length ≤ l.length + 1 := by
  rw [turnL, List.length_append, List.length_reverse, List.length_take]
  omega
set_option maxHeartbeats 4000000 in
theorem lturned_any (w : World) (A : Option Addr) (c : Nat) (l : List Tx) (hl : l.length ≤ 1000) (hr : Rd w 1 A l.length (strV l)) :
    Calls Tryd.prog 15 #[.slice A l.length c] w fun e w' => ∃ A' c', e = .returned (.slice A' (turnL l).length c') ∧ Own w' w.heap.size 9 1 A' (turnL l).length c' (strV (turnL l)) ∧ Below w.heap.size w w' := by
  have htn : (turnL l).length = l.length + (l.take 1).length := by rw [turnL, List.length_append, List.length_reverse]
  obtain ⟨n, hn⟩ : ∃ n, n = l.length := ⟨_, rfl⟩
  rw [← hn] at hr hl htn ⊢
  have HR := hid2 hr
  have HN := hid2 hn
  have HTN := hid2 htn
  have hlim : (n : Int) ≤ 1000 := by omega
  clear hr hn htn
  go_enter Tryd.func15, Tryd.ntmps15
  go_wp2_with fail
  go_loopg [3, 4] n (fun gk ov iv wr => gk ≤ n ∧ ∃ (i : Int) (j : Nat) (A1 : Option Addr) (c1 : Nat), iv = .int .i64 i ∧ i = (gk : Int) - 1 ∧ j + gk = n ∧ ov = .slice A1 j c1 ∧ Own wr w.heap.size 9 1 A1 j c1 (strV ((l.drop gk).reverse)) ∧ Below w.heap.size w wr)
  case atStart =>
    refine ⟨Nat.le_refl _, _, 0, _, _, rfl, by omega, by omega, rfl, ?_, (Below.refl _ _).alloc (Nat.le_refl _) _⟩
    rw [HN.out, List.drop_length]
    exact Own.lit w #[] _ 1 0 _ (Nat.le_refl _) (by decide) rfl
  case round =>
    obtain ⟨hgn, i, j, A1, c1, rfl, hi, hj, rfl, hown, hbe⟩ := hrel
    have hjl : j ≤ 1000 := by omega
    have hsz := hbe.size
    by_cases h0 : 0 < gk
    · obtain ⟨p, rfl⟩ : ∃ p, gk = p + 1 := ⟨gk - 1, by omega⟩
      obtain rfl : i = (p : Int) := by omega
      clear hi
      have hp0 : (0 : Int) ≤ p := by omega
      have hpn : (p : Int) < n := by omega
      obtain ⟨x, hx⟩ : ∃ x, l[p]? = some x := ⟨_, List.getElem?_eq_getElem (by rw [← HN.out]; omega)⟩
      have hts : (l.drop p).reverse = (l.drop (p + 1)).reverse ++ [x] := by
        obtain ⟨hp, rfl⟩ := List.getElem?_eq_some_iff.1 hx
        rw [List.drop_eq_getElem_cons hp, List.reverse_cons]
      obtain ⟨b, o, rfl, hcell⟩ := (HR.out.below_all hbe).2 (by omega)
      have hcx : wr.cell? ⟨b, o + p, none⟩ = some (.string (strB x)) := hcell p _ (strV_get hx)
      obtain ⟨X, hX⟩ : ∃ X, X = strB x := ⟨_, rfl⟩
      rw [← hX] at hcx
      obtain ⟨V, hV⟩ : ∃ V, V = strV ((l.drop (p + 1)).reverse) := ⟨_, rfl⟩
      rw [← hV] at hown
      have HX := hid2 hX
      have HV := hid2 hV
      have HTS := hid2 hts
      have HBE := hid2 hbe
      have HJ := hid2 hj
      clear hx hts hcell hX hV hbe hj
      go_wp2_with (at_builtin; have _t := hown; go_must ((with_reducible refine wpList_append_lit 9 (.string ⟨#[]⟩) 1 16 Tryd.underlying25 info_str rfl w.heap.size A1 j c1 V (hown.alloc _) 1 [.string X] (.slice (some ⟨wr.heap.size, 0, none⟩) 1 1) (Src.slice Tryd.underlying25 (Rd.one wr _ _)) one_str ?_ ?_ ?_ ?_ ?_); (unfold maxLen; omega); omega; (simp; omega); exact ⟨rfl, rfl⟩; intro A3 c3 w3 hown3 hgr3 hbl3; clear hown; have hb3 : Below w.heap.size w w3 := (HBE.out.alloc (by omega) _).grown hgr3 (by simp; omega) (fun g e => (_t.block g e).1)))
      go_roundg p
      case rel => exact ⟨by omega, _, j + 1, A3, c3, rfl, by omega, by have := HJ.out; omega, rfl, by rw [HTS.out, ← strV_snoc, ← HV.out, ← HX.out]; exact hown3, hb3⟩
      case measure => omega
    · obtain rfl : gk = 0 := by omega
      obtain rfl : i = -1 := by omega
      clear hi
      rw [List.drop_zero] at hown
      obtain rfl : j = n := by omega
      clear hj
      have HBE := hid2 hbe
      by_cases hz : 0 < j
      · have hzi : (0 : Int) < j := by omega
        obtain ⟨x, hx⟩ : ∃ x, l[0]? = some x := ⟨_, List.getElem?_eq_getElem (by rw [← HN.out]; exact hz)⟩
        have ht1 : l.take 1 = [x] := by rw [show (1 : Nat) = 0 + 1 from rfl, List.take_add_one, hx]; rfl
        obtain ⟨b, o, rfl, hcell⟩ := (HR.out.below_all hbe).2 (by omega)
        have hcx : wr.cell? ⟨b, o, none⟩ = some (.string (strB x)) := hcell 0 _ (strV_get hx)
        obtain ⟨X, hX⟩ : ∃ X, X = strB x := ⟨_, rfl⟩
        rw [← hX] at hcx
        obtain ⟨V, hV⟩ : ∃ V, V = strV l.reverse := ⟨_, rfl⟩
        rw [← hV] at hown
        have HX := hid2 hX
        have HV := hid2 hV
        have HT1 := hid2 ht1
        clear hx ht1 hcell hX hV hbe
        go_wp2_with (at_builtin; have _t := hown; go_must ((with_reducible refine wpList_append_lit 9 (.string ⟨#[]⟩) 1 16 Tryd.underlying25 info_str rfl w.heap.size A1 j c1 V (hown.alloc _) 1 [.string X] (.slice (some ⟨wr.heap.size, 0, none⟩) 1 1) (Src.slice Tryd.underlying25 (Rd.one wr _ _)) one_str ?_ ?_ ?_ ?_ ?_); (unfold maxLen; omega); omega; (simp; omega); exact ⟨rfl, rfl⟩; intro A3 c3 w3 hown3 hgr3 hbl3; clear hown; have hb3 : Below w.heap.size w w3 := (HBE.out.alloc (by omega) _).grown hgr3 (by simp; omega) (fun g e => (_t.block g e).1)))
        go_ret
        have hlen : (turnL l).length = j + 1 := by rw [HTN.out, HT1.out]; rfl
        refine ⟨A3, c3, by rw [hlen]; rfl, ?_, hb3⟩
        rw [hlen, turnL, HT1.out, ← strV_snoc, ← HV.out, ← HX.out]
        exact hown3
      · obtain rfl : j = 0 := by omega
        have hnil : l = [] := List.eq_nil_of_length_eq_zero HN.out.symm
        have HNIL := hid2 hnil
        clear hz hnil
        go_wp2_with fail
        go_ret
        refine ⟨A1, c1, by rw [HNIL.out]; rfl, ?_, HBE.out⟩
        rw [HNIL.out] at hown ⊢
        exact hown
section
variable {W : World} {g g' : Nat} {V V' : List Value} {L L' : LayA} {a b : ActK}
theorem ActBox.tsame (h : ActBox W g V L a) (h' : ActBox W g' V' L' b) (hm : Mild a) (hm' : Mild b) (hT : Tabs W) : Calls Tryd.prog 14 #[.agg V.toArray, .agg V'.toArray] W fun e w' => e = .returned (.bool (decide (textK a = textK b))) ∧ Below W.heap.size W w' := by
  rw [h.val, h'.val]
  exact same_any W L L' a b h.at_ h'.at_ hm hm' hT
end
/-- the action that the statement makes -/
def turnA (a : ActK) (last : Tx) : ActK := ⟨a.tool, a.env ++ (a.env.take 1).map fun p => (p.1, last), turnL a.ins, turnL a.asks, turnL a.outs⟩
theorem find_turn (l : List SetE) (n : Tx) (h : n ∈ l.map (·.1)) (r : List SetE) : (l ++ r).find? (fun p => p.1 == n) = l.find? fun p => p.1 == n := by
  rw [List.find?_append]
  have : (l.find? fun p => p.1 == n).isSome = true := by
    rw [List.find?_isSome]
    obtain ⟨p, hp, rfl⟩ := List.mem_map.1 h
    exact ⟨p, hp, by simp⟩
  cases hf : l.find? fun p => p.1 == n with
  | none => rw [hf] at this; cases this
  | some p => rfl
theorem turnA_env (l : List SetE) (last : Tx) : envL (l ++ (l.take 1).map fun p => (p.1, last)) = envL l := by
  have hn : setL ((l ++ (l.take 1).map fun p => (p.1, last)).map (·.1)) = setL (l.map (·.1)) := by
    refine setL_of_mem fun x => ?_
    rw [List.map_append, List.mem_append]
    refine ⟨fun h => h.elim id fun h => ?_, .inl⟩
    rw [List.map_map] at h
    obtain ⟨p, hp, rfl⟩ := List.mem_map.1 h
    exact List.mem_map.2 ⟨p, List.mem_of_mem_take hp, rfl⟩
  have hv : ∀ n ∈ setL (l.map (·.1)), [n, valOf (l ++ (l.take 1).map fun p => (p.1, last)) n] = [n, valOf l n] := fun n h => by
    rw [valOf, find_turn l n (((setL_is _).2 n).1 h)]
    rfl
  rw [envL, envL, hn]
  unfold List.flatMap
  rw [List.map_congr_left hv]
theorem turnA_text (a : ActK) (last : Tx) : textK (turnA a last) = textK a := by
  rw [textK_inj]
  refine ⟨rfl, ?_⟩
  rw [partsK, partsK]
  simp only [turnA]
  rw [turnA_env, turnL_set, turnL_set, turnL_set]
theorem turnA_mild {a : ActK} (h : greatL a = false) {last : Tx} (hl : last.length ≤ 100) : Mild (turnA a last) := by
  have hm := mild_of h
  have h0 := h
  rw [greatL] at h
  simp only [Bool.or_eq_false_iff] at h
  obtain ⟨⟨⟨⟨⟨h1, h2⟩, h3⟩, h4⟩, h5⟩, h6⟩ := h
  obtain ⟨i1, i2⟩ := wideL_not h3
  obtain ⟨a1, a2⟩ := wideL_not h4
  obtain ⟨o1, o2⟩ := wideL_not h5
  have e1 : a.env.length ≤ 20 := by simp at h1; omega
  have t1 := turnL_len a.ins
  have t2 := turnL_len a.asks
  have t3 := turnL_len a.outs
  have te : ((a.env.take 1).map fun p => (p.1, last)).length ≤ 1 := by rw [List.length_map, List.length_take]; omega
  refine ⟨?_, hm.tool, Nat.le_trans t1 (by omega), Nat.le_trans t2 (by omega), Nat.le_trans t3 (by omega), fun x hx => i2 x ((turnL_mem _ _).1 hx), fun x hx => a2 x ((turnL_mem _ _).1 hx), fun x hx => o2 x ((turnL_mem _ _).1 hx), fun p hp => ?_⟩
  · show (a.env ++ (a.env.take 1).map fun p => (p.1, last)).length ≤ 22
    rw [List.length_append]
    omega
  · have hp' : p ∈ a.env ++ (a.env.take 1).map fun p => (p.1, last) := hp
    rcases List.mem_append.1 hp' with hp | hp
    · exact hm.lE p hp
    · obtain ⟨q, hq, rfl⟩ := List.mem_map.1 hp
      exact ⟨(hm.lE q (List.mem_of_mem_take hq)).1, hl⟩
/-- what an operation of the region that makes the turned action yields -/
def TV (B : Nat) (rows : List (Option (List Tx))) (vals : List Value) (X : Value → World → Prop) (j : Nat) (v : Value) (w : World) : Prop :=
  match j == 12, j == 13 with
  | true, _ => X v w
  | _, true => ∃ g, v = .pointer (some ⟨g, 0, none⟩) ∧ B ≤ g ∧ w.heap[g]? = some (.cells #[.string ⟨#[]⟩, .string ⟨#[]⟩, .string ⟨#[]⟩, .slice none 0 0, .slice none 0 0, .slice none 0 0, .slice none 0 0] 27 (0, 0))
  | false, false => match rows.getD j none with
    | some x => ∃ A c, v = .slice A x.length c ∧ Own w B 9 1 A x.length c (strV x)
    | none => vals[j]? = some v
def TX (B : Nat) (pk nm T : ByteArray) (a : ActK) (v : Value) (w : World) : Prop :=
  ∃ (I A O : Option Addr) (cI cA cO : Nat), v = .agg #[.string pk, .string nm, .string T, .slice none 0 0, .slice I (turnL a.ins).length cI, .slice A (turnL a.asks).length cA, .slice O (turnL a.outs).length cO] ∧
    Own w B 9 1 I (turnL a.ins).length cI (strV (turnL a.ins)) ∧ Own w B 9 1 A (turnL a.asks).length cA (strV (turnL a.asks)) ∧ Own w B 9 1 O (turnL a.outs).length cO (strV (turnL a.outs))
theorem TX.keep {B : Nat} {pk nm T : ByteArray} {a : ActK} {v : Value} {w w' : World} (h : TX B pk nm T a v w) (hb : Below w.heap.size w w') : TX B pk nm T a v w' := by
  obtain ⟨I, A, O, cI, cA, cO, h1, h2, h3, h4⟩ := h
  exact ⟨I, A, O, cI, cA, cO, h1, h2.below hb (Nat.le_refl _), h3.below hb (Nat.le_refl _), h4.below hb (Nat.le_refl _)⟩
theorem TV.keep {B : Nat} {rows : List (Option (List Tx))} {vals : List Value} {pk nm T : ByteArray} {a : ActK} {j : Nat} {v : Value} {w w' : World} (h : TV B rows vals (TX B pk nm T a) j v w) (hb : Below w.heap.size w w') : TV B rows vals (TX B pk nm T a) j v w' := by
  unfold TV at *
  cases h12 : j == 12 with
  | true =>
    simp only [h12] at h ⊢
    exact h.keep hb
  | false =>
    cases h13 : j == 13 with
    | true =>
      simp only [h12, h13] at h ⊢
      obtain ⟨g, e1, e2, e3⟩ := h
      exact ⟨g, e1, e2, (hb.block g (heap_lt e3)).trans e3⟩
    | false =>
      simp only [h12, h13] at h ⊢
      split
      · rename_i x hj
        simp only [hj] at h
        obtain ⟨A, c, e1, e2⟩ := h
        exact ⟨A, c, e1, e2.below hb (Nat.le_refl _)⟩
      · rename_i hj
        simp only [hj] at h
        exact h
theorem info_setting2 : (Tryd.prog.info? 37).map (fun i => (i.zero, i.size, i.bytes)) = some (some (.agg #[.string ⟨#[]⟩, .string ⟨#[]⟩]), 2, 32) := by kernel_rfl
theorem info_label1 : (Tryd.prog.info? 23).map (·.size) = some 2 := by kernel_rfl
theorem built_turn (pk nm T : ByteArray) (I A O : Option Addr) (n1 n2 n3 cI cA cO : Nat) : Tryd.prog.built 27 [(0, .agg #[.string pk, .string nm]), (1, .string T), (3, .slice I n1 cI), (4, .slice A n2 cA), (5, .slice O n3 cO)] = some #[.string pk, .string nm, .string T, .slice none 0 0, .slice I n1 cI, .slice A n2 cA, .slice O n3 cO] := by kernel_rfl
theorem one_two {s t : ByteArray} : ∀ v ∈ [Value.string s, Value.string t], v.oneCell' = true := by simp [Value.oneCell']
theorem setsV_append (a b : List SetE) : setsV (a ++ b) = setsV a ++ setsV b := by rw [setsV, setsV, setsV, List.flatMap_append]
theorem setsV_one1 : ∀ (l : List SetE), ∀ v ∈ setsV l, v.oneCell' = true := fun l v hv => by
  rw [setsV, List.mem_flatMap] at hv
  obtain ⟨p, _, hp⟩ := hv
  simp at hp
  rcases hp with rfl | rfl <;> rfl
/-- what an operation of the region that puts a setting behind yields -/
def SV (B nE : Nat) (A1 : Option Addr) (c1 : Nat) (X N : List Value) (vals : List Value) (j : Nat) (v : Value) (w : World) : Prop :=
  match j == 9, j == 10 with
  | true, _ => ∃ g, v = .slice (some ⟨g, 0, none⟩) 1 1 ∧ w.heap[g]? = some (.cells N.toArray 37 (0, 0)) ∧ some g ≠ blockOf A1
  | _, true => ∃ A' c', v = .slice A' (nE + 1) c' ∧ Came B 37 2 A1 c1 (nE + 1) (X ++ N) A' c' w
  | false, false => vals[j]? = some v
theorem SV.keep {B nE : Nat} {A1 : Option Addr} {c1 : Nat} {X N vals : List Value} {j : Nat} {v : Value} {w w' : World} (hk : KeptBut B 37 2 A1 c1 (nE + 1) (X ++ N) w w') (h : SV B nE A1 c1 X N vals j v w) : SV B nE A1 c1 X N vals j v w' := by
  unfold SV at *
  cases h12 : j == 9 with
  | true =>
    simp only [h12] at h ⊢
    obtain ⟨g, e1, e2, e3⟩ := h
    exact ⟨g, e1, (hk.1.block g (heap_lt e2) e3).trans e2, e3⟩
  | false =>
    cases h13 : j == 10 with
    | true =>
      simp only [h12, h13] at h ⊢
      obtain ⟨A', c', e1, e2⟩ := h
      exact ⟨A', c', e1, hk.2 _ _ e2⟩
    | false =>
      simp only [h12, h13] at h ⊢
      exact h
theorem grownBy_trans {a b c : World} {r : Option Nat} (h : a.grownBy b r) (k : b.grownBy c r) : a.grownBy c r :=
  ⟨k.os.trans h.os, k.tape.trans h.tape, k.output.trans h.output, Nat.le_trans h.size k.size, fun i hi hr => (k.block i (Nat.lt_of_lt_of_le hi h.size) hr).trans (h.block i hi hr)⟩
theorem wp_build_lit1 {P : Program} {w : World} {a : Act} {K : Act → World → Prop} {Q : Exit → Act → World → Prop} {dst : Option Tmp} {t tt : TypeId} {parts : Array (Nat × Operand)} {pos : String} {after : Array Edge} {gd : Option (Nat × Bool)}
    (cells : Array Value) (hf : P.built t (parts.map fun (i, x) => (i, a.eval x)).toList = some cells) (h : K (a.put dst (.agg cells)) w) : Oper.wp P ⟨dst, .build t parts, tt, pos, after, gd⟩ a w K Q :=
  wp_build t parts rfl (by rw [hf]; rfl) (by rw [hf]; exact h)
theorem info_sets1 : (Tryd.prog.info? 24).map (·.size) = some 1 := by kernel_rfl
theorem stored_row {w : World} {g : Nat} {VX : List Value} {cur : Array Value} {t : TypeId} (hg : w.heap[g]? = some (.cells cur t (0, 0))) (hl : VX.length = cur.size) : (w.setRow g (laid cur 0 VX)).heap[g]? = some (.cells VX.toArray t (0, 0)) := by
  rw [laid_all hl]
  exact setRow_heap w g cur _ t _ hg
theorem stored_env {w : World} {g : Nat} {v0 v1 v2 v3 v4 v5 v6 x : Value} {t : TypeId} (hg : w.heap[g]? = some (.cells [v0, v1, v2, v3, v4, v5, v6].toArray t (0, 0))) : (w.setRow g (laid [v0, v1, v2, v3, v4, v5, v6].toArray 3 [x])).heap[g]? = some (.cells [v0, v1, v2, x, v4, v5, v6].toArray t (0, 0)) :=
  setRow_heap w g _ _ t _ hg
theorem Own.setRow_ne {w : World} {base sz n c g : Nat} {t t' : TypeId} {A : Option Addr} {xs : List Value} {cur cs : Array Value} {fr : Nat × Nat} (h : Own w base t sz A n c xs) (hg : w.heap[g]? = some (.cells cur t' fr)) (hne : t ≠ t') : Own (w.setRow g cs) base t sz A n c xs :=
  h.keep fun b hb _ _ => setRow_other w g b _ fun e => h.ne hg hne (by rw [hb, e])
/-- the three rows that the statement turned round -/
def R3 (B : Nat) (a : ActK) (I A O : Option Addr) (cI cA cO : Nat) (w : World) : Prop :=
  Own w B 9 1 I (turnL a.ins).length cI (strV (turnL a.ins)) ∧ Own w B 9 1 A (turnL a.asks).length cA (strV (turnL a.asks)) ∧ Own w B 9 1 O (turnL a.outs).length cO (strV (turnL a.outs))
section
variable {B : Nat} {a : ActK} {I A O : Option Addr} {cI cA cO : Nat} {w w' : World}
theorem R3.setRow {g : Nat} {cur cs : Array Value} {fr : Nat × Nat} (h : R3 B a I A O cI cA cO w) (hg : w.heap[g]? = some (.cells cur 27 fr)) : R3 B a I A O cI cA cO (w.setRow g cs) :=
  ⟨h.1.setRow_ne hg (by decide), h.2.1.setRow_ne hg (by decide), h.2.2.setRow_ne hg (by decide)⟩
theorem R3.grown {r : Option Nat} (h : R3 B a I A O cI cA cO w) (hg : w.grownBy w' r) (hr : ∀ b, r = some b → ∃ cs fr, w.heap[b]? = some (.cells cs 37 fr)) : R3 B a I A O cI cA cO w' := by
  have key : ∀ {n c : Nat} {A : Option Addr} {xs : List Value}, Own w B 9 1 A n c xs → Own w' B 9 1 A n c xs := fun ho => ho.grown hg fun b hb e => by
    obtain ⟨cs, fr, hc⟩ := hr b e.symm
    exact ho.ne hc (by decide) hb
  exact ⟨key h.1, key h.2.1, key h.2.2⟩
end
set_option maxHeartbeats 4000000 in
theorem keyturns_great (w : World) (last : ByteArray) (L : LayA) (a : ActK) (h : ActAt w L a) (pk nm : ByteArray) (hTab : Tabs w) (hg : greatL a = true) :
    Calls Tryd.prog 6 #[.agg (actV L a), .agg #[.string pk, .string nm], .string last] w fun e w' => e = .returned (.bool true) ∧ Below w.heap.size w w' := by
  obtain ⟨VA, hVA⟩ : ∃ VA : List Value, VA.toArray = actV L a := ⟨(actV L a).toList, by simp⟩
  rw [← hVA]
  obtain ⟨W0, hW⟩ : ∃ W0, W0 = (w.alloc (.cells VA.toArray 27)).alloc (.cells #[.string pk, .string nm] 23) := ⟨_, rfl⟩
  have hb0 : Below w.heap.size w W0 := by rw [hW]; exact ((Below.refl _ w).alloc (Nat.le_refl _) _).alloc (by simp) _
  have hA : ActBox W0 w.heap.size VA L a := ⟨by rw [hW]; exact heap_alloc2_old w _ _, by have := congrArg Array.size hVA; simpa [actV] using this, hVA, h.below hb0⟩
  have hLb : W0.heap[w.heap.size + 1]? = some (.cells #[.string pk, .string nm] 23 (0, 0)) := by rw [hW]; exact heap_alloc2_new w _ _
  have hT0 := hTab.on hb0
  have HA := hid2 hA
  have HLB0 := hid2 hLb
  have HW := hid2 hW
  have HB0 := hid2 hb0
  have HT0 := hid2 hT0
  have HI := hid2 hA.info
  have cG := hA.great
  have HG1 := hid2 cG
  rw [hg] at HG1
  clear h hTab hVA hA hLb hb0 hW hT0 cG
  go_enter Tryd.func6, Tryd.ntmps6
  go_wp2_with (first
    | ((with_reducible refine wpList_load_lit w.heap.size 0 _ _ _ (heap_alloc2_old w _ _) VA (fun j _ => getElem?_zero_add _ j) _ Tryd.underlying27 HI.out ?_ ?_); exact ⟨rfl, rfl⟩; rw [← HW.out])
    | (go_at_call 7; refine HG1.out.mono ?_; rintro e w1 ⟨rfl, hb1⟩)
    | (go_at_call 8; refine (fixed_any w1 (HT0.out.on hb1)).mono ?_; rintro e w2 ⟨rfl, hb2⟩))
  go_ret
  have b1 := HB0.out.trans (hb1.mono HB0.out.size)
  exact ⟨rfl, b1.trans (hb2.mono b1.size)⟩
set_option maxHeartbeats 4000000 in
theorem keyturns_long (w : World) (last : ByteArray) (L : LayA) (a : ActK) (h : ActAt w L a) (pk nm : ByteArray) (hTab : Tabs w) (hg : greatL a = false) (hl : (100 : Int) < last.size) :
    Calls Tryd.prog 6 #[.agg (actV L a), .agg #[.string pk, .string nm], .string last] w fun e w' => e = .returned (.bool true) ∧ Below w.heap.size w w' := by
  obtain ⟨VA, hVA⟩ : ∃ VA : List Value, VA.toArray = actV L a := ⟨(actV L a).toList, by simp⟩
  rw [← hVA]
  obtain ⟨W0, hW⟩ : ∃ W0, W0 = (w.alloc (.cells VA.toArray 27)).alloc (.cells #[.string pk, .string nm] 23) := ⟨_, rfl⟩
  have hb0 : Below w.heap.size w W0 := by rw [hW]; exact ((Below.refl _ w).alloc (Nat.le_refl _) _).alloc (by simp) _
  have hA : ActBox W0 w.heap.size VA L a := ⟨by rw [hW]; exact heap_alloc2_old w _ _, by have := congrArg Array.size hVA; simpa [actV] using this, hVA, h.below hb0⟩
  have hLb : W0.heap[w.heap.size + 1]? = some (.cells #[.string pk, .string nm] 23 (0, 0)) := by rw [hW]; exact heap_alloc2_new w _ _
  have hT0 := hTab.on hb0
  have HA := hid2 hA
  have HLB0 := hid2 hLb
  have HW := hid2 hW
  have HB0 := hid2 hb0
  have HT0 := hid2 hT0
  have HI := hid2 hA.info
  have cG := hA.great
  have HG1 := hid2 cG
  rw [hg] at HG1
  clear h hTab hVA hA hLb hb0 hW hT0 cG
  go_enter Tryd.func6, Tryd.ntmps6
  go_wp2_with (first
    | ((with_reducible refine wpList_load_lit w.heap.size 0 _ _ _ (heap_alloc2_old w _ _) VA (fun j _ => getElem?_zero_add _ j) _ Tryd.underlying27 HI.out ?_ ?_); exact ⟨rfl, rfl⟩; rw [← HW.out])
    | (go_at_call 7; refine HG1.out.mono ?_; rintro e w1 ⟨rfl, hb1⟩)
    | (go_at_call 8; refine (fixed_any w1 (HT0.out.on hb1)).mono ?_; rintro e w2 ⟨rfl, hb2⟩))
  go_ret
  have b1 := HB0.out.trans (hb1.mono HB0.out.size)
  exact ⟨rfl, b1.trans (hb2.mono b1.size)⟩
set_option maxHeartbeats 8000000 in
theorem keyturns_nil (w : World) (last : ByteArray) (L : LayA) (a : ActK) (h : ActAt w L a) (pk nm : ByteArray) (hTab : Tabs w) (hg : greatL a = false) (hl : ¬ (100 : Int) < last.size) (hn : a.env = []) :
    Calls Tryd.prog 6 #[.agg (actV L a), .agg #[.string pk, .string nm], .string last] w fun e w' => e = .returned (.bool true) ∧ Below w.heap.size w w' := by
  obtain ⟨VA, hVA⟩ : ∃ VA : List Value, VA.toArray = actV L a := ⟨(actV L a).toList, by simp⟩
  rw [← hVA]
  obtain ⟨W0, hW⟩ : ∃ W0, W0 = (w.alloc (.cells VA.toArray 27)).alloc (.cells #[.string pk, .string nm] 23) := ⟨_, rfl⟩
  have hb0 : Below w.heap.size w W0 := by rw [hW]; exact ((Below.refl _ w).alloc (Nat.le_refl _) _).alloc (by simp) _
  have hA : ActBox W0 w.heap.size VA L a := ⟨by rw [hW]; exact heap_alloc2_old w _ _, by have := congrArg Array.size hVA; simpa [actV] using this, hVA, h.below hb0⟩
  have hLb : W0.heap[w.heap.size + 1]? = some (.cells #[.string pk, .string nm] 23 (0, 0)) := by rw [hW]; exact heap_alloc2_new w _ _
  have hT0 := hTab.on hb0
  have HA := hid2 hA
  have HLB0 := hid2 hLb
  have HW := hid2 hW
  have HB0 := hid2 hb0
  have HT0 := hid2 hT0
  have HI := hid2 hA.info
  have cG := hA.great
  have HG1 := hid2 cG
  obtain ⟨lpk, lnm, E, I, A, O, cE, cI, cA, cO⟩ := L
  have hm := mild_of hg
  have hmt := turnA_mild hg (show last.data.toList.length ≤ 100 by rw [toList_length]; omega)
  have htx := turnA_text a last.data.toList
  have hE := h.env
  have hI := h.ins
  have hAa := h.asks
  have hO := h.outs
  have lE := hm.env
  have lI := hm.ins
  have lA := hm.asks
  have lO := hm.outs
  simp only at hE hI hAa hO
  have HAT := hid2 hA.at_
  have hval : VA.toArray = #[.string lpk, .string lnm, .string (strB a.tool), .slice E a.env.length cE, .slice I a.ins.length cI, .slice A a.asks.length cA, .slice O a.outs.length cO] := hVA
  have HVAL := hid2 hval
  have HM := hid2 hm
  have HMT := hid2 hmt
  have HTX := hid2 htx
  have HEN := hid2 hE
  obtain ⟨T, hT⟩ : ∃ T, T = strB a.tool := ⟨_, rfl⟩
  obtain ⟨nE, hnE⟩ : ∃ n, n = a.env.length := ⟨_, rfl⟩
  obtain ⟨nI, hnI⟩ : ∃ n, n = a.ins.length := ⟨_, rfl⟩
  obtain ⟨nA, hnA⟩ : ∃ n, n = a.asks.length := ⟨_, rfl⟩
  obtain ⟨nO, hnO⟩ : ∃ n, n = a.outs.length := ⟨_, rfl⟩
  have HT := hid2 hT
  have HNE := hid2 hnE
  have HNI := hid2 hnI
  have HNA := hid2 hnA
  have HNO := hid2 hnO
  have HIN := hid2 hI
  have HAS := hid2 hAa
  have HOU := hid2 hO
  obtain ⟨gA, hgA⟩ : ∃ g, g = w.heap.size := ⟨_, rfl⟩
  obtain ⟨gL, hgL⟩ : ∃ g, g = w.heap.size + 1 := ⟨_, rfl⟩
  have HQA := hid2 hgA
  have HQL := hid2 hgL
  rw [hg] at HG1
  have lE2 : nE ≤ 22 := by omega
  have lI2 : nI ≤ 22 := by omega
  have lA2 : nA ≤ 22 := by omega
  have lO2 : nO ≤ 22 := by omega
  have hn0 : ¬ (0 : Int) < nE := by rw [hnE, hn]; simp
  have HN := hid2 hn
  clear hn h hTab hVA hA hLb hb0 hW hT0 cG hm hmt htx hE hI hAa hO lE lI lA lO hval hT hnE hnI hnA hnO hgA hgL hg
  go_enter Tryd.func6, Tryd.ntmps6
  go_wp2_with (first
    | ((with_reducible refine wpList_load_lit w.heap.size 0 _ _ _ (heap_alloc2_old w _ _) VA (fun j _ => getElem?_zero_add _ j) _ Tryd.underlying27 HI.out ?_ ?_); exact ⟨rfl, rfl⟩; rw [← HW.out])
    | (go_at_call 7; refine HG1.out.mono ?_; rintro e W ⟨rfl, hb1⟩; have HB1 := hid2 hb1; clear hb1 HG1))
  have HgA := hid2 (fun (w2 : World) (hb : Below W.heap.size W w2) => show ActBox w2 gA VA ⟨lpk, lnm, E, I, A, O, cE, cI, cA, cO⟩ a from HQA.out ▸ (HA.out.below HB1.out).below hb)
  have HLB := hid2 (fun (w2 : World) (hb : Below W.heap.size W w2) => show w2.heap[gL]? = some (.cells #[.string pk, .string nm] 23 (0, 0)) from by
    have h1 := (HB1.out.block _ (heap_lt HLB0.out)).trans HLB0.out
    have h2 := (hb.block _ (heap_lt h1)).trans h1
    rw [HQL.out]
    exact h2)
  have HCELL := hid2 (show ∀ w2, Below W.heap.size W w2 → w2.cell? ⟨gA, 2, none⟩ = some (.string T) ∧ w2.cell? ⟨gA, 3, none⟩ = some (.slice E nE cE) ∧ w2.cell? ⟨gA, 4, none⟩ = some (.slice I nI cI) ∧ w2.cell? ⟨gA, 5, none⟩ = some (.slice A nA cA) ∧ w2.cell? ⟨gA, 6, none⟩ = some (.slice O nO cO) from fun w2 hb => by
    have hh := (HgA.out w2 hb).heap
    rw [HVAL.out] at hh
    rw [HT.out, HNE.out, HNI.out, HNA.out, HNO.out]
    exact ⟨cell_of_row w2 _ 2 _ _ _ hh, cell_of_row w2 _ 3 _ _ _ hh, cell_of_row w2 _ 4 _ _ _ hh, cell_of_row w2 _ 5 _ _ _ hh, cell_of_row w2 _ 6 _ _ _ hh⟩)
  have CI := hid2 (fun (w2 : World) (hb : Below W.heap.size W w2) => show Calls Tryd.prog 15 #[.slice I nI cI] w2 _ from by rw [HNI.out]; exact lturned_any w2 I cI a.ins (by have := HNI.out; omega) (HgA.out w2 hb).at_.ins)
  have CA := hid2 (fun (w2 : World) (hb : Below W.heap.size W w2) => show Calls Tryd.prog 15 #[.slice A nA cA] w2 _ from by rw [HNA.out]; exact lturned_any w2 A cA a.asks (by have := HNA.out; omega) (HgA.out w2 hb).at_.asks)
  have CO := hid2 (fun (w2 : World) (hb : Below W.heap.size W w2) => show Calls Tryd.prog 15 #[.slice O nO cO] w2 _ from by rw [HNO.out]; exact lturned_any w2 O cO a.outs (by have := HNO.out; omega) (HgA.out w2 hb).at_.outs)
  rw [← HQL.out, ← HQA.out]
  refine wp_region_rel 14 (by kernel_rfl) (by kernel_rfl) (by kernel_rfl) _ rfl (by kernel_rfl) (TV W.heap.size [none, none, none, none, none, some (turnL a.ins), none, none, some (turnL a.asks), none, none, some (turnL a.outs), none, none] [.agg #[.string pk, .string nm], .pointer (some ⟨gA, 2, none⟩), .string T, .pointer (some ⟨gA, 4, none⟩), .slice I nI cI, undef, .pointer (some ⟨gA, 5, none⟩), .slice A nA cA, undef, .pointer (some ⟨gA, 6, none⟩), .slice O nO cO, undef, undef, undef] (TX W.heap.size pk nm T a)) (fun w2 => Below W.heap.size W w2) (fun a b => Below a.heap.size a b) ((Below.refl _ W).drew) (fun _ _ _ _ hb hv => hv.keep hb) ?_ ?_
  · refine of_allOps ⟨?_, ?_, ?_, ?_, ?_, ?_, ?_, ?_, ?_, ?_, ?_, ?_, ?_, ?_, trivial⟩
    · refine ⟨rfl, fun T2 w2 hM hN hO hE K hK => ?_⟩
      have o4 : T2[4]? = some (.pointer (some ⟨gL, 0, none⟩)) := hO 4 rfl
      clear hE hO hN
      refine wp_load_lit gL 0 _ _ _ (HLB.out w2 hM) [.string pk, .string nm] (fun j _ => getElem?_zero_add _ j) _ Tryd.underlying23 info_label1 ⟨?_, rfl⟩ ?_
      · simp [Act.eval, o4]
      · exact hK _ _ rfl hM (Below.refl _ _)
    · refine ⟨rfl, fun T2 w2 hM hN hO hE K hK => ?_⟩
      have o3 : T2[3]? = some (.pointer (some ⟨gA, 0, none⟩)) := hO 3 rfl
      clear hE hO hN
      go_simp
      exact hK _ _ rfl hM (Below.refl _ _)
    · refine ⟨rfl, fun T2 w2 hM hN hO hE K hK => ?_⟩
      obtain ⟨v1, h1, e1⟩ := hE ⟨1, .data⟩ (by simp) rfl _ _ rfl rfl
      rw [show v1 = .pointer (some ⟨gA, 2, none⟩) from (Option.some.inj e1).symm] at h1
      have hcc := (HCELL.out w2 hM).1
      clear hE hO hN
      go_simp
      exact hK _ _ rfl hM (Below.refl _ _)
    · refine ⟨rfl, fun T2 w2 hM hN hO hE K hK => ?_⟩
      have o3 : T2[3]? = some (.pointer (some ⟨gA, 0, none⟩)) := hO 3 rfl
      clear hE hO hN
      go_simp
      exact hK _ _ rfl hM (Below.refl _ _)
    · refine ⟨rfl, fun T2 w2 hM hN hO hE K hK => ?_⟩
      obtain ⟨v3, h3, e3⟩ := hE ⟨3, .data⟩ (by simp) rfl _ _ rfl rfl
      rw [show v3 = .pointer (some ⟨gA, 4, none⟩) from (Option.some.inj e3).symm] at h3
      have hcc := (HCELL.out w2 hM).2.2.1
      clear hE hO hN
      go_simp
      exact hK _ _ rfl hM (Below.refl _ _)
    · refine ⟨rfl, fun T2 w2 hM hN hO hE K hK => ?_⟩
      obtain ⟨v4, h4, e4⟩ := hE ⟨4, .data⟩ (by simp) rfl _ _ rfl rfl
      rw [show v4 = .slice I nI cI from (Option.some.inj e4).symm] at h4
      clear hE hO hN
      go_simp
      refine (CI.out w2 hM).mono ?_
      rintro e w3 ⟨A3, c3, rfl, ho3, hb3⟩
      exact hK _ _ ⟨A3, c3, rfl, ho3.mono hM.size⟩ (hM.trans (hb3.mono hM.size)) hb3
    · refine ⟨rfl, fun T2 w2 hM hN hO hE K hK => ?_⟩
      have o3 : T2[3]? = some (.pointer (some ⟨gA, 0, none⟩)) := hO 3 rfl
      clear hE hO hN
      go_simp
      exact hK _ _ rfl hM (Below.refl _ _)
    · refine ⟨rfl, fun T2 w2 hM hN hO hE K hK => ?_⟩
      obtain ⟨v6, h6, e6⟩ := hE ⟨6, .data⟩ (by simp) rfl _ _ rfl rfl
      rw [show v6 = .pointer (some ⟨gA, 5, none⟩) from (Option.some.inj e6).symm] at h6
      have hcc := (HCELL.out w2 hM).2.2.2.1
      clear hE hO hN
      go_simp
      exact hK _ _ rfl hM (Below.refl _ _)
    · refine ⟨rfl, fun T2 w2 hM hN hO hE K hK => ?_⟩
      obtain ⟨v7, h7, e7⟩ := hE ⟨7, .data⟩ (by simp) rfl _ _ rfl rfl
      rw [show v7 = .slice A nA cA from (Option.some.inj e7).symm] at h7
      clear hE hO hN
      go_simp
      refine (CA.out w2 hM).mono ?_
      rintro e w3 ⟨A3, c3, rfl, ho3, hb3⟩
      exact hK _ _ ⟨A3, c3, rfl, ho3.mono hM.size⟩ (hM.trans (hb3.mono hM.size)) hb3
    · refine ⟨rfl, fun T2 w2 hM hN hO hE K hK => ?_⟩
      have o3 : T2[3]? = some (.pointer (some ⟨gA, 0, none⟩)) := hO 3 rfl
      clear hE hO hN
      go_simp
      exact hK _ _ rfl hM (Below.refl _ _)
    · refine ⟨rfl, fun T2 w2 hM hN hO hE K hK => ?_⟩
      obtain ⟨v9, h9, e9⟩ := hE ⟨9, .data⟩ (by simp) rfl _ _ rfl rfl
      rw [show v9 = .pointer (some ⟨gA, 6, none⟩) from (Option.some.inj e9).symm] at h9
      have hcc := (HCELL.out w2 hM).2.2.2.2
      clear hE hO hN
      go_simp
      exact hK _ _ rfl hM (Below.refl _ _)
    · refine ⟨rfl, fun T2 w2 hM hN hO hE K hK => ?_⟩
      obtain ⟨v10, h10, e10⟩ := hE ⟨10, .data⟩ (by simp) rfl _ _ rfl rfl
      rw [show v10 = .slice O nO cO from (Option.some.inj e10).symm] at h10
      clear hE hO hN
      go_simp
      refine (CO.out w2 hM).mono ?_
      rintro e w3 ⟨A3, c3, rfl, ho3, hb3⟩
      exact hK _ _ ⟨A3, c3, rfl, ho3.mono hM.size⟩ (hM.trans (hb3.mono hM.size)) hb3
    · refine ⟨rfl, fun T2 w2 hM hN hO hE K hK => ?_⟩
      obtain ⟨v0, h0, e0⟩ := hE ⟨0, .data⟩ (by simp) rfl _ _ rfl rfl
      rw [show v0 = .agg #[.string pk, .string nm] from (Option.some.inj e0).symm] at h0
      obtain ⟨v2, h2, e2⟩ := hE ⟨2, .data⟩ (by simp) rfl _ _ rfl rfl
      rw [show v2 = .string T from (Option.some.inj e2).symm] at h2
      obtain ⟨v5, h5, e5⟩ := hE ⟨5, .data⟩ (by simp) rfl _ _ rfl rfl
      obtain ⟨A5, c5, rfl, r5⟩ : ∃ A c, v5 = .slice A (turnL a.ins).length c ∧ Own w2 W.heap.size 9 1 A (turnL a.ins).length c (strV (turnL a.ins)) := e5
      obtain ⟨v8, h8, e8⟩ := hE ⟨8, .data⟩ (by simp) rfl _ _ rfl rfl
      obtain ⟨A8, c8, rfl, r8⟩ : ∃ A c, v8 = .slice A (turnL a.asks).length c ∧ Own w2 W.heap.size 9 1 A (turnL a.asks).length c (strV (turnL a.asks)) := e8
      obtain ⟨v11, h11, e11⟩ := hE ⟨11, .data⟩ (by simp) rfl _ _ rfl rfl
      obtain ⟨A11, c11, rfl, r11⟩ : ∃ A c, v11 = .slice A (turnL a.outs).length c ∧ Own w2 W.heap.size 9 1 A (turnL a.outs).length c (strV (turnL a.outs)) := e11
      clear hE hO hN
      refine wp_build_lit1 #[.string pk, .string nm, .string T, .slice none 0 0, .slice A5 (turnL a.ins).length c5, .slice A8 (turnL a.asks).length c8, .slice A11 (turnL a.outs).length c11] ?_ ?_
      · simp only [List.map_toArray, List.map_cons, List.map_nil, Act.eval, Array.getD_eq_getD_getElem?, h0, h2, h5, h8, h11, Option.getD_some]
        exact built_turn pk nm T A5 A8 A11 _ _ _ c5 c8 c11
      · exact hK _ _ ⟨A5, A8, A11, c5, c8, c11, rfl, r5, r8, r11⟩ hM (Below.refl _ _)
    · refine ⟨rfl, fun T2 w2 hM hN hO hE K hK => ?_⟩
      clear hE hO hN
      go_simp
      exact hK _ _ ⟨_, rfl, hM.size, World.alloc_heap_new w2 _⟩ (hM.alloc hM.size _) ((Below.refl _ _).alloc (Nat.le_refl _) _)
  · intro u w2 hM hF
    obtain ⟨I1, A1, O1, cI1, cA1, cO1, e12, rI, rA, rO⟩ : TX W.heap.size pk nm T a (u 12) w2 := hF 12 (by omega)
    obtain ⟨gB, e13, hgB1, hgB2⟩ : ∃ g, u 13 = .pointer (some ⟨g, 0, none⟩) ∧ W.heap.size ≤ g ∧ w2.heap[g]? = some (.cells #[.string ⟨#[]⟩, .string ⟨#[]⟩, .string ⟨#[]⟩, .slice none 0 0, .slice none 0 0, .slice none 0 0, .slice none 0 0] 27 (0, 0)) := hF 13 (by omega)
    clear hF
    simp only [fillAll, Nat.reduceAdd, e12, e13, List.take_succ_cons, List.take_zero, List.drop_succ_cons, List.drop_zero, List.setIfInBounds_toArray, List.set_cons_succ, List.set_cons_zero]
    clear CI CA CO
    have hr3 : R3 W.heap.size a I1 A1 O1 cI1 cA1 cO1 w2 := ⟨rI, rA, rO⟩
    have HR3 := hid2 hr3
    have HM2 := hid2 hM
    obtain ⟨X, hX⟩ : ∃ X, X = setsV a.env := ⟨_, rfl⟩
    have HX := hid2 hX
    have HRD := hid2 (fun (w2 : World) (hb : Below W.heap.size W w2) => show Rd w2 2 E nE X from by rw [HNE.out, HX.out]; exact (HgA.out w2 hb).at_.env)
    have HX1 := hid2 (show ∀ v ∈ X, v.oneCell' = true from by rw [HX.out]; exact setsV_one1 _)
    have HV0 := hid2 (show (Value.agg #[.string pk, .string nm, .string T, .slice none 0 0, .slice I1 (turnL a.ins).length cI1, .slice A1 (turnL a.asks).length cA1, .slice O1 (turnL a.outs).length cO1]).cells.toList = [.string pk, .string nm, .string T, .slice none 0 0, .slice I1 (turnL a.ins).length cI1, .slice A1 (turnL a.asks).length cA1, .slice O1 (turnL a.outs).length cO1] from rfl)
    have HI0 := hid2 (show (Tryd.prog.info? 27).map (·.size) = some ([.string pk, .string nm, .string T, .slice none 0 0, .slice I1 (turnL a.ins).length cI1, .slice A1 (turnL a.asks).length cA1, .slice O1 (turnL a.outs).length cO1] : List Value).length from info_act)
    have HF0 := hid2 (show 0 + ([.string pk, .string nm, .string T, .slice none 0 0, .slice I1 (turnL a.ins).length cI1, .slice A1 (turnL a.asks).length cA1, .slice O1 (turnL a.outs).length cO1] : List Value).length ≤ (#[.string ⟨#[]⟩, .string ⟨#[]⟩, .string ⟨#[]⟩, .slice none 0 0, .slice none 0 0, .slice none 0 0, .slice none 0 0] : Array Value).size from Nat.le_refl _)
    have HO0 := hid2 (show ∀ v ∈ ([.string pk, .string nm, .string T, .slice none 0 0, .slice I1 (turnL a.ins).length cI1, .slice A1 (turnL a.asks).length cA1, .slice O1 (turnL a.outs).length cO1] : List Value), v.oneCell' = true from by simp [Value.oneCell'])
    have HS5 := hid2 (fun (A : Option Addr) (n c : Nat) => show (Value.slice A n c).cells.toList = [.slice A n c] from rfl)
    have HI5 := hid2 (fun (v : Value) => show (Tryd.prog.info? 24).map (·.size) = some [v].length from info_sets1)
    have HF5 := hid2 (fun (v y : Value) => show 3 + [v].length ≤ ([.string pk, .string nm, .string T, y, .slice I1 (turnL a.ins).length cI1, .slice A1 (turnL a.asks).length cA1, .slice O1 (turnL a.outs).length cO1] : List Value).toArray.size from by simp)
    have HO5 := hid2 (fun (A : Option Addr) (n c : Nat) => show ∀ v ∈ ([.slice A n c] : List Value), v.oneCell' = true from by simp [Value.oneCell'])
    clear rI rA rO hr3 hM hX
    go_wp2_with (first
      | ((with_reducible refine wpList_store_lit gB 0 (.agg #[.string pk, .string nm, .string T, .slice none 0 0, .slice I1 (turnL a.ins).length cI1, .slice A1 (turnL a.asks).length cA1, .slice O1 (turnL a.outs).length cO1]) [.string pk, .string nm, .string T, .slice none 0 0, .slice I1 (turnL a.ins).length cI1, .slice A1 (turnL a.asks).length cA1, .slice O1 (turnL a.outs).length cO1] HV0.out #[.string ⟨#[]⟩, .string ⟨#[]⟩, .string ⟨#[]⟩, .slice none 0 0, .slice none 0 0, .slice none 0 0, .slice none 0 0] 27 hgB2 HI0.out HF0.out HO0.out ?_ ?_); exact ⟨rfl, rfl⟩; have hX4 := stored_row (VX := [.string pk, .string nm, .string T, .slice none 0 0, .slice I1 (turnL a.ins).length cI1, .slice A1 (turnL a.asks).length cA1, .slice O1 (turnL a.outs).length cO1]) hgB2 rfl; have hb4 := below_setRow HM2.out hgB1 (laid #[.string ⟨#[]⟩, .string ⟨#[]⟩, .string ⟨#[]⟩, .slice none 0 0, .slice none 0 0, .slice none 0 0, .slice none 0 0] 0 [.string pk, .string nm, .string T, .slice none 0 0, .slice I1 (turnL a.ins).length cI1, .slice A1 (turnL a.asks).length cA1, .slice O1 (turnL a.outs).length cO1]); have HR4 := hid2 (HR3.out.setRow (cs := laid #[.string ⟨#[]⟩, .string ⟨#[]⟩, .string ⟨#[]⟩, .slice none 0 0, .slice none 0 0, .slice none 0 0, .slice none 0 0] 0 [.string pk, .string nm, .string T, .slice none 0 0, .slice I1 (turnL a.ins).length cI1, .slice A1 (turnL a.asks).length cA1, .slice O1 (turnL a.outs).length cO1]) hgB2); obtain ⟨W4, hW4⟩ : ∃ W4, W4 = w2.setRow gB (laid #[.string ⟨#[]⟩, .string ⟨#[]⟩, .string ⟨#[]⟩, .slice none 0 0, .slice none 0 0, .slice none 0 0, .slice none 0 0] 0 [.string pk, .string nm, .string T, .slice none 0 0, .slice I1 (turnL a.ins).length cI1, .slice A1 (turnL a.asks).length cA1, .slice O1 (turnL a.outs).length cO1]) := ⟨_, rfl⟩; rw [← hW4] at hX4 hb4 HR4 ⊢; clear hW4 hgB2 HR3 HM2; have hc4 : W4.cell? ⟨gB, 3, none⟩ = some (.slice none 0 0) := cell_of_row W4 gB 3 _ _ _ hX4; have hcA4 := (HCELL.out W4 hb4).2.1)
      | ((with_reducible refine wpList_append_lit 37 (.agg #[.string ⟨#[]⟩, .string ⟨#[]⟩]) 2 32 Tryd.underlying24 info_setting2 rfl W.heap.size none 0 0 [] (Own.nil W4 _ _ _) nE X (.slice E nE cE) (Src.slice Tryd.underlying24 (HRD.out W4 hb4)) HX1.out ?_ ?_ ?_ ?_ ?_); (unfold maxLen; omega); omega; exact hb4.size; exact ⟨rfl, rfl⟩; intro A5 c5 W5 hown5 hgr5 hbl5; rw [Nat.zero_add, List.nil_append] at hown5; rw [Nat.zero_add]; have hb5 : Below W.heap.size W W5 := hb4.grown hgr5 hb4.size (fun k e => by cases e); have hX5 : W5.heap[gB]? = some (.cells [.string pk, .string nm, .string T, .slice none 0 0, .slice I1 (turnL a.ins).length cI1, .slice A1 (turnL a.asks).length cA1, .slice O1 (turnL a.outs).length cO1].toArray 27 (0, 0)) := (hgr5.block gB (heap_lt hX4) (by simp [blockOf])).trans hX4; have HR5 := hid2 (HR4.out.grown hgr5 (fun b e => by cases e)); clear hX4 hb4 HR4 hc4 hcA4 hgr5 hbl5)
      | ((with_reducible refine wpList_store_lit gB 3 (.slice A5 nE c5) [.slice A5 nE c5] (HS5.out _ _ _) [.string pk, .string nm, .string T, .slice none 0 0, .slice I1 (turnL a.ins).length cI1, .slice A1 (turnL a.asks).length cA1, .slice O1 (turnL a.outs).length cO1].toArray 27 hX5 (HI5.out _) (HF5.out _ _) (HO5.out _ _ _) ?_ ?_); exact ⟨rfl, rfl⟩; have hX6 := stored_env (x := .slice A5 nE c5) hX5; have hb6 := below_setRow hb5 hgB1 (laid [.string pk, .string nm, .string T, .slice none 0 0, .slice I1 (turnL a.ins).length cI1, .slice A1 (turnL a.asks).length cA1, .slice O1 (turnL a.outs).length cO1].toArray 3 [.slice A5 nE c5]); have HR6 := hid2 (HR5.out.setRow (cs := laid [.string pk, .string nm, .string T, .slice none 0 0, .slice I1 (turnL a.ins).length cI1, .slice A1 (turnL a.asks).length cA1, .slice O1 (turnL a.outs).length cO1].toArray 3 [.slice A5 nE c5]) hX5); have hown6 := hown5.setRow_ne (cs := laid [.string pk, .string nm, .string T, .slice none 0 0, .slice I1 (turnL a.ins).length cI1, .slice A1 (turnL a.asks).length cA1, .slice O1 (turnL a.outs).length cO1].toArray 3 [.slice A5 nE c5]) hX5 (by decide); obtain ⟨W6, hW6⟩ : ∃ W6, W6 = W5.setRow gB (laid [.string pk, .string nm, .string T, .slice none 0 0, .slice I1 (turnL a.ins).length cI1, .slice A1 (turnL a.asks).length cA1, .slice O1 (turnL a.outs).length cO1].toArray 3 [.slice A5 nE c5]) := ⟨_, rfl⟩; rw [← hW6] at hX6 hb6 HR6 hown6 ⊢; clear hW6 hX5 HR5 hb5 hown5; have hcA6 := (HCELL.out W6 hb6).2.1))
    obtain ⟨VB, hVB⟩ : ∃ VB : List Value, VB = [.string pk, .string nm, .string T, .slice A5 nE c5, .slice I1 (turnL a.ins).length cI1, .slice A1 (turnL a.asks).length cA1, .slice O1 (turnL a.outs).length cO1] := ⟨_, rfl⟩
    have henv : (turnA a last.data.toList).env = a.env := by show a.env ++ (a.env.take 1).map _ = a.env; rw [HN.out]; rfl
    have hR6 := HR6.out
    have hBB : ActBox W6 gB VB ⟨pk, nm, A5, I1, A1, O1, c5, cI1, cA1, cO1⟩ (turnA a last.data.toList) := by
      refine ⟨by rw [hVB]; exact hX6, by rw [hVB]; rfl, ?_, ?_⟩
      · rw [hVB, actV, henv, ← HNE.out, show (turnA a last.data.toList).tool = a.tool from rfl, ← HT.out]
        rfl
      · refine ⟨?_, hR6.1.rd, hR6.2.1.rd, hR6.2.2.rd, ?_, ?_, ?_, ?_⟩
        · rw [henv, ← HNE.out, ← HX.out]
          exact hown6.rd
        · exact Nat.le_trans HMT.out.env (by unfold maxLen; omega)
        · exact Nat.le_trans HMT.out.ins (by unfold maxLen; omega)
        · exact Nat.le_trans HMT.out.asks (by unfold maxLen; omega)
        · exact Nat.le_trans HMT.out.outs (by unfold maxLen; omega)
    clear hVB henv hR6 hX6 hown6 hcA6
    have hT := (HT0.out.on HB1.out).on hb6
    have HBX := hid2 hb6
    have HgB := hid2 (fun (w2 : World) (hb : Below W6.heap.size W6 w2) => hBB.below hb)
    have HgA := hid2 (fun (w2 : World) (hb : Below W6.heap.size W6 w2) => HgA.out w2 (HBX.out.trans (hb.mono HBX.out.size)))
    have C1 := hid2 (fun (w2 : World) (hb : Below W6.heap.size W6 w2) => show Calls Tryd.prog 14 #[.agg VA.toArray, .agg VB.toArray] w2 fun e w' => e = .returned (.bool true) ∧ Below w2.heap.size w2 w' from by have h1 := (HgA.out w2 hb).tsame (HgB.out w2 hb) HM.out HMT.out (hT.on hb); rwa [decide_eq_true HTX.out.symm] at h1)
    have C3 := hid2 (fun (w2 : World) (hb : Below W6.heap.size W6 w2) => (HgA.out w2 hb).text HM.out (hT.on hb))
    have C4 := hid2 (fun (w2 : World) (hb : Below W6.heap.size W6 w2) => (HgB.out w2 hb).text HMT.out (hT.on hb))
    have C5 := hid2 (fun (w2 : World) (hb : Below W6.heap.size W6 w2) => (HgA.out w2 hb).of HM.out (hT.on hb))
    have C6 := hid2 (fun (w2 : World) (hb : Below W6.heap.size W6 w2) => (HgB.out w2 hb).of HMT.out (hT.on hb))
    have CF := hid2 (fun (w2 : World) (hb : Below W6.heap.size W6 w2) => fixed_any w2 (hT.on hb))
    rw [HTX.out] at C4 C6
    obtain ⟨s, hs⟩ : ∃ s, s = strB (textK a) := ⟨_, rfl⟩
    rw [← hs] at C3 C4
    obtain ⟨S, hS⟩ : ∃ S, S = Sha.sum (textK a) := ⟨_, rfl⟩
    have hSl : S.length = 32 := by rw [hS]; exact sum_len _
    have heq := run_eq_dig S S hSl hSl
    rw [← hS] at C5 C6
    clear hs hS hSl hT hBB
    refine wp_region_grd 20 (by kernel_rfl) (by kernel_rfl) (by kernel_rfl) _ rfl (by kernel_rfl) (fun j v _ => ([.agg VA.toArray, .agg VB.toArray, .bool true, .bool true, .agg VA.toArray, .string s, .agg VB.toArray, .string s, .bool true, .bool true, .bool true, .agg VA.toArray, .agg (u8s S).toArray, .agg VB.toArray, .agg (u8s S).toArray, .bool true, .bool true, .bool true, .bool true, .bool true] : List Value)[j]? = some v) (fun w2 => Below W6.heap.size W6 w2) (fun a b => Below a.heap.size a b) ((Below.refl _ W6).drew) (fun _ _ _ _ hb hv => hv) ?_ ?_
    · refine of_allOps ⟨?_, ?_, ?_, ?_, ?_, ?_, ?_, ?_, ?_, ?_, ?_, ?_, ?_, ?_, ?_, ?_, ?_, ?_, ?_, ?_, trivial⟩
      · intro T2 w2 hM hN hO hE K hK
        have o3 : T2[3]? = some (.pointer (some ⟨gA, 0, none⟩)) := hO 3 rfl
        clear hE hO hN
        refine step_plain0 rfl ?_
        refine wp_load_lit gA 0 _ _ _ (HgA.out w2 hM).heap VA (fun j _ => getElem?_zero_add _ j) _ Tryd.underlying27 (HgA.out w2 hM).info ⟨?_, rfl⟩ ?_
        · simp [Act.eval, o3]
        · exact hK _ _ rfl hM (Below.refl _ _)
      · intro T2 w2 hM hN hO hE K hK
        have o7 : T2[7]? = some (.pointer (some ⟨gB, 0, none⟩)) := hO 7 rfl
        clear hE hO hN
        refine step_plain0 rfl ?_
        refine wp_load_lit gB 0 _ _ _ (HgB.out w2 hM).heap VB (fun j _ => getElem?_zero_add _ j) _ Tryd.underlying27 (HgB.out w2 hM).info ⟨?_, rfl⟩ ?_
        · simp [Act.eval, o7]
        · exact hK _ _ rfl hM (Below.refl _ _)
      · intro T2 w2 hM hN hO hE K hK
        obtain ⟨v0, h0, e0⟩ := hE ⟨0, .data⟩ (by simp) rfl _ _ rfl rfl
        rw [show v0 = .agg VA.toArray from (Option.some.inj e0).symm] at h0
        obtain ⟨v1, h1, e1⟩ := hE ⟨1, .data⟩ (by simp) rfl _ _ rfl rfl
        rw [show v1 = .agg VB.toArray from (Option.some.inj e1).symm] at h1
        clear hE hO hN
        refine step_plain0 rfl ?_
        go_simp
        refine (C1.out w2 hM).mono ?_
        rintro e w3 ⟨rfl, hb⟩
        exact hK _ _ rfl (hM.trans (hb.mono hM.size)) hb
      · intro T2 w2 hM hN hO hE K hK
        obtain ⟨v2, h2, e2⟩ := hE ⟨2, .data⟩ (by simp) rfl _ _ rfl rfl
        rw [show v2 = .bool true from (Option.some.inj e2).symm] at h2
        clear hE hO hN
        refine step_plain0 rfl ?_
        go_simp
        exact hK _ _ rfl hM (Below.refl _ _)
      · intro T2 w2 hM hN hO hE K hK
        obtain ⟨v3, h3, e3⟩ := hE ⟨3, .guard⟩ (by simp) rfl _ _ rfl rfl
        rw [show v3 = .bool true from (Option.some.inj e3).symm] at h3
        have o3 : T2[3]? = some (.pointer (some ⟨gA, 0, none⟩)) := hO 3 rfl
        clear hE hO hN
        refine grd_met rfl rfl rfl h3 ?_
        refine wp_load_lit gA 0 _ _ _ (HgA.out w2 hM).heap VA (fun j _ => getElem?_zero_add _ j) _ Tryd.underlying27 (HgA.out w2 hM).info ⟨?_, rfl⟩ ?_
        · simp [Act.eval, o3]
        · exact hK _ _ rfl hM (Below.refl _ _)
      · intro T2 w2 hM hN hO hE K hK
        obtain ⟨v4, h4, e4⟩ := hE ⟨4, .data⟩ (by simp) rfl _ _ rfl rfl
        rw [show v4 = .agg VA.toArray from (Option.some.inj e4).symm] at h4
        obtain ⟨v3, h3, e3⟩ := hE ⟨3, .guard⟩ (by simp) rfl _ _ rfl rfl
        rw [show v3 = .bool true from (Option.some.inj e3).symm] at h3
        clear hE hO hN
        refine grd_met rfl rfl rfl h3 ?_
        go_simp
        refine (C3.out w2 hM).mono ?_
        rintro e w3 ⟨rfl, hb⟩
        exact hK _ _ rfl (hM.trans (hb.mono hM.size)) hb
      · intro T2 w2 hM hN hO hE K hK
        obtain ⟨v3, h3, e3⟩ := hE ⟨3, .guard⟩ (by simp) rfl _ _ rfl rfl
        rw [show v3 = .bool true from (Option.some.inj e3).symm] at h3
        have o7 : T2[7]? = some (.pointer (some ⟨gB, 0, none⟩)) := hO 7 rfl
        clear hE hO hN
        refine grd_met rfl rfl rfl h3 ?_
        refine wp_load_lit gB 0 _ _ _ (HgB.out w2 hM).heap VB (fun j _ => getElem?_zero_add _ j) _ Tryd.underlying27 (HgB.out w2 hM).info ⟨?_, rfl⟩ ?_
        · simp [Act.eval, o7]
        · exact hK _ _ rfl hM (Below.refl _ _)
      · intro T2 w2 hM hN hO hE K hK
        obtain ⟨v6, h6, e6⟩ := hE ⟨6, .data⟩ (by simp) rfl _ _ rfl rfl
        rw [show v6 = .agg VB.toArray from (Option.some.inj e6).symm] at h6
        obtain ⟨v3, h3, e3⟩ := hE ⟨3, .guard⟩ (by simp) rfl _ _ rfl rfl
        rw [show v3 = .bool true from (Option.some.inj e3).symm] at h3
        clear hE hO hN
        refine grd_met rfl rfl rfl h3 ?_
        go_simp
        refine (C4.out w2 hM).mono ?_
        rintro e w3 ⟨rfl, hb⟩
        exact hK _ _ rfl (hM.trans (hb.mono hM.size)) hb
      · intro T2 w2 hM hN hO hE K hK
        obtain ⟨v5, h5, e5⟩ := hE ⟨5, .data⟩ (by simp) rfl _ _ rfl rfl
        rw [show v5 = .string s from (Option.some.inj e5).symm] at h5
        obtain ⟨v7, h7, e7⟩ := hE ⟨7, .data⟩ (by simp) rfl _ _ rfl rfl
        rw [show v7 = .string s from (Option.some.inj e7).symm] at h7
        obtain ⟨v3, h3, e3⟩ := hE ⟨3, .guard⟩ (by simp) rfl _ _ rfl rfl
        rw [show v3 = .bool true from (Option.some.inj e3).symm] at h3
        clear hE hO hN
        refine grd_met rfl rfl rfl h3 ?_
        go_simp
        exact hK _ _ rfl hM (Below.refl _ _)
      · intro T2 w2 hM hN hO hE K hK
        obtain ⟨v3, h3, e3⟩ := hE ⟨3, .data⟩ (by simp) rfl _ _ rfl rfl
        rw [show v3 = .bool true from (Option.some.inj e3).symm] at h3
        obtain ⟨v8, h8, e8⟩ := hE ⟨8, .data⟩ (by simp) rfl _ _ rfl rfl
        rw [show v8 = .bool true from (Option.some.inj e8).symm] at h8
        clear hE hO hN
        refine step_plain0 rfl ?_
        go_simp
        exact hK _ _ rfl hM (Below.refl _ _)
      · intro T2 w2 hM hN hO hE K hK
        obtain ⟨v9, h9, e9⟩ := hE ⟨9, .data⟩ (by simp) rfl _ _ rfl rfl
        rw [show v9 = .bool true from (Option.some.inj e9).symm] at h9
        clear hE hO hN
        refine step_plain0 rfl ?_
        go_simp
        exact hK _ _ rfl hM (Below.refl _ _)
      · intro T2 w2 hM hN hO hE K hK
        obtain ⟨v10, h10, e10⟩ := hE ⟨10, .guard⟩ (by simp) rfl _ _ rfl rfl
        rw [show v10 = .bool true from (Option.some.inj e10).symm] at h10
        have o3 : T2[3]? = some (.pointer (some ⟨gA, 0, none⟩)) := hO 3 rfl
        clear hE hO hN
        refine grd_met rfl rfl rfl h10 ?_
        refine wp_load_lit gA 0 _ _ _ (HgA.out w2 hM).heap VA (fun j _ => getElem?_zero_add _ j) _ Tryd.underlying27 (HgA.out w2 hM).info ⟨?_, rfl⟩ ?_
        · simp [Act.eval, o3]
        · exact hK _ _ rfl hM (Below.refl _ _)
      · intro T2 w2 hM hN hO hE K hK
        obtain ⟨v11, h11, e11⟩ := hE ⟨11, .data⟩ (by simp) rfl _ _ rfl rfl
        rw [show v11 = .agg VA.toArray from (Option.some.inj e11).symm] at h11
        obtain ⟨v10, h10, e10⟩ := hE ⟨10, .guard⟩ (by simp) rfl _ _ rfl rfl
        rw [show v10 = .bool true from (Option.some.inj e10).symm] at h10
        clear hE hO hN
        refine grd_met rfl rfl rfl h10 ?_
        go_simp
        refine (C5.out w2 hM).mono ?_
        rintro e w3 ⟨rfl, hb⟩
        exact hK _ _ rfl (hM.trans (hb.mono hM.size)) hb
      · intro T2 w2 hM hN hO hE K hK
        obtain ⟨v10, h10, e10⟩ := hE ⟨10, .guard⟩ (by simp) rfl _ _ rfl rfl
        rw [show v10 = .bool true from (Option.some.inj e10).symm] at h10
        have o7 : T2[7]? = some (.pointer (some ⟨gB, 0, none⟩)) := hO 7 rfl
        clear hE hO hN
        refine grd_met rfl rfl rfl h10 ?_
        refine wp_load_lit gB 0 _ _ _ (HgB.out w2 hM).heap VB (fun j _ => getElem?_zero_add _ j) _ Tryd.underlying27 (HgB.out w2 hM).info ⟨?_, rfl⟩ ?_
        · simp [Act.eval, o7]
        · exact hK _ _ rfl hM (Below.refl _ _)
      · intro T2 w2 hM hN hO hE K hK
        obtain ⟨v13, h13, e13⟩ := hE ⟨13, .data⟩ (by simp) rfl _ _ rfl rfl
        rw [show v13 = .agg VB.toArray from (Option.some.inj e13).symm] at h13
        obtain ⟨v10, h10, e10⟩ := hE ⟨10, .guard⟩ (by simp) rfl _ _ rfl rfl
        rw [show v10 = .bool true from (Option.some.inj e10).symm] at h10
        clear hE hO hN
        refine grd_met rfl rfl rfl h10 ?_
        go_simp
        refine (C6.out w2 hM).mono ?_
        rintro e w3 ⟨rfl, hb⟩
        exact hK _ _ rfl (hM.trans (hb.mono hM.size)) hb
      · intro T2 w2 hM hN hO hE K hK
        obtain ⟨v12, h12, e12⟩ := hE ⟨12, .data⟩ (by simp) rfl _ _ rfl rfl
        rw [show v12 = .agg (u8s S).toArray from (Option.some.inj e12).symm] at h12
        obtain ⟨v14, h14, e14⟩ := hE ⟨14, .data⟩ (by simp) rfl _ _ rfl rfl
        rw [show v14 = .agg (u8s S).toArray from (Option.some.inj e14).symm] at h14
        obtain ⟨v10, h10, e10⟩ := hE ⟨10, .guard⟩ (by simp) rfl _ _ rfl rfl
        rw [show v10 = .bool true from (Option.some.inj e10).symm] at h10
        clear hE hO hN
        refine grd_met rfl rfl rfl h10 ?_
        have hq := heq w2
        rw [beq_self_eq_true] at hq
        go_simp
        exact hK _ _ rfl hM (Below.refl _ _)
      · intro T2 w2 hM hN hO hE K hK
        obtain ⟨v10, h10, e10⟩ := hE ⟨10, .data⟩ (by simp) rfl _ _ rfl rfl
        rw [show v10 = .bool true from (Option.some.inj e10).symm] at h10
        obtain ⟨v15, h15, e15⟩ := hE ⟨15, .data⟩ (by simp) rfl _ _ rfl rfl
        rw [show v15 = .bool true from (Option.some.inj e15).symm] at h15
        clear hE hO hN
        refine step_plain0 rfl ?_
        go_simp
        exact hK _ _ rfl hM (Below.refl _ _)
      · intro T2 w2 hM hN hO hE K hK
        obtain ⟨v16, h16, e16⟩ := hE ⟨16, .data⟩ (by simp) rfl _ _ rfl rfl
        rw [show v16 = .bool true from (Option.some.inj e16).symm] at h16
        clear hE hO hN
        refine step_plain0 rfl ?_
        go_simp
        exact hK _ _ rfl hM (Below.refl _ _)
      · intro T2 w2 hM hN hO hE K hK
        obtain ⟨v17, h17, e17⟩ := hE ⟨17, .guard⟩ (by simp) rfl _ _ rfl rfl
        rw [show v17 = .bool true from (Option.some.inj e17).symm] at h17
        clear hE hO hN
        refine grd_met rfl rfl rfl h17 ?_
        go_simp
        refine (CF.out w2 hM).mono ?_
        rintro e w3 ⟨rfl, hb⟩
        exact hK _ _ rfl (hM.trans (hb.mono hM.size)) hb
      · intro T2 w2 hM hN hO hE K hK
        obtain ⟨v17, h17, e17⟩ := hE ⟨17, .data⟩ (by simp) rfl _ _ rfl rfl
        rw [show v17 = .bool true from (Option.some.inj e17).symm] at h17
        obtain ⟨v18, h18, e18⟩ := hE ⟨18, .data⟩ (by simp) rfl _ _ rfl rfl
        rw [show v18 = .bool true from (Option.some.inj e18).symm] at h18
        clear hE hO hN
        refine step_plain0 rfl ?_
        go_simp
        exact hK _ _ rfl hM (Below.refl _ _)
    · intro u w2 hM hF
      have e19 : u 19 = .bool true := (Option.some.inj (hF 19 (by omega))).symm
      clear hF
      simp only [fillAll, Nat.reduceAdd, e19, List.take_succ_cons, List.take_zero, List.drop_succ_cons, List.drop_zero, List.setIfInBounds_toArray, List.set_cons_succ, List.set_cons_zero]
      go_wp2_with fail
      go_ret
      have b1 := HB0.out.trans (HB1.out.mono HB0.out.size)
      have b2 := b1.trans (HBX.out.mono b1.size)
      exact ⟨rfl, b2.trans (hM.mono b2.size)⟩
set_option maxHeartbeats 8000000 in
theorem keyturns_more (w : World) (last : ByteArray) (L : LayA) (a : ActK) (h : ActAt w L a) (pk nm : ByteArray) (hTab : Tabs w) (hg : greatL a = false) (hl : ¬ (100 : Int) < last.size) (n1 v1 : Tx) (r : List SetE) (hn : a.env = (n1, v1) :: r) :
    Calls Tryd.prog 6 #[.agg (actV L a), .agg #[.string pk, .string nm], .string last] w fun e w' => e = .returned (.bool true) ∧ Below w.heap.size w w' := by
  obtain ⟨VA, hVA⟩ : ∃ VA : List Value, VA.toArray = actV L a := ⟨(actV L a).toList, by simp⟩
  rw [← hVA]
  obtain ⟨W0, hW⟩ : ∃ W0, W0 = (w.alloc (.cells VA.toArray 27)).alloc (.cells #[.string pk, .string nm] 23) := ⟨_, rfl⟩
  have hb0 : Below w.heap.size w W0 := by rw [hW]; exact ((Below.refl _ w).alloc (Nat.le_refl _) _).alloc (by simp) _
  have hA : ActBox W0 w.heap.size VA L a := ⟨by rw [hW]; exact heap_alloc2_old w _ _, by have := congrArg Array.size hVA; simpa [actV] using this, hVA, h.below hb0⟩
  have hLb : W0.heap[w.heap.size + 1]? = some (.cells #[.string pk, .string nm] 23 (0, 0)) := by rw [hW]; exact heap_alloc2_new w _ _
  have hT0 := hTab.on hb0
  have HA := hid2 hA
  have HLB0 := hid2 hLb
  have HW := hid2 hW
  have HB0 := hid2 hb0
  have HT0 := hid2 hT0
  have HI := hid2 hA.info
  have cG := hA.great
  have HG1 := hid2 cG
  obtain ⟨lpk, lnm, E, I, A, O, cE, cI, cA, cO⟩ := L
  have hm := mild_of hg
  have hmt := turnA_mild hg (show last.data.toList.length ≤ 100 by rw [toList_length]; omega)
  have htx := turnA_text a last.data.toList
  have hE := h.env
  have hI := h.ins
  have hAa := h.asks
  have hO := h.outs
  have lE := hm.env
  have lI := hm.ins
  have lA := hm.asks
  have lO := hm.outs
  simp only at hE hI hAa hO
  have HAT := hid2 hA.at_
  have hval : VA.toArray = #[.string lpk, .string lnm, .string (strB a.tool), .slice E a.env.length cE, .slice I a.ins.length cI, .slice A a.asks.length cA, .slice O a.outs.length cO] := hVA
  have HVAL := hid2 hval
  have HM := hid2 hm
  have HMT := hid2 hmt
  have HTX := hid2 htx
  have HEN := hid2 hE
  obtain ⟨T, hT⟩ : ∃ T, T = strB a.tool := ⟨_, rfl⟩
  obtain ⟨nE, hnE⟩ : ∃ n, n = a.env.length := ⟨_, rfl⟩
  obtain ⟨nI, hnI⟩ : ∃ n, n = a.ins.length := ⟨_, rfl⟩
  obtain ⟨nA, hnA⟩ : ∃ n, n = a.asks.length := ⟨_, rfl⟩
  obtain ⟨nO, hnO⟩ : ∃ n, n = a.outs.length := ⟨_, rfl⟩
  have HT := hid2 hT
  have HNE := hid2 hnE
  have HNI := hid2 hnI
  have HNA := hid2 hnA
  have HNO := hid2 hnO
  have HIN := hid2 hI
  have HAS := hid2 hAa
  have HOU := hid2 hO
  obtain ⟨gA, hgA⟩ : ∃ g, g = w.heap.size := ⟨_, rfl⟩
  obtain ⟨gL, hgL⟩ : ∃ g, g = w.heap.size + 1 := ⟨_, rfl⟩
  have HQA := hid2 hgA
  have HQL := hid2 hgL
  rw [hg] at HG1
  have lE2 : nE ≤ 22 := by omega
  have lI2 : nI ≤ 22 := by omega
  have lA2 : nA ≤ 22 := by omega
  have lO2 : nO ≤ 22 := by omega
  have hn0 : (0 : Int) < nE := by rw [hnE, hn, List.length_cons]; omega
  have hn0' : 0 < nE := by omega
  have HN := hid2 hn
  obtain ⟨bE, oE, rfl, hEc⟩ := hE.2 (by omega)
  obtain ⟨x, hx⟩ : ∃ x, x = strB n1 := ⟨_, rfl⟩
  have HXX := hid2 hx
  clear hEc hx
  clear hn h hTab hVA hA hLb hb0 hW hT0 cG hm hmt htx hE hI hAa hO lE lI lA lO hval hT hnE hnI hnA hnO hgA hgL hg
  go_enter Tryd.func6, Tryd.ntmps6
  go_wp2_with (first
    | ((with_reducible refine wpList_load_lit w.heap.size 0 _ _ _ (heap_alloc2_old w _ _) VA (fun j _ => getElem?_zero_add _ j) _ Tryd.underlying27 HI.out ?_ ?_); exact ⟨rfl, rfl⟩; rw [← HW.out])
    | (go_at_call 7; refine HG1.out.mono ?_; rintro e W ⟨rfl, hb1⟩; have HB1 := hid2 hb1; clear hb1 HG1))
  have HgA := hid2 (fun (w2 : World) (hb : Below W.heap.size W w2) => show ActBox w2 gA VA ⟨lpk, lnm, (some ⟨bE, oE, none⟩), I, A, O, cE, cI, cA, cO⟩ a from HQA.out ▸ (HA.out.below HB1.out).below hb)
  have HLB := hid2 (fun (w2 : World) (hb : Below W.heap.size W w2) => show w2.heap[gL]? = some (.cells #[.string pk, .string nm] 23 (0, 0)) from by
    have h1 := (HB1.out.block _ (heap_lt HLB0.out)).trans HLB0.out
    have h2 := (hb.block _ (heap_lt h1)).trans h1
    rw [HQL.out]
    exact h2)
  have HCELL := hid2 (show ∀ w2, Below W.heap.size W w2 → w2.cell? ⟨gA, 2, none⟩ = some (.string T) ∧ w2.cell? ⟨gA, 3, none⟩ = some (.slice (some ⟨bE, oE, none⟩) nE cE) ∧ w2.cell? ⟨gA, 4, none⟩ = some (.slice I nI cI) ∧ w2.cell? ⟨gA, 5, none⟩ = some (.slice A nA cA) ∧ w2.cell? ⟨gA, 6, none⟩ = some (.slice O nO cO) from fun w2 hb => by
    have hh := (HgA.out w2 hb).heap
    rw [HVAL.out] at hh
    rw [HT.out, HNE.out, HNI.out, HNA.out, HNO.out]
    exact ⟨cell_of_row w2 _ 2 _ _ _ hh, cell_of_row w2 _ 3 _ _ _ hh, cell_of_row w2 _ 4 _ _ _ hh, cell_of_row w2 _ 5 _ _ _ hh, cell_of_row w2 _ 6 _ _ _ hh⟩)
  have CI := hid2 (fun (w2 : World) (hb : Below W.heap.size W w2) => show Calls Tryd.prog 15 #[.slice I nI cI] w2 _ from by rw [HNI.out]; exact lturned_any w2 I cI a.ins (by have := HNI.out; omega) (HgA.out w2 hb).at_.ins)
  have CA := hid2 (fun (w2 : World) (hb : Below W.heap.size W w2) => show Calls Tryd.prog 15 #[.slice A nA cA] w2 _ from by rw [HNA.out]; exact lturned_any w2 A cA a.asks (by have := HNA.out; omega) (HgA.out w2 hb).at_.asks)
  have CO := hid2 (fun (w2 : World) (hb : Below W.heap.size W w2) => show Calls Tryd.prog 15 #[.slice O nO cO] w2 _ from by rw [HNO.out]; exact lturned_any w2 O cO a.outs (by have := HNO.out; omega) (HgA.out w2 hb).at_.outs)
  rw [← HQL.out, ← HQA.out]
  refine wp_region_rel 14 (by kernel_rfl) (by kernel_rfl) (by kernel_rfl) _ rfl (by kernel_rfl) (TV W.heap.size [none, none, none, none, none, some (turnL a.ins), none, none, some (turnL a.asks), none, none, some (turnL a.outs), none, none] [.agg #[.string pk, .string nm], .pointer (some ⟨gA, 2, none⟩), .string T, .pointer (some ⟨gA, 4, none⟩), .slice I nI cI, undef, .pointer (some ⟨gA, 5, none⟩), .slice A nA cA, undef, .pointer (some ⟨gA, 6, none⟩), .slice O nO cO, undef, undef, undef] (TX W.heap.size pk nm T a)) (fun w2 => Below W.heap.size W w2) (fun a b => Below a.heap.size a b) ((Below.refl _ W).drew) (fun _ _ _ _ hb hv => hv.keep hb) ?_ ?_
  · refine of_allOps ⟨?_, ?_, ?_, ?_, ?_, ?_, ?_, ?_, ?_, ?_, ?_, ?_, ?_, ?_, trivial⟩
    · refine ⟨rfl, fun T2 w2 hM hN hO hE K hK => ?_⟩
      have o4 : T2[4]? = some (.pointer (some ⟨gL, 0, none⟩)) := hO 4 rfl
      clear hE hO hN
      refine wp_load_lit gL 0 _ _ _ (HLB.out w2 hM) [.string pk, .string nm] (fun j _ => getElem?_zero_add _ j) _ Tryd.underlying23 info_label1 ⟨?_, rfl⟩ ?_
      · simp [Act.eval, o4]
      · exact hK _ _ rfl hM (Below.refl _ _)
    · refine ⟨rfl, fun T2 w2 hM hN hO hE K hK => ?_⟩
      have o3 : T2[3]? = some (.pointer (some ⟨gA, 0, none⟩)) := hO 3 rfl
      clear hE hO hN
      go_simp
      exact hK _ _ rfl hM (Below.refl _ _)
    · refine ⟨rfl, fun T2 w2 hM hN hO hE K hK => ?_⟩
      obtain ⟨v1, h1, e1⟩ := hE ⟨1, .data⟩ (by simp) rfl _ _ rfl rfl
      rw [show v1 = .pointer (some ⟨gA, 2, none⟩) from (Option.some.inj e1).symm] at h1
      have hcc := (HCELL.out w2 hM).1
      clear hE hO hN
      go_simp
      exact hK _ _ rfl hM (Below.refl _ _)
    · refine ⟨rfl, fun T2 w2 hM hN hO hE K hK => ?_⟩
      have o3 : T2[3]? = some (.pointer (some ⟨gA, 0, none⟩)) := hO 3 rfl
      clear hE hO hN
      go_simp
      exact hK _ _ rfl hM (Below.refl _ _)
    · refine ⟨rfl, fun T2 w2 hM hN hO hE K hK => ?_⟩
      obtain ⟨v3, h3, e3⟩ := hE ⟨3, .data⟩ (by simp) rfl _ _ rfl rfl
      rw [show v3 = .pointer (some ⟨gA, 4, none⟩) from (Option.some.inj e3).symm] at h3
      have hcc := (HCELL.out w2 hM).2.2.1
      clear hE hO hN
      go_simp
      exact hK _ _ rfl hM (Below.refl _ _)
    · refine ⟨rfl, fun T2 w2 hM hN hO hE K hK => ?_⟩
      obtain ⟨v4, h4, e4⟩ := hE ⟨4, .data⟩ (by simp) rfl _ _ rfl rfl
      rw [show v4 = .slice I nI cI from (Option.some.inj e4).symm] at h4
      clear hE hO hN
      go_simp
      refine (CI.out w2 hM).mono ?_
      rintro e w3 ⟨A3, c3, rfl, ho3, hb3⟩
      exact hK _ _ ⟨A3, c3, rfl, ho3.mono hM.size⟩ (hM.trans (hb3.mono hM.size)) hb3
    · refine ⟨rfl, fun T2 w2 hM hN hO hE K hK => ?_⟩
      have o3 : T2[3]? = some (.pointer (some ⟨gA, 0, none⟩)) := hO 3 rfl
      clear hE hO hN
      go_simp
      exact hK _ _ rfl hM (Below.refl _ _)
    · refine ⟨rfl, fun T2 w2 hM hN hO hE K hK => ?_⟩
      obtain ⟨v6, h6, e6⟩ := hE ⟨6, .data⟩ (by simp) rfl _ _ rfl rfl
      rw [show v6 = .pointer (some ⟨gA, 5, none⟩) from (Option.some.inj e6).symm] at h6
      have hcc := (HCELL.out w2 hM).2.2.2.1
      clear hE hO hN
      go_simp
      exact hK _ _ rfl hM (Below.refl _ _)
    · refine ⟨rfl, fun T2 w2 hM hN hO hE K hK => ?_⟩
      obtain ⟨v7, h7, e7⟩ := hE ⟨7, .data⟩ (by simp) rfl _ _ rfl rfl
      rw [show v7 = .slice A nA cA from (Option.some.inj e7).symm] at h7
      clear hE hO hN
      go_simp
      refine (CA.out w2 hM).mono ?_
      rintro e w3 ⟨A3, c3, rfl, ho3, hb3⟩
      exact hK _ _ ⟨A3, c3, rfl, ho3.mono hM.size⟩ (hM.trans (hb3.mono hM.size)) hb3
    · refine ⟨rfl, fun T2 w2 hM hN hO hE K hK => ?_⟩
      have o3 : T2[3]? = some (.pointer (some ⟨gA, 0, none⟩)) := hO 3 rfl
      clear hE hO hN
      go_simp
      exact hK _ _ rfl hM (Below.refl _ _)
    · refine ⟨rfl, fun T2 w2 hM hN hO hE K hK => ?_⟩
      obtain ⟨v9, h9, e9⟩ := hE ⟨9, .data⟩ (by simp) rfl _ _ rfl rfl
      rw [show v9 = .pointer (some ⟨gA, 6, none⟩) from (Option.some.inj e9).symm] at h9
      have hcc := (HCELL.out w2 hM).2.2.2.2
      clear hE hO hN
      go_simp
      exact hK _ _ rfl hM (Below.refl _ _)
    · refine ⟨rfl, fun T2 w2 hM hN hO hE K hK => ?_⟩
      obtain ⟨v10, h10, e10⟩ := hE ⟨10, .data⟩ (by simp) rfl _ _ rfl rfl
      rw [show v10 = .slice O nO cO from (Option.some.inj e10).symm] at h10
      clear hE hO hN
      go_simp
      refine (CO.out w2 hM).mono ?_
      rintro e w3 ⟨A3, c3, rfl, ho3, hb3⟩
      exact hK _ _ ⟨A3, c3, rfl, ho3.mono hM.size⟩ (hM.trans (hb3.mono hM.size)) hb3
    · refine ⟨rfl, fun T2 w2 hM hN hO hE K hK => ?_⟩
      obtain ⟨v0, h0, e0⟩ := hE ⟨0, .data⟩ (by simp) rfl _ _ rfl rfl
      rw [show v0 = .agg #[.string pk, .string nm] from (Option.some.inj e0).symm] at h0
      obtain ⟨v2, h2, e2⟩ := hE ⟨2, .data⟩ (by simp) rfl _ _ rfl rfl
      rw [show v2 = .string T from (Option.some.inj e2).symm] at h2
      obtain ⟨v5, h5, e5⟩ := hE ⟨5, .data⟩ (by simp) rfl _ _ rfl rfl
      obtain ⟨A5, c5, rfl, r5⟩ : ∃ A c, v5 = .slice A (turnL a.ins).length c ∧ Own w2 W.heap.size 9 1 A (turnL a.ins).length c (strV (turnL a.ins)) := e5
      obtain ⟨v8, h8, e8⟩ := hE ⟨8, .data⟩ (by simp) rfl _ _ rfl rfl
      obtain ⟨A8, c8, rfl, r8⟩ : ∃ A c, v8 = .slice A (turnL a.asks).length c ∧ Own w2 W.heap.size 9 1 A (turnL a.asks).length c (strV (turnL a.asks)) := e8
      obtain ⟨v11, h11, e11⟩ := hE ⟨11, .data⟩ (by simp) rfl _ _ rfl rfl
      obtain ⟨A11, c11, rfl, r11⟩ : ∃ A c, v11 = .slice A (turnL a.outs).length c ∧ Own w2 W.heap.size 9 1 A (turnL a.outs).length c (strV (turnL a.outs)) := e11
      clear hE hO hN
      refine wp_build_lit1 #[.string pk, .string nm, .string T, .slice none 0 0, .slice A5 (turnL a.ins).length c5, .slice A8 (turnL a.asks).length c8, .slice A11 (turnL a.outs).length c11] ?_ ?_
      · simp only [List.map_toArray, List.map_cons, List.map_nil, Act.eval, Array.getD_eq_getD_getElem?, h0, h2, h5, h8, h11, Option.getD_some]
        exact built_turn pk nm T A5 A8 A11 _ _ _ c5 c8 c11
      · exact hK _ _ ⟨A5, A8, A11, c5, c8, c11, rfl, r5, r8, r11⟩ hM (Below.refl _ _)
    · refine ⟨rfl, fun T2 w2 hM hN hO hE K hK => ?_⟩
      clear hE hO hN
      go_simp
      exact hK _ _ ⟨_, rfl, hM.size, World.alloc_heap_new w2 _⟩ (hM.alloc hM.size _) ((Below.refl _ _).alloc (Nat.le_refl _) _)
  · intro u w2 hM hF
    obtain ⟨I1, A1, O1, cI1, cA1, cO1, e12, rI, rA, rO⟩ : TX W.heap.size pk nm T a (u 12) w2 := hF 12 (by omega)
    obtain ⟨gB, e13, hgB1, hgB2⟩ : ∃ g, u 13 = .pointer (some ⟨g, 0, none⟩) ∧ W.heap.size ≤ g ∧ w2.heap[g]? = some (.cells #[.string ⟨#[]⟩, .string ⟨#[]⟩, .string ⟨#[]⟩, .slice none 0 0, .slice none 0 0, .slice none 0 0, .slice none 0 0] 27 (0, 0)) := hF 13 (by omega)
    clear hF
    simp only [fillAll, Nat.reduceAdd, e12, e13, List.take_succ_cons, List.take_zero, List.drop_succ_cons, List.drop_zero, List.setIfInBounds_toArray, List.set_cons_succ, List.set_cons_zero]
    clear CI CA CO
    have hr3 : R3 W.heap.size a I1 A1 O1 cI1 cA1 cO1 w2 := ⟨rI, rA, rO⟩
    have HR3 := hid2 hr3
    have HM2 := hid2 hM
    obtain ⟨X, hX⟩ : ∃ X, X = setsV a.env := ⟨_, rfl⟩
    have HX := hid2 hX
    have HRD := hid2 (fun (w2 : World) (hb : Below W.heap.size W w2) => show Rd w2 2 (some ⟨bE, oE, none⟩) nE X from by rw [HNE.out, HX.out]; exact (HgA.out w2 hb).at_.env)
    have HX1 := hid2 (show ∀ v ∈ X, v.oneCell' = true from by rw [HX.out]; exact setsV_one1 _)
    have HV0 := hid2 (show (Value.agg #[.string pk, .string nm, .string T, .slice none 0 0, .slice I1 (turnL a.ins).length cI1, .slice A1 (turnL a.asks).length cA1, .slice O1 (turnL a.outs).length cO1]).cells.toList = [.string pk, .string nm, .string T, .slice none 0 0, .slice I1 (turnL a.ins).length cI1, .slice A1 (turnL a.asks).length cA1, .slice O1 (turnL a.outs).length cO1] from rfl)
    have HI0 := hid2 (show (Tryd.prog.info? 27).map (·.size) = some ([.string pk, .string nm, .string T, .slice none 0 0, .slice I1 (turnL a.ins).length cI1, .slice A1 (turnL a.asks).length cA1, .slice O1 (turnL a.outs).length cO1] : List Value).length from info_act)
    have HF0 := hid2 (show 0 + ([.string pk, .string nm, .string T, .slice none 0 0, .slice I1 (turnL a.ins).length cI1, .slice A1 (turnL a.asks).length cA1, .slice O1 (turnL a.outs).length cO1] : List Value).length ≤ (#[.string ⟨#[]⟩, .string ⟨#[]⟩, .string ⟨#[]⟩, .slice none 0 0, .slice none 0 0, .slice none 0 0, .slice none 0 0] : Array Value).size from Nat.le_refl _)
    have HO0 := hid2 (show ∀ v ∈ ([.string pk, .string nm, .string T, .slice none 0 0, .slice I1 (turnL a.ins).length cI1, .slice A1 (turnL a.asks).length cA1, .slice O1 (turnL a.outs).length cO1] : List Value), v.oneCell' = true from by simp [Value.oneCell'])
    have HS5 := hid2 (fun (A : Option Addr) (n c : Nat) => show (Value.slice A n c).cells.toList = [.slice A n c] from rfl)
    have HI5 := hid2 (fun (v : Value) => show (Tryd.prog.info? 24).map (·.size) = some [v].length from info_sets1)
    have HF5 := hid2 (fun (v y : Value) => show 3 + [v].length ≤ ([.string pk, .string nm, .string T, y, .slice I1 (turnL a.ins).length cI1, .slice A1 (turnL a.asks).length cA1, .slice O1 (turnL a.outs).length cO1] : List Value).toArray.size from by simp)
    have HO5 := hid2 (fun (A : Option Addr) (n c : Nat) => show ∀ v ∈ ([.slice A n c] : List Value), v.oneCell' = true from by simp [Value.oneCell'])
    clear rI rA rO hr3 hM hX
    go_wp2_with (first
      | ((with_reducible refine wpList_store_lit gB 0 (.agg #[.string pk, .string nm, .string T, .slice none 0 0, .slice I1 (turnL a.ins).length cI1, .slice A1 (turnL a.asks).length cA1, .slice O1 (turnL a.outs).length cO1]) [.string pk, .string nm, .string T, .slice none 0 0, .slice I1 (turnL a.ins).length cI1, .slice A1 (turnL a.asks).length cA1, .slice O1 (turnL a.outs).length cO1] HV0.out #[.string ⟨#[]⟩, .string ⟨#[]⟩, .string ⟨#[]⟩, .slice none 0 0, .slice none 0 0, .slice none 0 0, .slice none 0 0] 27 hgB2 HI0.out HF0.out HO0.out ?_ ?_); exact ⟨rfl, rfl⟩; have hX4 := stored_row (VX := [.string pk, .string nm, .string T, .slice none 0 0, .slice I1 (turnL a.ins).length cI1, .slice A1 (turnL a.asks).length cA1, .slice O1 (turnL a.outs).length cO1]) hgB2 rfl; have hb4 := below_setRow HM2.out hgB1 (laid #[.string ⟨#[]⟩, .string ⟨#[]⟩, .string ⟨#[]⟩, .slice none 0 0, .slice none 0 0, .slice none 0 0, .slice none 0 0] 0 [.string pk, .string nm, .string T, .slice none 0 0, .slice I1 (turnL a.ins).length cI1, .slice A1 (turnL a.asks).length cA1, .slice O1 (turnL a.outs).length cO1]); have HR4 := hid2 (HR3.out.setRow (cs := laid #[.string ⟨#[]⟩, .string ⟨#[]⟩, .string ⟨#[]⟩, .slice none 0 0, .slice none 0 0, .slice none 0 0, .slice none 0 0] 0 [.string pk, .string nm, .string T, .slice none 0 0, .slice I1 (turnL a.ins).length cI1, .slice A1 (turnL a.asks).length cA1, .slice O1 (turnL a.outs).length cO1]) hgB2); obtain ⟨W4, hW4⟩ : ∃ W4, W4 = w2.setRow gB (laid #[.string ⟨#[]⟩, .string ⟨#[]⟩, .string ⟨#[]⟩, .slice none 0 0, .slice none 0 0, .slice none 0 0, .slice none 0 0] 0 [.string pk, .string nm, .string T, .slice none 0 0, .slice I1 (turnL a.ins).length cI1, .slice A1 (turnL a.asks).length cA1, .slice O1 (turnL a.outs).length cO1]) := ⟨_, rfl⟩; rw [← hW4] at hX4 hb4 HR4 ⊢; clear hW4 hgB2 HR3 HM2; have hc4 : W4.cell? ⟨gB, 3, none⟩ = some (.slice none 0 0) := cell_of_row W4 gB 3 _ _ _ hX4; have hcA4 := (HCELL.out W4 hb4).2.1)
      | ((with_reducible refine wpList_append_lit 37 (.agg #[.string ⟨#[]⟩, .string ⟨#[]⟩]) 2 32 Tryd.underlying24 info_setting2 rfl W.heap.size none 0 0 [] (Own.nil W4 _ _ _) nE X (.slice (some ⟨bE, oE, none⟩) nE cE) (Src.slice Tryd.underlying24 (HRD.out W4 hb4)) HX1.out ?_ ?_ ?_ ?_ ?_); (unfold maxLen; omega); omega; exact hb4.size; exact ⟨rfl, rfl⟩; intro A5 c5 W5 hown5 hgr5 hbl5; rw [Nat.zero_add, List.nil_append] at hown5; rw [Nat.zero_add]; have hb5 : Below W.heap.size W W5 := hb4.grown hgr5 hb4.size (fun k e => by cases e); have hX5 : W5.heap[gB]? = some (.cells [.string pk, .string nm, .string T, .slice none 0 0, .slice I1 (turnL a.ins).length cI1, .slice A1 (turnL a.asks).length cA1, .slice O1 (turnL a.outs).length cO1].toArray 27 (0, 0)) := (hgr5.block gB (heap_lt hX4) (by simp [blockOf])).trans hX4; have HR5 := hid2 (HR4.out.grown hgr5 (fun b e => by cases e)); clear hX4 hb4 HR4 hc4 hcA4 hgr5 hbl5)
      | ((with_reducible refine wpList_store_lit gB 3 (.slice A5 nE c5) [.slice A5 nE c5] (HS5.out _ _ _) [.string pk, .string nm, .string T, .slice none 0 0, .slice I1 (turnL a.ins).length cI1, .slice A1 (turnL a.asks).length cA1, .slice O1 (turnL a.outs).length cO1].toArray 27 hX5 (HI5.out _) (HF5.out _ _) (HO5.out _ _ _) ?_ ?_); exact ⟨rfl, rfl⟩; have hX6 := stored_env (x := .slice A5 nE c5) hX5; have hb6 := below_setRow hb5 hgB1 (laid [.string pk, .string nm, .string T, .slice none 0 0, .slice I1 (turnL a.ins).length cI1, .slice A1 (turnL a.asks).length cA1, .slice O1 (turnL a.outs).length cO1].toArray 3 [.slice A5 nE c5]); have HR6 := hid2 (HR5.out.setRow (cs := laid [.string pk, .string nm, .string T, .slice none 0 0, .slice I1 (turnL a.ins).length cI1, .slice A1 (turnL a.asks).length cA1, .slice O1 (turnL a.outs).length cO1].toArray 3 [.slice A5 nE c5]) hX5); have hown6 := hown5.setRow_ne (cs := laid [.string pk, .string nm, .string T, .slice none 0 0, .slice I1 (turnL a.ins).length cI1, .slice A1 (turnL a.asks).length cA1, .slice O1 (turnL a.outs).length cO1].toArray 3 [.slice A5 nE c5]) hX5 (by decide); obtain ⟨W6, hW6⟩ : ∃ W6, W6 = W5.setRow gB (laid [.string pk, .string nm, .string T, .slice none 0 0, .slice I1 (turnL a.ins).length cI1, .slice A1 (turnL a.asks).length cA1, .slice O1 (turnL a.outs).length cO1].toArray 3 [.slice A5 nE c5]) := ⟨_, rfl⟩; rw [← hW6] at hX6 hb6 HR6 hown6 ⊢; clear hW6 hX5 HR5 hb5 hown5; have hcA6 := (HCELL.out W6 hb6).2.1))
    have HOWN6 := hid2 hown6
    have HB6 := hid2 hb6
    have HX6 := hid2 hX6
    have hA5 : ∀ k, blockOf A5 = some k → W.heap.size ≤ k ∧ k < W6.heap.size := fun k e => ⟨(hown6.block k e).1, (hown6.block k e).2.1⟩
    have HBL := hid2 (show ∀ w2, (W6.grownBy w2 (blockOf A5) ∧ Own w2 W.heap.size 37 2 A5 nE c5 X) → Below W.heap.size W w2 from fun w2 hm => HB6.out.grown hm.1 HB6.out.size fun k e => (hA5 k e).1)
    have HR2 := hid2 (show ∀ w2, (W6.grownBy w2 (blockOf A5) ∧ Own w2 W.heap.size 37 2 A5 nE c5 X) → w2.heap[gB]? = some (.cells [.string pk, .string nm, .string T, .slice A5 nE c5, .slice I1 (turnL a.ins).length cI1, .slice A1 (turnL a.asks).length cA1, .slice O1 (turnL a.outs).length cO1].toArray 27 (0, 0)) from fun w2 hm => (hm.1.block gB (heap_lt HX6.out) (fun e => HOWN6.out.ne HX6.out (by decide) e.symm)).trans HX6.out)
    have HC6 := hid2 (show ∀ w2, (W6.grownBy w2 (blockOf A5) ∧ Own w2 W.heap.size 37 2 A5 nE c5 X) → w2.cell? ⟨gB, 3, none⟩ = some (.slice A5 nE c5) from fun w2 hm => cell_of_row w2 gB 3 _ _ _ (HR2.out w2 hm))
    have HXC := hid2 (show ∀ w2, Below W.heap.size W w2 → w2.cell? ⟨bE, oE, none⟩ = some (.string x) from fun w2 hb => by
      obtain ⟨b', o', e, hc⟩ := (HgA.out w2 hb).at_.env.2 (show 0 < a.env.length by rw [HN.out]; simp)
      cases e
      have := hc 0 _ (by rw [HN.out]; rfl)
      rw [HXX.out]
      exact this)
    have HNB := hid2 (show ∀ w2, (W6.grownBy w2 (blockOf A5) ∧ Own w2 W.heap.size 37 2 A5 nE c5 X) → some w2.heap.size ≠ blockOf A5 from fun w2 hm e => by
      have := (hm.2.block _ e.symm).2.1
      omega)
    have HA5 := hid2 (show ∀ b, blockOf A5 = some b → ∃ cs fr, W6.heap[b]? = some (.cells cs 37 fr) from fun b e => (HOWN6.out.block b e).2.2)
    clear hown6 hb6 hX6 hcA6 hA5
    refine wp_region_rel 12 (by kernel_rfl) (by kernel_rfl) (by kernel_rfl) _ rfl (by kernel_rfl) (SV W.heap.size nE A5 c5 X [Value.string x, Value.string last] [.pointer (some ⟨gB, 3, none⟩), .slice A5 nE c5, .pointer (some ⟨gA, 3, none⟩), .slice (some ⟨bE, oE, none⟩) nE cE, .pointer (some ⟨bE, oE, none⟩), .pointer (some ⟨bE, oE, none⟩), .string x, .string last, .agg #[Value.string x, Value.string last], undef, undef, .pointer (some ⟨gB, 3, none⟩)]) (fun w2 => W6.grownBy w2 (blockOf A5) ∧ Own w2 W.heap.size 37 2 A5 nE c5 X) (KeptBut W.heap.size 37 2 A5 c5 (nE + 1) (X ++ [Value.string x, Value.string last])) ⟨⟨rfl, rfl, rfl, Nat.le_refl _, fun _ _ _ => rfl⟩, HOWN6.out⟩ (fun _ _ _ _ hb hv => SV.keep hb hv) ?_ ?_
    · refine of_allOps ⟨?_, ?_, ?_, ?_, ?_, ?_, ?_, ?_, ?_, ?_, ?_, ?_, trivial⟩
      · refine ⟨rfl, fun T2 w2 hM hN hO hE K hK => ?_⟩
        have o7 : T2[7]? = some (.pointer (some ⟨gB, 0, none⟩)) := hO 7 rfl
        clear hE hO hN
        go_simp
        exact hK _ _ rfl hM (KeptBut.refl _)
      · refine ⟨rfl, fun T2 w2 hM hN hO hE K hK => ?_⟩
        obtain ⟨v0, h0, e0⟩ := hE ⟨0, .data⟩ (by simp) rfl _ _ rfl rfl
        rw [show v0 = .pointer (some ⟨gB, 3, none⟩) from (Option.some.inj e0).symm] at h0
        have hcc := HC6.out w2 hM
        clear hE hO hN
        go_simp
        exact hK _ _ rfl hM (KeptBut.refl _)
      · refine ⟨rfl, fun T2 w2 hM hN hO hE K hK => ?_⟩
        have o3 : T2[3]? = some (.pointer (some ⟨gA, 0, none⟩)) := hO 3 rfl
        clear hE hO hN
        go_simp
        exact hK _ _ rfl hM (KeptBut.refl _)
      · refine ⟨rfl, fun T2 w2 hM hN hO hE K hK => ?_⟩
        obtain ⟨v2, h2, e2⟩ := hE ⟨2, .data⟩ (by simp) rfl _ _ rfl rfl
        rw [show v2 = .pointer (some ⟨gA, 3, none⟩) from (Option.some.inj e2).symm] at h2
        have hcc := (HCELL.out w2 (HBL.out w2 hM)).2.1
        clear hE hO hN
        go_simp
        exact hK _ _ rfl hM (KeptBut.refl _)
      · refine ⟨rfl, fun T2 w2 hM hN hO hE K hK => ?_⟩
        obtain ⟨v3, h3, e3⟩ := hE ⟨3, .data⟩ (by simp) rfl _ _ rfl rfl
        rw [show v3 = .slice (some ⟨bE, oE, none⟩) nE cE from (Option.some.inj e3).symm] at h3
        clear hE hO hN
        go_simp
        exact hK _ _ rfl hM (KeptBut.refl _)
      · refine ⟨rfl, fun T2 w2 hM hN hO hE K hK => ?_⟩
        obtain ⟨v4, h4, e4⟩ := hE ⟨4, .data⟩ (by simp) rfl _ _ rfl rfl
        rw [show v4 = .pointer (some ⟨bE, oE, none⟩) from (Option.some.inj e4).symm] at h4
        clear hE hO hN
        go_simp
        exact hK _ _ rfl hM (KeptBut.refl _)
      · refine ⟨rfl, fun T2 w2 hM hN hO hE K hK => ?_⟩
        obtain ⟨v5, h5, e5⟩ := hE ⟨5, .data⟩ (by simp) rfl _ _ rfl rfl
        rw [show v5 = .pointer (some ⟨bE, oE, none⟩) from (Option.some.inj e5).symm] at h5
        have hcc := HXC.out w2 (HBL.out w2 hM)
        clear hE hO hN
        go_simp
        exact hK _ _ rfl hM (KeptBut.refl _)
      · refine ⟨rfl, fun T2 w2 hM hN hO hE K hK => ?_⟩
        have o2 : T2[2]? = some (.string last) := hO 2 rfl
        clear hE hO hN
        go_simp
        exact hK _ _ rfl hM (KeptBut.refl _)
      · refine ⟨rfl, fun T2 w2 hM hN hO hE K hK => ?_⟩
        obtain ⟨v6, h6, e6⟩ := hE ⟨6, .data⟩ (by simp) rfl _ _ rfl rfl
        rw [show v6 = .string x from (Option.some.inj e6).symm] at h6
        obtain ⟨v7, h7, e7⟩ := hE ⟨7, .data⟩ (by simp) rfl _ _ rfl rfl
        rw [show v7 = .string last from (Option.some.inj e7).symm] at h7
        clear hE hO hN
        go_simp
        exact hK _ _ rfl hM (KeptBut.refl _)
      · refine ⟨rfl, fun T2 w2 hM hN hO hE K hK => ?_⟩
        obtain ⟨v8, h8, e8⟩ := hE ⟨8, .data⟩ (by simp) rfl _ _ rfl rfl
        rw [show v8 = .agg #[Value.string x, Value.string last] from (Option.some.inj e8).symm] at h8
        clear hE hO hN
        go_simp
        exact hK _ _ ⟨_, rfl, World.alloc_heap_new w2 _, HNB.out w2 hM⟩ ⟨grownBy_trans hM.1 (World.grownBy_alloc w2 _ _), hM.2.alloc _⟩ (KeptBut.alloc w2 _)
      · refine ⟨rfl, fun T2 w2 hM hN hO hE K hK => ?_⟩
        obtain ⟨v1, h1, e1⟩ := hE ⟨1, .data⟩ (by simp) rfl _ _ rfl rfl
        rw [show v1 = .slice A5 nE c5 from (Option.some.inj e1).symm] at h1
        obtain ⟨v9, h9, e9⟩ := hE ⟨9, .data⟩ (by simp) rfl _ _ rfl rfl
        obtain ⟨g9, rfl, hr9, hne9⟩ : ∃ g, v9 = .slice (some ⟨g, 0, none⟩) 1 1 ∧ w2.heap[g]? = some (.cells ([Value.string x, Value.string last] : List Value).toArray 37 (0, 0)) ∧ some g ≠ blockOf A5 := e9
        clear hE hO hN
        have rd9 : Rd w2 2 (some ⟨g9, 0, none⟩) 1 [Value.string x, Value.string last] := ⟨rfl, fun _ => ⟨g9, 0, rfl, fun j u hu => by rw [cell_of_row w2 g9 _ _ _ _ hr9, Nat.zero_add]; simpa using hu⟩⟩
        refine wp_append_two _ _ _ _ rfl 37 (.agg #[.string ⟨#[]⟩, .string ⟨#[]⟩]) 2 32 Tryd.underlying24 info_setting2 rfl W.heap.size A5 nE c5 X hM.2 1 [Value.string x, Value.string last] (.slice (some ⟨g9, 0, none⟩) 1 1) (Src.slice Tryd.underlying24 rd9) one_two ?_ ?_ ?_ ?_ ?_
        · unfold maxLen; omega
        · omega
        · exact Nat.le_trans HB6.out.size hM.1.size
        · exact ⟨by simp [Act.eval, h1], by simp [Act.eval, h9]⟩
        · intro A2 c2 w3 hcame hkept hown3
          exact hK _ _ ⟨A2, c2, rfl, hcame⟩ ⟨grownBy_trans hM.1 hkept.1, hown3⟩ hkept
      · refine ⟨rfl, fun T2 w2 hM hN hO hE K hK => ?_⟩
        have o7 : T2[7]? = some (.pointer (some ⟨gB, 0, none⟩)) := hO 7 rfl
        clear hE hO hN
        go_simp
        exact hK _ _ rfl hM (KeptBut.refl _)
    · intro u w2 hM hF
      obtain ⟨A7, c7, e10, hcame⟩ : ∃ A' c', u 10 = .slice A' (nE + 1) c' ∧ Came W.heap.size 37 2 A5 c5 (nE + 1) (X ++ [Value.string x, Value.string last]) A' c' w2 := hF 10 (by omega)
      have e11 : u 11 = .pointer (some ⟨gB, 3, none⟩) := (Option.some.inj (hF 11 (by omega))).symm
      clear hF
      simp only [fillAll, Nat.reduceAdd, e10, e11, List.take_succ_cons, List.take_zero, List.drop_succ_cons, List.drop_zero, List.setIfInBounds_toArray, List.set_cons_succ, List.set_cons_zero]
      have HR7 := hid2 (HR6.out.grown hM.1 HA5.out)
      have hX2 := HR2.out w2 hM
      have hb2 := HBL.out w2 hM
      have HOWN7 := hid2 hcame.1
      clear hM hcame
      go_wp2_with (first
        | ((with_reducible refine wpList_store_lit gB 3 (.slice A7 (nE + 1) c7) [.slice A7 (nE + 1) c7] (HS5.out _ _ _) [.string pk, .string nm, .string T, .slice A5 nE c5, .slice I1 (turnL a.ins).length cI1, .slice A1 (turnL a.asks).length cA1, .slice O1 (turnL a.outs).length cO1].toArray 27 hX2 (HI5.out _) (HF5.out _ _) (HO5.out _ _ _) ?_ ?_); exact ⟨rfl, rfl⟩; have hX7 := stored_env (x := .slice A7 (nE + 1) c7) hX2; have hb7 := below_setRow hb2 hgB1 (laid [.string pk, .string nm, .string T, .slice A5 nE c5, .slice I1 (turnL a.ins).length cI1, .slice A1 (turnL a.asks).length cA1, .slice O1 (turnL a.outs).length cO1].toArray 3 [.slice A7 (nE + 1) c7]); have hR7 := HR7.out.setRow (cs := laid [.string pk, .string nm, .string T, .slice A5 nE c5, .slice I1 (turnL a.ins).length cI1, .slice A1 (turnL a.asks).length cA1, .slice O1 (turnL a.outs).length cO1].toArray 3 [.slice A7 (nE + 1) c7]) hX2; have hown7 := HOWN7.out.setRow_ne (cs := laid [.string pk, .string nm, .string T, .slice A5 nE c5, .slice I1 (turnL a.ins).length cI1, .slice A1 (turnL a.asks).length cA1, .slice O1 (turnL a.outs).length cO1].toArray 3 [.slice A7 (nE + 1) c7]) hX2 (by decide); obtain ⟨W7, hW7⟩ : ∃ W7, W7 = w2.setRow gB (laid [.string pk, .string nm, .string T, .slice A5 nE c5, .slice I1 (turnL a.ins).length cI1, .slice A1 (turnL a.asks).length cA1, .slice O1 (turnL a.outs).length cO1].toArray 3 [.slice A7 (nE + 1) c7]) := ⟨_, rfl⟩; rw [← hW7] at hX7 hb7 hR7 hown7 ⊢; clear hW7 hX2 hb2 HR7 HOWN7))
      obtain ⟨VB, hVB⟩ : ∃ VB : List Value, VB = [.string pk, .string nm, .string T, .slice A7 (nE + 1) c7, .slice I1 (turnL a.ins).length cI1, .slice A1 (turnL a.asks).length cA1, .slice O1 (turnL a.outs).length cO1] := ⟨_, rfl⟩
      have henv : (turnA a last.data.toList).env = a.env ++ [(n1, last.data.toList)] := by show a.env ++ (a.env.take 1).map _ = _; rw [HN.out]; rfl
      have hlen : (a.env ++ [(n1, last.data.toList)]).length = nE + 1 := by rw [List.length_append, ← HNE.out]; rfl
      have hBB : ActBox W7 gB VB ⟨pk, nm, A7, I1, A1, O1, c7, cI1, cA1, cO1⟩ (turnA a last.data.toList) := by
        refine ⟨by rw [hVB]; exact hX7, by rw [hVB]; rfl, ?_, ?_⟩
        · rw [hVB, actV, henv, hlen, show (turnA a last.data.toList).tool = a.tool from rfl, ← HT.out]
          rfl
        · refine ⟨?_, hR7.1.rd, hR7.2.1.rd, hR7.2.2.rd, ?_, ?_, ?_, ?_⟩
          · rw [henv, hlen, setsV_append, ← HX.out, show setsV [(n1, last.data.toList)] = [.string x, .string last] by rw [HXX.out]; show [Value.string (strB n1), .string (strB last.data.toList)] = _; rw [strB_of]]
            exact hown7.rd
          · exact Nat.le_trans HMT.out.env (by unfold maxLen; omega)
          · exact Nat.le_trans HMT.out.ins (by unfold maxLen; omega)
          · exact Nat.le_trans HMT.out.asks (by unfold maxLen; omega)
          · exact Nat.le_trans HMT.out.outs (by unfold maxLen; omega)
      clear hVB henv hlen hR7 hX7 hown7
      have hT := (HT0.out.on HB1.out).on hb7
      have HBX := hid2 hb7
      have HgB := hid2 (fun (w2 : World) (hb : Below W7.heap.size W7 w2) => hBB.below hb)
      have HgA := hid2 (fun (w2 : World) (hb : Below W7.heap.size W7 w2) => HgA.out w2 (HBX.out.trans (hb.mono HBX.out.size)))
      have C1 := hid2 (fun (w2 : World) (hb : Below W7.heap.size W7 w2) => show Calls Tryd.prog 14 #[.agg VA.toArray, .agg VB.toArray] w2 fun e w' => e = .returned (.bool true) ∧ Below w2.heap.size w2 w' from by have h1 := (HgA.out w2 hb).tsame (HgB.out w2 hb) HM.out HMT.out (hT.on hb); rwa [decide_eq_true HTX.out.symm] at h1)
      have C3 := hid2 (fun (w2 : World) (hb : Below W7.heap.size W7 w2) => (HgA.out w2 hb).text HM.out (hT.on hb))
      have C4 := hid2 (fun (w2 : World) (hb : Below W7.heap.size W7 w2) => (HgB.out w2 hb).text HMT.out (hT.on hb))
      have C5 := hid2 (fun (w2 : World) (hb : Below W7.heap.size W7 w2) => (HgA.out w2 hb).of HM.out (hT.on hb))
      have C6 := hid2 (fun (w2 : World) (hb : Below W7.heap.size W7 w2) => (HgB.out w2 hb).of HMT.out (hT.on hb))
      have CF := hid2 (fun (w2 : World) (hb : Below W7.heap.size W7 w2) => fixed_any w2 (hT.on hb))
      rw [HTX.out] at C4 C6
      obtain ⟨s, hs⟩ : ∃ s, s = strB (textK a) := ⟨_, rfl⟩
      rw [← hs] at C3 C4
      obtain ⟨S, hS⟩ : ∃ S, S = Sha.sum (textK a) := ⟨_, rfl⟩
      have hSl : S.length = 32 := by rw [hS]; exact sum_len _
      have heq := run_eq_dig S S hSl hSl
      rw [← hS] at C5 C6
      clear hs hS hSl hT hBB
      refine wp_region_grd 20 (by kernel_rfl) (by kernel_rfl) (by kernel_rfl) _ rfl (by kernel_rfl) (fun j v _ => ([.agg VA.toArray, .agg VB.toArray, .bool true, .bool true, .agg VA.toArray, .string s, .agg VB.toArray, .string s, .bool true, .bool true, .bool true, .agg VA.toArray, .agg (u8s S).toArray, .agg VB.toArray, .agg (u8s S).toArray, .bool true, .bool true, .bool true, .bool true, .bool true] : List Value)[j]? = some v) (fun w2 => Below W7.heap.size W7 w2) (fun a b => Below a.heap.size a b) ((Below.refl _ W7).drew) (fun _ _ _ _ hb hv => hv) ?_ ?_
      · refine of_allOps ⟨?_, ?_, ?_, ?_, ?_, ?_, ?_, ?_, ?_, ?_, ?_, ?_, ?_, ?_, ?_, ?_, ?_, ?_, ?_, ?_, trivial⟩
        · intro T2 w2 hM hN hO hE K hK
          have o3 : T2[3]? = some (.pointer (some ⟨gA, 0, none⟩)) := hO 3 rfl
          clear hE hO hN
          refine step_plain0 rfl ?_
          refine wp_load_lit gA 0 _ _ _ (HgA.out w2 hM).heap VA (fun j _ => getElem?_zero_add _ j) _ Tryd.underlying27 (HgA.out w2 hM).info ⟨?_, rfl⟩ ?_
          · simp [Act.eval, o3]
          · exact hK _ _ rfl hM (Below.refl _ _)
        · intro T2 w2 hM hN hO hE K hK
          have o7 : T2[7]? = some (.pointer (some ⟨gB, 0, none⟩)) := hO 7 rfl
          clear hE hO hN
          refine step_plain0 rfl ?_
          refine wp_load_lit gB 0 _ _ _ (HgB.out w2 hM).heap VB (fun j _ => getElem?_zero_add _ j) _ Tryd.underlying27 (HgB.out w2 hM).info ⟨?_, rfl⟩ ?_
          · simp [Act.eval, o7]
          · exact hK _ _ rfl hM (Below.refl _ _)
        · intro T2 w2 hM hN hO hE K hK
          obtain ⟨v0, h0, e0⟩ := hE ⟨0, .data⟩ (by simp) rfl _ _ rfl rfl
          rw [show v0 = .agg VA.toArray from (Option.some.inj e0).symm] at h0
          obtain ⟨v1, h1, e1⟩ := hE ⟨1, .data⟩ (by simp) rfl _ _ rfl rfl
          rw [show v1 = .agg VB.toArray from (Option.some.inj e1).symm] at h1
          clear hE hO hN
          refine step_plain0 rfl ?_
          go_simp
          refine (C1.out w2 hM).mono ?_
          rintro e w3 ⟨rfl, hb⟩
          exact hK _ _ rfl (hM.trans (hb.mono hM.size)) hb
        · intro T2 w2 hM hN hO hE K hK
          obtain ⟨v2, h2, e2⟩ := hE ⟨2, .data⟩ (by simp) rfl _ _ rfl rfl
          rw [show v2 = .bool true from (Option.some.inj e2).symm] at h2
          clear hE hO hN
          refine step_plain0 rfl ?_
          go_simp
          exact hK _ _ rfl hM (Below.refl _ _)
        · intro T2 w2 hM hN hO hE K hK
          obtain ⟨v3, h3, e3⟩ := hE ⟨3, .guard⟩ (by simp) rfl _ _ rfl rfl
          rw [show v3 = .bool true from (Option.some.inj e3).symm] at h3
          have o3 : T2[3]? = some (.pointer (some ⟨gA, 0, none⟩)) := hO 3 rfl
          clear hE hO hN
          refine grd_met rfl rfl rfl h3 ?_
          refine wp_load_lit gA 0 _ _ _ (HgA.out w2 hM).heap VA (fun j _ => getElem?_zero_add _ j) _ Tryd.underlying27 (HgA.out w2 hM).info ⟨?_, rfl⟩ ?_
          · simp [Act.eval, o3]
          · exact hK _ _ rfl hM (Below.refl _ _)
        · intro T2 w2 hM hN hO hE K hK
          obtain ⟨v4, h4, e4⟩ := hE ⟨4, .data⟩ (by simp) rfl _ _ rfl rfl
          rw [show v4 = .agg VA.toArray from (Option.some.inj e4).symm] at h4
          obtain ⟨v3, h3, e3⟩ := hE ⟨3, .guard⟩ (by simp) rfl _ _ rfl rfl
          rw [show v3 = .bool true from (Option.some.inj e3).symm] at h3
          clear hE hO hN
          refine grd_met rfl rfl rfl h3 ?_
          go_simp
          refine (C3.out w2 hM).mono ?_
          rintro e w3 ⟨rfl, hb⟩
          exact hK _ _ rfl (hM.trans (hb.mono hM.size)) hb
        · intro T2 w2 hM hN hO hE K hK
          obtain ⟨v3, h3, e3⟩ := hE ⟨3, .guard⟩ (by simp) rfl _ _ rfl rfl
          rw [show v3 = .bool true from (Option.some.inj e3).symm] at h3
          have o7 : T2[7]? = some (.pointer (some ⟨gB, 0, none⟩)) := hO 7 rfl
          clear hE hO hN
          refine grd_met rfl rfl rfl h3 ?_
          refine wp_load_lit gB 0 _ _ _ (HgB.out w2 hM).heap VB (fun j _ => getElem?_zero_add _ j) _ Tryd.underlying27 (HgB.out w2 hM).info ⟨?_, rfl⟩ ?_
          · simp [Act.eval, o7]
          · exact hK _ _ rfl hM (Below.refl _ _)
        · intro T2 w2 hM hN hO hE K hK
          obtain ⟨v6, h6, e6⟩ := hE ⟨6, .data⟩ (by simp) rfl _ _ rfl rfl
          rw [show v6 = .agg VB.toArray from (Option.some.inj e6).symm] at h6
          obtain ⟨v3, h3, e3⟩ := hE ⟨3, .guard⟩ (by simp) rfl _ _ rfl rfl
          rw [show v3 = .bool true from (Option.some.inj e3).symm] at h3
          clear hE hO hN
          refine grd_met rfl rfl rfl h3 ?_
          go_simp
          refine (C4.out w2 hM).mono ?_
          rintro e w3 ⟨rfl, hb⟩
          exact hK _ _ rfl (hM.trans (hb.mono hM.size)) hb
        · intro T2 w2 hM hN hO hE K hK
          obtain ⟨v5, h5, e5⟩ := hE ⟨5, .data⟩ (by simp) rfl _ _ rfl rfl
          rw [show v5 = .string s from (Option.some.inj e5).symm] at h5
          obtain ⟨v7, h7, e7⟩ := hE ⟨7, .data⟩ (by simp) rfl _ _ rfl rfl
          rw [show v7 = .string s from (Option.some.inj e7).symm] at h7
          obtain ⟨v3, h3, e3⟩ := hE ⟨3, .guard⟩ (by simp) rfl _ _ rfl rfl
          rw [show v3 = .bool true from (Option.some.inj e3).symm] at h3
          clear hE hO hN
          refine grd_met rfl rfl rfl h3 ?_
          go_simp
          exact hK _ _ rfl hM (Below.refl _ _)
        · intro T2 w2 hM hN hO hE K hK
          obtain ⟨v3, h3, e3⟩ := hE ⟨3, .data⟩ (by simp) rfl _ _ rfl rfl
          rw [show v3 = .bool true from (Option.some.inj e3).symm] at h3
          obtain ⟨v8, h8, e8⟩ := hE ⟨8, .data⟩ (by simp) rfl _ _ rfl rfl
          rw [show v8 = .bool true from (Option.some.inj e8).symm] at h8
          clear hE hO hN
          refine step_plain0 rfl ?_
          go_simp
          exact hK _ _ rfl hM (Below.refl _ _)
        · intro T2 w2 hM hN hO hE K hK
          obtain ⟨v9, h9, e9⟩ := hE ⟨9, .data⟩ (by simp) rfl _ _ rfl rfl
          rw [show v9 = .bool true from (Option.some.inj e9).symm] at h9
          clear hE hO hN
          refine step_plain0 rfl ?_
          go_simp
          exact hK _ _ rfl hM (Below.refl _ _)
        · intro T2 w2 hM hN hO hE K hK
          obtain ⟨v10, h10, e10⟩ := hE ⟨10, .guard⟩ (by simp) rfl _ _ rfl rfl
          rw [show v10 = .bool true from (Option.some.inj e10).symm] at h10
          have o3 : T2[3]? = some (.pointer (some ⟨gA, 0, none⟩)) := hO 3 rfl
          clear hE hO hN
          refine grd_met rfl rfl rfl h10 ?_
          refine wp_load_lit gA 0 _ _ _ (HgA.out w2 hM).heap VA (fun j _ => getElem?_zero_add _ j) _ Tryd.underlying27 (HgA.out w2 hM).info ⟨?_, rfl⟩ ?_
          · simp [Act.eval, o3]
          · exact hK _ _ rfl hM (Below.refl _ _)
        · intro T2 w2 hM hN hO hE K hK
          obtain ⟨v11, h11, e11⟩ := hE ⟨11, .data⟩ (by simp) rfl _ _ rfl rfl
          rw [show v11 = .agg VA.toArray from (Option.some.inj e11).symm] at h11
          obtain ⟨v10, h10, e10⟩ := hE ⟨10, .guard⟩ (by simp) rfl _ _ rfl rfl
          rw [show v10 = .bool true from (Option.some.inj e10).symm] at h10
          clear hE hO hN
          refine grd_met rfl rfl rfl h10 ?_
          go_simp
          refine (C5.out w2 hM).mono ?_
          rintro e w3 ⟨rfl, hb⟩
          exact hK _ _ rfl (hM.trans (hb.mono hM.size)) hb
        · intro T2 w2 hM hN hO hE K hK
          obtain ⟨v10, h10, e10⟩ := hE ⟨10, .guard⟩ (by simp) rfl _ _ rfl rfl
          rw [show v10 = .bool true from (Option.some.inj e10).symm] at h10
          have o7 : T2[7]? = some (.pointer (some ⟨gB, 0, none⟩)) := hO 7 rfl
          clear hE hO hN
          refine grd_met rfl rfl rfl h10 ?_
          refine wp_load_lit gB 0 _ _ _ (HgB.out w2 hM).heap VB (fun j _ => getElem?_zero_add _ j) _ Tryd.underlying27 (HgB.out w2 hM).info ⟨?_, rfl⟩ ?_
          · simp [Act.eval, o7]
          · exact hK _ _ rfl hM (Below.refl _ _)
        · intro T2 w2 hM hN hO hE K hK
          obtain ⟨v13, h13, e13⟩ := hE ⟨13, .data⟩ (by simp) rfl _ _ rfl rfl
          rw [show v13 = .agg VB.toArray from (Option.some.inj e13).symm] at h13
          obtain ⟨v10, h10, e10⟩ := hE ⟨10, .guard⟩ (by simp) rfl _ _ rfl rfl
          rw [show v10 = .bool true from (Option.some.inj e10).symm] at h10
          clear hE hO hN
          refine grd_met rfl rfl rfl h10 ?_
          go_simp
          refine (C6.out w2 hM).mono ?_
          rintro e w3 ⟨rfl, hb⟩
          exact hK _ _ rfl (hM.trans (hb.mono hM.size)) hb
        · intro T2 w2 hM hN hO hE K hK
          obtain ⟨v12, h12, e12⟩ := hE ⟨12, .data⟩ (by simp) rfl _ _ rfl rfl
          rw [show v12 = .agg (u8s S).toArray from (Option.some.inj e12).symm] at h12
          obtain ⟨v14, h14, e14⟩ := hE ⟨14, .data⟩ (by simp) rfl _ _ rfl rfl
          rw [show v14 = .agg (u8s S).toArray from (Option.some.inj e14).symm] at h14
          obtain ⟨v10, h10, e10⟩ := hE ⟨10, .guard⟩ (by simp) rfl _ _ rfl rfl
          rw [show v10 = .bool true from (Option.some.inj e10).symm] at h10
          clear hE hO hN
          refine grd_met rfl rfl rfl h10 ?_
          have hq := heq w2
          rw [beq_self_eq_true] at hq
          go_simp
          exact hK _ _ rfl hM (Below.refl _ _)
        · intro T2 w2 hM hN hO hE K hK
          obtain ⟨v10, h10, e10⟩ := hE ⟨10, .data⟩ (by simp) rfl _ _ rfl rfl
          rw [show v10 = .bool true from (Option.some.inj e10).symm] at h10
          obtain ⟨v15, h15, e15⟩ := hE ⟨15, .data⟩ (by simp) rfl _ _ rfl rfl
          rw [show v15 = .bool true from (Option.some.inj e15).symm] at h15
          clear hE hO hN
          refine step_plain0 rfl ?_
          go_simp
          exact hK _ _ rfl hM (Below.refl _ _)
        · intro T2 w2 hM hN hO hE K hK
          obtain ⟨v16, h16, e16⟩ := hE ⟨16, .data⟩ (by simp) rfl _ _ rfl rfl
          rw [show v16 = .bool true from (Option.some.inj e16).symm] at h16
          clear hE hO hN
          refine step_plain0 rfl ?_
          go_simp
          exact hK _ _ rfl hM (Below.refl _ _)
        · intro T2 w2 hM hN hO hE K hK
          obtain ⟨v17, h17, e17⟩ := hE ⟨17, .guard⟩ (by simp) rfl _ _ rfl rfl
          rw [show v17 = .bool true from (Option.some.inj e17).symm] at h17
          clear hE hO hN
          refine grd_met rfl rfl rfl h17 ?_
          go_simp
          refine (CF.out w2 hM).mono ?_
          rintro e w3 ⟨rfl, hb⟩
          exact hK _ _ rfl (hM.trans (hb.mono hM.size)) hb
        · intro T2 w2 hM hN hO hE K hK
          obtain ⟨v17, h17, e17⟩ := hE ⟨17, .data⟩ (by simp) rfl _ _ rfl rfl
          rw [show v17 = .bool true from (Option.some.inj e17).symm] at h17
          obtain ⟨v18, h18, e18⟩ := hE ⟨18, .data⟩ (by simp) rfl _ _ rfl rfl
          rw [show v18 = .bool true from (Option.some.inj e18).symm] at h18
          clear hE hO hN
          refine step_plain0 rfl ?_
          go_simp
          exact hK _ _ rfl hM (Below.refl _ _)
      · intro u w2 hM hF
        have e19 : u 19 = .bool true := (Option.some.inj (hF 19 (by omega))).symm
        clear hF
        simp only [fillAll, Nat.reduceAdd, e19, List.take_succ_cons, List.take_zero, List.drop_succ_cons, List.drop_zero, List.setIfInBounds_toArray, List.set_cons_succ, List.set_cons_zero]
        go_wp2_with fail
        go_ret
        have b1 := HB0.out.trans (HB1.out.mono HB0.out.size)
        have b2 := b1.trans (HBX.out.mono b1.size)
        exact ⟨rfl, b2.trans (hM.mono b2.size)⟩
theorem keyturns_any (w : World) (last : ByteArray) (L : LayA) (a : ActK) (h : ActAt w L a) (pk nm : ByteArray) (hTab : Tabs w) :
    Calls Tryd.prog 6 #[.agg (actV L a), .agg #[.string pk, .string nm], .string last] w fun e w' => e = .returned (.bool true) ∧ Below w.heap.size w w' := by
  cases hg : greatL a with
  | true => exact keyturns_great w last L a h pk nm hTab hg
  | false =>
    by_cases hl : (100 : Int) < last.size
    · exact keyturns_long w last L a h pk nm hTab hg hl
    · cases hn : a.env with
      | nil => exact keyturns_nil w last L a h pk nm hTab hg hl hn
      | cons p r => exact keyturns_more w last L a h pk nm hTab hg hl p.1 p.2 r hn
end Go.Proofs.YtjmfmlkjippiaaaDoor
