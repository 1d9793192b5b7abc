/- The walk of the program's Order. -/
import Derived.Test.YtccilmnlepekeaaCyc19
namespace Go.Proofs.Ytccilmnlepekeaa
open Go.RowKit
/-- the first that may come of those ahead of j; -1 -/
def pickUp (G : List (List Int)) (th : List Bool) (j : Nat) : Int := match (List.range j).find? (mayG G th) with
  | some x => x
  | none => -1
theorem pickUp_next (G : List (List Int)) (th : List Bool) (j : Nat) : pickUp G th (j + 1) = if pickUp G th j < 0 then (if mayG G th j = true then (j : Int) else -1) else pickUp G th j := by
  unfold pickUp
  rw [List.range_succ, List.find?_append]
  cases h : (List.range j).find? (mayG G th) with
  | some x =>
    simp only [Option.some_or]
    rw [if_neg (by omega)]
  | none =>
    simp only [Option.none_or, List.find?_cons, List.find?_nil]
    rw [if_pos (by decide)]
    cases mayG G th j <;> rfl
theorem pickUp_all (G : List (List Int)) (th : List Bool) : pickUp G th G.length = match pickG G th with | some x => (x : Int) | none => -1 := rfl
theorem ready_any_row (G : List (List Int)) (th : List Bool) (i : Nat) : readyG G th i = !(castI (leans G i)).any fun x => !th.getD x.toNat false := by
  rw [readyG, leans, castI, List.any_map, List.any_filter, Bool.eq_iff_iff, Bool.not_eq_true', List.all_eq_true, List.any_eq_false]
  constructor
  · intro h x hx
    have := h x hx
    cases ha : adj G i x <;> cases hb : th.getD x false <;> simp [ha] at this ⊢ <;> simp_all
  · intro h x hx
    have := h x hx
    cases ha : adj G i x <;> cases hb : th.getD x false <;> simp_all
set_option maxRecDepth 100000 in
set_option maxHeartbeats 1000000 in
theorem notdone_any (W : World) (g5 gT N : Nat) (th : List Bool) (h5 : Box W g5 [.slice (some ⟨gT, 0, none⟩) N N]) (hT : W.heap[gT]? = some (.cells (boolV th).toArray 4 (0, 0))) (hl : th.length = N) (k : Nat) (hk : k < N) :
    Calls Try.prog 25 #[.int .i64 k, .pointer (some ⟨g5, 0, none⟩)] W fun e w' => e = .returned (.bool (!th.getD k false)) ∧ Below W.heap.size W w' := by
  have c5 : W.cell? ⟨g5, 0, none⟩ = some (.slice (some ⟨gT, 0, none⟩) N N) := h5.cells 0
  obtain ⟨x, hx⟩ : ∃ x, th[k]? = some x := ⟨_, List.getElem?_eq_getElem (by omega)⟩
  have ct : W.cell? ⟨gT, k, none⟩ = some (.bool x) := by
    rw [cell_of_row W gT k _ _ _ hT]
    simpa using boolV_get hx
  rw [List.getD_eq_getElem?_getD, hx]
  have hk0 : (0 : Int) ≤ k := by omega
  have hkN : (k : Int) < N := by omega
  clear hx hT h5 hl hk
  go_enter Try.func25, Try.ntmps25
  go_wp2_with fail
  go_ret
  exact ⟨rfl, Below.refl _ _⟩
set_option maxRecDepth 100000 in
set_option maxHeartbeats 1000000 in
theorem rdy_any (W : World) (g4 g5 gT : Nat) (AX : Option Addr) (cX : Nat) (G : List (List Int)) (hs : Small G) (th : List Bool) (h4 : Box W g4 [.slice AX G.length cX]) (h5 : Box W g5 [.slice (some ⟨gT, 0, none⟩) G.length G.length]) (hT : W.heap[gT]? = some (.cells (boolV th).toArray 4 (0, 0))) (hl : th.length = G.length) (hx : GRd W AX (ofG G)) (i : Nat) (hi : i < G.length) :
    Calls Try.prog 23 #[.int .i64 i, .pointer (some ⟨g5, 0, none⟩), .pointer (some ⟨g4, 0, none⟩)] W fun e w' => e = .returned (.bool (mayG G th i)) ∧ Below W.heap.size W w' := by
  have hn := hs.n
  have c5 : W.cell? ⟨g5, 0, none⟩ = some (.slice (some ⟨gT, 0, none⟩) G.length G.length) := h5.cells 0
  have c4 : W.cell? ⟨g4, 0, none⟩ = some (.slice AX G.length cX) := h4.cells 0
  obtain ⟨x, hx1⟩ : ∃ x, th[i]? = some x := ⟨_, List.getElem?_eq_getElem (by omega)⟩
  have ct : W.cell? ⟨gT, i, none⟩ = some (.bool x) := by
    rw [cell_of_row W gT i _ _ _ hT]
    simpa using boolV_get hx1
  have hm : mayG G th i = (!x && !(castI (leans G i)).any fun x => !th.getD x.toNat false) := by
    rw [mayG, ready_any_row, List.getD_eq_getElem?_getD, hx1]
    rfl
  obtain ⟨ax, ox, B, cB, rfl, c1, hB⟩ := hx.row (ofG_get hi)
  have hll := leans_length G i
  have hmem : ∀ y ∈ castI (leans G i), ∃ j : Nat, y = j ∧ j < G.length := fun y hy => by
    rw [castI, List.mem_map] at hy
    obtain ⟨j, h1, rfl⟩ := hy
    exact ⟨j, rfl, (adj_in.1 h1).1⟩
  have hc := contains_any W B cB (castI (leans G i)) hB (by rw [castI_length]; omega) 25 #[.pointer (some ⟨g5, 0, none⟩)] (enters_of Try.func25 (by kernel_rfl) rfl) (fun x => !th.getD x.toNat false) (fun W2 hW2 y hy => by
    obtain ⟨j, rfl, hj⟩ := hmem y hy
    exact notdone_any W2 g5 gT G.length th (h5.below_all hW2) ((hW2.block gT (heap_lt hT)).trans hT) hl j hj)
  obtain ⟨av, hav⟩ : ∃ av, av = (castI (leans G i)).any fun x => !th.getD x.toNat false := ⟨_, rfl⟩
  rw [← hav] at hm hc
  obtain ⟨RL, hRL⟩ : ∃ RL, RL = (castI (leans G i)).length := ⟨_, rfl⟩
  rw [← hRL] at hc c1
  obtain ⟨N, hN⟩ : ∃ N, N = G.length := ⟨_, rfl⟩
  rw [← hN] at hn hi c5 c4
  have HC := hid2 hc
  have HM := hid2 hm
  have hi0 : (0 : Int) ≤ i := by omega
  have hiN : (i : Int) < N := by omega
  clear hc hm hmem hll hB hx1 hx hT h5 h4 hl hs hav hRL hN hi
  rw [HM.out]
  cases x with
  | true =>
    go_enter Try.func23, Try.ntmps23
    go_wp2_with fail
    go_ret
    exact ⟨rfl, Below.refl _ _⟩
  | false =>
    go_enter Try.func23, Try.ntmps23
    go_wp2_with (first | (go_at_call 24; refine HC.out.mono ?_; rintro e w2 ⟨rfl, hb2⟩; have HB2 := hid2 hb2; clear hb2))
    go_ret
    exact ⟨by cases av <;> rfl, HB2.out⟩
/-- between two rounds of the program's Order -/
structure OqR (w1 : World) (AX : Option Addr) (N : Nat) (out : List Nat) (th : List Bool) (A2 : Option Addr) (c2 : Nat) (wr : World) : Prop where
  b4 : Box wr w1.heap.size [.slice AX N N]
  bT : wr.heap[w1.heap.size + 1]? = some (.cells (boolV th).toArray 4 (0, 0))
  b5 : Box wr (w1.heap.size + 1 + 1) [.slice (some ⟨w1.heap.size + 1, 0, none⟩) N N]
  own : Own wr w1.heap.size 3 1 A2 out.length c2 (natV out)
  low : Below w1.heap.size w1 wr
  n4 : blockOf A2 ≠ some w1.heap.size
  nT : blockOf A2 ≠ some (w1.heap.size + 1)
  n5 : blockOf A2 ≠ some (w1.heap.size + 1 + 1)
theorem OqR.below {w1 : World} {AX : Option Addr} {N : Nat} {out : List Nat} {th : List Bool} {A2 : Option Addr} {c2 : Nat} {wr wr' : World} (h : OqR w1 AX N out th A2 c2 wr) (hb : Below wr.heap.size wr wr') : OqR w1 AX N out th A2 c2 wr' :=
  ⟨h.b4.below_all hb, (hb.block _ (heap_lt h.bT)).trans h.bT, h.b5.below_all hb, h.own.below hb (Nat.le_refl _), h.low.trans (hb.mono h.low.size), h.n4, h.nT, h.n5⟩
set_option maxRecDepth 100000 in
set_option maxHeartbeats 4000000 in
theorem corder_any (w : World) (A : Option Addr) (c : Nat) (G : List (List Int)) (hg : GRd w A G) (hs : Small G) :
    Calls Try.prog 10 #[.slice A G.length c] w fun e w' => OrdPost w G e w' := by
  have hn := hs.n
  have cO := of_any w A c G hg hs
  have hmb := fun W => made_bool W G.length (by omega)
  have hP1 := pickUp_next G
  have hPA := pickUp_all G
  have hO0 : ordS G 0 = some ([], List.replicate G.length false) := rfl
  have hOS := fun (k : Nat) (out : List Nat) (th : List Bool) (h : ordS G k = some (out, th)) => ordS_some h
  have hOE : ∀ (out : List Nat) (th : List Bool), ordS G G.length = some (out, th) → ordG G = some out := fun out th h => by rw [ordG, h]; rfl
  have hON : ∀ k : Nat, k < G.length → ordS G (k + 1) = none → ordG G = none := fun k hk h => by
    have := ordS_none h (G.length - (k + 1))
    rw [show k + 1 + (G.length - (k + 1)) = G.length by omega] at this
    rw [ordG, this]
    rfl
  have hPL : ∀ (th : List Bool) (x : Nat), pickG G th = some x → x < G.length := fun th x h => pickG_lt h
  have hR := fun (W : World) (g4 g5 gT : Nat) (AX : Option Addr) (th : List Bool) (h4 : Box W g4 [.slice AX G.length G.length]) (h5 : Box W g5 [.slice (some ⟨gT, 0, none⟩) G.length G.length]) (hT : W.heap[gT]? = some (.cells (boolV th).toArray 4 (0, 0))) (hl : th.length = G.length) (hx : GRd W AX (ofG G)) (i : Nat) (hi : i < G.length) => rdy_any W g4 g5 gT AX G.length G hs th h4 h5 hT hl hx i hi
  unfold OfPost at cO
  obtain ⟨N, hN⟩ : ∃ N, N = G.length := ⟨_, rfl⟩
  rw [← hN] at hn cO hmb hPA hO0 hOS hOE hON hPL hR ⊢
  have HCO := hid2 cO
  have HMB := hid2 hmb
  have HP1 := hid2 hP1
  have HPA := hid2 hPA
  have HO0 := hid2 hO0
  have HOS := hid2 hOS
  have HOE := hid2 hOE
  have HON := hid2 hON
  have HPL := hid2 hPL
  have HR := hid2 hR
  clear hg hs cO hmb hP1 hPA hO0 hOS hOE hON hPL hR hN
  go_enter Try.func10, Try.ntmps10
  go_wp2_with (first
    | (go_at_call 22; refine HCO.out.mono ?_; rintro e w1 ⟨AX, rfl, hgx, hb1⟩; have HGX := hid2 (hgx.grd (W := w1) (fun _ _ _ => rfl)); have HB1 := hid2 hb1; clear hgx hb1)
    | ((with_reducible refine wpList_made (HMB.out _) ?_ ?_); exact ⟨rfl, rfl⟩))
  obtain ⟨W4, hW4⟩ : ∃ W4, W4 = ((w1.alloc (.cells #[.slice AX N N] 38)).alloc (.cells (boolV (List.replicate N false)).toArray 4)).alloc (.cells #[.slice (some ⟨w1.heap.size + 1, 0, none⟩) N N] 34) := ⟨_, rfl⟩
  have hoq : OqR w1 AX N [] (List.replicate N false) none 0 W4 := by
    have e1 : (w1.alloc (.cells #[.slice AX N N] 38)).heap.size = w1.heap.size + 1 := by simp
    have h1 := heap_alloc_new (w1.alloc (.cells #[.slice AX N N] 38)) (.cells (boolV (List.replicate N false)).toArray 4)
    rw [e1] at h1
    refine ⟨?_, ?_, ?_, Own.nil _ _ _ _, ?_, (fun e => by cases e), (fun e => by cases e), (fun e => by cases e)⟩
    · rw [hW4]; exact ((Box.new w1 [.slice AX N N] _).alloc _).alloc _
    · rw [hW4, Below.heap_alloc _ _ _ (by simp)]; exact h1
    · rw [hW4]; exact Box.new' _ [.slice (some ⟨w1.heap.size + 1, 0, none⟩) N N] _ (by simp)
    · rw [hW4]; exact (((Below.refl _ w1).alloc (Nat.le_refl _) _).alloc (by simp) _).alloc (by simp; omega) _
  have HOQ := hid2 hoq
  have HW4 := hid2 hW4
  rw [← HW4.out]
  clear hoq hW4
  go_loopg [7, 8, 9, 18] N (fun gk ov x8 x9 kv wr => ∃ (k : Nat) (A2 : Option Addr) (c2 : Nat) (out : List Nat) (th : List Bool), k + gk = N ∧ kv = .int .i64 k ∧ ov = .slice A2 k c2 ∧ ordS G k = some (out, th) ∧ OqR w1 AX N out th A2 c2 wr)
  case atStart => exact ⟨0, none, 0, [], _, by omega, rfl, rfl, HO0.out, HOQ.out⟩
  case round =>
    clear HOQ HW4
    obtain ⟨k, A2, c2, out, th, hk, rfl, rfl, ho, hoq⟩ := hrel
    obtain ⟨hol, htl⟩ := HOS.out k out th ho
    have HO := hid2 ho
    have HOQ := hid2 hoq
    have HOL := hid2 hol
    have HTL := hid2 htl
    have c4 : wr.cell? ⟨w1.heap.size, 0, none⟩ = some (.slice AX N N) := hoq.b4.cells 0
    clear ho hoq hol htl
    by_cases hlt : k < N
    · have hlt' : (k : Int) < N := by omega
      obtain ⟨g0, hg0⟩ : ∃ g0, g0 = gk := ⟨_, rfl⟩
      have HLT := hid2 hlt
      clear hlt
      go_wp2_with fail
      go_loopg [8, 9, 22] N (fun gj nv x9 jv wr2 => ∃ (j : Nat) (v : Int), j + gj = N ∧ jv = .int .i64 j ∧ nv = .int .i64 v ∧ v = pickUp G th j ∧ Below wr.heap.size wr wr2)
      case atStart => exact ⟨0, -1, by omega, rfl, rfl, rfl, Below.refl _ _⟩
      case round =>
        clear c4
        obtain ⟨j, v, hj, rfl, rfl, hv, hlow⟩ := hrel
        have HV := hid2 hv
        have HQ := hid2 (HOQ.out.below hlow)
        have HLOW := hid2 hlow
        clear hv hlow
        by_cases hjN : j < N
        · have hjN' : (j : Int) < N := by omega
          have hnx := HP1.out th j
          rw [← HV.out] at hnx
          by_cases hv0 : v < 0
          · have hc := HR.out wr w1.heap.size (w1.heap.size + 1 + 1) (w1.heap.size + 1) AX th HQ.out.b4 HQ.out.b5 HQ.out.bT HTL.out (HGX.out.below HQ.out.low) j hjN
            obtain ⟨mv, hmv⟩ : ∃ mv, mv = mayG G th j := ⟨_, rfl⟩
            rw [← hmv] at hc hnx
            rw [if_pos hv0] at hnx
            have HC := hid2 hc
            have HNX := hid2 hnx
            clear hc hnx hmv hjN
            cases mv with
            | true =>
              go_wp2_with (first | (go_at_call 23; refine HC.out.mono ?_; rintro e w2 ⟨rfl, hb2⟩; have HB2 := hid2 hb2; clear hb2))
              go_roundg (gk - 1)
              case rel => exact ⟨j + 1, j, by omega, by go_num, rfl, by rw [HNX.out]; rfl, HLOW.out.trans (HB2.out.mono HLOW.out.size)⟩
              case measure => omega
            | false =>
              go_wp2_with (first | (go_at_call 23; refine HC.out.mono ?_; rintro e w2 ⟨rfl, hb2⟩; have HB2 := hid2 hb2; clear hb2))
              go_roundg (gk - 1)
              case rel => exact ⟨j + 1, v, by omega, by go_num, rfl, by
                rw [HNX.out, HV.out, pickUp]
                have h1 := HV.out
                rw [pickUp] at h1
                cases hf : (List.range j).find? (mayG G th) with
                | some x =>
                  rw [hf] at h1
                  simp only at h1
                  omega
                | none => rfl, HLOW.out.trans (HB2.out.mono HLOW.out.size)⟩
              case measure => omega
          · have HNX := hid2 (show pickUp G th (j + 1) = v from by rw [hnx, if_neg hv0])
            clear hnx hjN
            go_wp2_with fail
            go_roundg (gk - 1)
            case rel => exact ⟨j + 1, v, by omega, by go_num, rfl, HNX.out.symm, HLOW.out⟩
            case measure => omega
        · have hjz : j = N := by omega
          have hjN' : ¬ (j : Int) < N := by omega
          have hvp := HV.out
          rw [hjz, HPA.out] at hvp
          have hstep : ordS G (k + 1) = match pickG G th with | none => none | some i => some (out ++ [i], th.set i true) := by
            rw [ordS, HO.out]
            rfl
          clear hjN hjz
          cases hp : pickG G th with
          | none =>
            rw [hp] at hvp hstep
            obtain rfl : v = -1 := hvp
            have HN := hid2 (HON.out k HLT.out hstep)
            clear hstep hp
            go_wp2_with fail
            go_ret2
            exact .inr ⟨HN.out, rfl, HB1.out.trans (HQ.out.low.mono HB1.out.size)⟩
          | some x =>
            rw [hp] at hvp hstep
            obtain rfl : v = (x : Int) := hvp
            have hxN := HPL.out th x hp
            have hx0 : (0 : Int) ≤ x := by omega
            have hxN' : (x : Int) < N := by omega
            have HSTEP := hid2 hstep
            have c5 : wr.cell? ⟨w1.heap.size + 1 + 1, 0, none⟩ = some (.slice (some ⟨w1.heap.size + 1, 0, none⟩) N N) := HQ.out.b5.cells 0
            have ct : ∃ u, wr.cell? ⟨w1.heap.size + 1, x, none⟩ = some u := by
              rw [cell_of_row wr _ x _ _ _ HQ.out.bT]
              exact ⟨_, by simpa using boolV_get (List.getElem?_eq_getElem (by rw [HTL.out]; exact hxN))⟩
            obtain ⟨u, cu⟩ := ct
            have fz : wr.frozen? ⟨w1.heap.size + 1, x, none⟩ = false := frozen_of_row wr _ x _ _ HQ.out.bT
            have hown := (HQ.out.own.setOther (p := ⟨w1.heap.size + 1, x, none⟩) HQ.out.nT (.bool true)).alloc (.cells #[.int .i64 x] 3)
            rw [HOL.out] at hown
            obtain ⟨V, hV⟩ : ∃ V, V = natV out := ⟨_, rfl⟩
            rw [← hV] at hown
            have hrd := Rd.of_lit (wr.setCell ⟨w1.heap.size + 1, x, none⟩ (.bool true)) #[.int .i64 (x : Int)] 3 1 1 (by decide) rfl
            rw [World.size_setCell] at hrd
            have hone : ∀ v ∈ [Value.int .i64 (x : Int)], v.oneCell' = true := by simp [Value.oneCell']
            have hlow := HQ.out.low.size
            have hgtl := HQ.out.b5.lt
            have HV2 := hid2 hV
            have HOWN := hid2 hown
            have HRD := hid2 hrd
            have HGTL := hid2 hgtl
            have HLW := hid2 hlow
            clear hstep hp hown hrd hV hgtl
            go_wp2_with (first
              | (at_builtin; go_must ((with_reducible refine wpList_append_lit 3 (.int .i64 0) 1 8 Try.underlying25 info_int1 rfl w1.heap.size A2 k c2 V HOWN.out 1 _ (.slice (some ⟨wr.heap.size, 0, none⟩) 1 1) (Src.slice Try.underlying25 HRD.out) hone ?_ ?_ ?_ ?_ ?_); (unfold maxLen; omega); omega; (simp; omega); exact ⟨rfl, rfl⟩; intro A3 c3 w3 hown3 hgr3 hbl3; have HO3 := hid2 hown3; have HG3 := hid2 hgr3; have HBL := hid2 hbl3; clear hown3 hgr3 hbl3)))
            go_roundg (g0 - 1)
            case rel =>
              refine ⟨k + 1, A3, c3, _, _, by omega, by go_num, rfl, HSTEP.out, ?_⟩
              have hsz : ((wr.setCell ⟨w1.heap.size + 1, x, none⟩ (.bool true)).alloc (.cells #[.int .i64 (x : Int)] 3)).heap.size = wr.heap.size + 1 := by simp
              have hlt5 := HGTL.out
              have hne : ∀ g, g < wr.heap.size → blockOf A2 ≠ some g → blockOf A3 ≠ some g := fun g hg h e => by
                rcases HBL.out with e2 | e2
                · exact h (e2 ▸ e)
                · rw [e2, hsz] at e
                  have := Option.some.inj e
                  omega
              refine ⟨?_, ?_, ?_, ?_, ?_, hne _ (by omega) HQ.out.n4, hne _ (by omega) HQ.out.nT, hne _ (by omega) HQ.out.n5⟩
              · exact ((HQ.out.b4.other (p := ⟨w1.heap.size + 1, x, none⟩) (by simp) _).alloc _).grown HG3.out (fun e => HQ.out.n4 e.symm)
              · have hb5 : ((wr.setCell ⟨w1.heap.size + 1, x, none⟩ (.bool true)).alloc (.cells #[.int .i64 (x : Int)] 3)).heap[w1.heap.size + 1]? = some (.cells (boolV (th.set x true)).toArray 4 (0, 0)) := by
                  rw [Below.heap_alloc _ _ _ (by rw [World.size_setCell]; omega), ← boolV_set]
                  exact row_setCell1 HQ.out.bT x (.bool true)
                exact (HG3.out.block _ (by rw [hsz]; omega) (fun e => HQ.out.nT e.symm)).trans hb5
              · exact ((HQ.out.b5.other (p := ⟨w1.heap.size + 1, x, none⟩) (by simp) _).alloc _).grown HG3.out (fun e => HQ.out.n5 e.symm)
              · rw [List.length_append, HOL.out, natV_snoc, ← HV2.out]
                exact HO3.out
              · exact ((HQ.out.low.setCell (show w1.heap.size ≤ w1.heap.size + 1 by omega) _).alloc (by rw [World.size_setCell]; exact HLW.out) _).grown HG3.out (by rw [hsz]; have := HLW.out; omega) (fun b e => by have := (HQ.out.own.block b e).1; omega)
            case measure => omega
    · have hkN : k = N := by omega
      have hlt' : ¬ (k : Int) < N := by omega
      have HOO := hid2 (HOE.out out th (by have := HO.out; rwa [hkN] at this))
      clear hkN hlt
      go_wp2_with fail
      go_ret2
      refine .inl ⟨out, A2, c2, HOO.out, ?_, HOQ.out.own.mono HB1.out.size, HB1.out.trans (HOQ.out.low.mono HB1.out.size)⟩
      rw [HOL.out]
      rfl
end Go.Proofs.Ytccilmnlepekeaa
