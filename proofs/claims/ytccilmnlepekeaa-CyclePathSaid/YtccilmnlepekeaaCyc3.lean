/- The reference's Order. -/
import Derived.Test.YtccilmnlepekeaaCyc2
import Derived.Test.YtccilmnlepekeaaMemZ
namespace Go.Proofs.Ytccilmnlepekeaa
open Go.RowKit
/-- the least node from j on that may come; -1 -/
def pickFrom (G : List (List Int)) (th : List Bool) (j : Nat) : Int := match ((List.range G.length).drop j).find? (mayG G th) with
  | some x => x
  | none => -1
theorem pickFrom_end (G : List (List Int)) (th : List Bool) : pickFrom G th G.length = -1 := by
  unfold pickFrom
  rw [List.drop_of_length_le (by simp)]
  rfl
theorem pickFrom_step {G : List (List Int)} {q : Nat} (th : List Bool) (h : q < G.length) : pickFrom G th q = if mayG G th q = true then (q : Int) else pickFrom G th (q + 1) := by
  unfold pickFrom
  rw [List.drop_eq_getElem_cons (by simpa using h), List.find?_cons, List.getElem_range]
  cases mayG G th q <;> rfl
theorem pickFrom_zero (G : List (List Int)) (th : List Bool) : pickFrom G th 0 = match pickG G th with | some x => (x : Int) | none => -1 := rfl
theorem pickG_lt {G : List (List Int)} {th : List Bool} {x : Nat} (h : pickG G th = some x) : x < G.length := by
  have := List.mem_of_find?_eq_some h
  simpa using this
/-- between two rounds of an Order -/
structure OrR (w : World) (gT : Nat) (out : List Nat) (th : List Bool) (A2 : Option Addr) (c2 : Nat) (wr : World) : Prop where
  own : Own wr w.heap.size 3 1 A2 out.length c2 (natV out)
  box : wr.heap[gT]? = some (.cells (boolV th).toArray 4 (0, 0))
  low : Below w.heap.size w wr
  gt : w.heap.size ≤ gT
theorem OrR.ne {w : World} {gT : Nat} {out : List Nat} {th : List Bool} {A2 : Option Addr} {c2 : Nat} {wr : World} (h : OrR w gT out th A2 c2 wr) : blockOf A2 ≠ some gT := h.own.ne h.box (by decide)
/-- what an Order answers -/
def OrdPost (w : World) (G : List (List Int)) (e : Ending) (w' : World) : Prop :=
  (∃ l A' c', ordG G = some l ∧ e = .returned (.tuple #[.slice A' l.length c', .bool true]) ∧ Own w' w.heap.size 3 1 A' l.length c' (natV l) ∧ Below w.heap.size w w') ∨
  (ordG G = none ∧ e = .returned (.tuple #[.slice none 0 0, .bool false]) ∧ Below w.heap.size w w')
theorem row_setCell1 {w : World} {g : Nat} {cs : List Value} {t : TypeId} (h : w.heap[g]? = some (.cells cs.toArray t (0, 0))) (i : Nat) (v : Value) : (w.setCell ⟨g, i, none⟩ v).heap[g]? = some (.cells (cs.set i v).toArray t (0, 0)) := by
  rw [setCell_eq_setRow w g i _ t _ _ h, setRow_heap w g _ _ t _ h]
  simp
theorem boolV_set (th : List Bool) (i : Nat) : (boolV th).set i (.bool true) = boolV (th.set i true) := by simp [boolV, List.map_set]
set_option maxRecDepth 100000 in
set_option maxHeartbeats 2000000 in
theorem reforder18_any (w : World) (A : Option Addr) (c : Nat) (G : List (List Int)) (hg : GRd w A G) (hs : Small G) :
    Calls Try.prog 11 #[.slice A G.length c] w fun e w' => OrdPost w G e w' := by
  have hn := hs.n
  have cR : ∀ W, Below w.heap.size w W → ∀ (i : Nat), i < G.length → ∀ (T : Option Addr) (ct : Nat) (th : List Bool), Rd W 1 T G.length (boolV th) → Calls Try.prog 26 #[.slice A G.length c, .int .i64 i, .slice T G.length ct] W fun e w' => e = .returned (.bool (readyG G th i)) ∧ w' = W := fun W hW i hi T ct th ht => ready_any W A c G (hg.below hW) hs i hi T ct th ht
  have hmb := fun W => made_bool W G.length (by omega)
  have hP0 := pickFrom_end G
  have hP1 := fun (th : List Bool) (q : Nat) (h : q < G.length) => pickFrom_step th h
  have hO0 : ordS G 0 = some ([], List.replicate G.length false) := rfl
  have hOS := fun (k : Nat) (out : List Nat) (th : List Bool) (h : ordS G k = some (out, th)) => ordS_some h
  have hOE : ∀ (out : List Nat) (th : List Bool), ordS G G.length = some (out, th) → ordG G = some out := fun out th h => by rw [ordG, h]; rfl
  have hON : ∀ k : Nat, k < G.length → ordS G (k + 1) = none → ordG G = none := fun k hk h => by
    have := ordS_none h (G.length - (k + 1))
    rw [show k + 1 + (G.length - (k + 1)) = G.length by omega] at this
    rw [ordG, this]
    rfl
  have hPL : ∀ (th : List Bool) (x : Nat), pickG G th = some x → x < G.length := fun th x h => pickG_lt h
  obtain ⟨N, hN⟩ : ∃ N, N = G.length := ⟨_, rfl⟩
  rw [← hN] at hn cR hmb hP0 hP1 hO0 hOS hOE hON hPL ⊢
  have HCR := hid2 cR
  have HMB := hid2 hmb
  have HP0 := hid2 hP0
  have HP1 := hid2 hP1
  have HO0 := hid2 hO0
  have HOS := hid2 hOS
  have HOE := hid2 hOE
  have HON := hid2 hON
  have HPL := hid2 hPL
  obtain ⟨W1, hW1⟩ : ∃ W1, W1 = w.alloc (.cells #[] 3) := ⟨_, rfl⟩
  obtain ⟨gT, hgT⟩ : ∃ g, g = W1.heap.size := ⟨_, rfl⟩
  obtain ⟨W2, hW2⟩ : ∃ W2, W2 = W1.alloc (.cells (boolV (List.replicate N false)).toArray 4) := ⟨_, rfl⟩
  have hs1 : W1.heap.size = w.heap.size + 1 := by rw [hW1]; simp
  have hor0 : OrR w gT [] (List.replicate N false) (some ⟨w.heap.size, 0, none⟩) 0 W2 := by
    have h1 : Own W1 w.heap.size 3 1 (some ⟨w.heap.size, 0, none⟩) 0 0 [] := by rw [hW1]; exact own_empty w _ _ _ (Nat.le_refl _) rfl
    refine ⟨?_, ?_, ?_, by omega⟩
    · rw [hW2]; exact h1.alloc _
    · rw [hW2, hgT]; exact heap_alloc_new W1 _
    · rw [hW2, hW1]; exact ((Below.refl _ w).alloc (Nat.le_refl _) _).alloc (by simp) _
  have hwN : IntKind.i64.wrap ((N : Int) - 1) = (N : Int) - 1 := IntWalk.i64_in _ (by constructor <;> omega)
  have HOR0 := hid2 hor0
  have HW1 := hid2 hW1
  have HW2 := hid2 hW2
  have HGT := hid2 hgT
  clear hg hs cR hmb hP0 hP1 hO0 hOS hOE hON hPL hN hor0 hW1 hW2 hgT hs1
  go_enter Try.func11, Try.ntmps11
  go_wp2_with (first
    | (rw [← HW1.out]; (with_reducible refine wpList_made (HMB.out W1) ?_ ?_); exact ⟨rfl, rfl⟩; rw [← HW2.out, ← HGT.out]))
  go_loopg [4, 6, 7] N (fun gk ov x6 x7 wr => ∃ (k : Nat) (A2 : Option Addr) (c2 : Nat) (out : List Nat) (th : List Bool), k + gk = N ∧ ov = .slice A2 k c2 ∧ ordS G k = some (out, th) ∧ OrR w gT out th A2 c2 wr)
  case atStart => exact ⟨0, _, _, [], _, by omega, rfl, HO0.out, HOR0.out⟩
  case round =>
    obtain ⟨k, A2, c2, out, th, hk, rfl, ho, hor⟩ := hrel
    obtain ⟨hol, htl⟩ := HOS.out k out th ho
    have HO := hid2 ho
    have HOR := hid2 hor
    have HOL := hid2 hol
    have HTL := hid2 htl
    clear ho hor hol htl
    by_cases hlt : k < N
    · have hlt' : (k : Int) < N := by omega
      obtain ⟨g0, hg0⟩ : ∃ g0, g0 = gk := ⟨_, rfl⟩
      have HLT := hid2 hlt
      clear hlt
      go_wp2_with fail
      go_loopg [6, 7] N (fun gj nx ix wr2 => ∃ (j : Nat) (v iv : Int), gj = j ∧ j ≤ N ∧ nx = .int .i64 v ∧ ix = .int .i64 iv ∧ iv = (j : Int) - 1 ∧ v = pickFrom G th j ∧ wr2 = wr)
      case atStart => exact ⟨N, -1, _, rfl, Nat.le_refl _, rfl, rfl, rfl, (HP0.out th).symm, rfl⟩
      case round =>
        obtain ⟨j, v, iv, hj, hjN, rfl, rfl, hiv, hv, rfl⟩ := hrel
        have HV := hid2 hv
        clear hv
        by_cases hj0 : 0 < j
        · obtain ⟨q, hq⟩ : ∃ q : Nat, q + 1 = j := ⟨j - 1, by omega⟩
          obtain rfl : iv = (q : Int) := by omega
          have hq0 : (0 : Int) ≤ q := by omega
          have hqN : q < N := by omega
          have hqN' : (q : Int) < N := by omega
          have hwq : IntKind.i64.wrap ((q : Int) - 1) = (q : Int) - 1 := IntWalk.i64_in _ (by constructor <;> omega)
          obtain ⟨t, ht⟩ : ∃ t, th[q]? = some t := ⟨_, List.getElem?_eq_getElem (by rw [HTL.out]; exact hqN)⟩
          have hrd : Rd wr 1 (some ⟨gT, 0, none⟩) N (boolV th) := Box.rd ⟨_, HOR.out.box⟩ (by rw [boolV, List.length_map, HTL.out])
          have ct : wr.cell? ⟨gT, q, none⟩ = some (.bool t) := by
            rw [cell_of_row wr gT q _ _ _ HOR.out.box]
            simpa using boolV_get ht
          have hC := HCR.out wr HOR.out.low q hqN (some ⟨gT, 0, none⟩) N th hrd
          obtain ⟨rv, hrv⟩ : ∃ rv, rv = readyG G th q := ⟨_, rfl⟩
          rw [← hrv] at hC
          have hmay : mayG G th q = (!t && rv) := by rw [mayG, List.getD_eq_getElem?_getD, ht, ← hrv]; rfl
          have hst := HP1.out th q hqN
          rw [hmay, hq, ← HV.out] at hst
          have HC := hid2 hC
          have HST := hid2 hst
          clear ht hrd hC hrv hmay hst hiv hj0
          cases t with
          | true =>
            go_wp2_with fail
            go_roundg (gk - 1)
            case rel => exact ⟨q, v, (q : Int) - 1, by omega, by omega, rfl, by first | rfl | go_num, rfl, by rw [HST.out]; rfl, rfl⟩
            case measure => omega
          | false =>
            cases rv with
            | true =>
              go_wp2_with (first | (go_at_call 26; refine HC.out.mono ?_; rintro e w2 ⟨rfl, rfl⟩))
              go_roundg (gk - 1)
              case rel => exact ⟨q, q, (q : Int) - 1, by omega, by omega, rfl, by first | rfl | go_num, rfl, by rw [HST.out]; rfl, rfl⟩
              case measure => omega
            | false =>
              go_wp2_with (first | (go_at_call 26; refine HC.out.mono ?_; rintro e w2 ⟨rfl, rfl⟩))
              go_roundg (gk - 1)
              case rel => exact ⟨q, v, (q : Int) - 1, by omega, by omega, rfl, by first | rfl | go_num, rfl, by rw [HST.out]; rfl, rfl⟩
              case measure => omega
        · have hjz : j = 0 := by omega
          obtain rfl : iv = -1 := by omega
          have hvp := HV.out
          rw [hjz, pickFrom_zero] at hvp
          have hstep : ordS G (k + 1) = match pickG G th with | none => none | some i => some (out ++ [i], th.set i true) := by
            rw [ordS, HO.out]
            rfl
          clear hiv hj0 hjz hj hjN
          cases hp : pickG G th with
          | none =>
            rw [hp] at hvp hstep
            obtain rfl : v = -1 := hvp
            have HN := hid2 (HON.out k HLT.out hstep)
            clear hstep hp
            go_wp2_with fail
            go_ret2
            exact .inr ⟨HN.out, rfl, HOR.out.low⟩
          | some x =>
            rw [hp] at hvp hstep
            obtain rfl : v = (x : Int) := hvp
            have hxN := HPL.out th x hp
            have hx0 : (0 : Int) ≤ x := by omega
            have hxN' : (x : Int) < N := by omega
            have HSTEP := hid2 hstep
            have ct : ∃ u, wr.cell? ⟨gT, x, none⟩ = some u := by
              rw [cell_of_row wr gT x _ _ _ HOR.out.box]
              exact ⟨_, by simpa using boolV_get (List.getElem?_eq_getElem (by rw [HTL.out]; exact hxN))⟩
            obtain ⟨u, cu⟩ := ct
            have fz : wr.frozen? ⟨gT, x, none⟩ = false := frozen_of_row wr gT x _ _ HOR.out.box
            have hown := (HOR.out.own.setOther (p := ⟨gT, x, none⟩) HOR.out.ne (.bool true)).alloc (.cells #[.int .i64 x] 3)
            rw [HOL.out] at hown
            obtain ⟨V, hV⟩ : ∃ V, V = natV out := ⟨_, rfl⟩
            rw [← hV] at hown
            have hrd := Rd.of_lit (wr.setCell ⟨gT, x, none⟩ (.bool true)) #[.int .i64 (x : Int)] 3 1 1 (by decide) rfl
            rw [World.size_setCell] at hrd
            have hone : ∀ v ∈ [Value.int .i64 (x : Int)], v.oneCell' = true := by simp [Value.oneCell']
            have hlow := HOR.out.low.size
            have hgtl := heap_lt HOR.out.box
            have HV2 := hid2 hV
            have HOWN := hid2 hown
            have HRD := hid2 hrd
            have HGTL := hid2 hgtl
            clear hstep hp hown hrd hV hgtl
            go_wp2_with (first
              | (at_builtin; go_must ((with_reducible refine wpList_append_lit 3 (.int .i64 0) 1 8 Try.underlying25 info_int1 rfl w.heap.size A2 k c2 V HOWN.out 1 _ (.slice (some ⟨wr.heap.size, 0, none⟩) 1 1) (Src.slice Try.underlying25 HRD.out) hone ?_ ?_ ?_ ?_ ?_); (unfold maxLen; omega); omega; (simp; omega); exact ⟨rfl, rfl⟩; intro A3 c3 w3 hown3 hgr3 hbl3)))
            go_roundg (g0 - 1)
            case rel =>
              refine ⟨k + 1, A3, c3, _, _, by omega, rfl, HSTEP.out, ⟨?_, ?_, ?_, HOR.out.gt⟩⟩
              · rw [List.length_append, HOL.out, natV_snoc, ← HV2.out]
                exact hown3
              · have hb5 : ((wr.setCell ⟨gT, x, none⟩ (.bool true)).alloc (.cells #[.int .i64 (x : Int)] 3)).heap[gT]? = some (.cells (boolV (th.set x true)).toArray 4 (0, 0)) := by
                  rw [Below.heap_alloc _ _ _ (by rw [World.size_setCell]; exact HGTL.out), ← boolV_set]
                  exact row_setCell1 HOR.out.box x (.bool true)
                exact (hgr3.block gT (by simp; have := HGTL.out; omega) (fun e => HOR.out.ne e.symm)).trans hb5
              · exact ((HOR.out.low.setCell (show w.heap.size ≤ gT from HOR.out.gt) _).alloc (by rw [World.size_setCell]; exact hlow) _).grown hgr3 (by simp; omega) (fun b e => by have := (HOR.out.own.block b e).1; omega)
            case measure => omega
    · have hkN : k = N := by omega
      have hlt' : ¬ (k : Int) < N := by omega
      have HOO := hid2 (HOE.out out th (by have := HO.out; rwa [hkN] at this))
      clear hkN hlt
      go_wp2_with fail
      go_ret2
      refine .inl ⟨out, A2, c2, HOO.out, ?_, HOR.out.own, HOR.out.low⟩
      rw [HOL.out]
      rfl
end Go.Proofs.Ytccilmnlepekeaa
