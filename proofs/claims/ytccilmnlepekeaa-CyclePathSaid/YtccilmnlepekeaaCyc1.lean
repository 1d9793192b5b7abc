/- Graphs as rows of rows of numbers: how they read; the reference's On, ready, Same; great. -/
import Derived.Test.YtccilmnlepekeaaMem3
import Derived.Test.YtccilmnlepekeaaMem4
import Derived.BigQuiet
import Derived.Test.YtccilmnlepekeaaChecked
namespace Go.Proofs.Ytccilmnlepekeaa
open Go.RowKit
def intV (l : List Int) : List Value := l.map fun x => .int .i64 x
theorem intV_length (l : List Int) : (intV l).length = l.length := by simp [intV]
theorem intV_get {l : List Int} {k : Nat} {x : Int} (h : l[k]? = some x) : (intV l)[k]? = some (.int .i64 x) := by rw [intV, List.getElem?_map, h]; rfl
def boolV (l : List Bool) : List Value := l.map fun x => .bool x
theorem boolV_get {l : List Bool} {k : Nat} {x : Bool} (h : l[k]? = some x) : (boolV l)[k]? = some (.bool x) := by rw [boolV, List.getElem?_map, h]; rfl
/-- a row of rows of numbers, read -/
def GRd (W : World) (A : Option Addr) (G : List (List Int)) : Prop :=
  ∃ hs : List Value, Rd W 1 A G.length hs ∧ ∀ (i : Nat) (row : List Int), G[i]? = some row → ∃ (B : Option Addr) (c : Nat), hs[i]? = some (Value.slice B row.length c) ∧ Rd W 1 B row.length (intV row)
theorem GRd.below {W W' : World} {A : Option Addr} {G : List (List Int)} (h : GRd W A G) (hb : Below W.heap.size W W') : GRd W' A G := by
  obtain ⟨hs, h1, h2⟩ := h
  refine ⟨hs, h1.below_all hb, fun i row hi => ?_⟩
  obtain ⟨B, c, h3, h4⟩ := h2 i row hi
  exact ⟨B, c, h3, h4.below_all hb⟩
/-- a row's header and its numbers -/
theorem GRd.row {W : World} {A : Option Addr} {G : List (List Int)} (h : GRd W A G) {i : Nat} {row : List Int} (hi : G[i]? = some row) :
    ∃ a o B c, A = some ⟨a, o, none⟩ ∧ W.cell? ⟨a, o + i, none⟩ = some (.slice B row.length c) ∧ Rd W 1 B row.length (intV row) := by
  obtain ⟨hs, h1, h2⟩ := h
  obtain ⟨B, c, h3, h4⟩ := h2 i row hi
  have hil := (List.getElem?_eq_some_iff.1 hi).1
  obtain ⟨a, o, rfl, hc⟩ := h1.2 (by omega)
  exact ⟨a, o, B, c, rfl, hc i _ h3, h4⟩
theorem int_cell {W : World} {B : Option Addr} {n : Nat} {l : List Int} (h : Rd W 1 B n (intV l)) {k : Nat} {x : Int} (hk : l[k]? = some x) : ∃ b o, B = some ⟨b, o, none⟩ ∧ W.cell? ⟨b, o + k, none⟩ = some (.int .i64 x) := by
  have hl := (List.getElem?_eq_some_iff.1 hk).1
  have hn : l.length = n := by have := h.1; rw [intV_length] at this; omega
  obtain ⟨b, o, rfl, hc⟩ := h.2 (by omega)
  exact ⟨b, o, rfl, hc k _ (intV_get hk)⟩
theorem bool_cell {W : World} {B : Option Addr} {n : Nat} {l : List Bool} (h : Rd W 1 B n (boolV l)) {k : Nat} {x : Bool} (hk : l[k]? = some x) : ∃ b o, B = some ⟨b, o, none⟩ ∧ W.cell? ⟨b, o + k, none⟩ = some (.bool x) := by
  have hl := (List.getElem?_eq_some_iff.1 hk).1
  have hn : l.length = n := by have := h.1; rw [boolV, List.length_map] at this; omega
  obtain ⟨b, o, rfl, hc⟩ := h.2 (by omega)
  exact ⟨b, o, rfl, hc k _ (boolV_get hk)⟩
/-- does i lean on k? -/
def adj (G : List (List Int)) (i k : Nat) : Bool := ((G[i]?).getD []).contains (k : Int)
theorem adj_row {G : List (List Int)} {i : Nat} {row : List Int} (h : G[i]? = some row) (k : Nat) : adj G i k = row.contains (k : Int) := by rw [adj, h]; rfl
theorem contains_take_succ {row : List Int} {q : Nat} {x : Int} (h : row[q]? = some x) (k : Int) : (row.take (q + 1)).contains k = ((row.take q).contains k || x == k) := by
  obtain ⟨hq, hx⟩ := List.getElem?_eq_some_iff.1 h
  rw [List.take_succ_eq_append_getElem hq, hx, List.contains_append]
  simp only [List.contains_cons, List.contains_nil, Bool.or_false]
  congr 1
  rw [Bool.eq_iff_iff, beq_iff_eq, beq_iff_eq]
  exact ⟨Eq.symm, Eq.symm⟩
/-- what stands of a graph's sizes -/
structure Small (G : List (List Int)) : Prop where
  n : G.length ≤ 25
  row : ∀ (i : Nat) (row : List Int), G[i]? = some row → row.length ≤ 300
set_option maxRecDepth 100000 in
set_option maxHeartbeats 1000000 in
theorem on_any (w : World) (A : Option Addr) (c : Nat) (G : List (List Int)) (hg : GRd w A G) (hs : Small G) (i k : Nat) (hi : i < G.length) (hk : k < G.length) :
    Calls Try.prog 15 #[.slice A G.length c, .int .i64 i, .int .i64 k] w fun e w' => e = .returned (.bool (adj G i k)) ∧ w' = w := by
  have hn := hs.n
  obtain ⟨row, hrow⟩ : ∃ row, G[i]? = some row := ⟨_, List.getElem?_eq_getElem hi⟩
  have hl := hs.row i row hrow
  rw [adj_row hrow]
  obtain ⟨av, hav⟩ : ∃ av, av = row.contains (k : Int) := ⟨_, rfl⟩
  rw [← hav]
  have HAV := hid2 hav
  clear hav
  obtain ⟨a, o, B, c2, rfl, c1, hrd⟩ := hg.row hrow
  obtain ⟨N, hN⟩ : ∃ N, N = G.length := ⟨_, rfl⟩
  obtain ⟨L, hL⟩ : ∃ L, L = row.length := ⟨_, rfl⟩
  rw [← hN] at hi hk hn ⊢
  rw [← hL] at hl c1 hrd
  have hi0 : (0 : Int) ≤ i := by omega
  have hk0 : (0 : Int) ≤ k := by omega
  have hi1 : (i : Int) < N := by omega
  have hk1 : (k : Int) < N := by omega
  have gi : ((i : Int) < 0) = False := eq_false (by omega)
  have gk1 : ((k : Int) < 0) = False := eq_false (by omega)
  have gi2 : ((N : Int) ≤ i) = False := eq_false (by omega)
  have gk2 : ((N : Int) ≤ k) = False := eq_false (by omega)
  have HRD := hid2 hrd
  have HL := hid2 hL
  clear hrd hL hN hg hs hrow hi hk
  go_enter Try.func15, Try.ntmps15
  go_wp2_with fail
  go_loopg [8, 32] L (fun gk x q wr => ∃ j : Nat, j + gk = L ∧ q = .int .i64 j ∧ (row.take j).contains (k : Int) = false ∧ wr = w)
  case atStart => exact ⟨0, by omega, rfl, by simp, rfl⟩
  case round =>
    obtain ⟨j, hj, rfl, hno, rfl⟩ := hrel
    have HNO := hid2 hno
    clear hno
    by_cases hlt : j < L
    · have hlt' : (j : Int) < L := by omega
      have hj0 : (0 : Int) ≤ j := by omega
      obtain ⟨x, hx⟩ : ∃ x, row[j]? = some x := ⟨_, List.getElem?_eq_getElem (by rw [← HL.out]; exact hlt)⟩
      obtain ⟨b, ob, rfl, cx⟩ := int_cell HRD.out hx
      have hstep := contains_take_succ hx (k : Int)
      rw [HNO.out, Bool.false_or] at hstep
      have HST := hid2 hstep
      have HX := hid2 hx
      clear hstep hx hlt
      by_cases he : x = (k : Int)
      · have hall : row.contains (k : Int) = true := by
          have := List.mem_of_getElem? HX.out
          rw [he] at this
          simpa using this
        have he1 : (x == (k : Int)) = true := by simp [he]
        have HALL := hid2 hall
        clear hall
        go_wp2_with fail
        go_ret
        exact ⟨by rw [HAV.out, HALL.out]; rfl, rfl⟩
      · have he1 : (x == (k : Int)) = false := by simp [he]
        have HST2 := hid2 (show (row.take (j + 1)).contains (k : Int) = false from by rw [HST.out, he1])
        go_wp2_with fail
        go_roundg (gk - 1)
        case rel => exact ⟨j + 1, by omega, by go_num, HST2.out, rfl⟩
        case measure => omega
    · have hjL : j = L := by omega
      have hlt' : ¬ (j : Int) < L := by omega
      have HALL := hid2 (show row.contains (k : Int) = false from by have := HNO.out; rwa [hjL, HL.out, List.take_length] at this)
      clear hjL hlt
      go_wp2_with fail
      go_ret
      exact ⟨by rw [HAV.out, HALL.out]; rfl, rfl⟩
/-- is all there that i leans on? -/
def readyG (G : List (List Int)) (th : List Bool) (i : Nat) : Bool := (List.range G.length).all fun k => !(adj G i k) || th.getD k false
theorem range_all_succ (p : Nat → Bool) (k : Nat) : (List.range (k + 1)).all p = ((List.range k).all p && p k) := by
  rw [List.range_succ, List.all_append]
  simp
theorem range_all_false {p : Nat → Bool} {n k : Nat} (hk : k < n) (hp : p k = false) : (List.range n).all p = false := by
  rw [List.all_eq_false]
  exact ⟨k, List.mem_range.2 hk, by rw [hp]; simp⟩
set_option maxRecDepth 100000 in
set_option maxHeartbeats 1000000 in
theorem ready_any (w : World) (A : Option Addr) (c : Nat) (G : List (List Int)) (hg : GRd w A G) (hs : Small G) (i : Nat) (hi : i < G.length) (T : Option Addr) (ct : Nat) (th : List Bool) (ht : Rd w 1 T G.length (boolV th)) :
    Calls Try.prog 26 #[.slice A G.length c, .int .i64 i, .slice T G.length ct] w fun e w' => e = .returned (.bool (readyG G th i)) ∧ w' = w := by
  have hn := hs.n
  have hthl : th.length = G.length := by have := ht.1; rw [boolV, List.length_map] at this; omega
  have cO := fun k hk => on_any w A c G hg hs i k hi hk
  have hrG : readyG G th i = (List.range G.length).all fun k => !(adj G i k) || th.getD k false := rfl
  obtain ⟨N, hN⟩ : ∃ N, N = G.length := ⟨_, rfl⟩
  rw [← hN] at hn ht hthl cO hrG ⊢
  have HC := hid2 cO
  have HT := hid2 ht
  have HTL := hid2 hthl
  have HRG := hid2 hrG
  clear cO ht hthl hrG hN hg hs hi
  go_enter Try.func26, Try.ntmps26
  go_wp2_with fail
  go_loopg [7, 10] N (fun gk x q wr => ∃ k : Nat, k + gk = N ∧ q = .int .i64 k ∧ ((List.range k).all fun k => !(adj G i k) || th.getD k false) = true ∧ wr = w)
  case atStart => exact ⟨0, by omega, rfl, rfl, rfl⟩
  case round =>
    obtain ⟨k, hk, rfl, hno, rfl⟩ := hrel
    have HNO := hid2 hno
    clear hno
    by_cases hlt : k < N
    · have hlt' : (k : Int) < N := by omega
      have hk0 : (0 : Int) ≤ k := by omega
      obtain ⟨t, hx⟩ : ∃ x, th[k]? = some x := ⟨_, List.getElem?_eq_getElem (by rw [HTL.out]; exact hlt)⟩
      obtain ⟨b, ob, rfl, cx⟩ := bool_cell HT.out hx
      have hgd : th.getD k false = t := by rw [List.getD_eq_getElem?_getD, hx]; rfl
      have hC := HC.out k hlt
      obtain ⟨av, hav⟩ : ∃ av, av = adj G i k := ⟨_, rfl⟩
      rw [← hav] at hC
      have HCk := hid2 hC
      have HP := hid2 (show (!(adj G i k) || th.getD k false) = (!av || t) from by rw [← hav, hgd])
      have HLT := hid2 hlt
      clear hx hgd hC hav hlt
      cases av with
      | true =>
        cases t with
        | true =>
          go_wp2_with (first | (go_at_call 15; refine HCk.out.mono ?_; rintro e w2 ⟨rfl, rfl⟩))
          go_roundg (gk - 1)
          case rel => exact ⟨k + 1, by omega, by go_num, by rw [range_all_succ, HNO.out, HP.out]; rfl, rfl⟩
          case measure => omega
        | false =>
          have HF := hid2 (show readyG G th i = false from by rw [HRG.out]; exact range_all_false HLT.out HP.out)
          go_wp2_with (first | (go_at_call 15; refine HCk.out.mono ?_; rintro e w2 ⟨rfl, rfl⟩))
          go_ret
          exact ⟨by rw [HF.out]; rfl, rfl⟩
      | false =>
        go_wp2_with (first | (go_at_call 15; refine HCk.out.mono ?_; rintro e w2 ⟨rfl, rfl⟩))
        go_roundg (gk - 1)
        case rel => exact ⟨k + 1, by omega, by go_num, by rw [range_all_succ, HNO.out, HP.out]; rfl, rfl⟩
        case measure => omega
    · have hkN : k = N := by omega
      have hlt' : ¬ (k : Int) < N := by omega
      have HF := hid2 (show readyG G th i = true from by rw [HRG.out, ← hkN]; exact HNO.out)
      clear hkN hlt
      go_wp2_with fail
      go_ret
      exact ⟨by rw [HF.out]; rfl, rfl⟩
set_option maxRecDepth 100000 in
set_option maxHeartbeats 1000000 in
theorem same18_any (w : World) (A B : Option Addr) (c1 c2 : Nat) (xs ys : List Int) (hx : Rd w 1 A xs.length (intV xs)) (hy : Rd w 1 B ys.length (intV ys)) (hl : xs.length ≤ 1000000000) (hl2 : ys.length ≤ 1000000000) :
    Calls Try.prog 12 #[.slice A xs.length c1, .slice B ys.length c2] w fun e w' => e = .returned (.bool (xs == ys)) ∧ Below w.heap.size w w' := by
  obtain ⟨N, hN⟩ : ∃ N, N = xs.length := ⟨_, rfl⟩
  obtain ⟨M, hM⟩ : ∃ M, M = ys.length := ⟨_, rfl⟩
  rw [← hN] at hx hl ⊢
  rw [← hM] at hy hl2 ⊢
  have HX := hid2 hx
  have HY := hid2 hy
  have HN := hid2 hN
  have HM := hid2 hM
  clear hx hy hN hM
  by_cases hNM : N = M
  · subst hNM
    go_enter Try.func12, Try.ntmps12
    go_wp2_with fail
    go_loopg [5, 13] N (fun gk x q wr => ∃ k : Nat, k + gk = N ∧ q = .int .i64 k ∧ xs.take k = ys.take k ∧ Below w.heap.size w wr)
    case atStart => exact ⟨0, by omega, rfl, rfl, Below.refl _ _⟩
    case round =>
      obtain ⟨k, hk, rfl, htk, hb⟩ := hrel
      have HTK := hid2 htk
      have HB := hid2 hb
      clear htk hb
      by_cases hlt : k < N
      · have hlt' : (k : Int) < N := by omega
        have hk0 : (0 : Int) ≤ k := by omega
        obtain ⟨x, h1⟩ : ∃ x, xs[k]? = some x := ⟨_, List.getElem?_eq_getElem (by rw [← HN.out]; exact hlt)⟩
        obtain ⟨y, h2⟩ : ∃ x, ys[k]? = some x := ⟨_, List.getElem?_eq_getElem (by rw [← HM.out]; exact hlt)⟩
        obtain ⟨a, o, rfl, cx⟩ := int_cell (HX.out.below_all HB.out) h1
        obtain ⟨b, p, rfl, cy⟩ := int_cell (HY.out.below_all HB.out) h2
        have H1 := hid2 h1
        have H2 := hid2 h2
        clear h1 h2 hlt
        by_cases he : x = y
        · have he1 : (x == y) = true := by simp [he]
          have HE := hid2 he
          clear he
          go_wp2_with fail
          go_quiet (fail)
          go_wp2_with fail
          go_roundg (gk - 1)
          case rel => exact ⟨k + 1, by omega, by go_num, by rw [List.take_add_one, List.take_add_one, HTK.out, H1.out, H2.out, HE.out], below_drewN HB.out _⟩
          case measure => omega
        · have he1 : (x == y) = false := by simp [he]
          have HF := hid2 (show (xs == ys) = false from beq_eq_false_iff_ne.2 (fun e => he (by have h1 := H1.out; rw [e, H2.out] at h1; exact (Option.some.inj h1).symm)))
          go_wp2_with fail
          go_quiet (fail)
          go_wp2_with fail
          go_ret
          exact ⟨by rw [HF.out]; rfl, below_drewN HB.out _⟩
      · have hkN : k = N := by omega
        have hlt' : ¬ (k : Int) < N := by omega
        have HF := hid2 (show (xs == ys) = true from by
          have := HTK.out
          rw [hkN, List.take_of_length_le (by rw [HN.out]; exact Nat.le_refl _), List.take_of_length_le (by rw [HM.out]; exact Nat.le_refl _)] at this
          simp [this])
        clear hkN hlt
        go_wp2_with fail
        go_ret
        exact ⟨by rw [HF.out]; rfl, HB.out⟩
  · have hne : ¬ (N : Int) = M := by omega
    have hne1 : ((N : Int) == (M : Int)) = false := by simp; omega
    have HF := hid2 (show (xs == ys) = false from beq_eq_false_iff_ne.2 (fun e => hNM (by rw [HN.out, HM.out, e])))
    clear hNM
    go_enter Try.func12, Try.ntmps12
    go_wp2_with fail
    go_ret
    exact ⟨by rw [HF.out]; rfl, Below.refl _ _⟩
end Go.Proofs.Ytccilmnlepekeaa
