/- The walk of the program's Reach: its closure calls itself. -/
import Derived.Test.YtccilmnlepekeaaCyc11
import Derived.Test.YtccilmnlepekeaaCyr4
namespace Go.Proofs.Ytccilmnlepekeaa
open Go.RowKit
theorem adj_in2 {G : List (List Int)} {i k : Nat} : k ∈ leans G i ↔ k < G.length ∧ adj G i k = true := by
  rw [leans, List.mem_filter, List.mem_range]
/-- what a go to a node has made of the table -/
structure GoP (G : List (List Int)) (out : List Bool) (i : Int) (out' : List Bool) : Prop where
  len : out'.length = G.length
  up : ∀ k, inT out k → inT out' k
  least : ∀ U : Nat → Prop, Shut G U → (∀ k, inT out k → U k) → (∀ k : Nat, i = k → k < G.length → U k) → ∀ k, inT out' k → U k
  has : ∀ k : Nat, i = k → k < G.length → inT out' k
  fresh : ∀ j, inT out' j → ¬ inT out j → ∀ k, k < G.length → adj G j k = true → inT out' k
/-- nothing was to be done -/
theorem GoP.stay {G : List (List Int)} {out : List Bool} {i : Int} (hl : out.length = G.length) (h : ∀ k : Nat, i = k → k < G.length → inT out k) : GoP G out i out :=
  ⟨hl, fun _ h => h, fun _ _ h _ => h, h, fun j h1 h2 => absurd h1 h2⟩
/-- within a go: so many of the node's row are gone to -/
structure GoR (G : List (List Int)) (out : List Bool) (i q : Nat) (o : List Bool) : Prop where
  len : o.length = G.length
  up : ∀ k, inT (out.set i true) k → inT o k
  least : ∀ U : Nat → Prop, Shut G U → (∀ k, inT out k → U k) → U i → ∀ k, inT o k → U k
  has : ∀ k, k ∈ (leans G i).take q → inT o k
  fresh : ∀ j, inT o j → ¬ inT (out.set i true) j → ∀ k, k < G.length → adj G j k = true → inT o k
theorem GoR.start {G : List (List Int)} {out : List Bool} {i : Nat} (hl : out.length = G.length) (hi : i < G.length) : GoR G out i 0 (out.set i true) :=
  ⟨by rw [List.length_set, hl], fun _ h => h, fun U _ h1 h2 k hk => by
    rcases (inT_set (by omega)).1 hk with rfl | hk
    · exact h2
    · exact h1 k hk, fun k hk => by simp at hk, fun j h1 h2 => absurd h1 h2⟩
theorem GoR.next {G : List (List Int)} {out o o' : List Bool} {i q k : Nat} (h : GoR G out i q o) (hi : i < G.length) (hk : (leans G i)[q]? = some k) (hp : GoP G o (k : Int) o') : GoR G out i (q + 1) o' := by
  have hkl := adj_in2.1 (List.mem_of_getElem? hk)
  refine ⟨hp.len, fun j hj => hp.up j (h.up j hj), fun U hU h1 h2 j hj => hp.least U hU (fun x hx => h.least U hU h1 h2 x hx) (fun x hx hxl => ?_) j hj, fun j hj => ?_, fun j hj hn x hx ha => ?_⟩
  · have : x = k := by omega
    subst this
    exact hU i x hi hxl hkl.2 h2
  · have hts : (leans G i).take (q + 1) = (leans G i).take q ++ [k] := by rw [List.take_add_one, hk]; rfl
    rw [hts, List.mem_append, List.mem_singleton] at hj
    rcases hj with hj | rfl
    · exact hp.up j (h.has j hj)
    · exact hp.has j rfl hkl.1
  · by_cases ho : inT o j
    · exact hp.up x (h.fresh j ho hn x hx ha)
    · exact hp.fresh j hj ho x hx ha
theorem GoR.done {G : List (List Int)} {out o : List Bool} {i : Nat} (h : GoR G out i (leans G i).length o) (hl : out.length = G.length) (hi : i < G.length) : GoP G out (i : Int) o := by
  have hil : i < out.length := by omega
  refine ⟨h.len, fun k hk => h.up k ((inT_set hil).2 (.inr hk)), fun U hU h1 h2 k hk => h.least U hU h1 (h2 i rfl hi) k hk, fun k hk _ => ?_, fun j hj hn k hk ha => ?_⟩
  · have : k = i := by omega
    subst this
    exact h.up k ((inT_set hil).2 (.inl rfl))
  · by_cases hji : j = i
    · subst hji
      exact h.has k (by rw [List.take_length]; exact adj_in2.2 ⟨hk, ha⟩)
    · exact h.fresh j hj (fun e => by
        rcases (inT_set hil).1 e with e | e
        · exact hji e
        · exact hn e) k hk ha
/-- behind so many of the starts -/
structure ReP (G : List (List Int)) (fr : List Int) (q : Nat) (out : List Bool) : Prop where
  len : out.length = G.length
  least : ∀ U : Nat → Prop, Shut G U → (∀ k : Nat, (k : Int) ∈ fr.take q → k < G.length → U k) → ∀ k, inT out k → U k
  has : ∀ k : Nat, (k : Int) ∈ fr.take q → k < G.length → inT out k
  shut : Shut G (inT out)
theorem ReP.start (G : List (List Int)) (fr : List Int) : ReP G fr 0 (List.replicate G.length false) := by
  have hno : ∀ k, ¬ inT (List.replicate G.length false) k := fun k h => by
    unfold inT at h
    rw [List.getElem?_replicate] at h
    split at h <;> simp at h
  exact ⟨by simp, fun U _ _ k hk => absurd hk (hno k), fun k hk => by simp at hk, fun i k _ _ _ hi => absurd hi (hno i)⟩
theorem ReP.next {G : List (List Int)} {fr : List Int} {q : Nat} {x : Int} {out out' : List Bool} (h : ReP G fr q out) (hx : fr[q]? = some x) (hp : GoP G out x out') : ReP G fr (q + 1) out' := by
  have hts : fr.take (q + 1) = fr.take q ++ [x] := by rw [List.take_add_one, hx]; rfl
  refine ⟨hp.len, fun U hU h1 k hk => hp.least U hU (fun j hj => h.least U hU (fun y hy hl => h1 y (by rw [hts]; exact List.mem_append_left _ hy) hl) j hj) (fun j hj hl => h1 j (by rw [hts, hj]; simp) hl) k hk, fun k hk hl => ?_, fun i k hi hk ha hin => ?_⟩
  · rw [hts, List.mem_append, List.mem_singleton] at hk
    rcases hk with hk | hk
    · exact hp.up k (h.has k hk hl)
    · exact hp.has k hk.symm hl
  · by_cases ho : inT out i
    · exact hp.up k (h.shut i k hi hk ha ho)
    · exact hp.fresh i hin ho k hk ha
theorem ReP.done {G : List (List Int)} {fr : List Int} {out : List Bool} (h : ReP G fr fr.length out) : RT G (fun k => (k : Int) ∈ fr) out :=
  ⟨h.len, fun k hk hS => h.has k (by rw [List.take_length]; exact hS) hk, h.shut, fun U hS hU k hk => h.least U hU (fun j hj hl => hS j hl (by rw [List.take_length] at hj; exact hj)) k hk⟩
/-- what lies in memory while Reach's closure runs -/
structure RsS (w1 : World) (AX : Option Addr) (N : Nat) (g5 gT g6 g7 : Nat) (out : List Bool) (wr : World) : Prop where
  b5 : Box wr g5 [.slice AX N N]
  b6 : Box wr g6 [.slice (some ⟨gT, 0, none⟩) N N]
  b7 : Box wr g7 [.func (.func 31) #[] #[.pointer (some ⟨g5, 0, none⟩), .pointer (some ⟨g6, 0, none⟩), .pointer (some ⟨g7, 0, none⟩)]]
  bT : wr.heap[gT]? = some (.cells (boolV out).toArray 4 (0, 0))
  low : Below w1.heap.size w1 wr
  gt : w1.heap.size ≤ gT
  n5 : g5 ≠ gT
  n6 : g6 ≠ gT
  n7 : g7 ≠ gT
theorem RsS.set {w1 : World} {AX : Option Addr} {N g5 gT g6 g7 : Nat} {out : List Bool} {wr : World} (h : RsS w1 AX N g5 gT g6 g7 out wr) (k : Nat) (v : Bool) : RsS w1 AX N g5 gT g6 g7 (out.set k v) (wr.setCell ⟨gT, k, none⟩ (.bool v)) :=
  ⟨h.b5.other h.n5 _, h.b6.other h.n6 _, h.b7.other h.n7 _, by rw [row_setCell1 h.bT, boolV_put], h.low.setCell h.gt _, h.gt, h.n5, h.n6, h.n7⟩
theorem RsS.cell {w1 : World} {AX : Option Addr} {N g5 gT g6 g7 : Nat} {out : List Bool} {wr : World} (h : RsS w1 AX N g5 gT g6 g7 out wr) {k : Nat} {x : Bool} (hx : out[k]? = some x) : wr.cell? ⟨gT, k, none⟩ = some (.bool x) ∧ wr.frozen? ⟨gT, k, none⟩ = false :=
  ⟨by rw [cell_of_row wr gT k _ _ _ h.bT]; simpa using boolV_get hx, frozen_of_row wr gT k _ _ h.bT⟩
def GoPost (w1 : World) (AX : Option Addr) (G : List (List Int)) (g5 gT g6 g7 : Nat) (out : List Bool) (i : Int) (e : Ending) (w' : World) : Prop :=
  e = .returned (.tuple #[]) ∧ ∃ out', GoP G out i out' ∧ RsS w1 AX G.length g5 gT g6 g7 out' w'
set_option maxRecDepth 100000 in
set_option maxHeartbeats 4000000 in
theorem go1_step (w1 : World) (AX : Option Addr) (G : List (List Int)) (hs : Small G) (hx : GRd w1 AX (ofG G)) (g5 gT g6 g7 : Nat) (out : List Bool) (hl : out.length = G.length) (W : World) (hS : RsS w1 AX G.length g5 gT g6 g7 out W) (i : Int)
    (ih : ∀ (o : List Bool) (W' : World) (k : Int), o.length = G.length → cntT out < cntT o → RsS w1 AX G.length g5 gT g6 g7 o W' → Calls Try.prog 31 #[.int .i64 k, .pointer (some ⟨g5, 0, none⟩), .pointer (some ⟨g6, 0, none⟩), .pointer (some ⟨g7, 0, none⟩)] W' fun e w' => GoPost w1 AX G g5 gT g6 g7 o k e w') :
    Calls Try.prog 31 #[.int .i64 i, .pointer (some ⟨g5, 0, none⟩), .pointer (some ⟨g6, 0, none⟩), .pointer (some ⟨g7, 0, none⟩)] W fun e w' => GoPost w1 AX G g5 gT g6 g7 out i e w' := by
  have hn := hs.n
  unfold GoPost at ih ⊢
  have c5 : W.cell? ⟨g5, 0, none⟩ = some (.slice AX G.length G.length) := hS.b5.cells 0
  have c6 : W.cell? ⟨g6, 0, none⟩ = some (.slice (some ⟨gT, 0, none⟩) G.length G.length) := hS.b6.cells 0
  have HS := hid2 hS
  have HL := hid2 hl
  by_cases hi0 : i < 0
  · have HP := hid2 (GoP.stay (G := G) (out := out) (i := i) hl fun k hk _ => by omega)
    clear hx hs ih hS hl
    obtain ⟨N, hN⟩ : ∃ N, N = G.length := ⟨_, rfl⟩
    rw [← hN] at hn c5 c6 HS ⊢
    clear hN
    go_enter Try.func31, Try.ntmps31
    go_wp2_with fail
    refine bodyPost_ret (results_none rfl _ _ _) rfl ?_
    exact ⟨rfl, out, HP.out, HS.out⟩
  · by_cases hiN : (G.length : Int) ≤ i
    · have HP := hid2 (GoP.stay (G := G) (out := out) (i := i) hl fun k hk _ => by omega)
      clear hx hs ih hS hl
      obtain ⟨N, hN⟩ : ∃ N, N = G.length := ⟨_, rfl⟩
      rw [← hN] at hn c5 c6 HS hiN ⊢
      clear hN
      go_enter Try.func31, Try.ntmps31
      go_wp2_with fail
      refine bodyPost_ret (results_none rfl _ _ _) rfl ?_
      exact ⟨rfl, out, HP.out, HS.out⟩
    · obtain ⟨i, rfl⟩ : ∃ j : Nat, i = j := ⟨i.toNat, by omega⟩
      have hin : i < G.length := by omega
      obtain ⟨x, hx1⟩ : ∃ x, out[i]? = some x := ⟨_, List.getElem?_eq_getElem (by omega)⟩
      obtain ⟨cx, fx⟩ := hS.cell hx1
      have hi1 : (0 : Int) ≤ i := by omega
      have hi2 : (i : Int) < G.length := by omega
      cases x with
      | true =>
        have HP := hid2 (GoP.stay (G := G) (out := out) (i := i) hl fun k hk _ => by
          have : k = i := by omega
          subst this
          exact hx1)
        clear hx hs ih hS hl hx1 hin
        obtain ⟨N, hN⟩ : ∃ N, N = G.length := ⟨_, rfl⟩
        rw [← hN] at hn c5 c6 HS hiN hi2 ⊢
        clear hN
        go_enter Try.func31, Try.ntmps31
        go_wp2_with fail
        refine bodyPost_ret (results_none rfl _ _ _) rfl ?_
        exact ⟨rfl, out, HP.out, HS.out⟩
      | false =>
        have hst := GoR.start hl hin
        have hcnt : ∀ o : List Bool, o.length = G.length → (∀ k, inT (out.set i true) k → inT o k) → cntT out < cntT o := fun o ho hup => by
          have h1 := cnt_grow (T := out) (T' := o) (by omega) (fun k hk => hup k ((inT_set (by omega)).2 (.inr hk))) (fun e => by
            have := hup i ((inT_set (by omega)).2 (.inl rfl))
            rw [← e] at this
            unfold inT at this
            rw [hx1] at this
            cases this)
          omega
        have hcall := fun (q k : Nat) (o : List Bool) (W' : World) (_ : (leans G i)[q]? = some k) (hr : GoR G out i q o) (hs' : RsS w1 AX G.length g5 gT g6 g7 o W') => ih o W' (k : Int) hr.len (hcnt o hr.len hr.up) hs'
        have hnext := fun (q k : Nat) (o o' : List Bool) (hk : (leans G i)[q]? = some k) (hr : GoR G out i q o) (hp : GoP G o (k : Int) o') => hr.next hin hk hp
        have hdone := fun (o : List Bool) (hr : GoR G out i (leans G i).length o) => hr.done hl hin
        have hll := leans_length G i
        have hkk := hx.k
        obtain ⟨ax, ox, B, cB, rfl, hc1, hB⟩ := hkk.row (Below.refl _ w1) (ofG_get hin)
        rw [castI_length] at hc1 hB
        obtain ⟨L, hL⟩ : ∃ L, L = (leans G i).length := ⟨_, rfl⟩
        rw [← hL] at hc1 hB hdone hll
        obtain ⟨GR, hGR⟩ : ∃ GR, GR = GoR G out i := ⟨_, rfl⟩
        rw [← hGR] at hst hcall hnext hdone
        obtain ⟨W2, hW2⟩ : ∃ W2, W2 = W.setCell ⟨gT, i, none⟩ (.bool true) := ⟨_, rfl⟩
        have hS2 := hS.set i true
        rw [← hW2] at hS2
        have HST := hid2 hst
        have HCALL := hid2 hcall
        have HNEXT := hid2 hnext
        have HDONE := hid2 hdone
        have HLE := hid2 hL
        have HC1 := hid2 hc1
        have HB := hid2 hB
        have HS2 := hid2 hS2
        have HW2 := hid2 hW2
        have d5 : W2.cell? ⟨g5, 0, none⟩ = some (.slice (some ⟨ax, ox, none⟩) G.length G.length) := hS2.b5.cells 0
        have dr : W2.cell? ⟨ax, ox + i, none⟩ = some (.slice B L cB) := hc1 W2 hS2.low
        obtain ⟨N, hN⟩ : ∃ N, N = G.length := ⟨_, rfl⟩
        rw [← hN] at hn c5 c6 d5 HS HCALL HS2 hll hiN hi2 ⊢
        clear hx hs ih hS hl hx1 hin hst hcnt hcall hnext hdone hkk hL hc1 hB hS2 hN hGR HL HS
        rw [hW2] at d5 dr
        clear hW2
        go_enter Try.func31, Try.ntmps31
        go_wp2_with fail
        rw [← HW2.out] at *
        go_loopg [6, 29] L (fun gk x6 qv wr => ∃ (q : Nat) (o : List Bool), q + gk = L ∧ qv = .int .i64 q ∧ GR q o ∧ RsS w1 (some ⟨ax, ox, none⟩) N g5 gT g6 g7 o wr)
        case atStart => exact ⟨0, _, by omega, rfl, HST.out, HS2.out⟩
        case round =>
          clear HST HS2 HW2 d5 dr
          obtain ⟨q, o, hq, rfl, hgr, hrs⟩ := hrel
          have HGR := hid2 hgr
          have HRS := hid2 hrs
          have c7 : wr.cell? ⟨g7, 0, none⟩ = some (.func (.func 31) #[] #[.pointer (some ⟨g5, 0, none⟩), .pointer (some ⟨g6, 0, none⟩), .pointer (some ⟨g7, 0, none⟩)]) := hrs.b7.cells 0
          clear hgr hrs
          by_cases hqL : q < L
          · have hqL' : (q : Int) < L := by omega
            have hq0 : (0 : Int) ≤ q := by omega
            obtain ⟨k, hk⟩ : ∃ k, (leans G i)[q]? = some k := ⟨_, List.getElem?_eq_getElem (by rw [← HLE.out]; exact hqL)⟩
            obtain ⟨bB, oB, rfl, ck⟩ := int_cell (HB.out wr HRS.out.low) (castI_get hk)
            have hc := HCALL.out q k o wr hk HGR.out HRS.out
            have HC := hid2 hc
            have HNX := hid2 (fun o' => HNEXT.out q k o o' hk HGR.out)
            clear hk hc hqL
            go_wp2_with (first | (go_at_call 31; refine HC.out.mono ?_; rintro e w2 ⟨rfl, o', hp, hs'⟩; have HP := hid2 hp; have HS3 := hid2 hs'; clear hp hs'))
            go_roundg (gk - 1)
            case rel => exact ⟨q + 1, o', by omega, by go_num, HNX.out o' HP.out, HS3.out⟩
            case measure => omega
          · have hqL2 : q = L := by omega
            have hqL' : ¬ (q : Int) < L := by omega
            have HP := hid2 (HDONE.out o (by rw [← hqL2]; exact HGR.out))
            clear hqL hqL2
            go_wp2_with fail
            go_end0
            exact ⟨rfl, o, HP.out, HRS.out⟩
end Go.Proofs.Ytccilmnlepekeaa
