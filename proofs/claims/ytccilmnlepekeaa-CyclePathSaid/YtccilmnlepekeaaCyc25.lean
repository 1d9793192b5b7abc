/- The program's Reach. -/
import Derived.Test.YtccilmnlepekeaaCyc24
import Derived.Test.YtccilmnlepekeaaCyc14
namespace Go.Proofs.Ytccilmnlepekeaa
open Go.RowKit
theorem go1_any (w1 : World) (AX : Option Addr) (G : List (List Int)) (hs : Small G) (hx : GRd w1 AX (ofG G)) (g5 gT g6 g7 : Nat) : ∀ (m : Nat) (out : List Bool) (W : World) (i : Int), out.length = G.length → G.length ≤ m + cntT out → RsS w1 AX G.length g5 gT g6 g7 out W →
    Calls Try.prog 31 #[.int .i64 i, .pointer (some ⟨g5, 0, none⟩), .pointer (some ⟨g6, 0, none⟩), .pointer (some ⟨g7, 0, none⟩)] W fun e w' => GoPost w1 AX G g5 gT g6 g7 out i e w'
  | 0, out, W, i, hl, hc, hS => go1_step w1 AX G hs hx g5 gT g6 g7 out hl W hS i fun o W' k ho hcc _ => by
    have := cnt_le o
    omega
  | m + 1, out, W, i, hl, hc, hS => go1_step w1 AX G hs hx g5 gT g6 g7 out hl W hS i fun o W' k ho hcc hS' => go1_any w1 AX G hs hx g5 gT g6 g7 m o W' k ho (by omega) hS'
/-- the closure's world as it is made -/
theorem reach_world (w1 : World) (AX : Option Addr) (N : Nat) : ((((w1.alloc (.cells #[.slice AX N N] 38)).alloc (.cells (boolV (List.replicate N false)).toArray 4)).alloc (.cells #[.slice (some ⟨w1.heap.size + 1, 0, none⟩) N N] 34)).alloc (.cells #[Value.nilFunc] 46)).heap[w1.heap.size + 1 + 1 + 1]? = some (.cells #[Value.nilFunc] 46 (0, 0)) ∧
    RsS w1 AX N w1.heap.size (w1.heap.size + 1) (w1.heap.size + 1 + 1) (w1.heap.size + 1 + 1 + 1) (List.replicate N false) (((((w1.alloc (.cells #[.slice AX N N] 38)).alloc (.cells (boolV (List.replicate N false)).toArray 4)).alloc (.cells #[.slice (some ⟨w1.heap.size + 1, 0, none⟩) N N] 34)).alloc (.cells #[Value.nilFunc] 46)).setRow (w1.heap.size + 1 + 1 + 1) (laid #[Value.nilFunc] 0 [.func (.func 31) #[] #[.pointer (some ⟨w1.heap.size, 0, none⟩), .pointer (some ⟨w1.heap.size + 1 + 1, 0, none⟩), .pointer (some ⟨w1.heap.size + 1 + 1 + 1, 0, none⟩)]])) := by
  obtain ⟨W1, hW1⟩ : ∃ W1, W1 = w1.alloc (.cells #[.slice AX N N] 38) := ⟨_, rfl⟩
  obtain ⟨W2, hW2⟩ : ∃ W2, W2 = W1.alloc (.cells (boolV (List.replicate N false)).toArray 4) := ⟨_, rfl⟩
  obtain ⟨W3, hW3⟩ : ∃ W3, W3 = W2.alloc (.cells #[.slice (some ⟨w1.heap.size + 1, 0, none⟩) N N] 34) := ⟨_, rfl⟩
  obtain ⟨W4, hW4⟩ : ∃ W4, W4 = W3.alloc (.cells #[Value.nilFunc] 46) := ⟨_, rfl⟩
  rw [← hW1, ← hW2, ← hW3, ← hW4]
  have z1 : W1.heap.size = w1.heap.size + 1 := by rw [hW1]; simp
  have z2 : W2.heap.size = w1.heap.size + 1 + 1 := by rw [hW2, World.size_alloc, z1]
  have z3 : W3.heap.size = w1.heap.size + 1 + 1 + 1 := by rw [hW3, World.size_alloc, z2]
  have b0 : Box W1 w1.heap.size [.slice AX N N] := by rw [hW1]; exact Box.new w1 _ _
  have bT : W2.heap[w1.heap.size + 1]? = some (.cells (boolV (List.replicate N false)).toArray 4 (0, 0)) := by rw [hW2, ← z1]; exact heap_alloc_new W1 _
  have b2 : Box W3 (w1.heap.size + 1 + 1) [.slice (some ⟨w1.heap.size + 1, 0, none⟩) N N] := by rw [hW3, ← z2]; exact Box.new W2 _ _
  have b3 : Box W4 (w1.heap.size + 1 + 1 + 1) [Value.nilFunc] := by rw [hW4, ← z3]; exact Box.new W3 _ _
  have c0 : Box W4 w1.heap.size [.slice AX N N] := by rw [hW4, hW3, hW2]; exact ((b0.alloc _).alloc _).alloc _
  have cT : W4.heap[w1.heap.size + 1]? = some (.cells (boolV (List.replicate N false)).toArray 4 (0, 0)) := by
    rw [hW4, Below.heap_alloc _ _ _ (by omega), hW3, Below.heap_alloc _ _ _ (by omega)]
    exact bT
  have c2 : Box W4 (w1.heap.size + 1 + 1) [.slice (some ⟨w1.heap.size + 1, 0, none⟩) N N] := by rw [hW4]; exact b2.alloc _
  have hb : Below w1.heap.size w1 W4 := by
    rw [hW4, hW3, hW2, hW1]
    exact ((((Below.refl _ w1).alloc (Nat.le_refl _) _).alloc (by simp) _).alloc (by simp; omega) _).alloc (by simp; omega) _
  have h3 : W4.heap[w1.heap.size + 1 + 1 + 1]? = some (.cells #[Value.nilFunc] 46 (0, 0)) := by rw [hW4, ← z3]; exact heap_alloc_new W3 _
  refine ⟨h3, ?_⟩
  rw [show W4.setRow (w1.heap.size + 1 + 1 + 1) (laid #[Value.nilFunc] 0 [.func (.func 31) #[] #[.pointer (some ⟨w1.heap.size, 0, none⟩), .pointer (some ⟨w1.heap.size + 1 + 1, 0, none⟩), .pointer (some ⟨w1.heap.size + 1 + 1 + 1, 0, none⟩)]]) = W4.setCell ⟨w1.heap.size + 1 + 1 + 1, 0, none⟩ (.func (.func 31) #[] #[.pointer (some ⟨w1.heap.size, 0, none⟩), .pointer (some ⟨w1.heap.size + 1 + 1, 0, none⟩), .pointer (some ⟨w1.heap.size + 1 + 1 + 1, 0, none⟩)]) from by rw [setCell_eq_setRow W4 _ 0 _ _ _ _ h3]; simp [laid]]
  refine ⟨c0.other (show _ ≠ w1.heap.size + 1 + 1 + 1 by omega) _, c2.other (show _ ≠ w1.heap.size + 1 + 1 + 1 by omega) _, b3.set 0 _, ?_, hb.setCell (by simp; omega) _, by omega, by omega, by omega, by omega⟩
  rw [Below.heap_setCell _ _ _ _ (by simp)]
  exact cT
set_option maxRecDepth 100000 in
set_option maxHeartbeats 4000000 in
theorem creach_any (w : World) (A : Option Addr) (c : Nat) (G : List (List Int)) (hg : GRd w A G) (hs : Small G) (AF : Option Addr) (cF : Nat) (fr : List Int) (hfr : Rd w 1 AF fr.length (intV fr)) (hfl : fr.length ≤ 50) :
    Calls Try.prog 17 #[.slice A G.length c, .slice AF fr.length cF] w fun e w' => ReachPost w G fr e w' := by
  have hn := hs.n
  have cO := of_any w A c G hg hs
  have hmb := fun W => made_bool W G.length (by omega)
  have cG := fun (w1 : World) (AX : Option Addr) (hx : GRd w1 AX (ofG G)) (g5 gT g6 g7 : Nat) (out : List Bool) (W : World) (i : Int) (hl : out.length = G.length) (hS : RsS w1 AX G.length g5 gT g6 g7 out W) => go1_any w1 AX G hs hx g5 gT g6 g7 G.length out W i hl (by omega) hS
  have hs0 := ReP.start G fr
  have hsn := fun (q : Nat) (x : Int) (out out' : List Bool) (h : ReP G fr q out) (hx : fr[q]? = some x) (hp : GoP G out x out') => h.next hx hp
  have hsd := fun (out : List Bool) (h : ReP G fr fr.length out) => h.done
  have hsl := fun (q : Nat) (out : List Bool) (h : ReP G fr q out) => h.len
  unfold OfPost at cO
  unfold GoPost at cG
  unfold ReachPost
  obtain ⟨N, hN⟩ : ∃ N, N = G.length := ⟨_, rfl⟩
  obtain ⟨L, hL⟩ : ∃ L, L = fr.length := ⟨_, rfl⟩
  obtain ⟨RP, hRP⟩ : ∃ RP, RP = ReP G fr := ⟨_, rfl⟩
  rw [← hRP] at hs0 hsn hsd hsl
  rw [← hL] at hfr hfl hsd ⊢
  rw [← hN] at hn cO hmb cG hs0 hsl ⊢
  have HWD := hid2 (fun (w1 : World) (AX : Option Addr) => reach_world w1 AX N)
  have HCO := hid2 cO
  have HMB := hid2 hmb
  have HCG := hid2 cG
  have HS0 := hid2 hs0
  have HSN := hid2 hsn
  have HSD := hid2 hsd
  have HSL := hid2 hsl
  have HFR := hid2 hfr
  have HL := hid2 hL
  clear hg hs cO hmb cG hs0 hsn hsd hsl hfr hL hN hRP
  go_enter Try.func17, Try.ntmps17
  go_wp2_with (first
    | (go_at_call 22; refine HCO.out.mono ?_; rintro e w1 ⟨AX, rfl, hgx, hb1⟩; have HGX := hid2 (hgx.grd (W := w1) (fun _ _ _ => rfl)); have HB1 := hid2 hb1; have HZ1 := hid2 (HWD.out w1 AX).1; have HRS := hid2 (HWD.out w1 AX).2; clear hgx hb1)
    | ((with_reducible refine wpList_made (HMB.out _) ?_ ?_); exact ⟨rfl, rfl⟩)
    | ((with_reducible refine wpList_store_lit (w1.heap.size + 1 + 1 + 1) 0 (.func (.func 31) #[] #[.pointer (some ⟨w1.heap.size, 0, none⟩), .pointer (some ⟨w1.heap.size + 1 + 1, 0, none⟩), .pointer (some ⟨w1.heap.size + 1 + 1 + 1, 0, none⟩)]) [.func (.func 31) #[] #[.pointer (some ⟨w1.heap.size, 0, none⟩), .pointer (some ⟨w1.heap.size + 1 + 1, 0, none⟩), .pointer (some ⟨w1.heap.size + 1 + 1 + 1, 0, none⟩)]] rfl #[Value.nilFunc] 46 HZ1.out (by kernel_rfl) (by simp) (by simp [Value.oneCell']) ?_ ?_); exact ⟨rfl, rfl⟩))
  obtain ⟨W5, hW5⟩ : ∃ W5, W5 = (((((w1.alloc (.cells #[.slice AX N N] 38)).alloc (.cells (boolV (List.replicate N false)).toArray 4)).alloc (.cells #[.slice (some ⟨w1.heap.size + 1, 0, none⟩) N N] 34)).alloc (.cells #[Value.nilFunc] 46)).setRow (w1.heap.size + 1 + 1 + 1) (laid #[Value.nilFunc] 0 [.func (.func 31) #[] #[.pointer (some ⟨w1.heap.size, 0, none⟩), .pointer (some ⟨w1.heap.size + 1 + 1, 0, none⟩), .pointer (some ⟨w1.heap.size + 1 + 1 + 1, 0, none⟩)]])) := ⟨_, rfl⟩
  rw [← hW5] at HRS ⊢
  clear HZ1 hW5 HWD
  go_loopg [9, 18] L (fun gk x9 qv wr => ∃ (q : Nat) (o : List Bool), q + gk = L ∧ qv = .int .i64 q ∧ RP q o ∧ RsS w1 AX N w1.heap.size (w1.heap.size + 1) (w1.heap.size + 1 + 1) (w1.heap.size + 1 + 1 + 1) o wr)
  case atStart => exact ⟨0, _, by omega, rfl, HS0.out, HRS.out⟩
  case round =>
    clear HRS
    obtain ⟨q, o, hq, rfl, hrp, hrs⟩ := hrel
    have HRP := hid2 hrp
    have HRS := hid2 hrs
    have c7 : wr.cell? ⟨w1.heap.size + 1 + 1 + 1, 0, none⟩ = some (.func (.func 31) #[] #[.pointer (some ⟨w1.heap.size, 0, none⟩), .pointer (some ⟨w1.heap.size + 1 + 1, 0, none⟩), .pointer (some ⟨w1.heap.size + 1 + 1 + 1, 0, none⟩)]) := hrs.b7.cells 0
    have c6 : wr.cell? ⟨w1.heap.size + 1 + 1, 0, none⟩ = some (.slice (some ⟨w1.heap.size + 1, 0, none⟩) N N) := hrs.b6.cells 0
    clear hrp hrs
    by_cases hqL : q < L
    · have hqL' : (q : Int) < L := by omega
      have hq0 : (0 : Int) ≤ q := by omega
      obtain ⟨x, hx⟩ : ∃ x, fr[q]? = some x := ⟨_, List.getElem?_eq_getElem (by rw [← HL.out]; exact hqL)⟩
      obtain ⟨b, ob, rfl, cx⟩ := int_cell (HFR.out.below_all (HB1.out.trans (HRS.out.low.mono HB1.out.size))) hx
      have hc := HCG.out w1 AX HGX.out w1.heap.size (w1.heap.size + 1) (w1.heap.size + 1 + 1) (w1.heap.size + 1 + 1 + 1) o wr x (HSL.out q o HRP.out) HRS.out
      have HC := hid2 hc
      have HNX := hid2 (fun o' hp => HSN.out q x o o' HRP.out hx hp)
      clear hx hc hqL
      go_wp2_with (first | (go_at_call 31; refine HC.out.mono ?_; rintro e w2 ⟨rfl, o', hp, hs'⟩; have HP := hid2 hp; have HS3 := hid2 hs'; clear hp hs'))
      go_roundg (gk - 1)
      case rel => exact ⟨q + 1, o', by omega, by go_num, HNX.out o' HP.out, HS3.out⟩
      case measure => omega
    · have hqL2 : q = L := by omega
      have hqL' : ¬ (q : Int) < L := by omega
      have HF := hid2 (HSD.out o (by rw [← hqL2]; exact HRP.out))
      have HRD := hid2 (show Rd wr 1 (some ⟨w1.heap.size + 1, 0, none⟩) N (boolV o) from Box.rd ⟨_, HRS.out.bT⟩ (by rw [boolV, List.length_map]; exact HSL.out q o HRP.out))
      clear hqL hqL2
      go_wp2_with fail
      go_ret
      exact ⟨o, HF.out, _, ⟨_, rfl⟩, HRD.out, HB1.out.trans (HRS.out.low.mono HB1.out.size)⟩
end Go.Proofs.Ytccilmnlepekeaa
