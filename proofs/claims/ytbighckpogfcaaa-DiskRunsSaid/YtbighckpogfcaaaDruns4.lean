/- A disk as the reference has it: the law's Same. -/
import Derived.Test.YtbighckpogfcaaaDruns3
namespace Go.Proofs.Ytbighckpogfcaaa
open Go.RowKit Go.Maps
set_option maxRecDepth 100000 in
set_option maxHeartbeats 2000000 in
theorem same07_any (w : World) (p b n : Nat) (M : Tab FileE) (left l2 : Int) (h : DiskIs w p b n M left) (hn : n ≤ 1000000000) (A : Option Addr) (c : Nat) (hr : Rd w 3 A M.length (rfsV M)) (hl : M.length ≤ 1000000) (hz : ∀ x ∈ M, x.1.length ≤ 1000000000) :
    Calls Try.prog 28 #[.pointer (some ⟨p, 0, none⟩), .agg #[.slice A M.length c, .int .i64 l2]] w fun e w' => e = .returned (.int .i64 1) ∧ Below w.heap.size w w' := by
  have hri := MapIs.rises h.2 (string_keyed Try.underlying9)
  have hlt := h.lt
  obtain ⟨N, hN⟩ : ∃ N, N = M.length := ⟨_, rfl⟩
  obtain ⟨g, hg⟩ : ∃ g, g = w.heap.size := ⟨_, rfl⟩
  have hD := fun (W : World) (hb : Below g w W) => h.below hb (by rw [hg]; exact hlt.1) (by rw [hg]; exact hlt.2)
  have hnames := fun (W : World) (hb : Below g w W) => names_any W p b n M left (hD W hb) hn
  have hnames7 := fun (W : World) (hb : Below g w W) => names07m_any W A c M l2 (hr.below_all (by rw [← hg]; exact hb)) (by omega)
  obtain ⟨V, hV⟩ : ∃ V, V = strV (M.map (·.1)) := ⟨_, rfl⟩
  rw [← hN, ← hV] at hnames hnames7
  have hsame := fun (W : World) (B1 B2 : Option Addr) (c1 c2 : Nat) (h1 : Rd W 1 B1 N V) (h2 : Rd W 1 B2 N V) => same01_any W B1 B2 N c1 c2 ((M.map (·.1)).map strB) (by rw [← strV_map, ← hV]; exact h1) (by rw [← strV_map, ← hV]; exact h2) (by omega)
  have hcell := fun (W : World) (hb : Below g w W) (k : Nat) (x : List UInt8 × FileE) (hx : M[k]? = some x) => rf_cells (hr.below_all (by rw [← hg]; exact hb)) hx
  have hread := fun (W : World) (hb : Below g w W) (k : Nat) (x : List UInt8 × FileE) (hx : M[k]? = some x) => read_at W p b n M left (hD W hb) (strB x.1) (strB_list x.1) (hz x (List.mem_of_getElem? hx)) (show readV M x.1 = .tuple #[.string (strB x.2.1), .int .i64 0] by unfold readV; rw [getM_at hri hx])
  have HN := hid2 hN
  have HG := hid2 hg
  have HNM := hid2 hnames
  have HNM7 := hid2 hnames7
  have HSM := hid2 hsame
  have HCL := hid2 hcell
  have HRD := hid2 hread
  have hNl : (N : Int) ≤ 1000000 := by omega
  obtain ⟨W, hW⟩ : ∃ W, W = w.alloc (.cells #[.slice A N c, .int .i64 l2] 46) := ⟨_, rfl⟩
  have r0 : Box W g [.slice A N c, .int .i64 l2] := by rw [hW]; exact Box.new' _ _ _ hg.symm
  have hbw : Below g w W := by rw [hW]; exact (Below.refl _ _).alloc (by omega) _
  have HW := hid2 hW
  have s0 : W.cell? ⟨g, 0, none⟩ = some (.slice A N c) := r0.cells 0
  have s1 : W.cell? ⟨g, 1, none⟩ = some (.int .i64 l2) := r0.cells 1
  have hzW : g + 1 ≤ W.heap.size := by rw [hW, World.size_alloc]; omega
  have KS := hid2 (fun (w4 : World) (h : Below W.heap.size W w4) => show w4.cell? ⟨g, 0, none⟩ = some (.slice A N c) ∧ w4.cell? ⟨g, 1, none⟩ = some (.int .i64 l2) from ⟨(r0.below_all h).cells 0, (r0.below_all h).cells 1⟩)
  rw [← hN]
  clear hN hg hV hD hnames hnames7 hsame hcell hread hW r0 h hr hl hz hlt hri hn
  go_enter Try.func28, Try.ntmps28
  go_wp2_with fail
  rw [← HW.out, ← HG.out]
  go_region_held3 (fun w' => w'.cell? ⟨g, 0, none⟩ = some (.slice A N c) ∧ w'.cell? ⟨g, 1, none⟩ = some (.int .i64 l2)) (first | exact KS.out _ hb5 | exact KS.out _ hb3 | exact KS.out _ hb4 | go_keep) (first
    | (go_at_call 20; refine (HNM.out _ (by first | exact hbw.drew | exact hbw.trans (hb4.mono (show g ≤ W.heap.size by omega)))).mono ?_; rintro e w3 ⟨A3, c3, rfl, ho3, hb3x⟩; have hb3 : Below W.heap.size W w3 := (by first | exact (Below.refl W.heap.size W).drew.trans hb3x | exact hb4.trans (hb3x.mono hb4.size)); have HO3 := hid2 ho3.rd; have HB3X := hid2 hb3x; clear ho3 hb3x)
    | (go_at_call 63; refine (HNM7.out _ (by first | exact hbw.drew | exact hbw.trans (hb3.mono (show g ≤ W.heap.size by omega)))).mono ?_; rintro e w4 ⟨A4, c4, rfl, ho4, hb4x⟩; have hb4 : Below W.heap.size W w4 := (by first | exact (Below.refl W.heap.size W).drew.trans hb4x | exact hb3.trans (hb4x.mono hb3.size)); have HO4 := hid2 ho4; have HB4X := hid2 hb4x; clear ho4 hb4x)
    | (go_at_call 24; refine (HSM.out _ A3 A4 c3 c4 (by first | exact HO3.out | exact HO3.out.below_all HB4X.out) (by first | exact HO4.out | exact HO4.out.below_all HB3X.out)).mono ?_; rintro e w5 ⟨rfl, hb5x⟩; have hb5 : Below W.heap.size W w5 := (by first | exact hb4.trans (hb5x.mono hb4.size) | exact hb3.trans (hb5x.mono hb3.size)); clear hb5x))
  all_goals
    obtain ⟨t0, t1⟩ := KS.out _ hb5
    have hbw5 := hbw.trans (hb5.mono (show g ≤ W.heap.size by omega))
    have HBW5 := hid2 hbw5
    have hzz := hb5.size
    clear hb5 hb3 hb4 s0 s1 hbw hbw5 HO3 HO4 HB3X HB4X
    go_wp2_with fail
    clear t0 t1
    go_loopg [22] N (fun gk i wr => ∃ k : Nat, k + gk = N ∧ i = .int .i64 k ∧ Below g w wr)
    case atStart => exact ⟨0, by omega, rfl, HBW5.out⟩
    case round =>
      obtain ⟨k, hk, rfl, hb⟩ := hrel
      by_cases hlt : k < N
      · have hlt' : (k : Int) < N := by omega
        obtain ⟨x, hx⟩ : ∃ x, M[k]? = some x := ⟨_, List.getElem?_eq_getElem (by rw [← HN.out]; exact hlt)⟩
        obtain ⟨b', o, rfl, e0, e1, e2⟩ := HCL.out wr hb k x hx
        have hrd := fun (W : World) (hb : Below g w W) => HRD.out W hb k x hx
        obtain ⟨S, hS⟩ : ∃ S, S = strB x.1 := ⟨_, rfl⟩
        obtain ⟨T, hT⟩ : ∃ T, T = strB x.2.1 := ⟨_, rfl⟩
        obtain ⟨U, hU⟩ : ∃ U : Int, U = x.2.2 := ⟨_, rfl⟩
        rw [← hS] at e0 hrd
        rw [← hT] at e1 hrd
        rw [← hU] at e2
        obtain ⟨G, hG⟩ : ∃ G, G = wr.heap.size := ⟨_, rfl⟩
        obtain ⟨W1, hW1⟩ : ∃ W1, W1 = wr.alloc (.cells #[.string S, .string T, .int .i64 U] 108) := ⟨_, rfl⟩
        have q1 : Box W1 G [.string S, .string T, .int .i64 U] := by rw [hW1]; exact Box.new' _ _ _ hG.symm
        have hgr : g ≤ wr.heap.size := by have := hb.size; rw [← HG.out] at this; exact this
        have hb1 : Below g w W1 := by rw [hW1]; exact hb.alloc hgr _
        have HRD2 := hid2 hrd
        have HQ1 := hid2 q1
        have HB1 := hid2 hb1
        have HW1 := hid2 hW1
        have HGG := hid2 hG
        clear hrd hx hS hT hU hW1 hG q1 hb1 hlt
        go_wp2_with (go_at_call 18; rw [← HW1.out, ← HGG.out]; refine (HRD2.out _ HB1.out).mono ?_; rintro e w6 ⟨rfl, hb6⟩; have q6 := HQ1.out.below_all hb6; have y1 : w6.cell? ⟨G, 1, none⟩ = some (.string T) := q6.cells 1; have hb6' := HB1.out.trans (hb6.mono (by have := HB1.out.size; rw [← HG.out] at this; exact this)); clear hb6 q6)
        go_roundg (gk - 1)
        case rel => exact ⟨k + 1, by omega, by go_num, hb6'⟩
        case measure => omega
      · have hkN : k = N := by omega
        have hlt' : ¬ (k : Int) < N := by omega
        have HB := hid2 hb
        clear hkN hlt hb
        go_wp2_with fail
        go_ret
        have := HB.out
        rw [HG.out] at this
        exact ⟨rfl, this⟩
end Go.Proofs.Ytbighckpogfcaaa
