/- The reference's Crash at any list of files. -/
import Derived.Test.YtbighckpogfcaaaDruns2
namespace Go.Proofs.Ytbighckpogfcaaa
open Go.RowKit Go.Maps
/-- between two rounds of the reference's Crash -/
structure RCInv (w : World) (p2 : Nat) (M : Tab FileE) (ps : List Int) (k K : Nat) (A' : Option Addr) (c' : Nat) (wr : World) : Prop where
  own : Own wr (p2 + 1) 108 3 A' k c' (rfsV (crashP (M.take k) ps).1)
  box : Box wr p2 [.slice A' k c', .int .i64 (-1)]
  below : Below w.heap.size w wr
  res : Box wr (w.heap.size + 1) [.slice none 0 0, .int .i64 0]
  rest : (crashP (M.take k) ps).2 = ps.drop K
  le : K ≤ k
theorem RCInv.next {w : World} {p2 : Nat} {M : Tab FileE} {ps : List Int} {k K K2 : Nat} {A' A3 : Option Addr} {c' c3 : Nat} {wr W w3 : World} (h : RCInv w p2 M ps k K A' c' wr) (hri : Rises M) {x : List UInt8 × FileE} (hx : M[k]? = some x)
    (hbW : Below wr.heap.size wr W) (hp : w.heap.size + 1 < p2) {cs : List Value} (hcs : cs = rfV (crash1 x (ps.drop K)).1) {O : Obj} (hg : (W.alloc O).grownBy w3 (blockOf A')) (ho : Own w3 (p2 + 1) 108 3 A3 (k + 1) c3 (rfsV (crashP (M.take k) ps).1 ++ cs))
    (hK : (crash1 x (ps.drop K)).2 = ps.drop K2) (hK2 : K2 ≤ K + 1) : RCInv w p2 M ps (k + 1) K2 A3 c3 (w3.setCell ⟨p2, 0, none⟩ (.slice A3 (k + 1) c3)) := by
  obtain ⟨h1, _⟩ := crash_step hri ps hx
  have hW2 : wr.heap.size ≤ W.heap.size := hbW.size
  have hpl := h.box.lt
  have hb3 : Below w.heap.size w w3 := ((h.below.trans (hbW.mono h.below.size)).alloc (Nat.le_trans h.below.size hW2) O).grown hg (by rw [World.size_alloc]; have := h.below.size; omega) (fun g e => by have := (h.own.block g e).1; omega)
  refine ⟨?_, ?_, hb3.setCell (show w.heap.size ≤ p2 by omega) _, ?_, ?_, by have := h.le; omega⟩
  · rw [h1, h.rest, ← rfsV_snoc, ← hcs]
    exact ho.setOther (p := ⟨p2, 0, none⟩) (fun e => by have := (ho.block _ e).1; simp at this; omega) _
  · exact ((((h.box.below hbW hpl).alloc O).grown hg (fun e => by have := (h.own.block _ e.symm).1; omega)).set 0 _)
  · exact ((((h.res.below hbW (by omega)).alloc O).grown hg (fun e => by have := (h.own.block _ e.symm).1; omega)).other (show _ ≠ p2 by omega) _)
  · rw [h1, h.rest]
    exact hK
/-- what the reference's Crash answers -/
def RCPost (w : World) (L : Tab FileE) (n : Nat) (e : Ending) (w' : World) : Prop := ∃ A' c', e = .returned (.agg #[.slice A' n c', .int .i64 (-1)]) ∧ Own w' w.heap.size 108 3 A' n c' (rfsV L) ∧ Below w.heap.size w w'
theorem ref_arith {u : Nat} {pick : Int} (hu : 0 < u) : ∃ P R : Int, pick.tmod ((u : Int) + 1) = P ∧ -(u : Int) - 1 < P ∧ P < (u : Int) + 1 ∧ (P + ((u : Int) + 1)).tmod ((u : Int) + 1) = R ∧ R = pick % ((u : Int) + 1) ∧ 0 ≤ R ∧ R ≤ u := by
  obtain ⟨P, R, h1, h2, h3, h4, h5, h6, h7⟩ := keep_arith (u := u) (pick := pick) hu
  exact ⟨P, R, h1, h2, h3, by rw [← Int.add_assoc]; exact h4, h5, h6, h7⟩
set_option maxRecDepth 100000 in
set_option maxHeartbeats 2000000 in
theorem crash07m_any (w : World) (A : Option Addr) (c : Nat) (M : Tab FileE) (left : Int) (hr : Rd w 3 A M.length (rfsV M)) (hl : M.length ≤ 1000000) (hri : Rises M) (hC : ∀ x ∈ M, x.1.length ≤ 1000000000 ∧ x.2.1.length ≤ 1000000000 ∧ x.2.2 ≤ x.2.1.length)
    (B : Option Addr) (c2 : Nat) (ps : List Int) (hp : Rd w 1 B ps.length (intV ps)) (hpl : ps.length ≤ 1000000000) :
    Calls Try.prog 27 #[.agg #[.slice A M.length c, .int .i64 left], .slice B ps.length c2] w (RCPost w (crashP M ps).1 M.length) := by
  obtain ⟨N, hN⟩ : ∃ N, N = M.length := ⟨_, rfl⟩
  obtain ⟨Q, hQ⟩ : ∃ Q, Q = ps.length := ⟨_, rfl⟩
  have hN' : (N : Int) ≤ 1000000 := by omega
  have HR := hid2 hr
  have HP := hid2 hp
  have HC := hid2 hC
  have HRI := hid2 hri
  rw [← hN] at hl ⊢
  rw [← hQ] at hpl ⊢
  have hpl' : (Q : Int) ≤ 1000000000 := by omega
  have HN := hid2 hN
  have HQ := hid2 hQ
  obtain ⟨g, hg⟩ : ∃ g, g = w.heap.size := ⟨_, rfl⟩
  obtain ⟨W3, hW3⟩ : ∃ W3, W3 = (w.alloc (.cells #[.slice A N c, .int .i64 left] 46)).alloc (.cells #[.slice none 0 0, .int .i64 0] 46) := ⟨_, rfl⟩
  have z3 : W3.heap.size = g + 2 := by rw [hW3, hg]; simp
  have b0 : Box W3 g [.slice A N c, .int .i64 left] := by rw [hW3]; exact (Box.new' _ _ _ (by simp [hg])).alloc _
  have b1 : Box W3 (g + 1) [.slice none 0 0, .int .i64 0] := by rw [hW3]; exact Box.new' _ _ _ (by simp [hg])
  have hbW : Below g w W3 := by rw [hW3, hg]; exact ((Below.refl _ _).alloc (by simp) _).alloc (by simp) _
  have HW3 := hid2 hW3
  have HG := hid2 hg
  clear hW3 hr hp hC hri hN hQ hg
  go_enter Try.func27, Try.ntmps27
  go_wp2_with (go_at_call 25; rw [← HW3.out, ← HG.out]; refine (new07_any _).mono ?_; rintro e w2 ⟨rfl, hb2⟩; have k0 := b0.below_all hb2; have k1 := b1.below_all hb2; have hbw2 := hbW.trans (hb2.mono (show g ≤ W3.heap.size by omega)); have hz2 := hb2.size; rw [z3] at hz2; have hgl : g < w2.heap.size := (by omega); have c0 : w2.cell? ⟨g, 0, none⟩ = some (.slice A N c) := k0.cells 0; have K0 := hid2 k0; have K1 := hid2 k1; have HBW2 := hid2 hbw2; clear b0 b1 hb2 k0 k1 hbW hbw2)
  obtain ⟨p2, hp2⟩ : ∃ p2, p2 = w2.heap.size := ⟨_, rfl⟩
  rw [← hp2]
  have HP2 := hid2 hp2
  clear hp2
  generalize hW : World.alloc _ _ = W
  have hinv0 : RCInv w p2 M ps 0 0 none 0 W := by
    refine ⟨Own.nil _ _ _ _, by rw [← hW]; exact Box.new' _ _ _ HP2.out.symm, by rw [← HG.out, ← hW]; exact HBW2.out.alloc (by omega) _, by rw [← HG.out, ← hW]; exact K1.out.alloc _, rfl, Nat.le_refl _⟩
  have HI0 := hid2 hinv0
  have hpg : g + 1 < p2 := by rw [HP2.out]; omega
  clear hinv0 hW
  clear hz2 hgl c0
  go_loopg [6, 15] N (fun gk kv i wr => ∃ (k K : Nat) (A' : Option Addr) (c' : Nat), k + gk = N ∧ i = .int .i64 k ∧ kv = .int .i64 K ∧ RCInv w p2 M ps k K A' c' wr)
  case atStart => exact ⟨0, 0, _, _, by omega, rfl, rfl, HI0.out⟩
  case round =>
    obtain ⟨k, K, A', c', hk, rfl, rfl, hinv⟩ := hrel
    by_cases hlt : k < N
    · have hlt' : (k : Int) < N := by omega
      obtain ⟨x, hx⟩ : ∃ x, M[k]? = some x := ⟨_, List.getElem?_eq_getElem (by rw [← HN.out]; exact hlt)⟩
      obtain ⟨kx, d, sv⟩ := x
      obtain ⟨hk1, hd1, hsvl⟩ := HC.out _ (List.mem_of_getElem? hx)
      simp only at hk1 hd1 hsvl
      obtain ⟨b, o, rfl, e0, e1, e2⟩ := rf_cells (HR.out.below_all hinv.below) hx
      simp only at e0 e1 e2
      obtain ⟨S, hS⟩ : ∃ S, S = strB kx := ⟨_, rfl⟩
      obtain ⟨Sd, hSd⟩ : ∃ Sd, Sd = strB d := ⟨_, rfl⟩
      rw [← hS] at e0
      rw [← hSd] at e1
      have hSds : Sd.size = d.length := by rw [hSd, strB_size]
      have hSdl : (Sd.size : Int) ≤ 1000000000 := by omega
      have hsvB : (sv : Int) ≤ 1000000000 := by omega
      have hK : K ≤ k := hinv.le
      have hKB : (K : Int) ≤ 1000000 := by omega
      obtain ⟨G, hG⟩ : ∃ G, G = wr.heap.size := ⟨_, rfl⟩
      have HGG := hid2 hG
      have HINV := hid2 hinv
      have HX := hid2 hx
      have HS := hid2 hS
      have HSD := hid2 hSd
      have HSDS := hid2 hSds
      have hpr := hinv.box.lt
      have hgr : g + 1 < wr.heap.size := by have := hinv.res.lt; rw [← HG.out] at this; exact this
      rw [← hG] at hpr hgr
      have hpG : p2 ≠ G := by omega
      have hGp : G ≠ p2 := by omega
      have hRP : ∀ h : K < Q, ∃ bp op, B = some ⟨bp, op, none⟩ ∧ wr.cell? ⟨bp, op + K, none⟩ = some (.int .i64 (ps[K]'(by rw [← HQ.out]; exact h))) ∧ bp < wr.heap.size := fun h => by
        have hl2 : K < ps.length := by rw [← HQ.out]; exact h
        obtain ⟨bp, op, e, hc⟩ := (HP.out.below_all hinv.below).cell (j := K) (by rw [intV_length]; exact hl2)
        exact ⟨bp, op, e, by simpa [intV] using hc, World.block_lt_of_cell? _ _ hc⟩
      have HRP := hid2 hRP
      clear hinv hx hS hSd hSds hG hRP hk1 hlt
      by_cases hu : sv < d.length
      · obtain ⟨u, hu'⟩ : ∃ u, u = d.length - sv := ⟨_, rfl⟩
        have hu0 : 0 < u := by omega
        have hlts : (sv : Int) < Sd.size := by rw [HSDS.out]; omega
        have hun2 : (Sd.size : Int) - sv = u := by rw [HSDS.out]; omega
        have hu0' : (0 : Int) < u := by omega
        have hune : ¬ ((u : Int) + 1 = 0) := by omega
        have huB : (u : Int) ≤ 1000000000 := by omega
        have hsv0 : (0 : Int) ≤ sv := by omega
        have HU := hid2 hu
        have HU2 := hid2 hu'
        have HD1 := hid2 hd1
        have HSVL := hid2 hsvl
        clear hu hu' hd1 hsvl hu0
        by_cases hKQ : K < Q
        · obtain ⟨bp, op, rfl, hpick, hbpr⟩ := HRP.out hKQ
          have hdr : ps.drop K = ps[K]'(by rw [← HQ.out]; exact hKQ) :: ps.drop (K + 1) := List.drop_eq_getElem_cons _
          obtain ⟨pick, hpk⟩ : ∃ pick, pick = ps[K]'(by rw [← HQ.out]; exact hKQ) := ⟨_, rfl⟩
          rw [← hpk] at hpick hdr
          have hKQ' : (K : Int) < Q := by omega
          have HDR := hid2 hdr
          have hKn : K + 1 ≤ K + 1 := Nat.le_refl _
          clear hpk hdr hKQ
          obtain ⟨P, R, hP, hP1, hP2, hR, hR1, hR2, hR3⟩ := ref_arith (u := u) (pick := pick) (by omega)
          obtain ⟨T, hT⟩ : ∃ T : Nat, T = sv + R.toNat := ⟨_, rfl⟩
          have hcr : crash1 (kx, (d, sv)) (ps.drop K) = ((kx, (d.take T, T)), ps.drop (K + 1)) := by
            unfold crash1
            rw [if_pos HU.out, HDR.out, hT, hR1, HU2.out]
            rfl
          have hTd : T ≤ d.length := by have := HU2.out; omega
          obtain ⟨St, hSt⟩ : ∃ St, St = strB (d.take T) := ⟨_, rfl⟩
          have hStz : (St.size : Int) = T := by rw [hSt, strB_size, List.length_take]; omega
          have hx1 : Sd.extract 0 T = St := by rw [hSt, HSD.out]; exact strB_take d T
          have hcs : [Value.string S, Value.string St, Value.int .i64 (St.size : Nat)] = rfV (crash1 (kx, (d, sv)) (ps.drop K)).1 := by rw [hcr, rfV, HS.out, hSt, show (T : Int) = ((strB (d.take T)).size : Nat) by rw [← hSt]; exact hStz.symm]
          have HNX : Hid2 ((crash1 (kx, (d, sv)) (ps.drop K)).2 = ps.drop (K + 1) ∧ K + 1 ≤ K + 1) := hid2 ⟨by rw [hcr], Nat.le_refl _⟩
          have hTi : (T : Int) ≤ Sd.size := by rw [HSDS.out]; omega
          have hw1 : IntKind.i64.wrap ((u : Int) + 1) = (u : Int) + 1 := IntWalk.i64_in _ (by constructor <;> omega)
          have hw3 : IntKind.i64.wrap (P + ((u : Int) + 1)) = P + ((u : Int) + 1) := IntWalk.i64_in _ (by constructor <;> omega)
          have hw4 : IntKind.i64.wrap ((sv : Int) + R) = (T : Int) := by rw [IntWalk.i64_in _ (by constructor <;> omega)]; omega
          have hwP : IntKind.i64.wrap P = P := IntWalk.i64_in _ (by constructor <;> omega)
          have hwR : IntKind.i64.wrap R = R := IntWalk.i64_in _ (by constructor <;> omega)
          have hStB : (St.size : Int) ≤ 1000000000 := by rw [hStz]; omega
          have HCS := hid2 hcs
          clear hcr hTd hSt hcs
          clear hT hR1 hStz
          go_upto_region 12 with (fail)
          rw [← HGG.out]
          generalize hW0 : World.alloc _ _ = W0
          have q0 : Box W0 G [.string S, .string Sd, .int .i64 sv] := by rw [← hW0]; exact Box.new' _ _ _ HGG.out.symm
          have hb0 : Below wr.heap.size wr W0 := by rw [← hW0]; exact (Below.refl _ _).alloc (Nat.le_refl _) _
          have w0 : W0.cell? ⟨G, 0, none⟩ = some (.string S) := q0.cells 0
          have w1 : W0.cell? ⟨G, 1, none⟩ = some (.string Sd) := q0.cells 1
          have w2 : W0.cell? ⟨G, 2, none⟩ = some (.int .i64 sv) := q0.cells 2
          have v1 : W0.frozen? ⟨G, 1, none⟩ = false := q0.free 1
          have v2 : W0.frozen? ⟨G, 2, none⟩ = false := q0.free 2
          have Q0 := hid2 q0
          have HB0 := hid2 hb0
          clear hW0 q0 hb0
          go_still_tail 14, (by kernel_rfl)
          change wpList _ _ _ _ _ W0.drew
          go_upto_region 14 with (fail)
          generalize hW : World.drew (World.setCell _ _ _) = W
          have q1 : Box W G [.string S, .string St, .int .i64 (St.size : Nat)] := by rw [← hW]; exact ((Q0.out.set 1 _).set 2 _).drew
          have hbW : Below wr.heap.size wr W := by rw [← hW]; exact ((HB0.out.setCell (p := ⟨G, 1, none⟩) (show wr.heap.size ≤ G by rw [HGG.out]; exact Nat.le_refl _) _).setCell (p := ⟨G, 2, none⟩) (show wr.heap.size ≤ G by rw [HGG.out]; exact Nat.le_refl _) _).drew
          have hownW := HINV.out.own.below hbW (Nat.le_refl _)
          have q2 := HINV.out.box.below hbW HINV.out.box.lt
          have x0 : W.cell? ⟨G, 0, none⟩ = some (.string S) := q1.cells 0
          have x1 : W.cell? ⟨G, 1, none⟩ = some (.string St) := q1.cells 1
          have x2 : W.cell? ⟨G, 2, none⟩ = some (.int .i64 (St.size : Nat)) := q1.cells 2
          have y0 : W.cell? ⟨p2, 0, none⟩ = some (.slice A' k c') := q2.cells 0
          obtain ⟨V, hV⟩ : ∃ V, V = rfsV (crashP (M.take k) ps).1 := ⟨_, rfl⟩
          rw [← hV] at hownW
          have HV := hid2 hV
          have HBW := hid2 hbW
          have HQ2 := hid2 q2
          have hpW := q2.lt
          have hown2 := hownW.alloc (.cells #[.string S, .string St, .int .i64 (St.size : Nat)] 108)
          have hrd0 := Rd.of_lit W #[.string S, .string St, .int .i64 (St.size : Nat)] 108 3 1 (by decide) rfl
          have hrd : Rd (W.alloc (.cells #[.string S, .string St, .int .i64 (St.size : Nat)] 108)) 3 (some ⟨W.heap.size, 0, none⟩) 1 [.string S, .string St, .int .i64 (St.size : Nat)] := by simpa using hrd0
          have hone : ∀ v ∈ [Value.string S, Value.string St, Value.int .i64 (St.size : Nat)], v.oneCell' = true := by simp [Value.oneCell']
          clear w0 w1 w2 v1 v2 hW q1 hbW hownW hV q2 hrd0
          go_wp2_with (at_builtin; have _t := hown2; go_must ((with_reducible refine wpList_append_lit 108 (.agg #[.string ⟨#[]⟩, .string ⟨#[]⟩, .int .i64 0]) 3 40 Try.underlying44 info_rfile rfl (p2 + 1) A' k c' V hown2 1 _ (.slice (some ⟨W.heap.size, 0, none⟩) 1 1) (Src.slice Try.underlying44 hrd) hone ?_ ?_ ?_ ?_ ?_); (unfold maxLen; omega); omega; (simp; omega); exact ⟨rfl, rfl⟩; intro A3 c3 w3 hown3 hgr3 hbl3; have p3 := (HQ2.out.alloc (.cells #[.string S, .string St, .int .i64 (St.size : Nat)] 108)).grown hgr3 (fun e => by have := (HINV.out.own.block _ e.symm).1; omega); have y3 : w3.cell? ⟨p2, 0, none⟩ = some (.slice A' k c') := p3.cells 0; have yf : w3.frozen? ⟨p2, 0, none⟩ = false := p3.free 0; clear hown2 p3))
          go_roundg (gk - 1)
          case rel => exact ⟨k + 1, K + 1, A3, c3, by omega, by go_num, by first | rfl | go_num, RCInv.next HINV.out HRI.out HX.out HBW.out (by rw [← HG.out]; omega) HCS.out hgr3 (by rw [← HV.out]; exact hown3) HNX.out.1 HNX.out.2⟩
          case measure => omega
        · obtain ⟨pick, hpk⟩ : ∃ pick : Int, pick = 0 := ⟨_, rfl⟩
          have hdr : ps.drop K = [] := by rw [List.drop_eq_nil_iff, ← HQ.out]; omega
          have hdr2 : ps.drop (K + 1) = [] := by rw [List.drop_eq_nil_iff, ← HQ.out]; omega
          have hKQ' : ¬ (K : Int) < Q := by omega
          have HDR := hid2 hdr
          have HDR2 := hid2 hdr2
          have HPK := hid2 hpk
          clear hpk hdr hdr2 hKQ
          obtain ⟨P, R, hP, hP1, hP2, hR, hR1, hR2, hR3⟩ := ref_arith (u := u) (pick := pick) (by omega)
          obtain ⟨T, hT⟩ : ∃ T : Nat, T = sv + R.toNat := ⟨_, rfl⟩
          have hcr : crash1 (kx, (d, sv)) (ps.drop K) = ((kx, (d.take T, T)), ps.drop (K + 1)) := by
            unfold crash1
            rw [if_pos HU.out, HDR.out, HDR2.out, hT, hR1, HU2.out]
            rw [HPK.out]; rfl
          have hTd : T ≤ d.length := by have := HU2.out; omega
          obtain ⟨St, hSt⟩ : ∃ St, St = strB (d.take T) := ⟨_, rfl⟩
          have hStz : (St.size : Int) = T := by rw [hSt, strB_size, List.length_take]; omega
          have hx1 : Sd.extract 0 T = St := by rw [hSt, HSD.out]; exact strB_take d T
          have hcs : [Value.string S, Value.string St, Value.int .i64 (St.size : Nat)] = rfV (crash1 (kx, (d, sv)) (ps.drop K)).1 := by rw [hcr, rfV, HS.out, hSt, show (T : Int) = ((strB (d.take T)).size : Nat) by rw [← hSt]; exact hStz.symm]
          have HNX : Hid2 ((crash1 (kx, (d, sv)) (ps.drop K)).2 = ps.drop (K + 1) ∧ K + 1 ≤ K + 1) := hid2 ⟨by rw [hcr], Nat.le_refl _⟩
          have hTi : (T : Int) ≤ Sd.size := by rw [HSDS.out]; omega
          have hw1 : IntKind.i64.wrap ((u : Int) + 1) = (u : Int) + 1 := IntWalk.i64_in _ (by constructor <;> omega)
          have hw3 : IntKind.i64.wrap (P + ((u : Int) + 1)) = P + ((u : Int) + 1) := IntWalk.i64_in _ (by constructor <;> omega)
          have hw4 : IntKind.i64.wrap ((sv : Int) + R) = (T : Int) := by rw [IntWalk.i64_in _ (by constructor <;> omega)]; omega
          have hwP : IntKind.i64.wrap P = P := IntWalk.i64_in _ (by constructor <;> omega)
          have hwR : IntKind.i64.wrap R = R := IntWalk.i64_in _ (by constructor <;> omega)
          have hStB : (St.size : Int) ≤ 1000000000 := by rw [hStz]; omega
          have HCS := hid2 hcs
          clear hcr hTd hSt hcs
          rw [HPK.out] at hP
          clear hT hR1 hStz
          go_upto_region 12 with (fail)
          rw [← HGG.out]
          generalize hW0 : World.alloc _ _ = W0
          have q0 : Box W0 G [.string S, .string Sd, .int .i64 sv] := by rw [← hW0]; exact Box.new' _ _ _ HGG.out.symm
          have hb0 : Below wr.heap.size wr W0 := by rw [← hW0]; exact (Below.refl _ _).alloc (Nat.le_refl _) _
          have w0 : W0.cell? ⟨G, 0, none⟩ = some (.string S) := q0.cells 0
          have w1 : W0.cell? ⟨G, 1, none⟩ = some (.string Sd) := q0.cells 1
          have w2 : W0.cell? ⟨G, 2, none⟩ = some (.int .i64 sv) := q0.cells 2
          have v1 : W0.frozen? ⟨G, 1, none⟩ = false := q0.free 1
          have v2 : W0.frozen? ⟨G, 2, none⟩ = false := q0.free 2
          have Q0 := hid2 q0
          have HB0 := hid2 hb0
          clear hW0 q0 hb0
          go_still_tail 14, (by kernel_rfl)
          change wpList _ _ _ _ _ W0.drew
          go_upto_region 14 with (fail)
          generalize hW : World.drew (World.setCell _ _ _) = W
          have q1 : Box W G [.string S, .string St, .int .i64 (St.size : Nat)] := by rw [← hW]; exact ((Q0.out.set 1 _).set 2 _).drew
          have hbW : Below wr.heap.size wr W := by rw [← hW]; exact ((HB0.out.setCell (p := ⟨G, 1, none⟩) (show wr.heap.size ≤ G by rw [HGG.out]; exact Nat.le_refl _) _).setCell (p := ⟨G, 2, none⟩) (show wr.heap.size ≤ G by rw [HGG.out]; exact Nat.le_refl _) _).drew
          have hownW := HINV.out.own.below hbW (Nat.le_refl _)
          have q2 := HINV.out.box.below hbW HINV.out.box.lt
          have x0 : W.cell? ⟨G, 0, none⟩ = some (.string S) := q1.cells 0
          have x1 : W.cell? ⟨G, 1, none⟩ = some (.string St) := q1.cells 1
          have x2 : W.cell? ⟨G, 2, none⟩ = some (.int .i64 (St.size : Nat)) := q1.cells 2
          have y0 : W.cell? ⟨p2, 0, none⟩ = some (.slice A' k c') := q2.cells 0
          obtain ⟨V, hV⟩ : ∃ V, V = rfsV (crashP (M.take k) ps).1 := ⟨_, rfl⟩
          rw [← hV] at hownW
          have HV := hid2 hV
          have HBW := hid2 hbW
          have HQ2 := hid2 q2
          have hpW := q2.lt
          have hown2 := hownW.alloc (.cells #[.string S, .string St, .int .i64 (St.size : Nat)] 108)
          have hrd0 := Rd.of_lit W #[.string S, .string St, .int .i64 (St.size : Nat)] 108 3 1 (by decide) rfl
          have hrd : Rd (W.alloc (.cells #[.string S, .string St, .int .i64 (St.size : Nat)] 108)) 3 (some ⟨W.heap.size, 0, none⟩) 1 [.string S, .string St, .int .i64 (St.size : Nat)] := by simpa using hrd0
          have hone : ∀ v ∈ [Value.string S, Value.string St, Value.int .i64 (St.size : Nat)], v.oneCell' = true := by simp [Value.oneCell']
          clear w0 w1 w2 v1 v2 hW q1 hbW hownW hV q2 hrd0
          go_wp2_with (at_builtin; have _t := hown2; go_must ((with_reducible refine wpList_append_lit 108 (.agg #[.string ⟨#[]⟩, .string ⟨#[]⟩, .int .i64 0]) 3 40 Try.underlying44 info_rfile rfl (p2 + 1) A' k c' V hown2 1 _ (.slice (some ⟨W.heap.size, 0, none⟩) 1 1) (Src.slice Try.underlying44 hrd) hone ?_ ?_ ?_ ?_ ?_); (unfold maxLen; omega); omega; (simp; omega); exact ⟨rfl, rfl⟩; intro A3 c3 w3 hown3 hgr3 hbl3; have p3 := (HQ2.out.alloc (.cells #[.string S, .string St, .int .i64 (St.size : Nat)] 108)).grown hgr3 (fun e => by have := (HINV.out.own.block _ e.symm).1; omega); have y3 : w3.cell? ⟨p2, 0, none⟩ = some (.slice A' k c') := p3.cells 0; have yf : w3.frozen? ⟨p2, 0, none⟩ = false := p3.free 0; clear hown2 p3))
          go_roundg (gk - 1)
          case rel => exact ⟨k + 1, K + 1, A3, c3, by omega, by go_num, by first | rfl | go_num, RCInv.next HINV.out HRI.out HX.out HBW.out (by rw [← HG.out]; omega) HCS.out hgr3 (by rw [← HV.out]; exact hown3) HNX.out.1 HNX.out.2⟩
          case measure => omega
      · have hcr : crash1 (kx, (d, sv)) (ps.drop K) = ((kx, (d, d.length)), ps.drop K) := by unfold crash1; rw [if_neg hu]
        have hlts : ¬ (sv : Int) < Sd.size := by rw [HSDS.out]; omega
        have HCR := hid2 hcr
        obtain ⟨T, hT⟩ : ∃ T : Nat, T = Sd.size := ⟨_, rfl⟩
        have hcs : [Value.string S, Value.string Sd, Value.int .i64 (T : Nat)] = rfV (crash1 (kx, (d, sv)) (ps.drop K)).1 := by rw [hcr, rfV, HS.out, HSD.out, hT, HSDS.out]
        have HCS := hid2 hcs
        have HT := hid2 hT
        have HSVL := hid2 hsvl
        have HNX : Hid2 ((crash1 (kx, (d, sv)) (ps.drop K)).2 = ps.drop K ∧ K ≤ K + 1) := hid2 ⟨by rw [hcr], by omega⟩
        clear hcr hu hT hcs hd1 hsvl
        go_upto_region 14 with (fail)
        rw [← HT.out]
        rw [← HGG.out]
        generalize hW : World.alloc _ _ = W
        have q1 : Box W G [.string S, .string Sd, .int .i64 T] := by rw [← hW]; exact Box.new' _ _ _ HGG.out.symm
        have hbW : Below wr.heap.size wr W := by rw [← hW]; exact (Below.refl _ _).alloc (Nat.le_refl _) _
        have hownW := HINV.out.own.below hbW (Nat.le_refl _)
        have q2 := HINV.out.box.below hbW HINV.out.box.lt
        have x0 : W.cell? ⟨G, 0, none⟩ = some (.string S) := q1.cells 0
        have x1 : W.cell? ⟨G, 1, none⟩ = some (.string Sd) := q1.cells 1
        have x2 : W.cell? ⟨G, 2, none⟩ = some (.int .i64 T) := q1.cells 2
        have y0 : W.cell? ⟨p2, 0, none⟩ = some (.slice A' k c') := q2.cells 0
        obtain ⟨V, hV⟩ : ∃ V, V = rfsV (crashP (M.take k) ps).1 := ⟨_, rfl⟩
        rw [← hV] at hownW
        have HV := hid2 hV
        have HBW := hid2 hbW
        have HQ2 := hid2 q2
        have hpW := q2.lt
        have hown2 := hownW.alloc (.cells #[.string S, .string Sd, .int .i64 T] 108)
        have hrd0 := Rd.of_lit W #[.string S, .string Sd, .int .i64 T] 108 3 1 (by decide) rfl
        have hrd : Rd (W.alloc (.cells #[.string S, .string Sd, .int .i64 T] 108)) 3 (some ⟨W.heap.size, 0, none⟩) 1 [.string S, .string Sd, .int .i64 T] := by simpa using hrd0
        have hone : ∀ v ∈ [Value.string S, Value.string Sd, Value.int .i64 T], v.oneCell' = true := by simp [Value.oneCell']
        clear hW q1 hbW hownW hV q2 hrd0
        go_wp2_with (at_builtin; have _t := hown2; go_must ((with_reducible refine wpList_append_lit 108 (.agg #[.string ⟨#[]⟩, .string ⟨#[]⟩, .int .i64 0]) 3 40 Try.underlying44 info_rfile rfl (p2 + 1) A' k c' V hown2 1 _ (.slice (some ⟨W.heap.size, 0, none⟩) 1 1) (Src.slice Try.underlying44 hrd) hone ?_ ?_ ?_ ?_ ?_); (unfold maxLen; omega); omega; (simp; omega); exact ⟨rfl, rfl⟩; intro A3 c3 w3 hown3 hgr3 hbl3; have p3 := (HQ2.out.alloc (.cells #[.string S, .string Sd, .int .i64 T] 108)).grown hgr3 (fun e => by have := (HINV.out.own.block _ e.symm).1; omega); have y3 : w3.cell? ⟨p2, 0, none⟩ = some (.slice A' k c') := p3.cells 0; have yf : w3.frozen? ⟨p2, 0, none⟩ = false := p3.free 0; clear hown2 p3))
        go_roundg (gk - 1)
        case rel => exact ⟨k + 1, K, A3, c3, by omega, by go_num, by first | rfl | go_num, RCInv.next HINV.out HRI.out HX.out HBW.out (by rw [← HG.out]; omega) HCS.out hgr3 (by rw [← HV.out]; exact hown3) HNX.out.1 HNX.out.2⟩
        case measure => omega
    · have hkN : k = N := by omega
      have hlt' : ¬ (k : Int) < N := by omega
      have hbx := hinv.box
      have hrs := hinv.res
      rw [← HG.out] at hrs
      have d0 : wr.cell? ⟨p2, 0, none⟩ = some (.slice A' k c') := hbx.cells 0
      have d1 : wr.cell? ⟨p2, 1, none⟩ = some (.int .i64 (-1)) := hbx.cells 1
      have d2 : wr.cell? ⟨g + 1, 0, none⟩ = some (.slice none 0 0) := hrs.cells 0
      have d3 : wr.cell? ⟨g + 1, 1, none⟩ = some (.int .i64 0) := hrs.cells 1
      have f2 : wr.frozen? ⟨g + 1, 0, none⟩ = false := hrs.free 0
      have f3 : wr.frozen? ⟨g + 1, 1, none⟩ = false := hrs.free 1
      have HINV := hid2 hinv
      have HKN := hid2 hkN
      clear hinv hkN hlt hbx hrs
      go_wp2_with fail
      refine bodyPost_ret (v := .agg #[.slice A' k c', .int .i64 (-1)]) (by simp [results, Try.results27, go_sem, d2, d3]) rfl ⟨A', c', by rw [HKN.out], ?_, ?_⟩
      · have ho := ((HINV.out.own.setOther (p := ⟨g + 1, 0, none⟩) (fun e => by have := (HINV.out.own.block _ e).1; simp at this; omega) (.slice A' k c')).setOther (p := ⟨g + 1, 1, none⟩) (fun e => by have := (HINV.out.own.block _ e).1; simp at this; omega) (.int .i64 (-1))).mono (show w.heap.size ≤ p2 + 1 by rw [← HG.out]; omega)
        rw [HKN.out, HN.out, List.take_of_length_le (Nat.le_refl _)] at ho
        rw [HKN.out, HN.out]
        exact ho
      · have hgg : w.heap.size ≤ g + 1 := by rw [← HG.out]; omega
        exact (HINV.out.below.setCell (p := ⟨g + 1, 0, none⟩) hgg _).setCell (p := ⟨g + 1, 1, none⟩) hgg _
end Go.Proofs.Ytbighckpogfcaaa
