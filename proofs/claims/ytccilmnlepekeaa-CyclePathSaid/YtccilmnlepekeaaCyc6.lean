/- The reference's walk: the way by falling numbers. -/
import Derived.Test.YtccilmnlepekeaaCyc5
namespace Go.Proofs.Ytccilmnlepekeaa
open Go.RowKit
/-- the least of the numbers from j on for which p holds; -1 -/
def pickP (p : Nat → Bool) (N j : Nat) : Int := match ((List.range N).drop j).find? p with
  | some x => x
  | none => -1
theorem pickP_end (p : Nat → Bool) (N : Nat) : pickP p N N = -1 := by
  unfold pickP
  rw [List.drop_of_length_le (by simp)]
  rfl
theorem pickP_step (p : Nat → Bool) {N q : Nat} (h : q < N) : pickP p N q = if p q = true then (q : Int) else pickP p N (q + 1) := by
  unfold pickP
  rw [List.drop_eq_getElem_cons (by simpa using h), List.find?_cons, List.getElem_range]
  cases p q <;> rfl
theorem pickP_zero (p : Nat → Bool) (N : Nat) : pickP p N 0 = match (List.range N).find? p with | some x => (x : Int) | none => -1 := rfl
theorem farStep_get {G : List (List Int)} {to n : Nat} {out : List Int} {i : Nat} (hi : i < G.length) : (farStep G to n out).getD i 0 = farV G to n out i := by
  rw [farStep, List.getD_eq_getElem?_getD, List.getElem?_map, List.getElem?_range hi]
  rfl
theorem farStep_none {G : List (List Int)} {to n : Nat} {out : List Int} {i : Nat} (hi : ¬ i < G.length) : (farStep G to n out).getD i 0 = 0 := by
  rw [farStep, List.getD_eq_getElem?_getD, List.getElem?_eq_none (by simpa using hi)]
  rfl
/-- who is two steps away or more leans on one who is a step nearer -/
theorem far_back (G : List (List Int)) (to : Nat) : ∀ (n i : Nat), 2 ≤ (farN G to n).getD i 0 → ∃ k, k < G.length ∧ adj G i k = true ∧ (farN G to n).getD k 0 = (farN G to n).getD i 0 - 1
  | 0, i, h => by
    have := farN_bound G to 0 i
    omega
  | n + 1, i, h => by
    rw [farN] at h ⊢
    by_cases hi : i < G.length
    · rw [farStep_get hi] at h ⊢
      have keep : ∀ k, k < G.length → 0 < (farN G to n).getD k 0 → (farStep G to (n + 1) (farN G to n)).getD k 0 = (farN G to n).getD k 0 := fun k hk h0 => by
        rw [farStep_get hk, farV, if_pos h0]
      unfold farV at h ⊢
      split at h
      · rename_i h0
        rw [if_pos h0]
        obtain ⟨k, h1, h2, h3⟩ := far_back G to n i h
        exact ⟨k, h1, h2, by rw [keep k h1 (by omega)]; exact h3⟩
      · rename_i h0
        rw [if_neg h0]
        split at h
        · split at h <;> omega
        · rename_i h1
          rw [if_neg h1]
          split at h
          · rename_i h2
            rw [if_pos h2]
            obtain ⟨k, hk, hp⟩ := List.any_eq_true.1 h2
            rw [List.mem_range] at hk
            simp only [Bool.and_eq_true, beq_iff_eq] at hp
            refine ⟨k, hk, hp.2, ?_⟩
            rw [keep k hk (by omega)]
            exact hp.1
          · omega
    · rw [farStep_none hi] at h
      omega
def nextG (G : List (List Int)) (F : List Int) (i : Nat) (v : Int) : Option Nat := (List.range G.length).find? fun k => adj G i k && F.getD k 0 == v
def walkS (G : List (List Int)) (F : List Int) : Nat → Nat → List Nat
  | 0, i => [i]
  | m + 1, i => i :: match nextG G F i ((m : Int) + 1) with
    | some k => walkS G F m k
    | none => []
/-- the way from a node to another one, without that one -/
def walkL (G : List (List Int)) (i to : Nat) : List Nat := walkS G (farN G to G.length) (((farN G to G.length).getD i 0).toNat - 1) i
theorem nextG_some {G : List (List Int)} {to i m : Nat} (h : (farN G to G.length).getD i 0 = (m : Int) + 2) : ∃ k, nextG G (farN G to G.length) i ((m : Int) + 1) = some k ∧ k < G.length ∧ (farN G to G.length).getD k 0 = (m : Int) + 1 := by
  obtain ⟨k, h1, h2, h3⟩ := far_back G to G.length i (by omega)
  cases hp : nextG G (farN G to G.length) i ((m : Int) + 1) with
  | none =>
    exfalso
    have := List.find?_eq_none.1 hp k (List.mem_range.2 h1)
    rw [h2, h3, h, show (m : Int) + 2 - 1 = (m : Int) + 1 by omega] at this
    simp at this
  | some q =>
    have hq := List.find?_some hp
    have hm := List.mem_of_find?_eq_some hp
    simp only [Bool.and_eq_true, beq_iff_eq] at hq
    exact ⟨q, rfl, by simpa using hm, hq.2⟩
/-- what walk answers -/
def WalkPost (w : World) (l : List Nat) (e : Ending) (w' : World) : Prop := ∃ A' c', e = .returned (.slice A' l.length c') ∧ Own w' w.heap.size 3 1 A' l.length c' (natV l) ∧ Below w.heap.size w w'
set_option maxRecDepth 100000 in
set_option maxHeartbeats 4000000 in
theorem walk18_any (w : World) (A : Option Addr) (c : Nat) (G : List (List Int)) (hg : GRd w A G) (hs : Small G) (i to : Nat) (hi : i < G.length) (hto : to < G.length) (hf : 1 ≤ (farN G to G.length).getD i 0) :
    Calls Try.prog 30 #[.slice A G.length c, .int .i64 i, .int .i64 to] w fun e w' => WalkPost w (walkL G i to) e w' := by
  have hn := hs.n
  have cO : ∀ W, Below w.heap.size w W → ∀ (i k : Nat), i < G.length → k < G.length → Calls Try.prog 15 #[.slice A G.length c, .int .i64 i, .int .i64 k] W fun e w' => e = .returned (.bool (adj G i k)) ∧ w' = W := fun W hW i k hi hk => on_any W A c G (hg.below hW) hs i k hi hk
  have cF := far18_any w A c G hg hs to hto
  unfold FarPost at cF
  obtain ⟨F, hF⟩ : ∃ F, F = farN G to G.length := ⟨_, rfl⟩
  obtain ⟨m0, hm0⟩ : ∃ m0 : Nat, (F.getD i 0).toNat = m0 + 1 := ⟨(F.getD i 0).toNat - 1, by rw [hF]; omega⟩
  have hW : walkL G i to = walkS G F m0 i := by rw [walkL, ← hF, hm0]; rfl
  have hFi : F.getD i 0 = (m0 : Int) + 1 := by rw [← hF] at hf; omega
  have hFl : F.length = G.length := by rw [hF]; exact farN_length G to _
  have hFb : ∀ q, 0 ≤ F.getD q 0 ∧ F.getD q 0 ≤ (G.length : Int) := fun q => by rw [hF]; exact farN_bound G to _ q
  have hnx : ∀ (i m : Nat), F.getD i 0 = (m : Int) + 2 → ∃ k, nextG G F i ((m : Int) + 1) = some k ∧ k < G.length ∧ F.getD k 0 = (m : Int) + 1 := fun i m h => by
    rw [hF] at h ⊢
    exact nextG_some h
  have hnd : ∀ (i : Nat) (v : Int), nextG G F i v = (List.range G.length).find? fun k => adj G i k && F.getD k 0 == v := fun i v => rfl
  rw [hW]
  obtain ⟨L, hL⟩ : ∃ L, L = walkS G F m0 i := ⟨_, rfl⟩
  rw [← hL]
  rw [← hF] at cF
  obtain ⟨N, hN⟩ : ∃ N, N = G.length := ⟨_, rfl⟩
  rw [← hN] at hn cO cF hFl hFb hnx hnd hi hto ⊢
  have HCO := hid2 cO
  have HCF := hid2 cF
  have HL := hid2 hL
  have HFI := hid2 hFi
  have HFL := hid2 hFl
  have HFB := hid2 hFb
  have HNX := hid2 hnx
  have HND := hid2 hnd
  have HI := hid2 hi
  have hi0 : (0 : Int) ≤ i := by omega
  have hiN : (i : Int) < N := by omega
  have hm0N : (m0 : Int) + 1 ≤ N := by rw [← hFi]; exact (hFb i).2
  have hwN : IntKind.i64.wrap ((N : Int) - 1) = (N : Int) - 1 := IntWalk.i64_in _ (by constructor <;> omega)
  clear hg hs cO cF hF hm0 hW hFi hFl hFb hnx hnd hL hN hi hto hf
  go_enter Try.func30, Try.ntmps30
  go_wp2_with fail
  refine HCF.out.mono ?_
  rintro e w1 ⟨AF, cF, rfl, hoF, hb1⟩
  have hrF := hoF.rd
  obtain ⟨x0, hx0⟩ : ∃ x, F[i]? = some x := ⟨_, List.getElem?_eq_getElem (by rw [HFL.out]; exact HI.out)⟩
  have hx1 := getD_of_get hx0
  rw [HFI.out] at hx1
  have hcF : ∀ W, Below w1.heap.size w1 W → Rd W 1 AF N (intV F) := fun W hW => hrF.below_all hW
  obtain ⟨bF, oF, rfl, _⟩ := int_cell hrF hx0
  have hcell : ∀ W, Below w1.heap.size w1 W → ∀ (k : Nat) (y : Int), F[k]? = some y → W.cell? ⟨bF, oF + k, none⟩ = some (.int .i64 y) := fun W hW k y hy => by
    obtain ⟨b', o', e, hc⟩ := int_cell (hcF W hW) hy
    cases e
    exact hc
  have hown0 : Own (w1.alloc (.cells #[.int .i64 (i : Int)] 3)) w1.heap.size 3 1 (some ⟨w1.heap.size, 0, none⟩) 1 1 (natV [i]) := Own.lit w1 #[.int .i64 (i : Int)] 3 1 1 w1.heap.size (Nat.le_refl _) (by decide) rfl
  obtain ⟨W2, hW2⟩ : ∃ W2, W2 = w1.alloc (.cells #[.int .i64 (i : Int)] 3) := ⟨_, rfl⟩
  have hb2 : Below w1.heap.size w1 W2 := by rw [hW2]; exact (Below.refl _ _).alloc (Nat.le_refl _) _
  rw [← hW2] at hown0
  have c0 : W2.cell? ⟨bF, oF + i, none⟩ = some (.int .i64 ((m0 : Int) + 1)) := by rw [hx1]; exact hcell W2 hb2 i x0 hx0
  have HB1 := hid2 hb1
  have HCELL := hid2 hcell
  have HOWN0 := hid2 hown0
  have HB2 := hid2 hb2
  have HW2 := hid2 hW2
  have c0' := c0
  rw [hW2] at c0'
  clear hoF hb1 hrF hx0 hx1 hcF hcell hown0 hW2 hb2 c0
  go_wp2_with fail
  rw [← HW2.out]
  clear c0'
  go_loopg [8, 9, 10, 11, 12] m0 (fun gk ov av nv x11 x12 wr => ∃ (a : Nat) (pre : List Nat) (A2 : Option Addr) (c2 : Nat) (nn : Int), ov = .slice A2 (pre.length + 1) c2 ∧ av = .int .i64 a ∧ nv = .int .i64 nn ∧ nn = (gk : Int) + 1 ∧ a < N ∧ F.getD a 0 = (gk : Int) + 1 ∧ pre ++ walkS G F gk a = L ∧ pre.length + gk = m0 ∧ Own wr w1.heap.size 3 1 A2 (pre.length + 1) c2 (natV (pre ++ [a])) ∧ Below w1.heap.size w1 wr)
  case atStart => exact ⟨i, [], _, _, _, rfl, rfl, rfl, rfl, HI.out, HFI.out, HL.out.symm, by simp, HOWN0.out, HB2.out⟩
  case round =>
    obtain ⟨a, pre, A2, c2, nn, rfl, rfl, rfl, hnn, haN, hFa, hL, hpl, hown, hlow⟩ := hrel
    have HFA := hid2 hFa
    have HL2 := hid2 hL
    have HOWN := hid2 hown
    have HLOW := hid2 hlow
    have HPL := hid2 hpl
    have HAN := hid2 haN
    have ha0 : (0 : Int) ≤ a := by omega
    obtain ⟨g0, hg0⟩ : ∃ g0, g0 = gk := ⟨_, rfl⟩
    clear hFa hL hown hlow hpl haN
    by_cases hlt : 1 ≤ gk
    · have gn : ((1 : Int) < nn) = True := eq_true (by omega)
      have gn' : (1 : Int) < nn := by omega
      have hnB : nn ≤ 1000 := by have := HPL.out; omega
      have hwn : IntKind.i64.wrap (nn - 1) = nn - 1 := IntWalk.i64_in _ (by constructor <;> omega)
      obtain ⟨m, hm⟩ : ∃ m : Nat, m + 1 = g0 := ⟨g0 - 1, by omega⟩
      have hgm : g0 - 1 = m := by omega
      have hnm : nn - 1 = (m : Int) + 1 := by omega
      obtain ⟨k, hk1, hk2, hk3⟩ := HNX.out a m (by rw [HFA.out]; omega)
      obtain ⟨p, hp⟩ : ∃ p : Nat → Bool, p = fun k => adj G a k && F.getD k 0 == nn - 1 := ⟨_, rfl⟩
      have hp0 : pickP p N 0 = (k : Int) := by
        rw [pickP_zero, hp, hnm, ← HND.out a ((m : Int) + 1), hk1]
      have hpe := pickP_end p N
      have hps := fun (q : Nat) (h : q < N) => pickP_step p h
      have hLn : (pre ++ [a]) ++ walkS G F m k = L := by
        have h := HL2.out
        rw [show gk = m + 1 by omega, walkS, hk1] at h
        rw [← h]
        simp
      have hg0' : g0 = gk := hg0
      have HP := hid2 hp
      have HP0 := hid2 hp0
      have HPE := hid2 hpe
      have HPS := hid2 hps
      have HLN := hid2 hLn
      have HK3 := hid2 hk3
      have HK2 := hid2 hk2
      have HGM := hid2 hgm
      have HNM := hid2 hnm
      have HG0 := hid2 (show pre.length + (m + 1) = m0 from by have := HPL.out; omega)
      have hk0 : (0 : Int) ≤ k := by omega
      have HNN := hid2 hnn
      have HLT := hid2 (show g0 - 1 < gk by omega)
      clear hp hp0 hpe hps hLn hk3 hk1 hk2 hgm hnm hlt hnn hg0 hg0' hm
      go_wp2_with fail
      go_loopg [11, 12] N (fun gj nx ix wr2 => ∃ (j : Nat) (v iv : Int), gj = j ∧ j ≤ N ∧ nx = .int .i64 v ∧ ix = .int .i64 iv ∧ iv = (j : Int) - 1 ∧ v = pickP p N j ∧ wr2 = wr)
      case atStart => exact ⟨N, -1, _, rfl, Nat.le_refl _, rfl, rfl, rfl, HPE.out.symm, rfl⟩
      case round =>
        obtain ⟨j, v, iv, hj, hjN, rfl, rfl, hiv, hv, rfl⟩ := hrel
        have HV := hid2 hv
        clear hv
        by_cases hj0 : 0 < j
        · obtain ⟨q, hq⟩ : ∃ q : Nat, q + 1 = j := ⟨j - 1, by omega⟩
          obtain rfl : iv = (q : Int) := by omega
          have hq0 : (0 : Int) ≤ q := by omega
          have hqN : q < N := by omega
          have hqN' : (q : Int) < N := by omega
          have hwq : IntKind.i64.wrap ((q : Int) - 1) = (q : Int) - 1 := IntWalk.i64_in _ (by constructor <;> omega)
          obtain ⟨y, hy⟩ : ∃ x, F[q]? = some x := ⟨_, List.getElem?_eq_getElem (by rw [HFL.out]; exact hqN)⟩
          have cy := HCELL.out wr HLOW.out q y hy
          have hgy := getD_of_get hy
          have hC := HCO.out wr (HB1.out.trans (HLOW.out.mono HB1.out.size)) a q HAN.out hqN
          obtain ⟨av, hav⟩ : ∃ av, av = adj G a q := ⟨_, rfl⟩
          rw [← hav] at hC
          have hst := HPS.out q hqN
          rw [show p q = (av && y == nn - 1) from by rw [HP.out, hav, ← hgy], hq, ← HV.out] at hst
          have HC := hid2 hC
          have HST := hid2 hst
          clear hy hgy hC hav hst hiv hj0
          cases av with
          | false =>
            go_wp2_with (first | (go_at_call 15; refine HC.out.mono ?_; rintro e w2 ⟨rfl, rfl⟩))
            go_roundg (gk - 1)
            case rel => exact ⟨q, v, (q : Int) - 1, by omega, by omega, rfl, by first | rfl | go_num, rfl, by rw [HST.out]; rfl, rfl⟩
            case measure => omega
          | true =>
            by_cases hye : y = nn - 1
            · have hy1 : (y == nn - 1) = true := by simp [hye]
              have HY1 := hid2 hy1
              clear hye
              go_wp2_with (first | (go_at_call 15; refine HC.out.mono ?_; rintro e w2 ⟨rfl, rfl⟩))
              go_roundg (gk - 1)
              case rel => exact ⟨q, q, (q : Int) - 1, by omega, by omega, rfl, by first | rfl | go_num, rfl, by rw [HST.out, HY1.out]; rfl, rfl⟩
              case measure => omega
            · have hy1 : (y == nn - 1) = false := by simp [hye]
              have HY1 := hid2 hy1
              go_wp2_with (first | (go_at_call 15; refine HC.out.mono ?_; rintro e w2 ⟨rfl, rfl⟩))
              go_roundg (gk - 1)
              case rel => exact ⟨q, v, (q : Int) - 1, by omega, by omega, rfl, by first | rfl | go_num, rfl, by rw [HST.out, HY1.out]; rfl, rfl⟩
              case measure => omega
        · have hjz : j = 0 := by omega
          obtain rfl : iv = -1 := by omega
          obtain rfl : v = (k : Int) := by have := HV.out; rw [hjz, HP0.out] at this; exact this
          have hown := HOWN.out.alloc (.cells #[.int .i64 (k : Int)] 3)
          obtain ⟨V, hV⟩ : ∃ V, V = natV (pre ++ [a]) := ⟨_, rfl⟩
          obtain ⟨pl, hpl⟩ : ∃ pl, pl = pre.length + 1 := ⟨_, rfl⟩
          have hplB : pl ≤ 1000 := by have := HG0.out; omega
          rw [← hV, ← hpl] at hown
          rw [← hpl]
          have hrd := Rd.of_lit wr #[.int .i64 (k : Int)] 3 1 1 (by decide) rfl
          have hone : ∀ v ∈ [Value.int .i64 (k : Int)], v.oneCell' = true := by simp [Value.oneCell']
          have hlws := HLOW.out.size
          have HV2 := hid2 hV
          have HPLE := hid2 hpl
          have HOWN2 := hid2 hown
          have HRD := hid2 hrd
          clear hown hrd hV hpl hiv hj0 hjz hj hjN
          go_wp2_with (first
            | (at_builtin; go_must ((with_reducible refine wpList_append_lit 3 (.int .i64 0) 1 8 Try.underlying25 info_int1 rfl w1.heap.size A2 pl c2 V HOWN2.out 1 _ (.slice (some ⟨wr.heap.size, 0, none⟩) 1 1) (Src.slice Try.underlying25 HRD.out) hone ?_ ?_ ?_ ?_ ?_); (unfold maxLen; omega); omega; (simp; omega); exact ⟨rfl, rfl⟩; intro A3 c3 w3 hown3 hgr3 hbl3)))
          go_roundg (g0 - 1)
          case rel =>
            rw [HGM.out]
            refine ⟨k, pre ++ [a], A3, c3, nn - 1, ?_, rfl, by first | rfl | go_num, HNM.out, HK2.out, HK3.out, HLN.out, ?_, ?_, ?_⟩
            · rw [List.length_append, HPLE.out]; rfl
            · have := HG0.out
              rw [List.length_append]
              simp only [List.length_cons, List.length_nil]
              omega
            · rw [List.length_append, natV_snoc, ← HV2.out]
              have h := hown3
              rw [HPLE.out] at h
              exact h
            · exact (HLOW.out.alloc hlws _).grown hgr3 (by simp; omega) (fun b e => by have := (HOWN.out.block b e).1; omega)
          case measure => exact HLT.out
    · have gn : ((1 : Int) < nn) = False := eq_false (by omega)
      have gn' : ¬ (1 : Int) < nn := by omega
      have hgz : gk = 0 := by omega
      have hlL : L = pre ++ [a] := by have := HL2.out; rw [hgz] at this; rw [← this]; rfl
      have HLL := hid2 hlL
      clear hlL hgz hlt
      go_wp2_with fail
      go_ret
      refine ⟨A2, c2, ?_, ?_, ?_⟩
      · rw [HLL.out, List.length_append]
        rfl
      · rw [HLL.out, List.length_append]
        exact HOWN.out.mono HB1.out.size
      · exact HB1.out.trans (HLOW.out.mono HB1.out.size)
end Go.Proofs.Ytccilmnlepekeaa
