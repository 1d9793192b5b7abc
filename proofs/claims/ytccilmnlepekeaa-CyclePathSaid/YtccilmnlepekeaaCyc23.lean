/- The walk of the reference's Turn. -/
import Derived.Test.YtccilmnlepekeaaCyc11
namespace Go.Proofs.Ytccilmnlepekeaa
open Go.RowKit
theorem leans_turn {G : List (List Int)} {i : Nat} (h : i < G.length) : leans (turnG G) i = backs G i := by
  rw [leans, backs, turnG_length]
  apply List.filter_congr
  intro k hk
  exact turnG_adj h (List.mem_range.1 hk)
theorem ofG_turn (G : List (List Int)) : ofG (turnG G) = turnG G := by
  rw [ofG, turnG_length]
  conv => rhs; rw [turnG]
  apply List.map_congr_left
  intro i hi
  rw [leans_turn (List.mem_range.1 hi)]
/-- a row so far -/
def bkT (G : List (List Int)) (i k : Nat) : List Int := castI ((List.range k).filter fun j => adj G j i)
theorem bkT_zero (G : List (List Int)) (i : Nat) : bkT G i 0 = [] := rfl
theorem bkT_next (G : List (List Int)) (i k : Nat) : bkT G i (k + 1) = if adj G k i = true then bkT G i k ++ [(k : Int)] else bkT G i k := by
  rw [bkT, List.range_succ, List.filter_append, castI, List.map_append]
  cases h : adj G k i <;> simp [h, bkT, castI]
theorem bkT_all (G : List (List Int)) (i : Nat) : bkT G i G.length = castI (backs G i) := rfl
theorem bkT_len (G : List (List Int)) (i k : Nat) : (bkT G i k).length ≤ k := by
  rw [bkT, castI_length]
  exact Nat.le_trans (List.length_filter_le _ _) (by simp)
/-- all rows, i of them done, and the next one so far -/
def rT (G : List (List Int)) (i k : Nat) : List (List Int) := ofS (turnG G) i (bkT G i k)
theorem rT_get {G : List (List Int)} {i k : Nat} (h : i < G.length) : (rT G i k)[i]? = some (bkT G i k) := ofS_get (turnG G) _ (by rw [turnG_length]; exact h)
theorem rT_set {G : List (List Int)} {i k : Nat} (h : i < G.length) (ha : adj G k i = true) : (rT G i k).set i (bkT G i k ++ [(k : Int)]) = rT G i (k + 1) := by
  rw [rT, rT, bkT_next, if_pos ha]
  exact ofS_set (turnG G) _ _ (by rw [turnG_length]; exact h)
theorem rT_skip {G : List (List Int)} {i k : Nat} (ha : adj G k i = false) : rT G i k = rT G i (k + 1) := by
  rw [rT, rT, bkT_next, if_neg (by rw [ha]; simp)]
theorem rT_next {G : List (List Int)} {i : Nat} (h : i < G.length) : rT G i G.length = rT G (i + 1) 0 := by
  rw [rT, bkT_all, ← leans_turn h, ofS_next]
  rfl
theorem rT_zero (G : List (List Int)) : rT G 0 0 = List.replicate G.length [] := by
  rw [rT, bkT_zero, ofS_zero, turnG_length]
theorem rT_all (G : List (List Int)) : rT G G.length 0 = turnG G := by
  have := ofS_all (turnG G) (bkT G G.length 0)
  rw [turnG_length, ofG_turn] at this
  exact this
set_option maxRecDepth 100000 in
set_option maxHeartbeats 4000000 in
theorem refturn_any (w : World) (A : Option Addr) (c : Nat) (G : List (List Int)) (hg : GRd w A G) (hs : Small G) :
    Calls Try.prog 19 #[.slice A G.length c] w fun e w' => TurnPost w G e w' := by
  have hn := hs.n
  have hmk := made_rows w G.length (by omega)
  have cO := fun (W : World) (hW : Below w.heap.size w W) (i k : Nat) (hi : i < G.length) (hk : k < G.length) => on_any W A c G (hg.below hW) hs i k hi hk
  obtain ⟨W1, hW1⟩ : ∃ W1, W1 = w.alloc (.cells (List.replicate G.length (Value.slice none 0 0)).toArray 25) := ⟨_, rfl⟩
  have hnr : NR w (w.heap.size + 1) w.heap.size (rT G 0 0) W1 := by
    refine ⟨⟨fun _ => none, fun _ => 0, ?_⟩, ?_, Nat.le_refl _, by omega, ?_⟩
    · rw [rT_zero, hW1]
      exact Nest.made w G.length _
    · rw [hW1]; exact (Below.refl _ w).alloc (Nat.le_refl _) _
    · rw [hW1]; simp
  have hop := fun (B i k : Nat) (wr : World) (hi : i < G.length) (h : NR w B w.heap.size (rT G i k) wr) => h.opened (rT_get hi)
  have hset := fun (i k : Nat) (hi : i < G.length) (ha : adj G k i = true) => rT_set hi ha
  have hskip := fun (i k : Nat) (ha : adj G k i = false) => rT_skip (G := G) (i := i) ha
  have hnx := fun (i : Nat) (hi : i < G.length) => rT_next hi
  have hal := rT_all G
  have hbl := bkT_len G
  unfold TurnPost
  obtain ⟨gO, hgO⟩ : ∃ gO, gO = w.heap.size := ⟨_, rfl⟩
  obtain ⟨N, hN⟩ : ∃ N, N = G.length := ⟨_, rfl⟩
  rw [← hN] at hn hmk hop hset hnx hal hW1 cO ⊢
  rw [← hgO] at hmk hnr hop
  have HMK := hid2 hmk
  have HCO := hid2 cO
  have HNR := hid2 hnr
  have HOP := hid2 hop
  have HSET := hid2 hset
  have HSKIP := hid2 hskip
  have HNX := hid2 hnx
  have HAL := hid2 hal
  have HBL := hid2 hbl
  have HW1 := hid2 hW1
  clear hg hs hmk cO hnr hop hset hskip hnx hal hbl hW1 hN hgO
  go_enter Try.func19, Try.ntmps19
  go_wp2_with (first
    | ((with_reducible refine wpList_made HMK.out ?_ ?_); exact ⟨rfl, rfl⟩; rw [← HW1.out]))
  go_loopg [4, 5, 11] N (fun gk x4 x5 iv wr => ∃ i : Nat, i + gk = N ∧ iv = .int .i64 i ∧ NR w (gO + 1) gO (rT G i 0) wr)
  case atStart => exact ⟨0, by omega, rfl, HNR.out⟩
  case round =>
    obtain ⟨i, hi, rfl, hnr⟩ := hrel
    have HNRR := hid2 hnr
    clear hnr
    by_cases hiN : i < N
    · have hiN' : (i : Int) < N := by omega
      have hi0 : (0 : Int) ≤ i := by omega
      have HIN := hid2 hiN
      obtain ⟨g0, hg0⟩ : ∃ g0, g0 = gk := ⟨_, rfl⟩
      have HNXI := hid2 (HNX.out i hiN)
      clear hiN
      go_wp2_with fail
      go_loopg [5, 16] N (fun gj x5 kv wr2 => ∃ k : Nat, k + gj = N ∧ kv = .int .i64 k ∧ NR w (gO + 1) gO (rT G i k) wr2)
      case atStart => exact ⟨0, by omega, rfl, HNRR.out⟩
      case round =>
        clear HNRR
        obtain ⟨k, hk, rfl, hnr⟩ := hrel
        have HNR2 := hid2 hnr
        clear hnr
        by_cases hkN : k < N
        · have hkN' : (k : Int) < N := by omega
          have hk0 : (0 : Int) ≤ k := by omega
          have hC := HCO.out wr HNR2.out.low k i hkN HIN.out
          obtain ⟨av, hav⟩ : ∃ av, av = adj G k i := ⟨_, rfl⟩
          rw [← hav] at hC
          have HC := hid2 hC
          cases av with
          | false =>
            have HSK := hid2 (show NR w (gO + 1) gO (rT G i (k + 1)) wr from by rw [← HSKIP.out i k hav.symm]; exact HNR2.out)
            clear hC hav hkN
            go_wp2_with (first | (go_at_call 15; refine HC.out.mono ?_; rintro e w2 ⟨rfl, rfl⟩))
            go_roundg (gk - 1)
            case rel => exact ⟨k + 1, by omega, by go_num, HSK.out⟩
            case measure => omega
          | true =>
            obtain ⟨Ai, ci, hcA, hfA, hoA, hnA, hgt, hput⟩ := HOP.out (gO + 1) i k wr HIN.out HNR2.out
            have hst := HSET.out i k HIN.out hav.symm
            have hcl := HBL.out i k
            obtain ⟨cur, hcur⟩ : ∃ cur, cur = bkT G i k := ⟨_, rfl⟩
            rw [← hcur] at hcA hoA hcl hst
            obtain ⟨n, hnl⟩ : ∃ n, n = cur.length := ⟨_, rfl⟩
            rw [← hnl] at hcA hoA hcl
            obtain ⟨V, hV⟩ : ∃ V, V = intV cur := ⟨_, rfl⟩
            have hown : Own (wr.alloc (.cells #[.int .i64 (k : Int)] 3)) (gO + 1) 3 1 Ai n ci V := by rw [hV]; exact hoA.alloc _
            have hrd := Rd.of_lit wr #[.int .i64 (k : Int)] 3 1 1 (by decide) rfl
            have hone : ∀ v ∈ [Value.int .i64 (k : Int)], v.oneCell' = true := by simp [Value.oneCell']
            have hlws := HNR2.out.bl
            have HV := hid2 hV
            have HOWN := hid2 hown
            have HRDD := hid2 hrd
            have HGTT := hid2 hgt
            have HCA := hid2 hcA
            have HFA := hid2 hfA
            have HNL := hid2 hnl
            have HNA := hid2 hnA
            have HPUT := hid2 hput
            have HST := hid2 hst
            clear hC hav hV hown hrd hgt hcur hnl hnA hput hst hoA hkN
            go_wp2_with (first
              | (go_at_call 15; refine HC.out.mono ?_; rintro e w2 ⟨rfl, hw2⟩; obtain rfl := hw2.symm)
              | (at_builtin; go_must ((with_reducible refine wpList_append_lit 3 (.int .i64 0) 1 8 Try.underlying25 info_int1 rfl (gO + 1) Ai n ci V HOWN.out 1 _ (.slice (some ⟨wr.heap.size, 0, none⟩) 1 1) (Src.slice Try.underlying25 HRDD.out) hone ?_ ?_ ?_ ?_ ?_); (unfold maxLen; omega); omega; (simp; omega); exact ⟨rfl, rfl⟩; intro A3 c3 w3 hown3 hgr3 hbl3; have cu3 : w3.cell? ⟨gO, i, none⟩ = some (.slice Ai n ci) := hgr3.cell (by rw [World.cell?_alloc_lt _ _ _ HGTT.out]; exact HCA.out) (fun e => HNA.out e.symm); have fz3 : w3.frozen? ⟨gO, i, none⟩ = false := by rw [World.frozen?_of_block (hgr3.block gO (by simp; have := HGTT.out; omega) (fun e => HNA.out e.symm)), World.frozen?_of_block (Below.heap_alloc wr _ _ HGTT.out)]; exact HFA.out)))
            go_roundg (gk - 1)
            case rel =>
              have hp := HPUT.out (wr.alloc (.cells #[.int .i64 (k : Int)] 3)) w3 A3 c3 (cur ++ [(k : Int)]) ((Below.refl _ wr).alloc (Nat.le_refl _) _) hgr3 (by
                have h := hown3
                rw [HV.out] at h
                rw [List.length_append, ← HNL.out, intV, List.map_append]
                exact h) (hbl3.imp id fun h b e => by rw [h] at e; cases e; exact Nat.le_refl _)
              rw [List.length_append, ← HNL.out, HST.out] at hp
              exact ⟨k + 1, by omega, by go_num, hp.1⟩
            case measure => omega
        · have hkN2 : k = N := by omega
          have hkN' : ¬ (k : Int) < N := by omega
          have HNN := hid2 (show NR w (gO + 1) gO (rT G (i + 1) 0) wr from by rw [← HNXI.out, ← hkN2]; exact HNR2.out)
          clear hkN hkN2
          go_wp2_with fail
          go_roundg (g0 - 1)
          case rel => exact ⟨i + 1, by omega, by go_num, HNN.out⟩
          case measure => omega
    · have hiN2 : i = N := by omega
      have hlt' : ¬ (i : Int) < N := by omega
      have HF := hid2 (show GRdK (fun W => ∀ b, w.heap.size ≤ b → b < wr.heap.size → W.heap[b]? = wr.heap[b]?) (some ⟨gO, 0, none⟩) (turnG G) from by
        obtain ⟨⟨As, cs, h⟩, _, hgt, hbt, _⟩ := HNRR.out
        have h := h.grdk hbt hgt
        rwa [hiN2, HAL.out] at h)
      clear hiN hiN2
      go_wp2_with fail
      go_ret
      exact ⟨_, rfl, HF.out, HNRR.out.low⟩
end Go.Proofs.Ytccilmnlepekeaa
