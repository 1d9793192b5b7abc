/- The walk of DiskBudget. -/
import Derived.Test.YtbighckpogfcaaaDisk4
namespace Go.Proofs.Ytbighckpogfcaaa
open Go.RowKit Go.Maps
def fB (m : Nat) : List UInt8 := List.replicate m 120
def Mb (m : Nat) : Tab FileE := if m = 0 then [] else [(kF, (fB m, 0))]
theorem Mb_of (m : Nat) : fileOf (Mb m) kF = (fB m, 0) := by
  unfold Mb
  split
  · subst_vars; rfl
  · rfl
theorem Mb_put (m : Nat) (x : List UInt8) (k : Nat) : putM (Mb m) kF (x, k) = [(kF, (x, k))] := by
  unfold Mb
  split <;> rfl
theorem fB_succ (m : Nat) : fB m ++ [120] = fB (m + 1) := by rw [fB, fB, List.replicate_succ']
theorem Mb_e0 (m : Nat) (left : Int) : beginE (Mb m) left false [strB kF] kF = if left = 0 then 18 else 0 := by
  unfold beginE
  rw [if_neg (by decide), if_neg (by rw [Bool.false_and]; decide)]
theorem Mb_e1 (m : Nat) (left : Int) : beginE (Mb m) left true [strB kN] kN = 10 := by
  unfold beginE Mb
  rw [if_neg (by decide)]
  split <;> rfl
theorem Mb_read (m : Nat) : readV (Mb m) kF = if m = 0 then .tuple #[.string ⟨#[]⟩, .int .i64 10] else .tuple #[.string (strB (fB m)), .int .i64 0] := by
  unfold Mb
  split <;> rfl
theorem Mb_app (m : Nat) (left : Int) (h : left ≠ 0) : appM (Mb m) left kF [120] = Mb (m + 1) := by
  rw [appM, Mb_e0, if_neg h, if_pos rfl, Mb_of, Mb_put, fB_succ, Mb, if_neg (by omega)]
theorem Mb_stay (m : Nat) : appM (Mb m) 0 kF [120] = Mb m := by
  rw [appM, Mb_e0, if_pos rfl, if_neg (by decide)]
theorem Mb_left (m : Nat) (left : Int) (h : 0 < left) : beginL (Mb m) left false [strB kF] kF = left - 1 := by
  have e : beginE (Mb m) left false [strB kF] kF = 0 := by rw [Mb_e0, if_neg (by omega)]
  rw [beginL, if_pos ⟨e, h⟩]
theorem Mb_left0 (m : Nat) : beginL (Mb m) 0 false [strB kF] kF = 0 := by
  rw [beginL, if_neg (by simp)]
theorem Mb_sync (m : Nat) (left : Int) : syncM (Mb m) left kN = Mb m := by rw [syncM, Mb_e1, if_neg (by decide)]
theorem Mb_syncL (m : Nat) (left : Int) : beginL (Mb m) left true [strB kN] kN = left := by rw [beginL, Mb_e1, if_neg (by simp)]
theorem Mb_none (m : Nat) : (fileOf (Mb m) kN).1.length ≤ 1000000000 := by
  unfold Mb
  split
  · decide
  · exact Nat.zero_le _
theorem Mb_some (m : Nat) (h : m ≤ 1000000000) : (fileOf (Mb m) kF).1.length ≤ 1000000000 := by rw [Mb_of, fB, List.length_replicate]; exact h
theorem Mb_last (m : Nat) : beginE (Mb m) (-1) false [strB kF] kF = 0 ∧ appM (Mb m) (-1) kF [121] = [(kF, (fB m ++ [121], 0))] ∧ beginL (Mb m) (-1) false [strB kF] kF = -1 := by
  have e : beginE (Mb m) (-1) false [strB kF] kF = 0 := by rw [Mb_e0, if_neg (by decide)]
  refine ⟨e, ?_, by rw [beginL, if_neg (by simp)]⟩
  rw [appM, if_pos e, Mb_of, Mb_put]
theorem Mb_gone (x : FileE) : beginE [(kF, x)] (-1) true [strB kF] kF = 0 ∧ remM [(kF, x)] (-1) kF = [] ∧ beginL [(kF, x)] (-1) true [strB kF] kF = -1 := by
  have h : beginE [(kF, x)] (-1) true [strB kF] kF = 0 := rfl
  refine ⟨h, ?_, by rw [beginL, if_neg (by simp)]⟩
  rw [remM, h, if_pos rfl]
  rfl
/-- between two rounds -/
structure BInv (w : World) (p b n k : Nat) (wr : World) : Prop where
  d : DiskIs wr p b (2 * k) (Mb (min k n)) ((n : Int) - (min k n : Nat))
  below : Below w.heap.size w wr
set_option maxRecDepth 100000 in
set_option maxHeartbeats 1000000 in
theorem DiskBudget_walk (w : World) (n : Nat) (hn : (n : Int) ≤ 255) (m : Nat) (hm : (m : Int) ≤ 255) :
    Calls Try.prog 3 #[.int .u8 n, .int .u8 m] w fun e w' => e = .returned (.bool true) ∧ Below w.heap.size w w' := by
  have hB := Below.refl w.heap.size w
  obtain ⟨p, hp⟩ : ∃ p, p = p := ⟨0, rfl⟩
  clear hp p
  have hnl : ((n : Int) < -1) = False := eq_false (by omega)
  have hw1 : IntKind.i64.wrap (n : Int) = n := IntWalk.i64_in _ (by constructor <;> omega)
  have hw2 : IntKind.i64.wrap (m : Int) = m := IntWalk.i64_in _ (by constructor <;> omega)
  go_enter Try.func3, Try.ntmps3
  go_wp2_with (first
    | (go_at_call 13; refine (alive_any _).mono ?_; rintro e w0 ⟨rfl, hb0⟩)
    | (go_at_call 14; refine (new_any _).mono ?_; rintro e w1 ⟨rfl, hd1, hb1, hz1⟩; have hbz := hb0.size; obtain ⟨p, hp⟩ : ∃ p, p = w0.heap.size + 1 := ⟨_, rfl⟩; obtain ⟨b, hb⟩ : ∃ b, b = w0.heap.size := ⟨_, rfl⟩; rw [← hp, ← hb] at hd1; rw [← hp]; have hp1 : w.heap.size ≤ p := (by omega); have hb1' : w.heap.size ≤ b := (by omega); have hbw1 := hb0.trans (hb1.mono hbz); clear hp hb hz1 hb1 hb0 hbz)
    | (go_at_call 15; refine (budget_any _ p b 0 [] (-1) n hd1).mono ?_; rintro e w2 ⟨rfl, hd2, hb2, hz2⟩; rw [if_pos (by omega)] at hd2; have hbw2 := hb2.below hbw1 hbw1.size hp1 hb1'; clear hd1 hbw1 hb2 hz2))
  have HD2 := hid2 hd2
  have HB2 := hid2 hbw2
  clear hd2 hbw2
  go_loopg [20] m (fun gk i wr => ∃ k : Nat, k + gk = m ∧ i = .int .i64 k ∧ BInv w p b n k wr)
  case atStart => exact ⟨0, by omega, rfl, ⟨by simpa [Mb] using HD2.out, HB2.out⟩⟩
  case round =>
    obtain ⟨k, hk, rfl, hinv⟩ := hrel
    by_cases hlt : k < m
    · have hlt' : (k : Int) < m := by omega
      have hd := hinv.d
      have hbl := hinv.below
      have hB2 := hid2 hbl
      have hw3 : IntKind.i64.wrap ((k : Int) + 1) = (k : Int) + 1 := IntWalk.i64_in _ (by constructor <;> omega)
      clear hinv
      by_cases hkn : k < n
      · have hkn' : (k : Int) < n := by omega
        rw [show min k n = k by omega] at hd
        have happ := append_at wr p b _ _ _ hd ⟨#[102]⟩ ⟨#[120]⟩ (k := kF) (y := [120]) rfl rfl (by decide) (by decide) (Mb_some k (by omega)) (by omega) (by omega) ((Mb_e0 _ _).trans (if_neg (by omega))) (Mb_app k _ (by omega)) (Mb_left k _ (by omega))
        clear hd
        go_wp2_with (first
          | (go_at_call 16; refine happ.mono ?_; rintro e w3 ⟨rfl, hd3, hb3⟩; have hbw3 := hb3.below hB2.out hB2.out.size hp1 hb1')
          | (go_at_call 17; refine (sync_at _ p b _ _ _ hd3 ⟨#[110, 111, 110, 101]⟩ (k := kN) rfl (by decide) (Mb_none _) (by omega) (by omega) (Mb_e1 _ _) (Mb_sync _ _) (Mb_syncL _ _)).mono ?_; rintro e w4 ⟨rfl, hd4, hb4⟩; have hbw4 := hb4.below hbw3 hbw3.size hp1 hb1'; have HD4 := hid2 hd4; clear hd3 hd4))
        go_roundg (gk - 1)
        case rel =>
          refine ⟨k + 1, by omega, by go_num, ⟨?_, hbw4⟩⟩
          rw [show min (k + 1) n = k + 1 by omega]
          have := (HD4.out).mono (show 2 * k + 1 + 1 ≤ 2 * (k + 1) by omega)
          rw [show (n : Int) - k - 1 = (n : Int) - (k + 1 : Nat) by omega] at this
          exact this
        case measure => omega
      · have hkn' : ¬ (k : Int) < n := by omega
        rw [show min k n = n by omega, show (n : Int) - n = 0 by omega] at hd
        have happ := append_at wr p b _ _ _ hd ⟨#[102]⟩ ⟨#[120]⟩ (k := kF) (y := [120]) rfl rfl (by decide) (by decide) (Mb_some n (by omega)) (by omega) (by omega) ((Mb_e0 _ _).trans (if_pos rfl)) (Mb_stay n) (Mb_left0 n)
        clear hd
        go_wp2_with (first
          | (go_at_call 16; refine happ.mono ?_; rintro e w3 ⟨rfl, hd3, hb3⟩; have hbw3 := hb3.below hB2.out hB2.out.size hp1 hb1')
          | (go_at_call 17; refine (sync_at _ p b _ _ _ hd3 ⟨#[110, 111, 110, 101]⟩ (k := kN) rfl (by decide) (Mb_none _) (by omega) (by omega) (Mb_e1 _ _) (Mb_sync _ _) (Mb_syncL _ _)).mono ?_; rintro e w4 ⟨rfl, hd4, hb4⟩; have hbw4 := hb4.below hbw3 hbw3.size hp1 hb1'; have HD4 := hid2 hd4; clear hd3 hd4))
        go_roundg (gk - 1)
        case rel =>
          refine ⟨k + 1, by omega, by go_num, ⟨?_, hbw4⟩⟩
          rw [show min (k + 1) n = n by omega, show (n : Int) - n = 0 by omega]
          exact (HD4.out).mono (show 2 * k + 1 + 1 ≤ 2 * (k + 1) by omega)
        case measure => omega
    · have hkm : k = m := by omega
      subst hkm
      have hd := hinv.d
      have hbl := hinv.below
      have hB2 := hid2 hbl
      have hnot : ¬ (k : Int) < k := by omega
      clear hinv hbl
      obtain ⟨q, hq⟩ : ∃ q, q = min k n := ⟨_, rfl⟩
      have hqm : min (n : Int) k = q := by omega
      have hql : (q : Int) ≤ 255 := by omega
      rw [← hq] at hd
      obtain ⟨left, hleft⟩ : ∃ left : Int, left = (n : Int) - q := ⟨_, rfl⟩
      rw [← hleft] at hd
      have hl2 : -1 ≤ left ∧ left ≤ 1000000000 := by omega
      have hread := read_at wr p b _ _ _ hd ⟨#[102]⟩ (k := kF) rfl (by decide) (Mb_read q)
      clear hq hleft hlt
      by_cases hq0 : q = 0
      · subst hq0
        rw [if_pos rfl] at hread
        go_wp2_with (first
          | (go_at_call 18; refine hread.mono ?_; rintro e w3 ⟨rfl, hb3⟩; have hd3 := hd.below hb3 hd.lt.1 hd.lt.2; have hbw3 := hB2.out.trans (hb3.mono hB2.out.size); clear hd hread)
          | (go_at_call 15; refine (budget_any _ p b _ _ _ (-1) hd3).mono ?_; rintro e w4 ⟨rfl, hd4, hb4, hz4⟩; rw [if_pos (by omega)] at hd4; have hbw4 := hb4.below hbw3 hbw3.size hp1 hb1'; clear hd3 hbw3 hb4 hz4)
          | (go_at_call 16; refine (append_at _ p b _ _ _ hd4 ⟨#[102]⟩ ⟨#[121]⟩ (k := kF) (y := [121]) rfl rfl (by decide) (by decide) (Mb_some _ (by omega)) (by omega) (by omega) (Mb_last _).1 (Mb_last _).2.1 (Mb_last _).2.2).mono ?_; rintro e w5 ⟨rfl, hd5, hb5⟩; have hbw5 := hb5.below hbw4 hbw4.size hp1 hb1'; clear hd4 hbw4 hb5)
          | (go_at_call 19; refine (remove_at _ p b _ _ _ hd5 ⟨#[102]⟩ (k := kF) rfl (by decide) (by omega) (Mb_gone _).1 (Mb_gone _).2.1 (Mb_gone _).2.2).mono ?_; rintro e w6 ⟨rfl, hd6, hb6⟩; have hbw6 := hb6.below hbw5 hbw5.size hp1 hb1'; clear hd5 hbw5 hb6)
          | (go_at_call 20; refine (names_any _ p b _ _ _ hd6 (by omega)).mono ?_; rintro e w7 ⟨A7, c7, rfl, ho7, hb7⟩; have hbw7 := hbw6.trans (hb7.mono hbw6.size); clear hd6 hbw6 hb7 ho7))
        go_ret
        exact ⟨rfl, hbw7⟩
      · rw [if_neg hq0] at hread
        obtain ⟨Sq, hSq⟩ : ∃ Sq, Sq = strB (fB q) := ⟨_, rfl⟩
        have hSz : (Sq.size : Int) = q := by rw [hSq, strB_size, fB, List.length_replicate]
        have hSz2 : Sq.size = q := by omega
        have hq1 : (0 : Int) < q := by omega
        have hSpos : 0 < Sq.size := by omega
        have hqp : 0 < q := by omega
        rw [← hSq] at hread
        clear hSq
        go_wp2_with (first
          | (go_at_call 18; refine hread.mono ?_; rintro e w3 ⟨rfl, hb3⟩; have hd3 := hd.below hb3 hd.lt.1 hd.lt.2; have hbw3 := hB2.out.trans (hb3.mono hB2.out.size); clear hd hread)
          | (go_at_call 15; refine (budget_any _ p b _ _ _ (-1) hd3).mono ?_; rintro e w4 ⟨rfl, hd4, hb4, hz4⟩; rw [if_pos (by omega)] at hd4; have hbw4 := hb4.below hbw3 hbw3.size hp1 hb1'; clear hd3 hbw3 hb4 hz4)
          | (go_at_call 16; refine (append_at _ p b _ _ _ hd4 ⟨#[102]⟩ ⟨#[121]⟩ (k := kF) (y := [121]) rfl rfl (by decide) (by decide) (Mb_some _ (by omega)) (by omega) (by omega) (Mb_last _).1 (Mb_last _).2.1 (Mb_last _).2.2).mono ?_; rintro e w5 ⟨rfl, hd5, hb5⟩; have hbw5 := hb5.below hbw4 hbw4.size hp1 hb1'; clear hd4 hbw4 hb5)
          | (go_at_call 19; refine (remove_at _ p b _ _ _ hd5 ⟨#[102]⟩ (k := kF) rfl (by decide) (by omega) (Mb_gone _).1 (Mb_gone _).2.1 (Mb_gone _).2.2).mono ?_; rintro e w6 ⟨rfl, hd6, hb6⟩; have hbw6 := hb6.below hbw5 hbw5.size hp1 hb1'; clear hd5 hbw5 hb6)
          | (go_at_call 20; refine (names_any _ p b _ _ _ hd6 (by omega)).mono ?_; rintro e w7 ⟨A7, c7, rfl, ho7, hb7⟩; have hbw7 := hbw6.trans (hb7.mono hbw6.size); clear hd6 hbw6 hb7 ho7))
        go_ret
        exact ⟨rfl, hbw7⟩
end Go.Proofs.Ytbighckpogfcaaa
