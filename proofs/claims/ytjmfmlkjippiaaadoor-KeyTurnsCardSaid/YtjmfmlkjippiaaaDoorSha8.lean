/- The walks of the document's whole. -/
import Derived.Test.YtjmfmlkjippiaaaDoorSha7
namespace Go.Proofs.YtjmfmlkjippiaaaDoor
open Go.RowKit
set_option maxRecDepth 100000

/-- a row of bytes in its slot v: so far T -/
def RowInv (w wr : World) (T : List UInt8) (v : Value) : Prop :=
  Below w.heap.size w wr ∧ ∃ A c, v = .slice A T.length c ∧ Own wr w.heap.size 5 1 A T.length c (u8s T)
theorem RowInv.push {w wr w2 : World} {T : List UInt8} {A A' : Option Addr} {n c c' : Nat} {o : Obj} {b : UInt8} {x : Int} (hn : n = T.length) (hb : Below w.heap.size w wr) (hown : Own wr w.heap.size 5 1 A n c (u8s T))
    (hgr : (wr.alloc o).grownBy w2 (blockOf A)) (hown2 : Own w2 w.heap.size 5 1 A' (n + 1) c' (u8s T ++ [.int .u8 x])) (hx : x = b.toNat) : RowInv w w2 (T ++ [b]) (.slice A' (n + 1) c') := by
  subst hn hx
  rw [u8s_snoc] at hown2
  refine ⟨(hb.alloc hb.size o).grown hgr (by simp; have := hb.size; omega) (fun k e => (hown.block k e).1), A', c', by rw [List.length_append]; rfl, ?_⟩
  rw [List.length_append]
  exact hown2
set_option maxHeartbeats 1000000 in
theorem whole_any (w : World) (s : ByteArray) (hs : s.size ≤ 20000) :
    Calls Tryd.prog 40 #[.string s] w fun e w' => ∃ v, e = .returned v ∧ RowInv w w' (Sha.whole s.data.toList) v := by
  have HMX := hid2 (show s.size ≤ maxLen by unfold maxLen; omega)
  obtain ⟨d, hd⟩ : ∃ d, d = s.data.toList := ⟨_, rfl⟩
  have htl := toList_length s
  rw [← hd] at htl ⊢
  have HTL := hid2 htl
  have HD := hid2 hd
  have HM1 := hid2 (show s.size + 1 ≤ maxLen by unfold maxLen; omega)
  have HM2 := hid2 (show (s.size + 1) * 1 ≤ 140737488355328 by omega)
  clear hd htl
  go_enter Tryd.func40, Tryd.ntmps40
  go_wp2_with (first
    | ((with_reducible refine wpList_to_bytes_lit 5 w.heap.size s Tryd.underlying9 Tryd.underlying58 Tryd.underlying5 (Nat.le_refl _) HMX.out ?_ ?_); exact rfl; intro A2 c2 w2 hown0 hbe2 hbl2; rw [← HD.out] at hown0)
    | (at_builtin; have _t := hown0; go_must ((with_reducible refine wpList_append_lit 5 (.int .u8 0) 1 1 Tryd.underlying58 info_u8 rfl w.heap.size A2 s.size c2 (u8s d) (hown0.alloc _) 1 [.int .u8 128] (.slice (some ⟨w2.heap.size, 0, none⟩) 1 1) (Src.slice Tryd.underlying58 (Rd.one w2 _ _)) one_int HM1.out HM2.out ?_ ?_ ?_); (simp; have := hbe2.size; omega); exact ⟨rfl, rfl⟩; intro A3 c3 w3 hown3 hgr3 hbl3; clear hown0)))
  have hI0 : RowInv w w3 (d ++ [128]) (.slice A3 (s.size + 1) c3) := RowInv.push HTL.out.symm hbe2 _t hgr3 hown3 rfl
  clear hbe2 hbl2 hgr3 hbl3 hown3 _t
  obtain ⟨z, hz⟩ : ∃ z, z = (119 - s.size % 64) % 64 := ⟨_, rfl⟩
  have hmz : (s.size + 1 + z) % 64 = 56 := by omega
  have hmz' : ∀ k, k < z → (s.size + 1 + k) % 64 ≠ 56 := by intro k hk; omega
  have hz64 : z < 64 := by omega
  have HZ := hid2 hz
  have HMZ := hid2 hmz
  have HMZ' := hid2 hmz'
  clear hz hmz hmz'
  go_loopg [3] z (fun gk v wr => ∃ k, k + gk = z ∧ RowInv w wr (d ++ 128 :: List.replicate k 0) v)
  case atStart => exact ⟨0, by omega, hI0⟩
  case round =>
    clear hI0
    obtain ⟨k, hk, hbe, Ak, ck, rfl, hown⟩ := hrel
    have hTl : (d ++ 128 :: List.replicate k 0).length = s.size + 1 + k := by
      rw [List.length_append, HTL.out, List.length_cons, List.length_replicate]; omega
    obtain ⟨T, hT⟩ : ∃ T, T = d ++ 128 :: List.replicate k 0 := ⟨_, rfl⟩
    rw [← hT] at hTl hown ⊢
    obtain ⟨n, hn⟩ : ∃ n, n = T.length := ⟨_, rfl⟩
    rw [← hn] at hTl hown ⊢
    have HT := hid2 hT
    have HTL2 := hid2 hTl
    have HNT := hid2 hn
    clear hT hn
    have hS1 := hbe.size
    by_cases hkz : k < z
    · have htest : ((n : Int) % 64 != 56) = true := by
        have := HMZ'.out k hkz
        rw [bne_iff_ne]; omega
      clear hTl
      go_wp2_with (first
        | (at_builtin; have _t := hown; go_must ((with_reducible refine wpList_append_lit 5 (.int .u8 0) 1 1 Tryd.underlying58 info_u8 rfl w.heap.size Ak n ck (u8s T) (hown.alloc _) 1 [.int .u8 0] (.slice (some ⟨wr.heap.size, 0, none⟩) 1 1) (Src.slice Tryd.underlying58 (Rd.one wr _ _)) one_int ?_ ?_ ?_ ?_ ?_); (have := HTL2.out; unfold maxLen; omega); (have := HTL2.out; omega); (simp; omega); exact ⟨rfl, rfl⟩; intro A3 c3 w3 hown3 hgr3 hbl3; clear hown)))
      go_roundg (gk - 1)
      case rel => exact ⟨k + 1, by omega, by rw [zeros_snoc, ← HT.out]; exact RowInv.push HNT.out hbe _t hgr3 hown3 rfl⟩
      case measure => omega
    · have hkz' : k = z := by omega
      have htest : ((n : Int) % 64 != 56) = false := by
        have := HMZ.out
        rw [bne_eq_false_iff_eq]; omega
      have HKZ := hid2 hkz'
      have hn130 : n ≤ 20200 := by omega
      clear hTl hkz' hkz hk
      go_wp2
      have hI : RowInv w wr (T ++ (Sha.eight (8 * s.size)).take 0) (.slice Ak n ck) := by
        rw [List.take_zero, List.append_nil, HNT.out]
        rw [HNT.out] at hown
        exact ⟨hbe, Ak, ck, rfl, hown⟩
      clear hbe hown hS1
      go_loopg [3, 5] 8 (fun gk v i wr => ∃ j, j + gk = 8 ∧ i = .int .i64 (7 - (j : Int)) ∧ RowInv w wr (T ++ (Sha.eight (8 * s.size)).take j) v)
      case atStart => exact ⟨0, by omega, rfl, hI⟩
      case round =>
        clear hI
        obtain ⟨j, hj, rfl, hbe, Aj, cj, rfl, hown⟩ := hrel
        obtain ⟨U, hU⟩ : ∃ U, U = T ++ (Sha.eight (8 * s.size)).take j := ⟨_, rfl⟩
        rw [← hU] at hown ⊢
        obtain ⟨q, hq⟩ : ∃ q, q = U.length := ⟨_, rfl⟩
        rw [← hq] at hown ⊢
        have hql : q ≤ n + 8 := by rw [hq, hU, List.length_append, HNT.out, List.length_take]; omega
        have HU := hid2 hU
        have HQ := hid2 hq
        clear hU hq
        have hS1 := hbe.size
        by_cases hj8 : j < 8
        · have hge : (0 : Int) ≤ 7 - (j : Int) := by omega
          have hge8 : (0 : Int) ≤ 8 * (7 - (j : Int)) := by omega
          go_wp2_with (first
            | (at_builtin; have _t := hown; go_must ((with_reducible refine wpList_append_lit 5 (.int .u8 0) 1 1 Tryd.underlying58 info_u8 rfl w.heap.size Aj q cj (u8s U) (hown.alloc _) 1 [_] (.slice (some ⟨wr.heap.size, 0, none⟩) 1 1) (Src.slice Tryd.underlying58 (Rd.one wr _ _)) one_int ?_ ?_ ?_ ?_ ?_); (unfold maxLen; omega); omega; (simp; omega); exact ⟨rfl, rfl⟩; intro A3 c3 w3 hown3 hgr3 hbl3; clear hown)))
          go_roundg (gk - 1)
          case rel => exact ⟨j + 1, by omega, by go_num, by rw [eight_take s.size j hj8, ← List.append_assoc, ← HU.out]; exact RowInv.push HQ.out hbe _t hgr3 hown3 (by rw [← byteAt_int, show 56 - 8 * j = 8 * (7 - j) by omega, Int.mul_comm])⟩
          case measure => omega
        · have hlt0 : (7 - (j : Int)) < 0 := by omega
          have hj8' : j = 8 := by omega
          have hW : U = T ++ Sha.eight (8 * s.size) := by rw [HU.out, hj8', List.take_of_length_le (by rw [eight_length]; omega)]
          have HW := hid2 hW
          have HJ := hid2 hj8'
          clear hW hj8' hj8 hj
          go_wp2
          go_ret
          refine ⟨_, rfl, ?_⟩
          have e : Sha.whole d = U := by
            rw [HW.out, HT.out, HKZ.out, HZ.out, Sha.whole, Sha.tail, HTL.out, List.append_assoc, List.cons_append]
          rw [e, HQ.out]
          rw [HQ.out] at hown
          exact ⟨hbe, Aj, cj, rfl, hown⟩
end Go.Proofs.YtjmfmlkjippiaaaDoor
