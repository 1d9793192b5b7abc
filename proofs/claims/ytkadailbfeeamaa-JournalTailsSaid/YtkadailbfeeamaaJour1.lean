/- The walks of a record's frame. -/
import Derived.Test.YtkadailbfeeamaaJour
import Derived.Test.YtkadailbfeeamaaSha18
namespace Go.Proofs.Ytkadailbfeeamaa
open Go.RowKit
set_option maxRecDepth 100000
theorem num4_a (n : Nat) (h : n ≤ 1048576) : u8s (num4 n) = [.int .u8 ((n : Int) / 16777216), .int .u8 ((n : Int) / 65536), .int .u8 ((n : Int) / 256 % 256), .int .u8 ((n : Int) % 256)] := by
  simp only [u8s, num4, List.map_cons, List.map_nil, UInt8.toNat_ofNat', List.cons.injEq, Value.int.injEq, true_and, and_true]
  refine ⟨by omega, by omega, by omega, by omega⟩
theorem num4_b (n : Nat) (h : n ≤ 1048576) : u8s (num4 n) = [.int .u8 ((n : Int) / 16777216), .int .u8 ((n : Int) / 65536 % 256), .int .u8 ((n : Int) / 256 % 256), .int .u8 ((n : Int) % 256)] := by
  rw [num4_a n h]
  simp only [List.cons.injEq, Value.int.injEq, true_and, and_true]
  omega
theorem ssum_pair (w : World) (a b : ByteArray) (g : Nat) (hs : a.size + b.size ≤ 70368744177664) (hg : w.heap[g]? = some (.cells #[.string a, .string b] 9 (0, 0))) : Calls Try.prog 18 #[.slice (some ⟨g, 0, none⟩) 2 2] w fun e w' => e = .returned (.agg (u8s (Sha.sum (a.data.toList ++ b.data.toList))).toArray) ∧ Below w.heap.size w w' := by
  have hf : flat [a, b] = a.data.toList ++ b.data.toList := by simp [flat]
  have hrd : Rd w 1 (some ⟨g, 0, none⟩) 2 ([a, b].map Value.string) := by
    refine ⟨rfl, fun _ => ⟨g, 0, rfl, fun j u hu => ?_⟩⟩
    rw [Nat.zero_add, cell_of_row w g j _ _ _ hg]
    simpa using hu
  have h := ssum_any w (some ⟨g, 0, none⟩) 2 2 [a, b] hrd (by decide) (by rw [hf, List.length_append, toList_length, toList_length]; exact hs)
  rw [hf] at h
  exact h
theorem rd_front {w : World} {g : Nat} {S : List UInt8} {t : TypeId} (k : Nat) (hk : k ≤ S.length) (h : w.heap[g]? = some (.cells (u8s S).toArray t (0, 0))) : Rd w 1 (some ⟨g, 0, none⟩) k (u8s (S.take k)) := by
  refine ⟨by rw [u8s_length, List.length_take]; omega, fun _ => ⟨g, 0, rfl, fun j u hu => ?_⟩⟩
  rw [Nat.zero_add, cell_of_row w g j _ _ _ h, List.getElem?_toArray]
  rw [u8s_take, List.getElem?_take] at hu
  split at hu
  · exact hu
  · cases hu
set_option maxHeartbeats 1000000 in
theorem heading_any (w : World) (s : ByteArray) (hs : s.size ≤ 1048576) : Calls Try.prog 38 #[.string s] w fun e w' => e = .returned (.string (strB (headL s.data.toList))) ∧ Below w.heap.size w w' := by
  have hs0 : (s.size : Int) ≤ 1048576 := by omega
  obtain ⟨N, hN⟩ : ∃ N, N = strB (num4 s.size) := ⟨_, rfl⟩
  have hNl : N.data.toList = num4 s.size := by rw [hN, strB_list]
  have hNs : N.size = 4 := by rw [hN, strB_size]; rfl
  obtain ⟨S, hS⟩ : ∃ S, S = Sha.sum (N.data.toList ++ s.data.toList) := ⟨_, rfl⟩
  have hSl : S.length = 32 := by rw [hS]; exact sum_len _
  obtain ⟨T, hT⟩ : ∃ T, T = strB (S.take 8) := ⟨_, rfl⟩
  have hl8 : (S.take 8).length = 8 := by rw [List.length_take, hSl]; rfl
  have hTs : T.size = 8 := by rw [hT, strB_size, List.length_take, hSl]; rfl
  have hadd : ¬ (N.size + T.size > 9223372036854775807) := by omega
  have hR1 : Rd (w.alloc (.cells #[.int .u8 ((s.size : Int) / 16777216), .int .u8 ((s.size : Int) / 65536), .int .u8 ((s.size : Int) / 256 % 256), .int .u8 ((s.size : Int) % 256)] 5)) 1 (some ⟨w.heap.size, 0, none⟩) 4 (u8s (num4 s.size)) := by
    rw [num4_a s.size hs]; exact Rd.of_lit w #[_, _, _, _] 5 1 4 (by decide) rfl
  have hB : Below w.heap.size w (w.alloc (.cells #[.int .u8 ((s.size : Int) / 16777216), .int .u8 ((s.size : Int) / 65536), .int .u8 ((s.size : Int) / 256 % 256), .int .u8 ((s.size : Int) % 256)] 5)) := (Below.refl _ _).alloc (Nat.le_refl _) _
  have hsz : N.size + s.size ≤ 70368744177664 := by omega
  replace hB := hB.alloc hB.size (.cells #[.string N, .string s] 9)
  have HN := hid2 hN
  have HT := hid2 hT
  have HS := hid2 hS
  have HNL := hid2 hNl
  clear hN hT hS hNs hTs hNl
  go_enter Try.func38, Try.ntmps38
  go_wp2_with (first
    | ((with_reducible refine wpList_to_string_lit 5 (some ⟨w.heap.size, 0, none⟩) 4 4 (num4 s.size) Try.underlying28 Try.underlying5 Try.underlying9 rfl hR1 ?_ ?_); exact rfl; rw [show (⟨(num4 s.size).toArray⟩ : ByteArray) = N from HN.out.symm]; clear hR1)
    | (go_at_call 18; refine (ssum_pair _ N s (w.heap.size + 1) hsz (heap_alloc2_new w _ _)).mono ?_; rintro e wA ⟨rfl, hb⟩; replace hB := hB.trans (hb.mono hB.size); clear hb; rw [← HS.out])
    | ((with_reducible refine wpList_store_fresh S hSl ?_ ?_); exact ⟨rfl, rfl⟩; have hR2 := rd_front 8 (by omega) (heap_alloc_new wA (.cells (u8s S).toArray 34)))
    | ((with_reducible refine wpList_to_string_lit 5 (some ⟨wA.heap.size, 0, none⟩) 8 32 (S.take 8) Try.underlying28 Try.underlying5 Try.underlying9 hl8 hR2 ?_ ?_); exact rfl; rw [show (⟨(S.take 8).toArray⟩ : ByteArray) = T from HT.out.symm]))
  go_ret
  refine ⟨?_, hB.alloc hB.size _⟩
  have e : strB (headL s.data.toList) = N ++ T := by
    rw [HN.out, HT.out, strB_append, HS.out, HNL.out, headL, toList_length]
  rw [e]
  rfl
theorem rhead_any (w : World) (s : ByteArray) (hs : s.size ≤ 900) : Calls Try.prog 39 #[.string s] w fun e w' => e = .returned (.string (strB (headL s.data.toList))) ∧ Below w.heap.size w w' := by
  have hs0 : (s.size : Int) ≤ 900 := by omega
  obtain ⟨N, hN⟩ : ∃ N, N = strB (num4 s.size) := ⟨_, rfl⟩
  have hNl : N.data.toList = num4 s.size := by rw [hN, strB_list]
  have hNs : N.size = 4 := by rw [hN, strB_size]; rfl
  obtain ⟨S, hS⟩ : ∃ S, S = Sha.sum (N ++ s).data.toList := ⟨_, rfl⟩
  have hSl : S.length = 32 := by rw [hS]; exact sum_len _
  have hadd : ¬ (N.size + s.size > 9223372036854775807) := by omega
  have hR1 : Rd (w.alloc (.cells #[.int .u8 ((s.size : Int) / 16777216), .int .u8 ((s.size : Int) / 65536 % 256), .int .u8 ((s.size : Int) / 256 % 256), .int .u8 ((s.size : Int) % 256)] 5)) 1 (some ⟨w.heap.size, 0, none⟩) 4 (u8s (num4 s.size)) := by
    rw [num4_b s.size (by omega)]; exact Rd.of_lit w #[_, _, _, _] 5 1 4 (by decide) rfl
  have hB : Below w.heap.size w (w.alloc (.cells #[.int .u8 ((s.size : Int) / 16777216), .int .u8 ((s.size : Int) / 65536 % 256), .int .u8 ((s.size : Int) / 256 % 256), .int .u8 ((s.size : Int) % 256)] 5)) := (Below.refl _ _).alloc (Nat.le_refl _) _
  have hsz : (N ++ s).size ≤ 1000 := by rw [ByteArray.size_append]; omega
  have HN := hid2 hN
  have HS := hid2 hS
  have HNL := hid2 hNl
  have HNS := hid2 hNs
  clear hN hS hNs hNl
  go_enter Try.func39, Try.ntmps39
  go_wp2_with (first
    | ((with_reducible refine wpList_to_string_lit 5 (some ⟨w.heap.size, 0, none⟩) 4 4 (num4 s.size) Try.underlying28 Try.underlying5 Try.underlying9 rfl hR1 ?_ ?_); exact rfl; rw [show (⟨(num4 s.size).toArray⟩ : ByteArray) = N from HN.out.symm]; clear hR1)
    | (go_at_call 19; refine (refsum_any _ (N ++ s) hsz).mono ?_; rintro e wA ⟨rfl, hb⟩; replace hB := hB.trans (hb.mono hB.size); clear hb; rw [← HS.out])
    | ((with_reducible refine wpList_store_fresh S hSl ?_ ?_); exact ⟨rfl, rfl⟩))
  have hrow : (wA.alloc (.cells (u8s S).toArray 34)).heap[wA.heap.size]? = some (.cells (u8s S).toArray 34 (0, 0)) := heap_alloc_new wA _
  have hB2 := hB.alloc hB.size (.cells (u8s S).toArray 34)
  obtain ⟨wz, hwz⟩ : ∃ wz, wz = wA.alloc (.cells (u8s S).toArray 34) := ⟨_, rfl⟩
  obtain ⟨G, hG⟩ : ∃ G, G = wA.heap.size := ⟨_, rfl⟩
  rw [← hwz] at hrow hB2 ⊢
  rw [← hG] at hrow ⊢
  clear hwz hG hB hsz hadd
  go_loopw [6, 7] (fun v i wr => ∃ k : Nat, k ≤ 8 ∧ i = .int .i64 k ∧ v = .string (strB (num4 s.size ++ S.take k)) ∧ Below w.heap.size w wr ∧ wr.heap[G]? = some (.cells (u8s S).toArray 34 (0, 0))) (fun _ i _ => 8 - (intOf i).toNat)
  case atStart => exact ⟨0, by omega, rfl, by rw [HN.out, List.take_zero, List.append_nil], hB2, hrow⟩
  case round =>
    clear hB2 hrow
    obtain ⟨k, hk, rfl, rfl, hB, hrow⟩ := hrel
    obtain ⟨o, ho⟩ : ∃ o, o = strB (num4 s.size ++ S.take k) := ⟨_, rfl⟩
    rw [← ho]
    by_cases hlt : k < 8
    · have hkS : k < S.length := by omega
      have hcell : wr.cell? ⟨G, k, none⟩ = some (.int .u8 (S.getD k 0).toNat) := (cell_of_row _ G k _ _ _ hrow).trans (by rw [List.getElem?_toArray]; exact u8s_get S hkS)
      obtain ⟨b, hb⟩ : ∃ b, b = S.getD k 0 := ⟨_, rfl⟩
      rw [← hb] at hcell
      obtain ⟨T, hT⟩ : ∃ T, T = strB [b] := ⟨_, rfl⟩
      have hos : o.size ≤ 12 := by rw [ho, strB_size, List.length_append, num4_length, List.length_take]; omega
      have hTs : T.size = 1 := by rw [hT, strB_size]; rfl
      have hadd : ¬ (o.size + T.size > 9223372036854775807) := by omega
      have HO := hid2 ho
      have HT := hid2 hT
      have HBB := hid2 hb
      have hlt' : (k : Int) < 8 := by omega
      have hR1 : Rd (wr.alloc (.cells #[.int .u8 b.toNat] 5)) 1 (some ⟨wr.heap.size, 0, none⟩) 1 (u8s [b]) := Rd.one wr _ _
      clear ho hT hb hos hTs
      go_wp2_with (first
        | ((with_reducible refine wpList_to_string_lit 5 (some ⟨wr.heap.size, 0, none⟩) 1 1 [b] Try.underlying28 Try.underlying5 Try.underlying9 rfl hR1 ?_ ?_); exact rfl; rw [show (⟨[b].toArray⟩ : ByteArray) = T from HT.out.symm]; clear hR1))
      go_roundw
      case rel =>
        refine ⟨k + 1, by omega, by go_num, ?_, hB.alloc hB.size _, (Below.heap_alloc wr _ _ (heap_lt hrow)).trans hrow⟩
        rw [HO.out, HT.out, strB_append, List.take_succ_eq_append_getElem hkS, List.append_assoc, HBB.out, List.getD_eq_getElem?_getD, List.getElem?_eq_getElem hkS]
        rfl
      case measure => simp [intOf]; omega
    · have hk8 : k = 8 := by omega
      have hlt' : ¬ (k : Int) < 8 := by omega
      have e : strB (headL s.data.toList) = o := by
        rw [ho, hk8, headL, HS.out, string_append_toList, HNL.out, toList_length]
      clear ho
      go_wp2_with fail
      go_ret
      exact ⟨rfl, hB⟩
end Go.Proofs.Ytkadailbfeeamaa
