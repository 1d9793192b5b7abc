/- The walks of a record's frame (the program's alone). -/
import Derived.Test.YtehpapoboeejkaaDoorSha6
import Derived.Test.YtehpapoboeejkaaDoorStr
import Derived.Laws.Concat
import Derived.DeepKeys
import Derived.Deep.WholeRow
import Derived.BigRegion
namespace Go.Proofs.YtehpapoboeejkaaDoor
open Go.RowKit
/-- a number of bytes, as four -/
def num4 (n : Nat) : List UInt8 := [UInt8.ofNat (n / 16777216), UInt8.ofNat (n / 65536), UInt8.ofNat (n / 256), UInt8.ofNat n]
theorem num4_length (n : Nat) : (num4 n).length = 4 := rfl
/-- what stands ahead of a record -/
def headL (l : List UInt8) : List UInt8 := num4 l.length ++ (Sha.sum (num4 l.length ++ l)).take 8
theorem headL_length (l : List UInt8) : (headL l).length = 12 := by
  rw [headL, List.length_append, num4_length, List.length_take, sum_len]; rfl
def frameL (l : List UInt8) : List UInt8 := headL l ++ l
theorem frameL_length (l : List UInt8) : (frameL l).length = l.length + 12 := by rw [frameL, List.length_append, headL_length]; omega
theorem num4_a (n : Nat) (h : n ≤ 1048576) : u8s (num4 n) = [.int .u8 ((n : Int) / 16777216), .int .u8 ((n : Int) / 65536), .int .u8 ((n : Int) / 256 % 256), .int .u8 ((n : Int) % 256)] := by
  simp only [u8s, num4, List.map_cons, List.map_nil, UInt8.toNat_ofNat', List.cons.injEq, Value.int.injEq, true_and, and_true]
  refine ⟨by omega, by omega, by omega, by omega⟩
theorem num4_b (n : Nat) (h : n ≤ 1048576) : u8s (num4 n) = [.int .u8 ((n : Int) / 16777216), .int .u8 ((n : Int) / 65536 % 256), .int .u8 ((n : Int) / 256 % 256), .int .u8 ((n : Int) % 256)] := by
  rw [num4_a n h]
  simp only [List.cons.injEq, Value.int.injEq, true_and, and_true]
  omega
theorem ssum_pair (w : World) (a b : ByteArray) (g : Nat) (hs : a.size + b.size ≤ 70368744177664) (hg : w.heap[g]? = some (.cells #[.string a, .string b] 9 (0, 0))) : Calls Tryd.prog 43 #[.slice (some ⟨g, 0, none⟩) 2 2] w fun e w' => e = .returned (.agg (u8s (Sha.sum (a.data.toList ++ b.data.toList))).toArray) ∧ Below w.heap.size w w' := by
  have hf : flat [a, b] = a.data.toList ++ b.data.toList := by simp [flat]
  have hrd : Rd w 1 (some ⟨g, 0, none⟩) 2 ([a, b].map Value.string) := by
    refine ⟨rfl, fun _ => ⟨g, 0, rfl, fun j u hu => ?_⟩⟩
    rw [Nat.zero_add, cell_of_row w g j _ _ _ hg]
    simpa using hu
  have h := ssum_any w (some ⟨g, 0, none⟩) 2 2 [a, b] hrd (by decide) (by rw [hf, List.length_append, toList_length, toList_length]; exact hs)
  rw [hf] at h
  exact h
theorem rd_front {w : World} {g : Nat} {S : List UInt8} {t : TypeId} (k : Nat) (hk : k ≤ S.length) (h : w.heap[g]? = some (.cells (u8s S).toArray t (0, 0))) : Rd w 1 (some ⟨g, 0, none⟩) k (u8s (S.take k)) := by
  refine ⟨by rw [u8s_length, List.length_take]; omega, fun _ => ⟨g, 0, rfl, fun j u hu => ?_⟩⟩
  rw [Nat.zero_add, cell_of_row w g j _ _ _ h, List.getElem?_toArray]
  rw [u8s_take, List.getElem?_take] at hu
  split at hu
  · exact hu
  · cases hu
theorem wpList_store_fresh {ops : Array Oper} {rest : List Oper} {a : Act} {Q : Exit → Act → World → Prop} {w1 : World} {dst : Option Tmp} {tt : TypeId} {x v : Operand} {pos : String} {after : Array Edge} (X : List UInt8) (hX : X.length = 32)
    (hxv : a.eval x = .pointer (some ⟨w1.heap.size, 0, none⟩) ∧ a.eval v = .agg (u8s X).toArray)
    (h : wpList Tryd.prog ops Q rest (a.put dst undef) (w1.alloc (.cells (u8s X).toArray 83))) :
    wpList Tryd.prog ops Q (⟨dst, .store 83 x v, tt, pos, after, none⟩ :: rest) a (w1.alloc (.cells #[Value.int IntKind.u8 0, Value.int IntKind.u8 0, Value.int IntKind.u8 0, Value.int IntKind.u8 0, Value.int IntKind.u8 0, Value.int IntKind.u8 0, Value.int IntKind.u8 0, Value.int IntKind.u8 0, Value.int IntKind.u8 0, Value.int IntKind.u8 0, Value.int IntKind.u8 0, Value.int IntKind.u8 0, Value.int IntKind.u8 0, Value.int IntKind.u8 0, Value.int IntKind.u8 0, Value.int IntKind.u8 0, Value.int IntKind.u8 0, Value.int IntKind.u8 0, Value.int IntKind.u8 0, Value.int IntKind.u8 0, Value.int IntKind.u8 0, Value.int IntKind.u8 0, Value.int IntKind.u8 0, Value.int IntKind.u8 0, Value.int IntKind.u8 0, Value.int IntKind.u8 0, Value.int IntKind.u8 0, Value.int IntKind.u8 0, Value.int IntKind.u8 0, Value.int IntKind.u8 0, Value.int IntKind.u8 0, Value.int IntKind.u8 0] 83)) := by
  refine wpList_store_lit w1.heap.size 0 (.agg (u8s X).toArray) (u8s X) (agg_cells _) (u8s (List.replicate 32 0)).toArray 83 (heap_alloc_new w1 _) (info_h8' hX) (fit_h hX) (u8s_one _) hxv ?_
  rw [laid_all (by rw [u8s_length, hX, List.size_toArray, u8s_length, List.length_replicate]), World.setRow_alloc_new]
  exact h
set_option maxHeartbeats 1000000 in
theorem heading_any (w : World) (s : ByteArray) (hs : s.size ≤ 1048576) : Calls Tryd.prog 30 #[.string s] w fun e w' => e = .returned (.string (strB (headL s.data.toList))) ∧ Below w.heap.size w w' := by
  have hs0 : (s.size : Int) ≤ 1048576 := by omega
  obtain ⟨N, hN⟩ : ∃ N, N = strB (num4 s.size) := ⟨_, rfl⟩
  have hNl : N.data.toList = num4 s.size := by rw [hN, strB_list]
  have hNs : N.size = 4 := by rw [hN, strB_size]; rfl
  obtain ⟨S, hS⟩ : ∃ S, S = Sha.sum (N.data.toList ++ s.data.toList) := ⟨_, rfl⟩
  have hSl : S.length = 32 := by rw [hS]; exact sum_len _
  obtain ⟨T, hT⟩ : ∃ T, T = strB (S.take 8) := ⟨_, rfl⟩
  have hl8 : (S.take 8).length = 8 := by rw [List.length_take, hSl]; rfl
  have hTs : T.size = 8 := by rw [hT, strB_size, List.length_take, hSl]; rfl
  have hadd : ¬ (N.size + T.size > 9223372036854775807) := by omega
  have hR1 : Rd (w.alloc (.cells #[.int .u8 ((s.size : Int) / 16777216), .int .u8 ((s.size : Int) / 65536), .int .u8 ((s.size : Int) / 256 % 256), .int .u8 ((s.size : Int) % 256)] 5)) 1 (some ⟨w.heap.size, 0, none⟩) 4 (u8s (num4 s.size)) := by
    rw [num4_a s.size hs]; exact Rd.of_lit w #[_, _, _, _] 5 1 4 (by decide) rfl
  have hB : Below w.heap.size w (w.alloc (.cells #[.int .u8 ((s.size : Int) / 16777216), .int .u8 ((s.size : Int) / 65536), .int .u8 ((s.size : Int) / 256 % 256), .int .u8 ((s.size : Int) % 256)] 5)) := (Below.refl _ _).alloc (Nat.le_refl _) _
  have hsz : N.size + s.size ≤ 70368744177664 := by omega
  replace hB := hB.alloc hB.size (.cells #[.string N, .string s] 9)
  have HN := hid2 hN
  have HT := hid2 hT
  have HS := hid2 hS
  have HNL := hid2 hNl
  clear hN hT hS hNs hTs hNl
  go_enter Tryd.func30, Tryd.ntmps30
  go_wp2_with (first
    | ((with_reducible refine wpList_to_string_lit 5 (some ⟨w.heap.size, 0, none⟩) 4 4 (num4 s.size) Tryd.underlying54 Tryd.underlying5 Tryd.underlying9 rfl hR1 ?_ ?_); exact rfl; rw [show (⟨(num4 s.size).toArray⟩ : ByteArray) = N from HN.out.symm]; clear hR1)
    | (go_at_call 43; refine (ssum_pair _ N s (w.heap.size + 1) hsz (heap_alloc2_new w _ _)).mono ?_; rintro e wA ⟨rfl, hb⟩; replace hB := hB.trans (hb.mono hB.size); clear hb; rw [← HS.out])
    | ((with_reducible refine wpList_store_fresh S hSl ?_ ?_); exact ⟨rfl, rfl⟩; have hR2 := rd_front 8 (by omega) (heap_alloc_new wA (.cells (u8s S).toArray 83)))
    | ((with_reducible refine wpList_to_string_lit 5 (some ⟨wA.heap.size, 0, none⟩) 8 32 (S.take 8) Tryd.underlying54 Tryd.underlying5 Tryd.underlying9 hl8 hR2 ?_ ?_); exact rfl; rw [show (⟨(S.take 8).toArray⟩ : ByteArray) = T from HT.out.symm]))
  go_ret
  refine ⟨?_, hB.alloc hB.size _⟩
  have e : strB (headL s.data.toList) = N ++ T := by
    rw [HN.out, HT.out, strB_append, HS.out, HNL.out, headL, toList_length]
  rw [e]
  rfl
theorem frame_any (w : World) (s : ByteArray) (hs : s.size ≤ 1000000) : Calls Tryd.prog 13 #[.string s] w fun e w' => e = .returned (.tuple #[.string (strB (frameL s.data.toList)), .int .i64 0]) ∧ Below w.heap.size w w' := by
  have hs0 : (s.size : Int) ≤ 1048576 := by omega
  obtain ⟨N, hN⟩ : ∃ N, N = strB (headL s.data.toList) := ⟨_, rfl⟩
  have hNs : N.size = 12 := by rw [hN, strB_size, headL_length]
  have hadd : ¬ (N.size + s.size > 9223372036854775807) := by omega
  have e : strB (frameL s.data.toList) = N ++ s := by rw [hN, frameL, ← strB_append, strB_of]
  have HN := hid2 hN
  rw [e]
  clear hN hNs e
  go_enter Tryd.func13, Tryd.ntmps13
  go_wp2_with (first
    | (go_at_call 30; refine (heading_any _ s (by omega)).mono ?_; rintro e w1 ⟨rfl, hb⟩; rw [← HN.out]))
  go_ret2
  exact ⟨rfl, hb⟩
theorem frame_big (w : World) (s : ByteArray) (hs : 1048576 < s.size) : Calls Tryd.prog 13 #[.string s] w fun e w' => e = .returned (.tuple #[.string ⟨#[]⟩, .int .i64 6]) ∧ Below w.heap.size w w' := by
  have hs0 : (1048576 : Int) < s.size := by omega
  go_enter Tryd.func13, Tryd.ntmps13
  go_wp2_with fail
  go_ret2
  exact ⟨rfl, Below.refl _ _⟩
theorem jfixed_any (w : World) : Calls Tryd.prog 4 #[] w fun e w' => e = .returned (.bool true) ∧ Below w.heap.size w w' := by
  obtain ⟨F, hF⟩ : ∃ F, F = strB (frameL []) := ⟨_, rfl⟩
  have hFs : F.size = 12 := by rw [hF, strB_size, frameL_length]; rfl
  have hF4 : (F.extract 0 4) = ⟨#[0, 0, 0, 0]⟩ := by
    apply bytes_ext
    rw [ByteArray.data_extract, Array.toList_extract, hF, strB_list]
    rfl
  have hFs' : (F.size : Int) = 12 := by omega
  have HF := hid2 hF
  clear hF
  go_enter Tryd.func4, Tryd.ntmps4
  go_wp2_with (first
    | (go_at_call 13; refine (frame_any _ ⟨#[]⟩ (by decide)).mono ?_; rintro e w1 ⟨rfl, hb⟩; rw [show strB (frameL (⟨#[]⟩ : ByteArray).data.toList) = F from HF.out.symm]))
  go_ret
  exact ⟨rfl, hb⟩
end Go.Proofs.YtehpapoboeejkaaDoor
