/- The walks of a record's frame (the program's alone). -/
import Derived.Test.YtegkjmmknjhdiaaSha6
import Derived.Test.YtegkjmmknjhdiaaStr
import Derived.Laws.Concat
import Derived.DeepKeys
import Derived.Deep.WholeRow
import Derived.BigRegion
namespace Go.Proofs.Ytegkjmmknjhdiaa
open Go.RowKit
/-- a number of bytes, as four -/
def num4 (n : Nat) : List UInt8 := [UInt8.ofNat (n / 16777216), UInt8.ofNat (n / 65536), UInt8.ofNat (n / 256), UInt8.ofNat n]
theorem num4_length (n : Nat) : (num4 n).length = 4 := rfl
/-- what stands ahead of a record -/
def headL (l : List UInt8) : List UInt8 := num4 l.length ++ (Sha.sum (num4 l.length ++ l)).take 8
theorem headL_length (l : List UInt8) : (headL l).length = 12 := by
  rw [headL, List.length_append, num4_length, List.length_take, sum_len]; rfl
def frameL (l : List UInt8) : List UInt8 := headL l ++ l
theorem frameL_length (l : List UInt8) : (frameL l).length = l.length + 12 := by rw [frameL, List.length_append, headL_length]; omega
theorem num4_a (n : Nat) (h : n ≤ 1048576) : u8s (num4 n) = [.int .u8 ((n : Int) / 16777216), .int .u8 ((n : Int) / 65536), .int .u8 ((n : Int) / 256 % 256), .int .u8 ((n : Int) % 256)] := by
  simp only [u8s, num4, List.map_cons, List.map_nil, UInt8.toNat_ofNat', List.cons.injEq, Value.int.injEq, true_and, and_true]
  refine ⟨by omega, by omega, by omega, by omega⟩
theorem num4_b (n : Nat) (h : n ≤ 1048576) : u8s (num4 n) = [.int .u8 ((n : Int) / 16777216), .int .u8 ((n : Int) / 65536 % 256), .int .u8 ((n : Int) / 256 % 256), .int .u8 ((n : Int) % 256)] := by
  rw [num4_a n h]
  simp only [List.cons.injEq, Value.int.injEq, true_and, and_true]
  omega
theorem ssum_pair (w : World) (a b : ByteArray) (g : Nat) (hs : a.size + b.size ≤ 70368744177664) (hg : w.heap[g]? = some (.cells #[.string a, .string b] 9 (0, 0))) : Calls Try.prog 31 #[.slice (some ⟨g, 0, none⟩) 2 2] w fun e w' => e = .returned (.agg (u8s (Sha.sum (a.data.toList ++ b.data.toList))).toArray) ∧ Below w.heap.size w w' := by
  have hf : flat [a, b] = a.data.toList ++ b.data.toList := by simp [flat]
  have hrd : Rd w 1 (some ⟨g, 0, none⟩) 2 ([a, b].map Value.string) := by
    refine ⟨rfl, fun _ => ⟨g, 0, rfl, fun j u hu => ?_⟩⟩
    rw [Nat.zero_add, cell_of_row w g j _ _ _ hg]
    simpa using hu
  have h := ssum_any w (some ⟨g, 0, none⟩) 2 2 [a, b] hrd (by decide) (by rw [hf, List.length_append, toList_length, toList_length]; exact hs)
  rw [hf] at h
  exact h
theorem rd_front {w : World} {g : Nat} {S : List UInt8} {t : TypeId} (k : Nat) (hk : k ≤ S.length) (h : w.heap[g]? = some (.cells (u8s S).toArray t (0, 0))) : Rd w 1 (some ⟨g, 0, none⟩) k (u8s (S.take k)) := by
  refine ⟨by rw [u8s_length, List.length_take]; omega, fun _ => ⟨g, 0, rfl, fun j u hu => ?_⟩⟩
  rw [Nat.zero_add, cell_of_row w g j _ _ _ h, List.getElem?_toArray]
  rw [u8s_take, List.getElem?_take] at hu
  split at hu
  · exact hu
  · cases hu
theorem wpList_store_fresh {ops : Array Oper} {rest : List Oper} {a : Act} {Q : Exit → Act → World → Prop} {w1 : World} {dst : Option Tmp} {tt : TypeId} {x v : Operand} {pos : String} {after : Array Edge} (X : List UInt8) (hX : X.length = 32)
    (hxv : a.eval x = .pointer (some ⟨w1.heap.size, 0, none⟩) ∧ a.eval v = .agg (u8s X).toArray)
    (h : wpList Try.prog ops Q rest (a.put dst undef) (w1.alloc (.cells (u8s X).toArray 39))) :
    wpList Try.prog ops Q (⟨dst, .store 39 x v, tt, pos, after, none⟩ :: rest) a (w1.alloc (.cells #[Value.int IntKind.u8 0, Value.int IntKind.u8 0, Value.int IntKind.u8 0, Value.int IntKind.u8 0, Value.int IntKind.u8 0, Value.int IntKind.u8 0, Value.int IntKind.u8 0, Value.int IntKind.u8 0, Value.int IntKind.u8 0, Value.int IntKind.u8 0, Value.int IntKind.u8 0, Value.int IntKind.u8 0, Value.int IntKind.u8 0, Value.int IntKind.u8 0, Value.int IntKind.u8 0, Value.int IntKind.u8 0, Value.int IntKind.u8 0, Value.int IntKind.u8 0, Value.int IntKind.u8 0, Value.int IntKind.u8 0, Value.int IntKind.u8 0, Value.int IntKind.u8 0, Value.int IntKind.u8 0, Value.int IntKind.u8 0, Value.int IntKind.u8 0, Value.int IntKind.u8 0, Value.int IntKind.u8 0, Value.int IntKind.u8 0, Value.int IntKind.u8 0, Value.int IntKind.u8 0, Value.int IntKind.u8 0, Value.int IntKind.u8 0] 39)) := by
  refine wpList_store_lit w1.heap.size 0 (.agg (u8s X).toArray) (u8s X) (agg_cells _) (u8s (List.replicate 32 0)).toArray 39 (heap_alloc_new w1 _) (info_h8' hX) (fit_h hX) (u8s_one _) hxv ?_
  rw [laid_all (by rw [u8s_length, hX, List.size_toArray, u8s_length, List.length_replicate]), World.setRow_alloc_new]
  exact h
end Go.Proofs.Ytegkjmmknjhdiaa
