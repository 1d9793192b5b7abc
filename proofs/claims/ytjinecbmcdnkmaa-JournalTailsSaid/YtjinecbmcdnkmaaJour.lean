/- A record's frame as a plain function of bytes. -/
import Derived.Test.YtjinecbmcdnkmaaSha12
namespace Go.Proofs.Ytjinecbmcdnkmaa
open Go.RowKit
/-- a number of bytes, as four -/
def num4 (n : Nat) : List UInt8 := [UInt8.ofNat (n / 16777216), UInt8.ofNat (n / 65536), UInt8.ofNat (n / 256), UInt8.ofNat n]
theorem num4_length (n : Nat) : (num4 n).length = 4 := rfl
/-- what stands ahead of a record -/
def headL (l : List UInt8) : List UInt8 := num4 l.length ++ (Sha.sum (num4 l.length ++ l)).take 8
theorem headL_length (l : List UInt8) : (headL l).length = 12 := by
  rw [headL, List.length_append, num4_length, List.length_take, sum_len]; rfl
def frameL (l : List UInt8) : List UInt8 := headL l ++ l
theorem frameL_length (l : List UInt8) : (frameL l).length = l.length + 12 := by rw [frameL, List.length_append, headL_length]; omega
/-- a list of bytes as a string -/
def strB (l : List UInt8) : ByteArray := ⟨l.toArray⟩
theorem strB_list (l : List UInt8) : (strB l).data.toList = l := by simp [strB]
theorem strB_size (l : List UInt8) : (strB l).size = l.length := by show l.toArray.size = _; simp
theorem strB_of (s : ByteArray) : strB s.data.toList = s := by cases s; simp [strB]
theorem strB_append (a b : List UInt8) : strB a ++ strB b = strB (a ++ b) := by
  have h : (strB a ++ strB b).data.toList = (strB (a ++ b)).data.toList := by rw [string_append_toList, strB_list, strB_list, strB_list]
  cases hx : strB a ++ strB b with
  | mk x =>
    rw [hx] at h
    cases hy : strB (a ++ b) with
    | mk y => rw [hy] at h; congr 1; exact Array.toList_inj.1 h
end Go.Proofs.Ytjinecbmcdnkmaa
