/- A record's frame as a plain function of bytes. -/
import Derived.Test.YtkadailbfeeamaaSha12
namespace Go.Proofs.Ytkadailbfeeamaa
open Go.RowKit
/-- a number of bytes, as four -/
def num4 (n : Nat) : List UInt8 := [UInt8.ofNat (n / 16777216), UInt8.ofNat (n / 65536), UInt8.ofNat (n / 256), UInt8.ofNat n]
theorem num4_length (n : Nat) : (num4 n).length = 4 := rfl
/-- what stands ahead of a record -/
def headL (l : List UInt8) : List UInt8 := num4 l.length ++ (Sha.sum (num4 l.length ++ l)).take 8
theorem headL_length (l : List UInt8) : (headL l).length = 12 := by
  rw [headL, List.length_append, num4_length, List.length_take, sum_len]; rfl
def frameL (l : List UInt8) : List UInt8 := headL l ++ l
theorem frameL_length (l : List UInt8) : (frameL l).length = l.length + 12 := by rw [frameL, List.length_append, headL_length]; omega
end Go.Proofs.Ytkadailbfeeamaa
