/- A list of bytes as a string. -/
import Derived.Test.YtehpapoboeejkaaDoorMem3
import Derived.Test.YtehpapoboeejkaaDoorChecked
namespace Go.Proofs.YtehpapoboeejkaaDoor
open Go.RowKit
theorem string_append_toList (a b : ByteArray) : (a ++ b).data.toList = a.data.toList ++ b.data.toList := by simp
theorem bytes_ext {a b : ByteArray} (h : a.data.toList = b.data.toList) : a = b := by
  cases a; cases b
  simp only [ByteArray.mk.injEq]
  exact Array.toList_inj.1 h
/-- a list of bytes as a string -/
def strB (l : List UInt8) : ByteArray := ⟨l.toArray⟩
theorem strB_list (l : List UInt8) : (strB l).data.toList = l := by simp [strB]
theorem strB_size (l : List UInt8) : (strB l).size = l.length := by show l.toArray.size = _; simp
theorem strB_of (s : ByteArray) : strB s.data.toList = s := by cases s; simp [strB]
theorem strB_eq {s : ByteArray} {l : List UInt8} (h : s.data.toList = l) : s = strB l := by rw [← h, strB_of]
theorem strB_append (a b : List UInt8) : strB a ++ strB b = strB (a ++ b) := bytes_ext (by rw [string_append_toList, strB_list, strB_list, strB_list])
theorem extract_list (s : ByteArray) (a b : Nat) : (s.extract a b).data.toList = (s.data.toList.drop a).take (b - a) := by
  rw [ByteArray.data_extract, Array.toList_extract, List.extract_eq_take_drop]
/-- a row of texts as cells -/
def strV (l : List (List UInt8)) : List Value := l.map fun r => .string (strB r)
theorem strV_length (l : List (List UInt8)) : (strV l).length = l.length := by simp [strV]
theorem strV_snoc (l : List (List UInt8)) (r : List UInt8) : strV l ++ [.string (strB r)] = strV (l ++ [r]) := by simp [strV]
theorem one_str {s : ByteArray} : ∀ v ∈ [Value.string s], v.oneCell' = true := by simp [Value.oneCell']
theorem info_str : (Tryd.prog.info? 9).map (fun i => (i.zero, i.size, i.bytes)) = some (some (.string ⟨#[]⟩), 1, 16) := by kernel_rfl
end Go.Proofs.YtehpapoboeejkaaDoor
