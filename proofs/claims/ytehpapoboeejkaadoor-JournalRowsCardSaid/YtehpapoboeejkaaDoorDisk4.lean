/- The example of the disk's laws, and the law of its budget. -/
import Derived.Test.YtehpapoboeejkaaDoorDisk3
namespace Go.Proofs.YtehpapoboeejkaaDoor
open Go.RowKit Go.Maps
theorem append_at (w : World) (p b n : Nat) (M : Tab FileE) (left : Int) (h : DiskIs w p b n M left) (s d : ByteArray) {k y : List UInt8} (hk : s.data.toList = k) (hy : d.data.toList = y) (hs : k.length ≤ 1000000000) (hd : y.length ≤ 1000000000) (hf : (fileOf M k).1.length ≤ 1000000000) (hn : n < 1000000000) (hle : -1 ≤ left ∧ left ≤ 9223372036854775807)
    {E L : Int} {M' : Tab FileE} (h1 : beginE M left false [strB k] k = E) (h2 : appM M left k y = M') (h3 : beginL M left false [strB k] k = L) :
    Calls Tryd.prog 21 #[.pointer (some ⟨p, 0, none⟩), .string s, .string d] w fun e w' => e = .returned (.int .i64 E) ∧ DiskIs w' p b (n + 1) M' L ∧ But p b w w' := by
  subst hk hy h1 h2 h3
  exact append_any w p b n M left h s d (by rw [← toList_length]; exact hs) (by rw [← toList_length]; exact hd) hf hn hle
theorem sync_at (w : World) (p b n : Nat) (M : Tab FileE) (left : Int) (h : DiskIs w p b n M left) (s : ByteArray) {k : List UInt8} (hk : s.data.toList = k) (hs : k.length ≤ 1000000000) (hf : (fileOf M k).1.length ≤ 1000000000) (hn : n < 1000000000) (hle : -1 ≤ left ∧ left ≤ 9223372036854775807)
    {E L : Int} {M' : Tab FileE} (h1 : beginE M left true [strB k] k = E) (h2 : syncM M left k = M') (h3 : beginL M left true [strB k] k = L) :
    Calls Tryd.prog 23 #[.pointer (some ⟨p, 0, none⟩), .string s] w fun e w' => e = .returned (.int .i64 E) ∧ DiskIs w' p b (n + 1) M' L ∧ But p b w w' := by
  subst hk h1 h2 h3
  exact sync_any w p b n M left h s (by rw [← toList_length]; exact hs) hf hn hle
theorem remove_at (w : World) (p b n : Nat) (M : Tab FileE) (left : Int) (h : DiskIs w p b n M left) (s : ByteArray) {k : List UInt8} (hk : s.data.toList = k) (hs : k.length ≤ 1000000000) (hle : -1 ≤ left ∧ left ≤ 9223372036854775807)
    {E L : Int} {M' : Tab FileE} (h1 : beginE M left true [strB k] k = E) (h2 : remM M left k = M') (h3 : beginL M left true [strB k] k = L) :
    Calls Tryd.prog 31 #[.pointer (some ⟨p, 0, none⟩), .string s] w fun e w' => e = .returned (.int .i64 E) ∧ DiskIs w' p b n M' L ∧ But p b w w' := by
  subst hk h1 h2 h3
  exact remove_any w p b n M left h s (by rw [← toList_length]; exact hs) hle
theorem read_at (w : World) (p b n : Nat) (M : Tab FileE) (left : Int) (h : DiskIs w p b n M left) (s : ByteArray) {k : List UInt8} (hk : s.data.toList = k) (hs : k.length ≤ 1000000000) {v : Value} (h1 : readV M k = v) :
    Calls Tryd.prog 17 #[.pointer (some ⟨p, 0, none⟩), .string s] w fun e w' => e = .returned v ∧ Below w.heap.size w w' := by
  subst hk h1
  exact read_any w p b n M left h s (by rw [← toList_length]; exact hs)
abbrev kA : List UInt8 := [97]
abbrev kF : List UInt8 := [102]
abbrev kN : List UInt8 := [110, 111, 110, 101]
end Go.Proofs.YtehpapoboeejkaaDoor
