/- The example of the disk's laws, and the law of its budget. -/
import Derived.Test.YtbighckpogfcaaaDisk3
namespace Go.Proofs.Ytbighckpogfcaaa
open Go.RowKit Go.Maps
theorem append_at (w : World) (p b n : Nat) (M : Tab FileE) (left : Int) (h : DiskIs w p b n M left) (s d : ByteArray) {k y : List UInt8} (hk : s.data.toList = k) (hy : d.data.toList = y) (hs : k.length ≤ 1000000000) (hd : y.length ≤ 1000000000) (hf : (fileOf M k).1.length ≤ 1000000000) (hn : n < 1000000000) (hle : -1 ≤ left ∧ left ≤ 9223372036854775807)
    {E L : Int} {M' : Tab FileE} (h1 : beginE M left false [strB k] k = E) (h2 : appM M left k y = M') (h3 : beginL M left false [strB k] k = L) :
    Calls Try.prog 16 #[.pointer (some ⟨p, 0, none⟩), .string s, .string d] w fun e w' => e = .returned (.int .i64 E) ∧ DiskIs w' p b (n + 1) M' L ∧ But p b w w' := by
  subst hk hy h1 h2 h3
  exact append_any w p b n M left h s d (by rw [← toList_length]; exact hs) (by rw [← toList_length]; exact hd) hf hn hle
theorem sync_at (w : World) (p b n : Nat) (M : Tab FileE) (left : Int) (h : DiskIs w p b n M left) (s : ByteArray) {k : List UInt8} (hk : s.data.toList = k) (hs : k.length ≤ 1000000000) (hf : (fileOf M k).1.length ≤ 1000000000) (hn : n < 1000000000) (hle : -1 ≤ left ∧ left ≤ 9223372036854775807)
    {E L : Int} {M' : Tab FileE} (h1 : beginE M left true [strB k] k = E) (h2 : syncM M left k = M') (h3 : beginL M left true [strB k] k = L) :
    Calls Try.prog 17 #[.pointer (some ⟨p, 0, none⟩), .string s] w fun e w' => e = .returned (.int .i64 E) ∧ DiskIs w' p b (n + 1) M' L ∧ But p b w w' := by
  subst hk h1 h2 h3
  exact sync_any w p b n M left h s (by rw [← toList_length]; exact hs) hf hn hle
theorem remove_at (w : World) (p b n : Nat) (M : Tab FileE) (left : Int) (h : DiskIs w p b n M left) (s : ByteArray) {k : List UInt8} (hk : s.data.toList = k) (hs : k.length ≤ 1000000000) (hle : -1 ≤ left ∧ left ≤ 9223372036854775807)
    {E L : Int} {M' : Tab FileE} (h1 : beginE M left true [strB k] k = E) (h2 : remM M left k = M') (h3 : beginL M left true [strB k] k = L) :
    Calls Try.prog 19 #[.pointer (some ⟨p, 0, none⟩), .string s] w fun e w' => e = .returned (.int .i64 E) ∧ DiskIs w' p b n M' L ∧ But p b w w' := by
  subst hk h1 h2 h3
  exact remove_any w p b n M left h s (by rw [← toList_length]; exact hs) hle
theorem read_at (w : World) (p b n : Nat) (M : Tab FileE) (left : Int) (h : DiskIs w p b n M left) (s : ByteArray) {k : List UInt8} (hk : s.data.toList = k) (hs : k.length ≤ 1000000000) {v : Value} (h1 : readV M k = v) :
    Calls Try.prog 18 #[.pointer (some ⟨p, 0, none⟩), .string s] w fun e w' => e = .returned v ∧ Below w.heap.size w w' := by
  subst hk h1
  exact read_any w p b n M left h s (by rw [← toList_length]; exact hs)
abbrev kA : List UInt8 := [97]
abbrev kF : List UInt8 := [102]
abbrev kN : List UInt8 := [110, 111, 110, 101]
set_option maxRecDepth 100000 in
set_option maxHeartbeats 400000 in
theorem alive_any (w : World) : Calls Try.prog 13 #[] w fun e w' => e = .returned (.bool true) ∧ Below w.heap.size w w' := by
  have hB := Below.refl w.heap.size w
  have hs4 : ((⟨#[120, 121, 122, 117]⟩ : ByteArray) == ⟨#[120, 121, 122, 117]⟩) = true := by decide
  go_enter Try.func13, Try.ntmps13
  obtain ⟨p, hp⟩ : ∃ p, p = w.heap.size + 1 := ⟨_, rfl⟩
  obtain ⟨b, hb⟩ : ∃ b, b = w.heap.size := ⟨_, rfl⟩
  go_wp2_with (first
    | (go_at_call 14; refine (new_any _).mono ?_; rintro e w1 ⟨rfl, hd1, hb1, hz1⟩; rw [← hp, ← hb] at hd1; rw [← hp]; have hp1 : w.heap.size ≤ p := (by omega); have hb1' : w.heap.size ≤ b := (by omega); clear hp hb hz1)
    | (go_at_call 22; have hd4' := hd4.below ((Below.refl w4.heap.size w4).alloc (Nat.le_refl _) (.cells #[.int .i64 1] 3)) hd4.lt.1 hd4.lt.2; refine (crash_any _ p b _ [(kA, ([120, 121, 122, 117, 118], 3))] (-1) hd4' (by decide) (by decide) _ 1 [1] (Rd.one w4 _ _) (by decide) (by decide)).mono ?_; rintro e w5 ⟨p2, b2, rfl, hd5, hp2, hb2', hb5⟩; have hE : (crashP [(kA, (([120, 121, 122, 117, 118], 3) : FileE))] [1]).1 = [(kA, ([120, 121, 122, 117], 4))] := (by decide); rw [hE] at hd5)
    | (go_at_call 17; refine (sync_at _ p b 1 [(kA, ([120, 121, 122], 0))] (-1) hd2 _ (k := kA) rfl (by decide) (by decide) (by decide) (by decide) (E := 0) (M' := [(kA, ([120, 121, 122], 3))]) (L := -1) (by decide) (by decide) (by decide)).mono ?_; rintro e w3 ⟨rfl, hd3, hb3⟩)
    | (go_at_call 16; refine (append_at _ p b 2 [(kA, ([120, 121, 122], 3))] (-1) hd3 _ _ (k := kA) (y := [117, 118]) rfl rfl (by decide) (by decide) (by decide) (by decide) (by decide) (E := 0) (M' := [(kA, ([120, 121, 122, 117, 118], 3))]) (L := -1) (by decide) (by decide) (by decide)).mono ?_; rintro e w4 ⟨rfl, hd4, hb4⟩)
    | (go_at_call 16; refine (append_at _ p b 0 [] (-1) hd1 _ _ (k := kA) (y := [120, 121, 122]) rfl rfl (by decide) (by decide) (by decide) (by decide) (by decide) (E := 0) (M' := [(kA, ([120, 121, 122], 0))]) (L := -1) (by decide) (by decide) (by decide)).mono ?_; rintro e w2 ⟨rfl, hd2, hb2⟩)
    | (go_at_call 18; refine (read_at _ p2 b2 _ _ (-1) hd5 _ (k := kA) rfl (by decide) (v := .tuple #[.string ⟨#[120, 121, 122, 117]⟩, .int .i64 0]) rfl).mono ?_; rintro e w6 ⟨rfl, hb6⟩))
  go_ret
  refine ⟨rfl, ?_⟩
  have q1 := hb1
  have q2 := hb2.below q1 (by have := hb1.size; omega) (by omega) (by omega)
  have q3 := hb3.below q2 (by have := q2.size; omega) (by omega) (by omega)
  have q4 := hb4.below q3 (by have := q3.size; omega) (by omega) (by omega)
  have q5 : Below w.heap.size w (w4.alloc (.cells #[.int .i64 1] 3)) := q4.alloc (by have := q4.size; omega) _
  have q6 := q5.trans (hb5.mono q5.size)
  exact q6.trans (hb6.mono q6.size)
end Go.Proofs.Ytbighckpogfcaaa
