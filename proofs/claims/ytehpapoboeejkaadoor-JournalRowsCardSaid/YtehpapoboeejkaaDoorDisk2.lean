/- The walks of a disk's calls: Append, Sync, Remove, Read. -/
import Derived.Test.YtehpapoboeejkaaDoorDisk1
namespace Go.Proofs.YtehpapoboeejkaaDoor
open Go.RowKit Go.Maps
abbrev fileOf (M : Tab FileE) (k : List UInt8) : FileE := (getM M k).getD ([], 0)
/-- what a writing call leaves -/
def appM (M : Tab FileE) (left : Int) (k d : List UInt8) : Tab FileE := if beginE M left false [strB k] k = 0 then putM M k ((fileOf M k).1 ++ d, (fileOf M k).2) else M
def syncM (M : Tab FileE) (left : Int) (k : List UInt8) : Tab FileE := if beginE M left true [strB k] k = 0 then putM M k ((fileOf M k).1, (fileOf M k).1.length) else M
def remM (M : Tab FileE) (left : Int) (k : List UInt8) : Tab FileE := if beginE M left true [strB k] k = 0 then delM M k else M
theorem DiskIs.mono {w : World} {p b n m : Nat} {M : Tab FileE} {left : Int} (h : DiskIs w p b n M left) (hm : n ≤ m) : DiskIs w p b m M left := ⟨h.1, h.2.mono hm⟩
theorem DiskIs.look {w : World} {p b n : Nat} {M : Tab FileE} {left : Int} (h : DiskIs w p b n M left) (s : ByteArray) (hs : s.size ≤ 1000000000) :
    (Instr.lookup 42 (.map (some b)) (.string s) false).run Tryd.prog w = .ok (encFile (fileOf M s.data.toList)) w :=
  h.2.look encFile_inj Tryd.underlying9 Tryd.underlying42 ([], 0) (zero_file w) s (by unfold maxLen; omega)
theorem DiskIs.look_ok {w : World} {p b n : Nat} {M : Tab FileE} {left : Int} (h : DiskIs w p b n M left) (s : ByteArray) (hs : s.size ≤ 1000000000) :
    (Instr.lookup 42 (.map (some b)) (.string s) true).run Tryd.prog w = .ok (.tuple #[encFile (fileOf M s.data.toList), .bool (getM M s.data.toList).isSome]) w :=
  h.2.look_ok encFile_inj Tryd.underlying9 Tryd.underlying42 ([], 0) (zero_file w) s (by unfold maxLen; omega)
/-- begin at one name, in the world behind the row of names -/
theorem begin_one (w : World) (p b n : Nat) (M : Tab FileE) (left : Int) (h : DiskIs w p b n M left) (there : Bool) (s : ByteArray) (hs : s.size ≤ 1000000000) (hle : -1 ≤ left ∧ left ≤ 9223372036854775807) :
    Calls Tryd.prog 38 #[.pointer (some ⟨p, 0, none⟩), .bool there, .slice (some ⟨w.heap.size, 0, none⟩) 1 1] (w.alloc (.cells #[.string s] 9)) fun e w' =>
      e = .returned (.int .i64 (beginE M left there [strB s.data.toList] s.data.toList)) ∧ DiskIs w' p b n M (beginL M left there [strB s.data.toList] s.data.toList) ∧ But p b w w' := by
  have hr : Rd (w.alloc (.cells #[.string s] 9)) 1 (some ⟨w.heap.size, 0, none⟩) [s].length ([s].map Value.string) := Rd.one w _ _
  have hd : DiskIs (w.alloc (.cells #[.string s] 9)) p b n M left := h.below ((Below.refl _ _).alloc (Nat.le_refl _) _) h.lt.1 h.lt.2
  have := begin_any (w.alloc (.cells #[.string s] 9)) p b n M left hd there _ 1 [s] s hr (by simp) rfl hs hle
  rw [strB_of]
  exact this.mono fun _ _ ⟨h1, h2, h3⟩ => ⟨h1, h2, (But.of_below ((Below.refl _ _).alloc (Nat.le_refl _) _)).trans h3⟩
theorem encFile_eq (f : FileE) (s : ByteArray) (n : Int) (h1 : strB f.1 = s) (h2 : (f.2 : Int) = n) : encFile f = .agg #[.string s, .int .i64 n] := by rw [encFile, h1, h2]
set_option maxRecDepth 100000 in
theorem append_any (w : World) (p b n : Nat) (M : Tab FileE) (left : Int) (h : DiskIs w p b n M left) (s d : ByteArray) (hs : s.size ≤ 1000000000) (hd : d.size ≤ 1000000000) (hf : (fileOf M s.data.toList).1.length ≤ 1000000000) (hn : n < 1000000000) (hle : -1 ≤ left ∧ left ≤ 9223372036854775807) :
    Calls Tryd.prog 21 #[.pointer (some ⟨p, 0, none⟩), .string s, .string d] w fun e w' =>
      e = .returned (.int .i64 (beginE M left false [strB s.data.toList] s.data.toList)) ∧ DiskIs w' p b (n + 1) (appM M left s.data.toList d.data.toList) (beginL M left false [strB s.data.toList] s.data.toList) ∧ But p b w w' := by
  have hne := h.ne
  have hlt := h.lt
  have hbc := begin_one w p b n M left h false s hs hle
  obtain ⟨E, hE⟩ : ∃ E, E = beginE M left false [strB s.data.toList] s.data.toList := ⟨_, rfl⟩
  obtain ⟨L, hL⟩ : ∃ L, L = beginL M left false [strB s.data.toList] s.data.toList := ⟨_, rfl⟩
  rw [appM, ← hE, ← hL]
  rw [← hE, ← hL] at hbc
  obtain ⟨k, hk⟩ : ∃ k, k = s.data.toList := ⟨_, rfl⟩
  rw [← hk] at hf ⊢
  obtain ⟨fa, hfa⟩ : ∃ fa, fa = strB (fileOf M k).1 := ⟨_, rfl⟩
  obtain ⟨fb, hfb⟩ : ∃ fb : Int, fb = (fileOf M k).2 := ⟨_, rfl⟩
  obtain ⟨X, hX⟩ : ∃ X, X = fa ++ d := ⟨_, rfl⟩
  have henc := encFile_eq (fileOf M k) fa fb hfa.symm hfb.symm
  have henc2 := encFile_eq ((fileOf M k).1 ++ d.data.toList, (fileOf M k).2) X fb (by rw [hX, hfa]; exact (bytes_ext (by rw [string_append_toList, strB_list, strB_list])).symm) hfb.symm
  have hfs : fa.size ≤ 1000000000 := by rw [hfa, strB_size]; exact hf
  have hadd : ¬ (fa.size + d.size > 9223372036854775807) := by omega
  have hX' := hX.symm
  have HK := hid2 hk
  have HENC := hid2 henc
  have HENC2 := hid2 henc2
  obtain ⟨M', hM'⟩ : ∃ M', M' = putM M k ((fileOf M k).1 ++ d.data.toList, (fileOf M k).2) := ⟨_, rfl⟩
  have HM' := hid2 hM'
  have HH := hid2 h
  clear hE hL hk hfa hfb hX henc henc2 hf hM' h
  by_cases h0 : E = 0
  · subst h0
    rw [if_pos rfl, ← HM'.out]
    go_enter Tryd.func21, Tryd.ntmps21
    go_wp2_with (first
      | (go_at_call 38; refine hbc.mono ?_; rintro e w2 ⟨rfl, hd2, hb2⟩; have c0 : w2.cell? ⟨p, 0, none⟩ = some (.map (some b)) := (cell_of_row w2 p 0 _ _ _ hd2.1).trans rfl; have hlk := hd2.look s hs; rw [← HK.out, HENC.out] at hlk; have HD2 := hid2 hd2; have HB2 := hid2 hb2; have hlt2 := hd2.lt; clear hd2 hb2 hbc))
    obtain ⟨W, hW⟩ : ∃ W, W = w2.alloc (.cells #[.string X, .int .i64 fb] 66) := ⟨_, rfl⟩
    rw [← hW]
    obtain ⟨G, hG⟩ : ∃ G, G = w2.heap.size := ⟨_, rfl⟩
    have hmW : MapIs W Tryd.prog 9 encFile b n M := by rw [hW]; exact HD2.out.2.alloc _
    have hrW : W.heap[p]? = some (.cells #[.map (some b), .int .i64 L] 44 (0, 0)) := by rw [hW]; exact (Below.heap_alloc _ _ _ hlt2.1).trans HD2.out.1
    have e0 : W.cell? ⟨p, 0, none⟩ = some (.map (some b)) := (cell_of_row W p 0 _ _ _ hrW).trans rfl
    have r8 : W.heap[G]? = some (.cells #[.string X, .int .i64 fb] 66 (0, 0)) := by rw [hW, hG]; exact heap_alloc_new w2 _
    have l0 : W.cell? ⟨G, 0, none⟩ = some (.string X) := (cell_of_row W G 0 _ _ _ r8).trans rfl
    have l1 : W.cell? ⟨G, 1, none⟩ = some (.int .i64 fb) := (cell_of_row W G 1 _ _ _ r8).trans rfl
    have hbW : But p b w W := by rw [hW]; exact HB2.out.trans (But.of_below ((Below.refl _ _).alloc (Nat.le_refl _) _))
    rw [← hG]
    have HRW := hid2 hrW
    have HBW := hid2 hbW
    have hmWd : MapIs W.drew Tryd.prog 9 encFile b n M := hmW
    have HMW := hid2 hmWd
    clear hW hG hmW hrW r8 hbW c0 hlk hmWd
    go_still_tail 6, (by kernel_rfl)
    change wpList _ _ _ _ _ W.drew
    go_wp2_with (((with_reducible refine wpList_update_map HMW.out encFile_inj Tryd.underlying9 Tryd.underlying42 ?_ s ?_ ((fileOf M k).1 ++ d.data.toList, (fileOf M k).2) ?_ ?_); (unfold maxLen; omega); (unfold maxLen; omega); exact ⟨rfl, rfl, HENC2.out.symm⟩; intro w5 hm5 ht5))
    go_ret
    refine ⟨rfl, ⟨(ht5.2.2.2.2 p hne).trans HRW.out, ?_⟩, HBW.out.trans ((But.of_below ((Below.refl _ _).drew)).trans (But.of_turn ht5))⟩
    rw [HM'.out, HK.out]
    rw [HK.out] at hm5
    exact hm5
  · rw [if_neg h0]
    have h0' : (E == 0) = false := by simpa using h0
    go_enter Tryd.func21, Tryd.ntmps21
    go_wp2_with (first
      | (go_at_call 38; refine hbc.mono ?_; rintro e w2 ⟨rfl, hd2, hb2⟩; have HD2 := hid2 hd2; have HB2 := hid2 hb2; clear hd2 hb2 hbc))
    go_ret
    exact ⟨rfl, HD2.out.mono (by omega), HB2.out⟩
set_option maxRecDepth 100000 in
theorem sync_any (w : World) (p b n : Nat) (M : Tab FileE) (left : Int) (h : DiskIs w p b n M left) (s : ByteArray) (hs : s.size ≤ 1000000000) (hf : (fileOf M s.data.toList).1.length ≤ 1000000000) (hn : n < 1000000000) (hle : -1 ≤ left ∧ left ≤ 9223372036854775807) :
    Calls Tryd.prog 23 #[.pointer (some ⟨p, 0, none⟩), .string s] w fun e w' =>
      e = .returned (.int .i64 (beginE M left true [strB s.data.toList] s.data.toList)) ∧ DiskIs w' p b (n + 1) (syncM M left s.data.toList) (beginL M left true [strB s.data.toList] s.data.toList) ∧ But p b w w' := by
  have hne := h.ne
  have hlt := h.lt
  have hbc := begin_one w p b n M left h true s hs hle
  obtain ⟨E, hE⟩ : ∃ E, E = beginE M left true [strB s.data.toList] s.data.toList := ⟨_, rfl⟩
  obtain ⟨L, hL⟩ : ∃ L, L = beginL M left true [strB s.data.toList] s.data.toList := ⟨_, rfl⟩
  rw [syncM, ← hE, ← hL]
  rw [← hE, ← hL] at hbc
  obtain ⟨k, hk⟩ : ∃ k, k = s.data.toList := ⟨_, rfl⟩
  rw [← hk] at hf ⊢
  obtain ⟨fa, hfa⟩ : ∃ fa, fa = strB (fileOf M k).1 := ⟨_, rfl⟩
  obtain ⟨fb, hfb⟩ : ∃ fb : Int, fb = (fileOf M k).2 := ⟨_, rfl⟩
  obtain ⟨fz, hfz⟩ : ∃ fz : Int, fz = fa.size := ⟨_, rfl⟩
  have henc := encFile_eq (fileOf M k) fa fb hfa.symm hfb.symm
  have henc2 := encFile_eq ((fileOf M k).1, (fileOf M k).1.length) fa fz hfa.symm (by rw [hfz, hfa, strB_size])
  have hfs : fa.size ≤ 1000000000 := by rw [hfa, strB_size]; exact hf
  have hfz' := hfz.symm
  have HK := hid2 hk
  have HENC := hid2 henc
  have HENC2 := hid2 henc2
  obtain ⟨M', hM'⟩ : ∃ M', M' = putM M k ((fileOf M k).1, (fileOf M k).1.length) := ⟨_, rfl⟩
  have HM' := hid2 hM'
  have HH := hid2 h
  clear hE hL hk hfa hfb hfz henc henc2 hf hM' h
  by_cases h0 : E = 0
  · subst h0
    rw [if_pos rfl, ← HM'.out]
    go_enter Tryd.func23, Tryd.ntmps23
    go_wp2_with (first
      | (go_at_call 38; refine hbc.mono ?_; rintro e w2 ⟨rfl, hd2, hb2⟩; have c0 : w2.cell? ⟨p, 0, none⟩ = some (.map (some b)) := (cell_of_row w2 p 0 _ _ _ hd2.1).trans rfl; have hlk := hd2.look s hs; rw [← HK.out, HENC.out] at hlk; have HD2 := hid2 hd2; have HB2 := hid2 hb2; have hlt2 := hd2.lt; clear hd2 hb2 hbc))
    obtain ⟨W, hW⟩ : ∃ W, W = w2.alloc (.cells #[.string fa, .int .i64 fz] 66) := ⟨_, rfl⟩
    rw [← hW]
    obtain ⟨G, hG⟩ : ∃ G, G = w2.heap.size := ⟨_, rfl⟩
    have hmW : MapIs W Tryd.prog 9 encFile b n M := by rw [hW]; exact HD2.out.2.alloc _
    have hrW : W.heap[p]? = some (.cells #[.map (some b), .int .i64 L] 44 (0, 0)) := by rw [hW]; exact (Below.heap_alloc _ _ _ hlt2.1).trans HD2.out.1
    have e0 : W.cell? ⟨p, 0, none⟩ = some (.map (some b)) := (cell_of_row W p 0 _ _ _ hrW).trans rfl
    have r8 : W.heap[G]? = some (.cells #[.string fa, .int .i64 fz] 66 (0, 0)) := by rw [hW, hG]; exact heap_alloc_new w2 _
    have l0 : W.cell? ⟨G, 0, none⟩ = some (.string fa) := (cell_of_row W G 0 _ _ _ r8).trans rfl
    have l1 : W.cell? ⟨G, 1, none⟩ = some (.int .i64 fz) := (cell_of_row W G 1 _ _ _ r8).trans rfl
    have hbW : But p b w W := by rw [hW]; exact HB2.out.trans (But.of_below ((Below.refl _ _).alloc (Nat.le_refl _) _))
    rw [← hG]
    have HRW := hid2 hrW
    have HBW := hid2 hbW
    have hmWd : MapIs W.drew Tryd.prog 9 encFile b n M := hmW
    have HMW := hid2 hmWd
    clear hW hG hmW hrW r8 hbW c0 hlk hmWd
    go_still_tail 6, (by kernel_rfl)
    change wpList _ _ _ _ _ W.drew
    go_wp2_with (((with_reducible refine wpList_update_map HMW.out encFile_inj Tryd.underlying9 Tryd.underlying42 ?_ s ?_ ((fileOf M k).1, (fileOf M k).1.length) ?_ ?_); (unfold maxLen; omega); (unfold maxLen; omega); exact ⟨rfl, rfl, HENC2.out.symm⟩; intro w5 hm5 ht5))
    go_ret
    refine ⟨rfl, ⟨(ht5.2.2.2.2 p hne).trans HRW.out, ?_⟩, HBW.out.trans ((But.of_below ((Below.refl _ _).drew)).trans (But.of_turn ht5))⟩
    rw [HM'.out, HK.out]
    rw [HK.out] at hm5
    exact hm5
  · rw [if_neg h0]
    have h0' : (E == 0) = false := by simpa using h0
    go_enter Tryd.func23, Tryd.ntmps23
    go_wp2_with (first
      | (go_at_call 38; refine hbc.mono ?_; rintro e w2 ⟨rfl, hd2, hb2⟩; have HD2 := hid2 hd2; have HB2 := hid2 hb2; clear hd2 hb2 hbc))
    go_ret
    exact ⟨rfl, HD2.out.mono (by omega), HB2.out⟩
set_option maxRecDepth 100000 in
theorem remove_any (w : World) (p b n : Nat) (M : Tab FileE) (left : Int) (h : DiskIs w p b n M left) (s : ByteArray) (hs : s.size ≤ 1000000000) (hle : -1 ≤ left ∧ left ≤ 9223372036854775807) :
    Calls Tryd.prog 31 #[.pointer (some ⟨p, 0, none⟩), .string s] w fun e w' =>
      e = .returned (.int .i64 (beginE M left true [strB s.data.toList] s.data.toList)) ∧ DiskIs w' p b n (remM M left s.data.toList) (beginL M left true [strB s.data.toList] s.data.toList) ∧ But p b w w' := by
  have hne := h.ne
  have hbc := begin_one w p b n M left h true s hs hle
  obtain ⟨E, hE⟩ : ∃ E, E = beginE M left true [strB s.data.toList] s.data.toList := ⟨_, rfl⟩
  obtain ⟨L, hL⟩ : ∃ L, L = beginL M left true [strB s.data.toList] s.data.toList := ⟨_, rfl⟩
  rw [remM, ← hE, ← hL]
  rw [← hE, ← hL] at hbc
  clear hE hL h
  by_cases h0 : E = 0
  · subst h0
    rw [if_pos rfl]
    obtain ⟨M', hM'⟩ : ∃ M', M' = delM M s.data.toList := ⟨_, rfl⟩
    rw [← hM']
    have HM' := hid2 hM'
    clear hM'
    go_enter Tryd.func31, Tryd.ntmps31
    go_wp2_with (first
      | (go_at_call 38; refine hbc.mono ?_; rintro e w2 ⟨rfl, hd2, hb2⟩; have c0 : w2.cell? ⟨p, 0, none⟩ = some (.map (some b)) := (cell_of_row w2 p 0 _ _ _ hd2.1).trans rfl; have HD2 := hid2 hd2; have HB2 := hid2 hb2; have HMM := hid2 hd2.2; clear hd2 hb2 hbc)
      | (at_delete; go_must ((with_reducible refine wpList_drop_map HMM.out Tryd.underlying9 Tryd.underlying42 s ?_ ?_ ?_); (unfold maxLen; omega); exact ⟨rfl, rfl⟩; intro w5 hm5 ht5)))
    go_ret
    refine ⟨rfl, ⟨(ht5.2.2.2.2 p hne).trans HD2.out.1, ?_⟩, HB2.out.trans (But.of_turn ht5)⟩
    rw [HM'.out]
    exact hm5
  · rw [if_neg h0]
    have h0' : (E == 0) = false := by simpa using h0
    go_enter Tryd.func31, Tryd.ntmps31
    go_wp2_with (first
      | (go_at_call 38; refine hbc.mono ?_; rintro e w2 ⟨rfl, hd2, hb2⟩; have HD2 := hid2 hd2; have HB2 := hid2 hb2; clear hd2 hb2 hbc))
    go_ret
    exact ⟨rfl, HD2.out, HB2.out⟩
/-- what Read answers -/
def readV (M : Tab FileE) (k : List UInt8) : Value := match getM M k with
  | some f => .tuple #[.string (strB f.1), .int .i64 0]
  | none => .tuple #[.string ⟨#[]⟩, .int .i64 10]
set_option maxRecDepth 100000 in
theorem read_any (w : World) (p b n : Nat) (M : Tab FileE) (left : Int) (h : DiskIs w p b n M left) (s : ByteArray) (hs : s.size ≤ 1000000000) :
    Calls Tryd.prog 17 #[.pointer (some ⟨p, 0, none⟩), .string s] w fun e w' => e = .returned (readV M s.data.toList) ∧ Below w.heap.size w w' := by
  have c0 : w.cell? ⟨p, 0, none⟩ = some (.map (some b)) := (cell_of_row w p 0 _ _ _ h.1).trans rfl
  have hlk := h.look_ok s hs
  have hB := Below.refl w.heap.size w
  obtain ⟨fa, hfa⟩ : ∃ fa, fa = strB (fileOf M s.data.toList).1 := ⟨_, rfl⟩
  obtain ⟨fb, hfb⟩ : ∃ fb : Int, fb = (fileOf M s.data.toList).2 := ⟨_, rfl⟩
  rw [encFile_eq (fileOf M s.data.toList) fa fb hfa.symm hfb.symm] at hlk
  have hv : readV M s.data.toList = if (getM M s.data.toList).isSome = true then .tuple #[.string fa, .int .i64 0] else .tuple #[.string ⟨#[]⟩, .int .i64 10] := by
    rw [hfa, readV, fileOf]
    cases getM M s.data.toList <;> rfl
  obtain ⟨is, his⟩ : ∃ is, is = (getM M s.data.toList).isSome := ⟨_, rfl⟩
  rw [← his] at hlk hv
  rw [hv]
  have hA := ((Below.refl w.heap.size w).alloc (Nat.le_refl _) (.cells #[.string fa, .int .i64 fb] 66))
  clear hfa hfb his hv h
  cases is
  · go_enter Tryd.func17, Tryd.ntmps17
    go_wp2_with fail
    go_ret2
    exact ⟨rfl, hA⟩
  · go_enter Tryd.func17, Tryd.ntmps17
    go_wp2_with fail
    go_ret2
    exact ⟨rfl, hA⟩
end Go.Proofs.YtehpapoboeejkaaDoor
