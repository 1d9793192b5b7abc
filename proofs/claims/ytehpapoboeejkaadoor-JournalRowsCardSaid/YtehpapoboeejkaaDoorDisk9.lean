/- The walk of a disk's Rename. -/
import Derived.Test.YtehpapoboeejkaaDoorDisk6
import Derived.Test.YtehpapoboeejkaaDoorDisk4
import Derived.Test.YtehpapoboeejkaaDoorStrMap
namespace Go.Proofs.YtehpapoboeejkaaDoor
open Go.RowKit Go.Maps
def renM (M : Tab FileE) (left : Int) (k k2 : List UInt8) : Tab FileE := if beginE M left true [strB k, strB k2] k = 0 ∧ k ≠ k2 then delM (putM M k2 (fileOf M k)) k else M
set_option maxRecDepth 100000 in
theorem rename_any (w : World) (p b n : Nat) (M : Tab FileE) (left : Int) (h : DiskIs w p b n M left) (s t : ByteArray) (hs : s.size ≤ 1000000000) (ht : t.size ≤ 1000000000) (hn : n < 1000000000) (hle : -1 ≤ left ∧ left ≤ 9223372036854775807) :
    Calls Tryd.prog 37 #[.pointer (some ⟨p, 0, none⟩), .string s, .string t] w fun e w' =>
      e = .returned (.int .i64 (beginE M left true [strB s.data.toList, strB t.data.toList] s.data.toList)) ∧ DiskIs w' p b (n + 1) (renM M left s.data.toList t.data.toList) (beginL M left true [strB s.data.toList, strB t.data.toList] s.data.toList) ∧ But p b w w' := by
  have hne := h.ne
  have hlt := h.lt
  have hr : Rd (w.alloc (.cells #[.string s, .string t] 9)) 1 (some ⟨w.heap.size, 0, none⟩) [s, t].length ([s, t].map Value.string) := Rd.of_lit w #[.string s, .string t] _ 1 2 (by decide) rfl
  have hd0 : DiskIs (w.alloc (.cells #[.string s, .string t] 9)) p b n M left := h.below ((Below.refl _ _).alloc (Nat.le_refl _) _) h.lt.1 h.lt.2
  have hbc := begin_any (w.alloc (.cells #[.string s, .string t] 9)) p b n M left hd0 true _ 2 [s, t] s hr (by simp) rfl hs hle
  have hB0 : But p b w (w.alloc (.cells #[.string s, .string t] 9)) := But.of_below ((Below.refl _ _).alloc (Nat.le_refl _) _)
  have HB0 := hid2 hB0
  clear hr hd0 hB0
  rw [strB_of, strB_of]
  obtain ⟨E, hE⟩ : ∃ E, E = beginE M left true [s, t] s.data.toList := ⟨_, rfl⟩
  obtain ⟨L, hL⟩ : ∃ L, L = beginL M left true [s, t] s.data.toList := ⟨_, rfl⟩
  rw [renM, strB_of, strB_of, ← hE, ← hL]
  rw [← hE, ← hL] at hbc
  have hbc2 : Calls Tryd.prog 38 #[.pointer (some ⟨p, 0, none⟩), .bool true, .slice (some ⟨w.heap.size, 0, none⟩) 2 2] (w.alloc (.cells #[.string s, .string t] 9)) _ := hbc
  obtain ⟨k, hk⟩ : ∃ k, k = s.data.toList := ⟨_, rfl⟩
  obtain ⟨v, hv⟩ : ∃ v, v = encFile (fileOf M k) := ⟨_, rfl⟩
  have HK := hid2 hk
  have HV := hid2 hv
  obtain ⟨M', hM'⟩ : ∃ M', M' = delM (putM M t.data.toList (fileOf M k)) s.data.toList := ⟨_, rfl⟩
  have HM' := hid2 hM'
  clear hE hL hk hv hM' h hbc
  rw [← HK.out]
  by_cases h0 : E = 0
  · subst h0
    by_cases hst : s = t
    · subst hst
      rw [if_neg (by rw [HK.out]; simp)]
      go_enter Tryd.func37, Tryd.ntmps37
      go_wp2_with (first
        | (go_at_call 38; refine hbc2.mono ?_; rintro e w2 ⟨rfl, hd2, hb2⟩; have HD2 := hid2 hd2; have HB2 := hid2 hb2; clear hd2 hb2 hbc2))
      go_ret
      exact ⟨rfl, HD2.out.mono (by omega), HB0.out.trans HB2.out⟩
    · have hst2 : (s.toList == t.toList) = false := by rw [ByteArray.toList_eq, ByteArray.toList_eq]; exact beq_eq_false_iff_ne.2 (fun h => hst (bytes_ext h))
      rw [if_pos ⟨rfl, fun h => hst (bytes_ext (by rw [← HK.out]; exact h))⟩]
      rw [show delM (putM M t.data.toList (fileOf M k)) k = M' by rw [HM'.out, HK.out]]
      go_enter Tryd.func37, Tryd.ntmps37
      go_wp2_with (first
        | (go_at_call 38; refine hbc2.mono ?_; rintro e w2 ⟨rfl, hd2, hb2⟩; have c0 : w2.cell? ⟨p, 0, none⟩ = some (.map (some b)) := (cell_of_row w2 p 0 _ _ _ hd2.1).trans rfl; have HD2 := hid2 hd2; have HB2 := hid2 hb2; have hmWd : MapIs w2.drew Tryd.prog 9 encFile b n M := hd2.2; have hlk0 := hmWd.look encFile_inj Tryd.underlying9 Tryd.underlying42 ([], 0) (zero_file _) s (by unfold maxLen; omega); have hlk : (Instr.lookup 42 (.map (some b)) (.string s) false).run Tryd.prog w2.drew = .ok v w2.drew := (by rw [HV.out, HK.out]; exact hlk0); have HMW := hid2 hmWd; clear hd2 hb2 hbc2 hmWd hlk0))
      go_still_tail 11, (by kernel_rfl)
      change wpList _ _ _ _ _ w2.drew
      go_wp2_with (first
        | ((with_reducible refine wpList_update_map HMW.out encFile_inj Tryd.underlying9 Tryd.underlying42 ?_ t ?_ (fileOf M k) ?_ ?_); (unfold maxLen; omega); (unfold maxLen; omega); exact ⟨rfl, rfl, HV.out⟩; intro w5 hm5 ht5; have c5 : w5.cell? ⟨p, 0, none⟩ = some (.map (some b)) := (cell_of_row w5 p 0 _ _ _ ((ht5.2.2.2.2 p hne).trans HD2.out.1)).trans rfl; have HM5 := hid2 hm5; have HT5 := hid2 ht5; clear hm5 ht5)
        | (at_delete; go_must ((with_reducible refine wpList_drop_map HM5.out Tryd.underlying9 Tryd.underlying42 s ?_ ?_ ?_); (unfold maxLen; omega); exact ⟨rfl, rfl⟩; intro w6 hm6 ht6)))
      go_ret
      refine ⟨rfl, ⟨(ht6.2.2.2.2 p hne).trans ((HT5.out.2.2.2.2 p hne).trans HD2.out.1), ?_⟩, HB0.out.trans (HB2.out.trans ((But.of_below ((Below.refl _ _).drew)).trans ((But.of_turn HT5.out).trans (But.of_turn ht6))))⟩
      rw [HM'.out]
      exact hm6
  · rw [if_neg (fun h => h0 h.1)]
    have h0' : (E == 0) = false := by simpa using h0
    go_enter Tryd.func37, Tryd.ntmps37
    go_wp2_with (first
      | (go_at_call 38; refine hbc2.mono ?_; rintro e w2 ⟨rfl, hd2, hb2⟩; have HD2 := hid2 hd2; have HB2 := hid2 hb2; clear hd2 hb2 hbc2))
    go_ret
    exact ⟨rfl, HD2.out.mono (by omega), HB0.out.trans HB2.out⟩
end Go.Proofs.YtehpapoboeejkaaDoor
