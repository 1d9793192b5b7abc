/- The law JournalTails. -/
import Derived.Test.YtkadailbfeeamaaJour8
namespace Go.Proofs.Ytkadailbfeeamaa
open Go.RowKit
theorem jtails_any (w : World) (A : Option Addr) (n c : Nat) (xs : List ByteArray) (ha : Rd w 1 A n (xs.map Value.string)) (hmx : n ≤ 8796093022208) (s : ByteArray) (k : Nat) (hk : k ≤ 65535) :
    Calls Try.prog 9 #[.slice A n c, .string s, .int .u16 k] w fun e w' => e = .returned (.bool true) ∧ Below w.heap.size w w' := by
  have hn : xs.length = n := by have := ha.1; simpa using this
  have hk0 : (0 : Int) ≤ k := by omega
  have hk1 : (k : Int) ≤ 65535 := by omega
  go_enter Try.func9, Try.ntmps9
  by_cases h100 : 100 < s.size
  · have h100' : (100 : Int) < s.size := by omega
    go_wp2_with (first
      | (go_at_call 26; refine (great_any _ A n c xs ha hmx).mono ?_; rintro e w1 ⟨g, rfl, hg, hB⟩; clear hg; cases g)
      | (go_at_call 13; refine (jfixed_any _).mono ?_; rintro e w1 ⟨rfl, hb⟩; replace hB := hB.trans (hb.mono hB.size); clear hb))
    all_goals go_ret
    all_goals exact ⟨rfl, hB⟩
  · have h100' : (s.size : Int) ≤ 100 := by omega
    have hs6 : s.size ≤ 1000000 := by omega
    obtain ⟨rs, hrs⟩ : ∃ rs, rs = xs.map (·.data.toList) := ⟨_, rfl⟩
    obtain ⟨B, hBB⟩ : ∃ B, B = strB (framesL rs) := ⟨_, rfl⟩
    obtain ⟨F, hF⟩ : ∃ F, F = strB (frameL s.data.toList) := ⟨_, rfl⟩
    have hFs : F.size = s.size + 12 := by rw [hF, strB_size, frameL_length, toList_length]
    have hF0 : ((F.size : Int) == 0) = false := by rw [beq_eq_false_iff_ne]; omega
    have hF1 : (F.size : Int) ≠ 0 := by omega
    obtain ⟨m, hm⟩ : ∃ m, m = k % F.size := ⟨_, rfl⟩
    have hml : m < F.size := by rw [hm]; exact Nat.mod_lt _ (by omega)
    have hm1 : (k : Int) % (F.size : Int) = (m : Int) := by rw [hm]; omega
    have hm2 : (k : Int).tmod (F.size : Int) = (m : Int) := by rw [Int.tmod_eq_emod_of_nonneg hk0]; exact hm1
    have hm3 : (m : Int) ≤ F.size := by omega
    have hm4 : (0 : Int) ≤ m := by omega
    have hP : (F.extract 0 m).data.toList = (frameL s.data.toList).take m := by
      rw [ByteArray.data_extract, Array.toList_extract, hF, strB_list]
      simp
    have hPs : (F.extract 0 m).size = m := by rw [← toList_length, hP, List.length_take, frameL_length, toList_length]; omega
    have HRS := hid2 hrs
    have HBB := hid2 hBB
    have HF := hid2 hF
    have HP := hid2 hP
    have HFS := hid2 hFs
    have HPS := hid2 hPs
    have HML := hid2 hml
    clear hrs hBB hF hP hm hFs hPs hml
    go_wp2_with (first
      | (go_at_call 26; refine (great_any _ A n c xs ha hmx).mono ?_; rintro e w1 ⟨g, rfl, hg, hB⟩; have HG := hid2 hg; clear hg; cases g)
      | (go_at_call 13; refine (jfixed_any _).mono ?_; rintro e w1 ⟨rfl, hb⟩; replace hB := hB.trans (hb.mono hB.size); clear hb))
    · have hg := HG.out (by simp)
      obtain ⟨hx, hl⟩ := hg
      have hBs : (framesL rs).length ≤ 112 * 12 := by
        have : ∀ l : List ByteArray, (∀ x ∈ l, x.size ≤ 100) → (framesL (l.map (·.data.toList))).length ≤ 112 * l.length := by
          intro l
          induction l with
          | nil => intro _; simp [framesL]
          | cons x l ih =>
            intro h
            have h1 := h x (by simp)
            have h2 := ih (fun y hy => h y (by simp [hy]))
            simp only [List.map_cons, framesL, List.length_append, List.length_cons, frameL_length, toList_length]
            omega
        have := this xs hx
        rw [← HRS.out] at this
        omega
      have hBz : B.size = (framesL rs).length := by rw [HBB.out, strB_size]
      have hadd : ¬ (B.size + (F.extract 0 m).size > 9223372036854775807) := by rw [HPS.out]; have := HML.out; have := HFS.out; omega
      obtain ⟨q, hq⟩ : ∃ q, q = B ++ F.extract 0 m := ⟨_, rfl⟩
      have hqs : q.size ≤ 2000 := by rw [hq, ByteArray.size_append, HPS.out]; have := HML.out; have := HFS.out; omega
      have hql : q.data.toList = framesL rs ++ (frameL s.data.toList).take m := by rw [hq, string_append_toList, HBB.out, strB_list, HP.out]
      have hsc : scanL q.data.toList = (rs, (framesL rs).length) := by
        rw [hql]
        refine scanL_frames rs s.data.toList m ?_ (by rw [toList_length]; omega) (by rw [toList_length]; have := HML.out; have := HFS.out; omega)
        intro r hr
        rw [HRS.out] at hr
        obtain ⟨x, hx1, rfl⟩ := List.mem_map.1 hr
        have := hx x hx1
        rw [toList_length]; omega
      have hstr : strV rs = xs.map Value.string := by
        rw [HRS.out, strV, List.map_map]
        refine List.map_congr_left fun x _ => ?_
        simp only [Function.comp_apply, strB_of]
      have hrl : rs.length = n := by rw [HRS.out, List.length_map, hn]
      have HSC := hid2 hsc
      have HSTR := hid2 hstr
      have HQ := hid2 hq
      have HRL := hid2 hrl
      have hl12 : n ≤ 12 := by omega
      have hbz : ((framesL rs).length : Int) = B.size := by omega
      have HBZ := hid2 hbz
      have HX := hid2 hx
      clear hsc hstr hq hrl hql hbz hx hBs hBz
      go_wp2_with (first
        | (go_at_call 27; refine (frames_any _ A n c xs (ha.below_all hB) HX.out hl12).mono ?_; rintro e w2 ⟨rfl, hb⟩; rw [← HRS.out, ← HBB.out]; replace hB := hB.trans (hb.mono hB.size); clear hb)
        | (go_at_call 14; refine (frame_any _ s hs6).mono ?_; rintro e w3 ⟨rfl, hb⟩; rw [← HF.out]; replace hB := hB.trans (hb.mono hB.size); clear hb)
        | (go_at_call 23; rw [← HQ.out]; refine (scan_any _ q hqs).mono ?_; rintro e w4 ⟨A1, c1, rfl, hr1, hb⟩; rw [HSC.out] at hr1 ⊢; rw [HSTR.out, HRL.out] at hr1; rw [HRL.out, HBZ.out]; replace hB := hB.trans (hb.mono hB.size); clear hb)
        | (go_at_call 25; refine (same_any _ A1 A n c1 c xs hr1 (ha.below_all hB) hmx).mono ?_; rintro e w5 ⟨rfl, hb⟩; replace hB := hB.trans (hb.mono hB.size); clear hb)
        | (go_at_call 13; refine (jfixed_any _).mono ?_; rintro e w1 ⟨rfl, hb⟩; replace hB := hB.trans (hb.mono hB.size); clear hb))
      go_ret
      exact ⟨rfl, hB⟩
    · go_ret
      exact ⟨rfl, hB⟩
end Go.Proofs.Ytkadailbfeeamaa
