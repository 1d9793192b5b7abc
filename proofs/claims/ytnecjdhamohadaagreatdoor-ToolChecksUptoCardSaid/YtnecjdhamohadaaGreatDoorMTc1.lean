/- The law ToolChecks: its walk, of texts up to 1048576 bytes. -/
import Derived.Test.YtnecjdhamohadaaGreatDoorMu
import Derived.Test.YtnecjdhamohadaaGreatDoorMRf2
set_option linter.unusedSimpArgs false
set_option linter.unusedVariables false
namespace Go.Proofs.YtnecjdhamohadaaGreatDoor
open Go.RowKit Go.Maps Go.Shelf
set_option maxRecDepth 100000
theorem checkT_big {s : TT} (h : 65536 < s.length) : checkT mayB s = (6, 0) := by rw [checkT, if_pos (.inl h)]
theorem commands_big (w : World) (s : TT) (hs : s.length ≤ 1000000000) (h6 : 65536 < s.length) (hM : MaxL w) : Calls Tryz.prog 24 #[.string (strB s)] w (CmdsPost w s) := by
  have cL := lines_any w s (by omega) hM
  have hlen := linesT_len s
  obtain ⟨ls, hls⟩ : ∃ l, l = linesT s := ⟨_, rfl⟩
  obtain ⟨n, hn⟩ : ∃ n, n = ls.length := ⟨_, rfl⟩
  obtain ⟨S, hS⟩ : ∃ S, S = strB s := ⟨_, rfl⟩
  have hSs : S.size = s.length := by rw [hS, strB_size]
  rw [← hls, ← hn] at cL hlen
  rw [← hS] at cL ⊢
  have CL := hid2 cL
  have hni : (n : Int) ≤ 1000000001 := by omega
  have HCK := hid2 (checkT_big h6)
  have h6i : (65536 : Int) < S.size := by omega
  clear cL hM hlen hls hn hS hs hSs h6
  go_enter Tryz.func24, Tryz.ntmps24
  go_wp2_with (go_at_call 36; refine CL.out.mono ?_; rintro e w1 ⟨A, c, rfl, ho, hb⟩; have HB := hid2 hb; clear ho hb)
  ((try simp only [Exit.inBlock, Exit.then]); refine bodyPost_ret (results_tmp3T rfl _ _ _) rfl ?_)
  exact CmdsPost.no HCK.out (by decide) HB.out
theorem commands_upto (w : World) (s : TT) (hs : s.length ≤ 1048576) (hM : MaxL w) : Calls Tryz.prog 24 #[.string (strB s)] w (CmdsPost w s) := by
  by_cases h : 65536 < s.length
  · exact commands_big w s (by omega) h hM
  · exact commands_any w s (by omega) hM
theorem check_upto (w : World) (s : TT) (hs : s.length ≤ 1048576) (hM : MaxL w) : Calls Tryz.prog 23 #[.string (strB s)] w fun e w' => e = .returned (.tuple #[.int .i64 (checkT mayB s).1, .int .i64 (checkT mayB s).2]) ∧ Below w.heap.size w w' := by
  have h := commands_upto w s hs hM
  unfold CmdsPost at h
  obtain ⟨S, hS⟩ : ∃ S, S = strB s := ⟨_, rfl⟩
  obtain ⟨r, hr⟩ : ∃ r, r = checkT mayB s := ⟨_, rfl⟩
  rw [← hS] at h ⊢
  rw [← hr] at h ⊢
  have H := hid2 h
  clear h hS hr hM
  go_enter Tryz.func23, Tryz.ntmps23
  go_wp2_with (go_at_call 24; refine H.out.mono ?_; rintro e w1 ⟨A, c, X, rfl, _, _, hb⟩; have HB := hid2 hb; clear hb)
  go_ret2
  exact ⟨rfl, HB.out⟩
set_option maxHeartbeats 4000000 in
theorem start_upto (w : World) (text : TT) (hs : text.length ≤ 1048576) (hM : MaxL w) (hbad : (checkT mayB text).1 ≠ 0) :
    Calls Tryz.prog 11 #[.string (strB text), .slice none 0 0] w fun e w' => e = .returned (.tuple #[.pointer none, .int .i64 (checkT mayB text).1]) ∧ Below w.heap.size w w' := by
  have cC := commands_upto w text hs hM
  obtain ⟨X, hX⟩ : ∃ X, X = strB text := ⟨_, rfl⟩
  obtain ⟨ck, hck⟩ : ∃ ck : Int, ck = ((checkT mayB text).1 : Int) := ⟨_, rfl⟩
  obtain ⟨ln, hln⟩ : ∃ ln : Int, ln = ((checkT mayB text).2 : Int) := ⟨_, rfl⟩
  have cC2 : Calls Tryz.prog 24 #[.string X] w fun e w' => ∃ (A : Option Addr) (n c : Nat), e = .returned (.tuple #[.slice A n c, .int .i64 ck, .int .i64 ln]) ∧ Below w.heap.size w w' := by
    rw [hX, hck, hln]
    refine cC.mono fun e w' k => ?_
    obtain ⟨A, c, X, h1, _, _, h4⟩ := k
    exact ⟨A, X.length, c, h1, h4⟩
  have hck0 : ck ≠ 0 := by omega
  have hckb : (ck != 0) = true := by simpa using hck0
  have CC := hid2 cC2
  rw [← hX, ← hck]
  clear cC cC2 hX hck hln hM hs hbad
  go_enter Tryz.func11, Tryz.ntmps11
  go_wp2_with (go_at_call 24; refine CC.out.mono ?_; rintro e w1 ⟨A1, n1, c1, rfl, hb⟩; have HB := hid2 hb; clear hb)
  go_ret2
  exact ⟨rfl, HB.out⟩
set_option maxHeartbeats 8000000 in
theorem checks_any (w : World) (s : ByteArray) (hl : Lib3 w) (hs : s.size ≤ 1048576) :
    Calls Tryz.prog 8 #[.string s] w fun e w' => e = .returned (.bool true) ∧ Below w.heap.size w w' := by
  have CAL := hid2 (alive_any w hl)
  by_cases hmid : 1500 < s.size ∧ s.size ≤ 65536
  · have h1 : (1500 : Int) < s.size := by omega
    have h2 : (s.size : Int) ≤ 65536 := by omega
    clear hmid hl hs
    go_enter Tryz.func8, Tryz.ntmps8
    go_wp2_with (go_at_call 9; refine CAL.out.mono ?_; rintro e w1 ⟨rfl, hb⟩; have HB := hid2 hb; clear hb)
    refine bodyPost_ret (results_tmp rfl _ _ _) rfl ?_
    exact ⟨rfl, HB.out⟩
  · obtain ⟨l, hL⟩ : ∃ l, l = s.data.toList := ⟨_, rfl⟩
    have hsB : s = strB l := by rw [hL, strB_of]
    have hll : l.length = s.size := by rw [hL, toList_length]
    obtain ⟨ck, hck⟩ : ∃ ck, ck = checkT mayB l := ⟨_, rfl⟩
    have CC := hid2 (show ∀ w2, Below w.heap.size w w2 → Calls Tryz.prog 23 #[.string s] w2 fun e w' => e = .returned (.tuple #[.int .i64 ck.1, .int .i64 ck.2]) ∧ Below w2.heap.size w2 w' from fun w2 hb => by
      rw [hsB, hck]
      exact check_upto w2 l (by omega) (hl.on hb).lib)
    have CR := hid2 (show ∀ w2, Calls Tryz.prog 12 #[.string s] w2 fun e w' => e = .returned (.tuple #[.int .i64 ck.1, .int .i64 ck.2]) ∧ Below w2.heap.size w2 w' from fun w2 => by
      rw [hck, hL]
      exact rcheck_any w2 s (by omega))
    have hside : s.size ≤ 1500 ∨ 65536 < s.size := by omega
    by_cases hok : ck.1 = 0
    · have hsmall : s.size ≤ 1500 := by
        rcases hside with h | h
        · exact h
        · rw [hck, checkT_big (by omega)] at hok
          cases hok
      have CS := hid2 (show ∀ w2, Below w.heap.size w w2 → Calls Tryz.prog 11 #[.string s, .slice none 0 0] w2 fun e w' => ∃ R, e = .returned (.tuple #[.pointer (some ⟨R, 0, none⟩), .int .i64 0]) ∧ Below w2.heap.size w2 w' from fun w2 hb => by
        rw [hsB]
        refine (start_ok w2 ⟨mayB, []⟩ (mild_of (U := []) (text := []) (by simp) (by simp) (fun k hk => by cases hk) (Nat.zero_le _) (fun p hp => by cases hp)).env l (by omega) (hl.on hb).lib (by rw [← hck]; exact hok) none 0 (Rd.none_ _ _ _)).mono fun e w' k => ?_
        rcases k with ⟨h1, _⟩ | ⟨_, L, h2, h3, _, h5⟩
        · exact absurd (by rw [← hck]; exact hok) h1
        · have := h5.below
          rw [h3] at this
          exact ⟨L.R, h2, this⟩)
      have h1 : (s.size : Int) ≤ 1500 := by omega
      obtain ⟨c1, hc1⟩ : ∃ c1 : Int, c1 = ck.1 := ⟨_, rfl⟩
      obtain ⟨c2, hc2⟩ : ∃ c2 : Int, c2 = ck.2 := ⟨_, rfl⟩
      have h0 : c1 = 0 := by omega
      rw [← hc1, ← hc2] at CC CR
      subst h0
      clear hmid hl hs hsB hll hck hL hside hok hsmall hc1 hc2
      go_enter Tryz.func8, Tryz.ntmps8
      go_wp2_with (first
        | (go_at_call 9; refine CAL.out.mono ?_; rintro e w1 ⟨rfl, hb⟩; have HB := hid2 hb; clear hb CAL)
        | (go_at_call 23; refine (CC.out _ HB.out).mono ?_; rintro e w2 ⟨rfl, hb⟩; have HB := hid2 (HB.out.trans (hb.mono HB.out.size)); clear hb CC)
        | (go_at_call 12; refine (CR.out _).mono ?_; rintro e w3 ⟨rfl, hb⟩; have HB := hid2 (HB.out.trans (hb.mono HB.out.size)); clear hb CR)
        | (go_at_call 11; refine (CS.out _ HB.out).mono ?_; rintro e w4 ⟨R, rfl, hb⟩; have HB := hid2 (HB.out.trans (hb.mono HB.out.size)); clear hb CS))
      refine bodyPost_ret (results_tmp rfl _ _ _) rfl ?_
      exact ⟨rfl, HB.out⟩
    · have CS := hid2 (show ∀ w2, Below w.heap.size w w2 → Calls Tryz.prog 11 #[.string s, .slice none 0 0] w2 fun e w' => e = .returned (.tuple #[.pointer none, .int .i64 ck.1]) ∧ Below w2.heap.size w2 w' from fun w2 hb => by
        rw [hsB, hck]
        exact start_upto w2 l (by omega) (hl.on hb).lib (by rw [← hck]; exact hok))
      have hne : ¬ ((1500 : Int) < s.size ∧ (s.size : Int) ≤ 65536) := by omega
      obtain ⟨c1, hc1⟩ : ∃ c1 : Int, c1 = ck.1 := ⟨_, rfl⟩
      obtain ⟨c2, hc2⟩ : ∃ c2 : Int, c2 = ck.2 := ⟨_, rfl⟩
      have h0 : c1 ≠ 0 := by omega
      have h0b : (c1 != 0) = true := by simpa using h0
      rw [← hc1, ← hc2] at CC CR
      rw [← hc1] at CS
      have HSD := hid2 hside
      rcases hside with h1 | h1
      · have h1i : (s.size : Int) ≤ 1500 := by omega
        clear hmid hl hs hsB hll hck hL hok hc1 hc2 h1 hne
        go_enter Tryz.func8, Tryz.ntmps8
        go_wp2_with (first
          | (go_at_call 9; refine CAL.out.mono ?_; rintro e w1 ⟨rfl, hb⟩; have HB := hid2 hb; clear hb CAL)
          | (go_at_call 23; refine (CC.out _ HB.out).mono ?_; rintro e w2 ⟨rfl, hb⟩; have HB := hid2 (HB.out.trans (hb.mono HB.out.size)); clear hb CC)
          | (go_at_call 12; refine (CR.out _).mono ?_; rintro e w3 ⟨rfl, hb⟩; have HB := hid2 (HB.out.trans (hb.mono HB.out.size)); clear hb CR)
          | (go_at_call 11; refine (CS.out _ HB.out).mono ?_; rintro e w4 ⟨rfl, hb⟩; have HB := hid2 (HB.out.trans (hb.mono HB.out.size)); clear hb CS))
        refine bodyPost_ret (results_tmp rfl _ _ _) rfl ?_
        exact ⟨rfl, HB.out⟩
      · have h1i : (65536 : Int) < s.size := by omega
        have h1j : (1500 : Int) < s.size := by omega
        clear hmid hl hs hsB hll hck hL hok hc1 hc2 h1 hne
        go_enter Tryz.func8, Tryz.ntmps8
        go_wp2_with (first
          | (go_at_call 9; refine CAL.out.mono ?_; rintro e w1 ⟨rfl, hb⟩; have HB := hid2 hb; clear hb CAL)
          | (go_at_call 23; refine (CC.out _ HB.out).mono ?_; rintro e w2 ⟨rfl, hb⟩; have HB := hid2 (HB.out.trans (hb.mono HB.out.size)); clear hb CC)
          | (go_at_call 12; refine (CR.out _).mono ?_; rintro e w3 ⟨rfl, hb⟩; have HB := hid2 (HB.out.trans (hb.mono HB.out.size)); clear hb CR)
          | (go_at_call 11; refine (CS.out _ HB.out).mono ?_; rintro e w4 ⟨rfl, hb⟩; have HB := hid2 (HB.out.trans (hb.mono HB.out.size)); clear hb CS))
        refine bodyPost_ret (results_tmp rfl _ _ _) rfl ?_
        exact ⟨rfl, HB.out⟩
end Go.Proofs.YtnecjdhamohadaaGreatDoor
