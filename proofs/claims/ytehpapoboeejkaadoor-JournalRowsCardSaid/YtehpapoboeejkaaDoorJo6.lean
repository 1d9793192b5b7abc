/- What a journal leaves, and what is found by opening it again: plain laws. -/
import Derived.Test.YtehpapoboeejkaaDoorJo5
import Derived.Test.YtehpapoboeejkaaDoorDisk6
namespace Go.Proofs.YtehpapoboeejkaaDoor
open Go.RowKit Go.Maps
theorem jb_goes {M : Tab FileE} {left : Int} {there : Bool} {ns : List ByteArray} {k : List UInt8} (h : ns.any (fun s => s.data.toList.isEmpty) = false) (hg : there = true → getM M k ≠ none) : beginE M left there ns k = if left = 0 then 18 else 0 := by
  unfold beginE
  rw [if_neg (by rw [h]; decide), if_neg]
  intro hh
  rw [Bool.and_eq_true] at hh
  exact hg hh.1 (by simpa using hh.2)
theorem jb_left {M : Tab FileE} {left : Int} {there : Bool} {ns : List ByteArray} {k : List UInt8} (h : beginE M left there ns k = if left = 0 then 18 else 0) : beginL M left there ns k = if 0 < left then left - 1 else left := by
  unfold beginL
  rw [h]
  by_cases h0 : left = 0
  · rw [if_pos h0, if_neg (by omega), if_neg (by omega)]
  · rw [if_neg h0]
    by_cases h1 : 0 < left
    · rw [if_pos ⟨rfl, h1⟩, if_pos h1]
    · rw [if_neg (fun h => h1 h.2), if_neg h1]
theorem jany_one {k : List UInt8} (h : k ≠ []) : [strB k].any (fun s => s.data.toList.isEmpty) = false := by
  simp only [List.any_cons, List.any_nil, Bool.or_false, strB_list]
  cases k
  · exact absurd rfl h
  · rfl
theorem jany_two {k k2 : List UInt8} (h : k ≠ []) (h2 : k2 ≠ []) : [strB k, strB k2].any (fun s => s.data.toList.isEmpty) = false := by
  simp only [List.any_cons, List.any_nil, Bool.or_false, strB_list]
  cases k
  · exact absurd rfl h
  · cases k2
    · exact absurd rfl h2
    · rfl
theorem newL_ne (k : List UInt8) : newL k ≠ [] := by simp [newL]
theorem newL_ne_self (k : List UInt8) : newL k ≠ k := fun h => by
  have := congrArg List.length h
  simp [newL] at this
/-- where power is never gone, anew goes well -/
theorem anew_ok (M : Tab FileE) {o nm : List UInt8} (ho : o ≠ []) (hn : nm ≠ []) (d : List UInt8) : (anewR M (-1) o d nm).1 = 0 := by
  have e1 : beginE M (-1) false [strB o] o = 0 := by rw [jb_goes (jany_one ho) (fun h => by cases h)]; rfl
  have l1 : beginL M (-1) false [strB o] o = -1 := by rw [jb_left (by rw [e1]; rfl)]; rfl
  have t1 : appM M (-1) o d = putM M o ((fileOf M o).1 ++ d, (fileOf M o).2) := by unfold appM; rw [if_pos e1]
  have e2 : beginE (appM M (-1) o d) (-1) true [strB o] o = 0 := by rw [jb_goes (jany_one ho) (fun _ => by rw [t1, getM_put_same]; exact fun h => by cases h)]; rfl
  have l2 : beginL (appM M (-1) o d) (-1) true [strB o] o = -1 := by rw [jb_left (by rw [e2]; rfl)]; rfl
  have e3 : beginE (syncM (appM M (-1) o d) (-1) o) (-1) true [strB o, strB nm] o = 0 := by
    rw [jb_goes (jany_two ho hn) (fun _ => by unfold syncM; rw [if_pos e2, getM_put_same]; exact fun h => by cases h)]; rfl
  simp only [anewR, l1, e1, e2, l2, e3, ne_eq, not_true_eq_false, if_false]
abbrev kLog : List UInt8 := [108, 111, 103]
def logT (d : List UInt8) (s : Nat) : Tab FileE := [(kLog, (d, s))]
theorem logT_get (d : List UInt8) (s : Nat) : getM (logT d s) kLog = some (d, s) := rfl
theorem logT_new (d : List UInt8) (s : Nat) : getM (logT d s) (newL kLog) = none := rfl
theorem logT_put (d e : List UInt8) (s t : Nat) : putM (logT d s) kLog (e, t) = logT e t := rfl
theorem nil_put (e : List UInt8) (t : Nat) : putM ([] : Tab FileE) kLog (e, t) = logT e t := rfl
/-- opened with power, a log file has what is found in it -/
theorem open_log (d : List UInt8) (s : Nat) : (openR (logT d s) (-1) kLog).1 = 0 ∧ (openR (logT d s) (-1) kLog).2.1 = (scanL d).1 := by
  have ht : tidE (logT d s) (-1) (newL kLog) = 0 := rfl
  have hm : tidM (logT d s) (-1) (newL kLog) = logT d s := rfl
  have hl : tidL (logT d s) (-1) (newL kLog) = -1 := rfl
  have hg := logT_get d s
  simp only [openR, ht, hm, hl, hg, ne_eq, not_true_eq_false, if_false]
  by_cases h : (scanL d).2 < d.length
  · rw [if_pos h, if_neg (by rw [anew_ok _ (newL_ne _) (by decide)]; exact fun h => h rfl)]
    exact ⟨rfl, rfl⟩
  · rw [if_neg h]
    exact ⟨rfl, rfl⟩
theorem open_nil : openR [] (-1) kLog = (0, [], [], -1) := rfl
/-- a log file behind a crash -/
theorem crash_log {d : List UInt8} {s : Nat} (hs : s ≤ d.length) (ps : List Int) : ∃ T, s ≤ T ∧ T ≤ d.length ∧ (crashP (logT d s) ps).1 = logT (d.take T) T := by
  show ∃ T, _ ∧ _ ∧ [(crash1 (kLog, (d, s)) ps).1] = _
  unfold crash1
  by_cases h : s < d.length
  · rw [if_pos h]
    have hm := Int.emod_lt_of_pos (ps.headD 0) (show (0 : Int) < ((d.length - s : Nat) + 1 : Int) by omega)
    have hn := Int.emod_nonneg (ps.headD 0) (show (((d.length - s : Nat) : Int) + 1) ≠ 0 by omega)
    exact ⟨s + (ps.headD 0 % ((d.length - s : Nat) + 1 : Int)).toNat, by omega, by omega, rfl⟩
  · rw [if_neg h]
    have e : s = d.length := by omega
    subst e
    exact ⟨d.length, Nat.le_refl _, Nat.le_refl _, by rw [List.take_of_length_le (Nat.le_refl _)]; rfl⟩
theorem scan_all (rs : List (List UInt8)) (hrs : ∀ r ∈ rs, r.length ≤ 1048576) : scanL (framesL rs) = (rs, (framesL rs).length) := by
  have h := scanL_frames rs [] 0 hrs (by decide) (by decide)
  rw [List.take_zero, List.append_nil] at h
  exact h
/-- the table of a log that has the first k records -/
def stT (rs : List (List UInt8)) (k : Nat) : Tab FileE := if k = 0 then [] else logT (framesL (rs.take k)) (framesL (rs.take k)).length
/-- how a log may stand where no more is added -/
def EndS (rs : List (List UInt8)) (k : Nat) (M : Tab FileE) : Prop := M = stT rs k ∨ ∃ r, rs[k]? = some r ∧ M = logT (framesL (rs.take k) ++ frameL r) (framesL (rs.take k)).length
theorem add_step {rs : List (List UInt8)} {k : Nat} {r : List UInt8} (hr : rs[k]? = some r) {left : Int} (hle : -1 ≤ left) :
    ((addR (stT rs k) left kLog (frameL r)).1 = 0 ∧ (addR (stT rs k) left kLog (frameL r)).2.1 = stT rs (k + 1) ∧ -1 ≤ (addR (stT rs k) left kLog (frameL r)).2.2 ∧ (addR (stT rs k) left kLog (frameL r)).2.2 ≤ (if 0 < left then left else left) ∧ (left = -1 → (addR (stT rs k) left kLog (frameL r)).2.2 = -1)) ∨
    (left ≠ -1 ∧ (addR (stT rs k) left kLog (frameL r)).1 ≠ 0 ∧ EndS rs k (addR (stT rs k) left kLog (frameL r)).2.1 ∧ -1 ≤ (addR (stT rs k) left kLog (frameL r)).2.2 ∧ (addR (stT rs k) left kLog (frameL r)).2.2 ≤ (if 0 < left then left else left)) := by
  obtain ⟨hkl, hre⟩ := List.getElem?_eq_some_iff.1 hr
  have hfr : framesL (rs.take (k + 1)) = framesL (rs.take k) ++ frameL r := by rw [framesL_take rs k hkl, hre]
  have hfile : fileOf (stT rs k) kLog = (framesL (rs.take k), (framesL (rs.take k)).length) := by
    unfold stT
    by_cases h : k = 0
    · rw [if_pos h]; subst h; rfl
    · rw [if_neg h]; rfl
  have hput : ∀ e t, putM (stT rs k) kLog (e, t) = logT e t := fun e t => by
    unfold stT
    by_cases h : k = 0
    · rw [if_pos h]; rfl
    · rw [if_neg h]; rfl
  have e1 : beginE (stT rs k) left false [strB kLog] kLog = if left = 0 then 18 else 0 := jb_goes (jany_one (by decide)) (fun h => by cases h)
  have l1 := jb_left e1
  have t1 : appM (stT rs k) left kLog (frameL r) = if left = 0 then stT rs k else logT (framesL (rs.take k) ++ frameL r) (framesL (rs.take k)).length := by
    unfold appM
    rw [e1, hfile]
    by_cases h0 : left = 0
    · rw [if_pos h0, if_pos h0, if_neg (by decide)]
    · rw [if_neg h0, if_neg h0, if_pos rfl, hput]
  by_cases h0 : left = 0
  · right
    rw [if_pos h0] at e1 t1
    rw [if_neg (by omega)] at l1
    simp only [addR, e1, t1, l1]
    rw [if_pos (by decide)]
    exact ⟨by omega, by simp, .inl rfl, (show -1 ≤ left by omega), (show left ≤ _ by split <;> omega)⟩
  · rw [if_neg h0] at e1 t1
    have e2 : beginE (logT (framesL (rs.take k) ++ frameL r) (framesL (rs.take k)).length) (if 0 < left then left - 1 else left) true [strB kLog] kLog = if (if 0 < left then left - 1 else left) = 0 then 18 else 0 := jb_goes (jany_one (by decide)) (fun _ => by rw [logT_get]; exact fun h => by cases h)
    have l2 := jb_left e2
    have t2 : syncM (logT (framesL (rs.take k) ++ frameL r) (framesL (rs.take k)).length) (if 0 < left then left - 1 else left) kLog = if (if 0 < left then left - 1 else left) = 0 then logT (framesL (rs.take k) ++ frameL r) (framesL (rs.take k)).length else stT rs (k + 1) := by
      unfold syncM
      rw [e2]
      have hf2 : fileOf (logT (framesL (rs.take k) ++ frameL r) (framesL (rs.take k)).length) kLog = (framesL (rs.take k) ++ frameL r, (framesL (rs.take k)).length) := rfl
      by_cases h1 : (if 0 < left then left - 1 else left) = 0
      · rw [if_pos h1, if_pos h1, if_neg (by decide)]
      · rw [if_neg h1, if_neg h1, if_pos rfl, hf2, logT_put, stT, if_neg (by omega), hfr]
    simp only [addR, e1, t1, l1, ne_eq, not_true_eq_false, if_false]
    rw [e2, l2, t2]
    by_cases h1 : (if 0 < left then left - 1 else left) = 0
    · right
      have hp : 0 < left := by
        rcases Int.lt_or_le 0 left with h | h
        · exact h
        · rw [if_neg (by omega)] at h1; omega
      rw [if_pos h1, if_pos h1]
      refine ⟨by omega, by decide, .inr ⟨r, hr, rfl⟩, ?_, ?_⟩
      · rw [h1]; decide
      · rw [h1, if_neg (by decide), if_pos hp]; omega
    · left
      rw [if_neg h1, if_neg h1]
      refine ⟨rfl, rfl, ?_, ?_, ?_⟩
      · split <;> split at * <;> omega
      · split <;> split at * <;> omega
      · intro h
        subst h
        rfl
/-- whatever a crash leaves of a log, opened again it has the first records -/
theorem sure_open {rs : List (List UInt8)} (hrs : ∀ r ∈ rs, r.length ≤ 1048576) {k : Nat} (hk : k ≤ rs.length) {M : Tab FileE} (h : EndS rs k M) (ps : List Int) :
    (openR (crashP M ps).1 (-1) kLog).1 = 0 ∧ ∃ m, k ≤ m ∧ m ≤ k + 1 ∧ m ≤ rs.length ∧ (openR (crashP M ps).1 (-1) kLog).2.1 = rs.take m := by
  have hft : ∀ m, ∀ r ∈ rs.take m, r.length ≤ 1048576 := fun m r hr => hrs r (List.mem_of_mem_take hr)
  rcases h with rfl | ⟨r, hr, rfl⟩
  · unfold stT
    by_cases h0 : k = 0
    · rw [if_pos h0]
      subst h0
      exact ⟨rfl, 0, Nat.le_refl _, by omega, Nat.zero_le _, rfl⟩
    · rw [if_neg h0]
      obtain ⟨T, h1, h2, h3⟩ := crash_log (Nat.le_refl (framesL (rs.take k)).length) ps
      have hT : T = (framesL (rs.take k)).length := by omega
      rw [h3, hT, List.take_of_length_le (Nat.le_refl _)]
      obtain ⟨g1, g2⟩ := open_log (framesL (rs.take k)) (framesL (rs.take k)).length
      rw [scan_all _ (hft k)] at g2
      exact ⟨g1, k, Nat.le_refl _, by omega, hk, g2⟩
  · obtain ⟨hkl, hre⟩ := List.getElem?_eq_some_iff.1 hr
    obtain ⟨T, h1, h2, h3⟩ := crash_log (d := framesL (rs.take k) ++ frameL r) (s := (framesL (rs.take k)).length) (by rw [List.length_append]; omega) ps
    rw [h3]
    obtain ⟨g1, g2⟩ := open_log ((framesL (rs.take k) ++ frameL r).take T) T
    refine ⟨g1, ?_⟩
    rw [List.length_append, frameL_length] at h2
    by_cases hT : T - (framesL (rs.take k)).length < r.length + 12
    · have hsc : scanL ((framesL (rs.take k) ++ frameL r).take T) = (rs.take k, (framesL (rs.take k)).length) := by
        rw [List.take_append, List.take_of_length_le h1]
        exact scanL_frames (rs.take k) r _ (hft k) (hrs r (List.mem_of_getElem? hr)) hT
      rw [hsc] at g2
      exact ⟨k, Nat.le_refl _, by omega, hk, g2⟩
    · have e : (framesL (rs.take k) ++ frameL r).take T = framesL (rs.take (k + 1)) := by
        rw [framesL_take rs k hkl, hre, List.take_of_length_le (by rw [List.length_append, frameL_length]; omega)]
      have hsc : scanL ((framesL (rs.take k) ++ frameL r).take T) = (rs.take (k + 1), (framesL (rs.take (k + 1))).length) := by
        rw [e]
        exact scan_all _ (hft (k + 1))
      rw [hsc] at g2
      exact ⟨k + 1, by omega, Nat.le_refl _, hkl, g2⟩
end Go.Proofs.YtehpapoboeejkaaDoor
