/- What Swap leaves, and what is found by opening it again: plain laws. -/
import Derived.Test.YtehpapoboeejkaaDoorJo6
import Derived.Test.YtehpapoboeejkaaDoorJo8
namespace Go.Proofs.YtehpapoboeejkaaDoor
open Go.RowKit Go.Maps
abbrev kNew : List UInt8 := [108, 111, 103, 46, 110, 101, 119]
theorem kNew_eq : newL kLog = kNew := rfl
/-- a log that stands, or none -/
def Stood (M : Tab FileE) (d : List UInt8) : Prop := (M = [] ∧ d = []) ∨ M = logT d d.length
/-- how a log may stand behind a Swap -/
def EndW (M0 : Tab FileE) (f : List UInt8) (E : Int) (M : Tab FileE) : Prop :=
  (E ≠ 0 ∧ M = M0) ∨ (E ≠ 0 ∧ ∃ s, s ≤ f.length ∧ M = M0 ++ [(kNew, (f, s))]) ∨ (E = 0 ∧ M = logT f f.length)
theorem swap_end {M0 : Tab FileE} {d : List UInt8} (h0 : Stood M0 d) {left : Int} (hl : 0 ≤ left) (rs : List (List UInt8)) :
    EndW M0 (framesL rs) (swapR M0 left kLog rs).1 (swapR M0 left kLog rs).2.1 := by
  obtain ⟨f, hf⟩ : ∃ f, f = framesL rs := ⟨_, rfl⟩
  have hno : getM M0 kNew = none := by
    rcases h0 with ⟨rfl, rfl⟩ | rfl <;> rfl
  have g0 : fileOf M0 kNew = ([], 0) := by unfold fileOf; rw [hno]; rfl
  have ht : tidE M0 left kNew = 0 := by unfold tidE; rw [hno]; rfl
  have hm : tidM M0 left kNew = M0 := by unfold tidM; rw [hno]; rfl
  have hL : tidL M0 left kNew = left := by unfold tidL; rw [hno]; rfl
  have p1 : ∀ s, putM M0 kNew (f, s) = M0 ++ [(kNew, (f, s))] := by
    intro s
    rcases h0 with ⟨rfl, rfl⟩ | rfl <;> rfl
  have gg : ∀ s, getM (M0 ++ [(kNew, (f, s))]) kNew = some (f, s) := by
    intro s
    rcases h0 with ⟨rfl, rfl⟩ | rfl <;> rfl
  have g1 : ∀ s, fileOf (M0 ++ [(kNew, (f, s))]) kNew = (f, s) := fun s => by unfold fileOf; rw [gg]; rfl
  have p2 : ∀ s t, putM (M0 ++ [(kNew, (f, s))]) kNew (f, t) = M0 ++ [(kNew, (f, t))] := by
    intro s t
    rcases h0 with ⟨rfl, rfl⟩ | rfl <;> rfl
  have p3 : ∀ s t, delM (putM (M0 ++ [(kNew, (f, s))]) kLog (f, t)) kNew = logT f t := by
    intro s t
    rcases h0 with ⟨rfl, rfl⟩ | rfl <;> rfl
  simp only [swapR, kNew_eq, ← hf]
  simp only [ht, hm, hL, ne_eq, not_true_eq_false, if_false]
  have e1 : beginE M0 left false [strB kNew] kNew = if left = 0 then 18 else 0 := jb_goes (jany_one (by decide)) (fun h => by cases h)
  have l1 := jb_left e1
  by_cases h1 : left = 0
  · rw [if_pos h1] at e1
    have t1 : appM M0 left kNew f = M0 := by unfold appM; rw [if_neg (by rw [e1]; decide)]
    simp only [anewR, e1, t1]
    rw [if_pos (by decide)]
    exact .inl ⟨(show (18 : Int) ≠ 0 by decide), rfl⟩
  · rw [if_neg h1] at e1
    rw [if_pos (by omega)] at l1
    have t1 : appM M0 left kNew f = M0 ++ [(kNew, (f, 0))] := by unfold appM; rw [if_pos e1, g0, List.nil_append, p1]
    have e2 : beginE (M0 ++ [(kNew, (f, 0))]) (left - 1) true [strB kNew] kNew = if left - 1 = 0 then 18 else 0 := jb_goes (jany_one (by decide)) (fun _ => by rw [gg]; exact fun h => by cases h)
    have l2 := jb_left e2
    by_cases h2 : left - 1 = 0
    · rw [if_pos h2] at e2
      have t2 : syncM (M0 ++ [(kNew, (f, 0))]) (left - 1) kNew = M0 ++ [(kNew, (f, 0))] := by unfold syncM; rw [if_neg (by rw [e2]; decide)]
      simp only [anewR, e1, t1, l1, e2, t2, ne_eq, not_true_eq_false, if_false]
      rw [if_pos (by decide)]
      exact .inr (.inl ⟨(show (18 : Int) ≠ 0 by decide), 0, Nat.zero_le _, rfl⟩)
    · rw [if_neg h2] at e2
      rw [if_pos (by omega)] at l2
      have t2 : syncM (M0 ++ [(kNew, (f, 0))]) (left - 1) kNew = M0 ++ [(kNew, (f, f.length))] := by unfold syncM; rw [if_pos e2, g1, p2]
      have e3 : beginE (M0 ++ [(kNew, (f, f.length))]) (left - 1 - 1) true [strB kNew, strB kLog] kNew = if left - 1 - 1 = 0 then 18 else 0 := jb_goes (jany_two (by decide) (by decide)) (fun _ => by rw [gg]; exact fun h => by cases h)
      simp only [anewR, e1, t1, l1, e2, t2, l2, ne_eq, not_true_eq_false, if_false]
      rw [e3]
      unfold renM
      rw [e3]
      by_cases h3 : left - 1 - 1 = 0
      · rw [if_pos h3, if_neg (fun h => absurd h.1 (by decide))]
        exact .inr (.inl ⟨(show (18 : Int) ≠ 0 by decide), f.length, Nat.le_refl _, rfl⟩)
      · rw [if_neg h3, if_pos ⟨rfl, by decide⟩, g1, p3]
        exact .inr (.inr ⟨rfl, rfl⟩)
theorem crash1_any (k f : List UInt8) (s : Nat) (ps : List Int) : ∃ T, (crash1 (k, (f, s)) ps).1 = (k, (f.take T, (f.take T).length)) := by
  unfold crash1
  split
  · rename_i h
    have h : s < f.length := h
    have hm := Int.emod_lt_of_pos (ps.headD 0) (show (0 : Int) < ((f.length - s : Nat) + 1 : Int) by omega)
    have hn := Int.emod_nonneg (ps.headD 0) (show (((f.length - s : Nat) : Int) + 1) ≠ 0 by omega)
    refine ⟨s + (ps.headD 0 % ((f.length - s : Nat) + 1 : Int)).toNat, ?_⟩
    simp only [List.length_take]
    rw [Nat.min_eq_left (by omega)]
  · exact ⟨f.length, by rw [List.take_of_length_le (Nat.le_refl _)]⟩
theorem crash1_full (k d : List UInt8) (ps : List Int) : crash1 (k, (d, d.length)) ps = ((k, (d, d.length)), ps) := by
  unfold crash1
  rw [if_neg (Nat.lt_irrefl _)]
theorem crash_stood {M : Tab FileE} {d : List UInt8} (h : Stood M d) (ps : List Int) : crashP M ps = (M, ps) := by
  rcases h with ⟨rfl, rfl⟩ | rfl
  · rfl
  · show ([] ++ [(crash1 (kLog, (d, d.length)) ps).1], (crash1 (kLog, (d, d.length)) ps).2) = _
    rw [crash1_full]
    rfl
theorem open_stood {M : Tab FileE} {d : List UInt8} (h : Stood M d) : (openR M (-1) kLog).1 = 0 ∧ (openR M (-1) kLog).2.1 = (scanL d).1 := by
  rcases h with ⟨rfl, rfl⟩ | rfl
  · exact ⟨rfl, rfl⟩
  · exact open_log _ _
/-- where no power is counted, Open takes away what a Swap began -/
theorem open_more {M : Tab FileE} {d : List UInt8} (h : Stood M d) (x : List UInt8) (t : Nat) : (openR (M ++ [(kNew, (x, t))]) (-1) kLog).1 = 0 ∧ (openR (M ++ [(kNew, (x, t))]) (-1) kLog).2.1 = (scanL d).1 := by
  have hg : getM (M ++ [(kNew, (x, t))]) kNew = some (x, t) := by rcases h with ⟨rfl, rfl⟩ | rfl <;> rfl
  have hdel : delM (M ++ [(kNew, (x, t))]) kNew = M := by rcases h with ⟨rfl, rfl⟩ | rfl <;> rfl
  have hb : beginE (M ++ [(kNew, (x, t))]) (-1) true [strB kNew] kNew = 0 := jb_goes (jany_one (by decide)) (fun _ => by rw [hg]; exact fun h => by cases h)
  have hE : tidE (M ++ [(kNew, (x, t))]) (-1) (newL kLog) = 0 := by unfold tidE; rw [kNew_eq, hg, if_pos (show (some (x, t)).isSome = true from rfl), hb]
  have hT : tidM (M ++ [(kNew, (x, t))]) (-1) (newL kLog) = M := by unfold tidM remM; rw [kNew_eq, hg, if_pos (show (some (x, t)).isSome = true from rfl), hb, if_pos rfl, hdel]
  have hL : tidL (M ++ [(kNew, (x, t))]) (-1) (newL kLog) = -1 := by
    unfold tidL
    rw [kNew_eq, hg, if_pos (show (some (x, t)).isSome = true from rfl), jb_left (by rw [hb]; rfl)]
    rfl
  have hE0 : tidE M (-1) (newL kLog) = 0 := by unfold tidE; rcases h with ⟨rfl, rfl⟩ | rfl <;> rfl
  have hT0 : tidM M (-1) (newL kLog) = M := by unfold tidM; rcases h with ⟨rfl, rfl⟩ | rfl <;> rfl
  have hL0 : tidL M (-1) (newL kLog) = -1 := by unfold tidL; rcases h with ⟨rfl, rfl⟩ | rfl <;> rfl
  have e : openR (M ++ [(kNew, (x, t))]) (-1) kLog = openR M (-1) kLog := by
    unfold openR
    rw [hE, hT, hL, hE0, hT0, hL0]
  rw [e]
  exact open_stood h
/-- whatever a crash leaves behind a Swap, opened again it has the one or the other -/
theorem swap_open {M0 M : Tab FileE} {was now : List (List UInt8)} (hw : ∀ r ∈ was, r.length ≤ 1048576) (hn : ∀ r ∈ now, r.length ≤ 1048576) (h0 : Stood M0 (framesL was)) {E : Int} (h : EndW M0 (framesL now) E M) (ps : List Int) :
    (openR (crashP M ps).1 (-1) kLog).1 = 0 ∧ ((openR (crashP M ps).1 (-1) kLog).2.1 = now ∨ E ≠ 0 ∧ (openR (crashP M ps).1 (-1) kLog).2.1 = was) := by
  have sw := scan_all was hw
  have sn := scan_all now hn
  rcases h with ⟨hE, rfl⟩ | ⟨hE, s, _, rfl⟩ | ⟨hE, rfl⟩
  · rw [crash_stood h0]
    obtain ⟨g1, g2⟩ := open_stood h0
    rw [sw] at g2
    exact ⟨g1, .inr ⟨hE, g2⟩⟩
  · rw [crashP_snoc, crash_stood h0]
    obtain ⟨T, hT⟩ := crash1_any kNew (framesL now) s ps
    simp only [hT]
    obtain ⟨g1, g2⟩ := open_more h0 ((framesL now).take T) ((framesL now).take T).length
    rw [sw] at g2
    exact ⟨g1, .inr ⟨hE, g2⟩⟩
  · have hs : Stood (logT (framesL now) (framesL now).length) (framesL now) := .inr rfl
    rw [crash_stood hs]
    obtain ⟨g1, g2⟩ := open_stood hs
    rw [sn] at g2
    exact ⟨g1, .inl g2⟩
theorem EndW.all {M0 M : Tab FileE} {d f : List UInt8} (h0 : Stood M0 d) {E : Int} (h : EndW M0 f E M) (hd : d.length ≤ 1000000) (hf : f.length ≤ 1000000) : (∀ x ∈ M, x.1.length ≤ 1000000000 ∧ x.2.1.length ≤ 1000000 ∧ x.2.2 ≤ x.2.1.length) ∧ M.length ≤ 800000 := by
  have h1 : (∀ x ∈ M0, x.1.length ≤ 1000000000 ∧ x.2.1.length ≤ 1000000 ∧ x.2.2 ≤ x.2.1.length) ∧ M0.length ≤ 1 := by
    rcases h0 with ⟨rfl, rfl⟩ | rfl
    · exact ⟨fun x hx => (by cases hx), by decide⟩
    · refine ⟨fun x hx => ?_, Nat.le_refl _⟩
      rw [logT, List.mem_singleton] at hx
      subst hx
      exact ⟨(show (3 : Nat) ≤ 1000000000 by decide), hd, Nat.le_refl _⟩
  rcases h with ⟨_, rfl⟩ | ⟨_, s, hs, rfl⟩ | ⟨_, rfl⟩
  · exact ⟨h1.1, by omega⟩
  · refine ⟨fun x hx => ?_, by rw [List.length_append]; have := h1.2; simp; omega⟩
    rcases List.mem_append.1 hx with hx | hx
    · exact h1.1 x hx
    · rw [List.mem_singleton] at hx
      subst hx
      exact ⟨(show (7 : Nat) ≤ 1000000000 by decide), hf, hs⟩
  · refine ⟨fun x hx => ?_, (show 1 ≤ 800000 by decide)⟩
    rw [logT, List.mem_singleton] at hx
    subst hx
    exact ⟨(show (3 : Nat) ≤ 1000000000 by decide), hf, Nat.le_refl _⟩
theorem stT_stood (rs : List (List UInt8)) : Stood (stT rs rs.length) (framesL rs) := by
  unfold stT Stood
  by_cases h : rs.length = 0
  · rw [if_pos h]
    rw [List.length_eq_zero_iff.1 h]
    exact .inl ⟨rfl, rfl⟩
  · rw [if_neg h, List.take_of_length_le (Nat.le_refl _)]
    exact .inr rfl
end Go.Proofs.YtehpapoboeejkaaDoor
