/- A tool's commands ahead of others: it does what it does alone, up to its end. Plain: no program is named. -/
import Derived.Test.YtnecjdhamohadaaGreatDoorMd
set_option linter.unusedSimpArgs false
set_option linter.unusedVariables false
namespace Go.Proofs.YtnecjdhamohadaaGreatDoor
open Go.Lib
variable {v : Env} {O O' : TT → Option KE}
/-! texts, one behind the other -/
theorem linesT_app (b : TT) : ∀ (n : Nat) (s : TT), s.length ≤ n → linesT (s ++ 10 :: b) = segs (· == 10) s ++ linesT b
  | n, s, hn => by
    by_cases hs : ∀ c ∈ s, c ≠ 10
    · rw [linesT_at hs, segs_no (fun c hc => by simpa using hs c hc)]
      rfl
    · have hx : (10 : UInt8) ∈ s := by
        have := Classical.not_forall.1 hs
        obtain ⟨c, hc⟩ := this
        have := Classical.not_imp.1 hc
        have h2 : c = 10 := Classical.not_not.1 this.2
        exact h2 ▸ this.1
      obtain ⟨x, y, rfl, hno⟩ := List.append_of_mem' hx
      have hy : y.length < (x ++ 10 :: y).length := by simp; omega
      cases n with
      | zero => simp at hn
      | succ n =>
        have ih := linesT_app b n y (by simp at hn; omega)
        rw [List.append_assoc, List.cons_append, linesT_at hno, ih, segs_at (by simp) y (fun d hd => by simpa using hno d hd)]
        rfl
where
  List.append_of_mem' {x : UInt8} : ∀ {s : TT}, x ∈ s → ∃ a b, s = a ++ x :: b ∧ ∀ c ∈ a, c ≠ x
    | c :: s, h => by
      by_cases hc : c = x
      · subst hc
        exact ⟨[], s, rfl, fun c hc => by cases hc⟩
      · have h2 : x ∈ s := by
          rcases List.mem_cons.1 h with e | e
          · exact absurd e.symm hc
          · exact e
        obtain ⟨a, b, rfl, ha⟩ := List.append_of_mem' h2
        exact ⟨c :: a, b, rfl, fun d hd => by
          rcases List.mem_cons.1 hd with rfl | hd
          · exact hc
          · exact ha d hd⟩
theorem linesT_two (s b : TT) : linesT ((s ++ [10]) ++ b) = linesT (s ++ [10]) ++ linesT b := by
  rw [List.append_assoc]
  show linesT (s ++ 10 :: b) = _
  rw [linesT_app b _ s (Nat.le_refl _), linesT_end]
theorem badL_zero {may : TT → Bool} : ∀ (l : List TT) (i : Nat), (badL may l i).1 = 0 ↔ ∀ s ∈ l, readC may s ≠ none
  | [], i => by simp [badL]
  | s :: l, i => by
    have ih := badL_zero (may := may) l (i + 1)
    rw [badL]
    cases h : readC may s with
    | none => simp [h]
    | some c => simp [h, ih]
theorem checkT_two {may : TT → Bool} {s b : TT} (h : (checkT may ((s ++ [10]) ++ b)).1 = 0) : (checkT may (s ++ [10])).1 = 0 ∧ (checkT may b).1 = 0 ∧ cmdsOf may (linesT ((s ++ [10]) ++ b)) = cmdsOf may (linesT (s ++ [10])) ++ cmdsOf may (linesT b) := by
  have hl := linesT_two s b
  unfold checkT at h
  split at h
  · cases h
  · rename_i hs
    rw [hl] at hs
    simp only [List.length_append] at hs
    rw [hl] at h
    have h1 := (badL_zero _ _).1 h
    refine ⟨?_, ?_, by rw [hl, cmdsOf_append]⟩
    · unfold checkT
      rw [if_neg (by simp only [List.length_append]; omega)]
      exact (badL_zero _ _).2 fun x hx => h1 x (List.mem_append_left _ hx)
    · unfold checkT
      rw [if_neg (by omega)]
      exact (badL_zero _ _).2 fun x hx => h1 x (List.mem_append_right _ hx)
/-! more to do, below -/
def PS.under (s : PS) (T : List TaskE) : PS := { s with todo := s.todo ++ T }
theorem under_fail (s : PS) (T : List TaskE) (y : Nat) : (s.under T).fail y = (s.fail y).under T := rfl
theorem under_add (s : PS) (T : List TaskE) (t : TT) : (s.under T).add t = (s.add t).under T := by
  unfold PS.add
  show (if 65536 < s.buf.length + t.length then _ else _) = _
  split <;> rfl
theorem under_then (s : PS) (T : List TaskE) (th : ThenE) (k : KE) : (s.under T).then_ th k = (s.then_ th k).under T := by
  cases th <;> unfold PS.then_ <;> simp only <;> split
  · exact under_add s T _
  · rfl
  · exact under_add s T _
  · rfl
  · unfold PS.under
    simp
  · rfl
theorem under_ask (s : PS) (T : List TaskE) (p : TT) (th : ThenE) : (s.under T).ask p th = (s.ask p th).under T := by
  unfold PS.ask
  show (match getK s.known p with | some k => _ | none => _) = _
  cases getK s.known p with
  | some k => exact under_then s T th k
  | none =>
    show (if 500 ≤ s.known.length then _ else _) = PS.under (if 500 ≤ s.known.length then _ else _) T
    split <;> rfl
theorem under_scan (s : PS) (T : List TaskE) (p w : TT) : (s.under T).scan p w = (s.scan p w).under T := under_ask { s with seen := p :: s.seen } T p (.scan w)
theorem under_set (s : PS) (T : List TaskE) (l : List TT) : (s.under T).setLines l = (s.setLines l).under T := under_add { s with buf := [] } T _
theorem under_turn (s : PS) (T : List TaskE) (n a : TT) (l : List TT) : (s.under T).turn n a l = (s.turn n a l).under T := by
  unfold PS.turn
  repeat' split
  all_goals first
    | exact under_set s T _
    | rfl
theorem under_do (s : PS) (T : List TaskE) (c : CmdE) : (s.under T).do_ v c = (s.do_ v c).under T := by
  unfold PS.do_
  simp only
  show (if _ then _ else _) = _
  repeat' split
  all_goals first
    | exact under_ask s T _ _
    | exact under_scan { s with seen := [] } T _ _
    | exact under_add s T _
    | exact under_turn s T _ _ _
    | rfl
    | (rename_i h1 h2; exact absurd h1 h2)
    | (rename_i h1 h2; exact absurd h2 h1)
    | (simp_all [PS.under]; done)
theorem under_line (s : PS) (T : List TaskE) (x w : TT) : (s.under T).line v x w = (s.line v x w).under T := by
  unfold PS.line
  split
  · split
    · show (if _ ∈ s.seen then _ else _) = PS.under (if _ ∈ s.seen then _ else _) T
      split
      · rfl
      · exact under_scan s T _ _
    · exact under_add s T _
  · exact under_add s T _
theorem under_task (s : PS) (T : List TaskE) (t : TaskE) : (s.under T).task v t = (s.task v t).under T := by
  cases t with
  | cmd c => exact under_do s T c
  | ans p th => exact under_then s T th _
  | line x w => exact under_line s T x w
theorem under_still (s : PS) (T : List TaskE) : (s.under T).Still ↔ s.Still := Iff.rfl
theorem under_mstep {s : PS} {E : List DE} (T : List TaskE) (h : ¬ (s.over.kind = 0 ∧ s.waits = false ∧ s.todo = [])) : mstep v O (s.under T, E) = ((mstep v O (s, E)).1.under T, (mstep v O (s, E)).2) := by
  by_cases h2 : s.over.kind = 2
  · have e1 : mstep v O (s, E) = ({ s with over := DE.none }, E ++ [s.over]) := by unfold mstep; rw [if_pos h2]
    have e2 : mstep v O (s.under T, E) = ({ s.under T with over := DE.none }, E ++ [s.over]) := by
      unfold mstep
      rw [if_pos (show (s.under T).over.kind = 2 from h2)]
      rfl
    rw [e1, e2]
    rfl
  · by_cases h0 : s.over.kind ≠ 0
    · have e1 : mstep v O (s, E) = (s, E) := by unfold mstep; rw [if_neg h2, if_pos h0]
      have e2 : mstep v O (s.under T, E) = (s.under T, E) := by unfold mstep; rw [if_neg (show ¬ (s.under T).over.kind = 2 from h2), if_pos (show (s.under T).over.kind ≠ 0 from h0)]
      rw [e1, e2]
    · by_cases hw : s.waits = true
      · cases hk : O s.asks with
        | none =>
          have e1 : mstep v O (s, E) = (s, E) := by unfold mstep; simp [h2, h0, hw, hk]
          have e2 : mstep v O (s.under T, E) = (s.under T, E) := by
            unfold mstep
            rw [if_neg (show ¬ (s.under T).over.kind = 2 from h2), if_neg (show ¬ (s.under T).over.kind ≠ 0 from h0), if_pos (show (s.under T).waits = true from hw), show O (s.under T).asks = none from hk]
          rw [e1, e2]
        | some k =>
          have e1 : mstep v O (s, E) = (s.give k, E ++ [⟨1, s.asks, [], 0⟩]) := by
            unfold mstep
            rw [if_neg h2, if_neg h0, if_pos hw, hk]
          have e2 : mstep v O (s.under T, E) = ((s.under T).give k, E ++ [⟨1, s.asks, [], 0⟩]) := by
            unfold mstep
            rw [if_neg (show ¬ (s.under T).over.kind = 2 from h2), if_neg (show ¬ (s.under T).over.kind ≠ 0 from h0), if_pos (show (s.under T).waits = true from hw), show O (s.under T).asks = some k from hk]
            rfl
          rw [e1, e2]
          rfl
      · have hn : ¬ s.Still := by
          unfold PS.Still
          rw [not_or]
          exact ⟨h0, hw⟩
        have hwf : s.waits = false := by simpa using hw
        rw [mstep_goes hn, mstep_goes (s := s.under T) hn]
        cases ht : s.todo with
        | nil => exact absurd ⟨by omega, hwf, ht⟩ h
        | cons t r =>
          rw [step_cons hn ht, step_cons (s := s.under T) (r := r ++ T) hn (by show s.todo ++ T = _; rw [ht]; rfl)]
          have := under_task (v := v) { s with todo := r } T t
          exact congrArg (fun x => (x, E)) this
theorem fixed_over {s : PS} {E : List DE} (h2 : ¬ s.over.kind = 2) (h0 : s.over.kind ≠ 0) : ∀ n, mrun v O n (s, E) = (s, E)
  | 0 => rfl
  | n + 1 => by
    have : mstep v O (s, E) = (s, E) := by unfold mstep; rw [if_neg h2, if_pos h0]
    rw [mrun, this, fixed_over h2 h0 n]
/-- it fails: so it does with more below -/
theorem under_fails (T : List TaskE) : ∀ (n : Nat) (s : PS) (E : List DE) (S : PS) (F : List DE), mrun v O n (s, E) = (S, F) → S.over.kind = 4 → mrun v O n (s.under T, E) = (S.under T, F)
  | 0, s, E, S, F, h, _ => by
    rw [mrun] at h ⊢
    cases h
    rfl
  | n + 1, s, E, S, F, h, h4 => by
    rw [mrun] at h ⊢
    by_cases hb : s.over.kind = 0 ∧ s.waits = false ∧ s.todo = []
    · have hn : ¬ s.Still := by
        unfold PS.Still
        rw [not_or]
        exact ⟨by omega, by rw [hb.2.1]; simp⟩
      rw [mstep_goes hn, step_nil hn hb.2.2, fixed_over (by simp) (by simp)] at h
      cases h
      cases h4
    · rw [under_mstep T hb]
      exact under_fails T n _ _ S F h h4
/-- it ends: with more below it comes to where that begins -/
theorem under_ends (T : List TaskE) : ∀ (n : Nat) (s : PS) (E : List DE) (S : PS) (F : List DE), mrun v O n (s, E) = (S, F) → S.over.kind = 3 → s.over.kind ≠ 3 → ∃ k S0, S = { S0 with over := ⟨3, [], [], 0⟩ } ∧ S0.over.kind = 0 ∧ S0.waits = false ∧ S0.todo = [] ∧ mrun v O k (s, E) = (S0, F) ∧ mrun v O k (s.under T, E) = (S0.under T, F)
  | 0, s, E, S, F, h, h3, hn => by
    rw [mrun] at h
    cases h
    exact absurd h3 hn
  | n + 1, s, E, S, F, h, h3, hs3 => by
    rw [mrun] at h
    by_cases hb : s.over.kind = 0 ∧ s.waits = false ∧ s.todo = []
    · have hn : ¬ s.Still := by
        unfold PS.Still
        rw [not_or]
        exact ⟨by omega, by rw [hb.2.1]; simp⟩
      rw [mstep_goes hn, step_nil hn hb.2.2, fixed_over (by simp) (by simp)] at h
      cases h
      exact ⟨0, s, rfl, hb.1, hb.2.1, hb.2.2, rfl, rfl⟩
    · have hm := under_mstep (v := v) (O := O) (E := E) T hb
      have h3' : (mstep v O (s, E)).1.over.kind ≠ 3 := by
        intro hc
        by_cases h2 : s.over.kind = 2
        · have e1 : mstep v O (s, E) = ({ s with over := DE.none }, E ++ [s.over]) := by unfold mstep; rw [if_pos h2]
          rw [e1] at hc
          simp [DE.none] at hc
        · by_cases h0 : s.over.kind ≠ 0
          · have e1 : mstep v O (s, E) = (s, E) := by unfold mstep; rw [if_neg h2, if_pos h0]
            rw [e1] at hc
            exact hs3 hc
          · by_cases hw : s.waits = true
            · have e1 : (mstep v O (s, E)).1.over = s.over := by
                unfold mstep
                rw [if_neg h2, if_neg h0, if_pos hw]
                split <;> rfl
              rw [e1] at hc
              exact hs3 hc
            · have hn : ¬ s.Still := by
                unfold PS.Still
                rw [not_or]
                exact ⟨h0, hw⟩
              rw [mstep_goes hn] at hc
              cases ht : s.todo with
              | nil => exact hb ⟨by omega, by simpa using hw, ht⟩
              | cons t r =>
                rw [step_cons hn ht] at hc
                exact task_not3 { s with todo := r } t (by simpa using h0) hc
      obtain ⟨k, S0, g1, g2, g3, g4, g5, g6⟩ := under_ends T n _ _ S F h h3 h3'
      refine ⟨k + 1, S0, g1, g2, g3, g4, ?_, ?_⟩
      · rw [mrun]; exact g5
      · rw [mrun, hm]; exact g6
where
  task_not3 (s : PS) (t : TaskE) (h0 : s.over.kind = 0) : (s.task v t).over.kind ≠ 3 := by
    have hadd : ∀ (s : PS) t, s.over.kind = 0 → (s.add t).over.kind ≠ 3 := fun s t h => by
      unfold PS.add
      split
      · simp [PS.fail]
      · simp [h]
    have hthen : ∀ (s : PS) th k, s.over.kind = 0 → (s.then_ th k).over.kind ≠ 3 := fun s th k h => by
      cases th <;> unfold PS.then_ <;> simp only <;> split
      · exact hadd s _ h
      · simp [PS.fail]
      · exact hadd s _ h
      · simp [h]
      · simp [h]
      · simp [PS.fail]
    have hask : ∀ (s : PS) p th, s.over.kind = 0 → (s.ask p th).over.kind ≠ 3 := fun s p th h => by
      unfold PS.ask
      split
      · exact hthen s _ _ h
      · split
        · simp [PS.fail]
        · simp [h]
    have hturn : ∀ (s : PS) n a l, s.over.kind = 0 → (s.turn n a l).over.kind ≠ 3 := fun s n a l h => by
      unfold PS.turn
      repeat' split
      all_goals first
        | exact hadd { s with buf := [] } _ h
        | simp [h]
    cases t with
    | cmd c =>
      unfold PS.task PS.do_
      simp only
      repeat' split
      all_goals first
        | exact hask s _ _ h0
        | exact hask { s with seen := _ } _ _ h0
        | exact hadd s _ h0
        | exact hturn s _ _ _ h0
        | (simp [PS.fail]; done)
        | (simp [h0]; done)
        | (intro hc; have hc2 : s.over.kind = 3 := hc; omega)
    | ans p th => exact hthen s th _ h0
    | line x w =>
      unfold PS.task PS.line
      simp only
      repeat' split
      all_goals first
        | exact hask { s with seen := _ } _ _ h0
        | exact hadd s _ h0
        | simp [h0]
/-! the last command writes what there is: behind it nothing is there -/
def wzz : CmdE := ⟨[kWrite, [122, 122]], []⟩
def EndsW (s : PS) : Prop := (∃ l, s.todo = l ++ [.cmd wzz]) ∨ (s.todo = [] ∧ s.buf = [])
theorem EndsW.step {s : PS} (h : EndsW s) : EndsW (s.step v) := by
  by_cases hs : s.Still
  · rw [PS.step_still hs]; exact h
  · cases ht : s.todo with
    | nil =>
      rw [step_nil hs ht]
      rcases h with ⟨l, h⟩ | ⟨_, h⟩
      · rw [ht] at h
        cases l <;> cases h
      · exact .inr ⟨ht, h⟩
    | cons t r =>
      rw [step_cons hs ht]
      rcases h with ⟨l, h⟩ | ⟨h, _⟩
      · rw [ht] at h
        cases l with
        | nil =>
          rw [List.nil_append] at h
          cases h
          refine .inr ?_
          have : PS.task v { s with todo := [] } (.cmd wzz) = { s with todo := [], over := ⟨2, [122, 122], s.buf, 0⟩, buf := [] } := by
            simp [PS.task, PS.do_, wzz]
          rw [this]
          exact ⟨rfl, rfl⟩
        | cons y l =>
          rw [List.cons_append] at h
          cases h
          refine .inl ?_
          obtain ⟨_, g⟩ := grows_task { s with todo := l ++ [.cmd wzz] } v t
          rcases g with ⟨L, w, e, _⟩ | ⟨p, th, e, _⟩
          · exact ⟨L.map (TaskE.line · w) ++ l, by rw [e, List.append_assoc]⟩
          · exact ⟨.ans p th :: l, by rw [e]; rfl⟩
      · rw [ht] at h; cases h
theorem EndsW.mstep {s : PS} {E : List DE} (h : EndsW s) : EndsW (mstep v O (s, E)).1 := by
  unfold Go.Proofs.YtnecjdhamohadaaGreatDoor.mstep
  simp only
  split
  · exact h
  · split
    · exact h
    · split
      · split
        · exact h
        · exact h
      · exact h.step
theorem EndsW.mrun : ∀ (n : Nat) {m : MS}, EndsW m.1 → EndsW (mrun v O n m).1
  | 0, _, h => h
  | n + 1, (s, E), h => EndsW.mrun n (m := Go.Proofs.YtnecjdhamohadaaGreatDoor.mstep v O (s, E)) h.mstep
end Go.Proofs.YtnecjdhamohadaaGreatDoor
