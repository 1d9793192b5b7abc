/- A tool that knows answers ahead does what it does without, but for what it need not ask. Plain: no program is named. -/
import Derived.Test.YtnecjdhamohadaaGreatDoorMTpP
set_option linter.unusedSimpArgs false
set_option linter.unusedVariables false
namespace Go.Proofs.YtnecjdhamohadaaGreatDoor
open Go.Lib
variable {v : Env} {O : TT → Option KE}
def PS.with3 (s : PS) (kn : List (TT × KE)) (sn : List TT) (ak : TT) : PS := { s with known := kn, seen := sn, asks := ak }
theorem with3_add (s : PS) (kn sn ak) (t : TT) : (s.with3 kn sn ak).add t = (s.add t).with3 kn sn ak := by
  unfold PS.add
  show (if 65536 < s.buf.length + t.length then _ else _) = _
  split <;> rfl
theorem with3_then (s : PS) (kn sn ak) (th : ThenE) (k : KE) : (s.with3 kn sn ak).then_ th k = (s.then_ th k).with3 kn sn ak := by
  cases th <;> unfold PS.then_ <;> simp only <;> split
  · exact with3_add s _ _ _ _
  · rfl
  · exact with3_add s _ _ _ _
  · rfl
  · rfl
  · rfl
theorem with3_set (s : PS) (kn sn ak) (l : List TT) : (s.with3 kn sn ak).setLines l = (s.setLines l).with3 kn sn ak := with3_add { s with buf := [] } _ _ _ _
theorem with3_turn (s : PS) (kn sn ak) (n a : TT) (l : List TT) : (s.with3 kn sn ak).turn n a l = (s.turn n a l).with3 kn sn ak := by
  unfold PS.turn
  repeat' split
  all_goals first
    | exact with3_set s _ _ _ _
    | rfl
def ThenE.plain : ThenE → Bool
  | .scan _ => false
  | _ => true
def TaskE.plain : TaskE → Bool
  | .cmd _ => true
  | .ans _ th => th.plain
  | .line _ _ => false
/-- x is as y is, but that it knew K ahead -/
structure Ahead (O : TT → Option KE) (K : List (TT × KE)) (x y : PS) : Prop where
  form : x = y.with3 x.known x.seen x.asks
  asks : y.waits = true → x.asks = y.asks ∧ getK K y.asks = none
  seen : x.seen = y.seen ∨ ∀ t ∈ y.todo, t.plain = true
  has : ∀ p, (getK x.known p).isSome = true ↔ ((getK y.known p).isSome = true ∨ (getK K p).isSome = true)
  ox : ∀ p k, getK x.known p = some k → O p = some k
  oy : ∀ p k, getK y.known p = some k → O p = some k
  len : x.known.length ≤ K.length + y.known.length
  zero : K.length = 0 → x.known.length = y.known.length
/-- what changes neither what is known nor what is asked or seen, and adds only plain things -/
theorem Ahead.same {K : List (TT × KE)} {x y x' y' : PS} (h : Ahead O K x y) (hw : y.waits = false) (hf : x' = y'.with3 x.known x.seen x.asks) (h1 : y'.known = y.known) (h2 : y'.waits = y.waits) (h3 : y'.seen = y.seen) (ht : x.seen = y.seen ∨ ∀ t ∈ y'.todo, t.plain = true) : Ahead O K x' y' := by
  have e1 : x'.known = x.known := by rw [hf]; rfl
  have e2 : x'.seen = x.seen := by rw [hf]; rfl
  have e3 : x'.asks = x.asks := by rw [hf]; rfl
  refine ⟨by rw [e1, e2, e3]; exact hf, fun e => ?_, ?_, ?_, ?_, ?_, ?_, ?_⟩
  · rw [h2, hw] at e; cases e
  · rw [e2, h3]; exact ht
  · rw [e1, h1]; exact h.has
  · rw [e1]; exact h.ox
  · rw [h1]; exact h.oy
  · rw [e1, h1]; exact h.len
  · rw [e1, h1]; exact h.zero
theorem Ahead.todoEq {K : List (TT × KE)} {x y : PS} (h : Ahead O K x y) : x.todo = y.todo ∧ x.buf = y.buf ∧ x.waits = y.waits ∧ x.over = y.over := by
  have := h.form
  rw [this]
  exact ⟨rfl, rfl, rfl, rfl⟩
theorem Ahead.fail {K : List (TT × KE)} {x y : PS} (h : Ahead O K x y) (hw : y.waits = false) (n : Nat) : Ahead O K (x.fail n) (y.fail n) :=
  h.same hw (congrArg (PS.fail · n) h.form) rfl rfl rfl h.seen
theorem Ahead.add {K : List (TT × KE)} {x y : PS} (h : Ahead O K x y) (hw : y.waits = false) (t : TT) : Ahead O K (x.add t) (y.add t) := by
  obtain ⟨h1, h2, h3, _, h5⟩ := add_same y t
  exact h.same hw ((congrArg (PS.add · t) h.form).trans (with3_add y _ _ _ t)) h2 h3 h5 (by rw [h1]; exact h.seen)
theorem Ahead.then_ {K : List (TT × KE)} {x y : PS} (h : Ahead O K x y) (hw : y.waits = false) (th : ThenE) (k : KE) (hth : th.plain = true ∨ x.seen = y.seen) : Ahead O K (x.then_ th k) (y.then_ th k) := by
  have hf := (congrArg (PS.then_ · th k) h.form).trans (with3_then y _ _ _ th k)
  cases th with
  | add =>
    unfold PS.then_
    simp only
    split
    · exact h.add hw _
    · exact h.fail hw _
  | try_ =>
    unfold PS.then_
    simp only
    split
    · exact h.add hw _
    · exact h
  | scan w =>
    have hs : x.seen = y.seen := by
      rcases hth with e | e
      · cases e
      · exact e
    unfold PS.then_ at hf ⊢
    simp only at hf ⊢
    split
    · rename_i hi
      rw [if_pos hi, if_pos hi] at hf
      exact h.same hw hf rfl rfl rfl (.inl hs)
    · exact h.fail hw _
/-- how a step of the two may go: alike; the other one asks what this one knew; or this one has no room to ask -/
def Steps (O : TT → Option KE) (K : List (TT × KE)) (x y : PS) : Prop :=
  Ahead O K x y ∨
  (∃ (z : PS) (p : TT) (th : ThenE) (k : KE), y = { z with asks := p, waits := true, todo := .ans p th :: z.todo } ∧ (getK K p).isSome = true ∧ getK z.known p = none ∧ O p = some k ∧ z.waits = false ∧ z.over = y.over ∧ Ahead O K x (PS.then_ { z with known := z.known ++ [(p, k)], asks := [] } th k)) ∨
  (y.waits = true ∧ 500 ≤ K.length + y.known.length)
theorem Ahead.ask {K : List (TT × KE)} {x y : PS} (h : Ahead O K x y) (hw : y.waits = false) (p : TT) (th : ThenE) (hth : th.plain = true ∨ x.seen = y.seen) (hb : K.length + y.known.length ≤ 500) : Steps O K (x.ask p th) (y.ask p th) := by
  cases hy : getK y.known p with
  | some k =>
    have hx : getK x.known p = some k := by
      have h1 := (h.has p).2 (.inl (by rw [hy]; rfl))
      obtain ⟨k', hk'⟩ := Option.isSome_iff_exists.1 h1
      have e1 := h.ox p k' hk'
      rw [h.oy p k hy] at e1
      cases e1
      exact hk'
    have e1 : x.ask p th = x.then_ th k := by unfold PS.ask; rw [hx]
    have e2 : y.ask p th = y.then_ th k := by unfold PS.ask; rw [hy]
    rw [e1, e2]
    exact .inl (h.then_ hw th k hth)
  | none =>
    cases hK : getK K p with
    | some k0 =>
      have h1 := (h.has p).2 (.inr (by rw [hK]; rfl))
      obtain ⟨k, hx⟩ := Option.isSome_iff_exists.1 h1
      have ho := h.ox p k hx
      have hKl : K.length ≠ 0 := fun e => by
        have : K = [] := List.eq_nil_of_length_eq_zero e
        rw [this] at hK
        cases hK
      have e1 : x.ask p th = x.then_ th k := by unfold PS.ask; rw [hx]
      have e2 : y.ask p th = { y with asks := p, waits := true, todo := .ans p th :: y.todo } := by
        unfold PS.ask
        rw [hy]
        simp only
        rw [if_neg (by omega)]
      rw [e1, e2]
      refine .inr (.inl ⟨y, p, th, k, rfl, by rw [hK]; rfl, hy, ho, hw, rfl, ?_⟩)
      have hA : Ahead O K x { y with known := y.known ++ [(p, k)], asks := [] } := by
        refine ⟨h.form, fun e => ?_, h.seen, fun q => ?_, h.ox, fun q j hj => ?_, ?_, fun e => absurd e hKl⟩
        · have : y.waits = true := e
          rw [hw] at this; cases this
        · show _ ↔ ((getK (y.known ++ [(p, k)]) q).isSome = true ∨ _)
          rw [getK_snoc hy, h.has q]
          split
          · rename_i e
            subst e
            simp [hK]
          · rfl
        · have hj' : getK (y.known ++ [(p, k)]) q = Option.some j := hj
          rw [getK_snoc hy] at hj'
          split at hj'
          · rename_i e
            cases hj'
            rw [e]
            exact ho
          · exact h.oy q j hj'
        · show _ ≤ K.length + (y.known ++ [(p, k)]).length
          have := h.len
          rw [List.length_append]
          omega
      exact hA.then_ hw th k hth
    | none =>
      have hx : getK x.known p = none := by
        cases hx : getK x.known p with
        | none => rfl
        | some k =>
          have := (h.has p).1 (by rw [hx]; rfl)
          rw [hy, hK] at this
          simp at this
      have hl := h.len
      by_cases hy5 : 500 ≤ y.known.length
      · have hK0 : K.length = 0 := by omega
        have hz := h.zero hK0
        have e1 : x.ask p th = x.fail 6 := by
          unfold PS.ask
          rw [hx]
          simp only
          rw [if_pos (by omega)]
        have e2 : y.ask p th = y.fail 6 := by
          unfold PS.ask
          rw [hy]
          simp only
          rw [if_pos hy5]
        rw [e1, e2]
        exact .inl (h.fail hw 6)
      · have e2 : y.ask p th = { y with asks := p, waits := true, todo := .ans p th :: y.todo } := by
          unfold PS.ask
          rw [hy]
          simp only
          rw [if_neg hy5]
        by_cases hx5 : 500 ≤ x.known.length
        · rw [e2]
          exact .inr (.inr ⟨rfl, by show 500 ≤ K.length + y.known.length; omega⟩)
        · have e1 : x.ask p th = { x with asks := p, waits := true, todo := .ans p th :: x.todo } := by
            unfold PS.ask
            rw [hx]
            simp only
            rw [if_neg hx5]
          rw [e1, e2]
          refine .inl ⟨?_, fun _ => ⟨rfl, hK⟩, ?_, h.has, h.ox, h.oy, h.len, h.zero⟩
          · have := h.form
            show ({ x with asks := p, waits := true, todo := .ans p th :: x.todo } : PS) = _
            conv => lhs; rw [this]
            rfl
          · show x.seen = y.seen ∨ _
            rcases hth with e | e
            · rcases h.seen with e2 | e2
              · exact .inl e2
              · refine .inr fun t ht => ?_
                rcases List.mem_cons.1 ht with rfl | ht
                · exact e
                · exact e2 t ht
            · exact .inl e
theorem Ahead.seenAs {K : List (TT × KE)} {x y : PS} (h : Ahead O K x y) (S : List TT) : Ahead O K { x with seen := S } { y with seen := S } := by
  refine ⟨?_, h.asks, .inl rfl, h.has, h.ox, h.oy, h.len, h.zero⟩
  have := h.form
  show ({ x with seen := S } : PS) = _
  conv => lhs; rw [this]
  rfl
theorem Ahead.scan {K : List (TT × KE)} {x y : PS} (h : Ahead O K x y) (hw : y.waits = false) (p w : TT) (hs : x.seen = y.seen) (hb : K.length + y.known.length ≤ 500) : Steps O K (x.scan p w) (y.scan p w) := by
  have h1 := h.seenAs (p :: y.seen)
  unfold PS.scan
  rw [hs]
  exact h1.ask hw p (.scan w) (.inr rfl) hb
theorem Ahead.buffer {K : List (TT × KE)} {x y : PS} (h : Ahead O K x y) (hw : y.waits = false) (b : TT) : Ahead O K { x with buf := b } { y with buf := b } :=
  h.same hw (congrArg (fun z : PS => { z with buf := b }) h.form) rfl rfl rfl h.seen
theorem Ahead.turn {K : List (TT × KE)} {x y : PS} (h : Ahead O K x y) (hw : y.waits = false) (n a : TT) (l : List TT) : Ahead O K (x.turn n a l) (y.turn n a l) := by
  obtain ⟨h1, h2, h3, _, h5⟩ := turn_same y n a l
  exact h.same hw ((congrArg (PS.turn · n a l) h.form).trans (with3_turn y _ _ _ n a l)) h2 h3 h5 (by rw [h1]; exact h.seen)
theorem Ahead.do_ {K : List (TT × KE)} {x y : PS} (h : Ahead O K x y) (hw : y.waits = false) (c : CmdE) (hb : K.length + y.known.length ≤ 500) : Steps O K (x.do_ v c) (y.do_ v c) := by
  obtain ⟨_, hbuf, _, _⟩ := h.todoEq
  have hS := (h.seenAs []).scan hw ((c.ws.drop 1).headD []) ((c.ws.drop 2).headD []) rfl hb
  rw [hbuf] at hS
  unfold PS.do_
  simp only
  rw [hbuf]
  repeat' split
  all_goals first
    | exact hS
    | exact h.ask hw _ _ (.inl rfl) hb
    | exact .inl (h.add hw _)
    | exact .inl (h.fail hw _)
    | exact .inl (h.turn hw _ _ _)
    | exact .inl h
    | skip
  exact .inl (h.same hw (congrArg (fun z : PS => { z with over := ⟨2, (c.ws.drop 1).headD [], y.buf, 0⟩, buf := [] }) h.form) rfl rfl rfl h.seen)
theorem Ahead.line {K : List (TT × KE)} {x y : PS} (h : Ahead O K x y) (hw : y.waits = false) (s w : TT) (hs : x.seen = y.seen) (hb : K.length + y.known.length ≤ 500) : Steps O K (x.line v s w) (y.line v s w) := by
  unfold PS.line
  rw [hs]
  repeat' split
  all_goals first
    | exact .inl h
    | exact h.scan hw _ _ hs hb
    | exact .inl (h.add hw _)
theorem Ahead.task {K : List (TT × KE)} {x y : PS} {t : TaskE} {r : List TaskE} (h : Ahead O K x y) (hw : y.waits = false) (hp : Pend y) (ht : y.todo = t :: r) (hb : K.length + y.known.length ≤ 500) : Steps O K (PS.task v { x with todo := r } t) (PS.task v { y with todo := r } t) := by
  have hr : Ahead O K { x with todo := r } { y with todo := r } := h.same hw (congrArg (fun z : PS => { z with todo := r }) h.form) rfl rfl rfl (h.seen.imp id fun e u hu => e u (by rw [ht]; exact List.mem_cons_of_mem _ hu))
  have hs : t.plain = true ∨ x.seen = y.seen := by
    rcases h.seen with e | e
    · exact .inr e
    · exact .inl (e t (by rw [ht]; simp))
  cases t with
  | cmd c => exact hr.do_ hw c hb
  | ans p th =>
    unfold PS.task
    have h1 : (getK y.known p).isSome = true := by
      rcases hp p th (by rw [ht]; simp) with e | e
      · exact e
      · rw [hw] at e; cases e.1
    obtain ⟨k, hk⟩ := Option.isSome_iff_exists.1 h1
    obtain ⟨k', hk'⟩ := Option.isSome_iff_exists.1 ((h.has p).2 (.inl h1))
    have e1 := h.ox p k' hk'
    rw [h.oy p k hk] at e1
    cases e1
    simp only
    rw [hk, hk']
    exact .inl (hr.then_ hw th k hs)
  | line s w =>
    have hs2 : x.seen = y.seen := by
      rcases hs with e | e
      · cases e
      · exact e
    exact hr.line hw s w hs2 hb
/-- what it need not ask -/
def notK (K : List (TT × KE)) (d : DE) : Bool := !(d.kind == 1 && (getK K d.path).isSome)
theorem known_more : ∀ (n : Nat) (s : PS) (E : List DE), s.known.length ≤ (mrun v O n (s, E)).1.known.length
  | 0, _, _ => Nat.le_refl _
  | n + 1, s, E => by
    rw [mrun]
    have h1 : s.known.length ≤ (mstep v O (s, E)).1.known.length := by
      unfold mstep
      simp only
      split
      · exact Nat.le_refl _
      · split
        · exact Nat.le_refl _
        · split
          · split
            · show _ ≤ (s.known ++ [_]).length
              rw [List.length_append]
              exact Nat.le_add_right _ _
            · exact Nat.le_refl _
          · show _ ≤ (s.step v).known.length
            by_cases hs : s.Still
            · rw [PS.step_still hs]
              exact Nat.le_refl _
            · cases ht : s.todo with
              | nil => rw [step_nil hs ht]; exact Nat.le_refl _
              | cons t r =>
                rw [step_cons hs ht, (grows_task { s with todo := r } v t).1]
                exact Nat.le_refl _
    exact Nat.le_trans h1 (known_more n (mstep v O (s, E)).1 (mstep v O (s, E)).2)
theorem mrun_one (n : Nat) (m : MS) : mrun v O (n + 1) m = mrun v O n (mstep v O m) := rfl
theorem ahead_run (hO : ∀ p k, O p = some k → k.is = true → k.data.length ≤ 1000000) {K : List (TT × KE)} : ∀ (N n : Nat), n ≤ N → ∀ (y : PS) (E : List DE) (x : PS) (D : List DE) (Y : PS) (F : List DE), Ord y → Ahead O K x y → mrun v O n (y, E) = (Y, E ++ F) → (Y.over.kind = 3 ∨ Y.over.kind = 4) → K.length + Y.known.length ≤ 500 → ∃ n' X, mrun v O n' (x, D) = (X, D ++ F.filter (notK K)) ∧ X.over = Y.over
  | N, n, hN, y, E, x, D, Y, F, ho, h, hm, hY, hb => by
    have hkm := known_more (v := v) (O := O) n y E
    rw [hm] at hkm
    have hkm : y.known.length ≤ Y.known.length := hkm
    obtain ⟨htd, hbf, hwt, hov⟩ := h.todoEq
    by_cases h34 : y.over.kind = 3 ∨ y.over.kind = 4
    · rw [fixed_over (by omega) (by omega)] at hm
      have e1 : y = Y := congrArg (·.1) hm
      have e2 : E = E ++ F := congrArg (·.2) hm
      have hF : F = [] := by simpa using e2
      subst e1 hF
      exact ⟨0, x, by rw [mrun]; simp, hov⟩
    · cases n with
      | zero =>
        rw [mrun] at hm
        have e1 : y = Y := congrArg (·.1) hm
        subst e1
        exact absurd hY h34
      | succ n =>
        cases N with
        | zero => omega
        | succ N =>
          rw [mrun] at hm
          by_cases h2 : y.over.kind = 2
          · -- it writes
            have e1 : mstep v O (y, E) = ({ y with over := DE.none }, E ++ [y.over]) := by unfold mstep; rw [if_pos h2]
            have e2 : mstep v O (x, D) = ({ x with over := DE.none }, D ++ [y.over]) := by
              unfold mstep
              rw [if_pos (show x.over.kind = 2 by rw [hov]; exact h2), hov]
            have ho2 := ho.mstep (v := v) (E := E) hO
            rw [e1] at hm ho2
            obtain ⟨G, hG⟩ := mrun_prefix (v := v) (O := O) n ({ y with over := DE.none }, E ++ [y.over])
            rw [hm] at hG
            have hF : F = [y.over] ++ G := by
              have : E ++ F = E ++ ([y.over] ++ G) := by rw [← List.append_assoc]; exact hG
              exact List.append_cancel_left this
            subst hF
            rw [← List.append_assoc] at hm
            have hA : Ahead O K { x with over := DE.none } { y with over := DE.none } := ⟨(congrArg (fun z : PS => { z with over := DE.none }) h.form), h.asks, h.seen, h.has, h.ox, h.oy, h.len, h.zero⟩
            obtain ⟨n', X, g1, g2⟩ := ahead_run hO N n (by omega) _ _ { x with over := DE.none } (D ++ [y.over]) Y G ho2 hA hm hY hb
            refine ⟨n' + 1, X, ?_, g2⟩
            rw [mrun, e2, g1, List.filter_append, ← List.append_assoc]
            have : notK K y.over = true := by unfold notK; rw [h2]; rfl
            simp [this]
          · have h0 : y.over.kind = 0 := by
              rcases ho.over with e | e | e | e
              · rw [e]; rfl
              · exact absurd e h2
              · exact absurd (.inl e) h34
              · exact absurd (.inr e) h34
            by_cases hw : y.waits = true
            · -- it is answered
              obtain ⟨ha1, ha2⟩ := h.asks hw
              obtain ⟨w1, w2, w3⟩ := ho.waits hw
              cases hk : O y.asks with
              | none =>
                have e1 : mstep v O (y, E) = (y, E) := by unfold mstep; simp [h0, hw, hk]
                rw [e1] at hm
                have hfix : ∀ m, mrun v O m (y, E) = (y, E) := by
                  intro m
                  induction m with
                  | zero => rfl
                  | succ m ih => rw [mrun, e1, ih]
                rw [hfix] at hm
                have e2 : y = Y := congrArg (·.1) hm
                subst e2
                exact absurd hY h34
              | some k =>
                have e1 : mstep v O (y, E) = (y.give k, E ++ [⟨1, y.asks, [], 0⟩]) := by
                  unfold mstep
                  rw [if_neg h2, if_neg (by simpa using h0), if_pos hw, hk]
                have e2 : mstep v O (x, D) = (x.give k, D ++ [⟨1, y.asks, [], 0⟩]) := by
                  unfold mstep
                  rw [if_neg (show ¬ x.over.kind = 2 by rw [hov]; exact h2), if_neg (show ¬ x.over.kind ≠ 0 by rw [hov]; simpa using h0), if_pos (show x.waits = true by rw [hwt]; exact hw), show O x.asks = some k by rw [ha1]; exact hk, ha1]
                have ho2 := ho.mstep (v := v) (E := E) hO
                rw [e1] at hm ho2
                obtain ⟨G, hG⟩ := mrun_prefix (v := v) (O := O) n (y.give k, E ++ [⟨1, y.asks, [], 0⟩])
                rw [hm] at hG
                have hF : F = [⟨1, y.asks, [], 0⟩] ++ G := by
                  have : E ++ F = E ++ ([⟨1, y.asks, [], 0⟩] ++ G) := by rw [← List.append_assoc]; exact hG
                  exact List.append_cancel_left this
                subst hF
                rw [← List.append_assoc] at hm
                have hxn : getK x.known y.asks = none := by
                  cases hx : getK x.known y.asks with
                  | none => rfl
                  | some k' =>
                    have := (h.has y.asks).1 (by rw [hx]; rfl)
                    rw [w2, ha2] at this
                    simp at this
                have hA : Ahead O K (x.give k) (y.give k) := by
                  refine ⟨?_, fun e => (by cases e), h.seen, fun q => ?_, fun q j hj => ?_, fun q j hj => ?_, ?_, fun e => ?_⟩
                  · have := congrArg (fun z : PS => ({ z with known := x.known ++ [(x.asks, k)], asks := [], waits := false } : PS)) h.form
                    exact this
                  · show (getK (x.known ++ [(x.asks, k)]) q).isSome = true ↔ ((getK (y.known ++ [(y.asks, k)]) q).isSome = true ∨ _)
                    rw [ha1, getK_snoc w2, getK_snoc hxn]
                    split
                    · simp
                    · exact h.has q
                  · have hj' : getK (x.known ++ [(x.asks, k)]) q = Option.some j := hj
                    rw [ha1, getK_snoc hxn] at hj'
                    split at hj'
                    · rename_i e
                      cases hj'
                      rw [e]
                      exact hk
                    · exact h.ox q j hj'
                  · have hj' : getK (y.known ++ [(y.asks, k)]) q = Option.some j := hj
                    rw [getK_snoc w2] at hj'
                    split at hj'
                    · rename_i e
                      cases hj'
                      rw [e]
                      exact hk
                    · exact h.oy q j hj'
                  · show (x.known ++ [_]).length ≤ K.length + (y.known ++ [_]).length
                    have := h.len
                    simp only [List.length_append, List.length_singleton]
                    omega
                  · show (x.known ++ [_]).length = (y.known ++ [_]).length
                    have := h.zero e
                    simp only [List.length_append, List.length_singleton]
                    omega
                obtain ⟨n', X, g1, g2⟩ := ahead_run hO N n (by omega) _ _ (x.give k) (D ++ [⟨1, y.asks, [], 0⟩]) Y G ho2 hA hm hY hb
                refine ⟨n' + 1, X, ?_, g2⟩
                rw [mrun, e2, g1, List.filter_append, ← List.append_assoc]
                have : notK K ⟨1, y.asks, [], 0⟩ = true := by unfold notK; simp [ha2]
                simp [this]
            · -- a step
              have hwf : y.waits = false := by simpa using hw
              have hn : ¬ y.Still := by
                unfold PS.Still
                rw [not_or]
                exact ⟨by omega, hw⟩
              have hnx : ¬ x.Still := by
                unfold PS.Still
                rw [hov, hwt]
                exact hn
              have hs1 := mstep_goes (v := v) (O := O) (E := E) hn
              have hs2 := mstep_goes (v := v) (O := O) (E := D) hnx
              have ho2 := ho.mstep (v := v) (E := E) hO
              rw [hs1] at hm ho2
              cases ht : y.todo with
              | nil =>
                rw [step_nil hn ht] at hm ho2
                rw [step_nil hnx (htd.trans ht)] at hs2
                have hA : Ahead O K { x with over := ⟨3, [], [], 0⟩ } { y with over := ⟨3, [], [], 0⟩ } := h.same hwf (congrArg (fun z : PS => { z with over := ⟨3, [], [], 0⟩ }) h.form) rfl rfl rfl h.seen
                obtain ⟨n', X, g1, g2⟩ := ahead_run hO N n (by omega) _ _ _ D Y F ho2 hA hm hY hb
                exact ⟨n' + 1, X, by rw [mrun, hs2, g1], g2⟩
              | cons t r =>
                rw [step_cons hn ht] at hm ho2
                rw [step_cons hnx (htd.trans ht)] at hs2
                rcases h.task (v := v) hwf ho.pend ht (by omega) with hA | ⟨z, p, th, k, e1, e2, e3, e4, e5, e6, hA⟩ | ⟨hA1, hA2⟩
                · obtain ⟨n', X, g1, g2⟩ := ahead_run hO N n (by omega) _ _ _ D Y F ho2 hA hm hY hb
                  exact ⟨n' + 1, X, by rw [mrun, hs2, g1], g2⟩
                · -- the other one asks, is told, and goes on
                  have hord := ho2
                  rw [e1] at hm hord
                  have hwz := hord.waits rfl
                  have hz0 : z.over = DE.none := hwz.1
                  have m1 : mstep v O ({ z with asks := p, waits := true, todo := .ans p th :: z.todo }, E) = ({ z with known := z.known ++ [(p, k)], asks := [], waits := false, todo := .ans p th :: z.todo }, E ++ [⟨1, p, [], 0⟩]) := by
                    unfold mstep
                    simp only [hz0, DE.none]
                    rw [if_neg (by decide), if_neg (by decide), if_pos trivial, e4]
                    rfl
                  have hz5 : ({ z with known := z.known ++ [(p, k)], asks := [], waits := false, todo := .ans p th :: z.todo } : PS) = { z with known := z.known ++ [(p, k)], asks := [], todo := .ans p th :: z.todo } := by rw [← e5]
                  have hn3 : ¬ PS.Still { z with known := z.known ++ [(p, k)], asks := [], waits := false, todo := .ans p th :: z.todo } := by
                    unfold PS.Still
                    rw [not_or]
                    exact ⟨by rw [show (PS.over { z with known := z.known ++ [(p, k)], asks := [], waits := false, todo := .ans p th :: z.todo }) = z.over from rfl, hz0]; simp [DE.none], by simp⟩
                  have m2 : mstep v O ({ z with known := z.known ++ [(p, k)], asks := [], waits := false, todo := .ans p th :: z.todo }, E ++ [⟨1, p, [], 0⟩]) = (PS.then_ { z with known := z.known ++ [(p, k)], asks := [] } th k, E ++ [⟨1, p, [], 0⟩]) := by
                    rw [mstep_goes hn3, step_cons hn3 rfl]
                    unfold PS.task
                    simp only
                    have hg := getK_snoc e3 k p
                    rw [if_pos rfl] at hg
                    rw [hg]
                    have : ({ z with known := z.known ++ [(p, k)], asks := [], waits := false, todo := z.todo } : PS) = { z with known := z.known ++ [(p, k)], asks := [] } := by rw [← e5]
                    rw [this]
                    rfl
                  cases n with
                  | zero =>
                    rw [mrun] at hm
                    have q1 := congrArg (·.1) hm
                    simp only at q1
                    rw [← q1] at hY
                    rw [show (PS.over { z with asks := p, waits := true, todo := .ans p th :: z.todo }) = z.over from rfl, hz0] at hY
                    simp [DE.none] at hY
                  | succ n =>
                    rw [mrun_one, m1] at hm
                    have ho3 := hord.mstep (v := v) (O := O) (E := E) hO
                    rw [m1] at ho3
                    cases n with
                    | zero =>
                      rw [mrun] at hm
                      have q1 := congrArg (·.1) hm
                      simp only at q1
                      rw [← q1] at hY
                      rw [show (PS.over { z with known := z.known ++ [(p, k)], asks := [], waits := false, todo := .ans p th :: z.todo }) = z.over from rfl, hz0] at hY
                      simp [DE.none] at hY
                    | succ n =>
                      rw [mrun_one, m2] at hm
                      have ho4 := ho3.mstep (v := v) (O := O) (E := E ++ [⟨1, p, [], 0⟩]) hO
                      rw [m2] at ho4
                      obtain ⟨G, hG⟩ := mrun_prefix (v := v) (O := O) n (PS.then_ { z with known := z.known ++ [(p, k)], asks := [] } th k, E ++ [⟨1, p, [], 0⟩])
                      rw [hm] at hG
                      have hF : F = [⟨1, p, [], 0⟩] ++ G := by
                        have : E ++ F = E ++ ([⟨1, p, [], 0⟩] ++ G) := by rw [← List.append_assoc]; exact hG
                        exact List.append_cancel_left this
                      subst hF
                      rw [← List.append_assoc] at hm
                      obtain ⟨n', X, g1, g2⟩ := ahead_run hO N n (by omega) _ _ _ D Y G ho4 hA hm hY hb
                      refine ⟨n' + 1, X, ?_, g2⟩
                      rw [mrun, hs2, g1, List.filter_append]
                      have : notK K ⟨1, p, [], 0⟩ = false := by unfold notK; simp [e2]
                      simp [this]
                · -- no room: but it was given
                  exfalso
                  obtain ⟨s', hs'⟩ : ∃ s', s' = PS.task v { y with todo := r } t := ⟨_, rfl⟩
                  rw [← hs'] at hm hA1 hA2 ho2
                  have hwz := ho2.waits hA1
                  have hw0 : s'.over = DE.none := hwz.1
                  have hk0 : s'.over.kind = 0 := by rw [hw0]; rfl
                  cases n with
                  | zero =>
                    rw [mrun] at hm
                    have q1 : s' = Y := congrArg (·.1) hm
                    rw [← q1, hw0] at hY
                    simp [DE.none] at hY
                  | succ n =>
                    rw [mrun_one] at hm
                    cases hk : O s'.asks with
                    | none =>
                      have e1 : mstep v O (s', E) = (s', E) := by unfold mstep; simp [hk0, hA1, hk]
                      have hfix : ∀ m, mrun v O m (s', E) = (s', E) := by
                        intro m
                        induction m with
                        | zero => rfl
                        | succ m ih => rw [mrun, e1, ih]
                      rw [e1, hfix] at hm
                      have q1 : s' = Y := congrArg (·.1) hm
                      rw [← q1, hw0] at hY
                      simp [DE.none] at hY
                    | some k =>
                      have e1 : mstep v O (s', E) = (s'.give k, E ++ [⟨1, s'.asks, [], 0⟩]) := by
                        unfold mstep
                        rw [if_neg (by show ¬ s'.over.kind = 2; omega), if_neg (by show ¬ s'.over.kind ≠ 0; omega), if_pos hA1, hk]
                      rw [e1] at hm
                      have hk2 := known_more (v := v) (O := O) n (s'.give k) (E ++ [⟨1, s'.asks, [], 0⟩])
                      rw [hm] at hk2
                      have hk3 : (s'.known ++ [(s'.asks, k)]).length ≤ Y.known.length := hk2
                      rw [List.length_append, List.length_singleton] at hk3
                      omega
end Go.Proofs.YtnecjdhamohadaaGreatDoor
