/- The statements' own functions: what a tool's text does behind another one's. -/
import Derived.Test.YtnecjdhamohadaaGreatDoorMu
import Derived.Test.YtnecjdhamohadaaGreatDoorMTpQ
set_option linter.unusedSimpArgs false
set_option linter.unusedVariables false
namespace Go.Proofs.YtnecjdhamohadaaGreatDoor
open Go.RowKit Go.Maps Go.Shelf
set_option maxRecDepth 100000
theorem known_orc {v : Env} {O : TT → Option KE} (hO : ∀ p k, O p = some k → k.is = true → k.data.length ≤ 1000000) : ∀ (n : Nat) (s : PS) (E : List DE), Ord s → (∀ p k, getK s.known p = some k → O p = some k) → ∀ p k, getK (mrun v O n (s, E)).1.known p = some k → O p = some k
  | 0, _, _, _, h => h
  | n + 1, s, E, ho, h => by
    rw [mrun]
    have h1 : ∀ p k, getK (mstep v O (s, E)).1.known p = some k → O p = some k := by
      unfold mstep
      simp only
      split
      · exact h
      · split
        · exact h
        · split
          · rename_i hw
            split
            · rename_i k0 hk0
              intro p k hk
              have hk' : getK (s.known ++ [(s.asks, k0)]) p = some k := hk
              rw [getK_snoc (ho.waits hw).2.1] at hk'
              split at hk'
              · rename_i e
                cases hk'
                rw [e]
                exact hk0
              · exact h p k hk'
            · exact h
          · intro p k hk
            refine h p k ?_
            by_cases hs : s.Still
            · rw [PS.step_still hs] at hk
              exact hk
            · cases ht : s.todo with
              | nil => rw [step_nil hs ht] at hk; exact hk
              | cons t r => rw [step_cons hs ht, (grows_task { s with todo := r } v t).1] at hk; exact hk
    exact known_orc hO n (mstep v O (s, E)).1 (mstep v O (s, E)).2 (ho.mstep hO) h1
theorem read_form {v : Env} {O : TT → Option KE} : ∀ (n : Nat) (m : MS), (∀ d ∈ m.2, d.kind = 1 → d = ⟨1, d.path, [], 0⟩) → ∀ d ∈ (mrun v O n m).2, d.kind = 1 → d = ⟨1, d.path, [], 0⟩
  | 0, _, h => h
  | n + 1, m, h => by
    rw [mrun]
    refine read_form n _ ?_
    unfold mstep
    simp only
    split
    · rename_i h2
      intro d hd hk
      rcases List.mem_append.1 hd with hd | hd
      · exact h d hd hk
      · rw [List.mem_singleton] at hd
        subst hd
        omega
    · split
      · exact h
      · split
        · split
          · intro d hd hk
            rcases List.mem_append.1 hd with hd | hd
            · exact h d hd hk
            · rw [List.mem_singleton] at hd
              subst hd
              rfl
          · exact h
        · exact h
theorem wzz_cmd : cmdsOf mayB (linesT [119, 114, 105, 116, 101, 32, 122, 122, 10]) = [wzz] := by kernel_rfl
/-- all but what was read ahead -/
def keepD (X : List DE) (d : DE) : Bool := !(d.kind == 1 && X.any fun x => sameD x d)
theorem under_start (a b : List CmdE) : (PS.start a).under (b.map .cmd) = PS.start (a ++ b) := by
  unfold PS.under PS.start
  simp
theorem endsW_start (l : List CmdE) : EndsW (PS.start (l ++ [wzz])) := .inl ⟨l.map .cmd, by unfold PS.start; simp⟩
theorem parts_does {v : Env} {U : List KE} {a b : TT} {X Y : List DE} (h1 : Mild v U ((a ++ [10] ++ [119, 114, 105, 116, 101, 32, 122, 122]) ++ [10])) (h2 : Mild v U b)
    (hc : (checkT mayB (((a ++ [10] ++ [119, 114, 105, 116, 101, 32, 122, 122]) ++ [10]) ++ b)).1 = 0)
    (hX : DoesIs v U ((a ++ [10] ++ [119, 114, 105, 116, 101, 32, 122, 122]) ++ [10]) X) (hY : DoesIs v U b Y) (hr : (readsOf X).length + (readsOf Y).length ≤ 500) :
    ∃ E1 d, X = E1 ++ [d] ∧ ((d.kind = 4 ∧ DoesIs v U (((a ++ [10] ++ [119, 114, 105, 116, 101, 32, 122, 122]) ++ [10]) ++ b) X) ∨ (d.kind = 3 ∧ DoesIs v U (((a ++ [10] ++ [119, 114, 105, 116, 101, 32, 122, 122]) ++ [10]) ++ b) (E1 ++ Y.filter (keepD X)))) := by
  obtain ⟨k1, k2, k3⟩ := checkT_two hc
  obtain ⟨first, hf⟩ : ∃ first, first = (a ++ [10] ++ [119, 114, 105, 116, 101, 32, 122, 122]) ++ [10] := ⟨_, rfl⟩
  have hcz : cmdsOf mayB (linesT first) = cmdsOf mayB (linesT (a ++ [10])) ++ [wzz] := by
    have := linesT_two a [119, 114, 105, 116, 101, 32, 122, 122, 10]
    have e : first = (a ++ [10]) ++ [119, 114, 105, 116, 101, 32, 122, 122, 10] := by rw [hf]; simp
    rw [e, this, cmdsOf_append, wzz_cmd]
  rw [← hf] at h1 hc hX k1 k3 ⊢
  have hO := h1.orc
  rcases hX with ⟨e, _⟩ | ⟨_, n1, S1, E1, hm1, ho1, rfl⟩
  · exact absurd k1 e
  rcases hY with ⟨e, _⟩ | ⟨_, n2, S2, E2, hm2, ho2, rfl⟩
  · exact absurd k2 e
  refine ⟨E1, S1.over, rfl, ?_⟩
  have hi1 := h1.start k1
  have hi2 := h2.start k2
  obtain ⟨C1, hC1⟩ : ∃ C, C = cmdsOf mayB (linesT first) := ⟨_, rfl⟩
  obtain ⟨C2, hC2⟩ : ∃ C, C = cmdsOf mayB (linesT b) := ⟨_, rfl⟩
  rw [← hC1] at hcz k3 hm1 hi1
  rw [← hC2] at k3 hm2 hi2
  rcases ho1 with ho1 | ho1
  · -- it ends
    refine .inr ⟨ho1, ?_⟩
    obtain ⟨k, S0, g1, g2, g3, g4, g5, g6⟩ := under_ends (v := v) (O := orc U) (C2.map .cmd) n1 (PS.start C1) [] S1 E1 hm1 ho1 (by simp [PS.start, DE.none])
    rw [under_start] at g6
    have hw0 := EndsW.mrun (v := v) (O := orc U) k (m := (PS.start C1, [])) (by rw [hcz]; exact endsW_start _)
    rw [g5] at hw0
    have hb0 : S0.buf = [] := by
      rcases hw0 with ⟨l, e⟩ | ⟨_, e⟩
      · rw [g4] at e
        cases l <;> cases e
      · exact e
    have hord0 := Ord.mrun (v := v) hO k (m := (PS.start C1, [])) hi1.ord
    rw [g5] at hord0
    have hko := known_orc (v := v) hO k (PS.start C1) [] hi1.ord (fun p k hk => by cases hk)
    rw [g5] at hko
    have hev := Ev.on_run (v := v) hO k (m := (PS.start C1, [])) (ev_start _) hi1.ord
    rw [g5] at hev
    have hev2 := Ev.on_run (v := v) hO n2 (m := (PS.start C2, [])) (ev_start _) hi2.ord
    rw [hm2] at hev2
    have hov0 : S0.over = DE.none := over_zero hord0.over g2
    have hA : Ahead (orc U) S0.known (S0.under (C2.map .cmd)) (PS.start C2) := by
      refine ⟨?_, fun e => (by cases e), .inr fun t ht => ?_, fun p => ?_, hko, fun p k hk => (by cases hk), ?_, fun e => e⟩
      · unfold PS.under PS.with3 PS.start
        simp only
        rw [g4, hb0, g3, hov0]
        rfl
      · obtain ⟨c, _, rfl⟩ := List.mem_map.1 ht
        rfl
      · show (getK S0.known p).isSome = true ↔ ((getK [] p).isSome = true ∨ _)
        simp [getK]
      · show S0.known.length ≤ S0.known.length + 0
        exact Nat.le_refl _
    have hlen1 : (readsOf (E1 ++ [S1.over])).length = S0.known.length := by
      rw [readsOf_snoc (by omega), hev.reads, List.length_map]
    have hlen2 : (readsOf (E2 ++ [S2.over])).length = S2.known.length := by
      rw [readsOf_snoc (by rcases ho2 with h | h <;> omega), hev2.reads, List.length_map]
    obtain ⟨n', Xs, q1, q2⟩ := ahead_run hO n2 n2 (Nat.le_refl _) (PS.start C2) [] (S0.under (C2.map .cmd)) E1 S2 E2 hi2.ord hA (by rw [List.nil_append]; exact hm2) ho2 (by omega)
    refine .inr ⟨hc, k + n', Xs, E1 ++ E2.filter (notK S0.known), ?_, by rw [q2]; exact ho2, ?_⟩
    · rw [k3, mrun_add, g6]
      exact q1
    · rw [q2, List.filter_append, List.append_assoc]
      have hfm := read_form (v := v) (O := orc U) n2 (PS.start C2, []) (fun d hd => by cases hd)
      rw [hm2] at hfm
      have hfm1 := read_form (v := v) (O := orc U) k (PS.start C1, []) (fun d hd => by cases hd)
      rw [g5] at hfm1
      have e1 : E2.filter (keepD (E1 ++ [S1.over])) = E2.filter (notK S0.known) := by
        apply List.filter_congr
        intro d hd
        unfold keepD notK
        by_cases hk : d.kind = 1
        · rw [hk]
          have e3 : ((E1 ++ [S1.over]).any fun x => sameD x d) = (getK S0.known d.path).isSome := by
            rw [Bool.eq_iff_iff, List.any_eq_true, getK_iff, ← hev.reads]
            constructor
            · rintro ⟨x, hx, hs⟩
              rw [sameD_iff] at hs
              subst hs
              rcases List.mem_append.1 hx with hx | hx
              · unfold readsOf
                exact List.mem_map.2 ⟨x, List.mem_filter.2 ⟨hx, by rw [hk]; rfl⟩, rfl⟩
              · rw [List.mem_singleton] at hx
                rw [hx] at hk
                omega
            · intro hp
              obtain ⟨x, hx, hxp⟩ := List.mem_map.1 hp
              obtain ⟨hx1, hx2⟩ := List.mem_filter.1 hx
              have hx2' : x.kind = 1 := by simpa using hx2
              refine ⟨x, List.mem_append_left _ hx1, sameD_iff.2 ?_⟩
              have f1 := hfm1 x hx1 hx2'
              have f2 := hfm d hd hk
              rw [f1, f2, hxp]
          rw [e3]
        · have : (d.kind == 1) = false := by simpa using hk
          rw [this]
          rfl
      have e2 : [S2.over].filter (keepD (E1 ++ [S1.over])) = [S2.over] := by
        have : keepD (E1 ++ [S1.over]) S2.over = true := by
          unfold keepD
          rcases ho2 with h | h <;> rw [h] <;> rfl
        simp [this]
      rw [e1, e2]
  · -- it fails
    refine .inl ⟨ho1, ?_⟩
    have := under_fails (v := v) (O := orc U) (C2.map .cmd) n1 (PS.start C1) [] S1 E1 hm1 ho1
    rw [under_start] at this
    exact .inr ⟨hc, n1, S1.under (C2.map .cmd), E1, by rw [k3]; exact this, .inr ho1, rfl⟩
end Go.Proofs.YtnecjdhamohadaaGreatDoor
