/- A range over a function whose iterator keeps state of its own in a cell: a law of the walk. -/
import Derived.Test.YtdhmebilloefjaaDoorMem2
import Derived.RangeFuncNested
import Derived.RangeFuncBound
import Derived.RangeFuncCalls
import Derived.RangeFuncLeaves
import Derived.Shelf.Abstract
import Derived.Shelf.RegionOpen
import Derived.OwnWalkIn
import Derived.TacticsInMore
import Derived.LoopNIn
import Derived.LoopIn
namespace Go.Proofs.YtdhmebilloefjaaDoor
open Go.RowKit
variable {F : Fence} {n : Nat} {P : Program}

/-- how a round's body may be left: B is where the law's own two blocks lie -/
def roundC {α : Type} (B : Nat) (Kp : World → World → Prop) (I : List α → World → Prop) (Ix : Code → List α → World → Prop) (xs : List α) (W : World) : Exit → Act → World → Prop
  | .normal, _, W' => (W'.heap[B]? = W.heap[B]? ∧ W'.heap[B + 1]? = W.heap[B + 1]?) ∧ Kp W W' ∧ I xs W'
  | .ret, _, W' => (W'.heap[B]? = W.heap[B]? ∧ W'.heap[B + 1]? = W.heap[B + 1]?) ∧ Ix .ret xs W'
  | .exit id, _, W' => (W'.heap[B]? = W.heap[B]? ∧ W'.heap[B + 1]? = W.heap[B + 1]?) ∧ Ix (.exit id) xs W'
  | .goto t, _, W' => (W'.heap[B]? = W.heap[B]? ∧ W'.heap[B + 1]? = W.heap[B + 1]?) ∧ Ix (.goto t) xs W'
  | .panic _, _, _ => False
  | .outgrown, _, _ => False

/-- K: a step of the iterator's own; Kp: what a round that goes on keeps for the iterator -/
theorem wpIn_rangeFunc_c {α : Type} {g : Operand} {ps : Array Tmp} {assign body : Code} {Q : Exit → Act → World → Prop} {a : Act} {w : World}
    (hro : F.round = none) (h1 : 1 ≤ n) {gf : Nat} {lb : Array Value} (hg : a.eval g = .func (.func gf) #[] lb) (hFg : F.fn gf) (eg : ∀ args w, (callFunc gf args).run P w = .ok (.enter gf args) w)
    (enc : α → Value) (hps : ps.size = 1) (K Kp : World → World → Prop) (S Sp : List α → Prop)
    (hcall : ∀ (l : Nat) (J Jx : List α → World → Prop) (W : World), Below w.heap.size w W → (∀ s W1 W2, J s W1 → K W1 W2 → J s W2) →
      (∀ pre x W1, J pre W1 → YieldAt F (n - 1 - 1) P l #[enc x] W1 fun e W' => (e = .returned (.bool true) ∧ J (pre ++ [x]) W' ∧ Kp W1 W') ∨ (e = .returned (.bool false) ∧ Jx (pre ++ [x]) W')) →
      J [] W → CallsIn F (n - 1) P gf (#[.func (.yield l) #[] #[]] ++ lb) W fun e W' => (∃ v, e = .returned v) ∧ ((∃ xs, S xs ∧ J xs W') ∨ (∃ pre, Sp pre ∧ Jx pre W')))
    (hKk : ∀ W1 W2 k, K W1 W2 → w.heap.size ≤ k → W2.heap[k]? = W1.heap[k]?) (hKt : ∀ A B C, Kp A B → Kp B C → Kp A C) (hKb : ∀ W k o, w.heap.size ≤ k → Kp W (W.putObj k o))
    (I : List α → World → Prop) (Ix : Code → List α → World → Prop) (hIK : ∀ pre W1 W2, I pre W1 → K W1 W2 → I pre W2)
    (hI : ∀ pre W k o, I pre W → w.heap.size ≤ k → k < w.heap.size + 2 → I pre (W.putObj k o)) (hIx : ∀ c pre W k o, Ix c pre W → w.heap.size ≤ k → k < w.heap.size + 2 → Ix c pre (W.putObj k o))
    (h0 : ∀ o1 o2, I [] ((w.alloc o1).alloc o2)) (a₁ : α → Act)
    (hassign : ∀ (l : Nat) (x : α) (W : World) (K : Act → World → Prop), K (a₁ x) W →
      assign.wpIn (F.inRound l) (n - 1 - 1) P (Exit.then K (fun _ _ _ => False)) { tmps := (ps.zip #[enc x]).foldl (fun t (p, v) => t.setIfInBounds p v) a.tmps, defers := [] } W)
    (hbody : ∀ (l : Nat) (pre : List α) (x : α) (W : World), I pre W → body.wpIn (F.inRound l) (n - 1 - 1) P (roundC w.heap.size Kp I Ix (pre ++ [x]) W) (a₁ x) W)
    (hdone : ∀ (xs : List α) (W : World), S xs → I xs W → W.heap[w.heap.size]? = some (.deferred (some [])) → Q .normal { a with defers := { target := .collected w.heap.size, args := #[] } :: a.defers } W)
    (hstop : ∀ (c : Code) (pre : List α) (W : World), Sp pre → Ix c pre W → W.heap[w.heap.size]? = some (.deferred (some [])) → c.wpIn F n P Q { a with defers := { target := .collected w.heap.size, args := #[] } :: a.defers } W) :
    (Code.rangeFunc g ps assign body).wpIn F n P Q a w := by
  refine wpIn_rangeFunc ?_
  intro fn hfn
  rw [hro]
  obtain ⟨D, hD⟩ : ∃ D, D = w.heap.size := ⟨_, rfl⟩
  obtain ⟨rec, hrec⟩ : ∃ rec : LoopState → Option Code → Loop, rec = fun st pe => { state := st, pending := pe, fn, tmps := a.tmps, params := ps, assign, body, defers := w.heap.size } := ⟨_, rfl⟩
  -- the law's own two blocks
  let Bk : LoopState → Option Code → World → Prop := fun st pe W => W.heap[D + 1]? = some (.loop (rec st pe)) ∧ W.heap[D]? = some (.deferred (some []))
  obtain ⟨W1, hW1⟩ : ∃ W1, (w.alloc (.deferred (some []))).alloc (.loop (rec .ready none)) = W1 := ⟨_, rfl⟩
  have hB1 : Bk .ready none W1 := by
    rw [← hW1]
    refine ⟨?_, ?_⟩
    · have := World.alloc_heap_new (w.alloc (.deferred (some []))) (.loop (rec .ready none))
      rwa [World.size_alloc, ← hD] at this
    · rw [hD]; exact (Below.heap_alloc _ _ _ (by simp)).trans (World.alloc_heap_new w _)
  have hb1 : Below w.heap.size w W1 := by
    rw [← hW1]; exact ((Below.refl _ w).alloc (Nat.le_refl _) _).alloc (by simp) _
  have hI1 : I [] W1 := by rw [← hW1]; exact h0 _ _
  -- the record is turned, the other block stays
  have turn : ∀ {st pe W} (st' pe'), Bk st pe W → Bk st' pe' (W.putObj (D + 1) (.loop (rec st' pe'))) := fun st' pe' h =>
    ⟨World.putObj_heap_same (Array.getElem?_eq_some_iff.1 h.1).1, (World.putObj_heap_other (by omega)).trans h.2⟩
  have keep : ∀ {st pe W W'}, Bk st pe W → (W'.heap[D]? = W.heap[D]? ∧ W'.heap[D + 1]? = W.heap[D + 1]?) → Bk st pe W' := fun h k => ⟨k.2.trans h.1, k.1.trans h.2⟩
  refine ⟨w.heap.size + 1, [{ target := .collected w.heap.size, args := #[] }], W1, { target := .fn (.func gf) lb, args := #[.func (.yield (w.heap.size + 1)) #[] #[]] }, W1, gf,
    #[.func (.yield (w.heap.size + 1)) #[] #[]] ++ lb, W1, ?_, ?_, ?_, ?_, fun _ => h1, ?_⟩
  · rw [← hW1, hrec]; exact run_enterLoop_outer _ _ _ _ _
  · simp only [resolve, hg]
    simp [go_sem]
  · intro f' hf'; simp [Target.leads] at hf'; subst hf'; exact hFg
  · simp [invoke, go_sem, eg]
  rw [← hD] at hI hIx hKk hKb hbody hdone hstop ⊢
  refine (hcall (D + 1) (fun pre W => I pre W ∧ Bk .ready none W) (fun pre W => ∃ c, Ix c pre W ∧ Bk .done (some c) W) W1 hb1 ?_ ?_ ⟨hI1, hB1⟩).mono ?_
  · rintro s A C ⟨hi, hl, hk⟩ hK
    exact ⟨hIK _ _ _ hi hK, (hKk _ _ _ hK (by omega)).trans hl, (hKk _ _ _ hK (by omega)).trans hk⟩
  · -- one round
    rintro pre x W ⟨hi, hl, hk⟩
    have hy := run_yield (P := P) (args := #[enc x]) hl (by rw [hrec]; exact hps.symm)
    rw [hrec] at hy
    refine ⟨fn, _, assign, body, hy, roundIn_of_wpIn hfn (hassign _ x W _ ⟨_, run_beginRound hl (by rw [hrec]), ?_⟩)⟩
    have hbusy : Bk .busy none (W.putObj (D + 1) (.loop (rec .busy none))) := turn .busy none ⟨hl, hk⟩
    rw [show ({ rec .ready none with state := .busy } : Loop) = rec .busy none by rw [hrec]]
    refine wpIn_mono (hbody _ pre x _ (hI _ _ _ _ hi (by omega) (by omega))) ?_
    have fin : ∀ (jump : Option Code) (W3 : World), (W3.heap[D]? = (W.putObj (D + 1) (.loop (rec .busy none))).heap[D]? ∧ W3.heap[D + 1]? = (W.putObj (D + 1) (.loop (rec .busy none))).heap[D + 1]?) →
        (Instr.endRound (D + 1) jump).run P W3 = .ok (.bool jump.isNone) (W3.putObj (D + 1) (.loop (rec (if jump.isNone then .ready else .done) jump))) ∧ Bk (if jump.isNone then .ready else .done) jump (W3.putObj (D + 1) (.loop (rec (if jump.isNone then .ready else .done) jump))) := by
      intro jump W3 hk3
      have h3 := keep hbusy hk3
      have := run_endRound (P := P) jump h3.1
      rw [show ({ rec .busy none with state := if jump.isNone then .ready else .done, pending := jump } : Loop) = rec (if jump.isNone then .ready else .done) jump by rw [hrec]] at this
      exact ⟨this, turn _ _ h3⟩
    rintro e a3 W3 hp
    cases e with
    | normal =>
      obtain ⟨hk3, hkp3, hi3⟩ := hp
      obtain ⟨hr, hB⟩ := fin none W3 hk3
      exact ⟨_, _, hr, .inl ⟨rfl, ⟨hI _ _ _ _ hi3 (by omega) (by omega), hB⟩, hKt _ _ _ (hKt _ _ _ (hKb _ _ _ (by omega)) hkp3) (hKb _ _ _ (by omega))⟩⟩
    | ret =>
      obtain ⟨hk3, hi3⟩ := hp
      obtain ⟨hr, hB⟩ := fin (some .ret) W3 hk3
      exact ⟨_, _, hr, .inr ⟨rfl, .ret, hIx _ _ _ _ _ hi3 (by omega) (by omega), hB⟩⟩
    | exit id =>
      obtain ⟨hk3, hi3⟩ := hp
      obtain ⟨hr, hB⟩ := fin (some (.exit id)) W3 hk3
      exact ⟨_, _, hr, .inr ⟨rfl, .exit id, hIx _ _ _ _ _ hi3 (by omega) (by omega), hB⟩⟩
    | goto t =>
      obtain ⟨hk3, hi3⟩ := hp
      obtain ⟨hr, hB⟩ := fin (some (.goto t)) W3 hk3
      exact ⟨_, _, hr, .inr ⟨rfl, .goto t, hIx _ _ _ _ _ hi3 (by omega) (by omega), hB⟩⟩
    | panic ch => exact hp.elim
    | outgrown => exact hp.elim
  · -- behind the iterator
    rintro e W2 ⟨⟨v, rfl⟩, (⟨xs, hS, hi, hl, hk⟩ | ⟨pre, hSp, c, hi, hl, hk⟩)⟩
    · exact ⟨none, _, by have := run_endLoop (P := P) hl (by rw [hrec]; simp); rw [hrec] at this; exact this, hdone xs _ hS (hI _ _ _ _ hi (by omega) (by omega)) ((World.putObj_heap_other (by omega)).trans hk)⟩
    · exact ⟨some c, _, by have := run_endLoop (P := P) hl (by rw [hrec]; simp); rw [hrec] at this; exact this, hstop c pre _ hSp (hIx _ _ _ _ _ hi (by omega) (by omega)) ((World.putObj_heap_other (by omega)).trans hk)⟩
end Go.Proofs.YtdhmebilloefjaaDoor
