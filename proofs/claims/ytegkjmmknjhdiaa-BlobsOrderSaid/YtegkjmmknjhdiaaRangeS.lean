/- A range over a function whose iterator keeps SeqGives' word, in rounds that all go on: a law of the walk. -/
import Derived.Test.YtegkjmmknjhdiaaMem2
import Derived.RangeFuncNested
import Derived.RangeFuncBound
import Derived.RangeFuncCalls
import Derived.RangeFuncLeaves
import Derived.RangeFuncSeq
import Derived.RangeFuncGives
import Derived.Shelf.Abstract
import Derived.OwnWalkIn
import Derived.TacticsInMore
import Derived.LoopNIn
import Derived.LoopIn
namespace Go.Proofs.Ytegkjmmknjhdiaa
open Go.RowKit
variable {F : Fence} {n : Nat} {P : Program}

/-- how a round's body may be left: on it goes -/
def roundS {α : Type} (B : Nat) (I : List α → World → Prop) (xs : List α) (W : World) : Exit → Act → World → Prop
  | .normal, _, W' => (W'.heap[B]? = W.heap[B]? ∧ W'.heap[B + 1]? = W.heap[B + 1]?) ∧ KeepsWalks W W' ∧ I xs W'
  | _, _, _ => False
def assignS (B : Nat) (J : Act → World → Prop) (W : World) : Exit → Act → World → Prop
  | .normal, a, W' => (W'.heap[B]? = W.heap[B]? ∧ W'.heap[B + 1]? = W.heap[B + 1]?) ∧ KeepsWalks W W' ∧ J a W'
  | _, _, _ => False

theorem wpIn_rangeFunc_s {α : Type} {g : Operand} {ps : Array Tmp} {assign body : Code} {Q : Exit → Act → World → Prop} {a : Act} {w : World}
    (hro : F.round = none) (h1 : 1 ≤ n) {gf : Nat} {lb : Array Value} (hg : a.eval g = .func (.func gf) #[] lb) (hFg : F.fn gf) (eg : ∀ args w, (callFunc gf args).run P w = .ok (.enter gf args) w)
    (enc : α → Value) (hps : ps.size = 1) (S : List α → Prop) (N : Nat) (hseq : SeqGives F (n - 1) P gf lb enc S N w)
    (I : List α → World → Prop) (hab : AbidesFrom (w.heap.size + 2) I)
    (hI : ∀ pre W k o, I pre W → w.heap.size ≤ k → k < w.heap.size + 2 → I pre (W.putObj k o))
    (h0 : ∀ o1 o2, I [] ((w.alloc o1).alloc o2))
    (I1 : List α → α → Act → World → Prop)
    (hI1 : ∀ pre x a W k o, I1 pre x a W → w.heap.size ≤ k → k < w.heap.size + 2 → I1 pre x a (W.putObj k o))
    (hassign : ∀ (l : Nat) (pre : List α) (x : α) (W : World), I pre W → w.heap.size + 2 ≤ W.heap.size → pre.length < N →
      assign.wpIn (F.inRound l) (n - 1 - 1) P (assignS w.heap.size (I1 pre x) W) { tmps := (ps.zip #[enc x]).foldl (fun t (p, v) => t.setIfInBounds p v) a.tmps, defers := [] } W)
    (hbody : ∀ (l : Nat) (pre : List α) (x : α) (a1 : Act) (W : World), I1 pre x a1 W → w.heap.size + 2 ≤ W.heap.size → pre.length < N → body.wpIn (F.inRound l) (n - 1 - 1) P (roundS w.heap.size I (pre ++ [x]) W) a1 W)
    (hdone : ∀ (xs : List α) (W : World), S xs → I xs W → W.heap[w.heap.size]? = some (.deferred (some [])) → Q .normal { a with defers := { target := .collected w.heap.size, args := #[] } :: a.defers } W) :
    (Code.rangeFunc g ps assign body).wpIn F n P Q a w := by
  refine wpIn_rangeFunc ?_
  intro fn hfn
  rw [hro]
  obtain ⟨D, hD⟩ : ∃ D, D = w.heap.size := ⟨_, rfl⟩
  obtain ⟨rec, hrec⟩ : ∃ rec : LoopState → Option Code → Loop, rec = fun st pe => { state := st, pending := pe, fn, tmps := a.tmps, params := ps, assign, body, defers := w.heap.size } := ⟨_, rfl⟩
  let Bk : LoopState → Option Code → World → Prop := fun st pe W => W.heap[D + 1]? = some (.loop (rec st pe)) ∧ W.heap[D]? = some (.deferred (some []))
  obtain ⟨W1, hW1⟩ : ∃ W1, (w.alloc (.deferred (some []))).alloc (.loop (rec .ready none)) = W1 := ⟨_, rfl⟩
  have hB1 : Bk .ready none W1 := by
    rw [← hW1]
    refine ⟨?_, ?_⟩
    · have := World.alloc_heap_new (w.alloc (.deferred (some []))) (.loop (rec .ready none))
      rwa [World.size_alloc, ← hD] at this
    · rw [hD]; exact (Below.heap_alloc _ _ _ (by simp)).trans (World.alloc_heap_new w _)
  have hb1 : Below w.heap.size w W1 := by
    rw [← hW1]; exact ((Below.refl _ w).alloc (Nat.le_refl _) _).alloc (by simp) _
  have hI1' : I [] W1 := by rw [← hW1]; exact h0 _ _
  have hs1 : W1.heap.size = w.heap.size + 2 := by rw [← hW1]; simp
  have turn : ∀ {st pe W} (st' pe'), Bk st pe W → Bk st' pe' (W.putObj (D + 1) (.loop (rec st' pe'))) := fun st' pe' h =>
    ⟨World.putObj_heap_same (Array.getElem?_eq_some_iff.1 h.1).1, (World.putObj_heap_other (by omega)).trans h.2⟩
  have keep : ∀ {st pe W W'}, Bk st pe W → (W'.heap[D]? = W.heap[D]? ∧ W'.heap[D + 1]? = W.heap[D + 1]?) → Bk st pe W' := fun h k => ⟨k.2.trans h.1, k.1.trans h.2⟩
  refine ⟨w.heap.size + 1, [{ target := .collected w.heap.size, args := #[] }], W1, { target := .fn (.func gf) lb, args := #[.func (.yield (w.heap.size + 1)) #[] #[]] }, W1, gf,
    #[.func (.yield (w.heap.size + 1)) #[] #[]] ++ lb, W1, ?_, ?_, ?_, ?_, fun _ => h1, ?_⟩
  · rw [← hW1, hrec]; exact run_enterLoop_outer _ _ _ _ _
  · simp only [resolve, hg]
    simp [go_sem]
  · intro f' hf'; simp [Target.leads] at hf'; subst hf'; exact hFg
  · simp [invoke, go_sem, eg]
  rw [← hD] at hI hI1 hab hs1 hassign hbody hdone ⊢
  refine (hseq (D + 1) (fun pre W => I pre W ∧ Bk .ready none W ∧ D + 2 ≤ W.heap.size) W1 hb1 ?_ ?_ ⟨hI1', hB1, by omega⟩).mono ?_
  · rintro s A C row ⟨hi, ⟨hl, hk⟩, hsz⟩ hg hrow
    have hrow' : ∀ r, row = some r → D + 2 ≤ r := fun r e => by have := (hrow r e).1; omega
    have ne1 : some (D + 1) ≠ row := fun e => by have := hrow' _ e.symm; omega
    have ne0 : some D ≠ row := fun e => by have := hrow' _ e.symm; omega
    refine ⟨hab s A C row hi hg (fun r e => ⟨hrow' r e, (hrow r e).2⟩), ⟨(hg.block _ (by omega) ne1).trans hl, (hg.block _ (by omega) ne0).trans hk⟩, ?_⟩
    exact Nat.le_trans hsz hg.size
  · rintro pre x W ⟨hi, ⟨hl, hk⟩, hsz⟩ hN
    have hy := run_yield (P := P) (args := #[enc x]) hl (by rw [hrec]; exact hps.symm)
    rw [hrec] at hy
    refine ⟨fn, _, assign, body, hy, roundIn_of_wpIn hfn (wpIn_mono (hassign _ pre x W hi hsz hN) ?_)⟩
    rintro e a1 W2 hp
    cases e with
    | normal =>
      obtain ⟨hk2, hw2, hj2⟩ := hp
      have hB2 : Bk .ready none W2 := keep ⟨hl, hk⟩ hk2
      refine ⟨_, run_beginRound hB2.1 (by rw [hrec]), ?_⟩
      rw [show ({ rec .ready none with state := .busy } : Loop) = rec .busy none by rw [hrec]]
      have hbusy : Bk .busy none (W2.putObj (D + 1) (.loop (rec .busy none))) := turn .busy none hB2
      have hs2 : D + 2 ≤ (W2.putObj (D + 1) (.loop (rec .busy none))).heap.size := by
        have := hw2.size
        simp; omega
      refine wpIn_mono (hbody _ pre x a1 _ (hI1 _ _ _ _ _ _ hj2 (by omega) (by omega)) hs2 hN) ?_
      rintro e a3 W3 hp3
      cases e with
      | normal =>
        obtain ⟨hk3, hw3, hi3⟩ := hp3
        have h3 := keep hbusy hk3
        have hr := run_endRound (P := P) none h3.1
        rw [show ({ rec .busy none with state := if (none : Option Code).isNone then .ready else .done, pending := none } : Loop) = rec (if (none : Option Code).isNone then .ready else .done) none by rw [hrec]] at hr
        refine ⟨_, _, hr, rfl, ⟨hI _ _ _ _ hi3 (by omega) (by omega), turn _ _ h3, ?_⟩, ?_⟩
        · have h6 := Nat.le_trans hs2 hw3.size
          simpa using h6
        · exact ((hw2.trans (KeepsWalks.putObj _ hB2.1 rfl)).trans hw3).trans (KeepsWalks.putObj _ h3.1 rfl)
      | _ => exact hp3.elim
    | _ => exact hp.elim
  · rintro e W2 ⟨⟨v, rfl⟩, xs, hS, hi, ⟨hl, hk⟩, _⟩
    exact ⟨none, _, by have := run_endLoop (P := P) hl (by rw [hrec]; simp); rw [hrec] at this; exact this, hdone xs _ hS (hI _ _ _ _ hi (by omega) (by omega)) ((World.putObj_heap_other (by omega)).trans hk)⟩
end Go.Proofs.Ytegkjmmknjhdiaa
