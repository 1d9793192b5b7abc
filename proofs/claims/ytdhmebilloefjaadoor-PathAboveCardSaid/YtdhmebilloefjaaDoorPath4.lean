/- The walk of May. -/
import Derived.Test.YtdhmebilloefjaaDoorPath3
namespace Go.Proofs.YtdhmebilloefjaaDoor
open Go.RowKit
attribute [local go_sem] Oper.semAt_some
/-- between two rounds -/
def MayI (H : Nat) (w : World) (pre : List (List UInt8)) (W : World) : Prop :=
  W.heap[H]? = some (.cells #[.bool false] 4 (0, 0)) ∧ W.heap[H + 1]? = some (.cells #[.int .i64 pre.length] 3 (0, 0)) ∧ Below H w W ∧ H + 5 + 2 ≤ W.heap.size ∧ pre.all partB = true ∧ pre.length ≤ 16
/-- a round has left -/
def MayX (H : Nat) (w : World) (c : Code) (pre : List (List UInt8)) (W : World) : Prop :=
  c = .ret ∧ W.heap[H]? = some (.cells #[.bool false] 4 (0, 0)) ∧ Below H w W ∧ (pre.all partB && decide (pre.length ≤ 16)) = false
theorem mayB_prefix {pre ps : List (List UInt8)} (h : pre <+: ps) (hx : (pre.all partB && decide (pre.length ≤ 16)) = false) : (ps.all partB && decide (ps.length ≤ 16)) = false := by
  obtain ⟨t, rfl⟩ := h
  rw [List.all_append, List.length_append]
  simp only [Bool.and_eq_false_iff, decide_eq_false_iff_not] at hx ⊢
  rcases hx with h | h
  · exact .inl (.inl h)
  · exact .inr (by omega)
theorem may_round {H : Nat} {w W w1 : World} {pre : List (List UInt8)} {v : Value} (i : MayI H w pre W) (hH : H ≤ w.heap.size) (hb : Below (W.setCell ⟨H + 1, 0, none⟩ v).heap.size (W.setCell ⟨H + 1, 0, none⟩ v) w1) :
    w1.heap[H]? = some (.cells #[.bool false] 4 (0, 0)) ∧ w1.heap[H + 1]? = some (.cells #[v] 3 (0, 0)) ∧ Below H w w1 ∧ H + 5 + 2 ≤ w1.heap.size ∧ ∀ k, k ≠ H + 1 → k < H + 5 + 2 → w1.heap[k]? = W.heap[k]? := by
  obtain ⟨i0, i1, ib, iz, _, _⟩ := i
  rw [World.size_setCell] at hb
  have hz := hb.size
  rw [World.size_setCell] at hz
  refine ⟨(hb.block _ (by omega)).trans ((setCell_other v (by omega)).trans i0), (hb.block _ (by omega)).trans (setCell_row i1), ?_, by omega, fun k hk hlt => (hb.block _ (by omega)).trans (setCell_other v hk)⟩
  exact (ib.setCell (p := ⟨H + 1, 0, none⟩) (by show H ≤ H + 1; omega) v).trans (hb.mono (by omega))
set_option maxHeartbeats 1000000 in
set_option maxRecDepth 100000 in
theorem may_any (w : World) (s : ByteArray) (hs : s.size ≤ 1000000) : Calls Tryd.prog 9 #[.string s] w fun e w' => e = .returned (.bool (mayB s.data.toList)) ∧ Below w.heap.size w w' := by
  refine (callsIn_wide (n := 5)).1 ?_
  refine callsIn_of_wp_marks Tryd.func9 rfl trivial ?_ rfl
  simp only [Tryd.ntmps9, List.size_toArray, List.length_cons, List.length_nil, Nat.reduceAdd, Nat.reduceSub, Array.replicate_succ, Array.replicate_zero, List.push_toArray, List.append_toArray, List.nil_append, List.cons_append]
  have hf := wide_fn 22
  gi_wp2_with (gi_at_call 22; refine (callsIn_wide.2 (splitseq_any _ _)).mono ?_; rintro e w' ⟨rfl, rfl⟩)
  obtain ⟨H, hH⟩ : ∃ H, H = w.heap.size := ⟨_, rfl⟩
  obtain ⟨W0, hW0⟩ : ∃ W0, W0 = splitW ((w.alloc (.cells #[.bool false] 4)).alloc (.cells #[.int .i64 0] 3)) s := ⟨_, rfl⟩
  have z0 : W0.heap.size = H + 5 := by rw [hW0, hH]; simp [splitW]
  have b0 : Below H w W0 := by
    rw [hW0, hH, splitW]
    exact (((((Below.refl _ _).alloc (Nat.le_refl _) _).alloc (by simp) _).alloc (by simp <;> omega) _).alloc (by simp <;> omega) _).alloc (by simp <;> omega) _
  have r0 : W0.heap[H]? = some (.cells #[.bool false] 4 (0, 0)) := by
    rw [hW0, hH, splitW, Below.heap_alloc _ _ _ (by simp <;> omega), Below.heap_alloc _ _ _ (by simp <;> omega), Below.heap_alloc _ _ _ (by simp <;> omega), Below.heap_alloc _ _ _ (by simp)]
    exact heap_alloc_new w _
  have r1 : W0.heap[H + 1]? = some (.cells #[.int .i64 0] 3 (0, 0)) := by
    rw [hW0, hH, splitW, Below.heap_alloc _ _ _ (by simp <;> omega), Below.heap_alloc _ _ _ (by simp <;> omega), Below.heap_alloc _ _ _ (by simp)]
    have := heap_alloc_new (w.alloc (.cells #[.bool false] 4)) (.cells #[.int .i64 0] 3)
    rwa [World.size_alloc] at this
  have r2 : W0.heap[H + 1 + 1]? = some (.cells #[.string s] 9 (0, 0)) := by
    rw [hW0, hH, splitW, Below.heap_alloc _ _ _ (by simp <;> omega), Below.heap_alloc _ _ _ (by simp)]
    have := heap_alloc_new ((w.alloc (.cells #[.bool false] 4)).alloc (.cells #[.int .i64 0] 3)) (.cells #[.string s] 9)
    rwa [World.size_alloc, World.size_alloc] at this
  have r3 : W0.heap[H + 1 + 1 + 1]? = some (.cells #[.string ⟨#[47]⟩] 9 (0, 0)) := by
    rw [hW0, hH, splitW, Below.heap_alloc _ _ _ (by simp)]
    have := heap_alloc_new (((w.alloc (.cells #[.bool false] 4)).alloc (.cells #[.int .i64 0] 3)).alloc (.cells #[.string s] 9)) (.cells #[.string ⟨#[47]⟩] 9)
    rwa [World.size_alloc, World.size_alloc, World.size_alloc] at this
  have r4 : W0.heap[H + 1 + 1 + 1 + 1]? = some (.cells #[.int .i64 0] 3 (0, 0)) := by
    rw [hW0, hH, splitW]
    have := heap_alloc_new ((((w.alloc (.cells #[.bool false] 4)).alloc (.cells #[.int .i64 0] 3)).alloc (.cells #[.string s] 9)).alloc (.cells #[.string ⟨#[47]⟩] 9)) (.cells #[.int .i64 0] 3)
    rwa [World.size_alloc, World.size_alloc, World.size_alloc, World.size_alloc] at this
  rw [← hW0, ← hH]
  have HH := hid2 hH
  clear hW0 hH
  refine wpIn_rangeFunc_c rfl (by omega) (gf := 34) (lb := #[.pointer (some ⟨H + 1 + 1 + 1, 0, none⟩), .pointer (some ⟨H + 1 + 1, 0, none⟩), .pointer (some ⟨H + 1 + 1 + 1 + 1, 0, none⟩)]) rfl trivial (enters_of Tryd.func34 (by kernel_rfl) rfl)
    (fun x : List UInt8 => Value.string (strB x)) rfl (fun W1 W2 => ∃ v, W2 = W1.setCell ⟨H + 1 + 1, 0, none⟩ v) (fun W W' => ∀ k, k = H + 1 + 1 + 1 ∨ k = H + 1 + 1 ∨ k = H + 1 + 1 + 1 + 1 → W'.heap[k]? = W.heap[k]?)
    (fun xs => xs = splitL s.data.toList) (fun pre => pre <+: splitL s.data.toList) ?call ?kk (fun A B C h1 h2 k hk => (h2 k hk).trans (h1 k hk)) (fun W k o hk j hj => World.putObj_heap_other (by omega))
    (MayI H w) (MayX H w) ?ik ?ip ?xp ?h0
    (fun x => { tmps := #[.string s, undef, .pointer (some ⟨H, 0, none⟩), .pointer (some ⟨H + 1, 0, none⟩), .string (strB x), .string s, .func (.func 34) #[] #[.pointer (some ⟨H + 1 + 1 + 1, 0, none⟩), .pointer (some ⟨H + 1 + 1, 0, none⟩), .pointer (some ⟨H + 1 + 1 + 1 + 1, 0, none⟩)], .string (strB x), undef, undef, undef, undef, undef, undef, undef, undef, undef], defers := [] }) ?assign ?body ?done ?stop
  case call =>
    intro l J Jx W hbW hJ hY hJ0
    refine (split_in 4 l (H + 1 + 1 + 1) (H + 1 + 1) (H + 1 + 1 + 1 + 1) (by omega) s.data.toList (by rw [toList_length]; exact hs) (by omega) (by omega) J Jx (fun pre W v h => hJ _ _ _ h ⟨v, rfl⟩) hY W ((hbW.block _ (by omega)).trans r3) ?_ ((hbW.block _ (by omega)).trans r4) hJ0).mono ?_
    · rw [strB_of]; exact (hbW.block _ (by omega)).trans r2
    · rintro e W2 ⟨hv, hJ2 | ⟨pre, hp, hx⟩⟩
      · exact ⟨hv, .inl ⟨_, rfl, hJ2⟩⟩
      · exact ⟨hv, .inr ⟨pre, hp, hx⟩⟩
  case kk =>
    rintro W1 W2 k ⟨v, rfl⟩ hk
    exact setCell_other v (by omega)
  case ik =>
    rintro pre W1 W2 ⟨i0, i1, ib, iz, ia, il⟩ ⟨v, rfl⟩
    exact ⟨(setCell_other v (by omega)).trans i0, (setCell_other v (by omega)).trans i1, ib.setCell (p := ⟨H + 1 + 1, 0, none⟩) (by show H ≤ H + 1 + 1; omega) v, by rw [World.size_setCell]; exact iz, ia, il⟩
  case ip =>
    rintro pre W k o ⟨i0, i1, ib, iz, ia, il⟩ h1 h2
    exact ⟨(World.putObj_heap_other (by omega)).trans i0, (World.putObj_heap_other (by omega)).trans i1, ib.grown (grownBy_putObj' W k o) (by have := ib.size; have := HH.out; omega) (fun j e => by cases e; omega), by rw [World.putObj_size]; exact iz, ia, il⟩
  case xp =>
    rintro c pre W k o ⟨i0, i1, ib, ix⟩ h1 h2
    exact ⟨i0, (World.putObj_heap_other (by omega)).trans i1, ib.grown (grownBy_putObj' W k o) (by have := ib.size; have := HH.out; omega) (fun j e => by cases e; omega), ix⟩
  case h0 =>
    intro o1 o2
    exact ⟨by rw [Below.heap_alloc _ _ _ (by simp <;> omega), Below.heap_alloc _ _ _ (by omega)]; exact r0, by rw [Below.heap_alloc _ _ _ (by simp <;> omega), Below.heap_alloc _ _ _ (by omega)]; exact r1, (b0.alloc (by omega) _).alloc (by simp <;> omega) _, by simp; omega, rfl, by simp⟩
  case assign =>
    intro l x W K hK
    gi_wp2
    exact hK
  case body =>
    intro l pre x W hi
    have HI := hid2 hi
    obtain ⟨i0, i1, ib, iz, ia, il⟩ := hi
    have c0 := cell_of_one' i0
    have f0 := free_of_one' i0
    have c1 := cell_of_one' i1
    have f1 := free_of_one' i1
    have hlen : (pre.length : Int) ≤ 16 := by omega
    have hf2 := wide_fn 23
    have IA := hid2 ia
    have IL := hid2 il
    have I0 := hid2 i0
    have I1 := hid2 i1
    have Z0 := hid2 z0
    clear ia il i0 i1 r0 r1 r2 r3 r4 hs z0
    by_cases h16 : pre.length = 16
    · have h16' : (16 : Int) < (pre.length : Int) + 1 := by omega
      have H16 := hid2 h16
      clear h16
      have hr := may_round (v := .int .i64 ((pre.length : Int) + 1)) HI.out (by rw [HH.out]; exact Nat.le_refl _) (Below.refl _ _)
      obtain ⟨q0, q1, qb, qz, qk⟩ := hr
      have k0 := cell_of_one' q0
      have k1 := free_of_one' q0
      have Q0 := hid2 q0
      have QK := hid2 qk
      clear q0 q1 qk c0 f0
      gi_wp2_with fail
      refine ⟨⟨?_, ?_⟩, rfl, setCell_row Q0.out, qb.setCell (p := ⟨H, 0, none⟩) (Nat.le_refl _) _, ?_⟩
      · rw [Z0.out]; exact (setCell_other _ (by omega)).trans (QK.out _ (by omega) (by omega))
      · rw [Z0.out]; exact (setCell_other _ (by omega)).trans (QK.out _ (by omega) (by omega))
      · rw [List.length_append, H16.out]; simp
    · have h16' : (pre.length : Int) + 1 ≤ 16 := by omega
      have H16 := hid2 h16
      clear h16 c0 f0
      by_cases hx : partB x = true
      · have hpc : ∀ w, Calls Tryd.prog 23 #[.string (strB x)] w fun e w' => e = .returned (.bool true) ∧ Below w.heap.size w w' := fun w => by
          have := part_any w (strB x)
          rw [strB_list, hx] at this
          exact this
        have HX := hid2 hx
        clear hx
        gi_wp2_with (gi_at_call 23; refine (CallsIn.inRound l (callsIn_wide.2 (hpc _))).mono ?_; rintro e w1 ⟨rfl, hb⟩; have hr := may_round HI.out (by rw [HH.out]; exact Nat.le_refl _) hb; obtain ⟨q0, q1, qb, qz, qk⟩ := hr; have Q0 := hid2 q0; have Q1 := hid2 q1; have QK := hid2 qk; clear q0 q1 qk hb)
        refine ⟨⟨?_, ?_⟩, fun k hk => QK.out k (by omega) (by omega), Q0.out, ?_, qb, qz, ?_, ?_⟩
        · rw [Z0.out]; exact QK.out _ (by omega) (by omega)
        · rw [Z0.out]; exact QK.out _ (by omega) (by omega)
        · rw [Q1.out, List.length_append]; simp
        · rw [List.all_append, IA.out]; simp [HX.out]
        · have := IL.out; have := H16.out; rw [List.length_append, List.length_singleton]; omega
      · have hx' : partB x = false := by simpa using hx
        have hpc : ∀ w, Calls Tryd.prog 23 #[.string (strB x)] w fun e w' => e = .returned (.bool false) ∧ Below w.heap.size w w' := fun w => by
          have := part_any w (strB x)
          rw [strB_list, hx'] at this
          exact this
        have HX := hid2 hx'
        clear hx hx'
        gi_wp2_with (gi_at_call 23; refine (CallsIn.inRound l (callsIn_wide.2 (hpc _))).mono ?_; rintro e w1 ⟨rfl, hb⟩; have hr := may_round HI.out (by rw [HH.out]; exact Nat.le_refl _) hb; obtain ⟨q0, q1, qb, qz, qk⟩ := hr; have k0 := cell_of_one' q0; have k1 := free_of_one' q0; have Q0 := hid2 q0; have QK := hid2 qk; clear q0 q1 qk hb)
        refine ⟨⟨?_, ?_⟩, rfl, setCell_row Q0.out, qb.setCell (p := ⟨H, 0, none⟩) (Nat.le_refl _) _, ?_⟩
        · rw [Z0.out]; exact (setCell_other _ (by omega)).trans (QK.out _ (by omega) (by omega))
        · rw [Z0.out]; exact (setCell_other _ (by omega)).trans (QK.out _ (by omega) (by omega))
        · rw [List.all_append]; simp [HX.out]
  case done =>
    rintro xs W rfl ⟨i0, i1, ib, iz, ia, il⟩ hK
    have c0 := cell_of_one' i0
    have f0 := free_of_one' i0
    have I0 := hid2 i0
    have Z0 := hid2 z0
    have HK := hid2 hK
    have IA := hid2 ia
    have IL := hid2 il
    clear i0 i1 ia il hK r0 r1 r2 r3 r4 z0
    gi_wp2_with fail
    have hK2 : (W.setCell ⟨H, 0, none⟩ (.bool true)).heap[W0.heap.size]? = some (.deferred (some [])) := (setCell_other _ (by rw [Z0.out]; omega)).trans HK.out
    have hR2 : (W.setCell ⟨H, 0, none⟩ (.bool true)).heap[H]? = some (.cells #[.bool true] 4 (0, 0)) := setCell_row I0.out
    have ib2 : Below H w (W.setCell ⟨H, 0, none⟩ (.bool true)) := ib.setCell (p := ⟨H, 0, none⟩) (Nat.le_refl _) _
    refine ⟨by simp, .inl ⟨_, _, rfl, run_takeDeferred hK2, ?_⟩⟩
    have hc5 := cell_of_one' ((World.putObj_heap_other (o := .deferred none) (show H ≠ W0.heap.size by rw [Z0.out]; omega)).trans hR2)
    refine ⟨.bool true, ?_, ?_, ?_⟩
    · simp [results, Tryd.f9, go_sem, hc5]
    · rw [mayB, IA.out]; simp [IL.out]
    · rw [← HH.out]; exact ib2.grown (grownBy_putObj' _ _ _) (by have := ib2.size; have := HH.out; omega) (fun j e => by cases e; rw [Z0.out]; omega)
  case stop =>
    rintro c pre W hpre ⟨rfl, i0, ib, ix⟩ hK
    have I0 := hid2 i0
    have Z0 := hid2 z0
    have HK := hid2 hK
    have IX := hid2 ix
    clear i0 ix hK r0 r1 r2 r3 r4 z0
    gi_wp2_with fail
    refine ⟨by simp, .inl ⟨_, _, rfl, run_takeDeferred HK.out, ?_⟩⟩
    have hc5 := cell_of_one' ((World.putObj_heap_other (o := .deferred none) (show H ≠ W0.heap.size by rw [Z0.out]; omega)).trans I0.out)
    refine ⟨.bool false, ?_, ?_, ?_⟩
    · simp [results, Tryd.f9, go_sem, hc5]
    · rw [mayB, mayB_prefix hpre IX.out]
    · rw [← HH.out]; exact ib.grown (grownBy_putObj' _ _ _) (by have := ib.size; have := HH.out; omega) (fun j e => by cases e; rw [Z0.out]; omega)
end Go.Proofs.YtdhmebilloefjaaDoor
