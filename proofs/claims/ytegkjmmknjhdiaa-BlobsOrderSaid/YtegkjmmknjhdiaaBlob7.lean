/- slices.AppendSeq and slices.Collect at digests, against whatever iterator of digests: the walks. -/
import Derived.Test.YtegkjmmknjhdiaaBlob6
namespace Go.Proofs.Ytegkjmmknjhdiaa
open Go.RowKit Go.Maps Go.Sort
def digs (l : List Dig) : List Value := l.flatMap fun x => u8s x.1
theorem digs_snoc (l : List Dig) (x : Dig) : digs (l ++ [x]) = digs l ++ u8s x.1 := by simp [digs]
theorem digs_length : ∀ l : List Dig, (digs l).length = l.length * 32
  | [] => rfl
  | x :: l => by
    have := digs_length l
    simp only [digs, List.flatMap_cons, List.length_append, u8s_length, List.length_cons] at this ⊢
    have := x.2
    omega
theorem own_ne {W : World} {base : Nat} {e : TypeId} {size : Nat} {v : Value} {k : Nat} {xs : List Value} (h : W.ownsRow base e size v k xs) {j : Nat} (hj : j < base) : v.ownBlock = none ∨ v.ownBlock ≠ some j := by
  rcases h.2 with ⟨rfl, _⟩ | ⟨g, cap, cur, rfl, hb, _⟩
  · exact .inl rfl
  · refine .inr fun e => ?_
    have : g = j := by simpa [Value.ownBlock] using e
    omega
theorem own_ne' {W : World} {base : Nat} {e : TypeId} {size : Nat} {v : Value} {k : Nat} {xs : List Value} (h : W.ownsRow base e size v k xs) {j : Nat} (hj : j < base) : some j ≠ v.ownBlock := by
  rcases own_ne h hj with e | e
  · rw [e]; simp
  · exact fun e' => e e'.symm
/-- between two rounds -/
structure ApD (w0 : World) (ss : List Dig) (W : World) : Prop where
  box : ∃ v, W.heap[w0.heap.size]? = some (.cells #[v] 56 (0, 0)) ∧ W.ownsRow (w0.heap.size + 3) 39 32 v ss.length (digs ss) ∧ (v = .slice none 0 0 ↔ ss = [])
  below : Below w0.heap.size w0 W
theorem ApD.abides (w0 : World) : AbidesFrom (w0.heap.size + 3) (ApD w0) := fun s W W' row h hg hrow => by
  have hrow' : ∀ r, row = some r → ∃ o : Obj, W.heap[r]? = some o ∧ o.isWalk = true := fun r e => (hrow r e).2
  obtain ⟨v, hv, hr, hn⟩ := h.box
  exact ⟨⟨v, (grownBy_keeps hg hrow' hv rfl).trans hv, ownsRow_abides_a hr hg hrow', hn⟩, h.below.grown hg h.below.size (fun k e => by have := (hrow k e).1; omega)⟩
theorem ApD.put {w0 : World} {ss : List Dig} {W : World} (h : ApD w0 ss W) (k : Nat) (o : Obj) (h1 : w0.heap.size < k) (h2 : k < w0.heap.size + 3) : ApD w0 ss (W.putObj k o) := by
  obtain ⟨v, hv, hr, hn⟩ := h.box
  exact ⟨⟨v, (World.putObj_heap_other (by omega)).trans hv, hr.kept (grownBy_putObj_a W k o) (own_ne hr h2), hn⟩, h.below.grown (grownBy_putObj_a W k o) h.below.size (fun j e => by cases e; omega)⟩
theorem ApD.grown {w0 : World} {ss : List Dig} {W : World} (h : ApD w0 ss W) (o : Obj) : ApD w0 ss (W.alloc o) := by
  obtain ⟨v, hv, hr, hn⟩ := h.box
  exact ⟨⟨v, (Below.heap_alloc _ _ _ (Array.getElem?_eq_some_iff.1 hv).1).trans hv, hr.alloc _, hn⟩, h.below.alloc h.below.size _⟩
set_option maxRecDepth 100000 in
set_option maxHeartbeats 2000000 in
theorem appendD_in (n : Nat) (hn : 2 ≤ n) (g : Nat) (lb : Array Value) (eg : ∀ args w, (callFunc g args).run Try.prog w = .ok (.enter g args) w)
    (S : List Dig → Prop) (N : Nat) (hN : N ≤ maxLen) (hNb : N * 32 ≤ 140737488355328) (w : World) (hseq : SeqGives Fence.wide (n - 1) Try.prog g lb digK S N w) :
    CallsIn Fence.wide n Try.prog 76 #[.slice none 0 0, .func (.func g) #[] lb] w fun e w' => ∃ (v : Value) (ss : List Dig), e = .returned v ∧ S ss ∧ w'.ownsRow (w.heap.size + 3) 39 32 v ss.length (digs ss) ∧ (v = .slice none 0 0 ↔ ss = []) ∧ Below w.heap.size w w' := by
  refine callsIn_of_wp_marks Try.func76 rfl trivial ?_ rfl
  simp only [Try.ntmps76, List.size_toArray, List.length_cons, List.length_nil, Nat.reduceAdd, Nat.reduceSub, Array.replicate_succ, Array.replicate_zero, List.push_toArray, List.append_toArray, List.nil_append, List.cons_append]
  gi_wp2
  obtain ⟨W0, hW0⟩ : ∃ W0, w.alloc (.cells #[.slice none 0 0] 56) = W0 := ⟨_, rfl⟩
  have hs0 : W0.heap.size = w.heap.size + 1 := by rw [← hW0]; simp
  have hv0 : W0.heap[w.heap.size]? = some (.cells #[.slice none 0 0] 56 (0, 0)) := by rw [← hW0]; exact World.alloc_heap_new w _
  have hb0 : Below w.heap.size w W0 := by rw [← hW0]; exact (Below.refl _ w).alloc (Nat.le_refl _) _
  have hA0 : ApD w [] W0 := ⟨⟨_, hv0, ⟨rfl, .inl ⟨rfl, rfl⟩⟩, by simp⟩, hb0⟩
  rw [hW0]
  refine wpIn_rangeFunc_s rfl (by omega) (gf := g) (lb := lb) rfl trivial eg digK rfl S N (hseq.later hb0) (ApD w) (by rw [hs0]; exact ApD.abides w) (fun pre W k o h h1 h2 => h.put k o (by omega) (by omega)) (fun o1 o2 => (hA0.grown _).grown _)
    (fun pre x a W => ApD w pre W ∧ ∃ gv, w.heap.size + 3 ≤ gv ∧ W.heap[gv]? = some (.cells (u8s x.1).toArray 39 (0, 0)) ∧ a = { tmps := #[.slice none 0 0, .func (.func g) #[] lb, .pointer (some ⟨w.heap.size, 0, none⟩), undef, .slice none 0 0, .pointer (some ⟨gv, 0, none⟩), .func (.func g) #[] lb, digK x, undef, undef, undef, undef, undef], defers := [] })
    ?put1 ?assign ?body ?done
  case put1 =>
    rintro pre x a W k o ⟨hi, gv, hg, hr, rfl⟩ h1 h2
    exact ⟨hi.put k o (by omega) (by omega), gv, hg, (World.putObj_heap_other (by omega)).trans hr, rfl⟩
  case assign =>
    intro l pre x W hi hs hl
    obtain ⟨X, hX⟩ := x
    simp only [digK, digV]
    have HI := hid2 hi
    clear hi
    gi_wp2_with (first
      | ((with_reducible refine wpListIn_store_fresh X hX ?_ ?_); exact ⟨rfl, rfl⟩)
      | (rw [Oper.semAt_eq _ _ _ (fun c h => by cases h)]; go_simp; try go_bits))
    exact ⟨⟨Below.heap_alloc _ _ _ (by omega), Below.heap_alloc _ _ _ (by omega)⟩, KeepsWalks.alloc _ _, HI.out.grown _, W.heap.size, by omega, World.alloc_heap_new W _, rfl⟩
  case body =>
    rintro l pre ⟨X, hX⟩ a W ⟨hi, gv, hg, hr, rfl⟩ hs hl
    simp only at hr
    have hbl := hi.below
    obtain ⟨v, hv, hrow, hnv⟩ := hi.box
    obtain ⟨hc2, hf2⟩ := cell_of_box_a hv
    have hld : (loadVar 39 ⟨gv, 0, none⟩).run Try.prog W = .ok (.agg (u8s X).toArray) W :=
      run_loadVar_row W gv 39 39 _ (0, 0) _ hr Try.underlying39 rfl (by rw [List.size_toArray]; exact info_h8' hX)
    obtain ⟨i0, hi0, hz0, hz1, hz2⟩ := info_parts info_dig
    have hX32 : (Value.agg (u8s X).toArray).cells.size = 32 := by show (u8s X).toArray.size = 32; rw [List.size_toArray, u8s_length, hX]
    have hnl : (u8s X).length = 1 * 32 := by rw [u8s_length, hX]
    have hlN : pre.length + 1 ≤ maxLen := by omega
    have hlB : (pre.length + 1) * 32 ≤ 140737488355328 := by omega
    have hWs : w.heap.size < W.heap.size := by omega
    obtain ⟨W2, hW2⟩ : ∃ W2, W2 = W.alloc (.cells (u8s X).toArray 39) := ⟨_, rfl⟩
    have hrow2 : W2.ownsRow (w.heap.size + 3) 39 32 v pre.length (digs pre) := by rw [hW2]; exact hrow.alloc _
    have hv2 : W2.heap[w.heap.size]? = some (.cells #[v] 56 (0, 0)) := by rw [hW2]; exact (Below.heap_alloc _ _ _ hWs).trans hv
    have hs2 : W2.heap.size = W.heap.size + 1 := by rw [hW2]; simp
    have hcell : ∀ j u, (u8s X)[j]? = some u → W2.cell? ((⟨W.heap.size, 0, none⟩ : Addr).add j) = some u := by
      intro j u hj
      rw [addr_add, cell_of_row W2 W.heap.size _ _ _ _ (by rw [hW2]; exact World.alloc_heap_new W _)]
      simpa using hj
    have hb2 : Below w.heap.size w W2 := by rw [hW2]; exact hbl.alloc hbl.size _
    have HW2 := hid2 hW2
    have HB2 := hid2 hb2
    have HV2 := hid2 hv2
    have HROW2 := hid2 hrow2
    have HLD := hid2 hld
    have HCELL := hid2 hcell
    have HS2 := hid2 hs2
    have hone := u8s_one X
    have HONE := hid2 hone
    clear hW2 hb2 hv2 hrow2 hld hcell hs2 hr hi hv hrow hnv hone hbl
    simp only [digK, digV]
    gi_wp2_with (first
      | ((with_reducible refine wpListIn_load_agg HLD.out ?_ ?_); exact rfl)
      | ((with_reducible refine wpListIn_build_one 39 (.agg (u8s X).toArray) (digV (List.replicate 32 0)) 32 Try.underlying56 zero_dig rfl hX32 (by decide) (by decide) ?_ ?_); exact rfl; rw [show W.alloc (.cells (Value.agg (u8s X).toArray).cells 39) = W2 from HW2.out.symm])
      | (gi_at_builtin; refine wpListIn_append_own _ rfl _ _ 56 rfl (w.heap.size + 3) 39 i0 (digV (List.replicate 32 0)) 32 32 Try.underlying56 hi0 hz0 hz1 hz2 rfl (by decide) _ _ _ rfl HROW2.out ⟨W.heap.size, 0, none⟩ 1 1 (u8s X) rfl hnl HCELL.out HONE.out hlN hlB (by rw [HS2.out]; omega) ?_
         intro v' w3 hown' hg3 hnil3
         have hv3 : w3.heap[w.heap.size]? = some (.cells #[v] 56 (0, 0)) := (hg3.block _ (by rw [HS2.out]; omega) (own_ne' HROW2.out (by omega))).trans HV2.out
         obtain ⟨hc3, hf3⟩ := cell_of_box_a hv3
         obtain ⟨g', cap', hv', hbase'⟩ : ∃ g' cap', v' = .slice (some ⟨g', 0, none⟩) (pre.length + 1) cap' ∧ w.heap.size + 3 ≤ g' := by
           rcases hown'.2 with ⟨_, h0⟩ | ⟨g', cap', _, e, hb, _⟩
           · exact absurd h0 (by omega)
           · exact ⟨g', cap', e, hb⟩
         subst hv'
         have HOWN' := hid2 hown'
         have HG3 : Hid2 (W2.grownBy w3 v.ownBlock) := hid2 hg3
         have HV3 := hid2 hv3
         clear hown' hg3 hnil3 hv3
         go_frame)
      | (rw [Oper.semAt_eq _ _ _ (fun c h => by cases h)]; go_simp; try go_bits))
    obtain ⟨w4, hw4⟩ : ∃ w4, w4 = w3.setCell ⟨w.heap.size, 0, none⟩ (.slice (some ⟨g', 0, none⟩) (pre.length + 1) cap') := ⟨_, rfl⟩
    rw [← hw4]
    have hg4 : w3.grownBy w4 (some w.heap.size) := by rw [hw4]; exact grownBy_setCell0_a _ _ _
    have hb3 : Below w.heap.size w w3 := HB2.out.grown HG3.out HB2.out.size (fun k e => by have := (HROW2.out.lt k e).1; omega)
    have hold : ∀ j, w.heap.size < j → j < w.heap.size + 3 → w4.heap[j]? = W.heap[j]? := fun j h1 h2 => by
      have h3 : w3.heap[j]? = W2.heap[j]? := HG3.out.block _ (by rw [HS2.out]; omega) (own_ne' HROW2.out h2)
      have h4 : W2.heap[j]? = W.heap[j]? := by rw [HW2.out]; exact Below.heap_alloc _ _ _ (by omega)
      rw [hw4, Below.heap_setCell _ _ _ _ (by show j ≠ w.heap.size; omega), h3, h4]
    refine ⟨⟨hold _ (by omega) (by omega), hold _ (by omega) (by omega)⟩, ?_, ⟨_, by rw [hw4]; exact heap_setCell_box_a _ HV3.out, ?_, by simp⟩, hb3.grown hg4 hb3.size (fun k e => by cases e; omega)⟩
    · have k1 : KeepsWalks W W2 := by rw [HW2.out]; exact KeepsWalks.alloc _ _
      have k3 : KeepsWalks w3 w4 := by rw [hw4]; exact KeepsWalks.setCell _ _ _
      exact (k1.trans (KeepsWalks.of_grownBy HG3.out (ownsRow_not_walk_a HROW2.out))).trans k3
    · rw [digs_snoc, List.length_append]
      exact HOWN'.out.kept hg4 (own_ne HOWN'.out (by omega))
  case done =>
    intro xs W hS hi hD
    have hbl := hi.below
    obtain ⟨v, hv, hrow, hnv⟩ := hi.box
    obtain ⟨hc3, hf3⟩ := cell_of_box_a hv
    have HR := hid2 hrow
    have HN := hid2 hnv
    have HB := hid2 hbl
    clear hi hrow hnv hbl hv
    gi_wp2
    refine ⟨by simp, .inl ⟨_, _, rfl, run_takeDeferred hD, ?_⟩⟩
    exact ⟨_, results_tmp rfl _ _ _, v, xs, rfl, hS, HR.out.kept (grownBy_putObj_a _ _ _) (own_ne HR.out (by omega)), HN.out, HB.out.grown (grownBy_putObj_a _ _ _) HB.out.size (fun k e => by cases e; omega)⟩
end Go.Proofs.Ytegkjmmknjhdiaa
