/- The reference's disk as a row of files: Read, Names, pass. -/
import Derived.Test.YtbighckpogfcaaaRefd1
import Derived.Test.YtbighckpogfcaaaDisk8
namespace Go.Proofs.Ytbighckpogfcaaa
open Go.RowKit Go.Maps
theorem AtIs.uniq {M : Tab FileE} (hr : Rises M) {k : List UInt8} {u v : Int} (h1 : AtIs M k u) (h2 : AtIs M k v) : u = v := by
  rcases h1 with ⟨i, x, hi, hx, rfl⟩ | ⟨rfl, hn⟩
  · rcases h2 with ⟨j, y, hj, hy, rfl⟩ | ⟨_, hn⟩
    · obtain ⟨hil, hie⟩ := List.getElem?_eq_some_iff.1 hi
      obtain ⟨hjl, hje⟩ := List.getElem?_eq_some_iff.1 hj
      have hp := List.pairwise_iff_getElem.1 hr
      rcases Nat.lt_trichotomy i j with h | h | h
      · have := hp i j hil hjl h
        rw [hie, hje, hx, hy] at this
        rw [bytesBefore_lt] at this
        exact absurd this (List.lt_irrefl _)
      · rw [h]
      · have := hp j i hjl hil h
        rw [hie, hje, hx, hy] at this
        rw [bytesBefore_lt] at this
        exact absurd this (List.lt_irrefl _)
    · exact absurd hx (hn x (List.mem_of_getElem? hi))
  · rcases h2 with ⟨j, y, hj, hy, _⟩ | ⟨rfl, _⟩
    · exact absurd hy (hn y (List.mem_of_getElem? hj))
    · rfl
theorem at07v_any (w : World) (A : Option Addr) (c : Nat) (M : Tab FileE) (left : Int) (hr : Rd w 3 A M.length (rfsV M)) (hl : M.length ≤ 1000000000) (hri : Rises M) (s : ByteArray) {v : Int} (hv : AtIs M s.data.toList v) :
    Calls Try.prog 64 #[.agg #[.slice A M.length c, .int .i64 left], .string s] w fun e w' => e = .returned (.int .i64 v) ∧ Below w.heap.size w w' :=
  (at07m_any w A c M left hr hl s).mono fun _ _ ⟨_, h1, h2, h3⟩ => ⟨by rw [h1, h2.uniq hri hv], h3⟩
theorem AtIs.ex (M : Tab FileE) (k : List UInt8) : ∃ v, AtIs M k v := by
  by_cases h : ∃ x ∈ M, x.1 = k
  · obtain ⟨x, hx, he⟩ := h
    obtain ⟨i, hi⟩ := List.getElem?_of_mem hx
    exact ⟨i, .inl ⟨i, x, hi, he, rfl⟩⟩
  · exact ⟨-1, .inr ⟨rfl, fun x hx he => h ⟨x, hx, he⟩⟩⟩
theorem getM_no {M : Tab FileE} {k : List UInt8} (h : ∀ x ∈ M, x.1 ≠ k) : getM M k = none := by
  unfold getM
  rw [List.find?_eq_none.2 (fun y hy => by simpa using h y hy)]
  rfl
set_option maxRecDepth 100000 in
theorem read07m_any (w : World) (A : Option Addr) (c : Nat) (M : Tab FileE) (left : Int) (hr : Rd w 3 A M.length (rfsV M)) (hl : M.length ≤ 1000000000) (hri : Rises M) (s : ByteArray) :
    Calls Try.prog 29 #[.agg #[.slice A M.length c, .int .i64 left], .string s] w fun e w' => e = .returned (readV M s.data.toList) ∧ Below w.heap.size w w' := by
  obtain ⟨v, hv⟩ := AtIs.ex M s.data.toList
  have hc := fun (O : Obj) => at07v_any (w.alloc O) A c M left (hr.alloc O) hl hri s hv
  have HR := hid2 hr
  obtain ⟨N, hN⟩ : ∃ N, N = M.length := ⟨_, rfl⟩
  rw [← hN] at hc hl ⊢
  have HC := hid2 hc
  have HN := hid2 hN
  obtain ⟨g, hg⟩ : ∃ g, g = w.heap.size := ⟨_, rfl⟩
  have HG := hid2 hg
  rcases hv with ⟨i, x, hi, hx, rfl⟩ | ⟨rfl, hno⟩
  · have hrd : readV M s.data.toList = .tuple #[.string (strB x.2.1), .int .i64 0] := by
      unfold readV
      rw [← hx, getM_at hri hi]
    rw [hrd]
    have hiN : i < N := by rw [hN]; exact (List.getElem?_eq_some_iff.1 hi).1
    have hiN2 : (i : Int) < N := by omega
    have hi0 : ¬ (i : Int) < 0 := by omega
    have hi1 : (0 : Int) ≤ i := by omega
    obtain ⟨T, hT⟩ : ∃ T, T = strB x.2.1 := ⟨_, rfl⟩
    rw [← hT]
    have hcell := fun (w2 : World) (hb : Below w.heap.size w w2) => rf_cells (hr.below_all hb) hi
    rw [← hT] at hcell
    obtain ⟨b, o, rfl, _⟩ := rf_cells hr hi
    have hcell2 := fun (w2 : World) (hb : Below w.heap.size w w2) => show w2.cell? ⟨b, o + i * 3 + 1, none⟩ = some (.string T) by
      obtain ⟨b', o', e, _, h1, _⟩ := hcell w2 hb
      obtain ⟨rfl, rfl⟩ : b = b' ∧ o = o' := by simpa using e
      exact h1
    have HCELL := hid2 hcell2
    clear hr hc hN hg hri hi hx hrd hT hcell hcell2
    go_enter Try.func29, Try.ntmps29
    go_wp2_with (go_at_call 64; refine (HC.out _).mono ?_; rintro e w2 ⟨rfl, hb2⟩; rw [← HG.out]; have hbw2 : Below w.heap.size w w2 := ((Below.refl _ _).alloc (Nat.le_refl _) _).trans (hb2.mono (by simp)); have c1 := HCELL.out w2 hbw2; have hrow : w2.heap[g]? = some (.cells #[.slice (some ⟨b, o, none⟩) N c, .int .i64 left] 46 (0, 0)) := (by rw [HG.out]; exact (hb2.block w.heap.size (by simp)).trans (heap_alloc_new w _)); have c0 : w2.cell? ⟨g, 0, none⟩ = some (.slice (some ⟨b, o, none⟩) N c) := (cell_of_row w2 _ 0 _ _ _ hrow).trans rfl; clear hb2 hrow)
    exact bodyPost_ret (results_tmp2 rfl _ _ _) rfl ⟨rfl, hbw2⟩
  · have hrd : readV M s.data.toList = .tuple #[.string ⟨#[]⟩, .int .i64 10] := by
      unfold readV
      rw [getM_no hno]
    rw [hrd]
    clear hr hc hN hg hri hno hrd
    go_enter Try.func29, Try.ntmps29
    go_wp2_with (go_at_call 64; refine (HC.out _).mono ?_; rintro e w2 ⟨rfl, hb2⟩; have hbw2 : Below w.heap.size w w2 := ((Below.refl _ _).alloc (Nat.le_refl _) _).trans (hb2.mono (by simp)); clear hb2)
    exact bodyPost_ret (results_tmp2 rfl _ _ _) rfl ⟨rfl, hbw2⟩
end Go.Proofs.Ytbighckpogfcaaa
