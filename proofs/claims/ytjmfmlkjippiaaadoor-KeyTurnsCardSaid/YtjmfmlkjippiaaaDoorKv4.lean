/- The key's set of texts. -/
import Derived.Test.YtjmfmlkjippiaaaDoorKv3
namespace Go.Proofs.YtjmfmlkjippiaaaDoor
open Go.RowKit Go.Shelf
set_option maxRecDepth 100000
theorem collectT_any (w : World) (Bs : Nat) (A : Option Addr) (cap : Nat) (zs : List (List UInt8)) (hz : zs.length ≤ 1000000) (hBs : w.heap[Bs]? = some (.cells #[.slice A zs.length cap] 25 (0, 0))) (hr : Rd w 1 A zs.length (strV zs)) :
    Calls Tryd.prog 43 #[.func (.func 46) #[] #[.pointer (some ⟨Bs, 0, none⟩)]] w fun e w' => ∃ A' c, e = .returned (.slice A' zs.length c) ∧ Own w' w.heap.size 9 1 A' zs.length c (strV zs) ∧ Below w.heap.size w w' := by
  refine (callsIn_wide (n := 3)).1 ?_
  refine (collectT_in 3 (by omega) 46 #[.pointer (some ⟨Bs, 0, none⟩)] (enters_of Tryd.func46 (by kernel_rfl) rfl) _ _ zs.length w.heap.size (by unfold maxLen; omega) (by omega) w (Nat.le_refl _)
    (tvalues_stops 1 (Nat.le_refl _) Bs w.heap.size A cap zs (by omega) w (heap_lt hBs) (Nat.le_refl _) (cell_of_row w Bs 0 _ _ _ hBs) (fun W' hW' => hr.below_all hW'))).mono ?_
  rintro e w' ⟨v, ss, rfl, rfl, hrow, hb⟩
  obtain ⟨A', c, rfl, hown⟩ := own_of_rowT hrow
  exact ⟨A', c, rfl, hown, hb⟩
theorem sortedT_any (w : World) (Bs : Nat) (A : Option Addr) (cap : Nat) (zs : List (List UInt8)) (hz : zs.length ≤ 1000000) (hBs : w.heap[Bs]? = some (.cells #[.slice A zs.length cap] 25 (0, 0))) (hr : Rd w 1 A zs.length (strV zs)) :
    Calls Tryd.prog 26 #[.func (.func 46) #[] #[.pointer (some ⟨Bs, 0, none⟩)]] w fun e w' => ∃ A' c, e = .returned (.slice A' zs.length c) ∧ Own w' w.heap.size 9 1 A' zs.length c (strV (sortT zs)) ∧ Below w.heap.size w w' := by
  have cC := collectT_any w Bs A cap zs hz hBs hr
  clear hr hBs
  go_enter Tryd.func26, Tryd.ntmps26
  go_wp2_with (first
    | (go_at_call 43; refine cC.mono ?_; rintro e w1 ⟨A1, c1, rfl, hown1, hb1⟩)
    | (go_at_call 44; refine (sortT_own w1 w.heap.size A1 c1 zs hown1 hz).mono ?_; rintro e w2 ⟨rfl, hown2, hg2⟩))
  go_ret
  exact ⟨A1, c1, rfl, hown2, hb1.grown hg2 hb1.size (fun k e => (hown1.block k e).1)⟩
theorem values_any (w : World) (A : Option Addr) (n cap : Nat) : Calls Tryd.prog 29 #[.slice A n cap] w fun e w' => e = .returned (.func (.func 46) #[] #[.pointer (some ⟨w.heap.size, 0, none⟩)]) ∧ w' = w.alloc (.cells #[.slice A n cap] 25) :=
  (callsIn_wide (n := 3)).1 (tvalues_in 3 A n cap w)
theorem set_any (w : World) (A : Option Addr) (cap : Nat) (l : List (List UInt8)) (hl : l.length ≤ 1000000) (hr : Rd w 1 A l.length (strV l)) :
    Calls Tryd.prog 18 #[.slice A l.length cap] w fun e w' => ∃ A' c, e = .returned (.slice A' (setL l).length c) ∧ Own w' w.heap.size 9 1 A' (setL l).length c (strV (setL l)) ∧ Below w.heap.size w w' := by
  obtain ⟨w1, hw1⟩ : ∃ w1, w1 = w.alloc (.cells #[.slice A l.length cap] 25) := ⟨_, rfl⟩
  have hB1 : Below w.heap.size w w1 := by rw [hw1]; exact (Below.refl _ w).alloc (Nat.le_refl _) _
  have hbox : w1.heap[w.heap.size]? = some (.cells #[.slice A l.length cap] 25 (0, 0)) := by rw [hw1]; exact World.alloc_heap_new w _
  have cS := sortedT_any w1 w.heap.size A cap l hl hbox (hr.below_all hB1)
  have cV := values_any w A l.length cap
  rw [← hw1] at cV
  have hsl := sortT_length l
  have HSL := hid2 hsl
  clear hr hbox hw1 hsl
  go_enter Tryd.func18, Tryd.ntmps18
  go_wp2_with (first
    | (go_at_call 29; refine cV.mono ?_; rintro e wv ⟨rfl, hwv⟩; obtain rfl := hwv.symm)
    | (go_at_call 26; refine cS.mono ?_; rintro e w2 ⟨A2, c2, rfl, hown2, hb2⟩; rw [← HSL.out] at hown2 ⊢)
    | (go_at_call 28; refine (compactT_own w2 w1.heap.size A2 c2 (sortT l) hown2 (by rw [HSL.out]; exact hl)).mono ?_; rintro e w3 ⟨rfl, hown3, hg3⟩))
  go_ret
  have hB2 := hB1.trans (hb2.mono hB1.size)
  exact ⟨A2, c2, rfl, hown3.mono hB1.size, hB2.grown hg3 hB2.size (fun k e => Nat.le_trans hB1.size (hown2.block k e).1)⟩
end Go.Proofs.YtjmfmlkjippiaaaDoor
