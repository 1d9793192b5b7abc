/- The iterator of maps.Keys at a store's map. -/
import Derived.Test.YtegkjmmknjhdiaaMemIn
import Derived.Shelf.AbstractIn
import Derived.RangeFuncSeq
import Derived.RangeFuncGives
import Derived.Sort.MapsRangeIn
import Derived.WalkKit
import Derived.OwnWalkIn
import Derived.TacticsInMore
import Derived.RegionIn
import Derived.LoopNIn
import Derived.LoopIn
namespace Go.Proofs.Ytegkjmmknjhdiaa
open Go.RowKit Go.Maps Go.WideMaps Go.Sort
set_option maxRecDepth 100000 in
set_option maxHeartbeats 1000000 in
theorem bkeys1_in (n : Nat) (hn : 1 ≤ n) (l Bm b nn : Nat) (M : Tab (List UInt8)) (J : List (List UInt8) → World → Prop)
    (hY : ∀ pre (x : Dig) W, J pre W → pre.length < M.length → YieldAt Fence.wide (n - 1) Try.prog l #[.agg (u8s x.1).toArray] W fun e W' => e = .returned (.bool true) ∧ J (pre ++ [x.1]) W' ∧ KeepsWalks W W')
    (W : World) (hJ : AbidesFrom W.heap.size J) (hm : W.cell? ⟨Bm, 0, none⟩ = some (.map (some b))) (hown : MapIs W Try.prog 39 encS b nn M) (h0 : J [] W) :
    CallsIn Fence.wide n Try.prog 69 #[.func (.yield l) #[] #[], .pointer (some ⟨Bm, 0, none⟩)] W fun e W' => (∃ v, e = .returned v) ∧ ∃ ss : List (List UInt8), ss.Perm (M.map (·.1)) ∧ J ss W' := by
  refine callsIn_of_wp Try.func69 rfl trivial ?_ rfl
  simp only [Try.ntmps69, List.size_toArray, List.length_cons, List.length_nil, Nat.reduceAdd, Nat.reduceSub, Array.replicate_succ, Array.replicate_zero, List.push_toArray, List.append_toArray, List.nil_append, List.cons_append]
  gi_wp2_with (first
    | (gi_at_range; refine wpListIn_range_own _ rfl _ 76 rfl 39 9 keyed_dig Try.underlying76 _ b nn _ rfl hown ?_; intro w0 hrg0 hg0 hs0)
    | gi_in)
  go_frame
  gi_loopw [3] (fun _ wr => ∃ (left : Lit → Bool) (cnt : Nat) (ss : List (List UInt8)), wr.ranges Try.prog 39 (elemR encS) b W.heap.size nn (mapD M) left cnt ∧ ss.length + cnt ≤ M.length ∧ Collected (mapD M) left ss ∧ J ss wr)
    (fun _ wr => wr.rangeLeft b W.heap.size)
  case atStart =>
    exact ⟨_, _, [], hrg0, by rw [size_mapD]; simp, Collected.start _, hJ [] W w0 none h0 hg0 (fun r e => by cases e)⟩
  case round =>
    obtain ⟨left, cnt, ss, hrg, hcs, hC, hJs⟩ := hrel
    gi_wp2_with (first
      | (gi_at_next; refine wpListIn_next_ranges _ rfl _ rfl 39 keyed_dig (elemR encS) digK id (fun key kl hk => keyOf_dig_inv hk) (fun v _ _ => ⟨v, rfl⟩) b W.heap.size nn _ _ _ rfl hrg ?_ ?_)
      | gi_in)
    · intro hc0 hl0
      gi_wp2
      go_end0
      exact ⟨⟨_, rfl⟩, ss, collected_tab (hown.rises keyed_dig) hC hl0, hJs⟩
    · intro X hXl c kl yd yp w2 cnt2 hkey hlk hv hat hrg2 hlt hg2 hs2 hen
      have hk2 := keyOf_dig hXl
      rw [kb_eq] at hk2
      obtain rfl : Lit.string X = kl := by
        have := hk2.symm.trans hkey
        injection this
      simp only [digK, digV] at hen
      have hJ2 : J ss w2 := hJ ss wr w2 (some W.heap.size) hJs hg2 (fun r e => by cases e; exact ⟨Nat.le_refl _, hrg.iter_walk⟩)
      obtain ⟨W3, hW3⟩ : ∃ W3, W3 = w2.alloc (.cells (u8s X).toArray 39) := ⟨_, rfl⟩
      have hJ3 : J ss W3 := by rw [hW3]; exact hJ ss w2 _ none hJ2 (World.grownBy_alloc w2 _ none) (fun r e => by cases e)
      have hk3 : KeepsWalks w2 W3 := by rw [hW3]; exact KeepsWalks.alloc _ _
      have hrow : W3.heap[w2.heap.size]? = some (.cells (u8s X).toArray 39 (0, 0)) := by rw [hW3]; exact heap_alloc_new w2 _
      have hld : (loadVar 39 ⟨w2.heap.size, 0, none⟩).run Try.prog W3 = .ok (.agg (u8s X).toArray) W3 :=
        run_loadVar_row W3 w2.heap.size 39 39 _ (0, 0) _ hrow Try.underlying39 rfl (by rw [List.size_toArray]; exact info_h8' hXl)
      obtain ⟨fn, tmps, assign, body, hy, hR⟩ := hY ss ⟨X, hXl⟩ W3 hJ3 (by omega)
      simp only at hy hR
      have HLD := hid2 hld
      have HW3 := hid2 hW3
      clear hs2 hld hrow hJ2 hJ3 hW3
      gi_wp2_with (first
        | ((with_reducible refine wpListIn_store_fresh X hXl ?_ ?_); exact ⟨rfl, rfl⟩; rw [← HW3.out])
        | ((with_reducible refine wpListIn_load_agg HLD.out ?_ ?_); exact rfl)
        | gi_in)
      refine hR.mono ?_
      rintro e W4 ⟨rfl, hJ4, hk4⟩
      gi_wp2
      have hrg4 := hrg2.of_walks (hk3.trans hk4)
      go_roundw
      case rel => exact ⟨_, cnt2, ss ++ [X], hrg4, by rw [List.length_append]; simp; omega, hC.step hlk hat, hJ4⟩
      case measure => rw [hrg4.left_eq, hrg.left_eq]; exact hlt
end Go.Proofs.Ytegkjmmknjhdiaa
