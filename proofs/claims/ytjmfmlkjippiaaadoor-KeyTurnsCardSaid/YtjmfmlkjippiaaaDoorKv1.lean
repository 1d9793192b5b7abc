/- slices.Values at texts: what its function value hands on. -/
import Derived.Test.YtjmfmlkjippiaaaDoorStr
import Derived.Test.YtjmfmlkjippiaaaDoorMem4
import Derived.RangeFuncBox
import Derived.RangeFuncLeaves
import Derived.RangeFuncNested
import Derived.RangeFuncBound
import Derived.RangeFuncCalls
import Derived.RangeFuncWrites
import Derived.Shelf.Abstract
import Derived.OwnWalkIn
import Derived.TacticsInMore
import Derived.LoopNIn
import Derived.LoopIn
namespace Go.Proofs.YtjmfmlkjippiaaaDoor
open Go.RowKit Go.Shelf
attribute [local go_sem] Oper.semAt_some
theorem wide_fn (f : FuncId) : Fence.wide.fn f := trivial
/-- a text as it is handed on -/
def txV (x : List UInt8) : Value := .string (strB x)
theorem strV_at {l : List (List UInt8)} {j : Nat} {x : List UInt8} (h : l[j]? = some x) : (strV l)[j]? = some (txV x) := by rw [strV, List.getElem?_map, h]; rfl
set_option maxRecDepth 100000 in
set_option maxHeartbeats 2000000 in
theorem tvalues1_in (n : Nat) (hn : 1 ≤ n) (l Bs n0 : Nat) (A : Option Addr) (cap : Nat) (zs : List (List UInt8)) (hreach : zs.length ≤ 1000000000) (J Jx : List (List UInt8) → World → Prop)
    (hY : ∀ pre x W, J pre W → pre.length < zs.length → YieldAt Fence.wide (n - 1) Tryd.prog l #[txV x] W fun e W' => (e = .returned (.bool true) ∧ J (pre ++ [x]) W' ∧ Below n0 W W') ∨ (e = .returned (.bool false) ∧ Jx (pre ++ [x]) W'))
    (W : World) (hBs : W.cell? ⟨Bs, 0, none⟩ = some (.slice A zs.length cap)) (hr : ∀ W', Below n0 W W' → Rd W' 1 A zs.length (strV zs)) (h0 : J [] W) :
    CallsIn Fence.wide n Tryd.prog 46 #[.func (.yield l) #[] #[], .pointer (some ⟨Bs, 0, none⟩)] W fun e W' => (∃ v, e = .returned v) ∧ ((∃ ys, ys = zs ∧ J ys W') ∨ (∃ pre, pre <+: zs ∧ Jx pre W')) := by
  have h7 := wide_fn 46
  obtain ⟨len, hlen⟩ : ∃ len, len = zs.length := ⟨_, rfl⟩
  rw [← hlen] at hreach hY hBs hr
  refine callsIn_of_wp Tryd.func46 rfl h7 ?_ rfl
  simp only [Tryd.ntmps46, List.size_toArray, List.length_cons, List.length_nil, Nat.reduceAdd, Nat.reduceSub, Array.replicate_succ, Array.replicate_zero, List.push_toArray, List.append_toArray, List.nil_append, List.cons_append]
  gi_wp2
  gi_loopw [7] (fun i wr => ∃ k : Nat, k ≤ len ∧ i = .int .i64 k ∧ J (zs.take k) wr ∧ Below n0 W wr) (fun i _ => len - (intOf i).toNat)
  case atStart => exact ⟨0, Nat.zero_le _, rfl, h0, Below.refl _ _⟩
  case round =>
    obtain ⟨k, hk, rfl, hJs, hnx⟩ := hrel
    by_cases hlt : k < len
    · obtain ⟨x, hx⟩ : ∃ x, zs[k]? = some x := ⟨_, List.getElem?_eq_getElem (by omega)⟩
      have hts : zs.take (k + 1) = zs.take k ++ [x] := by rw [List.take_add_one, hx]; rfl
      obtain ⟨b, o, rfl, hcell⟩ := (hr wr hnx).2 (by omega)
      have hcx := hcell k _ (strV_at hx)
      unfold txV at hcx
      have hy0 := hY _ x wr hJs (by rw [List.length_take]; omega)
      unfold txV at hy0
      obtain ⟨fn, tmps, assign, body, hy, hR⟩ := hy0
      have hk0 : (0 : Int) ≤ k := by omega
      have hkl : (k : Int) < len := by omega
      have HTS := hid2 hts
      have HX := hid2 hx
      clear hx hts hcell
      gi_wp2
      refine hR.mono ?_
      rintro e W3 (⟨rfl, hJ3, hk3⟩ | ⟨rfl, hJx3⟩)
      · gi_wp2
        go_roundw
        case rel => exact ⟨k + 1, by omega, by simp, by rw [HTS.out]; exact hJ3, hnx.trans hk3⟩
        case measure => simp [intOf]; omega
      · gi_wp2
        refine bodyPost_ret (results_none rfl _ _ _) rfl ?_
        exact ⟨⟨_, rfl⟩, .inr ⟨_, by rw [← HTS.out]; exact List.take_prefix _ _, hJx3⟩⟩
    · obtain rfl : k = len := by omega
      have hkl : ¬ (k : Int) < k := by omega
      have hJ' : J zs wr := by
        rw [hlen, List.take_length] at hJs
        exact hJs
      gi_wp2
      go_end0
      exact ⟨⟨_, rfl⟩, .inl (by first | exact hJ' | exact ⟨_, rfl, hJ'⟩)⟩
theorem tvalues_in (n : Nat) (a : Option Addr) (len cap : Nat) (w : World) :
    CallsIn Fence.wide n Tryd.prog 29 #[.slice a len cap] w fun e w' => e = .returned (.func (.func 46) #[] #[.pointer (some ⟨w.heap.size, 0, none⟩)]) ∧ w' = w.alloc (.cells #[.slice a len cap] 25) := by
  refine callsIn_of_wp Tryd.func29 rfl trivial ?_ rfl
  simp only [Tryd.ntmps29, List.size_toArray, List.length_cons, List.length_nil, Nat.reduceAdd, Nat.reduceSub, Array.replicate_succ, Array.replicate_zero, List.push_toArray, List.append_toArray, List.nil_append, List.cons_append]
  gi_wp2
  go_ret
  exact ⟨rfl, rfl⟩
/-- all of the row's texts, in order, to a body that keeps what lay below n0 -/
theorem tvalues_stops (n : Nat) (hn : 1 ≤ n) (Bs n0 : Nat) (A : Option Addr) (cap : Nat) (zs : List (List UInt8)) (hreach : zs.length ≤ 1000000000) (w : World) (hBs : Bs < w.heap.size) (hn0 : n0 ≤ w.heap.size)
    (hc : w.cell? ⟨Bs, 0, none⟩ = some (.slice A zs.length cap)) (hr : ∀ W', Below n0 w W' → Rd W' 1 A zs.length (strV zs)) :
    SeqStopsK Fence.wide n Tryd.prog 46 #[.pointer (some ⟨Bs, 0, none⟩)] (fun x : List UInt8 => #[txV x]) (Below n0) (fun ys => ys = zs) (fun pre => pre <+: zs) zs.length w := fun l J Jx W hW _ _ hY h0 => by
  refine (tvalues1_in n hn l Bs n0 A cap zs hreach J Jx hY W ((hW.cell (p := ⟨Bs, 0, none⟩) hBs).trans hc) (fun W' hW' => hr W' ((hW.mono hn0).trans hW')) h0).mono ?_
  rintro e W' ⟨he, ⟨ys, rfl, hj⟩ | ⟨pre, hp, hj⟩⟩
  · exact ⟨he, .inl ⟨_, rfl, hj⟩⟩
  · exact ⟨he, .inr ⟨pre, hp, hj⟩⟩
end Go.Proofs.YtjmfmlkjippiaaaDoor
