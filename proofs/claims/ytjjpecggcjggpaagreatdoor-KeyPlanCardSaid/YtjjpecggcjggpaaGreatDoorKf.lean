/- A table of settings: plain laws. -/
import Derived.Test.YtjjpecggcjggpaaGreatDoorKa
import Derived.Test.YtjjpecggcjggpaaGreatDoorKe
import Derived.Test.YtjjpecggcjggpaaGreatDoorKd
set_option linter.unusedSimpArgs false
set_option linter.unusedVariables false
namespace Go.Proofs.YtjjpecggcjggpaaGreatDoor
open Go.RowKit Go.Maps
section
variable {α : Type}
theorem getM_ins_same (k : List UInt8) (a : α) : ∀ M : Tab α, (∀ y ∈ M, y.1 ≠ k) → getM (insM (k, a) M) k = some a
  | [], _ => by simp [insM, getM]
  | y :: r, h => by
    unfold insM
    split
    · simp [getM]
    · have hy : (y.1 == k) = false := by simpa using h y (by simp)
      have := getM_ins_same k a r (fun z hz => h z (List.mem_cons_of_mem _ hz))
      unfold getM at this ⊢
      rw [List.find?_cons, hy]
      exact this
theorem getM_ins_ne (k : List UInt8) (a : α) {k' : List UInt8} (hk : k' ≠ k) : ∀ M : Tab α, getM (insM (k, a) M) k' = getM M k'
  | [] => by
    have : (k == k') = false := by simpa using fun h => hk h.symm
    simp [insM, getM, this]
  | y :: r => by
    have hkk : (k == k') = false := by simpa using fun h => hk h.symm
    unfold insM
    split
    · unfold getM
      rw [List.find?_cons, hkk]
    · have := getM_ins_ne k a hk r
      unfold getM at this ⊢
      rw [List.find?_cons, List.find?_cons]
      split
      · rfl
      · exact this
theorem delM_ne {M : Tab α} {k : List UInt8} : ∀ y ∈ delM M k, y.1 ≠ k := by
  intro y hy
  have := (List.mem_filter.1 hy).2
  simpa using this
theorem getM_put_same (M : Tab α) (k : List UInt8) (a : α) : getM (putM M k a) k = some a := getM_ins_same k a _ delM_ne
theorem getM_del_ne (M : Tab α) {k k' : List UInt8} (hk : k' ≠ k) : getM (delM M k) k' = getM M k' := by
  unfold getM delM
  congr 1
  induction M with
  | nil => rfl
  | cons y r ih =>
    rw [List.filter_cons]
    split
    · rw [List.find?_cons, List.find?_cons, ih]
    · rename_i h
      have hy : y.1 = k := by simpa using h
      have : (y.1 == k') = false := by rw [hy]; simpa using fun h => hk h.symm
      rw [List.find?_cons, this, ih]
theorem getM_put_ne (M : Tab α) {k k' : List UInt8} (a : α) (hk : k' ≠ k) : getM (putM M k a) k' = getM M k' := by
  rw [putM, getM_ins_ne k a hk, getM_del_ne M hk]
end
/-- the table that settings leave, from the row's end on -/
def tabOf (l : List SetE) : Tab Tx := l.foldl (fun M p => putM M p.1 p.2) []
theorem tabOf_snoc (l : List SetE) (p : SetE) : tabOf (l ++ [p]) = putM (tabOf l) p.1 p.2 := by simp [tabOf, List.foldl_append]
theorem tabOf_get (n : Tx) : ∀ l : List SetE, getM (tabOf l.reverse) n = (l.find? fun p => p.1 == n).map (·.2)
  | [] => rfl
  | p :: l => by
    rw [List.reverse_cons, tabOf_snoc, List.find?_cons]
    by_cases h : p.1 = n
    · subst h
      rw [getM_put_same]
      simp
    · rw [getM_put_ne _ _ (fun e => h e.symm), tabOf_get n l, show (p.1 == n) = false by simp [h]]
theorem tabOf_valOf (l : List SetE) (n : Tx) : (getM (tabOf l.reverse) n).getD [] = valOf l n := by rw [tabOf_get]; rfl
theorem getM_isSome {M : Tab Tx} {n : Tx} : (getM M n).isSome = true ↔ n ∈ M.map (·.1) := by
  unfold getM
  rw [Option.isSome_map, List.find?_isSome, List.mem_map]
  constructor
  · rintro ⟨p, hp, he⟩
    exact ⟨p, hp, by simpa using he⟩
  · rintro ⟨p, hp, he⟩
    exact ⟨p, hp, by simpa using he⟩
theorem tabOf_keys {l : List SetE} (h : Rises (tabOf l.reverse)) : (tabOf l.reverse).map (·.1) = setL (l.map (·.1)) := by
  refine IsSet.one (l := l.map (·.1)) ⟨List.pairwise_map.2 (h.imp fun {p q} hpq => (bytesBefore_lt _ _).1 hpq), fun x => ?_⟩ (setL_is _)
  rw [← getM_isSome, tabOf_get, Option.isSome_map, List.find?_isSome, List.mem_map]
  constructor
  · rintro ⟨p, hp, he⟩
    exact ⟨p, hp, by simpa using he⟩
  · rintro ⟨p, hp, he⟩
    exact ⟨p, hp, by simpa using he⟩
theorem txV_inj (a b : Tx) (h : (Value.string (strB a)) = .string (strB b)) : a = b := by
  injection h with h
  rw [← strB_list a, ← strB_list b, h]
end Go.Proofs.YtjjpecggcjggpaaGreatDoor
/- slices.Backward over settings: what its function value hands on. -/
namespace Go.Proofs.YtjjpecggcjggpaaGreatDoor
open Go.RowKit Go.Shelf
attribute [local go_sem] Oper.semAt_some
/-- all below n0 lies as it lay, but for block b -/
structure KpB (n0 b : Nat) (W W' : World) : Prop where
  size : W.heap.size ≤ W'.heap.size
  keep : ∀ k, k < n0 → k ≠ b → W'.heap[k]? = W.heap[k]?
theorem KpB.refl (n0 b : Nat) (W : World) : KpB n0 b W W := ⟨Nat.le_refl _, fun _ _ _ => rfl⟩
theorem KpB.trans {n0 b : Nat} {A B C : World} (h : KpB n0 b A B) (k : KpB n0 b B C) : KpB n0 b A C := ⟨Nat.le_trans h.size k.size, fun j h1 h2 => (k.keep j h1 h2).trans (h.keep j h1 h2)⟩
theorem KpB.of_below {n0 b : Nat} {A B : World} (h : Below n0 A B) : KpB n0 b A B := ⟨h.size, fun k h1 _ => h.block k h1⟩
theorem KpB.put {n0 b : Nat} {w : World} (hn : n0 ≤ w.heap.size) (W : World) (l : Nat) (o o' : Obj) (hl : w.heap.size ≤ l) (h : W.heap[l]? = some o) (h1 : o.isCells = false) (h2 : o.isWalk = false) : KpB n0 b W (W.putObj l o') := KpB.of_below (belowK_b hn W l o o' hl h h1 h2)
/-- a setting as it is handed on: its place, and itself -/
abbrev BX := { x : Int × SetE // x.2.1.length ≤ 1000 }
def setA (p : SetE) : Value := .agg #[.string (strB p.1), .string (strB p.2)]
def encB (x : BX) : Array Value := #[.int .i64 x.1.1, setA x.1.2]
set_option maxRecDepth 100000 in
set_option maxHeartbeats 2000000 in
theorem back1_in (n : Nat) (hn : 1 ≤ n) (l Bs n0 b : Nat) (A : Option Addr) (cap : Nat) (zs : List SetE) (hreach : zs.length ≤ 1000000000) (hall : ∀ p ∈ zs, p.1.length ≤ 1000) (J Jx : List BX → World → Prop)
    (hY : ∀ pre x W, J pre W → pre.length < zs.length → YieldAt Fence.wide (n - 1) Tryz.prog l (encB x) W fun e W' => (e = .returned (.bool true) ∧ J (pre ++ [x]) W' ∧ KpB n0 b W W') ∨ (e = .returned (.bool false) ∧ Jx (pre ++ [x]) W'))
    (W : World) (hBs : W.cell? ⟨Bs, 0, none⟩ = some (.slice A zs.length cap)) (hc : ∀ W', KpB n0 b W W' → W'.cell? ⟨Bs, 0, none⟩ = some (.slice A zs.length cap)) (hr : ∀ W', KpB n0 b W W' → Rd W' 2 A zs.length (setsV zs)) (h0 : J [] W) :
    CallsIn Fence.wide n Tryz.prog 51 #[.func (.yield l) #[] #[], .pointer (some ⟨Bs, 0, none⟩)] W fun e W' => (∃ v, e = .returned v) ∧ ((∃ ys, ys.map (·.1.2) = zs.reverse ∧ J ys W') ∨ (∃ pre, True ∧ Jx pre W')) := by
  have h7 := wide_fn 51
  obtain ⟨len, hlen⟩ : ∃ len, len = zs.length := ⟨_, rfl⟩
  rw [← hlen] at hreach hY hBs hc hr
  refine callsIn_of_wp Tryz.func51 rfl h7 ?_ rfl
  simp only [Tryz.ntmps51, List.size_toArray, List.length_cons, List.length_nil, Nat.reduceAdd, Nat.reduceSub, Array.replicate_succ, Array.replicate_zero, List.push_toArray, List.append_toArray, List.nil_append, List.cons_append]
  gi_wp2
  gi_loopw [3] (fun i wr => ∃ (q : Nat) (ys : List BX) (i' : Int), i = .int .i64 i' ∧ i' = (q : Int) - 1 ∧ q ≤ len ∧ ys.map (·.1.2) = (zs.drop q).reverse ∧ J ys wr ∧ KpB n0 b W wr) (fun i _ => (intOf i + 1).toNat)
  case atStart => exact ⟨len, [], _, rfl, by omega, Nat.le_refl _, by rw [hlen, List.drop_length]; rfl, h0, KpB.refl _ _ _⟩
  case round =>
    obtain ⟨q, ys, i', rfl, hi', hq, hys, hJs, hnx⟩ := hrel
    by_cases hlt : 0 < q
    · obtain ⟨p, rfl⟩ : ∃ p, q = p + 1 := ⟨q - 1, by omega⟩
      obtain rfl : i' = (p : Int) := by omega
      clear hi'
      obtain ⟨x, hx⟩ : ∃ x, zs[p]? = some x := ⟨_, List.getElem?_eq_getElem (by omega)⟩
      have hts : (zs.drop p).reverse = (zs.drop (p + 1)).reverse ++ [x] := by
        obtain ⟨hp, rfl⟩ := List.getElem?_eq_some_iff.1 hx
        rw [List.drop_eq_getElem_cons hp, List.reverse_cons]
      obtain ⟨b', o, rfl, hcell⟩ := (hr wr hnx).2 (by omega)
      have hcx : wr.cell? ⟨b', o + p * 2, none⟩ = some (.string (strB x.1)) := hcell (p * 2) _ (setsV_get hx).1
      have hcy : wr.cell? ⟨b', o + p * 2 + 1, none⟩ = some (.string (strB x.2)) := hcell (p * 2 + 1) _ (setsV_get hx).2
      have hcb := hc wr hnx
      have hlx := hall x (List.mem_of_getElem? hx)
      have hyl : ys.length < len := by
        have := congrArg List.length hys
        rw [List.length_map, List.length_reverse, List.length_drop] at this
        omega
      have hy0 := hY ys ⟨((p : Int), x), hlx⟩ wr hJs hyl
      have hsnoc : (ys ++ [(⟨((p : Int), x), hlx⟩ : BX)]).map (·.1.2) = (zs.drop p).reverse := by rw [List.map_append, hys, hts]; rfl
      unfold encB setA at hy0
      simp only at hy0
      obtain ⟨fn, tmps, assign, body, hy, hR⟩ := hy0
      have hk0 : (0 : Int) ≤ p := by omega
      have hkl : (p : Int) < len := by omega
      have HSN := hid2 hsnoc
      have HX := hid2 hx
      clear hx hts hcell hys hsnoc
      gi_wp2
      refine hR.mono ?_
      rintro e W3 (⟨rfl, hJ3, hk3⟩ | ⟨rfl, hJx3⟩)
      · gi_wp2
        go_roundw
        case rel => exact ⟨p, _, _, rfl, by omega, by omega, HSN.out, hJ3, hnx.trans hk3⟩
        case measure => simp [intOf]
      · gi_wp2
        refine bodyPost_ret (results_none rfl _ _ _) rfl ?_
        exact ⟨⟨_, rfl⟩, .inr ⟨_, trivial, hJx3⟩⟩
    · obtain rfl : q = 0 := by omega
      obtain rfl : i' = -1 := by omega
      clear hi'
      rw [List.drop_zero] at hys
      have HYS := hid2 hys
      clear hys
      gi_wp2
      go_end0
      exact ⟨⟨_, rfl⟩, .inl ⟨_, HYS.out, hJs⟩⟩
theorem back_any (w : World) (a : Option Addr) (len cap : Nat) :
    Calls Tryz.prog 27 #[.slice a len cap] w fun e w' => e = .returned (.func (.func 51) #[] #[.pointer (some ⟨w.heap.size, 0, none⟩)]) ∧ w' = w.alloc (.cells #[.slice a len cap] 27) := by
  go_enter Tryz.func27, Tryz.ntmps27
  go_wp2
  go_ret
  exact ⟨rfl, rfl⟩
/-- the row's settings, from its end on, to a body that keeps all below n0 but for block b -/
theorem back_stops (n : Nat) (hn : 1 ≤ n) (Bs n0 b : Nat) (A : Option Addr) (cap : Nat) (zs : List SetE) (hreach : zs.length ≤ 1000000000) (hall : ∀ p ∈ zs, p.1.length ≤ 1000) (w : World) (hBs : Bs < n0) (hBb : Bs ≠ b) (hn0 : n0 ≤ w.heap.size)
    (hc : w.heap[Bs]? = some (.cells #[.slice A zs.length cap] 27 (0, 0))) (hr : ∀ W', KpB n0 b w W' → Rd W' 2 A zs.length (setsV zs)) :
    SeqStopsK Fence.wide n Tryz.prog 51 #[.pointer (some ⟨Bs, 0, none⟩)] encB (KpB n0 b) (fun ys => ys.map (·.1.2) = zs.reverse) (fun _ => True) zs.length w := fun l J Jx W hW _ _ hY h0 => by
  have hK : ∀ W', KpB n0 b W W' → KpB n0 b w W' := fun W' h => (KpB.of_below (hW.mono hn0)).trans h
  have hcc : ∀ W', KpB n0 b W W' → W'.cell? ⟨Bs, 0, none⟩ = some (.slice A zs.length cap) := fun W' h => cell_of_row W' Bs 0 _ _ _ (((hK W' h).keep Bs hBs hBb).trans hc)
  refine (back1_in n hn l Bs n0 b A cap zs hreach hall J Jx hY W (hcc W (KpB.refl _ _ _)) hcc (fun W' h => hr W' (hK W' h)) h0).mono ?_
  rintro e W' ⟨he, ⟨ys, hp, hj⟩ | ⟨pre, hp, hj⟩⟩
  · exact ⟨he, .inl ⟨_, hp, hj⟩⟩
  · exact ⟨he, .inr ⟨pre, hp, hj⟩⟩
end Go.Proofs.YtjjpecggcjggpaaGreatDoor
