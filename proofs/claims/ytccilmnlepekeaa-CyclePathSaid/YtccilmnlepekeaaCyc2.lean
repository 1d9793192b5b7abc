/- The order of a graph: what both of them pick; the reference's Order; great. -/
import Derived.Test.YtccilmnlepekeaaCyc1
import Derived.Test.YtccilmnlepekeaaBox
namespace Go.Proofs.Ytccilmnlepekeaa
open Go.RowKit
/-- what great answers -/
def G18Post (w : World) (G : List (List Int)) (e : Ending) (w' : World) : Prop := ∃ v : Bool, e = .returned (.bool v) ∧ (v = false → Small G) ∧ w' = w
def lenSum (G : List (List Int)) : Nat := (G.map List.length).sum
theorem lenSum_take {G : List (List Int)} {k : Nat} {row : List Int} (h : G[k]? = some row) : lenSum (G.take (k + 1)) = lenSum (G.take k) + row.length := by
  obtain ⟨hk, hx⟩ := List.getElem?_eq_some_iff.1 h
  rw [List.take_succ_eq_append_getElem hk, hx, lenSum, lenSum, List.map_append, List.sum_append]
  simp
theorem lenSum_row : ∀ {G : List (List Int)} {i : Nat} {row : List Int}, G[i]? = some row → row.length ≤ lenSum G
  | [], i, row, h => by simp at h
  | r :: G, 0, row, h => by
    obtain rfl := Option.some.inj (show some r = some row by simpa using h)
    simp [lenSum]
  | r :: G, i + 1, row, h => by
    have := lenSum_row (G := G) (i := i) (by simpa using h)
    simp only [lenSum, List.map_cons, List.sum_cons] at this ⊢
    omega
set_option maxRecDepth 100000 in
set_option maxHeartbeats 1000000 in
theorem great18_any (w : World) (A : Option Addr) (c : Nat) (G : List (List Int)) (hg : GRd w A G) (hl : G.length ≤ 8796093022208) (hr : ∀ (i : Nat) (row : List Int), G[i]? = some row → row.length ≤ 140737488355328) :
    Calls Try.prog 9 #[.slice A G.length c] w fun e w' => G18Post w G e w' := by
  obtain ⟨N, hN⟩ : ∃ N, N = G.length := ⟨_, rfl⟩
  rw [← hN] at hl ⊢
  have HG := hid2 hg
  have HR := hid2 hr
  have HN := hid2 hN
  clear hg hr hN
  go_enter Try.func9, Try.ntmps9
  go_wp2_with fail
  go_loopg [3, 5, 8] N (fun gk s x q wr => ∃ (k t : Nat), k + gk = N ∧ q = .int .i64 k ∧ s = .int .i64 t ∧ t = lenSum (G.take k) ∧ t ≤ 300 ∧ wr = w)
  case atStart => exact ⟨0, 0, by omega, rfl, rfl, rfl, by omega, rfl⟩
  case round =>
    obtain ⟨k, t, hk, rfl, rfl, ht, ht3, rfl⟩ := hrel
    have HT := hid2 ht
    clear ht
    by_cases hlt : k < N
    · have hlt' : (k : Int) < N := by omega
      have hk0 : (0 : Int) ≤ k := by omega
      obtain ⟨row, hrow⟩ : ∃ row, G[k]? = some row := ⟨_, List.getElem?_eq_getElem (by rw [← HN.out]; exact hlt)⟩
      obtain ⟨a, o, B, c2, rfl, c1, _⟩ := HG.out.row hrow
      have hrl := HR.out k row hrow
      have hst := lenSum_take hrow
      rw [← HT.out] at hst
      obtain ⟨L, hL⟩ : ∃ L, L = row.length := ⟨_, rfl⟩
      rw [← hL] at c1 hrl hst
      have hw : IntKind.i64.wrap ((t : Int) + L) = (t : Int) + L := IntWalk.i64_in _ (by constructor <;> omega)
      have HST := hid2 hst
      clear hst hrow hL hlt
      by_cases h3 : t + L ≤ 300
      · have g3 : ((300 : Int) < (t : Int) + L) = False := eq_false (by omega)
        go_wp2_with fail
        go_roundg (gk - 1)
        case rel => exact ⟨k + 1, t + L, by omega, by go_num, by go_num, HST.out.symm, h3, rfl⟩
        case measure => omega
      · have g3 : ((300 : Int) < (t : Int) + L) = True := eq_true (by omega)
        go_wp2_with fail
        go_ret
        exact ⟨true, rfl, (fun h => by cases h), rfl⟩
    · have hkN : k = N := by omega
      have hlt' : ¬ (k : Int) < N := by omega
      have HS := hid2 (show N ≤ 25 → Small G from fun h25 => ⟨by rw [← HN.out]; exact h25, fun i row hi => by
        have h1 := lenSum_row hi
        have h2 := HT.out
        rw [hkN, HN.out, List.take_length] at h2
        omega⟩)
      clear hkN hlt
      by_cases h25 : N ≤ 25
      · have g25 : ((25 : Int) < (N : Int)) = False := eq_false (by omega)
        have g25' : decide ((25 : Int) < (N : Int)) = false := decide_eq_false (by omega)
        have g25n : decide (25 < N) = false := decide_eq_false (by omega)
        go_wp2_with fail
        go_ret
        exact ⟨false, rfl, fun _ => HS.out h25, rfl⟩
      · have g25 : ((25 : Int) < (N : Int)) = True := eq_true (by omega)
        have g25' : decide ((25 : Int) < (N : Int)) = true := decide_eq_true (by omega)
        have g25n : decide (25 < N) = true := decide_eq_true (by omega)
        go_wp2_with fail
        go_ret
        exact ⟨true, rfl, (fun h => by cases h), rfl⟩
/-! the order -/
def mayG (G : List (List Int)) (th : List Bool) (i : Nat) : Bool := !(th.getD i false) && readyG G th i
def pickG (G : List (List Int)) (th : List Bool) : Option Nat := (List.range G.length).find? (mayG G th)
def ordS (G : List (List Int)) : Nat → Option (List Nat × List Bool)
  | 0 => some ([], List.replicate G.length false)
  | k + 1 => match ordS G k with
    | none => none
    | some (out, th) => match pickG G th with
      | none => none
      | some i => some (out ++ [i], th.set i true)
/-- all nodes in order, if there is one -/
def ordG (G : List (List Int)) : Option (List Nat) := (ordS G G.length).map (·.1)
theorem ordS_none {G : List (List Int)} {k : Nat} (h : ordS G k = none) : ∀ m, ordS G (k + m) = none
  | 0 => h
  | m + 1 => by
    have := ordS_none h m
    rw [← Nat.add_assoc, ordS, this]
theorem ordS_some {G : List (List Int)} : ∀ {k : Nat} {out : List Nat} {th : List Bool}, ordS G k = some (out, th) → out.length = k ∧ th.length = G.length
  | 0, out, th, h => by
    simp only [ordS, Option.some.injEq, Prod.mk.injEq] at h
    obtain ⟨rfl, rfl⟩ := h
    simp
  | k + 1, out, th, h => by
    rw [ordS] at h
    cases hk : ordS G k with
    | none => rw [hk] at h; cases h
    | some p =>
      obtain ⟨o, t⟩ := p
      rw [hk] at h
      have ih := ordS_some hk
      simp only at h
      cases hp : pickG G t with
      | none => rw [hp] at h; cases h
      | some i =>
        rw [hp] at h
        simp only [Option.some.injEq, Prod.mk.injEq] at h
        obtain ⟨rfl, rfl⟩ := h
        simp [ih.1, ih.2]
/-- numbers of nodes, as cells -/
def natV (l : List Nat) : List Value := intV (l.map fun (x : Nat) => (x : Int))
theorem natV_snoc (l : List Nat) (x : Nat) : natV (l ++ [x]) = natV l ++ [.int .i64 x] := by simp [natV, intV]
theorem natV_length (l : List Nat) : (natV l).length = l.length := by simp [natV, intV]
theorem Box.rd {w : World} {g : Nat} {cs : List Value} (h : Box w g cs) {n : Nat} (hn : cs.length = n) : Rd w 1 (some ⟨g, 0, none⟩) n cs :=
  ⟨by omega, fun _ => ⟨g, 0, rfl, fun j u hu => by rw [Nat.zero_add, h.cells j, hu]⟩⟩
theorem wpList_made {P : Program} {w w' : World} {ops : Array Oper} {rest : List Oper} {a : Act} {Q : Exit → Act → World → Prop} {dst : Option Tmp} {t tt : TypeId} {l c : Operand} {pos : String} {after : Array Edge} {v1 v2 r : Value}
    (hr : (Instr.makeSlice t v1 v2).run P w = .ok r w') (hx : a.eval l = v1 ∧ a.eval c = v2) (h : wpList P ops Q rest (a.put dst r) w') : wpList P ops Q (⟨dst, .makeSlice t l c, tt, pos, after, none⟩ :: rest) a w :=
  wpList_plain rfl fun K hK => by
    unfold Oper.wp execOp
    simp [hx.1, hx.2, hr]
    exact hK _ _ h
theorem info_bool1 : (Try.prog.info? 4).map (fun i => (i.zero, i.size, i.bytes)) = some (some (.bool false), 1, 1) := by kernel_rfl
theorem info_int1 : (Try.prog.info? 3).map (fun i => (i.zero, i.size, i.bytes)) = some (some (.int .i64 0), 1, 8) := by kernel_rfl
theorem made_bool (w : World) (m : Nat) (hm : m ≤ 1000) : (Instr.makeSlice 34 (.int .i64 (m : Int)) (.int .i64 (m : Int))).run Try.prog w = .ok (.slice (some ⟨w.heap.size, 0, none⟩) m m) (w.alloc (.cells (boolV (List.replicate m false)).toArray 4)) := by
  have h := info_bool1
  cases hi : Try.prog.info? 4 with
  | none => rw [hi] at h; cases h
  | some i =>
    rw [hi] at h
    simp only [Option.map_some, Option.some.injEq, Prod.mk.injEq] at h
    obtain ⟨hz, hs, hb⟩ := h
    rw [run_make w 34 4 i (.bool false) Try.underlying34 hi hz .i64 .i64 m m (by omega) (Int.le_refl _) (by rw [hb]; omega) (by omega), Int.toNat_natCast, hs, Nat.mul_one]
    have e : madeCells (Value.bool false).cells m = (boolV (List.replicate m false)).toArray := by
      have := toList_madeCells_one (Value.bool false) m
      rw [show (Value.bool false).cells = #[Value.bool false] from rfl, ← Array.toArray_toList (xs := madeCells #[Value.bool false] m), this]
      simp [boolV]
    rw [e]
theorem made_int (w : World) (m : Nat) (hm : m ≤ 1000) : (Instr.makeSlice 25 (.int .i64 (m : Int)) (.int .i64 (m : Int))).run Try.prog w = .ok (.slice (some ⟨w.heap.size, 0, none⟩) m m) (w.alloc (.cells (intV (List.replicate m 0)).toArray 3)) := by
  have h := info_int1
  cases hi : Try.prog.info? 3 with
  | none => rw [hi] at h; cases h
  | some i =>
    rw [hi] at h
    simp only [Option.map_some, Option.some.injEq, Prod.mk.injEq] at h
    obtain ⟨hz, hs, hb⟩ := h
    rw [run_make w 25 3 i (.int .i64 0) Try.underlying25 hi hz .i64 .i64 m m (by omega) (Int.le_refl _) (by rw [hb]; omega) (by omega), Int.toNat_natCast, hs, Nat.mul_one]
    have e : madeCells (Value.int .i64 0).cells m = (intV (List.replicate m 0)).toArray := by
      have := toList_madeCells_one (Value.int .i64 0) m
      rw [show (Value.int .i64 0).cells = #[Value.int .i64 0] from rfl, ← Array.toArray_toList (xs := madeCells #[Value.int .i64 0] m), this]
      simp [intV]
    rw [e]
end Go.Proofs.Ytccilmnlepekeaa
