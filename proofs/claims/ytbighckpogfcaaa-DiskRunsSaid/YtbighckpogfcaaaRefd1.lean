/- The reference's disk as a row of files: At, Read. -/
import Derived.Test.YtbighckpogfcaaaDisk9
namespace Go.Proofs.Ytbighckpogfcaaa
open Go.RowKit Go.Maps
/-- a file's three cells -/
def rfV (x : List UInt8 × FileE) : List Value := [.string (strB x.1), .string (strB x.2.1), .int .i64 x.2.2]
def rfsV (M : Tab FileE) : List Value := M.flatMap rfV
theorem rfsV_length : ∀ M : Tab FileE, (rfsV M).length = M.length * 3
  | [] => rfl
  | x :: r => by
    have h := rfsV_length r
    simp only [rfsV, List.flatMap_cons, List.length_append, List.length_cons] at h ⊢
    rw [h]
    simp [rfV]
    omega
theorem rfsV_get : ∀ (M : Tab FileE) (k : Nat) (x : List UInt8 × FileE) (i : Nat) (v : Value), M[k]? = some x → (rfV x)[i]? = some v → (rfsV M)[k * 3 + i]? = some v
  | [], k, x, i, v, h, _ => by simp at h
  | y :: r, k, x, i, v, h, hv => by
    have hi : i < 3 := by
      have := (List.getElem?_eq_some_iff.1 hv).1
      simpa [rfV] using this
    cases k with
    | zero =>
      obtain rfl := Option.some.inj (show some y = some x by simpa using h)
      rw [rfsV, List.flatMap_cons, Nat.zero_mul, Nat.zero_add, List.getElem?_append_left (by simp [rfV]; omega)]
      exact hv
    | succ k =>
      have := rfsV_get r k x i v (by simpa using h) hv
      rw [rfsV, List.flatMap_cons, List.getElem?_append_right (by simp [rfV]; omega)]
      rw [show (k + 1) * 3 + i - (rfV y).length = k * 3 + i by simp [rfV]; omega]
      exact this
theorem rf_cells {w : World} {A : Option Addr} {M : Tab FileE} (hr : Rd w 3 A M.length (rfsV M)) {k : Nat} {x : List UInt8 × FileE} (h : M[k]? = some x) :
    ∃ b o, A = some ⟨b, o, none⟩ ∧ w.cell? ⟨b, o + k * 3, none⟩ = some (.string (strB x.1)) ∧ w.cell? ⟨b, o + k * 3 + 1, none⟩ = some (.string (strB x.2.1)) ∧ w.cell? ⟨b, o + k * 3 + 2, none⟩ = some (.int .i64 x.2.2) := by
  have hk : k < M.length := (List.getElem?_eq_some_iff.1 h).1
  obtain ⟨b, o, rfl, hc⟩ := hr.2 (by omega)
  refine ⟨b, o, rfl, hc _ _ (rfsV_get M k x 0 _ h rfl), ?_, ?_⟩
  · rw [Nat.add_assoc]; exact hc _ _ (rfsV_get M k x 1 _ h rfl)
  · rw [Nat.add_assoc]; exact hc _ _ (rfsV_get M k x 2 _ h rfl)
/-- what At answers -/
def AtIs (M : Tab FileE) (k : List UInt8) (v : Int) : Prop := (∃ i x, M[i]? = some x ∧ x.1 = k ∧ v = (i : Nat)) ∨ v = -1 ∧ ∀ x ∈ M, x.1 ≠ k
set_option maxRecDepth 100000 in
theorem at07m_any (w : World) (A : Option Addr) (c : Nat) (M : Tab FileE) (left : Int) (hr : Rd w 3 A M.length (rfsV M)) (hl : M.length ≤ 1000000000) (s : ByteArray) :
    Calls Try.prog 64 #[.agg #[.slice A M.length c, .int .i64 left], .string s] w fun e w' => ∃ v, e = .returned (.int .i64 v) ∧ AtIs M s.data.toList v ∧ Below w.heap.size w w' := by
  obtain ⟨N, hN⟩ : ∃ N, N = M.length := ⟨_, rfl⟩
  have hB : Below w.heap.size w (w.alloc (.cells #[.slice A N c, .int .i64 left] 46)) := (Below.refl _ _).alloc (Nat.le_refl _) _
  have HR := hid2 hr
  rw [← hN] at hl ⊢
  have HN := hid2 hN
  clear hr hN
  go_enter Try.func64, Try.ntmps64
  go_wp2_with fail
  go_loopg [10] N (fun gk i wr => ∃ k : Nat, k + gk = N ∧ i = .int .i64 k ∧ (∀ j x, j < k → M[j]? = some x → x.1 ≠ s.data.toList) ∧ Below w.heap.size w wr)
  case atStart => exact ⟨0, by omega, rfl, fun j x hj => absurd hj (Nat.not_lt_zero _), hB⟩
  case round =>
    obtain ⟨k, hk, rfl, hno, hb⟩ := hrel
    have hHw := hb.size
    have HNO := hid2 hno
    by_cases hlt : k < N
    · have hlt' : (k : Int) < N := by omega
      obtain ⟨x, hx⟩ : ∃ x, M[k]? = some x := ⟨_, List.getElem?_eq_getElem (by rw [← HN.out]; exact hlt)⟩
      obtain ⟨b, o, rfl, c0, c1, c2⟩ := rf_cells (HR.out.below_all hb) hx
      obtain ⟨S, hS⟩ : ∃ S, S = strB x.1 := ⟨_, rfl⟩
      obtain ⟨T, hT⟩ : ∃ T, T = strB x.2.1 := ⟨_, rfl⟩
      obtain ⟨U, hU⟩ : ∃ U : Int, U = x.2.2 := ⟨_, rfl⟩
      rw [← hS] at c0
      rw [← hT] at c1
      rw [← hU] at c2
      have HX := hid2 hx
      have HS := hid2 hS
      clear hno hx hS hT hU
      by_cases he : S = s
      · have he2 : x.1 = s.data.toList := by rw [← he, HS.out, strB_list]
        have HE := hid2 he2
        clear he2
        subst he
        go_wp2_with fail
        go_ret
        exact ⟨_, rfl, .inl ⟨k, x, HX.out, HE.out, rfl⟩, hb.alloc hHw _⟩
      · have he2 : (S.toList == s.toList) = false := by rw [ByteArray.toList_eq, ByteArray.toList_eq]; exact beq_eq_false_iff_ne.2 (fun h => he (bytes_ext h))
        have he3 : x.1 ≠ s.data.toList := fun h => he (bytes_ext (by rw [HS.out, strB_list]; exact h))
        have HE := hid2 he3
        clear he3
        go_wp2_with fail
        go_roundg (gk - 1)
        case rel =>
          refine ⟨k + 1, by omega, by go_num, fun j y hj hy => ?_, hb.alloc hHw _⟩
          rcases Nat.lt_succ_iff_lt_or_eq.1 hj with h | rfl
          · exact HNO.out j y h hy
          · rw [HX.out] at hy
            obtain rfl := Option.some.inj hy
            exact HE.out
        case measure => omega
    · have hkN : k = N := by omega
      have hlt' : ¬ (k : Int) < N := by omega
      have HKN := hid2 hkN
      clear hno hkN hlt
      go_wp2_with fail
      go_ret
      refine ⟨_, rfl, .inr ⟨rfl, fun x hx => ?_⟩, hb⟩
      obtain ⟨j, hj⟩ := List.getElem?_of_mem hx
      exact HNO.out j x (by have := (List.getElem?_eq_some_iff.1 hj).1; rw [HKN.out, HN.out]; exact this) hj
end Go.Proofs.Ytbighckpogfcaaa
