/- The reference's Less and Find. -/
import Derived.Test.YtegkjmmknjhdiaaBlob17
namespace Go.Proofs.Ytegkjmmknjhdiaa
open Go.RowKit Go.Maps Go.Sort Go.Lib
theorem lt_of_first : ∀ (a b : List UInt8) (k : Nat) (x y : UInt8), a.take k = b.take k → a[k]? = some x → b[k]? = some y → x ≠ y → (a < b ↔ x < y)
  | [], _, k, x, y, _, h, _, _ => by simp at h
  | _ :: _, [], k, x, y, _, _, h, _ => by simp at h
  | p :: a, q :: b, 0, x, y, _, h1, h2, hne => by
    obtain rfl : p = x := by simpa using h1
    obtain rfl : q = y := by simpa using h2
    rw [List.cons_lt_cons_iff]
    exact ⟨fun h => h.elim id (fun h => absurd h.1 hne), Or.inl⟩
  | p :: a, q :: b, k + 1, x, y, h, h1, h2, hne => by
    simp only [List.take_succ_cons, List.cons.injEq] at h
    obtain ⟨rfl, h⟩ := h
    rw [List.cons_lt_cons_iff, ← lt_of_first a b k x y h (by simpa using h1) (by simpa using h2) hne]
    exact ⟨fun h => h.elim (fun h => absurd h (UInt8.lt_irrefl p)) (·.2), fun h => Or.inr ⟨rfl, h⟩⟩
theorem cell_dig {w : World} {g : Nat} {a : List UInt8} (h : DigAt w g a) {k : Nat} {x : UInt8} (hx : a[k]? = some x) : w.cell? ⟨g, k, none⟩ = some (.int .u8 x.toNat) := by
  rw [cell_of_row w g k _ _ _ h]
  simp [u8s, hx]
set_option maxRecDepth 100000 in
set_option maxHeartbeats 1000000 in
theorem less_any (w : World) (a b : List UInt8) (ha : a.length = 32) (hb : b.length = 32) :
    Calls Try.prog 36 #[.agg (u8s a).toArray, .agg (u8s b).toArray] w fun e w' => e = .returned (.bool (decide (a < b))) ∧ Below w.heap.size w w' := by
  obtain ⟨W1, hW1⟩ : ∃ W1, W1 = (w.alloc (.cells (u8s a).toArray 39)).alloc (.cells (u8s b).toArray 39) := ⟨_, rfl⟩
  have hs1 : (w.alloc (.cells (u8s a).toArray 39)).heap.size = w.heap.size + 1 := by simp
  have hd1 : DigAt W1 w.heap.size a := by rw [hW1]; exact (Below.heap_alloc _ _ _ (by omega)).trans (heap_alloc_new w _)
  have hd2 : DigAt W1 (w.heap.size + 1) b := by rw [hW1, ← hs1]; exact heap_alloc_new _ _
  have hB1 : Below w.heap.size w W1 := by rw [hW1]; exact ((Below.refl _ w).alloc (Nat.le_refl _) _).alloc (by omega) _
  have HD1 := hid2 hd1
  have HD2 := hid2 hd2
  have HB1 := hid2 hB1
  have HW1 := hid2 hW1
  clear hd1 hd2 hB1 hs1 hW1
  go_enter Try.func36, Try.ntmps36
  go_wp2_with fail
  rw [← HW1.out]
  go_loopg [5] 32 (fun gk i wr => ∃ k : Nat, k + gk = 32 ∧ i = .int .i64 k ∧ a.take k = b.take k ∧ Below W1.heap.size W1 wr)
  case atStart => exact ⟨0, by omega, rfl, rfl, Below.refl _ _⟩
  case round =>
    obtain ⟨k, hk, rfl, htk, hbe⟩ := hrel
    by_cases hlt : k < 32
    · have hlt' : (k : Int) < 32 := by omega
      have hk0 : (0 : Int) ≤ k := by omega
      obtain ⟨x, hx⟩ : ∃ x, a[k]? = some x := ⟨_, List.getElem?_eq_getElem (by omega)⟩
      obtain ⟨y, hy⟩ : ∃ y, b[k]? = some y := ⟨_, List.getElem?_eq_getElem (by omega)⟩
      have c1 : wr.cell? ⟨w.heap.size, k, none⟩ = some (.int .u8 x.toNat) := cell_dig (HD1.out.ext hbe) hx
      have c2 : wr.cell? ⟨w.heap.size + 1, k, none⟩ = some (.int .u8 y.toNat) := cell_dig (HD2.out.ext hbe) hy
      have HTK := hid2 htk
      have HX := hid2 hx
      have HY := hid2 hy
      have HBE := hid2 hbe
      obtain ⟨X, hXX⟩ : ∃ X, X = x.toNat := ⟨_, rfl⟩
      obtain ⟨Y, hYY⟩ : ∃ Y, Y = y.toNat := ⟨_, rfl⟩
      rw [← hXX] at c1
      rw [← hYY] at c2
      have HXX := hid2 hXX
      have HYY := hid2 hYY
      clear htk hx hy hbe hlt hXX hYY
      by_cases he : X = Y
      · have he1 : ((X : Int) == (Y : Int)) = true := by simp [he]
        have he2 : (X : Int) = Y := by omega
        have HE := hid2 he
        clear he
        go_wp2_with fail
        go_quiet (fail)
        go_wp2_with fail
        go_roundg (gk - 1)
        case rel =>
          refine ⟨k + 1, by omega, by go_num, ?_, HBE.out.trans (below_drewN (Below.refl _ _) _)⟩
          rw [List.take_add_one, List.take_add_one, HTK.out, HX.out, HY.out, UInt8.toNat_inj.1 (HXX.out.symm.trans (HE.out.trans HYY.out))]
        case measure => omega
      · have he1 : ((X : Int) == (Y : Int)) = false := by simp; omega
        have he2 : ¬ (X : Int) = Y := by omega
        have hres : decide (a < b) = decide (X < Y) := by
          rw [decide_eq_decide, lt_of_first a b k x y HTK.out HX.out HY.out (fun e => he (by rw [HXX.out, HYY.out, e])), HXX.out, HYY.out, UInt8.lt_iff_toNat_lt]
        have HRES := hid2 hres
        clear he hres
        go_wp2_with fail
        go_quiet (fail)
        go_wp2_with fail
        go_quiet (fail)
        go_wp2_with fail
        go_ret
        exact ⟨by rw [HRES.out]; rfl, HB1.out.trans ((HBE.out.trans (below_drewN (below_drewN (Below.refl _ _) _) _)).mono HB1.out.size)⟩
    · have hkN : k = 32 := by omega
      have hlt' : ¬ (k : Int) < 32 := by omega
      have hab : decide (a < b) = false := by
        have : a = b := by rw [hkN, List.take_of_length_le (by omega), List.take_of_length_le (by omega)] at htk; exact htk
        rw [this]; simp [List.lt_irrefl]
      have HAB := hid2 hab
      have HBE := hid2 hbe
      clear hkN hlt hab htk hbe
      go_wp2_with fail
      go_ret
      exact ⟨by rw [HAB.out]; rfl, HB1.out.trans (HBE.out.mono HB1.out.size)⟩
/-- what Find answers -/
def FindIs (M : BTab) (k : List UInt8) (v : Int) : Prop := (∃ i x, M[i]? = some x ∧ x.1 = k ∧ v = (i : Nat)) ∨ v = -1 ∧ ∀ x ∈ M, x.1 ≠ k
set_option maxRecDepth 100000 in
set_option maxHeartbeats 1000000 in
theorem find_any (w : World) (A : Option Addr) (c : Nat) (M : BTab) (hk : KeysOk M) (hr : Rd w 33 A M.length (blobsV M)) (hl : M.length ≤ 1000000000) (d : List UInt8) (hd : d.length = 32) :
    Calls Try.prog 26 #[.slice A M.length c, .agg (u8s d).toArray] w fun e w' => ∃ v, e = .returned (.int .i64 v) ∧ FindIs M d v ∧ Below w.heap.size w w' := by
  obtain ⟨W1, hW1⟩ : ∃ W1, W1 = w.alloc (.cells (u8s d).toArray 39) := ⟨_, rfl⟩
  have hd1 : DigAt W1 w.heap.size d := by rw [hW1]; exact heap_alloc_new w _
  have hB1 : Below w.heap.size w W1 := by rw [hW1]; exact (Below.refl _ w).alloc (Nat.le_refl _) _
  have hr1 : Rd W1 33 A M.length (blobsV M) := by rw [hW1]; exact hr.alloc _
  obtain ⟨N, hN⟩ : ∃ N, N = M.length := ⟨_, rfl⟩
  rw [← hN] at hl ⊢
  have HR := hid2 hr1
  have HK := hid2 hk
  have HN := hid2 hN
  have HD := hid2 hd1
  have HB1 := hid2 hB1
  have HW1 := hid2 hW1
  clear hr hr1 hN hk hd1 hB1 hW1
  go_enter Try.func26, Try.ntmps26
  go_wp2_with fail
  rw [← HW1.out]
  go_loopg [5] N (fun gk i wr => ∃ k : Nat, k + gk = N ∧ i = .int .i64 k ∧ (∀ j x, j < k → M[j]? = some x → x.1 ≠ d) ∧ Below W1.heap.size W1 wr)
  case atStart => exact ⟨0, by omega, rfl, fun j x hj => absurd hj (Nat.not_lt_zero _), Below.refl _ _⟩
  case round =>
    obtain ⟨k, hk, rfl, hno, hbe⟩ := hrel
    have HNO := hid2 hno
    have HBE := hid2 hbe
    by_cases hlt : k < N
    · have hlt' : (k : Int) < N := by omega
      have hk0 : (0 : Int) ≤ k := by omega
      obtain ⟨x, hx⟩ : ∃ x, M[k]? = some x := ⟨_, List.getElem?_eq_getElem (by rw [← HN.out]; exact hlt)⟩
      have hx32 := HK.out.at_ hx
      obtain ⟨b, o, rfl, hc⟩ := blob_cells HK.out (HR.out.below_all hbe) hx
      have hl1 : ∀ m, (loadVar 39 ⟨b, o + k * 33, none⟩).run Try.prog (wr.drewN m) = .ok (.agg (u8s x.1).toArray) (wr.drewN m) := fun m => blob_dig (w := wr.drewN m) hx32 hc
      have hde := HD.out.ext hbe
      have hl2 : ∀ m, (loadVar 39 ⟨w.heap.size, 0, none⟩).run Try.prog (wr.drewN m) = .ok (.agg (u8s d).toArray) (wr.drewN m) := fun m =>
        run_loadVar_row (wr.drewN m) w.heap.size 39 39 _ (0, 0) _ hde Try.underlying39 rfl (by rw [List.size_toArray]; exact info_h8' hd)
      obtain ⟨X, hX⟩ : ∃ X, X = x.1 := ⟨_, rfl⟩
      rw [← hX] at hx32 hl1
      have heq := run_eq_dig X d hx32 hd
      have HX := hid2 hx
      have HXX := hid2 hX
      have HL1 := hid2 hl1
      have HL2 := hid2 hl2
      clear hno hx hc hbe hl1 hl2 hlt hX hde
      by_cases he : X = d
      · have he2 : (X == d) = true := by simp [he]
        rw [he2] at heq
        have HE := hid2 he
        clear he he2
        go_wp2_with fail
        refine wp_region_quiet_lit (by kernel_rfl) (by kernel_rfl) ?_
        repeat (first | go_big_quiet_step (fail) | (((refine wpQuiet_agg (p := ⟨b, o + k * 33, none⟩) rfl (by rintro _ ⟨m, rfl⟩; exact HL1.out m) ?_); simp only [Act.put, List.setIfInBounds_toArray, List.set_cons_succ, List.set_cons_zero])) | (((refine wpQuiet_agg (p := ⟨w.heap.size, 0, none⟩) rfl (by rintro _ ⟨m, rfl⟩; exact HL2.out m) ?_); simp only [Act.put, List.setIfInBounds_toArray, List.set_cons_succ, List.set_cons_zero])))
        refine wpQuiet_nil ?_
        rintro _ ⟨nq, rfl⟩
        go_wp2_with fail
        go_ret
        exact ⟨_, rfl, .inl ⟨k, x, HX.out, HXX.out.symm.trans HE.out, rfl⟩, HB1.out.trans ((HBE.out.trans (below_drewN (Below.refl _ _) _)).mono HB1.out.size)⟩
      · have he2 : (X == d) = false := by simp [he]
        rw [he2] at heq
        have HE := hid2 he
        clear he he2
        go_wp2_with fail
        refine wp_region_quiet_lit (by kernel_rfl) (by kernel_rfl) ?_
        repeat (first | go_big_quiet_step (fail) | (((refine wpQuiet_agg (p := ⟨b, o + k * 33, none⟩) rfl (by rintro _ ⟨m, rfl⟩; exact HL1.out m) ?_); simp only [Act.put, List.setIfInBounds_toArray, List.set_cons_succ, List.set_cons_zero])) | (((refine wpQuiet_agg (p := ⟨w.heap.size, 0, none⟩) rfl (by rintro _ ⟨m, rfl⟩; exact HL2.out m) ?_); simp only [Act.put, List.setIfInBounds_toArray, List.set_cons_succ, List.set_cons_zero])))
        refine wpQuiet_nil ?_
        rintro _ ⟨nq, rfl⟩
        go_wp2_with fail
        go_roundg (gk - 1)
        case rel =>
          refine ⟨k + 1, by omega, by go_num, fun j y hj hy => ?_, HBE.out.trans (below_drewN (Below.refl _ _) _)⟩
          rcases Nat.lt_succ_iff_lt_or_eq.1 hj with h | rfl
          · exact HNO.out j y h hy
          · rw [HX.out] at hy
            obtain rfl := Option.some.inj hy
            exact fun e => HE.out (HXX.out.trans e)
        case measure => omega
    · have hkN : k = N := by omega
      have hlt' : ¬ (k : Int) < N := by omega
      have HKN := hid2 hkN
      clear hno hkN hlt hbe
      go_wp2_with fail
      go_ret
      refine ⟨_, rfl, .inr ⟨rfl, fun x hx => ?_⟩, HB1.out.trans (HBE.out.mono HB1.out.size)⟩
      obtain ⟨j, hj⟩ := List.getElem?_of_mem hx
      exact HNO.out j x (by have := (List.getElem?_eq_some_iff.1 hj).1; rw [HKN.out, HN.out]; exact this) hj
end Go.Proofs.Ytegkjmmknjhdiaa
