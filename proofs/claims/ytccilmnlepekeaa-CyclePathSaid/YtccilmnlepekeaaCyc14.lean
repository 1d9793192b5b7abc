/- slices.IndexFunc and ContainsFunc on a row of numbers, with a function value that only reads. -/
import Derived.Test.YtccilmnlepekeaaCyc13
namespace Go.Proofs.Ytccilmnlepekeaa
open Go.RowKit
/-- the first one's place; -1 -/
def idxP (p : Int → Bool) (row : List Int) : Int := match row.findIdx? p with
  | some q => (q : Int)
  | none => -1
theorem any_take_succ {row : List Int} {q : Nat} {x : Int} (p : Int → Bool) (h : row[q]? = some x) : (row.take (q + 1)).any p = ((row.take q).any p || p x) := by
  obtain ⟨hq, hx⟩ := List.getElem?_eq_some_iff.1 h
  rw [List.take_succ_eq_append_getElem hq, hx, List.any_append]
  simp
theorem idxP_at {row : List Int} {q : Nat} {x : Int} {p : Int → Bool} (h : row[q]? = some x) (h1 : (row.take q).any p = false) (h2 : p x = true) : idxP p row = q := by
  obtain ⟨hq, hx⟩ := List.getElem?_eq_some_iff.1 h
  have : row.findIdx? p = some q := by
    rw [List.findIdx?_eq_some_iff_getElem]
    refine ⟨hq, by rw [hx]; exact h2, fun j hj => ?_⟩
    have h3 := List.any_eq_false.1 h1 row[j] (by
      rw [List.mem_iff_getElem]
      exact ⟨j, by simp; omega, by simp⟩)
    simpa using h3
  rw [idxP, this]
theorem idxP_none {row : List Int} {p : Int → Bool} (h1 : row.any p = false) : idxP p row = -1 := by
  have : row.findIdx? p = none := by
    rw [List.findIdx?_eq_none_iff]
    intro x hx
    have := List.any_eq_false.1 h1 x hx
    simpa using this
  rw [idxP, this]
theorem idxP_some {row : List Int} {p : Int → Bool} (h1 : row.any p = true) : ∃ (q : Nat) (x : Int), idxP p row = q ∧ row[q]? = some x ∧ row.find? p = some x ∧ p x = true := by
  cases hf : row.findIdx? p with
  | none =>
    rw [List.findIdx?_eq_none_iff] at hf
    obtain ⟨x, hx, hp⟩ := List.any_eq_true.1 h1
    rw [hf x hx] at hp
    cases hp
  | some q =>
    have h := List.findIdx?_eq_some_iff_getElem.1 hf
    obtain ⟨hq, hp, hb⟩ := h
    refine ⟨q, row[q], by rw [idxP, hf], List.getElem?_eq_getElem hq, ?_, hp⟩
    rw [List.find?_eq_some_iff_getElem]
    exact ⟨hp, q, hq, rfl, fun j hj => by have := hb j hj; simpa using this⟩
set_option maxRecDepth 100000 in
set_option maxHeartbeats 1000000 in
theorem index_any (w : World) (B : Option Addr) (c : Nat) (row : List Int) (hr : Rd w 1 B row.length (intV row)) (hl : row.length ≤ 1000) (f : Nat) (ca : Array Value) (heg : Enters Try.prog f) (p : Int → Bool)
    (hc : ∀ W, Below w.heap.size w W → ∀ x ∈ row, Calls Try.prog f (#[.int .i64 x] ++ ca) W fun e w' => e = .returned (.bool (p x)) ∧ Below W.heap.size W w') :
    Calls Try.prog 34 #[.slice B row.length c, .func (.func f) #[] ca] w fun e w' => e = .returned (.int .i64 (idxP p row)) ∧ Below w.heap.size w w' := by
  obtain ⟨L, hL⟩ : ∃ L, L = row.length := ⟨_, rfl⟩
  obtain ⟨E, hE⟩ : ∃ E, E = idxP p row := ⟨_, rfl⟩
  rw [← hL] at hr hl ⊢
  rw [← hE]
  have hat := fun (q : Nat) (x : Int) (h : row[q]? = some x) (h1 : (row.take q).any p = false) (h2 : p x = true) => idxP_at h h1 h2
  have hno := fun (h : row.any p = false) => idxP_none h
  have hts := fun (q : Nat) (x : Int) (h : row[q]? = some x) => any_take_succ p h
  rw [← hE] at hat hno
  have eg : ∀ (args : Array Value) (w : World), (callFunc f args).run Try.prog w = .ok (.enter f args) w := heg
  have HR := hid2 hr
  have HL := hid2 hL
  have HC := hid2 hc
  have HAT := hid2 hat
  have HNO := hid2 hno
  have HTS := hid2 hts
  clear hr hL hc hE heg hat hno hts
  go_enter Try.func34, Try.ntmps34
  go_wp2_with fail
  go_loopg [5, 8] L (fun gk x5 qv wr => ∃ q : Nat, q + gk = L ∧ qv = .int .i64 q ∧ (row.take q).any p = false ∧ Below w.heap.size w wr)
  case atStart => exact ⟨0, by omega, rfl, rfl, Below.refl _ _⟩
  case round =>
    obtain ⟨q, hq, rfl, hany, hlow⟩ := hrel
    have HANY := hid2 hany
    have HLOW := hid2 hlow
    clear hany hlow
    by_cases hqL : q < L
    · have hqL' : (q : Int) < L := by omega
      have hq0 : (0 : Int) ≤ q := by omega
      obtain ⟨x, hx⟩ : ∃ x, row[q]? = some x := ⟨_, List.getElem?_eq_getElem (by rw [← HL.out]; exact hqL)⟩
      obtain ⟨b, o, rfl, cx⟩ := int_cell (HR.out.below_all HLOW.out) hx
      have hcx := HC.out wr HLOW.out x (List.mem_of_getElem? hx)
      have HX := hid2 hx
      obtain ⟨v, hv⟩ : ∃ v, v = p x := ⟨_, rfl⟩
      rw [← hv] at hcx
      have HCX := hid2 hcx
      have HV := hid2 hv
      clear hx hcx hqL hv
      cases v with
      | true =>
        go_wp2_with (first | (refine HCX.out.mono ?_; rintro e w2 ⟨rfl, hb2⟩; have HB2 := hid2 hb2; clear hb2))
        go_ret
        exact ⟨by rw [HAT.out q x HX.out HANY.out HV.out.symm]; rfl, HLOW.out.trans (HB2.out.mono HLOW.out.size)⟩
      | false =>
        go_wp2_with (first | (refine HCX.out.mono ?_; rintro e w2 ⟨rfl, hb2⟩; have HB2 := hid2 hb2; clear hb2))
        go_roundg (gk - 1)
        case rel => exact ⟨q + 1, by omega, by go_num, by rw [HTS.out q x HX.out, HANY.out, ← HV.out]; rfl, HLOW.out.trans (HB2.out.mono HLOW.out.size)⟩
        case measure => omega
    · have hqL2 : q = L := by omega
      have hqL' : ¬ (q : Int) < L := by omega
      have HE := hid2 (HNO.out (by have h := HANY.out; rwa [hqL2, HL.out, List.take_length] at h))
      clear hqL hqL2
      go_wp2_with fail
      go_ret
      exact ⟨by rw [HE.out]; rfl, HLOW.out⟩
theorem idxP_ge (p : Int → Bool) (row : List Int) : decide (0 ≤ idxP p row) = row.any p := by
  cases ha : row.any p with
  | true =>
    obtain ⟨q, x, h, _⟩ := idxP_some ha
    rw [h]
    simp
  | false =>
    rw [idxP_none ha]
    rfl
theorem idxP_bound (p : Int → Bool) (row : List Int) (hl : row.length ≤ 1000) : -1 ≤ idxP p row ∧ idxP p row ≤ 1000 := by
  cases ha : row.any p with
  | true =>
    obtain ⟨q, x, h, h2, _⟩ := idxP_some ha
    have := (List.getElem?_eq_some_iff.1 h2).1
    omega
  | false => rw [idxP_none ha]; omega
set_option maxRecDepth 100000 in
theorem contains_any (w : World) (B : Option Addr) (c : Nat) (row : List Int) (hr : Rd w 1 B row.length (intV row)) (hl : row.length ≤ 1000) (f : Nat) (ca : Array Value) (heg : Enters Try.prog f) (p : Int → Bool)
    (hc : ∀ W, Below w.heap.size w W → ∀ x ∈ row, Calls Try.prog f (#[.int .i64 x] ++ ca) W fun e w' => e = .returned (.bool (p x)) ∧ Below W.heap.size W w') :
    Calls Try.prog 24 #[.slice B row.length c, .func (.func f) #[] ca] w fun e w' => e = .returned (.bool (row.any p)) ∧ Below w.heap.size w w' := by
  have HI := hid2 (index_any w B c row hr hl f ca heg p hc)
  have hge := idxP_ge p row
  obtain ⟨b1, b2⟩ := idxP_bound p row hl
  rw [← hge]
  clear hr hc hge
  obtain ⟨E, hE⟩ : ∃ E, E = idxP p row := ⟨_, rfl⟩
  rw [← hE] at HI b1 b2 ⊢
  obtain ⟨L, hL⟩ : ∃ L, L = row.length := ⟨_, rfl⟩
  rw [← hL] at HI ⊢
  clear hE hL hl heg
  go_enter Try.func24, Try.ntmps24
  go_wp2_with (first | (go_at_call 34; refine HI.out.mono ?_; rintro e w2 ⟨rfl, hb2⟩; have HB2 := hid2 hb2; clear hb2))
  go_ret
  exact ⟨rfl, HB2.out⟩
end Go.Proofs.Ytccilmnlepekeaa
