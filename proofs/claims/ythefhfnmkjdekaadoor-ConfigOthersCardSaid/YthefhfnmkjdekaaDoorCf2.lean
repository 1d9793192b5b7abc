/- Settings: why one may not be, in the program and in the document. -/
import Derived.Test.YthefhfnmkjdekaaDoorCf1
namespace Go.Proofs.YthefhfnmkjdekaaDoor
open Go.RowKit
set_option maxRecDepth 100000
def setsV (l : List SetE) : List Value := l.flatMap fun p => [.string (strB p.1), .string (strB p.2)]
theorem setsV_length : ∀ l : List SetE, (setsV l).length = l.length * 2
  | [] => rfl
  | x :: l => by
    have := setsV_length l
    simp only [setsV, List.flatMap_cons, List.length_append, List.length_cons, List.length_nil] at this ⊢
    omega
theorem setsV_get : ∀ {l : List SetE} {k : Nat} {p : SetE}, l[k]? = some p → (setsV l)[k * 2]? = some (.string (strB p.1)) ∧ (setsV l)[k * 2 + 1]? = some (.string (strB p.2))
  | x :: l, 0, p, h => by
    simp only [List.getElem?_cons_zero, Option.some.injEq] at h
    subst h
    simp [setsV]
  | x :: l, k + 1, p, h => by
    have := setsV_get (l := l) (k := k) (p := p) (by simpa using h)
    rw [show (k + 1) * 2 = k * 2 + 2 by omega]
    simpa [setsV] using this
theorem headD_get {s : ByteArray} {l : Tx} (hl : l = s.data.toList) (h0 : 0 < s.size) : l.headD 0 = s[0]'h0 := by
  subst hl
  have h : 0 < s.data.toList.length := by rw [toList_length]; exact h0
  obtain ⟨c, r, hc⟩ : ∃ c r, s.data.toList = c :: r := by
    cases hq : s.data.toList with
    | nil => rw [hq] at h; simp at h
    | cons c r => exact ⟨c, r, rfl⟩
  rw [hc]
  have h2 : s.data.toList[0]'h = s[0]'h0 := by simp; rfl
  rw [← h2]
  simp [hc]
theorem at_get {s : ByteArray} {l : Tx} (hl : l = s.data.toList) {k : Nat} (hk : k < s.size) : l[k]? = some (s[k]'hk) := by
  subst hl
  have h : k < s.data.toList.length := by rw [toList_length]; exact hk
  rw [List.getElem?_eq_getElem h]
  simp
  rfl
theorem isName_short {l : Tx} (h : l.length < 1) : isName l = false := by simp [isName]; omega
theorem isName_long {l : Tx} (h : 64 < l.length) : isName l = false := by simp [isName]; omega
theorem isName_head {l : Tx} (h : (l.headD 0).toNat < 97) : isName l = false := by simp only [isName, Bool.and_eq_false_iff, decide_eq_false_iff_not]; omega
theorem isName_bad {l : Tx} (h : nameB l = false) : isName l = false := by simp [isName, h]
theorem isName_ok {l : Tx} (h1 : 1 ≤ l.length) (h2 : l.length ≤ 64) (h3 : nameB l = true) (h4 : 97 ≤ (l.headD 0).toNat) : isName l = true := by simp only [isName, Bool.and_eq_true, decide_eq_true_eq]; exact ⟨⟨⟨h1, h2⟩, h3⟩, h4⟩
theorem nameB_take {l : Tx} {k : Nat} {c : UInt8} (hc : l[k]? = some c) (hn : nameN c.toNat = false) : nameB l = false := by
  rw [nameB, List.all_eq_false]
  exact ⟨c, List.mem_of_getElem? hc, by simp [hn]⟩
theorem nameB_snoc {l : Tx} {k : Nat} {c : UInt8} (hc : l[k]? = some c) (h : nameB (l.take k) = true) (hn : nameN c.toNat = true) : nameB (l.take (k + 1)) = true := by
  unfold nameB at *
  rw [List.take_add_one, hc, List.all_append, h]
  simp [hn]
theorem valB_take {l : Tx} {k : Nat} {c : UInt8} (hc : l[k]? = some c) (hn : valN c.toNat = false) : valB l = false := by
  rw [valB, List.all_eq_false]
  exact ⟨c, List.mem_of_getElem? hc, by simp [hn]⟩
theorem valB_snoc {l : Tx} {k : Nat} {c : UInt8} (hc : l[k]? = some c) (h : valB (l.take k) = true) (hn : valN c.toNat = true) : valB (l.take (k + 1)) = true := by
  unfold valB at *
  rw [List.take_add_one, hc, List.all_append, h]
  simp [hn]
theorem nameN_head {r : Nat} (h : 122 < r) : nameN r = false := by
  unfold nameN smallN
  simp only [Bool.or_eq_false_iff, Bool.and_eq_false_iff, decide_eq_false_iff_not]
  omega
theorem Rd.set_at {w : World} {A : Option Addr} {n : Nat} {l : List SetE} (h : Rd w 2 A n (setsV l)) {k : Nat} {p : SetE} (hp : l[k]? = some p) : ∃ b o, A = some ⟨b, o, none⟩ ∧ w.cell? ⟨b, o + k * 2, none⟩ = some (.string (strB p.1)) ∧ w.cell? ⟨b, o + k * 2 + 1, none⟩ = some (.string (strB p.2)) := by
  have hn : l.length = n := by have := h.1; rw [setsV_length] at this; omega
  have hk : k < l.length := (List.getElem?_eq_some_iff.1 hp).1
  obtain ⟨b, o, rfl, hc⟩ := h.2 (by omega)
  obtain ⟨h1, h2⟩ := setsV_get hp
  exact ⟨b, o, rfl, hc _ _ h1, by have := hc _ _ h2; rwa [← Nat.add_assoc] at this⟩
/-! the program's -/
set_option maxHeartbeats 1000000 in
theorem one_any (w : World) (a b : ByteArray) (ha : a.size ≤ 1000000) (hb : b.size ≤ 1000000) : Calls Tryd.prog 24 #[.agg #[.string a, .string b]] w fun e w' => e = .returned (.int .i64 (oneE (a.data.toList, b.data.toList))) ∧ Below w.heap.size w w' := by
  obtain ⟨W, hW⟩ : ∃ W, W = w.alloc (.cells #[.string a, .string b] 31) := ⟨_, rfl⟩
  have hb0 : Below w.heap.size w W := by rw [hW]; exact (Below.refl _ w).alloc (Nat.le_refl _) _
  have hr : W.heap[w.heap.size]? = some (.cells #[.string a, .string b] 31 (0, 0)) := by rw [hW]; exact heap_alloc_new w _
  have c1 := name_of W a 1 (Nat.le_refl _) ha
  have hrow : ∀ w2, Below W.heap.size W w2 → w2.cell? ⟨w.heap.size, 0, none⟩ = some (.string a) ∧ w2.cell? ⟨w.heap.size, 1, none⟩ = some (.string b) := fun w2 hb2 => by
    have hh := (hb2.block _ (heap_lt hr)).trans hr
    exact ⟨cell_of_row w2 _ 0 _ _ _ hh, cell_of_row w2 _ 1 _ _ _ hh⟩
  obtain ⟨l, hl⟩ : ∃ l, l = a.data.toList := ⟨_, rfl⟩
  obtain ⟨m, hm⟩ : ∃ m, m = b.data.toList := ⟨_, rfl⟩
  rw [← hl, ← hm]
  have hll : l.length = a.size := by rw [hl, toList_length]
  have hml : m.length = b.size := by rw [hm, toList_length]
  have c2 := fun w2 => val_of w2 b 0 (Nat.zero_le _) hb
  rw [← hl] at c1
  rw [← hm] at c2
  have hv : ∀ x : Bool, (decide (0 ≤ b.size) && decide (b.size ≤ 64) && (m.all fun c => valN c.toNat)) = isVal m := fun _ => by rw [isVal, hml]; simp [valB]
  rw [hv true] at c2
  have h3 : oneE (l, m) = if !isName l then 7 else if !isVal m then 1 else 0 := rfl
  obtain ⟨E, hE⟩ : ∃ E, E = oneE (l, m) := ⟨_, rfl⟩
  rw [← hE] at h3 ⊢
  have HE := hid2 h3
  have HW := hid2 hW
  have HB0 := hid2 hb0
  have HROW := hid2 hrow
  have C2 := hid2 c2
  obtain ⟨g, hg⟩ : ∃ g, g = w.heap.size := ⟨_, rfl⟩
  have HG := hid2 hg
  cases hof : (decide (1 ≤ a.size) && decide (a.size ≤ 64) && (l.all fun c => nameN c.toNat)) with
  | false =>
    rw [hof] at c1
    have hin : isName l = false := by
      simp only [isName, hll]
      rw [show nameB l = (l.all fun c => nameN c.toNat) from rfl, hof]
      rfl
    have HIN := hid2 hin
    clear hl hm hll hml c2 hv h3 hE hW hb0 hr hrow hof hin hg
    go_enter Tryd.func24, Tryd.ntmps24
    go_wp2_with (go_at_call 41; rw [← HW.out]; refine c1.mono ?_; rintro e w1 ⟨rfl, hb1⟩)
    go_ret
    exact ⟨by rw [HE.out, HIN.out]; rfl, HB0.out.trans (hb1.mono HB0.out.size)⟩
  | true =>
    rw [hof] at c1
    simp only [Bool.and_eq_true, decide_eq_true_eq] at hof
    have h0 : 0 < a.size := by omega
    have hhd := headD_get hl h0
    by_cases h97 : (a[0]'h0).toNat < 97
    · have i97 : ((a[0]'h0).toNat : Int) < 97 := by omega
      have hin : isName l = false := isName_head (by rw [hhd]; exact h97)
      have HIN := hid2 hin
      clear hl hm hll hml c2 hv h3 hE hW hb0 hr hrow hof hin hg hhd h97
      go_enter Tryd.func24, Tryd.ntmps24
      go_wp2_with (go_at_call 41; rw [← HW.out]; refine c1.mono ?_; rintro e w1 ⟨rfl, hb1⟩; have hc1 := HROW.out w1 hb1)
      go_ret
      exact ⟨by rw [HE.out, HIN.out]; rfl, HB0.out.trans (hb1.mono HB0.out.size)⟩
    · have i97 : ¬ ((a[0]'h0).toNat : Int) < 97 := by omega
      have hin : isName l = true := isName_ok (by omega) (by omega) hof.2 (by rw [hhd]; omega)
      have HIN := hid2 hin
      obtain ⟨vb, hvb⟩ : ∃ vb, vb = isVal m := ⟨_, rfl⟩
      rw [← hvb] at C2
      have HVB := hid2 hvb
      clear hl hm hll hml c2 hv h3 hE hW hb0 hr hrow hof hin hg hhd h97 hvb
      go_enter Tryd.func24, Tryd.ntmps24
      go_wp2_with (first
        | (go_at_call 41; rw [← HW.out]; refine c1.mono ?_; rintro e w1 ⟨rfl, hb1⟩; have hc1 := HROW.out w1 hb1; clear c1)
        | (go_at_call 41; refine (C2.out w1).mono ?_; rintro e w2 ⟨rfl, hb2⟩; cases vb))
      all_goals go_ret
      all_goals have b1 := HB0.out.trans (hb1.mono HB0.out.size)
      all_goals exact ⟨by rw [HE.out, HIN.out, ← HVB.out]; rfl, b1.trans (hb2.mono b1.size)⟩
end Go.Proofs.YthefhfnmkjdekaaDoor
