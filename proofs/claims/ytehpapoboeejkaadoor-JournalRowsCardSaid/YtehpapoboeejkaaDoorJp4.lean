/- All records that bytes begin with: as plain functions, and the walks of both Scans. -/
import Derived.Test.YtehpapoboeejkaaDoorJp3
namespace Go.Proofs.YtehpapoboeejkaaDoor
open Go.RowKit
/-- up to k records -/
def scanK (b : List UInt8) : Nat → List (List UInt8) × Nat
  | 0 => ([], 0)
  | k + 1 => match firstL (b.drop (scanK b k).2) with
    | some r => ((scanK b k).1 ++ [r], (scanK b k).2 + (12 + r.length))
    | none => scanK b k
theorem scanK_some {b : List UInt8} {k : Nat} {r : List UInt8} (h : firstL (b.drop (scanK b k).2) = some r) : scanK b (k + 1) = ((scanK b k).1 ++ [r], (scanK b k).2 + (12 + r.length)) := by
  show (match firstL (b.drop (scanK b k).2) with | some r => ((scanK b k).1 ++ [r], (scanK b k).2 + (12 + r.length)) | none => scanK b k) = _
  rw [h]
theorem scanK_none {b : List UInt8} {k : Nat} (h : firstL (b.drop (scanK b k).2) = none) : ∀ m, scanK b (k + m) = scanK b k
  | 0 => rfl
  | m + 1 => by
    have e := scanK_none h m
    show (match firstL (b.drop (scanK b (k + m)).2) with | some r => ((scanK b (k + m)).1 ++ [r], (scanK b (k + m)).2 + (12 + r.length)) | none => scanK b (k + m)) = _
    rw [e, h]
/-- the records, and how many bytes their frames have -/
def scanL (b : List UInt8) : List (List UInt8) × Nat := scanK b b.length
theorem scanL_of {b : List UInt8} {k : Nat} (h : firstL (b.drop (scanK b k).2) = none) (hk : k ≤ b.length) : scanL b = scanK b k := by
  have := scanK_none h (b.length - k)
  rw [show k + (b.length - k) = b.length by omega] at this
  exact this
/-- what Scan answers -/
def SPost (w : World) (b : List UInt8) (e : Ending) (w' : World) : Prop :=
  ∃ A c, e = .returned (.tuple #[.slice A (scanL b).1.length c, .int .i64 ((scanL b).2 : Nat)]) ∧ Own w' w.heap.size 9 1 A (scanL b).1.length c (strV (scanL b).1) ∧ Below w.heap.size w w'
theorem first_size {q r s : ByteArray} {b : List UInt8} {at_ : Nat} {ok : Bool} (hq : q.data.toList = b.drop at_) (hbl : b.length = s.size) (h : (ok = true ∧ firstL q.data.toList = some r.data.toList) ∨ (ok = false ∧ firstL q.data.toList = none)) : ok = true → r.size + 12 ≤ s.size - at_ := by
  intro hk
  rcases h with ⟨_, h⟩ | ⟨h, _⟩
  · have := (firstL_some h).2
    rw [hq, toList_length, List.length_drop, hbl] at this
    exact this
  · rw [h] at hk; cases hk
theorem scan_any (w : World) (s : ByteArray) (hs : s.size ≤ 1000000) : Calls Tryd.prog 18 #[.string s] w (SPost w s.data.toList) := by
  have hs0 : (s.size : Int) ≤ 1000000 := by omega
  obtain ⟨b, hb⟩ : ∃ b, b = s.data.toList := ⟨_, rfl⟩
  have hbl : b.length = s.size := by rw [hb, toList_length]
  rw [← hb]
  have HB := hid2 hb
  clear hb
  go_enter Tryd.func18, Tryd.ntmps18
  go_wp2_with fail
  go_loopg [4, 5] 100000 (fun gk v i wr => ∃ (k at_ : Nat), k + gk = 100000 ∧ i = .int .i64 at_ ∧ 12 * k ≤ at_ ∧ at_ ≤ s.size ∧ (scanK b k).2 = at_ ∧ (scanK b k).1.length = k ∧ Below w.heap.size w wr ∧ ∃ A c, v = .slice A k c ∧ Own wr w.heap.size 9 1 A k c (strV (scanK b k).1))
  case atStart => exact ⟨0, 0, by omega, rfl, by omega, by omega, rfl, rfl, Below.refl _ _, none, 0, rfl, Own.nil _ _ _ _⟩
  case round =>
    obtain ⟨k, at_, hk, rfl, hka, hat, hsn, hln, hbe, A, c, rfl, hown⟩ := hrel
    obtain ⟨L, hL⟩ : ∃ L, L = strV (scanK b k).1 := ⟨_, rfl⟩
    rw [← hL] at hown
    have hat0 : (0 : Int) ≤ at_ := by omega
    have hat1 : (at_ : Int) ≤ s.size := by omega
    obtain ⟨q, hq⟩ : ∃ q, q = s.extract at_ s.size := ⟨_, rfl⟩
    have hql : q.data.toList = b.drop at_ := by
      rw [hq, ByteArray.data_extract, Array.toList_extract, ← HB.out, List.extract_eq_take_drop, ← hbl, List.take_of_length_le (by rw [List.length_drop]; omega)]
    have hqs : q.size ≤ 1000000 := by rw [← toList_length, hql, List.length_drop]; omega
    have HQ := hid2 hq
    have HQL := hid2 hql
    have HL := hid2 hL
    have HSN := hid2 hsn
    have HLN := hid2 hln
    have hs1 := hbe.size
    have hnc := hown.2.1
    clear hq hql hL hsn hln
    go_wp2_with (first
      | (go_at_call 33; rw [← HQ.out]; refine (first_any _ q hqs).mono ?_; rintro e w1 ⟨r, ok, rfl, hok, hb⟩; have hbe1 := hbe.trans (hb.mono hs1); have hown1 := hown.below hb (Nat.le_refl _); clear hown hb; have HOK := hid2 hok; have hrq : ok = true → r.size + 12 ≤ s.size - at_ := (first_size HQL.out hbl hok); clear hok; have HRQ := hid2 hrq; clear hrq; cases ok; rotate_left; (have hrl := HRQ.out rfl; have hw1 : IntKind.i64.wrap (12 + (r.size : Int)) = 12 + (r.size : Int) := IntWalk.i64_in _ (by constructor <;> omega); have hw2 : IntKind.i64.wrap ((at_ : Int) + (12 + (r.size : Int))) = (at_ : Int) + (12 + (r.size : Int)) := IntWalk.i64_in _ (by constructor <;> omega)); rotate_left)
      | (at_builtin; have _t := hown1; go_must ((with_reducible refine wpList_append_lit 9 (.string ⟨#[]⟩) 1 16 Tryd.underlying28 info_str rfl w.heap.size A k c L (hown1.alloc _) 1 [.string r] (.slice (some ⟨w1.heap.size, 0, none⟩) 1 1) (Src.slice Tryd.underlying28 (Rd.one w1 _ _)) one_str ?_ ?_ ?_ ?_ ?_); (unfold maxLen; omega); omega; (simp; have := hbe1.size; omega); exact ⟨rfl, rfl⟩; intro A3 c3 w3 hown3 hgr3 hbl3; clear hown1)))
    · have hno : firstL (b.drop (scanK b k).2) = none := by
        rcases HOK.out with ⟨h, _⟩ | ⟨_, h⟩
        · cases h
        · rw [HSN.out, ← HQL.out]; exact h
      have hall := scanL_of hno (by omega)
      go_ret2
      refine ⟨A, c, ?_, ?_, hbe1⟩
      · rw [hall, HSN.out, HLN.out]; rfl
      · rw [hall, HLN.out, ← HL.out]; exact hown1
    · have hyes : firstL (b.drop at_) = some r.data.toList := by
        rcases HOK.out with ⟨_, h⟩ | ⟨h, _⟩
        · rw [← HQL.out]; exact h
        · cases h
      have hstep := scanK_some (b := b) (k := k) (r := r.data.toList) (by rw [HSN.out]; exact hyes)
      go_roundg (gk - 1)
      case rel =>
        refine ⟨k + 1, at_ + (12 + r.size), by omega, ?_, by omega, by omega, ?_, ?_, ?_, A3, c3, rfl, ?_⟩
        · go_num
        · rw [hstep, HSN.out, toList_length]
        · rw [hstep, List.length_append, HLN.out]; rfl
        · exact (hbe1.alloc hbe1.size _).grown hgr3 (by simp; have := hbe1.size; omega) (fun g e => (_t.block g e).1)
        · rw [hstep, ← strV_snoc, ← HL.out, strB_of]; exact hown3
      case measure => omega
theorem same_any (w : World) (A B : Option Addr) (n c c' : Nat) (xs : List ByteArray) (ha : Rd w 1 A n (xs.map Value.string)) (hb : Rd w 1 B n (xs.map Value.string)) (hmx : n ≤ 8796093022208) :
    Calls Tryd.prog 12 #[.slice A n c, .slice B n c'] w fun e w' => e = .returned (.bool true) ∧ Below w.heap.size w w' := by
  have hn : xs.length = n := by have := ha.1; simpa using this
  have hmx' : (n : Int) ≤ 8796093022208 := by omega
  go_enter Tryd.func12, Tryd.ntmps12
  go_wp2_with fail
  go_loopw [13] (fun i wr => ∃ k m : Nat, k ≤ n ∧ i = .int .i64 k ∧ wr = w.drewN m) (fun i _ => n - (intOf i).toNat)
  case atStart => exact ⟨0, 0, by omega, rfl, rfl⟩
  case round =>
    obtain ⟨k, m, hk, rfl, rfl⟩ := hrel
    by_cases hlt : k < n
    · obtain ⟨b1, o1, rfl, hc1⟩ := ha.cell (j := k) (by simpa [hn] using hlt)
      obtain ⟨b2, o2, rfl, hc2⟩ := hb.cell (j := k) (by simpa [hn] using hlt)
      rw [List.getElem_map] at hc1 hc2
      obtain ⟨s, hs⟩ : ∃ s, s = xs[k]'(by omega) := ⟨_, rfl⟩
      rw [← hs] at hc1 hc2
      have hlt' : (k : Int) < n := by omega
      clear hs
      go_wp2_with fail
      go_quiet (fail)
      go_wp2_with fail
      go_roundw
      case rel => exact ⟨k + 1, _, by omega, by go_num, rfl⟩
      case measure => simp [intOf]; omega
    · have hlt' : ¬ (k : Int) < n := by omega
      go_wp2_with fail
      go_ret
      exact ⟨rfl, below_drewN (Below.refl _ _) _⟩
end Go.Proofs.YtehpapoboeejkaaDoor
