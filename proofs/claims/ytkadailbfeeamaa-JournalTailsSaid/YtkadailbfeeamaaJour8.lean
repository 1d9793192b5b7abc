/- The walks of Great and Frames, and the law JournalTails. -/
import Derived.Test.YtkadailbfeeamaaJour7
namespace Go.Proofs.Ytkadailbfeeamaa
open Go.RowKit
set_option maxRecDepth 100000
/-- what Great answers -/
def GPost (w : World) (xs : List ByteArray) (e : Ending) (w' : World) : Prop := ∃ g, e = .returned (.bool g) ∧ (g = false → (∀ x ∈ xs, x.size ≤ 100) ∧ xs.length ≤ 12) ∧ Below w.heap.size w w'
theorem great_any (w : World) (A : Option Addr) (n c : Nat) (xs : List ByteArray) (ha : Rd w 1 A n (xs.map Value.string)) (hmx : n ≤ 8796093022208) : Calls Try.prog 26 #[.slice A n c] w (GPost w xs) := by
  have hn : xs.length = n := by have := ha.1; simpa using this
  have hmx' : (n : Int) ≤ 8796093022208 := by omega
  go_enter Try.func26, Try.ntmps26
  go_wp2_with fail
  go_loopw [6] (fun i wr => ∃ k : Nat, k ≤ n ∧ i = .int .i64 k ∧ (∀ x ∈ xs.take k, x.size ≤ 100) ∧ Below w.heap.size w wr) (fun i _ => n - (intOf i).toNat)
  case atStart => exact ⟨0, by omega, rfl, by simp, Below.refl _ _⟩
  case round =>
    obtain ⟨k, hk, rfl, hall, hB⟩ := hrel
    have HALL := hid2 hall
    clear hall
    by_cases hlt : k < n
    · obtain ⟨b, o, rfl, hcell⟩ := (ha.below_all hB).cell (j := k) (by simpa [hn] using hlt)
      rw [List.getElem_map] at hcell
      obtain ⟨s, hs⟩ : ∃ s, s = xs[k]'(by omega) := ⟨_, rfl⟩
      rw [← hs] at hcell
      have HS := hid2 hs
      clear hs
      have hlt' : (k : Int) < n := by omega
      by_cases h100 : 100 < s.size
      · have h100' : (100 : Int) < s.size := by omega
        go_wp2_with fail
        go_ret
        exact ⟨true, rfl, (fun h => absurd h (by decide)), hB⟩
      · have h100' : (s.size : Int) ≤ 100 := by omega
        go_wp2_with fail
        go_roundw
        case rel =>
          refine ⟨k + 1, by omega, by go_num, ?_, hB⟩
          intro x hx
          rw [List.take_succ_eq_append_getElem (show k < xs.length by omega), List.mem_append] at hx
          rcases hx with hx | hx
          · exact HALL.out x hx
          · rw [List.mem_singleton.1 hx, ← HS.out]; omega
        case measure => simp [intOf]; omega
    · have hlt' : ¬ (k : Int) < n := by omega
      have hx : ∀ x ∈ xs, x.size ≤ 100 := by
        have := HALL.out
        rw [List.take_of_length_le (by omega)] at this
        exact this
      have HX := hid2 hx
      clear hx
      by_cases h12 : 12 < n
      · have h12' : (12 : Int) < n := by omega
        go_wp2_with fail
        go_ret
        exact ⟨true, rfl, (fun h => absurd h (by decide)), hB⟩
      · have h12' : (n : Int) ≤ 12 := by omega
        go_wp2_with fail
        go_ret
        exact ⟨_, rfl, (fun _ => ⟨HX.out, by omega⟩), hB⟩
/-- what Frames answers -/
def FrPost (w : World) (xs : List ByteArray) (e : Ending) (w' : World) : Prop := e = .returned (.tuple #[.string (strB (framesL (xs.map (·.data.toList)))), .int .i64 0]) ∧ Below w.heap.size w w'
theorem frames_any (w : World) (A : Option Addr) (n c : Nat) (xs : List ByteArray) (ha : Rd w 1 A n (xs.map Value.string)) (hx : ∀ x ∈ xs, x.size ≤ 100) (hl : n ≤ 12) : Calls Try.prog 27 #[.slice A n c] w (FrPost w xs) := by
  have hn : xs.length = n := by have := ha.1; simpa using this
  go_enter Try.func27, Try.ntmps27
  go_wp2_with fail
  have hl' : (n : Int) ≤ 12 := by omega
  have HX := hid2 hx
  clear hx
  go_loopw [4, 10] (fun v i wr => ∃ k : Nat, k ≤ n ∧ i = .int .i64 k ∧ v = .string (strB (framesL ((xs.map (·.data.toList)).take k))) ∧ (framesL ((xs.map (·.data.toList)).take k)).length ≤ 112 * k ∧ Below w.heap.size w wr) (fun _ i _ => n - (intOf i).toNat)
  case atStart => exact ⟨0, by omega, rfl, rfl, by simp [framesL], Below.refl _ _⟩
  case round =>
    obtain ⟨k, hk, rfl, rfl, hfl, hB⟩ := hrel
    obtain ⟨o, ho⟩ : ∃ o, o = strB (framesL ((xs.map (·.data.toList)).take k)) := ⟨_, rfl⟩
    have hos : o.size ≤ 112 * k := by rw [ho, strB_size]; exact hfl
    rw [← ho]
    have HO := hid2 ho
    have HFL := hid2 hfl
    clear ho hfl
    by_cases hlt : k < n
    · obtain ⟨b, off, rfl, hcell⟩ := (ha.below_all hB).cell (j := k) (by simpa [hn] using hlt)
      rw [List.getElem_map] at hcell
      obtain ⟨s, hs⟩ : ∃ s, s = xs[k]'(by omega) := ⟨_, rfl⟩
      have hs100 : s.size ≤ 100 := by rw [hs]; exact HX.out _ (List.getElem_mem _)
      rw [← hs] at hcell
      have hlt' : (k : Int) < n := by omega
      obtain ⟨F, hF⟩ : ∃ F, F = strB (frameL s.data.toList) := ⟨_, rfl⟩
      have hFs : F.size ≤ 112 := by rw [hF, strB_size, frameL_length, toList_length]; omega
      have hadd : ¬ (o.size + F.size > 9223372036854775807) := by omega
      have hs9 : s.size ≤ 900 := by omega
      have hstep : framesL ((xs.map (·.data.toList)).take (k + 1)) = framesL ((xs.map (·.data.toList)).take k) ++ frameL s.data.toList := by
        rw [framesL_take _ k (by rw [List.length_map]; omega), List.getElem_map, hs]
      have HF := hid2 hF
      have HST := hid2 hstep
      clear hF hs hstep
      go_wp2_with (first
        | (go_at_call 15; refine (rframe_any _ s hs9).mono ?_; rintro e w1 ⟨rfl, hb⟩; rw [← HF.out]; replace hB := hB.trans (hb.mono hB.size); clear hb))
      go_roundw
      case rel =>
        refine ⟨k + 1, by omega, by go_num, ?_, ?_, hB⟩
        · rw [HST.out, ← strB_append, ← HO.out, ← HF.out]
        · rw [HST.out, List.length_append, frameL_length, toList_length]
          have := HFL.out
          omega
      case measure => simp [intOf]; omega
    · have hlt' : ¬ (k : Int) < n := by omega
      have hall : strB (framesL (xs.map (·.data.toList))) = o := by
        rw [HO.out, List.take_of_length_le (by rw [List.length_map]; omega)]
      have HALL := hid2 hall
      clear hall
      go_wp2_with fail
      go_ret2
      refine ⟨?_, hB⟩
      rw [HALL.out]
      rfl
end Go.Proofs.Ytkadailbfeeamaa
