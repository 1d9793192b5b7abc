/- Rows of texts that are not great. -/
import Derived.Test.YtehpapoboeejkaaDoorJp7
namespace Go.Proofs.YtehpapoboeejkaaDoor
open Go.RowKit
/-- what Great answers -/
def GPost (w : World) (xs : List ByteArray) (e : Ending) (w' : World) : Prop := ∃ g, e = .returned (.bool g) ∧ (g = false → (∀ x ∈ xs, x.size ≤ 100) ∧ xs.length ≤ 12) ∧ Below w.heap.size w w'
theorem jgreat_any (w : World) (A : Option Addr) (n c : Nat) (xs : List ByteArray) (ha : Rd w 1 A n (xs.map Value.string)) (hmx : n ≤ 8796093022208) : Calls Tryd.prog 7 #[.slice A n c] w (GPost w xs) := by
  have hn : xs.length = n := by have := ha.1; simpa using this
  have hmx' : (n : Int) ≤ 8796093022208 := by omega
  go_enter Tryd.func7, Tryd.ntmps7
  go_wp2_with fail
  go_loopw [6] (fun i wr => ∃ k : Nat, k ≤ n ∧ i = .int .i64 k ∧ (∀ x ∈ xs.take k, x.size ≤ 100) ∧ Below w.heap.size w wr) (fun i _ => n - (intOf i).toNat)
  case atStart => exact ⟨0, by omega, rfl, by simp, Below.refl _ _⟩
  case round =>
    obtain ⟨k, hk, rfl, hall, hB⟩ := hrel
    have HALL := hid2 hall
    clear hall
    by_cases hlt : k < n
    · obtain ⟨b, o, rfl, hcell⟩ := (ha.below_all hB).cell (j := k) (by simpa [hn] using hlt)
      rw [List.getElem_map] at hcell
      obtain ⟨s, hs⟩ : ∃ s, s = xs[k]'(by omega) := ⟨_, rfl⟩
      rw [← hs] at hcell
      have HS := hid2 hs
      clear hs
      have hlt' : (k : Int) < n := by omega
      by_cases h100 : 100 < s.size
      · have h100' : (100 : Int) < s.size := by omega
        go_wp2_with fail
        go_ret
        exact ⟨true, rfl, (fun h => absurd h (by decide)), hB⟩
      · have h100' : (s.size : Int) ≤ 100 := by omega
        go_wp2_with fail
        go_roundw
        case rel =>
          refine ⟨k + 1, by omega, by go_num, ?_, hB⟩
          intro x hx
          rw [List.take_succ_eq_append_getElem (show k < xs.length by omega), List.mem_append] at hx
          rcases hx with hx | hx
          · exact HALL.out x hx
          · rw [List.mem_singleton.1 hx, ← HS.out]; omega
        case measure => simp [intOf]; omega
    · have hlt' : ¬ (k : Int) < n := by omega
      have hx : ∀ x ∈ xs, x.size ≤ 100 := by
        have := HALL.out
        rw [List.take_of_length_le (by omega)] at this
        exact this
      have HX := hid2 hx
      clear hx
      by_cases h12 : 12 < n
      · have h12' : (12 : Int) < n := by omega
        go_wp2_with fail
        go_ret
        exact ⟨true, rfl, (fun h => absurd h (by decide)), hB⟩
      · have h12' : (n : Int) ≤ 12 := by omega
        go_wp2_with fail
        go_ret
        exact ⟨_, rfl, (fun _ => ⟨HX.out, by omega⟩), hB⟩
end Go.Proofs.YtehpapoboeejkaaDoor
