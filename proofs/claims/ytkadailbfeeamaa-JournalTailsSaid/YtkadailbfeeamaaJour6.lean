/- The law JournalScans. -/
import Derived.Test.YtkadailbfeeamaaJour5
namespace Go.Proofs.Ytkadailbfeeamaa
open Go.RowKit
theorem scanK_length (b : List UInt8) : ∀ k, (scanK b k).1.length ≤ k
  | 0 => Nat.le_refl _
  | k + 1 => by
    have h := scanK_length b k
    show (match firstL (b.drop (scanK b k).2) with | some r => ((scanK b k).1 ++ [r], (scanK b k).2 + (12 + r.length)) | none => scanK b k).1.length ≤ k + 1
    split
    · simp only [List.length_append, List.length_singleton]; omega
    · omega
theorem jscans_any (w : World) (s : ByteArray) : Calls Try.prog 8 #[.string s] w fun e w' => e = .returned (.bool true) ∧ Below w.heap.size w w' := by
  have hB := Below.refl w.heap.size w
  go_enter Try.func8, Try.ntmps8
  by_cases h500 : 500 < s.size
  · have h500' : (500 : Int) < s.size := by omega
    go_wp2_with (first
      | (go_at_call 13; refine (jfixed_any _).mono ?_; rintro e w1 ⟨rfl, hb⟩; replace hB := hB.trans (hb.mono hB.size); clear hb))
    go_ret
    exact ⟨rfl, hB⟩
  · have h500' : (s.size : Int) ≤ 500 := by omega
    have hs9 : s.size ≤ 900 := by omega
    have hlen := scanK_length s.data.toList s.data.toList.length
    rw [toList_length] at hlen
    obtain ⟨xs, hxs⟩ : ∃ xs, xs = (scanL s.data.toList).1.map strB := ⟨_, rfl⟩
    have hx : strV (scanL s.data.toList).1 = xs.map Value.string := by rw [hxs, strV, List.map_map]; rfl
    obtain ⟨n, hn⟩ : ∃ n, n = (scanL s.data.toList).1.length := ⟨_, rfl⟩
    obtain ⟨a, ha⟩ : ∃ a, a = (scanL s.data.toList).2 := ⟨_, rfl⟩
    have hn9 : n ≤ 8796093022208 := by
      rw [hn]
      unfold scanL
      rw [toList_length]
      omega
    have HX := hid2 hx
    have HN := hid2 hn
    have HA := hid2 ha
    clear hlen hxs hx hn ha
    go_wp2_with (first
      | (go_at_call 23; refine (scan_any _ s (Nat.le_trans hs9 (by decide))).mono ?_; rintro e w1 ⟨A1, c1, rfl, hr1, hb⟩; rw [← HN.out, HX.out] at hr1; rw [← HN.out, ← HA.out]; replace hB := hB.trans (hb.mono hB.size); clear hb)
      | (go_at_call 24; refine (rscan_any _ s hs9).mono ?_; rintro e w2 ⟨A2, c2, rfl, hr2, hb⟩; rw [← HN.out, HX.out] at hr2; rw [← HN.out, ← HA.out]; replace hr1 := hr1.below_all hb; replace hB := hB.trans (hb.mono hB.size); clear hb)
      | (go_at_call 25; refine (same_any _ A1 A2 n c1 c2 xs hr1 hr2 hn9).mono ?_; rintro e w3 ⟨rfl, hb⟩; replace hB := hB.trans (hb.mono hB.size); clear hb)
      | (go_at_call 13; refine (jfixed_any _).mono ?_; rintro e w1 ⟨rfl, hb⟩; replace hB := hB.trans (hb.mono hB.size); clear hb))
    go_ret
    exact ⟨rfl, hB⟩
end Go.Proofs.Ytkadailbfeeamaa
