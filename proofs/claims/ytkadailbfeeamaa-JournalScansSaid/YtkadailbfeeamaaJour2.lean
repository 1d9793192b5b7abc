/- The walks of Frame, twice, and the law JournalFrames. -/
import Derived.Test.YtkadailbfeeamaaJour1
namespace Go.Proofs.Ytkadailbfeeamaa
open Go.RowKit
set_option maxRecDepth 100000
theorem frame_any (w : World) (s : ByteArray) (hs : s.size ≤ 1000000) : Calls Try.prog 14 #[.string s] w fun e w' => e = .returned (.tuple #[.string (strB (frameL s.data.toList)), .int .i64 0]) ∧ Below w.heap.size w w' := by
  have hs0 : (s.size : Int) ≤ 1048576 := by omega
  obtain ⟨N, hN⟩ : ∃ N, N = strB (headL s.data.toList) := ⟨_, rfl⟩
  have hNs : N.size = 12 := by rw [hN, strB_size, headL_length]
  have hadd : ¬ (N.size + s.size > 9223372036854775807) := by omega
  have e : strB (frameL s.data.toList) = N ++ s := by rw [hN, frameL, ← strB_append, strB_of]
  have HN := hid2 hN
  rw [e]
  clear hN hNs e
  go_enter Try.func14, Try.ntmps14
  go_wp2_with (first
    | (go_at_call 38; refine (heading_any _ s (by omega)).mono ?_; rintro e w1 ⟨rfl, hb⟩; rw [← HN.out]))
  go_ret2
  exact ⟨rfl, hb⟩
theorem frame_big (w : World) (s : ByteArray) (hs : 1048576 < s.size) : Calls Try.prog 14 #[.string s] w fun e w' => e = .returned (.tuple #[.string ⟨#[]⟩, .int .i64 6]) ∧ Below w.heap.size w w' := by
  have hs0 : (1048576 : Int) < s.size := by omega
  go_enter Try.func14, Try.ntmps14
  go_wp2_with fail
  go_ret2
  exact ⟨rfl, Below.refl _ _⟩
theorem rframe_any (w : World) (s : ByteArray) (hs : s.size ≤ 900) : Calls Try.prog 15 #[.string s] w fun e w' => e = .returned (.tuple #[.string (strB (frameL s.data.toList)), .int .i64 0]) ∧ Below w.heap.size w w' := by
  have hs0 : (s.size : Int) ≤ 1048576 := by omega
  obtain ⟨N, hN⟩ : ∃ N, N = strB (headL s.data.toList) := ⟨_, rfl⟩
  have hNs : N.size = 12 := by rw [hN, strB_size, headL_length]
  have hadd : ¬ (N.size + s.size > 9223372036854775807) := by omega
  have e : strB (frameL s.data.toList) = N ++ s := by rw [hN, frameL, ← strB_append, strB_of]
  have HN := hid2 hN
  rw [e]
  clear hN hNs e
  go_enter Try.func15, Try.ntmps15
  go_wp2_with (first
    | (go_at_call 39; refine (rhead_any _ s (by omega)).mono ?_; rintro e w1 ⟨rfl, hb⟩; rw [← HN.out]))
  go_ret2
  exact ⟨rfl, hb⟩
theorem jfixed_any (w : World) : Calls Try.prog 13 #[] w fun e w' => e = .returned (.bool true) ∧ Below w.heap.size w w' := by
  obtain ⟨F, hF⟩ : ∃ F, F = strB (frameL []) := ⟨_, rfl⟩
  have hFs : F.size = 12 := by rw [hF, strB_size, frameL_length]; rfl
  have hF4 : (F.extract 0 4) = ⟨#[0, 0, 0, 0]⟩ := by
    apply bytes_ext
    rw [ByteArray.data_extract, Array.toList_extract, hF, strB_list]
    rfl
  have hFs' : (F.size : Int) = 12 := by omega
  have HF := hid2 hF
  clear hF
  go_enter Try.func13, Try.ntmps13
  go_wp2_with (first
    | (go_at_call 14; refine (frame_any _ ⟨#[]⟩ (by decide)).mono ?_; rintro e w1 ⟨rfl, hb⟩; rw [show strB (frameL (⟨#[]⟩ : ByteArray).data.toList) = F from HF.out.symm]))
  go_ret
  exact ⟨rfl, hb⟩
theorem made_u8g (w : World) (m : Nat) (hm : m ≤ 100000000) : (Instr.makeSlice 28 (.int .i64 (m : Int)) (.int .i64 (m : Int))).run Try.prog w = .ok (.slice (some ⟨w.heap.size, 0, none⟩) m m) (w.alloc (.cells (u8s (List.replicate m 0)).toArray 5)) := by
  have h := info_u8
  cases hi : Try.prog.info? 5 with
  | none => rw [hi] at h; cases h
  | some i =>
    rw [hi] at h
    simp only [Option.map_some, Option.some.injEq, Prod.mk.injEq] at h
    obtain ⟨hz, hs, hb⟩ := h
    rw [run_make w 28 5 i (.int .u8 0) Try.underlying28 hi hz .i64 .i64 m m (by omega) (Int.le_refl _) (by rw [hb]; omega) (by omega), Int.toNat_natCast, hs, Nat.mul_one]
    have e : madeCells (Value.int .u8 0).cells m = (u8s (List.replicate m 0)).toArray := by
      have := toList_madeCells_one (Value.int .u8 0) m
      rw [show (Value.int .u8 0).cells = #[Value.int .u8 0] from rfl, ← Array.toArray_toList (xs := madeCells #[Value.int .u8 0] m), this]
      simp [u8s]
    rw [e]
theorem jframes_any (w : World) (s : ByteArray) (b : Nat) (hb : b ≤ 255) : Calls Try.prog 3 #[.string s, .int .u8 b] w fun e w' => e = .returned (.bool true) ∧ Below w.heap.size w w' := by
  have hB := Below.refl w.heap.size w
  have hb0 : (b : Int) ≤ 255 := by omega
  have hb1 : (0 : Int) ≤ b := by omega
  go_enter Try.func3, Try.ntmps3
  by_cases h300 : 300 < s.size
  · have h300' : (300 : Int) < s.size := by omega
    go_wp2_with (first
      | (go_at_call 13; refine (jfixed_any _).mono ?_; rintro e w1 ⟨rfl, hb⟩; replace hB := hB.trans (hb.mono hB.size); clear hb))
    go_ret
    exact ⟨rfl, hB⟩
  · have h300' : (s.size : Int) ≤ 300 := by omega
    have hs9 : s.size ≤ 900 := by omega
    have hs6 : s.size ≤ 1000000 := by omega
    go_wp2_with (first
      | (go_at_call 14; (with_reducible refine (frame_any _ s hs6).mono ?_); rintro e w1 ⟨rfl, hb⟩; replace hB := hB.trans (hb.mono hB.size); clear hb)
      | (go_at_call 15; (with_reducible refine (rframe_any _ s hs9).mono ?_); rintro e w1 ⟨rfl, hb⟩; replace hB := hB.trans (hb.mono hB.size); clear hb))
    obtain ⟨m, hm⟩ : ∃ m : Nat, m = 1048577 + b := ⟨_, rfl⟩
    rw [show (1048577 + (b : Int)) = (m : Int) by omega, made_u8g w1 m (by omega)]
    obtain ⟨Z, hZ⟩ : ∃ Z, Z = strB (List.replicate m 0) := ⟨_, rfl⟩
    have hZs : 1048576 < Z.size := by rw [hZ, strB_size, List.length_replicate]; omega
    have hR1 : Rd (w1.alloc (.cells (u8s (List.replicate m 0)).toArray 5)) 1 (some ⟨w1.heap.size, 0, none⟩) m (u8s (List.replicate m 0)) := by
      have := Rd.of_lit w1 (u8s (List.replicate m 0)).toArray 5 1 m (by unfold maxLen; omega) (by rw [List.size_toArray, u8s_length, List.length_replicate, Nat.mul_one])
      simpa using this
    have hml : (List.replicate m (0 : UInt8)).length = m := List.length_replicate
    replace hB := hB.alloc hB.size (.cells (u8s (List.replicate m 0)).toArray 5)
    have HZ := hid2 hZ
    clear hm hZ hb hb0 hb1
    simp only [Result.andThen]
    rw [Oper.upon_value]
    go_wp2_with (first
      | ((with_reducible refine wpList_to_string_lit 5 (some ⟨w1.heap.size, 0, none⟩) m m (List.replicate m 0) Try.underlying28 Try.underlying5 Try.underlying9 hml hR1 ?_ ?_); exact rfl; rw [show (⟨(List.replicate m (0 : UInt8)).toArray⟩ : ByteArray) = Z from HZ.out.symm]; clear hR1)
      | (go_at_call 14; (with_reducible refine (frame_big _ Z hZs).mono ?_); rintro e w1 ⟨rfl, hb⟩; replace hB := hB.trans (hb.mono hB.size); clear hb)
      | (go_at_call 13; refine (jfixed_any _).mono ?_; rintro e w1 ⟨rfl, hb⟩; replace hB := hB.trans (hb.mono hB.size); clear hb))
    go_ret
    exact ⟨rfl, hB⟩
end Go.Proofs.Ytkadailbfeeamaa
