/- Texts joined, and the laws over parts. -/
import Derived.Test.YtkadailbfeeamaaSha11
import Derived.Test.YtkadailbfeeamaaStr
import Derived.Laws.Concat
namespace Go.Proofs.Ytkadailbfeeamaa
open Go.RowKit
set_option maxRecDepth 100000
theorem flat_take_le300 (ps : List ByteArray) (k : Nat) (h : (flat (ps.take k)).length ≤ 300 * k) (hk : k < ps.length) (h3 : ps[k].size ≤ 300) : (flat (ps.take (k + 1))).length ≤ 300 * (k + 1) := by
  rw [flat_take_succ ps k hk, List.length_append, toList_length]; omega
/-- what joined answers -/
def JPost (w : World) (n : Nat) (ps : List ByteArray) (e : Ending) (w' : World) : Prop := ∃ o ok, e = .returned (.tuple #[.string o, .bool ok]) ∧ (ok = true → o.data.toList = flat ps ∧ o.size ≤ 300 ∧ n ≤ 20) ∧ Below w.heap.size w w'
theorem joined_any (w : World) (A : Option Addr) (n c : Nat) (ps : List ByteArray) (hr : Rd w 1 A n (ps.map Value.string)) (hmx : n ≤ 8796093022208) :
    Calls Try.prog 16 #[.slice A n c] w (JPost w n ps) := by
  have hn : ps.length = n := by have := hr.1; simpa using this
  have hmx' : (n : Int) ≤ 140737488355328 := by omega
  go_enter Try.func16, Try.ntmps16
  go_wp2
  go_loopw [4, 5] (fun v i wr => ∃ (k : Nat) (o : ByteArray), k ≤ n ∧ i = .int .i64 k ∧ v = .string o ∧ o.data.toList = flat (ps.take k) ∧ (flat (ps.take k)).length ≤ 300 * k ∧ Below w.heap.size w wr) (fun _ i _ => n - (intOf i).toNat)
  case atStart => exact ⟨0, ⟨#[]⟩, by omega, rfl, rfl, rfl, by simp [flat], Below.refl _ _⟩
  case round =>
    obtain ⟨k, o, hk, rfl, rfl, ho, hl, hb⟩ := hrel
    have hos : o.size ≤ 300 * k := by rw [← toList_length, ho]; exact hl
    have HO := hid2 ho
    have HL := hid2 hl
    clear ho hl
    by_cases hlt : k < n
    · obtain ⟨b, off, rfl, hcell⟩ := (hr.below_all hb).cell (j := k) (by simpa [hn] using hlt)
      have hkp : k < ps.length := by omega
      rw [List.getElem_map] at hcell
      obtain ⟨s, hs⟩ : ∃ s, s = ps[k] := ⟨_, rfl⟩
      rw [← hs] at hcell
      have HS := hid2 hs
      clear hs
      have hlt' : (k : Int) < n := by omega
      by_cases h300 : 300 < s.size
      · have h300' : (300 : Int) < s.size := by omega
        go_wp2
        go_ret2
        exact ⟨_, _, rfl, (fun h => absurd h (by decide)), hb⟩
      · have h300' : (s.size : Int) ≤ 300 := by omega
        have hadd : ¬ (o.size + s.size > 9223372036854775807) := by omega
        go_wp2
        go_roundw
        case rel =>
          refine ⟨k + 1, o ++ s, by omega, by go_num, rfl, ?_, flat_take_le300 ps k HL.out hkp (by rw [← HS.out]; omega), hb⟩
          rw [string_append_toList, HO.out, flat_take_succ ps k hkp, ← HS.out]
        case measure => simp [intOf]; omega
    · have hlt' : ¬ (k : Int) < n := by omega
      have hfl : o.data.toList = flat ps := by rw [HO.out, List.take_of_length_le (by omega)]
      have HF := hid2 hfl
      clear hfl
      go_wp2
      all_goals go_ret2
      all_goals refine ⟨_, _, rfl, fun h => ?_, hb⟩
      all_goals simp at h
      exact ⟨HF.out, by omega, by omega⟩
theorem made_u8 (w : World) (m : Nat) (hm : m ≤ 1000) : (Instr.makeSlice 28 (.int .i64 (m : Int)) (.int .i64 (m : Int))).run Try.prog w = .ok (.slice (some ⟨w.heap.size, 0, none⟩) m m) (w.alloc (.cells (u8s (List.replicate m 0)).toArray 5)) := by
  have h := info_u8
  cases hi : Try.prog.info? 5 with
  | none => rw [hi] at h; cases h
  | some i =>
    rw [hi] at h
    simp only [Option.map_some, Option.some.injEq, Prod.mk.injEq] at h
    obtain ⟨hz, hs, hb⟩ := h
    rw [run_make w 28 5 i (.int .u8 0) Try.underlying28 hi hz .i64 .i64 m m (by omega) (Int.le_refl _) (by rw [hb]; omega) (by omega), Int.toNat_natCast, hs, Nat.mul_one]
    have e : madeCells (Value.int .u8 0).cells m = (u8s (List.replicate m 0)).toArray := by
      have := toList_madeCells_one (Value.int .u8 0) m
      rw [show (Value.int .u8 0).cells = #[Value.int .u8 0] from rfl, ← Array.toArray_toList (xs := madeCells #[Value.int .u8 0] m), this]
      simp [u8s]
    rw [e]
theorem ssum_one (w : World) (s : ByteArray) (hs : s.size ≤ 70368744177664) : Calls Try.prog 18 #[.slice (some ⟨w.heap.size, 0, none⟩) 1 1] (w.alloc (.cells #[.string s] 9)) fun e w' => e = .returned (.agg (u8s (Sha.sum s.data.toList)).toArray) ∧ Below w.heap.size w w' := by
  have hf : flat [s] = s.data.toList := by simp [flat]
  have h := ssum_any (w.alloc (.cells #[.string s] 9)) (some ⟨w.heap.size, 0, none⟩) 1 1 [s] (Rd.one w (.string s) 9) (by decide) (by rw [hf, toList_length]; exact hs)
  rw [hf] at h
  refine h.mono ?_
  rintro e w' ⟨rfl, hb⟩
  exact ⟨rfl, ((Below.refl _ _).alloc (Nat.le_refl _) _).trans (hb.mono (by simp))⟩
/-- what is known of operation j of a region whose operation N makes a row of one value: its value; of operation N, that it is such a row -/
def RowN (t : TypeId) (N B : Nat) (vals : List Value) (x : Value) (j : Nat) (v : Value) (w2 : World) : Prop :=
  match j == N with
  | true => ∃ g, v = .slice (some ⟨g, 0, none⟩) 1 1 ∧ B ≤ g ∧ w2.heap[g]? = some (.cells #[x] t (0, 0))
  | false => vals[j]? = some v
theorem RowN.keep {t : TypeId} {N B : Nat} {vals : List Value} {x : Value} {j : Nat} {v : Value} {w2 w3 : World} (h : RowN t N B vals x j v w2) (hb : Below w2.heap.size w2 w3) : RowN t N B vals x j v w3 := by
  unfold RowN at *
  split
  · rename_i hj
    simp only [hj] at h
    obtain ⟨g, h1, h2, h3⟩ := h
    exact ⟨g, h1, h2, (hb.block g (heap_lt h3)).trans h3⟩
  · rename_i hj
    simp only [hj] at h
    exact h
theorem ssum_row (w : World) (s : ByteArray) (g : Nat) (hs : s.size ≤ 70368744177664) (hg : w.heap[g]? = some (.cells #[.string s] 9 (0, 0))) : Calls Try.prog 18 #[.slice (some ⟨g, 0, none⟩) 1 1] w fun e w' => e = .returned (.agg (u8s (Sha.sum s.data.toList)).toArray) ∧ Below w.heap.size w w' := by
  have hf : flat [s] = s.data.toList := by simp [flat]
  have h := ssum_any w (some ⟨g, 0, none⟩) 1 1 [s] (Rd.of_row hg) (by decide) (by rw [hf, toList_length]; exact hs)
  rw [hf] at h
  exact h
theorem to_string_at (w : World) (A : Option Addr) (m c : Nat) (L : List UInt8) (hn : L.length = m) (hr : Rd w 1 A m (u8s L)) : (convert 28 9 (.slice A m c)).run Try.prog w = .ok (.string ⟨L.toArray⟩) w := by
  subst hn
  exact run_to_string 28 9 5 A c L Try.underlying28 Try.underlying5 Try.underlying9 hr
/-- k bytes b, and zeros -/
def sameK (b : UInt8) (m k : Nat) : List UInt8 := List.replicate k b ++ List.replicate (m - k) 0
theorem sameK_length (b : UInt8) (m k : Nat) (h : k ≤ m) : (sameK b m k).length = m := by simp [sameK]; omega
theorem sameK_set (b : UInt8) (m k : Nat) (h : k < m) : (sameK b m k).set k b = sameK b m (k + 1) := by
  rw [sameK, sameK, List.set_append_right _ _ (by simp), List.length_replicate, Nat.sub_self, show m - k = (m - (k + 1)) + 1 by omega, List.replicate_succ, List.set_cons_zero, List.replicate_succ', List.append_assoc]
  rfl
section
attribute [local go_sem high] run_eq_sum run_neq_sum
theorem shalong_any (w : World) (b : UInt8) (n : Nat) (hn : n ≤ 255) : Calls Try.prog 6 #[.int .u8 b.toNat, .int .u8 n] w fun e w' => e = .returned (.bool true) ∧ Below w.heap.size w w' := by
  have hn0 : (0 : Int) ≤ n := by omega
  have hn1 : (n : Int) ≤ 255 := by omega
  go_enter Try.func6, Try.ntmps6
  go_wp2
  obtain ⟨m, hm⟩ : ∃ m : Nat, m = n % 200 := ⟨_, rfl⟩
  rw [show ((n : Int) % 200) = (m : Int) by omega]
  have hm2 : m < 200 := by omega
  clear hm
  rw [made_u8 w m (by omega)]
  simp only [Result.andThen]
  rw [Oper.upon_value]
  go_wp2
  have h0 : (w.alloc (.cells (u8s (List.replicate m 0)).toArray 5)).heap[w.heap.size]? = some (.cells (u8s (sameK b m 0)).toArray 5 (0, 0)) := heap_alloc_new w _
  have hb0 : Below w.heap.size w (w.alloc (.cells (u8s (List.replicate m 0)).toArray 5)) := (Below.refl _ _).alloc (Nat.le_refl _) _
  obtain ⟨g, hg⟩ : ∃ g, g = w.heap.size := ⟨_, rfl⟩
  have hgw : w.heap.size ≤ g := by omega
  rw [← hg] at h0 ⊢
  go_loopw [6] (fun i wr => ∃ k : Nat, k ≤ m ∧ i = .int .i64 k ∧ Below w.heap.size w wr ∧ wr.heap[g]? = some (.cells (u8s (sameK b m k)).toArray 5 (0, 0))) (fun i _ => m - (intOf i).toNat)
  case atStart => exact ⟨0, by omega, rfl, hb0, h0⟩
  case round =>
    clear h0 hb0 hg
    obtain ⟨k, hk, rfl, hB, hrow⟩ := hrel
    have hlen := sameK_length b m k hk
    by_cases hlt : k < m
    · have hlt' : (k : Int) < m := by omega
      have hct : wr.cell? ⟨g, k, none⟩ = some (.int .u8 ((sameK b m k).getD k 0).toNat) := (cell_of_row wr g k _ _ _ hrow).trans (by rw [List.getElem?_toArray]; exact u8s_get _ (by omega))
      have hfr := frozen_of_row wr g k _ _ hrow
      have HROW := hid2 hrow
      have HLEN := hid2 hlen
      clear hrow hlen
      go_wp2
      go_roundw
      case rel => exact ⟨k + 1, by omega, by go_num, hB.setCell hgw _, by rw [heap_setCell_same wr g k _ _ _ HROW.out, u8s_set, sameK_set b m k hlt]⟩
      case measure => simp [intOf]; omega
    · have hkm : ¬ (k : Int) < m := by omega
      obtain ⟨L, hL⟩ : ∃ L, L = sameK b m k := ⟨_, rfl⟩
      rw [← hL] at hrow hlen
      have hrd : Rd wr 1 (some ⟨g, 0, none⟩) m (u8s L) := by
        refine ⟨by rw [u8s_length, hlen, Nat.mul_one], fun _ => ⟨g, 0, rfl, fun j u hu => ?_⟩⟩
        rw [Nat.zero_add, cell_of_row wr g j _ _ _ hrow, List.getElem?_toArray]
        exact hu
      have hLs : (⟨L.toArray⟩ : ByteArray).size ≤ 200 := by show L.toArray.size ≤ 200; simp; omega
      have hs1 : (⟨L.toArray⟩ : ByteArray).size ≤ 70368744177664 := by omega
      have hs2 : (⟨L.toArray⟩ : ByteArray).size ≤ 1000 := by omega
      have HLEN := hid2 hlen
      clear hL hrow hlen
      obtain ⟨s, hs⟩ : ∃ s : ByteArray, s = ⟨L.toArray⟩ := ⟨_, rfl⟩
      rw [← hs] at hs1 hs2
      have HS := hid2 hs
      have HRD := hid2 hrd
      clear hs hrd hLs hlt hk
      go_wp2_with fail
      refine wp_region_rel 8 (by kernel_rfl) (by kernel_rfl) (by kernel_rfl) _ rfl (by kernel_rfl) (RowN 9 2 wr.heap.size [.slice (some ⟨g, 0, none⟩) m m, .string s, undef, .agg (u8s (Sha.sum s.data.toList)).toArray, .slice (some ⟨g, 0, none⟩) m m, .string s, .agg (u8s (Sha.sum s.data.toList)).toArray, .bool true] (.string s)) (fun w2 => Below wr.heap.size wr w2) (fun a b => Below a.heap.size a b) (below_drewN (Below.refl _ wr) 1) (fun _ _ _ _ hb hv => hv.keep hb) ?_ ?_
      · refine of_allOps ⟨?_, ?_, ?_, ?_, ?_, ?_, ?_, ?_, trivial⟩
        · refine ⟨rfl, fun T2 w2 hM hN hO hE K hK => ?_⟩
          have o5 : T2[5]? = some (.slice (some ⟨g, 0, none⟩) m m) := hO 5 rfl
          clear hE hO hN
          go_simp
          exact hK _ _ rfl hM (Below.refl _ _)
        · refine ⟨rfl, fun T2 w2 hM hN hO hE K hK => ?_⟩
          obtain ⟨v0, h0, e0⟩ := hE ⟨0, .data⟩ (by simp) rfl _ _ rfl rfl
          rw [show v0 = .slice (some ⟨g, 0, none⟩) m m from (Option.some.inj e0).symm] at h0
          clear hE hO hN
          have hconv := to_string_at w2 _ m m L HLEN.out (HRD.out.below_all hM)
          rw [← HS.out] at hconv
          go_simp
          exact hK _ _ rfl hM (Below.refl _ _)
        · refine ⟨rfl, fun T2 w2 hM hN hO hE K hK => ?_⟩
          obtain ⟨v1, h1, e1⟩ := hE ⟨1, .data⟩ (by simp) rfl _ _ rfl rfl
          rw [show v1 = .string s from (Option.some.inj e1).symm] at h1
          clear hE hO hN
          go_simp
          exact hK _ _ ⟨_, rfl, hM.size, heap_alloc_new w2 _⟩ (hM.alloc hM.size _) ((Below.refl _ _).alloc (Nat.le_refl _) _)
        · refine ⟨rfl, fun T2 w2 hM hN hO hE K hK => ?_⟩
          obtain ⟨v2, h2, g2, rfl, hg2, hc2⟩ := hE ⟨2, .data⟩ (by simp) rfl _ _ rfl rfl
          clear hE hO hN
          go_simp
          refine (ssum_row _ s g2 hs1 hc2).mono ?_
          rintro e w3 ⟨rfl, hb⟩
          exact hK _ _ rfl (hM.trans (hb.mono hM.size)) hb
        · refine ⟨rfl, fun T2 w2 hM hN hO hE K hK => ?_⟩
          have o5 : T2[5]? = some (.slice (some ⟨g, 0, none⟩) m m) := hO 5 rfl
          clear hE hO hN
          go_simp
          exact hK _ _ rfl hM (Below.refl _ _)
        · refine ⟨rfl, fun T2 w2 hM hN hO hE K hK => ?_⟩
          obtain ⟨v4, h4, e4⟩ := hE ⟨4, .data⟩ (by simp) rfl _ _ rfl rfl
          rw [show v4 = .slice (some ⟨g, 0, none⟩) m m from (Option.some.inj e4).symm] at h4
          clear hE hO hN
          have hconv := to_string_at w2 _ m m L HLEN.out (HRD.out.below_all hM)
          rw [← HS.out] at hconv
          go_simp
          exact hK _ _ rfl hM (Below.refl _ _)
        · refine ⟨rfl, fun T2 w2 hM hN hO hE K hK => ?_⟩
          obtain ⟨v5, h5, e5⟩ := hE ⟨5, .data⟩ (by simp) rfl _ _ rfl rfl
          rw [show v5 = .string s from (Option.some.inj e5).symm] at h5
          clear hE hO hN
          go_simp
          refine (refsum_any _ s hs2).mono ?_
          rintro e w3 ⟨rfl, hb⟩
          exact hK _ _ rfl (hM.trans (hb.mono hM.size)) hb
        · refine ⟨rfl, fun T2 w2 hM hN hO hE K hK => ?_⟩
          obtain ⟨v3, h3, e3⟩ := hE ⟨3, .data⟩ (by simp) rfl _ _ rfl rfl
          rw [show v3 = .agg (u8s (Sha.sum s.data.toList)).toArray from (Option.some.inj e3).symm] at h3
          obtain ⟨v6, h6, e6⟩ := hE ⟨6, .data⟩ (by simp) rfl _ _ rfl rfl
          rw [show v6 = .agg (u8s (Sha.sum s.data.toList)).toArray from (Option.some.inj e6).symm] at h6
          clear hE hO hN
          go_simp
          exact hK _ _ rfl hM (Below.refl _ _)
      · intro u w2 hM hF
        have e7 : u 7 = .bool true := (Option.some.inj (hF 7 (by omega))).symm
        clear hF
        simp only [fillAll, Nat.reduceAdd, e7, List.take_succ_cons, List.take_zero, List.drop_succ_cons, List.drop_zero, List.setIfInBounds_toArray, List.set_cons_succ, List.set_cons_zero]
        have hB2 := hB.trans (hM.mono hB.size)
        go_wp2_with (first
          | (go_at_call 17; refine (fixed_any _).mono ?_; rintro e w1 ⟨rfl, hb⟩; replace hB2 := hB2.trans (hb.mono hB2.size); clear hb))
        go_ret
        exact ⟨rfl, hB2⟩
theorem shasums_any (w : World) (A : Option Addr) (n c : Nat) (ps : List ByteArray) (hr : Rd w 1 A n (ps.map Value.string)) (hmx : n ≤ 8796093022208) :
    Calls Try.prog 4 #[.slice A n c] w fun e w' => e = .returned (.bool true) ∧ Below w.heap.size w w' := by
  go_enter Try.func4, Try.ntmps4
  go_wp2_with (first
      | (go_at_call 16; refine (joined_any _ A n c ps hr hmx).mono ?_; rintro e w1 ⟨o, ok, rfl, hok, hB⟩; cases ok)
      | (go_at_call 18; obtain ⟨hok1, hok2, hok3⟩ := hok (by simp); have hlen : (flat ps).length ≤ 70368744177664 := (by rw [← hok1, toList_length]; omega); refine (ssum_any _ A n c ps (hr.below_all hB) (by unfold maxLen; omega) hlen).mono ?_; rintro e w1 ⟨rfl, hb⟩; replace hB := hB.trans (hb.mono hB.size); clear hb hlen)
      | (go_at_call 19; refine (refsum_any _ o (by omega)).mono ?_; rintro e w1 ⟨rfl, hb⟩; replace hB := hB.trans (hb.mono hB.size); clear hb; rw [hok1])
      | (go_at_call 17; refine (fixed_any _).mono ?_; rintro e w1 ⟨rfl, hb⟩; replace hB := hB.trans (hb.mono hB.size); clear hb))
  all_goals go_ret
  all_goals exact ⟨rfl, hB⟩
end
end Go.Proofs.Ytkadailbfeeamaa
