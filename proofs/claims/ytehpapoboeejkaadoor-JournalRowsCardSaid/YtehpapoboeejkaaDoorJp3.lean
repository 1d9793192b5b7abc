/- The records that bytes begin with: as plain functions, and the walks of first and Scan. -/
import Derived.Test.YtehpapoboeejkaaDoorJp1
import Derived.Test.YtehpapoboeejkaaDoorReg3
import Derived.Lib.Strings
import Derived.Laws.BitsAllLaws
namespace Go.Proofs.YtehpapoboeejkaaDoor
open Go.RowKit
theorem run_index_at (s : ByteArray) (i : Nat) (x : Int) (hx : x = i) (h : i < s.size) (w : World) : (Instr.index 9 (.string s) (.int .i64 x)).run Tryd.prog w = .ok (.int .u8 (s.data.toList.getD i 0).toNat) w := by
  subst hx
  rw [run_index_string w 9 s .i64 i Tryd.underlying9, dif_pos ⟨by omega, by omega⟩]
  have e : s[(i : Int).toNat]'(by omega) = s.data.toList.getD i 0 := by
    rw [List.getD_eq_getElem?_getD, List.getElem?_eq_getElem (by rw [toList_length]; exact h)]
    simp [ByteArray.getElem_eq_getElem_data]
  rw [e]
/-- four bytes as a number -/
def four (b : List UInt8) : Nat := (b.getD 0 0).toNat * 16777216 + (b.getD 1 0).toNat * 65536 + (b.getD 2 0).toNat * 256 + (b.getD 3 0).toNat
/-- the record that bytes begin with -/
def firstL (b : List UInt8) : Option (List UInt8) :=
  if 12 ≤ b.length ∧ four b ≤ 1048576 ∧ four b + 12 ≤ b.length ∧ headL ((b.drop 12).take (four b)) = b.take 12 then some ((b.drop 12).take (four b)) else none
theorem firstL_some {b r : List UInt8} (h : firstL b = some r) : b = frameL r ++ b.drop (12 + r.length) ∧ r.length + 12 ≤ b.length := by
  unfold firstL at h
  split at h
  · rename_i hc
    obtain ⟨h1, h2, h3, h4⟩ := hc
    have hr := Option.some.inj h
    have hrl : r.length = four b := by rw [← hr, List.length_take, List.length_drop]; omega
    rw [hr] at h4
    refine ⟨?_, by omega⟩
    have e1 : b = b.take 12 ++ b.drop 12 := (List.take_append_drop 12 b).symm
    have e2 : b.drop 12 = r ++ (b.drop 12).drop (four b) := by
      conv => lhs; rw [← List.take_append_drop (four b) (b.drop 12), hr]
    rw [List.drop_drop] at e2
    rw [frameL, h4, hrl, List.append_assoc, ← e2]
    exact e1
  · cases h
theorem ofInt64_nat (a : Nat) (h : a < 4611686018427387904) : (BitVec.ofInt 64 (a : Int)).toNat = a := by
  rw [BitVec.toNat_ofInt]; omega
theorem i64_or_nat (a b : Nat) (ha : a < 4611686018427387904) (hb : b < 4611686018427387904) : bits .or .i64 (a : Int) (b : Int) = ((a ||| b : Nat) : Int) := by
  have hx : a ||| b < 2 ^ 62 := Nat.or_lt_two_pow (by omega) (by omega)
  show IntKind.i64.wrap ((BitVec.ofInt 64 (a : Int) ||| BitVec.ofInt 64 (b : Int)).toNat : Int) = _
  rw [BitVec.toNat_or, ofInt64_nat a ha, ofInt64_nat b hb]
  exact IntWalk.i64_in _ (by constructor <;> omega)
theorem or_low (a b k : Nat) (hb : b < 2 ^ k) (ha : a * 2 ^ k < 4611686018427387904) (hb2 : b < 4611686018427387904) : bits .or .i64 ((a * 2 ^ k : Nat) : Int) (b : Int) = ((a * 2 ^ k + b : Nat) : Int) := by
  rw [i64_or_nat _ _ ha hb2, Nat.mul_comm a, Nat.two_pow_add_eq_or_of_lt hb a]
/-- what first answers -/
def FPost (w : World) (l : List UInt8) (e : Ending) (w' : World) : Prop :=
  ∃ r ok, e = .returned (.tuple #[.string r, .bool ok]) ∧ ((ok = true ∧ firstL l = some r.data.toList) ∨ (ok = false ∧ firstL l = none)) ∧ Below w.heap.size w w'
set_option maxRecDepth 100000 in
theorem first_any (w : World) (s : ByteArray) (hs : s.size ≤ 1000000) : Calls Tryd.prog 33 #[.string s] w (FPost w s.data.toList) := by
  have hs0 : (s.size : Int) ≤ 1000000 := by omega
  go_enter Tryd.func33, Tryd.ntmps33
  by_cases h12 : s.size < 12
  · have h12' : (s.size : Int) < 12 := by omega
    go_wp2_with fail
    go_ret2
    refine ⟨_, false, rfl, .inr ⟨rfl, ?_⟩, Below.refl _ _⟩
    unfold firstL
    rw [if_neg (by rw [toList_length]; omega)]
  · have h12' : (12 : Int) ≤ s.size := by omega
    have i0 := fun wx => run_index_at s 0 0 rfl (by omega) wx
    have i1 := fun wx => run_index_at s 1 1 rfl (by omega) wx
    have i2 := fun wx => run_index_at s 2 2 rfl (by omega) wx
    have i3 := fun wx => run_index_at s 3 3 rfl (by omega) wx
    obtain ⟨f, hf⟩ : ∃ f, f = four s.data.toList := ⟨_, rfl⟩
    unfold four at hf
    obtain ⟨c0, hc0⟩ : ∃ c, c = s.data.toList.getD 0 0 := ⟨_, rfl⟩
    obtain ⟨c1, hc1⟩ : ∃ c, c = s.data.toList.getD 1 0 := ⟨_, rfl⟩
    obtain ⟨c2, hc2⟩ : ∃ c, c = s.data.toList.getD 2 0 := ⟨_, rfl⟩
    obtain ⟨c3, hc3⟩ : ∃ c, c = s.data.toList.getD 3 0 := ⟨_, rfl⟩
    rw [← hc0] at i0 hf
    rw [← hc1] at i1 hf
    rw [← hc2] at i2 hf
    rw [← hc3] at i3 hf
    have hf4 : f = four s.data.toList := by rw [hf, four, ← hc0, ← hc1, ← hc2, ← hc3]
    obtain ⟨x0, hx0⟩ : ∃ x, x = c0.toNat := ⟨_, rfl⟩
    obtain ⟨x1, hx1⟩ : ∃ x, x = c1.toNat := ⟨_, rfl⟩
    obtain ⟨x2, hx2⟩ : ∃ x, x = c2.toNat := ⟨_, rfl⟩
    obtain ⟨x3, hx3⟩ : ∃ x, x = c3.toNat := ⟨_, rfl⟩
    have l0 := c0.toNat_lt
    have l1 := c1.toNat_lt
    have l2 := c2.toNat_lt
    have l3 := c3.toNat_lt
    rw [← hx0] at i0 hf l0
    rw [← hx1] at i1 hf l1
    rw [← hx2] at i2 hf l2
    rw [← hx3] at i3 hf l3
    obtain ⟨n1, hn1⟩ : ∃ n, n = x0 * 16777216 + x1 * 65536 := ⟨_, rfl⟩
    obtain ⟨n2, hn2⟩ : ∃ n, n = n1 + x2 * 256 := ⟨_, rfl⟩
    have e1 : bits .or .i64 ((x0 : Int) * 16777216) ((x1 : Int) * 65536) = (n1 : Int) := by
      have := or_low x0 (x1 * 65536) 24 (by omega) (by omega) (by omega)
      rw [show (((x0 * 2 ^ 24 : Nat)) : Int) = (x0 : Int) * 16777216 by omega, show ((x1 * 65536 : Nat) : Int) = (x1 : Int) * 65536 by omega] at this
      rw [this, hn1]
    have e2 : bits .or .i64 (n1 : Int) ((x2 : Int) * 256) = (n2 : Int) := by
      have := or_low (x0 * 256 + x1) (x2 * 256) 16 (by omega) (by omega) (by omega)
      rw [show ((((x0 * 256 + x1) * 2 ^ 16 : Nat)) : Int) = (n1 : Int) by omega, show ((x2 * 256 : Nat) : Int) = (x2 : Int) * 256 by omega] at this
      rw [this, hn2]
      omega
    have e3 : bits .or .i64 (n2 : Int) (x3 : Int) = (f : Int) := by
      have := or_low (x0 * 65536 + x1 * 256 + x2) x3 8 (by omega) (by omega) (by omega)
      rw [show ((((x0 * 65536 + x1 * 256 + x2) * 2 ^ 8 : Nat)) : Int) = (n2 : Int) by omega] at this
      rw [this]
      omega
    have w0 : IntKind.i64.wrap ((x0 : Int) * 16777216) = (x0 : Int) * 16777216 := IntWalk.i64_in _ (by constructor <;> omega)
    have w1 : IntKind.i64.wrap ((x1 : Int) * 65536) = (x1 : Int) * 65536 := IntWalk.i64_in _ (by constructor <;> omega)
    have w2 : IntKind.i64.wrap ((x2 : Int) * 256) = (x2 : Int) * 256 := IntWalk.i64_in _ (by constructor <;> omega)
    have hfl : f < 4294967296 := by omega
    clear hf hn1 hn2 hx0 hx1 hx2 hx3 hc0 hc1 hc2 hc3
    have HF := hid2 hf4
    clear hf4
    go_wp2_with fail
    go_quiet (fail)
    obtain ⟨wq, hwq⟩ : ∃ wq, wq = w.drewN nq := ⟨_, rfl⟩
    have hBq : Below w.heap.size w wq := by rw [hwq]; exact below_drewN (Below.refl _ _) _
    rw [← hwq]
    clear hwq i0 i1 i2 i3 e1 e2 e3 w0 w1 w2 l0 l1 l2 l3
    by_cases hbad : 1048576 < f ∨ s.size < f + 12
    · have hno : firstL s.data.toList = none := by
        unfold firstL
        rw [if_neg (by rw [toList_length, ← HF.out]; omega)]
      by_cases hb1 : 1048576 < f
      · have hb1' : (1048576 : Int) < f := by omega
        go_wp2_with fail
        go_ret2
        exact ⟨_, false, rfl, .inr ⟨rfl, hno⟩, hBq⟩
      · have hb1' : (f : Int) ≤ 1048576 := by omega
        have hb2 : (s.size : Int) - 12 < f := by omega
        go_wp2_with fail
        go_ret2
        exact ⟨_, false, rfl, .inr ⟨rfl, hno⟩, hBq⟩
    · have hb1 : (f : Int) ≤ 1048576 := by omega
      have hb2 : (f : Int) ≤ (s.size : Int) - 12 := by omega
      have hb3 : (12 : Int) ≤ 12 + f := by omega
      have hb4 : (12 : Int) + f ≤ s.size := by omega
      have ht : ((12 : Int) + f).toNat = 12 + f := by omega
      obtain ⟨r, hr⟩ : ∃ r, r = s.extract 12 (12 + f) := ⟨_, rfl⟩
      have hrl : r.data.toList = (s.data.toList.drop 12).take (four s.data.toList) := by
        rw [hr, ByteArray.data_extract, Array.toList_extract, ← HF.out]
        simp
      have hrs : r.size ≤ 1048576 := by rw [← toList_length, hrl, List.length_take, ← HF.out]; omega
      obtain ⟨q, hq⟩ : ∃ q, q = s.extract 0 12 := ⟨_, rfl⟩
      have hql : q.data.toList = s.data.toList.take 12 := by
        rw [hq, ByteArray.data_extract, Array.toList_extract]
        simp
      obtain ⟨N, hN⟩ : ∃ N, N = strB (headL r.data.toList) := ⟨_, rfl⟩
      have HRL := hid2 hrl
      have HQL := hid2 hql
      have HR := hid2 hr
      have HQ := hid2 hq
      have HN := hid2 hN
      clear hrl hql hN hr hq hbad
      go_wp2_with fail
      rw [← HR.out]
      by_cases hNq : N.data.toList = q.data.toList
      · have hbe : (N.toList == q.toList) = true := by rw [bytes_ext hNq]; exact beq_self_eq_true _
        refine wp_region_grd 8 (by kernel_rfl) (by kernel_rfl) (by kernel_rfl) _ rfl (by kernel_rfl) (fun j v _ => ([.string r, .string r, .string N, .string s, .string q, .bool true, .string r, .bool true] : List Value)[j]? = some v) (fun w4 => Below w.heap.size w w4) (fun a b => Below a.heap.size a b) (below_drewN hBq 1) (fun _ _ _ _ hb hv => hv) ?_ ?_
        · refine of_allOps ⟨?_, ?_, ?_, ?_, ?_, ?_, ?_, ?_, trivial⟩
          · intro T2 w2 hM hN hO hE K hK
            have o5 : T2[5]? = some (.string r) := hO 5 rfl
            clear hE hO hN
            refine step_plain0 rfl ?_
            go_simp
            exact hK _ _ rfl hM (Below.refl _ _)
          · intro T2 w2 hM hN hO hE K hK
            have o5 : T2[5]? = some (.string r) := hO 5 rfl
            clear hE hO hN
            refine step_plain0 rfl ?_
            go_simp
            exact hK _ _ rfl hM (Below.refl _ _)
          · intro T2 w2 hM hN hO hE K hK
            obtain ⟨v1, h1, e1⟩ := hE ⟨1, .data⟩ (by simp) rfl _ _ rfl rfl
            rw [show v1 = .string r from (Option.some.inj e1).symm] at h1
            clear hE hO hN
            refine step_plain0 rfl ?_
            go_simp
            refine (heading_any _ r hrs).mono ?_
            rintro e w3 ⟨rfl, hb⟩
            rw [← HN.out]
            exact hK _ _ rfl (hM.trans (hb.mono hM.size)) hb
          · intro T2 w2 hM hN hO hE K hK
            have o0 : T2[0]? = some (.string s) := hO 0 rfl
            clear hE hO hN
            refine step_plain0 rfl ?_
            go_simp
            exact hK _ _ rfl hM (Below.refl _ _)
          · intro T2 w2 hM hN hO hE K hK
            obtain ⟨v3, h3, e3⟩ := hE ⟨3, .data⟩ (by simp) rfl _ _ rfl rfl
            rw [show v3 = .string s from (Option.some.inj e3).symm] at h3
            clear hE hO hN
            refine step_plain0 rfl ?_
            go_simp
            rw [← HQ.out]
            exact hK _ _ rfl hM (Below.refl _ _)
          · intro T2 w2 hM hN hO hE K hK
            obtain ⟨v2, h2, e2⟩ := hE ⟨2, .data⟩ (by simp) rfl _ _ rfl rfl
            rw [show v2 = .string N from (Option.some.inj e2).symm] at h2
            obtain ⟨v4, h4, e4⟩ := hE ⟨4, .data⟩ (by simp) rfl _ _ rfl rfl
            rw [show v4 = .string q from (Option.some.inj e4).symm] at h4
            clear hE hO hN
            refine step_plain0 rfl ?_
            go_simp
            exact hK _ _ rfl hM (Below.refl _ _)
          · intro T2 w2 hM hN hO hE K hK
            obtain ⟨v0, h0, e0⟩ := hE ⟨0, .data⟩ (by simp) rfl _ _ rfl rfl
            rw [show v0 = .string r from (Option.some.inj e0).symm] at h0
            clear hE hO hN
            refine step_plain0 rfl ?_
            go_simp
            exact hK _ _ rfl hM (Below.refl _ _)
          · intro T2 w2 hM hN hO hE K hK
            obtain ⟨v5, h5, e5⟩ := hE ⟨5, .data⟩ (by simp) rfl _ _ rfl rfl
            rw [show v5 = .bool true from (Option.some.inj e5).symm] at h5
            clear hE hO hN
            refine step_plain0 rfl ?_
            go_simp
            exact hK _ _ rfl hM (Below.refl _ _)
        · intro u w2 hM hF
          have e0 : u 0 = .string r := (Option.some.inj (hF 0 (by omega))).symm
          have e5 : u 5 = .bool true := (Option.some.inj (hF 5 (by omega))).symm
          have e6 : u 6 = .string r := (Option.some.inj (hF 6 (by omega))).symm
          have e7 : u 7 = .bool true := (Option.some.inj (hF 7 (by omega))).symm
          clear hF
          simp only [fillAll, Nat.reduceAdd, e0, e5, e6, e7, List.take_succ_cons, List.take_zero, List.drop_succ_cons, List.drop_zero, List.setIfInBounds_toArray, List.set_cons_succ, List.set_cons_zero]
          go_wp2_with fail
          go_ret2
          refine ⟨r, true, rfl, .inl ⟨rfl, ?_⟩, hM⟩
          unfold firstL
          rw [if_pos, HRL.out]
          refine ⟨by rw [toList_length]; omega, by rw [← HF.out]; omega, by rw [← HF.out, toList_length]; omega, ?_⟩
          rw [← HRL.out, ← HQL.out, ← hNq, HN.out, strB_list]
      · have hbe : (N.toList == q.toList) = false := by
          rw [beq_eq_false_iff_ne]
          intro h
          exact hNq (by rw [← ByteArray.toList_eq, ← ByteArray.toList_eq, h])
        refine wp_region_grd 8 (by kernel_rfl) (by kernel_rfl) (by kernel_rfl) _ rfl (by kernel_rfl) (fun j v _ => ([.string r, .string r, .string N, .string s, .string q, .bool false, .string r, .bool false] : List Value)[j]? = some v) (fun w4 => Below w.heap.size w w4) (fun a b => Below a.heap.size a b) (below_drewN hBq 1) (fun _ _ _ _ hb hv => hv) ?_ ?_
        · refine of_allOps ⟨?_, ?_, ?_, ?_, ?_, ?_, ?_, ?_, trivial⟩
          · intro T2 w2 hM hN hO hE K hK
            have o5 : T2[5]? = some (.string r) := hO 5 rfl
            clear hE hO hN
            refine step_plain0 rfl ?_
            go_simp
            exact hK _ _ rfl hM (Below.refl _ _)
          · intro T2 w2 hM hN hO hE K hK
            have o5 : T2[5]? = some (.string r) := hO 5 rfl
            clear hE hO hN
            refine step_plain0 rfl ?_
            go_simp
            exact hK _ _ rfl hM (Below.refl _ _)
          · intro T2 w2 hM hN hO hE K hK
            obtain ⟨v1, h1, e1⟩ := hE ⟨1, .data⟩ (by simp) rfl _ _ rfl rfl
            rw [show v1 = .string r from (Option.some.inj e1).symm] at h1
            clear hE hO hN
            refine step_plain0 rfl ?_
            go_simp
            refine (heading_any _ r hrs).mono ?_
            rintro e w3 ⟨rfl, hb⟩
            rw [← HN.out]
            exact hK _ _ rfl (hM.trans (hb.mono hM.size)) hb
          · intro T2 w2 hM hN hO hE K hK
            have o0 : T2[0]? = some (.string s) := hO 0 rfl
            clear hE hO hN
            refine step_plain0 rfl ?_
            go_simp
            exact hK _ _ rfl hM (Below.refl _ _)
          · intro T2 w2 hM hN hO hE K hK
            obtain ⟨v3, h3, e3⟩ := hE ⟨3, .data⟩ (by simp) rfl _ _ rfl rfl
            rw [show v3 = .string s from (Option.some.inj e3).symm] at h3
            clear hE hO hN
            refine step_plain0 rfl ?_
            go_simp
            rw [← HQ.out]
            exact hK _ _ rfl hM (Below.refl _ _)
          · intro T2 w2 hM hN hO hE K hK
            obtain ⟨v2, h2, e2⟩ := hE ⟨2, .data⟩ (by simp) rfl _ _ rfl rfl
            rw [show v2 = .string N from (Option.some.inj e2).symm] at h2
            obtain ⟨v4, h4, e4⟩ := hE ⟨4, .data⟩ (by simp) rfl _ _ rfl rfl
            rw [show v4 = .string q from (Option.some.inj e4).symm] at h4
            clear hE hO hN
            refine step_plain0 rfl ?_
            go_simp
            exact hK _ _ rfl hM (Below.refl _ _)
          · intro T2 w2 hM hN hO hE K hK
            obtain ⟨v0, h0, e0⟩ := hE ⟨0, .data⟩ (by simp) rfl _ _ rfl rfl
            rw [show v0 = .string r from (Option.some.inj e0).symm] at h0
            clear hE hO hN
            refine step_plain0 rfl ?_
            go_simp
            exact hK _ _ rfl hM (Below.refl _ _)
          · intro T2 w2 hM hN hO hE K hK
            obtain ⟨v5, h5, e5⟩ := hE ⟨5, .data⟩ (by simp) rfl _ _ rfl rfl
            rw [show v5 = .bool false from (Option.some.inj e5).symm] at h5
            clear hE hO hN
            refine step_plain0 rfl ?_
            go_simp
            exact hK _ _ rfl hM (Below.refl _ _)
        · intro u w2 hM hF
          have e0 : u 0 = .string r := (Option.some.inj (hF 0 (by omega))).symm
          have e5 : u 5 = .bool false := (Option.some.inj (hF 5 (by omega))).symm
          have e6 : u 6 = .string r := (Option.some.inj (hF 6 (by omega))).symm
          have e7 : u 7 = .bool false := (Option.some.inj (hF 7 (by omega))).symm
          clear hF
          simp only [fillAll, Nat.reduceAdd, e0, e5, e6, e7, List.take_succ_cons, List.take_zero, List.drop_succ_cons, List.drop_zero, List.setIfInBounds_toArray, List.set_cons_succ, List.set_cons_zero]
          go_wp2_with fail
          go_ret2
          refine ⟨r, false, rfl, .inr ⟨rfl, ?_⟩, hM⟩
          unfold firstL
          rw [if_neg]
          rintro ⟨_, _, _, h4⟩
          rw [← HRL.out, ← HQL.out] at h4
          exact hNq (by rw [← h4, HN.out, strB_list])
end Go.Proofs.YtehpapoboeejkaaDoor
