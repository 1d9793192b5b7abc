/- The walk of the document's Scan, and the law JournalScans. -/
import Derived.Test.YtkadailbfeeamaaJour4
namespace Go.Proofs.Ytkadailbfeeamaa
open Go.RowKit
set_option maxRecDepth 100000
/-- the first j of four bytes as a number -/
def fourK (l : List UInt8) : Nat → Nat
  | 0 => 0
  | j + 1 => 256 * fourK l j + (l.getD j 0).toNat
theorem fourK_lt (l : List UInt8) : ∀ j, fourK l j < 256 ^ j
  | 0 => by simp [fourK]
  | j + 1 => by
    have h := fourK_lt l j
    have hb := (l.getD j 0).toNat_lt
    rw [fourK, Nat.pow_succ]
    omega
theorem fourK_four (l : List UInt8) : fourK l 4 = four l := by
  simp only [fourK, four]
  omega
theorem getD_drop8 (l : List UInt8) (a j : Nat) : (l.drop a).getD j 0 = l.getD (a + j) 0 := by
  rw [List.getD_eq_getElem?_getD, List.getD_eq_getElem?_getD, List.getElem?_drop]
theorem rscan_any (w : World) (s : ByteArray) (hs : s.size ≤ 900) : Calls Try.prog 24 #[.string s] w (SPost w s.data.toList) := by
  have hs0 : (s.size : Int) ≤ 900 := by omega
  obtain ⟨b, hb⟩ : ∃ b, b = s.data.toList := ⟨_, rfl⟩
  have hbl : b.length = s.size := by rw [hb, toList_length]
  rw [← hb]
  have HB := hid2 hb
  clear hb
  go_enter Try.func24, Try.ntmps24
  go_wp2_with fail
  go_loopg [4, 5] 76 (fun gk v i wr => ∃ (k at_ : Nat), k + gk = 76 ∧ i = .int .i64 at_ ∧ 12 * k ≤ at_ ∧ at_ ≤ s.size ∧ (scanK b k).2 = at_ ∧ (scanK b k).1.length = k ∧ Below w.heap.size w wr ∧ ∃ A c, v = .slice A k c ∧ Own wr w.heap.size 9 1 A k c (strV (scanK b k).1))
  case atStart => exact ⟨0, 0, by omega, rfl, by omega, by omega, rfl, rfl, (Below.refl _ _).alloc (Nat.le_refl _) _, _, _, rfl, Own.lit w #[] _ 1 0 _ (Nat.le_refl _) (by decide) rfl⟩
  case round =>
    obtain ⟨k, at_, hk, rfl, hka, hat, hsn, hln, hbe, A, c, rfl, hown⟩ := hrel
    obtain ⟨L, hL⟩ : ∃ L, L = strV (scanK b k).1 := ⟨_, rfl⟩
    rw [← hL] at hown
    have HL := hid2 hL
    have HSN := hid2 hsn
    have HLN := hid2 hln
    have hs1 := hbe.size
    have hnc := hown.2.1
    have hdl : (b.drop at_).length = s.size - at_ := by rw [List.length_drop, hbl]
    have hend : firstL (b.drop at_) = none → SPost w b (.returned (.tuple #[.slice A k c, .int .i64 (at_ : Int)])) wr := by
      intro hno
      have hall := scanL_of (b := b) (k := k) (by rw [HSN.out]; exact hno) (by omega)
      exact ⟨A, c, by rw [hall, HSN.out, HLN.out], by rw [hall, HLN.out, ← HL.out]; exact hown.rd, hbe⟩
    have HEND := hid2 hend
    have HDL := hid2 hdl
    have HOWN := hid2 hown
    have HBE := hid2 hbe
    clear hL hsn hln hend hdl hown hbe
    have hwa : IntKind.i64.wrap ((at_ : Int) + 12) = (at_ : Int) + 12 := IntWalk.i64_in _ (by constructor <;> omega)
    by_cases h12 : at_ + 12 ≤ s.size
    · have h12' : (at_ : Int) + 12 ≤ s.size := by omega
      go_wp2_with fail
      go_loopw [6, 7] (fun v i wx => ∃ j : Nat, j ≤ 4 ∧ i = .int .i64 j ∧ v = .int .i64 ((fourK (b.drop at_) j : Nat) : Int) ∧ wx = wr) (fun _ i _ => 4 - (intOf i).toNat)
      case atStart => exact ⟨0, by omega, rfl, rfl, by first | trivial | rfl⟩
      case round =>
        obtain ⟨j, hj, rfl, rfl, rfl⟩ := hrel
        have hfl := fourK_lt (b.drop at_) j
        by_cases hj4 : j < 4
        · have hj4' : (j : Int) < 4 := by omega
          have hfl2 : fourK (b.drop at_) j < 16777216 := Nat.lt_of_lt_of_le hfl (Nat.pow_le_pow_right (by decide) (show j ≤ 3 by omega))
          have hix := fun wx => run_index_at s (at_ + j) ((at_ : Int) + j) (by omega) (by omega) wx
          obtain ⟨x, hx⟩ : ∃ x, x = s.data.toList.getD (at_ + j) 0 := ⟨_, rfl⟩
          rw [← hx] at hix
          have hxl := x.toNat_lt
          obtain ⟨F, hF⟩ : ∃ F, F = fourK (b.drop at_) j := ⟨_, rfl⟩
          rw [← hF] at hfl2 ⊢
          have hw1 : IntKind.i64.wrap (256 * (F : Int)) = 256 * (F : Int) := IntWalk.i64_in _ (by constructor <;> omega)
          have hw2 : IntKind.i64.wrap (256 * (F : Int) + (x.toNat : Int)) = 256 * (F : Int) + (x.toNat : Int) := IntWalk.i64_in _ (by constructor <;> omega)
          have hw3 : IntKind.i64.wrap ((at_ : Int) + (j : Int)) = (at_ : Int) + (j : Int) := IntWalk.i64_in _ (by constructor <;> omega)
          have HX := hid2 hx
          have HF := hid2 hF
          clear hx hF hfl
          go_wp2_with fail
          go_roundw
          case rel =>
            refine ⟨j + 1, by omega, by go_num, ?_, by first | trivial | rfl⟩
            rw [fourK, ← HF.out, getD_drop8, HB.out, ← HX.out]
            congr 1
          case measure => simp [intOf]; omega
        · have hj44 : j = 4 := by omega
          have hnj : ¬ (j : Int) < 4 := by omega
          obtain ⟨f, hf⟩ : ∃ f, f = four (b.drop at_) := ⟨_, rfl⟩
          have hfe : fourK (b.drop at_) j = f := by rw [hj44, fourK_four, hf]
          rw [hfe] at hfl ⊢
          have hfl2 : f < 4294967296 := by rw [hj44] at hfl; exact hfl
          have hw4 : IntKind.i64.wrap ((at_ : Int) + 12 + (f : Int)) = (at_ : Int) + 12 + (f : Int) := IntWalk.i64_in _ (by constructor <;> omega)
          have HF := hid2 hf
          clear hfe hf hfl
          by_cases hbad : 1048576 < f ∨ s.size < at_ + 12 + f
          · have hno : firstL (b.drop at_) = none := by
              unfold firstL
              rw [if_neg (by rw [HDL.out, ← HF.out]; omega)]
            have hq := HEND.out hno
            by_cases hb1 : 1048576 < f
            · have hb1' : (1048576 : Int) < f := by omega
              go_wp2_with fail
              go_ret2
              exact hq
            · have hb1' : (f : Int) ≤ 1048576 := by omega
              have hb2 : (s.size : Int) < (at_ : Int) + 12 + f := by omega
              go_wp2_with fail
              go_ret2
              exact hq
          · have hb1 : (f : Int) ≤ 1048576 := by omega
            have hb2 : (at_ : Int) + 12 + f ≤ s.size := by omega
            have hb3 : (at_ : Int) + 12 ≤ (at_ : Int) + 12 + f := by omega
            have hb4 : (0 : Int) ≤ (at_ : Int) + 12 := by omega
            have hb5 : (at_ : Int) ≤ (at_ : Int) + 12 := by omega
            have ht1 : ((at_ : Int) + 12).toNat = at_ + 12 := by omega
            have ht2 : ((at_ : Int) + 12 + f).toNat = at_ + 12 + f := by omega
            obtain ⟨r, hr⟩ : ∃ r, r = s.extract (at_ + 12) (at_ + 12 + f) := ⟨_, rfl⟩
            have hrl : r.data.toList = ((b.drop at_).drop 12).take (four (b.drop at_)) := by
              rw [hr, ByteArray.data_extract, Array.toList_extract, ← HF.out, ← HB.out, List.extract_eq_take_drop, List.drop_drop, Nat.add_sub_cancel_left]
            have hrz : r.size = f := by rw [← toList_length, hrl, List.length_take, List.length_drop, HDL.out, ← HF.out]; omega
            have hrs : r.size ≤ 900 := by omega
            obtain ⟨q, hq⟩ : ∃ q, q = s.extract at_ (at_ + 12) := ⟨_, rfl⟩
            have hql : q.data.toList = (b.drop at_).take 12 := by
              rw [hq, ByteArray.data_extract, Array.toList_extract, ← HB.out, List.extract_eq_take_drop, Nat.add_sub_cancel_left]
            obtain ⟨N, hN⟩ : ∃ N, N = strB (headL r.data.toList) := ⟨_, rfl⟩
            have HRL := hid2 hrl
            have HQL := hid2 hql
            have HR := hid2 hr
            have HQ := hid2 hq
            have HN := hid2 hN
            have HRZ := hid2 hrz
            clear hrl hql hN hr hq hbad hrz
            go_wp2_with fail
            rw [← HR.out]
            by_cases hNq : N.data.toList = q.data.toList
            · have hbe : (N.toList == q.toList) = true := by rw [bytes_ext hNq]; exact beq_self_eq_true _
              refine wp_region_grd 8 (by kernel_rfl) (by kernel_rfl) (by kernel_rfl) _ rfl (by kernel_rfl) (fun j v _ => ([.string r, .string N, .string s, .int .i64 (at_), .int .i64 (at_), .int .i64 ((at_ : Int) + 12), .string q, .bool false] : List Value)[j]? = some v) (fun w4 => Below wr.heap.size wr w4) (fun a b => Below a.heap.size a b) (below_drewN (Below.refl _ wr) 1) (fun _ _ _ _ hb hv => hv) ?_ ?_
              · refine of_allOps ⟨?_, ?_, ?_, ?_, ?_, ?_, ?_, ?_, trivial⟩
                · intro T2 w2 hM hN hO hE K hK
                  have o8 : T2[8]? = some (.string r) := hO 8 rfl
                  clear hE hO hN
                  refine step_plain0 rfl ?_
                  go_simp
                  exact hK _ _ rfl hM (Below.refl _ _)
                · intro T2 w2 hM hN hO hE K hK
                  obtain ⟨v0, h0, e0⟩ := hE ⟨0, .data⟩ (by simp) rfl _ _ rfl rfl
                  rw [show v0 = .string r from (Option.some.inj e0).symm] at h0
                  clear hE hO hN
                  refine step_plain0 rfl ?_
                  go_simp
                  refine (rhead_any _ r hrs).mono ?_
                  rintro e w3 ⟨rfl, hb⟩
                  rw [← HN.out]
                  exact hK _ _ rfl (hM.trans (hb.mono hM.size)) hb
                · intro T2 w2 hM hN hO hE K hK
                  have o0 : T2[0]? = some (.string s) := hO 0 rfl
                  clear hE hO hN
                  refine step_plain0 rfl ?_
                  go_simp
                  exact hK _ _ rfl hM (Below.refl _ _)
                · intro T2 w2 hM hN hO hE K hK
                  have o5 : T2[5]? = some (.int .i64 (at_)) := hO 5 rfl
                  clear hE hO hN
                  refine step_plain0 rfl ?_
                  go_simp
                  exact hK _ _ rfl hM (Below.refl _ _)
                · intro T2 w2 hM hN hO hE K hK
                  have o5 : T2[5]? = some (.int .i64 (at_)) := hO 5 rfl
                  clear hE hO hN
                  refine step_plain0 rfl ?_
                  go_simp
                  exact hK _ _ rfl hM (Below.refl _ _)
                · intro T2 w2 hM hN hO hE K hK
                  obtain ⟨v4, h4, e4⟩ := hE ⟨4, .data⟩ (by simp) rfl _ _ rfl rfl
                  rw [show v4 = .int .i64 (at_) from (Option.some.inj e4).symm] at h4
                  clear hE hO hN
                  refine step_plain0 rfl ?_
                  go_simp
                  exact hK _ _ rfl hM (Below.refl _ _)
                · intro T2 w2 hM hN hO hE K hK
                  obtain ⟨v2, h2, e2⟩ := hE ⟨2, .data⟩ (by simp) rfl _ _ rfl rfl
                  rw [show v2 = .string s from (Option.some.inj e2).symm] at h2
                  obtain ⟨v3, h3, e3⟩ := hE ⟨3, .data⟩ (by simp) rfl _ _ rfl rfl
                  rw [show v3 = .int .i64 (at_) from (Option.some.inj e3).symm] at h3
                  obtain ⟨v5, h5, e5⟩ := hE ⟨5, .data⟩ (by simp) rfl _ _ rfl rfl
                  rw [show v5 = .int .i64 ((at_ : Int) + 12) from (Option.some.inj e5).symm] at h5
                  clear hE hO hN
                  refine step_plain0 rfl ?_
                  go_simp
                  rw [← HQ.out]
                  exact hK _ _ rfl hM (Below.refl _ _)
                · intro T2 w2 hM hN hO hE K hK
                  obtain ⟨v1, h1, e1⟩ := hE ⟨1, .data⟩ (by simp) rfl _ _ rfl rfl
                  rw [show v1 = .string N from (Option.some.inj e1).symm] at h1
                  obtain ⟨v6, h6, e6⟩ := hE ⟨6, .data⟩ (by simp) rfl _ _ rfl rfl
                  rw [show v6 = .string q from (Option.some.inj e6).symm] at h6
                  clear hE hO hN
                  refine step_plain0 rfl ?_
                  go_simp
                  exact hK _ _ rfl hM (Below.refl _ _)
              · intro u w2 hM hF
                have e7 : u 7 = .bool false := (Option.some.inj (hF 7 (by omega))).symm
                clear hF
                simp only [fillAll, Nat.reduceAdd, e7, List.take_succ_cons, List.take_zero, List.drop_succ_cons, List.drop_zero, List.setIfInBounds_toArray, List.set_cons_succ, List.set_cons_zero]
                have hyes : firstL (b.drop at_) = some r.data.toList := by
                  unfold firstL
                  rw [if_pos, HRL.out]
                  refine ⟨by rw [HDL.out]; omega, by rw [← HF.out]; omega, by rw [← HF.out, HDL.out]; omega, ?_⟩
                  rw [← HRL.out, ← HQL.out, ← hNq, HN.out, strB_list]
                have hstep := scanK_some (b := b) (k := k) (r := r.data.toList) (by rw [HSN.out]; exact hyes)
                have HST := hid2 hstep
                have hbe1 := HBE.out.trans (hM.mono hs1)
                have hown1 := HOWN.out.below hM (Nat.le_refl _)
                clear hyes hstep hbe
                go_wp2_with (first
                  | (at_builtin; have _t := hown1; go_must ((with_reducible refine wpList_append_lit 9 (.string ⟨#[]⟩) 1 16 Try.underlying30 info_str rfl w.heap.size A k c L (hown1.alloc _) 1 [.string r] (.slice (some ⟨w2.heap.size, 0, none⟩) 1 1) (Src.slice Try.underlying30 (Rd.one w2 _ _)) one_str ?_ ?_ ?_ ?_ ?_); (unfold maxLen; omega); omega; (simp; have := hbe1.size; omega); exact ⟨rfl, rfl⟩; intro A3 c3 w3 hown3 hgr3 hbl3; clear hown1)))
                go_roundg (gk - 1)
                case rel =>
                  refine ⟨k + 1, at_ + (12 + r.size), by have := HRZ.out; omega, by have := HRZ.out; go_num, by omega, by have := HRZ.out; omega, ?_, ?_, ?_, A3, c3, rfl, ?_⟩
                  · rw [HST.out, HSN.out, toList_length]
                  · rw [HST.out, List.length_append, HLN.out]; rfl
                  · exact (hbe1.alloc hbe1.size _).grown hgr3 (by simp; have := hbe1.size; omega) (fun g e => (_t.block g e).1)
                  · rw [HST.out, ← strV_snoc, ← HL.out, strB_of]; exact hown3
                case measure => omega
            · have hbe : (N.toList == q.toList) = false := by
                rw [beq_eq_false_iff_ne]
                intro h
                exact hNq (by rw [← ByteArray.toList_eq, ← ByteArray.toList_eq, h])
              refine wp_region_grd 8 (by kernel_rfl) (by kernel_rfl) (by kernel_rfl) _ rfl (by kernel_rfl) (fun j v _ => ([.string r, .string N, .string s, .int .i64 (at_), .int .i64 (at_), .int .i64 ((at_ : Int) + 12), .string q, .bool true] : List Value)[j]? = some v) (fun w4 => Below wr.heap.size wr w4) (fun a b => Below a.heap.size a b) (below_drewN (Below.refl _ wr) 1) (fun _ _ _ _ hb hv => hv) ?_ ?_
              · refine of_allOps ⟨?_, ?_, ?_, ?_, ?_, ?_, ?_, ?_, trivial⟩
                · intro T2 w2 hM hN hO hE K hK
                  have o8 : T2[8]? = some (.string r) := hO 8 rfl
                  clear hE hO hN
                  refine step_plain0 rfl ?_
                  go_simp
                  exact hK _ _ rfl hM (Below.refl _ _)
                · intro T2 w2 hM hN hO hE K hK
                  obtain ⟨v0, h0, e0⟩ := hE ⟨0, .data⟩ (by simp) rfl _ _ rfl rfl
                  rw [show v0 = .string r from (Option.some.inj e0).symm] at h0
                  clear hE hO hN
                  refine step_plain0 rfl ?_
                  go_simp
                  refine (rhead_any _ r hrs).mono ?_
                  rintro e w3 ⟨rfl, hb⟩
                  rw [← HN.out]
                  exact hK _ _ rfl (hM.trans (hb.mono hM.size)) hb
                · intro T2 w2 hM hN hO hE K hK
                  have o0 : T2[0]? = some (.string s) := hO 0 rfl
                  clear hE hO hN
                  refine step_plain0 rfl ?_
                  go_simp
                  exact hK _ _ rfl hM (Below.refl _ _)
                · intro T2 w2 hM hN hO hE K hK
                  have o5 : T2[5]? = some (.int .i64 (at_)) := hO 5 rfl
                  clear hE hO hN
                  refine step_plain0 rfl ?_
                  go_simp
                  exact hK _ _ rfl hM (Below.refl _ _)
                · intro T2 w2 hM hN hO hE K hK
                  have o5 : T2[5]? = some (.int .i64 (at_)) := hO 5 rfl
                  clear hE hO hN
                  refine step_plain0 rfl ?_
                  go_simp
                  exact hK _ _ rfl hM (Below.refl _ _)
                · intro T2 w2 hM hN hO hE K hK
                  obtain ⟨v4, h4, e4⟩ := hE ⟨4, .data⟩ (by simp) rfl _ _ rfl rfl
                  rw [show v4 = .int .i64 (at_) from (Option.some.inj e4).symm] at h4
                  clear hE hO hN
                  refine step_plain0 rfl ?_
                  go_simp
                  exact hK _ _ rfl hM (Below.refl _ _)
                · intro T2 w2 hM hN hO hE K hK
                  obtain ⟨v2, h2, e2⟩ := hE ⟨2, .data⟩ (by simp) rfl _ _ rfl rfl
                  rw [show v2 = .string s from (Option.some.inj e2).symm] at h2
                  obtain ⟨v3, h3, e3⟩ := hE ⟨3, .data⟩ (by simp) rfl _ _ rfl rfl
                  rw [show v3 = .int .i64 (at_) from (Option.some.inj e3).symm] at h3
                  obtain ⟨v5, h5, e5⟩ := hE ⟨5, .data⟩ (by simp) rfl _ _ rfl rfl
                  rw [show v5 = .int .i64 ((at_ : Int) + 12) from (Option.some.inj e5).symm] at h5
                  clear hE hO hN
                  refine step_plain0 rfl ?_
                  go_simp
                  rw [← HQ.out]
                  exact hK _ _ rfl hM (Below.refl _ _)
                · intro T2 w2 hM hN hO hE K hK
                  obtain ⟨v1, h1, e1⟩ := hE ⟨1, .data⟩ (by simp) rfl _ _ rfl rfl
                  rw [show v1 = .string N from (Option.some.inj e1).symm] at h1
                  obtain ⟨v6, h6, e6⟩ := hE ⟨6, .data⟩ (by simp) rfl _ _ rfl rfl
                  rw [show v6 = .string q from (Option.some.inj e6).symm] at h6
                  clear hE hO hN
                  refine step_plain0 rfl ?_
                  go_simp
                  exact hK _ _ rfl hM (Below.refl _ _)
              · intro u w2 hM hF
                have e7 : u 7 = .bool true := (Option.some.inj (hF 7 (by omega))).symm
                clear hF
                simp only [fillAll, Nat.reduceAdd, e7, List.take_succ_cons, List.take_zero, List.drop_succ_cons, List.drop_zero, List.setIfInBounds_toArray, List.set_cons_succ, List.set_cons_zero]
                have hno : firstL (b.drop at_) = none := by
                  unfold firstL
                  rw [if_neg]
                  rintro ⟨_, _, _, h4⟩
                  rw [← HRL.out, ← HQL.out] at h4
                  exact hNq (by rw [← h4, HN.out, strB_list])
                obtain ⟨A9, c9, h91, h92, h93⟩ := HEND.out hno
                go_wp2_with fail
                go_ret2
                exact ⟨A9, c9, h91, h92.below_all hM, h93.trans (hM.mono hs1)⟩
    · have h12' : ¬ (at_ : Int) + 12 ≤ s.size := by omega
      have hno : firstL (b.drop at_) = none := by
        unfold firstL
        rw [if_neg (by rw [HDL.out]; omega)]
      have hq := HEND.out hno
      go_wp2_with fail
      go_ret2
      exact hq
end Go.Proofs.Ytkadailbfeeamaa
