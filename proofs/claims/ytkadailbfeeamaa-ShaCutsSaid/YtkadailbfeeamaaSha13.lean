/- The law ShaCuts. -/
import Derived.Test.YtkadailbfeeamaaSha12
import Derived.Test.YtkadailbfeeamaaReg3
namespace Go.Proofs.Ytkadailbfeeamaa
open Go.RowKit
set_option maxRecDepth 100000
theorem HashAt.below {w w' : World} {base g : Nat} {l : List UInt8} (h : HashAt w base g l) (hb : Below w.heap.size w w') : HashAt w' base g l := by
  obtain ⟨h1, h2, A, c, h3, h4⟩ := h
  exact ⟨h1, h2, A, c, (hb.block g (heap_lt h3)).trans h3, h4.below hb (Nat.le_refl _)⟩
section
attribute [local go_sem high] run_eq_sum run_neq_sum
theorem shacuts_any (w : World) (A : Option Addr) (n c : Nat) (ps : List ByteArray) (hr : Rd w 1 A n (ps.map Value.string)) (hmx : n ≤ 8796093022208) :
    Calls Try.prog 5 #[.slice A n c] w fun e w' => e = .returned (.bool true) ∧ Below w.heap.size w w' := by
  have hn : ps.length = n := by have := hr.1; simpa using this
  go_enter Try.func5, Try.ntmps5
  go_wp2_with (first
      | (go_at_call 16; refine (joined_any _ A n c ps hr hmx).mono ?_; rintro e w1 ⟨o, ok, rfl, hok, hB⟩; cases ok)
      | (go_at_call 17; refine (fixed_any _).mono ?_; rintro e w1 ⟨rfl, hb⟩; replace hB := hB.trans (hb.mono hB.size); clear hb))
  · go_ret
    exact ⟨rfl, hB⟩
  · obtain ⟨hok1, hok2, hok3⟩ := hok trivial
    have hfl : (flat ps).length ≤ 300 := by rw [← hok1, toList_length]; exact hok2
    clear hok
    go_wp2_with (first
      | (go_at_call 20; refine (hnew_any _).mono ?_; rintro e w2 ⟨g, rfl, hH, hb⟩; replace hH := hH.le hB.size; replace hB := hB.trans (hb.mono hB.size); clear hb)
      | (go_at_call 21; refine (hsum_any _ w.heap.size g [] hH (by simp)).mono ?_; rintro e w1 ⟨rfl, hb⟩; replace hB := hB.trans (hb.mono hB.size); replace hH := hH.below hb; clear hb)
      | (go_at_call 19; refine (refsum_nil _).mono ?_; rintro e w1 ⟨rfl, hb⟩; replace hB := hB.trans (hb.mono hB.size); replace hH := hH.below hb; clear hb))
    have hf0 : ((flat (ps.take 0)).length : Int) = 0 := rfl
    go_loopw [6, 7] (fun v i wr => ∃ k : Nat, k ≤ n ∧ v = .int .i64 ((flat (ps.take k)).length : Int) ∧ i = .int .i64 k ∧ Below w.heap.size w wr ∧ HashAt wr w.heap.size g (flat (ps.take k))) (fun _ i _ => n - (intOf i).toNat)
    case atStart => exact ⟨0, by omega, rfl, rfl, hB, hH⟩
    case round =>
      clear hB hH hf0
      obtain ⟨k, hk, rfl, rfl, hB, hH⟩ := hrel
      have hle := flat_take_le ps k
      have hL63 : ((flat (ps.take k)).length : Int) ≤ 300 := by omega
      by_cases hlt : k < n
      · obtain ⟨b, off, rfl, hcell⟩ := (hr.below_all hB).cell (j := k) (by simpa [hn] using hlt)
        have hkp : k < ps.length := by omega
        have hbw : b < w.heap.size := by
          obtain ⟨b2, o2, he, hc⟩ := hr.cell (j := k) (by simpa [hn] using hlt)
          cases he
          exact World.block_lt_of_cell? w _ hc
        have hsu := flat_take_succ ps k hkp
        have hle1 := flat_take_le ps (k + 1)
        have hln : (flat (ps.take (k + 1))).length = (flat (ps.take k)).length + ps[k].size := by rw [hsu, List.length_append, toList_length]
        rw [List.getElem_map] at hcell
        obtain ⟨s, hs⟩ : ∃ s, s = ps[k] := ⟨_, rfl⟩
        rw [← hs] at hcell hsu hln
        obtain ⟨L, hL⟩ : ∃ L, L = flat (ps.take k) := ⟨_, rfl⟩
        rw [← hL] at hH hsu hle hln ⊢
        obtain ⟨L1, hL1⟩ : ∃ L1, L1 = flat (ps.take (k + 1)) := ⟨_, rfl⟩
        rw [← hL1] at hsu hle1 hln
        have HLS := hid2 hsu
        have HL1 := hid2 hL1
        have hl1 : L.length + s.size ≤ 140737488355328 := by omega
        have hl2 : L1.length ≤ 300 := by omega
        have hl3 : L1.length ≤ o.size := by rw [← toList_length o, hok1]; exact hle1
        have HLN := hid2 hln
        have hlt' : (k : Int) < n := by omega
        have hadd : IntKind.i64.wrap ((L.length : Int) + s.size) = (L1.length : Int) := by rw [hln]; exact IntWalk.i64_in _ (by constructor <;> omega)
        clear hs hL hsu hL1 hle hle1 hln
        go_wp2_with (first
          | (go_at_call 22; refine (hadd_any _ w.heap.size g L s hH hl1 hB.size).mono ?_; rintro e w2 ⟨rfl, hH2, hb2, hs2⟩; rw [← HLS.out] at hH2; replace hB := hB.trans hb2; have hcell2 := (hb2.cell (p := ⟨b, _, none⟩) hbw).trans hcell; clear hH hb2 hcell; have hH := hH2; clear hH2))
        have HH := hid2 hH
        have hl3' : (L1.length : Int) ≤ o.size := by omega
        have hsp : (o.extract 0 L1.length).data.toList = L1 := by
          rw [ByteArray.data_extract, Array.toList_extract, hok1, HL1.out]
          conv => lhs; rw [← List.take_append_drop (k + 1) ps, flat_append]
          simp
        have hsp3 : (o.extract 0 L1.length).size ≤ 1000 := by
          rw [← toList_length, hsp]; omega
        have HSP := hid2 hsp
        clear hH hsp hcell2
        by_cases h3 : (k : Int).tmod 3 = 0
        · go_wp2_with fail
          refine wp_region_grd 11 (by kernel_rfl) (by kernel_rfl) (by kernel_rfl) _ rfl (by kernel_rfl) (fun j v _ => ([.int .i64 (k), .int .i64 0, .bool true, .bool true, .pointer (some ⟨g, 0, none⟩), .agg (u8s (Sha.sum L1)).toArray, .string o, .int .i64 (L1.length), .string (o.extract 0 L1.length), .agg (u8s (Sha.sum L1)).toArray, .bool false] : List Value)[j]? = some v) (fun w4 => Below w2.heap.size w2 w4) (fun a b => Below a.heap.size a b) (below_drewN (Below.refl _ w2) 1) (fun _ _ _ _ hb hv => hv) ?_ ?_
          · refine of_allOps ⟨?_, ?_, ?_, ?_, ?_, ?_, ?_, ?_, ?_, ?_, ?_, trivial⟩
            · intro T2 w2 hM hN hO hE K hK
              have o7 : T2[7]? = some (.int .i64 (k)) := hO 7 rfl
              clear hE hO hN
              refine step_plain0 rfl ?_
              go_simp
              exact hK _ _ rfl hM (Below.refl _ _)
            · intro T2 w2 hM hN hO hE K hK
              obtain ⟨v0, h0, e0⟩ := hE ⟨0, .data⟩ (by simp) rfl _ _ rfl rfl
              rw [show v0 = .int .i64 (k) from (Option.some.inj e0).symm] at h0
              clear hE hO hN
              refine step_plain0 rfl ?_
              go_simp
              exact hK _ _ rfl hM (Below.refl _ _)
            · intro T2 w2 hM hN hO hE K hK
              obtain ⟨v1, h1, e1⟩ := hE ⟨1, .data⟩ (by simp) rfl _ _ rfl rfl
              rw [show v1 = .int .i64 0 from (Option.some.inj e1).symm] at h1
              clear hE hO hN
              refine step_plain0 rfl ?_
              go_simp
              exact hK _ _ rfl hM (Below.refl _ _)
            · intro T2 w2 hM hN hO hE K hK
              obtain ⟨v2, h2, e2⟩ := hE ⟨2, .data⟩ (by simp) rfl _ _ rfl rfl
              rw [show v2 = .bool true from (Option.some.inj e2).symm] at h2
              clear hE hO hN
              refine step_plain0 rfl ?_
              go_simp
              exact hK _ _ rfl hM (Below.refl _ _)
            · intro T2 w2 hM hN hO hE K hK
              obtain ⟨v3, h3, e3⟩ := hE ⟨3, .guard⟩ (by simp) rfl _ _ rfl rfl
              rw [show v3 = .bool true from (Option.some.inj e3).symm] at h3
              have o5 : T2[5]? = some (.pointer (some ⟨g, 0, none⟩)) := hO 5 rfl
              clear hE hO hN
              refine grd_met rfl rfl rfl h3 ?_
              go_simp
              exact hK _ _ rfl hM (Below.refl _ _)
            · intro T2 w2 hM hN hO hE K hK
              obtain ⟨v4, h4, e4⟩ := hE ⟨4, .data⟩ (by simp) rfl _ _ rfl rfl
              rw [show v4 = .pointer (some ⟨g, 0, none⟩) from (Option.some.inj e4).symm] at h4
              obtain ⟨v3, h3, e3⟩ := hE ⟨3, .guard⟩ (by simp) rfl _ _ rfl rfl
              rw [show v3 = .bool true from (Option.some.inj e3).symm] at h3
              clear hE hO hN
              refine grd_met rfl rfl rfl h3 ?_
              go_simp
              refine (hsum_any _ w.heap.size g L1 (HH.out.below hM) (by omega)).mono ?_
              rintro e w3 ⟨rfl, hb⟩
              exact hK _ _ rfl (hM.trans (hb.mono hM.size)) hb
            · intro T2 w2 hM hN hO hE K hK
              obtain ⟨v3, h3, e3⟩ := hE ⟨3, .guard⟩ (by simp) rfl _ _ rfl rfl
              rw [show v3 = .bool true from (Option.some.inj e3).symm] at h3
              have o3 : T2[3]? = some (.string o) := hO 3 rfl
              clear hE hO hN
              refine grd_met rfl rfl rfl h3 ?_
              go_simp
              exact hK _ _ rfl hM (Below.refl _ _)
            · intro T2 w2 hM hN hO hE K hK
              obtain ⟨v3, h3, e3⟩ := hE ⟨3, .guard⟩ (by simp) rfl _ _ rfl rfl
              rw [show v3 = .bool true from (Option.some.inj e3).symm] at h3
              have o6 : T2[6]? = some (.int .i64 (L1.length)) := hO 6 rfl
              clear hE hO hN
              refine grd_met rfl rfl rfl h3 ?_
              go_simp
              exact hK _ _ rfl hM (Below.refl _ _)
            · intro T2 w2 hM hN hO hE K hK
              obtain ⟨v6, h6, e6⟩ := hE ⟨6, .data⟩ (by simp) rfl _ _ rfl rfl
              rw [show v6 = .string o from (Option.some.inj e6).symm] at h6
              obtain ⟨v7, h7, e7⟩ := hE ⟨7, .data⟩ (by simp) rfl _ _ rfl rfl
              rw [show v7 = .int .i64 (L1.length) from (Option.some.inj e7).symm] at h7
              obtain ⟨v3, h3, e3⟩ := hE ⟨3, .guard⟩ (by simp) rfl _ _ rfl rfl
              rw [show v3 = .bool true from (Option.some.inj e3).symm] at h3
              clear hE hO hN
              refine grd_met rfl rfl rfl h3 ?_
              go_simp
              exact hK _ _ rfl hM (Below.refl _ _)
            · intro T2 w2 hM hN hO hE K hK
              obtain ⟨v8, h8, e8⟩ := hE ⟨8, .data⟩ (by simp) rfl _ _ rfl rfl
              rw [show v8 = .string (o.extract 0 L1.length) from (Option.some.inj e8).symm] at h8
              obtain ⟨v3, h3, e3⟩ := hE ⟨3, .guard⟩ (by simp) rfl _ _ rfl rfl
              rw [show v3 = .bool true from (Option.some.inj e3).symm] at h3
              clear hE hO hN
              refine grd_met rfl rfl rfl h3 ?_
              go_simp
              refine (refsum_any _ _ hsp3).mono ?_
              rintro e w3 ⟨rfl, hb⟩
              rw [HSP.out]
              exact hK _ _ rfl (hM.trans (hb.mono hM.size)) hb
            · intro T2 w2 hM hN hO hE K hK
              obtain ⟨v5, h5, e5⟩ := hE ⟨5, .data⟩ (by simp) rfl _ _ rfl rfl
              rw [show v5 = .agg (u8s (Sha.sum L1)).toArray from (Option.some.inj e5).symm] at h5
              obtain ⟨v9, h9, e9⟩ := hE ⟨9, .data⟩ (by simp) rfl _ _ rfl rfl
              rw [show v9 = .agg (u8s (Sha.sum L1)).toArray from (Option.some.inj e9).symm] at h9
              obtain ⟨v3, h3, e3⟩ := hE ⟨3, .guard⟩ (by simp) rfl _ _ rfl rfl
              rw [show v3 = .bool true from (Option.some.inj e3).symm] at h3
              clear hE hO hN
              refine grd_met rfl rfl rfl h3 ?_
              go_simp
              exact hK _ _ rfl hM (Below.refl _ _)
          · intro u w2 hM hF
            have e2 : u 2 = .bool true := (Option.some.inj (hF 2 (by omega))).symm
            have e3 : u 3 = .bool true := (Option.some.inj (hF 3 (by omega))).symm
            have e10 : u 10 = .bool false := (Option.some.inj (hF 10 (by omega))).symm
            clear hF
            simp only [fillAll, Nat.reduceAdd, e2, e3, e10, List.take_succ_cons, List.take_zero, List.drop_succ_cons, List.drop_zero, List.setIfInBounds_toArray, List.set_cons_succ, List.set_cons_zero]
            go_wp2
            go_roundw
            case rel => exact ⟨k + 1, by omega, by rw [HL1.out], by go_num, hB.trans (hM.mono hB.size), by rw [← HL1.out]; exact HH.out.below hM⟩
            case measure => simp [intOf]; omega
        · have h3b : ((k : Int).tmod 3 == 0) = false := by simpa using h3
          go_wp2_with fail
          refine wp_region_grd 11 (by kernel_rfl) (by kernel_rfl) (by kernel_rfl) _ rfl (by kernel_rfl) (fun j v _ => ([.int .i64 (k), .int .i64 ((k : Int).tmod 3), .bool false, .bool false, undef, undef, undef, undef, undef, undef, undef] : List Value)[j]? = some v) (fun w4 => Below w2.heap.size w2 w4) (fun a b => Below a.heap.size a b) (below_drewN (Below.refl _ w2) 1) (fun _ _ _ _ hb hv => hv) ?_ ?_
          · refine of_allOps ⟨?_, ?_, ?_, ?_, ?_, ?_, ?_, ?_, ?_, ?_, ?_, trivial⟩
            · intro T2 w2 hM hN hO hE K hK
              have o7 : T2[7]? = some (.int .i64 (k)) := hO 7 rfl
              clear hE hO hN
              refine step_plain0 rfl ?_
              go_simp
              exact hK _ _ rfl hM (Below.refl _ _)
            · intro T2 w2 hM hN hO hE K hK
              obtain ⟨v0, h0, e0⟩ := hE ⟨0, .data⟩ (by simp) rfl _ _ rfl rfl
              rw [show v0 = .int .i64 (k) from (Option.some.inj e0).symm] at h0
              clear hE hO hN
              refine step_plain0 rfl ?_
              go_simp
              exact hK _ _ rfl hM (Below.refl _ _)
            · intro T2 w2 hM hN hO hE K hK
              obtain ⟨v1, h1, e1⟩ := hE ⟨1, .data⟩ (by simp) rfl _ _ rfl rfl
              rw [show v1 = .int .i64 ((k : Int).tmod 3) from (Option.some.inj e1).symm] at h1
              clear hE hO hN
              refine step_plain0 rfl ?_
              go_simp
              exact hK _ _ rfl hM (Below.refl _ _)
            · intro T2 w2 hM hN hO hE K hK
              obtain ⟨v2, h2, e2⟩ := hE ⟨2, .data⟩ (by simp) rfl _ _ rfl rfl
              rw [show v2 = .bool false from (Option.some.inj e2).symm] at h2
              clear hE hO hN
              refine step_plain0 rfl ?_
              go_simp
              exact hK _ _ rfl hM (Below.refl _ _)
            · intro T2 w2 hM hN hO hE K hK
              obtain ⟨v3, h3, e3⟩ := hE ⟨3, .guard⟩ (by simp) rfl _ _ rfl rfl
              rw [show v3 = .bool false from (Option.some.inj e3).symm] at h3
              clear hE hO hN
              refine grd_not rfl rfl rfl h3 (by decide) ?_
              exact hK _ _ rfl hM (Below.refl _ _)
            · intro T2 w2 hM hN hO hE K hK
              obtain ⟨v3, h3, e3⟩ := hE ⟨3, .guard⟩ (by simp) rfl _ _ rfl rfl
              rw [show v3 = .bool false from (Option.some.inj e3).symm] at h3
              clear hE hO hN
              refine grd_not rfl rfl rfl h3 (by decide) ?_
              exact hK _ _ rfl hM (Below.refl _ _)
            · intro T2 w2 hM hN hO hE K hK
              obtain ⟨v3, h3, e3⟩ := hE ⟨3, .guard⟩ (by simp) rfl _ _ rfl rfl
              rw [show v3 = .bool false from (Option.some.inj e3).symm] at h3
              clear hE hO hN
              refine grd_not rfl rfl rfl h3 (by decide) ?_
              exact hK _ _ rfl hM (Below.refl _ _)
            · intro T2 w2 hM hN hO hE K hK
              obtain ⟨v3, h3, e3⟩ := hE ⟨3, .guard⟩ (by simp) rfl _ _ rfl rfl
              rw [show v3 = .bool false from (Option.some.inj e3).symm] at h3
              clear hE hO hN
              refine grd_not rfl rfl rfl h3 (by decide) ?_
              exact hK _ _ rfl hM (Below.refl _ _)
            · intro T2 w2 hM hN hO hE K hK
              obtain ⟨v3, h3, e3⟩ := hE ⟨3, .guard⟩ (by simp) rfl _ _ rfl rfl
              rw [show v3 = .bool false from (Option.some.inj e3).symm] at h3
              clear hE hO hN
              refine grd_not rfl rfl rfl h3 (by decide) ?_
              exact hK _ _ rfl hM (Below.refl _ _)
            · intro T2 w2 hM hN hO hE K hK
              obtain ⟨v3, h3, e3⟩ := hE ⟨3, .guard⟩ (by simp) rfl _ _ rfl rfl
              rw [show v3 = .bool false from (Option.some.inj e3).symm] at h3
              clear hE hO hN
              refine grd_not rfl rfl rfl h3 (by decide) ?_
              exact hK _ _ rfl hM (Below.refl _ _)
            · intro T2 w2 hM hN hO hE K hK
              obtain ⟨v3, h3, e3⟩ := hE ⟨3, .guard⟩ (by simp) rfl _ _ rfl rfl
              rw [show v3 = .bool false from (Option.some.inj e3).symm] at h3
              clear hE hO hN
              refine grd_not rfl rfl rfl h3 (by decide) ?_
              exact hK _ _ rfl hM (Below.refl _ _)
          · intro u w2 hM hF
            have e3 : u 3 = .bool false := (Option.some.inj (hF 3 (by omega))).symm
            clear hF
            simp only [fillAll, Nat.reduceAdd, e3, List.take_succ_cons, List.take_zero, List.drop_succ_cons, List.drop_zero, List.setIfInBounds_toArray, List.set_cons_succ, List.set_cons_zero]
            go_wp2
            go_roundw
            case rel => exact ⟨k + 1, by omega, by rw [HL1.out], by go_num, hB.trans (hM.mono hB.size), by rw [← HL1.out]; exact HH.out.below hM⟩
            case measure => simp [intOf]; omega
      · have hlt' : ¬ (k : Int) < n := by omega
        have hfk : flat (ps.take k) = flat ps := by rw [List.take_of_length_le (by omega)]
        rw [hfk] at hH hL63 ⊢
        clear hfk hle
        have ho3 : o.size ≤ 70368744177664 := by omega
        have ho4 : o.size ≤ 1000 := by omega
        have hf3 : (flat ps).length ≤ 70368744177664 := by omega
        go_wp2_with (first
          | (go_at_call 21; refine (hsum_any _ w.heap.size g _ hH hf3).mono ?_; rintro e w1 ⟨rfl, hb⟩; replace hB := hB.trans (hb.mono hB.size); replace hH := hH.below hb; clear hb)
          | (go_at_call 18; refine (ssum_one _ o ho3).mono ?_; rintro e w1 ⟨rfl, hb⟩; replace hB := hB.trans (hb.mono hB.size); replace hH := hH.below hb; clear hb; rw [hok1])
          | (go_at_call 19; refine (refsum_any _ o ho4).mono ?_; rintro e w1 ⟨rfl, hb⟩; replace hB := hB.trans (hb.mono hB.size); replace hH := hH.below hb; clear hb; rw [hok1])
          | (go_at_call 17; refine (fixed_any _).mono ?_; rintro e w1 ⟨rfl, hb⟩; replace hB := hB.trans (hb.mono hB.size); clear hb))
        go_ret
        exact ⟨rfl, hB⟩
end
end Go.Proofs.Ytkadailbfeeamaa
