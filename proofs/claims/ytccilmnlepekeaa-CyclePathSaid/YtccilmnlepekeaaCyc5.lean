/- The walk of the reference's Far. -/
import Derived.Test.YtccilmnlepekeaaCyc4
namespace Go.Proofs.Ytccilmnlepekeaa
open Go.RowKit
def FarPost (w : World) (G : List (List Int)) (to : Nat) (e : Ending) (w' : World) : Prop :=
  ∃ A' c', e = .returned (.slice A' G.length c') ∧ Own w' w.heap.size 3 1 A' G.length c' (intV (farN G to G.length)) ∧ Below w.heap.size w w'
set_option maxRecDepth 100000 in
set_option maxHeartbeats 4000000 in
theorem far18_any (w : World) (A : Option Addr) (c : Nat) (G : List (List Int)) (hg : GRd w A G) (hs : Small G) (to : Nat) (hto : to < G.length) :
    Calls Try.prog 29 #[.slice A G.length c, .int .i64 to] w fun e w' => FarPost w G to e w' := by
  have hn := hs.n
  have cO : ∀ W, Below w.heap.size w W → ∀ (i k : Nat), i < G.length → k < G.length → Calls Try.prog 15 #[.slice A G.length c, .int .i64 i, .int .i64 k] W fun e w' => e = .returned (.bool (adj G i k)) ∧ w' = W := fun W hW i k hi hk => on_any W A c G (hg.below hW) hs i k hi hk
  have hmi := fun W => made_int W G.length (by omega)
  have hfl := farN_length G to
  have hfb := farN_bound G to
  have hfs : ∀ n : Nat, farN G to (n + 1) = farStep G to (n + 1) (farN G to n) := fun n => rfl
  have hf0 : farN G to 0 = List.replicate G.length 0 := rfl
  have hms : ∀ (n : Nat) (out : List Int), out.length = G.length → Mid G to n out out 0 := fun n out h => Mid.start h
  have hmd : ∀ (n : Nat) (out nx : List Int), Mid G to n out nx G.length → nx = farStep G to n out := fun n out nx h => h.done
  have hmn : ∀ (n : Nat) (out nx : List Int) (i : Nat), Mid G to n out nx i → i < G.length → ∀ v : Int, v = farV G to n out i → Mid G to n out (nx.set i v) (i + 1) := fun n out nx i h hi v hv => h.next hi v hv
  have hmt : ∀ (n : Nat) (out nx : List Int) (i : Nat), Mid G to n out nx i → i < G.length → out.getD i 0 = farV G to n out i → Mid G to n out nx (i + 1) := fun n out nx i h hi hv => h.stay hi hv
  have hml : ∀ (n : Nat) (out nx : List Int) (i : Nat), Mid G to n out nx i → nx.length = G.length := fun n out nx i h => h.1
  have hfv : ∀ (n : Nat) (out : List Int) (i : Nat), farV G to n out i = if 0 < out.getD i 0 then out.getD i 0 else if n = 1 then (if adj G i to = true then 1 else out.getD i 0) else if ((List.range G.length).any fun k => out.getD k 0 == (n : Int) - 1 && adj G i k) = true then (n : Int) else out.getD i 0 := fun n out i => rfl
  unfold FarPost
  obtain ⟨N, hN⟩ : ∃ N, N = G.length := ⟨_, rfl⟩
  rw [← hN] at hn cO hmi hfl hf0 hms hmd hmn hmt hml hfv hto ⊢
  have HCO := hid2 cO
  have HMI := hid2 hmi
  have HFL := hid2 hfl
  have HFB := hid2 hfb
  have HFS := hid2 hfs
  have HMS := hid2 hms
  have HMD := hid2 hmd
  have HMN := hid2 hmn
  have HMT := hid2 hmt
  have HML := hid2 hml
  have HFV := hid2 hfv
  obtain ⟨W1, hW1⟩ : ∃ W1, W1 = w.alloc (.cells (intV (List.replicate N 0)).toArray 3) := ⟨_, rfl⟩
  have hown0 : Own W1 w.heap.size 3 1 (some ⟨w.heap.size, 0, none⟩) N N (intV (farN G to 0)) := by
    rw [hW1, hf0]
    have := Own.lit w (intV (List.replicate N 0)).toArray 3 1 N w.heap.size (Nat.le_refl _) (by unfold maxLen; omega) (by simp [intV])
    simpa using this
  have hB1 : Below w.heap.size w W1 := by rw [hW1]; exact (Below.refl _ w).alloc (Nat.le_refl _) _
  have HOWN0 := hid2 hown0
  have HB1 := hid2 hB1
  have HW1 := hid2 hW1
  have HTO := hid2 hto
  have hto0 : (0 : Int) ≤ to := by omega
  clear hg hs cO hmi hfl hfb hfs hf0 hms hmd hmn hmt hml hfv hN hown0 hB1 hW1 hto
  go_enter Try.func29, Try.ntmps29
  go_wp2_with (first
    | ((with_reducible refine wpList_made (HMI.out w) ?_ ?_); exact ⟨rfl, rfl⟩; rw [← HW1.out]))
  go_loopg [5, 6, 7, 8, 9, 24, 45] N (fun gk ov nv x7 x8 x9 x24 x45 wr => ∃ (m nn : Nat) (A2 : Option Addr) (c2 : Nat), m + 1 = nn ∧ nn + gk = N + 1 ∧ nv = .int .i64 nn ∧ ov = .slice A2 N c2 ∧ Own wr w.heap.size 3 1 A2 N c2 (intV (farN G to m)) ∧ Below w.heap.size w wr)
  case atStart => exact ⟨0, 1, _, _, rfl, by omega, rfl, rfl, HOWN0.out, HB1.out⟩
  case round =>
    obtain ⟨m, nn, A2, c2, hmn, hk, rfl, rfl, hown, hlow⟩ := hrel
    have HOWN := hid2 hown
    have HLOW := hid2 hlow
    have HMNN := hid2 hmn
    have hnn1 : 1 ≤ nn := by omega
    clear hown hlow
    by_cases hlt : nn ≤ N
    · have hlt' : (nn : Int) ≤ N := by omega
      obtain ⟨g0, hg0⟩ : ∃ g0, g0 = gk := ⟨_, rfl⟩
      obtain ⟨out, hout⟩ : ∃ out, out = farN G to m := ⟨_, rfl⟩
      have hol : out.length = N := by rw [hout]; exact HFL.out m
      have hob : ∀ i, 0 ≤ out.getD i 0 ∧ out.getD i 0 ≤ (m : Int) := fun i => by rw [hout]; exact HFB.out m i
      have ho := HOWN.out
      rw [← hout] at ho
      have HOUT := hid2 hout
      have HOL := hid2 hol
      have HOB := hid2 hob
      have hown1 : Own (wr.alloc (.cells #[] 3)) w.heap.size 3 1 (some ⟨wr.heap.size, 0, none⟩) 0 0 [] := own_empty wr _ _ _ HLOW.out.size rfl
      have hown2 : Own (wr.alloc (.cells #[] 3)) w.heap.size 3 1 A2 N c2 (intV out) := ho.alloc _
      have hne : some wr.heap.size ≠ blockOf A2 := fun e => by have := (ho.block _ e.symm).2.1; omega
      have hone : ∀ v ∈ intV out, v.oneCell' = true := by
        intro v hv
        obtain ⟨x, _, rfl⟩ := List.mem_map.1 hv
        rfl
      have HO1 := hid2 hown1
      have HO2 := hid2 hown2
      have HNE := hid2 hne
      have HL1 := hid2 (HLOW.out.alloc HLOW.out.size (.cells #[] 3))
      have hlws := HLOW.out.size
      clear hout hol hob ho hown1 hown2 hne
      go_wp2_with (first
        | (at_builtin; go_must ((with_reducible refine wpList_append_lit 3 (.int .i64 0) 1 8 Try.underlying25 info_int1 rfl w.heap.size (some ⟨wr.heap.size, 0, none⟩) 0 0 [] HO1.out N (intV out) (.slice A2 N c2) (Src.slice Try.underlying25 HO2.out.rd) hone ?_ ?_ ?_ ?_ ?_); (unfold maxLen; omega); omega; (simp; omega); exact ⟨rfl, rfl⟩; intro A3 c3 w3 hown3 hgr3 hbl3)))
      have hfr : FarR w N out out A2 c2 A3 c3 w3 := by
        refine ⟨HO2.out.grown hgr3 (fun b e e2 => HNE.out (by rw [e]; exact (e2.symm : _))), by simpa using hown3, HL1.out.grown hgr3 HL1.out.size (fun b e => by
          have : b = wr.heap.size := by simpa [blockOf] using e.symm
          omega), fun e => ?_⟩
        have hb2 := fun b (h : blockOf A2 = some b) => (HOWN.out.block b h).2.1
        rcases hbl3 with h | h
        · rw [h] at e
          exact HNE.out e.symm
        · rw [h] at e
          have := hb2 _ e
          rw [World.size_alloc] at this
          omega
      have HFR := hid2 hfr
      clear hown3 hgr3 hbl3 hfr hmn
      go_loopg [8, 9, 24, 45] N (fun gi x8 x9 iv x45 wr2 => ∃ (i : Nat) (nx : List Int), i + gi = N ∧ iv = .int .i64 i ∧ Mid G to nn out nx i ∧ FarR w N out nx A2 c2 A3 c3 wr2)
      case atStart => exact ⟨0, out, by omega, rfl, HMS.out nn out HOL.out, HFR.out⟩
      case round =>
        clear HFR
        obtain ⟨i, nx, hi, rfl, hmid, hfr⟩ := hrel
        have HMID := hid2 hmid
        have HFR := hid2 hfr
        clear hmid hfr
        by_cases hiN : i < N
        · have hiN' : (i : Int) < N := by omega
          have hi0 : (0 : Int) ≤ i := by omega
          have HIN := hid2 hiN
          obtain ⟨g1, hg1⟩ : ∃ g1, g1 = gk := ⟨_, rfl⟩
          obtain ⟨x, hx⟩ : ∃ x, out[i]? = some x := ⟨_, List.getElem?_eq_getElem (by rw [HOL.out]; exact hiN)⟩
          have hgd := getD_of_get hx
          have hxb := HOB.out i
          rw [hgd] at hxb
          obtain ⟨b2, o2, rfl, cx⟩ := int_cell HFR.out.own2.rd hx
          obtain ⟨b3, o3, u3, rfl, cu, fu, hset⟩ := HFR.out.set hiN
          have hfv := HFV.out nn out i
          rw [hgd] at hfv
          have HFVI := hid2 hfv
          have HGD := hid2 hgd
          have HSET := hid2 hset
          clear hx hgd hset hfv hiN
          by_cases hx0 : 0 < x
          · have HM2 := hid2 (HMT.out nn out nx i HMID.out HIN.out (by rw [HGD.out, HFVI.out, if_pos hx0]))
            go_wp2_with fail
            go_roundg (gk - 1)
            case rel => exact ⟨i + 1, nx, by omega, by go_num, HM2.out, HFR.out⟩
            case measure => omega
          · have hx1 : ¬ (0 : Int) < x := hx0
            by_cases hn1 : nn = 1
            · have e1 : ((nn : Int) == 1) = true := by simp [hn1]
              have gt1 : ((1 : Int) < (nn : Int)) = False := eq_false (by omega)
              have gt1' : decide ((1 : Int) < (nn : Int)) = false := decide_eq_false (by omega)
              have gt1n : decide (1 < nn) = false := decide_eq_false (by omega)
              have hC := HCO.out wr HFR.out.low i to HIN.out HTO.out
              obtain ⟨av, hav⟩ : ∃ av, av = adj G i to := ⟨_, rfl⟩
              rw [← hav] at hC
              have hv := HFVI.out
              rw [if_neg hx0, if_pos hn1, ← hav] at hv
              have HC := hid2 hC
              have HV := hid2 hv
              clear hC hv hav hn1
              cases av with
              | true =>
                have HM2 := hid2 (HMN.out nn out nx i HMID.out HIN.out 1 (by rw [HV.out]; rfl))
                have HF2 := hid2 (HSET.out 1)
                go_wp2_with (first | (go_at_call 15; refine HC.out.mono ?_; rintro e w4 ⟨rfl, rfl⟩))
                obtain ⟨W5, hW5⟩ : ∃ W5, W5 = w4.setCell ⟨b3, o3 + i, none⟩ (.int .i64 1) := ⟨_, rfl⟩
                rw [← hW5]
                have HF3 : Hid2 (FarR w N out (nx.set i 1) (some ⟨b2, o2, none⟩) c2 (some ⟨b3, o3, none⟩) c3 W5) := by rw [hW5]; exact HF2
                clear hW5 HF2 cx cu fu
                go_loopg [9, 45] N (fun gq x9 kv wr3 => ∃ k : Nat, k + gq = N ∧ kv = .int .i64 k ∧ wr3 = W5)
                case atStart => exact ⟨0, by omega, rfl, rfl⟩
                case round =>
                  obtain ⟨k, hk3, rfl, rfl⟩ := hrel
                  by_cases hkN : k < N
                  · have hkN' : (k : Int) < N := by omega
                    clear hkN
                    go_wp2_with fail
                    go_roundg (gk - 1)
                    case rel => exact ⟨k + 1, by omega, by go_num, rfl⟩
                    case measure => omega
                  · have hkN' : ¬ (k : Int) < N := by omega
                    clear hkN
                    go_wp2_with fail
                    go_roundg (g1 - 1)
                    case rel => exact ⟨i + 1, _, by omega, by go_num, HM2.out, HF3.out⟩
                    case measure => omega
              | false =>
                have HM2 := hid2 (HMT.out nn out nx i HMID.out HIN.out (by rw [HGD.out, HV.out]; rfl))
                obtain ⟨W5, hW5⟩ : ∃ W5, W5 = wr := ⟨_, rfl⟩
                go_wp2_with (first | (go_at_call 15; refine HC.out.mono ?_; rintro e w4 ⟨rfl, rfl⟩))
                have HF3 : Hid2 (FarR w N out nx (some ⟨b2, o2, none⟩) c2 (some ⟨b3, o3, none⟩) c3 W5) := by rw [hW5]; exact HFR
                rw [← hW5]
                clear hW5 cx cu fu
                go_loopg [9, 45] N (fun gq x9 kv wr3 => ∃ k : Nat, k + gq = N ∧ kv = .int .i64 k ∧ wr3 = W5)
                case atStart => exact ⟨0, by omega, rfl, rfl⟩
                case round =>
                  obtain ⟨k, hk3, rfl, rfl⟩ := hrel
                  by_cases hkN : k < N
                  · have hkN' : (k : Int) < N := by omega
                    clear hkN
                    go_wp2_with fail
                    go_roundg (gk - 1)
                    case rel => exact ⟨k + 1, by omega, by go_num, rfl⟩
                    case measure => omega
                  · have hkN' : ¬ (k : Int) < N := by omega
                    clear hkN
                    go_wp2_with fail
                    go_roundg (g1 - 1)
                    case rel => exact ⟨i + 1, _, by omega, by go_num, HM2.out, HF3.out⟩
                    case measure => omega
            · have e1 : ((nn : Int) == 1) = false := by simp; omega
              have e1' : ¬ (nn : Int) = 1 := by omega
              have e1n : ¬ nn = 1 := hn1
              have gt1 : ((1 : Int) < (nn : Int)) = True := eq_true (by omega)
              have gt1' : decide ((1 : Int) < (nn : Int)) = true := decide_eq_true (by omega)
              have gt1n : decide (1 < nn) = true := decide_eq_true (by omega)
              have hwm : IntKind.i64.wrap ((nn : Int) - 1) = (nn : Int) - 1 := IntWalk.i64_in _ (by constructor <;> omega)
              have hv := HFVI.out
              rw [if_neg hx0, if_neg hn1] at hv
              have HV := hid2 hv
              clear hv hn1
              go_wp2_with fail
              clear cx cu fu
              go_loopg [9, 45] N (fun gq x9 kv wr3 => ∃ (k : Nat) (nx2 : List Int), k + gq = N ∧ kv = .int .i64 k ∧ nx2 = (if ((List.range k).any fun k => out.getD k 0 == (nn : Int) - 1 && adj G i k) = true then nx.set i nn else nx) ∧ FarR w N out nx2 (some ⟨b2, o2, none⟩) c2 (some ⟨b3, o3, none⟩) c3 wr3)
              case atStart => exact ⟨0, nx, by omega, rfl, rfl, HFR.out⟩
              case round =>
                clear HFR
                obtain ⟨k, nx2, hk3, rfl, hnx2, hfr⟩ := hrel
                have HNX2 := hid2 hnx2
                have HFR := hid2 hfr
                clear hnx2 hfr
                by_cases hkN : k < N
                · have hkN' : (k : Int) < N := by omega
                  have hk0 : (0 : Int) ≤ k := by omega
                  obtain ⟨y, hy⟩ : ∃ x, out[k]? = some x := ⟨_, List.getElem?_eq_getElem (by rw [HOL.out]; exact hkN)⟩
                  have hgy := getD_of_get hy
                  obtain ⟨b4, o4, e4, cy⟩ := int_cell HFR.out.own2.rd hy
                  cases e4
                  obtain ⟨b5, o5, u5, e5, cu, fu, hset2⟩ := HFR.out.set HIN.out
                  cases e5
                  have hC := HCO.out wr HFR.out.low i k HIN.out hkN
                  obtain ⟨av, hav⟩ : ∃ av, av = adj G i k := ⟨_, rfl⟩
                  rw [← hav] at hC
                  have hstep : ((List.range (k + 1)).any fun k => out.getD k 0 == (nn : Int) - 1 && adj G i k) = (((List.range k).any fun k => out.getD k 0 == (nn : Int) - 1 && adj G i k) || (y == (nn : Int) - 1 && av)) := by
                    rw [List.range_succ, List.any_append, hav, ← hgy]
                    simp
                  have HC := hid2 hC
                  have HSTEP := hid2 hstep
                  have HSET2 := hid2 hset2
                  have HSS := hid2 (show nx2.set i (nn : Int) = nx.set i (nn : Int) from by
                    rw [HNX2.out]
                    split
                    · rw [List.set_set]
                    · rfl)
                  clear hy hgy hC hav hstep hset2 hkN
                  by_cases hye : y = (nn : Int) - 1
                  · have hy1 : (y == (nn : Int) - 1) = true := by simp [hye]
                    have HY1 := hid2 hy1
                    clear hye
                    cases av with
                    | true =>
                      go_wp2_with (first | (go_at_call 15; refine HC.out.mono ?_; rintro e w4 ⟨rfl, rfl⟩))
                      go_roundg (gk - 1)
                      case rel => exact ⟨k + 1, nx.set i nn, by omega, by go_num, by rw [HSTEP.out, HY1.out, Bool.true_and, Bool.or_true, if_pos rfl], by rw [← HSS.out]; exact HSET2.out nn⟩
                      case measure => omega
                    | false =>
                      go_wp2_with (first | (go_at_call 15; refine HC.out.mono ?_; rintro e w4 ⟨rfl, rfl⟩))
                      go_roundg (gk - 1)
                      case rel => exact ⟨k + 1, nx2, by omega, by go_num, by rw [HSTEP.out, Bool.and_false, Bool.or_false]; exact HNX2.out, HFR.out⟩
                      case measure => omega
                  · have hy1 : (y == (nn : Int) - 1) = false := by simp [hye]
                    have HY1 := hid2 hy1
                    go_wp2_with fail
                    go_roundg (gk - 1)
                    case rel => exact ⟨k + 1, nx2, by omega, by go_num, by rw [HSTEP.out, HY1.out, Bool.false_and, Bool.or_false]; exact HNX2.out, HFR.out⟩
                    case measure => omega
                · have hkN2 : k = N := by omega
                  have hkN' : ¬ (k : Int) < N := by omega
                  have HM2 : Hid2 (Mid G to nn out nx2 (i + 1)) := by
                    have h := HNX2.out
                    rw [hkN2] at h
                    have hv := HV.out
                    rw [h]
                    split
                    · rename_i ht
                      rw [if_pos ht] at hv
                      exact hid2 (HMN.out nn out nx i HMID.out HIN.out nn hv.symm)
                    · rename_i ht
                      rw [if_neg ht] at hv
                      exact hid2 (HMT.out nn out nx i HMID.out HIN.out (by rw [HGD.out, hv]))
                  clear hkN2 hkN
                  go_wp2_with fail
                  go_roundg (g1 - 1)
                  case rel => exact ⟨i + 1, nx2, by omega, by go_num, HM2.out, HFR.out⟩
                  case measure => omega
        · have hiN' : i = N := by omega
          have hlt2 : ¬ (i : Int) < N := by omega
          have hnx := HMD.out nn out nx (by have := HMID.out; rwa [hiN'] at this)
          have HNX := hid2 (show nx = farN G to nn from by rw [hnx, ← HMNN.out, HFS.out m, ← HOUT.out])
          clear hnx hiN' hiN
          go_wp2_with fail
          go_roundg (g0 - 1)
          case rel => exact ⟨nn, nn + 1, A3, c3, rfl, by omega, by go_num, rfl, by rw [← HNX.out]; exact HFR.out.own3, HFR.out.low⟩
          case measure => omega
    · have hlt' : ¬ (nn : Int) ≤ N := by omega
      have hmN : m = N := by omega
      have HMN2 := hid2 hmN
      clear hlt hmN
      go_wp2_with fail
      go_ret
      exact ⟨A2, c2, rfl, by have := HOWN.out; rwa [HMN2.out] at this, HLOW.out⟩
end Go.Proofs.Ytccilmnlepekeaa
