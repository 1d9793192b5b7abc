/- Settings: the walk of config's Check. -/
import Derived.Test.YthefhfnmkjdekaaDoorCf4
namespace Go.Proofs.YthefhfnmkjdekaaDoor
open Go.RowKit
set_option maxRecDepth 100000
set_option maxHeartbeats 4000000 in
theorem check_any (w : World) (A : Option Addr) (c : Nat) (l : List SetE) (hl : l.length ≤ 1000000) (hs : Short l) (hr : Rd w 2 A l.length (setsV l)) :
    Calls Tryd.prog 15 #[.slice A l.length c] w fun e w' => e = .returned (.int .i64 (checkE l)) ∧ Below w.heap.size w w' := by
  obtain ⟨n, hn⟩ : ∃ n, n = l.length := ⟨_, rfl⟩
  rw [← hn] at hr hl ⊢
  by_cases h16 : 16 < n
  · have i16 : (16 : Int) < n := by omega
    have hE : checkE l = 6 := by rw [checkE, if_pos (by omega)]
    rw [hE]
    clear hr hs hn hE h16
    go_enter Tryd.func15, Tryd.ntmps15
    go_wp2_with fail
    go_ret
    exact ⟨rfl, Below.refl _ _⟩
  · have i16 : ¬ (16 : Int) < n := by omega
    have hat := fun (k : Nat) (hk : k < l.length) => checkE_at (l := l) (by omega) hk
    have hend := checkE_end (l := l) (by omega)
    obtain ⟨E, hE⟩ : ∃ E, E = checkE l := ⟨_, rfl⟩
    rw [← hE] at hat hend ⊢
    have HAT := hid2 hat
    have HEND := hid2 hend
    have HR := hid2 hr
    have HN := hid2 hn
    have HS := hid2 hs
    clear hat hend hr hn hs hE h16
    go_enter Tryd.func15, Tryd.ntmps15
    go_wp2_with fail
    go_loopw [11] (fun i wr => ∃ k : Nat, k ≤ n ∧ i = .int .i64 k ∧ Below w.heap.size w wr ∧ ∀ j, j < k → stepE l j = 0) (fun i _ => n - (intOf i).toNat)
    case atStart => exact ⟨0, by omega, rfl, Below.refl _ _, fun j hj => absurd hj (Nat.not_lt_zero _)⟩
    case round =>
      obtain ⟨k, hk, rfl, hbe, hz⟩ := hrel
      have HBE := hid2 hbe
      have HZ := hid2 hz
      clear hz
      by_cases hlt : k < n
      · have hkl : (k : Int) < n := by omega
        have hk0 : (0 : Int) ≤ k := by omega
        obtain ⟨p, hp⟩ : ∃ p, l[k]? = some p := ⟨_, List.getElem?_eq_getElem (by rw [← HN.out]; exact hlt)⟩
        obtain ⟨b, o, rfl, hc0, hc1⟩ := ((HR.out.below_all hbe)).set_at hp
        have hsp := HS.out p (List.mem_of_getElem? hp)
        have co := fun W => one_any W (strB p.1) (strB p.2) (by rw [strB_size]; exact hsp.1) (by rw [strB_size]; exact hsp.2)
        simp only [strB_list] at co
        rw [show (p.1, p.2) = p from rfl] at co
        have hts := toList_strB p.1
        obtain ⟨X, hX⟩ : ∃ X, X = strB p.1 := ⟨_, rfl⟩
        obtain ⟨Y, hY⟩ : ∃ Y, Y = strB p.2 := ⟨_, rfl⟩
        rw [← hX] at hc0 co hts
        rw [← hY] at hc1 co
        have HP := hid2 hp
        have HX := hid2 hX
        have HTS := hid2 hts
        clear hX hY hbe hsp hts
        by_cases he : oneE p = 0
        · rw [he] at co
          have CO := hid2 co
          have HE0 := hid2 he
          clear co he hp
          cases k with
          | zero =>
            rw [Nat.zero_mul, Nat.add_zero] at hc0 hc1
            have hst := (stepE_zero HP.out).trans HE0.out
            have HST := hid2 hst
            clear hst
            go_wp2_with (first
              | ((with_reducible refine wpList_store_lit wr.heap.size 0 (.agg #[.string X, .string Y]) [.string X, .string Y] (set_cells X Y) #[.string ⟨#[]⟩, .string ⟨#[]⟩] 31 (heap_alloc_new wr _) (set_size X Y) (set_fit X Y) (set_one X Y) ?_ ?_); exact ⟨rfl, rfl⟩; have hX1 := stored_row (VX := [.string X, .string Y]) (heap_alloc_new wr (.cells #[.string ⟨#[]⟩, .string ⟨#[]⟩] 31)) rfl; have hb1 := below_setRow ((HBE.out.alloc HBE.out.size (.cells #[.string ⟨#[]⟩, .string ⟨#[]⟩] 31))) HBE.out.size (laid #[.string ⟨#[]⟩, .string ⟨#[]⟩] 0 [.string X, .string Y]); obtain ⟨W1, hW1⟩ : ∃ W1, W1 = (wr.alloc (.cells #[.string ⟨#[]⟩, .string ⟨#[]⟩] 31)).setRow wr.heap.size (laid #[.string ⟨#[]⟩, .string ⟨#[]⟩] 0 [.string X, .string Y]) := ⟨_, rfl⟩; rw [← hW1] at hX1 hb1 ⊢; clear hW1 hc0 hc1)
              | ((with_reducible refine wpList_load_lit wr.heap.size 0 _ _ _ hX1 [.string X, .string Y] (fun j _ => getElem?_zero_add _ j) _ Tryd.underlying31 (set_size X Y) ?_ ?_); exact ⟨rfl, rfl⟩)
              | (go_at_call 24; refine (CO.out W1).mono ?_; rintro e w2 ⟨rfl, hb2⟩; have hb := hb1.trans (hb2.mono hb1.size); have hX2 := (hb2.block _ (heap_lt hX1)).trans hX1; have hx0 : w2.cell? ⟨wr.heap.size, 0, none⟩ = some (.string X) := cell_of_row w2 _ 0 _ _ _ hX2; clear hb1 hb2 hX1 hX2 CO))
            go_quiet (fail)
            go_wp2_with fail
            go_roundw
            case rel => exact ⟨1, by omega, by go_num, below_drewN hb _, fun j hj => by obtain rfl : j = 0 := (by omega); exact HST.out⟩
            case measure => simp [intOf]; omega
          | succ j =>
            obtain ⟨q, hq⟩ : ∃ q, l[j]? = some q := ⟨_, List.getElem?_eq_getElem (by rw [← HN.out]; omega)⟩
            have hst := stepE_succ hq HP.out
            rw [if_neg (by rw [HE0.out]; simp)] at hst
            have hj0 : (0 : Int) ≤ j := by omega
            have hjl : (j : Int) < n := by omega
            have hj1 : ¬ ((j : Int) + 1) = 0 := by omega
            have hwj : IntKind.i64.wrap (j : Int) = j := by unfold IntKind.wrap; simp [IntKind.bits, IntKind.signed]; omega
            have hcq := fun (w2 : World) (hb : Below w.heap.size w w2) => (HR.out.below_all hb).set_at hq
            obtain ⟨Q, hQ⟩ : ∃ Q, Q = strB q.1 := ⟨_, rfl⟩
            have hle : Op.bytesLess Q.toList X.toList = decide (q.1 < p.1) := by rw [hQ, HX.out]; exact less_dec _ _
            have heq : (Q.toList == X.toList) = decide (q.1 = p.1) := by rw [HTS.out, hQ, toList_strB, Bool.eq_iff_iff]; simp
            have hcq2 := fun (w2 : World) (hb : Below w.heap.size w w2) => show w2.cell? ⟨b, o + j * 2, none⟩ = some (.string Q) from by
              obtain ⟨b', o', e, h1, _⟩ := hcq w2 hb
              cases e
              rw [hQ]
              exact h1
            have HCQ := hid2 hcq2
            have HST := hid2 hst
            clear hst hcq hcq2 hq hQ
            by_cases h1 : q.1 < p.1
            · rw [decide_eq_true h1] at hle
              have hs0 := HST.out.trans (show nextE q p = 0 by rw [nextE, if_pos h1])
              have HS0 := hid2 hs0
              clear hs0 heq h1
              go_wp2_with (first
                | ((with_reducible refine wpList_store_lit wr.heap.size 0 (.agg #[.string X, .string Y]) [.string X, .string Y] (set_cells X Y) #[.string ⟨#[]⟩, .string ⟨#[]⟩] 31 (heap_alloc_new wr _) (set_size X Y) (set_fit X Y) (set_one X Y) ?_ ?_); exact ⟨rfl, rfl⟩; have hX1 := stored_row (VX := [.string X, .string Y]) (heap_alloc_new wr (.cells #[.string ⟨#[]⟩, .string ⟨#[]⟩] 31)) rfl; have hb1 := below_setRow ((HBE.out.alloc HBE.out.size (.cells #[.string ⟨#[]⟩, .string ⟨#[]⟩] 31))) HBE.out.size (laid #[.string ⟨#[]⟩, .string ⟨#[]⟩] 0 [.string X, .string Y]); obtain ⟨W1, hW1⟩ : ∃ W1, W1 = (wr.alloc (.cells #[.string ⟨#[]⟩, .string ⟨#[]⟩] 31)).setRow wr.heap.size (laid #[.string ⟨#[]⟩, .string ⟨#[]⟩] 0 [.string X, .string Y]) := ⟨_, rfl⟩; rw [← hW1] at hX1 hb1 ⊢; clear hW1 hc0 hc1)
                | ((with_reducible refine wpList_load_lit wr.heap.size 0 _ _ _ hX1 [.string X, .string Y] (fun j _ => getElem?_zero_add _ j) _ Tryd.underlying31 (set_size X Y) ?_ ?_); exact ⟨rfl, rfl⟩)
                | (go_at_call 24; refine (CO.out W1).mono ?_; rintro e w2 ⟨rfl, hb2⟩; have hb := hb1.trans (hb2.mono hb1.size); have hX2 := (hb2.block _ (heap_lt hX1)).trans hX1; have hx0 : w2.cell? ⟨wr.heap.size, 0, none⟩ = some (.string X) := cell_of_row w2 _ 0 _ _ _ hX2; clear hb1 hb2 hX1 hX2 CO; have hcq := HCQ.out w2 hb))
              go_quiet (fail)
              go_wp2_with fail
              go_roundw
              case rel => exact ⟨j + 2, by omega, by go_num, below_drewN hb _, fun i hi => (Nat.lt_or_ge i (j + 1)).elim (HZ.out i) fun h => by obtain rfl : i = j + 1 := (by omega); exact HS0.out⟩
              case measure => simp [intOf]; omega
            · rw [decide_eq_false h1] at hle
              by_cases h2 : q.1 = p.1
              · rw [decide_eq_true h2] at heq
                have hs0 := HAT.out (j + 1) (by rw [← HN.out]; omega) HZ.out (by rw [HST.out, nextE, if_neg h1, if_pos h2]; decide)
                rw [HST.out, nextE, if_neg h1, if_pos h2] at hs0
                have HS0 := hid2 hs0
                clear hs0 h1 h2
                go_wp2_with (first
                  | ((with_reducible refine wpList_store_lit wr.heap.size 0 (.agg #[.string X, .string Y]) [.string X, .string Y] (set_cells X Y) #[.string ⟨#[]⟩, .string ⟨#[]⟩] 31 (heap_alloc_new wr _) (set_size X Y) (set_fit X Y) (set_one X Y) ?_ ?_); exact ⟨rfl, rfl⟩; have hX1 := stored_row (VX := [.string X, .string Y]) (heap_alloc_new wr (.cells #[.string ⟨#[]⟩, .string ⟨#[]⟩] 31)) rfl; have hb1 := below_setRow ((HBE.out.alloc HBE.out.size (.cells #[.string ⟨#[]⟩, .string ⟨#[]⟩] 31))) HBE.out.size (laid #[.string ⟨#[]⟩, .string ⟨#[]⟩] 0 [.string X, .string Y]); obtain ⟨W1, hW1⟩ : ∃ W1, W1 = (wr.alloc (.cells #[.string ⟨#[]⟩, .string ⟨#[]⟩] 31)).setRow wr.heap.size (laid #[.string ⟨#[]⟩, .string ⟨#[]⟩] 0 [.string X, .string Y]) := ⟨_, rfl⟩; rw [← hW1] at hX1 hb1 ⊢; clear hW1 hc0 hc1)
                  | ((with_reducible refine wpList_load_lit wr.heap.size 0 _ _ _ hX1 [.string X, .string Y] (fun j _ => getElem?_zero_add _ j) _ Tryd.underlying31 (set_size X Y) ?_ ?_); exact ⟨rfl, rfl⟩)
                  | (go_at_call 24; refine (CO.out W1).mono ?_; rintro e w2 ⟨rfl, hb2⟩; have hb := hb1.trans (hb2.mono hb1.size); have hX2 := (hb2.block _ (heap_lt hX1)).trans hX1; have hx0 : w2.cell? ⟨wr.heap.size, 0, none⟩ = some (.string X) := cell_of_row w2 _ 0 _ _ _ hX2; clear hb1 hb2 hX1 hX2 CO; have hcq := HCQ.out w2 hb))
                go_quiet (fail)
                go_wp2_with fail
                go_quiet (fail)
                go_wp2_with fail
                go_ret
                exact ⟨by rw [HS0.out]; rfl, below_drewN (below_drewN hb _) _⟩
              · rw [decide_eq_false h2] at heq
                have hs0 := HAT.out (j + 1) (by rw [← HN.out]; omega) HZ.out (by rw [HST.out, nextE, if_neg h1, if_neg h2]; decide)
                rw [HST.out, nextE, if_neg h1, if_neg h2] at hs0
                have HS0 := hid2 hs0
                clear hs0 h1 h2
                go_wp2_with (first
                  | ((with_reducible refine wpList_store_lit wr.heap.size 0 (.agg #[.string X, .string Y]) [.string X, .string Y] (set_cells X Y) #[.string ⟨#[]⟩, .string ⟨#[]⟩] 31 (heap_alloc_new wr _) (set_size X Y) (set_fit X Y) (set_one X Y) ?_ ?_); exact ⟨rfl, rfl⟩; have hX1 := stored_row (VX := [.string X, .string Y]) (heap_alloc_new wr (.cells #[.string ⟨#[]⟩, .string ⟨#[]⟩] 31)) rfl; have hb1 := below_setRow ((HBE.out.alloc HBE.out.size (.cells #[.string ⟨#[]⟩, .string ⟨#[]⟩] 31))) HBE.out.size (laid #[.string ⟨#[]⟩, .string ⟨#[]⟩] 0 [.string X, .string Y]); obtain ⟨W1, hW1⟩ : ∃ W1, W1 = (wr.alloc (.cells #[.string ⟨#[]⟩, .string ⟨#[]⟩] 31)).setRow wr.heap.size (laid #[.string ⟨#[]⟩, .string ⟨#[]⟩] 0 [.string X, .string Y]) := ⟨_, rfl⟩; rw [← hW1] at hX1 hb1 ⊢; clear hW1 hc0 hc1)
                  | ((with_reducible refine wpList_load_lit wr.heap.size 0 _ _ _ hX1 [.string X, .string Y] (fun j _ => getElem?_zero_add _ j) _ Tryd.underlying31 (set_size X Y) ?_ ?_); exact ⟨rfl, rfl⟩)
                  | (go_at_call 24; refine (CO.out W1).mono ?_; rintro e w2 ⟨rfl, hb2⟩; have hb := hb1.trans (hb2.mono hb1.size); have hX2 := (hb2.block _ (heap_lt hX1)).trans hX1; have hx0 : w2.cell? ⟨wr.heap.size, 0, none⟩ = some (.string X) := cell_of_row w2 _ 0 _ _ _ hX2; clear hb1 hb2 hX1 hX2 CO; have hcq := HCQ.out w2 hb))
                go_quiet (fail)
                go_wp2_with fail
                go_quiet (fail)
                go_wp2_with fail
                go_ret
                exact ⟨by rw [HS0.out]; rfl, below_drewN (below_drewN hb _) _⟩
        · have hsk : stepE l k = oneE p := by
            cases k with
            | zero => exact stepE_zero hp
            | succ j =>
              obtain ⟨q, hq⟩ : ∃ q, l[j]? = some q := ⟨_, List.getElem?_eq_getElem (by rw [← HN.out]; omega)⟩
              rw [stepE_succ hq hp, if_pos he]
          have hs0 := HAT.out k (by rw [← HN.out]; exact hlt) HZ.out (by rw [hsk]; exact he)
          rw [hsk] at hs0
          have hne : ¬ ((oneE p : Nat) : Int) = 0 := by omega
          obtain ⟨F, hF⟩ : ∃ F, F = oneE p := ⟨_, rfl⟩
          rw [← hF] at co hs0 hne
          have CO := hid2 co
          have HS0 := hid2 hs0
          clear co hs0 hsk he hF hp
          go_wp2_with (first
            | ((with_reducible refine wpList_store_lit wr.heap.size 0 (.agg #[.string X, .string Y]) [.string X, .string Y] (set_cells X Y) #[.string ⟨#[]⟩, .string ⟨#[]⟩] 31 (heap_alloc_new wr _) (set_size X Y) (set_fit X Y) (set_one X Y) ?_ ?_); exact ⟨rfl, rfl⟩; have hX1 := stored_row (VX := [.string X, .string Y]) (heap_alloc_new wr (.cells #[.string ⟨#[]⟩, .string ⟨#[]⟩] 31)) rfl; have hb1 := below_setRow ((HBE.out.alloc HBE.out.size (.cells #[.string ⟨#[]⟩, .string ⟨#[]⟩] 31))) HBE.out.size (laid #[.string ⟨#[]⟩, .string ⟨#[]⟩] 0 [.string X, .string Y]); obtain ⟨W1, hW1⟩ : ∃ W1, W1 = (wr.alloc (.cells #[.string ⟨#[]⟩, .string ⟨#[]⟩] 31)).setRow wr.heap.size (laid #[.string ⟨#[]⟩, .string ⟨#[]⟩] 0 [.string X, .string Y]) := ⟨_, rfl⟩; rw [← hW1] at hX1 hb1 ⊢; clear hW1 hc0 hc1)
            | ((with_reducible refine wpList_load_lit wr.heap.size 0 _ _ _ hX1 [.string X, .string Y] (fun j _ => getElem?_zero_add _ j) _ Tryd.underlying31 (set_size X Y) ?_ ?_); exact ⟨rfl, rfl⟩)
            | (go_at_call 24; refine (CO.out W1).mono ?_; rintro e w2 ⟨rfl, hb2⟩; have hb := hb1.trans (hb2.mono hb1.size); have hX2 := (hb2.block _ (heap_lt hX1)).trans hX1; have hx0 : w2.cell? ⟨wr.heap.size, 0, none⟩ = some (.string X) := cell_of_row w2 _ 0 _ _ _ hX2; clear hb1 hb2 hX1 hX2 CO))
          go_ret
          exact ⟨by rw [HS0.out]; rfl, hb⟩
      · have hkl : ¬ (k : Int) < n := by omega
        have hE0 := HEND.out fun j hj => HZ.out j (by have := HN.out; omega)
        have HE0 := hid2 hE0
        clear hE0
        go_wp2_with fail
        go_ret
        exact ⟨by rw [HE0.out]; rfl, HBE.out⟩
end Go.Proofs.YthefhfnmkjdekaaDoor
