/- Settings: the walks of the document's Check, Great and Get, and of config's Get. -/
import Derived.Test.YthefhfnmkjdekaaDoorCf5
namespace Go.Proofs.YthefhfnmkjdekaaDoor
open Go.RowKit
set_option maxRecDepth 100000
theorem less_irrefl (x : Tx) : ¬ x < x := List.lt_irrefl x
theorem less_else {x y : Tx} (h1 : ¬ x < y) (h2 : ¬ x = y) : y < x := Classical.byContradiction fun h => h2 (List.le_antisymm (List.not_lt.1 h) (List.not_lt.1 h1))
set_option maxHeartbeats 4000000 in
theorem rcheck_any (w : World) (A : Option Addr) (c : Nat) (l : List SetE) (hl : l.length ≤ 1000000) (hs : Short l) (hr : Rd w 2 A l.length (setsV l)) :
    Calls Tryd.prog 8 #[.slice A l.length c] w fun e w' => e = .returned (.int .i64 (checkE l)) ∧ Below w.heap.size w w' := by
  obtain ⟨n, hn⟩ : ∃ n, n = l.length := ⟨_, rfl⟩
  rw [← hn] at hr hl ⊢
  by_cases h16 : 16 < n
  · have i16 : (16 : Int) < n := by omega
    have hE : checkE l = 6 := by rw [checkE, if_pos (by omega)]
    rw [hE]
    clear hr hs hn hE h16
    go_enter Tryd.func8, Tryd.ntmps8
    go_wp2_with fail
    go_ret
    exact ⟨rfl, Below.refl _ _⟩
  · have i16 : ¬ (16 : Int) < n := by omega
    have hat := fun (k : Nat) (hk : k < l.length) => checkE_at (l := l) (by omega) hk
    have hend := checkE_end (l := l) (by omega)
    obtain ⟨E, hE⟩ : ∃ E, E = checkE l := ⟨_, rfl⟩
    rw [← hE] at hat hend ⊢
    have HAT := hid2 hat
    have HEND := hid2 hend
    have HR := hid2 hr
    have HN := hid2 hn
    have HS := hid2 hs
    clear hat hend hr hn hs hE h16
    go_enter Tryd.func8, Tryd.ntmps8
    go_wp2_with fail
    go_loopw [9] (fun i wr => ∃ k : Nat, k ≤ n ∧ i = .int .i64 k ∧ Below w.heap.size w wr ∧ ∀ j, j < k → stepE l j = 0) (fun i _ => n - (intOf i).toNat)
    case atStart => exact ⟨0, by omega, rfl, Below.refl _ _, fun j hj => absurd hj (Nat.not_lt_zero _)⟩
    case round =>
      obtain ⟨k, hk, rfl, hbe, hz⟩ := hrel
      have HBE := hid2 hbe
      have HZ := hid2 hz
      clear hz
      by_cases hlt : k < n
      · have hkl : (k : Int) < n := by omega
        have hk0 : (0 : Int) ≤ k := by omega
        obtain ⟨p, hp⟩ : ∃ p, l[k]? = some p := ⟨_, List.getElem?_eq_getElem (by rw [← HN.out]; exact hlt)⟩
        obtain ⟨b, o, rfl, hc0, hc1⟩ := ((HR.out.below_all hbe)).set_at hp
        have hsp := HS.out p (List.mem_of_getElem? hp)
        have co := fun W => rone_any W (strB p.1) (strB p.2) (by rw [strB_size]; exact hsp.1) (by rw [strB_size]; exact hsp.2)
        simp only [strB_list] at co
        rw [show (p.1, p.2) = p from rfl] at co
        have hts := toList_strB p.1
        obtain ⟨X, hX⟩ : ∃ X, X = strB p.1 := ⟨_, rfl⟩
        obtain ⟨Y, hY⟩ : ∃ Y, Y = strB p.2 := ⟨_, rfl⟩
        have hcp := fun (w2 : World) (hb : Below w.heap.size w w2) => show w2.cell? ⟨b, o + k * 2, none⟩ = some (.string X) ∧ w2.cell? ⟨b, o + k * 2 + 1, none⟩ = some (.string Y) from by
          obtain ⟨b', o', e, h1, h2⟩ := (HR.out.below_all hb).set_at hp
          cases e
          rw [hX, hY]
          exact ⟨h1, h2⟩
        rw [← hX] at hc0 co hts
        rw [← hY] at hc1 co
        have HP := hid2 hp
        have HX := hid2 hX
        have HTS := hid2 hts
        clear hX hY hbe hsp hts
        by_cases he : oneE p = 0
        · rw [he] at co
          have CO := hid2 co
          have HE0 := hid2 he
          clear co he hp
          cases k with
          | zero =>
            rw [Nat.zero_mul, Nat.add_zero] at hc0 hc1 hcp
            have HCP := hid2 hcp
            have hst := (stepE_zero HP.out).trans HE0.out
            have HST := hid2 hst
            clear hst hcp
            go_wp2_with (first
              | (go_at_call 21; refine (CO.out wr).mono ?_; rintro e w2 ⟨rfl, hb2⟩; have hb := HBE.out.trans (hb2.mono HBE.out.size); have hcp := HCP.out w2 hb; clear hb2 CO hc0 hc1))
            go_quiet (fail)
            go_wp2_with fail
            go_quiet (fail)
            go_wp2_with fail
            go_roundw
            case rel => exact ⟨1, by omega, by go_num, by first | exact below_drewN hb _ | exact below_drewN (below_drewN hb _) _, fun j hj => by obtain rfl : j = 0 := (by omega); exact HST.out⟩
            case measure => simp [intOf]; omega
          | succ j =>
            have HCP := hid2 hcp
            clear hcp
            obtain ⟨q, hq⟩ : ∃ q, l[j]? = some q := ⟨_, List.getElem?_eq_getElem (by rw [← HN.out]; omega)⟩
            have hst := stepE_succ hq HP.out
            rw [if_neg (by rw [HE0.out]; simp)] at hst
            have hj0 : (0 : Int) ≤ j := by omega
            have hjl : (j : Int) < n := by omega
            have hj1 : (0 : Int) < (j : Int) + 1 := by omega
            have hj2 : (0 : Int) ≤ (j : Int) + 1 := by omega
            have hwj : IntKind.i64.wrap (j : Int) = j := by unfold IntKind.wrap; simp [IntKind.bits, IntKind.signed]; omega
            have hcq := fun (w2 : World) (hb : Below w.heap.size w w2) => (HR.out.below_all hb).set_at hq
            obtain ⟨Q, hQ⟩ : ∃ Q, Q = strB q.1 := ⟨_, rfl⟩
            have hle : Op.bytesLess X.toList Q.toList = decide (p.1 < q.1) := by rw [hQ, HX.out]; exact less_dec _ _
            have heq : (X.toList == Q.toList) = decide (q.1 = p.1) := by rw [HTS.out, hQ, toList_strB, Bool.eq_iff_iff]; simp; exact eq_comm
            have hcq2 := fun (w2 : World) (hb : Below w.heap.size w w2) => show w2.cell? ⟨b, o + j * 2, none⟩ = some (.string Q) from by
              obtain ⟨b', o', e, h1, _⟩ := hcq w2 hb
              cases e
              rw [hQ]
              exact h1
            have HCQ := hid2 hcq2
            have HST := hid2 hst
            clear hst hcq hcq2 hq hQ
            by_cases h1 : q.1 < p.1
            · rw [decide_eq_false (fun h => less_irrefl q.1 (List.lt_trans h1 h))] at hle
              rw [decide_eq_false (fun h => less_irrefl q.1 (by rw [← h] at h1; exact h1))] at heq
              have hs0 := HST.out.trans (show nextE q p = 0 by rw [nextE, if_pos h1])
              have HS0 := hid2 hs0
              clear hs0 h1
              go_wp2_with (first
                | (go_at_call 21; refine (CO.out wr).mono ?_; rintro e w2 ⟨rfl, hb2⟩; have hb := HBE.out.trans (hb2.mono HBE.out.size); have hcp := HCP.out w2 hb; clear hb2 CO hc0 hc1; have hcq := HCQ.out w2 hb))
              go_quiet (fail)
              go_wp2_with fail
              go_quiet (fail)
              go_wp2_with fail
              go_roundw
              case rel => exact ⟨j + 2, by omega, by go_num, by first | exact below_drewN hb _ | exact below_drewN (below_drewN hb _) _, fun i hi => (Nat.lt_or_ge i (j + 1)).elim (HZ.out i) fun h => by obtain rfl : i = j + 1 := (by omega); exact HS0.out⟩
              case measure => simp [intOf]; omega
            · by_cases h2 : q.1 = p.1
              · rw [decide_eq_true h2] at heq
                have hs0 := HAT.out (j + 1) (by rw [← HN.out]; omega) HZ.out (by rw [HST.out, nextE, if_neg h1, if_pos h2]; decide)
                rw [HST.out, nextE, if_neg h1, if_pos h2] at hs0
                have HS0 := hid2 hs0
                clear hs0 h1 h2 hle
                go_wp2_with (first
                  | (go_at_call 21; refine (CO.out wr).mono ?_; rintro e w2 ⟨rfl, hb2⟩; have hb := HBE.out.trans (hb2.mono HBE.out.size); have hcp := HCP.out w2 hb; clear hb2 CO hc0 hc1; have hcq := HCQ.out w2 hb))
                go_quiet (fail)
                go_wp2_with fail
                go_ret
                exact ⟨by rw [HS0.out]; rfl, below_drewN hb _⟩
              · rw [decide_eq_false h2] at heq
                rw [decide_eq_true (less_else h1 h2)] at hle
                have hs0 := HAT.out (j + 1) (by rw [← HN.out]; omega) HZ.out (by rw [HST.out, nextE, if_neg h1, if_neg h2]; decide)
                rw [HST.out, nextE, if_neg h1, if_neg h2] at hs0
                have HS0 := hid2 hs0
                clear hs0 h1 h2
                go_wp2_with (first
                  | (go_at_call 21; refine (CO.out wr).mono ?_; rintro e w2 ⟨rfl, hb2⟩; have hb := HBE.out.trans (hb2.mono HBE.out.size); have hcp := HCP.out w2 hb; clear hb2 CO hc0 hc1; have hcq := HCQ.out w2 hb))
                go_quiet (fail)
                go_wp2_with fail
                go_quiet (fail)
                go_wp2_with fail
                go_ret
                exact ⟨by rw [HS0.out]; rfl, by first | exact below_drewN hb _ | exact below_drewN (below_drewN hb _) _⟩
        · have hsk : stepE l k = oneE p := by
            cases k with
            | zero => exact stepE_zero hp
            | succ j =>
              obtain ⟨q, hq⟩ : ∃ q, l[j]? = some q := ⟨_, List.getElem?_eq_getElem (by rw [← HN.out]; omega)⟩
              rw [stepE_succ hq hp, if_pos he]
          have hs0 := HAT.out k (by rw [← HN.out]; exact hlt) HZ.out (by rw [hsk]; exact he)
          rw [hsk] at hs0
          have hne : ¬ ((oneE p : Nat) : Int) = 0 := by omega
          obtain ⟨F, hF⟩ : ∃ F, F = oneE p := ⟨_, rfl⟩
          rw [← hF] at co hs0 hne
          have CO := hid2 co
          have CO2 := hid2 co
          have HCP := hid2 hcp
          have HS0 := hid2 hs0
          clear co hs0 hsk he hF hp hcp
          go_wp2_with (first
            | (go_at_call 21; refine (CO.out wr).mono ?_; rintro e w2 ⟨rfl, hb2⟩; have hb := HBE.out.trans (hb2.mono HBE.out.size); have hcp := HCP.out w2 hb; clear hb2 CO hc0 hc1)
            | (go_at_call 21; refine (CO2.out w2).mono ?_; rintro e w3 ⟨rfl, hb3⟩))
          go_ret
          exact ⟨by rw [HS0.out]; rfl, hb.trans (hb3.mono hb.size)⟩
      · have hkl : ¬ (k : Int) < n := by omega
        have hE0 := HEND.out fun j hj => HZ.out j (by have := HN.out; omega)
        have HE0 := hid2 hE0
        clear hE0
        go_wp2_with fail
        go_ret
        exact ⟨by rw [HE0.out]; rfl, HBE.out⟩
def longE (p : SetE) : Bool := decide (100 < p.1.length) || decide (100 < p.2.length)
def greatE (l : List SetE) : Bool := decide (30 < l.length) || l.any longE
theorem greatE_long {l : List SetE} {k : Nat} {p : SetE} (hp : l[k]? = some p) (h : longE p = true) : greatE l = true := by
  rw [greatE, Bool.or_eq_true]
  exact .inr (List.any_eq_true.2 ⟨p, List.mem_of_getElem? hp, h⟩)
set_option maxHeartbeats 2000000 in
theorem rgreat_any (w : World) (A : Option Addr) (c : Nat) (l : List SetE) (hl : l.length ≤ maxLen) (hr : Rd w 2 A l.length (setsV l)) :
    Calls Tryd.prog 7 #[.slice A l.length c] w fun e w' => e = .returned (.bool (greatE l)) ∧ w' = w := by
  obtain ⟨n, hn⟩ : ∃ n, n = l.length := ⟨_, rfl⟩
  rw [← hn] at hr hl ⊢
  unfold maxLen at hl
  by_cases h30 : 30 < n
  · have i30 : (30 : Int) < n := by omega
    have hE : greatE l = true := by rw [greatE, decide_eq_true (by omega)]; rfl
    rw [hE]
    clear hr hn hE h30
    go_enter Tryd.func7, Tryd.ntmps7
    go_wp2_with fail
    go_ret
    exact ⟨rfl, rfl⟩
  · have i30 : ¬ (30 : Int) < n := by omega
    have hat := fun (k : Nat) (p : SetE) (hp : l[k]? = some p) => greatE_long hp
    have hend : (∀ j p, l[j]? = some p → longE p = false) → greatE l = false := fun h => by
      rw [greatE, decide_eq_false (by omega), Bool.false_or, List.any_eq_false]
      intro p hp
      obtain ⟨j, hj⟩ := List.getElem?_of_mem hp
      rw [h j p hj]
      simp
    obtain ⟨E, hE⟩ : ∃ E, E = greatE l := ⟨_, rfl⟩
    rw [← hE] at hat hend ⊢
    have HAT := hid2 hat
    have HEND := hid2 hend
    have HR := hid2 hr
    have HN := hid2 hn
    clear hat hend hr hn hE h30
    go_enter Tryd.func7, Tryd.ntmps7
    go_wp2_with fail
    go_loopw [9] (fun i wr => ∃ k : Nat, k ≤ n ∧ i = .int .i64 k ∧ wr = w ∧ ∀ j p, j < k → l[j]? = some p → longE p = false) (fun i _ => n - (intOf i).toNat)
    case atStart => exact ⟨0, by omega, rfl, rfl, fun j p hj => absurd hj (Nat.not_lt_zero _)⟩
    case round =>
      obtain ⟨k, hk, rfl, rfl, hz⟩ := hrel
      have HZ := hid2 hz
      clear hz
      by_cases hlt : k < n
      · have hkl : (k : Int) < n := by omega
        have hk0 : (0 : Int) ≤ k := by omega
        obtain ⟨p, hp⟩ : ∃ p, l[k]? = some p := ⟨_, List.getElem?_eq_getElem (by rw [← HN.out]; exact hlt)⟩
        obtain ⟨b, o, rfl, hc0, hc1⟩ := HR.out.set_at hp
        have hts := strB_size p.1
        have htt := strB_size p.2
        obtain ⟨X, hX⟩ : ∃ X, X = strB p.1 := ⟨_, rfl⟩
        obtain ⟨Y, hY⟩ : ∃ Y, Y = strB p.2 := ⟨_, rfl⟩
        rw [← hX] at hc0 hts
        rw [← hY] at hc1 htt
        have HP := hid2 hp
        by_cases h1 : 100 < X.size
        · have i1 : (100 : Int) < X.size := by omega
          have hb := HAT.out k p hp (by rw [longE, decide_eq_true (by omega)]; rfl)
          have HB := hid2 hb
          clear hX hY hp h1 hb hts htt
          go_wp2_with fail
          go_ret
          exact ⟨ret_bool HB.out.symm, rfl⟩
        · have i1 : ¬ (100 : Int) < X.size := by omega
          by_cases h2 : 100 < Y.size
          · have i2 : (100 : Int) < Y.size := by omega
            have hb := HAT.out k p hp (by rw [longE, decide_eq_true (show 100 < p.2.length by omega), Bool.or_true])
            have HB := hid2 hb
            clear hX hY hp h1 hb hts htt
            go_wp2_with fail
            go_ret
            exact ⟨ret_bool HB.out.symm, rfl⟩
          · have i2 : ¬ (100 : Int) < Y.size := by omega
            have hb : longE p = false := by rw [longE, decide_eq_false (by omega), decide_eq_false (by omega)]; rfl
            have HB := hid2 hb
            clear hX hY hp h1 hb hts htt
            go_wp2_with fail
            go_roundw
            case rel =>
              refine ⟨k + 1, by omega, by go_num, by first | rfl | trivial, fun j q hj hq => ?_⟩
              rcases Nat.lt_or_ge j k with h | h
              · exact HZ.out j q h hq
              · obtain rfl : j = k := by omega
                rw [HP.out] at hq
                cases hq
                exact HB.out
            case measure => simp [intOf]; omega
      · have hkl : ¬ (k : Int) < n := by omega
        have hE0 := HEND.out fun j p hp => HZ.out j p (by have := HN.out; have := (List.getElem?_eq_some_iff.1 hp).1; omega) hp
        have HE0 := hid2 hE0
        clear hE0
        go_wp2_with fail
        go_ret
        exact ⟨ret_bool HE0.out.symm, rfl⟩
def getE (l : List SetE) (nm : Tx) : Tx × Bool := match l.find? fun p => p.1 == nm with
  | some p => (p.2, true)
  | none => ([], false)
theorem getE_at {l : List SetE} {nm : Tx} {k : Nat} {p : SetE} (hp : l[k]? = some p) (h1 : p.1 = nm) (h2 : ∀ (j : Nat) (q : SetE), j < k → l[j]? = some q → q.1 ≠ nm) : getE l nm = (p.2, true) := by
  have : (l.find? fun p => p.1 == nm) = some p := by
    rw [List.find?_eq_some_iff_getElem]
    obtain ⟨hk, rfl⟩ := List.getElem?_eq_some_iff.1 hp
    refine ⟨by simpa using h1, k, hk, rfl, fun j hj => ?_⟩
    have := h2 j l[j] hj (List.getElem?_eq_getElem (by omega))
    simpa using this
  rw [getE, this]
theorem getE_end {l : List SetE} {nm : Tx} (h : ∀ (j : Nat) (q : SetE), l[j]? = some q → q.1 ≠ nm) : getE l nm = ([], false) := by
  have : (l.find? fun p => p.1 == nm) = none := by
    rw [List.find?_eq_none]
    intro q hq
    obtain ⟨j, hj⟩ := List.getElem?_of_mem hq
    simpa using h j q hj
  rw [getE, this]
set_option maxHeartbeats 2000000 in
theorem get_any (w : World) (A : Option Addr) (c : Nat) (l : List SetE) (nm : Tx) (hl : l.length ≤ 1000000) (hr : Rd w 2 A l.length (setsV l)) :
    Calls Tryd.prog 13 #[.slice A l.length c, .string (strB nm)] w fun e w' => e = .returned (.tuple #[.string (strB (getE l nm).1), .bool (getE l nm).2]) ∧ Below w.heap.size w w' := by
  obtain ⟨n, hn⟩ : ∃ n, n = l.length := ⟨_, rfl⟩
  rw [← hn] at hr hl ⊢
  have htn := toList_strB nm
  obtain ⟨N, hN⟩ : ∃ N, N = strB nm := ⟨_, rfl⟩
  rw [← hN] at htn ⊢
  obtain ⟨G, hG⟩ : ∃ G, G = getE l nm := ⟨_, rfl⟩
  have hat := fun k p hp h1 h2 => hG.trans (getE_at (l := l) (nm := nm) (k := k) (p := p) hp h1 h2)
  have hend := fun h => hG.trans (getE_end (l := l) (nm := nm) h)
  rw [← hG]
  have HAT := hid2 hat
  have HEND := hid2 hend
  have HR := hid2 hr
  have HN := hid2 hn
  have HTN := hid2 htn
  clear hat hend hr hn hG hN htn
  go_enter Tryd.func13, Tryd.ntmps13
  go_wp2_with fail
  go_loopw [10] (fun i wr => ∃ k : Nat, k ≤ n ∧ i = .int .i64 k ∧ Below w.heap.size w wr ∧ ∀ j p, j < k → l[j]? = some p → p.1 ≠ nm) (fun i _ => n - (intOf i).toNat)
  case atStart => exact ⟨0, by omega, rfl, Below.refl _ _, fun j p hj => absurd hj (Nat.not_lt_zero _)⟩
  case round =>
    obtain ⟨k, hk, rfl, hbe, hz⟩ := hrel
    have HBE := hid2 hbe
    have HZ := hid2 hz
    clear hz
    by_cases hlt : k < n
    · have hkl : (k : Int) < n := by omega
      have hk0 : (0 : Int) ≤ k := by omega
      obtain ⟨p, hp⟩ : ∃ p, l[k]? = some p := ⟨_, List.getElem?_eq_getElem (by rw [← HN.out]; exact hlt)⟩
      obtain ⟨b, o, rfl, hc0, hc1⟩ := (HR.out.below_all hbe).set_at hp
      have hts := toList_strB p.1
      obtain ⟨X, hX⟩ : ∃ X, X = strB p.1 := ⟨_, rfl⟩
      obtain ⟨Y, hY⟩ : ∃ Y, Y = strB p.2 := ⟨_, rfl⟩
      rw [← hX] at hc0 hts
      rw [← hY] at hc1
      have heq : (X.toList == N.toList) = decide (p.1 = nm) := by rw [hts, HTN.out, Bool.eq_iff_iff]; simp
      have HP := hid2 hp
      have HY := hid2 hY
      clear hX hY hbe hts
      by_cases h1 : p.1 = nm
      · rw [decide_eq_true h1] at heq
        have hg := HAT.out k p hp h1 HZ.out
        have HG := hid2 hg
        clear hg hp h1
        go_wp2_with (first | ((with_reducible refine wpList_store_lit wr.heap.size 0 (.agg #[.string X, .string Y]) [.string X, .string Y] (set_cells X Y) #[.string ⟨#[]⟩, .string ⟨#[]⟩] 31 (heap_alloc_new wr _) (set_size X Y) (set_fit X Y) (set_one X Y) ?_ ?_); exact ⟨rfl, rfl⟩; have hX1 := stored_row (VX := [.string X, .string Y]) (heap_alloc_new wr (.cells #[.string ⟨#[]⟩, .string ⟨#[]⟩] 31)) rfl; have hb1 := below_setRow ((HBE.out.alloc HBE.out.size (.cells #[.string ⟨#[]⟩, .string ⟨#[]⟩] 31))) HBE.out.size (laid #[.string ⟨#[]⟩, .string ⟨#[]⟩] 0 [.string X, .string Y]); obtain ⟨W1, hW1⟩ : ∃ W1, W1 = (wr.alloc (.cells #[.string ⟨#[]⟩, .string ⟨#[]⟩] 31)).setRow wr.heap.size (laid #[.string ⟨#[]⟩, .string ⟨#[]⟩] 0 [.string X, .string Y]) := ⟨_, rfl⟩; rw [← hW1] at hX1 hb1 ⊢; clear hW1 hc0 hc1; have hx0 : W1.cell? ⟨wr.heap.size, 0, none⟩ = some (.string X) := cell_of_row W1 _ 0 _ _ _ hX1; have hx1 : W1.cell? ⟨wr.heap.size, 1, none⟩ = some (.string Y) := cell_of_row W1 _ 1 _ _ _ hX1; clear hX1))
        go_ret2
        exact ⟨by rw [HG.out, HY.out]; rfl, hb1⟩
      · rw [decide_eq_false h1] at heq
        have H1 := hid2 h1
        clear hp h1
        go_wp2_with (first | ((with_reducible refine wpList_store_lit wr.heap.size 0 (.agg #[.string X, .string Y]) [.string X, .string Y] (set_cells X Y) #[.string ⟨#[]⟩, .string ⟨#[]⟩] 31 (heap_alloc_new wr _) (set_size X Y) (set_fit X Y) (set_one X Y) ?_ ?_); exact ⟨rfl, rfl⟩; have hX1 := stored_row (VX := [.string X, .string Y]) (heap_alloc_new wr (.cells #[.string ⟨#[]⟩, .string ⟨#[]⟩] 31)) rfl; have hb1 := below_setRow ((HBE.out.alloc HBE.out.size (.cells #[.string ⟨#[]⟩, .string ⟨#[]⟩] 31))) HBE.out.size (laid #[.string ⟨#[]⟩, .string ⟨#[]⟩] 0 [.string X, .string Y]); obtain ⟨W1, hW1⟩ : ∃ W1, W1 = (wr.alloc (.cells #[.string ⟨#[]⟩, .string ⟨#[]⟩] 31)).setRow wr.heap.size (laid #[.string ⟨#[]⟩, .string ⟨#[]⟩] 0 [.string X, .string Y]) := ⟨_, rfl⟩; rw [← hW1] at hX1 hb1 ⊢; clear hW1 hc0 hc1; have hx0 : W1.cell? ⟨wr.heap.size, 0, none⟩ = some (.string X) := cell_of_row W1 _ 0 _ _ _ hX1; have hx1 : W1.cell? ⟨wr.heap.size, 1, none⟩ = some (.string Y) := cell_of_row W1 _ 1 _ _ _ hX1; clear hX1))
        go_roundw
        case rel =>
          refine ⟨k + 1, by omega, by go_num, hb1, fun j q hj hq => ?_⟩
          rcases Nat.lt_or_ge j k with h | h
          · exact HZ.out j q h hq
          · obtain rfl : j = k := by omega
            rw [HP.out] at hq
            cases hq
            exact H1.out
        case measure => simp [intOf]; omega
    · have hkl : ¬ (k : Int) < n := by omega
      have hE0 := HEND.out fun j p hp => HZ.out j p (by have := HN.out; have := (List.getElem?_eq_some_iff.1 hp).1; omega) hp
      have HE0 := hid2 hE0
      clear hE0
      go_wp2_with fail
      go_ret2
      exact ⟨by rw [HE0.out]; rfl, HBE.out⟩
set_option maxHeartbeats 2000000 in
theorem rget_any (w : World) (A : Option Addr) (c : Nat) (l : List SetE) (nm : Tx) (hl : l.length ≤ 1000000) (hr : Rd w 2 A l.length (setsV l)) :
    Calls Tryd.prog 14 #[.slice A l.length c, .string (strB nm)] w fun e w' => e = .returned (.tuple #[.string (strB (getE l nm).1), .bool (getE l nm).2]) ∧ Below w.heap.size w w' := by
  obtain ⟨n, hn⟩ : ∃ n, n = l.length := ⟨_, rfl⟩
  rw [← hn] at hr hl ⊢
  have htn := toList_strB nm
  obtain ⟨N, hN⟩ : ∃ N, N = strB nm := ⟨_, rfl⟩
  rw [← hN] at htn ⊢
  obtain ⟨G, hG⟩ : ∃ G, G = getE l nm := ⟨_, rfl⟩
  have hat := fun k p hp h1 h2 => hG.trans (getE_at (l := l) (nm := nm) (k := k) (p := p) hp h1 h2)
  have hend := fun h => hG.trans (getE_end (l := l) (nm := nm) h)
  rw [← hG]
  have HAT := hid2 hat
  have HEND := hid2 hend
  have HR := hid2 hr
  have HN := hid2 hn
  have HTN := hid2 htn
  clear hat hend hr hn hG hN htn
  go_enter Tryd.func14, Tryd.ntmps14
  go_wp2_with fail
  go_loopw [9] (fun i wr => ∃ k : Nat, k ≤ n ∧ i = .int .i64 k ∧ Below w.heap.size w wr ∧ ∀ j p, j < k → l[j]? = some p → p.1 ≠ nm) (fun i _ => n - (intOf i).toNat)
  case atStart => exact ⟨0, by omega, rfl, Below.refl _ _, fun j p hj => absurd hj (Nat.not_lt_zero _)⟩
  case round =>
    obtain ⟨k, hk, rfl, hbe, hz⟩ := hrel
    have HBE := hid2 hbe
    have HZ := hid2 hz
    clear hz
    by_cases hlt : k < n
    · have hkl : (k : Int) < n := by omega
      have hk0 : (0 : Int) ≤ k := by omega
      obtain ⟨p, hp⟩ : ∃ p, l[k]? = some p := ⟨_, List.getElem?_eq_getElem (by rw [← HN.out]; exact hlt)⟩
      obtain ⟨b, o, rfl, hc0, hc1⟩ := (HR.out.below_all hbe).set_at hp
      have hts := toList_strB p.1
      obtain ⟨X, hX⟩ : ∃ X, X = strB p.1 := ⟨_, rfl⟩
      obtain ⟨Y, hY⟩ : ∃ Y, Y = strB p.2 := ⟨_, rfl⟩
      rw [← hX] at hc0 hts
      rw [← hY] at hc1
      have heq : (X.toList == N.toList) = decide (p.1 = nm) := by rw [hts, HTN.out, Bool.eq_iff_iff]; simp
      have HP := hid2 hp
      have HY := hid2 hY
      clear hX hY hbe hts
      by_cases h1 : p.1 = nm
      · rw [decide_eq_true h1] at heq
        have hg := HAT.out k p hp h1 HZ.out
        have HG := hid2 hg
        clear hg hp h1
        go_wp2_with (first | fail)
        go_ret2
        exact ⟨by rw [HG.out, HY.out]; rfl, HBE.out⟩
      · rw [decide_eq_false h1] at heq
        have H1 := hid2 h1
        clear hp h1
        go_wp2_with (first | fail)
        go_roundw
        case rel =>
          refine ⟨k + 1, by omega, by go_num, HBE.out, fun j q hj hq => ?_⟩
          rcases Nat.lt_or_ge j k with h | h
          · exact HZ.out j q h hq
          · obtain rfl : j = k := by omega
            rw [HP.out] at hq
            cases hq
            exact H1.out
        case measure => simp [intOf]; omega
    · have hkl : ¬ (k : Int) < n := by omega
      have hE0 := HEND.out fun j p hp => HZ.out j p (by have := HN.out; have := (List.getElem?_eq_some_iff.1 hp).1; omega) hp
      have HE0 := hid2 hE0
      clear hE0
      go_wp2_with fail
      go_ret2
      exact ⟨by rw [HE0.out]; rfl, HBE.out⟩
end Go.Proofs.YthefhfnmkjdekaaDoor
