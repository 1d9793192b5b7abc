/- The walk of DiskSure. -/
import Derived.Test.YtbighckpogfcaaaDisk7
namespace Go.Proofs.Ytbighckpogfcaaa
open Go.RowKit Go.Maps
theorem actsW_len : ∀ l : List ActE, l.length ≤ actsW l
  | [] => Nat.zero_le _
  | a :: r => by
    have := actsW_len r
    have h1 : 1 ≤ actW a := by unfold actW; omega
    unfold actsW at this ⊢
    rw [List.map_cons, List.sum_cons, List.length_cons]
    omega
theorem crashP_len (M : Tab FileE) (ps : List Int) : (crashP M ps).1.length = M.length := by
  have := congrArg List.length (crashP_keys ps M)
  simpa using this
theorem names_at (w : World) (p b n : Nat) (M : Tab FileE) (left : Int) (h : DiskIs w p b n M left) (hn : n ≤ 1000000000) {L : Nat} {KS : List ByteArray} (hL : M.length = L) (hK : strV (M.map (·.1)) = KS.map Value.string) :
    Calls Try.prog 20 #[.pointer (some ⟨p, 0, none⟩)] w fun e w' => ∃ A c, e = .returned (.slice A L c) ∧ Rd w' 1 A L (KS.map Value.string) ∧ Below w.heap.size w w' :=
  (names_any w p b n M left h hn).mono fun _ _ ⟨A, c, h1, h2, h3⟩ => ⟨A, c, by rw [h1, hL], by rw [← hK, ← hL]; exact h2.rd, h3⟩
/-- between two rounds of DiskSure -/
structure SInv (w : World) (p b : Nat) (name : List UInt8) (l : List ActE) (k : Nat) (sure : List UInt8) (wr : World) : Prop where
  below : Below w.heap.size w wr
  disk : ∃ M, DiskIs wr p b k M (-1) ∧ PS name (actsW (l.take k)) M sure
set_option maxRecDepth 100000 in
set_option maxHeartbeats 2000000 in
theorem DiskSure_walk (w : World) (A : Option Addr) (c : Nat) (l : List ActE) (hr : Rd w 6 A l.length (actsV l)) (hl : l.length ≤ 8796093022208) (hA : ∀ a ∈ l, ActOk a) (s0 s1 : ByteArray) (B : Option Addr) (cB : Nat) (ps : List Int) (hrp : Rd w 1 B ps.length (intV ps)) (hpc : ps.length ≤ cB) :
    Calls Try.prog 4 #[.slice A l.length c, .agg #[.string s0, .string s1], .slice B ps.length cB] w fun e w' => e = .returned (.bool true) ∧ Below w.heap.size w w' := by
  have hB := Below.refl w.heap.size w
  have HR := hid2 hr
  have HA := hid2 hA
  have HRP := hid2 hrp
  obtain ⟨N, hN⟩ : ∃ N, N = l.length := ⟨_, rfl⟩
  obtain ⟨Q, hQ⟩ : ∃ Q, Q = ps.length := ⟨_, rfl⟩
  have hlN : l.length ≤ 8796093022208 := hl
  rw [← hN] at hl
  have HGR := hid2 (fun (w' : World) (hb : Below w.heap.size w w') => great_any w' A c l (hr.below_all hb) hlN hA)
  rw [← hN] at HGR
  rw [← hN, ← hQ]
  rw [← hQ] at hpc
  have HN := hid2 hN
  have HQ := hid2 hQ
  clear hr hA hrp hN hQ hlN
  go_enter Try.func4, Try.ntmps4
  go_wp2_with (first
    | (go_at_call 13; refine (alive_any _).mono ?_; rintro e w0 ⟨rfl, hb0⟩; have hbA : Below w.heap.size w w0 := ((Below.refl w.heap.size w).alloc (Nat.le_refl _) _).trans (hb0.mono (by simp)); have hrow : w0.heap[w.heap.size]? = some (.cells #[.string s0, .string s1] 35 (0, 0)) := (hb0.block _ (by simp)).trans (heap_alloc_new w _); have k0 : w0.cell? ⟨w.heap.size, 0, none⟩ = some (.string s0) := (cell_of_row w0 _ 0 _ _ _ hrow).trans rfl; have k1 : w0.cell? ⟨w.heap.size, 1, none⟩ = some (.string s1) := (cell_of_row w0 _ 1 _ _ _ hrow).trans rfl; clear hb0 hrow))
  go_quiet (fail)
  have hbD := below_drewN hbA nq
  obtain ⟨W0, hW0⟩ : ∃ W0, W0 = w0.drewN nq := ⟨_, rfl⟩
  rw [← hW0] at hbD ⊢
  clear hW0 k0 k1 hbA nq
  go_wp2_with (first
    | (go_at_call 21; refine (HGR.out _ hbD).mono ?_; rintro e w1 ⟨v, rfl, hv, hb1⟩; have hbE := hbD.trans (hb1.mono hbD.size); clear hb1 hbD)
    | (go_at_call 14; refine (new_any _).mono ?_; rintro e w2 ⟨rfl, hd2, hb2, hz2⟩; have hbz := hbE.size; obtain ⟨p, hp⟩ : ∃ p, p = w1.heap.size + 1 := ⟨_, rfl⟩; obtain ⟨b, hb⟩ : ∃ b, b = w1.heap.size := ⟨_, rfl⟩; rw [← hp, ← hb] at hd2; rw [← hp]; have hp1 : w.heap.size ≤ p := (by omega); have hb1' : w.heap.size ≤ b := (by omega); have hbw2 := hbE.trans (hb2.mono hbz); clear hp hb hz2 hb2 hbE hbz))
  all_goals first
    | (go_ret; exact ⟨rfl, hbE⟩)
    | skip
  rename_i g1 g2 g3 g4 g5 _ _
  have hW3 : actsW l ≤ 3000 := by rcases hv with h | ⟨_, h⟩ <;> omega
  have hQ100 : (Q : Int) ≤ 100 := g5.2
  have hnm : s0.data.toList ≠ [] := fun h => g2 (bytes_ext h)
  have HG2 := hid2 g2
  have hN3 : N ≤ 3000 := by have := actsW_len l; rw [← HN.out] at this; omega
  have HD2 := hid2 hd2
  have HB2 := hid2 hbw2
  clear g1 g2 g5 hv hd2 hbw2 HGR
  go_loopg [10, 50] N (fun gk s i wr => ∃ (k : Nat) (sure : List UInt8), k + gk = N ∧ i = .int .i64 k ∧ s = .string (strB sure) ∧ SInv w p b s0.data.toList l k sure wr)
  case atStart => exact ⟨0, [], by omega, rfl, rfl, ⟨HB2.out, [], HD2.out, ⟨fun x hx => (by cases hx), fun f hf => (by cases hf), fun _ => rfl⟩⟩⟩
  case round =>
    obtain ⟨k, sure, hk, rfl, rfl, hinv⟩ := hrel
    have hHw := hinv.below.size
    by_cases hlt : k < N
    · have hlt' : (k : Int) < N := by omega
      obtain ⟨a, ha⟩ : ∃ a, l[k]? = some a := ⟨_, List.getElem?_eq_getElem (by rw [← HN.out]; exact hlt)⟩
      have hrr := HR.out.below_all hinv.below
      obtain ⟨bA, oA, rfl, hc⟩ := act_cells hrr ha
      have c0 : wr.cell? ⟨bA, oA + k * 6, none⟩ = some (.int .i64 a.kind) := hc 0 _ rfl
      have c1 : wr.cell? ⟨bA, oA + k * 6 + 1, none⟩ = some (.int .i64 a.n) := by rw [Nat.add_assoc]; exact hc 1 _ rfl
      have c2 : wr.cell? ⟨bA, oA + k * 6 + 2, none⟩ = some (.string a.name) := by rw [Nat.add_assoc]; exact hc 2 _ rfl
      have c3 : wr.cell? ⟨bA, oA + k * 6 + 3, none⟩ = some (.string a.to) := by rw [Nat.add_assoc]; exact hc 3 _ rfl
      have c4 : wr.cell? ⟨bA, oA + k * 6 + 4, none⟩ = some (.string a.data) := by rw [Nat.add_assoc]; exact hc 4 _ rfl
      have c5 : wr.cell? ⟨bA, oA + k * 6 + 5, none⟩ = some (.slice a.pa a.pn a.pc) := by rw [Nat.add_assoc]; exact hc 5 _ rfl
      have e := actsW_take ha
      have e2 := actsW_take_le l (k + 1)
      obtain ⟨ak, an, nm, to, dt, pa, pn, pc⟩ := a
      simp only [actW] at c0 c1 c2 c3 c4 c5 e
      obtain ⟨W1, hW1⟩ : ∃ W1, W1 = actsW (l.take (k + 1)) := ⟨_, rfl⟩
      obtain ⟨W0, hW0⟩ : ∃ W0, W0 = actsW (l.take k) := ⟨_, rfl⟩
      rw [← hW1, ← hW0] at e
      rw [← hW1] at e2
      obtain ⟨M, hd, hps⟩ := hinv.disk
      rw [← hW0] at hps
      have HW1 := hid2 hW1
      have hdl := hd.lt
      have HBW := hid2 hinv.below
      have hfl : (fileOf M nm.data.toList).1.length ≤ 1000000000 := by have := (hps.file nm.data.toList).1; omega
      have hn1 : nm.data.toList.length ≤ W1 := by rw [toList_length]; omega
      have hn3 : nm.data.toList.length ≤ 1000000000 := by omega
      have hdd : W0 + dt.data.toList.length ≤ W1 := by rw [toList_length]; omega
      have hd3 : dt.data.toList.length ≤ 1000000000 := by omega
      have hkB : k < 1000000000 := by omega
      have hps1 : PS s0.data.toList W1 M sure := hps.mono (by omega)
      obtain ⟨S, hS⟩ : ∃ S, S = strB sure := ⟨_, rfl⟩
      rw [← hS]
      have HS := hid2 hS
      have HPS := hid2 hps
      have HPS1 := hid2 hps1
      have HDA := hid2 (fun O => hd.below ((Below.refl _ _).alloc (Nat.le_refl _) O) hdl.1 hdl.2)
      have HN1 := hid2 hn1
      have HN3 := hid2 hn3
      have HDD := hid2 hdd
      have HD3' := hid2 hd3
      have HFL := hid2 hfl
      clear hinv hps hps1 hrr ha hc hd hS hW1 hW0 hn1 hn3 hdd hd3 hfl e e2
      by_cases h0 : ak = 0
      · subst h0
        go_wp2_with (go_at_call 16; refine (append_at _ p b k M (-1) (HDA.out _) nm dt rfl rfl HN3.out HD3'.out HFL.out hkB (by omega) rfl rfl (begin_left M _ _ _)).mono ?_; rintro e w3 ⟨rfl, hd3, hb3⟩; have hbw3 := hb3.below (HBW.out.alloc hHw _) (HBW.out.alloc hHw _).size hp1 hb1'; have HD3 := hid2 hd3; clear hd3 hb3)
        go_roundg (gk - 1)
        case rel => exact ⟨k + 1, sure, by omega, by go_num, by rw [HS.out], ⟨hbw3, _, HD3.out, by rw [← HW1.out]; exact HPS.out.app HN1.out HDD.out (-1)⟩⟩
        case measure => omega
      · by_cases h1 : ak = 1
        · subst h1
          obtain ⟨E, hE⟩ : ∃ E, E = beginE M (-1) true [strB nm.data.toList] nm.data.toList := ⟨_, rfl⟩
          have HE := hid2 hE
          have HSY := hid2 (fun O => sync_at (wr.alloc O) p b k M (-1) (HDA.out O) nm rfl HN3.out HFL.out hkB (by omega) hE.symm rfl (begin_left M _ _ _))
          clear hE
          by_cases hE0 : E = 0
          · by_cases hns : nm = s0
            · have hE1 : beginE M (-1) true [strB nm.data.toList] nm.data.toList = 0 := by rw [← HE.out]; exact hE0
              obtain ⟨S2, hS2⟩ : ∃ S2, S2 = strB (fileOf M nm.data.toList).1 := ⟨_, rfl⟩
              have hrs := read_sync hE1
              rw [← hS2] at hrs
              have HRS := hid2 hrs
              have HS2 := hid2 hS2
              have HE1 := hid2 hE1
              clear hS2 hrs hE1
              subst hns hE0
              go_wp2_with (first
                | (go_at_call 17; refine (HSY.out _).mono ?_; rintro e w3 ⟨rfl, hd3, hb3⟩; have hbw3 := hb3.below (HBW.out.alloc hHw _) (HBW.out.alloc hHw _).size hp1 hb1'; have hf : w3.cell? ⟨wr.heap.size, 2, none⟩ = some (.string nm) := hb3.cell ((cell_of_row _ wr.heap.size 2 _ _ _ (heap_alloc_new wr _)).trans rfl) (show wr.heap.size ≠ p by omega) (show wr.heap.size ≠ b by omega); have HD3 := hid2 hd3; clear hd3 hb3)
                | (go_at_call 18; refine (read_at _ p b _ _ (-1) HD3.out nm rfl HN3.out HRS.out).mono ?_; rintro e w4 ⟨rfl, hb4⟩; have hbw4 := hbw3.trans (hb4.mono hbw3.size); have HD4 := hid2 (HD3.out.below hb4 HD3.out.lt.1 HD3.out.lt.2); clear hb4 HD3))
              go_roundg (gk - 1)
              case rel => exact ⟨k + 1, (fileOf M nm.data.toList).1, by omega, by go_num, by rw [HS2.out], ⟨hbw4, _, HD4.out, by rw [← HW1.out]; exact HPS1.out.sync HN1.out (-1) (.inr ⟨rfl, HE1.out, rfl⟩)⟩⟩
              case measure => omega
            · have hns2 : (nm.toList == s0.toList) = false := by rw [ByteArray.toList_eq, ByteArray.toList_eq]; exact beq_eq_false_iff_ne.2 (fun h => hns (bytes_ext h))
              subst hE0
              go_wp2_with (go_at_call 17; refine (HSY.out _).mono ?_; rintro e w3 ⟨rfl, hd3, hb3⟩; have hbw3 := hb3.below (HBW.out.alloc hHw _) (HBW.out.alloc hHw _).size hp1 hb1'; have hf : w3.cell? ⟨wr.heap.size, 2, none⟩ = some (.string nm) := hb3.cell ((cell_of_row _ wr.heap.size 2 _ _ _ (heap_alloc_new wr _)).trans rfl) (show wr.heap.size ≠ p by omega) (show wr.heap.size ≠ b by omega); have HD3 := hid2 hd3; clear hd3 hb3)
              go_roundg (gk - 1)
              case rel => exact ⟨k + 1, sure, by omega, by go_num, by rw [HS.out], ⟨hbw3, _, HD3.out, by rw [← HW1.out]; exact HPS1.out.sync HN1.out (-1) (.inl rfl)⟩⟩
              case measure => omega
          · have hE0' : (E == 0) = false := by simpa using hE0
            go_wp2_with (go_at_call 17; refine (HSY.out _).mono ?_; rintro e w3 ⟨rfl, hd3, hb3⟩; have hbw3 := hb3.below (HBW.out.alloc hHw _) (HBW.out.alloc hHw _).size hp1 hb1'; have hf : w3.cell? ⟨wr.heap.size, 2, none⟩ = some (.string nm) := hb3.cell ((cell_of_row _ wr.heap.size 2 _ _ _ (heap_alloc_new wr _)).trans rfl) (show wr.heap.size ≠ p by omega) (show wr.heap.size ≠ b by omega); have HD3 := hid2 hd3; clear hd3 hb3)
            go_roundg (gk - 1)
            case rel => exact ⟨k + 1, sure, by omega, by go_num, by rw [HS.out], ⟨hbw3, _, HD3.out, by rw [← HW1.out]; exact HPS1.out.sync HN1.out (-1) (.inl rfl)⟩⟩
            case measure => omega
        · by_cases h3 : ak = 3
          · subst h3
            obtain ⟨E, hE⟩ : ∃ E, E = beginE M (-1) true [strB nm.data.toList] nm.data.toList := ⟨_, rfl⟩
            have HE := hid2 hE
            have HRM := hid2 (fun O => remove_at (wr.alloc O) p b k M (-1) (HDA.out O) nm rfl HN3.out (by omega) hE.symm rfl (begin_left M _ _ _))
            clear hE
            by_cases hE0 : E = 0
            · by_cases hns : nm = s0
              · have hE1 : beginE M (-1) true [strB nm.data.toList] nm.data.toList = 0 := by rw [← HE.out]; exact hE0
                have HE1 := hid2 hE1
                clear hE1
                subst hns hE0
                go_wp2_with (go_at_call 19; refine (HRM.out _).mono ?_; rintro e w3 ⟨rfl, hd3, hb3⟩; have hbw3 := hb3.below (HBW.out.alloc hHw _) (HBW.out.alloc hHw _).size hp1 hb1'; have hf : w3.cell? ⟨wr.heap.size, 2, none⟩ = some (.string nm) := hb3.cell ((cell_of_row _ wr.heap.size 2 _ _ _ (heap_alloc_new wr _)).trans rfl) (show wr.heap.size ≠ p by omega) (show wr.heap.size ≠ b by omega); have HD3 := hid2 (hd3.mono (Nat.le_succ k)); clear hd3 hb3)
                go_roundg (gk - 1)
                case rel => exact ⟨k + 1, [], by omega, by go_num, rfl, ⟨hbw3, _, HD3.out, by rw [← HW1.out]; exact HPS1.out.rem (-1) (.inr ⟨rfl, HE1.out, rfl⟩)⟩⟩
                case measure => omega
              · have hns2 : (nm.toList == s0.toList) = false := by rw [ByteArray.toList_eq, ByteArray.toList_eq]; exact beq_eq_false_iff_ne.2 (fun h => hns (bytes_ext h))
                have hns' : nm.data.toList ≠ s0.data.toList := fun h => hns (bytes_ext h)
                have HNS := hid2 hns'
                clear hns'
                subst hE0
                go_wp2_with (go_at_call 19; refine (HRM.out _).mono ?_; rintro e w3 ⟨rfl, hd3, hb3⟩; have hbw3 := hb3.below (HBW.out.alloc hHw _) (HBW.out.alloc hHw _).size hp1 hb1'; have hf : w3.cell? ⟨wr.heap.size, 2, none⟩ = some (.string nm) := hb3.cell ((cell_of_row _ wr.heap.size 2 _ _ _ (heap_alloc_new wr _)).trans rfl) (show wr.heap.size ≠ p by omega) (show wr.heap.size ≠ b by omega); have HD3 := hid2 (hd3.mono (Nat.le_succ k)); clear hd3 hb3)
                go_roundg (gk - 1)
                case rel => exact ⟨k + 1, sure, by omega, by go_num, by rw [HS.out], ⟨hbw3, _, HD3.out, by rw [← HW1.out]; exact HPS1.out.rem (-1) (.inl ⟨rfl, .inl HNS.out⟩)⟩⟩
                case measure => omega
            · have hE0' : (E == 0) = false := by simpa using hE0
              go_wp2_with (go_at_call 19; refine (HRM.out _).mono ?_; rintro e w3 ⟨rfl, hd3, hb3⟩; have hbw3 := hb3.below (HBW.out.alloc hHw _) (HBW.out.alloc hHw _).size hp1 hb1'; have hf : w3.cell? ⟨wr.heap.size, 2, none⟩ = some (.string nm) := hb3.cell ((cell_of_row _ wr.heap.size 2 _ _ _ (heap_alloc_new wr _)).trans rfl) (show wr.heap.size ≠ p by omega) (show wr.heap.size ≠ b by omega); have HD3 := hid2 (hd3.mono (Nat.le_succ k)); clear hd3 hb3)
              go_roundg (gk - 1)
              case rel => exact ⟨k + 1, sure, by omega, by go_num, by rw [HS.out], ⟨hbw3, _, HD3.out, by rw [← HW1.out]; exact HPS1.out.rem (-1) (.inl ⟨rfl, .inr (by rw [← HE.out]; exact hE0)⟩)⟩⟩
              case measure => omega
          · go_wp2_with fail
            go_roundg (gk - 1)
            case rel => exact ⟨k + 1, sure, by omega, by go_num, by rw [HS.out], ⟨HBW.out.alloc hHw _, _, (HDA.out _).mono (Nat.le_succ k), by rw [← HW1.out]; exact HPS1.out⟩⟩
            case measure => omega
    · have hkN : k = N := by omega
      have hlt' : ¬ (k : Int) < N := by omega
      obtain ⟨M, hd, hps⟩ := hinv.disk
      have HBW := hid2 hinv.below
      have hkB : k ≤ 3000 := by omega
      have hW0 : actsW (l.take k) ≤ 3000 := Nat.le_trans (actsW_take_le l k) hW3
      have hs0 : s0.data.toList.length ≤ 100 := by rw [toList_length]; omega
      have hs1 : s1.data.toList.length ≤ 300 := by rw [toList_length]; omega
      have hfl : (fileOf M s0.data.toList).1.length ≤ 1000000000 := by have := (hps.file s0.data.toList).1; omega
      have happ := append_at wr p b k M (-1) hd s0 s1 rfl rfl (by omega) (by omega) hfl (by omega) (by omega) (begin_ok hnm) rfl (begin_left M _ _ _)
      have hall : PS s0.data.toList 4000 (appM M (-1) s0.data.toList s1.data.toList) sure := hps.app (by omega) (by omega) (-1)
      have hend := fun hr => hps.end_ (data := s1.data.toList) hr hnm ps
      obtain ⟨M2, hM2⟩ : ∃ M2, M2 = appM M (-1) s0.data.toList s1.data.toList := ⟨_, rfl⟩
      rw [← hM2] at happ hall hend
      obtain ⟨S, hS⟩ : ∃ S, S = strB sure := ⟨_, rfl⟩
      rw [← hS]
      have HS := hid2 hS
      have HAPP := hid2 happ
      have HALL := hid2 hall
      have HEND := hid2 hend
      have HW0 := hid2 hW0
      have HS0 := hid2 hs0
      have HS1 := hid2 hs1
      obtain ⟨L, hL⟩ : ∃ L, L = M2.length := ⟨_, rfl⟩
      obtain ⟨KS, hKS⟩ : ∃ KS, KS = (M2.map (·.1)).map strB := ⟨_, rfl⟩
      have HL := hid2 hL
      have HKS := hid2 hKS
      clear hinv hd hps happ hall hend hM2 hS hW0 hs0 hs1 hfl hL hKS
      go_wp2_with (first
        | (go_at_call 16; refine HAPP.out.mono ?_; rintro e w3 ⟨rfl, hd3, hb3⟩; have hbw3 := hb3.below HBW.out HBW.out.size hp1 hb1'; have hdl := hd3.lt; obtain ⟨F, G, hF, hG, hx1, hx2, hlF, hlG, hlS⟩ := HEND.out (MapIs.rises hd3.2 (string_keyed Try.underlying9)); obtain ⟨SF, hSF⟩ : ∃ SF, SF = strB F := ⟨_, rfl⟩; obtain ⟨SG, hSG⟩ : ∃ SG, SG = strB G := ⟨_, rfl⟩; rw [← hSF] at hF; rw [← hSG] at hG; have HF := hid2 hF; have HG := hid2 hG; have HX1 := hid2 (show S.data.toList.isPrefixOf SG.data.toList = true by rw [HS.out, hSG, strB_list, strB_list]; exact hx1); have HX2 := hid2 (show SG.data.toList.isPrefixOf SF.data.toList = true by rw [hSF, hSG, strB_list, strB_list]; exact hx2); have hzF : SF.size ≤ 4000 := (by rw [hSF, strB_size]; have := HW0.out; have := HS1.out; omega); have hzG : SG.size ≤ 4000 := (by rw [hSG, strB_size]; have := HW0.out; have := HS1.out; omega); have hzS : S.size ≤ 4000 := (by rw [HS.out, strB_size]; have := HW0.out; omega); have HD3 := hid2 hd3; have HLL := hid2 hd3.2.length_le; clear hd3 hb3 hF hG hx1 hx2 hlF hlG hlS hSF hSG)
        | (go_at_call 18; refine (read_at _ p b _ _ (-1) HD3.out s0 rfl (by have := HS0.out; omega) HF.out).mono ?_; rintro e w4 ⟨rfl, hb4⟩; have hbw4 := hbw3.trans (hb4.mono hbw3.size); have HD4 := hid2 (HD3.out.below hb4 HD3.out.lt.1 HD3.out.lt.2); have hdl4 := HD4.out.lt; clear hb4 HF HD3)
        | (go_at_call 22; have hcr := crash_any w4 p b _ M2 (-1) HD4.out (by omega) (fun x hx => ⟨by have := (HALL.out.all x hx).1; omega, by have := (HALL.out.all x hx).2.1; omega, (HALL.out.all x hx).2.2⟩) B cB ps (HRP.out.below_all hbw4) (by rw [← HQ.out]; exact hpc) (by rw [← HQ.out]; omega); rw [← HQ.out] at hcr; refine hcr.mono ?_; clear hcr; rintro e w5 ⟨p2, b2, rfl, hd5, hp5, hb5', hb5⟩; have hbw5 := hbw4.trans (hb5.mono hbw4.size); have HD5 := hid2 hd5; have hdl5 := hd5.lt; have HE5 := hid2 (HD4.out.below hb5 hdl4.1 hdl4.2); have hne5 : w4.heap.size ≤ p2 := hp5; have hpp : ¬ p2 = p := (by omega); clear hd5 hb5 hp5 hb5')
        | (go_at_call 18; refine (read_at _ p2 b2 _ _ (-1) HD5.out s0 rfl (by have := HS0.out; omega) HG.out).mono ?_; rintro e w6 ⟨rfl, hb6⟩; have hbw6 := hbw5.trans (hb6.mono hbw5.size); have HD6 := hid2 (HD5.out.below hb6 hdl5.1 hdl5.2); have HE6 := hid2 (HE5.out.below hb6 HE5.out.lt.1 HE5.out.lt.2); clear hb6)
        | (go_at_call 23; refine (has_any _ SG S true (by omega) (by omega) HX1.out).mono ?_; rintro e w7 ⟨rfl, rfl⟩; clear HX1)
        | (go_at_call 23; refine (has_any _ SF SG true (by omega) (by omega) HX2.out).mono ?_; rintro e w7 ⟨rfl, rfl⟩)
        | (go_at_call 20; refine (names_at _ p2 b2 _ _ _ HD6.out (by have := HLL.out; omega) (L := L) (KS := KS) (by rw [crashP_len, HL.out]) (by rw [crashP_keys, HKS.out, strV_map])).mono ?_; rintro e w8 ⟨A8, c8, rfl, hr8, hb8⟩; have hbw8 := hbw6.trans (hb8.mono hbw6.size); have HR8 := hid2 hr8; have HE8 := hid2 (HE6.out.below hb8 HE6.out.lt.1 HE6.out.lt.2); clear hb8 hr8 HD6)
        | (go_at_call 20; refine (names_at _ p b _ _ _ HE8.out (by omega) (L := L) (KS := KS) HL.out.symm (by rw [HKS.out, strV_map])).mono ?_; rintro e w9 ⟨A9, c9, rfl, hr9, hb9⟩; have hbw9 := hbw8.trans (hb9.mono hbw8.size); have HR9 := hid2 hr9; have HR8' := hid2 (HR8.out.below_all hb9); clear hb9 hr9)
        | (go_at_call 24; refine (same01_any _ A8 A9 L c8 c9 KS HR8'.out HR9.out (by have := HLL.out; rw [← HL.out] at this; omega)).mono ?_; rintro e w10 ⟨rfl, hb10⟩; have hbw10 := hbw9.trans (hb10.mono hbw9.size); clear hb10))
      go_ret
      exact ⟨rfl, hbw10⟩
end Go.Proofs.Ytbighckpogfcaaa
