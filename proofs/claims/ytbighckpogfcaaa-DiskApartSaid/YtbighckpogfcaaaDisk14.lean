/- The walk of DiskApart. -/
import Derived.Test.YtbighckpogfcaaaDisk13
namespace Go.Proofs.Ytbighckpogfcaaa
open Go.RowKit Go.Maps
/-- between two rounds of DiskApart -/
structure AInv (w : World) (p b g : Nat) (s0 s1 : ByteArray) (l : List ActE) (k : Nat) (wr : World) : Prop where
  below : Below w.heap.size w wr
  box : wr.heap[g]? = some (.cells #[.string s0, .string s1] 35 (0, 0))
  disk : ∃ M, DiskIs wr p b (3 + k) M (-1) ∧ PS kM (500 + actsW (l.take k)) M [] ∧ getM M kM = some (s0.data.toList ++ s1.data.toList, s0.data.toList.length)
theorem apart_read {M : Tab FileE} {s0 s1 X : ByteArray} (h : getM M kM = some (s0.data.toList ++ s1.data.toList, s0.data.toList.length)) (hX : X = s0 ++ s1) : readV M kM = .tuple #[.string X, .int .i64 0] := by
  unfold readV
  rw [h, hX]
  simp only [← strB_append, strB_of]
set_option maxRecDepth 100000 in
set_option maxHeartbeats 4000000 in
theorem DiskApart_walk (w : World) (A : Option Addr) (c : Nat) (l : List ActE) (hr : Rd w 6 A l.length (actsV l)) (hl : l.length ≤ 8796093022208) (hA : ∀ a ∈ l, ActOk a) (s0 s1 : ByteArray) (hz0 : (s0.size : Int) ≤ 140737488355328) (hz1 : (s1.size : Int) ≤ 140737488355328) :
    Calls Try.prog 6 #[.slice A l.length c, .agg #[.string s0, .string s1]] w fun e w' => e = .returned (.bool true) ∧ Below w.heap.size w w' := by
  have HR := hid2 hr
  have HA := hid2 hA
  obtain ⟨N, hN⟩ : ∃ N, N = l.length := ⟨_, rfl⟩
  have hlN : l.length ≤ 8796093022208 := hl
  rw [← hN] at hl
  have HGR := hid2 (fun (w' : World) (hb : Below w.heap.size w w') => great_any w' A c l (hr.below_all hb) hlN hA)
  rw [← hN] at HGR
  rw [← hN]
  have HN := hid2 hN
  obtain ⟨g, hg⟩ : ∃ g, g = w.heap.size := ⟨_, rfl⟩
  have HG := hid2 hg
  clear hr hA hN hlN hg
  have kn : kM.length ≤ 1000000000 := by decide
  go_enter Try.func6, Try.ntmps6
  go_wp2_with (first
    | (go_at_call 13; refine (alive_any _).mono ?_; rintro e w0 ⟨rfl, hb0⟩; rw [← HG.out]; have hbA : Below w.heap.size w w0 := ((Below.refl w.heap.size w).alloc (Nat.le_refl _) _).trans (hb0.mono (by simp)); have hz0' : g + 1 ≤ w0.heap.size := (by have := hb0.size; rw [World.size_alloc, ← HG.out] at this; exact this); have hrow : w0.heap[g]? = some (.cells #[.string s0, .string s1] 35 (0, 0)) := (by rw [HG.out]; exact (hb0.block _ (by simp)).trans (heap_alloc_new w _)); have HROW0 := hid2 hrow; clear hb0 hrow)
    | (go_at_call 21; refine (HGR.out _ hbA).mono ?_; rintro e w1 ⟨v, rfl, hv, hb1⟩; have hbE := hbA.trans (hb1.mono hbA.size); have hz1' : g + 1 ≤ w1.heap.size := Nat.le_trans hz0' hb1.size; have hrow := (hb1.block g (show g < w0.heap.size by omega)).trans HROW0.out; have k0 : w1.cell? ⟨g, 0, none⟩ = some (.string s0) := (cell_of_row w1 _ 0 _ _ _ hrow).trans rfl; have k1 : w1.cell? ⟨g, 1, none⟩ = some (.string s1) := (cell_of_row w1 _ 1 _ _ _ hrow).trans rfl; have HROW1 := hid2 hrow; clear hb1 hbA hrow HROW0)
    | (go_at_call 14; refine (new_any _).mono ?_; rintro e w2 ⟨rfl, hd2, hb2, hz2⟩; have hbz := hbE.size; obtain ⟨p, hp⟩ : ∃ p, p = w1.heap.size + 1 := ⟨_, rfl⟩; obtain ⟨b, hb⟩ : ∃ b, b = w1.heap.size := ⟨_, rfl⟩; rw [← hp, ← hb] at hd2; rw [← hp]; have hp1 : g < p := (by omega); have hb1' : g < b := (by omega); have hp0 : w.heap.size ≤ p := (by omega); have hb0' : w.heap.size ≤ b := (by omega); have hbw2 := hbE.trans (hb2.mono hbz); have hrow2 := (hb2.block g (show g < w1.heap.size by omega)).trans HROW1.out; have k02 : w2.cell? ⟨g, 0, none⟩ = some (.string s0) := (cell_of_row w2 _ 0 _ _ _ hrow2).trans rfl; have HROW2 := hid2 hrow2; have HD2 := hid2 hd2; clear hp hb hz2 hb2 hbE hbz HROW1 hrow2 hd2 k0 k1)
    | (go_at_call 16; refine (append_at _ p b 0 [] (-1) HD2.out _ s0 (k := kM) (y := s0.data.toList) rfl rfl kn (by rw [toList_length]; omega) (by decide) (by decide) (by decide) (E := 0) (M' := [(kM, (s0.data.toList, 0))]) (L := -1) (by decide) rfl (by decide)).mono ?_; rintro e w3 ⟨rfl, hd3, hb3⟩; have hbw3 := hb3.below hbw2 hbw2.size hp0 hb0'; have hzw := hbw2.size; have hrow := (hb3.block g (show g < w2.heap.size by have := HD2.out.lt; omega) (by omega) (by omega)).trans HROW2.out; have HROW3 := hid2 hrow; have HD3 := hid2 hd3; clear hd3 hb3 hrow HD2 hbw2 hzw k02 HROW2)
    | (go_at_call 17; refine (sync_at _ p b 1 [(kM, (s0.data.toList, 0))] (-1) HD3.out _ (k := kM) rfl kn (by show s0.data.toList.length ≤ _; rw [toList_length]; omega) (by decide) (by decide) (E := 0) (M' := [(kM, (s0.data.toList, s0.data.toList.length))]) (L := -1) rfl rfl rfl).mono ?_; rintro e w4 ⟨rfl, hd4, hb4⟩; have hbw4 := hb4.below hbw3 hbw3.size hp0 hb0'; have hrow := (hb4.block g (show g < w3.heap.size by have := HD3.out.lt; omega) (by omega) (by omega)).trans HROW3.out; have k14 : w4.cell? ⟨g, 1, none⟩ = some (.string s1) := (cell_of_row w4 _ 1 _ _ _ hrow).trans rfl; have HROW4 := hid2 hrow; have HD4 := hid2 hd4; clear hd4 hb4 hrow HD3 hbw3 HROW3)
    | (go_at_call 16; refine (append_at _ p b 2 [(kM, (s0.data.toList, s0.data.toList.length))] (-1) HD4.out _ s1 (k := kM) (y := s1.data.toList) rfl rfl kn (by rw [toList_length]; omega) (by show s0.data.toList.length ≤ _; rw [toList_length]; omega) (by decide) (by decide) (E := 0) (M' := [(kM, (s0.data.toList ++ s1.data.toList, s0.data.toList.length))]) (L := -1) rfl rfl rfl).mono ?_; rintro e w5 ⟨rfl, hd5, hb5⟩; have hbw5 := hb5.below hbw4 hbw4.size hp0 hb0'; have hrow := (hb5.block g (show g < w4.heap.size by have := HD4.out.lt; omega) (by omega) (by omega)).trans HROW4.out; have HROW5 := hid2 hrow; have HD5 := hid2 hd5; clear hd5 hb5 hrow HD4 hbw4 k14 HROW4))
  all_goals first
    | (go_ret; exact ⟨rfl, hbE⟩)
    | skip
  rename_i g1 g2 _ _
  have hW3 : actsW l ≤ 3000 := by rcases hv with h | ⟨_, h⟩ <;> omega
  have hs01 : (s0.size : Int) + s1.size ≤ 500 := g2.2
  have hN3 : N ≤ 3000 := by have := actsW_len l; rw [← HN.out] at this; omega
  have HB5 := hid2 hbw5
  obtain ⟨X, hX⟩ : ∃ X, X = s0 ++ s1 := ⟨_, rfl⟩
  have hX' := hX.symm
  have hadd : ¬ (s0.size + s1.size > 9223372036854775807) := by omega
  have HX := hid2 hX
  clear g1 g2 hv hbw5 HGR hX hz0' hz1'
  go_loopg [47] N (fun gk i wr => ∃ k : Nat, k + gk = N ∧ i = .int .i64 k ∧ AInv w p b g s0 s1 l k wr)
  case atStart => exact ⟨0, by omega, rfl, ⟨HB5.out, HROW5.out, _, HD5.out, ⟨fun x hx => (by rw [List.mem_singleton.1 hx]; refine ⟨by show 4 ≤ _; omega, by show (s0.data.toList ++ s1.data.toList).length ≤ _; rw [List.length_append, toList_length, toList_length]; omega, by show s0.data.toList.length ≤ (s0.data.toList ++ s1.data.toList).length; rw [List.length_append]; omega⟩), fun f _ => ⟨List.nil_prefix, Nat.zero_le _⟩, fun _ => rfl⟩, rfl⟩⟩
  case round =>
    obtain ⟨k, hk, rfl, hinv⟩ := hrel
    have hHw := hinv.below.size
    by_cases hlt : k < N
    · have hlt' : (k : Int) < N := by omega
      obtain ⟨a, ha⟩ : ∃ a, l[k]? = some a := ⟨_, List.getElem?_eq_getElem (by rw [← HN.out]; exact hlt)⟩
      have hrr := HR.out.below_all hinv.below
      obtain ⟨bA, oA, rfl, hc⟩ := act_cells hrr ha
      have c0 : wr.cell? ⟨bA, oA + k * 6, none⟩ = some (.int .i64 a.kind) := hc 0 _ rfl
      have c1 : wr.cell? ⟨bA, oA + k * 6 + 1, none⟩ = some (.int .i64 a.n) := by rw [Nat.add_assoc]; exact hc 1 _ rfl
      have c2 : wr.cell? ⟨bA, oA + k * 6 + 2, none⟩ = some (.string a.name) := by rw [Nat.add_assoc]; exact hc 2 _ rfl
      have c3 : wr.cell? ⟨bA, oA + k * 6 + 3, none⟩ = some (.string a.to) := by rw [Nat.add_assoc]; exact hc 3 _ rfl
      have c4 : wr.cell? ⟨bA, oA + k * 6 + 4, none⟩ = some (.string a.data) := by rw [Nat.add_assoc]; exact hc 4 _ rfl
      have c5 : wr.cell? ⟨bA, oA + k * 6 + 5, none⟩ = some (.slice a.pa a.pn a.pc) := by rw [Nat.add_assoc]; exact hc 5 _ rfl
      have e := actsW_take ha
      have e2 := actsW_take_le l (k + 1)
      obtain ⟨W1, hW1⟩ : ∃ W1, W1 = actsW (l.take (k + 1)) := ⟨_, rfl⟩
      obtain ⟨W0, hW0⟩ : ∃ W0, W0 = actsW (l.take k) := ⟨_, rfl⟩
      rw [← hW1, ← hW0] at e
      rw [← hW1] at e2
      have haw : actW a = a.name.size + a.to.size + a.data.size + a.pn + 1 := rfl
      obtain ⟨M, hd, hps, hget⟩ := hinv.disk
      rw [← hW0] at hps
      have hdl := hd.lt
      have hfl : (fileOf M a.name.data.toList).1.length ≤ 1000000000 := by have := (hps.file a.name.data.toList).1; omega
      have hdo := fun (W : World) (hh : DiskIs W p b (3 + k) M (-1)) (h4 : a.kind ≠ 4) => do_any W p b (3 + k) M hh a h4 (by omega) (by omega) (by omega) hfl (by omega)
      have hact := fun (hn : a.name.data.toList ≠ kM) => hps.act (W' := 500 + W1) (a := a) (by omega) hn
      have hgt := fun (hn : a.name.data.toList ≠ kM) (ht : a.to.data.toList ≠ kM) => (act_get (M := M) hn ht).trans hget
      obtain ⟨M2, hM2⟩ : ∃ M2, M2 = doM M a := ⟨_, rfl⟩
      rw [← hM2] at hdo hact hgt
      obtain ⟨ak, an, nm, to, dt, pa, pn, pc⟩ := a
      simp only at c0 c1 c2 c3 c4 c5 hdo hact hgt
      have HBW := hid2 hinv.below
      have HBOX := hid2 hinv.box
      have HD := hid2 hd
      have HDO := hid2 hdo
      have HACT := hid2 hact
      have HGT := hid2 hgt
      have HW1 := hid2 hW1
      clear hinv hd hps hget hdo hact hgt hM2 hW1 hW0 hrr ha hc e e2 haw hfl
      go_wp2_with fail
      all_goals first
        | (go_ret; exact ⟨rfl, HBW.out.alloc hHw _⟩)
        | skip
      rename_i m1 m2 m3 _ _
      have hn : nm.data.toList ≠ kM := by rw [← ByteArray.toList_eq]; exact m1
      have ht : to.data.toList ≠ kM := by rw [← ByteArray.toList_eq]; exact m2
      have h4 : ak ≠ 4 := by simpa using m3.2
      have HRD := hid2 (apart_read (HGT.out hn ht) HX.out)
      have HGT2 := hid2 (HGT.out hn ht)
      have HACT2 := hid2 (HACT.out hn)
      obtain ⟨G, hG⟩ : ∃ G, G = wr.heap.size := ⟨_, rfl⟩
      obtain ⟨Wa, hWa⟩ : ∃ Wa, Wa = wr.alloc (.cells #[.int .i64 ak, .int .i64 an, .string nm, .string to, .string dt, .slice pa pn pc] 39) := ⟨_, rfl⟩
      rw [← hWa, ← hG]
      have qG : Wa.heap[G]? = some (.cells #[.int .i64 ak, .int .i64 an, .string nm, .string to, .string dt, .slice pa pn pc] 39 (0, 0)) := by rw [hWa, hG]; exact heap_alloc_new wr _
      have hzA : G + 1 ≤ Wa.heap.size := by rw [hWa, hG]; simp
      have hbA : Below w.heap.size w Wa := by rw [hWa]; exact HBW.out.alloc hHw _
      have hgr : g < wr.heap.size := by omega
      have hbx : Wa.heap[g]? = some (.cells #[.string s0, .string s1] 35 (0, 0)) := by rw [hWa]; exact (Below.heap_alloc _ _ _ hgr).trans HBOX.out
      have hdA : DiskIs Wa p b (3 + k) M (-1) := by rw [hWa]; exact HD.out.below ((Below.refl _ _).alloc (Nat.le_refl _) _) hdl.1 hdl.2
      have x0a : Wa.cell? ⟨G, 0, none⟩ = some (.int .i64 ak) := (cell_of_row Wa _ 0 _ _ _ qG).trans rfl
      have x1a : Wa.cell? ⟨G, 1, none⟩ = some (.int .i64 an) := (cell_of_row Wa _ 1 _ _ _ qG).trans rfl
      have x2a : Wa.cell? ⟨G, 2, none⟩ = some (.string nm) := (cell_of_row Wa _ 2 _ _ _ qG).trans rfl
      have x3a : Wa.cell? ⟨G, 3, none⟩ = some (.string to) := (cell_of_row Wa _ 3 _ _ _ qG).trans rfl
      have x4a : Wa.cell? ⟨G, 4, none⟩ = some (.string dt) := (cell_of_row Wa _ 4 _ _ _ qG).trans rfl
      have x5a : Wa.cell? ⟨G, 5, none⟩ = some (.slice pa pn pc) := (cell_of_row Wa _ 5 _ _ _ qG).trans rfl
      have QG := hid2 qG
      have HBA := hid2 hbA
      have HBXA := hid2 hbx
      have HDA := hid2 hdA
      clear hG hWa qG hbA hbx hdA m1 m2 m3 c0 c1 c2 c3 c4 c5 HGT HACT hn ht HBOX HD HBW
      have hpG : p < Wa.heap.size ∧ b < Wa.heap.size := HDA.out.lt
      have hwA : w.heap.size ≤ Wa.heap.size := HBA.out.size
      go_region_with (first
        | (go_at_call 25; refine (new07_any _).mono ?_; rintro e w6 ⟨rfl, hb6⟩; have hbw6 := HBA.out.drew.trans (hb6.mono hwA); have hd6 : DiskIs w6 p b (3 + k) M (-1) := DiskIs.below (w := Wa.drew) HDA.out hb6 hpG.1 hpG.2; have hq6 := (hb6.block G (show G < Wa.heap.size by omega)).trans QG.out; have hbx6 := (hb6.block g (show g < Wa.heap.size by omega)).trans HBXA.out; have hz6 : Wa.heap.size ≤ w6.heap.size := hb6.size; have x0b : w6.cell? ⟨G, 0, none⟩ = some (.int .i64 ak) := (cell_of_row w6 _ 0 _ _ _ hq6).trans rfl; have x1b : w6.cell? ⟨G, 1, none⟩ = some (.int .i64 an) := (cell_of_row w6 _ 1 _ _ _ hq6).trans rfl; have x2b : w6.cell? ⟨G, 2, none⟩ = some (.string nm) := (cell_of_row w6 _ 2 _ _ _ hq6).trans rfl; have x3b : w6.cell? ⟨G, 3, none⟩ = some (.string to) := (cell_of_row w6 _ 3 _ _ _ hq6).trans rfl; have x4b : w6.cell? ⟨G, 4, none⟩ = some (.string dt) := (cell_of_row w6 _ 4 _ _ _ hq6).trans rfl; have x5b : w6.cell? ⟨G, 5, none⟩ = some (.slice pa pn pc) := (cell_of_row w6 _ 5 _ _ _ hq6).trans rfl; have HD6 := hid2 hd6; have HBX6 := hid2 hbx6; clear hd6 hq6 hbx6 hb6)
        | (go_at_call 26; refine (HDO.out _ HD6.out h4).mono ?_; rintro e w7 ⟨vv, rfl, hd7, hb7⟩; have hbw7 := hb7.below hbw6 hbw6.size hp0 hb0'; have hbx7 := (hb7.block g (show g < w6.heap.size by omega) (by omega) (by omega)).trans HBX6.out; have HD7 := hid2 hd7; have HBX7 := hid2 hbx7; clear hd7 hb7 hbx7))
      all_goals
        go_wp2_with (go_at_call 18; refine (read_at _ p b _ _ (-1) HD7.out _ (k := kM) rfl kn HRD.out).mono ?_; rintro e w8 ⟨rfl, hb8⟩; have hbw8 := hbw7.trans (hb8.mono hbw7.size); have hbx8 := (hb8.block g (show g < w7.heap.size by have := hbw7.size; have := HD7.out.lt; omega)).trans HBX7.out; have k08 : w8.cell? ⟨g, 0, none⟩ = some (.string s0) := (cell_of_row w8 _ 0 _ _ _ hbx8).trans rfl; have k18 : w8.cell? ⟨g, 1, none⟩ = some (.string s1) := (cell_of_row w8 _ 1 _ _ _ hbx8).trans rfl; have HD8 := hid2 (HD7.out.below hb8 HD7.out.lt.1 HD7.out.lt.2); have HBX8 := hid2 hbx8; clear hb8 hbx8)
        go_roundg (gk - 1)
        all_goals first
          | exact ⟨k + 1, by omega, by go_num, ⟨hbw8, HBX8.out, M2, HD8.out, by rw [← HW1.out]; exact HACT2.out, HGT2.out⟩⟩
          | omega
    · have hkN : k = N := by omega
      have hlt' : ¬ (k : Int) < N := by omega
      obtain ⟨M, hd, hps, hget⟩ := hinv.disk
      have HBW := hid2 hinv.below
      have HBOX := hid2 hinv.box
      have hW0 : actsW (l.take k) ≤ 3000 := Nat.le_trans (actsW_take_le l k) hW3
      have hgr : g < wr.heap.size := by have := hd.lt; omega
      have hcr := crash_any wr p b (3 + k) M (-1) hd (by omega) (fun x hx => ⟨by have := (hps.all x hx).1; omega, by have := (hps.all x hx).2.1; omega, (hps.all x hx).2.2⟩) none 0 [] (Rd.none_ _ _ _) (Nat.le_refl _) (by decide)
      have hrd : readV (crashP M []).1 kM = .tuple #[.string s0, .int .i64 0] := by
        unfold readV
        rw [crash_nil_get (MapIs.rises hd.2 (string_keyed Try.underlying9)) hget]
        simp only [strB_of]
      have HCR := hid2 hcr
      have HRD := hid2 hrd
      clear hinv hd hps hget hcr hrd
      go_wp2_with (first
        | (go_at_call 22; refine HCR.out.mono ?_; rintro e w9 ⟨p2, b2, rfl, hd9, hp9, hb9', hb9⟩; have hbw9 := HBW.out.trans (hb9.mono HBW.out.size); have hbx9 := (hb9.block g hgr).trans HBOX.out; have HBX9 := hid2 hbx9; have HD9 := hid2 hd9; have hzr := hb9.size; clear hd9 hb9 hbx9)
        | (go_at_call 18; refine (read_at _ p2 b2 _ _ (-1) HD9.out _ (k := kM) rfl kn HRD.out).mono ?_; rintro e w10 ⟨rfl, hb10⟩; have hbw10 := hbw9.trans (hb10.mono hbw9.size); have hbx10 := (hb10.block g (show g < w9.heap.size by omega)).trans HBX9.out; have k010 : w10.cell? ⟨g, 0, none⟩ = some (.string s0) := (cell_of_row w10 _ 0 _ _ _ hbx10).trans rfl; clear hb10 hbx10))
      go_ret
      exact ⟨rfl, hbw10⟩
end Go.Proofs.Ytbighckpogfcaaa
