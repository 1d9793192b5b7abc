/- The walk of DiskRuns. -/
import Derived.Test.YtbighckpogfcaaaDruns5
import Derived.Test.YtbighckpogfcaaaDisk8
import Derived.Test.YtbighckpogfcaaaMemZ
import Derived.Test.YtbighckpogfcaaaReg3
namespace Go.Proofs.Ytbighckpogfcaaa
open Go.RowKit Go.Maps
/-- what is asked of an act's picks, and of its number -/
def ActP (w : World) (a : ActE) : Prop := a.n ≤ 9223372036854775807 ∧ a.pn ≤ a.pc ∧ ∃ ps : List Int, ps.length = a.pn ∧ Rd w 1 a.pa a.pn (intV ps)
/-- a disk, the reference's beside it in its box, at some time of DiskRuns -/
structure DR (w : World) (q4 p b n : Nat) (M : Tab FileE) (left : Int) (A : Option Addr) (c : Nat) (wr : World) : Prop where
  side : Side wr p b n M left A
  box : Box wr q4 [.slice A M.length c, .int .i64 left]
  below : Below w.heap.size w wr
  ge : w.heap.size ≤ p ∧ w.heap.size ≤ b ∧ w.heap.size ≤ q4
  ne : q4 ≠ p ∧ q4 ≠ b ∧ blockOf A ≠ some q4
theorem DR.later {w : World} {q4 p b n : Nat} {M : Tab FileE} {left : Int} {A : Option Addr} {c : Nat} {wr w' : World} (h : DR w q4 p b n M left A c wr) (hb : Below wr.heap.size wr w') : DR w q4 p b n M left A c w' := by
  have hd := h.side.disk.lt
  have hs := hb.size
  exact ⟨⟨h.side.disk.below hb hd.1 hd.2, h.side.row.below_all hb, fun q hq => ⟨by have := (h.side.apart q hq).1; omega, (h.side.apart q hq).2⟩⟩, h.box.below_all hb, h.below.trans (hb.mono h.below.size), h.ge, h.ne⟩
/-- behind an act: its answer is put in the box -/
theorem DR.act {w : World} {q4 p b n n' : Nat} {M M' : Tab FileE} {left L : Int} {A A' : Option Addr} {c c' : Nat} {wr Wa w2 W9 : World} (h : DR w q4 p b n M left A c wr) (ha : Below wr.heap.size wr Wa)
    (hd : DiskIs w2 p b n' M' L) (hr : Rd w2 3 A' M'.length (rfsV M')) (hap : ∀ g, blockOf A' = some g → g < w2.heap.size ∧ g ≠ p ∧ g ≠ b ∧ (blockOf A = some g ∨ Wa.heap.size ≤ g)) (hb : But p b Wa w2) (h9 : Below w2.heap.size w2 W9) :
    DR w q4 p b n' M' L A' c' ((W9.setCell ⟨q4, 0, none⟩ (.slice A' M'.length c')).setCell ⟨q4, 1, none⟩ (.int .i64 L)) := by
  have hq := h.box.lt
  have hs := ha.size
  have hs2 := hb.size
  have hs9 := h9.size
  have hw := h.below.size
  have hge := h.ge
  have hdl := hd.lt
  have hne := h.ne
  have hqa : blockOf A' ≠ some q4 := fun e => by
    rcases (hap q4 e).2.2.2 with h1 | h1
    · exact hne.2.2 h1
    · omega
  have hbx9 : Box W9 q4 [.slice A M.length c, .int .i64 left] := ((h.box.below ha hq).but hb hne.1 hne.2.1).below h9 (by omega)
  have hb9 : Below w.heap.size w W9 := (hb.below (h.below.trans (ha.mono hw)) (by omega) hge.1 hge.2.1).trans (h9.mono (by omega))
  have keep : ∀ (x : World) (o : Nat) (v : Value), Rd x 3 A' M'.length (rfsV M') → Rd (x.setCell ⟨q4, o, none⟩ v) 3 A' M'.length (rfsV M') := fun x o v hx => hx.keep fun g o2 u hg hu => by
    rw [World.cell?_setCell_far _ _ _ _ (fun e => hqa (by rw [hg]; exact congrArg some e.symm))]
    exact hu
  refine ⟨⟨?_, keep _ _ _ (keep _ _ _ (hr.below_all h9)), fun g hg => ⟨by rw [World.size_setCell, World.size_setCell]; have := (hap g hg).1; omega, (hap g hg).2.1, (hap g hg).2.2.1⟩⟩, ?_, ?_, hge, hne.1, hne.2.1, hqa⟩
  · refine (hd.below h9 hdl.1 hdl.2).same ?_ ?_
    · rw [Below.heap_setCell _ _ _ _ (fun e => hne.1 e.symm), Below.heap_setCell _ _ _ _ (fun e => hne.1 e.symm)]
    · rw [Below.heap_setCell _ _ _ _ (fun e => hne.2.1 e.symm), Below.heap_setCell _ _ _ _ (fun e => hne.2.1 e.symm)]
  · exact (hbx9.set 0 _).set 1 _
  · exact (hb9.setCell (p := ⟨q4, 0, none⟩) hge.2.2 _).setCell (p := ⟨q4, 1, none⟩) hge.2.2 _
/-- what is known of the values of the region of a crash -/
def VR (H pn n1 : Nat) (ps : List Int) (C1 : Tab FileE) (L : List Value) (j : Nat) (v : Value) (w : World) : Prop := match j with
  | 1 => ∃ B, v = .slice (some ⟨B, 0, none⟩) 0 0 ∧ Own w H 3 1 (some ⟨B, 0, none⟩) 0 0 []
  | 4 => ∃ B c, v = .slice B pn c ∧ Own w H 3 1 B pn c (intV ps)
  | 5 => ∃ p2 b2, v = .pointer (some ⟨p2, 0, none⟩) ∧ DiskIs w p2 b2 n1 C1 (-1) ∧ H ≤ p2 ∧ H ≤ b2
  | 9 => ∃ A4 c4, v = .agg #[.slice A4 n1 c4, .int .i64 (-1)] ∧ Own w H 108 3 A4 n1 c4 (rfsV C1)
  | 10 => ∃ B, v = .pointer (some ⟨B, 0, none⟩) ∧ w.heap[B]? = some (.cells #[.slice none 0 0, .int .i64 0] 46 (0, 0)) ∧ H ≤ B
  | j => L[j]? = some v
theorem VR.keep {H pn n1 : Nat} {ps : List Int} {C1 : Tab FileE} {L : List Value} {j : Nat} {v : Value} {a b : World} (hv : VR H pn n1 ps C1 L j v a) (hb : Below a.heap.size a b) : VR H pn n1 ps C1 L j v b := by
  unfold VR at hv ⊢
  split at hv
  · obtain ⟨B, h1, h2⟩ := hv
    exact ⟨B, h1, h2.below hb (Nat.le_refl _)⟩
  · obtain ⟨B, c, h1, h2⟩ := hv
    exact ⟨B, c, h1, h2.below hb (Nat.le_refl _)⟩
  · obtain ⟨p2, b2, h1, h2, h3⟩ := hv
    exact ⟨p2, b2, h1, h2.below hb h2.lt.1 h2.lt.2, h3⟩
  · obtain ⟨A4, c4, h1, h2⟩ := hv
    exact ⟨A4, c4, h1, h2.below hb (Nat.le_refl _)⟩
  · obtain ⟨B, h1, h2, h3⟩ := hv
    exact ⟨B, h1, (hb.block _ (heap_lt h2)).trans h2, h3⟩
  · exact hv
theorem DR.swap {w : World} {q4 p b n : Nat} {M : Tab FileE} {left : Int} {A : Option Addr} {c : Nat} {Wb w6 : World} (h : DR w q4 p b n M left A c Wb) (hM : Below Wb.heap.size Wb w6) {p2 b2 n2 : Nat} {C : Tab FileE} (hd : DiskIs w6 p2 b2 n2 C (-1)) (hp : Wb.heap.size ≤ p2) (hb : Wb.heap.size ≤ b2)
    {A4 : Option Addr} {c4 : Nat} (ho : Own w6 Wb.heap.size 108 3 A4 C.length c4 (rfsV C)) (hAp : blockOf A4 ≠ some p2) (hAb : blockOf A4 ≠ some b2) :
    DR w q4 p2 b2 n2 C (-1) A4 c4 ((w6.setCell ⟨q4, 0, none⟩ (.slice A4 C.length c4)).setCell ⟨q4, 1, none⟩ (.int .i64 (-1))).drew := by
  have hq := h.box.lt
  have hw := h.below.size
  have hge := h.ge
  have hAq : blockOf A4 ≠ some q4 := fun e => by have := (ho.block _ e).1; omega
  refine ⟨⟨?_, ((ho.setOther (p := ⟨q4, 0, none⟩) hAq _).setOther (p := ⟨q4, 1, none⟩) hAq _).rd, fun q e => ⟨?_, fun hh => hAp (by rw [e, hh]), fun hh => hAb (by rw [e, hh])⟩⟩, ?_, ?_, ⟨by omega, by omega, hge.2.2⟩, by omega, by omega, hAq⟩
  · refine hd.same ?_ ?_
    · exact (Below.heap_setCell _ _ _ _ (show p2 ≠ q4 by omega)).trans (Below.heap_setCell _ _ _ _ (show p2 ≠ q4 by omega))
    · exact (Below.heap_setCell _ _ _ _ (show b2 ≠ q4 by omega)).trans (Below.heap_setCell _ _ _ _ (show b2 ≠ q4 by omega))
  · show q < ((w6.setCell _ _).setCell _ _).heap.size
    rw [World.size_setCell, World.size_setCell]
    exact (ho.block _ e).2.1
  · exact (((h.box.below_all hM).set 0 _).set 1 _).drew
  · exact (((h.below.trans (hM.mono hw)).setCell (p := ⟨q4, 0, none⟩) hge.2.2 _).setCell (p := ⟨q4, 1, none⟩) hge.2.2 _).drew
theorem readV_tuple (M : Tab FileE) (k : List UInt8) : ∃ RS RE, readV M k = .tuple #[.string RS, .int .i64 RE] := by
  unfold readV
  split
  · exact ⟨_, _, rfl⟩
  · exact ⟨_, _, rfl⟩
theorem info_int : (Try.prog.info? 3).map (fun i => (i.zero, i.size, i.bytes)) = some (some (.int .i64 0), 1, 8) := by kernel_rfl
set_option maxRecDepth 100000 in
set_option maxHeartbeats 4000000 in
theorem DiskRuns_walk (w : World) (A : Option Addr) (c : Nat) (l : List ActE) (hr : Rd w 6 A l.length (actsV l)) (hl : l.length ≤ 8796093022208) (hA : ∀ a ∈ l, ActOk a) (hP : ∀ a ∈ l, ActP w a) :
    Calls Try.prog 5 #[.slice A l.length c] w fun e w' => e = .returned (.bool true) ∧ Below w.heap.size w w' := by
  have HR := hid2 hr
  have HA := hid2 hA
  have HP := hid2 hP
  obtain ⟨N, hN⟩ : ∃ N, N = l.length := ⟨_, rfl⟩
  have hlN : l.length ≤ 8796093022208 := hl
  rw [← hN] at hl
  have HGR := hid2 (fun (w' : World) (hb : Below w.heap.size w w') => great_any w' A c l (hr.below_all hb) hlN hA)
  rw [← hN] at HGR
  rw [← hN]
  have HN := hid2 hN
  clear hr hA hN hlN hP
  go_enter Try.func5, Try.ntmps5
  go_wp2_with (first
    | (go_at_call 13; refine (alive_any _).mono ?_; rintro e w0 ⟨rfl, hb0⟩)
    | (go_at_call 21; refine (HGR.out _ hb0).mono ?_; rintro e w1 ⟨v, rfl, hv, hb1⟩; have hbE := hb0.trans (hb1.mono hb0.size); clear hb1 hb0)
    | (go_at_call 14; refine (new_any _).mono ?_; rintro e w2 ⟨rfl, hd2, hb2, hz2⟩; have hbz := hbE.size; obtain ⟨p, hp⟩ : ∃ p, p = w1.heap.size + 1 := ⟨_, rfl⟩; obtain ⟨b, hb⟩ : ∃ b, b = w1.heap.size := ⟨_, rfl⟩; rw [← hp, ← hb] at hd2; rw [← hp]; have hp0 : w.heap.size ≤ p := (by omega); have hb0' : w.heap.size ≤ b := (by omega); have hbw2 := hbE.trans (hb2.mono hbz); have HD2 := hid2 hd2; clear hp hb hz2 hb2 hbz hd2)
    | (go_at_call 25; refine (new07_any _).mono ?_; rintro e w3 ⟨rfl, hb3⟩; have HB3 := hid2 hb3; clear hb3))
  all_goals first
    | (go_ret; exact ⟨rfl, hbE⟩)
    | skip
  have hv1 : ¬ v = 1 := by simpa using ‹(v == 1) = false›
  have hW3 : actsW l ≤ 3000 := by rcases hv with h | ⟨_, h⟩ <;> omega
  have hN3 : N ≤ 3000 := by have := actsW_len l; rw [← HN.out] at this; omega
  obtain ⟨q4, hq4⟩ : ∃ q4, q4 = w3.heap.size := ⟨_, rfl⟩
  rw [← hq4]
  generalize hW : World.alloc _ _ = W
  have hd2 := HD2.out
  have hdr0 : DR w q4 p b 0 [] (-1) none 0 W := by
    have hs := HB3.out.size
    have hlt := hd2.lt
    have hbW : Below w2.heap.size w2 W := by rw [← hW]; exact HB3.out.alloc HB3.out.size _
    refine ⟨⟨hd2.below hbW hlt.1 hlt.2, Rd.none_ _ _ _, fun q hq => by simp [blockOf] at hq⟩, by rw [← hW]; exact Box.new' _ _ _ hq4.symm, hbw2.trans (hbW.mono hbw2.size), ⟨hp0, hb0', by have := hbw2.size; omega⟩, by omega, by omega, by simp [blockOf]⟩
  have HDR0 := hid2 hdr0
  clear hv hv1 HGR hd2 HD2 hbw2 hp0 hb0' hW hq4 hdr0 HB3 hbE
  go_loopg [3, 25] N (fun gk pv i wr => ∃ (k p b n : Nat) (M : Tab FileE) (left : Int) (A' : Option Addr) (c' : Nat), k + gk = N ∧ i = .int .i64 k ∧ pv = .pointer (some ⟨p, 0, none⟩) ∧ DR w q4 p b n M left A' c' wr ∧ n ≤ k ∧ Szs (actsW (l.take k)) M ∧ (-1 ≤ left ∧ left ≤ 9223372036854775807))
  case atStart => exact ⟨0, p, b, 0, [], -1, none, 0, by omega, rfl, rfl, HDR0.out, Nat.le_refl _, (show Szs (actsW (l.take 0)) [] from fun x hx => absurd hx List.not_mem_nil), by decide, by decide⟩
  case round =>
    obtain ⟨k, p, b, n, M, left, A', c', hk, rfl, rfl, hinv, hnk, hsz, hle⟩ := hrel
    have hHw := hinv.below.size
    by_cases hlt : k < N
    · have hlt' : (k : Int) < N := by omega
      obtain ⟨a, ha⟩ : ∃ a, l[k]? = some a := ⟨_, List.getElem?_eq_getElem (by rw [← HN.out]; exact hlt)⟩
      have hrr := HR.out.below_all hinv.below
      obtain ⟨bA, oA, rfl, hc⟩ := act_cells hrr ha
      have c0 : wr.cell? ⟨bA, oA + k * 6, none⟩ = some (.int .i64 a.kind) := hc 0 _ rfl
      have c1 : wr.cell? ⟨bA, oA + k * 6 + 1, none⟩ = some (.int .i64 a.n) := by rw [Nat.add_assoc]; exact hc 1 _ rfl
      have c2 : wr.cell? ⟨bA, oA + k * 6 + 2, none⟩ = some (.string a.name) := by rw [Nat.add_assoc]; exact hc 2 _ rfl
      have c3 : wr.cell? ⟨bA, oA + k * 6 + 3, none⟩ = some (.string a.to) := by rw [Nat.add_assoc]; exact hc 3 _ rfl
      have c4 : wr.cell? ⟨bA, oA + k * 6 + 4, none⟩ = some (.string a.data) := by rw [Nat.add_assoc]; exact hc 4 _ rfl
      have c5 : wr.cell? ⟨bA, oA + k * 6 + 5, none⟩ = some (.slice a.pa a.pn a.pc) := by rw [Nat.add_assoc]; exact hc 5 _ rfl
      have e := actsW_take ha
      have e2 := actsW_take_le l (k + 1)
      obtain ⟨W1, hW1⟩ : ∃ W1, W1 = actsW (l.take (k + 1)) := ⟨_, rfl⟩
      obtain ⟨W0, hW0⟩ : ∃ W0, W0 = actsW (l.take k) := ⟨_, rfl⟩
      rw [← hW1, ← hW0] at e
      rw [← hW1] at e2
      rw [← hW0] at hsz
      have haw : actW a = a.name.size + a.to.size + a.data.size + a.pn + 1 := rfl
      have hml : M.length ≤ n := hinv.side.disk.2.length_le
      obtain ⟨hpn, hppc, ps, hpsl, hpr⟩ := HP.out a (List.mem_of_getElem? ha)
      have hf := (hsz.file a.name.data.toList).1
      have hdo := fun (W : World) (h : DR w q4 p b n M left A' c' W) => do2_any W p b n M left A' c' h.side (by omega) (by omega) hle a (by omega) (by omega) (by omega) (by omega)
      have hszA : Szs W1 (actM M left a) := hsz.act left (by omega)
      have hlA := actL_le (M := M) hle a hpn
      obtain ⟨M1, hM1⟩ : ∃ M1, M1 = actM M left a := ⟨_, rfl⟩
      obtain ⟨l1, hl1⟩ : ∃ l1, l1 = actL M left a := ⟨_, rfl⟩
      obtain ⟨E1, hE1⟩ : ∃ E1, E1 = actX M left a := ⟨_, rfl⟩
      obtain ⟨N1, hN1⟩ : ∃ N1, N1 = M1.length := ⟨_, rfl⟩
      obtain ⟨N0, hN0⟩ : ∃ N0, N0 = M.length := ⟨_, rfl⟩
      rw [← hM1] at hdo hszA
      rw [← hl1] at hdo hlA
      rw [← hE1] at hdo
      obtain ⟨ak, an, nm, to, dt, pa, pn, pc⟩ := a
      simp only at c0 c1 c2 c3 c4 c5 hdo hpn hppc hpsl hpr haw
      have hdo2 := fun (W : World) (h : DR w q4 p b n M left A' c' W) => (hdo W h).mono (fun e w' hh => show ∃ A2 c2, e = .returned (.tuple #[.int .i64 E1, .int .i64 E1, .agg #[.slice A2 N1 c2, .int .i64 l1]]) ∧ DiskIs w' p b (n + 1) M1 l1 ∧ Rd w' 3 A2 M1.length (rfsV M1) ∧ (∀ g, blockOf A2 = some g → g < w'.heap.size ∧ g ≠ p ∧ g ≠ b ∧ (blockOf A' = some g ∨ W.heap.size ≤ g)) ∧ But p b W w' by rw [hN1]; exact hh)
      rw [← hN0] at hdo2
      have hbx := hinv.box
      rw [← hN0] at hbx
      have hqlt := hinv.box.lt
      obtain ⟨G, hG⟩ : ∃ G, G = wr.heap.size := ⟨_, rfl⟩
      obtain ⟨Wa, hWa⟩ : ∃ Wa, Wa = wr.alloc (.cells #[.int .i64 ak, .int .i64 an, .string nm, .string to, .string dt, .slice pa pn pc] 39) := ⟨_, rfl⟩
      have k1 : Box Wa G [.int .i64 ak, .int .i64 an, .string nm, .string to, .string dt, .slice pa pn pc] := by rw [hWa]; exact Box.new' _ _ _ hG.symm
      have hba : Below wr.heap.size wr Wa := by rw [hWa]; exact (Below.refl _ _).alloc (Nat.le_refl _) _
      have k0 : Box Wa q4 [.slice A' N0 c', .int .i64 left] := hbx.below_all hba
      have HDO := hid2 hdo2
      have HDRA := hid2 (hinv.later hba)
      have HINV := hid2 hinv
      have HM1 := hid2 hM1
      have HN1 := hid2 hN1
      have HSZA := hid2 hszA
      have HWA := hid2 hWa
      have HG := hid2 hG
      have HPR := hid2 hpr
      have HPSL := hid2 hpsl
      have HBA := hid2 hba
      have K1 := hid2 k1
      have hne := hinv.ne
      have hdl := hinv.side.disk.lt
      have hGq : G ≠ p ∧ G ≠ b ∧ q4 ≠ G ∧ G ≠ q4 := by omega
      have hszG : Wa.heap.size = G + 1 := by rw [hWa, World.size_alloc, hG]
      have y0 : Wa.cell? ⟨G, 0, none⟩ = some (.int .i64 ak) := k1.cells 0
      have hpn3 : pn ≤ 3000 := by omega
      have hnm3 : nm.data.toList.length ≤ 1000000000 := by rw [toList_length]; omega
      have HW1 := hid2 hW1
      clear hdo hdo2 hszA hM1 hl1 hE1 hN1 hN0 hinv hbx hsz hW1 hW0 hrr ha hc hf hWa hG hpsl hpr hba hlt k1 hml haw
      have x0 : Wa.cell? ⟨q4, 0, none⟩ = some (.slice A' N0 c') := k0.cells 0
      have x1 : Wa.cell? ⟨q4, 1, none⟩ = some (.int .i64 left) := k0.cells 1
      have y1 : Wa.cell? ⟨G, 1, none⟩ = some (.int .i64 an) := K1.out.cells 1
      have y2 : Wa.cell? ⟨G, 2, none⟩ = some (.string nm) := K1.out.cells 2
      have y3 : Wa.cell? ⟨G, 3, none⟩ = some (.string to) := K1.out.cells 3
      have y4 : Wa.cell? ⟨G, 4, none⟩ = some (.string dt) := K1.out.cells 4
      have y5 : Wa.cell? ⟨G, 5, none⟩ = some (.slice pa pn pc) := K1.out.cells 5
      have K0 := hid2 k0
      clear k0
      go_upto_region 9 with (fail)
      rw [← HWA.out, ← HG.out]
      go_upto_region 11 with (go_at_call 26; refine (HDO.out _ HDRA.out).mono ?_; rintro e w2 ⟨A2, c2, rfl, hd2, hr2, hap2, hb2⟩; have q2 := K0.out.but hb2 hne.1 hne.2.1; have k2 := K1.out.but hb2 hGq.1 hGq.2.1; have u0 : w2.cell? ⟨q4, 0, none⟩ = some (.slice A' N0 c') := q2.cells 0; have u1 : w2.cell? ⟨q4, 1, none⟩ = some (.int .i64 left) := q2.cells 1; have v0 : w2.frozen? ⟨q4, 0, none⟩ = false := q2.free 0; have v1 : w2.frozen? ⟨q4, 1, none⟩ = false := q2.free 1; have hq2 := q2.lt; have HD2 := hid2 hd2; have HR2 := hid2 hr2; have HAP2 := hid2 hap2; have HB2 := hid2 hb2; have K2 := hid2 k2; clear hd2 hr2 hap2 hb2 q2 k2 x0 x1)
      generalize hWb : World.alloc _ _ = Wb
      have hdr1 : DR w q4 p b (n + 1) M1 l1 A2 c2 Wb := by
        rw [← hWb, HN1.out]
        exact (HINV.out.act HBA.out HD2.out HR2.out HAP2.out HB2.out (Below.refl _ _)).later ((Below.refl _ _).alloc (Nat.le_refl _) _)
      have k3 : Box Wb G [.int .i64 ak, .int .i64 an, .string nm, .string to, .string dt, .slice pa pn pc] := by
        rw [← hWb]
        exact ((K2.out.other (show G ≠ q4 from hGq.2.2.2) _).other (show G ≠ q4 from hGq.2.2.2) _).alloc _
      have k4 : Box Wb q4 [.slice A2 N1 c2, .int .i64 l1] := by rw [HN1.out]; exact hdr1.box
      have y0 : Wb.cell? ⟨G, 0, none⟩ = some (.int .i64 ak) := k3.cells 0
      have y1 : Wb.cell? ⟨G, 2, none⟩ = some (.string nm) := k3.cells 2
      have y2 : Wb.cell? ⟨G, 5, none⟩ = some (.slice pa pn pc) := k3.cells 5
      have x0 : Wb.cell? ⟨q4, 0, none⟩ = some (.slice A2 N1 c2) := k4.cells 0
      have x1 : Wb.cell? ⟨q4, 1, none⟩ = some (.int .i64 l1) := k4.cells 1
      have v2 : Wb.frozen? ⟨q4, 0, none⟩ = false := k4.free 0
      have v3 : Wb.frozen? ⟨q4, 1, none⟩ = false := k4.free 1
      have HDR1 := hid2 hdr1
      have K3 := hid2 k3
      clear hWb hdr1 k3 k4 u0 u1 v0 v1 hq2 HD2 HR2 HAP2 HB2 K2 K0 K1
      by_cases h5 : 5 ≤ ak
      · skip
        obtain ⟨C1, hC1⟩ : ∃ C1, C1 = (crashP M1 ps).1 := ⟨_, rfl⟩
        have HC1 := hid2 hC1
        have HPR2 := hid2 (fun (W : World) (hb : Below Wb.heap.size Wb W) => HPR.out.below_all (HDR1.out.below.trans (hb.mono HDR1.out.below.size)))
        have HBX4 : Hid2 (Box Wb q4 [.slice A2 N1 c2, .int .i64 l1]) := hid2 (by rw [HN1.out]; exact HDR1.out.box)
        have HCR := hid2 (fun (W : World) (hb : Below Wb.heap.size Wb W) (B : Option Addr) (c3 : Nat) (ho : Own W Wb.heap.size 3 1 B pn c3 (intV ps)) => show Calls Try.prog 22 #[.pointer (some ⟨p, 0, none⟩), .slice B pn c3] W (fun e w' => ∃ p2 b2, e = .returned (.pointer (some ⟨p2, 0, none⟩)) ∧ DiskIs w' p2 b2 N1 C1 (-1) ∧ W.heap.size ≤ p2 ∧ W.heap.size ≤ b2 ∧ Below W.heap.size W w') from by
          have h1 := HDR1.out.later hb
          have h2 := crash_any W p b (n + 1) M1 l1 h1.side.disk (by omega) (fun x hx => ⟨by have := (HSZA.out x hx).1; omega, by have := (HSZA.out x hx).2.1; omega, (HSZA.out x hx).2.2⟩) B c3 ps (by rw [HPSL.out]; exact ho.rd) (by rw [HPSL.out]; exact ho.2.1) (by rw [HPSL.out]; omega)
          rw [HPSL.out] at h2
          rw [HN1.out, HC1.out]
          exact h2)
        have HRC := hid2 (fun (W : World) (hb : Below Wb.heap.size Wb W) => show Calls Try.prog 27 #[.agg #[.slice A2 N1 c2, .int .i64 l1], .slice pa pn pc] W (RCPost W C1 N1) from by
          have h1 := HDR1.out.later hb
          have h2 := crash07m_any W A2 c2 M1 l1 h1.side.row (by have := h1.side.disk.2.length_le; omega) (MapIs.rises h1.side.disk.2 (string_keyed Try.underlying9)) (fun x hx => ⟨by have := (HSZA.out x hx).1; omega, by have := (HSZA.out x hx).2.1; omega, (HSZA.out x hx).2.2⟩) pa pc ps (by rw [HPSL.out]; exact HPR2.out W hb) (by rw [HPSL.out]; omega)
          rw [HPSL.out] at h2
          rw [HN1.out, HC1.out]
          exact h2)
        clear hC1
        go_upto_region 14 with (fail)
        refine wp_region_grd 11 (by kernel_rfl) (by kernel_rfl) (by kernel_rfl) _ rfl (by kernel_rfl) (VR Wb.heap.size pn N1 ps C1 [(.pointer (some ⟨p, 0, none⟩)), undef, (.pointer (some ⟨G, 5, none⟩)), (.slice pa pn pc), undef, undef, (.agg #[.slice A2 N1 c2, .int .i64 l1]), (.pointer (some ⟨G, 5, none⟩)), (.slice pa pn pc), undef, undef]) (fun w4 => Below Wb.heap.size Wb w4) (fun a b => Below a.heap.size a b) ((Below.refl Wb.heap.size Wb).drew) (fun _ _ _ _ hb hv => hv.keep hb) ?_ ?_
        · refine of_allOps ⟨?_, ?_, ?_, ?_, ?_, ?_, ?_, ?_, ?_, ?_, ?_, trivial⟩
          · intro T2 w2 hM hN hO hE K hK
            have o3 : T2[3]? = some (.pointer (some ⟨p, 0, none⟩)) := hO 3 rfl
            clear hE hO hN
            refine step_plain0 rfl ?_
            go_simp
            exact hK _ _ rfl hM (Below.refl _ _)
          · intro T2 w2 hM hN hO hE K hK
            clear hE hO hN
            refine step_plain0 rfl ?_
            go_simp
            exact hK _ _ ⟨_, rfl, own_empty w2 _ _ _ hM.size rfl⟩ (hM.alloc hM.size _) ((Below.refl _ _).alloc (Nat.le_refl _) _)
          · intro T2 w2 hM hN hO hE K hK
            have o6 : T2[6]? = some (.pointer (some ⟨G, 0, none⟩)) := hO 6 rfl
            clear hE hO hN
            refine step_plain0 rfl ?_
            go_simp
            exact hK _ _ rfl hM (Below.refl _ _)
          · intro T2 w2 hM hN hO hE K hK
            obtain ⟨v2, h2, e2⟩ := hE ⟨2, .data⟩ (by simp) rfl _ _ rfl rfl
            rw [show v2 = .pointer (some ⟨G, 5, none⟩) from (Option.some.inj e2).symm] at h2
            clear hE hO hN
            refine step_plain0 rfl ?_
            have cq : w2.cell? ⟨G, 5, none⟩ = some (.slice pa pn pc) := (K3.out.below_all hM).cells 5
            go_simp
            exact hK _ _ rfl hM (Below.refl _ _)
          · intro T2 w2 hM hN hO hE K hK
            obtain ⟨v1, h1, hv1⟩ := hE ⟨1, .data⟩ (by simp) rfl _ _ rfl rfl
            obtain ⟨v3, h3, e3⟩ := hE ⟨3, .data⟩ (by simp) rfl _ _ rfl rfl
            rw [show v3 = .slice pa pn pc from (Option.some.inj e3).symm] at h3
            clear hE hO hN
            refine step_plain0 rfl ?_
            obtain ⟨B, rfl, ho⟩ := hv1
            refine wp_append_zero (.tmp 45) (.tmp 47) 36 36 rfl 3 (.int .i64 0) 1 8 Try.underlying36 info_int rfl Wb.heap.size (some ⟨B, 0, none⟩) (by simp [go_sem, h1]) ho pn (intV ps) (.slice pa pn pc) (by simp [go_sem, h3]) (Src.slice Try.underlying36 (HPR2.out w2 hM)) (by unfold maxLen; omega) (by omega) hM.size ?_
            intro B3 c3 w3 ho3 hb
            exact hK _ _ ⟨B3, c3, rfl, ho3⟩ (hM.trans (hb.mono hM.size)) hb
          · intro T2 w2 hM hN hO hE K hK
            obtain ⟨v0, h0, e0⟩ := hE ⟨0, .data⟩ (by simp) rfl _ _ rfl rfl
            rw [show v0 = .pointer (some ⟨p, 0, none⟩) from (Option.some.inj e0).symm] at h0
            obtain ⟨v4, h4, hv4⟩ := hE ⟨4, .data⟩ (by simp) rfl _ _ rfl rfl
            clear hE hO hN
            refine step_plain0 rfl ?_
            obtain ⟨B, c3, rfl, ho⟩ := hv4
            go_simp
            refine (HCR.out w2 hM B c3 ho).mono ?_
            rintro e w3 ⟨p2, b2, rfl, hd, hp2, hb2, hb⟩
            exact hK _ _ ⟨p2, b2, rfl, hd, Nat.le_trans hM.size hp2, Nat.le_trans hM.size hb2⟩ (hM.trans (hb.mono hM.size)) hb
          · intro T2 w2 hM hN hO hE K hK
            have o4 : T2[4]? = some (.pointer (some ⟨q4, 0, none⟩)) := hO 4 rfl
            clear hE hO hN
            refine step_plain0 rfl ?_
            have cq0 : w2.cell? ⟨q4, 0, none⟩ = some (.slice A2 N1 c2) := ((HBX4.out).below_all hM).cells 0
            have cq1 : w2.cell? ⟨q4, 1, none⟩ = some (.int .i64 l1) := ((HBX4.out).below_all hM).cells 1
            go_simp
            exact hK _ _ rfl hM (Below.refl _ _)
          · intro T2 w2 hM hN hO hE K hK
            have o6 : T2[6]? = some (.pointer (some ⟨G, 0, none⟩)) := hO 6 rfl
            clear hE hO hN
            refine step_plain0 rfl ?_
            go_simp
            exact hK _ _ rfl hM (Below.refl _ _)
          · intro T2 w2 hM hN hO hE K hK
            obtain ⟨v7, h7, e7⟩ := hE ⟨7, .data⟩ (by simp) rfl _ _ rfl rfl
            rw [show v7 = .pointer (some ⟨G, 5, none⟩) from (Option.some.inj e7).symm] at h7
            clear hE hO hN
            refine step_plain0 rfl ?_
            have cq : w2.cell? ⟨G, 5, none⟩ = some (.slice pa pn pc) := (K3.out.below_all hM).cells 5
            go_simp
            exact hK _ _ rfl hM (Below.refl _ _)
          · intro T2 w2 hM hN hO hE K hK
            obtain ⟨v6, h6, e6⟩ := hE ⟨6, .data⟩ (by simp) rfl _ _ rfl rfl
            rw [show v6 = .agg #[.slice A2 N1 c2, .int .i64 l1] from (Option.some.inj e6).symm] at h6
            obtain ⟨v8, h8, e8⟩ := hE ⟨8, .data⟩ (by simp) rfl _ _ rfl rfl
            rw [show v8 = .slice pa pn pc from (Option.some.inj e8).symm] at h8
            clear hE hO hN
            refine step_plain0 rfl ?_
            go_simp
            refine (HRC.out w2 hM).mono ?_
            rintro e w3 ⟨A4, c4, rfl, ho, hb⟩
            exact hK _ _ ⟨A4, c4, rfl, ho.mono hM.size⟩ (hM.trans (hb.mono hM.size)) hb
          · intro T2 w2 hM hN hO hE K hK
            clear hE hO hN
            refine step_plain0 rfl ?_
            go_simp
            exact hK _ _ ⟨_, rfl, heap_alloc_new w2 _, hM.size⟩ (hM.alloc hM.size _) ((Below.refl _ _).alloc (Nat.le_refl _) _)
        · intro u w2 hM hF
          obtain ⟨p2, b2, hv5, hd5, hp5, hb5⟩ := hF 5 (by omega)
          obtain ⟨A4, c4, hv9, ho9⟩ := hF 9 (by omega)
          obtain ⟨B, hv10, hB10, hBg⟩ := hF 10 (by omega)
          clear hF
          simp only [fillAll, Nat.reduceAdd, hv5, hv9, hv10, List.take_succ_cons, List.take_zero, List.drop_succ_cons, List.drop_zero, List.setIfInBounds_toArray, List.set_cons_succ, List.set_cons_zero]
          have b0 : w2.cell? ⟨B, 0, none⟩ = some (.slice none 0 0) := (cell_of_row w2 B 0 _ _ _ hB10).trans rfl
          have b1 : w2.cell? ⟨B, 1, none⟩ = some (.int .i64 0) := (cell_of_row w2 B 1 _ _ _ hB10).trans rfl
          have bf0 : w2.frozen? ⟨B, 0, none⟩ = false := frozen_of_row w2 B 0 _ _ hB10
          have bf1 : w2.frozen? ⟨B, 1, none⟩ = false := frozen_of_row w2 B 1 _ _ hB10
          have hBp : B ≠ p2 := fun e => by
            have := hd5.1
            rw [← e, hB10] at this
            injection this with this
            injection this with _ h2
            exact absurd h2 (by decide)
          have hBb : B ≠ b2 := fun e => by
            obtain ⟨es, clock, hh, _⟩ := hd5.2
            rw [← e, hB10] at hh
            cases hh
          have hAB : blockOf A4 ≠ some B := ho9.ne hB10 (by decide)
          have hAp : blockOf A4 ≠ some p2 := ho9.ne hd5.1 (by decide)
          have hAb : blockOf A4 ≠ some b2 := fun e => by
            obtain ⟨_, _, cur, fr, hc⟩ := ho9.block b2 e
            obtain ⟨es, clock, hh, _⟩ := hd5.2
            rw [hc] at hh
            cases hh
          obtain ⟨F, hF⟩ : ∃ F, F = (w2.setCell ⟨B, 0, none⟩ (.slice A4 N1 c4)).setCell ⟨B, 1, none⟩ (.int .i64 (-1)) := ⟨_, rfl⟩
          have hMF : Below Wb.heap.size Wb F := by rw [hF]; exact (hM.setCell (p := ⟨B, 0, none⟩) hBg _).setCell (p := ⟨B, 1, none⟩) hBg _
          have hdF : DiskIs F p2 b2 N1 C1 (-1) := by
            rw [hF]
            refine hd5.same ?_ ?_
            · rw [Below.heap_setCell _ _ _ _ (fun e => hBp e.symm), Below.heap_setCell _ _ _ _ (fun e => hBp e.symm)]
            · rw [Below.heap_setCell _ _ _ _ (fun e => hBb e.symm), Below.heap_setCell _ _ _ _ (fun e => hBb e.symm)]
          have hoF : Own F Wb.heap.size 108 3 A4 N1 c4 (rfsV C1) := by
            rw [hF]
            exact (ho9.setOther (p := ⟨B, 0, none⟩) hAB _).setOther (p := ⟨B, 1, none⟩) hAB _
          have hbF : Box F B [.slice A4 N1 c4, .int .i64 (-1)] := by
            have h0 : Box w2 B [.slice none 0 0, .int .i64 0] := ⟨_, hB10⟩
            rw [hF]
            exact (h0.set 0 _).set 1 _
          have HF2 := hid2 hF
          have HMF := hid2 hMF
          have HDF := hid2 hdF
          have HOF := hid2 hoF
          have HBF := hid2 hbF
          have hC1l : N1 = C1.length := by rw [HC1.out, crash_length, HN1.out]
          have hN1n : N1 ≤ n + 1 := by rw [HN1.out]; exact HDR1.out.side.disk.2.length_le
          have hszC : Szs W1 C1 := by rw [HC1.out]; exact HSZA.out.crash ps
          have hsmF : Calls Try.prog 28 #[.pointer (some ⟨p2, 0, none⟩), .agg #[.slice A4 N1 c4, .int .i64 (-1)]] F fun e w' => e = .returned (.int .i64 1) ∧ Below F.heap.size F w' := by
            have h := same07_any F p2 b2 N1 C1 (-1) (-1) hdF (by omega) A4 c4 (by rw [← hC1l]; exact hoF.rd) (by omega) (fun x hx => by have := (hszC x hx).1; omega)
            rw [← hC1l] at h
            exact h
          have HSMF := hid2 hsmF
          have HC1L := hid2 hC1l
          have HSZC := hid2 hszC
          clear hF hMF hdF hoF hbF hsmF hC1l hszC hd5 ho9 hB10 hv5 hv9 hv10 hM
          go_upto_region 15 with (fail)
          rw [← HF2.out]
          have g0 : F.cell? ⟨B, 0, none⟩ = some (.slice A4 N1 c4) := HBF.out.cells 0
          have g1 : F.cell? ⟨B, 1, none⟩ = some (.int .i64 (-1)) := HBF.out.cells 1
          have g2 : F.cell? ⟨G, 0, none⟩ = some (.int .i64 ak) := (K3.out.below_all HMF.out).cells 0
          clear b0 b1 bf0 bf1
          go_upto_region 17 with (go_at_call 28; refine HSMF.out.mono ?_; rintro e w6 ⟨rfl, hb6⟩; have hM6 := HMF.out.trans (hb6.mono HMF.out.size); have hd6 := HDF.out.below hb6 HDF.out.lt.1 HDF.out.lt.2; have k6 := K3.out.below_all hM6; have bx6 := HBF.out.below_all hb6; have q6 := HBX4.out.below_all hM6; have z0 : w6.cell? ⟨G, 0, none⟩ = some (.int .i64 ak) := k6.cells 0; have z1 : w6.cell? ⟨B, 0, none⟩ = some (.slice A4 N1 c4) := bx6.cells 0; have z2 : w6.cell? ⟨B, 1, none⟩ = some (.int .i64 (-1)) := bx6.cells 1; have z3 : w6.cell? ⟨q4, 0, none⟩ = some (.slice A2 N1 c2) := q6.cells 0; have z4 : w6.cell? ⟨q4, 1, none⟩ = some (.int .i64 l1) := q6.cells 1; have z5 : w6.frozen? ⟨q4, 0, none⟩ = false := q6.free 0; have z6 : w6.frozen? ⟨q4, 1, none⟩ = false := q6.free 1; have HM6 := hid2 hM6; have HD6 := hid2 hd6; have HO6 := hid2 (HOF.out.below hb6 (by have := HMF.out.size; exact Nat.le_refl _)); have K6 := hid2 k6; have Q6 := hid2 q6; clear hb6 hM6 hd6 k6 bx6 q6)
          by_cases h6 : ak = 6
          · subst h6
            go_upto_region 18 with (fail)
            go_still_tail 3, (by kernel_rfl)
            change wpList _ _ _ _ _ w6.drew
            go_upto_region 21 with (fail)
            generalize hT : World.drew (World.setCell _ _ _) = Wt
            have hdrT : DR w q4 p2 b2 N1 C1 (-1) A4 c4 Wt := by
              rw [← hT, HC1L.out]
              exact HDR1.out.swap HM6.out (by rw [← HC1L.out]; exact HD6.out) hp5 hb5 (by rw [← HC1L.out]; exact HO6.out) hAp hAb
            have kT : Box Wt G [.int .i64 6, .int .i64 an, .string nm, .string to, .string dt, .slice pa pn pc] := by
              rw [← hT]
              exact ((K6.out.other (show G ≠ q4 from hGq.2.2.2) _).other (show G ≠ q4 from hGq.2.2.2) _).drew
            have hszT := HSZC.out
            have hnT : N1 ≤ k + 1 := by omega
            clear hT z0 z1 z2 z3 z4 z5 z6
            have hriT : Rises C1 := MapIs.rises hdrT.side.disk.2 (string_keyed Try.underlying9)
            have hlT : C1.length ≤ 1000000 := by have := hdrT.side.disk.2.length_le; omega
            have hlen : ∀ x ∈ C1, x.1.length ≤ 1000000000 := fun x hx => by have := (hszT x hx).1; omega
            obtain ⟨NT, hNT⟩ : ∃ NT, NT = C1.length := ⟨_, rfl⟩
            obtain ⟨RS, RE, hrv⟩ := readV_tuple C1 nm.data.toList
            have hr1 := fun (W : World) (h : DR w q4 p2 b2 (N1) C1 (-1) A4 c4 W) => read_at W p2 b2 (N1) C1 (-1) h.side.disk nm rfl hnm3 hrv
            have hr2 := fun (W : World) (h : DR w q4 p2 b2 (N1) C1 (-1) A4 c4 W) => read07m_any W A4 c4 C1 (-1) h.side.row (by omega) hriT nm
            have hs1 := fun (W : World) (h : DR w q4 p2 b2 (N1) C1 (-1) A4 c4 W) => same07_any W p2 b2 (N1) C1 (-1) (-1) h.side.disk (by omega) A4 c4 h.side.row hlT hlen
            rw [hrv] at hr2
            rw [← hNT] at hr2 hs1
            have hbxT := hdrT.box
            rw [← hNT] at hbxT
            have HR1 := hid2 hr1
            have HR2 := hid2 hr2
            have HS1 := hid2 hs1
            have HDRT := hid2 hdrT
            have HKT := hid2 kT
            have HBXT := hid2 hbxT
            have HSZT := hid2 hszT
            have yT : Wt.cell? ⟨G, 2, none⟩ = some (.string nm) := kT.cells 2
            clear hriT hlT hlen hrv hr1 hr2 hs1 hdrT kT hbxT hszT hNT 
            go_wp2_with (first
              | (go_at_call 18; refine (HR1.out _ HDRT.out).mono ?_; rintro e w7 ⟨rfl, hb7⟩; have hd7 := HDRT.out.later hb7; have b7 := HBXT.out.below_all hb7; have k7 := HKT.out.below_all hb7; have y7 : w7.cell? ⟨G, 2, none⟩ = some (.string nm) := k7.cells 2; have x70 : w7.cell? ⟨q4, 0, none⟩ = some (.slice A4 NT c4) := b7.cells 0; have x71 : w7.cell? ⟨q4, 1, none⟩ = some (.int .i64 (-1)) := b7.cells 1; have HD7 := hid2 hd7; have HB7 := hid2 b7; clear hb7 hd7 b7 k7)
              | (go_at_call 29; refine (HR2.out _ HD7.out).mono ?_; rintro e w8 ⟨rfl, hb8⟩; have hd8 := HD7.out.later hb8; have b8 := HB7.out.below_all hb8; have x80 : w8.cell? ⟨q4, 0, none⟩ = some (.slice A4 NT c4) := b8.cells 0; have x81 : w8.cell? ⟨q4, 1, none⟩ = some (.int .i64 (-1)) := b8.cells 1; have HD8 := hid2 hd8; clear hb8 hd8 b8)
              | (go_at_call 28; refine (HS1.out _ HD8.out).mono ?_; rintro e w9 ⟨rfl, hb9⟩; have HD9 := hid2 (HD8.out.later hb9); clear hb9))
            go_roundg (gk - 1)
            case rel => exact ⟨k + 1, p2, b2, N1, C1, (-1), A4, c4, by omega, by go_num, rfl, HD9.out, hnT, by rw [← HW1.out]; exact HSZT.out, (by decide)⟩
            case measure => omega
          · have h6' : (ak == 6) = false := by simpa using h6
            have hnr : (C1 : Tab FileE).length ≤ 1000000 := by rw [← HC1L.out]; omega
            have hap := append_at w6 p2 b2 N1 C1 (-1) HD6.out (k := [111, 116, 104, 101, 114]) (y := [120]) ⟨#[111, 116, 104, 101, 114]⟩ ⟨#[120]⟩ rfl rfl (by decide) (by decide) (by have := (HSZC.out.file [111, 116, 104, 101, 114]).1; omega) (by omega) (by decide) (E := 0) (by rw [begin_goes (by decide) (fun h => by cases h)]; rfl) rfl rfl
            have HAP := hid2 hap
            clear hap hnr
            go_upto_region 21 with (go_at_call 16; refine HAP.out.mono ?_; rintro e w10 ⟨rfl, _, hb10⟩; have HB10 := hid2 hb10; clear hb10)
            have hbl : Below Wb.heap.size Wb w10 := HB10.out.below HM6.out HM6.out.size hp5 hb5
            have hdrT := HDR1.out.later hbl
            have kT := K3.out.below_all hbl
            have hszT := HSZA.out
            have hnT : n + 1 ≤ k + 1 := by omega
            clear hbl z0 z1 z2 z3 z4 z5 z6
            have hriT : Rises M1 := MapIs.rises hdrT.side.disk.2 (string_keyed Try.underlying9)
            have hlT : M1.length ≤ 1000000 := by have := hdrT.side.disk.2.length_le; omega
            have hlen : ∀ x ∈ M1, x.1.length ≤ 1000000000 := fun x hx => by have := (hszT x hx).1; omega
            obtain ⟨NT, hNT⟩ : ∃ NT, NT = M1.length := ⟨_, rfl⟩
            obtain ⟨RS, RE, hrv⟩ := readV_tuple M1 nm.data.toList
            have hr1 := fun (W : World) (h : DR w q4 p b (n + 1) M1 l1 A2 c2 W) => read_at W p b (n + 1) M1 l1 h.side.disk nm rfl hnm3 hrv
            have hr2 := fun (W : World) (h : DR w q4 p b (n + 1) M1 l1 A2 c2 W) => read07m_any W A2 c2 M1 l1 h.side.row (by omega) hriT nm
            have hs1 := fun (W : World) (h : DR w q4 p b (n + 1) M1 l1 A2 c2 W) => same07_any W p b (n + 1) M1 l1 l1 h.side.disk (by omega) A2 c2 h.side.row hlT hlen
            rw [hrv] at hr2
            rw [← hNT] at hr2 hs1
            have hbxT := hdrT.box
            rw [← hNT] at hbxT
            have HR1 := hid2 hr1
            have HR2 := hid2 hr2
            have HS1 := hid2 hs1
            have HDRT := hid2 hdrT
            have HKT := hid2 kT
            have HBXT := hid2 hbxT
            have HSZT := hid2 hszT
            have yT : w10.cell? ⟨G, 2, none⟩ = some (.string nm) := kT.cells 2
            clear hriT hlT hlen hrv hr1 hr2 hs1 hdrT kT hbxT hszT hNT 
            go_wp2_with (first
              | (go_at_call 18; refine (HR1.out _ HDRT.out).mono ?_; rintro e w7 ⟨rfl, hb7⟩; have hd7 := HDRT.out.later hb7; have b7 := HBXT.out.below_all hb7; have k7 := HKT.out.below_all hb7; have y7 : w7.cell? ⟨G, 2, none⟩ = some (.string nm) := k7.cells 2; have x70 : w7.cell? ⟨q4, 0, none⟩ = some (.slice A2 NT c2) := b7.cells 0; have x71 : w7.cell? ⟨q4, 1, none⟩ = some (.int .i64 l1) := b7.cells 1; have HD7 := hid2 hd7; have HB7 := hid2 b7; clear hb7 hd7 b7 k7)
              | (go_at_call 29; refine (HR2.out _ HD7.out).mono ?_; rintro e w8 ⟨rfl, hb8⟩; have hd8 := HD7.out.later hb8; have b8 := HB7.out.below_all hb8; have x80 : w8.cell? ⟨q4, 0, none⟩ = some (.slice A2 NT c2) := b8.cells 0; have x81 : w8.cell? ⟨q4, 1, none⟩ = some (.int .i64 l1) := b8.cells 1; have HD8 := hid2 hd8; clear hb8 hd8 b8)
              | (go_at_call 28; refine (HS1.out _ HD8.out).mono ?_; rintro e w9 ⟨rfl, hb9⟩; have HD9 := hid2 (HD8.out.later hb9); clear hb9))
            go_roundg (gk - 1)
            case rel => exact ⟨k + 1, p, b, n + 1, M1, l1, A2, c2, by omega, by go_num, rfl, HD9.out, hnT, by rw [← HW1.out]; exact HSZT.out, hlA⟩
            case measure => omega
      · have hdrT := HDR1.out
        have kT := K3.out
        have hszT := HSZA.out
        have hnT : n + 1 ≤ k + 1 := by omega
        go_upto_region 21 with (fail)
        have hriT : Rises M1 := MapIs.rises hdrT.side.disk.2 (string_keyed Try.underlying9)
        have hlT : M1.length ≤ 1000000 := by have := hdrT.side.disk.2.length_le; omega
        have hlen : ∀ x ∈ M1, x.1.length ≤ 1000000000 := fun x hx => by have := (hszT x hx).1; omega
        obtain ⟨NT, hNT⟩ : ∃ NT, NT = M1.length := ⟨_, rfl⟩
        obtain ⟨RS, RE, hrv⟩ := readV_tuple M1 nm.data.toList
        have hr1 := fun (W : World) (h : DR w q4 p b (n + 1) M1 l1 A2 c2 W) => read_at W p b (n + 1) M1 l1 h.side.disk nm rfl hnm3 hrv
        have hr2 := fun (W : World) (h : DR w q4 p b (n + 1) M1 l1 A2 c2 W) => read07m_any W A2 c2 M1 l1 h.side.row (by omega) hriT nm
        have hs1 := fun (W : World) (h : DR w q4 p b (n + 1) M1 l1 A2 c2 W) => same07_any W p b (n + 1) M1 l1 l1 h.side.disk (by omega) A2 c2 h.side.row hlT hlen
        rw [hrv] at hr2
        rw [← hNT] at hr2 hs1
        have hbxT := hdrT.box
        rw [← hNT] at hbxT
        have HR1 := hid2 hr1
        have HR2 := hid2 hr2
        have HS1 := hid2 hs1
        have HDRT := hid2 hdrT
        have HKT := hid2 kT
        have HBXT := hid2 hbxT
        have HSZT := hid2 hszT
        have yT : Wb.cell? ⟨G, 2, none⟩ = some (.string nm) := kT.cells 2
        clear hriT hlT hlen hrv hr1 hr2 hs1 hdrT kT hbxT hszT hNT 
        go_wp2_with (first
          | (go_at_call 18; refine (HR1.out _ HDRT.out).mono ?_; rintro e w7 ⟨rfl, hb7⟩; have hd7 := HDRT.out.later hb7; have b7 := HBXT.out.below_all hb7; have k7 := HKT.out.below_all hb7; have y7 : w7.cell? ⟨G, 2, none⟩ = some (.string nm) := k7.cells 2; have x70 : w7.cell? ⟨q4, 0, none⟩ = some (.slice A2 NT c2) := b7.cells 0; have x71 : w7.cell? ⟨q4, 1, none⟩ = some (.int .i64 l1) := b7.cells 1; have HD7 := hid2 hd7; have HB7 := hid2 b7; clear hb7 hd7 b7 k7)
          | (go_at_call 29; refine (HR2.out _ HD7.out).mono ?_; rintro e w8 ⟨rfl, hb8⟩; have hd8 := HD7.out.later hb8; have b8 := HB7.out.below_all hb8; have x80 : w8.cell? ⟨q4, 0, none⟩ = some (.slice A2 NT c2) := b8.cells 0; have x81 : w8.cell? ⟨q4, 1, none⟩ = some (.int .i64 l1) := b8.cells 1; have HD8 := hid2 hd8; clear hb8 hd8 b8)
          | (go_at_call 28; refine (HS1.out _ HD8.out).mono ?_; rintro e w9 ⟨rfl, hb9⟩; have HD9 := hid2 (HD8.out.later hb9); clear hb9))
        go_roundg (gk - 1)
        case rel => exact ⟨k + 1, p, b, n + 1, M1, l1, A2, c2, by omega, by go_num, rfl, HD9.out, hnT, by rw [← HW1.out]; exact HSZT.out, hlA⟩
        case measure => omega
    · have hkN : k = N := by omega
      have hlt' : ¬ (k : Int) < N := by omega
      have HINV := hid2 hinv
      clear hinv hsz hkN hlt
      go_wp2_with fail
      go_ret
      exact ⟨rfl, HINV.out.below⟩
end Go.Proofs.Ytbighckpogfcaaa
