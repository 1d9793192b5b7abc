/- The reference's Append, Sync, Rename, Remove at any list of files. -/
import Derived.Test.YtbighckpogfcaaaRefd8
import Derived.Test.YtbighckpogfcaaaDruns1
import Derived.Test.YtbighckpogfcaaaBox
import Derived.Deep.RegionHeld3
namespace Go.Proofs.Ytbighckpogfcaaa
open Go.RowKit Go.Maps
/-- what pass leaves of two lists -/
def PassIs (B : Option Addr) (n2 c2 : Nat) (left : Int) (A : Option Addr) (n c : Nat) (pa : Option Addr) (pn pc : Nat) (pl pe : Int) : Prop :=
  (left = 0 ∧ pa = B ∧ pn = n2 ∧ pc = c2 ∧ pl = left ∧ pe = 18) ∨ (left ≠ 0 ∧ pa = A ∧ pn = n ∧ pc = c ∧ pl = (if 0 < left then left - 1 else left) ∧ pe = 0)
theorem pass07v_any (w : World) (B : Option Addr) (n2 c2 : Nat) (left : Int) (hle : -1 ≤ left ∧ left ≤ 9223372036854775807) (A : Option Addr) (n c : Nat) :
    Calls Try.prog 87 #[.agg #[.slice B n2 c2, .int .i64 left], .slice A n c] w fun e w' => ∃ pa pn pc pl pe, e = .returned (.tuple #[.agg #[.slice pa pn pc, .int .i64 pl], .int .i64 pe]) ∧ PassIs B n2 c2 left A n c pa pn pc pl pe ∧ Below w.heap.size w w' :=
  (pass07m_any w B n2 c2 left hle A n c).mono fun e w' ⟨h, hb⟩ => by
    by_cases h0 : left = 0
    · rw [if_pos h0] at h; exact ⟨B, n2, c2, left, 18, h, .inl ⟨h0, rfl, rfl, rfl, rfl, rfl⟩, hb⟩
    · rw [if_neg h0] at h; exact ⟨A, n, c, _, 0, h, .inr ⟨h0, rfl, rfl, rfl, rfl, rfl⟩, hb⟩
/-- what the reference's writing calls answer -/
def RPost (w : World) (A : Option Addr) (M' : Tab FileE) (left' err : Int) (e : Ending) (w' : World) : Prop :=
  ∃ A' c', e = .returned (.tuple #[.agg #[.slice A' M'.length c', .int .i64 left'], .int .i64 err]) ∧ Rd w' 3 A' M'.length (rfsV M') ∧ Below w.heap.size w w' ∧ ∀ q, blockOf A' = some q → blockOf A = some q ∨ w.heap.size ≤ q ∧ q < w'.heap.size
theorem pass_post {w F : World} {M L1 M' : Tab FileE} {A A4 pa : Option Addr} {N c n1 c4 pn pc : Nat} {left pl pe left' err : Int} (hP : PassIs A N c left A4 n1 c4 pa pn pc pl pe) (hN : N = M.length) (hn1 : n1 = L1.length)
    (hr : Rd w 3 A M.length (rfsV M)) {B0 : Nat} (ho : Own F B0 108 3 A4 n1 c4 (rfsV L1)) (hB0 : w.heap.size ≤ B0) (hb : Below w.heap.size w F) (hM : M' = if left = 0 then M else L1) (hl : left' = if 0 < left then left - 1 else left) (he : err = if left = 0 then 18 else 0) :
    RPost w A M' left' err (.returned (.tuple #[.agg #[.slice pa pn pc, .int .i64 pl], .int .i64 pe])) F := by
  rcases hP with ⟨h0, rfl, rfl, rfl, rfl, rfl⟩ | ⟨h0, rfl, rfl, rfl, rfl, rfl⟩
  · rw [if_pos h0] at hM he
    rw [if_neg (by omega)] at hl
    subst hM he hl hN
    exact ⟨pa, pc, rfl, hr.below_all hb, hb, fun _ h => .inl h⟩
  · rw [if_neg h0] at hM he
    subst hM he hl hn1
    exact ⟨pa, pc, rfl, ho.rd, hb, fun q hq => .inr ⟨Nat.le_trans hB0 (ho.block q hq).1, (ho.block q hq).2.1⟩⟩
theorem ends_post {w F : World} {M : Tab FileE} {A : Option Addr} {N c : Nat} {left err : Int} (hN : N = M.length) (hr : Rd w 3 A M.length (rfsV M)) (hb : Below w.heap.size w F) {M' : Tab FileE} {left' err' : Int} (hM : M' = M) (hl : left' = left) (he : err' = err) :
    RPost w A M' left' err' (.returned (.tuple #[.agg #[.slice A N c, .int .i64 left], .int .i64 err])) F := by
  subst hM hl he hN
  exact ⟨A, c, rfl, hr.below_all hb, hb, fun _ h => .inl h⟩
theorem begin_none {M : Tab FileE} {left : Int} {there : Bool} {ns : List ByteArray} {k : List UInt8} (h : ns.any (fun s => s.data.toList.isEmpty) = true) : beginE M left there ns k = 1 := by
  unfold beginE
  rw [if_pos h]
theorem begin_ten {M : Tab FileE} {left : Int} {ns : List ByteArray} {k : List UInt8} (h : ns.any (fun s => s.data.toList.isEmpty) = false) (hg : getM M k = none) : beginE M left true ns k = 10 := by
  unfold beginE
  rw [if_neg (by rw [h]; decide), if_pos (by rw [hg]; rfl)]
theorem begin_goes {M : Tab FileE} {left : Int} {there : Bool} {ns : List ByteArray} {k : List UInt8} (h : ns.any (fun s => s.data.toList.isEmpty) = false) (hg : there = true → getM M k ≠ none) : beginE M left there ns k = if left = 0 then 18 else 0 := by
  unfold beginE
  rw [if_neg (by rw [h]; decide), if_neg]
  intro hh
  rw [Bool.and_eq_true] at hh
  exact hg hh.1 (by simpa using hh.2)
theorem beginL_same {M : Tab FileE} {left : Int} {there : Bool} {ns : List ByteArray} {k : List UInt8} {E : Int} (h : beginE M left there ns k = E) (hE : E ≠ 0) : beginL M left there ns k = left := by
  unfold beginL
  rw [if_neg (fun hh => hE (by rw [← h]; exact hh.1))]
theorem beginL_goes {M : Tab FileE} {left : Int} {there : Bool} {ns : List ByteArray} {k : List UInt8} (h : beginE M left there ns k = if left = 0 then 18 else 0) : beginL M left there ns k = if 0 < left then left - 1 else left := by
  unfold beginL
  rw [h]
  by_cases h0 : left = 0
  · rw [if_pos h0, if_neg (by omega), if_neg (by omega)]
  · rw [if_neg h0]
    by_cases h1 : 0 < left
    · rw [if_pos ⟨rfl, h1⟩, if_pos h1]
    · rw [if_neg (fun h => h1 h.2), if_neg h1]
theorem any_one {k : List UInt8} : [strB k].any (fun s => s.data.toList.isEmpty) = k.isEmpty := by simp only [List.any_cons, List.any_nil, Bool.or_false, strB_list]
theorem any_two {k k2 : List UInt8} : [strB k, strB k2].any (fun s => s.data.toList.isEmpty) = (k.isEmpty || k2.isEmpty) := by simp only [List.any_cons, List.any_nil, Bool.or_false, strB_list]
theorem file_of_get {M : Tab FileE} {k : List UInt8} {f : FileE} (h : getM M k = some f) : fileOf M k = f := by unfold fileOf; rw [h]; rfl
theorem file_of_no {M : Tab FileE} {k : List UInt8} (h : getM M k = none) : fileOf M k = ([], 0) := by unfold fileOf; rw [h]; rfl
set_option maxRecDepth 100000 in
set_option maxHeartbeats 4000000 in
theorem append07m_any (w : World) (A : Option Addr) (c : Nat) (M : Tab FileE) (left : Int) (hr : Rd w 3 A M.length (rfsV M)) (hl : M.length ≤ 1000000) (hri : Rises M) (hle : -1 ≤ left ∧ left ≤ 9223372036854775807) (s d : ByteArray) (hd : d.size ≤ 1000000000) (hf : (fileOf M s.data.toList).1.length ≤ 1000000000) :
    Calls Try.prog 57 #[.agg #[.slice A M.length c, .int .i64 left], .string s, .string d] w (RPost w A (appM M left s.data.toList d.data.toList) (beginL M left false [strB s.data.toList] s.data.toList) (beginE M left false [strB s.data.toList] s.data.toList)) := by
  obtain ⟨N, hN⟩ : ∃ N, N = M.length := ⟨_, rfl⟩
  have HR := hid2 hr
  have HN := hid2 hN
  by_cases h1 : s.toList.isEmpty = true
  · have h1s : s.data.toList.isEmpty = true := by rw [← ByteArray.toList_eq]; exact h1
    have hE : beginE M left false [strB s.data.toList] s.data.toList = 1 := begin_none (by rw [any_one, h1s])
    have hM : appM M left s.data.toList d.data.toList = M := by unfold appM; rw [if_neg (by rw [hE]; decide)]
    have hL := beginL_same hE (by decide)
    have HP := fun (F : World) (hb : Below w.heap.size w F) => ends_post (c := c) (left := left) (err := 1) hN hr hb hM hL hE
    have HPP := hid2 HP
    clear hE hM hL HP hN hr hri hle hl hd hf
    clear h1s
    rw [← HN.out]
    go_enter Try.func57, Try.ntmps57
    go_wp2_with fail
    refine bodyPost_ret (v := .tuple #[.agg #[.slice A N c, .int .i64 left], .int .i64 1]) (by simp [results, Try.results57, go_sem]) rfl ?_
    exact HPP.out _ (((Below.refl _ _).alloc (Nat.le_refl _) _).alloc (by simp) _)
  have h2 : s.toList.isEmpty = false := by simpa using h1
  have h2s : s.data.toList.isEmpty = false := by rw [← ByteArray.toList_eq]; exact h2
  have hany : [strB s.data.toList].any (fun s => s.data.toList.isEmpty) = false := by rw [any_one, h2s]
  clear h1 h2s
  obtain ⟨g, hg⟩ : ∃ g, g = w.heap.size := ⟨_, rfl⟩
  obtain ⟨W3, hW3⟩ : ∃ W3, W3 = (((w.alloc (.cells #[.slice A N c, .int .i64 left] 46)).alloc (.cells #[.slice none 0 0, .int .i64 0] 46)).alloc (.cells #[.string s, .string ⟨#[]⟩, .int .i64 0] 108)) := ⟨_, rfl⟩
  have z3 : W3.heap.size = g + 3 := by rw [hW3, hg]; simp
  have b0 : Box W3 (g) [.slice A N c, .int .i64 left] := by rw [hW3]; exact (((Box.new' _ _ _ (by simp [hg])).alloc _).alloc _)
  have b1 : Box W3 (g + 1) [.slice none 0 0, .int .i64 0] := by rw [hW3]; exact ((Box.new' _ _ _ (by simp [hg])).alloc _)
  have b2 : Box W3 (g + 1 + 1) [.string s, .string ⟨#[]⟩, .int .i64 0] := by rw [hW3]; exact (Box.new' _ _ _ (by simp [hg]))
  have hbW : Below g w W3 := by rw [hW3, hg]; exact ((((Below.refl _ _).alloc (by simp) _).alloc (by simp) _).alloc (by simp; omega) _)
  have HW3 := hid2 hW3
  have HG := hid2 hg
  obtain ⟨v, hv⟩ := AtIs.ex M s.data.toList
  have hat := fun (W : World) (hb : Below w.heap.size w W) => at07v_any W A c M left (hr.below_all hb) (by omega) hri s hv
  rw [← hN] at hat
  have HAT := hid2 hat
  clear hat hW3
  have hv0 := hv
  rcases hv0 with ⟨i, x, hi, hx, rfl⟩ | ⟨rfl, hno⟩
  · have hget : getM M s.data.toList = some x.2 := by rw [← hx]; exact getM_at hri hi
    have hE := begin_goes (left := left) (there := false) hany (M := M) (k := s.data.toList) (fun h => by cases h)
    have hL := beginL_goes hE
    have hM : appM M left s.data.toList d.data.toList = if left = 0 then M else putM M s.data.toList ((fileOf M s.data.toList).1 ++ d.data.toList, (fileOf M s.data.toList).2) := by
      unfold appM
      rw [hE]
      by_cases h0 : left = 0
      · rw [if_pos h0, if_pos h0, if_neg (by decide)]
      · rw [if_neg h0, if_neg h0, if_pos rfl]
    obtain ⟨L1, hL1⟩ : ∃ L1, L1 = putM M s.data.toList ((fileOf M s.data.toList).1 ++ d.data.toList, (fileOf M s.data.toList).2) := ⟨_, rfl⟩
    obtain ⟨n1, hn1⟩ : ∃ n1, n1 = L1.length := ⟨_, rfl⟩
    rw [← hL1] at hM
    have hpp := fun (F : World) (hb : Below w.heap.size w F) (A4 pa : Option Addr) (c4 pn pc : Nat) (pl pe : Int) (hP : PassIs A N c left A4 n1 c4 pa pn pc pl pe) (B0 : Nat) (ho : Own F B0 108 3 A4 n1 c4 (rfsV L1)) (hB0 : w.heap.size ≤ B0) => pass_post (L1 := L1) hP hN hn1 hr ho hB0 hb hM hL hE
    rw [← hg] at hpp
    have HPP := hid2 hpp
    obtain ⟨X, hX⟩ : ∃ X, X = strB ((fileOf M s.data.toList).1 ++ d.data.toList) := ⟨_, rfl⟩
    obtain ⟨U, hU⟩ : ∃ U : Nat, U = (fileOf M s.data.toList).2 := ⟨_, rfl⟩
    have hwith := fun (W : World) (hb : Below g w W) => with07m_any W A c M left (hr.below_all (by rw [← hg]; exact hb)) (by omega) hri s X U
    rw [show putM M s.data.toList (X.data.toList, U) = L1 by rw [hL1, hX, hU, strB_list], ← hn1, ← hN] at hwith
    have HWITH := hid2 hwith
    have hiN : i < N := by rw [hN]; exact (List.getElem?_eq_some_iff.1 hi).1
    have hiN2 : (i : Int) < N := by omega
    have hi0 : ¬ (i : Int) < 0 := by omega
    have hi1 : (0 : Int) ≤ i := by omega
    obtain ⟨S0, hS0⟩ : ∃ S0, S0 = strB x.1 := ⟨_, rfl⟩
    obtain ⟨T, hT⟩ : ∃ T, T = strB x.2.1 := ⟨_, rfl⟩
    obtain ⟨U0, hU0⟩ : ∃ U0 : Nat, U0 = x.2.2 := ⟨_, rfl⟩
    have hS0s : S0 = s := by rw [hS0, hx, strB_of]
    subst hS0s
    obtain ⟨b, o, rfl, _⟩ := rf_cells hr hi
    have hcell := fun (w2 : World) (hb : Below g w w2) => show w2.cell? ⟨b, o + i * 3, none⟩ = some (.string S0) ∧ w2.cell? ⟨b, o + i * 3 + 1, none⟩ = some (.string T) ∧ w2.cell? ⟨b, o + i * 3 + 2, none⟩ = some (.int .i64 U0) ∧ b < g by
      obtain ⟨b2, o2, e, q0, q1, q2⟩ := rf_cells (hr.below_all (by rw [← hg]; exact hb)) hi
      obtain ⟨rfl, rfl⟩ : b = b2 ∧ o = o2 := by simpa using e
      rw [hS0, hT, hU0]
      refine ⟨q0, q1, q2, ?_⟩
      obtain ⟨b3, o3, e3, q3, _, _⟩ := rf_cells hr hi
      obtain ⟨rfl, rfl⟩ : b = b3 ∧ o = o3 := by simpa using e3
      rw [hg]
      exact World.block_lt_of_cell? w _ q3
    have HCELL := hid2 hcell
    have hX2 : T ++ d = X := by rw [hX, hT, file_of_get hget, ← strB_append, strB_of]
    have hU2 : U0 = U := by rw [hU, file_of_get hget, hU0]
    subst hU2
    have hTs : T.size ≤ 1000000000 := by rw [hT, strB_size]; rw [file_of_get hget] at hf; exact hf
    have hadd : ¬ (T.size + d.size > 9223372036854775807) := by omega
    have hpass := fun (W : World) (A4 : Option Addr) (c4 : Nat) => pass07v_any W (some ⟨b, o, none⟩) N c left hle A4 n1 c4
    have HPASS := hid2 hpass
    have HX2 := hid2 hX2
    clear hE hL hM hL1 hn1 hpp hpass hr hri hle hl hN hg hget hany hv hwith hX hU hi hx hS0 hT hU0 hcell hX2 hf
    rw [HN.out.symm]
    go_enter Try.func57, Try.ntmps57
    go_wp2_with (go_at_call 64; rw [← HW3.out, ← HG.out]; refine (HAT.out _ (by rw [← HG.out]; exact hbW)).mono ?_; rintro e w2 ⟨rfl, hb2⟩; have k0 := b0.below_all hb2; have k1 := b1.below_all hb2; have k2 := b2.below_all hb2; have hbw2 := hbW.trans (hb2.mono (show g ≤ W3.heap.size by omega)); have hz2 := hb2.size; rw [z3] at hz2; have c0 : w2.cell? ⟨g, 0, none⟩ = some (.slice (some ⟨b, o, none⟩) N c) := k0.cells 0; have c1 : w2.cell? ⟨g, 1, none⟩ = some (.int .i64 left) := k0.cells 1; have c4 : w2.cell? ⟨g + 1 + 1, 0, none⟩ = some (.string S0) := k2.cells 0; have c5 : w2.cell? ⟨g + 1 + 1, 1, none⟩ = some (.string ⟨#[]⟩) := k2.cells 1; have c6 : w2.cell? ⟨g + 1 + 1, 2, none⟩ = some (.int .i64 0) := k2.cells 2; have zf0 : w2.frozen? ⟨g + 1 + 1, 0, none⟩ = false := k2.free 0; have zf1 : w2.frozen? ⟨g + 1 + 1, 1, none⟩ = false := k2.free 1; have zf2 : w2.frozen? ⟨g + 1 + 1, 2, none⟩ = false := k2.free 2; obtain ⟨q0, q1, q2, hbg⟩ := HCELL.out w2 hbw2; have K0 := hid2 k0; have K1 := hid2 k1; have K2 := hid2 k2; clear b0 b1 k0 k1 hb2 hbW b2 k2)
    rw [HX2.out]
    generalize hW : World.setCell _ _ _ = W
    have r2 : Box W (g + 1 + 1) [.string S0, .string X, .int .i64 U0] := by rw [← hW]; exact (((K2.out.set 0 _).set 1 _).set 2 _).set 1 _
    have r0 : Box W g [.slice (some ⟨b, o, none⟩) N c, .int .i64 left] := by rw [← hW]; exact (((K0.out.other (show _ ≠ g + 1 + 1 by omega) _).other (show _ ≠ g + 1 + 1 by omega) _).other (show _ ≠ g + 1 + 1 by omega) _).other (show _ ≠ g + 1 + 1 by omega) _
    have r1 : Box W (g + 1) [.slice none 0 0, .int .i64 0] := by rw [← hW]; exact (((K1.out.other (show _ ≠ g + 1 + 1 by omega) _).other (show _ ≠ g + 1 + 1 by omega) _).other (show _ ≠ g + 1 + 1 by omega) _).other (show _ ≠ g + 1 + 1 by omega) _
    have hbw : Below g w W := by rw [← hW]; exact (((hbw2.setCell (show g ≤ g + 1 + 1 by omega) _).setCell (show g ≤ g + 1 + 1 by omega) _).setCell (show g ≤ g + 1 + 1 by omega) _).setCell (show g ≤ g + 1 + 1 by omega) _
    have hzW : g + 3 ≤ W.heap.size := by rw [← hW]; simpa [World.setCell] using hz2
    clear hW c4 c5 c6 zf0 zf1 zf2 c0 c1 hbw2 hz2 q0 q1 q2
    have sr00 : W.cell? ⟨g, 0, none⟩ = some (.slice (some ⟨b, o, none⟩) N c) := r0.cells 0
    have sr01 : W.cell? ⟨g, 1, none⟩ = some (.int .i64 left) := r0.cells 1
    have sr20 : W.cell? ⟨g + 1 + 1, 0, none⟩ = some (.string S0) := r2.cells 0
    have sr21 : W.cell? ⟨g + 1 + 1, 1, none⟩ = some (.string X) := r2.cells 1
    have sr22 : W.cell? ⟨g + 1 + 1, 2, none⟩ = some (.int .i64 U0) := r2.cells 2
    have KS := hid2 (fun (w4 : World) (h : Below W.heap.size W w4) => show w4.cell? ⟨g, 0, none⟩ = some (.slice (some ⟨b, o, none⟩) N c) ∧ w4.cell? ⟨g, 1, none⟩ = some (.int .i64 left) ∧ w4.cell? ⟨g + 1 + 1, 0, none⟩ = some (.string S0) ∧ w4.cell? ⟨g + 1 + 1, 1, none⟩ = some (.string X) ∧ w4.cell? ⟨g + 1 + 1, 2, none⟩ = some (.int .i64 U0) from ⟨(r0.below_all h).cells 0, (r0.below_all h).cells 1, (r2.below_all h).cells 0, (r2.below_all h).cells 1, (r2.below_all h).cells 2⟩)
    have R1 := hid2 r1
    clear r0 r2 r1 K0 K1 K2
    go_region_held3 (fun w' => w'.cell? ⟨g, 0, none⟩ = some (.slice (some ⟨b, o, none⟩) N c) ∧ w'.cell? ⟨g, 1, none⟩ = some (.int .i64 left) ∧ w'.cell? ⟨g + 1 + 1, 0, none⟩ = some (.string S0) ∧ w'.cell? ⟨g + 1 + 1, 1, none⟩ = some (.string X) ∧ w'.cell? ⟨g + 1 + 1, 2, none⟩ = some (.int .i64 U0)) (first | exact KS.out _ hb5' | exact KS.out _ hb4' | exact KS.out _ hb3' | go_keep) (first
      | (go_at_call 88; refine (HWITH.out _ hbw.drew).mono ?_; rintro e w4 ⟨A4, c4, rfl, ho4, hb4⟩; have hb4' : Below W.heap.size W w4 := (Below.refl W.heap.size W).drew.trans hb4; have ho4' : Hid2 (Own w4 W.heap.size 108 3 A4 n1 c4 (rfsV L1)) := hid2 ho4; clear ho4 hb4)
      | (go_at_call 87; refine (HPASS.out _ A4 c4).mono ?_; rintro e w5 ⟨pa, pn, pc, pl, pe, rfl, hP, hb5⟩; have hb5' : Below W.heap.size W w5 := hb4'.trans (hb5.mono hb4'.size); have r5 := R1.out.below_all hb5'; have c10 : w5.cell? ⟨g + 1, 0, none⟩ = some (.slice none 0 0) := r5.cells 0; have c11 : w5.cell? ⟨g + 1, 1, none⟩ = some (.int .i64 0) := r5.cells 1; have z10 : w5.frozen? ⟨g + 1, 0, none⟩ = false := r5.free 0; have z11 : w5.frozen? ⟨g + 1, 1, none⟩ = false := r5.free 1; have ho5 := hid2 (ho4'.out.below hb5 (Nat.le_refl _)); have HP := hid2 hP; clear r5 hP hb5))
    go_wp2_with fail
    refine bodyPost_ret (v := .tuple #[.agg #[.slice pa pn pc, .int .i64 pl], .int .i64 pe]) (by simp [results, Try.results57, go_sem, c10, c11]) rfl ?_
    have hne : blockOf A4 ≠ some (g + 1) := fun e => by have := (ho5.out.block _ e).1; omega
    exact HPP.out _ ((hbw.trans (hb5'.mono (show g ≤ W.heap.size by omega))).setCell (show g ≤ g + 1 by omega) _ |>.setCell (show g ≤ g + 1 by omega) _) A4 pa c4 pn pc pl pe HP.out _ ((ho5.out.setOther (p := ⟨g + 1, 0, none⟩) hne _).setOther (p := ⟨g + 1, 1, none⟩) hne _) (show g ≤ W.heap.size by omega)
  · have hget := getM_no hno
    have hE := begin_goes (left := left) (there := false) hany (M := M) (k := s.data.toList) (fun h => by cases h)
    have hL := beginL_goes hE
    have hM : appM M left s.data.toList d.data.toList = if left = 0 then M else putM M s.data.toList ((fileOf M s.data.toList).1 ++ d.data.toList, (fileOf M s.data.toList).2) := by
      unfold appM
      rw [hE]
      by_cases h0 : left = 0
      · rw [if_pos h0, if_pos h0, if_neg (by decide)]
      · rw [if_neg h0, if_neg h0, if_pos rfl]
    obtain ⟨L1, hL1⟩ : ∃ L1, L1 = putM M s.data.toList ((fileOf M s.data.toList).1 ++ d.data.toList, (fileOf M s.data.toList).2) := ⟨_, rfl⟩
    obtain ⟨n1, hn1⟩ : ∃ n1, n1 = L1.length := ⟨_, rfl⟩
    rw [← hL1] at hM
    have hpp := fun (F : World) (hb : Below w.heap.size w F) (A4 pa : Option Addr) (c4 pn pc : Nat) (pl pe : Int) (hP : PassIs A N c left A4 n1 c4 pa pn pc pl pe) (B0 : Nat) (ho : Own F B0 108 3 A4 n1 c4 (rfsV L1)) (hB0 : w.heap.size ≤ B0) => pass_post (L1 := L1) hP hN hn1 hr ho hB0 hb hM hL hE
    rw [← hg] at hpp
    have HPP := hid2 hpp
    obtain ⟨X, hX⟩ : ∃ X, X = strB ((fileOf M s.data.toList).1 ++ d.data.toList) := ⟨_, rfl⟩
    obtain ⟨U, hU⟩ : ∃ U : Nat, U = (fileOf M s.data.toList).2 := ⟨_, rfl⟩
    have hwith := fun (W : World) (hb : Below g w W) => with07m_any W A c M left (hr.below_all (by rw [← hg]; exact hb)) (by omega) hri s X U
    rw [show putM M s.data.toList (X.data.toList, U) = L1 by rw [hL1, hX, hU, strB_list], ← hn1, ← hN] at hwith
    have HWITH := hid2 hwith
    have hX2 : (⟨#[]⟩ : ByteArray) ++ d = X := by rw [hX, file_of_no hget, ← strB_append, strB_of]; rfl
    have hU2 : 0 = U := by rw [hU, file_of_no hget]
    subst hU2
    have hadd : ¬ ((0 : Nat) + d.size > 9223372036854775807) := by omega
    have hpass := fun (W : World) (A4 : Option Addr) (c4 : Nat) => pass07v_any W A N c left hle A4 n1 c4
    have HPASS := hid2 hpass
    have HX2 := hid2 hX2
    clear hE hL hM hL1 hn1 hpp hpass hr hri hle hl hN hg hget hany hv hwith hX hU hX2 hf hno
    rw [HN.out.symm]
    go_enter Try.func57, Try.ntmps57
    go_wp2_with (go_at_call 64; rw [← HW3.out, ← HG.out]; refine (HAT.out _ (by rw [← HG.out]; exact hbW)).mono ?_; rintro e w2 ⟨rfl, hb2⟩; have k0 := b0.below_all hb2; have k1 := b1.below_all hb2; have k2 := b2.below_all hb2; have hbw2 := hbW.trans (hb2.mono (show g ≤ W3.heap.size by omega)); have hz2 := hb2.size; rw [z3] at hz2; have c0 : w2.cell? ⟨g, 0, none⟩ = some (.slice A N c) := k0.cells 0; have c1 : w2.cell? ⟨g, 1, none⟩ = some (.int .i64 left) := k0.cells 1; have c4 : w2.cell? ⟨g + 1 + 1, 0, none⟩ = some (.string s) := k2.cells 0; have c5 : w2.cell? ⟨g + 1 + 1, 1, none⟩ = some (.string ⟨#[]⟩) := k2.cells 1; have c6 : w2.cell? ⟨g + 1 + 1, 2, none⟩ = some (.int .i64 0) := k2.cells 2; have zf0 : w2.frozen? ⟨g + 1 + 1, 0, none⟩ = false := k2.free 0; have zf1 : w2.frozen? ⟨g + 1 + 1, 1, none⟩ = false := k2.free 1; have zf2 : w2.frozen? ⟨g + 1 + 1, 2, none⟩ = false := k2.free 2; have K0 := hid2 k0; have K1 := hid2 k1; have K2 := hid2 k2; clear b0 b1 k0 k1 hb2 hbW b2 k2)
    rw [HX2.out]
    generalize hW : World.setCell _ _ _ = W
    have r2 : Box W (g + 1 + 1) [.string s, .string X, .int .i64 0] := by rw [← hW]; exact K2.out.set 1 _
    have r0 : Box W g [.slice A N c, .int .i64 left] := by rw [← hW]; exact K0.out.other (show _ ≠ g + 1 + 1 by omega) _
    have r1 : Box W (g + 1) [.slice none 0 0, .int .i64 0] := by rw [← hW]; exact K1.out.other (show _ ≠ g + 1 + 1 by omega) _
    have hbw : Below g w W := by rw [← hW]; exact hbw2.setCell (show g ≤ g + 1 + 1 by omega) _
    have hzW : g + 3 ≤ W.heap.size := by rw [← hW]; simpa [World.setCell] using hz2
    clear hW c4 c5 c6 zf0 zf1 zf2 c0 c1 hbw2 hz2
    have sr00 : W.cell? ⟨g, 0, none⟩ = some (.slice A N c) := r0.cells 0
    have sr01 : W.cell? ⟨g, 1, none⟩ = some (.int .i64 left) := r0.cells 1
    have sr20 : W.cell? ⟨g + 1 + 1, 0, none⟩ = some (.string s) := r2.cells 0
    have sr21 : W.cell? ⟨g + 1 + 1, 1, none⟩ = some (.string X) := r2.cells 1
    have sr22 : W.cell? ⟨g + 1 + 1, 2, none⟩ = some (.int .i64 0) := r2.cells 2
    have KS := hid2 (fun (w4 : World) (h : Below W.heap.size W w4) => show w4.cell? ⟨g, 0, none⟩ = some (.slice A N c) ∧ w4.cell? ⟨g, 1, none⟩ = some (.int .i64 left) ∧ w4.cell? ⟨g + 1 + 1, 0, none⟩ = some (.string s) ∧ w4.cell? ⟨g + 1 + 1, 1, none⟩ = some (.string X) ∧ w4.cell? ⟨g + 1 + 1, 2, none⟩ = some (.int .i64 0) from ⟨(r0.below_all h).cells 0, (r0.below_all h).cells 1, (r2.below_all h).cells 0, (r2.below_all h).cells 1, (r2.below_all h).cells 2⟩)
    have R1 := hid2 r1
    clear r0 r2 r1 K0 K1 K2
    go_region_held3 (fun w' => w'.cell? ⟨g, 0, none⟩ = some (.slice A N c) ∧ w'.cell? ⟨g, 1, none⟩ = some (.int .i64 left) ∧ w'.cell? ⟨g + 1 + 1, 0, none⟩ = some (.string s) ∧ w'.cell? ⟨g + 1 + 1, 1, none⟩ = some (.string X) ∧ w'.cell? ⟨g + 1 + 1, 2, none⟩ = some (.int .i64 0)) (first | exact KS.out _ hb5' | exact KS.out _ hb4' | exact KS.out _ hb3' | go_keep) (first
      | (go_at_call 88; refine (HWITH.out _ hbw.drew).mono ?_; rintro e w4 ⟨A4, c4, rfl, ho4, hb4⟩; have hb4' : Below W.heap.size W w4 := (Below.refl W.heap.size W).drew.trans hb4; have ho4' : Hid2 (Own w4 W.heap.size 108 3 A4 n1 c4 (rfsV L1)) := hid2 ho4; clear ho4 hb4)
      | (go_at_call 87; refine (HPASS.out _ A4 c4).mono ?_; rintro e w5 ⟨pa, pn, pc, pl, pe, rfl, hP, hb5⟩; have hb5' : Below W.heap.size W w5 := hb4'.trans (hb5.mono hb4'.size); have r5 := R1.out.below_all hb5'; have c10 : w5.cell? ⟨g + 1, 0, none⟩ = some (.slice none 0 0) := r5.cells 0; have c11 : w5.cell? ⟨g + 1, 1, none⟩ = some (.int .i64 0) := r5.cells 1; have z10 : w5.frozen? ⟨g + 1, 0, none⟩ = false := r5.free 0; have z11 : w5.frozen? ⟨g + 1, 1, none⟩ = false := r5.free 1; have ho5 := hid2 (ho4'.out.below hb5 (Nat.le_refl _)); have HP := hid2 hP; clear r5 hP hb5))
    go_wp2_with fail
    refine bodyPost_ret (v := .tuple #[.agg #[.slice pa pn pc, .int .i64 pl], .int .i64 pe]) (by simp [results, Try.results57, go_sem, c10, c11]) rfl ?_
    have hne : blockOf A4 ≠ some (g + 1) := fun e => by have := (ho5.out.block _ e).1; omega
    exact HPP.out _ ((hbw.trans (hb5'.mono (show g ≤ W.heap.size by omega))).setCell (show g ≤ g + 1 by omega) _ |>.setCell (show g ≤ g + 1 by omega) _) A4 pa c4 pn pc pl pe HP.out _ ((ho5.out.setOther (p := ⟨g + 1, 0, none⟩) hne _).setOther (p := ⟨g + 1, 1, none⟩) hne _) (show g ≤ W.heap.size by omega)
set_option maxRecDepth 100000 in
set_option maxHeartbeats 4000000 in
theorem sync07m_any (w : World) (A : Option Addr) (c : Nat) (M : Tab FileE) (left : Int) (hr : Rd w 3 A M.length (rfsV M)) (hl : M.length ≤ 1000000) (hri : Rises M) (hle : -1 ≤ left ∧ left ≤ 9223372036854775807) (s : ByteArray) (hf : (fileOf M s.data.toList).1.length ≤ 1000000000) :
    Calls Try.prog 58 #[.agg #[.slice A M.length c, .int .i64 left], .string s] w (RPost w A (syncM M left s.data.toList) (beginL M left true [strB s.data.toList] s.data.toList) (beginE M left true [strB s.data.toList] s.data.toList)) := by
  obtain ⟨N, hN⟩ : ∃ N, N = M.length := ⟨_, rfl⟩
  have HR := hid2 hr
  have HN := hid2 hN
  by_cases h1 : s.toList.isEmpty = true
  · have h1s : s.data.toList.isEmpty = true := by rw [← ByteArray.toList_eq]; exact h1
    have hE : beginE M left true [strB s.data.toList] s.data.toList = 1 := begin_none (by rw [any_one, h1s])
    have hM : syncM M left s.data.toList = M := by unfold syncM; rw [if_neg (by rw [hE]; decide)]
    have hL := beginL_same hE (by decide)
    have HP := fun (F : World) (hb : Below w.heap.size w F) => ends_post (c := c) (left := left) (err := 1) hN hr hb hM hL hE
    have HPP := hid2 HP
    clear hE hM hL HP hN hr hri hle hl hf
    clear h1s
    rw [← HN.out]
    go_enter Try.func58, Try.ntmps58
    go_wp2_with fail
    refine bodyPost_ret (v := .tuple #[.agg #[.slice A N c, .int .i64 left], .int .i64 1]) (by simp [results, Try.results58, go_sem]) rfl ?_
    exact HPP.out _ (((Below.refl _ _).alloc (Nat.le_refl _) _).alloc (by simp) _)
  have h2 : s.toList.isEmpty = false := by simpa using h1
  have h2s : s.data.toList.isEmpty = false := by rw [← ByteArray.toList_eq]; exact h2
  have hany : [strB s.data.toList].any (fun s => s.data.toList.isEmpty) = false := by rw [any_one, h2s]
  clear h1 h2s
  obtain ⟨g, hg⟩ : ∃ g, g = w.heap.size := ⟨_, rfl⟩
  obtain ⟨W3, hW3⟩ : ∃ W3, W3 = ((w.alloc (.cells #[.slice A N c, .int .i64 left] 46)).alloc (.cells #[.slice none 0 0, .int .i64 0] 46)) := ⟨_, rfl⟩
  have z3 : W3.heap.size = g + 2 := by rw [hW3, hg]; simp
  have b0 : Box W3 (g) [.slice A N c, .int .i64 left] := by rw [hW3]; exact ((Box.new' _ _ _ (by simp [hg])).alloc _)
  have b1 : Box W3 (g + 1) [.slice none 0 0, .int .i64 0] := by rw [hW3]; exact (Box.new' _ _ _ (by simp [hg]))
  have hbW : Below g w W3 := by rw [hW3, hg]; exact (((Below.refl _ _).alloc (by simp) _).alloc (by simp) _)
  have HW3 := hid2 hW3
  have HG := hid2 hg
  obtain ⟨v, hv⟩ := AtIs.ex M s.data.toList
  have hat := fun (W : World) (hb : Below w.heap.size w W) => at07v_any W A c M left (hr.below_all hb) (by omega) hri s hv
  rw [← hN] at hat
  have HAT := hid2 hat
  clear hat hW3
  have hv0 := hv
  rcases hv0 with ⟨i, x, hi, hx, rfl⟩ | ⟨rfl, hno⟩
  · have hget : getM M s.data.toList = some x.2 := by rw [← hx]; exact getM_at hri hi
    have hE := begin_goes (left := left) (there := true) hany (M := M) (k := s.data.toList) (fun _ h => by rw [hget] at h; cases h)
    have hL := beginL_goes hE
    have hM : syncM M left s.data.toList = if left = 0 then M else putM M s.data.toList ((fileOf M s.data.toList).1, (fileOf M s.data.toList).1.length) := by
      unfold syncM
      rw [hE]
      by_cases h0 : left = 0
      · rw [if_pos h0, if_pos h0, if_neg (by decide)]
      · rw [if_neg h0, if_neg h0, if_pos rfl]
    obtain ⟨L1, hL1⟩ : ∃ L1, L1 = putM M s.data.toList ((fileOf M s.data.toList).1, (fileOf M s.data.toList).1.length) := ⟨_, rfl⟩
    obtain ⟨n1, hn1⟩ : ∃ n1, n1 = L1.length := ⟨_, rfl⟩
    rw [← hL1] at hM
    have hpp := fun (F : World) (hb : Below w.heap.size w F) (A4 pa : Option Addr) (c4 pn pc : Nat) (pl pe : Int) (hP : PassIs A N c left A4 n1 c4 pa pn pc pl pe) (B0 : Nat) (ho : Own F B0 108 3 A4 n1 c4 (rfsV L1)) (hB0 : w.heap.size ≤ B0) => pass_post (L1 := L1) hP hN hn1 hr ho hB0 hb hM hL hE
    rw [← hg] at hpp
    have HPP := hid2 hpp
    obtain ⟨X, hX⟩ : ∃ X, X = strB (fileOf M s.data.toList).1 := ⟨_, rfl⟩
    obtain ⟨U, hU⟩ : ∃ U : Nat, U = (fileOf M s.data.toList).1.length := ⟨_, rfl⟩
    have hwith := fun (W : World) (hb : Below g w W) => with07m_any W A c M left (hr.below_all (by rw [← hg]; exact hb)) (by omega) hri s X U
    rw [show putM M s.data.toList (X.data.toList, U) = L1 by rw [hL1, hX, hU, strB_list], ← hn1, ← hN] at hwith
    have HWITH := hid2 hwith
    have hiN : i < N := by rw [hN]; exact (List.getElem?_eq_some_iff.1 hi).1
    have hiN2 : (i : Int) < N := by omega
    have hi0 : ¬ (i : Int) < 0 := by omega
    have hi1 : (0 : Int) ≤ i := by omega
    obtain ⟨S0, hS0⟩ : ∃ S0, S0 = strB x.1 := ⟨_, rfl⟩
    obtain ⟨T, hT⟩ : ∃ T, T = strB x.2.1 := ⟨_, rfl⟩
    obtain ⟨U0, hU0⟩ : ∃ U0 : Nat, U0 = x.2.2 := ⟨_, rfl⟩
    have hS0s : S0 = s := by rw [hS0, hx, strB_of]
    subst hS0s
    obtain ⟨b, o, rfl, _⟩ := rf_cells hr hi
    have hcell := fun (w2 : World) (hb : Below g w w2) => show w2.cell? ⟨b, o + i * 3, none⟩ = some (.string S0) ∧ w2.cell? ⟨b, o + i * 3 + 1, none⟩ = some (.string T) ∧ w2.cell? ⟨b, o + i * 3 + 2, none⟩ = some (.int .i64 U0) ∧ b < g by
      obtain ⟨b2, o2, e, q0, q1, q2⟩ := rf_cells (hr.below_all (by rw [← hg]; exact hb)) hi
      obtain ⟨rfl, rfl⟩ : b = b2 ∧ o = o2 := by simpa using e
      rw [hS0, hT, hU0]
      refine ⟨q0, q1, q2, ?_⟩
      obtain ⟨b3, o3, e3, q3, _, _⟩ := rf_cells hr hi
      obtain ⟨rfl, rfl⟩ : b = b3 ∧ o = o3 := by simpa using e3
      rw [hg]
      exact World.block_lt_of_cell? w _ q3
    have HCELL := hid2 hcell
    have hX2 : T = X := by rw [hX, hT, file_of_get hget]
    subst hX2
    have hU2 : (T.size : Int) = (U : Int) := by rw [hU, hT, strB_size, file_of_get hget]
    have HU2 := hid2 hU2
    have hTs : (T.size : Int) ≤ 1000000000 := by rw [hT, strB_size]; rw [file_of_get hget] at hf; omega
    have hpass := fun (W : World) (A4 : Option Addr) (c4 : Nat) => pass07v_any W (some ⟨b, o, none⟩) N c left hle A4 n1 c4
    have HPASS := hid2 hpass
    clear hE hL hM hL1 hn1 hpp hpass hr hri hle hl hN hg hget hany hv hwith hX hU hi hx hS0 hT hU0 hcell hU2 hf
    rw [HN.out.symm]
    go_enter Try.func58, Try.ntmps58
    go_wp2_with (go_at_call 64; rw [← HW3.out, ← HG.out]; refine (HAT.out _ (by rw [← HG.out]; exact hbW)).mono ?_; rintro e w2 ⟨rfl, hb2⟩; have k0 := b0.below_all hb2; have k1 := b1.below_all hb2; have hbw2 := hbW.trans (hb2.mono (show g ≤ W3.heap.size by omega)); have hz2 := hb2.size; rw [z3] at hz2; have c0 : w2.cell? ⟨g, 0, none⟩ = some (.slice (some ⟨b, o, none⟩) N c) := k0.cells 0; have c1 : w2.cell? ⟨g, 1, none⟩ = some (.int .i64 left) := k0.cells 1; obtain ⟨q0, q1, q2, hbg⟩ := HCELL.out w2 hbw2; have K0 := hid2 k0; have K1 := hid2 k1; clear b0 b1 k0 k1 hb2 hbW)
    obtain ⟨G, hG⟩ : ∃ G, G = w2.heap.size := ⟨_, rfl⟩
    rw [← hG]
    generalize hW : World.alloc _ _ = W
    have hG1 : G ≠ g + 1 := by omega
    have hG2 : g + 1 ≠ G := by omega
    have r2 : Box W G [.string S0, .string T, .int .i64 U] := by rw [← hW, ← HU2.out]; exact Box.new' _ _ _ hG.symm
    have r0 : Box W g [.slice (some ⟨b, o, none⟩) N c, .int .i64 left] := by rw [← hW]; exact K0.out.alloc _
    have r1 : Box W (g + 1) [.slice none 0 0, .int .i64 0] := by rw [← hW]; exact K1.out.alloc _
    have hbw : Below g w W := by rw [← hW]; exact hbw2.alloc (by omega) _
    have hzW : g + 2 ≤ W.heap.size := by rw [← hW, World.size_alloc]; omega
    clear hG
    clear hW c0 c1 hbw2 hz2 q0 q1 q2
    have sr00 : W.cell? ⟨g, 0, none⟩ = some (.slice (some ⟨b, o, none⟩) N c) := r0.cells 0
    have sr01 : W.cell? ⟨g, 1, none⟩ = some (.int .i64 left) := r0.cells 1
    have sr20 : W.cell? ⟨G, 0, none⟩ = some (.string S0) := r2.cells 0
    have sr21 : W.cell? ⟨G, 1, none⟩ = some (.string T) := r2.cells 1
    have sr22 : W.cell? ⟨G, 2, none⟩ = some (.int .i64 U) := r2.cells 2
    have KS := hid2 (fun (w4 : World) (h : Below W.heap.size W w4) => show w4.cell? ⟨g, 0, none⟩ = some (.slice (some ⟨b, o, none⟩) N c) ∧ w4.cell? ⟨g, 1, none⟩ = some (.int .i64 left) ∧ w4.cell? ⟨G, 0, none⟩ = some (.string S0) ∧ w4.cell? ⟨G, 1, none⟩ = some (.string T) ∧ w4.cell? ⟨G, 2, none⟩ = some (.int .i64 U) from ⟨(r0.below_all h).cells 0, (r0.below_all h).cells 1, (r2.below_all h).cells 0, (r2.below_all h).cells 1, (r2.below_all h).cells 2⟩)
    have R1 := hid2 r1
    clear r0 r2 r1 K0 K1
    go_region_held3 (fun w' => w'.cell? ⟨g, 0, none⟩ = some (.slice (some ⟨b, o, none⟩) N c) ∧ w'.cell? ⟨g, 1, none⟩ = some (.int .i64 left) ∧ w'.cell? ⟨G, 0, none⟩ = some (.string S0) ∧ w'.cell? ⟨G, 1, none⟩ = some (.string T) ∧ w'.cell? ⟨G, 2, none⟩ = some (.int .i64 U)) (first | exact KS.out _ hb5' | exact KS.out _ hb4' | exact KS.out _ hb3' | go_keep) (first
      | (go_at_call 88; refine (HWITH.out _ hbw.drew).mono ?_; rintro e w4 ⟨A4, c4, rfl, ho4, hb4⟩; have hb4' : Below W.heap.size W w4 := (Below.refl W.heap.size W).drew.trans hb4; have ho4' : Hid2 (Own w4 W.heap.size 108 3 A4 n1 c4 (rfsV L1)) := hid2 ho4; clear ho4 hb4)
      | (go_at_call 87; refine (HPASS.out _ A4 c4).mono ?_; rintro e w5 ⟨pa, pn, pc, pl, pe, rfl, hP, hb5⟩; have hb5' : Below W.heap.size W w5 := hb4'.trans (hb5.mono hb4'.size); have r5 := R1.out.below_all hb5'; have c10 : w5.cell? ⟨g + 1, 0, none⟩ = some (.slice none 0 0) := r5.cells 0; have c11 : w5.cell? ⟨g + 1, 1, none⟩ = some (.int .i64 0) := r5.cells 1; have z10 : w5.frozen? ⟨g + 1, 0, none⟩ = false := r5.free 0; have z11 : w5.frozen? ⟨g + 1, 1, none⟩ = false := r5.free 1; have ho5 := hid2 (ho4'.out.below hb5 (Nat.le_refl _)); have HP := hid2 hP; clear r5 hP hb5))
    go_wp2_with fail
    refine bodyPost_ret (v := .tuple #[.agg #[.slice pa pn pc, .int .i64 pl], .int .i64 pe]) (by simp [results, Try.results58, go_sem, c10, c11]) rfl ?_
    have hne : blockOf A4 ≠ some (g + 1) := fun e => by have := (ho5.out.block _ e).1; omega
    exact HPP.out _ ((hbw.trans (hb5'.mono (show g ≤ W.heap.size by omega))).setCell (show g ≤ g + 1 by omega) _ |>.setCell (show g ≤ g + 1 by omega) _) A4 pa c4 pn pc pl pe HP.out _ ((ho5.out.setOther (p := ⟨g + 1, 0, none⟩) hne _).setOther (p := ⟨g + 1, 1, none⟩) hne _) (show g ≤ W.heap.size by omega)
  · skip
    have hgn := getM_no hno
    have hE : beginE M left true [strB s.data.toList] s.data.toList = 10 := begin_ten hany hgn
    have hM : syncM M left s.data.toList = M := by unfold syncM; rw [if_neg (by rw [hE]; decide)]
    have hL := beginL_same hE (by decide)
    have HP := fun (F : World) (hb : Below w.heap.size w F) => ends_post (c := c) (left := left) (err := 10) hN hr hb hM hL hE
    have HPP := hid2 HP
    clear hE hM hL HP hN hr hri hle hl hf
    rw [← hg] at HPP
    clear hno hgn hg hv hany
    rw [HN.out.symm]
    go_enter Try.func58, Try.ntmps58
    go_wp2_with (go_at_call 64; rw [← HW3.out, ← HG.out]; refine (HAT.out _ (by rw [← HG.out]; exact hbW)).mono ?_; rintro e w2 ⟨rfl, hb2⟩; have k0 := b0.below_all hb2; have k1 := b1.below_all hb2; have hbw2 := hbW.trans (hb2.mono (show g ≤ W3.heap.size by omega)); have hz2 := hb2.size; rw [z3] at hz2; have c0 : w2.cell? ⟨g, 0, none⟩ = some (.slice A N c) := k0.cells 0; have c1 : w2.cell? ⟨g, 1, none⟩ = some (.int .i64 left) := k0.cells 1; have c2 : w2.cell? ⟨g + 1, 0, none⟩ = some (.slice none 0 0) := k1.cells 0; have c3 : w2.cell? ⟨g + 1, 1, none⟩ = some (.int .i64 0) := k1.cells 1; have z0 : w2.frozen? ⟨g + 1, 0, none⟩ = false := k1.free 0; have z1 : w2.frozen? ⟨g + 1, 1, none⟩ = false := k1.free 1; clear b0 b1 k0 k1 hb2 hbW)
    refine bodyPost_ret (v := .tuple #[.agg #[.slice A N c, .int .i64 left], .int .i64 10]) (by simp [results, Try.results58, go_sem, c2, c3]) rfl ?_
    exact HPP.out _ ((hbw2.setCell (show g ≤ g + 1 by omega) _).setCell (show g ≤ g + 1 by omega) _)
set_option maxRecDepth 100000 in
set_option maxHeartbeats 4000000 in
theorem rename07m_any (w : World) (A : Option Addr) (c : Nat) (M : Tab FileE) (left : Int) (hr : Rd w 3 A M.length (rfsV M)) (hl : M.length ≤ 1000000) (hri : Rises M) (hle : -1 ≤ left ∧ left ≤ 9223372036854775807) (s t : ByteArray) :
    Calls Try.prog 60 #[.agg #[.slice A M.length c, .int .i64 left], .string s, .string t] w (RPost w A (renM M left s.data.toList t.data.toList) (beginL M left true [strB s.data.toList, strB t.data.toList] s.data.toList) (beginE M left true [strB s.data.toList, strB t.data.toList] s.data.toList)) := by
  obtain ⟨N, hN⟩ : ∃ N, N = M.length := ⟨_, rfl⟩
  have HR := hid2 hr
  have HN := hid2 hN
  by_cases h1 : s.toList.isEmpty = true
  · have h1s : s.data.toList.isEmpty = true := by rw [← ByteArray.toList_eq]; exact h1
    have hE : beginE M left true [strB s.data.toList, strB t.data.toList] s.data.toList = 1 := begin_none (by rw [any_two, h1s]; rfl)
    have hM : renM M left s.data.toList t.data.toList = M := by unfold renM; rw [if_neg (by rw [hE]; exact fun h => absurd h.1 (by decide))]
    have hL := beginL_same hE (by decide)
    have HP := fun (F : World) (hb : Below w.heap.size w F) => ends_post (c := c) (left := left) (err := 1) hN hr hb hM hL hE
    have HPP := hid2 HP
    clear hE hM hL HP hN hr hri hle hl
    clear h1s
    rw [← HN.out]
    go_enter Try.func60, Try.ntmps60
    go_wp2_with fail
    refine bodyPost_ret (v := .tuple #[.agg #[.slice A N c, .int .i64 left], .int .i64 1]) (by simp [results, Try.results60, go_sem]) rfl ?_
    exact HPP.out _ (((Below.refl _ _).alloc (Nat.le_refl _) _).alloc (by simp) _)
  have h2 : s.toList.isEmpty = false := by simpa using h1
  have h2s : s.data.toList.isEmpty = false := by rw [← ByteArray.toList_eq]; exact h2
  by_cases h3 : t.toList.isEmpty = true
  · have h3s : t.data.toList.isEmpty = true := by rw [← ByteArray.toList_eq]; exact h3
    have hE : beginE M left true [strB s.data.toList, strB t.data.toList] s.data.toList = 1 := begin_none (by rw [any_two, h3s, Bool.or_true])
    have hM : renM M left s.data.toList t.data.toList = M := by unfold renM; rw [if_neg (by rw [hE]; exact fun h => absurd h.1 (by decide))]
    have hL := beginL_same hE (by decide)
    have HP := fun (F : World) (hb : Below w.heap.size w F) => ends_post (c := c) (left := left) (err := 1) hN hr hb hM hL hE
    have HPP := hid2 HP
    clear hE hM hL HP hN hr hri hle hl
    clear h3s h2s h1
    rw [← HN.out]
    go_enter Try.func60, Try.ntmps60
    go_wp2_with fail
    refine bodyPost_ret (v := .tuple #[.agg #[.slice A N c, .int .i64 left], .int .i64 1]) (by simp [results, Try.results60, go_sem]) rfl ?_
    exact HPP.out _ (((Below.refl _ _).alloc (Nat.le_refl _) _).alloc (by simp) _)
  have h4 : t.toList.isEmpty = false := by simpa using h3
  have h4s : t.data.toList.isEmpty = false := by rw [← ByteArray.toList_eq]; exact h4
  have hany : [strB s.data.toList, strB t.data.toList].any (fun s => s.data.toList.isEmpty) = false := by rw [any_two, h2s, h4s]; rfl
  clear h3 h4s
  clear h1 h2s
  obtain ⟨g, hg⟩ : ∃ g, g = w.heap.size := ⟨_, rfl⟩
  obtain ⟨W3, hW3⟩ : ∃ W3, W3 = ((w.alloc (.cells #[.slice A N c, .int .i64 left] 46)).alloc (.cells #[.slice none 0 0, .int .i64 0] 46)) := ⟨_, rfl⟩
  have z3 : W3.heap.size = g + 2 := by rw [hW3, hg]; simp
  have b0 : Box W3 (g) [.slice A N c, .int .i64 left] := by rw [hW3]; exact ((Box.new' _ _ _ (by simp [hg])).alloc _)
  have b1 : Box W3 (g + 1) [.slice none 0 0, .int .i64 0] := by rw [hW3]; exact (Box.new' _ _ _ (by simp [hg]))
  have hbW : Below g w W3 := by rw [hW3, hg]; exact (((Below.refl _ _).alloc (by simp) _).alloc (by simp) _)
  have HW3 := hid2 hW3
  have HG := hid2 hg
  obtain ⟨v, hv⟩ := AtIs.ex M s.data.toList
  have hat := fun (W : World) (hb : Below w.heap.size w W) => at07v_any W A c M left (hr.below_all hb) (by omega) hri s hv
  rw [← hN] at hat
  have HAT := hid2 hat
  clear hat hW3
  have hv0 := hv
  rcases hv0 with ⟨i, x, hi, hx, rfl⟩ | ⟨rfl, hno⟩
  · have hget : getM M s.data.toList = some x.2 := by rw [← hx]; exact getM_at hri hi
    have hE := begin_goes (left := left) (there := true) hany (M := M) (k := s.data.toList) (fun _ h => by rw [hget] at h; cases h)
    have hL := beginL_goes hE
    have hM : renM M left s.data.toList t.data.toList = if left = 0 then M else putM (delM M s.data.toList) t.data.toList (fileOf M s.data.toList) := by
      unfold renM
      rw [hE]
      by_cases h0 : left = 0
      · rw [if_pos h0, if_pos h0, if_neg (fun h => absurd h.1 (by decide))]
      · rw [if_neg h0, if_neg h0, ren_del_put hri (f := fileOf M s.data.toList) (by rw [file_of_get hget]; exact hget)]
        by_cases h1 : s.data.toList = t.data.toList
        · rw [if_neg (fun h => h.2 h1), if_neg (fun h => h h1)]
        · rw [if_pos ⟨rfl, h1⟩, if_pos h1]
    obtain ⟨L1, hL1⟩ : ∃ L1, L1 = putM (delM M s.data.toList) t.data.toList (fileOf M s.data.toList) := ⟨_, rfl⟩
    obtain ⟨n1, hn1⟩ : ∃ n1, n1 = L1.length := ⟨_, rfl⟩
    rw [← hL1] at hM
    have hpp := fun (F : World) (hb : Below w.heap.size w F) (A4 pa : Option Addr) (c4 pn pc : Nat) (pl pe : Int) (hP : PassIs A N c left A4 n1 c4 pa pn pc pl pe) (B0 : Nat) (ho : Own F B0 108 3 A4 n1 c4 (rfsV L1)) (hB0 : w.heap.size ≤ B0) => pass_post (L1 := L1) hP hN hn1 hr ho hB0 hb hM hL hE
    rw [← hg] at hpp
    have HPP := hid2 hpp
    have hwo := fun (W : World) (hb : Below g w W) => without07m_any W A c M left (hr.below_all (by rw [← hg]; exact hb)) (by omega) s
    obtain ⟨M0, hM0⟩ : ∃ M0, M0 = delM M s.data.toList := ⟨_, rfl⟩
    obtain ⟨n0, hn0⟩ : ∃ n0, n0 = M0.length := ⟨_, rfl⟩
    have hn0l : n0 ≤ 1000000 := by rw [hn0, hM0]; exact Nat.le_trans (delM_len _ _) hl
    rw [← hM0, ← hn0, ← hN] at hwo
    have HWO := hid2 hwo
    obtain ⟨X, hX⟩ : ∃ X, X = strB (fileOf M s.data.toList).1 := ⟨_, rfl⟩
    obtain ⟨U, hU⟩ : ∃ U : Nat, U = (fileOf M s.data.toList).2 := ⟨_, rfl⟩
    have hwith := fun (W : World) (A0 : Option Addr) (c0 : Nat) (h : Rd W 3 A0 n0 (rfsV M0)) => with07m_any W A0 c0 M0 0 (by rw [← hn0]; exact h) (by omega) (by rw [hM0]; exact rises_del hri _) t X U
    rw [show putM M0 t.data.toList (X.data.toList, U) = L1 by rw [hL1, hM0, hX, hU, strB_list], ← hn1, ← hn0] at hwith
    have HWITH := hid2 hwith
    have hiN : i < N := by rw [hN]; exact (List.getElem?_eq_some_iff.1 hi).1
    have hiN2 : (i : Int) < N := by omega
    have hi0 : ¬ (i : Int) < 0 := by omega
    have hi1 : (0 : Int) ≤ i := by omega
    obtain ⟨S0, hS0⟩ : ∃ S0, S0 = strB x.1 := ⟨_, rfl⟩
    obtain ⟨T, hT⟩ : ∃ T, T = strB x.2.1 := ⟨_, rfl⟩
    obtain ⟨U0, hU0⟩ : ∃ U0 : Nat, U0 = x.2.2 := ⟨_, rfl⟩
    have hS0s : S0 = s := by rw [hS0, hx, strB_of]
    subst hS0s
    obtain ⟨b, o, rfl, _⟩ := rf_cells hr hi
    have hcell := fun (w2 : World) (hb : Below g w w2) => show w2.cell? ⟨b, o + i * 3, none⟩ = some (.string S0) ∧ w2.cell? ⟨b, o + i * 3 + 1, none⟩ = some (.string T) ∧ w2.cell? ⟨b, o + i * 3 + 2, none⟩ = some (.int .i64 U0) ∧ b < g by
      obtain ⟨b2, o2, e, q0, q1, q2⟩ := rf_cells (hr.below_all (by rw [← hg]; exact hb)) hi
      obtain ⟨rfl, rfl⟩ : b = b2 ∧ o = o2 := by simpa using e
      rw [hS0, hT, hU0]
      refine ⟨q0, q1, q2, ?_⟩
      obtain ⟨b3, o3, e3, q3, _, _⟩ := rf_cells hr hi
      obtain ⟨rfl, rfl⟩ : b = b3 ∧ o = o3 := by simpa using e3
      rw [hg]
      exact World.block_lt_of_cell? w _ q3
    have HCELL := hid2 hcell
    have hX2 : T = X := by rw [hX, hT, file_of_get hget]
    subst hX2
    have hU2 : U0 = U := by rw [hU, hU0, file_of_get hget]
    subst hU2
    have hpass := fun (W : World) (A4 : Option Addr) (c4 : Nat) => pass07v_any W (some ⟨b, o, none⟩) N c left hle A4 n1 c4
    have HPASS := hid2 hpass
    clear hE hL hM hL1 hn1 hpp hpass hr hri hle hl hN hg hget hany hv hwith hX hU hwo hM0 hn0 hi hx hS0 hT hU0 hcell
    rw [HN.out.symm]
    go_enter Try.func60, Try.ntmps60
    go_wp2_with (go_at_call 64; rw [← HW3.out, ← HG.out]; refine (HAT.out _ (by rw [← HG.out]; exact hbW)).mono ?_; rintro e w2 ⟨rfl, hb2⟩; have k0 := b0.below_all hb2; have k1 := b1.below_all hb2; have hbw2 := hbW.trans (hb2.mono (show g ≤ W3.heap.size by omega)); have hz2 := hb2.size; rw [z3] at hz2; have c0 : w2.cell? ⟨g, 0, none⟩ = some (.slice (some ⟨b, o, none⟩) N c) := k0.cells 0; have c1 : w2.cell? ⟨g, 1, none⟩ = some (.int .i64 left) := k0.cells 1; obtain ⟨q0, q1, q2, hbg⟩ := HCELL.out w2 hbw2; have K0 := hid2 k0; have K1 := hid2 k1; clear b0 b1 k0 k1 hb2 hbW)
    obtain ⟨G, hG⟩ : ∃ G, G = w2.heap.size := ⟨_, rfl⟩
    rw [← hG]
    generalize hW : World.alloc _ _ = W
    have hG1 : G ≠ g + 1 := by omega
    have hG2 : g + 1 ≠ G := by omega
    have r2 : Box W G [.string t, .string T, .int .i64 U0] := by rw [← hW]; exact Box.new' _ _ _ hG.symm
    have r0 : Box W g [.slice (some ⟨b, o, none⟩) N c, .int .i64 left] := by rw [← hW]; exact K0.out.alloc _
    have r1 : Box W (g + 1) [.slice none 0 0, .int .i64 0] := by rw [← hW]; exact K1.out.alloc _
    have hbw : Below g w W := by rw [← hW]; exact hbw2.alloc (by omega) _
    have hzW : g + 2 ≤ W.heap.size := by rw [← hW, World.size_alloc]; omega
    clear hG
    clear hW c0 c1 hbw2 hz2 q0 q1 q2
    have sr00 : W.cell? ⟨g, 0, none⟩ = some (.slice (some ⟨b, o, none⟩) N c) := r0.cells 0
    have sr01 : W.cell? ⟨g, 1, none⟩ = some (.int .i64 left) := r0.cells 1
    have sr20 : W.cell? ⟨G, 0, none⟩ = some (.string t) := r2.cells 0
    have sr21 : W.cell? ⟨G, 1, none⟩ = some (.string T) := r2.cells 1
    have sr22 : W.cell? ⟨G, 2, none⟩ = some (.int .i64 U0) := r2.cells 2
    have KS := hid2 (fun (w4 : World) (h : Below W.heap.size W w4) => show w4.cell? ⟨g, 0, none⟩ = some (.slice (some ⟨b, o, none⟩) N c) ∧ w4.cell? ⟨g, 1, none⟩ = some (.int .i64 left) ∧ w4.cell? ⟨G, 0, none⟩ = some (.string t) ∧ w4.cell? ⟨G, 1, none⟩ = some (.string T) ∧ w4.cell? ⟨G, 2, none⟩ = some (.int .i64 U0) from ⟨(r0.below_all h).cells 0, (r0.below_all h).cells 1, (r2.below_all h).cells 0, (r2.below_all h).cells 1, (r2.below_all h).cells 2⟩)
    have R1 := hid2 r1
    clear r0 r2 r1 K0 K1
    go_region_held3 (fun w' => w'.cell? ⟨g, 0, none⟩ = some (.slice (some ⟨b, o, none⟩) N c) ∧ w'.cell? ⟨g, 1, none⟩ = some (.int .i64 left) ∧ w'.cell? ⟨G, 0, none⟩ = some (.string t) ∧ w'.cell? ⟨G, 1, none⟩ = some (.string T) ∧ w'.cell? ⟨G, 2, none⟩ = some (.int .i64 U0)) (first | exact KS.out _ hb5' | exact KS.out _ hb4' | exact KS.out _ hb3' | go_keep) (first
      | (go_at_call 89; refine (HWO.out _ hbw.drew).mono ?_; rintro e w3 ⟨A3, c3, rfl, ho3, hb3⟩; have hb3' : Below W.heap.size W w3 := (Below.refl W.heap.size W).drew.trans hb3; have ho3' : Hid2 (Own w3 W.heap.size 108 3 A3 n0 c3 (rfsV M0)) := hid2 ho3; clear ho3 hb3)
      | (go_at_call 88; refine (HWITH.out _ A3 c3 ho3'.out.rd).mono ?_; rintro e w4 ⟨A4, c4, rfl, ho4, hb4⟩; have hb4' : Below W.heap.size W w4 := hb3'.trans (hb4.mono hb3'.size); have ho4' : Hid2 (Own w4 W.heap.size 108 3 A4 n1 c4 (rfsV L1)) := hid2 (ho4.mono hb3'.size); clear ho4 hb4)
      | (go_at_call 87; refine (HPASS.out _ A4 c4).mono ?_; rintro e w5 ⟨pa, pn, pc, pl, pe, rfl, hP, hb5⟩; have hb5' : Below W.heap.size W w5 := hb4'.trans (hb5.mono hb4'.size); have r5 := R1.out.below_all hb5'; have c10 : w5.cell? ⟨g + 1, 0, none⟩ = some (.slice none 0 0) := r5.cells 0; have c11 : w5.cell? ⟨g + 1, 1, none⟩ = some (.int .i64 0) := r5.cells 1; have z10 : w5.frozen? ⟨g + 1, 0, none⟩ = false := r5.free 0; have z11 : w5.frozen? ⟨g + 1, 1, none⟩ = false := r5.free 1; have ho5 := hid2 (ho4'.out.below hb5 (Nat.le_refl _)); have HP := hid2 hP; clear r5 hP hb5))
    go_wp2_with fail
    refine bodyPost_ret (v := .tuple #[.agg #[.slice pa pn pc, .int .i64 pl], .int .i64 pe]) (by simp [results, Try.results60, go_sem, c10, c11]) rfl ?_
    have hne : blockOf A4 ≠ some (g + 1) := fun e => by have := (ho5.out.block _ e).1; omega
    exact HPP.out _ ((hbw.trans (hb5'.mono (show g ≤ W.heap.size by omega))).setCell (show g ≤ g + 1 by omega) _ |>.setCell (show g ≤ g + 1 by omega) _) A4 pa c4 pn pc pl pe HP.out _ ((ho5.out.setOther (p := ⟨g + 1, 0, none⟩) hne _).setOther (p := ⟨g + 1, 1, none⟩) hne _) (show g ≤ W.heap.size by omega)
  · skip
    have hgn := getM_no hno
    have hE : beginE M left true [strB s.data.toList, strB t.data.toList] s.data.toList = 10 := begin_ten hany hgn
    have hM : renM M left s.data.toList t.data.toList = M := by unfold renM; rw [if_neg (by rw [hE]; exact fun h => absurd h.1 (by decide))]
    have hL := beginL_same hE (by decide)
    have HP := fun (F : World) (hb : Below w.heap.size w F) => ends_post (c := c) (left := left) (err := 10) hN hr hb hM hL hE
    have HPP := hid2 HP
    clear hE hM hL HP hN hr hri hle hl
    rw [← hg] at HPP
    clear hno hgn hg hv hany
    rw [HN.out.symm]
    go_enter Try.func60, Try.ntmps60
    go_wp2_with (go_at_call 64; rw [← HW3.out, ← HG.out]; refine (HAT.out _ (by rw [← HG.out]; exact hbW)).mono ?_; rintro e w2 ⟨rfl, hb2⟩; have k0 := b0.below_all hb2; have k1 := b1.below_all hb2; have hbw2 := hbW.trans (hb2.mono (show g ≤ W3.heap.size by omega)); have hz2 := hb2.size; rw [z3] at hz2; have c0 : w2.cell? ⟨g, 0, none⟩ = some (.slice A N c) := k0.cells 0; have c1 : w2.cell? ⟨g, 1, none⟩ = some (.int .i64 left) := k0.cells 1; have c2 : w2.cell? ⟨g + 1, 0, none⟩ = some (.slice none 0 0) := k1.cells 0; have c3 : w2.cell? ⟨g + 1, 1, none⟩ = some (.int .i64 0) := k1.cells 1; have z0 : w2.frozen? ⟨g + 1, 0, none⟩ = false := k1.free 0; have z1 : w2.frozen? ⟨g + 1, 1, none⟩ = false := k1.free 1; clear b0 b1 k0 k1 hb2 hbW)
    refine bodyPost_ret (v := .tuple #[.agg #[.slice A N c, .int .i64 left], .int .i64 10]) (by simp [results, Try.results60, go_sem, c2, c3]) rfl ?_
    exact HPP.out _ ((hbw2.setCell (show g ≤ g + 1 by omega) _).setCell (show g ≤ g + 1 by omega) _)
set_option maxRecDepth 100000 in
set_option maxHeartbeats 4000000 in
theorem remove07m_any (w : World) (A : Option Addr) (c : Nat) (M : Tab FileE) (left : Int) (hr : Rd w 3 A M.length (rfsV M)) (hl : M.length ≤ 1000000) (hri : Rises M) (hle : -1 ≤ left ∧ left ≤ 9223372036854775807) (s : ByteArray) :
    Calls Try.prog 61 #[.agg #[.slice A M.length c, .int .i64 left], .string s] w (RPost w A (remM M left s.data.toList) (beginL M left true [strB s.data.toList] s.data.toList) (beginE M left true [strB s.data.toList] s.data.toList)) := by
  obtain ⟨N, hN⟩ : ∃ N, N = M.length := ⟨_, rfl⟩
  have HR := hid2 hr
  have HN := hid2 hN
  by_cases h1 : s.toList.isEmpty = true
  · have h1s : s.data.toList.isEmpty = true := by rw [← ByteArray.toList_eq]; exact h1
    have hE : beginE M left true [strB s.data.toList] s.data.toList = 1 := begin_none (by rw [any_one, h1s])
    have hM : remM M left s.data.toList = M := by unfold remM; rw [if_neg (by rw [hE]; decide)]
    have hL := beginL_same hE (by decide)
    have HP := fun (F : World) (hb : Below w.heap.size w F) => ends_post (c := c) (left := left) (err := 1) hN hr hb hM hL hE
    have HPP := hid2 HP
    clear hE hM hL HP hN hr hri hle hl
    clear h1s
    rw [← HN.out]
    go_enter Try.func61, Try.ntmps61
    go_wp2_with fail
    refine bodyPost_ret (v := .tuple #[.agg #[.slice A N c, .int .i64 left], .int .i64 1]) (by simp [results, Try.results61, go_sem]) rfl ?_
    exact HPP.out _ (((Below.refl _ _).alloc (Nat.le_refl _) _).alloc (by simp) _)
  have h2 : s.toList.isEmpty = false := by simpa using h1
  have h2s : s.data.toList.isEmpty = false := by rw [← ByteArray.toList_eq]; exact h2
  have hany : [strB s.data.toList].any (fun s => s.data.toList.isEmpty) = false := by rw [any_one, h2s]
  clear h1 h2s
  obtain ⟨g, hg⟩ : ∃ g, g = w.heap.size := ⟨_, rfl⟩
  obtain ⟨W3, hW3⟩ : ∃ W3, W3 = ((w.alloc (.cells #[.slice A N c, .int .i64 left] 46)).alloc (.cells #[.slice none 0 0, .int .i64 0] 46)) := ⟨_, rfl⟩
  have z3 : W3.heap.size = g + 2 := by rw [hW3, hg]; simp
  have b0 : Box W3 (g) [.slice A N c, .int .i64 left] := by rw [hW3]; exact ((Box.new' _ _ _ (by simp [hg])).alloc _)
  have b1 : Box W3 (g + 1) [.slice none 0 0, .int .i64 0] := by rw [hW3]; exact (Box.new' _ _ _ (by simp [hg]))
  have hbW : Below g w W3 := by rw [hW3, hg]; exact (((Below.refl _ _).alloc (by simp) _).alloc (by simp) _)
  have HW3 := hid2 hW3
  have HG := hid2 hg
  obtain ⟨v, hv⟩ := AtIs.ex M s.data.toList
  have hat := fun (W : World) (hb : Below w.heap.size w W) => at07v_any W A c M left (hr.below_all hb) (by omega) hri s hv
  rw [← hN] at hat
  have HAT := hid2 hat
  clear hat hW3
  have hv0 := hv
  rcases hv0 with ⟨i, x, hi, hx, rfl⟩ | ⟨rfl, hno⟩
  · have hget : getM M s.data.toList = some x.2 := by rw [← hx]; exact getM_at hri hi
    have hE := begin_goes (left := left) (there := true) hany (M := M) (k := s.data.toList) (fun _ h => by rw [hget] at h; cases h)
    have hL := beginL_goes hE
    have hM : remM M left s.data.toList = if left = 0 then M else delM M s.data.toList := by
      unfold remM
      rw [hE]
      by_cases h0 : left = 0
      · rw [if_pos h0, if_pos h0, if_neg (by decide)]
      · rw [if_neg h0, if_neg h0, if_pos rfl]
    obtain ⟨L1, hL1⟩ : ∃ L1, L1 = delM M s.data.toList := ⟨_, rfl⟩
    obtain ⟨n1, hn1⟩ : ∃ n1, n1 = L1.length := ⟨_, rfl⟩
    rw [← hL1] at hM
    have hpp := fun (F : World) (hb : Below w.heap.size w F) (A4 pa : Option Addr) (c4 pn pc : Nat) (pl pe : Int) (hP : PassIs A N c left A4 n1 c4 pa pn pc pl pe) (B0 : Nat) (ho : Own F B0 108 3 A4 n1 c4 (rfsV L1)) (hB0 : w.heap.size ≤ B0) => pass_post (L1 := L1) hP hN hn1 hr ho hB0 hb hM hL hE
    rw [← hg] at hpp
    have HPP := hid2 hpp
    have hwo := fun (W : World) (hb : Below g w W) => without07m_any W A c M left (hr.below_all (by rw [← hg]; exact hb)) (by omega) s
    rw [← hL1, ← hn1, ← hN] at hwo
    have HWO := hid2 hwo
    have hiN : i < N := by rw [hN]; exact (List.getElem?_eq_some_iff.1 hi).1
    have hiN2 : (i : Int) < N := by omega
    have hi0 : ¬ (i : Int) < 0 := by omega
    have hi1 : (0 : Int) ≤ i := by omega
    have hpass := fun (W : World) (A4 : Option Addr) (c4 : Nat) => pass07v_any W A N c left hle A4 n1 c4
    have HPASS := hid2 hpass
    clear hE hL hM hL1 hn1 hpp hpass hr hri hle hl hN hg hget hany hv hwo hi hx
    rw [HN.out.symm]
    go_enter Try.func61, Try.ntmps61
    go_wp2_with (go_at_call 64; rw [← HW3.out, ← HG.out]; refine (HAT.out _ (by rw [← HG.out]; exact hbW)).mono ?_; rintro e w2 ⟨rfl, hb2⟩; have k0 := b0.below_all hb2; have k1 := b1.below_all hb2; have hbw2 := hbW.trans (hb2.mono (show g ≤ W3.heap.size by omega)); have hz2 := hb2.size; rw [z3] at hz2; have c0 : w2.cell? ⟨g, 0, none⟩ = some (.slice A N c) := k0.cells 0; have c1 : w2.cell? ⟨g, 1, none⟩ = some (.int .i64 left) := k0.cells 1; have K0 := hid2 k0; have K1 := hid2 k1; clear b0 b1 k0 k1 hb2 hbW)
    generalize hW : w2 = W at *
    have r0 := K0.out
    have r1 := K1.out
    have hbw := hbw2
    have hzW := hz2
    clear c0 c1 hbw2 hz2
    have sr00 : W.cell? ⟨g, 0, none⟩ = some (.slice A N c) := r0.cells 0
    have sr01 : W.cell? ⟨g, 1, none⟩ = some (.int .i64 left) := r0.cells 1
    have KS := hid2 (fun (w4 : World) (h : Below W.heap.size W w4) => show w4.cell? ⟨g, 0, none⟩ = some (.slice A N c) ∧ w4.cell? ⟨g, 1, none⟩ = some (.int .i64 left) from ⟨(r0.below_all h).cells 0, (r0.below_all h).cells 1⟩)
    have R1 := hid2 r1
    clear r0 r1 K0 K1
    go_region_held3 (fun w' => w'.cell? ⟨g, 0, none⟩ = some (.slice A N c) ∧ w'.cell? ⟨g, 1, none⟩ = some (.int .i64 left)) (first | exact KS.out _ hb5' | exact KS.out _ hb4' | exact KS.out _ hb3' | go_keep) (first
      | (go_at_call 89; refine (HWO.out _ hbw.drew).mono ?_; rintro e w4 ⟨A4, c4, rfl, ho4, hb4⟩; have hb4' : Below W.heap.size W w4 := (Below.refl W.heap.size W).drew.trans hb4; have ho4' : Hid2 (Own w4 W.heap.size 108 3 A4 n1 c4 (rfsV L1)) := hid2 ho4; clear ho4 hb4)
      | (go_at_call 87; refine (HPASS.out _ A4 c4).mono ?_; rintro e w5 ⟨pa, pn, pc, pl, pe, rfl, hP, hb5⟩; have hb5' : Below W.heap.size W w5 := hb4'.trans (hb5.mono hb4'.size); have r5 := R1.out.below_all hb5'; have c10 : w5.cell? ⟨g + 1, 0, none⟩ = some (.slice none 0 0) := r5.cells 0; have c11 : w5.cell? ⟨g + 1, 1, none⟩ = some (.int .i64 0) := r5.cells 1; have z10 : w5.frozen? ⟨g + 1, 0, none⟩ = false := r5.free 0; have z11 : w5.frozen? ⟨g + 1, 1, none⟩ = false := r5.free 1; have ho5 := hid2 (ho4'.out.below hb5 (Nat.le_refl _)); have HP := hid2 hP; clear r5 hP hb5))
    go_wp2_with fail
    refine bodyPost_ret (v := .tuple #[.agg #[.slice pa pn pc, .int .i64 pl], .int .i64 pe]) (by simp [results, Try.results61, go_sem, c10, c11]) rfl ?_
    have hne : blockOf A4 ≠ some (g + 1) := fun e => by have := (ho5.out.block _ e).1; omega
    exact HPP.out _ ((hbw.trans (hb5'.mono (show g ≤ W.heap.size by omega))).setCell (show g ≤ g + 1 by omega) _ |>.setCell (show g ≤ g + 1 by omega) _) A4 pa c4 pn pc pl pe HP.out _ ((ho5.out.setOther (p := ⟨g + 1, 0, none⟩) hne _).setOther (p := ⟨g + 1, 1, none⟩) hne _) (show g ≤ W.heap.size by omega)
  · skip
    have hgn := getM_no hno
    have hE : beginE M left true [strB s.data.toList] s.data.toList = 10 := begin_ten hany hgn
    have hM : remM M left s.data.toList = M := by unfold remM; rw [if_neg (by rw [hE]; decide)]
    have hL := beginL_same hE (by decide)
    have HP := fun (F : World) (hb : Below w.heap.size w F) => ends_post (c := c) (left := left) (err := 10) hN hr hb hM hL hE
    have HPP := hid2 HP
    clear hE hM hL HP hN hr hri hle hl
    rw [← hg] at HPP
    clear hno hgn hg hv hany
    rw [HN.out.symm]
    go_enter Try.func61, Try.ntmps61
    go_wp2_with (go_at_call 64; rw [← HW3.out, ← HG.out]; refine (HAT.out _ (by rw [← HG.out]; exact hbW)).mono ?_; rintro e w2 ⟨rfl, hb2⟩; have k0 := b0.below_all hb2; have k1 := b1.below_all hb2; have hbw2 := hbW.trans (hb2.mono (show g ≤ W3.heap.size by omega)); have hz2 := hb2.size; rw [z3] at hz2; have c0 : w2.cell? ⟨g, 0, none⟩ = some (.slice A N c) := k0.cells 0; have c1 : w2.cell? ⟨g, 1, none⟩ = some (.int .i64 left) := k0.cells 1; have c2 : w2.cell? ⟨g + 1, 0, none⟩ = some (.slice none 0 0) := k1.cells 0; have c3 : w2.cell? ⟨g + 1, 1, none⟩ = some (.int .i64 0) := k1.cells 1; have z0 : w2.frozen? ⟨g + 1, 0, none⟩ = false := k1.free 0; have z1 : w2.frozen? ⟨g + 1, 1, none⟩ = false := k1.free 1; clear b0 b1 k0 k1 hb2 hbW)
    refine bodyPost_ret (v := .tuple #[.agg #[.slice A N c, .int .i64 left], .int .i64 10]) (by simp [results, Try.results61, go_sem, c2, c3]) rfl ?_
    exact HPP.out _ ((hbw2.setCell (show g ≤ g + 1 by omega) _).setCell (show g ≤ g + 1 by omega) _)
end Go.Proofs.Ytbighckpogfcaaa
