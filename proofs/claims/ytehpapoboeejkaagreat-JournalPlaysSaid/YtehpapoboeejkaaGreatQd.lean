/- The reference's disk as a row of files: pass. -/
import Derived.Test.YtehpapoboeejkaaGreatQc
import Derived.Test.YtehpapoboeejkaaGreatQb
import Derived.Deep.RegionHeld3
import Derived.BigRegion
import Derived.Test.YtehpapoboeejkaaGreatQa
set_option linter.unusedSimpArgs false
set_option linter.unusedVariables false
namespace Go.Proofs.YtehpapoboeejkaaGreat
open Go.RowKit Go.Maps
set_option maxRecDepth 100000 in
theorem pass07m_any (w : World) (B : Option Addr) (n2 c2 : Nat) (left : Int) (hle : -1 ≤ left ∧ left ≤ 9223372036854775807) (A : Option Addr) (n c : Nat) :
    Calls Tryz.prog 45 #[.agg #[.slice B n2 c2, .int .i64 left], .slice A n c] w fun e w' =>
      e = .returned (if left = 0 then .tuple #[.agg #[.slice B n2 c2, .int .i64 left], .int .i64 18] else .tuple #[.agg #[.slice A n c, .int .i64 (if 0 < left then left - 1 else left)], .int .i64 0]) ∧ Below w.heap.size w w' := by
  by_cases h0 : left = 0
  · rw [if_pos h0]
    go_enter Tryz.func45, Tryz.ntmps45
    go_wp2_with fail
    exact bodyPost_ret (v := .tuple #[.agg #[.slice B n2 c2, .int .i64 left], .int .i64 18]) (by simp [results, Tryz.results45, go_sem, h0]) rfl ⟨rfl, ((Below.refl _ _).alloc (Nat.le_refl _) _).alloc (by simp) _⟩
  · rw [if_neg h0]
    by_cases h1 : 0 < left
    · rw [if_pos h1]
      have hw : IntKind.i64.wrap (left - 1) = left - 1 := IntWalk.i64_in _ (by constructor <;> omega)
      go_enter Tryz.func45, Tryz.ntmps45
      go_wp2_with fail
      exact bodyPost_ret (v := .tuple #[.agg #[.slice A n c, .int .i64 (left - 1)], .int .i64 0]) (by simp [results, Tryz.results45, go_sem]) rfl ⟨rfl, ((Below.refl _ _).alloc (Nat.le_refl _) _).alloc (by simp) _⟩
    · rw [if_neg h1]
      go_enter Tryz.func45, Tryz.ntmps45
      go_wp2_with fail
      exact bodyPost_ret (v := .tuple #[.agg #[.slice A n c, .int .i64 left], .int .i64 0]) (by simp [results, Tryz.results45, go_sem]) rfl ⟨rfl, ((Below.refl _ _).alloc (Nat.le_refl _) _).alloc (by simp) _⟩
end Go.Proofs.YtehpapoboeejkaaGreat
/- The reference's disk as a row of files: Budget. -/
namespace Go.Proofs.YtehpapoboeejkaaGreat
open Go.RowKit Go.Maps
set_option maxRecDepth 100000 in
theorem budget07m_any (w : World) (A : Option Addr) (n c : Nat) (left x : Int) :
    Calls Tryz.prog 15 #[.agg #[.slice A n c, .int .i64 left], .int .i64 x] w fun e w' => e = .returned (.agg #[.slice A n c, .int .i64 (if x < 0 then -1 else x)]) ∧ Below w.heap.size w w' := by
  by_cases h0 : x < 0
  · rw [if_pos h0]
    go_enter Tryz.func15, Tryz.ntmps15
    go_wp2_with fail
    exact bodyPost_ret (v := .agg #[.slice A n c, .int .i64 (-1)]) (by simp [results, Tryz.results15, go_sem]) rfl ⟨rfl, ((Below.refl _ _).alloc (Nat.le_refl _) _).alloc (by simp) _⟩
  · rw [if_neg h0]
    go_enter Tryz.func15, Tryz.ntmps15
    go_wp2_with fail
    exact bodyPost_ret (v := .agg #[.slice A n c, .int .i64 x]) (by simp [results, Tryz.results15, go_sem]) rfl ⟨rfl, ((Below.refl _ _).alloc (Nat.le_refl _) _).alloc (by simp) _⟩
end Go.Proofs.YtehpapoboeejkaaGreat
/- The reference's Append, Sync, Rename, Remove at any list of files. -/
namespace Go.Proofs.YtehpapoboeejkaaGreat
open Go.RowKit Go.Maps
/-- what pass leaves of two lists -/
def PassIs (B : Option Addr) (n2 c2 : Nat) (left : Int) (A : Option Addr) (n c : Nat) (pa : Option Addr) (pn pc : Nat) (pl pe : Int) : Prop :=
  (left = 0 ∧ pa = B ∧ pn = n2 ∧ pc = c2 ∧ pl = left ∧ pe = 18) ∨ (left ≠ 0 ∧ pa = A ∧ pn = n ∧ pc = c ∧ pl = (if 0 < left then left - 1 else left) ∧ pe = 0)
theorem pass07v_any (w : World) (B : Option Addr) (n2 c2 : Nat) (left : Int) (hle : -1 ≤ left ∧ left ≤ 9223372036854775807) (A : Option Addr) (n c : Nat) :
    Calls Tryz.prog 45 #[.agg #[.slice B n2 c2, .int .i64 left], .slice A n c] w fun e w' => ∃ pa pn pc pl pe, e = .returned (.tuple #[.agg #[.slice pa pn pc, .int .i64 pl], .int .i64 pe]) ∧ PassIs B n2 c2 left A n c pa pn pc pl pe ∧ Below w.heap.size w w' :=
  (pass07m_any w B n2 c2 left hle A n c).mono fun e w' ⟨h, hb⟩ => by
    by_cases h0 : left = 0
    · rw [if_pos h0] at h; exact ⟨B, n2, c2, left, 18, h, .inl ⟨h0, rfl, rfl, rfl, rfl, rfl⟩, hb⟩
    · rw [if_neg h0] at h; exact ⟨A, n, c, _, 0, h, .inr ⟨h0, rfl, rfl, rfl, rfl, rfl⟩, hb⟩
/-- what the reference's writing calls answer -/
def RPost (w : World) (A : Option Addr) (M' : Tab FileE) (left' err : Int) (e : Ending) (w' : World) : Prop :=
  ∃ A' c', e = .returned (.tuple #[.agg #[.slice A' M'.length c', .int .i64 left'], .int .i64 err]) ∧ Rd w' 3 A' M'.length (rfsV M') ∧ Below w.heap.size w w' ∧ ∀ q, blockOf A' = some q → blockOf A = some q ∨ w.heap.size ≤ q ∧ q < w'.heap.size
theorem pass_post {w F : World} {M L1 M' : Tab FileE} {A A4 pa : Option Addr} {N c n1 c4 pn pc : Nat} {left pl pe left' err : Int} (hP : PassIs A N c left A4 n1 c4 pa pn pc pl pe) (hN : N = M.length) (hn1 : n1 = L1.length)
    (hr : Rd w 3 A M.length (rfsV M)) {B0 : Nat} (ho : Own F B0 88 3 A4 n1 c4 (rfsV L1)) (hB0 : w.heap.size ≤ B0) (hb : Below w.heap.size w F) (hM : M' = if left = 0 then M else L1) (hl : left' = if 0 < left then left - 1 else left) (he : err = if left = 0 then 18 else 0) :
    RPost w A M' left' err (.returned (.tuple #[.agg #[.slice pa pn pc, .int .i64 pl], .int .i64 pe])) F := by
  rcases hP with ⟨h0, rfl, rfl, rfl, rfl, rfl⟩ | ⟨h0, rfl, rfl, rfl, rfl, rfl⟩
  · rw [if_pos h0] at hM he
    rw [if_neg (by omega)] at hl
    subst hM he hl hN
    exact ⟨pa, pc, rfl, hr.below_all hb, hb, fun _ h => .inl h⟩
  · rw [if_neg h0] at hM he
    subst hM he hl hn1
    exact ⟨pa, pc, rfl, ho.rd, hb, fun q hq => .inr ⟨Nat.le_trans hB0 (ho.block q hq).1, (ho.block q hq).2.1⟩⟩
theorem ends_post {w F : World} {M : Tab FileE} {A : Option Addr} {N c : Nat} {left err : Int} (hN : N = M.length) (hr : Rd w 3 A M.length (rfsV M)) (hb : Below w.heap.size w F) {M' : Tab FileE} {left' err' : Int} (hM : M' = M) (hl : left' = left) (he : err' = err) :
    RPost w A M' left' err' (.returned (.tuple #[.agg #[.slice A N c, .int .i64 left], .int .i64 err])) F := by
  subst hM hl he hN
  exact ⟨A, c, rfl, hr.below_all hb, hb, fun _ h => .inl h⟩
theorem begin_none {M : Tab FileE} {left : Int} {there : Bool} {ns : List ByteArray} {k : List UInt8} (h : ns.any (fun s => s.data.toList.isEmpty) = true) : beginE M left there ns k = 1 := by
  unfold beginE
  rw [if_pos h]
theorem begin_ten {M : Tab FileE} {left : Int} {ns : List ByteArray} {k : List UInt8} (h : ns.any (fun s => s.data.toList.isEmpty) = false) (hg : getM M k = none) : beginE M left true ns k = 10 := by
  unfold beginE
  rw [if_neg (by rw [h]; decide), if_pos (by rw [hg]; rfl)]
theorem begin_goes {M : Tab FileE} {left : Int} {there : Bool} {ns : List ByteArray} {k : List UInt8} (h : ns.any (fun s => s.data.toList.isEmpty) = false) (hg : there = true → getM M k ≠ none) : beginE M left there ns k = if left = 0 then 18 else 0 := by
  unfold beginE
  rw [if_neg (by rw [h]; decide), if_neg]
  intro hh
  rw [Bool.and_eq_true] at hh
  exact hg hh.1 (by simpa using hh.2)
theorem beginL_same {M : Tab FileE} {left : Int} {there : Bool} {ns : List ByteArray} {k : List UInt8} {E : Int} (h : beginE M left there ns k = E) (hE : E ≠ 0) : beginL M left there ns k = left := by
  unfold beginL
  rw [if_neg (fun hh => hE (by rw [← h]; exact hh.1))]
theorem beginL_goes {M : Tab FileE} {left : Int} {there : Bool} {ns : List ByteArray} {k : List UInt8} (h : beginE M left there ns k = if left = 0 then 18 else 0) : beginL M left there ns k = if 0 < left then left - 1 else left := by
  unfold beginL
  rw [h]
  by_cases h0 : left = 0
  · rw [if_pos h0, if_neg (by omega), if_neg (by omega)]
  · rw [if_neg h0]
    by_cases h1 : 0 < left
    · rw [if_pos ⟨rfl, h1⟩, if_pos h1]
    · rw [if_neg (fun h => h1 h.2), if_neg h1]
theorem any_one {k : List UInt8} : [strB k].any (fun s => s.data.toList.isEmpty) = k.isEmpty := by simp only [List.any_cons, List.any_nil, Bool.or_false, strB_list]
theorem any_two {k k2 : List UInt8} : [strB k, strB k2].any (fun s => s.data.toList.isEmpty) = (k.isEmpty || k2.isEmpty) := by simp only [List.any_cons, List.any_nil, Bool.or_false, strB_list]
theorem file_of_get {M : Tab FileE} {k : List UInt8} {f : FileE} (h : getM M k = some f) : fileOf M k = f := by unfold fileOf; rw [h]; rfl
theorem file_of_no {M : Tab FileE} {k : List UInt8} (h : getM M k = none) : fileOf M k = ([], 0) := by unfold fileOf; rw [h]; rfl
set_option maxRecDepth 100000 in
set_option maxHeartbeats 4000000 in
theorem append07m_any (w : World) (A : Option Addr) (c : Nat) (M : Tab FileE) (left : Int) (hr : Rd w 3 A M.length (rfsV M)) (hl : M.length ≤ 1000000) (hri : Rises M) (hle : -1 ≤ left ∧ left ≤ 9223372036854775807) (s d : ByteArray) (hd : d.size ≤ 1000000000) (hf : (fileOf M s.data.toList).1.length ≤ 1000000000) :
    Calls Tryz.prog 19 #[.agg #[.slice A M.length c, .int .i64 left], .string s, .string d] w (RPost w A (appM M left s.data.toList d.data.toList) (beginL M left false [strB s.data.toList] s.data.toList) (beginE M left false [strB s.data.toList] s.data.toList)) := by
  obtain ⟨N, hN⟩ : ∃ N, N = M.length := ⟨_, rfl⟩
  have HR := hid2 hr
  have HN := hid2 hN
  by_cases h1 : s.toList.isEmpty = true
  · have h1s : s.data.toList.isEmpty = true := by rw [← ByteArray.toList_eq]; exact h1
    have hE : beginE M left false [strB s.data.toList] s.data.toList = 1 := begin_none (by rw [any_one, h1s])
    have hM : appM M left s.data.toList d.data.toList = M := by unfold appM; rw [if_neg (by rw [hE]; decide)]
    have hL := beginL_same hE (by decide)
    have HP := fun (F : World) (hb : Below w.heap.size w F) => ends_post (c := c) (left := left) (err := 1) hN hr hb hM hL hE
    have HPP := hid2 HP
    clear hE hM hL HP hN hr hri hle hl hd hf
    clear h1s
    rw [← HN.out]
    go_enter Tryz.func19, Tryz.ntmps19
    go_wp2_with fail
    refine bodyPost_ret (v := .tuple #[.agg #[.slice A N c, .int .i64 left], .int .i64 1]) (by simp [results, Tryz.results19, go_sem]) rfl ?_
    exact HPP.out _ (((Below.refl _ _).alloc (Nat.le_refl _) _).alloc (by simp) _)
  have h2 : s.toList.isEmpty = false := by simpa using h1
  have h2s : s.data.toList.isEmpty = false := by rw [← ByteArray.toList_eq]; exact h2
  have hany : [strB s.data.toList].any (fun s => s.data.toList.isEmpty) = false := by rw [any_one, h2s]
  clear h1 h2s
  obtain ⟨g, hg⟩ : ∃ g, g = w.heap.size := ⟨_, rfl⟩
  obtain ⟨W3, hW3⟩ : ∃ W3, W3 = (((w.alloc (.cells #[.slice A N c, .int .i64 left] 30)).alloc (.cells #[.slice none 0 0, .int .i64 0] 30)).alloc (.cells #[.string s, .string ⟨#[]⟩, .int .i64 0] 88)) := ⟨_, rfl⟩
  have z3 : W3.heap.size = g + 3 := by rw [hW3, hg]; simp
  have b0 : Box W3 (g) [.slice A N c, .int .i64 left] := by rw [hW3]; exact (((Box.new' _ _ _ (by simp [hg])).alloc _).alloc _)
  have b1 : Box W3 (g + 1) [.slice none 0 0, .int .i64 0] := by rw [hW3]; exact ((Box.new' _ _ _ (by simp [hg])).alloc _)
  have b2 : Box W3 (g + 1 + 1) [.string s, .string ⟨#[]⟩, .int .i64 0] := by rw [hW3]; exact (Box.new' _ _ _ (by simp [hg]))
  have hbW : Below g w W3 := by rw [hW3, hg]; exact ((((Below.refl _ _).alloc (by simp) _).alloc (by simp) _).alloc (by simp; omega) _)
  have HW3 := hid2 hW3
  have HG := hid2 hg
  obtain ⟨v, hv⟩ := AtIs.ex M s.data.toList
  have hat := fun (W : World) (hb : Below w.heap.size w W) => at07v_any W A c M left (hr.below_all hb) (by omega) hri s hv
  rw [← hN] at hat
  have HAT := hid2 hat
  clear hat hW3
  have hv0 := hv
  rcases hv0 with ⟨i, x, hi, hx, rfl⟩ | ⟨rfl, hno⟩
  · have hget : getM M s.data.toList = some x.2 := by rw [← hx]; exact getM_at hri hi
    have hE := begin_goes (left := left) (there := false) hany (M := M) (k := s.data.toList) (fun h => by cases h)
    have hL := beginL_goes hE
    have hM : appM M left s.data.toList d.data.toList = if left = 0 then M else putM M s.data.toList ((fileOf M s.data.toList).1 ++ d.data.toList, (fileOf M s.data.toList).2) := by
      unfold appM
      rw [hE]
      by_cases h0 : left = 0
      · rw [if_pos h0, if_pos h0, if_neg (by decide)]
      · rw [if_neg h0, if_neg h0, if_pos rfl]
    obtain ⟨L1, hL1⟩ : ∃ L1, L1 = putM M s.data.toList ((fileOf M s.data.toList).1 ++ d.data.toList, (fileOf M s.data.toList).2) := ⟨_, rfl⟩
    obtain ⟨n1, hn1⟩ : ∃ n1, n1 = L1.length := ⟨_, rfl⟩
    rw [← hL1] at hM
    have hpp := fun (F : World) (hb : Below w.heap.size w F) (A4 pa : Option Addr) (c4 pn pc : Nat) (pl pe : Int) (hP : PassIs A N c left A4 n1 c4 pa pn pc pl pe) (B0 : Nat) (ho : Own F B0 88 3 A4 n1 c4 (rfsV L1)) (hB0 : w.heap.size ≤ B0) => pass_post (L1 := L1) hP hN hn1 hr ho hB0 hb hM hL hE
    rw [← hg] at hpp
    have HPP := hid2 hpp
    obtain ⟨X, hX⟩ : ∃ X, X = strB ((fileOf M s.data.toList).1 ++ d.data.toList) := ⟨_, rfl⟩
    obtain ⟨U, hU⟩ : ∃ U : Nat, U = (fileOf M s.data.toList).2 := ⟨_, rfl⟩
    have hwith := fun (W : World) (hb : Below g w W) => with07m_any W A c M left (hr.below_all (by rw [← hg]; exact hb)) (by omega) hri s X U
    rw [show putM M s.data.toList (X.data.toList, U) = L1 by rw [hL1, hX, hU, strB_list], ← hn1, ← hN] at hwith
    have HWITH := hid2 hwith
    have hiN : i < N := by rw [hN]; exact (List.getElem?_eq_some_iff.1 hi).1
    have hiN2 : (i : Int) < N := by omega
    have hi0 : ¬ (i : Int) < 0 := by omega
    have hi1 : (0 : Int) ≤ i := by omega
    obtain ⟨S0, hS0⟩ : ∃ S0, S0 = strB x.1 := ⟨_, rfl⟩
    obtain ⟨T, hT⟩ : ∃ T, T = strB x.2.1 := ⟨_, rfl⟩
    obtain ⟨U0, hU0⟩ : ∃ U0 : Nat, U0 = x.2.2 := ⟨_, rfl⟩
    have hS0s : S0 = s := by rw [hS0, hx, strB_of]
    subst hS0s
    obtain ⟨b, o, rfl, _⟩ := rf_cells hr hi
    have hcell := fun (w2 : World) (hb : Below g w w2) => show w2.cell? ⟨b, o + i * 3, none⟩ = some (.string S0) ∧ w2.cell? ⟨b, o + i * 3 + 1, none⟩ = some (.string T) ∧ w2.cell? ⟨b, o + i * 3 + 2, none⟩ = some (.int .i64 U0) ∧ b < g by
      obtain ⟨b2, o2, e, q0, q1, q2⟩ := rf_cells (hr.below_all (by rw [← hg]; exact hb)) hi
      obtain ⟨rfl, rfl⟩ : b = b2 ∧ o = o2 := by simpa using e
      rw [hS0, hT, hU0]
      refine ⟨q0, q1, q2, ?_⟩
      obtain ⟨b3, o3, e3, q3, _, _⟩ := rf_cells hr hi
      obtain ⟨rfl, rfl⟩ : b = b3 ∧ o = o3 := by simpa using e3
      rw [hg]
      exact World.block_lt_of_cell? w _ q3
    have HCELL := hid2 hcell
    have hX2 : T ++ d = X := by rw [hX, hT, file_of_get hget, ← strB_append, strB_of]
    have hU2 : U0 = U := by rw [hU, file_of_get hget, hU0]
    subst hU2
    have hTs : T.size ≤ 1000000000 := by rw [hT, strB_size]; rw [file_of_get hget] at hf; exact hf
    have hadd : ¬ (T.size + d.size > 9223372036854775807) := by omega
    have hpass := fun (W : World) (A4 : Option Addr) (c4 : Nat) => pass07v_any W (some ⟨b, o, none⟩) N c left hle A4 n1 c4
    have HPASS := hid2 hpass
    have HX2 := hid2 hX2
    clear hE hL hM hL1 hn1 hpp hpass hr hri hle hl hN hg hget hany hv hwith hX hU hi hx hS0 hT hU0 hcell hX2 hf
    rw [HN.out.symm]
    go_enter Tryz.func19, Tryz.ntmps19
    go_wp2_with (go_at_call 44; rw [← HW3.out, ← HG.out]; refine (HAT.out _ (by rw [← HG.out]; exact hbW)).mono ?_; rintro e w2 ⟨rfl, hb2⟩; have k0 := b0.below_all hb2; have k1 := b1.below_all hb2; have k2 := b2.below_all hb2; have hbw2 := hbW.trans (hb2.mono (show g ≤ W3.heap.size by omega)); have hz2 := hb2.size; rw [z3] at hz2; have c0 : w2.cell? ⟨g, 0, none⟩ = some (.slice (some ⟨b, o, none⟩) N c) := k0.cells 0; have c1 : w2.cell? ⟨g, 1, none⟩ = some (.int .i64 left) := k0.cells 1; have c4 : w2.cell? ⟨g + 1 + 1, 0, none⟩ = some (.string S0) := k2.cells 0; have c5 : w2.cell? ⟨g + 1 + 1, 1, none⟩ = some (.string ⟨#[]⟩) := k2.cells 1; have c6 : w2.cell? ⟨g + 1 + 1, 2, none⟩ = some (.int .i64 0) := k2.cells 2; have zf0 : w2.frozen? ⟨g + 1 + 1, 0, none⟩ = false := k2.free 0; have zf1 : w2.frozen? ⟨g + 1 + 1, 1, none⟩ = false := k2.free 1; have zf2 : w2.frozen? ⟨g + 1 + 1, 2, none⟩ = false := k2.free 2; obtain ⟨q0, q1, q2, hbg⟩ := HCELL.out w2 hbw2; have K0 := hid2 k0; have K1 := hid2 k1; have K2 := hid2 k2; clear b0 b1 k0 k1 hb2 hbW b2 k2)
    rw [HX2.out]
    generalize hW : World.setCell _ _ _ = W
    have r2 : Box W (g + 1 + 1) [.string S0, .string X, .int .i64 U0] := by rw [← hW]; exact (((K2.out.set 0 _).set 1 _).set 2 _).set 1 _
    have r0 : Box W g [.slice (some ⟨b, o, none⟩) N c, .int .i64 left] := by rw [← hW]; exact (((K0.out.other (show _ ≠ g + 1 + 1 by omega) _).other (show _ ≠ g + 1 + 1 by omega) _).other (show _ ≠ g + 1 + 1 by omega) _).other (show _ ≠ g + 1 + 1 by omega) _
    have r1 : Box W (g + 1) [.slice none 0 0, .int .i64 0] := by rw [← hW]; exact (((K1.out.other (show _ ≠ g + 1 + 1 by omega) _).other (show _ ≠ g + 1 + 1 by omega) _).other (show _ ≠ g + 1 + 1 by omega) _).other (show _ ≠ g + 1 + 1 by omega) _
    have hbw : Below g w W := by rw [← hW]; exact (((hbw2.setCell (show g ≤ g + 1 + 1 by omega) _).setCell (show g ≤ g + 1 + 1 by omega) _).setCell (show g ≤ g + 1 + 1 by omega) _).setCell (show g ≤ g + 1 + 1 by omega) _
    have hzW : g + 3 ≤ W.heap.size := by rw [← hW]; simpa [World.setCell] using hz2
    clear hW c4 c5 c6 zf0 zf1 zf2 c0 c1 hbw2 hz2 q0 q1 q2
    have sr00 : W.cell? ⟨g, 0, none⟩ = some (.slice (some ⟨b, o, none⟩) N c) := r0.cells 0
    have sr01 : W.cell? ⟨g, 1, none⟩ = some (.int .i64 left) := r0.cells 1
    have sr20 : W.cell? ⟨g + 1 + 1, 0, none⟩ = some (.string S0) := r2.cells 0
    have sr21 : W.cell? ⟨g + 1 + 1, 1, none⟩ = some (.string X) := r2.cells 1
    have sr22 : W.cell? ⟨g + 1 + 1, 2, none⟩ = some (.int .i64 U0) := r2.cells 2
    have KS := hid2 (fun (w4 : World) (h : Below W.heap.size W w4) => show w4.cell? ⟨g, 0, none⟩ = some (.slice (some ⟨b, o, none⟩) N c) ∧ w4.cell? ⟨g, 1, none⟩ = some (.int .i64 left) ∧ w4.cell? ⟨g + 1 + 1, 0, none⟩ = some (.string S0) ∧ w4.cell? ⟨g + 1 + 1, 1, none⟩ = some (.string X) ∧ w4.cell? ⟨g + 1 + 1, 2, none⟩ = some (.int .i64 U0) from ⟨(r0.below_all h).cells 0, (r0.below_all h).cells 1, (r2.below_all h).cells 0, (r2.below_all h).cells 1, (r2.below_all h).cells 2⟩)
    have R1 := hid2 r1
    clear r0 r2 r1 K0 K1 K2
    go_region_held3 (fun w' => w'.cell? ⟨g, 0, none⟩ = some (.slice (some ⟨b, o, none⟩) N c) ∧ w'.cell? ⟨g, 1, none⟩ = some (.int .i64 left) ∧ w'.cell? ⟨g + 1 + 1, 0, none⟩ = some (.string S0) ∧ w'.cell? ⟨g + 1 + 1, 1, none⟩ = some (.string X) ∧ w'.cell? ⟨g + 1 + 1, 2, none⟩ = some (.int .i64 U0)) (first | exact KS.out _ hb5' | exact KS.out _ hb4' | exact KS.out _ hb3' | go_keep) (first
      | (go_at_call 46; refine (HWITH.out _ hbw.drew).mono ?_; rintro e w4 ⟨A4, c4, rfl, ho4, hb4⟩; have hb4' : Below W.heap.size W w4 := (Below.refl W.heap.size W).drew.trans hb4; have ho4' : Hid2 (Own w4 W.heap.size 88 3 A4 n1 c4 (rfsV L1)) := hid2 ho4; clear ho4 hb4)
      | (go_at_call 45; refine (HPASS.out _ A4 c4).mono ?_; rintro e w5 ⟨pa, pn, pc, pl, pe, rfl, hP, hb5⟩; have hb5' : Below W.heap.size W w5 := hb4'.trans (hb5.mono hb4'.size); have r5 := R1.out.below_all hb5'; have c10 : w5.cell? ⟨g + 1, 0, none⟩ = some (.slice none 0 0) := r5.cells 0; have c11 : w5.cell? ⟨g + 1, 1, none⟩ = some (.int .i64 0) := r5.cells 1; have z10 : w5.frozen? ⟨g + 1, 0, none⟩ = false := r5.free 0; have z11 : w5.frozen? ⟨g + 1, 1, none⟩ = false := r5.free 1; have ho5 := hid2 (ho4'.out.below hb5 (Nat.le_refl _)); have HP := hid2 hP; clear r5 hP hb5))
    go_wp2_with fail
    refine bodyPost_ret (v := .tuple #[.agg #[.slice pa pn pc, .int .i64 pl], .int .i64 pe]) (by simp [results, Tryz.results19, go_sem, c10, c11]) rfl ?_
    have hne : blockOf A4 ≠ some (g + 1) := fun e => by have := (ho5.out.block _ e).1; omega
    exact HPP.out _ ((hbw.trans (hb5'.mono (show g ≤ W.heap.size by omega))).setCell (show g ≤ g + 1 by omega) _ |>.setCell (show g ≤ g + 1 by omega) _) A4 pa c4 pn pc pl pe HP.out _ ((ho5.out.setOther (p := ⟨g + 1, 0, none⟩) hne _).setOther (p := ⟨g + 1, 1, none⟩) hne _) (show g ≤ W.heap.size by omega)
  · have hget := getM_no hno
    have hE := begin_goes (left := left) (there := false) hany (M := M) (k := s.data.toList) (fun h => by cases h)
    have hL := beginL_goes hE
    have hM : appM M left s.data.toList d.data.toList = if left = 0 then M else putM M s.data.toList ((fileOf M s.data.toList).1 ++ d.data.toList, (fileOf M s.data.toList).2) := by
      unfold appM
      rw [hE]
      by_cases h0 : left = 0
      · rw [if_pos h0, if_pos h0, if_neg (by decide)]
      · rw [if_neg h0, if_neg h0, if_pos rfl]
    obtain ⟨L1, hL1⟩ : ∃ L1, L1 = putM M s.data.toList ((fileOf M s.data.toList).1 ++ d.data.toList, (fileOf M s.data.toList).2) := ⟨_, rfl⟩
    obtain ⟨n1, hn1⟩ : ∃ n1, n1 = L1.length := ⟨_, rfl⟩
    rw [← hL1] at hM
    have hpp := fun (F : World) (hb : Below w.heap.size w F) (A4 pa : Option Addr) (c4 pn pc : Nat) (pl pe : Int) (hP : PassIs A N c left A4 n1 c4 pa pn pc pl pe) (B0 : Nat) (ho : Own F B0 88 3 A4 n1 c4 (rfsV L1)) (hB0 : w.heap.size ≤ B0) => pass_post (L1 := L1) hP hN hn1 hr ho hB0 hb hM hL hE
    rw [← hg] at hpp
    have HPP := hid2 hpp
    obtain ⟨X, hX⟩ : ∃ X, X = strB ((fileOf M s.data.toList).1 ++ d.data.toList) := ⟨_, rfl⟩
    obtain ⟨U, hU⟩ : ∃ U : Nat, U = (fileOf M s.data.toList).2 := ⟨_, rfl⟩
    have hwith := fun (W : World) (hb : Below g w W) => with07m_any W A c M left (hr.below_all (by rw [← hg]; exact hb)) (by omega) hri s X U
    rw [show putM M s.data.toList (X.data.toList, U) = L1 by rw [hL1, hX, hU, strB_list], ← hn1, ← hN] at hwith
    have HWITH := hid2 hwith
    have hX2 : (⟨#[]⟩ : ByteArray) ++ d = X := by rw [hX, file_of_no hget, ← strB_append, strB_of]; rfl
    have hU2 : 0 = U := by rw [hU, file_of_no hget]
    subst hU2
    have hadd : ¬ ((0 : Nat) + d.size > 9223372036854775807) := by omega
    have hpass := fun (W : World) (A4 : Option Addr) (c4 : Nat) => pass07v_any W A N c left hle A4 n1 c4
    have HPASS := hid2 hpass
    have HX2 := hid2 hX2
    clear hE hL hM hL1 hn1 hpp hpass hr hri hle hl hN hg hget hany hv hwith hX hU hX2 hf hno
    rw [HN.out.symm]
    go_enter Tryz.func19, Tryz.ntmps19
    go_wp2_with (go_at_call 44; rw [← HW3.out, ← HG.out]; refine (HAT.out _ (by rw [← HG.out]; exact hbW)).mono ?_; rintro e w2 ⟨rfl, hb2⟩; have k0 := b0.below_all hb2; have k1 := b1.below_all hb2; have k2 := b2.below_all hb2; have hbw2 := hbW.trans (hb2.mono (show g ≤ W3.heap.size by omega)); have hz2 := hb2.size; rw [z3] at hz2; have c0 : w2.cell? ⟨g, 0, none⟩ = some (.slice A N c) := k0.cells 0; have c1 : w2.cell? ⟨g, 1, none⟩ = some (.int .i64 left) := k0.cells 1; have c4 : w2.cell? ⟨g + 1 + 1, 0, none⟩ = some (.string s) := k2.cells 0; have c5 : w2.cell? ⟨g + 1 + 1, 1, none⟩ = some (.string ⟨#[]⟩) := k2.cells 1; have c6 : w2.cell? ⟨g + 1 + 1, 2, none⟩ = some (.int .i64 0) := k2.cells 2; have zf0 : w2.frozen? ⟨g + 1 + 1, 0, none⟩ = false := k2.free 0; have zf1 : w2.frozen? ⟨g + 1 + 1, 1, none⟩ = false := k2.free 1; have zf2 : w2.frozen? ⟨g + 1 + 1, 2, none⟩ = false := k2.free 2; have K0 := hid2 k0; have K1 := hid2 k1; have K2 := hid2 k2; clear b0 b1 k0 k1 hb2 hbW b2 k2)
    rw [HX2.out]
    generalize hW : World.setCell _ _ _ = W
    have r2 : Box W (g + 1 + 1) [.string s, .string X, .int .i64 0] := by rw [← hW]; exact K2.out.set 1 _
    have r0 : Box W g [.slice A N c, .int .i64 left] := by rw [← hW]; exact K0.out.other (show _ ≠ g + 1 + 1 by omega) _
    have r1 : Box W (g + 1) [.slice none 0 0, .int .i64 0] := by rw [← hW]; exact K1.out.other (show _ ≠ g + 1 + 1 by omega) _
    have hbw : Below g w W := by rw [← hW]; exact hbw2.setCell (show g ≤ g + 1 + 1 by omega) _
    have hzW : g + 3 ≤ W.heap.size := by rw [← hW]; simpa [World.setCell] using hz2
    clear hW c4 c5 c6 zf0 zf1 zf2 c0 c1 hbw2 hz2
    have sr00 : W.cell? ⟨g, 0, none⟩ = some (.slice A N c) := r0.cells 0
    have sr01 : W.cell? ⟨g, 1, none⟩ = some (.int .i64 left) := r0.cells 1
    have sr20 : W.cell? ⟨g + 1 + 1, 0, none⟩ = some (.string s) := r2.cells 0
    have sr21 : W.cell? ⟨g + 1 + 1, 1, none⟩ = some (.string X) := r2.cells 1
    have sr22 : W.cell? ⟨g + 1 + 1, 2, none⟩ = some (.int .i64 0) := r2.cells 2
    have KS := hid2 (fun (w4 : World) (h : Below W.heap.size W w4) => show w4.cell? ⟨g, 0, none⟩ = some (.slice A N c) ∧ w4.cell? ⟨g, 1, none⟩ = some (.int .i64 left) ∧ w4.cell? ⟨g + 1 + 1, 0, none⟩ = some (.string s) ∧ w4.cell? ⟨g + 1 + 1, 1, none⟩ = some (.string X) ∧ w4.cell? ⟨g + 1 + 1, 2, none⟩ = some (.int .i64 0) from ⟨(r0.below_all h).cells 0, (r0.below_all h).cells 1, (r2.below_all h).cells 0, (r2.below_all h).cells 1, (r2.below_all h).cells 2⟩)
    have R1 := hid2 r1
    clear r0 r2 r1 K0 K1 K2
    go_region_held3 (fun w' => w'.cell? ⟨g, 0, none⟩ = some (.slice A N c) ∧ w'.cell? ⟨g, 1, none⟩ = some (.int .i64 left) ∧ w'.cell? ⟨g + 1 + 1, 0, none⟩ = some (.string s) ∧ w'.cell? ⟨g + 1 + 1, 1, none⟩ = some (.string X) ∧ w'.cell? ⟨g + 1 + 1, 2, none⟩ = some (.int .i64 0)) (first | exact KS.out _ hb5' | exact KS.out _ hb4' | exact KS.out _ hb3' | go_keep) (first
      | (go_at_call 46; refine (HWITH.out _ hbw.drew).mono ?_; rintro e w4 ⟨A4, c4, rfl, ho4, hb4⟩; have hb4' : Below W.heap.size W w4 := (Below.refl W.heap.size W).drew.trans hb4; have ho4' : Hid2 (Own w4 W.heap.size 88 3 A4 n1 c4 (rfsV L1)) := hid2 ho4; clear ho4 hb4)
      | (go_at_call 45; refine (HPASS.out _ A4 c4).mono ?_; rintro e w5 ⟨pa, pn, pc, pl, pe, rfl, hP, hb5⟩; have hb5' : Below W.heap.size W w5 := hb4'.trans (hb5.mono hb4'.size); have r5 := R1.out.below_all hb5'; have c10 : w5.cell? ⟨g + 1, 0, none⟩ = some (.slice none 0 0) := r5.cells 0; have c11 : w5.cell? ⟨g + 1, 1, none⟩ = some (.int .i64 0) := r5.cells 1; have z10 : w5.frozen? ⟨g + 1, 0, none⟩ = false := r5.free 0; have z11 : w5.frozen? ⟨g + 1, 1, none⟩ = false := r5.free 1; have ho5 := hid2 (ho4'.out.below hb5 (Nat.le_refl _)); have HP := hid2 hP; clear r5 hP hb5))
    go_wp2_with fail
    refine bodyPost_ret (v := .tuple #[.agg #[.slice pa pn pc, .int .i64 pl], .int .i64 pe]) (by simp [results, Tryz.results19, go_sem, c10, c11]) rfl ?_
    have hne : blockOf A4 ≠ some (g + 1) := fun e => by have := (ho5.out.block _ e).1; omega
    exact HPP.out _ ((hbw.trans (hb5'.mono (show g ≤ W.heap.size by omega))).setCell (show g ≤ g + 1 by omega) _ |>.setCell (show g ≤ g + 1 by omega) _) A4 pa c4 pn pc pl pe HP.out _ ((ho5.out.setOther (p := ⟨g + 1, 0, none⟩) hne _).setOther (p := ⟨g + 1, 1, none⟩) hne _) (show g ≤ W.heap.size by omega)
set_option maxRecDepth 100000 in
set_option maxHeartbeats 4000000 in
theorem sync07m_any (w : World) (A : Option Addr) (c : Nat) (M : Tab FileE) (left : Int) (hr : Rd w 3 A M.length (rfsV M)) (hl : M.length ≤ 1000000) (hri : Rises M) (hle : -1 ≤ left ∧ left ≤ 9223372036854775807) (s : ByteArray) (hf : (fileOf M s.data.toList).1.length ≤ 1000000000) :
    Calls Tryz.prog 38 #[.agg #[.slice A M.length c, .int .i64 left], .string s] w (RPost w A (syncM M left s.data.toList) (beginL M left true [strB s.data.toList] s.data.toList) (beginE M left true [strB s.data.toList] s.data.toList)) := by
  obtain ⟨N, hN⟩ : ∃ N, N = M.length := ⟨_, rfl⟩
  have HR := hid2 hr
  have HN := hid2 hN
  by_cases h1 : s.toList.isEmpty = true
  · have h1s : s.data.toList.isEmpty = true := by rw [← ByteArray.toList_eq]; exact h1
    have hE : beginE M left true [strB s.data.toList] s.data.toList = 1 := begin_none (by rw [any_one, h1s])
    have hM : syncM M left s.data.toList = M := by unfold syncM; rw [if_neg (by rw [hE]; decide)]
    have hL := beginL_same hE (by decide)
    have HP := fun (F : World) (hb : Below w.heap.size w F) => ends_post (c := c) (left := left) (err := 1) hN hr hb hM hL hE
    have HPP := hid2 HP
    clear hE hM hL HP hN hr hri hle hl hf
    clear h1s
    rw [← HN.out]
    go_enter Tryz.func38, Tryz.ntmps38
    go_wp2_with fail
    refine bodyPost_ret (v := .tuple #[.agg #[.slice A N c, .int .i64 left], .int .i64 1]) (by simp [results, Tryz.results38, go_sem]) rfl ?_
    exact HPP.out _ (((Below.refl _ _).alloc (Nat.le_refl _) _).alloc (by simp) _)
  have h2 : s.toList.isEmpty = false := by simpa using h1
  have h2s : s.data.toList.isEmpty = false := by rw [← ByteArray.toList_eq]; exact h2
  have hany : [strB s.data.toList].any (fun s => s.data.toList.isEmpty) = false := by rw [any_one, h2s]
  clear h1 h2s
  obtain ⟨g, hg⟩ : ∃ g, g = w.heap.size := ⟨_, rfl⟩
  obtain ⟨W3, hW3⟩ : ∃ W3, W3 = ((w.alloc (.cells #[.slice A N c, .int .i64 left] 30)).alloc (.cells #[.slice none 0 0, .int .i64 0] 30)) := ⟨_, rfl⟩
  have z3 : W3.heap.size = g + 2 := by rw [hW3, hg]; simp
  have b0 : Box W3 (g) [.slice A N c, .int .i64 left] := by rw [hW3]; exact ((Box.new' _ _ _ (by simp [hg])).alloc _)
  have b1 : Box W3 (g + 1) [.slice none 0 0, .int .i64 0] := by rw [hW3]; exact (Box.new' _ _ _ (by simp [hg]))
  have hbW : Below g w W3 := by rw [hW3, hg]; exact (((Below.refl _ _).alloc (by simp) _).alloc (by simp) _)
  have HW3 := hid2 hW3
  have HG := hid2 hg
  obtain ⟨v, hv⟩ := AtIs.ex M s.data.toList
  have hat := fun (W : World) (hb : Below w.heap.size w W) => at07v_any W A c M left (hr.below_all hb) (by omega) hri s hv
  rw [← hN] at hat
  have HAT := hid2 hat
  clear hat hW3
  have hv0 := hv
  rcases hv0 with ⟨i, x, hi, hx, rfl⟩ | ⟨rfl, hno⟩
  · have hget : getM M s.data.toList = some x.2 := by rw [← hx]; exact getM_at hri hi
    have hE := begin_goes (left := left) (there := true) hany (M := M) (k := s.data.toList) (fun _ h => by rw [hget] at h; cases h)
    have hL := beginL_goes hE
    have hM : syncM M left s.data.toList = if left = 0 then M else putM M s.data.toList ((fileOf M s.data.toList).1, (fileOf M s.data.toList).1.length) := by
      unfold syncM
      rw [hE]
      by_cases h0 : left = 0
      · rw [if_pos h0, if_pos h0, if_neg (by decide)]
      · rw [if_neg h0, if_neg h0, if_pos rfl]
    obtain ⟨L1, hL1⟩ : ∃ L1, L1 = putM M s.data.toList ((fileOf M s.data.toList).1, (fileOf M s.data.toList).1.length) := ⟨_, rfl⟩
    obtain ⟨n1, hn1⟩ : ∃ n1, n1 = L1.length := ⟨_, rfl⟩
    rw [← hL1] at hM
    have hpp := fun (F : World) (hb : Below w.heap.size w F) (A4 pa : Option Addr) (c4 pn pc : Nat) (pl pe : Int) (hP : PassIs A N c left A4 n1 c4 pa pn pc pl pe) (B0 : Nat) (ho : Own F B0 88 3 A4 n1 c4 (rfsV L1)) (hB0 : w.heap.size ≤ B0) => pass_post (L1 := L1) hP hN hn1 hr ho hB0 hb hM hL hE
    rw [← hg] at hpp
    have HPP := hid2 hpp
    obtain ⟨X, hX⟩ : ∃ X, X = strB (fileOf M s.data.toList).1 := ⟨_, rfl⟩
    obtain ⟨U, hU⟩ : ∃ U : Nat, U = (fileOf M s.data.toList).1.length := ⟨_, rfl⟩
    have hwith := fun (W : World) (hb : Below g w W) => with07m_any W A c M left (hr.below_all (by rw [← hg]; exact hb)) (by omega) hri s X U
    rw [show putM M s.data.toList (X.data.toList, U) = L1 by rw [hL1, hX, hU, strB_list], ← hn1, ← hN] at hwith
    have HWITH := hid2 hwith
    have hiN : i < N := by rw [hN]; exact (List.getElem?_eq_some_iff.1 hi).1
    have hiN2 : (i : Int) < N := by omega
    have hi0 : ¬ (i : Int) < 0 := by omega
    have hi1 : (0 : Int) ≤ i := by omega
    obtain ⟨S0, hS0⟩ : ∃ S0, S0 = strB x.1 := ⟨_, rfl⟩
    obtain ⟨T, hT⟩ : ∃ T, T = strB x.2.1 := ⟨_, rfl⟩
    obtain ⟨U0, hU0⟩ : ∃ U0 : Nat, U0 = x.2.2 := ⟨_, rfl⟩
    have hS0s : S0 = s := by rw [hS0, hx, strB_of]
    subst hS0s
    obtain ⟨b, o, rfl, _⟩ := rf_cells hr hi
    have hcell := fun (w2 : World) (hb : Below g w w2) => show w2.cell? ⟨b, o + i * 3, none⟩ = some (.string S0) ∧ w2.cell? ⟨b, o + i * 3 + 1, none⟩ = some (.string T) ∧ w2.cell? ⟨b, o + i * 3 + 2, none⟩ = some (.int .i64 U0) ∧ b < g by
      obtain ⟨b2, o2, e, q0, q1, q2⟩ := rf_cells (hr.below_all (by rw [← hg]; exact hb)) hi
      obtain ⟨rfl, rfl⟩ : b = b2 ∧ o = o2 := by simpa using e
      rw [hS0, hT, hU0]
      refine ⟨q0, q1, q2, ?_⟩
      obtain ⟨b3, o3, e3, q3, _, _⟩ := rf_cells hr hi
      obtain ⟨rfl, rfl⟩ : b = b3 ∧ o = o3 := by simpa using e3
      rw [hg]
      exact World.block_lt_of_cell? w _ q3
    have HCELL := hid2 hcell
    have hX2 : T = X := by rw [hX, hT, file_of_get hget]
    subst hX2
    have hU2 : (T.size : Int) = (U : Int) := by rw [hU, hT, strB_size, file_of_get hget]
    have HU2 := hid2 hU2
    have hTs : (T.size : Int) ≤ 1000000000 := by rw [hT, strB_size]; rw [file_of_get hget] at hf; omega
    have hpass := fun (W : World) (A4 : Option Addr) (c4 : Nat) => pass07v_any W (some ⟨b, o, none⟩) N c left hle A4 n1 c4
    have HPASS := hid2 hpass
    clear hE hL hM hL1 hn1 hpp hpass hr hri hle hl hN hg hget hany hv hwith hX hU hi hx hS0 hT hU0 hcell hU2 hf
    rw [HN.out.symm]
    go_enter Tryz.func38, Tryz.ntmps38
    go_wp2_with (go_at_call 44; rw [← HW3.out, ← HG.out]; refine (HAT.out _ (by rw [← HG.out]; exact hbW)).mono ?_; rintro e w2 ⟨rfl, hb2⟩; have k0 := b0.below_all hb2; have k1 := b1.below_all hb2; have hbw2 := hbW.trans (hb2.mono (show g ≤ W3.heap.size by omega)); have hz2 := hb2.size; rw [z3] at hz2; have c0 : w2.cell? ⟨g, 0, none⟩ = some (.slice (some ⟨b, o, none⟩) N c) := k0.cells 0; have c1 : w2.cell? ⟨g, 1, none⟩ = some (.int .i64 left) := k0.cells 1; obtain ⟨q0, q1, q2, hbg⟩ := HCELL.out w2 hbw2; have K0 := hid2 k0; have K1 := hid2 k1; clear b0 b1 k0 k1 hb2 hbW)
    obtain ⟨G, hG⟩ : ∃ G, G = w2.heap.size := ⟨_, rfl⟩
    rw [← hG]
    generalize hW : World.alloc _ _ = W
    have hG1 : G ≠ g + 1 := by omega
    have hG2 : g + 1 ≠ G := by omega
    have r2 : Box W G [.string S0, .string T, .int .i64 U] := by rw [← hW, ← HU2.out]; exact Box.new' _ _ _ hG.symm
    have r0 : Box W g [.slice (some ⟨b, o, none⟩) N c, .int .i64 left] := by rw [← hW]; exact K0.out.alloc _
    have r1 : Box W (g + 1) [.slice none 0 0, .int .i64 0] := by rw [← hW]; exact K1.out.alloc _
    have hbw : Below g w W := by rw [← hW]; exact hbw2.alloc (by omega) _
    have hzW : g + 2 ≤ W.heap.size := by rw [← hW, World.size_alloc]; omega
    clear hG
    clear hW c0 c1 hbw2 hz2 q0 q1 q2
    have sr00 : W.cell? ⟨g, 0, none⟩ = some (.slice (some ⟨b, o, none⟩) N c) := r0.cells 0
    have sr01 : W.cell? ⟨g, 1, none⟩ = some (.int .i64 left) := r0.cells 1
    have sr20 : W.cell? ⟨G, 0, none⟩ = some (.string S0) := r2.cells 0
    have sr21 : W.cell? ⟨G, 1, none⟩ = some (.string T) := r2.cells 1
    have sr22 : W.cell? ⟨G, 2, none⟩ = some (.int .i64 U) := r2.cells 2
    have KS := hid2 (fun (w4 : World) (h : Below W.heap.size W w4) => show w4.cell? ⟨g, 0, none⟩ = some (.slice (some ⟨b, o, none⟩) N c) ∧ w4.cell? ⟨g, 1, none⟩ = some (.int .i64 left) ∧ w4.cell? ⟨G, 0, none⟩ = some (.string S0) ∧ w4.cell? ⟨G, 1, none⟩ = some (.string T) ∧ w4.cell? ⟨G, 2, none⟩ = some (.int .i64 U) from ⟨(r0.below_all h).cells 0, (r0.below_all h).cells 1, (r2.below_all h).cells 0, (r2.below_all h).cells 1, (r2.below_all h).cells 2⟩)
    have R1 := hid2 r1
    clear r0 r2 r1 K0 K1
    go_region_held3 (fun w' => w'.cell? ⟨g, 0, none⟩ = some (.slice (some ⟨b, o, none⟩) N c) ∧ w'.cell? ⟨g, 1, none⟩ = some (.int .i64 left) ∧ w'.cell? ⟨G, 0, none⟩ = some (.string S0) ∧ w'.cell? ⟨G, 1, none⟩ = some (.string T) ∧ w'.cell? ⟨G, 2, none⟩ = some (.int .i64 U)) (first | exact KS.out _ hb5' | exact KS.out _ hb4' | exact KS.out _ hb3' | go_keep) (first
      | (go_at_call 46; refine (HWITH.out _ hbw.drew).mono ?_; rintro e w4 ⟨A4, c4, rfl, ho4, hb4⟩; have hb4' : Below W.heap.size W w4 := (Below.refl W.heap.size W).drew.trans hb4; have ho4' : Hid2 (Own w4 W.heap.size 88 3 A4 n1 c4 (rfsV L1)) := hid2 ho4; clear ho4 hb4)
      | (go_at_call 45; refine (HPASS.out _ A4 c4).mono ?_; rintro e w5 ⟨pa, pn, pc, pl, pe, rfl, hP, hb5⟩; have hb5' : Below W.heap.size W w5 := hb4'.trans (hb5.mono hb4'.size); have r5 := R1.out.below_all hb5'; have c10 : w5.cell? ⟨g + 1, 0, none⟩ = some (.slice none 0 0) := r5.cells 0; have c11 : w5.cell? ⟨g + 1, 1, none⟩ = some (.int .i64 0) := r5.cells 1; have z10 : w5.frozen? ⟨g + 1, 0, none⟩ = false := r5.free 0; have z11 : w5.frozen? ⟨g + 1, 1, none⟩ = false := r5.free 1; have ho5 := hid2 (ho4'.out.below hb5 (Nat.le_refl _)); have HP := hid2 hP; clear r5 hP hb5))
    go_wp2_with fail
    refine bodyPost_ret (v := .tuple #[.agg #[.slice pa pn pc, .int .i64 pl], .int .i64 pe]) (by simp [results, Tryz.results38, go_sem, c10, c11]) rfl ?_
    have hne : blockOf A4 ≠ some (g + 1) := fun e => by have := (ho5.out.block _ e).1; omega
    exact HPP.out _ ((hbw.trans (hb5'.mono (show g ≤ W.heap.size by omega))).setCell (show g ≤ g + 1 by omega) _ |>.setCell (show g ≤ g + 1 by omega) _) A4 pa c4 pn pc pl pe HP.out _ ((ho5.out.setOther (p := ⟨g + 1, 0, none⟩) hne _).setOther (p := ⟨g + 1, 1, none⟩) hne _) (show g ≤ W.heap.size by omega)
  · skip
    have hgn := getM_no hno
    have hE : beginE M left true [strB s.data.toList] s.data.toList = 10 := begin_ten hany hgn
    have hM : syncM M left s.data.toList = M := by unfold syncM; rw [if_neg (by rw [hE]; decide)]
    have hL := beginL_same hE (by decide)
    have HP := fun (F : World) (hb : Below w.heap.size w F) => ends_post (c := c) (left := left) (err := 10) hN hr hb hM hL hE
    have HPP := hid2 HP
    clear hE hM hL HP hN hr hri hle hl hf
    rw [← hg] at HPP
    clear hno hgn hg hv hany
    rw [HN.out.symm]
    go_enter Tryz.func38, Tryz.ntmps38
    go_wp2_with (go_at_call 44; rw [← HW3.out, ← HG.out]; refine (HAT.out _ (by rw [← HG.out]; exact hbW)).mono ?_; rintro e w2 ⟨rfl, hb2⟩; have k0 := b0.below_all hb2; have k1 := b1.below_all hb2; have hbw2 := hbW.trans (hb2.mono (show g ≤ W3.heap.size by omega)); have hz2 := hb2.size; rw [z3] at hz2; have c0 : w2.cell? ⟨g, 0, none⟩ = some (.slice A N c) := k0.cells 0; have c1 : w2.cell? ⟨g, 1, none⟩ = some (.int .i64 left) := k0.cells 1; have c2 : w2.cell? ⟨g + 1, 0, none⟩ = some (.slice none 0 0) := k1.cells 0; have c3 : w2.cell? ⟨g + 1, 1, none⟩ = some (.int .i64 0) := k1.cells 1; have z0 : w2.frozen? ⟨g + 1, 0, none⟩ = false := k1.free 0; have z1 : w2.frozen? ⟨g + 1, 1, none⟩ = false := k1.free 1; clear b0 b1 k0 k1 hb2 hbW)
    refine bodyPost_ret (v := .tuple #[.agg #[.slice A N c, .int .i64 left], .int .i64 10]) (by simp [results, Tryz.results38, go_sem, c2, c3]) rfl ?_
    exact HPP.out _ ((hbw2.setCell (show g ≤ g + 1 by omega) _).setCell (show g ≤ g + 1 by omega) _)
set_option maxRecDepth 100000 in
set_option maxHeartbeats 4000000 in
theorem rename07m_any (w : World) (A : Option Addr) (c : Nat) (M : Tab FileE) (left : Int) (hr : Rd w 3 A M.length (rfsV M)) (hl : M.length ≤ 1000000) (hri : Rises M) (hle : -1 ≤ left ∧ left ≤ 9223372036854775807) (s t : ByteArray) :
    Calls Tryz.prog 58 #[.agg #[.slice A M.length c, .int .i64 left], .string s, .string t] w (RPost w A (renM M left s.data.toList t.data.toList) (beginL M left true [strB s.data.toList, strB t.data.toList] s.data.toList) (beginE M left true [strB s.data.toList, strB t.data.toList] s.data.toList)) := by
  obtain ⟨N, hN⟩ : ∃ N, N = M.length := ⟨_, rfl⟩
  have HR := hid2 hr
  have HN := hid2 hN
  by_cases h1 : s.toList.isEmpty = true
  · have h1s : s.data.toList.isEmpty = true := by rw [← ByteArray.toList_eq]; exact h1
    have hE : beginE M left true [strB s.data.toList, strB t.data.toList] s.data.toList = 1 := begin_none (by rw [any_two, h1s]; rfl)
    have hM : renM M left s.data.toList t.data.toList = M := by unfold renM; rw [if_neg (by rw [hE]; exact fun h => absurd h.1 (by decide))]
    have hL := beginL_same hE (by decide)
    have HP := fun (F : World) (hb : Below w.heap.size w F) => ends_post (c := c) (left := left) (err := 1) hN hr hb hM hL hE
    have HPP := hid2 HP
    clear hE hM hL HP hN hr hri hle hl
    clear h1s
    rw [← HN.out]
    go_enter Tryz.func58, Tryz.ntmps58
    go_wp2_with fail
    refine bodyPost_ret (v := .tuple #[.agg #[.slice A N c, .int .i64 left], .int .i64 1]) (by simp [results, Tryz.results58, go_sem]) rfl ?_
    exact HPP.out _ (((Below.refl _ _).alloc (Nat.le_refl _) _).alloc (by simp) _)
  have h2 : s.toList.isEmpty = false := by simpa using h1
  have h2s : s.data.toList.isEmpty = false := by rw [← ByteArray.toList_eq]; exact h2
  by_cases h3 : t.toList.isEmpty = true
  · have h3s : t.data.toList.isEmpty = true := by rw [← ByteArray.toList_eq]; exact h3
    have hE : beginE M left true [strB s.data.toList, strB t.data.toList] s.data.toList = 1 := begin_none (by rw [any_two, h3s, Bool.or_true])
    have hM : renM M left s.data.toList t.data.toList = M := by unfold renM; rw [if_neg (by rw [hE]; exact fun h => absurd h.1 (by decide))]
    have hL := beginL_same hE (by decide)
    have HP := fun (F : World) (hb : Below w.heap.size w F) => ends_post (c := c) (left := left) (err := 1) hN hr hb hM hL hE
    have HPP := hid2 HP
    clear hE hM hL HP hN hr hri hle hl
    clear h3s h2s h1
    rw [← HN.out]
    go_enter Tryz.func58, Tryz.ntmps58
    go_wp2_with fail
    refine bodyPost_ret (v := .tuple #[.agg #[.slice A N c, .int .i64 left], .int .i64 1]) (by simp [results, Tryz.results58, go_sem]) rfl ?_
    exact HPP.out _ (((Below.refl _ _).alloc (Nat.le_refl _) _).alloc (by simp) _)
  have h4 : t.toList.isEmpty = false := by simpa using h3
  have h4s : t.data.toList.isEmpty = false := by rw [← ByteArray.toList_eq]; exact h4
  have hany : [strB s.data.toList, strB t.data.toList].any (fun s => s.data.toList.isEmpty) = false := by rw [any_two, h2s, h4s]; rfl
  clear h3 h4s
  clear h1 h2s
  obtain ⟨g, hg⟩ : ∃ g, g = w.heap.size := ⟨_, rfl⟩
  obtain ⟨W3, hW3⟩ : ∃ W3, W3 = ((w.alloc (.cells #[.slice A N c, .int .i64 left] 30)).alloc (.cells #[.slice none 0 0, .int .i64 0] 30)) := ⟨_, rfl⟩
  have z3 : W3.heap.size = g + 2 := by rw [hW3, hg]; simp
  have b0 : Box W3 (g) [.slice A N c, .int .i64 left] := by rw [hW3]; exact ((Box.new' _ _ _ (by simp [hg])).alloc _)
  have b1 : Box W3 (g + 1) [.slice none 0 0, .int .i64 0] := by rw [hW3]; exact (Box.new' _ _ _ (by simp [hg]))
  have hbW : Below g w W3 := by rw [hW3, hg]; exact (((Below.refl _ _).alloc (by simp) _).alloc (by simp) _)
  have HW3 := hid2 hW3
  have HG := hid2 hg
  obtain ⟨v, hv⟩ := AtIs.ex M s.data.toList
  have hat := fun (W : World) (hb : Below w.heap.size w W) => at07v_any W A c M left (hr.below_all hb) (by omega) hri s hv
  rw [← hN] at hat
  have HAT := hid2 hat
  clear hat hW3
  have hv0 := hv
  rcases hv0 with ⟨i, x, hi, hx, rfl⟩ | ⟨rfl, hno⟩
  · have hget : getM M s.data.toList = some x.2 := by rw [← hx]; exact getM_at hri hi
    have hE := begin_goes (left := left) (there := true) hany (M := M) (k := s.data.toList) (fun _ h => by rw [hget] at h; cases h)
    have hL := beginL_goes hE
    have hM : renM M left s.data.toList t.data.toList = if left = 0 then M else putM (delM M s.data.toList) t.data.toList (fileOf M s.data.toList) := by
      unfold renM
      rw [hE]
      by_cases h0 : left = 0
      · rw [if_pos h0, if_pos h0, if_neg (fun h => absurd h.1 (by decide))]
      · rw [if_neg h0, if_neg h0, ren_del_put hri (f := fileOf M s.data.toList) (by rw [file_of_get hget]; exact hget)]
        by_cases h1 : s.data.toList = t.data.toList
        · rw [if_neg (fun h => h.2 h1), if_neg (fun h => h h1)]
        · rw [if_pos ⟨rfl, h1⟩, if_pos h1]
    obtain ⟨L1, hL1⟩ : ∃ L1, L1 = putM (delM M s.data.toList) t.data.toList (fileOf M s.data.toList) := ⟨_, rfl⟩
    obtain ⟨n1, hn1⟩ : ∃ n1, n1 = L1.length := ⟨_, rfl⟩
    rw [← hL1] at hM
    have hpp := fun (F : World) (hb : Below w.heap.size w F) (A4 pa : Option Addr) (c4 pn pc : Nat) (pl pe : Int) (hP : PassIs A N c left A4 n1 c4 pa pn pc pl pe) (B0 : Nat) (ho : Own F B0 88 3 A4 n1 c4 (rfsV L1)) (hB0 : w.heap.size ≤ B0) => pass_post (L1 := L1) hP hN hn1 hr ho hB0 hb hM hL hE
    rw [← hg] at hpp
    have HPP := hid2 hpp
    have hwo := fun (W : World) (hb : Below g w W) => without07m_any W A c M left (hr.below_all (by rw [← hg]; exact hb)) (by omega) s
    obtain ⟨M0, hM0⟩ : ∃ M0, M0 = delM M s.data.toList := ⟨_, rfl⟩
    obtain ⟨n0, hn0⟩ : ∃ n0, n0 = M0.length := ⟨_, rfl⟩
    have hn0l : n0 ≤ 1000000 := by rw [hn0, hM0]; exact Nat.le_trans (delM_len _ _) hl
    rw [← hM0, ← hn0, ← hN] at hwo
    have HWO := hid2 hwo
    obtain ⟨X, hX⟩ : ∃ X, X = strB (fileOf M s.data.toList).1 := ⟨_, rfl⟩
    obtain ⟨U, hU⟩ : ∃ U : Nat, U = (fileOf M s.data.toList).2 := ⟨_, rfl⟩
    have hwith := fun (W : World) (A0 : Option Addr) (c0 : Nat) (h : Rd W 3 A0 n0 (rfsV M0)) => with07m_any W A0 c0 M0 0 (by rw [← hn0]; exact h) (by omega) (by rw [hM0]; exact rises_del hri _) t X U
    rw [show putM M0 t.data.toList (X.data.toList, U) = L1 by rw [hL1, hM0, hX, hU, strB_list], ← hn1, ← hn0] at hwith
    have HWITH := hid2 hwith
    have hiN : i < N := by rw [hN]; exact (List.getElem?_eq_some_iff.1 hi).1
    have hiN2 : (i : Int) < N := by omega
    have hi0 : ¬ (i : Int) < 0 := by omega
    have hi1 : (0 : Int) ≤ i := by omega
    obtain ⟨S0, hS0⟩ : ∃ S0, S0 = strB x.1 := ⟨_, rfl⟩
    obtain ⟨T, hT⟩ : ∃ T, T = strB x.2.1 := ⟨_, rfl⟩
    obtain ⟨U0, hU0⟩ : ∃ U0 : Nat, U0 = x.2.2 := ⟨_, rfl⟩
    have hS0s : S0 = s := by rw [hS0, hx, strB_of]
    subst hS0s
    obtain ⟨b, o, rfl, _⟩ := rf_cells hr hi
    have hcell := fun (w2 : World) (hb : Below g w w2) => show w2.cell? ⟨b, o + i * 3, none⟩ = some (.string S0) ∧ w2.cell? ⟨b, o + i * 3 + 1, none⟩ = some (.string T) ∧ w2.cell? ⟨b, o + i * 3 + 2, none⟩ = some (.int .i64 U0) ∧ b < g by
      obtain ⟨b2, o2, e, q0, q1, q2⟩ := rf_cells (hr.below_all (by rw [← hg]; exact hb)) hi
      obtain ⟨rfl, rfl⟩ : b = b2 ∧ o = o2 := by simpa using e
      rw [hS0, hT, hU0]
      refine ⟨q0, q1, q2, ?_⟩
      obtain ⟨b3, o3, e3, q3, _, _⟩ := rf_cells hr hi
      obtain ⟨rfl, rfl⟩ : b = b3 ∧ o = o3 := by simpa using e3
      rw [hg]
      exact World.block_lt_of_cell? w _ q3
    have HCELL := hid2 hcell
    have hX2 : T = X := by rw [hX, hT, file_of_get hget]
    subst hX2
    have hU2 : U0 = U := by rw [hU, hU0, file_of_get hget]
    subst hU2
    have hpass := fun (W : World) (A4 : Option Addr) (c4 : Nat) => pass07v_any W (some ⟨b, o, none⟩) N c left hle A4 n1 c4
    have HPASS := hid2 hpass
    clear hE hL hM hL1 hn1 hpp hpass hr hri hle hl hN hg hget hany hv hwith hX hU hwo hM0 hn0 hi hx hS0 hT hU0 hcell
    rw [HN.out.symm]
    go_enter Tryz.func58, Tryz.ntmps58
    go_wp2_with (go_at_call 44; rw [← HW3.out, ← HG.out]; refine (HAT.out _ (by rw [← HG.out]; exact hbW)).mono ?_; rintro e w2 ⟨rfl, hb2⟩; have k0 := b0.below_all hb2; have k1 := b1.below_all hb2; have hbw2 := hbW.trans (hb2.mono (show g ≤ W3.heap.size by omega)); have hz2 := hb2.size; rw [z3] at hz2; have c0 : w2.cell? ⟨g, 0, none⟩ = some (.slice (some ⟨b, o, none⟩) N c) := k0.cells 0; have c1 : w2.cell? ⟨g, 1, none⟩ = some (.int .i64 left) := k0.cells 1; obtain ⟨q0, q1, q2, hbg⟩ := HCELL.out w2 hbw2; have K0 := hid2 k0; have K1 := hid2 k1; clear b0 b1 k0 k1 hb2 hbW)
    obtain ⟨G, hG⟩ : ∃ G, G = w2.heap.size := ⟨_, rfl⟩
    rw [← hG]
    generalize hW : World.alloc _ _ = W
    have hG1 : G ≠ g + 1 := by omega
    have hG2 : g + 1 ≠ G := by omega
    have r2 : Box W G [.string t, .string T, .int .i64 U0] := by rw [← hW]; exact Box.new' _ _ _ hG.symm
    have r0 : Box W g [.slice (some ⟨b, o, none⟩) N c, .int .i64 left] := by rw [← hW]; exact K0.out.alloc _
    have r1 : Box W (g + 1) [.slice none 0 0, .int .i64 0] := by rw [← hW]; exact K1.out.alloc _
    have hbw : Below g w W := by rw [← hW]; exact hbw2.alloc (by omega) _
    have hzW : g + 2 ≤ W.heap.size := by rw [← hW, World.size_alloc]; omega
    clear hG
    clear hW c0 c1 hbw2 hz2 q0 q1 q2
    have sr00 : W.cell? ⟨g, 0, none⟩ = some (.slice (some ⟨b, o, none⟩) N c) := r0.cells 0
    have sr01 : W.cell? ⟨g, 1, none⟩ = some (.int .i64 left) := r0.cells 1
    have sr20 : W.cell? ⟨G, 0, none⟩ = some (.string t) := r2.cells 0
    have sr21 : W.cell? ⟨G, 1, none⟩ = some (.string T) := r2.cells 1
    have sr22 : W.cell? ⟨G, 2, none⟩ = some (.int .i64 U0) := r2.cells 2
    have KS := hid2 (fun (w4 : World) (h : Below W.heap.size W w4) => show w4.cell? ⟨g, 0, none⟩ = some (.slice (some ⟨b, o, none⟩) N c) ∧ w4.cell? ⟨g, 1, none⟩ = some (.int .i64 left) ∧ w4.cell? ⟨G, 0, none⟩ = some (.string t) ∧ w4.cell? ⟨G, 1, none⟩ = some (.string T) ∧ w4.cell? ⟨G, 2, none⟩ = some (.int .i64 U0) from ⟨(r0.below_all h).cells 0, (r0.below_all h).cells 1, (r2.below_all h).cells 0, (r2.below_all h).cells 1, (r2.below_all h).cells 2⟩)
    have R1 := hid2 r1
    clear r0 r2 r1 K0 K1
    go_region_held3 (fun w' => w'.cell? ⟨g, 0, none⟩ = some (.slice (some ⟨b, o, none⟩) N c) ∧ w'.cell? ⟨g, 1, none⟩ = some (.int .i64 left) ∧ w'.cell? ⟨G, 0, none⟩ = some (.string t) ∧ w'.cell? ⟨G, 1, none⟩ = some (.string T) ∧ w'.cell? ⟨G, 2, none⟩ = some (.int .i64 U0)) (first | exact KS.out _ hb5' | exact KS.out _ hb4' | exact KS.out _ hb3' | go_keep) (first
      | (go_at_call 64; refine (HWO.out _ hbw.drew).mono ?_; rintro e w3 ⟨A3, c3, rfl, ho3, hb3⟩; have hb3' : Below W.heap.size W w3 := (Below.refl W.heap.size W).drew.trans hb3; have ho3' : Hid2 (Own w3 W.heap.size 88 3 A3 n0 c3 (rfsV M0)) := hid2 ho3; clear ho3 hb3)
      | (go_at_call 46; refine (HWITH.out _ A3 c3 ho3'.out.rd).mono ?_; rintro e w4 ⟨A4, c4, rfl, ho4, hb4⟩; have hb4' : Below W.heap.size W w4 := hb3'.trans (hb4.mono hb3'.size); have ho4' : Hid2 (Own w4 W.heap.size 88 3 A4 n1 c4 (rfsV L1)) := hid2 (ho4.mono hb3'.size); clear ho4 hb4)
      | (go_at_call 45; refine (HPASS.out _ A4 c4).mono ?_; rintro e w5 ⟨pa, pn, pc, pl, pe, rfl, hP, hb5⟩; have hb5' : Below W.heap.size W w5 := hb4'.trans (hb5.mono hb4'.size); have r5 := R1.out.below_all hb5'; have c10 : w5.cell? ⟨g + 1, 0, none⟩ = some (.slice none 0 0) := r5.cells 0; have c11 : w5.cell? ⟨g + 1, 1, none⟩ = some (.int .i64 0) := r5.cells 1; have z10 : w5.frozen? ⟨g + 1, 0, none⟩ = false := r5.free 0; have z11 : w5.frozen? ⟨g + 1, 1, none⟩ = false := r5.free 1; have ho5 := hid2 (ho4'.out.below hb5 (Nat.le_refl _)); have HP := hid2 hP; clear r5 hP hb5))
    go_wp2_with fail
    refine bodyPost_ret (v := .tuple #[.agg #[.slice pa pn pc, .int .i64 pl], .int .i64 pe]) (by simp [results, Tryz.results58, go_sem, c10, c11]) rfl ?_
    have hne : blockOf A4 ≠ some (g + 1) := fun e => by have := (ho5.out.block _ e).1; omega
    exact HPP.out _ ((hbw.trans (hb5'.mono (show g ≤ W.heap.size by omega))).setCell (show g ≤ g + 1 by omega) _ |>.setCell (show g ≤ g + 1 by omega) _) A4 pa c4 pn pc pl pe HP.out _ ((ho5.out.setOther (p := ⟨g + 1, 0, none⟩) hne _).setOther (p := ⟨g + 1, 1, none⟩) hne _) (show g ≤ W.heap.size by omega)
  · skip
    have hgn := getM_no hno
    have hE : beginE M left true [strB s.data.toList, strB t.data.toList] s.data.toList = 10 := begin_ten hany hgn
    have hM : renM M left s.data.toList t.data.toList = M := by unfold renM; rw [if_neg (by rw [hE]; exact fun h => absurd h.1 (by decide))]
    have hL := beginL_same hE (by decide)
    have HP := fun (F : World) (hb : Below w.heap.size w F) => ends_post (c := c) (left := left) (err := 10) hN hr hb hM hL hE
    have HPP := hid2 HP
    clear hE hM hL HP hN hr hri hle hl
    rw [← hg] at HPP
    clear hno hgn hg hv hany
    rw [HN.out.symm]
    go_enter Tryz.func58, Tryz.ntmps58
    go_wp2_with (go_at_call 44; rw [← HW3.out, ← HG.out]; refine (HAT.out _ (by rw [← HG.out]; exact hbW)).mono ?_; rintro e w2 ⟨rfl, hb2⟩; have k0 := b0.below_all hb2; have k1 := b1.below_all hb2; have hbw2 := hbW.trans (hb2.mono (show g ≤ W3.heap.size by omega)); have hz2 := hb2.size; rw [z3] at hz2; have c0 : w2.cell? ⟨g, 0, none⟩ = some (.slice A N c) := k0.cells 0; have c1 : w2.cell? ⟨g, 1, none⟩ = some (.int .i64 left) := k0.cells 1; have c2 : w2.cell? ⟨g + 1, 0, none⟩ = some (.slice none 0 0) := k1.cells 0; have c3 : w2.cell? ⟨g + 1, 1, none⟩ = some (.int .i64 0) := k1.cells 1; have z0 : w2.frozen? ⟨g + 1, 0, none⟩ = false := k1.free 0; have z1 : w2.frozen? ⟨g + 1, 1, none⟩ = false := k1.free 1; clear b0 b1 k0 k1 hb2 hbW)
    refine bodyPost_ret (v := .tuple #[.agg #[.slice A N c, .int .i64 left], .int .i64 10]) (by simp [results, Tryz.results58, go_sem, c2, c3]) rfl ?_
    exact HPP.out _ ((hbw2.setCell (show g ≤ g + 1 by omega) _).setCell (show g ≤ g + 1 by omega) _)
set_option maxRecDepth 100000 in
set_option maxHeartbeats 4000000 in
theorem remove07m_any (w : World) (A : Option Addr) (c : Nat) (M : Tab FileE) (left : Int) (hr : Rd w 3 A M.length (rfsV M)) (hl : M.length ≤ 1000000) (hri : Rises M) (hle : -1 ≤ left ∧ left ≤ 9223372036854775807) (s : ByteArray) :
    Calls Tryz.prog 56 #[.agg #[.slice A M.length c, .int .i64 left], .string s] w (RPost w A (remM M left s.data.toList) (beginL M left true [strB s.data.toList] s.data.toList) (beginE M left true [strB s.data.toList] s.data.toList)) := by
  obtain ⟨N, hN⟩ : ∃ N, N = M.length := ⟨_, rfl⟩
  have HR := hid2 hr
  have HN := hid2 hN
  by_cases h1 : s.toList.isEmpty = true
  · have h1s : s.data.toList.isEmpty = true := by rw [← ByteArray.toList_eq]; exact h1
    have hE : beginE M left true [strB s.data.toList] s.data.toList = 1 := begin_none (by rw [any_one, h1s])
    have hM : remM M left s.data.toList = M := by unfold remM; rw [if_neg (by rw [hE]; decide)]
    have hL := beginL_same hE (by decide)
    have HP := fun (F : World) (hb : Below w.heap.size w F) => ends_post (c := c) (left := left) (err := 1) hN hr hb hM hL hE
    have HPP := hid2 HP
    clear hE hM hL HP hN hr hri hle hl
    clear h1s
    rw [← HN.out]
    go_enter Tryz.func56, Tryz.ntmps56
    go_wp2_with fail
    refine bodyPost_ret (v := .tuple #[.agg #[.slice A N c, .int .i64 left], .int .i64 1]) (by simp [results, Tryz.results56, go_sem]) rfl ?_
    exact HPP.out _ (((Below.refl _ _).alloc (Nat.le_refl _) _).alloc (by simp) _)
  have h2 : s.toList.isEmpty = false := by simpa using h1
  have h2s : s.data.toList.isEmpty = false := by rw [← ByteArray.toList_eq]; exact h2
  have hany : [strB s.data.toList].any (fun s => s.data.toList.isEmpty) = false := by rw [any_one, h2s]
  clear h1 h2s
  obtain ⟨g, hg⟩ : ∃ g, g = w.heap.size := ⟨_, rfl⟩
  obtain ⟨W3, hW3⟩ : ∃ W3, W3 = ((w.alloc (.cells #[.slice A N c, .int .i64 left] 30)).alloc (.cells #[.slice none 0 0, .int .i64 0] 30)) := ⟨_, rfl⟩
  have z3 : W3.heap.size = g + 2 := by rw [hW3, hg]; simp
  have b0 : Box W3 (g) [.slice A N c, .int .i64 left] := by rw [hW3]; exact ((Box.new' _ _ _ (by simp [hg])).alloc _)
  have b1 : Box W3 (g + 1) [.slice none 0 0, .int .i64 0] := by rw [hW3]; exact (Box.new' _ _ _ (by simp [hg]))
  have hbW : Below g w W3 := by rw [hW3, hg]; exact (((Below.refl _ _).alloc (by simp) _).alloc (by simp) _)
  have HW3 := hid2 hW3
  have HG := hid2 hg
  obtain ⟨v, hv⟩ := AtIs.ex M s.data.toList
  have hat := fun (W : World) (hb : Below w.heap.size w W) => at07v_any W A c M left (hr.below_all hb) (by omega) hri s hv
  rw [← hN] at hat
  have HAT := hid2 hat
  clear hat hW3
  have hv0 := hv
  rcases hv0 with ⟨i, x, hi, hx, rfl⟩ | ⟨rfl, hno⟩
  · have hget : getM M s.data.toList = some x.2 := by rw [← hx]; exact getM_at hri hi
    have hE := begin_goes (left := left) (there := true) hany (M := M) (k := s.data.toList) (fun _ h => by rw [hget] at h; cases h)
    have hL := beginL_goes hE
    have hM : remM M left s.data.toList = if left = 0 then M else delM M s.data.toList := by
      unfold remM
      rw [hE]
      by_cases h0 : left = 0
      · rw [if_pos h0, if_pos h0, if_neg (by decide)]
      · rw [if_neg h0, if_neg h0, if_pos rfl]
    obtain ⟨L1, hL1⟩ : ∃ L1, L1 = delM M s.data.toList := ⟨_, rfl⟩
    obtain ⟨n1, hn1⟩ : ∃ n1, n1 = L1.length := ⟨_, rfl⟩
    rw [← hL1] at hM
    have hpp := fun (F : World) (hb : Below w.heap.size w F) (A4 pa : Option Addr) (c4 pn pc : Nat) (pl pe : Int) (hP : PassIs A N c left A4 n1 c4 pa pn pc pl pe) (B0 : Nat) (ho : Own F B0 88 3 A4 n1 c4 (rfsV L1)) (hB0 : w.heap.size ≤ B0) => pass_post (L1 := L1) hP hN hn1 hr ho hB0 hb hM hL hE
    rw [← hg] at hpp
    have HPP := hid2 hpp
    have hwo := fun (W : World) (hb : Below g w W) => without07m_any W A c M left (hr.below_all (by rw [← hg]; exact hb)) (by omega) s
    rw [← hL1, ← hn1, ← hN] at hwo
    have HWO := hid2 hwo
    have hiN : i < N := by rw [hN]; exact (List.getElem?_eq_some_iff.1 hi).1
    have hiN2 : (i : Int) < N := by omega
    have hi0 : ¬ (i : Int) < 0 := by omega
    have hi1 : (0 : Int) ≤ i := by omega
    have hpass := fun (W : World) (A4 : Option Addr) (c4 : Nat) => pass07v_any W A N c left hle A4 n1 c4
    have HPASS := hid2 hpass
    clear hE hL hM hL1 hn1 hpp hpass hr hri hle hl hN hg hget hany hv hwo hi hx
    rw [HN.out.symm]
    go_enter Tryz.func56, Tryz.ntmps56
    go_wp2_with (go_at_call 44; rw [← HW3.out, ← HG.out]; refine (HAT.out _ (by rw [← HG.out]; exact hbW)).mono ?_; rintro e w2 ⟨rfl, hb2⟩; have k0 := b0.below_all hb2; have k1 := b1.below_all hb2; have hbw2 := hbW.trans (hb2.mono (show g ≤ W3.heap.size by omega)); have hz2 := hb2.size; rw [z3] at hz2; have c0 : w2.cell? ⟨g, 0, none⟩ = some (.slice A N c) := k0.cells 0; have c1 : w2.cell? ⟨g, 1, none⟩ = some (.int .i64 left) := k0.cells 1; have K0 := hid2 k0; have K1 := hid2 k1; clear b0 b1 k0 k1 hb2 hbW)
    generalize hW : w2 = W at *
    have r0 := K0.out
    have r1 := K1.out
    have hbw := hbw2
    have hzW := hz2
    clear c0 c1 hbw2 hz2
    have sr00 : W.cell? ⟨g, 0, none⟩ = some (.slice A N c) := r0.cells 0
    have sr01 : W.cell? ⟨g, 1, none⟩ = some (.int .i64 left) := r0.cells 1
    have KS := hid2 (fun (w4 : World) (h : Below W.heap.size W w4) => show w4.cell? ⟨g, 0, none⟩ = some (.slice A N c) ∧ w4.cell? ⟨g, 1, none⟩ = some (.int .i64 left) from ⟨(r0.below_all h).cells 0, (r0.below_all h).cells 1⟩)
    have R1 := hid2 r1
    clear r0 r1 K0 K1
    go_region_held3 (fun w' => w'.cell? ⟨g, 0, none⟩ = some (.slice A N c) ∧ w'.cell? ⟨g, 1, none⟩ = some (.int .i64 left)) (first | exact KS.out _ hb5' | exact KS.out _ hb4' | exact KS.out _ hb3' | go_keep) (first
      | (go_at_call 64; refine (HWO.out _ hbw.drew).mono ?_; rintro e w4 ⟨A4, c4, rfl, ho4, hb4⟩; have hb4' : Below W.heap.size W w4 := (Below.refl W.heap.size W).drew.trans hb4; have ho4' : Hid2 (Own w4 W.heap.size 88 3 A4 n1 c4 (rfsV L1)) := hid2 ho4; clear ho4 hb4)
      | (go_at_call 45; refine (HPASS.out _ A4 c4).mono ?_; rintro e w5 ⟨pa, pn, pc, pl, pe, rfl, hP, hb5⟩; have hb5' : Below W.heap.size W w5 := hb4'.trans (hb5.mono hb4'.size); have r5 := R1.out.below_all hb5'; have c10 : w5.cell? ⟨g + 1, 0, none⟩ = some (.slice none 0 0) := r5.cells 0; have c11 : w5.cell? ⟨g + 1, 1, none⟩ = some (.int .i64 0) := r5.cells 1; have z10 : w5.frozen? ⟨g + 1, 0, none⟩ = false := r5.free 0; have z11 : w5.frozen? ⟨g + 1, 1, none⟩ = false := r5.free 1; have ho5 := hid2 (ho4'.out.below hb5 (Nat.le_refl _)); have HP := hid2 hP; clear r5 hP hb5))
    go_wp2_with fail
    refine bodyPost_ret (v := .tuple #[.agg #[.slice pa pn pc, .int .i64 pl], .int .i64 pe]) (by simp [results, Tryz.results56, go_sem, c10, c11]) rfl ?_
    have hne : blockOf A4 ≠ some (g + 1) := fun e => by have := (ho5.out.block _ e).1; omega
    exact HPP.out _ ((hbw.trans (hb5'.mono (show g ≤ W.heap.size by omega))).setCell (show g ≤ g + 1 by omega) _ |>.setCell (show g ≤ g + 1 by omega) _) A4 pa c4 pn pc pl pe HP.out _ ((ho5.out.setOther (p := ⟨g + 1, 0, none⟩) hne _).setOther (p := ⟨g + 1, 1, none⟩) hne _) (show g ≤ W.heap.size by omega)
  · skip
    have hgn := getM_no hno
    have hE : beginE M left true [strB s.data.toList] s.data.toList = 10 := begin_ten hany hgn
    have hM : remM M left s.data.toList = M := by unfold remM; rw [if_neg (by rw [hE]; decide)]
    have hL := beginL_same hE (by decide)
    have HP := fun (F : World) (hb : Below w.heap.size w F) => ends_post (c := c) (left := left) (err := 10) hN hr hb hM hL hE
    have HPP := hid2 HP
    clear hE hM hL HP hN hr hri hle hl
    rw [← hg] at HPP
    clear hno hgn hg hv hany
    rw [HN.out.symm]
    go_enter Tryz.func56, Tryz.ntmps56
    go_wp2_with (go_at_call 44; rw [← HW3.out, ← HG.out]; refine (HAT.out _ (by rw [← HG.out]; exact hbW)).mono ?_; rintro e w2 ⟨rfl, hb2⟩; have k0 := b0.below_all hb2; have k1 := b1.below_all hb2; have hbw2 := hbW.trans (hb2.mono (show g ≤ W3.heap.size by omega)); have hz2 := hb2.size; rw [z3] at hz2; have c0 : w2.cell? ⟨g, 0, none⟩ = some (.slice A N c) := k0.cells 0; have c1 : w2.cell? ⟨g, 1, none⟩ = some (.int .i64 left) := k0.cells 1; have c2 : w2.cell? ⟨g + 1, 0, none⟩ = some (.slice none 0 0) := k1.cells 0; have c3 : w2.cell? ⟨g + 1, 1, none⟩ = some (.int .i64 0) := k1.cells 1; have z0 : w2.frozen? ⟨g + 1, 0, none⟩ = false := k1.free 0; have z1 : w2.frozen? ⟨g + 1, 1, none⟩ = false := k1.free 1; clear b0 b1 k0 k1 hb2 hbW)
    refine bodyPost_ret (v := .tuple #[.agg #[.slice A N c, .int .i64 left], .int .i64 10]) (by simp [results, Tryz.results56, go_sem, c2, c3]) rfl ?_
    exact HPP.out _ ((hbw2.setCell (show g ≤ g + 1 by omega) _).setCell (show g ≤ g + 1 by omega) _)
end Go.Proofs.YtehpapoboeejkaaGreat
/- The document's clear and anew: the other file goes; a file has other bytes. -/
namespace Go.Proofs.YtehpapoboeejkaaGreat
open Go.RowKit Go.Maps
set_option maxRecDepth 100000
theorem Rd.setFar {w : World} {sz n : Nat} {A : Option Addr} {xs : List Value} (h : Rd w sz A n xs) {g : Nat} (o : Nat) (v : Value) (hA : blockOf A ≠ some g) : Rd (w.setCell ⟨g, o, none⟩ v) sz A n xs :=
  h.keep fun b o2 u hb hu => by
    rw [World.cell?_setCell_far _ _ _ _ (fun e => hA (by rw [hb]; exact congrArg some e.symm))]
    exact hu
/-- a row that lay there, or was made since -/
def RFar (w : World) (A A' : Option Addr) (w' : World) : Prop := ∀ q, blockOf A' = some q → blockOf A = some q ∨ w.heap.size ≤ q ∧ q < w'.heap.size
theorem RFar.refl (w w' : World) (A : Option Addr) : RFar w A A w' := fun _ h => .inl h
theorem RFar.trans {w w1 w2 : World} {A A1 A2 : Option Addr} (h : RFar w A A1 w1) (k : RFar w1 A1 A2 w2) (h1 : w.heap.size ≤ w1.heap.size) (h2 : w1.heap.size ≤ w2.heap.size) : RFar w A A2 w2 := fun q hq => by
  rcases k q hq with e | e
  · rcases h q e with e | e
    · exact .inl e
    · exact .inr (by omega)
  · exact .inr (by omega)
theorem RFar.since {w w1 w2 : World} {A A1 : Option Addr} (h : RFar w1 A A1 w2) (h1 : w.heap.size ≤ w1.heap.size) : RFar w A A1 w2 := fun q hq => (h q hq).imp id fun e => by omega
theorem RFar.later {w w1 w2 : World} {A A1 : Option Addr} (h : RFar w A A1 w1) (h1 : w1.heap.size ≤ w2.heap.size) : RFar w A A1 w2 := fun q hq => (h q hq).imp id fun e => by omega
/-- a row that lies below -/
def RLow (w : World) (A : Option Addr) : Prop := ∀ q, blockOf A = some q → q < w.heap.size
theorem RFar.low {w w1 : World} {A A1 : Option Addr} (h : RFar w A A1 w1) (hA : RLow w A) (h1 : w.heap.size ≤ w1.heap.size) : RLow w1 A1 := fun q hq => by
  rcases h q hq with e | e
  · have := hA q e; omega
  · exact e.2
theorem RFar.ne {w w1 w2 : World} {A A1 : Option Addr} (h : RFar w1 A A1 w2) (hA : RLow w A) {g : Nat} (h1 : w.heap.size ≤ g) (h2 : g < w1.heap.size) : blockOf A1 ≠ some g := fun e => by
  rcases h g e with e | e
  · have := hA g e; omega
  · omega
theorem rpost_end {w F : World} {A A1 : Option Addr} {c1 g n1 : Nat} {M' : Tab FileE} {L E : Int} {v0 v1 : Value} (hn : n1 = M'.length) (hr : Rd F 3 A1 M'.length (rfsV M')) (hb : Below w.heap.size w F) (hf : RFar w A A1 F) (hg : blockOf A1 ≠ some g) (hge : w.heap.size ≤ g) :
    RPost w A M' L E (.returned (.tuple #[.agg #[.slice A1 n1 c1, .int .i64 L], .int .i64 E])) ((F.setCell ⟨g, 0, none⟩ v0).setCell ⟨g, 1, none⟩ v1) := by
  subst hn
  refine ⟨A1, c1, rfl, (hr.setFar 0 _ hg).setFar 1 _ hg, (hb.setCell (p := ⟨g, 0, none⟩) hge _).setCell (p := ⟨g, 1, none⟩) hge _, fun q hq => ?_⟩
  rw [World.size_setCell, World.size_setCell]
  exact hf q hq
/-- as RPost, with the row's place told -/
def RPost2 (w : World) (A : Option Addr) (n : Nat) (M' : Tab FileE) (L E : Int) (e : Ending) (w' : World) : Prop :=
  ∃ A' c', e = .returned (.tuple #[.agg #[.slice A' n c', .int .i64 L], .int .i64 E]) ∧ Rd w' 3 A' M'.length (rfsV M') ∧ Below w.heap.size w w' ∧ RFar w A A' w'
theorem RPost.two {w w' : World} {A : Option Addr} {n : Nat} {M' : Tab FileE} {L E : Int} {e : Ending} (h : RPost w A M' L E e w') (hn : n = M'.length) : RPost2 w A n M' L E e w' := by subst hn; exact h
set_option maxHeartbeats 4000000 in
theorem rclear_any (w : World) (A : Option Addr) (c : Nat) (M : Tab FileE) (left : Int) (hr : Rd w 3 A M.length (rfsV M)) (hl : M.length ≤ 900000) (hri : Rises M) (hle : LeftOk left) (hA : RLow w A) (nm : ByteArray) (hz : nm.size ≤ 1000000) :
    Calls Tryz.prog 30 #[.agg #[.slice A M.length c, .int .i64 left], .string nm] w (RPost w A (tidM M left (newL nm.data.toList)) (tidL M left (newL nm.data.toList)) (tidE M left (newL nm.data.toList))) := by
  obtain ⟨K, hK⟩ : ∃ K : ByteArray, K = nm ++ ⟨#[46, 110, 101, 119]⟩ := ⟨_, rfl⟩
  have hKl : K.data.toList = newL nm.data.toList := by rw [hK]; exact new_list nm
  have hKs : K.size = nm.size + 4 := by rw [hK]; exact new_size nm
  have hadd : ¬ (nm.size + 4 > 9223372036854775807) := by omega
  rw [← hKl]
  obtain ⟨N, hN⟩ : ∃ N, N = M.length := ⟨_, rfl⟩
  obtain ⟨v, hv⟩ := AtIs.ex M K.data.toList
  have hat := fun (W : World) (hb : Below w.heap.size w W) => at07v_any W A c M left (hr.below_all hb) (by omega) hri K hv
  have hget : (v < 0 ∧ (getM M K.data.toList).isSome = false) ∨ (0 ≤ v ∧ (getM M K.data.toList).isSome = true) := by
    rcases hv with ⟨i, x, hi, hx, rfl⟩ | ⟨rfl, hno⟩
    · exact .inr ⟨by omega, by rw [← hx, getM_at hri hi]; rfl⟩
    · exact .inl ⟨by omega, by rw [getM_no hno]; rfl⟩
  obtain ⟨g, hg⟩ : ∃ g, g = w.heap.size := ⟨_, rfl⟩
  obtain ⟨W3, hW3⟩ : ∃ W3, W3 = ((w.alloc (.cells #[.slice A N c, .int .i64 left] 30)).alloc (.cells #[.slice none 0 0, .int .i64 0] 30)) := ⟨_, rfl⟩
  have z3 : W3.heap.size = g + 2 := by rw [hW3, hg]; simp
  have b0 : Box W3 g [.slice A N c, .int .i64 left] := by rw [hW3]; exact (Box.new' _ _ _ (by simp [hg])).alloc _
  have b1 : Box W3 (g + 1) [.slice none 0 0, .int .i64 0] := by rw [hW3]; exact Box.new' _ _ _ (by simp [hg])
  have hbW : Below w.heap.size w W3 := by rw [hW3]; exact ((Below.refl _ _).alloc (by simp) _).alloc (by simp) _
  have HW3 := hid2 hW3
  have HG := hid2 hg
  rw [← hN] at hat
  rcases hget with ⟨hv0, hs⟩ | ⟨hv0, hs⟩
  · have hend := fun (F : World) (v0 v1 : Value) (hb : Below w.heap.size w F) => rpost_end (c1 := c) (g := g + 1) (A := A) (A1 := A) (L := left) (E := 0) (v0 := v0) (v1 := v1) hN (hr.below_all hb) hb (RFar.refl w F A) (fun e => by have := hA _ e; omega) (by omega)
    have hM : tidM M left K.data.toList = M := by unfold tidM; rw [if_neg (by rw [hs]; decide)]
    have hL : tidL M left K.data.toList = left := by unfold tidL; rw [if_neg (by rw [hs]; decide)]
    have hE : tidE M left K.data.toList = 0 := by unfold tidE; rw [if_neg (by rw [hs]; decide)]
    rw [hM, hL, hE, ← hN]
    have HEND := hid2 hend
    have HAT := hid2 hat
    have HK := hid2 hK
    clear hM hL hE hend hat hv hs hr hl hri hle hA hN hW3 hg hK hKl hKs
    go_enter Tryz.func30, Tryz.ntmps30
    go_wp2_with (go_at_call 44; rw [← HK.out, ← HW3.out]; refine (HAT.out _ hbW).mono ?_; rintro e w2 ⟨rfl, hb2⟩; rw [← HG.out]; have k0 := b0.below_all hb2; have k1 := b1.below_all hb2; have c0 : w2.cell? ⟨g, 0, none⟩ = some (.slice A N c) := k0.cells 0; have c1 : w2.cell? ⟨g, 1, none⟩ = some (.int .i64 left) := k0.cells 1; have d0 : w2.cell? ⟨g + 1, 0, none⟩ = some (.slice none 0 0) := k1.cells 0; have d1 : w2.cell? ⟨g + 1, 1, none⟩ = some (.int .i64 0) := k1.cells 1; have fd0 : w2.frozen? ⟨g + 1, 0, none⟩ = false := k1.free 0; have fd1 : w2.frozen? ⟨g + 1, 1, none⟩ = false := k1.free 1; have HB2 := hid2 (hbW.trans (hb2.mono hbW.size)); clear b0 b1 k0 k1 hb2 hbW)
    refine bodyPost_ret (v := .tuple #[.agg #[.slice A N c, .int .i64 left], .int .i64 0]) (by simp [results, Tryz.results30, go_sem, d0, d1]) rfl ?_
    exact HEND.out _ _ _ HB2.out
  · have hrm := fun (W : World) (hb : Below w.heap.size w W) => remove07m_any W A c M left (hr.below_all hb) (by omega) hri hle K
    have hM : tidM M left K.data.toList = remM M left K.data.toList := by unfold tidM; rw [if_pos hs]
    have hL : tidL M left K.data.toList = beginL M left true [strB K.data.toList] K.data.toList := by unfold tidL; rw [if_pos hs]
    have hE : tidE M left K.data.toList = beginE M left true [strB K.data.toList] K.data.toList := by unfold tidE; rw [if_pos hs]
    rw [hM, hL, hE, ← hN]
    rw [← hN] at hrm
    obtain ⟨M1, hM1⟩ : ∃ M1, M1 = remM M left K.data.toList := ⟨_, rfl⟩
    obtain ⟨L1, hL1⟩ : ∃ L1, L1 = beginL M left true [strB K.data.toList] K.data.toList := ⟨_, rfl⟩
    obtain ⟨E1, hE1⟩ : ∃ E1, E1 = beginE M left true [strB K.data.toList] K.data.toList := ⟨_, rfl⟩
    obtain ⟨n1, hn1⟩ : ∃ n1, n1 = M1.length := ⟨_, rfl⟩
    rw [← hM1, ← hL1, ← hE1] at hrm ⊢
    have HRM := hid2 (fun (W : World) (hb : Below w.heap.size w W) => (hrm W hb).mono fun e w' h => RPost.two (n := n1) h hn1)
    have HAT := hid2 hat
    have HK := hid2 hK
    have HA := hid2 hA
    have HN1 := hid2 hn1
    have hvn : ¬ v < 0 := by omega
    clear hM hL hE hM1 hL1 hE1 hn1 hrm hat hv hs hr hl hri hle hA hN hW3 hg hK hKl hKs
    go_enter Tryz.func30, Tryz.ntmps30
    go_wp2_with (first
      | (go_at_call 44; rw [← HK.out, ← HW3.out]; refine (HAT.out _ hbW).mono ?_; rintro e w2 ⟨rfl, hb2⟩; rw [← HG.out]; have k0 := b0.below_all hb2; have k1 := b1.below_all hb2; have c0 : w2.cell? ⟨g, 0, none⟩ = some (.slice A N c) := k0.cells 0; have c1 : w2.cell? ⟨g, 1, none⟩ = some (.int .i64 left) := k0.cells 1; have hg2 : g + 1 < w2.heap.size := k1.lt; have K1 := hid2 k1; have HB2 := hid2 (hbW.trans (hb2.mono hbW.size)); clear HAT b0 b1 k0 k1 hb2 hbW)
      | (go_at_call 56; rw [← HK.out]; refine (HRM.out _ HB2.out).mono ?_; rintro e w3 ⟨A1, c1, rfl, hr3, hb3, hf3⟩; have k1 := K1.out.below_all hb3; have d0 : w3.cell? ⟨g + 1, 0, none⟩ = some (.slice none 0 0) := k1.cells 0; have d1 : w3.cell? ⟨g + 1, 1, none⟩ = some (.int .i64 0) := k1.cells 1; have fd0 : w3.frozen? ⟨g + 1, 0, none⟩ = false := k1.free 0; have fd1 : w3.frozen? ⟨g + 1, 1, none⟩ = false := k1.free 1; have HR3 := hid2 hr3; have HB3 := hid2 hb3; have HF3 := hid2 hf3; clear hr3 hb3 hf3 k1))
    refine bodyPost_ret (v := .tuple #[.agg #[.slice A1 n1 c1, .int .i64 L1], .int .i64 E1]) (by simp [results, Tryz.results30, go_sem, d0, d1]) rfl ?_
    have hg0 := HG.out
    have hne := HF3.out.ne HA.out (show w.heap.size ≤ g + 1 by omega) hg2
    exact rpost_end HN1.out HR3.out (HB2.out.trans (HB3.out.mono HB2.out.size)) (HF3.out.since HB2.out.size) hne (by omega)
/-- a stage of anew: the disk's block, and the answer's -/
structure AnSt (w W : World) (A : Option Addr) (g : Nat) (A1 : Option Addr) (n1 c1 : Nat) (L1 : Int) (T1 : Tab FileE) : Prop where
  b0 : Box W g [.slice A1 n1 c1, .int .i64 L1]
  b1 : Box W (g + 1) [.slice none 0 0, .int .i64 0]
  row : Rd W 3 A1 T1.length (rfsV T1)
  below : Below w.heap.size w W
  far : ∀ q, blockOf A1 = some q → blockOf A = some q ∨ g + 2 ≤ q ∧ q < W.heap.size
  gw : g = w.heap.size
theorem AnSt.away {w W w3 : World} {A A1 A2 : Option Addr} {g n1 c1 : Nat} {L1 : Int} {T1 : Tab FileE} (h : AnSt w W A g A1 n1 c1 L1 T1) (hb : Below W.heap.size W w3) (hf : RFar W A1 A2 w3) : ∀ q, blockOf A2 = some q → blockOf A = some q ∨ g + 2 ≤ q ∧ q < w3.heap.size := fun q hq => by
  have h1 := h.b1.lt
  have h2 := hb.size
  rcases hf q hq with e | e
  · rcases h.far q e with e | e
    · exact .inl e
    · exact .inr (by omega)
  · exact .inr (by omega)
theorem AnSt.next {w W w3 : World} {A A1 A2 : Option Addr} {g n1 c1 n2 c2 : Nat} {L1 L2 : Int} {T1 T2 : Tab FileE} (h : AnSt w W A g A1 n1 c1 L1 T1) (hA : RLow w A) (hr : Rd w3 3 A2 T2.length (rfsV T2)) (hb : Below W.heap.size W w3) (hf : RFar W A1 A2 w3) :
    AnSt w ((w3.setCell ⟨g, 0, none⟩ (.slice A2 n2 c2)).setCell ⟨g, 1, none⟩ (.int .i64 L2)) A g A2 n2 c2 L2 T2 := by
  have haw := h.away hb hf
  have hgw := h.gw
  have hne : blockOf A2 ≠ some g := fun e => by
    rcases haw g e with e | e
    · have := hA g e; omega
    · omega
  refine ⟨((h.b0.below_all hb).set 0 _).set 1 _, ((h.b1.below_all hb).other (p := ⟨g, 0, none⟩) (show g + 1 ≠ g by omega) _).other (p := ⟨g, 1, none⟩) (show g + 1 ≠ g by omega) _, (hr.setFar 0 _ hne).setFar 1 _ hne, ?_, fun q hq => ?_, hgw⟩
  · exact ((h.below.trans (hb.mono h.below.size)).setCell (p := ⟨g, 0, none⟩) (by show w.heap.size ≤ g; omega) _).setCell (p := ⟨g, 1, none⟩) (by show w.heap.size ≤ g; omega) _
  · rw [World.size_setCell, World.size_setCell]
    exact haw q hq
theorem AnSt.end_ {w W : World} {A A1 : Option Addr} {g n1 c1 : Nat} {L1 E : Int} {T1 : Tab FileE} (h : AnSt w W A g A1 n1 c1 L1 T1) (hA : RLow w A) (hn : n1 = T1.length) {v0 v1 : Value} :
    RPost w A T1 L1 E (.returned (.tuple #[.agg #[.slice A1 n1 c1, .int .i64 L1], .int .i64 E])) ((W.setCell ⟨g + 1, 0, none⟩ v0).setCell ⟨g + 1, 1, none⟩ v1) := by
  have hgw := h.gw
  refine rpost_end hn h.row h.below (fun q hq => (h.far q hq).imp id fun e => by omega) (fun e => ?_) (by omega)
  rcases h.far _ e with e | e
  · have := hA _ e; omega
  · omega
theorem AnSt.end2 {w W w3 : World} {A A1 A2 : Option Addr} {g n1 c1 n2 c2 : Nat} {L1 L2 E : Int} {T1 T2 : Tab FileE} (h : AnSt w W A g A1 n1 c1 L1 T1) (hA : RLow w A) (hr : Rd w3 3 A2 T2.length (rfsV T2)) (hb : Below W.heap.size W w3) (hf : RFar W A1 A2 w3) (hn : n2 = T2.length) {v0 v1 : Value} :
    RPost w A T2 L2 E (.returned (.tuple #[.agg #[.slice A2 n2 c2, .int .i64 L2], .int .i64 E])) ((w3.setCell ⟨g + 1, 0, none⟩ v0).setCell ⟨g + 1, 1, none⟩ v1) := by
  have hgw := h.gw
  have haw := h.away hb hf
  refine rpost_end hn hr (h.below.trans (hb.mono h.below.size)) (fun q hq => (haw q hq).imp id fun e => by omega) (fun e => ?_) (by omega)
  rcases haw _ e with e | e
  · have := hA _ e; omega
  · omega
set_option maxHeartbeats 8000000 in
theorem ranew_any (w : World) (A : Option Addr) (c : Nat) (M : Tab FileE) (left : Int) (hr : Rd w 3 A M.length (rfsV M)) (hle : LeftOk left) (hA : RLow w A) (nm : ByteArray) (hz : nm.size ≤ 1000000) (d : ByteArray) (hd : d.size ≤ 1000000) {W N : Nat} (hw : Wide W N M) (hW : W ≤ 1000000) (hN : N ≤ 900000) (hnW : nm.size + 4 ≤ W) (hdW : (fileOf M (newL nm.data.toList)).1.length + d.size ≤ W) :
    Calls Tryz.prog 33 #[.agg #[.slice A M.length c, .int .i64 left], .string nm, .string d] w (RPost w A (anewR M left (newL nm.data.toList) d.data.toList nm.data.toList).2.1 (anewR M left (newL nm.data.toList) d.data.toList nm.data.toList).2.2 (anewR M left (newL nm.data.toList) d.data.toList nm.data.toList).1) := by
  obtain ⟨K, hK⟩ : ∃ K : ByteArray, K = nm ++ ⟨#[46, 110, 101, 119]⟩ := ⟨_, rfl⟩
  have hKl : K.data.toList = newL nm.data.toList := by rw [hK]; exact new_list nm
  have hKs : K.size = nm.size + 4 := by rw [hK]; exact new_size nm
  have hadd : ¬ (nm.size + 4 > 9223372036854775807) := by omega
  rw [← hKl]
  have hdl : d.data.toList.length = d.size := toList_length d
  have hol : K.data.toList.length ≤ W := by rw [toList_length]; omega
  have hnl : nm.data.toList.length ≤ W := by rw [toList_length]; omega
  rw [← hKl, ← hdl] at hdW
  have w1 := hw.app2 left (k := K.data.toList) (d := d.data.toList) hol hdW
  obtain ⟨T1, hT1⟩ : ∃ T1, T1 = appM M left K.data.toList d.data.toList := ⟨_, rfl⟩
  obtain ⟨L1, hL1⟩ : ∃ L1, L1 = beginL M left false [strB K.data.toList] K.data.toList := ⟨_, rfl⟩
  obtain ⟨E1, hE1⟩ : ∃ E1, E1 = beginE M left false [strB K.data.toList] K.data.toList := ⟨_, rfl⟩
  have l1 : LeftOk L1 := by rw [hL1]; exact hle.begins _ _ _
  rw [← hT1] at w1
  have w2 := w1.sync L1 (k := K.data.toList) hol
  obtain ⟨T2, hT2⟩ : ∃ T2, T2 = syncM T1 L1 K.data.toList := ⟨_, rfl⟩
  obtain ⟨L2, hL2⟩ : ∃ L2, L2 = beginL T1 L1 true [strB K.data.toList] K.data.toList := ⟨_, rfl⟩
  obtain ⟨E2, hE2⟩ : ∃ E2, E2 = beginE T1 L1 true [strB K.data.toList] K.data.toList := ⟨_, rfl⟩
  have l2 : LeftOk L2 := by rw [hL2]; exact l1.begins _ _ _
  rw [← hT2] at w2
  obtain ⟨T3, hT3⟩ : ∃ T3, T3 = renM T2 L2 K.data.toList nm.data.toList := ⟨_, rfl⟩
  obtain ⟨L3, hL3⟩ : ∃ L3, L3 = beginL T2 L2 true [strB K.data.toList, strB nm.data.toList] K.data.toList := ⟨_, rfl⟩
  obtain ⟨E3, hE3⟩ : ∃ E3, E3 = beginE T2 L2 true [strB K.data.toList, strB nm.data.toList] K.data.toList := ⟨_, rfl⟩
  have hR : anewR M left K.data.toList d.data.toList nm.data.toList = if E1 ≠ 0 then (E1, T1, L1) else if E2 ≠ 0 then (E2, T2, L2) else (E3, T3, L3) := by
    unfold anewR
    simp only [← hT1, ← hL1, ← hE1, ← hT2, ← hL2, ← hE2, ← hT3, ← hL3, ← hE3]
  rw [hR]
  obtain ⟨n0, hn0⟩ : ∃ n, n = M.length := ⟨_, rfl⟩
  obtain ⟨n1, hn1⟩ : ∃ n, n = T1.length := ⟨_, rfl⟩
  obtain ⟨n2, hn2⟩ : ∃ n, n = T2.length := ⟨_, rfl⟩
  obtain ⟨n3, hn3⟩ : ∃ n, n = T3.length := ⟨_, rfl⟩
  have ha := fun (V : World) (hb : Below w.heap.size w V) => (append07m_any V A c M left (hr.below_all hb) (by have := hw.len; omega) hw.rises hle K d (by omega) (by have := (hw.szs.file K.data.toList).1; omega)).mono fun e w' h => RPost.two (n := n1) (by rw [← hT1, ← hL1, ← hE1] at h; exact h) hn1
  have hsy := fun (V : World) (A1 : Option Addr) (c1 : Nat) (h1 : Rd V 3 A1 T1.length (rfsV T1)) => (sync07m_any V A1 c1 T1 L1 h1 (by have := w1.len; omega) w1.rises l1 K (by have := (w1.szs.file K.data.toList).1; omega)).mono fun e w' h => RPost.two (n := n2) (by rw [← hT2, ← hL2, ← hE2] at h; exact h) hn2
  have hre := fun (V : World) (A1 : Option Addr) (c1 : Nat) (h1 : Rd V 3 A1 T2.length (rfsV T2)) => (rename07m_any V A1 c1 T2 L2 h1 (by have := w2.len; omega) w2.rises l2 K nm).mono fun e w' h => RPost.two (n := n3) (by rw [← hT3, ← hL3, ← hE3] at h; exact h) hn3
  rw [← hn0] at ha ⊢
  rw [← hn1] at hsy
  rw [← hn2] at hre
  obtain ⟨g, hg⟩ : ∃ g, g = w.heap.size := ⟨_, rfl⟩
  obtain ⟨W3, hW3⟩ : ∃ W3, W3 = ((w.alloc (.cells #[.slice A n0 c, .int .i64 left] 30)).alloc (.cells #[.slice none 0 0, .int .i64 0] 30)) := ⟨_, rfl⟩
  have z3 : W3.heap.size = g + 2 := by rw [hW3, hg]; simp
  have b0 : Box W3 g [.slice A n0 c, .int .i64 left] := by rw [hW3]; exact (Box.new' _ _ _ (by simp [hg])).alloc _
  have b1 : Box W3 (g + 1) [.slice none 0 0, .int .i64 0] := by rw [hW3]; exact Box.new' _ _ _ (by simp [hg])
  have hbW : Below w.heap.size w W3 := by rw [hW3]; exact ((Below.refl _ _).alloc (by simp) _).alloc (by simp) _
  have HW3 := hid2 hW3
  have HG := hid2 hg
  have HS0 := hid2 (show AnSt w W3 A g A n0 c left M from ⟨b0, b1, hr.below_all hbW, hbW, fun q hq => .inl hq, hg⟩)
  have HAP := hid2 ha
  have HSY := hid2 hsy
  have HRE := hid2 hre
  have HK := hid2 hK
  have HA := hid2 hA
  have HN1 := hid2 hn1
  have HN2 := hid2 hn2
  have HN3 := hid2 hn3
  clear ha hsy hre hK hA hn0 hn1 hn2 hn3 hT1 hL1 hE1 hT2 hL2 hE2 hT3 hL3 hE3 l1 l2 w1 w2 hR hr hle hw hW hN hnW hdW hdl hol hnl hKl hKs hW3 hg hd b0 b1
  by_cases h1 : E1 = 0
  · rw [if_neg (by rw [h1]; simp)]
    subst h1
    by_cases h2 : E2 = 0
    · rw [if_neg (by rw [h2]; simp)]
      subst h2
      go_enter Tryz.func33, Tryz.ntmps33
      go_upto_region 2 with (go_at_call 19; rw [← HK.out, ← HW3.out, ← HG.out]; refine (HAP.out _ hbW).mono ?_; rintro e w3 ⟨A1, c1, rfl, hr, hb, hf⟩; have k0 := HS0.out.b0.below_all hb; have d0 : w3.cell? ⟨g, 0, none⟩ = some (.slice A n0 c) := k0.cells 0; have d1 : w3.cell? ⟨g, 1, none⟩ = some (.int .i64 left) := k0.cells 1; have f0 : w3.frozen? ⟨g, 0, none⟩ = false := k0.free 0; have f1 : w3.frozen? ⟨g, 1, none⟩ = false := k0.free 1; clear k0; have HR3 := hid2 hr; have HB3 := hid2 hb; have HF3 := hid2 hf; clear hr hb hf)
      obtain ⟨W4, hW4⟩ : ∃ W4, W4 = (w3.setCell ⟨g, 0, none⟩ (.slice A1 n1 c1)).setCell ⟨g, 1, none⟩ (.int .i64 L1) := ⟨_, rfl⟩
      rw [← hW4]
      have HS1 := hid2 (show AnSt w W4 A g A1 n1 c1 L1 T1 from by rw [hW4]; exact HS0.out.next HA.out HR3.out HB3.out HF3.out)
      clear hW4 d0 d1 f0 f1
      have e10 : W4.cell? ⟨g, 0, none⟩ = some (.slice A1 n1 c1) := HS1.out.b0.cells 0
      have e11 : W4.cell? ⟨g, 1, none⟩ = some (.int .i64 L1) := HS1.out.b0.cells 1
      have o10 : W4.cell? ⟨g + 1, 0, none⟩ = some (.slice none 0 0) := HS1.out.b1.cells 0
      have o11 : W4.cell? ⟨g + 1, 1, none⟩ = some (.int .i64 0) := HS1.out.b1.cells 1
      have p10 : W4.frozen? ⟨g + 1, 0, none⟩ = false := HS1.out.b1.free 0
      have p11 : W4.frozen? ⟨g + 1, 1, none⟩ = false := HS1.out.b1.free 1
      go_upto_region 5 with (go_at_call 38; rw [← HK.out]; refine (HSY.out W4 A1 c1 (by rw [HN1.out]; exact HS1.out.row)).mono ?_; rintro e w5 ⟨A2, c2, rfl, hr, hb, hf⟩; clear e10 e11 o10 o11 p10 p11; have k0 := HS1.out.b0.below_all hb; have d0 : w5.cell? ⟨g, 0, none⟩ = some (.slice A1 n1 c1) := k0.cells 0; have d1 : w5.cell? ⟨g, 1, none⟩ = some (.int .i64 L1) := k0.cells 1; have f0 : w5.frozen? ⟨g, 0, none⟩ = false := k0.free 0; have f1 : w5.frozen? ⟨g, 1, none⟩ = false := k0.free 1; clear k0; have HR5 := hid2 hr; have HB5 := hid2 hb; have HF5 := hid2 hf; clear hr hb hf)
      obtain ⟨W6, hW6⟩ : ∃ W6, W6 = (w5.setCell ⟨g, 0, none⟩ (.slice A2 n2 c2)).setCell ⟨g, 1, none⟩ (.int .i64 L2) := ⟨_, rfl⟩
      rw [← hW6]
      have HS2 := hid2 (show AnSt w W6 A g A2 n2 c2 L2 T2 from by rw [hW6]; exact HS1.out.next HA.out HR5.out HB5.out HF5.out)
      clear hW6 d0 d1 f0 f1
      have e20 : W6.cell? ⟨g, 0, none⟩ = some (.slice A2 n2 c2) := HS2.out.b0.cells 0
      have e21 : W6.cell? ⟨g, 1, none⟩ = some (.int .i64 L2) := HS2.out.b0.cells 1
      have o20 : W6.cell? ⟨g + 1, 0, none⟩ = some (.slice none 0 0) := HS2.out.b1.cells 0
      have o21 : W6.cell? ⟨g + 1, 1, none⟩ = some (.int .i64 0) := HS2.out.b1.cells 1
      have p20 : W6.frozen? ⟨g + 1, 0, none⟩ = false := HS2.out.b1.free 0
      have p21 : W6.frozen? ⟨g + 1, 1, none⟩ = false := HS2.out.b1.free 1
      go_wp2_with (go_at_call 58; rw [← HK.out]; refine (HRE.out W6 A2 c2 (by rw [HN2.out]; exact HS2.out.row)).mono ?_; rintro e w7 ⟨A3, c3, rfl, hr, hb, hf⟩; clear e20 e21 o20 o21 p20 p21; have k1 := HS2.out.b1.below_all hb; have d0 : w7.cell? ⟨g + 1, 0, none⟩ = some (.slice none 0 0) := k1.cells 0; have d1 : w7.cell? ⟨g + 1, 1, none⟩ = some (.int .i64 0) := k1.cells 1; have f0 : w7.frozen? ⟨g + 1, 0, none⟩ = false := k1.free 0; have f1 : w7.frozen? ⟨g + 1, 1, none⟩ = false := k1.free 1; clear k1; have HR7 := hid2 hr; have HB7 := hid2 hb; have HF7 := hid2 hf; clear hr hb hf)
      refine bodyPost_ret (v := .tuple #[.agg #[.slice A3 n3 c3, .int .i64 L3], .int .i64 E3]) (by simp [results, Tryz.results33, go_sem, d0, d1]) rfl ?_
      exact HS2.out.end2 HA.out HR7.out HB7.out HF7.out HN3.out
    · rw [if_pos h2]
      have h2b : (E2 == 0) = false := by rw [beq_eq_false_iff_ne]; exact h2
      go_enter Tryz.func33, Tryz.ntmps33
      go_upto_region 2 with (go_at_call 19; rw [← HK.out, ← HW3.out, ← HG.out]; refine (HAP.out _ hbW).mono ?_; rintro e w3 ⟨A1, c1, rfl, hr, hb, hf⟩; have k0 := HS0.out.b0.below_all hb; have d0 : w3.cell? ⟨g, 0, none⟩ = some (.slice A n0 c) := k0.cells 0; have d1 : w3.cell? ⟨g, 1, none⟩ = some (.int .i64 left) := k0.cells 1; have f0 : w3.frozen? ⟨g, 0, none⟩ = false := k0.free 0; have f1 : w3.frozen? ⟨g, 1, none⟩ = false := k0.free 1; clear k0; have HR3 := hid2 hr; have HB3 := hid2 hb; have HF3 := hid2 hf; clear hr hb hf)
      obtain ⟨W4, hW4⟩ : ∃ W4, W4 = (w3.setCell ⟨g, 0, none⟩ (.slice A1 n1 c1)).setCell ⟨g, 1, none⟩ (.int .i64 L1) := ⟨_, rfl⟩
      rw [← hW4]
      have HS1 := hid2 (show AnSt w W4 A g A1 n1 c1 L1 T1 from by rw [hW4]; exact HS0.out.next HA.out HR3.out HB3.out HF3.out)
      clear hW4 d0 d1 f0 f1
      have e10 : W4.cell? ⟨g, 0, none⟩ = some (.slice A1 n1 c1) := HS1.out.b0.cells 0
      have e11 : W4.cell? ⟨g, 1, none⟩ = some (.int .i64 L1) := HS1.out.b0.cells 1
      have o10 : W4.cell? ⟨g + 1, 0, none⟩ = some (.slice none 0 0) := HS1.out.b1.cells 0
      have o11 : W4.cell? ⟨g + 1, 1, none⟩ = some (.int .i64 0) := HS1.out.b1.cells 1
      have p10 : W4.frozen? ⟨g + 1, 0, none⟩ = false := HS1.out.b1.free 0
      have p11 : W4.frozen? ⟨g + 1, 1, none⟩ = false := HS1.out.b1.free 1
      go_upto_region 5 with (go_at_call 38; rw [← HK.out]; refine (HSY.out W4 A1 c1 (by rw [HN1.out]; exact HS1.out.row)).mono ?_; rintro e w5 ⟨A2, c2, rfl, hr, hb, hf⟩; clear e10 e11 o10 o11 p10 p11; have k0 := HS1.out.b0.below_all hb; have d0 : w5.cell? ⟨g, 0, none⟩ = some (.slice A1 n1 c1) := k0.cells 0; have d1 : w5.cell? ⟨g, 1, none⟩ = some (.int .i64 L1) := k0.cells 1; have f0 : w5.frozen? ⟨g, 0, none⟩ = false := k0.free 0; have f1 : w5.frozen? ⟨g, 1, none⟩ = false := k0.free 1; clear k0; have HR5 := hid2 hr; have HB5 := hid2 hb; have HF5 := hid2 hf; clear hr hb hf)
      obtain ⟨W6, hW6⟩ : ∃ W6, W6 = (w5.setCell ⟨g, 0, none⟩ (.slice A2 n2 c2)).setCell ⟨g, 1, none⟩ (.int .i64 L2) := ⟨_, rfl⟩
      rw [← hW6]
      have HS2 := hid2 (show AnSt w W6 A g A2 n2 c2 L2 T2 from by rw [hW6]; exact HS1.out.next HA.out HR5.out HB5.out HF5.out)
      clear hW6 d0 d1 f0 f1
      have e20 : W6.cell? ⟨g, 0, none⟩ = some (.slice A2 n2 c2) := HS2.out.b0.cells 0
      have e21 : W6.cell? ⟨g, 1, none⟩ = some (.int .i64 L2) := HS2.out.b0.cells 1
      have o20 : W6.cell? ⟨g + 1, 0, none⟩ = some (.slice none 0 0) := HS2.out.b1.cells 0
      have o21 : W6.cell? ⟨g + 1, 1, none⟩ = some (.int .i64 0) := HS2.out.b1.cells 1
      have p20 : W6.frozen? ⟨g + 1, 0, none⟩ = false := HS2.out.b1.free 0
      have p21 : W6.frozen? ⟨g + 1, 1, none⟩ = false := HS2.out.b1.free 1
      go_wp2_with fail
      refine bodyPost_ret (v := .tuple #[.agg #[.slice A2 n2 c2, .int .i64 L2], .int .i64 E2]) (by simp [results, Tryz.results33, go_sem, o20, o21]) rfl ?_
      exact HS2.out.end_ HA.out HN2.out
  · rw [if_pos h1]
    have h1b : (E1 == 0) = false := by rw [beq_eq_false_iff_ne]; exact h1
    go_enter Tryz.func33, Tryz.ntmps33
    go_upto_region 2 with (go_at_call 19; rw [← HK.out, ← HW3.out, ← HG.out]; refine (HAP.out _ hbW).mono ?_; rintro e w3 ⟨A1, c1, rfl, hr, hb, hf⟩; have k0 := HS0.out.b0.below_all hb; have d0 : w3.cell? ⟨g, 0, none⟩ = some (.slice A n0 c) := k0.cells 0; have d1 : w3.cell? ⟨g, 1, none⟩ = some (.int .i64 left) := k0.cells 1; have f0 : w3.frozen? ⟨g, 0, none⟩ = false := k0.free 0; have f1 : w3.frozen? ⟨g, 1, none⟩ = false := k0.free 1; clear k0; have HR3 := hid2 hr; have HB3 := hid2 hb; have HF3 := hid2 hf; clear hr hb hf)
    obtain ⟨W4, hW4⟩ : ∃ W4, W4 = (w3.setCell ⟨g, 0, none⟩ (.slice A1 n1 c1)).setCell ⟨g, 1, none⟩ (.int .i64 L1) := ⟨_, rfl⟩
    rw [← hW4]
    have HS1 := hid2 (show AnSt w W4 A g A1 n1 c1 L1 T1 from by rw [hW4]; exact HS0.out.next HA.out HR3.out HB3.out HF3.out)
    clear hW4 d0 d1 f0 f1
    have e10 : W4.cell? ⟨g, 0, none⟩ = some (.slice A1 n1 c1) := HS1.out.b0.cells 0
    have e11 : W4.cell? ⟨g, 1, none⟩ = some (.int .i64 L1) := HS1.out.b0.cells 1
    have o10 : W4.cell? ⟨g + 1, 0, none⟩ = some (.slice none 0 0) := HS1.out.b1.cells 0
    have o11 : W4.cell? ⟨g + 1, 1, none⟩ = some (.int .i64 0) := HS1.out.b1.cells 1
    have p10 : W4.frozen? ⟨g + 1, 0, none⟩ = false := HS1.out.b1.free 0
    have p11 : W4.frozen? ⟨g + 1, 1, none⟩ = false := HS1.out.b1.free 1
    go_wp2_with fail
    refine bodyPost_ret (v := .tuple #[.agg #[.slice A1 n1 c1, .int .i64 L1], .int .i64 E1]) (by simp [results, Tryz.results33, go_sem, o10, o11]) rfl ?_
    exact HS1.out.end_ HA.out HN1.out
end Go.Proofs.YtehpapoboeejkaaGreat
/- The walks of the document's whole. -/
namespace Go.Proofs.YtehpapoboeejkaaGreat
open Go.RowKit
set_option maxRecDepth 100000

/-- a row of bytes in its slot v: so far T -/
def RowInv (w wr : World) (T : List UInt8) (v : Value) : Prop :=
  Below w.heap.size w wr ∧ ∃ A c, v = .slice A T.length c ∧ Own wr w.heap.size 5 1 A T.length c (u8s T)
theorem RowInv.push {w wr w2 : World} {T : List UInt8} {A A' : Option Addr} {n c c' : Nat} {o : Obj} {b : UInt8} {x : Int} (hn : n = T.length) (hb : Below w.heap.size w wr) (hown : Own wr w.heap.size 5 1 A n c (u8s T))
    (hgr : (wr.alloc o).grownBy w2 (blockOf A)) (hown2 : Own w2 w.heap.size 5 1 A' (n + 1) c' (u8s T ++ [.int .u8 x])) (hx : x = b.toNat) : RowInv w w2 (T ++ [b]) (.slice A' (n + 1) c') := by
  subst hn hx
  rw [u8s_snoc] at hown2
  refine ⟨(hb.alloc hb.size o).grown hgr (by simp; have := hb.size; omega) (fun k e => (hown.block k e).1), A', c', by rw [List.length_append]; rfl, ?_⟩
  rw [List.length_append]
  exact hown2
set_option maxHeartbeats 1000000 in
theorem whole_any (w : World) (s : ByteArray) (hs : s.size ≤ 20000) :
    Calls Tryz.prog 73 #[.string s] w fun e w' => ∃ v, e = .returned v ∧ RowInv w w' (Sha.whole s.data.toList) v := by
  have HMX := hid2 (show s.size ≤ maxLen by unfold maxLen; omega)
  obtain ⟨d, hd⟩ : ∃ d, d = s.data.toList := ⟨_, rfl⟩
  have htl := toList_length s
  rw [← hd] at htl ⊢
  have HTL := hid2 htl
  have HD := hid2 hd
  have HM1 := hid2 (show s.size + 1 ≤ maxLen by unfold maxLen; omega)
  have HM2 := hid2 (show (s.size + 1) * 1 ≤ 140737488355328 by omega)
  clear hd htl
  go_enter Tryz.func73, Tryz.ntmps73
  go_wp2_with (first
    | ((with_reducible refine wpList_to_bytes_lit 5 w.heap.size s Tryz.underlying9 Tryz.underlying75 Tryz.underlying5 (Nat.le_refl _) HMX.out ?_ ?_); exact rfl; intro A2 c2 w2 hown0 hbe2 hbl2; rw [← HD.out] at hown0)
    | (at_builtin; have _t := hown0; go_must ((with_reducible refine wpList_append_lit 5 (.int .u8 0) 1 1 Tryz.underlying75 info_u8 rfl w.heap.size A2 s.size c2 (u8s d) (hown0.alloc _) 1 [.int .u8 128] (.slice (some ⟨w2.heap.size, 0, none⟩) 1 1) (Src.slice Tryz.underlying75 (Rd.one w2 _ _)) one_int HM1.out HM2.out ?_ ?_ ?_); (simp; have := hbe2.size; omega); exact ⟨rfl, rfl⟩; intro A3 c3 w3 hown3 hgr3 hbl3; clear hown0)))
  have hI0 : RowInv w w3 (d ++ [128]) (.slice A3 (s.size + 1) c3) := RowInv.push HTL.out.symm hbe2 _t hgr3 hown3 rfl
  clear hbe2 hbl2 hgr3 hbl3 hown3 _t
  obtain ⟨z, hz⟩ : ∃ z, z = (119 - s.size % 64) % 64 := ⟨_, rfl⟩
  have hmz : (s.size + 1 + z) % 64 = 56 := by omega
  have hmz' : ∀ k, k < z → (s.size + 1 + k) % 64 ≠ 56 := by intro k hk; omega
  have hz64 : z < 64 := by omega
  have HZ := hid2 hz
  have HMZ := hid2 hmz
  have HMZ' := hid2 hmz'
  clear hz hmz hmz'
  go_loopg [3] z (fun gk v wr => ∃ k, k + gk = z ∧ RowInv w wr (d ++ 128 :: List.replicate k 0) v)
  case atStart => exact ⟨0, by omega, hI0⟩
  case round =>
    clear hI0
    obtain ⟨k, hk, hbe, Ak, ck, rfl, hown⟩ := hrel
    have hTl : (d ++ 128 :: List.replicate k 0).length = s.size + 1 + k := by
      rw [List.length_append, HTL.out, List.length_cons, List.length_replicate]; omega
    obtain ⟨T, hT⟩ : ∃ T, T = d ++ 128 :: List.replicate k 0 := ⟨_, rfl⟩
    rw [← hT] at hTl hown ⊢
    obtain ⟨n, hn⟩ : ∃ n, n = T.length := ⟨_, rfl⟩
    rw [← hn] at hTl hown ⊢
    have HT := hid2 hT
    have HTL2 := hid2 hTl
    have HNT := hid2 hn
    clear hT hn
    have hS1 := hbe.size
    by_cases hkz : k < z
    · have htest : ((n : Int) % 64 != 56) = true := by
        have := HMZ'.out k hkz
        rw [bne_iff_ne]; omega
      clear hTl
      go_wp2_with (first
        | (at_builtin; have _t := hown; go_must ((with_reducible refine wpList_append_lit 5 (.int .u8 0) 1 1 Tryz.underlying75 info_u8 rfl w.heap.size Ak n ck (u8s T) (hown.alloc _) 1 [.int .u8 0] (.slice (some ⟨wr.heap.size, 0, none⟩) 1 1) (Src.slice Tryz.underlying75 (Rd.one wr _ _)) one_int ?_ ?_ ?_ ?_ ?_); (have := HTL2.out; unfold maxLen; omega); (have := HTL2.out; omega); (simp; omega); exact ⟨rfl, rfl⟩; intro A3 c3 w3 hown3 hgr3 hbl3; clear hown)))
      go_roundg (gk - 1)
      case rel => exact ⟨k + 1, by omega, by rw [zeros_snoc, ← HT.out]; exact RowInv.push HNT.out hbe _t hgr3 hown3 rfl⟩
      case measure => omega
    · have hkz' : k = z := by omega
      have htest : ((n : Int) % 64 != 56) = false := by
        have := HMZ.out
        rw [bne_eq_false_iff_eq]; omega
      have HKZ := hid2 hkz'
      have hn130 : n ≤ 20200 := by omega
      clear hTl hkz' hkz hk
      go_wp2
      have hI : RowInv w wr (T ++ (Sha.eight (8 * s.size)).take 0) (.slice Ak n ck) := by
        rw [List.take_zero, List.append_nil, HNT.out]
        rw [HNT.out] at hown
        exact ⟨hbe, Ak, ck, rfl, hown⟩
      clear hbe hown hS1
      go_loopg [3, 5] 8 (fun gk v i wr => ∃ j, j + gk = 8 ∧ i = .int .i64 (7 - (j : Int)) ∧ RowInv w wr (T ++ (Sha.eight (8 * s.size)).take j) v)
      case atStart => exact ⟨0, by omega, rfl, hI⟩
      case round =>
        clear hI
        obtain ⟨j, hj, rfl, hbe, Aj, cj, rfl, hown⟩ := hrel
        obtain ⟨U, hU⟩ : ∃ U, U = T ++ (Sha.eight (8 * s.size)).take j := ⟨_, rfl⟩
        rw [← hU] at hown ⊢
        obtain ⟨q, hq⟩ : ∃ q, q = U.length := ⟨_, rfl⟩
        rw [← hq] at hown ⊢
        have hql : q ≤ n + 8 := by rw [hq, hU, List.length_append, HNT.out, List.length_take]; omega
        have HU := hid2 hU
        have HQ := hid2 hq
        clear hU hq
        have hS1 := hbe.size
        by_cases hj8 : j < 8
        · have hge : (0 : Int) ≤ 7 - (j : Int) := by omega
          have hge8 : (0 : Int) ≤ 8 * (7 - (j : Int)) := by omega
          go_wp2_with (first
            | (at_builtin; have _t := hown; go_must ((with_reducible refine wpList_append_lit 5 (.int .u8 0) 1 1 Tryz.underlying75 info_u8 rfl w.heap.size Aj q cj (u8s U) (hown.alloc _) 1 [_] (.slice (some ⟨wr.heap.size, 0, none⟩) 1 1) (Src.slice Tryz.underlying75 (Rd.one wr _ _)) one_int ?_ ?_ ?_ ?_ ?_); (unfold maxLen; omega); omega; (simp; omega); exact ⟨rfl, rfl⟩; intro A3 c3 w3 hown3 hgr3 hbl3; clear hown)))
          go_roundg (gk - 1)
          case rel => exact ⟨j + 1, by omega, by go_num, by rw [eight_take s.size j hj8, ← List.append_assoc, ← HU.out]; exact RowInv.push HQ.out hbe _t hgr3 hown3 (by rw [← byteAt_int, show 56 - 8 * j = 8 * (7 - j) by omega, Int.mul_comm])⟩
          case measure => omega
        · have hlt0 : (7 - (j : Int)) < 0 := by omega
          have hj8' : j = 8 := by omega
          have hW : U = T ++ Sha.eight (8 * s.size) := by rw [HU.out, hj8', List.take_of_length_le (by rw [eight_length]; omega)]
          have HW := hid2 hW
          have HJ := hid2 hj8'
          clear hW hj8' hj8 hj
          go_wp2
          go_ret
          refine ⟨_, rfl, ?_⟩
          have e : Sha.whole d = U := by
            rw [HW.out, HT.out, HKZ.out, HZ.out, Sha.whole, Sha.tail, HTL.out, List.append_assoc, List.cons_append]
          rw [e, HQ.out]
          rw [HQ.out] at hown
          exact ⟨hbe, Aj, cj, rfl, hown⟩
end Go.Proofs.YtehpapoboeejkaaGreat
/- The walk of the document's block. -/
namespace Go.Proofs.YtehpapoboeejkaaGreat.Sha
theorem words_step (b : List UInt8) (n : Nat) : words b (n + 1) = words b n ++ [nextWord (words b n) n] := rfl
/-- the first k words of a block -/
def wordsTo (b : List UInt8) (k : Nat) : List UInt32 := if k ≤ 16 then (words b 0).take k else words b (k - 16)
theorem wordsTo_length (b : List UInt8) (k : Nat) : (wordsTo b k).length = k := by
  unfold wordsTo
  split
  · rw [List.length_take, words_length]; omega
  · rw [words_length]; omega
theorem wordsTo_low (b : List UInt8) (k : Nat) (h : k < 16) : wordsTo b (k + 1) = wordsTo b k ++ [wordAt b (4 * k)] := by
  have hl : k < (words b 0).length := by rw [words_length]; omega
  rw [wordsTo, wordsTo, if_pos (by omega), if_pos (by omega), List.take_succ_eq_append_getElem hl]
  congr 2
  simp [words]
theorem wordsTo_high (b : List UInt8) (k : Nat) (h : 16 ≤ k) : wordsTo b (k + 1) = wordsTo b k ++ [nextWord (wordsTo b k) (k - 16)] := by
  have e : wordsTo b k = words b (k - 16) := by
    unfold wordsTo
    split
    · have : k = 16 := by omega
      subst this
      rw [List.take_of_length_le (by rw [words_length]; omega)]
    · rfl
  rw [e, wordsTo, if_neg (by omega), show k + 1 - 16 = (k - 16) + 1 by omega]
  rfl
theorem wordsTo_all (b : List UInt8) : wordsTo b 64 = words b 48 := by rw [wordsTo, if_neg (by omega)]
theorem wordAt_drop (b : List UInt8) (k : Nat) : wordAt (b.drop k) 0 = wordAt b k := by
  simp [wordAt, List.getD_eq_getElem?_getD, List.getElem?_drop]
end Go.Proofs.YtehpapoboeejkaaGreat.Sha
namespace Go.Proofs.YtehpapoboeejkaaGreat
open Go.RowKit
set_option maxRecDepth 100000
theorem info_u32w : (Tryz.prog.info? 119).map (fun i => (i.zero, i.size, i.bytes)) = some (some (.int .u32 0), 1, 4) := by kernel_rfl
theorem info_w1 : (Tryz.prog.info? 119).map (·.size) = some 1 := by kernel_rfl
/-- a row of words of the call's own in its slot v -/
def WRow (w wr : World) (L : List UInt32) (v : Value) : Prop :=
  Below w.heap.size w wr ∧ ∃ A c, v = .slice A L.length c ∧ Own wr w.heap.size 119 1 A L.length c (w32s L)
theorem w32s_snoc (l : List UInt32) (x : UInt32) : w32s l ++ [.int .u32 x.toNat] = w32s (l ++ [x]) := by simp [w32s, w32]
theorem WRow.push {w wr w2 : World} {L : List UInt32} {A A' : Option Addr} {n m c c' : Nat} {o : Obj} {x : UInt32} {y : Int} (hn : L.length = n) (hb : Below w.heap.size w wr) (hown : Own wr w.heap.size 119 1 A n c (w32s L))
    (hgr : ((wr.drewN m).alloc o).grownBy w2 (blockOf A)) (hown2 : Own w2 w.heap.size 119 1 A' (n + 1) c' (w32s L ++ [.int .u32 y])) (hy : y = x.toNat) : WRow w w2 (L ++ [x]) (.slice A' (n + 1) c') := by
  subst hn hy
  rw [w32s_snoc] at hown2
  refine ⟨((below_drewN hb m).alloc (by exact hb.size) o).grown hgr (by simp; have := hb.size; omega) (fun k e => (hown.block k e).1), A', c', by rw [List.length_append]; rfl, ?_⟩
  rw [List.length_append]
  exact hown2
/-- what is known of operation j of the region that makes the next word: its value; of the last, that it is a row of one word -/
def BlkV (B : Nat) (vals : List Value) (x : Value) (j : Nat) (v : Value) (w2 : World) : Prop :=
  match j == 30 with
  | true => ∃ g, v = .slice (some ⟨g, 0, none⟩) 1 1 ∧ B ≤ g ∧ w2.heap[g]? = some (.cells #[x] 119 (0, 0))
  | false => vals[j]? = some v
theorem BlkV.keep {B : Nat} {vals : List Value} {x : Value} {j : Nat} {v : Value} {w2 w3 : World} (h : BlkV B vals x j v w2) (hb : Below w2.heap.size w2 w3) : BlkV B vals x j v w3 := by
  unfold BlkV at *
  split
  · rename_i hj
    simp only [hj] at h
    obtain ⟨g, h1, h2, h3⟩ := h
    exact ⟨g, h1, h2, (hb.block g (heap_lt h3)).trans h3⟩
  · rename_i hj
    simp only [hj] at h
    exact h
/-- what is known of operation j of a region whose operation N makes a row of one word: its value; of operation N, that it is such a row -/
def BlkN (N B : Nat) (vals : List Value) (x : Value) (j : Nat) (v : Value) (w2 : World) : Prop :=
  match j == N with
  | true => ∃ g, v = .slice (some ⟨g, 0, none⟩) 1 1 ∧ B ≤ g ∧ w2.heap[g]? = some (.cells #[x] 119 (0, 0))
  | false => vals[j]? = some v
theorem BlkN.keep {N B : Nat} {vals : List Value} {x : Value} {j : Nat} {v : Value} {w2 w3 : World} (h : BlkN N B vals x j v w2) (hb : Below w2.heap.size w2 w3) : BlkN N B vals x j v w3 := by
  unfold BlkN at *
  split
  · rename_i hj
    simp only [hj] at h
    obtain ⟨g, h1, h2, h3⟩ := h
    exact ⟨g, h1, h2, (hb.block g (heap_lt h3)).trans h3⟩
  · rename_i hj
    simp only [hj] at h
    exact h
theorem Rd.of_row {w : World} {g : Nat} {v : Value} {t : TypeId} (h : w.heap[g]? = some (.cells #[v] t (0, 0))) : Rd w 1 (some ⟨g, 0, none⟩) 1 [v] := by
  refine ⟨rfl, fun _ => ⟨g, 0, rfl, fun j u hu => ?_⟩⟩
  rw [Nat.zero_add, cell_of_row w g j _ _ _ h]
  simpa using hu
theorem WRow.push2 {w wr w2 : World} {L : List UInt32} {A A' : Option Addr} {n c c' : Nat} {x : UInt32} {y : Int} (hn : L.length = n) (hb : Below w.heap.size w wr) (hown : Own wr w.heap.size 119 1 A n c (w32s L))
    (hgr : wr.grownBy w2 (blockOf A)) (hown2 : Own w2 w.heap.size 119 1 A' (n + 1) c' (w32s L ++ [.int .u32 y])) (hy : y = x.toNat) : WRow w w2 (L ++ [x]) (.slice A' (n + 1) c') := by
  subst hn hy
  rw [w32s_snoc] at hown2
  refine ⟨hb.grown hgr hb.size (fun k e => (hown.block k e).1), A', c', by rw [List.length_append]; rfl, ?_⟩
  rw [List.length_append]
  exact hown2
theorem plus_take (S Z : Sha.S8) (i : Nat) (h : i < 8) : (S.plus Z).list.take (i + 1) = (S.plus Z).list.take i ++ [S.list.getD i 0 + Z.list.getD i 0] := by
  have : i = 0 ∨ i = 1 ∨ i = 2 ∨ i = 3 ∨ i = 4 ∨ i = 5 ∨ i = 6 ∨ i = 7 := by omega
  rcases this with rfl | rfl | rfl | rfl | rfl | rfl | rfl | rfl <;> rfl
section
attribute [local go_sem] w_add w_xor w_and w_not w_shr3 w_shr10 sgn32 max32
set_option maxRecDepth 100000 in
set_option maxHeartbeats 8000000 in
theorem block_any (w : World) (ab ao bb bo c cb : Nat) (S : Sha.S8) (b : List UInt8) (hab : ab < w.heap.size) (hbb : bb < w.heap.size)
    (hA : ∀ j, j < 8 → w.cell? ⟨ab, ao + j, none⟩ = some (.int .u32 (S.list.getD j 0).toNat)) (hB : ∀ j, j < 64 → w.cell? ⟨bb, bo + j, none⟩ = some (.int .u8 (b.getD j 0).toNat)) (hcb : 64 ≤ cb) :
    Calls Tryz.prog 74 #[.slice (some ⟨ab, ao, none⟩) 8 c, .slice (some ⟨bb, bo, none⟩) 64 cb] w fun e w' => ∃ v, e = .returned v ∧ WRow w w' (Sha.block S b).list v := by
  have HA := hid2 hA
  have HB := hid2 hB
  have hcb3 : (64 : Int) ≤ cb := by omega
  clear hA hB
  go_enter Tryz.func74, Tryz.ntmps74
  go_wp2_with (first | (go_at_call 80; refine (ks_any _).mono ?_; rintro e w1 ⟨AK, rfl, hK, hb1⟩))
  have HA1 := hid2 (fun j (hj : j < 8) => (hb1.cell (p := ⟨ab, ao + j, none⟩) hab).trans (HA.out j hj))
  have HB1 := hid2 (fun j (hj : j < 64) => (hb1.cell (p := ⟨bb, bo + j, none⟩) hbb).trans (HB.out j hj))
  have hab1 : ab < w1.heap.size := Nat.lt_of_lt_of_le hab hb1.size
  have hbb1 : bb < w1.heap.size := Nat.lt_of_lt_of_le hbb hb1.size
  have HK := hid2 hK
  have Hb1 := hid2 hb1
  clear HA HB hab hbb hK hb1
  have hI : WRow w1 (w1.alloc (.cells #[] 119)) (Sha.wordsTo b 0) (.slice (some ⟨w1.heap.size, 0, none⟩) 0 0) := ⟨(Below.refl _ _).alloc (Nat.le_refl _) _, _, _, rfl, Own.lit w1 #[] _ 1 0 _ (Nat.le_refl _) (by decide) rfl⟩
  go_loopg [6, 7] 64 (fun gk v i wr => ∃ k : Nat, k + gk = 64 ∧ i = .int .i64 k ∧ WRow w1 wr (Sha.wordsTo b k) v)
  case atStart => exact ⟨0, by omega, rfl, hI⟩
  case round =>
    clear hI
    obtain ⟨k, hk, rfl, hbe, Aw, cw, rfl, hown⟩ := hrel
    rw [Sha.wordsTo_length] at hown ⊢
    have hs1 := hbe.size
    by_cases hlt : k < 16
    · have hlt64 : (k : Int) < 64 := by omega
      have hwl := Sha.wordsTo_length b k
      have hlow := Sha.wordsTo_low b k hlt
      obtain ⟨W, hW⟩ : ∃ W, W = Sha.wordsTo b k := ⟨_, rfl⟩
      rw [← hW] at hown hwl hlow
      have HLOW := hid2 hlow
      have HWL := hid2 hwl
      clear hW hlow hwl
      have hword := fun wx hx => word_any bb (bo + 4 * k) (cb - 4 * k) (b.drop (4 * k)) wx hx
      have hsrc : ∀ j, j < 4 → wr.cell? ⟨bb, bo + 4 * k + j, none⟩ = some (.int .u8 ((b.drop (4 * k)).getD j 0).toNat) := by
        intro j hj
        rw [Nat.add_assoc, (hbe.cell (p := ⟨bb, bo + (4 * k + j), none⟩) hbb1), HB1.out (4 * k + j) (by omega), List.getD_eq_getElem?_getD, List.getD_eq_getElem?_getD, List.getElem?_drop]
      have HSRC := hid2 hsrc
      have HWORD := hid2 hword
      clear hsrc hword
      go_wp2_with (first
        | (go_at_call 81; refine (HWORD.out _ HSRC.out).mono ?_; rintro e w2 ⟨rfl, m, rfl⟩; rw [Sha.wordAt_drop])
        | (at_builtin; have _t := hown; go_must ((with_reducible refine wpList_append_lit 119 (.int .u32 0) 1 4 Tryz.underlying120 info_u32w rfl w1.heap.size Aw k cw (w32s W) ((hown.drewN m).alloc _) 1 [.int .u32 (Sha.wordAt b (4 * k)).toNat] (.slice (some ⟨wr.heap.size, 0, none⟩) 1 1) (Src.slice Tryz.underlying120 (Rd.one (wr.drewN m) _ _)) one_int ?_ ?_ ?_ ?_ ?_); (unfold maxLen; omega); omega; (simp; omega); exact ⟨rfl, rfl⟩; intro A3 c3 w3 hown3 hgr3 hbl3; clear hown)))
      go_roundg (gk - 1)
      case rel =>
        have hp := WRow.push HWL.out hbe _t hgr3 hown3 rfl
        rw [← HLOW.out] at hp
        exact ⟨k + 1, by omega, by go_num, hp⟩
      case measure => omega
    · by_cases hlt64 : k < 64
      · have hwl := Sha.wordsTo_length b k
        have hhigh := Sha.wordsTo_high b k (by omega)
        obtain ⟨W, hW⟩ : ∃ W, W = Sha.wordsTo b k := ⟨_, rfl⟩
        rw [← hW] at hown hwl hhigh
        have HHIGH := hid2 hhigh
        have HWL := hid2 hwl
        obtain ⟨ob, oo, cur, fr, rfl, hobb, hocur, _, hooc, hox⟩ := hown.at_ (by have := hown.2.1; omega)
        have hcell : ∀ j, j < k → wr.cell? ⟨ob, oo + j, none⟩ = some (.int .u32 (W.getD j 0).toNat) := by
          intro j hj
          rw [cell_of_row wr ob _ cur _ _ hocur, hox j (by omega), w32s_get W (by omega)]
        have HCELL := hid2 hcell
        have hc1 := hcell (k - 15) (by omega)
        have hc2 := hcell (k - 2) (by omega)
        have hc3 := hcell (k - 16) (by omega)
        have hc4 := hcell (k - 7) (by omega)
        have hg1 : (0 : Int) ≤ (k : Int) - 15 := by omega
        have hg2 : (0 : Int) ≤ (k : Int) - 2 := by omega
        have hg3 : (0 : Int) ≤ (k : Int) - 16 := by omega
        have hg4 : (0 : Int) ≤ (k : Int) - 7 := by omega
        have hobl := heap_lt hocur
        have hw16 : IntKind.i64.wrap ((k : Int) - 16) = (k : Int) - 16 := IntWalk.i64_in _ (by constructor <;> omega)
        have hw7 : IntKind.i64.wrap ((k : Int) - 7) = (k : Int) - 7 := IntWalk.i64_in _ (by constructor <;> omega)
        have ht16 : ((k : Int) - 16).toNat = k - 16 := by omega
        have ht7 : ((k : Int) - 7).toNat = k - 7 := by omega
        have hk16 : (k : Int) - 16 < k := by omega
        have hk7 : (k : Int) - 7 < k := by omega
        have hge7 : (7 : Int) ≤ k := by omega
        have hge16 : (16 : Int) ≤ k := by omega
        clear hhigh hwl hcell hocur hooc hox hobb
        have HW := hid2 hW
        obtain ⟨x, hx⟩ : ∃ x, x = W.getD (k - 15) 0 := ⟨_, rfl⟩
        obtain ⟨y, hy⟩ : ∃ y, y = W.getD (k - 2) 0 := ⟨_, rfl⟩
        obtain ⟨p, hp⟩ : ∃ p, p = W.getD (k - 16) 0 := ⟨_, rfl⟩
        obtain ⟨r, hr⟩ : ∃ r, r = W.getD (k - 7) 0 := ⟨_, rfl⟩
        rw [← hx] at hc1
        rw [← hy] at hc2
        rw [← hp] at hc3
        rw [← hr] at hc4
        have HX := hid2 hx
        have HY := hid2 hy
        have HP := hid2 hp
        have HR := hid2 hr
        clear hW hx hy hp hr
        have HOWN := hid2 hown
        have hnc := hown.2.1
        clear hown
        go_wp2_with fail
        go_quiet (fail)
        go_wp2_with fail
        refine wp_region_rel 31 (by kernel_rfl) (by kernel_rfl) (by kernel_rfl) _ rfl (by kernel_rfl) (BlkV wr.heap.size [.slice (some ⟨ob, oo, none⟩) k cw, .slice (some ⟨ob, oo, none⟩) k cw, .int .i64 (k), .int .i64 ((k : Int) - 16), .pointer (some ⟨ob, oo + (k - 16), none⟩), .int .u32 (p).toNat, .int .u32 (x).toNat, .int .u32 (rotI x 7).toNat, .int .u32 (x).toNat, .int .u32 (rotI x 18).toNat, .int .u32 (xor32 (rotI x 7) (rotI x 18)).toNat, .int .u32 (x).toNat, .int .u32 (shr32 x 3).toNat, .int .u32 (xor32 (xor32 (rotI x 7) (rotI x 18)) (shr32 x 3)).toNat, .int .u32 (add32 p (xor32 (xor32 (rotI x 7) (rotI x 18)) (shr32 x 3))).toNat, .slice (some ⟨ob, oo, none⟩) k cw, .int .i64 (k), .int .i64 ((k : Int) - 7), .pointer (some ⟨ob, oo + (k - 7), none⟩), .int .u32 (r).toNat, .int .u32 (add32 (add32 p (xor32 (xor32 (rotI x 7) (rotI x 18)) (shr32 x 3))) r).toNat, .int .u32 (y).toNat, .int .u32 (rotI y 17).toNat, .int .u32 (y).toNat, .int .u32 (rotI y 19).toNat, .int .u32 (xor32 (rotI y 17) (rotI y 19)).toNat, .int .u32 (y).toNat, .int .u32 (shr32 y 10).toNat, .int .u32 (xor32 (xor32 (rotI y 17) (rotI y 19)) (shr32 y 10)).toNat, .int .u32 (add32 (add32 (add32 p (xor32 (xor32 (rotI x 7) (rotI x 18)) (shr32 x 3))) r) (xor32 (xor32 (rotI y 17) (rotI y 19)) (shr32 y 10))).toNat] (.int .u32 (add32 (add32 (add32 p (xor32 (xor32 (rotI x 7) (rotI x 18)) (shr32 x 3))) r) (xor32 (xor32 (rotI y 17) (rotI y 19)) (shr32 y 10))).toNat)) (fun w2 => Below wr.heap.size wr w2) (fun a b => Below a.heap.size a b) (below_drewN (Below.refl _ wr) (nq + 1)) (fun _ _ _ _ hb hv => hv.keep hb) ?_ ?_
        · refine of_allOps ⟨?_, ?_, ?_, ?_, ?_, ?_, ?_, ?_, ?_, ?_, ?_, ?_, ?_, ?_, ?_, ?_, ?_, ?_, ?_, ?_, ?_, ?_, ?_, ?_, ?_, ?_, ?_, ?_, ?_, ?_, ?_, trivial⟩
          · refine ⟨rfl, fun T2 w2 hM hN hO hE K hK => ?_⟩
            have o6 : T2[6]? = some (.slice (some ⟨ob, oo, none⟩) k cw) := hO 6 rfl
            clear hE hO hN
            go_simp
            exact hK _ _ rfl hM (Below.refl _ _)
          · refine ⟨rfl, fun T2 w2 hM hN hO hE K hK => ?_⟩
            have o6 : T2[6]? = some (.slice (some ⟨ob, oo, none⟩) k cw) := hO 6 rfl
            clear hE hO hN
            go_simp
            exact hK _ _ rfl hM (Below.refl _ _)
          · refine ⟨rfl, fun T2 w2 hM hN hO hE K hK => ?_⟩
            have o7 : T2[7]? = some (.int .i64 (k)) := hO 7 rfl
            clear hE hO hN
            go_simp
            exact hK _ _ rfl hM (Below.refl _ _)
          · refine ⟨rfl, fun T2 w2 hM hN hO hE K hK => ?_⟩
            obtain ⟨v2, h2, e2⟩ := hE ⟨2, .data⟩ (by simp) rfl _ _ rfl rfl
            rw [show v2 = .int .i64 (k) from (Option.some.inj e2).symm] at h2
            clear hE hO hN
            go_simp
            exact hK _ _ rfl hM (Below.refl _ _)
          · refine ⟨rfl, fun T2 w2 hM hN hO hE K hK => ?_⟩
            obtain ⟨v1, h1, e1⟩ := hE ⟨1, .data⟩ (by simp) rfl _ _ rfl rfl
            rw [show v1 = .slice (some ⟨ob, oo, none⟩) k cw from (Option.some.inj e1).symm] at h1
            obtain ⟨v3, h3, e3⟩ := hE ⟨3, .data⟩ (by simp) rfl _ _ rfl rfl
            rw [show v3 = .int .i64 ((k : Int) - 16) from (Option.some.inj e3).symm] at h3
            clear hE hO hN
            go_simp
            exact hK _ _ rfl hM (Below.refl _ _)
          · refine ⟨rfl, fun T2 w2 hM hN hO hE K hK => ?_⟩
            obtain ⟨v4, h4, e4⟩ := hE ⟨4, .data⟩ (by simp) rfl _ _ rfl rfl
            rw [show v4 = .pointer (some ⟨ob, oo + (k - 16), none⟩) from (Option.some.inj e4).symm] at h4
            have hcc := (hM.cell (p := ⟨ob, _, none⟩) hobl).trans hc3
            clear hE hO hN
            go_simp
            exact hK _ _ rfl hM (Below.refl _ _)
          · refine ⟨rfl, fun T2 w2 hM hN hO hE K hK => ?_⟩
            have o8 : T2[8]? = some (.int .u32 (x).toNat) := hO 8 rfl
            clear hE hO hN
            go_simp
            exact hK _ _ rfl hM (Below.refl _ _)
          · refine ⟨rfl, fun T2 w2 hM hN hO hE K hK => ?_⟩
            obtain ⟨v6, h6, e6⟩ := hE ⟨6, .data⟩ (by simp) rfl _ _ rfl rfl
            rw [show v6 = .int .u32 (x).toNat from (Option.some.inj e6).symm] at h6
            clear hE hO hN
            go_simp
            refine (turn_any _ _ _ (by omega) (by omega)).mono ?_
            rintro e w3 ⟨rfl, m2, rfl⟩
            exact hK _ _ rfl (below_drewN hM m2) (below_drewN (Below.refl _ _) m2)
          · refine ⟨rfl, fun T2 w2 hM hN hO hE K hK => ?_⟩
            have o8 : T2[8]? = some (.int .u32 (x).toNat) := hO 8 rfl
            clear hE hO hN
            go_simp
            exact hK _ _ rfl hM (Below.refl _ _)
          · refine ⟨rfl, fun T2 w2 hM hN hO hE K hK => ?_⟩
            obtain ⟨v8, h8, e8⟩ := hE ⟨8, .data⟩ (by simp) rfl _ _ rfl rfl
            rw [show v8 = .int .u32 (x).toNat from (Option.some.inj e8).symm] at h8
            clear hE hO hN
            go_simp
            refine (turn_any _ _ _ (by omega) (by omega)).mono ?_
            rintro e w3 ⟨rfl, m2, rfl⟩
            exact hK _ _ rfl (below_drewN hM m2) (below_drewN (Below.refl _ _) m2)
          · refine ⟨rfl, fun T2 w2 hM hN hO hE K hK => ?_⟩
            obtain ⟨v7, h7, e7⟩ := hE ⟨7, .data⟩ (by simp) rfl _ _ rfl rfl
            rw [show v7 = .int .u32 (rotI x 7).toNat from (Option.some.inj e7).symm] at h7
            obtain ⟨v9, h9, e9⟩ := hE ⟨9, .data⟩ (by simp) rfl _ _ rfl rfl
            rw [show v9 = .int .u32 (rotI x 18).toNat from (Option.some.inj e9).symm] at h9
            clear hE hO hN
            go_simp
            exact hK _ _ rfl hM (Below.refl _ _)
          · refine ⟨rfl, fun T2 w2 hM hN hO hE K hK => ?_⟩
            have o8 : T2[8]? = some (.int .u32 (x).toNat) := hO 8 rfl
            clear hE hO hN
            go_simp
            exact hK _ _ rfl hM (Below.refl _ _)
          · refine ⟨rfl, fun T2 w2 hM hN hO hE K hK => ?_⟩
            obtain ⟨v11, h11, e11⟩ := hE ⟨11, .data⟩ (by simp) rfl _ _ rfl rfl
            rw [show v11 = .int .u32 (x).toNat from (Option.some.inj e11).symm] at h11
            clear hE hO hN
            go_simp
            exact hK _ _ rfl hM (Below.refl _ _)
          · refine ⟨rfl, fun T2 w2 hM hN hO hE K hK => ?_⟩
            obtain ⟨v10, h10, e10⟩ := hE ⟨10, .data⟩ (by simp) rfl _ _ rfl rfl
            rw [show v10 = .int .u32 (xor32 (rotI x 7) (rotI x 18)).toNat from (Option.some.inj e10).symm] at h10
            obtain ⟨v12, h12, e12⟩ := hE ⟨12, .data⟩ (by simp) rfl _ _ rfl rfl
            rw [show v12 = .int .u32 (shr32 x 3).toNat from (Option.some.inj e12).symm] at h12
            clear hE hO hN
            go_simp
            exact hK _ _ rfl hM (Below.refl _ _)
          · refine ⟨rfl, fun T2 w2 hM hN hO hE K hK => ?_⟩
            obtain ⟨v5, h5, e5⟩ := hE ⟨5, .data⟩ (by simp) rfl _ _ rfl rfl
            rw [show v5 = .int .u32 (p).toNat from (Option.some.inj e5).symm] at h5
            obtain ⟨v13, h13, e13⟩ := hE ⟨13, .data⟩ (by simp) rfl _ _ rfl rfl
            rw [show v13 = .int .u32 (xor32 (xor32 (rotI x 7) (rotI x 18)) (shr32 x 3)).toNat from (Option.some.inj e13).symm] at h13
            clear hE hO hN
            go_simp
            exact hK _ _ rfl hM (Below.refl _ _)
          · refine ⟨rfl, fun T2 w2 hM hN hO hE K hK => ?_⟩
            have o6 : T2[6]? = some (.slice (some ⟨ob, oo, none⟩) k cw) := hO 6 rfl
            clear hE hO hN
            go_simp
            exact hK _ _ rfl hM (Below.refl _ _)
          · refine ⟨rfl, fun T2 w2 hM hN hO hE K hK => ?_⟩
            have o7 : T2[7]? = some (.int .i64 (k)) := hO 7 rfl
            clear hE hO hN
            go_simp
            exact hK _ _ rfl hM (Below.refl _ _)
          · refine ⟨rfl, fun T2 w2 hM hN hO hE K hK => ?_⟩
            obtain ⟨v16, h16, e16⟩ := hE ⟨16, .data⟩ (by simp) rfl _ _ rfl rfl
            rw [show v16 = .int .i64 (k) from (Option.some.inj e16).symm] at h16
            clear hE hO hN
            go_simp
            exact hK _ _ rfl hM (Below.refl _ _)
          · refine ⟨rfl, fun T2 w2 hM hN hO hE K hK => ?_⟩
            obtain ⟨v15, h15, e15⟩ := hE ⟨15, .data⟩ (by simp) rfl _ _ rfl rfl
            rw [show v15 = .slice (some ⟨ob, oo, none⟩) k cw from (Option.some.inj e15).symm] at h15
            obtain ⟨v17, h17, e17⟩ := hE ⟨17, .data⟩ (by simp) rfl _ _ rfl rfl
            rw [show v17 = .int .i64 ((k : Int) - 7) from (Option.some.inj e17).symm] at h17
            clear hE hO hN
            go_simp
            exact hK _ _ rfl hM (Below.refl _ _)
          · refine ⟨rfl, fun T2 w2 hM hN hO hE K hK => ?_⟩
            obtain ⟨v18, h18, e18⟩ := hE ⟨18, .data⟩ (by simp) rfl _ _ rfl rfl
            rw [show v18 = .pointer (some ⟨ob, oo + (k - 7), none⟩) from (Option.some.inj e18).symm] at h18
            have hcc := (hM.cell (p := ⟨ob, _, none⟩) hobl).trans hc4
            clear hE hO hN
            go_simp
            exact hK _ _ rfl hM (Below.refl _ _)
          · refine ⟨rfl, fun T2 w2 hM hN hO hE K hK => ?_⟩
            obtain ⟨v14, h14, e14⟩ := hE ⟨14, .data⟩ (by simp) rfl _ _ rfl rfl
            rw [show v14 = .int .u32 (add32 p (xor32 (xor32 (rotI x 7) (rotI x 18)) (shr32 x 3))).toNat from (Option.some.inj e14).symm] at h14
            obtain ⟨v19, h19, e19⟩ := hE ⟨19, .data⟩ (by simp) rfl _ _ rfl rfl
            rw [show v19 = .int .u32 (r).toNat from (Option.some.inj e19).symm] at h19
            clear hE hO hN
            go_simp
            exact hK _ _ rfl hM (Below.refl _ _)
          · refine ⟨rfl, fun T2 w2 hM hN hO hE K hK => ?_⟩
            have o9 : T2[9]? = some (.int .u32 (y).toNat) := hO 9 rfl
            clear hE hO hN
            go_simp
            exact hK _ _ rfl hM (Below.refl _ _)
          · refine ⟨rfl, fun T2 w2 hM hN hO hE K hK => ?_⟩
            obtain ⟨v21, h21, e21⟩ := hE ⟨21, .data⟩ (by simp) rfl _ _ rfl rfl
            rw [show v21 = .int .u32 (y).toNat from (Option.some.inj e21).symm] at h21
            clear hE hO hN
            go_simp
            refine (turn_any _ _ _ (by omega) (by omega)).mono ?_
            rintro e w3 ⟨rfl, m2, rfl⟩
            exact hK _ _ rfl (below_drewN hM m2) (below_drewN (Below.refl _ _) m2)
          · refine ⟨rfl, fun T2 w2 hM hN hO hE K hK => ?_⟩
            have o9 : T2[9]? = some (.int .u32 (y).toNat) := hO 9 rfl
            clear hE hO hN
            go_simp
            exact hK _ _ rfl hM (Below.refl _ _)
          · refine ⟨rfl, fun T2 w2 hM hN hO hE K hK => ?_⟩
            obtain ⟨v23, h23, e23⟩ := hE ⟨23, .data⟩ (by simp) rfl _ _ rfl rfl
            rw [show v23 = .int .u32 (y).toNat from (Option.some.inj e23).symm] at h23
            clear hE hO hN
            go_simp
            refine (turn_any _ _ _ (by omega) (by omega)).mono ?_
            rintro e w3 ⟨rfl, m2, rfl⟩
            exact hK _ _ rfl (below_drewN hM m2) (below_drewN (Below.refl _ _) m2)
          · refine ⟨rfl, fun T2 w2 hM hN hO hE K hK => ?_⟩
            obtain ⟨v22, h22, e22⟩ := hE ⟨22, .data⟩ (by simp) rfl _ _ rfl rfl
            rw [show v22 = .int .u32 (rotI y 17).toNat from (Option.some.inj e22).symm] at h22
            obtain ⟨v24, h24, e24⟩ := hE ⟨24, .data⟩ (by simp) rfl _ _ rfl rfl
            rw [show v24 = .int .u32 (rotI y 19).toNat from (Option.some.inj e24).symm] at h24
            clear hE hO hN
            go_simp
            exact hK _ _ rfl hM (Below.refl _ _)
          · refine ⟨rfl, fun T2 w2 hM hN hO hE K hK => ?_⟩
            have o9 : T2[9]? = some (.int .u32 (y).toNat) := hO 9 rfl
            clear hE hO hN
            go_simp
            exact hK _ _ rfl hM (Below.refl _ _)
          · refine ⟨rfl, fun T2 w2 hM hN hO hE K hK => ?_⟩
            obtain ⟨v26, h26, e26⟩ := hE ⟨26, .data⟩ (by simp) rfl _ _ rfl rfl
            rw [show v26 = .int .u32 (y).toNat from (Option.some.inj e26).symm] at h26
            clear hE hO hN
            go_simp
            exact hK _ _ rfl hM (Below.refl _ _)
          · refine ⟨rfl, fun T2 w2 hM hN hO hE K hK => ?_⟩
            obtain ⟨v25, h25, e25⟩ := hE ⟨25, .data⟩ (by simp) rfl _ _ rfl rfl
            rw [show v25 = .int .u32 (xor32 (rotI y 17) (rotI y 19)).toNat from (Option.some.inj e25).symm] at h25
            obtain ⟨v27, h27, e27⟩ := hE ⟨27, .data⟩ (by simp) rfl _ _ rfl rfl
            rw [show v27 = .int .u32 (shr32 y 10).toNat from (Option.some.inj e27).symm] at h27
            clear hE hO hN
            go_simp
            exact hK _ _ rfl hM (Below.refl _ _)
          · refine ⟨rfl, fun T2 w2 hM hN hO hE K hK => ?_⟩
            obtain ⟨v20, h20, e20⟩ := hE ⟨20, .data⟩ (by simp) rfl _ _ rfl rfl
            rw [show v20 = .int .u32 (add32 (add32 p (xor32 (xor32 (rotI x 7) (rotI x 18)) (shr32 x 3))) r).toNat from (Option.some.inj e20).symm] at h20
            obtain ⟨v28, h28, e28⟩ := hE ⟨28, .data⟩ (by simp) rfl _ _ rfl rfl
            rw [show v28 = .int .u32 (xor32 (xor32 (rotI y 17) (rotI y 19)) (shr32 y 10)).toNat from (Option.some.inj e28).symm] at h28
            clear hE hO hN
            go_simp
            exact hK _ _ rfl hM (Below.refl _ _)
          · refine ⟨rfl, fun T2 w2 hM hN hO hE K hK => ?_⟩
            obtain ⟨v29, h29, e29⟩ := hE ⟨29, .data⟩ (by simp) rfl _ _ rfl rfl
            rw [show v29 = .int .u32 (add32 (add32 (add32 p (xor32 (xor32 (rotI x 7) (rotI x 18)) (shr32 x 3))) r) (xor32 (xor32 (rotI y 17) (rotI y 19)) (shr32 y 10))).toNat from (Option.some.inj e29).symm] at h29
            clear hE hO hN
            go_simp
            exact hK _ _ ⟨_, rfl, hM.size, heap_alloc_new w2 _⟩ (hM.alloc hM.size _) ((Below.refl _ _).alloc (Nat.le_refl _) _)
        · intro u w2 hM hF
          have e0 : .slice (some ⟨ob, oo, none⟩) k cw = u 0 := Option.some.inj (hF 0 (by omega))
          obtain ⟨gg, e30, hgg, hgc⟩ : ∃ g, u 30 = .slice (some ⟨g, 0, none⟩) 1 1 ∧ wr.heap.size ≤ g ∧ w2.heap[g]? = some (.cells #[.int .u32 (add32 (add32 (add32 p (xor32 (xor32 (rotI x 7) (rotI x 18)) (shr32 x 3))) r) (xor32 (xor32 (rotI y 17) (rotI y 19)) (shr32 y 10))).toNat] 119 (0, 0)) := hF 30 (by omega)
          clear hF
          simp only [fillAll, Nat.reduceAdd, ← e0, e30, List.take_succ_cons, List.take_zero, List.drop_succ_cons, List.drop_zero, List.setIfInBounds_toArray, List.set_cons_succ, List.set_cons_zero]
          have hown2 := HOWN.out.below hM (Nat.le_refl _)
          have _t := hown2
          have hbe2 := hbe.trans (hM.mono hs1)
          have hs2 := hM.size
          with_reducible refine wpList_append_lit 119 (.int .u32 0) 1 4 Tryz.underlying120 info_u32w rfl w1.heap.size (some ⟨ob, oo, none⟩) k cw (w32s W) hown2 1 [_] (.slice (some ⟨gg, 0, none⟩) 1 1) (Src.slice Tryz.underlying120 (Rd.of_row hgc)) one_int ?_ ?_ ?_ ?_ ?_
          · unfold maxLen; omega
          · omega
          · omega
          · exact ⟨rfl, rfl⟩
          intro A3 c3 w3 hown3 hgr3 hbl3
          clear hown2
          go_wp2
          go_roundg (gk - 1)
          case rel =>
            refine ⟨k + 1, by omega, by go_num, ?_⟩
            rw [HHIGH.out]
            exact WRow.push2 HWL.out hbe2 _t hgr3 hown3 (by rw [HX.out, HY.out, HP.out, HR.out, Sha.nextWord, show k - 16 + 1 = k - 15 by omega, show k - 16 + 9 = k - 7 by omega, show k - 16 + 14 = k - 2 by omega]; rfl)
          case measure => omega
      · have hk64 : k = 64 := by omega
        have hW64 : Sha.wordsTo b k = Sha.words b 48 := by rw [hk64, Sha.wordsTo_all]
        have HK64 := hid2 hk64
        rw [hW64] at hown
        obtain ⟨W, hW⟩ : ∃ W, W = Sha.words b 48 := ⟨_, rfl⟩
        rw [← hW] at hown
        have HW := hid2 hW
        have HOWN := hid2 hown
        have hnc := hown.2.1
        have hnl : ¬ (k : Int) < 64 := by omega
        clear hW hW64 hown hk64 hk
        have hRA : Rd (wr.alloc (.cells #[] 119)) 1 (some ⟨ab, ao, none⟩) 8 (w32s S.list) := by
          refine Rd.alloc ⟨rfl, fun _ => ⟨ab, ao, rfl, fun j u hu => ?_⟩⟩ _
          have hj : j < 8 := by
            rcases Nat.lt_or_ge j 8 with h | h
            · exact h
            · rw [List.getElem?_eq_none (by rw [w32s_length]; exact h)] at hu; cases hu
          rw [(hbe.cell (p := ⟨ab, ao + j, none⟩) hab1), HA1.out j hj]
          rw [w32s_get S.list (by exact hj)] at hu
          exact hu
        have HRA := hid2 hRA
        have HL := hid2 (Own.lit wr #[] 119 1 0 w1.heap.size hs1 (by decide) rfl)
        clear hRA
        go_wp2_with (first
          | (at_builtin; have _t := HL; go_must ((with_reducible refine wpList_append_lit 119 (.int .u32 0) 1 4 Tryz.underlying120 info_u32w rfl w1.heap.size (some ⟨wr.heap.size, 0, none⟩) 0 0 [] HL.out 8 (w32s S.list) (.slice (some ⟨ab, ao, none⟩) 8 c) (Src.slice Tryz.underlying120 HRA.out) (w32s_one _) ?_ ?_ ?_ ?_ ?_); (unfold maxLen; omega); omega; (simp; omega); exact ⟨rfl, rfl⟩; intro A3 c3 w3 hown3 hgr3 hbl3; clear HL)))
        have hb3 : Below w1.heap.size w1 w3 := (hbe.alloc hs1 _).grown hgr3 (by simp; omega) (fun g e => by simp [blockOf] at e; omega)
        have hWR : Rd w3 1 Aw 64 (w32s W) := by
          have := HOWN.out.grown (w' := w3) ⟨hgr3.os, hgr3.tape, hgr3.output, by have := hgr3.size; simp at this; omega, fun g hg hne => (hgr3.block g (by simp; omega) hne).trans (Below.heap_alloc wr _ g hg)⟩ (fun g hg e => by have := (HOWN.out.block g hg).2.1; simp [blockOf] at e; omega)
          rw [HK64.out] at this
          exact this.rd
        have hKR : Rd w3 1 AK 64 (w32s Sha.ks) := HK.out.below_all hb3
        have HWR := hid2 hWR
        have HKR := hid2 hKR
        have Hb3 := hid2 hb3
        have hc38 : 8 ≤ c3 := by have := hown3.2.1; omega
        have hR0 : Rd w3 1 A3 8 (w32s (Sha.turns W S 0).list) := hown3.rd
        have HA1b := HA1
        clear hWR hKR hb3 hown3 hgr3 hbl3 _t HRA HOWN hnc hnl hbe hs1 HK HB1 hlt hlt64
        go_loopg [10, 11] 64 (fun gk v i wx => ∃ j : Nat, j + gk = 64 ∧ i = .int .i64 j ∧ Below w3.heap.size w3 wx ∧ ∃ A c, v = .slice A 8 c ∧ 8 ≤ c ∧ Rd wx 1 A 8 (w32s (Sha.turns W S j).list))
        case atStart => exact ⟨0, by omega, rfl, Below.refl _ _, A3, c3, rfl, hc38, hR0⟩
        case round =>
          clear hR0
          obtain ⟨j, hj, rfl, hbx, Al, cl, rfl, hcl, hR⟩ := hrel
          obtain ⟨Z, hZ⟩ : ∃ Z, Z = Sha.turns W S j := ⟨_, rfl⟩
          rw [← hZ] at hR
          have HZ := hid2 hZ
          clear hZ
          by_cases hj64 : j < 64
          · obtain ⟨lb, lo, rfl, hlc⟩ := hR.2 (by omega)
            have c0 : wr.cell? ⟨lb, lo, none⟩ = some (.int .u32 Z.a.toNat) := hlc 0 _ (w32s_get Z.list (show 0 < 8 by decide))
            have c1 : wr.cell? ⟨lb, lo + 1, none⟩ = some (.int .u32 Z.b.toNat) := hlc 1 _ (w32s_get Z.list (show 1 < 8 by decide))
            have c2 : wr.cell? ⟨lb, lo + 2, none⟩ = some (.int .u32 Z.c.toNat) := hlc 2 _ (w32s_get Z.list (show 2 < 8 by decide))
            have c3 : wr.cell? ⟨lb, lo + 3, none⟩ = some (.int .u32 Z.d.toNat) := hlc 3 _ (w32s_get Z.list (show 3 < 8 by decide))
            have c4 : wr.cell? ⟨lb, lo + 4, none⟩ = some (.int .u32 Z.e.toNat) := hlc 4 _ (w32s_get Z.list (show 4 < 8 by decide))
            have c5 : wr.cell? ⟨lb, lo + 5, none⟩ = some (.int .u32 Z.f.toNat) := hlc 5 _ (w32s_get Z.list (show 5 < 8 by decide))
            have c6 : wr.cell? ⟨lb, lo + 6, none⟩ = some (.int .u32 Z.g.toNat) := hlc 6 _ (w32s_get Z.list (show 6 < 8 by decide))
            have c7 : wr.cell? ⟨lb, lo + 7, none⟩ = some (.int .u32 Z.h.toNat) := hlc 7 _ (w32s_get Z.list (show 7 < 8 by decide))
            obtain ⟨kb, ko, rfl, hkc⟩ := HKR.out.2 (by omega)
            obtain ⟨wb, wo, rfl, hwc⟩ := HWR.out.2 (by omega)
            have hkk := hkc j _ (w32s_get Sha.ks (show j < 64 from hj64))
            have hwk := hwc j _ (w32s_get W (by rw [HW.out, Sha.words_length]; exact hj64))
            obtain ⟨kk, hkke⟩ : ∃ kk, kk = Sha.ks.getD j 0 := ⟨_, rfl⟩
            obtain ⟨wk, hwke⟩ : ∃ wk, wk = W.getD j 0 := ⟨_, rfl⟩
            rw [← hkke] at hkk
            rw [← hwke] at hwk
            have hkk1 := (hbx.cell (p := ⟨kb, ko + j, none⟩) (World.block_lt_of_cell? w3 _ hkk)).trans hkk
            have hwk1 := (hbx.cell (p := ⟨wb, wo + j, none⟩) (World.block_lt_of_cell? w3 _ hwk)).trans hwk
            have HKE := hid2 hkke
            have HWE := hid2 hwke
            have hjk : (j : Int) < k := by have := HK64.out; omega
            have hjk2 : j < k := by have := HK64.out; omega
            clear hkk hwk hkke hwke hkc hwc hlc hR HKR HWR
            go_wp2_with fail
            go_quiet (fail)
            go_wp2_with fail
            go_quiet ((go_at_call 82; exact quiet_more_d (turn_any _ _ _ (by omega) (by omega))))
            go_wp2_with fail
            go_quiet ((go_at_call 82; exact quiet_more_d (turn_any _ _ _ (by omega) (by omega))))
            go_wp2_with fail
            refine wp_region_vals 22 (by kernel_rfl) (by kernel_rfl) (by kernel_rfl) _ rfl (by kernel_rfl) (fun i => ([.int .u32 (add32 (add32 (add32 (add32 Z.h (xor32 (xor32 (rotI Z.e 6) (rotI Z.e 11)) (rotI Z.e 25))) (xor32 (and32 Z.e Z.f) (and32 (not32 Z.e) Z.g))) kk) wk).toNat, .int .u32 (add32 (xor32 (xor32 (rotI Z.a 2) (rotI Z.a 13)) (rotI Z.a 22)) (xor32 (xor32 (and32 Z.a Z.b) (and32 Z.a Z.c)) (and32 Z.b Z.c))).toNat, .int .u32 (add32 (add32 (add32 (add32 (add32 Z.h (xor32 (xor32 (rotI Z.e 6) (rotI Z.e 11)) (rotI Z.e 25))) (xor32 (and32 Z.e Z.f) (and32 (not32 Z.e) Z.g))) kk) wk) (add32 (xor32 (xor32 (rotI Z.a 2) (rotI Z.a 13)) (rotI Z.a 22)) (xor32 (xor32 (and32 Z.a Z.b) (and32 Z.a Z.c)) (and32 Z.b Z.c)))).toNat, .int .u32 (Z.a).toNat, .slice (some ⟨lb, lo, none⟩) 8 cl, .pointer (some ⟨lb, lo + 1, none⟩), .int .u32 (Z.b).toNat, .slice (some ⟨lb, lo, none⟩) 8 cl, .pointer (some ⟨lb, lo + 2, none⟩), .int .u32 (Z.c).toNat, .slice (some ⟨lb, lo, none⟩) 8 cl, .pointer (some ⟨lb, lo + 3, none⟩), .int .u32 (Z.d).toNat, .int .u32 (add32 (add32 (add32 (add32 Z.h (xor32 (xor32 (rotI Z.e 6) (rotI Z.e 11)) (rotI Z.e 25))) (xor32 (and32 Z.e Z.f) (and32 (not32 Z.e) Z.g))) kk) wk).toNat, .int .u32 (add32 Z.d (add32 (add32 (add32 (add32 Z.h (xor32 (xor32 (rotI Z.e 6) (rotI Z.e 11)) (rotI Z.e 25))) (xor32 (and32 Z.e Z.f) (and32 (not32 Z.e) Z.g))) kk) wk)).toNat, .int .u32 (Z.e).toNat, .slice (some ⟨lb, lo, none⟩) 8 cl, .pointer (some ⟨lb, lo + 5, none⟩), .int .u32 (Z.f).toNat, .slice (some ⟨lb, lo, none⟩) 8 cl, .pointer (some ⟨lb, lo + 6, none⟩), .int .u32 (Z.g).toNat] : List Value).getD i undef) (fun w2 => ∃ m, w2 = wr.drewN m) (by simp only [World.drewN_drewN]; exact ⟨_ + 1, rfl⟩) ?_ ?_
            · refine of_allOps ⟨?_, ?_, ?_, ?_, ?_, ?_, ?_, ?_, ?_, ?_, ?_, ?_, ?_, ?_, ?_, ?_, ?_, ?_, ?_, ?_, ?_, ?_, trivial⟩
              · refine ⟨rfl, fun T2 w2 hM hN hO hE => ?_⟩
                obtain ⟨m, rfl⟩ := hM
                have o14 : T2[14]? = some (.int .u32 (add32 (add32 (add32 (add32 Z.h (xor32 (xor32 (rotI Z.e 6) (rotI Z.e 11)) (rotI Z.e 25))) (xor32 (and32 Z.e Z.f) (and32 (not32 Z.e) Z.g))) kk) wk).toNat) := hO 14 rfl
                clear hE hO hN
                go_simp
                first | exact ⟨m, rfl⟩ | exact ⟨rfl, m, rfl⟩
              · refine ⟨rfl, fun T2 w2 hM hN hO hE => ?_⟩
                obtain ⟨m, rfl⟩ := hM
                have o15 : T2[15]? = some (.int .u32 (add32 (xor32 (xor32 (rotI Z.a 2) (rotI Z.a 13)) (rotI Z.a 22)) (xor32 (xor32 (and32 Z.a Z.b) (and32 Z.a Z.c)) (and32 Z.b Z.c))).toNat) := hO 15 rfl
                clear hE hO hN
                go_simp
                first | exact ⟨m, rfl⟩ | exact ⟨rfl, m, rfl⟩
              · refine ⟨rfl, fun T2 w2 hM hN hO hE => ?_⟩
                obtain ⟨m, rfl⟩ := hM
                have h0 : T2[155]? = some (.int .u32 (add32 (add32 (add32 (add32 Z.h (xor32 (xor32 (rotI Z.e 6) (rotI Z.e 11)) (rotI Z.e 25))) (xor32 (and32 Z.e Z.f) (and32 (not32 Z.e) Z.g))) kk) wk).toNat) := hE ⟨0, .data⟩ (by simp) rfl _ _ rfl rfl
                have h1 : T2[156]? = some (.int .u32 (add32 (xor32 (xor32 (rotI Z.a 2) (rotI Z.a 13)) (rotI Z.a 22)) (xor32 (xor32 (and32 Z.a Z.b) (and32 Z.a Z.c)) (and32 Z.b Z.c))).toNat) := hE ⟨1, .data⟩ (by simp) rfl _ _ rfl rfl
                clear hE hO hN
                go_simp
                first | exact ⟨m, rfl⟩ | exact ⟨rfl, m, rfl⟩
              · refine ⟨rfl, fun T2 w2 hM hN hO hE => ?_⟩
                obtain ⟨m, rfl⟩ := hM
                have o12 : T2[12]? = some (.int .u32 (Z.a).toNat) := hO 12 rfl
                clear hE hO hN
                go_simp
                first | exact ⟨m, rfl⟩ | exact ⟨rfl, m, rfl⟩
              · refine ⟨rfl, fun T2 w2 hM hN hO hE => ?_⟩
                obtain ⟨m, rfl⟩ := hM
                have o10 : T2[10]? = some (.slice (some ⟨lb, lo, none⟩) 8 cl) := hO 10 rfl
                clear hE hO hN
                go_simp
                first | exact ⟨m, rfl⟩ | exact ⟨rfl, m, rfl⟩
              · refine ⟨rfl, fun T2 w2 hM hN hO hE => ?_⟩
                obtain ⟨m, rfl⟩ := hM
                have h4 : T2[159]? = some (.slice (some ⟨lb, lo, none⟩) 8 cl) := hE ⟨4, .data⟩ (by simp) rfl _ _ rfl rfl
                clear hE hO hN
                go_simp
                first | exact ⟨m, rfl⟩ | exact ⟨rfl, m, rfl⟩
              · refine ⟨rfl, fun T2 w2 hM hN hO hE => ?_⟩
                obtain ⟨m, rfl⟩ := hM
                have h5 : T2[160]? = some (.pointer (some ⟨lb, lo + 1, none⟩)) := hE ⟨5, .data⟩ (by simp) rfl _ _ rfl rfl
                clear hE hO hN
                go_simp
                first | exact ⟨m, rfl⟩ | exact ⟨rfl, m, rfl⟩
              · refine ⟨rfl, fun T2 w2 hM hN hO hE => ?_⟩
                obtain ⟨m, rfl⟩ := hM
                have o10 : T2[10]? = some (.slice (some ⟨lb, lo, none⟩) 8 cl) := hO 10 rfl
                clear hE hO hN
                go_simp
                first | exact ⟨m, rfl⟩ | exact ⟨rfl, m, rfl⟩
              · refine ⟨rfl, fun T2 w2 hM hN hO hE => ?_⟩
                obtain ⟨m, rfl⟩ := hM
                have h7 : T2[162]? = some (.slice (some ⟨lb, lo, none⟩) 8 cl) := hE ⟨7, .data⟩ (by simp) rfl _ _ rfl rfl
                clear hE hO hN
                go_simp
                first | exact ⟨m, rfl⟩ | exact ⟨rfl, m, rfl⟩
              · refine ⟨rfl, fun T2 w2 hM hN hO hE => ?_⟩
                obtain ⟨m, rfl⟩ := hM
                have h8 : T2[163]? = some (.pointer (some ⟨lb, lo + 2, none⟩)) := hE ⟨8, .data⟩ (by simp) rfl _ _ rfl rfl
                clear hE hO hN
                go_simp
                first | exact ⟨m, rfl⟩ | exact ⟨rfl, m, rfl⟩
              · refine ⟨rfl, fun T2 w2 hM hN hO hE => ?_⟩
                obtain ⟨m, rfl⟩ := hM
                have o10 : T2[10]? = some (.slice (some ⟨lb, lo, none⟩) 8 cl) := hO 10 rfl
                clear hE hO hN
                go_simp
                first | exact ⟨m, rfl⟩ | exact ⟨rfl, m, rfl⟩
              · refine ⟨rfl, fun T2 w2 hM hN hO hE => ?_⟩
                obtain ⟨m, rfl⟩ := hM
                have h10 : T2[165]? = some (.slice (some ⟨lb, lo, none⟩) 8 cl) := hE ⟨10, .data⟩ (by simp) rfl _ _ rfl rfl
                clear hE hO hN
                go_simp
                first | exact ⟨m, rfl⟩ | exact ⟨rfl, m, rfl⟩
              · refine ⟨rfl, fun T2 w2 hM hN hO hE => ?_⟩
                obtain ⟨m, rfl⟩ := hM
                have h11 : T2[166]? = some (.pointer (some ⟨lb, lo + 3, none⟩)) := hE ⟨11, .data⟩ (by simp) rfl _ _ rfl rfl
                clear hE hO hN
                go_simp
                first | exact ⟨m, rfl⟩ | exact ⟨rfl, m, rfl⟩
              · refine ⟨rfl, fun T2 w2 hM hN hO hE => ?_⟩
                obtain ⟨m, rfl⟩ := hM
                have o14 : T2[14]? = some (.int .u32 (add32 (add32 (add32 (add32 Z.h (xor32 (xor32 (rotI Z.e 6) (rotI Z.e 11)) (rotI Z.e 25))) (xor32 (and32 Z.e Z.f) (and32 (not32 Z.e) Z.g))) kk) wk).toNat) := hO 14 rfl
                clear hE hO hN
                go_simp
                first | exact ⟨m, rfl⟩ | exact ⟨rfl, m, rfl⟩
              · refine ⟨rfl, fun T2 w2 hM hN hO hE => ?_⟩
                obtain ⟨m, rfl⟩ := hM
                have h12 : T2[167]? = some (.int .u32 (Z.d).toNat) := hE ⟨12, .data⟩ (by simp) rfl _ _ rfl rfl
                have h13 : T2[168]? = some (.int .u32 (add32 (add32 (add32 (add32 Z.h (xor32 (xor32 (rotI Z.e 6) (rotI Z.e 11)) (rotI Z.e 25))) (xor32 (and32 Z.e Z.f) (and32 (not32 Z.e) Z.g))) kk) wk).toNat) := hE ⟨13, .data⟩ (by simp) rfl _ _ rfl rfl
                clear hE hO hN
                go_simp
                first | exact ⟨m, rfl⟩ | exact ⟨rfl, m, rfl⟩
              · refine ⟨rfl, fun T2 w2 hM hN hO hE => ?_⟩
                obtain ⟨m, rfl⟩ := hM
                have o13 : T2[13]? = some (.int .u32 (Z.e).toNat) := hO 13 rfl
                clear hE hO hN
                go_simp
                first | exact ⟨m, rfl⟩ | exact ⟨rfl, m, rfl⟩
              · refine ⟨rfl, fun T2 w2 hM hN hO hE => ?_⟩
                obtain ⟨m, rfl⟩ := hM
                have o10 : T2[10]? = some (.slice (some ⟨lb, lo, none⟩) 8 cl) := hO 10 rfl
                clear hE hO hN
                go_simp
                first | exact ⟨m, rfl⟩ | exact ⟨rfl, m, rfl⟩
              · refine ⟨rfl, fun T2 w2 hM hN hO hE => ?_⟩
                obtain ⟨m, rfl⟩ := hM
                have h16 : T2[171]? = some (.slice (some ⟨lb, lo, none⟩) 8 cl) := hE ⟨16, .data⟩ (by simp) rfl _ _ rfl rfl
                clear hE hO hN
                go_simp
                first | exact ⟨m, rfl⟩ | exact ⟨rfl, m, rfl⟩
              · refine ⟨rfl, fun T2 w2 hM hN hO hE => ?_⟩
                obtain ⟨m, rfl⟩ := hM
                have h17 : T2[172]? = some (.pointer (some ⟨lb, lo + 5, none⟩)) := hE ⟨17, .data⟩ (by simp) rfl _ _ rfl rfl
                clear hE hO hN
                go_simp
                first | exact ⟨m, rfl⟩ | exact ⟨rfl, m, rfl⟩
              · refine ⟨rfl, fun T2 w2 hM hN hO hE => ?_⟩
                obtain ⟨m, rfl⟩ := hM
                have o10 : T2[10]? = some (.slice (some ⟨lb, lo, none⟩) 8 cl) := hO 10 rfl
                clear hE hO hN
                go_simp
                first | exact ⟨m, rfl⟩ | exact ⟨rfl, m, rfl⟩
              · refine ⟨rfl, fun T2 w2 hM hN hO hE => ?_⟩
                obtain ⟨m, rfl⟩ := hM
                have h19 : T2[174]? = some (.slice (some ⟨lb, lo, none⟩) 8 cl) := hE ⟨19, .data⟩ (by simp) rfl _ _ rfl rfl
                clear hE hO hN
                go_simp
                first | exact ⟨m, rfl⟩ | exact ⟨rfl, m, rfl⟩
              · refine ⟨rfl, fun T2 w2 hM hN hO hE => ?_⟩
                obtain ⟨m, rfl⟩ := hM
                have h20 : T2[175]? = some (.pointer (some ⟨lb, lo + 6, none⟩)) := hE ⟨20, .data⟩ (by simp) rfl _ _ rfl rfl
                clear hE hO hN
                go_simp
                first | exact ⟨m, rfl⟩ | exact ⟨rfl, m, rfl⟩
            · rintro _ ⟨m, rfl⟩
              simp only [fillAll, Nat.reduceAdd, List.take_succ_cons, List.take_zero, List.drop_succ_cons, List.drop_zero, List.getD_cons_succ, List.getD_cons_zero, List.setIfInBounds_toArray, List.set_cons_succ, List.set_cons_zero]
              go_wp2
              go_roundg (gk - 1)
              case rel =>
                refine ⟨j + 1, by omega, by go_num, ?_, _, _, rfl, Nat.le_refl _, ?_⟩
                · exact (below_drewN hbx m).alloc (by exact hbx.size) _
                · have h := Rd.of_lit (wr.drewN m) (w32s (Sha.step Z kk wk).list).toArray 119 1 8 (by decide) rfl
                  rw [Sha.turns, ← HZ.out, ← HKE.out, ← HWE.out]
                  exact h
              case measure => omega
          · have hj64' : j = 64 := by omega
            have HJ := hid2 hj64'
            have hnl2 : ¬ (j : Int) < 64 := by omega
            obtain ⟨lb, lo, rfl, hlc⟩ := hR.2 (by omega)
            have hA3 := fun i (hi : i < 8) => ((Hb3.out.trans (hbx.mono Hb3.out.size)).cell (p := ⟨ab, ao + i, none⟩) hab1).trans (HA1b.out i hi)
            have HA3 := hid2 hA3
            have HLC := hid2 hlc
            obtain ⟨wz, hwz⟩ : ∃ wz, wz = wr := ⟨_, rfl⟩
            subst hwz
            have hI3 : WRow wz (wz.alloc (.cells #[] 119)) ((S.plus Z).list.take 0) (.slice (some ⟨wz.heap.size, 0, none⟩) 0 0) := ⟨(Below.refl _ _).alloc (Nat.le_refl _) _, _, _, rfl, Own.lit wz #[] _ 1 0 _ (Nat.le_refl _) (by decide) rfl⟩
            have hab3 : ab < wz.heap.size := Nat.lt_of_lt_of_le hab1 (Nat.le_trans Hb3.out.size hbx.size)
            have hlb3 : lb < wz.heap.size := World.block_lt_of_cell? wz _ (hlc 0 _ (w32s_get Z.list (show 0 < 8 by decide)))
            have HBX := hid2 hbx
            clear hA3 hlc hj64' hj hR hbx HKR HWR
            go_wp2
            clear hcb hcb3 hab1 hbb1 HA1 HA1b hc38 hnl2 hj64
            go_loopg [16, 17] 8 (fun gk v i wy => ∃ n : Nat, n + gk = 8 ∧ i = .int .i64 n ∧ WRow wz wy ((S.plus Z).list.take n) v)
            case atStart => exact ⟨0, by omega, rfl, hI3⟩
            case round =>
              clear hI3
              obtain ⟨i, hi, rfl, hbe, Ao, co, rfl, hown⟩ := hrel
              have hll : ((S.plus Z).list.take i).length = i := by rw [List.length_take, show (S.plus Z).list.length = 8 from rfl]; omega
              by_cases hi8 : i < 8
              · have hsn := plus_take S Z i hi8
                have hp1 := HA3.out i hi8
                have hr1 := HLC.out i _ (w32s_get Z.list hi8)
                obtain ⟨L, hL⟩ : ∃ L, L = (S.plus Z).list.take i := ⟨_, rfl⟩
                rw [← hL] at hown hsn hll ⊢
                obtain ⟨p, hp⟩ : ∃ p, p = S.list.getD i 0 := ⟨_, rfl⟩
                obtain ⟨r, hr⟩ : ∃ r, r = Z.list.getD i 0 := ⟨_, rfl⟩
                rw [← hp] at hp1 hsn
                rw [← hr] at hr1 hsn
                rw [hll] at hown ⊢
                have hs1 := hbe.size
                have hp2 := (hbe.cell (p := ⟨ab, ao + i, none⟩) hab3).trans hp1
                have hr2 := (hbe.cell (p := ⟨lb, lo + i, none⟩) hlb3).trans hr1
                have hab4 : ab < wr.heap.size := by omega
                have hlb4 : lb < wr.heap.size := by omega
                have hi64 : (i : Int) < 8 := by omega
                have HSN := hid2 hsn
                have HLL := hid2 hll
                have HOWN := hid2 hown
                clear hL hp hr hsn hll hown hp1 hr1
                go_wp2_with fail
                refine wp_region_rel 11 (by kernel_rfl) (by kernel_rfl) (by kernel_rfl) _ rfl (by kernel_rfl) (BlkN 10 wr.heap.size [.slice Ao i co, .slice (some ⟨ab, ao, none⟩) 8 c, .int .i64 (i), .pointer (some ⟨ab, ao + i, none⟩), .int .u32 (p).toNat, .slice (some ⟨lb, lo, none⟩) 8 cl, .int .i64 (i), .pointer (some ⟨lb, lo + i, none⟩), .int .u32 (r).toNat, .int .u32 (add32 p r).toNat] (.int .u32 (add32 p r).toNat)) (fun w2 => Below wr.heap.size wr w2) (fun a b => Below a.heap.size a b) (below_drewN (Below.refl _ wr) 1) (fun _ _ _ _ hb hv => hv.keep hb) ?_ ?_
                · refine of_allOps ⟨?_, ?_, ?_, ?_, ?_, ?_, ?_, ?_, ?_, ?_, ?_, trivial⟩
                  · refine ⟨rfl, fun T2 w2 hM hN hO hE K hK => ?_⟩
                    have o16 : T2[16]? = some (.slice Ao i co) := hO 16 rfl
                    clear hE hO hN
                    go_simp
                    exact hK _ _ rfl hM (Below.refl _ _)
                  · refine ⟨rfl, fun T2 w2 hM hN hO hE K hK => ?_⟩
                    have o0 : T2[0]? = some (.slice (some ⟨ab, ao, none⟩) 8 c) := hO 0 rfl
                    clear hE hO hN
                    go_simp
                    exact hK _ _ rfl hM (Below.refl _ _)
                  · refine ⟨rfl, fun T2 w2 hM hN hO hE K hK => ?_⟩
                    have o17 : T2[17]? = some (.int .i64 (i)) := hO 17 rfl
                    clear hE hO hN
                    go_simp
                    exact hK _ _ rfl hM (Below.refl _ _)
                  · refine ⟨rfl, fun T2 w2 hM hN hO hE K hK => ?_⟩
                    obtain ⟨v1, h1, e1⟩ := hE ⟨1, .data⟩ (by simp) rfl _ _ rfl rfl
                    rw [show v1 = .slice (some ⟨ab, ao, none⟩) 8 c from (Option.some.inj e1).symm] at h1
                    obtain ⟨v2, h2, e2⟩ := hE ⟨2, .data⟩ (by simp) rfl _ _ rfl rfl
                    rw [show v2 = .int .i64 (i) from (Option.some.inj e2).symm] at h2
                    clear hE hO hN
                    go_simp
                    exact hK _ _ rfl hM (Below.refl _ _)
                  · refine ⟨rfl, fun T2 w2 hM hN hO hE K hK => ?_⟩
                    obtain ⟨v3, h3, e3⟩ := hE ⟨3, .data⟩ (by simp) rfl _ _ rfl rfl
                    rw [show v3 = .pointer (some ⟨ab, ao + i, none⟩) from (Option.some.inj e3).symm] at h3
                    have hcc := (hM.cell (p := ⟨ab, _, none⟩) hab4).trans hp2
                    clear hE hO hN
                    go_simp
                    exact hK _ _ rfl hM (Below.refl _ _)
                  · refine ⟨rfl, fun T2 w2 hM hN hO hE K hK => ?_⟩
                    have o10 : T2[10]? = some (.slice (some ⟨lb, lo, none⟩) 8 cl) := hO 10 rfl
                    clear hE hO hN
                    go_simp
                    exact hK _ _ rfl hM (Below.refl _ _)
                  · refine ⟨rfl, fun T2 w2 hM hN hO hE K hK => ?_⟩
                    have o17 : T2[17]? = some (.int .i64 (i)) := hO 17 rfl
                    clear hE hO hN
                    go_simp
                    exact hK _ _ rfl hM (Below.refl _ _)
                  · refine ⟨rfl, fun T2 w2 hM hN hO hE K hK => ?_⟩
                    obtain ⟨v5, h5, e5⟩ := hE ⟨5, .data⟩ (by simp) rfl _ _ rfl rfl
                    rw [show v5 = .slice (some ⟨lb, lo, none⟩) 8 cl from (Option.some.inj e5).symm] at h5
                    obtain ⟨v6, h6, e6⟩ := hE ⟨6, .data⟩ (by simp) rfl _ _ rfl rfl
                    rw [show v6 = .int .i64 (i) from (Option.some.inj e6).symm] at h6
                    clear hE hO hN
                    go_simp
                    exact hK _ _ rfl hM (Below.refl _ _)
                  · refine ⟨rfl, fun T2 w2 hM hN hO hE K hK => ?_⟩
                    obtain ⟨v7, h7, e7⟩ := hE ⟨7, .data⟩ (by simp) rfl _ _ rfl rfl
                    rw [show v7 = .pointer (some ⟨lb, lo + i, none⟩) from (Option.some.inj e7).symm] at h7
                    have hcc := (hM.cell (p := ⟨lb, _, none⟩) hlb4).trans hr2
                    clear hE hO hN
                    go_simp
                    exact hK _ _ rfl hM (Below.refl _ _)
                  · refine ⟨rfl, fun T2 w2 hM hN hO hE K hK => ?_⟩
                    obtain ⟨v4, h4, e4⟩ := hE ⟨4, .data⟩ (by simp) rfl _ _ rfl rfl
                    rw [show v4 = .int .u32 (p).toNat from (Option.some.inj e4).symm] at h4
                    obtain ⟨v8, h8, e8⟩ := hE ⟨8, .data⟩ (by simp) rfl _ _ rfl rfl
                    rw [show v8 = .int .u32 (r).toNat from (Option.some.inj e8).symm] at h8
                    clear hE hO hN
                    go_simp
                    exact hK _ _ rfl hM (Below.refl _ _)
                  · refine ⟨rfl, fun T2 w2 hM hN hO hE K hK => ?_⟩
                    obtain ⟨v9, h9, e9⟩ := hE ⟨9, .data⟩ (by simp) rfl _ _ rfl rfl
                    rw [show v9 = .int .u32 (add32 p r).toNat from (Option.some.inj e9).symm] at h9
                    clear hE hO hN
                    go_simp
                    exact hK _ _ ⟨_, rfl, hM.size, heap_alloc_new w2 _⟩ (hM.alloc hM.size _) ((Below.refl _ _).alloc (Nat.le_refl _) _)
                · intro u w2 hM hF
                  have e0 : .slice Ao i co = u 0 := Option.some.inj (hF 0 (by omega))
                  obtain ⟨gg, e10, hgg, hgc⟩ : ∃ g, u 10 = .slice (some ⟨g, 0, none⟩) 1 1 ∧ wr.heap.size ≤ g ∧ w2.heap[g]? = some (.cells #[.int .u32 (add32 p r).toNat] 119 (0, 0)) := hF 10 (by omega)
                  clear hF
                  simp only [fillAll, Nat.reduceAdd, ← e0, e10, List.take_succ_cons, List.take_zero, List.drop_succ_cons, List.drop_zero, List.setIfInBounds_toArray, List.set_cons_succ, List.set_cons_zero]
                  have hown2 := HOWN.out.below hM (Nat.le_refl _)
                  have _t := hown2
                  have hbe2 := hbe.trans (hM.mono hs1)
                  have hs2 := hM.size
                  with_reducible refine wpList_append_lit 119 (.int .u32 0) 1 4 Tryz.underlying120 info_u32w rfl wz.heap.size Ao i co (w32s L) hown2 1 [_] (.slice (some ⟨gg, 0, none⟩) 1 1) (Src.slice Tryz.underlying120 (Rd.of_row hgc)) one_int ?_ ?_ ?_ ?_ ?_
                  · unfold maxLen; omega
                  · omega
                  · omega
                  · exact ⟨rfl, rfl⟩
                  intro A4 c4 w4 hown4 hgr4 hbl4
                  clear hown2
                  go_wp2
                  go_roundg (gk - 1)
                  case rel =>
                    refine ⟨i + 1, by omega, by go_num, ?_⟩
                    rw [HSN.out]
                    exact WRow.push2 HLL.out hbe2 _t hgr4 hown4 rfl
                  case measure => omega
              · have hi8' : i = 8 := by omega
                have hnl : ¬ (i : Int) < 8 := by omega
                have hall : (S.plus Z).list.take i = (Sha.block S b).list := by
                  rw [hi8', HZ.out, HJ.out, HW.out]
                  rfl
                rw [hall] at hown ⊢
                have hres : WRow w wr (Sha.block S b).list (.slice Ao (Sha.block S b).list.length co) :=
                  ⟨Hb1.out.trans ((Hb3.out.trans ((HBX.out.trans (hbe.mono HBX.out.size)).mono Hb3.out.size)).mono Hb1.out.size), Ao, co, rfl, hown.mono (Nat.le_trans Hb1.out.size (Nat.le_trans Hb3.out.size HBX.out.size))⟩
                obtain ⟨R, hR⟩ : ∃ R, R = (Sha.block S b).list := ⟨_, rfl⟩
                rw [← hR] at hres ⊢
                have HRES := hid2 hres
                have HRE := hid2 hR
                clear hres hown hall hi8' hR hi hll hi8
                go_wp2
                go_ret
                refine ⟨_, rfl, ?_⟩
                rw [← HRE.out]
                exact HRES.out
end
end Go.Proofs.YtehpapoboeejkaaGreat
/- The walk of the document's Sum. -/
namespace Go.Proofs.YtehpapoboeejkaaGreat
open Go.RowKit
set_option maxRecDepth 100000
theorem whole_64 (l : List UInt8) : (Sha.whole l).length = 64 * ((Sha.whole l).length / 64) := by
  rw [Sha.whole, List.length_append, Sha.tail_len]; omega
theorem whole_le (l : List UInt8) : (Sha.whole l).length ≤ l.length + 72 := by
  rw [Sha.whole, List.length_append, Sha.tail_len]; omega
theorem whole_u8 (l : List UInt8) (j : Nat) (h : j < l.length) : (u8s l)[j]? = some (.int .u8 (l.getD j 0).toNat) := u8s_get l h
theorem s8_len (S : Sha.S8) : S.list.length = 8 := rfl
/-- the digest's block while the document's sum fills it -/
structure OutR (w wr : World) (F : Sha.S8) (G k hb ho : Nat) : Prop where
  res : ResAt w wr
  out_ : wr.heap[G]? = some (.cells (u8s (outK F k)).toArray 107 (0, 0))
  words : ∀ j, j < 8 → wr.cell? ⟨hb, ho + j, none⟩ = some (.int .u32 (F.list.getD j 0).toNat)
  ge : w.heap.size + 1 ≤ G
  ne : hb ≠ G
theorem OutR.frozen {w wr : World} {F : Sha.S8} {G k hb ho : Nat} (h : OutR w wr F G k hb ho) (j : Nat) : wr.frozen? ⟨G, j, none⟩ = false := frozen_of_row wr G j _ _ h.out_
theorem OutR.target {w wr : World} {F : Sha.S8} {G k hb ho : Nat} (h : OutR w wr F G k hb ho) (j : Nat) (hj : j < 32) : wr.cell? ⟨G, j, none⟩ = some (.int .u8 ((outK F k).getD j 0).toNat) := by
  have hk : (outK F k).length ≥ 32 := by rw [outK, List.length_append, List.length_take, out_length, List.length_replicate]; omega
  exact cell_of_row wr G j _ _ _ h.out_ |>.trans (by rw [List.getElem?_toArray]; exact u8s_get _ (by omega))
theorem OutR.set {w wr : World} {F : Sha.S8} {G k hb ho : Nat} (h : OutR w wr F G k hb ho) (hk : k < 32) (v : Int) (hv : v = (Sha.byteOf F k).toNat) : OutR w (wr.setCell ⟨G, k, none⟩ (.int .u8 v)) F G (k + 1) hb ho := by
  subst hv
  have hge := h.ge
  refine ⟨⟨?_, ?_⟩, ?_, ?_, h.ge, h.ne⟩
  · exact (heap_setCell_other wr _ _ _ (by simp; omega)).trans h.res.row
  · exact h.res.below.setCell (by simp; omega) _
  · rw [heap_setCell_same wr G k _ _ _ h.out_, u8s_set, outK_set F k hk]
  · intro j hj
    exact (World.cell?_of_block (heap_setCell_other wr _ _ _ (by simpa using h.ne))).trans (h.words j hj)
set_option maxHeartbeats 2000000 in
theorem refsum_any (w : World) (s : ByteArray) (hs : s.size ≤ 20000) :
    Calls Tryz.prog 65 #[.string s] w fun e w' => e = .returned (.agg (u8s (Sha.sum s.data.toList)).toArray) ∧ Below w.heap.size w w' := by
  have hr0 := ResAt.start w
  have hL0 := Rd.of_lit (w.alloc (.cells (u8s (List.replicate 32 0)).toArray 107)) (w32s Sha.start.list).toArray 119 1 8 (by decide) rfl
  have HR0 := hid2 (hr0.ext ((Below.refl _ _).alloc (Nat.le_refl _) (.cells (w32s Sha.start.list).toArray 119)))
  have HL0 := hid2 hL0
  clear hr0 hL0
  go_enter Tryz.func65, Tryz.ntmps65
  go_wp2_with (first
    | (go_at_call 73; refine (whole_any _ s hs).mono ?_; rintro e w1 ⟨v, rfl, hbe, Ab, cb, rfl, hown⟩))
  have hr1 : ResAt w w1 := HR0.out.ext hbe
  have hR1 : Rd w1 1 (some ⟨w.heap.size + 1, 0, none⟩) 8 (w32s (Sha.blocks 0 Sha.start (Sha.whole s.data.toList)).list) := by
    have := HL0.out.below_all hbe
    rw [show Sha.blocks 0 Sha.start (Sha.whole s.data.toList) = Sha.start from rfl]
    simpa using this
  have h64 := whole_64 s.data.toList
  have hwle := whole_le s.data.toList
  rw [toList_length] at hwle
  obtain ⟨d, hd⟩ : ∃ d, d = Sha.whole s.data.toList := ⟨_, rfl⟩
  rw [← hd] at hown hR1 h64 hwle ⊢
  obtain ⟨q, hq⟩ : ∃ q, q = d.length / 64 := ⟨_, rfl⟩
  obtain ⟨n, hn⟩ : ∃ n, n = d.length := ⟨_, rfl⟩
  rw [← hq] at h64
  rw [← hn] at h64 hown hwle ⊢
  have hrb := hown.rd
  have hncb := hown.2.1
  have HD := hid2 hd
  have HQ := hid2 hq
  have HN := hid2 hn
  have hq20 : q ≤ 320 := by omega
  have hn2k : (n : Int) ≤ 21000 := by omega
  have HRB := hid2 hrb
  have H64 := hid2 h64
  have hn64 : (n : Int) = 64 * (q : Int) := by omega
  have HN64 := hid2 hn64
  clear HR0 HL0 hbe hown hd hq hn hrb hwle h64 hn64
  go_loopg [3, 5] q (fun gk v i wx => ∃ p : Nat, p + gk = q ∧ i = .int .i64 (64 * (p : Int)) ∧ Below w1.heap.size w1 wx ∧ ∃ A c, v = .slice A 8 c ∧ Rd wx 1 A 8 (w32s (Sha.blocks p Sha.start d).list))
  case atStart => exact ⟨0, by omega, rfl, Below.refl _ _, _, _, rfl, hR1⟩
  case round =>
    clear hR1
    obtain ⟨p, hp, rfl, hbx, A, c, rfl, hR⟩ := hrel
    obtain ⟨S, hS⟩ : ∃ S, S = Sha.blocks p Sha.start d := ⟨_, rfl⟩
    rw [← hS] at hR
    have HS := hid2 hS
    obtain ⟨hb, ho, rfl, hcs⟩ := hR.2 (by omega)
    have hcell : ∀ j, j < 8 → wr.cell? ⟨hb, ho + j, none⟩ = some (.int .u32 (S.list.getD j 0).toNat) := fun j hj => hcs j _ (w32s_get S.list hj)
    have hhb : hb < wr.heap.size := World.block_lt_of_cell? wr _ (hcell 0 (by omega))
    have HC := hid2 hcell
    have HBX := hid2 hbx
    have hsx := hbx.size
    clear hS hcs hR hcell hbx
    by_cases hpq : p < q
    · have hlt : 64 * (p : Int) < n := by have := HN64.out; omega
      obtain ⟨bb, bo, rfl, hbc⟩ := HRB.out.2 (by have := H64.out; omega)
      have hbcell : ∀ j, j < 64 → wr.cell? ⟨bb, bo + 64 * p + j, none⟩ = some (.int .u8 (((d.drop (64 * p)).take 64).getD j 0).toNat) := by
        intro j hj
        have h := hbc (64 * p + j) _ (u8s_get d (by have := HN.out; have := H64.out; omega))
        rw [Nat.add_assoc, HBX.out.cell (by exact World.block_lt_of_cell? w1 _ h), h, List.getD_eq_getElem?_getD, List.getD_eq_getElem?_getD, List.getElem?_take, if_pos hj, List.getElem?_drop]
      have hwn' : 64 * (p : Int) + 64 ≤ n := by have := HN64.out; omega
      have hbb : bb < wr.heap.size := World.block_lt_of_cell? wr _ (hbcell 0 (by omega))
      have hw0 : (0 : Int) ≤ 64 * (p : Int) + 64 := by omega
      have hwn : 64 * (p : Int) + 64 ≤ cb := by have := HN64.out; omega
      have hw64 : IntKind.i64.wrap (64 * (p : Int) + 64) = 64 * (p : Int) + 64 := IntWalk.i64_in _ (by constructor <;> omega)
      have HBC := hid2 hbcell
      clear hbcell hbc
      have hcap : 64 ≤ cb - 64 * p := by have := HN64.out; omega
      go_wp2_with (first
        | (go_at_call 74; refine (block_any wr hb ho bb (bo + 64 * p) c (cb - 64 * p) S ((d.drop (64 * p)).take 64) hhb hbb HC.out HBC.out hcap).mono ?_; rintro e w3 ⟨v, rfl, hbe3, A3, c3, rfl, hown3⟩; rw [s8_len] at hown3 ⊢; have HOWN3 := hid2 hown3; clear hown3))
      go_roundg (gk - 1)
      case rel =>
        refine ⟨p + 1, by omega, by go_num, HBX.out.trans (hbe3.mono HBX.out.size), A3, c3, rfl, ?_⟩
        rw [Sha.blocks_succ, ← HS.out]
        exact HOWN3.out.rd
      case measure => omega
    · have hpq' : p = q := by omega
      have hF : S = Sha.blocks ((Sha.whole s.data.toList).length / 64) Sha.start (Sha.whole s.data.toList) := by rw [HS.out, hpq', HQ.out, HD.out]
      have HF := hid2 hF
      have hnl : ¬ 64 * (p : Int) < n := by have := HN64.out; omega
      have hr2 := hr1.ext (HBX.out)
      obtain ⟨wz, hwz⟩ : ∃ wz, wz = wr := ⟨_, rfl⟩
      subst hwz
      have hOM : OutR w (wz.alloc (.cells (u8s (List.replicate 32 0)).toArray 107)) S wz.heap.size 0 hb ho :=
        ⟨hr2.ext ((Below.refl _ _).alloc (Nat.le_refl _) _), heap_alloc_new wz _, fun j hj => (((Below.refl wz.heap.size wz).alloc (Nat.le_refl _) _).cell hhb).trans (HC.out j hj), hr2.size, by omega⟩
      have HOM0 := hid2 hOM
      clear hpq' hF hr2 hr1 hp hpq hOM
      go_wp2_with (first
        | (refine wpList_gen (fun w2 => OutR w w2 S wz.heap.size 0 hb ho) HOM0.out ?_; intro w2 hOM2; have h0 : w2.heap[wz.heap.size]? = some (.cells (u8s (List.replicate 32 0)).toArray 107 (0, 0)) := hOM2.out_; (with_reducible refine wpList_store_lit wz.heap.size 0 (.agg (u8s (List.replicate 32 0)).toArray) (u8s (List.replicate 32 0)) (agg_cells _) _ _ h0 (info_h8' List.length_replicate) (fit_h List.length_replicate) (u8s_one _) ?_ ?_); exact ⟨rfl, rfl⟩; rw [laid_all (by simp), setRow_self _ _ _ _ _ h0]; clear h0 HOM0))
      obtain ⟨G, hG⟩ : ∃ G, G = wz.heap.size := ⟨_, rfl⟩
      have hOM := hOM2
      rw [← hG] at hOM ⊢
      clear hG hOM2
      go_loopw [7] (fun i wx => ∃ k : Nat, k ≤ 32 ∧ i = .int .i64 k ∧ OutR w wx S G k hb ho) (fun i _ => 32 - (intOf i).toNat)
      case atStart => exact ⟨0, by omega, rfl, hOM⟩
      case round =>
        clear hOM
        obtain ⟨k, hk, rfl, hOM⟩ := hrel
        by_cases hlt : k < 32
        · have hcell := hOM.words (k / 4) (by omega)
          have hfr := hOM.frozen k
          have hct := hOM.target k hlt
          have hsub : (0 : Int) ≤ 24 - 8 * ((k : Int) % 4) := by omega
          have HOM := hid2 hOM
          clear hOM
          go_wp2
          go_roundw
          case rel => exact ⟨k + 1, by omega, by go_num, HOM.out.set hlt _ (by rw [← byteOf_int, List.getD_eq_getElem?_getD])⟩
          case measure => simp [intOf]; omega
        · have hk32 : k = 32 := by omega
          have HK := hid2 hk32
          have h1 := hid2 hOM.out_
          have h2 := hid2 hOM.res
          have hol := outK_length S k (by omega)
          have HOL := hid2 hol
          clear hk32 hk hOM hol
          go_wp2_with (first
            | ((with_reducible refine wpList_load_lit G 0 _ _ _ h1.out (u8s (outK S k)) (fun j _ => getElem?_zero_add _ j) _ Tryz.underlying107 (info_h8' HOL.out) ?_ ?_); exact ⟨rfl, rfl⟩)
            | ((with_reducible refine wpList_store_lit w.heap.size 0 (.agg (u8s (outK S k)).toArray) (u8s (outK S k)) (agg_cells _) _ _ (ResAt.row h2.out) (info_h8' HOL.out) (fit_h HOL.out) (u8s_one _) ?_ ?_); exact ⟨rfl, rfl⟩))
          have hfin : outK S k = Sha.sum s.data.toList := by
            rw [HK.out, outK_full, HF.out, Sha.sum]
          rw [← hfin]
          exact bodyPost_ret (v := .agg (u8s (outK S k)).toArray) (results_cell_row rfl _ _ _ 107 _ (0, 0) _ rfl (ResAt.wrote h2.out _ HOL.out) Tryz.underlying107 rfl (by rw [List.size_toArray]; exact info_h8' HOL.out)) rfl ⟨rfl, ResAt.below2 h2.out _⟩
end Go.Proofs.YtehpapoboeejkaaGreat
/- The document's head and Frame. -/
namespace Go.Proofs.YtehpapoboeejkaaGreat
open Go.RowKit
set_option maxRecDepth 100000
theorem rhead_any (w : World) (s : ByteArray) (hs : s.size ≤ 15000) : Calls Tryz.prog 57 #[.string s] w fun e w' => e = .returned (.string (strB (headL s.data.toList))) ∧ Below w.heap.size w w' := by
  have hs0 : (s.size : Int) ≤ 15000 := by omega
  obtain ⟨N, hN⟩ : ∃ N, N = strB (num4 s.size) := ⟨_, rfl⟩
  have hNl : N.data.toList = num4 s.size := by rw [hN, strB_list]
  have hNs : N.size = 4 := by rw [hN, strB_size]; rfl
  obtain ⟨S, hS⟩ : ∃ S, S = Sha.sum (N ++ s).data.toList := ⟨_, rfl⟩
  have hSl : S.length = 32 := by rw [hS]; exact sum_len _
  have hadd : ¬ (N.size + s.size > 9223372036854775807) := by omega
  have hR1 : Rd (w.alloc (.cells #[.int .u8 ((s.size : Int) / 16777216), .int .u8 ((s.size : Int) / 65536 % 256), .int .u8 ((s.size : Int) / 256 % 256), .int .u8 ((s.size : Int) % 256)] 5)) 1 (some ⟨w.heap.size, 0, none⟩) 4 (u8s (num4 s.size)) := by
    rw [num4_b s.size (by omega)]; exact Rd.of_lit w #[_, _, _, _] 5 1 4 (by decide) rfl
  have hB : Below w.heap.size w (w.alloc (.cells #[.int .u8 ((s.size : Int) / 16777216), .int .u8 ((s.size : Int) / 65536 % 256), .int .u8 ((s.size : Int) / 256 % 256), .int .u8 ((s.size : Int) % 256)] 5)) := (Below.refl _ _).alloc (Nat.le_refl _) _
  have hsz : (N ++ s).size ≤ 20000 := by rw [ByteArray.size_append]; omega
  have HN := hid2 hN
  have HS := hid2 hS
  have HNL := hid2 hNl
  have HNS := hid2 hNs
  clear hN hS hNs hNl
  go_enter Tryz.func57, Tryz.ntmps57
  go_wp2_with (first
    | ((with_reducible refine wpList_to_string_lit 5 (some ⟨w.heap.size, 0, none⟩) 4 4 (num4 s.size) Tryz.underlying75 Tryz.underlying5 Tryz.underlying9 rfl hR1 ?_ ?_); exact rfl; rw [show (⟨(num4 s.size).toArray⟩ : ByteArray) = N from HN.out.symm]; clear hR1)
    | (go_at_call 65; refine (refsum_any _ (N ++ s) hsz).mono ?_; rintro e wA ⟨rfl, hb⟩; replace hB := hB.trans (hb.mono hB.size); clear hb; rw [← HS.out])
    | ((with_reducible refine wpList_store_fresh S hSl ?_ ?_); exact ⟨rfl, rfl⟩))
  have hrow : (wA.alloc (.cells (u8s S).toArray 107)).heap[wA.heap.size]? = some (.cells (u8s S).toArray 107 (0, 0)) := heap_alloc_new wA _
  have hB2 := hB.alloc hB.size (.cells (u8s S).toArray 107)
  obtain ⟨wz, hwz⟩ : ∃ wz, wz = wA.alloc (.cells (u8s S).toArray 107) := ⟨_, rfl⟩
  obtain ⟨G, hG⟩ : ∃ G, G = wA.heap.size := ⟨_, rfl⟩
  rw [← hwz] at hrow hB2 ⊢
  rw [← hG] at hrow ⊢
  clear hwz hG hB hsz hadd
  go_loopw [6, 7] (fun v i wr => ∃ k : Nat, k ≤ 8 ∧ i = .int .i64 k ∧ v = .string (strB (num4 s.size ++ S.take k)) ∧ Below w.heap.size w wr ∧ wr.heap[G]? = some (.cells (u8s S).toArray 107 (0, 0))) (fun _ i _ => 8 - (intOf i).toNat)
  case atStart => exact ⟨0, by omega, rfl, by rw [HN.out, List.take_zero, List.append_nil], hB2, hrow⟩
  case round =>
    clear hB2 hrow
    obtain ⟨k, hk, rfl, rfl, hB, hrow⟩ := hrel
    obtain ⟨o, ho⟩ : ∃ o, o = strB (num4 s.size ++ S.take k) := ⟨_, rfl⟩
    rw [← ho]
    by_cases hlt : k < 8
    · have hkS : k < S.length := by omega
      have hcell : wr.cell? ⟨G, k, none⟩ = some (.int .u8 (S.getD k 0).toNat) := (cell_of_row _ G k _ _ _ hrow).trans (by rw [List.getElem?_toArray]; exact u8s_get S hkS)
      obtain ⟨b, hb⟩ : ∃ b, b = S.getD k 0 := ⟨_, rfl⟩
      rw [← hb] at hcell
      obtain ⟨T, hT⟩ : ∃ T, T = strB [b] := ⟨_, rfl⟩
      have hos : o.size ≤ 12 := by rw [ho, strB_size, List.length_append, num4_length, List.length_take]; omega
      have hTs : T.size = 1 := by rw [hT, strB_size]; rfl
      have hadd : ¬ (o.size + T.size > 9223372036854775807) := by omega
      have HO := hid2 ho
      have HT := hid2 hT
      have HBB := hid2 hb
      have hlt' : (k : Int) < 8 := by omega
      have hR1 : Rd (wr.alloc (.cells #[.int .u8 b.toNat] 5)) 1 (some ⟨wr.heap.size, 0, none⟩) 1 (u8s [b]) := Rd.one wr _ _
      clear ho hT hb hos hTs
      go_wp2_with (first
        | ((with_reducible refine wpList_to_string_lit 5 (some ⟨wr.heap.size, 0, none⟩) 1 1 [b] Tryz.underlying75 Tryz.underlying5 Tryz.underlying9 rfl hR1 ?_ ?_); exact rfl; rw [show (⟨[b].toArray⟩ : ByteArray) = T from HT.out.symm]; clear hR1))
      go_roundw
      case rel =>
        refine ⟨k + 1, by omega, by go_num, ?_, hB.alloc hB.size _, (Below.heap_alloc wr _ _ (heap_lt hrow)).trans hrow⟩
        rw [HO.out, HT.out, strB_append, List.take_succ_eq_append_getElem hkS, List.append_assoc, HBB.out, List.getD_eq_getElem?_getD, List.getElem?_eq_getElem hkS]
        rfl
      case measure => simp [intOf]; omega
    · have hk8 : k = 8 := by omega
      have hlt' : ¬ (k : Int) < 8 := by omega
      have e : strB (headL s.data.toList) = o := by
        rw [ho, hk8, headL, HS.out, string_append_toList, HNL.out, toList_length]
      clear ho
      go_wp2_with fail
      go_ret
      exact ⟨rfl, hB⟩
theorem rframe_any (w : World) (s : ByteArray) (hs : s.size ≤ 15000) : Calls Tryz.prog 37 #[.string s] w fun e w' => e = .returned (.tuple #[.string (strB (frameL s.data.toList)), .int .i64 0]) ∧ Below w.heap.size w w' := by
  have hs0 : (s.size : Int) ≤ 1048576 := by omega
  obtain ⟨N, hN⟩ : ∃ N, N = strB (headL s.data.toList) := ⟨_, rfl⟩
  have hNs : N.size = 12 := by rw [hN, strB_size, headL_length]
  have hadd : ¬ (N.size + s.size > 9223372036854775807) := by omega
  have e : strB (frameL s.data.toList) = N ++ s := by rw [hN, frameL, ← strB_append, strB_of]
  have HN := hid2 hN
  rw [e]
  clear hN hNs e
  go_enter Tryz.func37, Tryz.ntmps37
  go_wp2_with (first
    | (go_at_call 57; refine (rhead_any _ s (by omega)).mono ?_; rintro e w1 ⟨rfl, hb⟩; rw [← HN.out]))
  go_ret2
  exact ⟨rfl, hb⟩
end Go.Proofs.YtehpapoboeejkaaGreat
/- The document's Scan. -/
namespace Go.Proofs.YtehpapoboeejkaaGreat
open Go.RowKit
set_option maxRecDepth 100000
/-- the first j of four bytes as a number -/
def fourK (l : List UInt8) : Nat → Nat
  | 0 => 0
  | j + 1 => 256 * fourK l j + (l.getD j 0).toNat
theorem fourK_lt (l : List UInt8) : ∀ j, fourK l j < 256 ^ j
  | 0 => by simp [fourK]
  | j + 1 => by
    have h := fourK_lt l j
    have hb := (l.getD j 0).toNat_lt
    rw [fourK, Nat.pow_succ]
    omega
theorem fourK_four (l : List UInt8) : fourK l 4 = four l := by
  simp only [fourK, four]
  omega
theorem getD_drop8 (l : List UInt8) (a j : Nat) : (l.drop a).getD j 0 = l.getD (a + j) 0 := by
  rw [List.getD_eq_getElem?_getD, List.getD_eq_getElem?_getD, List.getElem?_drop]
theorem rscan_any (w : World) (s : ByteArray) (hs : s.size ≤ 15000) : Calls Tryz.prog 32 #[.string s] w (SPost w s.data.toList) := by
  have hs0 : (s.size : Int) ≤ 15000 := by omega
  obtain ⟨b, hb⟩ : ∃ b, b = s.data.toList := ⟨_, rfl⟩
  have hbl : b.length = s.size := by rw [hb, toList_length]
  rw [← hb]
  have HB := hid2 hb
  clear hb
  go_enter Tryz.func32, Tryz.ntmps32
  go_wp2_with fail
  go_loopg [4, 5] 1251 (fun gk v i wr => ∃ (k at_ : Nat), k + gk = 1251 ∧ i = .int .i64 at_ ∧ 12 * k ≤ at_ ∧ at_ ≤ s.size ∧ (scanK b k).2 = at_ ∧ (scanK b k).1.length = k ∧ Below w.heap.size w wr ∧ ∃ A c, v = .slice A k c ∧ Own wr w.heap.size 9 1 A k c (strV (scanK b k).1))
  case atStart => exact ⟨0, 0, by omega, rfl, by omega, by omega, rfl, rfl, (Below.refl _ _).alloc (Nat.le_refl _) _, _, _, rfl, Own.lit w #[] _ 1 0 _ (Nat.le_refl _) (by decide) rfl⟩
  case round =>
    obtain ⟨k, at_, hk, rfl, hka, hat, hsn, hln, hbe, A, c, rfl, hown⟩ := hrel
    obtain ⟨L, hL⟩ : ∃ L, L = strV (scanK b k).1 := ⟨_, rfl⟩
    rw [← hL] at hown
    have HL := hid2 hL
    have HSN := hid2 hsn
    have HLN := hid2 hln
    have hs1 := hbe.size
    have hnc := hown.2.1
    have hdl : (b.drop at_).length = s.size - at_ := by rw [List.length_drop, hbl]
    have hend : firstL (b.drop at_) = none → SPost w b (.returned (.tuple #[.slice A k c, .int .i64 (at_ : Int)])) wr := by
      intro hno
      have hall := scanL_of (b := b) (k := k) (by rw [HSN.out]; exact hno) (by omega)
      exact ⟨A, c, by rw [hall, HSN.out, HLN.out], by rw [hall, HLN.out, ← HL.out]; exact hown, hbe⟩
    have HEND := hid2 hend
    have HDL := hid2 hdl
    have HOWN := hid2 hown
    have HBE := hid2 hbe
    clear hL hsn hln hend hdl hown hbe
    have hwa : IntKind.i64.wrap ((at_ : Int) + 12) = (at_ : Int) + 12 := IntWalk.i64_in _ (by constructor <;> omega)
    by_cases h12 : at_ + 12 ≤ s.size
    · have h12' : (at_ : Int) + 12 ≤ s.size := by omega
      go_wp2_with fail
      go_loopw [6, 7] (fun v i wx => ∃ j : Nat, j ≤ 4 ∧ i = .int .i64 j ∧ v = .int .i64 ((fourK (b.drop at_) j : Nat) : Int) ∧ wx = wr) (fun _ i _ => 4 - (intOf i).toNat)
      case atStart => exact ⟨0, by omega, rfl, rfl, by first | trivial | rfl⟩
      case round =>
        obtain ⟨j, hj, rfl, rfl, rfl⟩ := hrel
        have hfl := fourK_lt (b.drop at_) j
        by_cases hj4 : j < 4
        · have hj4' : (j : Int) < 4 := by omega
          have hfl2 : fourK (b.drop at_) j < 16777216 := Nat.lt_of_lt_of_le hfl (Nat.pow_le_pow_right (by decide) (show j ≤ 3 by omega))
          have hix := fun wx => run_index_at s (at_ + j) ((at_ : Int) + j) (by omega) (by omega) wx
          obtain ⟨x, hx⟩ : ∃ x, x = s.data.toList.getD (at_ + j) 0 := ⟨_, rfl⟩
          rw [← hx] at hix
          have hxl := x.toNat_lt
          obtain ⟨F, hF⟩ : ∃ F, F = fourK (b.drop at_) j := ⟨_, rfl⟩
          rw [← hF] at hfl2 ⊢
          have hw1 : IntKind.i64.wrap (256 * (F : Int)) = 256 * (F : Int) := IntWalk.i64_in _ (by constructor <;> omega)
          have hw2 : IntKind.i64.wrap (256 * (F : Int) + (x.toNat : Int)) = 256 * (F : Int) + (x.toNat : Int) := IntWalk.i64_in _ (by constructor <;> omega)
          have hw3 : IntKind.i64.wrap ((at_ : Int) + (j : Int)) = (at_ : Int) + (j : Int) := IntWalk.i64_in _ (by constructor <;> omega)
          have HX := hid2 hx
          have HF := hid2 hF
          clear hx hF hfl
          go_wp2_with fail
          go_roundw
          case rel =>
            refine ⟨j + 1, by omega, by go_num, ?_, by first | trivial | rfl⟩
            rw [fourK, ← HF.out, getD_drop8, HB.out, ← HX.out]
            congr 1
          case measure => simp [intOf]; omega
        · have hj44 : j = 4 := by omega
          have hnj : ¬ (j : Int) < 4 := by omega
          obtain ⟨f, hf⟩ : ∃ f, f = four (b.drop at_) := ⟨_, rfl⟩
          have hfe : fourK (b.drop at_) j = f := by rw [hj44, fourK_four, hf]
          rw [hfe] at hfl ⊢
          have hfl2 : f < 4294967296 := by rw [hj44] at hfl; exact hfl
          have hw4 : IntKind.i64.wrap ((at_ : Int) + 12 + (f : Int)) = (at_ : Int) + 12 + (f : Int) := IntWalk.i64_in _ (by constructor <;> omega)
          have HF := hid2 hf
          clear hfe hf hfl
          by_cases hbad : 1048576 < f ∨ s.size < at_ + 12 + f
          · have hno : firstL (b.drop at_) = none := by
              unfold firstL
              rw [if_neg (by rw [HDL.out, ← HF.out]; omega)]
            have hq := HEND.out hno
            by_cases hb1 : 1048576 < f
            · have hb1' : (1048576 : Int) < f := by omega
              go_wp2_with fail
              go_ret2
              exact hq
            · have hb1' : (f : Int) ≤ 1048576 := by omega
              have hb2 : (s.size : Int) < (at_ : Int) + 12 + f := by omega
              go_wp2_with fail
              go_ret2
              exact hq
          · have hb1 : (f : Int) ≤ 1048576 := by omega
            have hb2 : (at_ : Int) + 12 + f ≤ s.size := by omega
            have hb3 : (at_ : Int) + 12 ≤ (at_ : Int) + 12 + f := by omega
            have hb4 : (0 : Int) ≤ (at_ : Int) + 12 := by omega
            have hb5 : (at_ : Int) ≤ (at_ : Int) + 12 := by omega
            have ht1 : ((at_ : Int) + 12).toNat = at_ + 12 := by omega
            have ht2 : ((at_ : Int) + 12 + f).toNat = at_ + 12 + f := by omega
            obtain ⟨r, hr⟩ : ∃ r, r = s.extract (at_ + 12) (at_ + 12 + f) := ⟨_, rfl⟩
            have hrl : r.data.toList = ((b.drop at_).drop 12).take (four (b.drop at_)) := by
              rw [hr, ByteArray.data_extract, Array.toList_extract, ← HF.out, ← HB.out, List.extract_eq_take_drop, List.drop_drop, Nat.add_sub_cancel_left]
            have hrz : r.size = f := by rw [← toList_length, hrl, List.length_take, List.length_drop, HDL.out, ← HF.out]; omega
            have hrs : r.size ≤ 15000 := by omega
            obtain ⟨q, hq⟩ : ∃ q, q = s.extract at_ (at_ + 12) := ⟨_, rfl⟩
            have hql : q.data.toList = (b.drop at_).take 12 := by
              rw [hq, ByteArray.data_extract, Array.toList_extract, ← HB.out, List.extract_eq_take_drop, Nat.add_sub_cancel_left]
            obtain ⟨N, hN⟩ : ∃ N, N = strB (headL r.data.toList) := ⟨_, rfl⟩
            have HRL := hid2 hrl
            have HQL := hid2 hql
            have HR := hid2 hr
            have HQ := hid2 hq
            have HN := hid2 hN
            have HRZ := hid2 hrz
            clear hrl hql hN hr hq hbad hrz
            go_wp2_with fail
            rw [← HR.out]
            by_cases hNq : N.data.toList = q.data.toList
            · have hbe : (N.toList == q.toList) = true := by rw [bytes_ext hNq]; exact beq_self_eq_true _
              refine wp_region_grd 8 (by kernel_rfl) (by kernel_rfl) (by kernel_rfl) _ rfl (by kernel_rfl) (fun j v _ => ([.string r, .string N, .string s, .int .i64 (at_), .int .i64 (at_), .int .i64 ((at_ : Int) + 12), .string q, .bool false] : List Value)[j]? = some v) (fun w4 => Below wr.heap.size wr w4) (fun a b => Below a.heap.size a b) (below_drewN (Below.refl _ wr) 1) (fun _ _ _ _ hb hv => hv) ?_ ?_
              · refine of_allOps ⟨?_, ?_, ?_, ?_, ?_, ?_, ?_, ?_, trivial⟩
                · intro T2 w2 hM hN hO hE K hK
                  have o8 : T2[8]? = some (.string r) := hO 8 rfl
                  clear hE hO hN
                  refine step_plain0 rfl ?_
                  go_simp
                  exact hK _ _ rfl hM (Below.refl _ _)
                · intro T2 w2 hM hN hO hE K hK
                  obtain ⟨v0, h0, e0⟩ := hE ⟨0, .data⟩ (by simp) rfl _ _ rfl rfl
                  rw [show v0 = .string r from (Option.some.inj e0).symm] at h0
                  clear hE hO hN
                  refine step_plain0 rfl ?_
                  go_simp
                  refine (rhead_any _ r hrs).mono ?_
                  rintro e w3 ⟨rfl, hb⟩
                  rw [← HN.out]
                  exact hK _ _ rfl (hM.trans (hb.mono hM.size)) hb
                · intro T2 w2 hM hN hO hE K hK
                  have o0 : T2[0]? = some (.string s) := hO 0 rfl
                  clear hE hO hN
                  refine step_plain0 rfl ?_
                  go_simp
                  exact hK _ _ rfl hM (Below.refl _ _)
                · intro T2 w2 hM hN hO hE K hK
                  have o5 : T2[5]? = some (.int .i64 (at_)) := hO 5 rfl
                  clear hE hO hN
                  refine step_plain0 rfl ?_
                  go_simp
                  exact hK _ _ rfl hM (Below.refl _ _)
                · intro T2 w2 hM hN hO hE K hK
                  have o5 : T2[5]? = some (.int .i64 (at_)) := hO 5 rfl
                  clear hE hO hN
                  refine step_plain0 rfl ?_
                  go_simp
                  exact hK _ _ rfl hM (Below.refl _ _)
                · intro T2 w2 hM hN hO hE K hK
                  obtain ⟨v4, h4, e4⟩ := hE ⟨4, .data⟩ (by simp) rfl _ _ rfl rfl
                  rw [show v4 = .int .i64 (at_) from (Option.some.inj e4).symm] at h4
                  clear hE hO hN
                  refine step_plain0 rfl ?_
                  go_simp
                  exact hK _ _ rfl hM (Below.refl _ _)
                · intro T2 w2 hM hN hO hE K hK
                  obtain ⟨v2, h2, e2⟩ := hE ⟨2, .data⟩ (by simp) rfl _ _ rfl rfl
                  rw [show v2 = .string s from (Option.some.inj e2).symm] at h2
                  obtain ⟨v3, h3, e3⟩ := hE ⟨3, .data⟩ (by simp) rfl _ _ rfl rfl
                  rw [show v3 = .int .i64 (at_) from (Option.some.inj e3).symm] at h3
                  obtain ⟨v5, h5, e5⟩ := hE ⟨5, .data⟩ (by simp) rfl _ _ rfl rfl
                  rw [show v5 = .int .i64 ((at_ : Int) + 12) from (Option.some.inj e5).symm] at h5
                  clear hE hO hN
                  refine step_plain0 rfl ?_
                  go_simp
                  rw [← HQ.out]
                  exact hK _ _ rfl hM (Below.refl _ _)
                · intro T2 w2 hM hN hO hE K hK
                  obtain ⟨v1, h1, e1⟩ := hE ⟨1, .data⟩ (by simp) rfl _ _ rfl rfl
                  rw [show v1 = .string N from (Option.some.inj e1).symm] at h1
                  obtain ⟨v6, h6, e6⟩ := hE ⟨6, .data⟩ (by simp) rfl _ _ rfl rfl
                  rw [show v6 = .string q from (Option.some.inj e6).symm] at h6
                  clear hE hO hN
                  refine step_plain0 rfl ?_
                  go_simp
                  exact hK _ _ rfl hM (Below.refl _ _)
              · intro u w2 hM hF
                have e7 : u 7 = .bool false := (Option.some.inj (hF 7 (by omega))).symm
                clear hF
                simp only [fillAll, Nat.reduceAdd, e7, List.take_succ_cons, List.take_zero, List.drop_succ_cons, List.drop_zero, List.setIfInBounds_toArray, List.set_cons_succ, List.set_cons_zero]
                have hyes : firstL (b.drop at_) = some r.data.toList := by
                  unfold firstL
                  rw [if_pos, HRL.out]
                  refine ⟨by rw [HDL.out]; omega, by rw [← HF.out]; omega, by rw [← HF.out, HDL.out]; omega, ?_⟩
                  rw [← HRL.out, ← HQL.out, ← hNq, HN.out, strB_list]
                have hstep := scanK_some (b := b) (k := k) (r := r.data.toList) (by rw [HSN.out]; exact hyes)
                have HST := hid2 hstep
                have hbe1 := HBE.out.trans (hM.mono hs1)
                have hown1 := HOWN.out.below hM (Nat.le_refl _)
                clear hyes hstep hbe
                go_wp2_with (first
                  | (at_builtin; have _t := hown1; go_must ((with_reducible refine wpList_append_lit 9 (.string ⟨#[]⟩) 1 16 Tryz.underlying34 info_str rfl w.heap.size A k c L (hown1.alloc _) 1 [.string r] (.slice (some ⟨w2.heap.size, 0, none⟩) 1 1) (Src.slice Tryz.underlying34 (Rd.one w2 _ _)) one_str ?_ ?_ ?_ ?_ ?_); (unfold maxLen; omega); omega; (simp; have := hbe1.size; omega); exact ⟨rfl, rfl⟩; intro A3 c3 w3 hown3 hgr3 hbl3; clear hown1)))
                go_roundg (gk - 1)
                case rel =>
                  refine ⟨k + 1, at_ + (12 + r.size), by have := HRZ.out; omega, by have := HRZ.out; go_num, by omega, by have := HRZ.out; omega, ?_, ?_, ?_, A3, c3, rfl, ?_⟩
                  · rw [HST.out, HSN.out, toList_length]
                  · rw [HST.out, List.length_append, HLN.out]; rfl
                  · exact (hbe1.alloc hbe1.size _).grown hgr3 (by simp; have := hbe1.size; omega) (fun g e => (_t.block g e).1)
                  · rw [HST.out, ← strV_snoc, ← HL.out, strB_of]; exact hown3
                case measure => omega
            · have hbe : (N.toList == q.toList) = false := by
                rw [beq_eq_false_iff_ne]
                intro h
                exact hNq (by rw [← ByteArray.toList_eq, ← ByteArray.toList_eq, h])
              refine wp_region_grd 8 (by kernel_rfl) (by kernel_rfl) (by kernel_rfl) _ rfl (by kernel_rfl) (fun j v _ => ([.string r, .string N, .string s, .int .i64 (at_), .int .i64 (at_), .int .i64 ((at_ : Int) + 12), .string q, .bool true] : List Value)[j]? = some v) (fun w4 => Below wr.heap.size wr w4) (fun a b => Below a.heap.size a b) (below_drewN (Below.refl _ wr) 1) (fun _ _ _ _ hb hv => hv) ?_ ?_
              · refine of_allOps ⟨?_, ?_, ?_, ?_, ?_, ?_, ?_, ?_, trivial⟩
                · intro T2 w2 hM hN hO hE K hK
                  have o8 : T2[8]? = some (.string r) := hO 8 rfl
                  clear hE hO hN
                  refine step_plain0 rfl ?_
                  go_simp
                  exact hK _ _ rfl hM (Below.refl _ _)
                · intro T2 w2 hM hN hO hE K hK
                  obtain ⟨v0, h0, e0⟩ := hE ⟨0, .data⟩ (by simp) rfl _ _ rfl rfl
                  rw [show v0 = .string r from (Option.some.inj e0).symm] at h0
                  clear hE hO hN
                  refine step_plain0 rfl ?_
                  go_simp
                  refine (rhead_any _ r hrs).mono ?_
                  rintro e w3 ⟨rfl, hb⟩
                  rw [← HN.out]
                  exact hK _ _ rfl (hM.trans (hb.mono hM.size)) hb
                · intro T2 w2 hM hN hO hE K hK
                  have o0 : T2[0]? = some (.string s) := hO 0 rfl
                  clear hE hO hN
                  refine step_plain0 rfl ?_
                  go_simp
                  exact hK _ _ rfl hM (Below.refl _ _)
                · intro T2 w2 hM hN hO hE K hK
                  have o5 : T2[5]? = some (.int .i64 (at_)) := hO 5 rfl
                  clear hE hO hN
                  refine step_plain0 rfl ?_
                  go_simp
                  exact hK _ _ rfl hM (Below.refl _ _)
                · intro T2 w2 hM hN hO hE K hK
                  have o5 : T2[5]? = some (.int .i64 (at_)) := hO 5 rfl
                  clear hE hO hN
                  refine step_plain0 rfl ?_
                  go_simp
                  exact hK _ _ rfl hM (Below.refl _ _)
                · intro T2 w2 hM hN hO hE K hK
                  obtain ⟨v4, h4, e4⟩ := hE ⟨4, .data⟩ (by simp) rfl _ _ rfl rfl
                  rw [show v4 = .int .i64 (at_) from (Option.some.inj e4).symm] at h4
                  clear hE hO hN
                  refine step_plain0 rfl ?_
                  go_simp
                  exact hK _ _ rfl hM (Below.refl _ _)
                · intro T2 w2 hM hN hO hE K hK
                  obtain ⟨v2, h2, e2⟩ := hE ⟨2, .data⟩ (by simp) rfl _ _ rfl rfl
                  rw [show v2 = .string s from (Option.some.inj e2).symm] at h2
                  obtain ⟨v3, h3, e3⟩ := hE ⟨3, .data⟩ (by simp) rfl _ _ rfl rfl
                  rw [show v3 = .int .i64 (at_) from (Option.some.inj e3).symm] at h3
                  obtain ⟨v5, h5, e5⟩ := hE ⟨5, .data⟩ (by simp) rfl _ _ rfl rfl
                  rw [show v5 = .int .i64 ((at_ : Int) + 12) from (Option.some.inj e5).symm] at h5
                  clear hE hO hN
                  refine step_plain0 rfl ?_
                  go_simp
                  rw [← HQ.out]
                  exact hK _ _ rfl hM (Below.refl _ _)
                · intro T2 w2 hM hN hO hE K hK
                  obtain ⟨v1, h1, e1⟩ := hE ⟨1, .data⟩ (by simp) rfl _ _ rfl rfl
                  rw [show v1 = .string N from (Option.some.inj e1).symm] at h1
                  obtain ⟨v6, h6, e6⟩ := hE ⟨6, .data⟩ (by simp) rfl _ _ rfl rfl
                  rw [show v6 = .string q from (Option.some.inj e6).symm] at h6
                  clear hE hO hN
                  refine step_plain0 rfl ?_
                  go_simp
                  exact hK _ _ rfl hM (Below.refl _ _)
              · intro u w2 hM hF
                have e7 : u 7 = .bool true := (Option.some.inj (hF 7 (by omega))).symm
                clear hF
                simp only [fillAll, Nat.reduceAdd, e7, List.take_succ_cons, List.take_zero, List.drop_succ_cons, List.drop_zero, List.setIfInBounds_toArray, List.set_cons_succ, List.set_cons_zero]
                have hno : firstL (b.drop at_) = none := by
                  unfold firstL
                  rw [if_neg]
                  rintro ⟨_, _, _, h4⟩
                  rw [← HRL.out, ← HQL.out] at h4
                  exact hNq (by rw [← h4, HN.out, strB_list])
                obtain ⟨A9, c9, h91, h92, h93⟩ := HEND.out hno
                go_wp2_with fail
                go_ret2
                exact ⟨A9, c9, h91, h92.below hM (Nat.le_refl _), h93.trans (hM.mono hs1)⟩
    · have h12' : ¬ (at_ : Int) + 12 ≤ s.size := by omega
      have hno : firstL (b.drop at_) = none := by
        unfold firstL
        rw [if_neg (by rw [HDL.out]; omega)]
      have hq := HEND.out hno
      go_wp2_with fail
      go_ret2
      exact hq
end Go.Proofs.YtehpapoboeejkaaGreat
