/- A journal's Add: the walk. -/
import Derived.Test.YtehpapoboeejkaaGreatQb
import Derived.Test.YtehpapoboeejkaaGreatQa
import Derived.Lib.Strings
import Derived.Laws.BitsAllLaws
import Derived.Lib.Builder
import Derived.Lib.UnsafeStr
import Derived.Laws.Externs
import Derived.BigRegion
import Derived.Laws.Cover1
set_option linter.unusedSimpArgs false
set_option linter.unusedVariables false
namespace Go.Proofs.YtehpapoboeejkaaGreat
open Go.RowKit Go.Maps
def addI (W4 : World) (p b n : Nat) (M : Tab FileE) (left : Int) (nm f : List UInt8) (i : Nat) (W : World) : Prop := match i with
  | 0 => Stage W4 p b n M left W
  | 1 => beginE M left false [strB nm] nm = 0 ∧ Stage W4 p b (n + 1) (appM M left nm f) (beginL M left false [strB nm] nm) W
  | _ => (addR M left nm f).1 = 0 ∧ Stage W4 p b (n + 2) (addR M left nm f).2.1 (addR M left nm f).2.2 W
theorem addI_stage {W4 : World} {p b n : Nat} {M : Tab FileE} {left : Int} {nm f : List UInt8} {i : Nat} {W : World} (h : addI W4 p b n M left nm f i W) : But p b W4 W := by
  unfold addI at h
  split at h
  · exact h.but
  · exact h.2.but
  · exact h.2.but
/-- a broken journal -/
theorem add_broken (w : World) (j p : Nat) (nm : ByteArray) (hj : JIs w j p nm true) (s : ByteArray) :
    Calls Tryz.prog 10 #[.pointer (some ⟨j, 0, none⟩), .string s] w fun e w' => e = .returned (.int .i64 19) ∧ Below w.heap.size w w' := by
  have hjl := hj.lt
  have c2 : w.cell? ⟨j, 2, none⟩ = some (.bool true) := hj.box.cells 2
  go_enter Tryz.func10, Tryz.ntmps10
  go_wp2_with fail
  go_ret
  exact ⟨rfl, (Below.refl _ _).alloc (Nat.le_refl _) _⟩
set_option maxRecDepth 100000 in
set_option maxHeartbeats 1000000 in
theorem add_any (w : World) (j p b n : Nat) (nm : ByteArray) (M : Tab FileE) (left : Int) (hj : JIs w j p nm false) (h : DiskIs w p b n M left) (hn : n ≤ 900000) (hle : -1 ≤ left ∧ left ≤ 9223372036854775807) (hz : nm.size ≤ 1000000) (s : ByteArray) (hs : s.size ≤ 1000000) (hf : (fileOf M nm.data.toList).1.length ≤ 100000000) :
    Calls Tryz.prog 10 #[.pointer (some ⟨j, 0, none⟩), .string s] w (WPost w j p b (n + 2) nm false (addR M left nm.data.toList (frameL s.data.toList))) := by
  have hlt := h.lt
  have hjl := hj.lt
  have hne := hj.ne h
  obtain ⟨K, hK⟩ : ∃ K, K = strB (frameL s.data.toList) := ⟨_, rfl⟩
  have hKl : K.data.toList = frameL s.data.toList := by rw [hK, strB_list]
  have hKs : K.size = s.size + 12 := by rw [← toList_length, hKl, frameL_length, toList_length]
  have hfr := fun (W : World) => frame_any W s hs
  rw [← hK] at hfr
  rw [← hKl]
  obtain ⟨g, hg⟩ : ∃ g, g = w.heap.size := ⟨_, rfl⟩
  have hdoes : ∀ (W4 : World) (gb gr : Nat), Box W4 g [.pointer (some ⟨j, 0, none⟩)] → Box W4 gb [.string K] → Box W4 gr [.func (.func 34) #[] #[.pointer (some ⟨g, 0, none⟩), .pointer (some ⟨gb, 0, none⟩)], .func (.func 35) #[] #[.pointer (some ⟨g, 0, none⟩)]] → g ≤ gb → g ≤ gr → Below g w W4 →
      Calls Tryz.prog 24 #[.pointer (some ⟨j, 0, none⟩), .slice (some ⟨gr, 0, none⟩) 2 2] W4 (WPost w j p b (n + 2) nm false (addR M left nm.data.toList K.data.toList)) := by
    intro W4 gb gr x0 x1 x3 hgb hgr hbW
    have hjW : JIs W4 j p nm false := hj.keep (hbW.block j (by omega))
    have hdW : DiskIs W4 p b n M left := h.below hbW (by omega) (by omega)
    have hd' := does_any W4 j (some ⟨gr, 0, none⟩) 2 [⟨34, #[], #[.pointer (some ⟨g, 0, none⟩), .pointer (some ⟨gb, 0, none⟩)]⟩, ⟨35, #[], #[.pointer (some ⟨g, 0, none⟩)]⟩] (by simp) (addI W4 p b n M left nm.data.toList K.data.toList) (fun E W => (addR M left nm.data.toList K.data.toList).1 = E ∧ E ≠ 0 ∧ Stage W4 p b (n + 2) (addR M left nm.data.toList K.data.toList).2.1 (addR M left nm.data.toList K.data.toList).2.2 W) ⟨hdW, But.refl _ _ _⟩ ?_ ?_ ?_ ?_
    · exact hd'.mono fun e w' hh => does_end hjW (by rw [← hg]; exact hbW) (by omega) (by omega) (by omega) hne (fun W hI => hI) (fun E W hX => ⟨hX.1, hX.2.2⟩) hh
    · intro i W hI
      have hb := addI_stage hI
      have hx := x3.butJ hb (by omega) (by omega)
      refine ⟨rfl, fun _ => ⟨_, _, rfl, fun q u hu => ?_⟩⟩
      rw [Nat.zero_add, hx.cells q]
      exact hu
    · intro x hx
      simp only [List.mem_cons, List.not_mem_nil, or_false] at hx
      rcases hx with rfl | rfl
      · exact enters_of Tryz.func34 (by kernel_rfl) rfl
      · exact enters_of Tryz.func35 (by kernel_rfl) rfl
    · intro i x hx W hI
      have hb := addI_stage hI
      have y0 := x0.butJ hb (by omega) (by omega)
      have y1 := x1.butJ hb (by omega) (by omega)
      have hjx : JIs W j p nm false := hjW.keep (hb.block j hjW.lt hne.1 hne.2)
      match i, hx, hI with
      | 0, hx, hI =>
        obtain rfl := Option.some.inj hx
        refine (add1_any W j p b n nm false M left hjx hI.disk (by omega) hle g gb K y0 y1 (by omega) (by omega) (by omega)).mono fun e w' ⟨he, hd2, hb2⟩ => ⟨_, he, ?_⟩
        by_cases h0 : beginE M left false [strB nm.data.toList] nm.data.toList = 0
        · exact .inl ⟨h0, h0, hd2, hb.trans hb2⟩
        · refine .inr ⟨h0, ?_, h0, ?_, ?_⟩ <;> try simp only [addR, if_pos h0]
          · exact hd2.mono (by omega)
          · exact hb.trans hb2
      | 1, hx, hI =>
        obtain rfl := Option.some.inj hx
        refine (add2_any W j p b (n + 1) nm false _ _ hjx hI.2.disk (by omega) (begin_LJ hle _ _ _) g y0 (by omega) (app_len (by rw [toList_length]; omega))).mono fun e w' ⟨he, hd2, hb2⟩ => ⟨_, he, ?_⟩
        have hn1 : ¬ beginE M left false [strB nm.data.toList] nm.data.toList ≠ 0 := fun hh => hh hI.1
        have hst : Stage W4 p b (n + 2) (addR M left nm.data.toList K.data.toList).2.1 (addR M left nm.data.toList K.data.toList).2.2 w' := by
          simp only [addR, if_neg hn1]
          exact ⟨hd2, hb.trans hb2⟩
        have hE : (addR M left nm.data.toList K.data.toList).1 = beginE (appM M left nm.data.toList K.data.toList) (beginL M left false [strB nm.data.toList] nm.data.toList) true [strB nm.data.toList] nm.data.toList := by
          simp only [addR, if_neg hn1]
        rw [← hE]
        by_cases h0 : (addR M left nm.data.toList K.data.toList).1 = 0
        · exact .inl ⟨h0, h0, hst⟩
        · exact .inr ⟨h0, rfl, h0, hst⟩
      | i + 2, hx, _ => simp at hx
    · intro E W hX
      have hb := hX.2.2.but
      exact ⟨_, _, _, (hjW.keep (hb.block j hjW.lt hne.1 hne.2)).box⟩
  have HDOES := hid2 hdoes
  have HG := hid2 hg
  have HFR := hid2 hfr
  have c2 : w.cell? ⟨j, 2, none⟩ = some (.bool false) := hj.box.cells 2
  obtain ⟨W1, hW1⟩ : ∃ W1, W1 = w.alloc (.cells #[.pointer (some ⟨j, 0, none⟩)] 27) := ⟨_, rfl⟩
  have x0 : Box W1 g [.pointer (some ⟨j, 0, none⟩)] := by rw [hW1]; exact Box.new' _ _ _ (by simp [hg])
  have hb1 : Below g w W1 := by rw [hW1, hg]; exact (Below.refl _ _).alloc (Nat.le_refl _) _
  have hz1 : W1.heap.size = g + 1 := by rw [hW1, World.size_alloc, hg]
  have X0 := hid2 x0
  have HB1 := hid2 hb1
  have HW1 := hid2 hW1
  clear hdoes hK hKl hg hj h hf hfr hW1 x0 hb1
  go_enter Tryz.func10, Tryz.ntmps10
  go_wp2_with (go_at_call 23; rw [← HW1.out, ← HG.out]; refine (HFR.out _).mono ?_; rintro e w2 ⟨rfl, hb2⟩; have y0 := X0.out.below_all hb2; have q0 : w2.cell? ⟨g, 0, none⟩ = some (.pointer (some ⟨j, 0, none⟩)) := y0.cells 0; have q1 : (w2.alloc (.cells #[.string K] 9)).cell? ⟨g, 0, none⟩ = some (.pointer (some ⟨j, 0, none⟩)) := (y0.alloc _).cells 0; have Y0 := hid2 y0; have HB2 := hid2 (HB1.out.trans (hb2.mono (show g ≤ W1.heap.size by omega))); have hz2 : g + 1 ≤ w2.heap.size := (by have := hb2.size; omega); clear hb2 y0)
  have hz3 := HB2.out
  refine (HDOES.out _ w2.heap.size (w2.heap.size + 1) ((Y0.out.alloc _).alloc _) ((Box.new' _ _ _ rfl).alloc _) (Box.new' _ _ _ (by simp)) (by omega) (by omega) ((hz3.alloc (by omega) _).alloc (by simp; omega) _)).mono ?_
  rintro e w5 ⟨rfl, hd5, hj5, hb5⟩
  have HD5 := hid2 hd5
  have HJ5 := hid2 hj5
  have HB5 := hid2 hb5
  clear hd5 hj5 hb5 hz3
  go_wp2_with fail
  go_ret
  exact ⟨rfl, HD5.out, HJ5.out, HB5.out⟩
end Go.Proofs.YtehpapoboeejkaaGreat
/- The records that bytes begin with: as plain functions, and the walks of first and Scan. -/
namespace Go.Proofs.YtehpapoboeejkaaGreat
open Go.RowKit
theorem run_index_at (s : ByteArray) (i : Nat) (x : Int) (hx : x = i) (h : i < s.size) (w : World) : (Instr.index 9 (.string s) (.int .i64 x)).run Tryz.prog w = .ok (.int .u8 (s.data.toList.getD i 0).toNat) w := by
  subst hx
  rw [run_index_string w 9 s .i64 i Tryz.underlying9, dif_pos ⟨by omega, by omega⟩]
  have e : s[(i : Int).toNat]'(by omega) = s.data.toList.getD i 0 := by
    rw [List.getD_eq_getElem?_getD, List.getElem?_eq_getElem (by rw [toList_length]; exact h)]
    simp [ByteArray.getElem_eq_getElem_data]
  rw [e]
/-- four bytes as a number -/
def four (b : List UInt8) : Nat := (b.getD 0 0).toNat * 16777216 + (b.getD 1 0).toNat * 65536 + (b.getD 2 0).toNat * 256 + (b.getD 3 0).toNat
/-- the record that bytes begin with -/
def firstL (b : List UInt8) : Option (List UInt8) :=
  if 12 ≤ b.length ∧ four b ≤ 1048576 ∧ four b + 12 ≤ b.length ∧ headL ((b.drop 12).take (four b)) = b.take 12 then some ((b.drop 12).take (four b)) else none
theorem firstL_some {b r : List UInt8} (h : firstL b = some r) : b = frameL r ++ b.drop (12 + r.length) ∧ r.length + 12 ≤ b.length := by
  unfold firstL at h
  split at h
  · rename_i hc
    obtain ⟨h1, h2, h3, h4⟩ := hc
    have hr := Option.some.inj h
    have hrl : r.length = four b := by rw [← hr, List.length_take, List.length_drop]; omega
    rw [hr] at h4
    refine ⟨?_, by omega⟩
    have e1 : b = b.take 12 ++ b.drop 12 := (List.take_append_drop 12 b).symm
    have e2 : b.drop 12 = r ++ (b.drop 12).drop (four b) := by
      conv => lhs; rw [← List.take_append_drop (four b) (b.drop 12), hr]
    rw [List.drop_drop] at e2
    rw [frameL, h4, hrl, List.append_assoc, ← e2]
    exact e1
  · cases h
theorem ofInt64_nat (a : Nat) (h : a < 4611686018427387904) : (BitVec.ofInt 64 (a : Int)).toNat = a := by
  rw [BitVec.toNat_ofInt]; omega
theorem i64_or_nat (a b : Nat) (ha : a < 4611686018427387904) (hb : b < 4611686018427387904) : bits .or .i64 (a : Int) (b : Int) = ((a ||| b : Nat) : Int) := by
  have hx : a ||| b < 2 ^ 62 := Nat.or_lt_two_pow (by omega) (by omega)
  show IntKind.i64.wrap ((BitVec.ofInt 64 (a : Int) ||| BitVec.ofInt 64 (b : Int)).toNat : Int) = _
  rw [BitVec.toNat_or, ofInt64_nat a ha, ofInt64_nat b hb]
  exact IntWalk.i64_in _ (by constructor <;> omega)
theorem or_low (a b k : Nat) (hb : b < 2 ^ k) (ha : a * 2 ^ k < 4611686018427387904) (hb2 : b < 4611686018427387904) : bits .or .i64 ((a * 2 ^ k : Nat) : Int) (b : Int) = ((a * 2 ^ k + b : Nat) : Int) := by
  rw [i64_or_nat _ _ ha hb2, Nat.mul_comm a, Nat.two_pow_add_eq_or_of_lt hb a]
/-- what first answers -/
def FPost (w : World) (l : List UInt8) (e : Ending) (w' : World) : Prop :=
  ∃ r ok, e = .returned (.tuple #[.string r, .bool ok]) ∧ ((ok = true ∧ firstL l = some r.data.toList) ∨ (ok = false ∧ firstL l = none)) ∧ Below w.heap.size w w'
set_option maxRecDepth 100000 in
theorem first_any (w : World) (s : ByteArray) (hs : s.size ≤ 1000000) : Calls Tryz.prog 51 #[.string s] w (FPost w s.data.toList) := by
  have hs0 : (s.size : Int) ≤ 1000000 := by omega
  go_enter Tryz.func51, Tryz.ntmps51
  by_cases h12 : s.size < 12
  · have h12' : (s.size : Int) < 12 := by omega
    go_wp2_with fail
    go_ret2
    refine ⟨_, false, rfl, .inr ⟨rfl, ?_⟩, Below.refl _ _⟩
    unfold firstL
    rw [if_neg (by rw [toList_length]; omega)]
  · have h12' : (12 : Int) ≤ s.size := by omega
    have i0 := fun wx => run_index_at s 0 0 rfl (by omega) wx
    have i1 := fun wx => run_index_at s 1 1 rfl (by omega) wx
    have i2 := fun wx => run_index_at s 2 2 rfl (by omega) wx
    have i3 := fun wx => run_index_at s 3 3 rfl (by omega) wx
    obtain ⟨f, hf⟩ : ∃ f, f = four s.data.toList := ⟨_, rfl⟩
    unfold four at hf
    obtain ⟨c0, hc0⟩ : ∃ c, c = s.data.toList.getD 0 0 := ⟨_, rfl⟩
    obtain ⟨c1, hc1⟩ : ∃ c, c = s.data.toList.getD 1 0 := ⟨_, rfl⟩
    obtain ⟨c2, hc2⟩ : ∃ c, c = s.data.toList.getD 2 0 := ⟨_, rfl⟩
    obtain ⟨c3, hc3⟩ : ∃ c, c = s.data.toList.getD 3 0 := ⟨_, rfl⟩
    rw [← hc0] at i0 hf
    rw [← hc1] at i1 hf
    rw [← hc2] at i2 hf
    rw [← hc3] at i3 hf
    have hf4 : f = four s.data.toList := by rw [hf, four, ← hc0, ← hc1, ← hc2, ← hc3]
    obtain ⟨x0, hx0⟩ : ∃ x, x = c0.toNat := ⟨_, rfl⟩
    obtain ⟨x1, hx1⟩ : ∃ x, x = c1.toNat := ⟨_, rfl⟩
    obtain ⟨x2, hx2⟩ : ∃ x, x = c2.toNat := ⟨_, rfl⟩
    obtain ⟨x3, hx3⟩ : ∃ x, x = c3.toNat := ⟨_, rfl⟩
    have l0 := c0.toNat_lt
    have l1 := c1.toNat_lt
    have l2 := c2.toNat_lt
    have l3 := c3.toNat_lt
    rw [← hx0] at i0 hf l0
    rw [← hx1] at i1 hf l1
    rw [← hx2] at i2 hf l2
    rw [← hx3] at i3 hf l3
    obtain ⟨n1, hn1⟩ : ∃ n, n = x0 * 16777216 + x1 * 65536 := ⟨_, rfl⟩
    obtain ⟨n2, hn2⟩ : ∃ n, n = n1 + x2 * 256 := ⟨_, rfl⟩
    have e1 : bits .or .i64 ((x0 : Int) * 16777216) ((x1 : Int) * 65536) = (n1 : Int) := by
      have := or_low x0 (x1 * 65536) 24 (by omega) (by omega) (by omega)
      rw [show (((x0 * 2 ^ 24 : Nat)) : Int) = (x0 : Int) * 16777216 by omega, show ((x1 * 65536 : Nat) : Int) = (x1 : Int) * 65536 by omega] at this
      rw [this, hn1]
    have e2 : bits .or .i64 (n1 : Int) ((x2 : Int) * 256) = (n2 : Int) := by
      have := or_low (x0 * 256 + x1) (x2 * 256) 16 (by omega) (by omega) (by omega)
      rw [show ((((x0 * 256 + x1) * 2 ^ 16 : Nat)) : Int) = (n1 : Int) by omega, show ((x2 * 256 : Nat) : Int) = (x2 : Int) * 256 by omega] at this
      rw [this, hn2]
      omega
    have e3 : bits .or .i64 (n2 : Int) (x3 : Int) = (f : Int) := by
      have := or_low (x0 * 65536 + x1 * 256 + x2) x3 8 (by omega) (by omega) (by omega)
      rw [show ((((x0 * 65536 + x1 * 256 + x2) * 2 ^ 8 : Nat)) : Int) = (n2 : Int) by omega] at this
      rw [this]
      omega
    have w0 : IntKind.i64.wrap ((x0 : Int) * 16777216) = (x0 : Int) * 16777216 := IntWalk.i64_in _ (by constructor <;> omega)
    have w1 : IntKind.i64.wrap ((x1 : Int) * 65536) = (x1 : Int) * 65536 := IntWalk.i64_in _ (by constructor <;> omega)
    have w2 : IntKind.i64.wrap ((x2 : Int) * 256) = (x2 : Int) * 256 := IntWalk.i64_in _ (by constructor <;> omega)
    have hfl : f < 4294967296 := by omega
    clear hf hn1 hn2 hx0 hx1 hx2 hx3 hc0 hc1 hc2 hc3
    have HF := hid2 hf4
    clear hf4
    go_wp2_with fail
    go_quiet (fail)
    obtain ⟨wq, hwq⟩ : ∃ wq, wq = w.drewN nq := ⟨_, rfl⟩
    have hBq : Below w.heap.size w wq := by rw [hwq]; exact below_drewN (Below.refl _ _) _
    rw [← hwq]
    clear hwq i0 i1 i2 i3 e1 e2 e3 w0 w1 w2 l0 l1 l2 l3
    by_cases hbad : 1048576 < f ∨ s.size < f + 12
    · have hno : firstL s.data.toList = none := by
        unfold firstL
        rw [if_neg (by rw [toList_length, ← HF.out]; omega)]
      by_cases hb1 : 1048576 < f
      · have hb1' : (1048576 : Int) < f := by omega
        go_wp2_with fail
        go_ret2
        exact ⟨_, false, rfl, .inr ⟨rfl, hno⟩, hBq⟩
      · have hb1' : (f : Int) ≤ 1048576 := by omega
        have hb2 : (s.size : Int) - 12 < f := by omega
        go_wp2_with fail
        go_ret2
        exact ⟨_, false, rfl, .inr ⟨rfl, hno⟩, hBq⟩
    · have hb1 : (f : Int) ≤ 1048576 := by omega
      have hb2 : (f : Int) ≤ (s.size : Int) - 12 := by omega
      have hb3 : (12 : Int) ≤ 12 + f := by omega
      have hb4 : (12 : Int) + f ≤ s.size := by omega
      have ht : ((12 : Int) + f).toNat = 12 + f := by omega
      obtain ⟨r, hr⟩ : ∃ r, r = s.extract 12 (12 + f) := ⟨_, rfl⟩
      have hrl : r.data.toList = (s.data.toList.drop 12).take (four s.data.toList) := by
        rw [hr, ByteArray.data_extract, Array.toList_extract, ← HF.out]
        simp
      have hrs : r.size ≤ 1048576 := by rw [← toList_length, hrl, List.length_take, ← HF.out]; omega
      obtain ⟨q, hq⟩ : ∃ q, q = s.extract 0 12 := ⟨_, rfl⟩
      have hql : q.data.toList = s.data.toList.take 12 := by
        rw [hq, ByteArray.data_extract, Array.toList_extract]
        simp
      obtain ⟨N, hN⟩ : ∃ N, N = strB (headL r.data.toList) := ⟨_, rfl⟩
      have HRL := hid2 hrl
      have HQL := hid2 hql
      have HR := hid2 hr
      have HQ := hid2 hq
      have HN := hid2 hN
      clear hrl hql hN hr hq hbad
      go_wp2_with fail
      rw [← HR.out]
      by_cases hNq : N.data.toList = q.data.toList
      · have hbe : (N.toList == q.toList) = true := by rw [bytes_ext hNq]; exact beq_self_eq_true _
        refine wp_region_grd 8 (by kernel_rfl) (by kernel_rfl) (by kernel_rfl) _ rfl (by kernel_rfl) (fun j v _ => ([.string r, .string r, .string N, .string s, .string q, .bool true, .string r, .bool true] : List Value)[j]? = some v) (fun w4 => Below w.heap.size w w4) (fun a b => Below a.heap.size a b) (below_drewN hBq 1) (fun _ _ _ _ hb hv => hv) ?_ ?_
        · refine of_allOps ⟨?_, ?_, ?_, ?_, ?_, ?_, ?_, ?_, trivial⟩
          · intro T2 w2 hM hN hO hE K hK
            have o5 : T2[5]? = some (.string r) := hO 5 rfl
            clear hE hO hN
            refine step_plain0 rfl ?_
            go_simp
            exact hK _ _ rfl hM (Below.refl _ _)
          · intro T2 w2 hM hN hO hE K hK
            have o5 : T2[5]? = some (.string r) := hO 5 rfl
            clear hE hO hN
            refine step_plain0 rfl ?_
            go_simp
            exact hK _ _ rfl hM (Below.refl _ _)
          · intro T2 w2 hM hN hO hE K hK
            obtain ⟨v1, h1, e1⟩ := hE ⟨1, .data⟩ (by simp) rfl _ _ rfl rfl
            rw [show v1 = .string r from (Option.some.inj e1).symm] at h1
            clear hE hO hN
            refine step_plain0 rfl ?_
            go_simp
            refine (heading_any _ r hrs).mono ?_
            rintro e w3 ⟨rfl, hb⟩
            rw [← HN.out]
            exact hK _ _ rfl (hM.trans (hb.mono hM.size)) hb
          · intro T2 w2 hM hN hO hE K hK
            have o0 : T2[0]? = some (.string s) := hO 0 rfl
            clear hE hO hN
            refine step_plain0 rfl ?_
            go_simp
            exact hK _ _ rfl hM (Below.refl _ _)
          · intro T2 w2 hM hN hO hE K hK
            obtain ⟨v3, h3, e3⟩ := hE ⟨3, .data⟩ (by simp) rfl _ _ rfl rfl
            rw [show v3 = .string s from (Option.some.inj e3).symm] at h3
            clear hE hO hN
            refine step_plain0 rfl ?_
            go_simp
            rw [← HQ.out]
            exact hK _ _ rfl hM (Below.refl _ _)
          · intro T2 w2 hM hN hO hE K hK
            obtain ⟨v2, h2, e2⟩ := hE ⟨2, .data⟩ (by simp) rfl _ _ rfl rfl
            rw [show v2 = .string N from (Option.some.inj e2).symm] at h2
            obtain ⟨v4, h4, e4⟩ := hE ⟨4, .data⟩ (by simp) rfl _ _ rfl rfl
            rw [show v4 = .string q from (Option.some.inj e4).symm] at h4
            clear hE hO hN
            refine step_plain0 rfl ?_
            go_simp
            exact hK _ _ rfl hM (Below.refl _ _)
          · intro T2 w2 hM hN hO hE K hK
            obtain ⟨v0, h0, e0⟩ := hE ⟨0, .data⟩ (by simp) rfl _ _ rfl rfl
            rw [show v0 = .string r from (Option.some.inj e0).symm] at h0
            clear hE hO hN
            refine step_plain0 rfl ?_
            go_simp
            exact hK _ _ rfl hM (Below.refl _ _)
          · intro T2 w2 hM hN hO hE K hK
            obtain ⟨v5, h5, e5⟩ := hE ⟨5, .data⟩ (by simp) rfl _ _ rfl rfl
            rw [show v5 = .bool true from (Option.some.inj e5).symm] at h5
            clear hE hO hN
            refine step_plain0 rfl ?_
            go_simp
            exact hK _ _ rfl hM (Below.refl _ _)
        · intro u w2 hM hF
          have e0 : u 0 = .string r := (Option.some.inj (hF 0 (by omega))).symm
          have e5 : u 5 = .bool true := (Option.some.inj (hF 5 (by omega))).symm
          have e6 : u 6 = .string r := (Option.some.inj (hF 6 (by omega))).symm
          have e7 : u 7 = .bool true := (Option.some.inj (hF 7 (by omega))).symm
          clear hF
          simp only [fillAll, Nat.reduceAdd, e0, e5, e6, e7, List.take_succ_cons, List.take_zero, List.drop_succ_cons, List.drop_zero, List.setIfInBounds_toArray, List.set_cons_succ, List.set_cons_zero]
          go_wp2_with fail
          go_ret2
          refine ⟨r, true, rfl, .inl ⟨rfl, ?_⟩, hM⟩
          unfold firstL
          rw [if_pos, HRL.out]
          refine ⟨by rw [toList_length]; omega, by rw [← HF.out]; omega, by rw [← HF.out, toList_length]; omega, ?_⟩
          rw [← HRL.out, ← HQL.out, ← hNq, HN.out, strB_list]
      · have hbe : (N.toList == q.toList) = false := by
          rw [beq_eq_false_iff_ne]
          intro h
          exact hNq (by rw [← ByteArray.toList_eq, ← ByteArray.toList_eq, h])
        refine wp_region_grd 8 (by kernel_rfl) (by kernel_rfl) (by kernel_rfl) _ rfl (by kernel_rfl) (fun j v _ => ([.string r, .string r, .string N, .string s, .string q, .bool false, .string r, .bool false] : List Value)[j]? = some v) (fun w4 => Below w.heap.size w w4) (fun a b => Below a.heap.size a b) (below_drewN hBq 1) (fun _ _ _ _ hb hv => hv) ?_ ?_
        · refine of_allOps ⟨?_, ?_, ?_, ?_, ?_, ?_, ?_, ?_, trivial⟩
          · intro T2 w2 hM hN hO hE K hK
            have o5 : T2[5]? = some (.string r) := hO 5 rfl
            clear hE hO hN
            refine step_plain0 rfl ?_
            go_simp
            exact hK _ _ rfl hM (Below.refl _ _)
          · intro T2 w2 hM hN hO hE K hK
            have o5 : T2[5]? = some (.string r) := hO 5 rfl
            clear hE hO hN
            refine step_plain0 rfl ?_
            go_simp
            exact hK _ _ rfl hM (Below.refl _ _)
          · intro T2 w2 hM hN hO hE K hK
            obtain ⟨v1, h1, e1⟩ := hE ⟨1, .data⟩ (by simp) rfl _ _ rfl rfl
            rw [show v1 = .string r from (Option.some.inj e1).symm] at h1
            clear hE hO hN
            refine step_plain0 rfl ?_
            go_simp
            refine (heading_any _ r hrs).mono ?_
            rintro e w3 ⟨rfl, hb⟩
            rw [← HN.out]
            exact hK _ _ rfl (hM.trans (hb.mono hM.size)) hb
          · intro T2 w2 hM hN hO hE K hK
            have o0 : T2[0]? = some (.string s) := hO 0 rfl
            clear hE hO hN
            refine step_plain0 rfl ?_
            go_simp
            exact hK _ _ rfl hM (Below.refl _ _)
          · intro T2 w2 hM hN hO hE K hK
            obtain ⟨v3, h3, e3⟩ := hE ⟨3, .data⟩ (by simp) rfl _ _ rfl rfl
            rw [show v3 = .string s from (Option.some.inj e3).symm] at h3
            clear hE hO hN
            refine step_plain0 rfl ?_
            go_simp
            rw [← HQ.out]
            exact hK _ _ rfl hM (Below.refl _ _)
          · intro T2 w2 hM hN hO hE K hK
            obtain ⟨v2, h2, e2⟩ := hE ⟨2, .data⟩ (by simp) rfl _ _ rfl rfl
            rw [show v2 = .string N from (Option.some.inj e2).symm] at h2
            obtain ⟨v4, h4, e4⟩ := hE ⟨4, .data⟩ (by simp) rfl _ _ rfl rfl
            rw [show v4 = .string q from (Option.some.inj e4).symm] at h4
            clear hE hO hN
            refine step_plain0 rfl ?_
            go_simp
            exact hK _ _ rfl hM (Below.refl _ _)
          · intro T2 w2 hM hN hO hE K hK
            obtain ⟨v0, h0, e0⟩ := hE ⟨0, .data⟩ (by simp) rfl _ _ rfl rfl
            rw [show v0 = .string r from (Option.some.inj e0).symm] at h0
            clear hE hO hN
            refine step_plain0 rfl ?_
            go_simp
            exact hK _ _ rfl hM (Below.refl _ _)
          · intro T2 w2 hM hN hO hE K hK
            obtain ⟨v5, h5, e5⟩ := hE ⟨5, .data⟩ (by simp) rfl _ _ rfl rfl
            rw [show v5 = .bool false from (Option.some.inj e5).symm] at h5
            clear hE hO hN
            refine step_plain0 rfl ?_
            go_simp
            exact hK _ _ rfl hM (Below.refl _ _)
        · intro u w2 hM hF
          have e0 : u 0 = .string r := (Option.some.inj (hF 0 (by omega))).symm
          have e5 : u 5 = .bool false := (Option.some.inj (hF 5 (by omega))).symm
          have e6 : u 6 = .string r := (Option.some.inj (hF 6 (by omega))).symm
          have e7 : u 7 = .bool false := (Option.some.inj (hF 7 (by omega))).symm
          clear hF
          simp only [fillAll, Nat.reduceAdd, e0, e5, e6, e7, List.take_succ_cons, List.take_zero, List.drop_succ_cons, List.drop_zero, List.setIfInBounds_toArray, List.set_cons_succ, List.set_cons_zero]
          go_wp2_with fail
          go_ret2
          refine ⟨r, false, rfl, .inr ⟨rfl, ?_⟩, hM⟩
          unfold firstL
          rw [if_neg]
          rintro ⟨_, _, _, h4⟩
          rw [← HRL.out, ← HQL.out] at h4
          exact hNq (by rw [← h4, HN.out, strB_list])
end Go.Proofs.YtehpapoboeejkaaGreat
/- All records that bytes begin with: as plain functions, and the walks of both Scans. -/
namespace Go.Proofs.YtehpapoboeejkaaGreat
open Go.RowKit
/-- up to k records -/
def scanK (b : List UInt8) : Nat → List (List UInt8) × Nat
  | 0 => ([], 0)
  | k + 1 => match firstL (b.drop (scanK b k).2) with
    | some r => ((scanK b k).1 ++ [r], (scanK b k).2 + (12 + r.length))
    | none => scanK b k
theorem scanK_some {b : List UInt8} {k : Nat} {r : List UInt8} (h : firstL (b.drop (scanK b k).2) = some r) : scanK b (k + 1) = ((scanK b k).1 ++ [r], (scanK b k).2 + (12 + r.length)) := by
  show (match firstL (b.drop (scanK b k).2) with | some r => ((scanK b k).1 ++ [r], (scanK b k).2 + (12 + r.length)) | none => scanK b k) = _
  rw [h]
theorem scanK_none {b : List UInt8} {k : Nat} (h : firstL (b.drop (scanK b k).2) = none) : ∀ m, scanK b (k + m) = scanK b k
  | 0 => rfl
  | m + 1 => by
    have e := scanK_none h m
    show (match firstL (b.drop (scanK b (k + m)).2) with | some r => ((scanK b (k + m)).1 ++ [r], (scanK b (k + m)).2 + (12 + r.length)) | none => scanK b (k + m)) = _
    rw [e, h]
/-- the records, and how many bytes their frames have -/
def scanL (b : List UInt8) : List (List UInt8) × Nat := scanK b b.length
theorem scanL_of {b : List UInt8} {k : Nat} (h : firstL (b.drop (scanK b k).2) = none) (hk : k ≤ b.length) : scanL b = scanK b k := by
  have := scanK_none h (b.length - k)
  rw [show k + (b.length - k) = b.length by omega] at this
  exact this
/-- what Scan answers -/
def SPost (w : World) (b : List UInt8) (e : Ending) (w' : World) : Prop :=
  ∃ A c, e = .returned (.tuple #[.slice A (scanL b).1.length c, .int .i64 ((scanL b).2 : Nat)]) ∧ Own w' w.heap.size 9 1 A (scanL b).1.length c (strV (scanL b).1) ∧ Below w.heap.size w w'
theorem first_size {q r s : ByteArray} {b : List UInt8} {at_ : Nat} {ok : Bool} (hq : q.data.toList = b.drop at_) (hbl : b.length = s.size) (h : (ok = true ∧ firstL q.data.toList = some r.data.toList) ∨ (ok = false ∧ firstL q.data.toList = none)) : ok = true → r.size + 12 ≤ s.size - at_ := by
  intro hk
  rcases h with ⟨_, h⟩ | ⟨h, _⟩
  · have := (firstL_some h).2
    rw [hq, toList_length, List.length_drop, hbl] at this
    exact this
  · rw [h] at hk; cases hk
theorem scan_any (w : World) (s : ByteArray) (hs : s.size ≤ 1000000) : Calls Tryz.prog 28 #[.string s] w (SPost w s.data.toList) := by
  have hs0 : (s.size : Int) ≤ 1000000 := by omega
  obtain ⟨b, hb⟩ : ∃ b, b = s.data.toList := ⟨_, rfl⟩
  have hbl : b.length = s.size := by rw [hb, toList_length]
  rw [← hb]
  have HB := hid2 hb
  clear hb
  go_enter Tryz.func28, Tryz.ntmps28
  go_wp2_with fail
  go_loopg [4, 5] 100000 (fun gk v i wr => ∃ (k at_ : Nat), k + gk = 100000 ∧ i = .int .i64 at_ ∧ 12 * k ≤ at_ ∧ at_ ≤ s.size ∧ (scanK b k).2 = at_ ∧ (scanK b k).1.length = k ∧ Below w.heap.size w wr ∧ ∃ A c, v = .slice A k c ∧ Own wr w.heap.size 9 1 A k c (strV (scanK b k).1))
  case atStart => exact ⟨0, 0, by omega, rfl, by omega, by omega, rfl, rfl, Below.refl _ _, none, 0, rfl, Own.nil _ _ _ _⟩
  case round =>
    obtain ⟨k, at_, hk, rfl, hka, hat, hsn, hln, hbe, A, c, rfl, hown⟩ := hrel
    obtain ⟨L, hL⟩ : ∃ L, L = strV (scanK b k).1 := ⟨_, rfl⟩
    rw [← hL] at hown
    have hat0 : (0 : Int) ≤ at_ := by omega
    have hat1 : (at_ : Int) ≤ s.size := by omega
    obtain ⟨q, hq⟩ : ∃ q, q = s.extract at_ s.size := ⟨_, rfl⟩
    have hql : q.data.toList = b.drop at_ := by
      rw [hq, ByteArray.data_extract, Array.toList_extract, ← HB.out, List.extract_eq_take_drop, ← hbl, List.take_of_length_le (by rw [List.length_drop]; omega)]
    have hqs : q.size ≤ 1000000 := by rw [← toList_length, hql, List.length_drop]; omega
    have HQ := hid2 hq
    have HQL := hid2 hql
    have HL := hid2 hL
    have HSN := hid2 hsn
    have HLN := hid2 hln
    have hs1 := hbe.size
    have hnc := hown.2.1
    clear hq hql hL hsn hln
    go_wp2_with (first
      | (go_at_call 51; rw [← HQ.out]; refine (first_any _ q hqs).mono ?_; rintro e w1 ⟨r, ok, rfl, hok, hb⟩; have hbe1 := hbe.trans (hb.mono hs1); have hown1 := hown.below hb (Nat.le_refl _); clear hown hb; have HOK := hid2 hok; have hrq : ok = true → r.size + 12 ≤ s.size - at_ := (first_size HQL.out hbl hok); clear hok; have HRQ := hid2 hrq; clear hrq; cases ok; rotate_left; (have hrl := HRQ.out rfl; have hw1 : IntKind.i64.wrap (12 + (r.size : Int)) = 12 + (r.size : Int) := IntWalk.i64_in _ (by constructor <;> omega); have hw2 : IntKind.i64.wrap ((at_ : Int) + (12 + (r.size : Int))) = (at_ : Int) + (12 + (r.size : Int)) := IntWalk.i64_in _ (by constructor <;> omega)); rotate_left)
      | (at_builtin; have _t := hown1; go_must ((with_reducible refine wpList_append_lit 9 (.string ⟨#[]⟩) 1 16 Tryz.underlying34 info_str rfl w.heap.size A k c L (hown1.alloc _) 1 [.string r] (.slice (some ⟨w1.heap.size, 0, none⟩) 1 1) (Src.slice Tryz.underlying34 (Rd.one w1 _ _)) one_str ?_ ?_ ?_ ?_ ?_); (unfold maxLen; omega); omega; (simp; have := hbe1.size; omega); exact ⟨rfl, rfl⟩; intro A3 c3 w3 hown3 hgr3 hbl3; clear hown1)))
    · have hno : firstL (b.drop (scanK b k).2) = none := by
        rcases HOK.out with ⟨h, _⟩ | ⟨_, h⟩
        · cases h
        · rw [HSN.out, ← HQL.out]; exact h
      have hall := scanL_of hno (by omega)
      go_ret2
      refine ⟨A, c, ?_, ?_, hbe1⟩
      · rw [hall, HSN.out, HLN.out]; rfl
      · rw [hall, HLN.out, ← HL.out]; exact hown1
    · have hyes : firstL (b.drop at_) = some r.data.toList := by
        rcases HOK.out with ⟨_, h⟩ | ⟨h, _⟩
        · rw [← HQL.out]; exact h
        · cases h
      have hstep := scanK_some (b := b) (k := k) (r := r.data.toList) (by rw [HSN.out]; exact hyes)
      go_roundg (gk - 1)
      case rel =>
        refine ⟨k + 1, at_ + (12 + r.size), by omega, ?_, by omega, by omega, ?_, ?_, ?_, A3, c3, rfl, ?_⟩
        · go_num
        · rw [hstep, HSN.out, toList_length]
        · rw [hstep, List.length_append, HLN.out]; rfl
        · exact (hbe1.alloc hbe1.size _).grown hgr3 (by simp; have := hbe1.size; omega) (fun g e => (_t.block g e).1)
        · rw [hstep, ← strV_snoc, ← HL.out, strB_of]; exact hown3
      case measure => omega
theorem same_any (w : World) (A B : Option Addr) (n c c' : Nat) (xs : List ByteArray) (ha : Rd w 1 A n (xs.map Value.string)) (hb : Rd w 1 B n (xs.map Value.string)) (hmx : n ≤ 8796093022208) :
    Calls Tryz.prog 20 #[.slice A n c, .slice B n c'] w fun e w' => e = .returned (.bool true) ∧ Below w.heap.size w w' := by
  have hn : xs.length = n := by have := ha.1; simpa using this
  have hmx' : (n : Int) ≤ 8796093022208 := by omega
  go_enter Tryz.func20, Tryz.ntmps20
  go_wp2_with fail
  go_loopw [13] (fun i wr => ∃ k m : Nat, k ≤ n ∧ i = .int .i64 k ∧ wr = w.drewN m) (fun i _ => n - (intOf i).toNat)
  case atStart => exact ⟨0, 0, by omega, rfl, rfl⟩
  case round =>
    obtain ⟨k, m, hk, rfl, rfl⟩ := hrel
    by_cases hlt : k < n
    · obtain ⟨b1, o1, rfl, hc1⟩ := ha.cell (j := k) (by simpa [hn] using hlt)
      obtain ⟨b2, o2, rfl, hc2⟩ := hb.cell (j := k) (by simpa [hn] using hlt)
      rw [List.getElem_map] at hc1 hc2
      obtain ⟨s, hs⟩ : ∃ s, s = xs[k]'(by omega) := ⟨_, rfl⟩
      rw [← hs] at hc1 hc2
      have hlt' : (k : Int) < n := by omega
      clear hs
      go_wp2_with fail
      go_quiet (fail)
      go_wp2_with fail
      go_roundw
      case rel => exact ⟨k + 1, _, by omega, by go_num, rfl⟩
      case measure => simp [intOf]; omega
    · have hlt' : ¬ (k : Int) < n := by omega
      go_wp2_with fail
      go_ret
      exact ⟨rfl, below_drewN (Below.refl _ _) _⟩
end Go.Proofs.YtehpapoboeejkaaGreat
/- Frames of records, and the front of one more behind them: what is told of them. -/
namespace Go.Proofs.YtehpapoboeejkaaGreat
open Go.RowKit
theorem four_num4 (n : Nat) (h : n ≤ 1048576) (t : List UInt8) : four (num4 n ++ t) = n := by
  simp only [four, num4, List.cons_append, List.nil_append, List.getD_cons_zero, List.getD_cons_succ, UInt8.toNat_ofNat']
  omega
theorem frameL_cat (r t : List UInt8) : frameL r ++ t = num4 r.length ++ ((Sha.sum (num4 r.length ++ r)).take 8 ++ (r ++ t)) := by
  simp [frameL, headL]
theorem firstL_frame (r t : List UInt8) (h : r.length ≤ 1048576) : firstL (frameL r ++ t) = some r := by
  have hf : four (frameL r ++ t) = r.length := by rw [frameL_cat]; exact four_num4 _ h _
  have hd : (frameL r ++ t).drop 12 = r ++ t := by
    rw [frameL, List.append_assoc, List.drop_append_of_le_length (by rw [headL_length]; omega), List.drop_of_length_le (by rw [headL_length]; omega), List.nil_append]
  have ht : (frameL r ++ t).take 12 = headL r := by
    rw [frameL, List.append_assoc, List.take_append_of_le_length (by rw [headL_length]; omega), List.take_of_length_le (by rw [headL_length]; omega)]
  have hr : (r ++ t).take r.length = r := by simp
  unfold firstL
  rw [hf, hd, ht, hr, if_pos]
  refine ⟨?_, h, ?_, rfl⟩ <;> rw [List.length_append, frameL_length] <;> omega
theorem firstL_front (r : List UInt8) (h : r.length ≤ 1048576) (j : Nat) (hj : j < r.length + 12) : firstL ((frameL r).take j) = none := by
  have hl : ((frameL r).take j).length = j := by rw [List.length_take, frameL_length]; omega
  unfold firstL
  rw [if_neg]
  rintro ⟨h1, _, h3, _⟩
  rw [hl] at h1 h3
  have hf : four ((frameL r).take j) = r.length := by
    have e : (frameL r).take j = num4 r.length ++ ((Sha.sum (num4 r.length ++ r)).take 8 ++ r).take (j - 4) := by
      have := frameL_cat r []
      rw [List.append_nil, List.append_nil] at this
      rw [this, List.take_append, num4_length, List.take_of_length_le (by rw [num4_length]; omega)]
    rw [e]
    exact four_num4 _ h _
  omega
/-- frames, one behind the other -/
def framesL : List (List UInt8) → List UInt8
  | [] => []
  | r :: rs => frameL r ++ framesL rs
theorem framesL_append (a b : List (List UInt8)) : framesL (a ++ b) = framesL a ++ framesL b := by
  induction a with
  | nil => rfl
  | cons x a ih => simp [framesL, ih]
theorem framesL_take (rs : List (List UInt8)) (k : Nat) (h : k < rs.length) : framesL (rs.take (k + 1)) = framesL (rs.take k) ++ frameL rs[k] := by
  rw [List.take_succ_eq_append_getElem h, framesL_append]; simp [framesL]
theorem framesL_split (rs : List (List UInt8)) (k : Nat) (h : k < rs.length) : framesL rs = framesL (rs.take k) ++ (frameL rs[k] ++ framesL (rs.drop (k + 1))) := by
  conv => lhs; rw [← List.take_append_drop (k + 1) rs, framesL_append, framesL_take rs k h]
  rw [List.append_assoc]
theorem scanK_frames (rs : List (List UInt8)) (p : List UInt8) (hrs : ∀ r ∈ rs, r.length ≤ 1048576) : ∀ k, k ≤ rs.length → scanK (framesL rs ++ p) k = (rs.take k, (framesL (rs.take k)).length)
  | 0, _ => rfl
  | k + 1, hk => by
    have ih := scanK_frames rs p hrs k (by omega)
    have hf : firstL ((framesL rs ++ p).drop (scanK (framesL rs ++ p) k).2) = some rs[k] := by
      rw [ih]
      show firstL ((framesL rs ++ p).drop (framesL (rs.take k)).length) = _
      rw [framesL_split rs k (by omega), List.append_assoc, List.drop_left, List.append_assoc]
      exact firstL_frame _ _ (hrs _ (List.getElem_mem _))
    rw [scanK_some hf, ih, framesL_take rs k (by omega), List.length_append, frameL_length, List.take_succ_eq_append_getElem (show k < rs.length by omega), Nat.add_comm 12]
theorem scanL_frames (rs : List (List UInt8)) (r : List UInt8) (j : Nat) (hrs : ∀ r ∈ rs, r.length ≤ 1048576) (hr : r.length ≤ 1048576) (hj : j < r.length + 12) : scanL (framesL rs ++ (frameL r).take j) = (rs, (framesL rs).length) := by
  have h := scanK_frames rs ((frameL r).take j) hrs rs.length (Nat.le_refl _)
  rw [List.take_of_length_le (Nat.le_refl _)] at h
  have hn : firstL ((framesL rs ++ (frameL r).take j).drop (scanK (framesL rs ++ (frameL r).take j) rs.length).2) = none := by
    rw [h]
    show firstL ((framesL rs ++ (frameL r).take j).drop (framesL rs).length) = none
    rw [List.drop_left]
    exact firstL_front r hr j hj
  have hle : rs.length ≤ (framesL rs ++ (frameL r).take j).length := by
    have : ∀ l : List (List UInt8), l.length ≤ (framesL l).length := by
      intro l
      induction l with
      | nil => simp
      | cons x l ih => simp only [framesL, List.length_append, List.length_cons, frameL_length]; omega
    have := this rs
    rw [List.length_append]; omega
  rw [scanL_of hn hle, h]
end Go.Proofs.YtehpapoboeejkaaGreat
/- A journal's Open: the walk. -/
namespace Go.Proofs.YtehpapoboeejkaaGreat
open Go.RowKit Go.Maps
theorem does_tidy (W : World) (j p b n : Nat) (nm : ByteArray) (br : Bool) (M : Tab FileE) (left : Int) (hj : JIs W j p nm br) (h : DiskIs W p b n M left) (hn : n ≤ 900000) (hle : -1 ≤ left ∧ left ≤ 9223372036854775807) (hz : nm.size ≤ 1000000) (gr : Nat) (hx : Box W gr [.func (.func 25) #[.pointer (some ⟨j, 0, none⟩)] #[]]) :
    Calls Tryz.prog 24 #[.pointer (some ⟨j, 0, none⟩), .slice (some ⟨gr, 0, none⟩) 1 1] W (WPost W j p b n nm br (tidE M left (newL nm.data.toList), tidM M left (newL nm.data.toList), tidL M left (newL nm.data.toList))) := by
  have hlt := h.lt
  have hne := hj.ne h
  have hd' := does_any W j (some ⟨gr, 0, none⟩) 1 [⟨25, #[.pointer (some ⟨j, 0, none⟩)], #[]⟩] (by simp) (fun i V => if i = 0 then V = W else tidE M left (newL nm.data.toList) = 0 ∧ Stage W p b n (tidM M left (newL nm.data.toList)) (tidL M left (newL nm.data.toList)) V) (fun E V => tidE M left (newL nm.data.toList) = E ∧ E ≠ 0 ∧ Stage W p b n (tidM M left (newL nm.data.toList)) (tidL M left (newL nm.data.toList)) V) rfl ?_ ?_ ?_ ?_
  · refine hd'.mono fun e w' hh => does_end hj (Below.refl _ _) hj.lt hlt.1 hlt.2 hne (fun V hI => ?_) (fun E V hX => ⟨hX.1, hX.2.2⟩) hh
    rw [if_neg (by simp)] at hI
    exact hI
  · intro i V hI
    have hv : Box V gr [.func (.func 25) #[.pointer (some ⟨j, 0, none⟩)] #[]] := by
      by_cases h0 : i = 0
      · rw [if_pos h0] at hI; rw [hI]; exact hx
      · rw [if_neg h0] at hI
        refine hx.butJ hI.2.but (fun e => ?_) (fun e => ?_)
        · subst e
          obtain ⟨t, ht⟩ := hx
          have := h.1
          rw [ht] at this
          injection this with this
          injection this with h1
          simp at h1
        · subst e
          obtain ⟨t, ht⟩ := hx
          obtain ⟨es, clock, hh, _⟩ := h.2
          rw [ht] at hh
          cases hh
    refine ⟨rfl, fun _ => ⟨_, _, rfl, fun q u hu => ?_⟩⟩
    rw [Nat.zero_add, hv.cells q]
    exact hu
  · intro x hx
    simp only [List.mem_cons, List.not_mem_nil, or_false] at hx
    subst hx
    exact enters_of Tryz.func25 (by kernel_rfl) rfl
  · intro i x hx V hI
    match i, hx, hI with
    | 0, hx, hI =>
      obtain rfl := Option.some.inj hx
      rw [if_pos rfl] at hI
      subst hI
      refine (tidy_any V j p b n nm br M left hj h (by omega) hle hz).mono fun e w' ⟨he, hd2, hb2⟩ => ⟨_, he, ?_⟩
      by_cases h0 : tidE M left (newL nm.data.toList) = 0
      · refine .inl ⟨h0, ?_⟩
        rw [if_neg (by decide)]
        exact ⟨h0, hd2, hb2⟩
      · exact .inr ⟨h0, rfl, h0, hd2, hb2⟩
    | i + 1, hx, _ => simp at hx
  · intro E V hX
    have hb := hX.2.2.but
    exact ⟨_, _, _, (hj.keep (hb.block j hj.lt hne.1 hne.2)).box⟩
/-- what Open answers, and leaves -/
def openR (M : Tab FileE) (left : Int) (nm : List UInt8) : Int × List (List UInt8) × Tab FileE × Int :=
  let T := tidM M left (newL nm)
  let L := tidL M left (newL nm)
  if tidE M left (newL nm) ≠ 0 then (tidE M left (newL nm), [], T, L)
  else match getM T nm with
    | none => (0, [], T, L)
    | some f => if (scanL f.1).2 < f.1.length then
        (let r := anewR T L (newL nm) (f.1.take (scanL f.1).2) nm
         if r.1 ≠ 0 then (r.1, [], r.2.1, r.2.2) else (0, (scanL f.1).1, r.2.1, r.2.2))
      else (0, (scanL f.1).1, T, L)
def OpenPost (w : World) (p b n : Nat) (nm : ByteArray) (r : Int × List (List UInt8) × Tab FileE × Int) (e : Ending) (w' : World) : Prop :=
  ∃ (jv : Value) (A : Option Addr) (c : Nat), e = .returned (.tuple #[jv, .slice A r.2.1.length c, .int .i64 r.1]) ∧ Own w' w.heap.size 9 1 A r.2.1.length c (strV r.2.1) ∧ DiskIs w' p b n r.2.2.1 r.2.2.2 ∧ But p b w w' ∧
    (r.1 = 0 → ∃ j, jv = .pointer (some ⟨j, 0, none⟩) ∧ JIs w' j p nm false ∧ w.heap.size ≤ j) ∧ (r.1 ≠ 0 → jv = .pointer none)
theorem results_tmp3 {fn : Func} {t u v : Tmp} (h : fn.results = #[.tmp t, .tmp u, .tmp v]) (tmps : Array Value) (P : Program) (w : World) :
    (results fn tmps).run P w = .ok (.tuple #[tmps.getD t undef, tmps.getD u undef, tmps.getD v undef]) w := by
  simp [results, h]
theorem Own.jbut {w w' : World} {base sz n c j p b : Nat} {t : TypeId} {A : Option Addr} {xs : List Value} (h : Own w base t sz A n c xs) (hb : JBut j p b w w') (h1 : j < base) (h2 : p < base) (h3 : b < base) : Own w' base t sz A n c xs :=
  h.keep fun q _ hq hlt => hb.block q hlt (by omega) (by omega) (by omega)
theorem scanL_le (b : List UInt8) : (scanL b).2 ≤ b.length := by
  have h : ∀ k, (scanK b k).2 ≤ b.length := by
    intro k
    induction k with
    | zero => exact Nat.zero_le _
    | succ k ih =>
      cases h : firstL (b.drop (scanK b k).2) with
      | none => rw [scanK_none h 1]; exact ih
      | some r =>
        rw [scanK_some h]
        have := (firstL_some h).2
        rw [List.length_drop] at this
        show (scanK b k).2 + (12 + r.length) ≤ _
        omega
  exact h _
theorem JBut.but {j p b : Nat} {w W w' : World} (h : Below w.heap.size w W) (k : JBut j p b W w') (hj : w.heap.size ≤ j) : But p b w w' :=
  ⟨k.os.trans h.os, k.tape.trans h.tape, k.output.trans h.output, Nat.le_trans h.size k.size, fun i h1 h2 h3 => (k.block i (Nat.lt_of_lt_of_le h1 h.size) (by omega) h2 h3).trans (h.block i h1)⟩
set_option maxRecDepth 100000 in
set_option maxHeartbeats 2000000 in
theorem open_any (w : World) (p b n : Nat) (M : Tab FileE) (left : Int) (h : DiskIs w p b n M left) (hn : n ≤ 800000) (hle : -1 ≤ left ∧ left ≤ 9223372036854775807) (nm : ByteArray) (h0 : nm.toList.isEmpty = false) (hz : nm.size ≤ 1000000)
    (hf : ∀ x ∈ M, x.2.1.length ≤ 1000000) :
    Calls Tryz.prog 8 #[.pointer (some ⟨p, 0, none⟩), .string nm] w (OpenPost w p b (n + 3) nm (openR M left nm.data.toList)) := by
  have hlt := h.lt
  obtain ⟨g, hg⟩ : ∃ g, g = w.heap.size := ⟨_, rfl⟩
  obtain ⟨W1, hW1⟩ : ∃ W1, W1 = (w.alloc (.cells #[.pointer (some ⟨p, 0, none⟩), .string nm, .bool false] 64)).alloc (.cells #[.func (.func 25) #[.pointer (some ⟨g, 0, none⟩)] #[]] 66) := ⟨_, rfl⟩
  have hj1 : JIs W1 g p nm false := by
    rw [hW1, hg]
    exact (Below.heap_alloc _ _ _ (by simp)).trans (heap_alloc_new w _)
  have hx1 : Box W1 (g + 1) [.func (.func 25) #[.pointer (some ⟨g, 0, none⟩)] #[]] := by rw [hW1]; exact Box.new' _ _ _ (by simp [hg])
  have hb1 : Below g w W1 := by rw [hW1, hg]; exact ((Below.refl _ _).alloc (Nat.le_refl _) _).alloc (by simp) _
  have hd1 : DiskIs W1 p b n M left := h.below hb1 (by omega) (by omega)
  have htid := does_tidy W1 g p b n nm false M left hj1 hd1 (by omega) hle hz (g + 1) hx1
  obtain ⟨E, hE⟩ : ∃ E, E = tidE M left (newL nm.data.toList) := ⟨_, rfl⟩
  obtain ⟨T, hT⟩ : ∃ T, T = tidM M left (newL nm.data.toList) := ⟨_, rfl⟩
  obtain ⟨L, hL⟩ : ∃ L, L = tidL M left (newL nm.data.toList) := ⟨_, rfl⟩
  have hLle : -1 ≤ L ∧ L ≤ 9223372036854775807 := by
    rw [hL]; unfold tidL
    split
    · exact begin_LJ hle _ _ _
    · exact hle
  have hTf : ∀ x ∈ T, x.2.1.length ≤ 1000000 := by
    rw [hT]; unfold tidM
    split
    · unfold remM
      split
      · exact fun x hx => hf x (List.mem_filter.1 hx).1
      · exact hf
    · exact hf
  unfold openR
  rw [← hE, ← hT, ← hL] at htid ⊢
  have hbw : ∀ W, JBut g p b W1 W → But p b w W := fun W hk => hk.but (by rw [← hg]; exact hb1) (by omega)
  have HTID := hid2 htid
  have HW1 := hid2 hW1
  have HG := hid2 hg
  have HBW := hid2 hbw
  clear hE hT hL htid hj1 hx1 hd1 h hf hW1 hg hbw
  by_cases hE0 : E = 0
  · subst hE0
    simp only [ne_eq, not_true_eq_false, if_false]
    cases hg1 : getM T nm.data.toList with
    | none =>
      have hcall := fun (W : World) (hj : JIs W g p nm false) (hd : DiskIs W p b n T L) => there_any W g p b n nm false T L hj hd (by omega) nm (v := false) (by rw [hg1]; rfl)
      simp only
      have HC := hid2 hcall
      clear hcall hg1
      go_enter Tryz.func8, Tryz.ntmps8
      go_wp2_with (first
        | (go_at_call 24; rw [← HG.out, ← HW1.out]; refine HTID.out.mono ?_; rintro e w2 ⟨rfl, hd2, hj2, hb2⟩; have HD2 := hid2 hd2; have HJ2 : Hid2 (JIs w2 g p nm false) := hid2 hj2; have HB2 := hid2 hb2; clear hd2 hj2 hb2)
        | (go_at_call 26; refine (HC.out _ HJ2.out HD2.out).mono ?_; rintro e w3 ⟨rfl, hb3⟩; have HB3 := hid2 hb3; clear hb3))
      ((try simp only [Exit.inBlock, Exit.then]); refine bodyPost_ret (results_tmp3 rfl _ _ _) rfl ?_)
      have h2 := HD2.out.lt
      exact ⟨_, none, 0, rfl, Own.nil _ _ _ _, (HD2.out.below HB3.out h2.1 h2.2).mono (by omega), HBW.out _ (HB2.out.trans (JBut.of_below HB3.out)), fun _ => ⟨g, rfl, HJ2.out.keep (HB3.out.block g HJ2.out.lt), by have := HG.out; omega⟩, fun h => absurd rfl h⟩
    | some f =>
      have hcall := fun (W : World) (hj : JIs W g p nm false) (hd : DiskIs W p b n T L) => there_any W g p b n nm false T L hj hd (by omega) nm (v := true) (by rw [hg1]; rfl)
      have hread := fun (W : World) (hd : DiskIs W p b n T L) => read_at W p b n T L hd nm rfl (by rw [toList_length]; omega) (v := .tuple #[.string (strB f.1), .int .i64 0]) (by unfold readV; rw [hg1])
      simp only
      obtain ⟨F, hF⟩ : ∃ F, F = strB f.1 := ⟨_, rfl⟩
      have hFl : F.data.toList = f.1 := by rw [hF, strB_list]
      have hfl : f.1.length ≤ 1000000 := by
        unfold getM at hg1
        obtain ⟨x, hx, rfl⟩ := Option.map_eq_some_iff.1 hg1
        exact hTf x (List.mem_of_find?_eq_some hx)
      have hFs : F.size = f.1.length := by rw [← toList_length, hFl]
      have hsc := fun (W : World) => scan_any W F (by omega)
      unfold SPost at hsc
      rw [hFl] at hsc
      obtain ⟨k, hk⟩ : ∃ k, k = (scanL f.1).2 := ⟨_, rfl⟩
      obtain ⟨R, hR⟩ : ∃ R, R = (scanL f.1).1 := ⟨_, rfl⟩
      have hle2 : (scanL f.1).2 ≤ f.1.length := scanL_le f.1
      rw [← hF] at hread
      rw [← hk] at hsc hle2 ⊢
      rw [← hR] at hsc ⊢
      have HC := hid2 hcall
      have HR := hid2 hread
      have HSC := hid2 hsc
      have HFS := hid2 hFs
      have HTF := hid2 hTf
      by_cases hcut : k < f.1.length
      · rw [if_pos hcut]
        have hcut' : (k : Int) < F.size := by omega
        have hk0 : (0 : Int) ≤ k := by omega
        have hk1 : (k : Int) ≤ F.size := by omega
        obtain ⟨Q, hQ⟩ : ∃ Q, Q = F.extract 0 k := ⟨_, rfl⟩
        have hQl : Q.data.toList = f.1.take k := by
          rw [hQ, ByteArray.data_extract, Array.toList_extract, hFl, List.extract_eq_take_drop]
          simp
        have han := fun (W : World) (hj : JIs W g p nm false) (hd : DiskIs W p b n T L) => anew_any W g p b n nm false T L hj hd (by omega) hLle hz Q (by rw [← toList_length, hQl, List.length_take]; omega) (by
          unfold fileOf
          cases hq : getM T (newL nm.data.toList) with
          | none => simp
          | some y =>
            unfold getM at hq
            obtain ⟨x, hx, rfl⟩ := Option.map_eq_some_iff.1 hq
            have := hTf x (List.mem_of_find?_eq_some hx)
            show x.2.1.length ≤ _
            omega)
        rw [hQl] at han
        obtain ⟨r, hr⟩ : ∃ r, r = anewR T L (newL nm.data.toList) (f.1.take k) nm.data.toList := ⟨_, rfl⟩
        rw [← hr] at han ⊢
        have HQ := hid2 hQ
        have HAN := hid2 han
        clear hcall hread hsc hg1 hF hFl hFs hTf han hQ hQl hr hk hR hcut
        by_cases hr0 : r.1 = 0
        · rw [if_neg (fun h => h hr0)]
          have HR0 := hid2 hr0
          clear hr0
          go_enter Tryz.func8, Tryz.ntmps8
          go_wp2_with (first
            | (go_at_call 24; rw [← HG.out, ← HW1.out]; refine HTID.out.mono ?_; rintro e w2 ⟨rfl, hd2, hj2, hb2⟩; have HD2 := hid2 hd2; have HJ2 : Hid2 (JIs w2 g p nm false) := hid2 hj2; have HB2 := hid2 hb2; clear hd2 hj2 hb2)
            | (go_at_call 26; refine (HC.out _ HJ2.out HD2.out).mono ?_; rintro e w3 ⟨rfl, hb3⟩; have h2 := HD2.out.lt; have HD3 := hid2 (HD2.out.below hb3 h2.1 h2.2); have HJ3 := hid2 (HJ2.out.keep (hb3.block g HJ2.out.lt)); have HB3 := hid2 (HB2.out.trans (JBut.of_below hb3)); clear hb3 h2)
            | (go_at_call 27; refine (HR.out _ HD3.out).mono ?_; rintro e w4 ⟨rfl, hb4⟩; have h2 := HD3.out.lt; have HD4 := hid2 (HD3.out.below hb4 h2.1 h2.2); have HJ4 := hid2 (HJ3.out.keep (hb4.block g HJ3.out.lt)); have HB4 := hid2 (HB3.out.trans (JBut.of_below hb4)); clear hb4 h2)
            | (go_at_call 28; refine (HSC.out _).mono ?_; rintro e w5 ⟨A, c, rfl, ho, hb5⟩; have h2 := HD4.out.lt; have hjl4 := HJ4.out.lt; have HO := hid2 ho; have HD5 := hid2 (HD4.out.below hb5 h2.1 h2.2); have HJ5 := hid2 (HJ4.out.keep (hb5.block g HJ4.out.lt)); have HB5 := hid2 (HB4.out.trans (JBut.of_below hb5)); clear hb5 h2 ho)
            | (go_at_call 29; rw [← HQ.out]; refine (HAN.out _ HJ5.out HD5.out).mono ?_; rintro e w6 ⟨rfl, hd6, hj6, hb6⟩; rw [HR0.out] at hj6 ⊢; have HD6 := hid2 hd6; have HJ6 : Hid2 (JIs w6 g p nm false) := hid2 hj6; have HB6 := hid2 hb6; clear hd6 hj6 hb6))
          ((try simp only [Exit.inBlock, Exit.then]); refine bodyPost_ret (results_tmp3 rfl _ _ _) rfl ?_)
          have hz1 := HB4.out.size
          have hz0 := hb1.size
          have hgg := HG.out
          exact ⟨_, A, c, rfl, (HO.out.jbut HB6.out (by omega) (by omega) (by omega)).mono (by omega), HD6.out, HBW.out _ (HB5.out.trans HB6.out), fun _ => ⟨g, rfl, HJ6.out, by omega⟩, fun h => absurd rfl h⟩
        · rw [if_pos hr0]
          have hr0' : (r.1 == 0) = false := by simpa using hr0
          have HR0 := hid2 hr0
          clear hr0
          go_enter Tryz.func8, Tryz.ntmps8
          go_wp2_with (first
            | (go_at_call 24; rw [← HG.out, ← HW1.out]; refine HTID.out.mono ?_; rintro e w2 ⟨rfl, hd2, hj2, hb2⟩; have HD2 := hid2 hd2; have HJ2 : Hid2 (JIs w2 g p nm false) := hid2 hj2; have HB2 := hid2 hb2; clear hd2 hj2 hb2)
            | (go_at_call 26; refine (HC.out _ HJ2.out HD2.out).mono ?_; rintro e w3 ⟨rfl, hb3⟩; have h2 := HD2.out.lt; have HD3 := hid2 (HD2.out.below hb3 h2.1 h2.2); have HJ3 := hid2 (HJ2.out.keep (hb3.block g HJ2.out.lt)); have HB3 := hid2 (HB2.out.trans (JBut.of_below hb3)); clear hb3 h2)
            | (go_at_call 27; refine (HR.out _ HD3.out).mono ?_; rintro e w4 ⟨rfl, hb4⟩; have h2 := HD3.out.lt; have HD4 := hid2 (HD3.out.below hb4 h2.1 h2.2); have HJ4 := hid2 (HJ3.out.keep (hb4.block g HJ3.out.lt)); have HB4 := hid2 (HB3.out.trans (JBut.of_below hb4)); clear hb4 h2)
            | (go_at_call 28; refine (HSC.out _).mono ?_; rintro e w5 ⟨A, c, rfl, ho, hb5⟩; have h2 := HD4.out.lt; have hjl4 := HJ4.out.lt; have HO := hid2 ho; have HD5 := hid2 (HD4.out.below hb5 h2.1 h2.2); have HJ5 := hid2 (HJ4.out.keep (hb5.block g HJ4.out.lt)); have HB5 := hid2 (HB4.out.trans (JBut.of_below hb5)); clear hb5 h2 ho)
            | (go_at_call 29; rw [← HQ.out]; refine (HAN.out _ HJ5.out HD5.out).mono ?_; rintro e w6 ⟨rfl, hd6, hj6, hb6⟩; have HD6 := hid2 hd6; clear hj6; have HB6 := hid2 hb6; clear hd6 hb6))
          ((try simp only [Exit.inBlock, Exit.then]); refine bodyPost_ret (results_tmp3 rfl _ _ _) rfl ?_)
          exact ⟨_, none, 0, rfl, Own.nil _ _ _ _, HD6.out, HBW.out _ (HB5.out.trans HB6.out), fun h => absurd h HR0.out, fun _ => rfl⟩
      · rw [if_neg hcut]
        have hcut' : ¬ (k : Int) < F.size := by omega
        clear hcall hread hsc hg1 hF hFl hFs hTf hk hR hcut
        go_enter Tryz.func8, Tryz.ntmps8
        go_wp2_with (first
          | (go_at_call 24; rw [← HG.out, ← HW1.out]; refine HTID.out.mono ?_; rintro e w2 ⟨rfl, hd2, hj2, hb2⟩; have HD2 := hid2 hd2; have HJ2 : Hid2 (JIs w2 g p nm false) := hid2 hj2; have HB2 := hid2 hb2; clear hd2 hj2 hb2)
          | (go_at_call 26; refine (HC.out _ HJ2.out HD2.out).mono ?_; rintro e w3 ⟨rfl, hb3⟩; have h2 := HD2.out.lt; have HD3 := hid2 (HD2.out.below hb3 h2.1 h2.2); have HJ3 := hid2 (HJ2.out.keep (hb3.block g HJ2.out.lt)); have HB3 := hid2 (HB2.out.trans (JBut.of_below hb3)); clear hb3 h2)
          | (go_at_call 27; refine (HR.out _ HD3.out).mono ?_; rintro e w4 ⟨rfl, hb4⟩; have h2 := HD3.out.lt; have HD4 := hid2 (HD3.out.below hb4 h2.1 h2.2); have HJ4 := hid2 (HJ3.out.keep (hb4.block g HJ3.out.lt)); have HB4 := hid2 (HB3.out.trans (JBut.of_below hb4)); clear hb4 h2)
          | (go_at_call 28; refine (HSC.out _).mono ?_; rintro e w5 ⟨A, c, rfl, ho, hb5⟩; have h2 := HD4.out.lt; have hjl4 := HJ4.out.lt; have HO := hid2 ho; have HD5 := hid2 (HD4.out.below hb5 h2.1 h2.2); have HJ5 := hid2 (HJ4.out.keep (hb5.block g HJ4.out.lt)); have HB5 := hid2 (HB4.out.trans (JBut.of_below hb5)); clear hb5 h2 ho))
        ((try simp only [Exit.inBlock, Exit.then]); refine bodyPost_ret (results_tmp3 rfl _ _ _) rfl ?_)
        have hz1 := HB4.out.size
        have hz0 := hb1.size
        have hgg := HG.out
        exact ⟨_, A, c, rfl, HO.out.mono (by omega), HD5.out.mono (by omega), HBW.out _ HB5.out, fun _ => ⟨g, rfl, HJ5.out, by omega⟩, fun h => absurd rfl h⟩
  · have hE0' : (E == 0) = false := by simpa using hE0
    rw [if_pos hE0]
    have HE0 := hid2 hE0
    clear hE0
    go_enter Tryz.func8, Tryz.ntmps8
    go_wp2_with (go_at_call 24; rw [← HG.out, ← HW1.out]; refine HTID.out.mono ?_; rintro e w2 ⟨rfl, hd2, hj2, hb2⟩; have HD2 := hid2 hd2; have HB2 := hid2 hb2; clear hd2 hj2 hb2)
    ((try simp only [Exit.inBlock, Exit.then]); refine bodyPost_ret (results_tmp3 rfl _ _ _) rfl ?_)
    exact ⟨_, none, 0, rfl, Own.nil _ _ _ _, HD2.out.mono (by omega), HBW.out _ HB2.out, fun h => absurd h HE0.out, fun _ => rfl⟩
end Go.Proofs.YtehpapoboeejkaaGreat
/- Rows of texts that are not great. -/
namespace Go.Proofs.YtehpapoboeejkaaGreat
open Go.RowKit
/-- what Great answers -/
def GPost (w : World) (xs : List ByteArray) (e : Ending) (w' : World) : Prop := ∃ g, e = .returned (.bool g) ∧ (g = false → (∀ x ∈ xs, x.size ≤ 100) ∧ xs.length ≤ 12) ∧ Below w.heap.size w w'
theorem jgreat_any (w : World) (A : Option Addr) (n c : Nat) (xs : List ByteArray) (ha : Rd w 1 A n (xs.map Value.string)) (hmx : n ≤ 8796093022208) : Calls Tryz.prog 22 #[.slice A n c] w (GPost w xs) := by
  have hn : xs.length = n := by have := ha.1; simpa using this
  have hmx' : (n : Int) ≤ 8796093022208 := by omega
  go_enter Tryz.func22, Tryz.ntmps22
  go_wp2_with fail
  go_loopw [6] (fun i wr => ∃ k : Nat, k ≤ n ∧ i = .int .i64 k ∧ (∀ x ∈ xs.take k, x.size ≤ 100) ∧ Below w.heap.size w wr) (fun i _ => n - (intOf i).toNat)
  case atStart => exact ⟨0, by omega, rfl, by simp, Below.refl _ _⟩
  case round =>
    obtain ⟨k, hk, rfl, hall, hB⟩ := hrel
    have HALL := hid2 hall
    clear hall
    by_cases hlt : k < n
    · obtain ⟨b, o, rfl, hcell⟩ := (ha.below_all hB).cell (j := k) (by simpa [hn] using hlt)
      rw [List.getElem_map] at hcell
      obtain ⟨s, hs⟩ : ∃ s, s = xs[k]'(by omega) := ⟨_, rfl⟩
      rw [← hs] at hcell
      have HS := hid2 hs
      clear hs
      have hlt' : (k : Int) < n := by omega
      by_cases h100 : 100 < s.size
      · have h100' : (100 : Int) < s.size := by omega
        go_wp2_with fail
        go_ret
        exact ⟨true, rfl, (fun h => absurd h (by decide)), hB⟩
      · have h100' : (s.size : Int) ≤ 100 := by omega
        go_wp2_with fail
        go_roundw
        case rel =>
          refine ⟨k + 1, by omega, by go_num, ?_, hB⟩
          intro x hx
          rw [List.take_succ_eq_append_getElem (show k < xs.length by omega), List.mem_append] at hx
          rcases hx with hx | hx
          · exact HALL.out x hx
          · rw [List.mem_singleton.1 hx, ← HS.out]; omega
        case measure => simp [intOf]; omega
    · have hlt' : ¬ (k : Int) < n := by omega
      have hx : ∀ x ∈ xs, x.size ≤ 100 := by
        have := HALL.out
        rw [List.take_of_length_le (by omega)] at this
        exact this
      have HX := hid2 hx
      clear hx
      by_cases h12 : 12 < n
      · have h12' : (12 : Int) < n := by omega
        go_wp2_with fail
        go_ret
        exact ⟨true, rfl, (fun h => absurd h (by decide)), hB⟩
      · have h12' : (n : Int) ≤ 12 := by omega
        go_wp2_with fail
        go_ret
        exact ⟨_, rfl, (fun _ => ⟨HX.out, by omega⟩), hB⟩
end Go.Proofs.YtehpapoboeejkaaGreat
/- strings.Builder, written by texts. -/
namespace Go.Proofs.YtehpapoboeejkaaGreat
open Go.RowKit
set_option maxRecDepth 100000
/-- a builder in block g that holds l -/
def BldAt (w : World) (base g : Nat) (l : List UInt8) : Prop :=
  base ≤ g ∧ ∃ p A c, w.heap[g]? = some (.cells #[p, .slice A l.length c] 77 (0, 0)) ∧ (p = .pointer none ∨ p = .pointer (some ⟨g, 0, none⟩)) ∧ Own w base 5 1 A l.length c (u8s l)
theorem grownBy_refl (w : World) (r : Option Nat) : w.grownBy w r := ⟨rfl, rfl, rfl, Nat.le_refl _, fun _ _ _ => rfl⟩
theorem copyCheck_any (w : World) (g : Nat) (v p : Value) (hg : w.heap[g]? = some (.cells #[p, v] 77 (0, 0))) (hp : p = .pointer none ∨ p = .pointer (some ⟨g, 0, none⟩)) :
    Calls Tryz.prog 59 #[.pointer (some ⟨g, 0, none⟩)] w fun e w' => e = .returned (.tuple #[]) ∧ w'.heap[g]? = some (.cells #[.pointer (some ⟨g, 0, none⟩), v] 77 (0, 0)) ∧ w.grownBy w' (some g) := by
  have hc : w.cell? ⟨g, 0, none⟩ = some p := cell_of_row w g 0 _ _ _ hg
  have hfz : w.frozen? ⟨g, 0, none⟩ = false := frozen_of_row w g 0 _ _ hg
  have hsh : w.shape? g = some (77, 2) := by simp [World.shape?, hg]
  rcases hp with rfl | rfl
  · go_enter Tryz.func59, Tryz.ntmps59
    go_wp2
    rw [Lib.run_to_unsafe w ⟨g, 0, none⟩ Tryz.underlying74 Tryz.underlying112 rfl (by decide) hsh (Nat.zero_lt_succ 1)]
    simp only [Result.andThen]
    rw [Oper.upon_value]
    go_wp2
    rw [run_callFunc_extern Tryz.func66 (by kernel_rfl) (by kernel_rfl) (by kernel_rfl) (e := Extern.AbiNoEscape.same) (by kernel_rfl)]
    rw [Lib.run_noEscape]
    simp only [Result.andThen]
    rw [Oper.upon_value]
    go_wp2
    rw [Lib.run_from_unsafe w ⟨g, 0, none⟩ Tryz.underlying112 Tryz.underlying74 rfl hsh (by kernel_rfl)]
    simp only [Result.andThen]
    rw [Oper.upon_value]
    go_wp2
    go_end0
    exact ⟨rfl, by rw [heap_setCell_same w g 0 _ _ _ hg]; rfl, grownBy_setCell (grownBy_refl w _) _⟩
  · go_enter Tryz.func59, Tryz.ntmps59
    go_wp2
    rw [Lib.run_neq_ptr_same w _ Tryz.underlying74 rfl]
    go_wp2
    go_end0
    exact ⟨rfl, hg, grownBy_refl w _⟩
theorem heap_set1 {g : Nat} {p v : Value} {w : World} (t : TypeId) (h : w.heap[g]? = some (.cells #[p, v] t (0, 0))) (u : Value) : (w.setCell ⟨g, 1, none⟩ u).heap[g]? = some (.cells #[p, u] t (0, 0)) := by
  rw [heap_setCell_same w g 1 _ _ _ h]; rfl
theorem liesAt_bytes_at {P : Program} {e : TypeId} (hc : P.cellsOf e = 1) (count o n : Nat) (hn : o + n ≤ count) : liesAt P P.depth e count o e n = true := by
  have hd : P.depth = (2 * (P.types.size + Made.depth) + 1) + 1 := rfl
  rw [hd]
  simp only [liesAt, Bool.or_eq_true]
  left
  rw [hd]
  simp [rowAt, hc, hn, sameLayout, Nat.mod_one]
theorem run_unsafeString_at {P : Program} (w : World) (pt it ty e : TypeId) (hp : P.underlying pt = some (.pointer e)) (hc : P.cellsOf e = 1) (g o cells : Nat) (hsh : w.shape? g = some (e, cells)) (l : List UInt8) (h0 : l ≠ []) (hn : o + l.length ≤ cells) (h63 : l.length ≤ 9223372036854775807)
    (hcell : ∀ j x, l[j]? = some x → w.cell? ((⟨g, o, none⟩ : Addr).add j) = some (.int .u8 x.toNat)) :
    (Builtin.unsafeString_ #[pt, it] ty #[.pointer (some ⟨g, o, none⟩), .int .i64 l.length]).run P w = .ok (.string ⟨l.toArray⟩) (w.freeze ⟨g, o, none⟩ l.length) := by
  have hl : l.length ≠ 0 := by simpa using h0
  have hlb := Lib.run_loadBytes (P := P) w l ⟨g, o, none⟩ .empty hcell
  have hlies := liesAt_bytes_at (P := P) hc (cells / P.cellsOf e) o l.length (by rw [hc]; simpa using hn)
  have h63' : ¬ (9223372036854775807 : Int) < (l.length : Int) := by omega
  have hmax : IntKind.i64.max = 9223372036854775807 := rfl
  have hneg : ¬ (l.length : Int) < 0 := by omega
  show Sem.run P (Bind.bind (asInt (.int .i64 l.length)) _) w = _
  simp [asInt, asIntOf, hmax, h63', hneg, hl, variablesAt, hsh, elemOf, run_underlying hp, hlies, hlb]
theorem bstring_any (w : World) (base g : Nat) (l : List UInt8) (h : BldAt w base g l) (h0 : l ≠ []) :
    Calls Tryz.prog 40 #[.pointer (some ⟨g, 0, none⟩)] w fun e w' => e = .returned (.string ⟨l.toArray⟩) ∧ Below base w w' := by
  obtain ⟨hbg, p, A, c, hg, hp, hown⟩ := h
  have hgl := heap_lt hg
  have hc1 : w.drew.cell? ⟨g, 1, none⟩ = some (.slice A l.length c) := cell_of_row w g 1 _ _ _ hg
  have hl0 : 0 < l.length := List.length_pos_iff.2 h0
  have hnc := hown.2.1
  have hcm := hown.2.2.1
  obtain ⟨b, o, cur, fr, rfl, hbb, hcur, hfr, hoc, hcx⟩ := hown.at_ (by omega)
  have hSD : (Builtin.unsafeSliceData_ #[75] 100 #[.slice (some ⟨b, o, none⟩) l.length c]).run Tryz.prog w.drew = .ok (.pointer (some ⟨b, o, none⟩)) w.drew :=
    Lib.run_unsafeSliceData_row _ _ _ _ _ _ (by omega)
  have hUS : (Builtin.unsafeString_ #[100, 3] 9 #[.pointer (some ⟨b, o, none⟩), .int .i64 l.length]).run Tryz.prog w.drew = .ok (.string ⟨l.toArray⟩) (w.drew.freeze ⟨b, o, none⟩ l.length) := by
    refine run_unsafeString_at w.drew 100 3 9 5 Tryz.underlying100 (by kernel_rfl) b o cur.size (by have hg' : w.drew.heap[b]? = some (.cells cur 5 fr) := hcur; simp [World.shape?, hg']) l h0 (by omega) (by unfold maxLen at hcm; omega) ?_
    intro j x hx
    have hj : j < l.length := by
      rcases Nat.lt_or_ge j l.length with h | h
      · exact h
      · rw [List.getElem?_eq_none h] at hx; cases hx
    rw [addr_add]
    refine (cell_of_row w b (o + j) cur _ _ hcur).trans ?_
    rw [hcx j (by omega), u8s_get l hj, List.getD_eq_getElem?_getD, hx]
    rfl
  have hl63 : l.length ≤ 9223372036854775807 := by unfold maxLen at hcm; omega
  clear hcx hfr hoc hcur hown hg hp
  go_enter Tryz.func40, Tryz.ntmps40
  go_wp2
  go_region
  all_goals (go_wp2; go_ret; exact ⟨rfl, Lib.below_freeze (Below.drew (Below.refl base w)) (p := ⟨b, o, none⟩) hbb _⟩)
theorem BldAt.below {w w' : World} {base g B : Nat} {l : List UInt8} (h : BldAt w base g l) (hb : Below B w w') (hB : w.heap.size ≤ B) : BldAt w' base g l := by
  obtain ⟨hbg, p, A, c, hg, hp, hown⟩ := h
  exact ⟨hbg, p, A, c, (hb.block _ (by have := heap_lt hg; omega)).trans hg, hp, hown.below hb hB⟩
theorem BldAt.lt {w : World} {base g : Nat} {l : List UInt8} (h : BldAt w base g l) : g < w.heap.size := by
  obtain ⟨_, p, A, c, hg, _⟩ := h
  exact heap_lt hg
/-- a builder that nothing was written to -/
def BldNew (w : World) (g : Nat) : Prop := w.heap[g]? = some (.cells #[.pointer none, .slice none 0 0] 77 (0, 0))
theorem BldNew.at_ {w : World} {g base : Nat} (h : BldNew w g) (hb : base ≤ g) : BldAt w base g [] := ⟨hb, _, none, 0, h, .inl rfl, Own.nil _ _ _ _⟩
theorem writeString_any (w : World) (base g : Nat) (l : List UInt8) (h : BldAt w base g l) (s : ByteArray) (hlen : l.length + s.size ≤ 100000000) (hbase : base ≤ w.heap.size) :
    Calls Tryz.prog 39 #[.pointer (some ⟨g, 0, none⟩), .string s] w fun e w' => e = .returned (.tuple #[.int .i64 s.size, .nilIface]) ∧ BldAt w' base g (l ++ s.data.toList) ∧ Below base w w' := by
  obtain ⟨hbg, p, A, c, hg, hp, hown⟩ := h
  have hgl := heap_lt hg
  have hne := hown.ne hg (by decide)
  obtain ⟨n, hn⟩ : ∃ n, n = l.length := ⟨_, rfl⟩
  rw [← hn] at hg hown hlen
  have HN := hid2 hn
  have h63 : n + s.size ≤ maxLen := by unfold maxLen; omega
  clear hn
  go_enter Tryz.func39, Tryz.ntmps39
  go_wp2_with (first
    | (go_at_call 59; refine (copyCheck_any w g _ p hg hp).mono ?_; rintro e w1 ⟨rfl, hg1, hgr1⟩; have hc1 : w1.cell? ⟨g, 1, none⟩ = some (.slice A n c) := cell_of_row w1 g 1 _ _ _ hg1; have hf1 : w1.frozen? ⟨g, 1, none⟩ = false := frozen_of_row w1 g 1 _ _ hg1; have hown1 := hown.grown hgr1 (fun b hb e => hne (hb.trans e)); clear hown)
    | (at_builtin; have _t := hown1; go_must ((with_reducible refine wpList_append_lit 5 (.int .u8 0) 1 1 Tryz.underlying75 info_u8 rfl base A n c (u8s l) hown1 s.size (u8s s.data.toList) (.string s) (Src.str Tryz.underlying9) (u8s_one _) h63 (by omega) (by have := hgr1.size; omega) ?_ ?_); exact ⟨rfl, rfl⟩; intro A3 c3 w3 hown3 hgr3 hbl3; clear hown1; have hg3 := (hgr3.block g (by have := hgr1.size; omega) (fun e => hne e.symm)).trans hg1; have hc3 : w3.cell? ⟨g, 1, none⟩ = some (.slice A n c) := cell_of_row w3 g 1 _ _ _ hg3; have hf3 : w3.frozen? ⟨g, 1, none⟩ = false := frozen_of_row w3 g 1 _ _ hg3)))
  go_ret2
  have hb1 : Below base w w1 := (Below.refl base w).grown hgr1 hbase (fun k e => by injection e with e; omega)
  have hb3 : Below base w w3 := hb1.grown hgr3 (by have := hgr1.size; omega) (fun k e => (_t.block k e).1)
  refine ⟨rfl, ⟨hbg, _, A3, c3, ?_, .inr rfl, ?_⟩, hb3.setCell (p := ⟨g, 1, none⟩) (by exact hbg) _⟩
  · have := heap_set1 _ hg3 (.slice A3 (n + s.size) c3)
    rw [List.length_append, toList_length]
    rw [HN.out] at this ⊢
    exact this
  · have h4 := hown3.setOther (p := ⟨g, 1, none⟩) (hown3.ne hg3 (by decide)) (.slice A3 (n + s.size) c3)
    rw [← u8s_append] at h4
    rw [List.length_append, toList_length]
    rw [HN.out] at h4 ⊢
    exact h4
theorem bstring_new (w : World) (base g : Nat) (h : BldNew w g) :
    Calls Tryz.prog 40 #[.pointer (some ⟨g, 0, none⟩)] w fun e w' => e = .returned (.string ⟨#[]⟩) ∧ Below base w w' := by
  have hgl := heap_lt h
  have hc1 : w.drew.cell? ⟨g, 1, none⟩ = some (.slice none 0 0) := cell_of_row w g 1 _ _ _ h
  have hSD : (Builtin.unsafeSliceData_ #[75] 100 #[.slice none 0 0]).run Tryz.prog w.drew = .ok (.pointer none) w.drew := Lib.run_unsafeSliceData_nil _ _ _ _ _
  have hUS : (Builtin.unsafeString_ #[100, 3] 9 #[.pointer none, .int .i64 0]).run Tryz.prog w.drew = .ok (.string ⟨#[]⟩) w.drew := Lib.run_unsafeString_none _ _ _ _ _
  clear h
  go_enter Tryz.func40, Tryz.ntmps40
  go_wp2
  go_region
  all_goals (go_wp2; go_ret; exact ⟨rfl, (Below.refl base w).drew⟩)
end Go.Proofs.YtehpapoboeejkaaGreat
/- A journal's Swap: the walk. -/
namespace Go.Proofs.YtehpapoboeejkaaGreat
open Go.RowKit Go.Maps
/-- what Swap answers, and leaves -/
def swapR (M : Tab FileE) (left : Int) (nm : List UInt8) (rs : List (List UInt8)) : Int × Tab FileE × Int :=
  if tidE M left (newL nm) ≠ 0 then (tidE M left (newL nm), tidM M left (newL nm), tidL M left (newL nm))
  else anewR (tidM M left (newL nm)) (tidL M left (newL nm)) (newL nm) (framesL rs) nm
theorem framesL_le {rs : List (List UInt8)} (h : ∀ r ∈ rs, r.length ≤ 100) : (framesL rs).length ≤ 112 * rs.length := by
  induction rs with
  | nil => simp [framesL]
  | cons r l ih =>
    have h1 := ih (fun x hx => h x (List.mem_cons_of_mem _ hx))
    have h2 := h r (List.mem_cons_self ..)
    simp only [framesL, List.length_append, frameL_length, List.length_cons]
    omega
theorem framesL_ne {rs : List (List UInt8)} (h : rs ≠ []) : framesL rs ≠ [] := by
  cases rs with
  | nil => exact absurd rfl h
  | cons r l =>
    intro e
    have := congrArg List.length e
    simp only [framesL, List.length_append, frameL_length, List.length_nil] at this
    omega
theorem JBut.low {j p b : Nat} {x y z : World} (h : JBut j p b x y) (k : Below x.heap.size y z) : JBut j p b x z :=
  ⟨k.os.trans h.os, k.tape.trans h.tape, k.output.trans h.output, Nat.le_trans h.size k.size, fun i h1 h2 h3 h4 => (k.block i h1).trans (h.block i h1 h2 h3 h4)⟩
theorem tid_all {M : Tab FileE} {B : Nat} (h : ∀ x ∈ M, x.2.1.length ≤ B) (left : Int) (k : List UInt8) : ∀ x ∈ tidM M left k, x.2.1.length ≤ B := by
  unfold tidM
  split
  · unfold remM
    split
    · exact fun x hx => h x (List.mem_filter.1 hx).1
    · exact h
  · exact h
theorem file_all {M : Tab FileE} {B : Nat} (h : ∀ x ∈ M, x.2.1.length ≤ B) (k : List UInt8) : (fileOf M k).1.length ≤ B := by
  unfold fileOf
  cases hq : getM M k with
  | none => simp
  | some y =>
    unfold getM at hq
    obtain ⟨x, hx, rfl⟩ := Option.map_eq_some_iff.1 hq
    exact h x (List.mem_of_find?_eq_some hx)
theorem tid_file {M : Tab FileE} (h : ∀ x ∈ M, x.2.1.length ≤ 1000000) (left : Int) (k : List UInt8) : (fileOf (tidM M left k) k).1.length ≤ 100000000 :=
  Nat.le_trans (file_all (tid_all h left k) k) (by decide)
/-- a broken journal -/
theorem swap_broken (w : World) (j p : Nat) (nm : ByteArray) (hj : JIs w j p nm true) (A : Option Addr) (n c : Nat) :
    Calls Tryz.prog 12 #[.pointer (some ⟨j, 0, none⟩), .slice A n c] w fun e w' => e = .returned (.int .i64 19) ∧ Below w.heap.size w w' := by
  have hjl := hj.lt
  have c2 : w.cell? ⟨j, 2, none⟩ = some (.bool true) := hj.box.cells 2
  go_enter Tryz.func12, Tryz.ntmps12
  go_wp2_with fail
  go_ret
  exact ⟨rfl, Below.refl _ _⟩
set_option maxRecDepth 100000 in
set_option maxHeartbeats 2000000 in
theorem swap_any (w : World) (j p b n : Nat) (nm : ByteArray) (M : Tab FileE) (left : Int) (hj : JIs w j p nm false) (h : DiskIs w p b n M left) (hn : n ≤ 800000) (hle : -1 ≤ left ∧ left ≤ 9223372036854775807) (hz : nm.size ≤ 1000000) (hf : ∀ x ∈ M, x.2.1.length ≤ 1000000)
    (A : Option Addr) (N c : Nat) (ps : List ByteArray) (hr : Rd w 1 A N (ps.map Value.string)) (hN : N ≤ 1000) (h100 : ∀ s ∈ ps, s.size ≤ 100) :
    Calls Tryz.prog 12 #[.pointer (some ⟨j, 0, none⟩), .slice A N c] w (WPost w j p b (n + 3) nm false (swapR M left nm.data.toList (ps.map fun s => s.data.toList))) := by
  have hlt := h.lt
  have hjl := hj.lt
  have hne := hj.ne h
  have hpn : ps.length = N := by have := hr.1; simpa using this
  obtain ⟨rs, hrs⟩ : ∃ rs : List (List UInt8), rs = ps.map (fun s => s.data.toList) := ⟨_, rfl⟩
  rw [← hrs]
  have hrl : rs.length = N := by rw [hrs, List.length_map, hpn]
  have hr100 : ∀ r ∈ rs, r.length ≤ 100 := by
    intro r hr
    rw [hrs] at hr
    obtain ⟨s, hs, rfl⟩ := List.mem_map.1 hr
    rw [toList_length]
    exact h100 s hs
  have hga : ∀ (k : Nat) (s : ByteArray), ps[k]? = some s → s.size ≤ 100 ∧ rs[k]? = some s.data.toList := by
    intro k s h
    refine ⟨h100 s (List.mem_of_getElem? h), ?_⟩
    rw [hrs, List.getElem?_map, h]
    rfl
  have hfl : ∀ k, (framesL (rs.take k)).length ≤ 112000 := by
    intro k
    have := framesL_le (rs := rs.take k) (fun r hr => hr100 r (List.mem_of_mem_take hr))
    rw [List.length_take] at this
    omega
  obtain ⟨g, hg⟩ : ∃ g, g = w.heap.size := ⟨_, rfl⟩
  obtain ⟨W1, hW1⟩ : ∃ W1, W1 = w.alloc (.cells #[.pointer none, .slice none 0 0] 77) := ⟨_, rfl⟩
  have hb1 : Below g w W1 := by rw [hW1, hg]; exact (Below.refl _ _).alloc (Nat.le_refl _) _
  have hz1 : W1.heap.size = g + 1 := by rw [hW1, World.size_alloc, hg]
  have hbl1 : BldNew W1 g := by rw [hW1, hg]; exact heap_alloc_new w _
  have c2 : w.cell? ⟨j, 2, none⟩ = some (.bool false) := hj.box.cells 2
  have hN' : (N : Int) ≤ 1000 := by omega
  have HJ := hid2 hj
  have HD := hid2 h
  have HR := hid2 hr
  have HG := hid2 hg
  have HW1 := hid2 hW1
  have HGA := hid2 hga
  have HFL := hid2 hfl
  have HRL := hid2 hrl
  have HPN := hid2 hpn
  have HF := hid2 hf
  clear hj h hr hW1 hga hfl hrl hpn hr100 h100 hrs hf hg
  go_enter Tryz.func12, Tryz.ntmps12
  go_wp2_with fail
  rw [← HG.out, ← HW1.out]
  go_loopg [21] N (fun gk i wr => ∃ k : Nat, k + gk = N ∧ i = .int .i64 k ∧ Below g w wr ∧ g < wr.heap.size ∧ BldAt wr g g (framesL (rs.take k)) ∧ (k = 0 → BldNew wr g))
  case atStart => exact ⟨0, by omega, rfl, hb1, by omega, hbl1.at_ (Nat.le_refl _), fun _ => hbl1⟩
  case round =>
    clear hbl1 hb1
    obtain ⟨k, hk, rfl, hb, hgw, hbl, hbn⟩ := hrel
    by_cases hlt2 : k < N
    · have hlt' : (k : Int) < N := by omega
      have hrr := (HR.out).below_all (HG.out ▸ hb)
      obtain ⟨bb, o, rfl, hcell⟩ := hrr.cell (j := k) (by rw [List.length_map, HPN.out]; exact hlt2)
      rw [List.getElem_map] at hcell
      have hsk : ps[k]? = some (ps[k]'(by rw [HPN.out]; exact hlt2)) := List.getElem?_eq_getElem _
      obtain ⟨s, hs⟩ : ∃ s, s = ps[k]'(by rw [HPN.out]; exact hlt2) := ⟨_, rfl⟩
      rw [← hs] at hcell hsk
      obtain ⟨hs100, hrk⟩ := HGA.out k s hsk
      obtain ⟨F, hF⟩ : ∃ F, F = strB (frameL s.data.toList) := ⟨_, rfl⟩
      have hfr := fun (W : World) => frame_any W s (by omega)
      rw [← hF] at hfr
      have hFl : F.data.toList = frameL s.data.toList := by rw [hF, strB_list]
      have hFs : F.size = s.size + 12 := by rw [← toList_length, hFl, frameL_length, toList_length]
      have hnext : framesL (rs.take (k + 1)) = framesL (rs.take k) ++ F.data.toList := by
        obtain ⟨hkl, hre⟩ := List.getElem?_eq_some_iff.1 hrk
        rw [framesL_take rs k hkl, hre, hFl]
      have HWS := hid2 (show (framesL (rs.take k)).length + F.size ≤ 100000000 by have := HFL.out k; omega)
      have HFR := hid2 hfr
      have HNX := hid2 hnext
      have HBL := hid2 hbl
      have HB := hid2 hb
      clear hfr hF hFl hFs hnext hbl hb hbn hrr hs hsk hrk hs100
      go_wp2_with (first
        | (go_at_call 23; refine (HFR.out _).mono ?_; rintro e w2 ⟨rfl, hb2⟩; have HBL2 := hid2 (HBL.out.below hb2 (Nat.le_refl _)); have HB2 := hid2 (HB.out.trans (hb2.mono (by omega))); have hz2 := hb2.size; clear hb2)
        | (go_at_call 39; refine (writeString_any _ g g _ HBL2.out F HWS.out (by omega)).mono ?_; rintro e w3 ⟨rfl, hbl3, hb3⟩; have HBL3 := hid2 hbl3; have HB3 := hid2 (HB2.out.trans hb3); have hz3 := hb3.size; clear hbl3 hb3))
      go_roundg (gk - 1)
      case rel => exact ⟨k + 1, by omega, by go_num, HB3.out, by omega, by rw [HNX.out]; exact HBL3.out, fun h => by omega⟩
      case measure => omega
    · have hkN : k = N := by omega
      subst hkN
      have hlt' : ¬ (k : Int) < k := by omega
      have hall : rs.take k = rs := List.take_of_length_le (by rw [HRL.out]; exact Nat.le_refl _)
      rw [hall] at hbl
      have hfla := HFL.out k
      rw [hall] at hfla
      obtain ⟨D, hD⟩ : ∃ D : ByteArray, D = ⟨(framesL rs).toArray⟩ := ⟨_, rfl⟩
      have hDl : D.data.toList = framesL rs := by rw [hD]
      have hDs : D.size = (framesL rs).length := by rw [← toList_length, hDl]
      have hstr : ∀ W : World, (∀ q, g ≤ q → q < wr.heap.size → W.heap[q]? = wr.heap[q]?) → Calls Tryz.prog 40 #[.pointer (some ⟨g, 0, none⟩)] W fun e w' => e = .returned (.string D) ∧ Below g W w' := by
        intro W hk
        by_cases h0 : k = 0
        · have hnew : BldNew W g := (hk g (Nat.le_refl _) hgw).trans (hbn h0)
          have hrs0 : rs = [] := List.length_eq_zero_iff.1 (by rw [HRL.out]; exact h0)
          rw [hD, hrs0]
          exact bstring_new W g g hnew
        · obtain ⟨hbg, q, A, c, hg, hp, hown⟩ := hbl
          rw [hD]
          exact bstring_any W g g (framesL rs) ⟨hbg, q, A, c, (hk g (Nat.le_refl _) hgw).trans hg, hp, hown.keep fun x _ h1 h2 => hk x h1 h2⟩ (framesL_ne (fun h => h0 (by rw [← HRL.out, h]; rfl)))
      obtain ⟨E, hE⟩ : ∃ E, E = tidE M left (newL nm.data.toList) := ⟨_, rfl⟩
      obtain ⟨T, hT⟩ : ∃ T, T = tidM M left (newL nm.data.toList) := ⟨_, rfl⟩
      obtain ⟨L, hL⟩ : ∃ L, L = tidL M left (newL nm.data.toList) := ⟨_, rfl⟩
      have hLle : -1 ≤ L ∧ L ≤ 9223372036854775807 := by
        rw [hL]; unfold tidL
        split
        · exact begin_LJ hle _ _ _
        · exact hle
      have hTf : (fileOf T (newL nm.data.toList)).1.length ≤ 100000000 := by
        rw [hT]
        exact tid_file HF.out _ _
      have hdoes : ∀ W : World, Below g w W → Box W wr.heap.size [.func (.func 25) #[.pointer (some ⟨j, 0, none⟩)] #[]] → Calls Tryz.prog 24 #[.pointer (some ⟨j, 0, none⟩), .slice (some ⟨wr.heap.size, 0, none⟩) 1 1] W (WPost W j p b n nm false (E, T, L)) := by
        intro W hW hx
        have hg0 := HG.out
        have := does_tidy W j p b n nm false M left (HJ.out.keep (hW.block j (by omega))) (HD.out.below hW (by omega) (by omega)) (by omega) hle hz wr.heap.size hx
        rw [← hE, ← hT, ← hL] at this
        exact this
      have hsw : swapR M left nm.data.toList rs = if E ≠ 0 then (E, T, L) else anewR T L (newL nm.data.toList) (framesL rs) nm.data.toList := by
        unfold swapR
        rw [← hE, ← hT, ← hL]
      have HST := hid2 hstr
      have HDO := hid2 hdoes
      have HB := hid2 hb
      have hgj : j < g ∧ p < g ∧ b < g := by have := HG.out; omega
      have hwz := hb.size
      clear hstr hbl hbn hdoes hb hE hT hL hall
      by_cases hE0 : E = 0
      · subst hE0
        rw [if_neg (by simp)] at hsw
        obtain ⟨r, hr⟩ : ∃ r, r = anewR T L (newL nm.data.toList) D.data.toList nm.data.toList := ⟨_, rfl⟩
        have han := fun (W : World) (hj : JIs W j p nm false) (hd : DiskIs W p b n T L) => anew_any W j p b n nm false T L hj hd (by omega) hLle hz D (by omega) hTf
        rw [← hr] at han
        rw [← hDl, ← hr] at hsw
        have HAN := hid2 han
        have HSW := hid2 hsw
        clear han hr hDl hD hDs hsw
        go_wp2_with (first
          | (go_at_call 24; refine (HDO.out _ (HB.out.alloc (by omega) _) (Box.new' _ _ _ rfl)).mono ?_; rintro e w2 ⟨rfl, hd2, hj2, hb2⟩; have HD2 := hid2 hd2; have HJ2 : Hid2 (JIs w2 j p nm false) := hid2 hj2; have HB2 := hid2 ((JBut.of_below (HG.out ▸ HB.out.alloc (by omega) _)).trans hb2); have HS2 := hid2 (HST.out w2 (fun q h1 h2 => (hb2.block q (by simp; omega) (by omega) (by omega) (by omega)).trans (Below.heap_alloc _ _ q h2))); have hz2 := hb2.size; clear hd2 hj2 hb2)
          | (go_at_call 40; refine HS2.out.mono ?_; rintro e w3 ⟨rfl, hb3⟩; have HD3 := hid2 (HD2.out.below hb3 (by omega) (by omega)); have HJ3 := hid2 (HJ2.out.keep (hb3.block j (by omega))); have HB3 : Hid2 (Below w.heap.size w2 w3) := hid2 (HG.out ▸ hb3); clear hb3)
          | (go_at_call 29; refine (HAN.out _ HJ3.out HD3.out).mono ?_; rintro e w4 ⟨rfl, hd4, hj4, hb4⟩; have HD4 := hid2 hd4; have HJ4 := hid2 hj4; have HB4 := hid2 hb4; clear hd4 hj4 hb4))
        go_ret
        show WPost w j p b (n + 3) nm false (swapR M left nm.data.toList rs) _ _
        rw [HSW.out]
        exact ⟨rfl, HD4.out, HJ4.out, (HB2.out.low HB3.out).trans HB4.out⟩
      · have hE0' : (E == 0) = false := by simpa using hE0
        rw [if_pos hE0] at hsw
        have HSW := hid2 hsw
        have HE0 := hid2 hE0
        clear hE0 hDl hD hDs hsw
        go_wp2_with (go_at_call 24; refine (HDO.out _ (HB.out.alloc (by omega) _) (Box.new' _ _ _ rfl)).mono ?_; rintro e w2 ⟨rfl, hd2, hj2, hb2⟩; have HD2 := hid2 hd2; have HJ2 := hid2 hj2; have HB2 := hid2 ((JBut.of_below (HG.out ▸ HB.out.alloc (by omega) _)).trans hb2); clear hd2 hj2 hb2)
        go_ret
        show WPost w j p b (n + 3) nm false (swapR M left nm.data.toList rs) _ _
        rw [HSW.out]
        exact ⟨rfl, HD2.out.mono (by omega), HJ2.out, HB2.out⟩
end Go.Proofs.YtehpapoboeejkaaGreat
/- Rows of acts: their cells, and the walk of Great. -/
namespace Go.Proofs.YtehpapoboeejkaaGreat
open Go.RowKit Go.Maps
/-- an act -/
structure ActE where
  kind : Int
  n : Int
  name : ByteArray
  to : ByteArray
  data : ByteArray
  pa : Option Addr
  pn : Nat
  pc : Nat
def actV (a : ActE) : List Value := [.int .i64 a.kind, .int .i64 a.n, .string a.name, .string a.to, .string a.data, .slice a.pa a.pn a.pc]
def actsV (l : List ActE) : List Value := l.flatMap actV
theorem actsV_length : ∀ l : List ActE, (actsV l).length = l.length * 6
  | [] => rfl
  | a :: r => by
    have h := actsV_length r
    simp only [actsV, List.flatMap_cons, List.length_append, List.length_cons] at h ⊢
    rw [h]
    simp [actV]
    omega
theorem actsV_get : ∀ (l : List ActE) (k : Nat) (a : ActE) (i : Nat) (v : Value), l[k]? = some a → (actV a)[i]? = some v → (actsV l)[k * 6 + i]? = some v
  | [], k, a, i, v, h, _ => by simp at h
  | x :: r, k, a, i, v, h, hv => by
    have hi : i < 6 := by
      have := (List.getElem?_eq_some_iff.1 hv).1
      simpa [actV] using this
    cases k with
    | zero =>
      obtain rfl := Option.some.inj (show some x = some a by simpa using h)
      rw [actsV, List.flatMap_cons, Nat.zero_mul, Nat.zero_add, List.getElem?_append_left (by simp [actV]; omega)]
      exact hv
    | succ k =>
      have := actsV_get r k a i v (by simpa using h) hv
      rw [actsV, List.flatMap_cons, List.getElem?_append_right (by simp [actV]; omega)]
      rw [show (k + 1) * 6 + i - (actV x).length = k * 6 + i by simp [actV]; omega]
      exact this
/-- sizes of an act's texts -/
def ActOk (a : ActE) : Prop := (a.name.size : Int) ≤ 140737488355328 ∧ (a.to.size : Int) ≤ 140737488355328 ∧ (a.data.size : Int) ≤ 140737488355328 ∧ (a.pn : Int) ≤ 140737488355328
def actW (a : ActE) : Nat := a.name.size + a.to.size + a.data.size + a.pn + 1
def actsW (l : List ActE) : Nat := (l.map actW).sum
theorem actsW_take {l : List ActE} {k : Nat} {a : ActE} (h : l[k]? = some a) : actsW (l.take (k + 1)) = actsW (l.take k) + actW a := by
  obtain ⟨hk, hx⟩ := List.getElem?_eq_some_iff.1 h
  rw [List.take_succ_eq_append_getElem hk, hx, actsW, actsW, List.map_append, List.sum_append]
  simp
theorem act_cells {w : World} {A : Option Addr} {l : List ActE} (hr : Rd w 6 A l.length (actsV l)) {k : Nat} {a : ActE} (h : l[k]? = some a) :
    ∃ b o, A = some ⟨b, o, none⟩ ∧ ∀ i v, (actV a)[i]? = some v → w.cell? ⟨b, o + (k * 6 + i), none⟩ = some v := by
  have hk : k < l.length := (List.getElem?_eq_some_iff.1 h).1
  obtain ⟨b, o, rfl, hc⟩ := hr.2 (by omega)
  exact ⟨b, o, rfl, fun i v hv => hc _ _ (actsV_get l k a i v h hv)⟩
/-- between two rounds of Great -/
structure GInv (w : World) (l : List ActE) (k : Nat) (wr : World) : Prop where
  sum : actsW (l.take k) ≤ 3000
  below : Below w.heap.size w wr
end Go.Proofs.YtehpapoboeejkaaGreat
/- Texts' beginnings, rows alike, and what a disk's acts leave of a file that was made sure. -/
namespace Go.Proofs.YtehpapoboeejkaaGreat
open Go.RowKit Go.Maps
theorem prefix_take {p l : List UInt8} (h : p.length ≤ l.length) : p.isPrefixOf l = (l.take p.length == p) := by
  rw [Bool.eq_iff_iff, List.isPrefixOf_iff_prefix, beq_iff_eq]
  constructor
  · rintro ⟨t, rfl⟩; simp
  · intro e; rw [← e]; exact List.take_prefix _ _
theorem prefix_short {p l : List UInt8} (h : ¬ p.length ≤ l.length) : p.isPrefixOf l = false := by
  rw [← Bool.not_eq_true, List.isPrefixOf_iff_prefix]
  exact fun e => h e.length_le
theorem actsW_take_le (l : List ActE) (k : Nat) : actsW (l.take k) ≤ actsW l := by
  have h : actsW l = actsW (l.take k) + actsW (l.drop k) := by
    unfold actsW
    rw [← List.sum_append, ← List.map_append, List.take_append_drop]
  omega
/-- what is said of a disk while acts go by -/
structure PS (name : List UInt8) (W : Nat) (M : Tab FileE) (sure : List UInt8) : Prop where
  all : ∀ x ∈ M, x.1.length ≤ W ∧ x.2.1.length ≤ W ∧ x.2.2 ≤ x.2.1.length
  one : ∀ f, getM M name = some f → sure <+: f.1 ∧ sure.length ≤ f.2
  no : getM M name = none → sure = []
theorem PS.mono {name : List UInt8} {W W' : Nat} {M : Tab FileE} {sure : List UInt8} (h : PS name W M sure) (hW : W ≤ W') : PS name W' M sure :=
  ⟨fun x hx => ⟨Nat.le_trans (h.all x hx).1 hW, Nat.le_trans (h.all x hx).2.1 hW, (h.all x hx).2.2⟩, h.one, h.no⟩
theorem PS.file {name : List UInt8} {W : Nat} {M : Tab FileE} {sure : List UInt8} (h : PS name W M sure) (k : List UInt8) : (fileOf M k).1.length ≤ W ∧ (fileOf M k).2 ≤ (fileOf M k).1.length := by
  unfold fileOf
  cases hg : getM M k with
  | none => exact ⟨Nat.zero_le _, Nat.zero_le _⟩
  | some f => exact ⟨(h.all _ (getM_mem hg)).2.1, (h.all _ (getM_mem hg)).2.2⟩
theorem PS.put {name : List UInt8} {W : Nat} {M : Tab FileE} {sure : List UInt8} (h : PS name W M sure) {k : List UInt8} (hk : k.length ≤ W) {f : FileE} (h1 : f.1.length ≤ W) (h2 : f.2 ≤ f.1.length) {sure' : List UInt8}
    (h3 : k = name → sure' <+: f.1 ∧ sure'.length ≤ f.2) (h4 : k ≠ name → sure' = sure) : PS name W (putM M k f) sure' := by
  refine ⟨fun x hx => ?_, fun g hg => ?_, fun hg => ?_⟩
  · rcases mem_put hx with rfl | hx
    · exact ⟨hk, h1, h2⟩
    · exact h.all x hx
  · by_cases e : k = name
    · subst e
      rw [getM_put_same] at hg
      obtain rfl := Option.some.inj hg
      exact h3 rfl
    · rw [getM_put_ne M f (fun h => e h.symm)] at hg
      rw [h4 e]
      exact h.one g hg
  · by_cases e : k = name
    · subst e
      rw [getM_put_same] at hg
      cases hg
    · rw [getM_put_ne M f (fun h => e h.symm)] at hg
      rw [h4 e]
      exact h.no hg
theorem PS.sure_file {name : List UInt8} {W : Nat} {M : Tab FileE} {sure : List UInt8} (h : PS name W M sure) : sure <+: (fileOf M name).1 ∧ sure.length ≤ (fileOf M name).2 := by
  unfold fileOf
  cases hg : getM M name with
  | none => rw [h.no hg]; exact ⟨List.nil_prefix, Nat.zero_le _⟩
  | some f => exact h.one f hg
theorem PS.app {name : List UInt8} {W W' : Nat} {M : Tab FileE} {sure : List UInt8} (h : PS name W M sure) {k d : List UInt8} (hk : k.length ≤ W') (hd : W + d.length ≤ W') (left : Int) : PS name W' (appM M left k d) sure := by
  have hm : PS name W' M sure := h.mono (by omega)
  unfold appM
  split
  · obtain ⟨f1, f2⟩ := h.file k
    refine hm.put hk (by rw [List.length_append]; omega) (by rw [List.length_append]; simp only; omega) (fun e => ?_) (fun _ => rfl)
    subst e
    exact ⟨h.sure_file.1.trans (List.prefix_append _ _), h.sure_file.2⟩
  · exact hm
theorem PS.sync {name : List UInt8} {W : Nat} {M : Tab FileE} {sure : List UInt8} (h : PS name W M sure) {k : List UInt8} (hk : k.length ≤ W) (left : Int) {sure' : List UInt8} (hs : sure' = sure ∨ k = name ∧ beginE M left true [strB k] k = 0 ∧ sure' = (fileOf M name).1) : PS name W (syncM M left k) sure' := by
  obtain ⟨f1, f2⟩ := h.file k
  unfold syncM
  split
  · refine h.put (f := ((fileOf M k).1, (fileOf M k).1.length)) hk f1 (Nat.le_refl _) (fun e => ?_) (fun e => ?_)
    · subst e
      rcases hs with rfl | ⟨_, _, rfl⟩
      · exact ⟨h.sure_file.1, h.sure_file.1.length_le⟩
      · exact ⟨List.prefix_refl _, Nat.le_refl _⟩
    · rcases hs with rfl | ⟨e2, _⟩
      · rfl
      · exact absurd e2 e
  · rename_i h0
    rcases hs with rfl | ⟨_, e, _⟩
    · exact h
    · exact absurd e h0
theorem PS.rem {name : List UInt8} {W : Nat} {M : Tab FileE} {sure : List UInt8} (h : PS name W M sure) {k : List UInt8} (left : Int) {sure' : List UInt8} (hs : sure' = sure ∧ (k ≠ name ∨ beginE M left true [strB k] k ≠ 0) ∨ k = name ∧ beginE M left true [strB k] k = 0 ∧ sure' = []) : PS name W (remM M left k) sure' := by
  unfold remM
  split
  · rename_i h0
    refine ⟨fun x hx => h.all x (List.mem_filter.1 hx).1, fun f hf => ?_, fun hf => ?_⟩
    · by_cases e : k = name
      · subst e
        rw [getM_del_same] at hf
        cases hf
      · rw [getM_del_ne M (fun h => e h.symm)] at hf
        rcases hs with ⟨rfl, _⟩ | ⟨e2, _⟩
        · exact h.one f hf
        · exact absurd e2 e
    · by_cases e : k = name
      · rcases hs with ⟨_, e2 | e2⟩ | ⟨_, _, rfl⟩
        · exact absurd e e2
        · exact absurd h0 e2
        · rfl
      · rw [getM_del_ne M (fun h => e h.symm)] at hf
        rcases hs with ⟨rfl, _⟩ | ⟨e2, _⟩
        · exact h.no hf
        · exact absurd e2 e
  · rename_i h0
    rcases hs with ⟨rfl, _⟩ | ⟨_, e, _⟩
    · exact h
    · exact absurd e h0
theorem read_sync {M : Tab FileE} {left : Int} {k : List UInt8} (h : beginE M left true [strB k] k = 0) : readV (syncM M left k) k = .tuple #[.string (strB (fileOf M k).1), .int .i64 0] := by
  unfold syncM readV
  rw [if_pos h, getM_put_same]
theorem begin_ok {M : Tab FileE} {k : List UInt8} (hk : k ≠ []) : beginE M (-1) false [strB k] k = 0 := by
  unfold beginE
  rw [if_neg (by simp [strB, hk]), if_neg (by rw [Bool.false_and]; decide), if_neg (by decide)]
theorem begin_left (M : Tab FileE) (there : Bool) (ns : List ByteArray) (k : List UInt8) : beginL M (-1) there ns k = -1 := by
  unfold beginL
  rw [if_neg (by omega)]
/-- what is read at the end -/
theorem PS.end_ {name : List UInt8} {W : Nat} {M : Tab FileE} {sure : List UInt8} (h : PS name W M sure) {data : List UInt8} (hr : Rises (appM M (-1) name data)) (hn : name ≠ []) (ps : List Int) :
    ∃ F G : List UInt8, readV (appM M (-1) name data) name = .tuple #[.string (strB F), .int .i64 0] ∧ readV (crashP (appM M (-1) name data) ps).1 name = .tuple #[.string (strB G), .int .i64 0] ∧ sure.isPrefixOf G = true ∧ G.isPrefixOf F = true ∧ F.length ≤ W + data.length ∧ G.length ≤ W + data.length ∧ sure.length ≤ W := by
  obtain ⟨f1, f2⟩ := h.file name
  obtain ⟨s1, s2⟩ := h.sure_file
  have hE : appM M (-1) name data = putM M name ((fileOf M name).1 ++ data, (fileOf M name).2) := by unfold appM; rw [if_pos (begin_ok hn)]
  rw [hE] at hr ⊢
  have hg := getM_put_same M name ((fileOf M name).1 ++ data, (fileOf M name).2)
  obtain ⟨T, n, hT, hle⟩ := crash_get hr ps hg (by rw [List.length_append]; simp only; omega)
  refine ⟨_, _, by unfold readV; rw [hg], by unfold readV; rw [hT], ?_, ?_, by rw [List.length_append]; omega, by rw [List.length_take, List.length_append]; omega, by have := s1.length_le; omega⟩
  · rw [List.isPrefixOf_iff_prefix]
    simp only at hle
    exact List.prefix_of_prefix_length_le (s1.trans (List.prefix_append _ _)) (List.take_prefix _ _) (by have := s1.length_le; rw [List.length_take, List.length_append]; omega)
  · rw [List.isPrefixOf_iff_prefix]
    exact List.take_prefix _ _
end Go.Proofs.YtehpapoboeejkaaGreat
/- Tables that rise are told by what they hold; a file that is renamed; sizes of what a disk has; what a crash leaves. Plain laws. -/
namespace Go.Proofs.YtehpapoboeejkaaGreat
open Go.RowKit Go.Maps
section
variable {α : Type}
theorem before_irrefl (k : List UInt8) : bytesBefore k k = false := by
  rw [← Bool.not_eq_true, bytesBefore_lt]
  exact List.lt_irrefl _
theorem getM_low {M : Tab α} {k : List UInt8} (h : ∀ x ∈ M, bytesBefore k x.1 = true) : getM M k = none := by
  unfold getM
  rw [List.find?_eq_none.2 (fun y hy => ?_)]
  · rfl
  · have := h y hy
    simp only [beq_iff_eq]
    intro e
    rw [e, before_irrefl] at this
    cases this
theorem before_trans {a b c : List UInt8} (h1 : bytesBefore a b = true) (h2 : bytesBefore b c = true) : bytesBefore a c = true := by
  rw [bytesBefore_lt] at *
  exact List.lt_trans h1 h2
theorem before_or (a b : List UInt8) : bytesBefore a b = true ∨ a = b ∨ bytesBefore b a = true := by
  rw [bytesBefore_lt, bytesBefore_lt]
  by_cases h : a < b
  · exact .inl h
  · by_cases h2 : b < a
    · exact .inr (.inr h2)
    · exact .inr (.inl (List.le_antisymm (List.not_lt.1 h2) (List.not_lt.1 h)))
theorem getM_cons (x : List UInt8 × α) (r : Tab α) (k : List UInt8) : getM (x :: r) k = if x.1 = k then some x.2 else getM r k := by
  unfold getM
  rw [List.find?_cons]
  by_cases h : x.1 = k
  · simp [h]
  · have : (x.1 == k) = false := by simpa using h
    rw [this, if_neg h]
theorem rises_ext : ∀ {M M' : Tab α}, Rises M → Rises M' → (∀ k, getM M k = getM M' k) → M = M'
  | [], [], _, _, _ => rfl
  | [], y :: s, _, _, h => by
    have := h y.1
    rw [getM_cons, if_pos rfl] at this
    cases this
  | x :: r, [], _, _, h => by
    have := h x.1
    rw [getM_cons, if_pos rfl] at this
    cases this
  | x :: r, y :: s, h1, h2, h => by
    have p1 := List.pairwise_cons.1 h1
    have p2 := List.pairwise_cons.1 h2
    rcases before_or x.1 y.1 with hb | he | hb
    · have := h x.1
      rw [getM_cons, if_pos rfl, getM_low (M := y :: s) (k := x.1) (fun z hz => by
        rcases List.mem_cons.1 hz with rfl | hz
        · exact hb
        · exact before_trans hb (p2.1 z hz))] at this
      cases this
    · have hv := h x.1
      rw [getM_cons, if_pos rfl, getM_cons, if_pos he.symm] at hv
      have hxy : x = y := Prod.ext he (Option.some.inj hv)
      rw [hxy, rises_ext p1.2 p2.2 (fun k => ?_)]
      have hk := h k
      rw [getM_cons, getM_cons, ← he] at hk
      by_cases e : x.1 = k
      · rw [← e, getM_low p1.1, he, getM_low p2.1]
      · rw [if_neg e, if_neg e] at hk
        exact hk
    · have := h y.1
      rw [getM_cons (x := y), if_pos rfl, getM_low (M := x :: r) (k := y.1) (fun z hz => by
        rcases List.mem_cons.1 hz with rfl | hz
        · exact hb
        · exact before_trans hb (p1.1 z hz))] at this
      cases this
theorem rises_del {M : Tab α} (h : Rises M) (k : List UInt8) : Rises (delM M k) := h.filter _
theorem rises_ins {x : List UInt8 × α} : ∀ {M : Tab α}, Rises M → (∀ y ∈ M, y.1 ≠ x.1) → Rises (insM x M)
  | [], _, _ => List.pairwise_singleton _ _
  | y :: r, h, hne => by
    have p := List.pairwise_cons.1 h
    unfold insM
    split
    · rename_i hb
      refine List.pairwise_cons.2 ⟨fun z hz => ?_, h⟩
      rcases List.mem_cons.1 hz with rfl | hz
      · exact hb
      · exact before_trans hb (p.1 z hz)
    · rename_i hb
      have hyx : bytesBefore y.1 x.1 = true := by
        rcases before_or x.1 y.1 with h1 | h1 | h1
        · exact absurd h1 hb
        · exact absurd h1.symm (hne y (by simp))
        · exact h1
      refine List.pairwise_cons.2 ⟨fun z hz => ?_, rises_ins p.2 (fun z hz => hne z (List.mem_cons_of_mem _ hz))⟩
      rcases mem_ins hz with rfl | hz
      · exact hyx
      · exact p.1 z hz
theorem rises_put {M : Tab α} (h : Rises M) (k : List UInt8) (a : α) : Rises (putM M k a) := rises_ins (rises_del h k) delM_ne
end
/-- the reference's renaming leaves what the disk's does -/
theorem ren_del_put {M : Tab FileE} (hr : Rises M) {k k2 : List UInt8} {f : FileE} (hk : getM M k = some f) : putM (delM M k) k2 f = if k ≠ k2 then delM (putM M k2 f) k else M := by
  by_cases e : k = k2
  · subst e
    rw [if_neg (by simp)]
    refine rises_ext (rises_put (rises_del hr _) _ _) hr fun x => ?_
    by_cases h : x = k
    · subst h; rw [getM_put_same, hk]
    · rw [getM_put_ne _ _ h, getM_del_ne _ h]
  · rw [if_pos e]
    refine rises_ext (rises_put (rises_del hr _) _ _) (rises_del (rises_put hr _ _) _) fun x => ?_
    by_cases h : x = k
    · subst h
      rw [getM_put_ne _ _ e, getM_del_same, getM_del_same]
    · rw [getM_del_ne _ h]
      by_cases h2 : x = k2
      · subst h2; rw [getM_put_same, getM_put_same]
      · rw [getM_put_ne _ _ h2, getM_put_ne _ _ h2, getM_del_ne _ h]
/-- no text is greater than W -/
def Szs (W : Nat) (M : Tab FileE) : Prop := ∀ x ∈ M, x.1.length ≤ W ∧ x.2.1.length ≤ W ∧ x.2.2 ≤ x.2.1.length
theorem Szs.mono {W W' : Nat} {M : Tab FileE} (h : Szs W M) (hw : W ≤ W') : Szs W' M := fun x hx => ⟨Nat.le_trans (h x hx).1 hw, Nat.le_trans (h x hx).2.1 hw, (h x hx).2.2⟩
theorem Szs.file {W : Nat} {M : Tab FileE} (h : Szs W M) (k : List UInt8) : (fileOf M k).1.length ≤ W ∧ (fileOf M k).2 ≤ (fileOf M k).1.length := by
  unfold fileOf
  cases hg : getM M k with
  | none => exact ⟨Nat.zero_le _, Nat.zero_le _⟩
  | some f => exact ⟨(h _ (getM_mem hg)).2.1, (h _ (getM_mem hg)).2.2⟩
theorem Szs.put {W : Nat} {M : Tab FileE} (h : Szs W M) {k : List UInt8} (hk : k.length ≤ W) {f : FileE} (h1 : f.1.length ≤ W) (h2 : f.2 ≤ f.1.length) : Szs W (putM M k f) := fun x hx => by
  rcases mem_put hx with rfl | hx
  · exact ⟨hk, h1, h2⟩
  · exact h x hx
theorem Szs.del {W : Nat} {M : Tab FileE} (h : Szs W M) (k : List UInt8) : Szs W (delM M k) := fun x hx => h x (List.mem_filter.1 hx).1
theorem crash1_sz {x : List UInt8 × FileE} (_ : x.2.2 ≤ x.2.1.length) (ps : List Int) : (crash1 x ps).1.2.1.length ≤ x.2.1.length ∧ (crash1 x ps).1.2.2 ≤ (crash1 x ps).1.2.1.length := by
  unfold crash1
  split
  · have hm := Int.emod_lt_of_pos (ps.headD 0) (show (0 : Int) < ((x.2.1.length - x.2.2 : Nat) + 1 : Int) by omega)
    have hn := Int.emod_nonneg (ps.headD 0) (show (((x.2.1.length - x.2.2 : Nat) : Int) + 1) ≠ 0 by omega)
    simp only [List.length_take]
    omega
  · exact ⟨Nat.le_refl _, Nat.le_refl _⟩
theorem Szs.crash {W : Nat} {M : Tab FileE} (h : Szs W M) (ps : List Int) : Szs W (crashP M ps).1 := by
  suffices hh : ∀ L : Tab FileE, Szs W L.reverse → Szs W (crashP L.reverse ps).1 by
    have := hh M.reverse (by simpa using h)
    simpa using this
  intro L
  induction L with
  | nil => intro _ x hx; simp [crashP] at hx
  | cons y r ih =>
    intro hs
    rw [List.reverse_cons, crashP_snoc]
    rw [List.reverse_cons] at hs
    intro x hx
    rcases List.mem_append.1 hx with hx | hx
    · exact ih (fun z hz => hs z (List.mem_append_left _ hz)) x hx
    · obtain rfl := List.mem_singleton.1 hx
      have hy := hs y (by simp)
      have := crash1_sz hy.2.2 (crashP r.reverse ps).2
      rw [crash1_key]
      exact ⟨hy.1, Nat.le_trans this.1 hy.2.1, this.2⟩
theorem crash_length (M : Tab FileE) (ps : List Int) : (crashP M ps).1.length = M.length := by
  have := congrArg List.length (crashP_keys ps M)
  simpa using this
end Go.Proofs.YtehpapoboeejkaaGreat
/- A journal on a disk: what its calls leave, plain. -/
namespace Go.Proofs.YtehpapoboeejkaaGreat
open Go.RowKit Go.Maps
theorem insM_len {α : Type} (x : List UInt8 × α) : ∀ M : Tab α, (insM x M).length = M.length + 1
  | [] => rfl
  | y :: r => by
    unfold insM
    split
    · rfl
    · rw [List.length_cons, insM_len x r]
      rfl
theorem putM_len {α : Type} (M : Tab α) (k : List UInt8) (a : α) : (putM M k a).length ≤ M.length + 1 := by
  rw [putM, insM_len]
  have : (delM M k).length ≤ M.length := List.length_filter_le _ _
  omega
theorem delM_len1 {α : Type} (M : Tab α) (k : List UInt8) : (delM M k).length ≤ M.length := List.length_filter_le _ _
/-- how great a table is: names, texts, and how many -/
structure Wide (W N : Nat) (M : Tab FileE) : Prop where
  rises : Rises M
  szs : Szs W M
  len : M.length ≤ N
theorem Wide.mono {W N W' N' : Nat} {M : Tab FileE} (h : Wide W N M) (hw : W ≤ W') (hn : N ≤ N') : Wide W' N' M := ⟨h.rises, h.szs.mono hw, Nat.le_trans h.len hn⟩
theorem Wide.app {W N : Nat} {M : Tab FileE} (h : Wide W N M) (left : Int) {k d : List UInt8} (hk : k.length ≤ W) : Wide (W + d.length) (N + 1) (appM M left k d) := by
  unfold appM
  split
  · refine ⟨rises_put h.rises _ _, (h.szs.mono (Nat.le_add_right _ _)).put (Nat.le_trans hk (Nat.le_add_right _ _)) ?_ ?_, Nat.le_trans (putM_len _ _ _) (Nat.succ_le_succ h.len)⟩
    · rw [List.length_append]
      have := (h.szs.file k).1
      omega
    · show (fileOf M k).2 ≤ ((fileOf M k).1 ++ d).length
      rw [List.length_append]
      have := (h.szs.file k).2
      omega
  · exact h.mono (Nat.le_add_right _ _) (Nat.le_succ _)
theorem Wide.sync {W N : Nat} {M : Tab FileE} (h : Wide W N M) (left : Int) {k : List UInt8} (hk : k.length ≤ W) : Wide W (N + 1) (syncM M left k) := by
  unfold syncM
  split
  · exact ⟨rises_put h.rises _ _, h.szs.put hk (h.szs.file k).1 (Nat.le_refl _), Nat.le_trans (putM_len _ _ _) (Nat.succ_le_succ h.len)⟩
  · exact h.mono (Nat.le_refl _) (Nat.le_succ _)
theorem Wide.rem {W N : Nat} {M : Tab FileE} (h : Wide W N M) (left : Int) (k : List UInt8) : Wide W N (remM M left k) := by
  unfold remM
  split
  · exact ⟨rises_del h.rises _, h.szs.del k, Nat.le_trans (delM_len1 _ _) h.len⟩
  · exact h
theorem Wide.ren {W N : Nat} {M : Tab FileE} (h : Wide W N M) (left : Int) {k k2 : List UInt8} (hk : k2.length ≤ W) : Wide W (N + 1) (renM M left k k2) := by
  unfold renM
  split
  · exact ⟨rises_del (rises_put h.rises _ _) _, (h.szs.put hk (h.szs.file k).1 (h.szs.file k).2).del k, Nat.le_trans (delM_len1 _ _) (Nat.le_trans (putM_len _ _ _) (Nat.succ_le_succ h.len))⟩
  · exact h.mono (Nat.le_refl _) (Nat.le_succ _)
theorem Wide.crash {W N : Nat} {M : Tab FileE} (h : Wide W N M) (ps : List Int) : Wide W N (crashP M ps).1 := by
  refine ⟨?_, h.szs.crash ps, by rw [crash_length]; exact h.len⟩
  exact rises_keys (crashP_keys ps M) h.rises
theorem Wide.tid {W N : Nat} {M : Tab FileE} (h : Wide W N M) (left : Int) (k : List UInt8) : Wide W N (tidM M left k) := by
  unfold tidM
  split
  · exact h.rem left k
  · exact h
theorem Wide.app2 {W N : Nat} {M : Tab FileE} (h : Wide W N M) (left : Int) {k d : List UInt8} (hk : k.length ≤ W) (hd : (fileOf M k).1.length + d.length ≤ W) : Wide W (N + 1) (appM M left k d) := by
  unfold appM
  split
  · refine ⟨rises_put h.rises _ _, h.szs.put hk ?_ ?_, Nat.le_trans (putM_len _ _ _) (Nat.succ_le_succ h.len)⟩
    · rw [List.length_append]
      exact hd
    · show (fileOf M k).2 ≤ ((fileOf M k).1 ++ d).length
      rw [List.length_append]
      have := (h.szs.file k).2
      omega
  · exact h.mono (Nat.le_refl _) (Nat.le_succ _)
theorem tid_none {M : Tab FileE} {left : Int} {k : List UInt8} (h : tidE M left k = 0) : (fileOf (tidM M left k) k).1 = [] := by
  have h2 : getM (tidM M left k) k = none := by
    unfold tidE at h
    unfold tidM
    by_cases hs : (getM M k).isSome = true
    · rw [if_pos hs] at h ⊢
      unfold remM
      rw [if_pos h]
      exact getM_del_same M k
    · rw [if_neg hs]
      simpa using hs
  unfold fileOf
  rw [h2]
  rfl
theorem Wide.anew {W N : Nat} {M : Tab FileE} (h : Wide W N M) (left : Int) {o d nm : List UInt8} (ho : o.length ≤ W) (hn : nm.length ≤ W) (hd : (fileOf M o).1.length + d.length ≤ W) : Wide W (N + 3) (anewR M left o d nm).2.1 := by
  have h1 := h.app2 left (d := d) ho hd
  have h2 := h1.sync (beginL M left false [strB o] o) (k := o) ho
  have h3 := h2.ren (beginL (appM M left o d) (beginL M left false [strB o] o) true [strB o] o) (k := o) (k2 := nm) hn
  unfold anewR
  simp only
  split
  · exact h1.mono (Nat.le_refl _) (by omega)
  · split
    · exact h2.mono (Nat.le_refl _) (by omega)
    · exact h3
theorem Wide.add {W N : Nat} {M : Tab FileE} (h : Wide W N M) (left : Int) {nm f : List UInt8} (hn : nm.length ≤ W) : Wide (W + f.length) (N + 3) (addR M left nm f).2.1 := by
  have h1 := h.app left (d := f) hn
  have h2 := h1.sync (beginL M left false [strB nm] nm) (k := nm) (by omega)
  unfold addR
  simp only
  split
  · exact h1.mono (Nat.le_refl _) (by omega)
  · exact h2.mono (Nat.le_refl _) (by omega)
/-- what is left of a budget -/
def LeftOk (L : Int) : Prop := -1 ≤ L ∧ L ≤ 9223372036854775807
theorem LeftOk.begins {M : Tab FileE} {left : Int} (h : LeftOk left) (t : Bool) (ns : List ByteArray) (k : List UInt8) : LeftOk (beginL M left t ns k) := begin_LJ h t ns k
theorem LeftOk.tid {M : Tab FileE} {left : Int} (h : LeftOk left) (k : List UInt8) : LeftOk (tidL M left k) := by
  unfold tidL
  split
  · exact h.begins _ _ _
  · exact h
theorem LeftOk.anew {M : Tab FileE} {left : Int} (h : LeftOk left) (o d nm : List UInt8) : LeftOk (anewR M left o d nm).2.2 := by
  unfold anewR
  simp only
  split
  · exact h.begins _ _ _
  · split
    · exact (h.begins _ _ _).begins _ _ _
    · exact ((h.begins _ _ _).begins _ _ _).begins _ _ _
theorem LeftOk.add {M : Tab FileE} {left : Int} (h : LeftOk left) (nm f : List UInt8) : LeftOk (addR M left nm f).2.2 := by
  unfold addR
  simp only
  split
  · exact h.begins _ _ _
  · exact (h.begins _ _ _).begins _ _ _
theorem newL_len (k : List UInt8) : (newL k).length = k.length + 4 := by rw [newL, List.length_append]; rfl
theorem Wide.open_ {W N : Nat} {M : Tab FileE} (h : Wide W N M) (left : Int) {nm : List UInt8} (hn : nm.length + 4 ≤ W) : Wide W (N + 3) (openR M left nm).2.2.1 := by
  have h1 := h.tid left (newL nm)
  unfold openR
  simp only
  split
  · exact h1.mono (Nat.le_refl _) (by omega)
  · rename_i ht
    have hno := tid_none (M := M) (left := left) (k := newL nm) (by simpa using ht)
    split
    · exact h1.mono (Nat.le_refl _) (by omega)
    · rename_i f hf
      have hfl : f.1.length ≤ W := by
        have := (h1.szs.file nm).1
        unfold fileOf at this
        rw [hf] at this
        exact this
      have h3 := h1.anew (tidL M left (newL nm)) (o := newL nm) (d := f.1.take (scanL f.1).2) (nm := nm) (by rw [newL_len]; exact hn) (by omega) (by rw [hno, List.length_take, List.length_nil]; omega)
      split
      · split
        · exact h3
        · exact h3
      · exact h1.mono (Nat.le_refl _) (by omega)
theorem Wide.swap {W N : Nat} {M : Tab FileE} (h : Wide W N M) (left : Int) {nm : List UInt8} (hn : nm.length + 4 ≤ W) {rs : List (List UInt8)} (hr : (framesL rs).length ≤ W) : Wide W (N + 3) (swapR M left nm rs).2.1 := by
  have h1 := h.tid left (newL nm)
  unfold swapR
  split
  · exact h1.mono (Nat.le_refl _) (by omega)
  · rename_i ht
    have hno := tid_none (M := M) (left := left) (k := newL nm) (by simpa using ht)
    exact h1.anew _ (by rw [newL_len]; exact hn) (by omega) (by rw [hno, List.length_nil]; omega)
theorem LeftOk.swap {M : Tab FileE} {left : Int} (h : LeftOk left) (nm : List UInt8) (rs : List (List UInt8)) : LeftOk (swapR M left nm rs).2.2 := by
  unfold swapR
  split
  · exact h.tid _
  · exact (h.tid _).anew _ _ _
theorem LeftOk.open_ {M : Tab FileE} {left : Int} (h : LeftOk left) (nm : List UInt8) : LeftOk (openR M left nm).2.2.2 := by
  unfold openR
  simp only
  split
  · exact h.tid _
  · split
    · exact h.tid _
    · split
      · split
        · exact (h.tid _).anew _ _ _
        · exact (h.tid _).anew _ _ _
      · exact h.tid _
end Go.Proofs.YtehpapoboeejkaaGreat
/- The reference's disk as a row of files: At, Read. -/
namespace Go.Proofs.YtehpapoboeejkaaGreat
open Go.RowKit Go.Maps
/-- a file's three cells -/
def rfV (x : List UInt8 × FileE) : List Value := [.string (strB x.1), .string (strB x.2.1), .int .i64 x.2.2]
def rfsV (M : Tab FileE) : List Value := M.flatMap rfV
theorem rfsV_length : ∀ M : Tab FileE, (rfsV M).length = M.length * 3
  | [] => rfl
  | x :: r => by
    have h := rfsV_length r
    simp only [rfsV, List.flatMap_cons, List.length_append, List.length_cons] at h ⊢
    rw [h]
    simp [rfV]
    omega
theorem rfsV_get : ∀ (M : Tab FileE) (k : Nat) (x : List UInt8 × FileE) (i : Nat) (v : Value), M[k]? = some x → (rfV x)[i]? = some v → (rfsV M)[k * 3 + i]? = some v
  | [], k, x, i, v, h, _ => by simp at h
  | y :: r, k, x, i, v, h, hv => by
    have hi : i < 3 := by
      have := (List.getElem?_eq_some_iff.1 hv).1
      simpa [rfV] using this
    cases k with
    | zero =>
      obtain rfl := Option.some.inj (show some y = some x by simpa using h)
      rw [rfsV, List.flatMap_cons, Nat.zero_mul, Nat.zero_add, List.getElem?_append_left (by simp [rfV]; omega)]
      exact hv
    | succ k =>
      have := rfsV_get r k x i v (by simpa using h) hv
      rw [rfsV, List.flatMap_cons, List.getElem?_append_right (by simp [rfV]; omega)]
      rw [show (k + 1) * 3 + i - (rfV y).length = k * 3 + i by simp [rfV]; omega]
      exact this
theorem rf_cells {w : World} {A : Option Addr} {M : Tab FileE} (hr : Rd w 3 A M.length (rfsV M)) {k : Nat} {x : List UInt8 × FileE} (h : M[k]? = some x) :
    ∃ b o, A = some ⟨b, o, none⟩ ∧ w.cell? ⟨b, o + k * 3, none⟩ = some (.string (strB x.1)) ∧ w.cell? ⟨b, o + k * 3 + 1, none⟩ = some (.string (strB x.2.1)) ∧ w.cell? ⟨b, o + k * 3 + 2, none⟩ = some (.int .i64 x.2.2) := by
  have hk : k < M.length := (List.getElem?_eq_some_iff.1 h).1
  obtain ⟨b, o, rfl, hc⟩ := hr.2 (by omega)
  refine ⟨b, o, rfl, hc _ _ (rfsV_get M k x 0 _ h rfl), ?_, ?_⟩
  · rw [Nat.add_assoc]; exact hc _ _ (rfsV_get M k x 1 _ h rfl)
  · rw [Nat.add_assoc]; exact hc _ _ (rfsV_get M k x 2 _ h rfl)
/-- what At answers -/
def AtIs (M : Tab FileE) (k : List UInt8) (v : Int) : Prop := (∃ i x, M[i]? = some x ∧ x.1 = k ∧ v = (i : Nat)) ∨ v = -1 ∧ ∀ x ∈ M, x.1 ≠ k
set_option maxRecDepth 100000 in
theorem at07m_any (w : World) (A : Option Addr) (c : Nat) (M : Tab FileE) (left : Int) (hr : Rd w 3 A M.length (rfsV M)) (hl : M.length ≤ 1000000000) (s : ByteArray) :
    Calls Tryz.prog 44 #[.agg #[.slice A M.length c, .int .i64 left], .string s] w fun e w' => ∃ v, e = .returned (.int .i64 v) ∧ AtIs M s.data.toList v ∧ Below w.heap.size w w' := by
  obtain ⟨N, hN⟩ : ∃ N, N = M.length := ⟨_, rfl⟩
  have hB : Below w.heap.size w (w.alloc (.cells #[.slice A N c, .int .i64 left] 30)) := (Below.refl _ _).alloc (Nat.le_refl _) _
  have HR := hid2 hr
  rw [← hN] at hl ⊢
  have HN := hid2 hN
  clear hr hN
  go_enter Tryz.func44, Tryz.ntmps44
  go_wp2_with fail
  go_loopg [10] N (fun gk i wr => ∃ k : Nat, k + gk = N ∧ i = .int .i64 k ∧ (∀ j x, j < k → M[j]? = some x → x.1 ≠ s.data.toList) ∧ Below w.heap.size w wr)
  case atStart => exact ⟨0, by omega, rfl, fun j x hj => absurd hj (Nat.not_lt_zero _), hB⟩
  case round =>
    obtain ⟨k, hk, rfl, hno, hb⟩ := hrel
    have hHw := hb.size
    have HNO := hid2 hno
    by_cases hlt : k < N
    · have hlt' : (k : Int) < N := by omega
      obtain ⟨x, hx⟩ : ∃ x, M[k]? = some x := ⟨_, List.getElem?_eq_getElem (by rw [← HN.out]; exact hlt)⟩
      obtain ⟨b, o, rfl, c0, c1, c2⟩ := rf_cells (HR.out.below_all hb) hx
      obtain ⟨S, hS⟩ : ∃ S, S = strB x.1 := ⟨_, rfl⟩
      obtain ⟨T, hT⟩ : ∃ T, T = strB x.2.1 := ⟨_, rfl⟩
      obtain ⟨U, hU⟩ : ∃ U : Int, U = x.2.2 := ⟨_, rfl⟩
      rw [← hS] at c0
      rw [← hT] at c1
      rw [← hU] at c2
      have HX := hid2 hx
      have HS := hid2 hS
      clear hno hx hS hT hU
      by_cases he : S = s
      · have he2 : x.1 = s.data.toList := by rw [← he, HS.out, strB_list]
        have HE := hid2 he2
        clear he2
        subst he
        go_wp2_with fail
        go_ret
        exact ⟨_, rfl, .inl ⟨k, x, HX.out, HE.out, rfl⟩, hb.alloc hHw _⟩
      · have he2 : (S.toList == s.toList) = false := by rw [ByteArray.toList_eq, ByteArray.toList_eq]; exact beq_eq_false_iff_ne.2 (fun h => he (bytes_ext h))
        have he3 : x.1 ≠ s.data.toList := fun h => he (bytes_ext (by rw [HS.out, strB_list]; exact h))
        have HE := hid2 he3
        clear he3
        go_wp2_with fail
        go_roundg (gk - 1)
        case rel =>
          refine ⟨k + 1, by omega, by go_num, fun j y hj hy => ?_, hb.alloc hHw _⟩
          rcases Nat.lt_succ_iff_lt_or_eq.1 hj with h | rfl
          · exact HNO.out j y h hy
          · rw [HX.out] at hy
            obtain rfl := Option.some.inj hy
            exact HE.out
        case measure => omega
    · have hkN : k = N := by omega
      have hlt' : ¬ (k : Int) < N := by omega
      have HKN := hid2 hkN
      clear hno hkN hlt
      go_wp2_with fail
      go_ret
      refine ⟨_, rfl, .inr ⟨rfl, fun x hx => ?_⟩, hb⟩
      obtain ⟨j, hj⟩ := List.getElem?_of_mem hx
      exact HNO.out j x (by have := (List.getElem?_eq_some_iff.1 hj).1; rw [HKN.out, HN.out]; exact this) hj
end Go.Proofs.YtehpapoboeejkaaGreat
/- The walk of DiskSure. -/
namespace Go.Proofs.YtehpapoboeejkaaGreat
open Go.RowKit Go.Maps
theorem actsW_len : ∀ l : List ActE, l.length ≤ actsW l
  | [] => Nat.zero_le _
  | a :: r => by
    have := actsW_len r
    have h1 : 1 ≤ actW a := by unfold actW; omega
    unfold actsW at this ⊢
    rw [List.map_cons, List.sum_cons, List.length_cons]
    omega
theorem crashP_len (M : Tab FileE) (ps : List Int) : (crashP M ps).1.length = M.length := by
  have := congrArg List.length (crashP_keys ps M)
  simpa using this
theorem names_at (w : World) (p b n : Nat) (M : Tab FileE) (left : Int) (h : DiskIs w p b n M left) (hn : n ≤ 1000000000) {L : Nat} {KS : List ByteArray} (hL : M.length = L) (hK : strV (M.map (·.1)) = KS.map Value.string) :
    Calls Tryz.prog 42 #[.pointer (some ⟨p, 0, none⟩)] w fun e w' => ∃ A c, e = .returned (.slice A L c) ∧ Rd w' 1 A L (KS.map Value.string) ∧ Below w.heap.size w w' :=
  (names_any w p b n M left h hn).mono fun _ _ ⟨A, c, h1, h2, h3⟩ => ⟨A, c, by rw [h1, hL], by rw [← hK, ← hL]; exact h2.rd, h3⟩
/-- between two rounds of DiskSure -/
structure SInv (w : World) (p b : Nat) (name : List UInt8) (l : List ActE) (k : Nat) (sure : List UInt8) (wr : World) : Prop where
  below : Below w.heap.size w wr
  disk : ∃ M, DiskIs wr p b k M (-1) ∧ PS name (actsW (l.take k)) M sure
end Go.Proofs.YtehpapoboeejkaaGreat
/- The reference's disk as a row of files: Read, Names, pass. -/
namespace Go.Proofs.YtehpapoboeejkaaGreat
open Go.RowKit Go.Maps
theorem AtIs.uniq {M : Tab FileE} (hr : Rises M) {k : List UInt8} {u v : Int} (h1 : AtIs M k u) (h2 : AtIs M k v) : u = v := by
  rcases h1 with ⟨i, x, hi, hx, rfl⟩ | ⟨rfl, hn⟩
  · rcases h2 with ⟨j, y, hj, hy, rfl⟩ | ⟨_, hn⟩
    · obtain ⟨hil, hie⟩ := List.getElem?_eq_some_iff.1 hi
      obtain ⟨hjl, hje⟩ := List.getElem?_eq_some_iff.1 hj
      have hp := List.pairwise_iff_getElem.1 hr
      rcases Nat.lt_trichotomy i j with h | h | h
      · have := hp i j hil hjl h
        rw [hie, hje, hx, hy] at this
        rw [bytesBefore_lt] at this
        exact absurd this (List.lt_irrefl _)
      · rw [h]
      · have := hp j i hjl hil h
        rw [hie, hje, hx, hy] at this
        rw [bytesBefore_lt] at this
        exact absurd this (List.lt_irrefl _)
    · exact absurd hx (hn x (List.mem_of_getElem? hi))
  · rcases h2 with ⟨j, y, hj, hy, _⟩ | ⟨rfl, _⟩
    · exact absurd hy (hn y (List.mem_of_getElem? hj))
    · rfl
theorem at07v_any (w : World) (A : Option Addr) (c : Nat) (M : Tab FileE) (left : Int) (hr : Rd w 3 A M.length (rfsV M)) (hl : M.length ≤ 1000000000) (hri : Rises M) (s : ByteArray) {v : Int} (hv : AtIs M s.data.toList v) :
    Calls Tryz.prog 44 #[.agg #[.slice A M.length c, .int .i64 left], .string s] w fun e w' => e = .returned (.int .i64 v) ∧ Below w.heap.size w w' :=
  (at07m_any w A c M left hr hl s).mono fun _ _ ⟨_, h1, h2, h3⟩ => ⟨by rw [h1, h2.uniq hri hv], h3⟩
theorem AtIs.ex (M : Tab FileE) (k : List UInt8) : ∃ v, AtIs M k v := by
  by_cases h : ∃ x ∈ M, x.1 = k
  · obtain ⟨x, hx, he⟩ := h
    obtain ⟨i, hi⟩ := List.getElem?_of_mem hx
    exact ⟨i, .inl ⟨i, x, hi, he, rfl⟩⟩
  · exact ⟨-1, .inr ⟨rfl, fun x hx he => h ⟨x, hx, he⟩⟩⟩
theorem getM_no {M : Tab FileE} {k : List UInt8} (h : ∀ x ∈ M, x.1 ≠ k) : getM M k = none := by
  unfold getM
  rw [List.find?_eq_none.2 (fun y hy => by simpa using h y hy)]
  rfl
set_option maxRecDepth 100000 in
theorem read07m_any (w : World) (A : Option Addr) (c : Nat) (M : Tab FileE) (left : Int) (hr : Rd w 3 A M.length (rfsV M)) (hl : M.length ≤ 1000000000) (hri : Rises M) (s : ByteArray) :
    Calls Tryz.prog 31 #[.agg #[.slice A M.length c, .int .i64 left], .string s] w fun e w' => e = .returned (readV M s.data.toList) ∧ Below w.heap.size w w' := by
  obtain ⟨v, hv⟩ := AtIs.ex M s.data.toList
  have hc := fun (O : Obj) => at07v_any (w.alloc O) A c M left (hr.alloc O) hl hri s hv
  have HR := hid2 hr
  obtain ⟨N, hN⟩ : ∃ N, N = M.length := ⟨_, rfl⟩
  rw [← hN] at hc hl ⊢
  have HC := hid2 hc
  have HN := hid2 hN
  obtain ⟨g, hg⟩ : ∃ g, g = w.heap.size := ⟨_, rfl⟩
  have HG := hid2 hg
  rcases hv with ⟨i, x, hi, hx, rfl⟩ | ⟨rfl, hno⟩
  · have hrd : readV M s.data.toList = .tuple #[.string (strB x.2.1), .int .i64 0] := by
      unfold readV
      rw [← hx, getM_at hri hi]
    rw [hrd]
    have hiN : i < N := by rw [hN]; exact (List.getElem?_eq_some_iff.1 hi).1
    have hiN2 : (i : Int) < N := by omega
    have hi0 : ¬ (i : Int) < 0 := by omega
    have hi1 : (0 : Int) ≤ i := by omega
    obtain ⟨T, hT⟩ : ∃ T, T = strB x.2.1 := ⟨_, rfl⟩
    rw [← hT]
    have hcell := fun (w2 : World) (hb : Below w.heap.size w w2) => rf_cells (hr.below_all hb) hi
    rw [← hT] at hcell
    obtain ⟨b, o, rfl, _⟩ := rf_cells hr hi
    have hcell2 := fun (w2 : World) (hb : Below w.heap.size w w2) => show w2.cell? ⟨b, o + i * 3 + 1, none⟩ = some (.string T) by
      obtain ⟨b', o', e, _, h1, _⟩ := hcell w2 hb
      obtain ⟨rfl, rfl⟩ : b = b' ∧ o = o' := by simpa using e
      exact h1
    have HCELL := hid2 hcell2
    clear hr hc hN hg hri hi hx hrd hT hcell hcell2
    go_enter Tryz.func31, Tryz.ntmps31
    go_wp2_with (go_at_call 44; refine (HC.out _).mono ?_; rintro e w2 ⟨rfl, hb2⟩; rw [← HG.out]; have hbw2 : Below w.heap.size w w2 := ((Below.refl _ _).alloc (Nat.le_refl _) _).trans (hb2.mono (by simp)); have c1 := HCELL.out w2 hbw2; have hrow : w2.heap[g]? = some (.cells #[.slice (some ⟨b, o, none⟩) N c, .int .i64 left] 30 (0, 0)) := (by rw [HG.out]; exact (hb2.block w.heap.size (by simp)).trans (heap_alloc_new w _)); have c0 : w2.cell? ⟨g, 0, none⟩ = some (.slice (some ⟨b, o, none⟩) N c) := (cell_of_row w2 _ 0 _ _ _ hrow).trans rfl; clear hb2 hrow)
    exact bodyPost_ret (results_tmp2 rfl _ _ _) rfl ⟨rfl, hbw2⟩
  · have hrd : readV M s.data.toList = .tuple #[.string ⟨#[]⟩, .int .i64 10] := by
      unfold readV
      rw [getM_no hno]
    rw [hrd]
    clear hr hc hN hg hri hno hrd
    go_enter Tryz.func31, Tryz.ntmps31
    go_wp2_with (go_at_call 44; refine (HC.out _).mono ?_; rintro e w2 ⟨rfl, hb2⟩; have hbw2 : Below w.heap.size w w2 := ((Below.refl _ _).alloc (Nat.le_refl _) _).trans (hb2.mono (by simp)); clear hb2)
    exact bodyPost_ret (results_tmp2 rfl _ _ _) rfl ⟨rfl, hbw2⟩
end Go.Proofs.YtehpapoboeejkaaGreat
/- The reference's disk as a row of files: Names, pass. -/
namespace Go.Proofs.YtehpapoboeejkaaGreat
open Go.RowKit Go.Maps
set_option maxRecDepth 100000 in
theorem names07m_any (w : World) (A : Option Addr) (c : Nat) (M : Tab FileE) (left : Int) (hr : Rd w 3 A M.length (rfsV M)) (hl : M.length ≤ 1000000000) :
    Calls Tryz.prog 47 #[.agg #[.slice A M.length c, .int .i64 left]] w fun e w' => ∃ A' c', e = .returned (.slice A' M.length c') ∧ Rd w' 1 A' M.length (strV (M.map (·.1))) ∧ Below w.heap.size w w' := by
  obtain ⟨N, hN⟩ : ∃ N, N = M.length := ⟨_, rfl⟩
  have hB : Below w.heap.size w ((w.alloc (.cells #[.slice A N c, .int .i64 left] 30)).alloc (.cells #[] 9)) := ((Below.refl _ _).alloc (Nat.le_refl _) _).alloc (by simp) _
  have hO : Own ((w.alloc (.cells #[.slice A N c, .int .i64 left] 30)).alloc (.cells #[] 9)) w.heap.size 9 1 (some ⟨w.heap.size + 1, 0, none⟩) 0 0 [] := by
    have := Own.lit (w.alloc (.cells #[.slice A N c, .int .i64 left] 30)) #[] 9 1 0 w.heap.size (by simp) (by decide) rfl
    simpa using this
  have HR := hid2 hr
  rw [← hN] at hl ⊢
  have HN := hid2 hN
  have HO := hid2 hO
  clear hr hN hO
  go_enter Tryz.func47, Tryz.ntmps47
  go_wp2_with fail
  go_loopg [3, 10] N (fun gk v i wr => ∃ (k : Nat) (A' : Option Addr) (c' : Nat), k + gk = N ∧ i = .int .i64 k ∧ v = .slice A' k c' ∧ Own wr w.heap.size 9 1 A' k c' (strV ((M.take k).map (·.1))) ∧ Below w.heap.size w wr)
  case atStart => exact ⟨0, _, _, by omega, rfl, rfl, HO.out, hB⟩
  case round =>
    obtain ⟨k, A', c', hk, rfl, rfl, hown, hb⟩ := hrel
    have hHw := hb.size
    by_cases hlt : k < N
    · have hlt' : (k : Int) < N := by omega
      obtain ⟨x, hx⟩ : ∃ x, M[k]? = some x := ⟨_, List.getElem?_eq_getElem (by rw [← HN.out]; exact hlt)⟩
      obtain ⟨b, o, rfl, c0, c1, c2⟩ := rf_cells (HR.out.below_all hb) hx
      have hstep : strV ((M.take k).map (·.1)) ++ [.string (strB x.1)] = strV ((M.take (k + 1)).map (·.1)) := by
        obtain ⟨hkl, hxe⟩ := List.getElem?_eq_some_iff.1 hx
        rw [strV_snoc, List.take_succ_eq_append_getElem hkl, hxe, List.map_append]
        rfl
      obtain ⟨S, hS⟩ : ∃ S, S = strB x.1 := ⟨_, rfl⟩
      obtain ⟨T, hT⟩ : ∃ T, T = strB x.2.1 := ⟨_, rfl⟩
      obtain ⟨U, hU⟩ : ∃ U : Int, U = x.2.2 := ⟨_, rfl⟩
      obtain ⟨V, hV⟩ : ∃ V, V = strV ((M.take k).map (·.1)) := ⟨_, rfl⟩
      rw [← hS] at c0 hstep
      rw [← hT] at c1
      rw [← hU] at c2
      rw [← hV] at hown hstep
      have HST := hid2 hstep
      have hown1 := hown.alloc (.cells #[.string S, .string T, .int .i64 U] 88)
      have hown2 := hown1.alloc (.cells #[.string S] 9)
      have hrd0 := Rd.one (wr.alloc (.cells #[.string S, .string T, .int .i64 U] 88)) (.string S) 9
      have hrd : Rd ((wr.alloc (.cells #[.string S, .string T, .int .i64 U] 88)).alloc (.cells #[.string S] 9)) 1 (some ⟨wr.heap.size + 1, 0, none⟩) 1 [.string S] := by simpa using hrd0
      have hb2 := (hb.alloc hHw (.cells #[.string S, .string T, .int .i64 U] 88)).alloc (by simp; omega) (.cells #[.string S] 9)
      clear hx hstep hS hT hU hV hown hown1 hrd0
      go_wp2_with (at_builtin; have _t := hown2; go_must ((with_reducible refine wpList_append_lit 9 (.string ⟨#[]⟩) 1 16 Tryz.underlying34 info_str rfl w.heap.size A' k c' V hown2 1 [.string S] (.slice (some ⟨wr.heap.size + 1, 0, none⟩) 1 1) (Src.slice Tryz.underlying34 hrd) one_str ?_ ?_ ?_ ?_ ?_); (unfold maxLen; omega); omega; (simp; omega); exact ⟨rfl, rfl⟩; intro A3 c3 w3 hown3 hgr3 hbl3; clear hown2))
      go_roundg (gk - 1)
      case rel => exact ⟨k + 1, A3, c3, by omega, by go_num, rfl, by rw [← HST.out]; exact hown3, hb2.grown hgr3 (by simp; omega) (fun g e => (_t.block g e).1)⟩
      case measure => omega
    · have hkN : k = N := by omega
      have hlt' : ¬ (k : Int) < N := by omega
      have HKN := hid2 hkN
      have HOW := hid2 hown
      clear hkN hlt hown
      go_wp2_with fail
      go_ret
      refine ⟨A', ⟨c', by rw [HKN.out]; rfl⟩, ?_, hb⟩
      have := HOW.out.rd
      rw [HKN.out, HN.out, List.take_of_length_le (Nat.le_refl _)] at this
      rw [HN.out]
      exact this
end Go.Proofs.YtehpapoboeejkaaGreat
/- The reference's disk without files: its calls. -/
namespace Go.Proofs.YtehpapoboeejkaaGreat
open Go.RowKit Go.Maps
theorem info_rfile : (Tryz.prog.info? 88).map (fun i => (i.zero, i.size, i.bytes)) = some (some (.agg #[.string ⟨#[]⟩, .string ⟨#[]⟩, .int .i64 0]), 3, 40) := by kernel_rfl
theorem row_setCell {w : World} {b o : Nat} {cs : Array Value} {t : TypeId} (h : w.heap[b]? = some (.cells cs t (0, 0))) (u : Value) : (w.setCell ⟨b, o, none⟩ u).heap[b]? = some (.cells (cs.setIfInBounds o u) t (0, 0)) := by
  have hb := heap_lt h
  simp [World.setCell, h, Array.getElem?_modify]
theorem new07_any (w : World) : Calls Tryz.prog 7 #[] w fun e w' => e = .returned (.agg #[.slice none 0 0, .int .i64 (-1)]) ∧ Below w.heap.size w w' := by
  go_enter Tryz.func7, Tryz.ntmps7
  go_wp2_with fail
  exact bodyPost_ret (v := .agg #[.slice none 0 0, .int .i64 (-1)]) (by simp [results, Tryz.results7, go_sem]) rfl ⟨rfl, (Below.refl _ _).alloc (Nat.le_refl _) _⟩
set_option maxRecDepth 100000 in
theorem at07_any (w : World) (s : ByteArray) : Calls Tryz.prog 44 #[.agg #[.slice none 0 0, .int .i64 (-1)], .string s] w fun e w' => e = .returned (.int .i64 (-1)) ∧ Below w.heap.size w w' := by
  have hB : Below w.heap.size w (w.alloc (.cells #[.slice none 0 0, .int .i64 (-1)] 30)) := (Below.refl _ _).alloc (Nat.le_refl _) _
  go_enter Tryz.func44, Tryz.ntmps44
  go_wp2_with fail
  go_loopw [10] (fun i wr => i = .int .i64 0 ∧ Below w.heap.size w wr) (fun _ _ => 0)
  case atStart => exact ⟨rfl, hB⟩
  case round =>
    obtain ⟨rfl, hb⟩ := hrel
    go_wp2_with fail
    go_ret
    exact ⟨rfl, hb⟩
set_option maxRecDepth 100000 in
theorem pass07_any (w : World) (A : Option Addr) (n c : Nat) : Calls Tryz.prog 45 #[.agg #[.slice none 0 0, .int .i64 (-1)], .slice A n c] w fun e w' => e = .returned (.tuple #[.agg #[.slice A n c, .int .i64 (-1)], .int .i64 0]) ∧ Below w.heap.size w w' := by
  go_enter Tryz.func45, Tryz.ntmps45
  go_wp2_with fail
  exact bodyPost_ret (v := .tuple #[.agg #[.slice A n c, .int .i64 (-1)], .int .i64 0]) (by simp [results, Tryz.results45, go_sem]) rfl ⟨rfl, ((Below.refl _ _).alloc (Nat.le_refl _) _).alloc (by simp) _⟩
set_option maxRecDepth 100000 in
theorem with07_any (w : World) (s d : ByteArray) (x : Int) : Calls Tryz.prog 46 #[.agg #[.slice none 0 0, .int .i64 (-1)], .agg #[.string s, .string d, .int .i64 x]] w fun e w' => ∃ A n c, e = .returned (.slice A n c) ∧ Below w.heap.size w w' := by
  go_enter Tryz.func46, Tryz.ntmps46
  go_wp2_with fail
  go_loopw [5, 14] (fun v i wr => v = .slice (some ⟨w.heap.size + 1 + 1, 0, none⟩) 0 0 ∧ i = .int .i64 0 ∧ wr = ((w.alloc (.cells #[.slice none 0 0, .int .i64 (-1)] 30)).alloc (.cells #[.string s, .string d, .int .i64 x] 88)).alloc (.cells #[] 88)) (fun _ _ _ => 0)
  case atStart => exact ⟨rfl, rfl, rfl⟩
  case round =>
    obtain ⟨rfl, rfl, rfl⟩ := hrel
    have hb0 : Below w.heap.size w (((w.alloc (.cells #[.slice none 0 0, .int .i64 (-1)] 30)).alloc (.cells #[.string s, .string d, .int .i64 x] 88)).alloc (.cells #[] 88)) := (((Below.refl _ _).alloc (Nat.le_refl _) _).alloc (by simp) _).alloc (by simp; omega) _
    have hown : Own (((w.alloc (.cells #[.slice none 0 0, .int .i64 (-1)] 30)).alloc (.cells #[.string s, .string d, .int .i64 x] 88)).alloc (.cells #[] 88)) w.heap.size 88 3 (some ⟨w.heap.size + 1 + 1, 0, none⟩) 0 0 [] := by
      have := Own.lit ((w.alloc (.cells #[.slice none 0 0, .int .i64 (-1)] 30)).alloc (.cells #[.string s, .string d, .int .i64 x] 88)) #[] 88 3 0 w.heap.size (by simp; omega) (by decide) rfl
      simpa using this
    have hown2 := hown.alloc (.cells #[.string s, .string d, .int .i64 x] 88)
    have hrd := Rd.of_lit (((w.alloc (.cells #[.slice none 0 0, .int .i64 (-1)] 30)).alloc (.cells #[.string s, .string d, .int .i64 x] 88)).alloc (.cells #[] 88)) #[.string s, .string d, .int .i64 x] 88 3 1 (by decide) rfl
    have hone : ∀ v ∈ [Value.string s, Value.string d, Value.int .i64 x], v.oneCell' = true := by simp [Value.oneCell']
    have hrd2 : Rd ((((w.alloc (.cells #[.slice none 0 0, .int .i64 (-1)] 30)).alloc (.cells #[.string s, .string d, .int .i64 x] 88)).alloc (.cells #[] 88)).alloc (.cells #[.string s, .string d, .int .i64 x] 88)) 3 (some ⟨w.heap.size + 1 + 1 + 1, 0, none⟩) 1 [.string s, .string d, .int .i64 x] := by simpa using hrd
    have hb1 := hb0.alloc (by simp; omega) (.cells #[.string s, .string d, .int .i64 x] 88)
    have hb2 : Below (w.heap.size + 1) (w.alloc (.cells #[.slice none 0 0, .int .i64 (-1)] 30)) ((((w.alloc (.cells #[.slice none 0 0, .int .i64 (-1)] 30)).alloc (.cells #[.string s, .string d, .int .i64 x] 88)).alloc (.cells #[] 88)).alloc (.cells #[.string s, .string d, .int .i64 x] 88)) := (((Below.refl _ _).alloc (by simp) _).alloc (by simp) _).alloc (by first | (simp; done) | (simp; omega)) _
    have hr0 := (hb2.block w.heap.size (by omega)).trans (heap_alloc_new w (.cells #[.slice none 0 0, .int .i64 (-1)] 30))
    clear hown hrd hb0 hb2
    go_wp2_with (at_builtin; go_must ((with_reducible refine wpList_append_lit 88 (.agg #[.string ⟨#[]⟩, .string ⟨#[]⟩, .int .i64 0]) 3 40 Tryz.underlying28 info_rfile rfl w.heap.size (some ⟨w.heap.size + 1 + 1, 0, none⟩) 0 0 [] hown2 1 _ (.slice (some ⟨w.heap.size + 1 + 1 + 1, 0, none⟩) 1 1) (Src.slice Tryz.underlying28 hrd2) hone ?_ ?_ ?_ ?_ ?_); (unfold maxLen; omega); omega; (simp; omega); exact ⟨rfl, rfl⟩; intro A3 c3 w3 hown3 hgr3 hbl3; have hr3 := (hgr3.block w.heap.size (by simp; omega) (by simp [blockOf]; omega)).trans hr0; have c0 : w3.cell? ⟨w.heap.size, 0, none⟩ = some (.slice none 0 0) := (cell_of_row w3 _ 0 _ _ _ hr3).trans rfl; have hbw3 := hb1.grown hgr3 (by simp; omega) (fun g e => (hown2.block g e).1); clear hr3 hr0 hown3 hgr3 hbl3 hown2 hrd2 hone hb1))
    go_loopw [5, 35] (fun v i wr => v = .slice A3 1 c3 ∧ i = .int .i64 0 ∧ wr = w3) (fun _ _ _ => 0)
    case atStart => exact ⟨rfl, rfl, rfl⟩
    case round =>
      obtain ⟨rfl, rfl, rfl⟩ := hrel
      go_wp2_with fail
      go_ret
      exact ⟨_, _, _, rfl, hbw3⟩
set_option maxRecDepth 100000 in
set_option maxHeartbeats 4000000 in
theorem append07e_any (w : World) (s d : ByteArray) (hd : d.size ≤ 1000000000) : Calls Tryz.prog 19 #[.agg #[.slice none 0 0, .int .i64 (-1)], .string s, .string d] w fun e w' => ∃ A n c v, e = .returned (.tuple #[.agg #[.slice A n c, .int .i64 (-1)], .int .i64 v]) ∧ Below w.heap.size w w' := by
  by_cases h0 : s = ⟨#[]⟩
  · subst h0
    go_enter Tryz.func19, Tryz.ntmps19
    go_wp2_with fail
    exact bodyPost_ret (v := .tuple #[.agg #[.slice none 0 0, .int .i64 (-1)], .int .i64 1]) (by simp [results, Tryz.results19, go_sem]) rfl ⟨_, _, _, _, rfl, ((Below.refl _ _).alloc (Nat.le_refl _) _).alloc (by simp) _⟩
  · have h1 : s.toList.isEmpty = false := by
      rw [ByteArray.toList_eq, Bool.eq_false_iff]
      exact fun h => h0 (bytes_ext (by simpa using h))
    have hadd : ¬ ((0 : Nat) + d.size > 9223372036854775807) := by omega
    obtain ⟨g, hg⟩ : ∃ g, g = w.heap.size := ⟨_, rfl⟩
    obtain ⟨W3, hW3⟩ : ∃ W3, W3 = ((w.alloc (.cells #[.slice none 0 0, .int .i64 (-1)] 30)).alloc (.cells #[.slice none 0 0, .int .i64 0] 30)).alloc (.cells #[.string s, .string ⟨#[]⟩, .int .i64 0] 88) := ⟨_, rfl⟩
    have z3 : W3.heap.size = g + 3 := by rw [hW3, hg]; simp
    have r2 : W3.heap[g + 2]? = some (.cells #[.string s, .string ⟨#[]⟩, .int .i64 0] 88 (0, 0)) := by
      rw [hW3, hg]
      have := heap_alloc_new ((w.alloc (.cells #[.slice none 0 0, .int .i64 (-1)] 30)).alloc (.cells #[.slice none 0 0, .int .i64 0] 30)) (.cells #[.string s, .string ⟨#[]⟩, .int .i64 0] 88)
      simpa using this
    have r1 : W3.heap[g + 1]? = some (.cells #[.slice none 0 0, .int .i64 0] 30 (0, 0)) := by
      rw [hW3, hg]
      have := heap_alloc_new (w.alloc (.cells #[.slice none 0 0, .int .i64 (-1)] 30)) (.cells #[.slice none 0 0, .int .i64 0] 30)
      rw [World.size_alloc] at this
      exact (Below.heap_alloc _ _ _ (by simp)).trans this
    have r0 : W3.heap[g]? = some (.cells #[.slice none 0 0, .int .i64 (-1)] 30 (0, 0)) := by
      rw [hW3, hg]
      exact (Below.heap_alloc _ _ _ (by simp; omega)).trans ((Below.heap_alloc _ _ _ (by simp)).trans (heap_alloc_new w _))
    have hbW : Below g w W3 := by rw [hW3, hg]; exact (((Below.refl _ _).alloc (Nat.le_refl _) _).alloc (by simp) _).alloc (by simp; omega) _
    have HW3 := hid2 hW3
    have HG := hid2 hg
    clear hW3 hg h0
    go_enter Tryz.func19, Tryz.ntmps19
    go_wp2_with (go_at_call 44; rw [← HW3.out, ← HG.out]; refine (at07_any _ s).mono ?_; rintro e w2 ⟨rfl, hb2⟩; have k2 := (hb2.block _ (show g + 2 < W3.heap.size by omega)).trans r2; have k1 := (hb2.block _ (show g + 1 < W3.heap.size by omega)).trans r1; have k0 := (hb2.block _ (show g < W3.heap.size by omega)).trans r0; have hbw2 := hbW.trans (hb2.mono (show g ≤ W3.heap.size by omega)); have hz2 := hb2.size; rw [z3] at hz2; have c21 : w2.cell? ⟨g + 2, 1, none⟩ = some (.string ⟨#[]⟩) := (cell_of_row w2 _ 1 _ _ _ k2).trans rfl; have f2 : w2.frozen? ⟨g + 1 + 1, 1, none⟩ = false := frozen_of_row w2 _ 1 _ _ k2; have K0 := hid2 k0; have K1 := hid2 k1; have K2 := hid2 k2; clear r0 r1 r2 hb2 k0 k1 k2 hbW)
    obtain ⟨X, hX⟩ : ∃ X, X = (⟨#[]⟩ : ByteArray) ++ d := ⟨_, rfl⟩
    rw [← hX]
    obtain ⟨W, hW⟩ : ∃ W, W = w2.setCell ⟨g + 1 + 1, 1, none⟩ (.string X) := ⟨_, rfl⟩
    rw [← hW]
    have r0 : W.heap[g]? = some (.cells #[.slice none 0 0, .int .i64 (-1)] 30 (0, 0)) := by rw [hW]; exact (Below.heap_setCell _ _ _ _ (show g ≠ g + 1 + 1 by omega)).trans K0.out
    have r1 : W.heap[g + 1]? = some (.cells #[.slice none 0 0, .int .i64 0] 30 (0, 0)) := by rw [hW]; exact (Below.heap_setCell _ _ _ _ (show g + 1 ≠ g + 1 + 1 by omega)).trans K1.out
    have r2 : W.heap[g + 1 + 1]? = some (.cells #[.string s, .string X, .int .i64 0] 88 (0, 0)) := by rw [hW]; exact row_setCell K2.out _
    have hbW : Below g w W := by rw [hW]; exact hbw2.setCell (show g ≤ g + 1 + 1 by omega) _
    have hzW : g + 3 ≤ W.heap.size := by rw [hW]; simpa [World.setCell] using hz2
    clear hW K0 K1 K2 c21 f2 hbw2 hz2 hX
    have a0 : W.cell? ⟨g, 0, none⟩ = some (.slice none 0 0) := (cell_of_row W _ 0 _ _ _ r0).trans rfl
    have a1 : W.cell? ⟨g, 1, none⟩ = some (.int .i64 (-1)) := (cell_of_row W _ 1 _ _ _ r0).trans rfl
    have a2 : W.cell? ⟨g + 1, 0, none⟩ = some (.slice none 0 0) := (cell_of_row W _ 0 _ _ _ r1).trans rfl
    have a3 : W.cell? ⟨g + 1, 1, none⟩ = some (.int .i64 0) := (cell_of_row W _ 1 _ _ _ r1).trans rfl
    have a4 : W.cell? ⟨g + 1 + 1, 0, none⟩ = some (.string s) := (cell_of_row W _ 0 _ _ _ r2).trans rfl
    have a5 : W.cell? ⟨g + 1 + 1, 1, none⟩ = some (.string X) := (cell_of_row W _ 1 _ _ _ r2).trans rfl
    have a6 : W.cell? ⟨g + 1 + 1, 2, none⟩ = some (.int .i64 0) := (cell_of_row W _ 2 _ _ _ r2).trans rfl
    have z0 : W.frozen? ⟨g + 1, 0, none⟩ = false := frozen_of_row W _ 0 _ _ r1
    have z1 : W.frozen? ⟨g + 1, 1, none⟩ = false := frozen_of_row W _ 1 _ _ r1
    have R0 := hid2 r0
    have R1 := hid2 r1
    have R2 := hid2 r2
    clear r0 r1 r2
    go_region_with (first
      | (go_at_call 46; refine (with07_any _ s X 0).mono ?_; rintro e w4 ⟨A4, n4, c4, rfl, hb4⟩; have hbw4 := hbW.drew.trans (hb4.mono (show g ≤ W.heap.size by omega)); have hz4 : g + 3 ≤ w4.heap.size := Nat.le_trans hzW hb4.size; have r04 := (hb4.block g (show g < W.heap.size by omega)).trans R0.out; have r14 := (hb4.block (g + 1) (show g + 1 < W.heap.size by omega)).trans R1.out; have r24 := (hb4.block (g + 1 + 1) (show g + 1 + 1 < W.heap.size by omega)).trans R2.out; have a04 : w4.cell? ⟨g, 0, none⟩ = some (.slice none 0 0) := (cell_of_row w4 _ 0 _ _ _ r04).trans rfl; have a14 : w4.cell? ⟨g, 1, none⟩ = some (.int .i64 (-1)) := (cell_of_row w4 _ 1 _ _ _ r04).trans rfl; have a24 : w4.cell? ⟨g + 1, 0, none⟩ = some (.slice none 0 0) := (cell_of_row w4 _ 0 _ _ _ r14).trans rfl; have a34 : w4.cell? ⟨g + 1, 1, none⟩ = some (.int .i64 0) := (cell_of_row w4 _ 1 _ _ _ r14).trans rfl; have a44 : w4.cell? ⟨g + 1 + 1, 0, none⟩ = some (.string s) := (cell_of_row w4 _ 0 _ _ _ r24).trans rfl; have a54 : w4.cell? ⟨g + 1 + 1, 1, none⟩ = some (.string X) := (cell_of_row w4 _ 1 _ _ _ r24).trans rfl; have a64 : w4.cell? ⟨g + 1 + 1, 2, none⟩ = some (.int .i64 0) := (cell_of_row w4 _ 2 _ _ _ r24).trans rfl; have z04 : w4.frozen? ⟨g + 1, 0, none⟩ = false := frozen_of_row w4 _ 0 _ _ r14; have z14 : w4.frozen? ⟨g + 1, 1, none⟩ = false := frozen_of_row w4 _ 1 _ _ r14; have R04 := hid2 r04; have R14 := hid2 r14; clear r04 r14 r24 hb4)
      | (go_at_call 45; refine (pass07_any _ A4 n4 c4).mono ?_; rintro e w5 ⟨rfl, hb5⟩; have hbw5 := hbw4.trans (hb5.mono (show g ≤ w4.heap.size by omega)); have r05 := (hb5.block g (show g < w4.heap.size by omega)).trans R04.out; have r15 := (hb5.block (g + 1) (show g + 1 < w4.heap.size by omega)).trans R14.out; have a25 : w5.cell? ⟨g + 1, 0, none⟩ = some (.slice none 0 0) := (cell_of_row w5 _ 0 _ _ _ r15).trans rfl; have a35 : w5.cell? ⟨g + 1, 1, none⟩ = some (.int .i64 0) := (cell_of_row w5 _ 1 _ _ _ r15).trans rfl; have z05 : w5.frozen? ⟨g + 1, 0, none⟩ = false := frozen_of_row w5 _ 0 _ _ r15; have z15 : w5.frozen? ⟨g + 1, 1, none⟩ = false := frozen_of_row w5 _ 1 _ _ r15; clear r05 r15 hb5))
    all_goals
      go_wp2_with fail
      refine bodyPost_ret (v := .tuple #[.agg #[.slice A4 n4 c4, .int .i64 (-1)], .int .i64 0]) ?_ rfl ⟨_, _, _, _, rfl, ?_⟩
      · simp [results, Tryz.results19, go_sem, a25, a35]
      · rw [← HG.out]
        exact (hbw5.setCell (show g ≤ g + 1 by omega) _).setCell (show g ≤ g + 1 by omega) _
end Go.Proofs.YtehpapoboeejkaaGreat
/- The reference's disk as a row of files: without. -/
namespace Go.Proofs.YtehpapoboeejkaaGreat
open Go.RowKit Go.Maps
theorem rfsV_snoc (L : Tab FileE) (x : List UInt8 × FileE) : rfsV L ++ rfV x = rfsV (L ++ [x]) := by simp [rfsV]
theorem delM_step {M : Tab FileE} {k : Nat} {x : List UInt8 × FileE} (h : M[k]? = some x) (s : List UInt8) : delM (M.take (k + 1)) s = if x.1 = s then delM (M.take k) s else delM (M.take k) s ++ [x] := by
  obtain ⟨hkl, hxe⟩ := List.getElem?_eq_some_iff.1 h
  unfold delM
  rw [List.take_succ_eq_append_getElem hkl, hxe, List.filter_append]
  by_cases he : x.1 = s <;> simp [he]
theorem delM_len (M : Tab FileE) (s : List UInt8) : (delM M s).length ≤ M.length := List.length_filter_le _ _
set_option maxRecDepth 100000 in
theorem without07m_any (w : World) (A : Option Addr) (c : Nat) (M : Tab FileE) (left : Int) (hr : Rd w 3 A M.length (rfsV M)) (hl : M.length ≤ 1000000000) (s : ByteArray) :
    Calls Tryz.prog 64 #[.agg #[.slice A M.length c, .int .i64 left], .string s] w fun e w' => ∃ A' c', e = .returned (.slice A' (delM M s.data.toList).length c') ∧ Own w' w.heap.size 88 3 A' (delM M s.data.toList).length c' (rfsV (delM M s.data.toList)) ∧ Below w.heap.size w w' := by
  obtain ⟨N, hN⟩ : ∃ N, N = M.length := ⟨_, rfl⟩
  have hB : Below w.heap.size w ((w.alloc (.cells #[.slice A N c, .int .i64 left] 30)).alloc (.cells #[] 88)) := ((Below.refl _ _).alloc (Nat.le_refl _) _).alloc (by simp) _
  have hO : Own ((w.alloc (.cells #[.slice A N c, .int .i64 left] 30)).alloc (.cells #[] 88)) w.heap.size 88 3 (some ⟨w.heap.size + 1, 0, none⟩) 0 0 [] := by
    have := Own.lit (w.alloc (.cells #[.slice A N c, .int .i64 left] 30)) #[] 88 3 0 w.heap.size (by simp) (by decide) rfl
    simpa using this
  have HR := hid2 hr
  rw [← hN] at hl ⊢
  have HN := hid2 hN
  have HO := hid2 hO
  clear hr hN hO
  go_enter Tryz.func64, Tryz.ntmps64
  go_wp2_with fail
  go_loopg [5, 12] N (fun gk v i wr => ∃ (k n : Nat) (A' : Option Addr) (c' : Nat), k + gk = N ∧ i = .int .i64 k ∧ n = (delM (M.take k) s.data.toList).length ∧ v = .slice A' n c' ∧ Own wr w.heap.size 88 3 A' n c' (rfsV (delM (M.take k) s.data.toList)) ∧ Below w.heap.size w wr)
  case atStart => exact ⟨0, 0, _, _, by omega, rfl, rfl, rfl, HO.out, hB⟩
  case round =>
    obtain ⟨k, n, A', c', hk, rfl, hn, rfl, hown, hb⟩ := hrel
    have hHw := hb.size
    by_cases hlt : k < N
    · have hlt' : (k : Int) < N := by omega
      have hnk : n ≤ k := by
        rw [hn]
        exact Nat.le_trans (delM_len _ _) (by rw [List.length_take]; omega)
      obtain ⟨x, hx⟩ : ∃ x, M[k]? = some x := ⟨_, List.getElem?_eq_getElem (by rw [← HN.out]; exact hlt)⟩
      obtain ⟨b, o, rfl, c0, c1, c2⟩ := rf_cells (HR.out.below_all hb) hx
      have hstep := delM_step hx s.data.toList
      obtain ⟨S, hS⟩ : ∃ S, S = strB x.1 := ⟨_, rfl⟩
      obtain ⟨T, hT⟩ : ∃ T, T = strB x.2.1 := ⟨_, rfl⟩
      obtain ⟨U, hU⟩ : ∃ U : Int, U = x.2.2 := ⟨_, rfl⟩
      rw [← hS] at c0
      rw [← hT] at c1
      rw [← hU] at c2
      have hSx : S.data.toList = x.1 := by rw [hS, strB_list]
      by_cases he : S = s
      · rw [if_pos (by rw [← hSx, he])] at hstep
        have HST := hid2 hstep
        have HOW := hid2 hown
        have HNN := hid2 hn
        clear hx hstep hS hT hU hown hSx hn
        subst he
        go_wp2_with fail
        go_roundg (gk - 1)
        case rel => exact ⟨k + 1, n, A', c', by omega, by go_num, by rw [HST.out]; exact HNN.out, rfl, by rw [HST.out]; exact HOW.out.alloc _, hb.alloc hHw _⟩
        case measure => omega
      · rw [if_neg (fun h => he (bytes_ext (by rw [hSx]; exact h)))] at hstep
        have he2 : (S.toList == s.toList) = false := by rw [ByteArray.toList_eq, ByteArray.toList_eq]; exact beq_eq_false_iff_ne.2 (fun h => he (bytes_ext h))
        obtain ⟨V, hV⟩ : ∃ V, V = rfsV (delM (M.take k) s.data.toList) := ⟨_, rfl⟩
        have hV2 : V ++ [.string S, .string T, .int .i64 U] = rfsV (delM (M.take (k + 1)) s.data.toList) := by
          rw [hstep, ← rfsV_snoc, ← hV, rfV, ← hS, ← hT, ← hU]
        have hn2 : n + 1 = (delM (M.take (k + 1)) s.data.toList).length := by rw [hstep, List.length_append, ← hn]; rfl
        rw [← hV] at hown
        have HV2 := hid2 hV2
        have HN2 := hid2 hn2
        have hown1 := hown.alloc (.cells #[.string S, .string T, .int .i64 U] 88)
        have hown2 := hown1.alloc (.cells #[.string S, .string T, .int .i64 U] 88)
        have hrd0 := Rd.of_lit (wr.alloc (.cells #[.string S, .string T, .int .i64 U] 88)) #[.string S, .string T, .int .i64 U] 88 3 1 (by decide) rfl
        have hrd : Rd ((wr.alloc (.cells #[.string S, .string T, .int .i64 U] 88)).alloc (.cells #[.string S, .string T, .int .i64 U] 88)) 3 (some ⟨wr.heap.size + 1, 0, none⟩) 1 [.string S, .string T, .int .i64 U] := by simpa using hrd0
        have hone : ∀ v ∈ [Value.string S, Value.string T, Value.int .i64 U], v.oneCell' = true := by simp [Value.oneCell']
        have hb2 := (hb.alloc hHw (.cells #[.string S, .string T, .int .i64 U] 88)).alloc (by simp; omega) (.cells #[.string S, .string T, .int .i64 U] 88)
        clear hx hstep hS hT hU hV hV2 hn2 hn hown hown1 hrd0 hSx
        go_wp2_with (at_builtin; have _t := hown2; go_must ((with_reducible refine wpList_append_lit 88 (.agg #[.string ⟨#[]⟩, .string ⟨#[]⟩, .int .i64 0]) 3 40 Tryz.underlying28 info_rfile rfl w.heap.size A' n c' V hown2 1 _ (.slice (some ⟨wr.heap.size + 1, 0, none⟩) 1 1) (Src.slice Tryz.underlying28 hrd) hone ?_ ?_ ?_ ?_ ?_); (unfold maxLen; omega); omega; (simp; omega); exact ⟨rfl, rfl⟩; intro A3 c3 w3 hown3 hgr3 hbl3; clear hown2))
        go_roundg (gk - 1)
        case rel => exact ⟨k + 1, n + 1, A3, c3, by omega, by go_num, HN2.out, rfl, by rw [← HV2.out]; exact hown3, hb2.grown hgr3 (by simp; omega) (fun g e => (_t.block g e).1)⟩
        case measure => omega
    · have hkN : k = N := by omega
      have hlt' : ¬ (k : Int) < N := by omega
      have hM : M.take k = M := by rw [hkN, HN.out, List.take_of_length_le (Nat.le_refl _)]
      rw [hM] at hown hn
      have HNN := hid2 hn
      have HOW := hid2 hown
      clear hkN hlt hown hn hM
      go_wp2_with fail
      go_ret
      rw [← HNN.out]
      exact ⟨A', c', rfl, HOW.out, hb⟩
end Go.Proofs.YtehpapoboeejkaaGreat
/- The reference's disk as a row of files: with. -/
namespace Go.Proofs.YtehpapoboeejkaaGreat
open Go.RowKit Go.Maps
def lowM (M : Tab FileE) (k : List UInt8) : Tab FileE := M.filter fun y => bytesBefore y.1 k
def highM (M : Tab FileE) (k : List UInt8) : Tab FileE := M.filter fun y => bytesBefore k y.1
theorem insM_split {x : List UInt8 × FileE} : ∀ {M : Tab FileE}, Rises M → (∀ y ∈ M, y.1 ≠ x.1) → insM x M = lowM M x.1 ++ [x] ++ highM M x.1
  | [], _, _ => rfl
  | y :: r, hr, hne => by
    have hr2 := (List.pairwise_cons.1 hr)
    unfold insM
    split
    · rename_i h
      rw [bytesBefore_lt] at h
      have hl : lowM (y :: r) x.1 = [] := by
        unfold lowM
        rw [List.filter_eq_nil_iff]
        intro z hz
        rw [bytesBefore_lt]
        intro hzx
        rcases List.mem_cons.1 hz with rfl | hz
        · exact List.lt_irrefl _ (List.lt_trans h hzx)
        · have := hr2.1 z hz
          rw [bytesBefore_lt] at this
          exact List.lt_irrefl _ (List.lt_trans (List.lt_trans h this) hzx)
      have hh : highM (y :: r) x.1 = y :: r := by
        unfold highM
        rw [List.filter_eq_self]
        intro z hz
        rw [bytesBefore_lt]
        rcases List.mem_cons.1 hz with rfl | hz
        · exact h
        · have := hr2.1 z hz
          rw [bytesBefore_lt] at this
          exact List.lt_trans h this
      rw [hl, hh]
      rfl
    · rename_i h
      have ih := insM_split hr2.2 (fun z hz => hne z (List.mem_cons_of_mem _ hz))
      have hyx : bytesBefore y.1 x.1 = true := by
        rw [bytesBefore_lt]
        rw [bytesBefore_lt] at h
        by_cases h1 : y.1 < x.1
        · exact h1
        · exact absurd (List.le_antisymm (List.not_lt.1 h) (List.not_lt.1 h1)) (hne y (by simp))
      rw [ih]
      have hl : lowM (y :: r) x.1 = y :: lowM r x.1 := by unfold lowM; rw [List.filter_cons, if_pos hyx]
      have hh : highM (y :: r) x.1 = highM r x.1 := by unfold highM; rw [List.filter_cons, if_neg h]
      rw [hl, hh]
      rfl
theorem putM_split {M : Tab FileE} (hr : Rises M) (k : List UInt8) (a : FileE) : putM M k a = lowM M k ++ [(k, a)] ++ highM M k := by
  have hr2 : Rises (delM M k) := hr.filter _
  rw [putM, insM_split hr2 delM_ne]
  have hl : lowM (delM M k) k = lowM M k := by
    unfold lowM delM
    rw [List.filter_filter]
    refine List.filter_congr fun y _ => ?_
    by_cases h : y.1 = k
    · have : bytesBefore y.1 k = false := by rw [h, ← Bool.not_eq_true, bytesBefore_lt]; exact List.lt_irrefl _
      rw [this]; rfl
    · simp [h]
  have hh : highM (delM M k) k = highM M k := by
    unfold highM delM
    rw [List.filter_filter]
    refine List.filter_congr fun y _ => ?_
    by_cases h : y.1 = k
    · have : bytesBefore k y.1 = false := by rw [h, ← Bool.not_eq_true, bytesBefore_lt]; exact List.lt_irrefl _
      rw [this]; rfl
    · simp [h]
  rw [hl, hh]
end Go.Proofs.YtehpapoboeejkaaGreat
/- The reference's disk as a row of files: the walk of with. -/
namespace Go.Proofs.YtehpapoboeejkaaGreat
open Go.RowKit Go.Maps
theorem less_before : ∀ x y : List UInt8, Op.bytesLess x y = bytesBefore x y
  | [], [] => rfl
  | [], _ :: _ => rfl
  | _ :: _, [] => rfl
  | a :: x, b :: y => by rw [Op.bytesLess, bytesBefore, less_before x y]
/-- between two rounds of with -/
structure WInv (w : World) (A : Option Addr) (N c : Nat) (left : Int) (s d : ByteArray) (u : Int) (A' : Option Addr) (c' : Nat) (L : Tab FileE) (wr : World) : Prop where
  own : Own wr (w.heap.size + 2) 88 3 A' L.length c' (rfsV L)
  below : Below w.heap.size w wr
  box0 : wr.heap[w.heap.size]? = some (.cells #[.slice A N c, .int .i64 left] 30 (0, 0))
  box1 : wr.heap[w.heap.size + 1]? = some (.cells #[.string s, .string d, .int .i64 u] 88 (0, 0))
  size : w.heap.size + 2 ≤ wr.heap.size
theorem WInv.start (w : World) (A : Option Addr) (N c : Nat) (left : Int) (s d : ByteArray) (u : Int) : WInv w A N c left s d u (some ⟨w.heap.size + 1 + 1, 0, none⟩) 0 [] (((w.alloc (.cells #[.slice A N c, .int .i64 left] 30)).alloc (.cells #[.string s, .string d, .int .i64 u] 88)).alloc (.cells #[] 88)) := by
  refine ⟨?_, (((Below.refl _ _).alloc (Nat.le_refl _) _).alloc (by simp) _).alloc (by rw [World.size_alloc, World.size_alloc]; omega) _, ?_, ?_, by rw [World.size_alloc, World.size_alloc, World.size_alloc]; omega⟩
  · have := Own.lit ((w.alloc (.cells #[.slice A N c, .int .i64 left] 30)).alloc (.cells #[.string s, .string d, .int .i64 u] 88)) #[] 88 3 0 (w.heap.size + 2) (by simp) (by decide) rfl
    simpa [rfsV] using this
  · exact (Below.heap_alloc _ _ _ (by simp; omega)).trans ((Below.heap_alloc _ _ _ (by simp)).trans (heap_alloc_new w _))
  · have := heap_alloc_new (w.alloc (.cells #[.slice A N c, .int .i64 left] 30)) (.cells #[.string s, .string d, .int .i64 u] 88)
    rw [World.size_alloc] at this
    exact (Below.heap_alloc _ _ _ (by simp)).trans this
theorem WInv.alloc {w : World} {A : Option Addr} {N c : Nat} {left : Int} {s d : ByteArray} {u : Int} {A' : Option Addr} {c' : Nat} {L : Tab FileE} {wr : World} (h : WInv w A N c left s d u A' c' L wr) (O : Obj) : WInv w A N c left s d u A' c' L (wr.alloc O) :=
  ⟨h.own.alloc _, h.below.alloc h.below.size _, (Below.heap_alloc _ _ _ (by have := h.size; omega)).trans h.box0, (Below.heap_alloc _ _ _ (by have := h.size; omega)).trans h.box1, by rw [World.size_alloc]; exact Nat.le_succ_of_le h.size⟩
theorem WInv.grown {w : World} {A : Option Addr} {N c : Nat} {left : Int} {s d : ByteArray} {u : Int} {A' A3 : Option Addr} {c' c3 : Nat} {L : Tab FileE} {x : List UInt8 × FileE} {wr w3 : World} (h : WInv w A N c left s d u A' c' L wr)
    (ho : Own w3 (w.heap.size + 2) 88 3 A3 (L.length + 1) c3 (rfsV L ++ rfV x)) (hg : wr.grownBy w3 (blockOf A')) : WInv w A N c left s d u A3 c3 (L ++ [x]) w3 := by
  refine ⟨?_, h.below.grown hg h.below.size (fun g e => by have := (h.own.block g e).1; omega), (hg.block _ (by have := h.size; omega) (fun e => by have := (h.own.block _ e.symm).1; omega)).trans h.box0, (hg.block _ (by have := h.size; omega) (fun e => by have := (h.own.block _ e.symm).1; omega)).trans h.box1, Nat.le_trans h.size hg.size⟩
  rw [List.length_append, ← rfsV_snoc]
  exact ho
theorem lowM_step {M : Tab FileE} {k : Nat} {x : List UInt8 × FileE} (h : M[k]? = some x) (s : List UInt8) : lowM (M.take (k + 1)) s = if bytesBefore x.1 s = true then lowM (M.take k) s ++ [x] else lowM (M.take k) s := by
  obtain ⟨hkl, hxe⟩ := List.getElem?_eq_some_iff.1 h
  unfold lowM
  rw [List.take_succ_eq_append_getElem hkl, hxe, List.filter_append]
  by_cases he : bytesBefore x.1 s = true <;> simp [he]
theorem highM_step {M : Tab FileE} {k : Nat} {x : List UInt8 × FileE} (h : M[k]? = some x) (s : List UInt8) : highM (M.take (k + 1)) s = if bytesBefore s x.1 = true then highM (M.take k) s ++ [x] else highM (M.take k) s := by
  obtain ⟨hkl, hxe⟩ := List.getElem?_eq_some_iff.1 h
  unfold highM
  rw [List.take_succ_eq_append_getElem hkl, hxe, List.filter_append]
  by_cases he : bytesBefore s x.1 = true <;> simp [he]
set_option maxRecDepth 100000 in
set_option maxHeartbeats 2000000 in
theorem with07m_any (w : World) (A : Option Addr) (c : Nat) (M : Tab FileE) (left : Int) (hr : Rd w 3 A M.length (rfsV M)) (hl : M.length ≤ 1000000000) (hri : Rises M) (s d : ByteArray) (n : Nat) :
    Calls Tryz.prog 46 #[.agg #[.slice A M.length c, .int .i64 left], .agg #[.string s, .string d, .int .i64 n]] w fun e w' => ∃ A' c', e = .returned (.slice A' (putM M s.data.toList (d.data.toList, n)).length c') ∧ Own w' w.heap.size 88 3 A' (putM M s.data.toList (d.data.toList, n)).length c' (rfsV (putM M s.data.toList (d.data.toList, n))) ∧ Below w.heap.size w w' := by
  rw [putM_split hri]
  obtain ⟨N, hN⟩ : ∃ N, N = M.length := ⟨_, rfl⟩
  obtain ⟨u, hu⟩ : ∃ u : Int, u = n := ⟨_, rfl⟩
  have HR := hid2 hr
  rw [← hN] at hl ⊢
  rw [← hu]
  have HN := hid2 hN
  have HU := hid2 hu
  have HW := hid2 (WInv.start w A N c left s d u)
  clear hr hN hri hu
  go_enter Tryz.func46, Tryz.ntmps46
  go_wp2_with fail
  go_loopg [5, 14] N (fun gk v i wr => ∃ (k m : Nat) (A' : Option Addr) (c' : Nat), k + gk = N ∧ i = .int .i64 k ∧ m = (lowM (M.take k) s.data.toList).length ∧ v = .slice A' m c' ∧ WInv w A N c left s d u A' c' (lowM (M.take k) s.data.toList) wr)
  case atStart => exact ⟨0, 0, _, _, by omega, rfl, rfl, rfl, HW.out⟩
  case round =>
    obtain ⟨k, m, A', c', hk, rfl, hm, rfl, hinv⟩ := hrel
    have hsz := hinv.size
    by_cases hlt : k < N
    · have hlt' : (k : Int) < N := by omega
      obtain ⟨x, hx⟩ : ∃ x, M[k]? = some x := ⟨_, List.getElem?_eq_getElem (by rw [← HN.out]; exact hlt)⟩
      obtain ⟨b, o, rfl, c0, c1, c2⟩ := rf_cells (HR.out.below_all hinv.below) hx
      have f0 : wr.cell? ⟨w.heap.size + 1, 0, none⟩ = some (.string s) := (cell_of_row wr _ 0 _ _ _ hinv.box1).trans rfl
      have hstep := lowM_step hx s.data.toList
      obtain ⟨S, hS⟩ : ∃ S, S = strB x.1 := ⟨_, rfl⟩
      obtain ⟨T, hT⟩ : ∃ T, T = strB x.2.1 := ⟨_, rfl⟩
      obtain ⟨U, hU⟩ : ∃ U : Int, U = x.2.2 := ⟨_, rfl⟩
      rw [← hS] at c0
      rw [← hT] at c1
      rw [← hU] at c2
      have hless : Op.bytesLess S.toList s.toList = bytesBefore x.1 s.data.toList := by
        rw [ByteArray.toList_eq, ByteArray.toList_eq, hS, strB_list, less_before]
      have hcells : [Value.string S, Value.string T, Value.int .i64 U] = rfV x := by rw [rfV, ← hS, ← hT, ← hU]
      have HX := hid2 hcells
      have hmk : m ≤ k := by
        rw [hm]
        exact Nat.le_trans (List.length_filter_le _ _) (by rw [List.length_take]; omega)
      have HM := hid2 hm
      have f1 := f0
      rw [← World.cell?_alloc_lt wr (.cells #[.string S, .string T, .int .i64 U] 88) ⟨w.heap.size + 1, 0, none⟩ (by show w.heap.size + 1 < _; omega)] at f1
      by_cases hbb : bytesBefore x.1 s.data.toList = true
      · rw [if_pos hbb] at hstep
        rw [hbb] at hless
        have HST := hid2 hstep
        have hi2 := (hinv.alloc (.cells #[.string S, .string T, .int .i64 U] 88)).alloc (.cells #[.string S, .string T, .int .i64 U] 88)
        have hown2 := hi2.own
        rw [← hm] at hown2
        have HI2 := hid2 hi2
        obtain ⟨V, hV⟩ : ∃ V, V = rfsV (lowM (M.take k) s.data.toList) := ⟨_, rfl⟩
        rw [← hV] at hown2
        have HV := hid2 hV
        have hrd0 := Rd.of_lit (wr.alloc (.cells #[.string S, .string T, .int .i64 U] 88)) #[.string S, .string T, .int .i64 U] 88 3 1 (by decide) rfl
        have hrd : Rd ((wr.alloc (.cells #[.string S, .string T, .int .i64 U] 88)).alloc (.cells #[.string S, .string T, .int .i64 U] 88)) 3 (some ⟨wr.heap.size + 1, 0, none⟩) 1 [.string S, .string T, .int .i64 U] := by simpa using hrd0
        have hone : ∀ v ∈ [Value.string S, Value.string T, Value.int .i64 U], v.oneCell' = true := by simp [Value.oneCell']
        clear hinv hstep hx hS hT hU hi2 hV hrd0 hm hcells hbb
        go_wp2_with (at_builtin; have _t := hown2; go_must ((with_reducible refine wpList_append_lit 88 (.agg #[.string ⟨#[]⟩, .string ⟨#[]⟩, .int .i64 0]) 3 40 Tryz.underlying28 info_rfile rfl (w.heap.size + 2) A' m c' V hown2 1 _ (.slice (some ⟨wr.heap.size + 1, 0, none⟩) 1 1) (Src.slice Tryz.underlying28 hrd) hone ?_ ?_ ?_ ?_ ?_); (unfold maxLen; omega); omega; (simp; omega); exact ⟨rfl, rfl⟩; intro A3 c3 w3 hown3 hgr3 hbl3; clear hown2))
        go_roundg (gk - 1)
        case rel => exact ⟨k + 1, m + 1, A3, c3, by omega, by go_num, by rw [HST.out, List.length_append, ← HM.out]; rfl, rfl, by rw [HST.out]; exact HI2.out.grown (by rw [← HM.out, ← HV.out, ← HX.out]; exact hown3) hgr3⟩
        case measure => omega
      · rw [if_neg hbb] at hstep
        rw [Bool.not_eq_true] at hbb
        rw [hbb] at hless
        have HST := hid2 hstep
        have HI2 := hid2 (hinv.alloc (.cells #[.string S, .string T, .int .i64 U] 88))
        clear hinv hstep hx hS hT hU hm hcells hbb
        go_wp2_with fail
        go_roundg (gk - 1)
        case rel => exact ⟨k + 1, m, A', c', by omega, by go_num, by rw [HST.out]; exact HM.out, rfl, by rw [HST.out]; exact HI2.out⟩
        case measure => omega
    · have hkN : k = N := by omega
      have hlt' : ¬ (k : Int) < N := by omega
      rw [hkN, HN.out, List.take_of_length_le (Nat.le_refl _)] at hm hinv
      have hmk : m ≤ 1000000000 := by
        rw [hm]
        exact Nat.le_trans (List.length_filter_le _ _) (by rw [← HN.out]; exact hl)
      have b0 : wr.cell? ⟨w.heap.size + 1, 0, none⟩ = some (.string s) := (cell_of_row wr _ 0 _ _ _ hinv.box1).trans rfl
      have b1 : wr.cell? ⟨w.heap.size + 1, 1, none⟩ = some (.string d) := (cell_of_row wr _ 1 _ _ _ hinv.box1).trans rfl
      have b2 : wr.cell? ⟨w.heap.size + 1, 2, none⟩ = some (.int .i64 u) := (cell_of_row wr _ 2 _ _ _ hinv.box1).trans rfl
      have hi2 := hinv.alloc (.cells #[.string s, .string d, .int .i64 u] 88)
      have hown2 := hi2.own
      rw [← HN.out] at hi2
      rw [← hm] at hown2
      obtain ⟨V, hV⟩ : ∃ V, V = rfsV (lowM M s.data.toList) := ⟨_, rfl⟩
      rw [← hV] at hown2
      obtain ⟨L0, hL0⟩ : ∃ L0, L0 = lowM M s.data.toList := ⟨_, rfl⟩
      rw [← hL0] at hm hV hi2
      have HM := hid2 hm
      have HV := hid2 hV
      have HL0 := hid2 hL0
      have HI2 := hid2 hi2
      have hrd := Rd.of_lit wr #[.string s, .string d, .int .i64 u] 88 3 1 (by decide) rfl
      have hone : ∀ v ∈ [Value.string s, Value.string d, Value.int .i64 u], v.oneCell' = true := by simp [Value.oneCell']
      have hnew : [Value.string s, Value.string d, Value.int .i64 u] = rfV (s.data.toList, (d.data.toList, n)) := by
        rw [rfV, strB_of, strB_of, HU.out]
      have HNEW := hid2 hnew
      clear hinv hi2 hV hL0 hm hnew hkN hlt
      go_wp2_with (at_builtin; have _t := hown2; go_must ((with_reducible refine wpList_append_lit 88 (.agg #[.string ⟨#[]⟩, .string ⟨#[]⟩, .int .i64 0]) 3 40 Tryz.underlying28 info_rfile rfl (w.heap.size + 2) A' m c' V hown2 1 _ (.slice (some ⟨wr.heap.size, 0, none⟩) 1 1) (Src.slice Tryz.underlying28 hrd) hone ?_ ?_ ?_ ?_ ?_); (unfold maxLen; omega); omega; (simp; omega); exact ⟨rfl, rfl⟩; intro A3 c3 w3 hown3 hgr3 hbl3; have hi3 := HI2.out.grown (x := (s.data.toList, (d.data.toList, n))) (by rw [← HM.out, ← HV.out, ← HNEW.out]; exact hown3) hgr3; have k00 : w3.cell? ⟨w.heap.size, 0, none⟩ = some (.slice A N c) := (cell_of_row w3 _ 0 _ _ _ hi3.box0).trans rfl; have HI3 := hid2 hi3; clear hown2 hi3 hown3 hgr3 hbl3))
      obtain ⟨L1, hL1⟩ : ∃ L1, L1 = L0 ++ [(s.data.toList, (d.data.toList, n))] := ⟨_, rfl⟩
      have hi3 := HI3.out
      rw [← hL1] at hi3
      have hm1 : m + 1 = L1.length := by rw [hL1, List.length_append, ← HM.out]; rfl
      have HI4 := hid2 hi3
      have HL1 := hid2 hL1
      have HM1 := hid2 hm1
      obtain ⟨m1, hm1'⟩ : ∃ m1, m1 = m + 1 := ⟨_, rfl⟩
      have hm1b : m1 ≤ 1000000001 := by omega
      have HM2 := hid2 (show m1 = L1.length by rw [hm1']; exact hm1)
      clear hi3 HI3 hL1 hm1 HI2 HNEW HV HW b0 b1 b2 hrd hone _t hsz
      go_loopg [5, 35] N (fun gk v i wr => ∃ (k m : Nat) (A' : Option Addr) (c' : Nat), k + gk = N ∧ i = .int .i64 k ∧ m = (L1 ++ highM (M.take k) s.data.toList).length ∧ v = .slice A' m c' ∧ WInv w A N c left s d u A' c' (L1 ++ highM (M.take k) s.data.toList) wr)
      case atStart => exact ⟨0, m + 1, A3, c3, by omega, rfl, by simpa [highM] using HM1.out, rfl, by simpa [highM] using HI4.out⟩
      case round =>
        obtain ⟨k, m, A', c', hk, rfl, hm, rfl, hinv⟩ := hrel
        have hsz := hinv.size
        by_cases hlt : k < N
        · have hlt' : (k : Int) < N := by omega
          obtain ⟨x, hx⟩ : ∃ x, M[k]? = some x := ⟨_, List.getElem?_eq_getElem (by rw [← HN.out]; exact hlt)⟩
          obtain ⟨b, o, rfl, c0, c1, c2⟩ := rf_cells (HR.out.below_all hinv.below) hx
          have f0 : wr.cell? ⟨w.heap.size + 1, 0, none⟩ = some (.string s) := (cell_of_row wr _ 0 _ _ _ hinv.box1).trans rfl
          have hstep := highM_step hx s.data.toList
          obtain ⟨S, hS⟩ : ∃ S, S = strB x.1 := ⟨_, rfl⟩
          obtain ⟨T, hT⟩ : ∃ T, T = strB x.2.1 := ⟨_, rfl⟩
          obtain ⟨U, hU⟩ : ∃ U : Int, U = x.2.2 := ⟨_, rfl⟩
          rw [← hS] at c0
          rw [← hT] at c1
          rw [← hU] at c2
          have hSx : S.toList = x.1 := by rw [ByteArray.toList_eq, hS, strB_list]
          have hsx : s.toList = s.data.toList := by rw [ByteArray.toList_eq]
          have hcells : [Value.string S, Value.string T, Value.int .i64 U] = rfV x := by rw [rfV, ← hS, ← hT, ← hU]
          have HX := hid2 hcells
          have hmk : m ≤ 2000000001 := by
            rw [hm, List.length_append, ← HM2.out]
            have : (highM (M.take k) s.data.toList).length ≤ k := Nat.le_trans (List.length_filter_le _ _) (by rw [List.length_take]; omega)
            omega
          have HM := hid2 hm
          have f1 := f0
          rw [← World.cell?_alloc_lt wr (.cells #[.string S, .string T, .int .i64 U] 88) ⟨w.heap.size + 1, 0, none⟩ (by show w.heap.size + 1 < _; omega)] at f1
          by_cases hbb : bytesBefore s.data.toList x.1 = true
          · rw [if_pos hbb] at hstep
            rw [bytesBefore_lt] at hbb
            have h1 : Op.bytesLess S.toList s.toList = false := by
              rw [less_before, hSx, hsx, Bool.eq_false_iff, Ne, bytesBefore_lt]
              exact fun h => List.lt_irrefl _ (List.lt_trans hbb h)
            have h2 : (S.toList == s.toList) = false := by
              rw [hSx, hsx, beq_eq_false_iff_ne]
              exact fun h => List.lt_irrefl _ (by rw [h] at hbb; exact hbb)
            have HST := hid2 hstep
            have hi2 := (hinv.alloc (.cells #[.string S, .string T, .int .i64 U] 88)).alloc (.cells #[.string S, .string T, .int .i64 U] 88)
            have hown2 := hi2.own
            rw [← hm] at hown2
            have HI2 := hid2 hi2
            obtain ⟨V, hV⟩ : ∃ V, V = rfsV (L1 ++ highM (M.take k) s.data.toList) := ⟨_, rfl⟩
            rw [← hV] at hown2
            have HV := hid2 hV
            have hrd0 := Rd.of_lit (wr.alloc (.cells #[.string S, .string T, .int .i64 U] 88)) #[.string S, .string T, .int .i64 U] 88 3 1 (by decide) rfl
            have hrd : Rd ((wr.alloc (.cells #[.string S, .string T, .int .i64 U] 88)).alloc (.cells #[.string S, .string T, .int .i64 U] 88)) 3 (some ⟨wr.heap.size + 1, 0, none⟩) 1 [.string S, .string T, .int .i64 U] := by simpa using hrd0
            have hone : ∀ v ∈ [Value.string S, Value.string T, Value.int .i64 U], v.oneCell' = true := by simp [Value.oneCell']
            clear hinv hstep hx hS hT hU hi2 hV hrd0 hm hcells hbb hSx hsx
            go_wp2_with (at_builtin; have _t := hown2; go_must ((with_reducible refine wpList_append_lit 88 (.agg #[.string ⟨#[]⟩, .string ⟨#[]⟩, .int .i64 0]) 3 40 Tryz.underlying28 info_rfile rfl (w.heap.size + 2) A' m c' V hown2 1 _ (.slice (some ⟨wr.heap.size + 1, 0, none⟩) 1 1) (Src.slice Tryz.underlying28 hrd) hone ?_ ?_ ?_ ?_ ?_); (unfold maxLen; omega); omega; (simp; omega); exact ⟨rfl, rfl⟩; intro A3 c3 w3 hown3 hgr3 hbl3; clear hown2))
            go_roundg (gk - 1)
            case rel => exact ⟨k + 1, m + 1, A3, c3, by omega, by go_num, by rw [HST.out, ← List.append_assoc, List.length_append, ← HM.out]; rfl, rfl, by rw [HST.out, ← List.append_assoc]; exact HI2.out.grown (by rw [← HM.out, ← HV.out, ← HX.out]; exact hown3) hgr3⟩
            case measure => omega
          · rw [if_neg hbb] at hstep
            rw [bytesBefore_lt] at hbb
            have HST := hid2 hstep
            have HI2 := hid2 (hinv.alloc (.cells #[.string S, .string T, .int .i64 U] 88))
            have h12 : Op.bytesLess S.toList s.toList = true ∨ Op.bytesLess S.toList s.toList = false ∧ S.toList = s.toList := by
              rw [less_before, hSx, hsx]
              by_cases h : bytesBefore x.1 s.data.toList = true
              · exact .inl h
              · refine .inr ⟨by simpa using h, ?_⟩
                rw [bytesBefore_lt] at h
                exact List.le_antisymm (List.not_lt.1 hbb) (List.not_lt.1 h)
            clear hinv hstep hx hS hT hU hm hcells hbb hSx hsx
            rcases h12 with h1 | ⟨h1, h2⟩
            · go_wp2_with fail
              go_roundg (gk - 1)
              case rel => exact ⟨k + 1, m, A', c', by omega, by go_num, by rw [HST.out]; exact HM.out, rfl, by rw [HST.out]; exact HI2.out⟩
              case measure => omega
            · go_wp2_with fail
              go_roundg (gk - 1)
              case rel => exact ⟨k + 1, m, A', c', by omega, by go_num, by rw [HST.out]; exact HM.out, rfl, by rw [HST.out]; exact HI2.out⟩
              case measure => omega
        · have hkN : k = N := by omega
          have hlt' : ¬ (k : Int) < N := by omega
          rw [hkN, HN.out, List.take_of_length_le (Nat.le_refl _)] at hm hinv
          rw [HL1.out, HL0.out] at hm hinv
          have HMM := hid2 hm
          have HII := hid2 hinv
          clear hm hinv hkN hlt
          go_wp2_with fail
          go_ret
          have e1 := HMM.out
          have e2 : lowM M s.data.toList ++ [(s.data.toList, (d.data.toList, n))] ++ highM M s.data.toList = lowM M s.data.toList ++ (s.data.toList, (d.data.toList, n)) :: highM M s.data.toList := by simp
          rw [e2] at e1
          have ho := HII.out.own.mono (show w.heap.size ≤ w.heap.size + 2 by omega)
          rw [e2, ← e1] at ho
          rw [List.length_append, List.length_cons] at e1
          try rw [← e1]
          exact ⟨A', c', rfl, ho, HII.out.below⟩
end Go.Proofs.YtehpapoboeejkaaGreat
