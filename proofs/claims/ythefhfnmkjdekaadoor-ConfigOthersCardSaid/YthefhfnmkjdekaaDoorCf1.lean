/- Settings: plain words; the walks of config's of and one. -/
import Derived.Test.YthefhfnmkjdekaaDoorBox
import Derived.Test.YthefhfnmkjdekaaDoorByte
import Derived.Test.YthefhfnmkjdekaaDoorStr
import Derived.Lib.DecodeNEq
import Derived.Lib.QuoteLoop
import Derived.Lib.IndexLaws
import Derived.Lib.OthersKept
import Derived.Lib.TrimU
import Derived.Shelf.GgClosure.StringsIndexFunc
namespace Go.Proofs.YthefhfnmkjdekaaDoor
open Go.RowKit
set_option maxRecDepth 100000
abbrev Tx := List UInt8
abbrev SetE := Tx × Tx
def smallN (r : Nat) : Bool := (decide (97 ≤ r) && decide (r ≤ 122)) || (decide (48 ≤ r) && decide (r ≤ 57))
def nameN (r : Nat) : Bool := smallN r || decide (r = 45) || decide (r = 95)
def markN (r : Nat) : Bool := decide (r = 45) || decide (r = 95) || decide (r = 46) || decide (r = 43) || decide (r = 47)
def valN (r : Nat) : Bool := smallN r || (decide (65 ≤ r) && decide (r ≤ 90)) || (decide (r < 128) && markN r)
theorem smallN_big {r : Nat} (h : 128 ≤ r) : smallN r = false := by
  unfold smallN
  simp only [Bool.or_eq_false_iff, Bool.and_eq_false_iff, decide_eq_false_iff_not]
  omega
theorem nameN_big {r : Nat} (h : 128 ≤ r) : nameN r = false := by
  unfold nameN
  rw [smallN_big h]
  simp only [Bool.false_or, Bool.or_eq_false_iff, decide_eq_false_iff_not]
  omega
theorem valN_big {r : Nat} (h : 128 ≤ r) : valN r = false := by
  unfold valN
  rw [smallN_big h]
  simp only [Bool.false_or, Bool.or_eq_false_iff, Bool.and_eq_false_iff, decide_eq_false_iff_not]
  omega
theorem decodeN_big (n b0 b1 b2 b3 : Nat) (h : 128 ≤ b0) : 128 ≤ (Lib.decodeN n b0 b1 b2 b3).1 := by
  unfold Lib.decodeN
  rw [if_neg (by omega)]
  repeat' split
  all_goals simp only
  all_goals omega
theorem idx_all_from (p : Nat → Bool) (hp : ∀ r, 128 ≤ r → p r = false) (s : ByteArray) : ∀ (f pos : Nat), pos ≤ s.size → s.size ≤ pos + f →
    decide (0 ≤ Lib.idxFuncFrom (fun r => !p r) true s f pos) = !((s.data.toList.drop pos).all fun c => p c.toNat)
  | 0, pos, h1, h2 => by
    rw [List.drop_of_length_le (by rw [toList_length]; omega)]
    rfl
  | f + 1, pos, h1, h2 => by
    by_cases hps : pos < s.size
    · have hpl : pos < s.data.toList.length := by rw [toList_length]; exact hps
      have hget : s.get! pos = s.data.toList[pos] := by
        have : s.data[pos]! = s.data[pos]'hps := getElem!_pos s.data pos hps
        show s.data[pos]! = _
        rw [this]; simp
      rw [List.drop_eq_getElem_cons hpl, List.all_cons]
      obtain ⟨c, hc⟩ : ∃ c, c = s.data.toList[pos] := ⟨_, rfl⟩
      rw [← hc] at hget ⊢
      unfold Lib.idxFuncFrom
      rw [if_pos hps, Lib.decode_at, hget]
      by_cases h128 : c.toNat < 128
      · rw [show Lib.decodeN (s.size - pos) c.toNat (s.get! (pos + 1)).toNat (s.get! (pos + 2)).toNat (s.get! (pos + 3)).toNat = (c.toNat, 1) by simp [Lib.decodeN, h128]]
        have ih := idx_all_from p hp s f (pos + 1) (by omega) (by omega)
        by_cases hsg : p c.toNat = true
        · rw [if_neg (by show ¬ ((!p c.toNat) = true); rw [hsg]; simp), hsg, Bool.true_and]; exact ih
        · have hsg' : p c.toNat = false := by simpa using hsg
          rw [if_pos (by show (!p c.toNat) = true; rw [hsg']; rfl), hsg']; simp
      · have hb := hp _ (decodeN_big (s.size - pos) c.toNat (s.get! (pos + 1)).toNat (s.get! (pos + 2)).toNat (s.get! (pos + 3)).toNat (by omega))
        have hs : p c.toNat = false := hp _ (by omega)
        rw [hb, hs]; simp
    · rw [Lib.idxFuncFrom_end _ _ _ _ _ hps, List.drop_of_length_le (by rw [toList_length]; omega)]
      rfl
theorem idx_all (p : Nat → Bool) (hp : ∀ r, 128 ≤ r → p r = false) (s : ByteArray) : decide (0 ≤ Lib.idxFunc (fun r => !p r) true s) = !(s.data.toList.all fun c => p c.toNat) := by
  rw [Lib.idxFunc, idx_all_from p hp s s.size 0 (by omega) (by omega), List.drop_zero]
def nameB (s : Tx) : Bool := s.all fun c => nameN c.toNat
def valB (s : Tx) : Bool := s.all fun c => valN c.toNat
/-- may it be a name, a value? -/
def isName (s : Tx) : Bool := decide (1 ≤ s.length) && decide (s.length ≤ 64) && nameB s && decide (97 ≤ (s.headD 0).toNat)
def isVal (s : Tx) : Bool := decide (s.length ≤ 64) && valB s
/-- why a setting may not be -/
def oneE (p : SetE) : Nat := if !isName p.1 then 7 else if !isVal p.2 then 1 else 0
theorem oneE_three (p : SetE) : oneE p = 0 ∨ oneE p = 1 ∨ oneE p = 7 := by
  unfold oneE
  split
  · exact .inr (.inr rfl)
  · split
    · exact .inr (.inl rfl)
    · exact .inl rfl
theorem ret_bool {a b : Bool} (h : a = b) : Ending.returned (.bool a) = Ending.returned (.bool b) := by rw [h]
theorem small_any (w : World) (r : Nat) : Calls Tryd.prog 43 #[.int .i32 r] w fun e w' => e = .returned (.bool (smallN r)) ∧ w' = w := by
  obtain ⟨b, hb⟩ : ∃ b, b = smallN r := ⟨_, rfl⟩
  rw [← hb]
  unfold smallN at hb
  by_cases h1 : 97 ≤ r
  · have i1 : (97 : Int) ≤ r := by omega
    by_cases h2 : r ≤ 122
    · have i2 : (r : Int) ≤ 122 := by omega
      have HB := hid2 hb
      clear hb
      go_enter Tryd.func43, Tryd.ntmps43
      go_wp2_with fail
      go_ret
      exact ⟨ret_bool (by rw [HB.out]; simp [h1, h2]), rfl⟩
    · have i2 : ¬ (r : Int) ≤ 122 := by omega
      have i3 : (48 : Int) ≤ r := by omega
      have i4 : ¬ (r : Int) ≤ 57 := by omega
      have HB := hid2 hb
      clear hb
      go_enter Tryd.func43, Tryd.ntmps43
      go_wp2_with fail
      go_ret
      exact ⟨ret_bool (by rw [HB.out]; simp [h1, h2]; omega), rfl⟩
  · have i1 : ¬ (97 : Int) ≤ r := by omega
    by_cases h3 : 48 ≤ r
    · have i3 : (48 : Int) ≤ r := by omega
      by_cases h4 : r ≤ 57
      · have i4 : (r : Int) ≤ 57 := by omega
        have HB := hid2 hb
        clear hb
        go_enter Tryd.func43, Tryd.ntmps43
        go_wp2_with fail
        go_ret
        exact ⟨ret_bool (by rw [HB.out]; simp [h1, h3, h4]), rfl⟩
      · have i4 : ¬ (r : Int) ≤ 57 := by omega
        have HB := hid2 hb
        clear hb
        go_enter Tryd.func43, Tryd.ntmps43
        go_wp2_with fail
        go_ret
        exact ⟨ret_bool (by rw [HB.out]; simp [h1, h3, h4]), rfl⟩
    · have i3 : ¬ (48 : Int) ≤ r := by omega
      have HB := hid2 hb
      clear hb
      go_enter Tryd.func43, Tryd.ntmps43
      go_wp2_with fail
      go_ret
      exact ⟨ret_bool (by rw [HB.out]; simp [h1, h3]), rfl⟩
theorem name_clo (w : World) (r : Nat) : Calls Tryd.prog 42 #[.int .i32 r] w fun e w' => e = .returned (.bool (nameN r)) ∧ w' = w := by
  obtain ⟨b, hb⟩ : ∃ b, b = nameN r := ⟨_, rfl⟩
  rw [← hb]
  unfold nameN at hb
  have cS := small_any w r
  cases hs : smallN r with
  | true =>
    rw [hs] at cS hb
    have HB := hid2 hb
    clear hb hs
    go_enter Tryd.func42, Tryd.ntmps42
    go_wp2_with (go_at_call 43; refine cS.mono ?_; rintro e w2 ⟨rfl, rfl⟩)
    go_ret
    exact ⟨ret_bool (by rw [HB.out]; simp), rfl⟩
  | false =>
    rw [hs] at cS hb
    by_cases h1 : r = 45
    · subst h1
      rw [show ((45 : Nat) : Int) = 45 from rfl] at cS ⊢
      have HB := hid2 hb
      clear hb hs
      go_enter Tryd.func42, Tryd.ntmps42
      go_wp2_with (go_at_call 43; refine cS.mono ?_; rintro e w2 ⟨rfl, rfl⟩)
      go_ret
      exact ⟨ret_bool (by rw [HB.out]; simp), rfl⟩
    · have i1 : ¬ (r : Int) = 45 := by omega
      have d2 : decide ((r : Int) = 95) = decide (r = 95) := by rw [decide_eq_decide]; omega
      obtain ⟨c, hc⟩ : ∃ c, c = decide (r = 95) := ⟨_, rfl⟩
      rw [← hc] at d2 hb
      have HB := hid2 hb
      clear hb hs hc
      go_enter Tryd.func42, Tryd.ntmps42
      go_wp2_with (go_at_call 43; refine cS.mono ?_; rintro e w2 ⟨rfl, rfl⟩)
      all_goals go_ret
      all_goals exact ⟨ret_bool (by rw [HB.out, ← d2, Bool.eq_iff_iff]; simp; omega), rfl⟩
theorem marks_at (r : Nat) (h : r < 128) : decide ((0 : Int) ≤ Lib.indexByte [45, 95, 46, 43, 47] ((r : Int).toNat.toUInt8)) = markN r := by
  have key : ∀ r : Fin 128, decide ((0 : Int) ≤ Lib.indexByte [45, 95, 46, 43, 47] ((r.val : Int).toNat.toUInt8)) = markN r.val := by decide +kernel
  exact key ⟨r, h⟩
theorem val_clo (w : World) (r : Nat) : Calls Tryd.prog 44 #[.int .i32 r] w fun e w' => e = .returned (.bool (valN r)) ∧ w' = w := by
  obtain ⟨b, hb⟩ : ∃ b, b = valN r := ⟨_, rfl⟩
  rw [← hb]
  unfold valN at hb
  have cS := small_any w r
  cases hs : smallN r with
  | true =>
    rw [hs] at cS hb
    have HB := hid2 hb
    clear hb hs
    go_enter Tryd.func44, Tryd.ntmps44
    go_wp2_with (go_at_call 43; refine cS.mono ?_; rintro e w2 ⟨rfl, rfl⟩)
    go_ret
    exact ⟨ret_bool (by rw [HB.out]; simp), rfl⟩
  | false =>
    rw [hs] at cS hb
    by_cases h1 : 65 ≤ r ∧ r ≤ 90
    · have i1 : (65 : Int) ≤ r := by omega
      have i2 : (r : Int) ≤ 90 := by omega
      have HB := hid2 hb
      clear hb hs
      go_enter Tryd.func44, Tryd.ntmps44
      go_wp2_with (go_at_call 43; refine cS.mono ?_; rintro e w2 ⟨rfl, rfl⟩)
      go_ret
      exact ⟨ret_bool (by rw [HB.out]; simp [h1]), rfl⟩
    · have d1 : (decide (65 ≤ r) && decide (r ≤ 90)) = false := by simp only [Bool.and_eq_false_iff, decide_eq_false_iff_not]; omega
      rw [d1] at hb
      by_cases h3 : r < 128
      · have i3 : (r : Int) < 128 := by omega
        have hmk := marks_at r h3
        have hwr : IntKind.u8.wrap (r : Int) = r := by unfold IntKind.wrap; simp [IntKind.bits, IntKind.signed]; omega
        obtain ⟨m, hm⟩ : ∃ m, m = markN r := ⟨_, rfl⟩
        obtain ⟨I, hI⟩ : ∃ I, I = Lib.indexByte [45, 95, 46, 43, 47] ((r : Int).toNat.toUInt8) := ⟨_, rfl⟩
        rw [← hm, ← hI] at hmk
        rw [← hm] at hb
        have cI := byteat_any w ⟨#[45, 95, 46, 43, 47]⟩ r
        rw [show (⟨#[45, 95, 46, 43, 47]⟩ : ByteArray).data.toList = [45, 95, 46, 43, 47] from rfl, ← hI] at cI
        have HB := hid2 hb
        have H3 := hid2 h3
        clear hb hs hm hI h3
        by_cases h4 : 65 ≤ r
        · have i4 : (65 : Int) ≤ r := by omega
          have i5 : ¬ (r : Int) ≤ 90 := by omega
          clear h1 d1
          go_enter Tryd.func44, Tryd.ntmps44
          go_wp2_with (first
            | (go_at_call 43; refine cS.mono ?_; rintro e w2 ⟨rfl, rfl⟩)
            | (go_at_call 45; refine cI.mono ?_; rintro e w2 ⟨rfl, rfl⟩))
          all_goals go_ret
          all_goals exact ⟨ret_bool (by rw [HB.out]; have h3 := H3.out; first | (simp_all; done) | (simp_all; intro h; omega) | (simp_all; omega)), rfl⟩
        · have i4 : ¬ (65 : Int) ≤ r := by omega
          clear h1 d1
          go_enter Tryd.func44, Tryd.ntmps44
          go_wp2_with (first
            | (go_at_call 43; refine cS.mono ?_; rintro e w2 ⟨rfl, rfl⟩)
            | (go_at_call 45; refine cI.mono ?_; rintro e w2 ⟨rfl, rfl⟩))
          all_goals go_ret
          all_goals exact ⟨ret_bool (by rw [HB.out]; have h3 := H3.out; first | (simp_all; done) | (simp_all; intro h; omega) | (simp_all; omega)), rfl⟩
      · have i3 : ¬ (r : Int) < 128 := by omega
        have i4 : (65 : Int) ≤ r := by omega
        have i5 : ¬ (r : Int) ≤ 90 := by omega
        have HB := hid2 hb
        clear hb hs d1 h1
        go_enter Tryd.func44, Tryd.ntmps44
        go_wp2_with (go_at_call 43; refine cS.mono ?_; rintro e w2 ⟨rfl, rfl⟩)
        go_ret
        exact ⟨ret_bool (by rw [HB.out]; simp [h3]; omega), rfl⟩
def namebadN (r : Nat) : Bool := !nameN r
theorem name_of1 (w : World) (r B : Nat) (hB : w.cell? ⟨B, 0, none⟩ = some (.func (.func 42) #[] #[])) : Calls Tryd.prog 63 #[.int .i32 r, .pointer (some ⟨B, 0, none⟩)] w fun e w' => e = .returned (.bool (namebadN r)) ∧ w' = w := by
  have cC := name_clo w r
  obtain ⟨b, hb⟩ : ∃ b, b = nameN r := ⟨_, rfl⟩
  rw [show namebadN r = !b by rw [hb]; rfl]
  rw [← hb] at cC
  clear hb
  go_enter Tryd.func63, Tryd.ntmps63
  go_wp2_with (go_at_call 42; refine cC.mono ?_; rintro e w2 ⟨rfl, rfl⟩)
  go_ret
  exact ⟨rfl, rfl⟩
theorem name_idxfn (w : World) (s : ByteArray) (B : Nat) (hlt : B < w.heap.size) (hB : w.cell? ⟨B, 0, none⟩ = some (.func (.func 42) #[] #[])) : Calls Tryd.prog 101 #[.string s, .func (.func 63) #[] #[.pointer (some ⟨B, 0, none⟩)], .bool true] w fun e w' => e = .returned (.int .i64 (Lib.idxFunc namebadN true s)) ∧ Below w.heap.size w w' := by
  have HBC := hid2 hB
  have HLT := hid2 hlt
  clear hB hlt
  go_enter Tryd.func101, Tryd.ntmps101
  go_wp2_with fail
  go_loopg [] s.size (fun gf wx => ∃ pos : Nat, wx.heap[w.heap.size]? = some (.stringIter s pos) ∧ Below w.heap.size w wx ∧ Lib.idxFuncFrom namebadN true s gf pos = Lib.idxFunc namebadN true s ∧ s.size ≤ pos + gf)
  case atStart => exact ⟨0, World.iter_heap w s 0, (Below.refl _ w).alloc (Nat.le_refl _) _, rfl, by omega⟩
  case round =>
    obtain ⟨pos, hit, hbw, hleft, hfu⟩ := hrel
    by_cases hps : pos < s.size
    · obtain ⟨g', rfl⟩ : ∃ g', gk = g' + 1 := ⟨gk - 1, by omega⟩
      have hnx : ∀ ty, (Instr.next (.pointer (some ⟨w.heap.size, 0, none⟩)) true ty).run Tryd.prog wr = _ := fun ty => Lib.run_next_any_at wr w.heap.size s pos ty hit hps
      have hwd := Lib.width_pos s pos
      obtain ⟨R, hR⟩ : ∃ R, (Utf8.decode s pos).1 = R := ⟨_, rfl⟩
      obtain ⟨K, hK⟩ : ∃ K, (Utf8.decode s pos).2 = K := ⟨_, rfl⟩
      simp only [Lib.idxFuncFrom, hps, if_true, hR, hK] at hleft
      rw [hR, hK] at hnx
      rw [hK] at hwd
      have hit2 := Lib.iterAt_heap wr w.heap.size s pos (pos + K) hit
      have hbw2 := Lib.below_iterAt hbw (k := w.heap.size) (Nat.le_refl _) s (pos + K)
      obtain ⟨W, hWd⟩ : ∃ W, wr.iterAt w.heap.size s (pos + K) = W := ⟨_, rfl⟩
      rw [hWd] at hnx hit2 hbw2
      have cS := name_of1 W R B ((hbw2.cell (p := ⟨B, 0, none⟩) HLT.out).trans HBC.out)
      cases hsp : namebadN R <;> rw [hsp] at cS <;> simp only [hsp, if_true, Bool.false_eq_true, if_false] at hleft
      · have HL := hid2 hleft
        clear hleft hsp hR hK hWd
        go_wp2_with (go_at_call 63; refine cS.mono ?_; rintro e W' ⟨rfl, rfl⟩)
        go_roundg g'
        case measure => omega
        case rel => exact ⟨pos + K, hit2, hbw2, HL.out, by omega⟩
      · have HL := hid2 hleft
        clear hleft hsp hR hK hWd
        go_wp2_with (go_at_call 63; refine cS.mono ?_; rintro e W' ⟨rfl, rfl⟩)
        go_ret
        exact ⟨congrArg (fun z => Ending.returned (Value.int .i64 z)) HL.out, hbw2⟩
    · have hnx : ∀ ty, (Instr.next (.pointer (some ⟨w.heap.size, 0, none⟩)) true ty).run Tryd.prog wr = _ := fun ty => Lib.run_next_end_at wr w.heap.size s pos ty hit hps
      rw [Lib.idxFuncFrom_end namebadN true s gk pos hps] at hleft
      have HL := hid2 hleft
      clear hleft
      go_wp2_with fail
      go_ret
      exact ⟨congrArg (fun z => Ending.returned (Value.int .i64 z)) HL.out, hbw⟩
theorem name_idxFn (w : World) (s : ByteArray) (B : Nat) (hlt : B < w.heap.size) (hB : w.cell? ⟨B, 0, none⟩ = some (.func (.func 42) #[] #[])) : Calls Tryd.prog 88 #[.string s, .func (.func 63) #[] #[.pointer (some ⟨B, 0, none⟩)]] w fun e w' => e = .returned (.int .i64 (Lib.idxFunc namebadN true s)) ∧ Below w.heap.size w w' := by
  have cI := name_idxfn w s B hlt hB
  clear hB hlt
  go_enter Tryd.func88, Tryd.ntmps88
  go_wp2_with (go_at_call 101; refine cI.mono ?_; rintro e w1 ⟨rfl, hb⟩)
  go_ret
  exact ⟨rfl, hb⟩
theorem name_contFn (w : World) (s : ByteArray) (B : Nat) (hlt : B < w.heap.size) (hB : w.cell? ⟨B, 0, none⟩ = some (.func (.func 42) #[] #[])) : Calls Tryd.prog 62 #[.string s, .func (.func 63) #[] #[.pointer (some ⟨B, 0, none⟩)]] w fun e w' => e = .returned (.bool (!(s.data.toList.all fun c => nameN c.toNat))) ∧ Below w.heap.size w w' := by
  have hx := idx_all nameN (fun _ h => nameN_big h) s
  have cI := name_idxFn w s B hlt hB
  obtain ⟨I, hI⟩ : ∃ I, I = Lib.idxFunc namebadN true s := ⟨_, rfl⟩
  rw [show Lib.idxFunc (fun r => !nameN r) true s = I from hI.symm] at hx
  rw [← hI] at cI
  rw [← hx]
  clear hI hx hB hlt
  go_enter Tryd.func62, Tryd.ntmps62
  go_wp2_with (go_at_call 88; refine cI.mono ?_; rintro e w1 ⟨rfl, hb⟩)
  go_ret
  exact ⟨rfl, hb⟩
theorem name_of (w : World) (s : ByteArray) (m : Nat) (hm : m ≤ 1) (hs : s.size ≤ 1000000) : Calls Tryd.prog 41 #[.string s, .int .i64 m, .func (.func 42) #[] #[]] w fun e w' => e = .returned (.bool (decide (m ≤ s.size) && decide (s.size ≤ 64) && (s.data.toList.all fun c => nameN c.toNat))) ∧ Below w.heap.size w w' := by
  have cC := name_contFn (w.alloc (.cells #[.func (.func 42) #[] #[]] 67)) s w.heap.size (by simp) (by simp)
  have hb0 : Below w.heap.size w (w.alloc (.cells #[.func (.func 42) #[] #[]] 67)) := (Below.refl _ w).alloc (Nat.le_refl _) _
  obtain ⟨W, hW⟩ : ∃ W, W = w.alloc (.cells #[.func (.func 42) #[] #[]] 67) := ⟨_, rfl⟩
  rw [← hW] at cC hb0
  have hl2 : s.data.toList.length = s.size := toList_length s
  obtain ⟨b, hb⟩ : ∃ b, b = s.data.toList.all fun c => nameN c.toNat := ⟨_, rfl⟩
  rw [← hb] at cC ⊢
  have HW := hid2 hW
  have HB0 := hid2 hb0
  clear hb hW hb0
  by_cases h1 : m ≤ s.size
  · have i1 : (m : Int) ≤ s.size := by omega
    by_cases h2 : s.size ≤ 64
    · have i2 : (s.size : Int) ≤ 64 := by omega
      rw [decide_eq_true h1, decide_eq_true h2]
      clear h1 h2
      go_enter Tryd.func41, Tryd.ntmps41
      go_wp2_with (go_at_call 62; rw [← HW.out]; refine cC.mono ?_; rintro e w1 ⟨rfl, hb⟩)
      go_ret
      exact ⟨by simp, HB0.out.trans (hb.mono HB0.out.size)⟩
    · have i2 : ¬ (s.size : Int) ≤ 64 := by omega
      rw [decide_eq_false h2, Bool.and_false]
      clear h1 h2
      go_enter Tryd.func41, Tryd.ntmps41
      go_wp2_with fail
      go_ret
      exact ⟨by simp, by rw [← HW.out]; exact HB0.out⟩
  · have i1 : ¬ (m : Int) ≤ s.size := by omega
    rw [decide_eq_false h1]
    clear h1
    go_enter Tryd.func41, Tryd.ntmps41
    go_wp2_with fail
    go_ret
    exact ⟨by simp, by rw [← HW.out]; exact HB0.out⟩
def valbadN (r : Nat) : Bool := !valN r
theorem val_of1 (w : World) (r B : Nat) (hB : w.cell? ⟨B, 0, none⟩ = some (.func (.func 44) #[] #[])) : Calls Tryd.prog 63 #[.int .i32 r, .pointer (some ⟨B, 0, none⟩)] w fun e w' => e = .returned (.bool (valbadN r)) ∧ w' = w := by
  have cC := val_clo w r
  obtain ⟨b, hb⟩ : ∃ b, b = valN r := ⟨_, rfl⟩
  rw [show valbadN r = !b by rw [hb]; rfl]
  rw [← hb] at cC
  clear hb
  go_enter Tryd.func63, Tryd.ntmps63
  go_wp2_with (go_at_call 44; refine cC.mono ?_; rintro e w2 ⟨rfl, rfl⟩)
  go_ret
  exact ⟨rfl, rfl⟩
theorem val_idxfn (w : World) (s : ByteArray) (B : Nat) (hlt : B < w.heap.size) (hB : w.cell? ⟨B, 0, none⟩ = some (.func (.func 44) #[] #[])) : Calls Tryd.prog 101 #[.string s, .func (.func 63) #[] #[.pointer (some ⟨B, 0, none⟩)], .bool true] w fun e w' => e = .returned (.int .i64 (Lib.idxFunc valbadN true s)) ∧ Below w.heap.size w w' := by
  have HBC := hid2 hB
  have HLT := hid2 hlt
  clear hB hlt
  go_enter Tryd.func101, Tryd.ntmps101
  go_wp2_with fail
  go_loopg [] s.size (fun gf wx => ∃ pos : Nat, wx.heap[w.heap.size]? = some (.stringIter s pos) ∧ Below w.heap.size w wx ∧ Lib.idxFuncFrom valbadN true s gf pos = Lib.idxFunc valbadN true s ∧ s.size ≤ pos + gf)
  case atStart => exact ⟨0, World.iter_heap w s 0, (Below.refl _ w).alloc (Nat.le_refl _) _, rfl, by omega⟩
  case round =>
    obtain ⟨pos, hit, hbw, hleft, hfu⟩ := hrel
    by_cases hps : pos < s.size
    · obtain ⟨g', rfl⟩ : ∃ g', gk = g' + 1 := ⟨gk - 1, by omega⟩
      have hnx : ∀ ty, (Instr.next (.pointer (some ⟨w.heap.size, 0, none⟩)) true ty).run Tryd.prog wr = _ := fun ty => Lib.run_next_any_at wr w.heap.size s pos ty hit hps
      have hwd := Lib.width_pos s pos
      obtain ⟨R, hR⟩ : ∃ R, (Utf8.decode s pos).1 = R := ⟨_, rfl⟩
      obtain ⟨K, hK⟩ : ∃ K, (Utf8.decode s pos).2 = K := ⟨_, rfl⟩
      simp only [Lib.idxFuncFrom, hps, if_true, hR, hK] at hleft
      rw [hR, hK] at hnx
      rw [hK] at hwd
      have hit2 := Lib.iterAt_heap wr w.heap.size s pos (pos + K) hit
      have hbw2 := Lib.below_iterAt hbw (k := w.heap.size) (Nat.le_refl _) s (pos + K)
      obtain ⟨W, hWd⟩ : ∃ W, wr.iterAt w.heap.size s (pos + K) = W := ⟨_, rfl⟩
      rw [hWd] at hnx hit2 hbw2
      have cS := val_of1 W R B ((hbw2.cell (p := ⟨B, 0, none⟩) HLT.out).trans HBC.out)
      cases hsp : valbadN R <;> rw [hsp] at cS <;> simp only [hsp, if_true, Bool.false_eq_true, if_false] at hleft
      · have HL := hid2 hleft
        clear hleft hsp hR hK hWd
        go_wp2_with (go_at_call 63; refine cS.mono ?_; rintro e W' ⟨rfl, rfl⟩)
        go_roundg g'
        case measure => omega
        case rel => exact ⟨pos + K, hit2, hbw2, HL.out, by omega⟩
      · have HL := hid2 hleft
        clear hleft hsp hR hK hWd
        go_wp2_with (go_at_call 63; refine cS.mono ?_; rintro e W' ⟨rfl, rfl⟩)
        go_ret
        exact ⟨congrArg (fun z => Ending.returned (Value.int .i64 z)) HL.out, hbw2⟩
    · have hnx : ∀ ty, (Instr.next (.pointer (some ⟨w.heap.size, 0, none⟩)) true ty).run Tryd.prog wr = _ := fun ty => Lib.run_next_end_at wr w.heap.size s pos ty hit hps
      rw [Lib.idxFuncFrom_end valbadN true s gk pos hps] at hleft
      have HL := hid2 hleft
      clear hleft
      go_wp2_with fail
      go_ret
      exact ⟨congrArg (fun z => Ending.returned (Value.int .i64 z)) HL.out, hbw⟩
theorem val_idxFn (w : World) (s : ByteArray) (B : Nat) (hlt : B < w.heap.size) (hB : w.cell? ⟨B, 0, none⟩ = some (.func (.func 44) #[] #[])) : Calls Tryd.prog 88 #[.string s, .func (.func 63) #[] #[.pointer (some ⟨B, 0, none⟩)]] w fun e w' => e = .returned (.int .i64 (Lib.idxFunc valbadN true s)) ∧ Below w.heap.size w w' := by
  have cI := val_idxfn w s B hlt hB
  clear hB hlt
  go_enter Tryd.func88, Tryd.ntmps88
  go_wp2_with (go_at_call 101; refine cI.mono ?_; rintro e w1 ⟨rfl, hb⟩)
  go_ret
  exact ⟨rfl, hb⟩
theorem val_contFn (w : World) (s : ByteArray) (B : Nat) (hlt : B < w.heap.size) (hB : w.cell? ⟨B, 0, none⟩ = some (.func (.func 44) #[] #[])) : Calls Tryd.prog 62 #[.string s, .func (.func 63) #[] #[.pointer (some ⟨B, 0, none⟩)]] w fun e w' => e = .returned (.bool (!(s.data.toList.all fun c => valN c.toNat))) ∧ Below w.heap.size w w' := by
  have hx := idx_all valN (fun _ h => valN_big h) s
  have cI := val_idxFn w s B hlt hB
  obtain ⟨I, hI⟩ : ∃ I, I = Lib.idxFunc valbadN true s := ⟨_, rfl⟩
  rw [show Lib.idxFunc (fun r => !valN r) true s = I from hI.symm] at hx
  rw [← hI] at cI
  rw [← hx]
  clear hI hx hB hlt
  go_enter Tryd.func62, Tryd.ntmps62
  go_wp2_with (go_at_call 88; refine cI.mono ?_; rintro e w1 ⟨rfl, hb⟩)
  go_ret
  exact ⟨rfl, hb⟩
theorem val_of (w : World) (s : ByteArray) (m : Nat) (hm : m ≤ 1) (hs : s.size ≤ 1000000) : Calls Tryd.prog 41 #[.string s, .int .i64 m, .func (.func 44) #[] #[]] w fun e w' => e = .returned (.bool (decide (m ≤ s.size) && decide (s.size ≤ 64) && (s.data.toList.all fun c => valN c.toNat))) ∧ Below w.heap.size w w' := by
  have cC := val_contFn (w.alloc (.cells #[.func (.func 44) #[] #[]] 67)) s w.heap.size (by simp) (by simp)
  have hb0 : Below w.heap.size w (w.alloc (.cells #[.func (.func 44) #[] #[]] 67)) := (Below.refl _ w).alloc (Nat.le_refl _) _
  obtain ⟨W, hW⟩ : ∃ W, W = w.alloc (.cells #[.func (.func 44) #[] #[]] 67) := ⟨_, rfl⟩
  rw [← hW] at cC hb0
  have hl2 : s.data.toList.length = s.size := toList_length s
  obtain ⟨b, hb⟩ : ∃ b, b = s.data.toList.all fun c => valN c.toNat := ⟨_, rfl⟩
  rw [← hb] at cC ⊢
  have HW := hid2 hW
  have HB0 := hid2 hb0
  clear hb hW hb0
  by_cases h1 : m ≤ s.size
  · have i1 : (m : Int) ≤ s.size := by omega
    by_cases h2 : s.size ≤ 64
    · have i2 : (s.size : Int) ≤ 64 := by omega
      rw [decide_eq_true h1, decide_eq_true h2]
      clear h1 h2
      go_enter Tryd.func41, Tryd.ntmps41
      go_wp2_with (go_at_call 62; rw [← HW.out]; refine cC.mono ?_; rintro e w1 ⟨rfl, hb⟩)
      go_ret
      exact ⟨by simp, HB0.out.trans (hb.mono HB0.out.size)⟩
    · have i2 : ¬ (s.size : Int) ≤ 64 := by omega
      rw [decide_eq_false h2, Bool.and_false]
      clear h1 h2
      go_enter Tryd.func41, Tryd.ntmps41
      go_wp2_with fail
      go_ret
      exact ⟨by simp, by rw [← HW.out]; exact HB0.out⟩
  · have i1 : ¬ (m : Int) ≤ s.size := by omega
    rw [decide_eq_false h1]
    clear h1
    go_enter Tryd.func41, Tryd.ntmps41
    go_wp2_with fail
    go_ret
    exact ⟨by simp, by rw [← HW.out]; exact HB0.out⟩
end Go.Proofs.YthefhfnmkjdekaaDoor
