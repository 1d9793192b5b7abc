/- A row of texts as bytes: the program's (as Krow, over text Bld). -/
import Derived.Test.YtehpapoboeejkaaDoorBld
import Derived.Test.YtehpapoboeejkaaDoorRow1
import Derived.Test.YtehpapoboeejkaaDoorItoaD
import Derived.Test.YtehpapoboeejkaaDoorStr
import Derived.Lib.AppendIntMem
namespace Go.Proofs.YtehpapoboeejkaaDoor
open Go.RowKit Go.Shelf
open Go.Lib (decDigits itoa_nonneg below_grow)
set_option maxRecDepth 100000
set_option maxHeartbeats 1000000 in
theorem writeByte_any (w : World) (base g : Nat) (l : List UInt8) (h : BldAt w base g l) (b : UInt8) (hlen : l.length + 1 ≤ 140737488355328) (hbase : base ≤ w.heap.size) :
    Calls Tryd.prog 26 #[.pointer (some ⟨g, 0, none⟩), .int .u8 b.toNat] w fun e w' => e = .returned .nilIface ∧ BldAt w' base g (l ++ [b]) ∧ Below base w w' := by
  obtain ⟨hbg, p, A, c, hg, hp, hown⟩ := h
  have hgl := heap_lt hg
  have hne := hown.ne hg (by decide)
  obtain ⟨n, hn⟩ : ∃ n, n = l.length := ⟨_, rfl⟩
  rw [← hn] at hg hown hlen
  have HN := hid2 hn
  clear hn
  go_enter Tryd.func26, Tryd.ntmps26
  go_wp2_with (first
    | (go_at_call 39; refine (copyCheck_any w g _ p hg hp).mono ?_; rintro e w1 ⟨rfl, hg1, hgr1⟩; have hc1 : w1.cell? ⟨g, 1, none⟩ = some (.slice A n c) := cell_of_row w1 g 1 _ _ _ hg1; have hf1 : w1.frozen? ⟨g, 1, none⟩ = false := frozen_of_row w1 g 1 _ _ hg1; have hown1 := hown.grown hgr1 (fun b hb e => hne (hb.trans e)); clear hown)
    | (at_builtin; have _t := hown1; go_must ((with_reducible refine wpList_append_lit 5 (.int .u8 0) 1 1 Tryd.underlying54 info_u8 rfl base A n c (u8s l) (hown1.alloc _) 1 [.int .u8 b.toNat] (.slice (some ⟨w1.heap.size, 0, none⟩) 1 1) (Src.slice Tryd.underlying54 (Rd.one w1 _ _)) one_int ?_ ?_ ?_ ?_ ?_); (unfold maxLen; omega); omega; (simp; have := hgr1.size; omega); exact ⟨rfl, rfl⟩; intro A3 c3 w3 hown3 hgr3 hbl3; clear hown1; have hg3 := (hgr3.block g (by simp; have := hgr1.size; omega) (fun e => hne e.symm)).trans ((Below.heap_alloc w1 _ g (heap_lt hg1)).trans hg1); have hc3 : w3.cell? ⟨g, 1, none⟩ = some (.slice A n c) := cell_of_row w3 g 1 _ _ _ hg3; have hf3 : w3.frozen? ⟨g, 1, none⟩ = false := frozen_of_row w3 g 1 _ _ hg3)))
  go_ret
  have hb1 : Below base w w1 := (Below.refl base w).grown hgr1 hbase (fun k e => by injection e with e; omega)
  have hb3 : Below base w w3 := (hb1.alloc (by have := hgr1.size; omega) _).grown hgr3 (by simp; have := hgr1.size; omega) (fun k e => (_t.block k e).1)
  · refine ⟨rfl, ⟨hbg, _, A3, c3, ?_, .inr rfl, ?_⟩, hb3.setCell (p := ⟨g, 1, none⟩) (by exact hbg) _⟩
    · have := heap_set1 _ hg3 (.slice A3 (n + 1) c3)
      rw [List.length_append]
      rw [HN.out] at this ⊢
      exact this
    · have h4 := hown3.setOther (p := ⟨g, 1, none⟩) (hown3.ne hg3 (by decide)) (.slice A3 (n + 1) c3)
      rw [u8s_snoc] at h4
      rw [List.length_append]
      rw [HN.out] at h4 ⊢
      exact h4
theorem rowL_append (a b : List (List UInt8)) : rowL (a ++ b) = rowL a ++ rowL b := by simp [rowL]
/-- the table of powers of ten reads so, whatever is done at blocks laid since -/
def Tabs (w : World) : Prop := Lib.TabBelow Tryd.prog w.heap.size w "internal/strconv.uint64pow10" .u64 Lib.pow10Tab
theorem Tabs.on {w w' : World} (h : Tabs w) (hb : Below w.heap.size w w') : Tabs w' := fun _ h2 => h _ (hb.trans (h2.mono hb.size))
theorem itoa_any (w : World) (n : Nat) (hn : n ≤ 1000000000) (hT : Tabs w) :
    Calls Tryd.prog 25 #[.int .i64 n] w fun e w' => e = .returned (.string (strB (decDigits n))) ∧ Below w.heap.size w w' := by
  refine (Any.strconv_Itoa Tryd.keyItoa n (by omega) (by omega) w hT.here).mono ?_
  rintro e w' ⟨rfl, k, os, rfl⟩
  exact ⟨by rw [itoa_nonneg]; rfl, below_grow _ _ (Nat.le_refl _) _ _⟩
theorem row_any (w : World) (A : Option Addr) (c : Nat) (l : List (List UInt8)) (hl : l.length ≤ 1000) (hr : Rd w 1 A l.length (strV l)) (hT : Tabs w) (hlen : (rowL l).length ≤ 1000000) :
    Calls Tryd.prog 9 #[.slice A l.length c] w fun e w' => e = .returned (.string (strB (rowL l))) ∧ Below w.heap.size w w' := by
  obtain ⟨w0, hw0⟩ : ∃ w0, w0 = w.alloc (.cells #[.pointer none, .slice none 0 0] 56) := ⟨_, rfl⟩
  have hB0 : Below w.heap.size w w0 := by rw [hw0]; exact (Below.refl _ w).alloc (Nat.le_refl _) _
  have hN0 : BldNew w0 w.heap.size := by rw [hw0]; exact heap_alloc_new w _
  obtain ⟨n, hn⟩ : ∃ n, n = l.length := ⟨_, rfl⟩
  rw [← hn] at hr hl ⊢
  have HR := hid2 hr
  have HT := hid2 hT
  have HN := hid2 hn
  have HLEN := hid2 hlen
  clear hr hT hn hlen
  go_enter Tryd.func9, Tryd.ntmps9
  go_wp2
  rw [← hw0]
  clear hw0
  have hlim : (n : Int) ≤ 1000 := by omega
  go_loopw [8] (fun i wr => ∃ k : Nat, k ≤ n ∧ i = .int .i64 k ∧ BldAt wr w.heap.size w.heap.size (rowL (l.take k)) ∧ Below w.heap.size w wr ∧ (k = 0 → BldNew wr w.heap.size)) (fun i _ => n - (intOf i).toNat)
  case atStart => exact ⟨0, by omega, rfl, hN0.at_ (Nat.le_refl _), hB0, fun _ => hN0⟩
  case round =>
    clear hB0 hN0
    obtain ⟨k, hk, rfl, hB, hbe, hz⟩ := hrel
    by_cases hlt : k < n
    · have hkl : (k : Int) < n := by omega
      obtain ⟨x, hx⟩ : ∃ x, l[k]? = some x := ⟨_, List.getElem?_eq_getElem (by rw [← HN.out]; exact hlt)⟩
      have htk : l.take (k + 1) = l.take k ++ [x] := by rw [List.take_add_one, hx]; rfl
      obtain ⟨b, o, rfl, hcell⟩ := (HR.out.below_all hbe).2 (by omega)
      have hcx : wr.cell? ⟨b, o + k, none⟩ = some (.string (strB x)) := hcell k _ (by rw [strV, List.getElem?_map, hx]; rfl)
      have hrow : rowL (l.take (k + 1)) = rowL (l.take k) ++ decDigits x.length ++ [58] ++ x := by rw [htk, rowL_snoc]; simp
      have hle : (rowL (l.take (k + 1))).length ≤ 1000000 := by
        have h := congrArg (fun z => (rowL z).length) (List.take_append_drop (k + 1) l)
        simp only [rowL_append, List.length_append] at h
        have := HLEN.out
        omega
      rw [hrow] at hle
      simp only [List.length_append, List.length_cons, List.length_nil] at hle
      have hxs : (strB x).size = x.length := strB_size x
      have hds : (strB (decDigits x.length)).size = (decDigits x.length).length := strB_size _
      have hxl := strB_list x
      have hdl := strB_list (decDigits x.length)
      obtain ⟨R, hR⟩ : ∃ R, R = rowL (l.take k) := ⟨_, rfl⟩
      obtain ⟨D, hD⟩ : ∃ D, D = decDigits x.length := ⟨_, rfl⟩
      obtain ⟨L, hL⟩ : ∃ L, L = x.length := ⟨_, rfl⟩
      rw [← hR] at hB hle
      rw [← hD] at hle hds hdl
      rw [← hL] at hle hxs hD
      have hLi : (L : Int) ≤ 1000000 := by omega
      have HROW := hid2 hrow
      have HX := hid2 hx
      have HRR := hid2 hR
      have HD := hid2 hD
      have HLL := hid2 hL
      have HLE := hid2 hle
      have HXS := hid2 hxs
      have HDS := hid2 hds
      have HXL := hid2 hxl
      have HDL := hid2 hdl
      have HBE := hid2 hbe
      have hsz := hbe.size
      have hlen1 : (strB x).size = L := hxs
      clear hz hrow hx hR hD hL htk hcell hle hds hxl hdl hbe hxs
      go_wp2_with (first
        | (go_at_call 25; refine (itoa_any wr L (by have := HLE.out; omega) (HT.out.on HBE.out)).mono ?_; rintro e w1 ⟨rfl, hb1⟩; rw [← HD.out]; have hB1 := hB.below hb1 (Nat.le_refl _); have hs1 := hb1.size; clear hB)
        | (go_at_call 24; refine (writeString_any w1 _ _ _ hB1 (strB D) (by have := HLE.out; have := HDS.out; omega) (by omega)).mono ?_; rintro e w2 ⟨rfl, hB2, hb2⟩; rw [HDL.out] at hB2; have hs2 := hb2.size; clear hB1)
        | (go_at_call 26; refine (writeByte_any w2 _ _ _ hB2 58 (by have := HLE.out; rw [List.length_append]; omega) (by omega)).mono ?_; rintro e w3 ⟨rfl, hB3, hb3⟩; have hs3 := hb3.size; clear hB2)
        | (go_at_call 24; refine (writeString_any w3 _ _ _ hB3 (strB x) (by have := HLE.out; have := HXS.out; rw [List.length_append, List.length_append, List.length_singleton]; omega) (by omega)).mono ?_; rintro e w4 ⟨rfl, hB4, hb4⟩; rw [HXL.out] at hB4; have hs4 := hb4.size; clear hB3))
      go_roundw
      case rel =>
        refine ⟨k + 1, by omega, by go_num, by rw [HROW.out, ← HRR.out, ← HLL.out, ← HD.out]; exact hB4, (((HBE.out.trans (hb1.mono hsz)).trans hb2).trans hb3).trans hb4, fun h => by omega⟩
      case measure => simp [intOf]; omega
    · have hkn : k = n := by omega
      have hkl : ¬ (k : Int) < n := by omega
      have htl : l.take k = l := by rw [hkn, HN.out, List.take_length]
      rw [htl] at hB
      have hBE := hid2 hbe
      have HZ := hid2 hz
      clear hbe hz htl
      rcases Nat.eq_zero_or_pos n with h0 | h0
      · have hk0 : k = 0 := by omega
        have hN0 := HZ.out hk0
        have hl0 : l = [] := List.eq_nil_of_length_eq_zero (by rw [← HN.out]; exact h0)
        clear hB
        go_wp2_with (first
          | (go_at_call 27; refine (bstring_new wr w.heap.size _ hN0).mono ?_; rintro e w1 ⟨rfl, hb1⟩))
        go_ret
        exact ⟨by rw [hl0]; rfl, hBE.out.trans hb1⟩
      · have hne : rowL l ≠ [] := by
          obtain ⟨x, t, rfl⟩ : ∃ x t, l = x :: t := by
            cases l with
            | nil => have := HN.out; simp at this; omega
            | cons x t => exact ⟨x, t, rfl⟩
          rw [rowL_cons]
          simp
        go_wp2_with (first
          | (go_at_call 27; refine (bstring_any wr w.heap.size _ _ hB hne).mono ?_; rintro e w1 ⟨rfl, hb1⟩))
        go_ret
        exact ⟨rfl, hBE.out.trans hb1⟩
end Go.Proofs.YtehpapoboeejkaaDoor
