/- A row of texts as bytes: the program's. -/
import Derived.Test.YtjmfmlkjippiaaaDoorKBld
import Derived.Test.YtjmfmlkjippiaaaDoorKv4
import Derived.Test.YtjmfmlkjippiaaaDoorItoaD
import Derived.Test.YtjmfmlkjippiaaaDoorStr
import Derived.Lib.AppendIntMem
namespace Go.Proofs.YtjmfmlkjippiaaaDoor
open Go.RowKit Go.Shelf
open Go.Lib (decDigits itoa_nonneg below_grow)
set_option maxRecDepth 100000
theorem rowL_append (a b : List (List UInt8)) : rowL (a ++ b) = rowL a ++ rowL b := by simp [rowL]
/-- the table of powers of ten reads so, whatever is done at blocks laid since -/
def Tabs (w : World) : Prop := Lib.TabBelow Tryd.prog w.heap.size w "internal/strconv.uint64pow10" .u64 Lib.pow10Tab
theorem Tabs.on {w w' : World} (h : Tabs w) (hb : Below w.heap.size w w') : Tabs w' := fun _ h2 => h _ (hb.trans (h2.mono hb.size))
theorem itoa_any (w : World) (n : Nat) (hn : n ≤ 1000000000) (hT : Tabs w) :
    Calls Tryd.prog 31 #[.int .i64 n] w fun e w' => e = .returned (.string (strB (decDigits n))) ∧ Below w.heap.size w w' := by
  refine (Any.strconv_Itoa Tryd.keyItoa n (by omega) (by omega) w hT.here).mono ?_
  rintro e w' ⟨rfl, k, os, rfl⟩
  exact ⟨by rw [itoa_nonneg]; rfl, below_grow _ _ (Nat.le_refl _) _ _⟩
theorem row_any (w : World) (A : Option Addr) (c : Nat) (l : List (List UInt8)) (hl : l.length ≤ 1000) (hr : Rd w 1 A l.length (strV l)) (hT : Tabs w) (hlen : (rowL l).length ≤ 1000000) :
    Calls Tryd.prog 19 #[.slice A l.length c] w fun e w' => e = .returned (.string (strB (rowL l))) ∧ Below w.heap.size w w' := by
  obtain ⟨w0, hw0⟩ : ∃ w0, w0 = w.alloc (.cells #[.pointer none, .slice none 0 0] 60) := ⟨_, rfl⟩
  have hB0 : Below w.heap.size w w0 := by rw [hw0]; exact (Below.refl _ w).alloc (Nat.le_refl _) _
  have hN0 : BldNew w0 w.heap.size := by rw [hw0]; exact World.alloc_heap_new w _
  obtain ⟨n, hn⟩ : ∃ n, n = l.length := ⟨_, rfl⟩
  rw [← hn] at hr hl ⊢
  have HR := hid2 hr
  have HT := hid2 hT
  have HN := hid2 hn
  have HLEN := hid2 hlen
  clear hr hT hn hlen
  go_enter Tryd.func19, Tryd.ntmps19
  go_wp2
  rw [← hw0]
  clear hw0
  have hlim : (n : Int) ≤ 1000 := by omega
  go_loopw [8] (fun i wr => ∃ k : Nat, k ≤ n ∧ i = .int .i64 k ∧ BldAt wr w.heap.size w.heap.size (rowL (l.take k)) ∧ Below w.heap.size w wr ∧ (k = 0 → BldNew wr w.heap.size)) (fun i _ => n - (intOf i).toNat)
  case atStart => exact ⟨0, by omega, rfl, hN0.at_ (Nat.le_refl _), hB0, fun _ => hN0⟩
  case round =>
    clear hB0 hN0
    obtain ⟨k, hk, rfl, hB, hbe, hz⟩ := hrel
    by_cases hlt : k < n
    · have hkl : (k : Int) < n := by omega
      obtain ⟨x, hx⟩ : ∃ x, l[k]? = some x := ⟨_, List.getElem?_eq_getElem (by rw [← HN.out]; exact hlt)⟩
      have htk : l.take (k + 1) = l.take k ++ [x] := by rw [List.take_add_one, hx]; rfl
      obtain ⟨b, o, rfl, hcell⟩ := (HR.out.below_all hbe).2 (by omega)
      have hcx : wr.cell? ⟨b, o + k, none⟩ = some (.string (strB x)) := hcell k _ (by rw [strV, List.getElem?_map, hx]; rfl)
      have hrow : rowL (l.take (k + 1)) = rowL (l.take k) ++ decDigits x.length ++ [58] ++ x := by rw [htk, rowL_snoc]; simp
      have hle : (rowL (l.take (k + 1))).length ≤ 1000000 := by
        have h := congrArg (fun z => (rowL z).length) (List.take_append_drop (k + 1) l)
        simp only [rowL_append, List.length_append] at h
        have := HLEN.out
        omega
      rw [hrow] at hle
      simp only [List.length_append, List.length_cons, List.length_nil] at hle
      have hxs : (strB x).size = x.length := strB_size x
      have hds : (strB (decDigits x.length)).size = (decDigits x.length).length := strB_size _
      have hxl := strB_list x
      have hdl := strB_list (decDigits x.length)
      obtain ⟨R, hR⟩ : ∃ R, R = rowL (l.take k) := ⟨_, rfl⟩
      obtain ⟨D, hD⟩ : ∃ D, D = decDigits x.length := ⟨_, rfl⟩
      obtain ⟨L, hL⟩ : ∃ L, L = x.length := ⟨_, rfl⟩
      rw [← hR] at hB hle
      rw [← hD] at hle hds hdl
      rw [← hL] at hle hxs hD
      have hLi : (L : Int) ≤ 1000000 := by omega
      have HROW := hid2 hrow
      have HX := hid2 hx
      have HRR := hid2 hR
      have HD := hid2 hD
      have HLL := hid2 hL
      have HLE := hid2 hle
      have HXS := hid2 hxs
      have HDS := hid2 hds
      have HXL := hid2 hxl
      have HDL := hid2 hdl
      have HBE := hid2 hbe
      have hsz := hbe.size
      have hlen1 : (strB x).size = L := hxs
      clear hz hrow hx hR hD hL htk hcell hle hds hxl hdl hbe hxs
      go_wp2_with (first
        | (go_at_call 31; refine (itoa_any wr L (by have := HLE.out; omega) (HT.out.on HBE.out)).mono ?_; rintro e w1 ⟨rfl, hb1⟩; rw [← HD.out]; have hB1 := hB.below hb1 (Nat.le_refl _); have hs1 := hb1.size; clear hB)
        | (go_at_call 30; refine (writeString_any w1 _ _ _ hB1 (strB D) (by have := HLE.out; have := HDS.out; omega) (by omega)).mono ?_; rintro e w2 ⟨rfl, hB2, hb2⟩; rw [HDL.out] at hB2; have hs2 := hb2.size; clear hB1)
        | (go_at_call 32; refine (writeByte_any w2 _ _ _ hB2 58 (by have := HLE.out; rw [List.length_append]; omega) (by omega)).mono ?_; rintro e w3 ⟨rfl, hB3, hb3⟩; have hs3 := hb3.size; clear hB2)
        | (go_at_call 30; refine (writeString_any w3 _ _ _ hB3 (strB x) (by have := HLE.out; have := HXS.out; rw [List.length_append, List.length_append, List.length_singleton]; omega) (by omega)).mono ?_; rintro e w4 ⟨rfl, hB4, hb4⟩; rw [HXL.out] at hB4; have hs4 := hb4.size; clear hB3))
      go_roundw
      case rel =>
        refine ⟨k + 1, by omega, by go_num, by rw [HROW.out, ← HRR.out, ← HLL.out, ← HD.out]; exact hB4, (((HBE.out.trans (hb1.mono hsz)).trans hb2).trans hb3).trans hb4, fun h => by omega⟩
      case measure => simp [intOf]; omega
    · have hkn : k = n := by omega
      have hkl : ¬ (k : Int) < n := by omega
      have htl : l.take k = l := by rw [hkn, HN.out, List.take_length]
      rw [htl] at hB
      have hBE := hid2 hbe
      have HZ := hid2 hz
      clear hbe hz htl
      rcases Nat.eq_zero_or_pos n with h0 | h0
      · have hk0 : k = 0 := by omega
        have hN0 := HZ.out hk0
        have hl0 : l = [] := List.eq_nil_of_length_eq_zero (by rw [← HN.out]; exact h0)
        clear hB
        go_wp2_with (first
          | (go_at_call 33; refine (bstring_new wr w.heap.size _ hN0).mono ?_; rintro e w1 ⟨rfl, hb1⟩))
        go_ret
        exact ⟨by rw [hl0]; rfl, hBE.out.trans hb1⟩
      · have hne : rowL l ≠ [] := by
          obtain ⟨x, t, rfl⟩ : ∃ x t, l = x :: t := by
            cases l with
            | nil => have := HN.out; simp at this; omega
            | cons x t => exact ⟨x, t, rfl⟩
          rw [rowL_cons]
          simp
        go_wp2_with (first
          | (go_at_call 33; refine (bstring_any wr w.heap.size _ _ hB hne).mono ?_; rintro e w1 ⟨rfl, hb1⟩))
        go_ret
        exact ⟨rfl, hBE.out.trans hb1⟩
end Go.Proofs.YtjmfmlkjippiaaaDoor
