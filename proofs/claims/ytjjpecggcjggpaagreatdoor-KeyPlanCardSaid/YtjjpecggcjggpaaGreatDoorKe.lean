/- A row of texts as bytes: the program's. -/
import Derived.Test.YtjjpecggcjggpaaGreatDoorKb
import Derived.Test.YtjjpecggcjggpaaGreatDoorKd
import Derived.Test.YtjjpecggcjggpaaGreatDoorItoaD
import Derived.Test.YtjjpecggcjggpaaGreatDoorKa
import Derived.Lib.AppendIntMem
import Derived.Sort.Walk0
import Derived.BigQuiet
set_option linter.unusedSimpArgs false
set_option linter.unusedVariables false
namespace Go.Proofs.YtjjpecggcjggpaaGreatDoor
open Go.RowKit Go.Shelf
open Go.Lib (decDigits itoa_nonneg below_grow)
set_option maxRecDepth 100000
theorem rowL_append (a b : List (List UInt8)) : rowL (a ++ b) = rowL a ++ rowL b := by simp [rowL]
/-- the table of powers of ten reads so, whatever is done at blocks laid since -/
def Tabs (w : World) : Prop := Lib.TabBelow Tryz.prog w.heap.size w "internal/strconv.uint64pow10" .u64 Lib.pow10Tab
theorem Tabs.on {w w' : World} (h : Tabs w) (hb : Below w.heap.size w w') : Tabs w' := fun _ h2 => h _ (hb.trans (h2.mono hb.size))
theorem itoa_any (w : World) (n : Nat) (hn : n ≤ 1000000000) (hT : Tabs w) :
    Calls Tryz.prog 33 #[.int .i64 n] w fun e w' => e = .returned (.string (strB (decDigits n))) ∧ Below w.heap.size w w' := by
  refine (Any.strconv_Itoa Tryz.keyItoa n (by omega) (by omega) w hT.here).mono ?_
  rintro e w' ⟨rfl, k, os, rfl⟩
  exact ⟨by rw [itoa_nonneg]; rfl, below_grow _ _ (Nat.le_refl _) _ _⟩
theorem row_any (w : World) (A : Option Addr) (c : Nat) (l : List (List UInt8)) (hl : l.length ≤ 1000) (hr : Rd w 1 A l.length (strV l)) (hT : Tabs w) (hlen : (rowL l).length ≤ 1000000) :
    Calls Tryz.prog 15 #[.slice A l.length c] w fun e w' => e = .returned (.string (strB (rowL l))) ∧ Below w.heap.size w w' := by
  obtain ⟨w0, hw0⟩ : ∃ w0, w0 = w.alloc (.cells #[.pointer none, .slice none 0 0] 67) := ⟨_, rfl⟩
  have hB0 : Below w.heap.size w w0 := by rw [hw0]; exact (Below.refl _ w).alloc (Nat.le_refl _) _
  have hN0 : BldNew w0 w.heap.size := by rw [hw0]; exact World.alloc_heap_new w _
  obtain ⟨n, hn⟩ : ∃ n, n = l.length := ⟨_, rfl⟩
  rw [← hn] at hr hl ⊢
  have HR := hid2 hr
  have HT := hid2 hT
  have HN := hid2 hn
  have HLEN := hid2 hlen
  clear hr hT hn hlen
  go_enter Tryz.func15, Tryz.ntmps15
  go_wp2
  rw [← hw0]
  clear hw0
  have hlim : (n : Int) ≤ 1000 := by omega
  go_loopw [8] (fun i wr => ∃ k : Nat, k ≤ n ∧ i = .int .i64 k ∧ BldAt wr w.heap.size w.heap.size (rowL (l.take k)) ∧ Below w.heap.size w wr ∧ (k = 0 → BldNew wr w.heap.size)) (fun i _ => n - (intOf i).toNat)
  case atStart => exact ⟨0, by omega, rfl, hN0.at_ (Nat.le_refl _), hB0, fun _ => hN0⟩
  case round =>
    clear hB0 hN0
    obtain ⟨k, hk, rfl, hB, hbe, hz⟩ := hrel
    by_cases hlt : k < n
    · have hkl : (k : Int) < n := by omega
      obtain ⟨x, hx⟩ : ∃ x, l[k]? = some x := ⟨_, List.getElem?_eq_getElem (by rw [← HN.out]; exact hlt)⟩
      have htk : l.take (k + 1) = l.take k ++ [x] := by rw [List.take_add_one, hx]; rfl
      obtain ⟨b, o, rfl, hcell⟩ := (HR.out.below_all hbe).2 (by omega)
      have hcx : wr.cell? ⟨b, o + k, none⟩ = some (.string (strB x)) := hcell k _ (by rw [strV, List.getElem?_map, hx]; rfl)
      have hrow : rowL (l.take (k + 1)) = rowL (l.take k) ++ decDigits x.length ++ [58] ++ x := by rw [htk, rowL_snoc]; simp
      have hle : (rowL (l.take (k + 1))).length ≤ 1000000 := by
        have h := congrArg (fun z => (rowL z).length) (List.take_append_drop (k + 1) l)
        simp only [rowL_append, List.length_append] at h
        have := HLEN.out
        omega
      rw [hrow] at hle
      simp only [List.length_append, List.length_cons, List.length_nil] at hle
      have hxs : (strB x).size = x.length := strB_size x
      have hds : (strB (decDigits x.length)).size = (decDigits x.length).length := strB_size _
      have hxl := strB_list x
      have hdl := strB_list (decDigits x.length)
      obtain ⟨R, hR⟩ : ∃ R, R = rowL (l.take k) := ⟨_, rfl⟩
      obtain ⟨D, hD⟩ : ∃ D, D = decDigits x.length := ⟨_, rfl⟩
      obtain ⟨L, hL⟩ : ∃ L, L = x.length := ⟨_, rfl⟩
      rw [← hR] at hB hle
      rw [← hD] at hle hds hdl
      rw [← hL] at hle hxs hD
      have hLi : (L : Int) ≤ 1000000 := by omega
      have HROW := hid2 hrow
      have HX := hid2 hx
      have HRR := hid2 hR
      have HD := hid2 hD
      have HLL := hid2 hL
      have HLE := hid2 hle
      have HXS := hid2 hxs
      have HDS := hid2 hds
      have HXL := hid2 hxl
      have HDL := hid2 hdl
      have HBE := hid2 hbe
      have hsz := hbe.size
      have hlen1 : (strB x).size = L := hxs
      clear hz hrow hx hR hD hL htk hcell hle hds hxl hdl hbe hxs
      go_wp2_with (first
        | (go_at_call 33; refine (itoa_any wr L (by have := HLE.out; omega) (HT.out.on HBE.out)).mono ?_; rintro e w1 ⟨rfl, hb1⟩; rw [← HD.out]; have hB1 := hB.below hb1 (Nat.le_refl _); have hs1 := hb1.size; clear hB)
        | (go_at_call 32; refine (writeString_any w1 _ _ _ hB1 (strB D) (by have := HLE.out; have := HDS.out; omega) (by omega)).mono ?_; rintro e w2 ⟨rfl, hB2, hb2⟩; rw [HDL.out] at hB2; have hs2 := hb2.size; clear hB1)
        | (go_at_call 34; refine (writeByte_any w2 _ _ _ hB2 58 (by have := HLE.out; rw [List.length_append]; omega) (by omega)).mono ?_; rintro e w3 ⟨rfl, hB3, hb3⟩; have hs3 := hb3.size; clear hB2)
        | (go_at_call 32; refine (writeString_any w3 _ _ _ hB3 (strB x) (by have := HLE.out; have := HXS.out; rw [List.length_append, List.length_append, List.length_singleton]; omega) (by omega)).mono ?_; rintro e w4 ⟨rfl, hB4, hb4⟩; rw [HXL.out] at hB4; have hs4 := hb4.size; clear hB3))
      go_roundw
      case rel =>
        refine ⟨k + 1, by omega, by go_num, by rw [HROW.out, ← HRR.out, ← HLL.out, ← HD.out]; exact hB4, (((HBE.out.trans (hb1.mono hsz)).trans hb2).trans hb3).trans hb4, fun h => by omega⟩
      case measure => simp [intOf]; omega
    · have hkn : k = n := by omega
      have hkl : ¬ (k : Int) < n := by omega
      have htl : l.take k = l := by rw [hkn, HN.out, List.take_length]
      rw [htl] at hB
      have hBE := hid2 hbe
      have HZ := hid2 hz
      clear hbe hz htl
      rcases Nat.eq_zero_or_pos n with h0 | h0
      · have hk0 : k = 0 := by omega
        have hN0 := HZ.out hk0
        have hl0 : l = [] := List.eq_nil_of_length_eq_zero (by rw [← HN.out]; exact h0)
        clear hB
        go_wp2_with (first
          | (go_at_call 35; refine (bstring_new wr w.heap.size _ hN0).mono ?_; rintro e w1 ⟨rfl, hb1⟩))
        go_ret
        exact ⟨by rw [hl0]; rfl, hBE.out.trans hb1⟩
      · have hne : rowL l ≠ [] := by
          obtain ⟨x, t, rfl⟩ : ∃ x t, l = x :: t := by
            cases l with
            | nil => have := HN.out; simp at this; omega
            | cons x t => exact ⟨x, t, rfl⟩
          rw [rowL_cons]
          simp
        go_wp2_with (first
          | (go_at_call 35; refine (bstring_any wr w.heap.size _ _ hB hne).mono ?_; rintro e w1 ⟨rfl, hb1⟩))
        go_ret
        exact ⟨rfl, hBE.out.trans hb1⟩
end Go.Proofs.YtjjpecggcjggpaaGreatDoor
/- The document's rows of texts as bytes. -/
namespace Go.Proofs.YtjjpecggcjggpaaGreatDoor
open Go.RowKit Go.Shelf
open Go.Lib (decDigits)
set_option maxRecDepth 100000
theorem digits_any : ∀ (n : Nat), n ≤ 1000000000 → ∀ w : World, Calls Tryz.prog 65 #[.int .i64 n] w fun e w' => e = .returned (.string (strB (decDigits n))) ∧ Below w.heap.size w w' := fun n => by
  induction n using Nat.strongRecOn with
  | _ n ih =>
    intro hn w
    by_cases h : n < 10
    · have hi : (n : Int) < 10 := by omega
      have hd : decDigits n = [UInt8.ofNat (48 + n)] := by rw [decDigits, dif_pos h]
      have ht := dig_toNat h
      have hu : u8s [UInt8.ofNat (48 + n)] = [.int .u8 (48 + (n : Int))] := by
        simp only [u8s, List.map_cons, List.map_nil]
        rw [ht]
        simp
      obtain ⟨B, hB⟩ : ∃ B, B = UInt8.ofNat (48 + n) := ⟨_, rfl⟩
      rw [← hB] at hd hu
      have HD := hid2 hd
      have HU := hid2 hu
      clear hd ht hu ih hn hB
      go_enter Tryz.func65, Tryz.ntmps65
      go_wp2_with (first
        | ((with_reducible refine wpList_to_string_lit 5 (some ⟨w.heap.size, 0, none⟩) 1 1 [B] Tryz.underlying65 Tryz.underlying5 Tryz.underlying9 rfl ?_ ?_ ?_); (rw [HU.out]; exact Rd.one w _ _); exact rfl))
      go_ret
      exact ⟨by rw [HD.out]; rfl, (Below.refl _ w).alloc (Nat.le_refl _) _⟩
    · have hi : ¬ (n : Int) < 10 := by omega
      have hd : decDigits n = decDigits (n / 10) ++ decDigits (n % 10) := by
        rw [decDigits, dif_neg h]
        congr 1
        rw [decDigits, dif_pos (by omega)]
      have i1 := ih (n / 10) (by omega) (by omega)
      have i2 := ih (n % 10) (by omega) (by omega)
      have hs1 : (strB (decDigits (n / 10))).size ≤ 10 := by rw [strB_size]; exact dec_len 9 _ (by omega)
      have hs2 : (strB (decDigits (n % 10))).size ≤ 10 := by rw [strB_size]; exact dec_len 9 _ (by omega)
      have hc1 : ¬ 9223372036854775807 < (strB (decDigits (n / 10))).size + (strB (decDigits (n % 10))).size := by omega
      have HD := hid2 hd
      clear hd ih hs1 hs2
      go_enter Tryz.func65, Tryz.ntmps65
      go_wp2_with (first
        | (go_at_call 65; rw [show ((n : Int) % 10) = ((n % 10 : Nat) : Int) from by omega]; refine (i2 w1).mono ?_; rintro e w2 ⟨rfl, hb2⟩)
        | (go_at_call 65; rw [show ((n : Int) / 10) = ((n / 10 : Nat) : Int) from by omega]; refine (i1 w).mono ?_; rintro e w1 ⟨rfl, hb1⟩))
      go_ret
      exact ⟨by rw [strB_append, ← HD.out]; rfl, hb1.trans (hb2.mono hb1.size)⟩
theorem refrow_any (w : World) (A : Option Addr) (c : Nat) (l : List (List UInt8)) (hl : l.length ≤ 1000) (hr : Rd w 1 A l.length (strV l)) (hlen : (rowL l).length ≤ 1000000) :
    Calls Tryz.prog 42 #[.slice A l.length c] w fun e w' => e = .returned (.string (strB (rowL l))) ∧ Below w.heap.size w w' := by
  obtain ⟨n, hn⟩ : ∃ n, n = l.length := ⟨_, rfl⟩
  rw [← hn] at hr hl ⊢
  have HR := hid2 hr
  have HN := hid2 hn
  have HLEN := hid2 hlen
  clear hr hn hlen
  go_enter Tryz.func42, Tryz.ntmps42
  go_wp2
  have hlim : (n : Int) ≤ 1000 := by omega
  go_loopw [3, 8] (fun t i wr => ∃ k : Nat, k ≤ n ∧ i = .int .i64 k ∧ t = .string (strB (rowL (l.take k))) ∧ Below w.heap.size w wr) (fun _ i _ => n - (intOf i).toNat)
  case atStart => exact ⟨0, by omega, rfl, rfl, Below.refl _ _⟩
  case round =>
    obtain ⟨k, hk, rfl, rfl, hbe⟩ := hrel
    by_cases hlt : k < n
    · have hkl : (k : Int) < n := by omega
      obtain ⟨x, hx⟩ : ∃ x, l[k]? = some x := ⟨_, List.getElem?_eq_getElem (by rw [← HN.out]; exact hlt)⟩
      have htk : l.take (k + 1) = l.take k ++ [x] := by rw [List.take_add_one, hx]; rfl
      obtain ⟨b, o, rfl, hcell⟩ := (HR.out.below_all hbe).2 (by omega)
      have hcx : wr.cell? ⟨b, o + k, none⟩ = some (.string (strB x)) := hcell k _ (by rw [strV, List.getElem?_map, hx]; rfl)
      have hrow : rowL (l.take (k + 1)) = rowL (l.take k) ++ (decDigits x.length ++ [58] ++ x) := by rw [htk, rowL_snoc]; simp
      have hle : (rowL (l.take (k + 1))).length ≤ 1000000 := by
        have h := congrArg (fun z => (rowL z).length) (List.take_append_drop (k + 1) l)
        simp only [rowL_append, List.length_append] at h
        have := HLEN.out
        omega
      rw [hrow] at hle
      simp only [List.length_append, List.length_cons, List.length_nil] at hle
      have hxs : (strB x).size = x.length := strB_size x
      have hds : (strB (decDigits x.length)).size = (decDigits x.length).length := strB_size _
      have hrs : (strB (rowL (l.take k))).size = (rowL (l.take k)).length := strB_size _
      have hcat : strB (rowL (l.take k)) ++ (strB (decDigits x.length) ++ ⟨#[58]⟩ ++ strB x) = strB (rowL (l.take (k + 1))) := by
        rw [hrow, ← strB_append, ← strB_append, ← strB_append]; rfl
      have hc1 : ¬ 9223372036854775807 < (strB (decDigits x.length)).size + 1 := by omega
      have hc2 : ¬ 9223372036854775807 < (rowL (l.take k)).length + ((strB (decDigits x.length)).size + 1 + x.length) := by omega
      obtain ⟨R, hR⟩ : ∃ R, R = strB (rowL (l.take k)) := ⟨_, rfl⟩
      obtain ⟨L, hL⟩ : ∃ L, L = x.length := ⟨_, rfl⟩
      rw [← hR] at hcat hrs ⊢
      rw [← hL] at hle hxs hcat hc1 hc2
      have HCAT := hid2 hcat
      have HLE := hid2 hle
      have hLi : L ≤ 1000000 := by omega
      have HBE := hid2 hbe
      clear hcat hle hrow hx hR hL htk hcell hbe hds
      go_wp2_with (first
        | (go_at_call 65; refine (digits_any L (by omega) wr).mono ?_; rintro e w1 ⟨rfl, hb1⟩))
      go_roundw
      case rel =>
        exact ⟨k + 1, by omega, by go_num, by rw [HCAT.out], HBE.out.trans (hb1.mono HBE.out.size)⟩
      case measure => simp [intOf]; omega
    · have hkn : k = n := by omega
      have hkl : ¬ (k : Int) < n := by omega
      have htl : l.take k = l := by rw [hkn, HN.out, List.take_length]
      rw [htl]
      go_wp2
      go_ret
      exact ⟨rfl, hbe⟩
end Go.Proofs.YtjjpecggcjggpaaGreatDoor
/- The document's set of texts. -/
namespace Go.Proofs.YtjjpecggcjggpaaGreatDoor
open Go.RowKit Go.Shelf
abbrev Tx := List UInt8
/-- one text of the row met while x is put in: what was laid, and whether x was -/
def stepI (x : Tx) (s : List Tx × Bool) (o : Tx) : List Tx × Bool :=
  ((if s.2 = false ∧ x ≤ o then s.1 ++ [x] else s.1) ++ (if o ≠ x then [o] else []), s.2 || decide (x ≤ o))
def stepsI (x : Tx) (l : List Tx) : List Tx × Bool := l.foldl (stepI x) ([], false)
def insS (x : Tx) (l : List Tx) : List Tx := if (stepsI x l).2 then (stepsI x l).1 else (stepsI x l).1 ++ [x]
def refSet (l : List Tx) : List Tx := l.foldl (fun out x => insS x out) []
def insR (x : Tx) : List Tx → List Tx
  | [] => [x]
  | o :: r => if x ≤ o then x :: (if o ≠ x then [o] else []) ++ r else o :: insR x r
theorem fold_done {x : Tx} : ∀ {r : List Tx} (nx : List Tx), (∀ o ∈ r, o ≠ x) → r.foldl (stepI x) (nx, true) = (nx ++ r, true)
  | [], nx, _ => by simp
  | o :: r, nx, h => by
    rw [List.foldl_cons, show stepI x (nx, true) o = (nx ++ [o], true) by simp [stepI, h o (by simp)], fold_done _ (fun o' ho' => h o' (by simp [ho']))]
    simp
theorem fold_ins {x : Tx} : ∀ {r : List Tx} (nx : List Tx), r.Pairwise (· < ·) → (let p := r.foldl (stepI x) (nx, false); if p.2 then p.1 else p.1 ++ [x]) = nx ++ insR x r
  | [], nx, _ => by simp [insR]
  | o :: r, nx, h => by
    obtain ⟨h1, h2⟩ := List.pairwise_cons.1 h
    rw [List.foldl_cons]
    by_cases hx : x ≤ o
    · rw [show stepI x (nx, false) o = (nx ++ [x] ++ (if o ≠ x then [o] else []), true) by simp [stepI, hx], fold_done _ (fun o' ho' e => by subst e; exact absurd (h1 _ ho') (List.not_lt.2 hx))]
      simp [insR, hx]
    · have hne : o ≠ x := fun e => hx (e ▸ List.le_refl _)
      rw [show stepI x (nx, false) o = (nx ++ [o], false) by simp [stepI, hx, hne]]
      have := fold_ins (x := x) (nx ++ [o]) h2
      simp only at this ⊢
      rw [this, insR, if_neg hx]
      simp
theorem insS_eq {x : Tx} {r : List Tx} (h : r.Pairwise (· < ·)) : insS x r = insR x r := by
  have := fold_ins (x := x) [] h
  rw [List.nil_append] at this
  exact this
theorem insR_mem {x y : Tx} : ∀ {r : List Tx}, y ∈ insR x r ↔ y = x ∨ y ∈ r
  | [] => by simp [insR]
  | o :: r => by
    rw [insR]
    by_cases hx : x ≤ o
    · rw [if_pos hx]
      by_cases he : o = x
      · subst he; simp
      · simp [he]
    · rw [if_neg hx, List.mem_cons, insR_mem, List.mem_cons]
      constructor
      · rintro (h | h | h)
        · exact .inr (.inl h)
        · exact .inl h
        · exact .inr (.inr h)
      · rintro (h | h | h)
        · exact .inr (.inl h)
        · exact .inl h
        · exact .inr (.inr h)
theorem insR_rise {x : Tx} : ∀ {r : List Tx}, r.Pairwise (· < ·) → (insR x r).Pairwise (· < ·)
  | [], _ => by simp [insR]
  | o :: r, h => by
    obtain ⟨h1, h2⟩ := List.pairwise_cons.1 h
    rw [insR]
    by_cases hx : x ≤ o
    · rw [if_pos hx]
      by_cases he : o = x
      · subst he
        simpa using h
      · have hlt := tx_lt_of hx (fun e => he e.symm)
        rw [if_pos he]
        refine List.pairwise_cons.2 ⟨fun y hy => ?_, h⟩
        rcases List.mem_cons.1 hy with rfl | hy
        · exact hlt
        · exact List.lt_trans hlt (h1 y hy)
    · rw [if_neg hx]
      refine List.pairwise_cons.2 ⟨fun y hy => ?_, insR_rise h2⟩
      rcases insR_mem.1 hy with rfl | hy
      · exact List.not_le.1 hx
      · exact h1 y hy
theorem refSet_snoc (l : List Tx) (x : Tx) : refSet (l ++ [x]) = insS x (refSet l) := by rw [refSet, List.foldl_append]; rfl
theorem refSet_is : ∀ l : List Tx, IsSet l (refSet l) := fun l => by
  suffices h : ∀ n, ∀ l : List Tx, l.length = n → IsSet l (refSet l) from h _ l rfl
  intro n
  induction n with
  | zero =>
    intro l hl
    rw [List.eq_nil_of_length_eq_zero hl]
    exact ⟨List.Pairwise.nil, fun x => Iff.rfl⟩
  | succ n ih =>
    intro l hl
    obtain ⟨m, x, rfl⟩ : ∃ m x, l = m ++ [x] := ⟨l.dropLast, l.getLast (by intro e; simp [e] at hl), (List.dropLast_concat_getLast _).symm⟩
    obtain ⟨h1, h2⟩ := ih m (by simpa using hl)
    rw [refSet_snoc, insS_eq h1]
    refine ⟨insR_rise h1, fun y => ?_⟩
    rw [insR_mem, h2, List.mem_append, List.mem_singleton]
    exact Or.comm
theorem refSet_eq (l : List Tx) : refSet l = setL l := (refSet_is l).one (setL_is l)
theorem stepI_len {x : Tx} {s : List Tx × Bool} {o : Tx} : (stepI x s o).1.length ≤ s.1.length + 2 := by
  rw [stepI]
  simp only [List.length_append]
  split <;> split <;> simp
theorem stepsI_snoc (x : Tx) (l : List Tx) (o : Tx) : stepsI x (l ++ [o]) = stepI x (stepsI x l) o := by rw [stepsI, List.foldl_append]; rfl
theorem stepsI_len (x : Tx) : ∀ (l : List Tx) (n : Nat), l.length = n → (stepsI x l).1.length ≤ 2 * n := fun l n => by
  induction n generalizing l with
  | zero => intro hl; rw [List.eq_nil_of_length_eq_zero hl]; simp [stepsI]
  | succ n ih =>
    intro hl
    obtain ⟨m, y, rfl⟩ : ∃ m x, l = m ++ [x] := ⟨l.dropLast, l.getLast (by intro e; simp [e] at hl), (List.dropLast_concat_getLast _).symm⟩
    rw [stepsI_snoc]
    have := ih m (by simpa using hl)
    have := stepI_len (x := x) (s := stepsI x m) (o := y)
    omega
theorem less_dec (x y : Tx) : Op.bytesLess (strB x).toList (strB y).toList = decide (x < y) := by rw [ByteArray.toList_eq, ByteArray.toList_eq, strB_list, strB_list, bytesLess_eq]
theorem toList_strB (x : Tx) : (strB x).toList = x := by rw [ByteArray.toList_eq, strB_list]
theorem run_leq (w : World) (X Y : ByteArray) : (binOp BinOp.leq 9 (.string X) (.string Y)).run Tryz.prog w = .ok (.bool (Op.bytesLess X.toList Y.toList || X.toList == Y.toList)) w := by
  simp [go_sem, binOp, Op.stringOp, Tryz.underlying9]
set_option maxRecDepth 100000 in
set_option maxHeartbeats 4000000 in
theorem refset_any (w : World) (A : Option Addr) (c : Nat) (l : List Tx) (hl : l.length ≤ 1000) (hr : Rd w 1 A l.length (strV l)) :
    Calls Tryz.prog 64 #[.slice A l.length c] w fun e w' => ∃ A' c', e = .returned (.slice A' (setL l).length c') ∧ Own w' w.heap.size 9 1 A' (setL l).length c' (strV (setL l)) ∧ Below w.heap.size w w' := by
  have hlen : ∀ k, (refSet (l.take k)).length ≤ 1000 := fun k => by
    rw [refSet_eq]
    have := setL_len (l.take k)
    rw [List.length_take] at this
    omega
  obtain ⟨n, hn⟩ : ∃ n, n = l.length := ⟨_, rfl⟩
  rw [← hn] at hr hl ⊢
  have HR := hid2 hr
  have HN := hid2 hn
  have HLN := hid2 hlen
  clear hr hn hlen
  go_enter Tryz.func64, Tryz.ntmps64
  go_wp2_with fail
  go_loopg [3, 11] n (fun gk ov iv wr => ∃ (k : Nat) (A1 : Option Addr) (m c1 : Nat), k + gk = n ∧ iv = .int .i64 k ∧ ov = .slice A1 m c1 ∧ m = (refSet (l.take k)).length ∧ Own wr w.heap.size 9 1 A1 m c1 (strV (refSet (l.take k))) ∧ Below w.heap.size w wr)
  case atStart => exact ⟨0, _, _, _, by omega, rfl, rfl, rfl, Own.lit w #[] _ 1 0 _ (Nat.le_refl _) (by decide) rfl, (Below.refl _ _).alloc (Nat.le_refl _) _⟩
  case round =>
    obtain ⟨k, A1, m, c1, hk, rfl, rfl, hm, hown, hbe⟩ := hrel
    obtain ⟨wo, rfl⟩ : ∃ wo, wo = wr := ⟨_, rfl⟩
    obtain ⟨go, rfl⟩ : ∃ go, go = gk := ⟨_, rfl⟩
    by_cases hlt : k < n
    · have hkl : (k : Int) < n := by omega
      have hk0 : (0 : Int) ≤ k := by omega
      obtain ⟨x, hx⟩ : ∃ x, l[k]? = some x := ⟨_, List.getElem?_eq_getElem (by rw [← HN.out]; exact hlt)⟩
      have htk : l.take (k + 1) = l.take k ++ [x] := by rw [List.take_add_one, hx]; rfl
      have hset : refSet (l.take (k + 1)) = insS x (refSet (l.take k)) := by rw [htk, refSet_snoc]
      have hm1 : m ≤ 1000 := by rw [hm]; exact HLN.out k
      obtain ⟨b, o, rfl, hcell⟩ := (HR.out.below_all hbe).2 (by omega)
      have hcx : wo.cell? ⟨b, o + k, none⟩ = some (.string (strB x)) := hcell k _ (by rw [strV, List.getElem?_map, hx]; rfl)
      have hblt := World.block_lt_of_cell? wo _ hcx
      simp only at hblt
      obtain ⟨S, hS⟩ : ∃ S, S = refSet (l.take k) := ⟨_, rfl⟩
      rw [← hS] at hm hown hset
      have hrS := hown.rd
      have HS := hid2 hS
      have HSET := hid2 hset
      have HM := hid2 hm
      have HRS := hid2 hrS
      have HBE := hid2 hbe
      have HCX := hid2 hcx
      clear hx htk hset hm hcell hS hown hbe hrS hcx
      go_wp2_with fail
      go_loopg [5, 6, 17] m (fun gj nv dv qv wr2 => ∃ (q : Nat) (A2 : Option Addr) (m2 c2 : Nat), q + gj = m ∧ qv = .int .i64 q ∧ dv = .bool (stepsI x (S.take q)).2 ∧ nv = .slice A2 m2 c2 ∧ m2 = (stepsI x (S.take q)).1.length ∧ Own wr2 wo.heap.size 9 1 A2 m2 c2 (strV (stepsI x (S.take q)).1) ∧ Below wo.heap.size wo wr2)
      case atStart => exact ⟨0, _, _, _, by omega, rfl, rfl, rfl, rfl, Own.lit wo #[] _ 1 0 _ (Nat.le_refl _) (by decide) rfl, (Below.refl _ _).alloc (Nat.le_refl _) _⟩
      case round =>
        obtain ⟨q, A2, m2, c2, hq, rfl, rfl, rfl, hm2, hown2, hbe2⟩ := hrel
        by_cases hql : q < m
        · have hqi : (q : Int) < m := by omega
          have hq0 : (0 : Int) ≤ q := by omega
          obtain ⟨y, hy⟩ : ∃ y, S[q]? = some y := ⟨_, List.getElem?_eq_getElem (by rw [← HM.out]; exact hql)⟩
          have htq : S.take (q + 1) = S.take q ++ [y] := by rw [List.take_add_one, hy]; rfl
          have hst : stepsI x (S.take (q + 1)) = stepI x (stepsI x (S.take q)) y := by rw [htq, stepsI_snoc]
          have hlen2 : m2 ≤ 2000 := by
            rw [hm2]
            have := stepsI_len x (S.take q) _ rfl
            rw [List.length_take] at this
            omega
          obtain ⟨b1, o1, rfl, hcell⟩ := HRS.out.2 (by omega)
          have hcy0 : wo.cell? ⟨b1, o1 + q, none⟩ = some (.string (strB y)) := hcell q _ (by rw [strV, List.getElem?_map, hy]; rfl)
          have hblt1 := World.block_lt_of_cell? wo _ hcy0
          simp only at hblt1
          have hless := less_dec x y
          have htx := toList_strB x
          have hty := toList_strB y
          obtain ⟨P, hP⟩ : ∃ P, P = stepsI x (S.take q) := ⟨_, rfl⟩
          rw [← hP] at hst hm2 hown2 ⊢
          obtain ⟨nx, d⟩ := P
          simp only at hm2 hown2 ⊢
          obtain ⟨X, hX⟩ : ∃ X, X = strB x := ⟨_, rfl⟩
          obtain ⟨Y, hY⟩ : ∃ Y, Y = strB y := ⟨_, rfl⟩
          have hcx0 := HCX.out
          rw [← hX] at hcx0 hless htx
          rw [← hY] at hcy0 hless hty
          have HCL := hid2 (show ∀ W, Below wo.heap.size wo W → W.cell? ⟨b1, o1 + q, none⟩ = some (.string Y) ∧ W.cell? ⟨b, o + k, none⟩ = some (.string X) from fun W hW => ⟨(hW.cell (p := ⟨b1, o1 + q, none⟩) hblt1).trans hcy0, (hW.cell (p := ⟨b, o + k, none⟩) hblt).trans hcx0⟩)
          obtain ⟨hcy, hcx⟩ := HCL.out wr hbe2
          have HST := hid2 hst
          have HM2 := hid2 hm2
          have HBE2 := hid2 hbe2
          have hsz2 := hbe2.size
          have hsz1 := HBE.out.size
          have hvx : strV [x] = [.string X] := by rw [hX]; rfl
          have hvy : strV [y] = [.string Y] := by rw [hY]; rfl
          have HVX := hid2 hvx
          have HVY := hid2 hvy
          have HXE := hid2 hX
          have HYE := hid2 hY
          obtain ⟨V, hV⟩ : ∃ V, V = strV nx := ⟨_, rfl⟩
          rw [← hV] at hown2
          have HV := hid2 hV
          clear hy htq hst hcell hP hbe2 hm2 hcy0 hcx0 hX hY hV hvx hvy
          by_cases hyx : y = x
          · subst hyx
            have hXY : Y = X := by rw [HXE.out, HYE.out]
            subst hXY
            have HLQ := hid2 (fun w' : World => (run_leq w' Y Y).trans (by rw [show (Op.bytesLess Y.toList Y.toList || Y.toList == Y.toList) = true by simp]))
            clear htx hty hless
            cases d with
            | true =>
              have HS1 := hid2 (show stepI y (nx, true) y = (nx, true) by simp [stepI])
              go_wp2_with fail
              go_quiet (fail)
              go_wp2_with fail
              go_quiet (fail)
              go_wp2_with fail
              go_roundg (gk - 1)
              case rel => exact ⟨q + 1, A2, m2, c2, by omega, by go_num, by rw [HST.out, HS1.out], rfl, by rw [HST.out, HS1.out]; exact HM2.out, by rw [HST.out, HS1.out]; rw [← HV.out]; exact hown2, below_drewN HBE2.out _⟩
              case measure => omega
            | false =>
              have HS1 := hid2 (show stepI y (nx, false) y = (nx ++ [y], true) by simp [stepI, List.le_refl])
              go_wp2_with fail
              go_quiet ((rw [HLQ.out]; exact ⟨rfl, rfl⟩))
              obtain ⟨W1, hW1⟩ : ∃ W1, W1 = wr.drewN nq := ⟨_, rfl⟩
              rw [← hW1]
              have hb1 : Below wo.heap.size wo W1 := by rw [hW1]; exact below_drewN HBE2.out _
              have ho1 : Own W1 wo.heap.size 9 1 A2 m2 c2 V := by rw [hW1]; exact hown2.drewN _
              have hs1 := hb1.size
              obtain ⟨hcy1, hcx1⟩ := HCL.out W1 hb1
              clear hW1 hown2 hcy hcx
              go_wp2_with (at_builtin; have _t := ho1; go_must ((with_reducible refine wpList_append_lit 9 (.string ⟨#[]⟩) 1 16 Tryz.underlying28 info_str rfl wo.heap.size A2 (m2) c2 (V) (ho1.alloc _) 1 [.string Y] (.slice (some ⟨W1.heap.size, 0, none⟩) 1 1) (Src.slice Tryz.underlying28 (Rd.one W1 _ _)) one_str ?_ ?_ ?_ ?_ ?_); (unfold maxLen; omega); omega; (simp; omega); exact ⟨rfl, rfl⟩; intro A3 c3 w3 ho3 hgr3 hbl3; have hb3 : Below wo.heap.size wo w3 := (hb1.alloc (by omega) _).grown hgr3 (by simp; omega) (fun g e => (_t.block g e).1); obtain ⟨hcy3, hcx3⟩ := HCL.out w3 hb3; have hs3 := hb3.size; clear ho1))
              have HB3 := hid2 hb3
              have HO3 := hid2 ho3
              clear hb3 ho3
              go_quiet (fail)
              go_wp2_with fail
              go_roundg (gk - 1)
              case rel => exact ⟨q + 1, A3, m2 + 1, c3, by omega, by go_num, by rw [HST.out, HS1.out], rfl, by rw [HST.out, HS1.out]; rw [List.length_append, ← HM2.out]; rfl, by rw [HST.out, HS1.out]; rw [← strV_snoc, ← HV.out, ← HYE.out]; exact HO3.out, below_drewN HB3.out _⟩
              case measure => omega
          · have hne : ¬ Y.toList = X.toList := by rw [htx, hty]; exact hyx
            have hne2 : ¬ X.toList = Y.toList := fun e => hne e.symm
            have hneb : (!Y.toList == X.toList) = true := by simp [hne]
            cases d with
            | true =>
              have HS1 := hid2 (show stepI x (nx, true) y = (nx ++ [y], true) by simp [stepI, hyx])
              clear htx hty hless
              go_wp2_with fail
              go_quiet (fail)
              obtain ⟨W1, hW1⟩ : ∃ W1, W1 = wr.drewN nq := ⟨_, rfl⟩
              rw [← hW1]
              have hb1 : Below wo.heap.size wo W1 := by rw [hW1]; exact below_drewN HBE2.out _
              have ho1 : Own W1 wo.heap.size 9 1 A2 m2 c2 V := by rw [hW1]; exact hown2.drewN _
              have hs1 := hb1.size
              obtain ⟨hcy1, hcx1⟩ := HCL.out W1 hb1
              clear hW1 hown2 hcy hcx
              go_wp2_with fail
              go_quiet (fail)
              obtain ⟨W2, hW2⟩ : ∃ W2, W2 = W1.drewN nq := ⟨_, rfl⟩
              rw [← hW2]
              have hb2 : Below wo.heap.size wo W2 := by rw [hW2]; exact below_drewN hb1 _
              have ho2 : Own W2 wo.heap.size 9 1 A2 m2 c2 V := by rw [hW2]; exact ho1.drewN _
              have hs2 := hb2.size
              obtain ⟨hcy2, hcx2⟩ := HCL.out W2 hb2
              clear hW2 ho1 hb1 hcy1 hcx1 hs1
              go_wp2_with (at_builtin; have _t := ho2; go_must ((with_reducible refine wpList_append_lit 9 (.string ⟨#[]⟩) 1 16 Tryz.underlying28 info_str rfl wo.heap.size A2 (m2) c2 (V) (ho2.alloc _) 1 [.string Y] (.slice (some ⟨W2.heap.size, 0, none⟩) 1 1) (Src.slice Tryz.underlying28 (Rd.one W2 _ _)) one_str ?_ ?_ ?_ ?_ ?_); (unfold maxLen; omega); omega; (simp; omega); exact ⟨rfl, rfl⟩; intro A3 c3 w3 ho3 hgr3 hbl3; have hb3 : Below wo.heap.size wo w3 := (hb2.alloc (by omega) _).grown hgr3 (by simp; omega) (fun g e => (_t.block g e).1); obtain ⟨hcy3, hcx3⟩ := HCL.out w3 hb3; have hs3 := hb3.size; clear ho2))
              go_wp2_with fail
              go_roundg (gk - 1)
              case rel => exact ⟨q + 1, A3, m2 + 1, c3, by omega, by go_num, by rw [HST.out, HS1.out], rfl, by rw [HST.out, HS1.out]; rw [List.length_append, ← HM2.out]; rfl, by rw [HST.out, HS1.out]; rw [← strV_snoc, ← HV.out, ← HYE.out]; exact ho3, hb3⟩
              case measure => omega
            | false =>
              by_cases hle : x ≤ y
              · have hlt2 : x < y := tx_lt_of hle (fun e => hyx e.symm)
                have HS1 := hid2 (show stepI x (nx, false) y = (nx ++ [x] ++ [y], true) by simp [stepI, hle, hyx])
                have HLQ := hid2 (fun w' : World => (run_leq w' X Y).trans (by rw [show (Op.bytesLess X.toList Y.toList || X.toList == Y.toList) = true by rw [hless]; simp [hlt2]]))
                clear htx hty hless
                go_wp2_with fail
                go_quiet ((rw [HLQ.out]; exact ⟨rfl, rfl⟩))
                obtain ⟨W1, hW1⟩ : ∃ W1, W1 = wr.drewN nq := ⟨_, rfl⟩
                rw [← hW1]
                have hb1 : Below wo.heap.size wo W1 := by rw [hW1]; exact below_drewN HBE2.out _
                have ho1 : Own W1 wo.heap.size 9 1 A2 m2 c2 V := by rw [hW1]; exact hown2.drewN _
                have hs1 := hb1.size
                obtain ⟨hcy1, hcx1⟩ := HCL.out W1 hb1
                clear hW1 hown2 hcy hcx
                go_wp2_with (at_builtin; have _t := ho1; go_must ((with_reducible refine wpList_append_lit 9 (.string ⟨#[]⟩) 1 16 Tryz.underlying28 info_str rfl wo.heap.size A2 (m2) c2 (V) (ho1.alloc _) 1 [.string X] (.slice (some ⟨W1.heap.size, 0, none⟩) 1 1) (Src.slice Tryz.underlying28 (Rd.one W1 _ _)) one_str ?_ ?_ ?_ ?_ ?_); (unfold maxLen; omega); omega; (simp; omega); exact ⟨rfl, rfl⟩; intro A3 c3 w3 ho3 hgr3 hbl3; have hb3 : Below wo.heap.size wo w3 := (hb1.alloc (by omega) _).grown hgr3 (by simp; omega) (fun g e => (_t.block g e).1); obtain ⟨hcy3, hcx3⟩ := HCL.out w3 hb3; have hs3 := hb3.size; clear ho1))
                go_quiet (fail)
                obtain ⟨W2, hW2⟩ : ∃ W2, W2 = w3.drewN nq := ⟨_, rfl⟩
                rw [← hW2]
                have hb2 : Below wo.heap.size wo W2 := by rw [hW2]; exact below_drewN hb3 _
                have ho2 : Own W2 wo.heap.size 9 1 A3 (m2 + 1) c3 (V ++ [.string X]) := by rw [hW2]; exact ho3.drewN _
                have hs2 := hb2.size
                obtain ⟨hcy2, hcx2⟩ := HCL.out W2 hb2
                clear hW2 ho3 hb3 hcy3 hcx3 hs3
                go_wp2_with (at_builtin; have _t := ho2; go_must ((with_reducible refine wpList_append_lit 9 (.string ⟨#[]⟩) 1 16 Tryz.underlying28 info_str rfl wo.heap.size A3 (m2 + 1) c3 (V ++ [.string X]) (ho2.alloc _) 1 [.string Y] (.slice (some ⟨W2.heap.size, 0, none⟩) 1 1) (Src.slice Tryz.underlying28 (Rd.one W2 _ _)) one_str ?_ ?_ ?_ ?_ ?_); (unfold maxLen; omega); omega; (simp; omega); exact ⟨rfl, rfl⟩; intro A4 c4 w4 ho4 hgr4 hbl4; have hb4 : Below wo.heap.size wo w4 := (hb2.alloc (by omega) _).grown hgr4 (by simp; omega) (fun g e => (_t.block g e).1); obtain ⟨hcy4, hcx4⟩ := HCL.out w4 hb4; have hs4 := hb4.size; clear ho2))
                go_wp2_with fail
                go_roundg (gk - 1)
                case rel => exact ⟨q + 1, A4, m2 + 1 + 1, c4, by omega, by go_num, by rw [HST.out, HS1.out], rfl, by rw [HST.out, HS1.out]; rw [List.length_append, List.length_append, ← HM2.out]; rfl, by rw [HST.out, HS1.out]; rw [← strV_snoc, ← strV_snoc, ← HV.out, ← HYE.out, ← HXE.out]; exact ho4, hb4⟩
                case measure => omega
              · have hlt2 : ¬ x < y := fun h => hle (List.le_of_lt h)
                have HS1 := hid2 (show stepI x (nx, false) y = (nx ++ [y], false) by simp [stepI, hle, hyx])
                have HLQ := hid2 (fun w' : World => (run_leq w' X Y).trans (by rw [show (Op.bytesLess X.toList Y.toList || X.toList == Y.toList) = false by rw [hless]; simp [hlt2, hne2]]))
                clear htx hty hless
                go_wp2_with fail
                go_quiet ((rw [HLQ.out]; exact ⟨rfl, rfl⟩))
                obtain ⟨W1, hW1⟩ : ∃ W1, W1 = wr.drewN nq := ⟨_, rfl⟩
                rw [← hW1]
                have hb1 : Below wo.heap.size wo W1 := by rw [hW1]; exact below_drewN HBE2.out _
                have ho1 : Own W1 wo.heap.size 9 1 A2 m2 c2 V := by rw [hW1]; exact hown2.drewN _
                have hs1 := hb1.size
                obtain ⟨hcy1, hcx1⟩ := HCL.out W1 hb1
                clear hW1 hown2 hcy hcx
                go_wp2_with fail
                go_quiet (fail)
                obtain ⟨W2, hW2⟩ : ∃ W2, W2 = W1.drewN nq := ⟨_, rfl⟩
                rw [← hW2]
                have hb2 : Below wo.heap.size wo W2 := by rw [hW2]; exact below_drewN hb1 _
                have ho2 : Own W2 wo.heap.size 9 1 A2 m2 c2 V := by rw [hW2]; exact ho1.drewN _
                have hs2 := hb2.size
                obtain ⟨hcy2, hcx2⟩ := HCL.out W2 hb2
                clear hW2 ho1 hb1 hcy1 hcx1 hs1
                go_wp2_with (at_builtin; have _t := ho2; go_must ((with_reducible refine wpList_append_lit 9 (.string ⟨#[]⟩) 1 16 Tryz.underlying28 info_str rfl wo.heap.size A2 (m2) c2 (V) (ho2.alloc _) 1 [.string Y] (.slice (some ⟨W2.heap.size, 0, none⟩) 1 1) (Src.slice Tryz.underlying28 (Rd.one W2 _ _)) one_str ?_ ?_ ?_ ?_ ?_); (unfold maxLen; omega); omega; (simp; omega); exact ⟨rfl, rfl⟩; intro A3 c3 w3 ho3 hgr3 hbl3; have hb3 : Below wo.heap.size wo w3 := (hb2.alloc (by omega) _).grown hgr3 (by simp; omega) (fun g e => (_t.block g e).1); obtain ⟨hcy3, hcx3⟩ := HCL.out w3 hb3; have hs3 := hb3.size; clear ho2))
                go_wp2_with fail
                go_roundg (gk - 1)
                case rel => exact ⟨q + 1, A3, m2 + 1, c3, by omega, by go_num, by rw [HST.out, HS1.out], rfl, by rw [HST.out, HS1.out]; rw [List.length_append, ← HM2.out]; rfl, by rw [HST.out, HS1.out]; rw [← strV_snoc, ← HV.out, ← HYE.out]; exact ho3, hb3⟩
                case measure => omega
        · have hqm : q = m := by omega
          have hqi : ¬ (q : Int) < m := by omega
          have htq : S.take q = S := by rw [hqm, HM.out, List.take_length]
          rw [htq] at hm2 hown2 ⊢
          have hsx := HSET.out
          rw [insS] at hsx
          have hlen2 : m2 ≤ 2000 := by
            rw [hm2]
            have := stepsI_len x S _ rfl
            rw [← HM.out] at this
            omega
          obtain ⟨P, hP⟩ : ∃ P, P = stepsI x S := ⟨_, rfl⟩
          rw [← hP] at hsx hm2 hown2 ⊢
          obtain ⟨nx, d⟩ := P
          simp only at hm2 hown2 hsx ⊢
          have HSX := hid2 hsx
          have HM2 := hid2 hm2
          have HBE2 := hid2 hbe2
          have hsz2 := hbe2.size
          have hsz1 := HBE.out.size
          obtain ⟨X, hX⟩ : ∃ X, X = strB x := ⟨_, rfl⟩
          have hcx : wr.cell? ⟨b, o + k, none⟩ = some (.string X) := by rw [hX]; exact (hbe2.cell (p := ⟨b, o + k, none⟩) hblt).trans HCX.out
          have HXE := hid2 hX
          obtain ⟨V, hV⟩ : ∃ V, V = strV nx := ⟨_, rfl⟩
          rw [← hV] at hown2
          have HV := hid2 hV
          clear hP htq hsx hm2 hbe2 hX hV hqm hql
          cases d with
          | true =>
            have HS1 := hid2 (show refSet (l.take (k + 1)) = nx by rw [HSX.out]; simp)
            go_wp2_with fail
            go_roundg (go - 1)
            case rel => exact ⟨k + 1, A2, m2, c2, by omega, by go_num, rfl, by rw [HS1.out]; exact HM2.out, by rw [HS1.out, ← HV.out]; exact hown2.mono hsz1, HBE.out.trans (HBE2.out.mono hsz1)⟩
            case measure => omega
          | false =>
            have HS1 := hid2 (show refSet (l.take (k + 1)) = nx ++ [x] by rw [HSX.out]; simp)
            go_wp2_with (at_builtin; have _t := hown2; go_must ((with_reducible refine wpList_append_lit 9 (.string ⟨#[]⟩) 1 16 Tryz.underlying28 info_str rfl wo.heap.size A2 m2 c2 V (hown2.alloc _) 1 [.string X] (.slice (some ⟨wr.heap.size, 0, none⟩) 1 1) (Src.slice Tryz.underlying28 (Rd.one wr _ _)) one_str ?_ ?_ ?_ ?_ ?_); (unfold maxLen; omega); omega; (simp; omega); exact ⟨rfl, rfl⟩; intro A3 c3 w3 hown3 hgr3 hbl3; clear hown2; have hb3 : Below wo.heap.size wo w3 := (HBE2.out.alloc (by omega) _).grown hgr3 (by simp; omega) (fun g e => (_t.block g e).1)))
            go_roundg (go - 1)
            case rel => exact ⟨k + 1, A3, m2 + 1, c3, by omega, by go_num, rfl, by rw [HS1.out, List.length_append, ← HM2.out]; rfl, by rw [HS1.out, ← strV_snoc, ← HV.out, ← HXE.out]; exact hown3.mono hsz1, HBE.out.trans (hb3.mono hsz1)⟩
            case measure => omega
    · have hkn : k = n := by omega
      have hkl : ¬ (k : Int) < n := by omega
      have htl : l.take k = l := by rw [hkn, HN.out, List.take_length]
      rw [htl, refSet_eq] at hm hown
      go_wp2_with fail
      go_ret
      exact ⟨A1, c1, rfl, by first | exact hown | (rw [← hm]; exact hown), hbe⟩
end Go.Proofs.YtjjpecggcjggpaaGreatDoor
/- The document's bounds; are two rows one? -/
namespace Go.Proofs.YtjjpecggcjggpaaGreatDoor
open Go.RowKit Go.Shelf
set_option maxRecDepth 100000
def wideL (l : List Tx) : Bool := l.any (fun x => decide (100 < x.length)) || decide (20 < l.length)
theorem wide_any (w : World) (A : Option Addr) (c : Nat) (l : List Tx) (hm : l.length ≤ maxLen) (hr : Rd w 1 A l.length (strV l)) :
    Calls Tryz.prog 11 #[.slice A l.length c] w fun e w' => e = .returned (.bool (wideL l)) ∧ w' = w := by
  obtain ⟨n, hn⟩ : ∃ n, n = l.length := ⟨_, rfl⟩
  have hlim : (n : Int) ≤ 9223372036854775807 := by rw [hn]; unfold maxLen at hm; omega
  have HW := hid2 (show wideL l = (l.any (fun x => decide (100 < x.length)) || decide (20 < n)) by rw [hn]; rfl)
  rw [← hn] at hr ⊢
  have HR := hid2 hr
  have HN := hid2 hn
  clear hr hn hm
  go_enter Tryz.func11, Tryz.ntmps11
  go_wp2_with fail
  go_loopw [6] (fun i wr => ∃ k : Nat, k ≤ n ∧ i = .int .i64 k ∧ (l.take k).any (fun x => decide (100 < x.length)) = false ∧ wr = w) (fun i _ => n - (intOf i).toNat)
  case atStart => exact ⟨0, by omega, rfl, rfl, rfl⟩
  case round =>
    obtain ⟨k, hk, rfl, hany, rfl⟩ := hrel
    by_cases hlt : k < n
    · have hkl : (k : Int) < n := by omega
      have hk0 : (0 : Int) ≤ k := by omega
      obtain ⟨x, hx⟩ : ∃ x, l[k]? = some x := ⟨_, List.getElem?_eq_getElem (by rw [← HN.out]; exact hlt)⟩
      have htk : l.take (k + 1) = l.take k ++ [x] := by rw [List.take_add_one, hx]; rfl
      obtain ⟨b, o, rfl, hcell⟩ := HR.out.2 (by omega)
      have hcx : wr.cell? ⟨b, o + k, none⟩ = some (.string (strB x)) := hcell k _ (by rw [strV, List.getElem?_map, hx]; rfl)
      have hxs := strB_size x
      have hmem : x ∈ l := List.mem_of_getElem? hx
      have HTK := hid2 htk
      have HMEM := hid2 hmem
      have HANY := hid2 hany
      clear hx htk hcell hmem hany
      by_cases h100 : 100 < x.length
      · have h100i : (100 : Int) < x.length := by omega
        go_wp2_with fail
        go_ret
        refine ⟨?_, rfl⟩
        have : l.any (fun x => decide (100 < x.length)) = true := List.any_eq_true.2 ⟨x, HMEM.out, by simpa using h100⟩
        rw [HW.out, this]
        rfl
      · have h100i : ¬ (100 : Int) < x.length := by omega
        go_wp2_with fail
        go_roundw
        case rel => exact ⟨k + 1, by omega, by go_num, by rw [HTK.out, List.any_append, HANY.out]; simp; omega, by first | rfl | trivial⟩
        case measure => simp [intOf]; omega
    · have hkn : k = n := by omega
      have hkl : ¬ (k : Int) < n := by omega
      have htl : l.take k = l := by rw [hkn, HN.out, List.take_length]
      rw [htl] at hany
      have HANY := hid2 hany
      clear hany htl hkn
      by_cases h20 : 20 < n
      · have h20i : (20 : Int) < n := by omega
        go_wp2_with fail
        go_ret
        refine ⟨?_, rfl⟩
        rw [HW.out, HANY.out]
        simp [h20]
      · have h20i : ¬ (20 : Int) < n := by omega
        go_wp2_with fail
        go_ret
        refine ⟨?_, rfl⟩
        rw [HW.out, HANY.out]
        simp [h20]
theorem drewN_two (w : World) (a b : Nat) : (w.drewN a).drewN b = w.drewN (a + b) := by simp
end Go.Proofs.YtjjpecggcjggpaaGreatDoor
/- An action in memory; is it a great one? -/
namespace Go.Proofs.YtjjpecggcjggpaaGreatDoor
open Go.RowKit Go.Shelf
set_option maxRecDepth 100000
def setsV (l : List SetE) : List Value := l.flatMap fun p => [.string (strB p.1), .string (strB p.2)]
theorem setsV_length : ∀ l : List SetE, (setsV l).length = l.length * 2
  | [] => rfl
  | x :: l => by
    have := setsV_length l
    simp only [setsV, List.flatMap_cons, List.length_append, List.length_cons, List.length_nil] at this ⊢
    omega
theorem setsV_get : ∀ {l : List SetE} {k : Nat} {p : SetE}, l[k]? = some p → (setsV l)[k * 2]? = some (.string (strB p.1)) ∧ (setsV l)[k * 2 + 1]? = some (.string (strB p.2))
  | x :: l, 0, p, h => by
    simp only [List.getElem?_cons_zero, Option.some.injEq] at h
    subst h
    simp [setsV]
  | x :: l, k + 1, p, h => by
    have := setsV_get (l := l) (k := k) (p := p) (by simpa using h)
    rw [show (k + 1) * 2 = k * 2 + 2 by omega]
    simpa [setsV] using this
/-- where an action's parts lie -/
structure LayA where
  pk : ByteArray
  nm : ByteArray
  E : Option Addr
  I : Option Addr
  A : Option Addr
  O : Option Addr
  cE : Nat
  cI : Nat
  cA : Nat
  cO : Nat
def actV (L : LayA) (a : ActK) : Array Value := #[.string L.pk, .string L.nm, .string (strB a.tool), .slice L.E a.env.length L.cE, .slice L.I a.ins.length L.cI, .slice L.A a.asks.length L.cA, .slice L.O a.outs.length L.cO]
structure ActAt (w : World) (L : LayA) (a : ActK) : Prop where
  env : Rd w 2 L.E a.env.length (setsV a.env)
  ins : Rd w 1 L.I a.ins.length (strV a.ins)
  asks : Rd w 1 L.A a.asks.length (strV a.asks)
  outs : Rd w 1 L.O a.outs.length (strV a.outs)
  lE : a.env.length ≤ maxLen
  lI : a.ins.length ≤ maxLen
  lA : a.asks.length ≤ maxLen
  lO : a.outs.length ≤ maxLen
theorem ActAt.below {w w' : World} {L : LayA} {a : ActK} (h : ActAt w L a) (hb : Below w.heap.size w w') : ActAt w' L a :=
  ⟨h.env.below_all hb, h.ins.below_all hb, h.asks.below_all hb, h.outs.below_all hb, h.lE, h.lI, h.lA, h.lO⟩
def longE (l : List SetE) : Bool := l.any fun p => decide (100 < p.1.length) || decide (100 < p.2.length)
def greatL (a : ActK) : Bool := decide (20 < a.env.length) || decide (500 < a.tool.length) || wideL a.ins || wideL a.asks || wideL a.outs || longE a.env
theorem great_any (w : World) (L : LayA) (a : ActK) (h : ActAt w L a) :
    Calls Tryz.prog 5 #[.agg (actV L a)] w fun e w' => e = .returned (.bool (greatL a)) ∧ Below w.heap.size w w' := by
  obtain ⟨w1, hw1⟩ : ∃ w1, w1 = w.alloc (.cells (actV L a) 30) := ⟨_, rfl⟩
  have hb1 : Below w.heap.size w w1 := by rw [hw1]; exact (Below.refl _ w).alloc (Nat.le_refl _) _
  have h1 := h.below hb1
  have cI := fun (W : World) (e : W = w1) => wide_any W L.I L.cI a.ins h.lI (by rw [e]; exact h1.ins)
  have cA := fun (W : World) (e : W = w1) => wide_any W L.A L.cA a.asks h.lA (by rw [e]; exact h1.asks)
  have cO := fun (W : World) (e : W = w1) => wide_any W L.O L.cO a.outs h.lO (by rw [e]; exact h1.outs)
  have hE := h1.env
  have hts := strB_size a.tool
  have hlE := h.lE
  have hg : greatL a = (decide (20 < a.env.length) || decide (500 < a.tool.length) || wideL a.ins || wideL a.asks || wideL a.outs || longE a.env) := rfl
  unfold actV at hw1
  unfold actV
  obtain ⟨pk, nm, E, I, A, O, cEE, cII, cAA, cOO⟩ := L
  simp only at cI cA cO hE hw1 ⊢
  obtain ⟨G, hG⟩ : ∃ G, G = greatL a := ⟨_, rfl⟩
  rw [← hG] at hg ⊢
  obtain ⟨gI, hgI⟩ : ∃ g, g = wideL a.ins := ⟨_, rfl⟩
  obtain ⟨gA, hgA⟩ : ∃ g, g = wideL a.asks := ⟨_, rfl⟩
  obtain ⟨gO, hgO⟩ : ∃ g, g = wideL a.outs := ⟨_, rfl⟩
  obtain ⟨T, hT⟩ : ∃ T, T = strB a.tool := ⟨_, rfl⟩
  obtain ⟨nE, hnE⟩ : ∃ n, n = a.env.length := ⟨_, rfl⟩
  obtain ⟨nT, hnT⟩ : ∃ n, n = a.tool.length := ⟨_, rfl⟩
  obtain ⟨nI, hnI⟩ : ∃ n, n = a.ins.length := ⟨_, rfl⟩
  obtain ⟨nA, hnA⟩ : ∃ n, n = a.asks.length := ⟨_, rfl⟩
  obtain ⟨nO, hnO⟩ : ∃ n, n = a.outs.length := ⟨_, rfl⟩
  rw [← hgI] at hg cI
  rw [← hgA] at hg cA
  rw [← hgO] at hg cO
  rw [← hT] at hts hw1 ⊢
  rw [← hnE] at hg hE hlE hw1 ⊢
  rw [← hnT] at hg hts
  rw [← hnI] at cI hw1 ⊢
  rw [← hnA] at cA hw1 ⊢
  rw [← hnO] at cO hw1 ⊢
  have HG := hid2 hg
  have HW := hid2 hw1
  have HB := hid2 hb1
  have HE := hid2 hE
  have HNE := hid2 hnE
  unfold maxLen at hlE
  clear hG hgI hgA hgO hT hnE hnT hnI hnA hnO hg hb1 h1 h hE
  by_cases h1 : 20 < nE
  · have h1i : (20 : Int) < nE := by omega
    go_enter Tryz.func5, Tryz.ntmps5
    go_wp2_with fail
    go_ret
    exact ⟨by rw [HG.out]; simp [h1], by rw [← HW.out]; exact HB.out⟩
  · have h1i : ¬ (20 : Int) < nE := by omega
    by_cases h2 : 500 < nT
    · have h2i : (500 : Int) < nT := by omega
      go_enter Tryz.func5, Tryz.ntmps5
      go_wp2_with fail
      go_ret
      exact ⟨by rw [HG.out]; simp [h2], by rw [← HW.out]; exact HB.out⟩
    · have h2i : ¬ (500 : Int) < nT := by omega
      have hz : (decide (20 < nE) || decide (500 < nT)) = false := by simp [h1, h2]
      rw [hz] at HG
      cases gI with
      | true =>
        go_enter Tryz.func5, Tryz.ntmps5
        go_wp2_with (first
          | (go_at_call 11; refine (cI _ HW.out.symm).mono ?_; rintro e w2 ⟨rfl, rfl⟩; clear cI))
        go_ret
        exact ⟨by rw [HG.out]; rfl, by rw [← HW.out]; exact HB.out⟩
      | false =>
        cases gA with
        | true =>
          go_enter Tryz.func5, Tryz.ntmps5
          go_wp2_with (first
            | (go_at_call 11; refine (cI _ HW.out.symm).mono ?_; rintro e w2 ⟨rfl, rfl⟩; clear cI)
            | (go_at_call 11; refine (cA _ HW.out.symm).mono ?_; rintro e w2 ⟨rfl, rfl⟩; clear cA))
          go_ret
          exact ⟨by rw [HG.out]; rfl, by rw [← HW.out]; exact HB.out⟩
        | false =>
          cases gO with
          | true =>
            go_enter Tryz.func5, Tryz.ntmps5
            go_wp2_with (first
              | (go_at_call 11; refine (cI _ HW.out.symm).mono ?_; rintro e w2 ⟨rfl, rfl⟩; clear cI)
              | (go_at_call 11; refine (cA _ HW.out.symm).mono ?_; rintro e w2 ⟨rfl, rfl⟩; clear cA)
              | (go_at_call 11; refine (cO _ HW.out.symm).mono ?_; rintro e w2 ⟨rfl, rfl⟩; clear cO))
            go_ret
            exact ⟨by rw [HG.out]; rfl, by rw [← HW.out]; exact HB.out⟩
          | false =>
            have HG2 := hid2 (show G = longE a.env by rw [HG.out]; rfl)
            go_enter Tryz.func5, Tryz.ntmps5
            go_wp2_with (first
              | (go_at_call 11; refine (cI _ HW.out.symm).mono ?_; rintro e w2 ⟨rfl, rfl⟩; clear cI)
              | (go_at_call 11; refine (cA _ HW.out.symm).mono ?_; rintro e w2 ⟨rfl, rfl⟩; clear cA)
              | (go_at_call 11; refine (cO _ HW.out.symm).mono ?_; rintro e w2 ⟨rfl, rfl⟩; clear cO))
            rw [← HW.out]
            have hbx : w1.heap[w.heap.size]? = some (.cells #[.string pk, .string nm, .string T, .slice E nE cEE, .slice I nI cII, .slice A nA cAA, .slice O nO cOO] 30 (0, 0)) := by rw [HW.out]; exact World.alloc_heap_new w _
            have hc3 : w1.cell? ⟨w.heap.size, 3, none⟩ = some (.slice E nE cEE) := cell_of_row w1 _ 3 _ _ _ hbx
            clear hbx hw1
            go_loopw [32] (fun i wr => ∃ k : Nat, k ≤ nE ∧ i = .int .i64 k ∧ longE (a.env.take k) = false ∧ wr = w1) (fun i _ => nE - (intOf i).toNat)
            case atStart => exact ⟨0, by omega, rfl, rfl, rfl⟩
            case round =>
              obtain ⟨k, hk, rfl, hlong, rfl⟩ := hrel
              by_cases hlt : k < nE
              · have hkl : (k : Int) < nE := by omega
                have hk0 : (0 : Int) ≤ k := by omega
                obtain ⟨x, hx⟩ : ∃ x, a.env[k]? = some x := ⟨_, List.getElem?_eq_getElem (by rw [← HNE.out]; exact hlt)⟩
                have htk : a.env.take (k + 1) = a.env.take k ++ [x] := by rw [List.take_add_one, hx]; rfl
                obtain ⟨b, o, rfl, hcell⟩ := HE.out.2 (by omega)
                have hcn : wr.cell? ⟨b, o + k * 2, none⟩ = some (.string (strB x.1)) := hcell (k * 2) _ (setsV_get hx).1
                have hcv : wr.cell? ⟨b, o + k * 2 + 1, none⟩ = some (.string (strB x.2)) := hcell (k * 2 + 1) _ (setsV_get hx).2
                have hxn := strB_size x.1
                have hxv := strB_size x.2
                have hmem : x ∈ a.env := List.mem_of_getElem? hx
                have HTK := hid2 htk
                have HMEM := hid2 hmem
                have HLO := hid2 hlong
                obtain ⟨p, v⟩ := x
                simp only at hcn hcv hxn hxv
                clear hx htk hcell hmem hlong
                by_cases hp : 100 < p.length
                · have hpi : (100 : Int) < p.length := by omega
                  go_wp2_with fail
                  go_ret
                  exact ⟨by rw [HG2.out]; exact congrArg _ (congrArg _ (List.any_eq_true.2 ⟨_, HMEM.out, by simp [hp]⟩).symm), HB.out⟩
                · have hpi : ¬ (100 : Int) < p.length := by omega
                  by_cases hv : 100 < v.length
                  · have hvi : (100 : Int) < v.length := by omega
                    go_wp2_with fail
                    go_ret
                    exact ⟨by rw [HG2.out]; exact congrArg _ (congrArg _ (List.any_eq_true.2 ⟨_, HMEM.out, by simp [hv]⟩).symm), HB.out⟩
                  · have hvi : ¬ (100 : Int) < v.length := by omega
                    go_wp2_with fail
                    go_roundw
                    case rel =>
                      refine ⟨k + 1, by omega, by go_num, ?_, by first | rfl | trivial⟩
                      have := HLO.out
                      rw [HTK.out]
                      unfold longE at this ⊢
                      rw [List.any_append, this]
                      simp
                      omega
                    case measure => simp [intOf]; omega
              · have hkn : k = nE := by omega
                have hkl : ¬ (k : Int) < nE := by omega
                have htl : a.env.take k = a.env := by rw [hkn, HNE.out, List.take_length]
                rw [htl] at hlong
                have HLO := hid2 hlong
                clear hlong htl hkn
                go_wp2_with fail
                go_ret
                exact ⟨by rw [HG2.out, HLO.out]; rfl, HB.out⟩
end Go.Proofs.YtjjpecggcjggpaaGreatDoor
/- The document's settings in their one form. -/
namespace Go.Proofs.YtjjpecggcjggpaaGreatDoor
open Go.RowKit Go.Shelf
set_option maxRecDepth 100000
theorem valOf_cons (p : SetE) (l : List SetE) (n : Tx) : valOf (p :: l) n = if p.1 = n then p.2 else valOf l n := by
  unfold valOf
  rw [List.find?_cons]
  by_cases h : p.1 = n
  · simp [h]
  · rw [show (p.1 == n) = false by simp [h], if_neg h]
theorem valOf_drop {l : List SetE} {q : Nat} {p : SetE} (h : l[q]? = some p) (n : Tx) : valOf (l.drop q) n = if p.1 = n then p.2 else valOf (l.drop (q + 1)) n := by
  obtain ⟨hq, rfl⟩ := List.getElem?_eq_some_iff.1 h
  rw [List.drop_eq_getElem_cons hq, valOf_cons]
def envK (l : List SetE) (k : Nat) : List Tx := ((setL (l.map (·.1))).take k).flatMap fun n => [n, valOf l n]
theorem envK_len (l : List SetE) : ∀ k, k ≤ (setL (l.map (·.1))).length → (envK l k).length = 2 * k
  | 0, _ => rfl
  | k + 1, h => by
    have := envK_len l k (by omega)
    unfold envK at this ⊢
    rw [List.take_add_one, List.getElem?_eq_getElem (by omega), List.flatMap_append, List.length_append, this]
    simp
    omega
theorem envK_step {l : List SetE} {k : Nat} {n : Tx} (h : (setL (l.map (·.1)))[k]? = some n) : envK l (k + 1) = envK l k ++ [n, valOf l n] := by
  unfold envK
  rw [List.take_add_one, h, List.flatMap_append]
  rfl
theorem envK_all (l : List SetE) : envK l (setL (l.map (·.1))).length = envL l := by
  unfold envK envL
  rw [List.take_length]
theorem envL_len (l : List SetE) : (envL l).length = 2 * (setL (l.map (·.1))).length := by rw [← envK_all, envK_len l _ (Nat.le_refl _)]
theorem valOf_mem {l : List SetE} {n : Tx} {M : Nat} (h : ∀ p ∈ l, p.2.length ≤ M) : (valOf l n).length ≤ M := by
  unfold valOf
  cases hf : l.find? fun p => p.1 == n with
  | none => simp
  | some p => exact h p (List.mem_of_find?_eq_some hf)
set_option maxHeartbeats 4000000 in
theorem refenv_any (w : World) (A : Option Addr) (c : Nat) (l : List SetE) (hl : l.length ≤ 1000) (hr : Rd w 2 A l.length (setsV l)) :
    Calls Tryz.prog 63 #[.slice A l.length c] w fun e w' => ∃ A' c', e = .returned (.slice A' (envL l).length c') ∧ Own w' w.heap.size 9 1 A' (envL l).length c' (strV (envL l)) ∧ Below w.heap.size w w' := by
  have hsl := setL_len (l.map (·.1))
  rw [List.length_map] at hsl
  have hel := envL_len l
  have hek := envK_len l
  have hea := envK_all l
  have hes := fun (k : Nat) (n : Tx) h => envK_step (l := l) (k := k) (n := n) h
  have hnl : (l.map (·.1)).length = l.length := List.length_map _
  obtain ⟨n, hn⟩ : ∃ n, n = l.length := ⟨_, rfl⟩
  obtain ⟨NS, hNS⟩ : ∃ NS, NS = l.map (·.1) := ⟨_, rfl⟩
  obtain ⟨SS, hSS⟩ : ∃ SS, SS = setL NS := ⟨_, rfl⟩
  rw [← hNS] at hsl hel hek hea hes hnl
  rw [← hSS] at hsl hel hek hea hes
  obtain ⟨m, hm⟩ : ∃ m, m = SS.length := ⟨_, rfl⟩
  rw [← hm] at hsl hel hek hea
  have HM := hid2 hm
  rw [← hn] at hr hl hsl hnl ⊢
  have HR := hid2 hr
  have HN := hid2 hn
  have HEL := hid2 hel
  have HEK := hid2 hek
  have HEA := hid2 hea
  have HES := hid2 hes
  have HNL := hid2 hnl
  have HNS := hid2 hNS
  have HSS := hid2 hSS
  have HSL := hid2 hsl
  clear hr hn hel hek hea hes hnl hNS hSS hm
  have hlim : (n : Int) ≤ 1000 := by omega
  go_enter Tryz.func63, Tryz.ntmps63
  go_wp2_with fail
  go_loopg [3, 13] n (fun gk ov iv wr => ∃ (k : Nat) (A1 : Option Addr) (c1 : Nat), k + gk = n ∧ iv = .int .i64 k ∧ ov = .slice A1 k c1 ∧ Own wr w.heap.size 9 1 A1 k c1 (strV (NS.take k)) ∧ Below w.heap.size w wr)
  case atStart => exact ⟨0, _, _, by omega, rfl, rfl, Own.lit w #[] _ 1 0 _ (Nat.le_refl _) (by decide) rfl, (Below.refl _ _).alloc (Nat.le_refl _) _⟩
  case round =>
    obtain ⟨k, A1, c1, hk, rfl, rfl, hown, hbe⟩ := hrel
    by_cases hlt : k < n
    · have hkl : (k : Int) < n := by omega
      have hk0 : (0 : Int) ≤ k := by omega
      obtain ⟨x, hx⟩ : ∃ x, l[k]? = some x := ⟨_, List.getElem?_eq_getElem (by rw [← HN.out]; exact hlt)⟩
      have htk : NS.take (k + 1) = NS.take k ++ [x.1] := by rw [List.take_add_one, HNS.out, List.getElem?_map, hx]; rfl
      obtain ⟨b, o, rfl, hcell⟩ := (HR.out.below_all hbe).2 (by omega)
      have hcn : wr.cell? ⟨b, o + k * 2, none⟩ = some (.string (strB x.1)) := hcell (k * 2) _ (setsV_get hx).1
      have hsz := hbe.size
      have HTK := hid2 htk
      have HBE := hid2 hbe
      obtain ⟨X, hX⟩ : ∃ X, X = strB x.1 := ⟨_, rfl⟩
      rw [← hX] at hcn
      have HX := hid2 hX
      obtain ⟨V, hV⟩ : ∃ V, V = strV (NS.take k) := ⟨_, rfl⟩
      rw [← hV] at hown
      have HV := hid2 hV
      clear hx htk hcell hbe hX hV
      go_wp2_with (at_builtin; have _t := hown; go_must ((with_reducible refine wpList_append_lit 9 (.string ⟨#[]⟩) 1 16 Tryz.underlying28 info_str rfl w.heap.size A1 k c1 V (hown.alloc _) 1 [.string X] (.slice (some ⟨wr.heap.size, 0, none⟩) 1 1) (Src.slice Tryz.underlying28 (Rd.one wr _ _)) one_str ?_ ?_ ?_ ?_ ?_); (unfold maxLen; omega); omega; (simp; omega); exact ⟨rfl, rfl⟩; intro A3 c3 w3 hown3 hgr3 hbl3; clear hown; have hb3 : Below w.heap.size w w3 := (HBE.out.alloc (by omega) _).grown hgr3 (by simp; omega) (fun g e => (_t.block g e).1)))
      go_roundg (gk - 1)
      case rel => exact ⟨k + 1, A3, c3, by omega, by go_num, rfl, by rw [HTK.out, ← strV_snoc, ← HV.out, ← HX.out]; exact hown3, hb3⟩
      case measure => omega
    · obtain ⟨W0, rfl⟩ : ∃ W0, W0 = wr := ⟨_, rfl⟩
      have hkn : k = n := by omega
      have hkl : ¬ (k : Int) < n := by omega
      have htl : NS.take k = NS := by rw [hkn, ← HNL.out, List.take_length]
      rw [htl] at hown
      have hrd := (hown.alloc (.cells #[] 9)).rd
      have HBE := hid2 (hbe.alloc hbe.size (.cells #[] 9))
      have hsz := hbe.size
      have hn0 : Own (W0.alloc (.cells #[] 9)) w.heap.size 9 1 (some ⟨W0.heap.size, 0, none⟩) 0 0 (strV []) := Own.lit W0 #[] _ 1 0 _ hsz (by decide) rfl
      obtain ⟨W1, hW1⟩ : ∃ W1, W1 = W0.alloc (.cells #[] 9) := ⟨_, rfl⟩
      rw [← hW1] at hrd hn0 HBE
      rw [hkn] at hrd
      have cS := refset_any W1 A1 c1 NS (by rw [HNL.out]; exact hl) (by rw [HNL.out]; exact hrd)
      rw [HNL.out, ← HSS.out, ← HM.out] at cS
      have HW1 := hid2 hW1
      clear hown hrd hbe htl hW1
      rw [hkn]
      clear hkn hkl hlt hk
      have hnn : ¬ (n : Int) < n := by omega
      have hbw : ∀ b, blockOf (some (⟨W0.heap.size, 0, none⟩ : Addr)) = some b → b < W1.heap.size := by
        intro b hb
        cases hb
        rw [HW1.out]
        simp
      have HBW := hid2 hbw
      clear hbw
      obtain ⟨AZ, hAZ⟩ : ∃ AZ, AZ = (some ⟨W0.heap.size, 0, none⟩ : Option Addr) := ⟨_, rfl⟩
      go_wp2_with (first
        | (go_at_call 64; rw [← HW1.out]; refine cS.mono ?_; rintro e W2 ⟨A2, c2, rfl, hown2, hb2⟩; have HO2 := hid2 hown2; have hn2 := hn0.below hb2 (Nat.le_refl _); have HN2 := hid2 hn2; have HB2 := hid2 (HBE.out.trans (hb2.mono HBE.out.size)); have HB12 := hid2 hb2; clear cS hown2 hb2 hn0 hn2))
      rw [← hAZ] at HN2 HBW
      rw [← hAZ]
      clear hAZ
      have hml : m ≤ 1000 := by have := HSL.out; omega
      have hmi : (m : Int) ≤ 1000 := by omega
      go_loopg [5, 30] m (fun gk ov iv wr => ∃ (k j : Nat) (A1 : Option Addr) (c1 : Nat), k + gk = m ∧ j = 2 * k ∧ iv = .int .i64 k ∧ ov = .slice A1 j c1 ∧ Own wr w.heap.size 9 1 A1 j c1 (strV (envK l k)) ∧ Own wr W1.heap.size 9 1 A2 m c2 (strV SS) ∧ (∀ b, blockOf A1 = some b → blockOf A2 ≠ some b) ∧ Below w.heap.size w wr)
      case atStart =>
        refine ⟨0, 0, AZ, 0, by omega, rfl, rfl, rfl, HN2.out, HO2.out, fun b hb e => ?_, HB2.out⟩
        have := HBW.out b hb
        have := (HO2.out.block b e).1
        omega
      case round =>
        clear HN2 HO2 HB2
        obtain ⟨k, j, A1, c1, hk, hj, rfl, rfl, hown, ho2, hdis, hbe⟩ := hrel
        obtain ⟨wo, rfl⟩ : ∃ wo, wo = wr := ⟨_, rfl⟩
        obtain ⟨go, rfl⟩ : ∃ go, go = gk := ⟨_, rfl⟩
        have hjl : j ≤ 2000 := by omega
        have HJ := hid2 hj
        clear hj
        by_cases hlt : k < m
        · have hkl : (k : Int) < m := by omega
          have hk0 : (0 : Int) ≤ k := by omega
          obtain ⟨x, hx⟩ : ∃ x, SS[k]? = some x := ⟨_, List.getElem?_eq_getElem (by rw [← HM.out]; exact hlt)⟩
          have hstep := HES.out k x hx
          obtain ⟨b, o, rfl, hcell⟩ := ho2.rd.2 (by omega)
          have hcx : wo.cell? ⟨b, o + k, none⟩ = some (.string (strB x)) := hcell k _ (by rw [strV, List.getElem?_map, hx]; rfl)
          have hxe := toList_strB x
          obtain ⟨X, hX⟩ : ∃ X, X = strB x := ⟨_, rfl⟩
          rw [← hX] at hcx hxe
          have hrE := HR.out.below_all hbe
          have HRE := hid2 hrE
          have HX := hid2 hX
          have HXE := hid2 hxe
          have HST := hid2 hstep
          have HOWN := hid2 hown
          have HO2 := hid2 ho2
          have HDIS := hid2 hdis
          have HBE2 := hid2 hbe
          have HCX := hid2 hcx
          have hsz := hbe.size
          clear hx hstep hcell hX hrE hown ho2 hdis hbe hxe hcx
          go_wp2_with fail
          go_loopg [8, 9] n (fun gj vv iv wr => gj ≤ n ∧ ∃ i : Int, iv = .int .i64 i ∧ i = (gj : Int) - 1 ∧ vv = .string (strB (valOf (l.drop gj) x)) ∧ ∃ d, wr = wo.drewN d)
          case atStart =>
            refine ⟨Nat.le_refl _, _, rfl, by omega, ?_, 0, rfl⟩
            rw [HN.out, List.drop_length]
            rfl
          case round =>
            obtain ⟨hgn, i, rfl, hi, rfl, d, hd⟩ := hrel
            have HD := hid2 hd
            by_cases h0 : 0 < gk
            · obtain ⟨p, rfl⟩ : ∃ p, gk = p + 1 := ⟨gk - 1, by omega⟩
              obtain rfl : i = (p : Int) := by omega
              clear hi
              have hp0 : (0 : Int) ≤ p := by omega
              have hpn : (p : Int) < n := by omega
              obtain ⟨y, hy⟩ : ∃ y, l[p]? = some y := ⟨_, List.getElem?_eq_getElem (by rw [← HN.out]; omega)⟩
              have hvo := valOf_drop hy x
              obtain ⟨b', o', rfl, hcell⟩ := HRE.out.2 (by omega)
              have hcn : wr.cell? ⟨b', o' + p * 2, none⟩ = some (.string (strB y.1)) := by rw [hd]; exact hcell (p * 2) _ (setsV_get hy).1
              have hcv : wr.cell? ⟨b', o' + p * 2 + 1, none⟩ = some (.string (strB y.2)) := by rw [hd]; exact hcell (p * 2 + 1) _ (setsV_get hy).2
              have hcx : wr.cell? ⟨b, o + k, none⟩ = some (.string X) := by rw [hd]; exact HCX.out
              have hye := toList_strB y.1
              obtain ⟨Y, hY⟩ : ∃ Y, Y = strB y.1 := ⟨_, rfl⟩
              obtain ⟨Z, hZ⟩ : ∃ Z, Z = strB y.2 := ⟨_, rfl⟩
              rw [← hY] at hcn hye
              rw [← hZ] at hcv
              have HZ := hid2 hZ
              by_cases he : y.1 = x
              · rw [if_pos he] at hvo
                have hbq : (Y.toList == X.toList) = true := by rw [hye, HXE.out]; simp [he]
                have HVO := hid2 hvo
                clear hd hvo hcell hy hY hZ hye he
                go_wp2_with fail
                go_quiet (fail)
                go_wp2_with fail
                go_roundg p
                case rel => exact ⟨by omega, _, rfl, by omega, by rw [HVO.out, ← HZ.out], by rw [HD.out]; exact ⟨_, drewN_two _ _ _⟩⟩
                case measure => omega
              · rw [if_neg he] at hvo
                have hbq : (Y.toList == X.toList) = false := by rw [hye, HXE.out]; simp [he]
                have HVO := hid2 hvo
                rw [← hvo]
                clear hd hvo hcell hy hY hZ hye he
                go_wp2_with fail
                go_quiet (fail)
                go_wp2_with fail
                go_roundg p
                case rel => exact ⟨by omega, _, rfl, by omega, rfl, by rw [HD.out]; exact ⟨_, drewN_two _ _ _⟩⟩
                case measure => omega
            · obtain rfl : gk = 0 := by omega
              obtain rfl : i = -1 := by omega
              clear hi
              rw [List.drop_zero]
              obtain ⟨U, hU⟩ : ∃ U, U = strB (valOf l x) := ⟨_, rfl⟩
              rw [← hU]
              have HU := hid2 hU
              have hown := HOWN.out.drewN d
              have hbe3 := below_drewN HBE2.out d
              have hcx : wr.cell? ⟨b, o + k, none⟩ = some (.string X) := by rw [hd]; exact HCX.out
              have hodd := HO2.out.drewN d
              have hsz3 : w.heap.size ≤ wr.heap.size := by rw [hd]; exact hsz
              rw [← hd] at hown hbe3 hodd
              obtain ⟨V, hV⟩ : ∃ V, V = strV (envK l k) := ⟨_, rfl⟩
              rw [← hV] at hown
              have HV := hid2 hV
              have HODD := hid2 hodd
              have HBE3 := hid2 hbe3
              have hone : ∀ v ∈ [Value.string X, Value.string U], v.oneCell' = true := by simp [Value.oneCell']
              clear hU hd hV hodd hbe3 h0
              go_wp2_with (at_builtin; have _t := hown; go_must ((with_reducible refine wpList_append_lit 9 (.string ⟨#[]⟩) 1 16 Tryz.underlying28 info_str rfl w.heap.size A1 j c1 V (hown.alloc _) 2 [.string X, .string U] (.slice (some ⟨wr.heap.size, 0, none⟩) 2 2) (Src.slice Tryz.underlying28 (Rd.of_lit wr _ _ 1 2 (by decide) rfl)) hone ?_ ?_ ?_ ?_ ?_); (unfold maxLen; omega); omega; (simp; omega); exact ⟨rfl, rfl⟩; intro A3 c3 w3 hown3 hgr3 hbl3; clear hown; have hb3 : Below w.heap.size w w3 := (HBE3.out.alloc (by omega) _).grown hgr3 (by simp; omega) (fun g e => (_t.block g e).1); have HT := hid2 _t))
              go_roundg (go - 1)
              case rel =>
                refine ⟨k + 1, j + 2, A3, c3, by omega, by have := HJ.out; omega, by go_num, rfl, ?_, ?_, ?_, hb3⟩
                · rw [HST.out, show strV (envK l k ++ [x, valOf l x]) = V ++ [.string X, .string U] by rw [HV.out, HX.out, HU.out]; simp [strV]]
                  exact hown3
                · exact (HODD.out.alloc _).grown hgr3 (fun b' hb' e => HDIS.out b' e.symm hb')
                · intro b' hb' e
                  rcases hbl3 with h | h
                  · exact HDIS.out b' (by rw [← h]; exact hb') e
                  · rw [h] at hb'
                    cases hb'
                    have := (HODD.out.block _ e).2.1
                    simp at this
                    omega
              case measure => omega
        · have hkm : k = m := by omega
          have hkl : ¬ (k : Int) < m := by omega
          rw [hkm, HEA.out] at hown
          have hjm : j = (envL l).length := by rw [HEL.out, ← hkm]; exact HJ.out
          have HJM := hid2 hjm
          clear hkm hdis ho2 hjm
          go_wp2_with fail
          go_ret
          exact ⟨A1, c1, by rw [HJM.out]; rfl, by rw [← HJM.out]; exact hown, hbe⟩
end Go.Proofs.YtjjpecggcjggpaaGreatDoor
/- A second rule for a region that draws its order: values that hang on nothing but the values before them. -/
namespace Go.Proofs.YtjjpecggcjggpaaGreatDoor
open Go.RowKit
theorem fillAll_congr_lt (l : List Oper) : ∀ (T : Array Value) (u u' : Nat → Value) (k : Nat), (∀ j, k ≤ j → j < k + l.length → u j = u' j) → fillAll T l u k = fillAll T l u' k := by
  induction l with
  | nil => intros; rfl
  | cons o r ih =>
    intro T u u' k h
    simp only [List.length_cons] at h
    simp only [fillAll, h k (Nat.le_refl _) (by omega)]
    exact ih _ u u' (k + 1) (fun j hj h2 => h j (by omega) (by omega))
theorem fillAll_size (l : List Oper) : ∀ (T : Array Value) (u : Nat → Value) (k : Nat), (fillAll T l u k).size = T.size := by
  induction l with
  | nil => intros; rfl
  | cons o r ih =>
    intro T u k
    simp only [fillAll]
    rw [ih]
    cases o.dst <;> simp
theorem fillAll_out (l : List Oper) : ∀ (T : Array Value) (u : Nat → Value) (k : Nat) (t : Tmp), dstIn t l = false → (fillAll T l u k)[t]? = T[t]? := by
  induction l with
  | nil => intros; rfl
  | cons o r ih =>
    intro T u k t h
    simp only [dstIn, List.any_cons, Bool.or_eq_false_iff] at h
    simp only [fillAll]
    rw [ih _ _ _ t h.2]
    cases hd : o.dst with
    | none => rfl
    | some d =>
      have hne : d ≠ t := fun e => by have := h.1; rw [hd, e] at this; simp at this
      exact Array.getElem?_setIfInBounds_ne hne
theorem fillAll_at (l : List Oper) : ∀ (T : Array Value) (u : Nat → Value) (k i : Nat) (o : Oper) (d : Tmp), distinctB l = true → l[i]? = some o → o.dst = some d → d < T.size → (fillAll T l u k)[d]? = some (u (k + i)) := by
  induction l with
  | nil => intro T u k i o d _ h; simp at h
  | cons o' r ih =>
    intro T u k i o d hd h hod hlt
    simp only [distinctB, Bool.and_eq_true] at hd
    cases i with
    | zero =>
      simp only [List.getElem?_cons_zero, Option.some.injEq] at h
      subst h
      have h1 : dstIn d r = false := by have := hd.1; rw [hod] at this; simpa using this
      simp only [fillAll, hod]
      rw [fillAll_out r _ _ _ d h1]
      simp [hlt]
    | succ i =>
      simp only [List.getElem?_cons_succ] at h
      simp only [fillAll]
      rw [ih _ u (k + 1) i o d hd.2 h hod (by cases o'.dst <;> simpa using hlt)]
      rw [show k + 1 + i = k + (i + 1) by omega]
theorem step_plain0 {P : Program} {ops : Array Oper} {T : Array Value} {D : List Deferred} {o : Oper} {w : World} {K : Act → World → Prop} {Q : Exit → Act → World → Prop} {E : Prop} (hg : o.guard = none)
    (h : Oper.wp P o ⟨T, D⟩ w K Q) : if Region.wanted o (yielded ops T) = true then Oper.wp P o ⟨T, D⟩ w K Q else E := by
  rw [if_pos (by simp [Region.wanted, hg])]; exact h
section
variable {P : Program}
/-- A region whose first n operations yield values that hang on nothing but the values before them (in worlds of a class C), in whatever order; each is shown once, over any frame; the rest is a chain. -/
theorem wp_region_vals {id : Nat} {Q : Exit → Act → World → Prop} {w : World} {l : List Oper} {T : Array Value} {D : List Deferred} (n : Nat) (hm : P.follows .mixedOrders = true)
    (hB : headB l.toArray n = true) (hd : distinctB (l.take n) = true) (N : Nat) (hN : T.size = N) (hNB : (l.all fun o => (o.dst.map fun d => decide (d < N)).getD true) = true)
    (val : Nat → Value) (C : World → Prop) (hM0 : C w.drew)
    (hop : ∀ i o, i < n → l[i]? = some o → o.guard = none ∧ ∀ (T' : Array Value) (w : World), C w → T'.size = T.size → (∀ t, dstIn t (l.take n) = false → T'[t]? = T[t]?) →
      (∀ e ∈ o.after, Region.binds .any e = true → ∀ oe d, l[e.on]? = some oe → oe.dst = some d → T'[d]? = some (val e.on)) →
      Oper.wp P o ⟨T', D⟩ w (fun a' w' => a' = (⟨T', D⟩ : Act).put o.dst (val i) ∧ C w') Q)
    (hend : ∀ (w : World), C w → wpList P l.toArray Q (l.drop n) ⟨fillAll T (l.take n) val 0, D⟩ w) :
    (Code.region id l.toArray true).wp P Q ⟨T, D⟩ w := by
  have hin_ : ∀ o d, o ∈ l → o.dst = some d → d < T.size := fun o d ho hd' => by
    have := List.all_eq_true.1 hNB o ho
    rw [hd'] at this
    rw [hN]
    simpa using this
  simp only [headB, Bool.and_eq_true, Bool.or_eq_true, decide_eq_true_eq] at hB
  obtain ⟨hback, hB⟩ := hB
  have hsz : l.toArray.size = l.length := by simp
  have hn : n ≤ l.length := by rcases hB with h | h <;> omega
  refine wp_region_any hm ?_
  -- the state: some of the head have come
  have key : ∀ (f : Nat) (listed : Array Bool) (u : Nat → Value) (w : World), HeadInv .any l.toArray n listed →
      ((List.range n).filter fun j => !listed.getD j true).length = f → C w → (∀ j, j < n → listed.getD j false = true → u j = val j) →
      wpAny P .any l.toArray Q (f + (l.length - n)) listed ⟨fillAll T (l.take n) u 0, D⟩ w := by
    intro f
    induction f with
    | zero =>
      intro listed u w inv hf hM hVs
      have hall : ∀ j, j < n → listed.getD j false = true := by
        intro j hj
        have : (List.range n).filter (fun j => !listed.getD j true) = [] := List.eq_nil_of_length_eq_zero hf
        have h1 := List.filter_eq_nil_iff.1 this j (List.mem_range.2 hj)
        have hjs : j < listed.size := by rw [inv.size, hsz]; omega
        simp only [Bool.not_eq_true', Bool.not_eq_false] at h1
        simp [hjs] at h1 ⊢
        exact h1
      have hL : listed = (Array.range l.toArray.size).map fun j => decide (j < n) := by
        apply Array.ext
        · simp [inv.size]
        · intro j h1 h2
          rw [Array.getElem_map, Array.getElem_range]
          by_cases hjn : j < n
          · have := hall j hjn
            simp only [hjn, decide_true]
            simpa [h1] using this
          · have hjl : j < l.toArray.size := by rw [← inv.size]; exact h1
            have := inv.tail j (by omega) hjl
            simp only [hjn, decide_false]
            simpa [h1] using this
      have hend' : wpList P l.toArray Q (l.drop n) ⟨fillAll T (l.take n) u 0, D⟩ w := by
        have e : fillAll T (l.take n) u 0 = fillAll T (l.take n) val 0 := fillAll_congr_lt (l.take n) T u val 0 (fun j _ hj => hVs j (by rw [List.length_take] at hj; omega) (hall j (by rw [List.length_take] at hj; omega)))
        rw [e]
        exact hend w hM
      rw [Nat.zero_add]
      rcases hB with hB | hB
      · have h0 : l.length - n = 0 := by omega
        rw [h0]
        rw [List.drop_of_length_le (by omega)] at hend'
        refine ⟨?_, hend'⟩
        rcases hr : Region.ready .any l.toArray listed with _ | ⟨i, r⟩
        · rfl
        · have hi : i ∈ Region.ready .any l.toArray listed := by rw [hr]; simp
          obtain ⟨h1, o, ho, _⟩ := mem_ready.1 hi
          have hil : i < l.toArray.size := (Array.getElem?_eq_some_iff.1 ho).1
          have := hall i (by omega)
          rw [getD_both h1] at this; cases this
      · have hdl : (l.drop n).length = l.length - n := by simp
        have hseq := hB.2
        rw [← hL, hsz, ← hdl] at hseq
        have := wpAny_of_seq (P := P) (md := .any) (ops := l.toArray) (Q' := Q) (l.drop n) n listed ⟨fillAll T (l.take n) u 0, D⟩ w (fun j => by simp [List.getElem?_drop]) hseq hend'
        rw [hdl] at this
        exact this
    | succ f ih =>
      intro listed u w inv hf hM hVs
      rw [show f + 1 + (l.length - n) = (f + (l.length - n)) + 1 by omega]
      -- one of the head has not come: the least of them may come
      have hex : ∃ i, i < n ∧ listed.getD i true = false := by
        rcases hq : (List.range n).filter (fun j => !listed.getD j true) with _ | ⟨i, r⟩
        · rw [hq] at hf; simp at hf
        · have hi : i ∈ (List.range n).filter (fun j => !listed.getD j true) := by rw [hq]; simp
          rw [List.mem_filter, List.mem_range] at hi
          exact ⟨i, hi.1, by simpa using hi.2⟩
      refine ⟨fun h0 => ?_, fun i hi => ?_⟩
      · exfalso
        -- strong induction to the least
        have hleast : ∀ m i, i ≤ m → i < n → listed.getD i true = false → ∃ j, j ∈ Region.ready .any l.toArray listed := by
          intro m
          induction m with
          | zero =>
            intro i hi hin hun
            obtain rfl : i = 0 := by omega
            have hlt : 0 < l.length := by omega
            refine ⟨0, mem_ready.2 ⟨hun, l[0], by simp [hlt], fun e he hb => ?_⟩⟩
            have h1 := List.all_eq_true.1 hback 0 (List.mem_range.2 hin)
            rw [show l.toArray[0]? = some l[0] by simp [hlt]] at h1
            simp only [Option.map_some, Option.getD_some, Array.all_eq_true', decide_eq_true_eq] at h1
            have := h1 e he
            omega
          | succ m ihm =>
            intro i hi hin hun
            by_cases hdep : ∃ j, j < i ∧ listed.getD j true = false
            · obtain ⟨j, hj, hju⟩ := hdep
              exact ihm j (by omega) (by omega) hju
            · have hlt : i < l.length := by omega
              refine ⟨i, mem_ready.2 ⟨hun, l[i], by simp [hlt], fun e he hb => ?_⟩⟩
              have h1 := List.all_eq_true.1 hback i (List.mem_range.2 hin)
              rw [show l.toArray[i]? = some l[i] by simp [hlt]] at h1
              simp only [Option.map_some, Option.getD_some, Array.all_eq_true', decide_eq_true_eq] at h1
              have hlt2 := h1 e he
              have hes : e.on < listed.size := by rw [inv.size, hsz]; omega
              cases hq : listed.getD e.on false with
              | true => rfl
              | false => exact absurd ⟨e.on, hlt2, getD_in hes hq⟩ hdep
        obtain ⟨i, hin, hun⟩ := hex
        obtain ⟨j, hj⟩ := hleast i i (Nat.le_refl _) hin hun
        rw [h0] at hj; cases hj
      · obtain ⟨hun, o, ho, hall⟩ := mem_ready.1 hi
        have hin : i < n := by
          rcases hB with hB | hB
          · have := (Array.getElem?_eq_some_iff.1 ho).1; omega
          · rcases Nat.lt_or_ge i n with h | h
            · exact h
            · obtain ⟨k, hk, hku⟩ := hex
              exact absurd hi (tail_waits hB.1.1.2 hB.1.2 hB.1.1.1 inv _ k rfl hk hku i h)
        have hol : l[i]? = some o := by simpa using ho
        have hfacts : ∀ e ∈ o.after, Region.binds .any e = true → u e.on = val e.on := fun e he hb => by
          refine hVs e.on ?_ (hall e he hb)
          have h1 := List.all_eq_true.1 hback i (List.mem_range.2 hin)
          rw [ho] at h1
          simp only [Option.map_some, Option.getD_some, Array.all_eq_true', decide_eq_true_eq] at h1
          have := h1 e he
          omega
        refine wpOp_step ho fun K hK => ?_
        obtain ⟨hg, hstep⟩ := hop i o hin hol
        have hst := hstep (fillAll T (l.take n) u 0) w hM (fillAll_size _ _ _ _) (fun t ht => fillAll_out _ _ _ _ t ht) (fun e he hb oe d hoe hod => by
          have hlt2 : e.on < n := by
            have h1 := List.all_eq_true.1 hback i (List.mem_range.2 hin)
            rw [ho] at h1
            simp only [Option.map_some, Option.getD_some, Array.all_eq_true', decide_eq_true_eq] at h1
            have := h1 e he
            omega
          rw [← hfacts e he hb]
          have := fillAll_at (l.take n) T u 0 e.on oe d hd (by rw [List.getElem?_take, if_pos hlt2]; exact hoe) hod (hin_ oe d (List.mem_of_getElem? hoe) hod)
          rwa [Nat.zero_add] at this)
        refine step_plain0 hg (Oper.wp_mono (fun a' w' ha => ?_) hst)
        obtain ⟨rfl, hM'⟩ := ha
        refine hK _ _ ?_
        have hv : val i = val i := rfl
        obtain ⟨v, hvv⟩ : ∃ v, v = val i := ⟨_, rfl⟩
        rw [← hvv]
        have hput : (⟨fillAll T (l.take n) u 0, D⟩ : Act).put o.dst v = ⟨fillAll T (l.take n) (upd u i v) 0, D⟩ := by
          have := fillAll_put (l.take n) T u 0 i o v hd (by rw [List.getElem?_take, if_pos hin]; exact hol)
          rw [Nat.zero_add] at this
          rw [← this]
          cases o.dst <;> rfl
        rw [hput]
        refine ih (listed.setIfInBounds i true) (upd u i v) w' (inv.set hi hin) ?_ hM' ?_
        · have hils : i < listed.size := by rw [inv.size, hsz]; omega
          have hsplit : ∀ (r : List Nat), r.Nodup → i ∈ r → (r.filter fun j => !listed.getD j true).length = (r.filter fun j => !(listed.setIfInBounds i true).getD j true).length + 1 := by
            intro r
            induction r with
            | nil => intro _ h; cases h
            | cons x r ihr =>
              intro hnd hmem
              rw [List.nodup_cons] at hnd
              by_cases hx : x = i
              · subst hx
                have h2 : (listed.setIfInBounds x true).getD x true = true := by simp [hils]
                have hsame : ∀ (r' : List Nat), x ∉ r' → (r'.filter fun j => !listed.getD j true) = (r'.filter fun j => !(listed.setIfInBounds x true).getD j true) := by
                  intro r' hr'
                  refine List.filter_congr fun j hj => ?_
                  rw [getD_set_ne true (show x ≠ j from fun e => hr' (by rw [e]; exact hj))]
                rw [List.filter_cons, List.filter_cons, hun, h2]
                simp only [Bool.not_false, if_true, Bool.not_true, Bool.false_eq_true, if_false, List.length_cons]
                rw [hsame r hnd.1]
              · have hm' : i ∈ r := by
                  rcases List.mem_cons.1 hmem with h | h
                  · exact absurd h.symm hx
                  · exact h
                have := ihr hnd.2 hm'
                rw [List.filter_cons, List.filter_cons, getD_set_ne true (fun e => hx e.symm)]
                split
                · simp only [List.length_cons]; omega
                · exact this
          have := hsplit (List.range n) List.nodup_range (List.mem_range.2 hin)
          omega
        · intro j hj hl
          by_cases hji : j = i
          · subst hji
            simp only [upd, if_true]
            exact hvv
          · rw [getD_set_ne false (Ne.symm hji)] at hl
            simp only [upd, hji, if_false]
            exact hVs j hj hl
  obtain ⟨u, hu⟩ := fillAll_self (l.take n) T 0 hd
  have inv0 : HeadInv .any l.toArray n (Array.replicate l.toArray.size false) :=
    ⟨by simp, fun j oj _ hl => (by rw [getD_replicate_false] at hl; cases hl), fun t _ ht => getD_in (by simpa using ht) (getD_replicate_false _ _)⟩
  have hf0 : ((List.range n).filter fun j => !(Array.replicate l.toArray.size false).getD j true).length = n := by
    rw [List.filter_eq_self.2]
    · simp
    · intro j hj
      have := List.mem_range.1 hj
      rw [getD_in (by simp; omega) (getD_replicate_false _ _)]; rfl
  have := key n (Array.replicate l.toArray.size false) u w.drew inv0 hf0 hM0 (fun j _ hl => by rw [getD_replicate_false] at hl; cases hl)
  rw [hu, show n + (l.length - n) = l.toArray.size by omega] at this
  exact this
end

section
variable {P : Program}
/-- A region whose first n operations yield values of which only this is known: V, kept by what comes behind (Ext); in whatever order; each is shown once, over any frame; the rest is a chain. -/
theorem wpAny_rel {Q : Exit → Act → World → Prop} {w : World} {l : List Oper} {T : Array Value} {D : List Deferred} (n : Nat)
    (hB : headB l.toArray n = true) (hd : distinctB (l.take n) = true) (N : Nat) (hN : T.size = N) (hNB : (l.all fun o => (o.dst.map fun d => decide (d < N)).getD true) = true)
    (V : Nat → Value → World → Prop) (M : World → Prop) (Ext : World → World → Prop) (hM0 : M w.drew) (hV : ∀ j v w w', Ext w w' → V j v w → V j v w')
    (hop : ∀ i o, i < n → l[i]? = some o → o.guard = none ∧ ∀ (T' : Array Value) (w : World), M w → T'.size = T.size → (∀ t, dstIn t (l.take n) = false → T'[t]? = T[t]?) →
      (∀ e ∈ o.after, Region.binds .any e = true → ∀ oe d, l[e.on]? = some oe → oe.dst = some d → ∃ v, T'[d]? = some v ∧ V e.on v w) →
      ∀ K : Act → World → Prop, (∀ v w', V i v w' → M w' → Ext w w' → K ((⟨T', D⟩ : Act).put o.dst v) w') → Oper.wp P o ⟨T', D⟩ w K Q)
    (hend : ∀ (u : Nat → Value) (w : World), M w → (∀ j, j < n → V j (u j) w) → wpList P l.toArray Q (l.drop n) ⟨fillAll T (l.take n) u 0, D⟩ w) :
    wpAny P .any l.toArray Q l.toArray.size (Array.replicate l.toArray.size false) ⟨T, D⟩ w.drew := by
  have hin_ : ∀ o d, o ∈ l → o.dst = some d → d < T.size := fun o d ho hd' => by
    have := List.all_eq_true.1 hNB o ho
    rw [hd'] at this
    rw [hN]
    simpa using this
  simp only [headB, Bool.and_eq_true, Bool.or_eq_true, decide_eq_true_eq] at hB
  obtain ⟨hback, hB⟩ := hB
  have hsz : l.toArray.size = l.length := by simp
  have hn : n ≤ l.length := by rcases hB with h | h <;> omega
  -- the state: some of the head have come
  have key : ∀ (f : Nat) (listed : Array Bool) (u : Nat → Value) (w : World), HeadInv .any l.toArray n listed →
      ((List.range n).filter fun j => !listed.getD j true).length = f → M w → (∀ j, j < n → listed.getD j false = true → V j (u j) w) →
      wpAny P .any l.toArray Q (f + (l.length - n)) listed ⟨fillAll T (l.take n) u 0, D⟩ w := by
    intro f
    induction f with
    | zero =>
      intro listed u w inv hf hM hVs
      have hall : ∀ j, j < n → listed.getD j false = true := by
        intro j hj
        have : (List.range n).filter (fun j => !listed.getD j true) = [] := List.eq_nil_of_length_eq_zero hf
        have h1 := List.filter_eq_nil_iff.1 this j (List.mem_range.2 hj)
        have hjs : j < listed.size := by rw [inv.size, hsz]; omega
        simp only [Bool.not_eq_true', Bool.not_eq_false] at h1
        simp [hjs] at h1 ⊢
        exact h1
      have hL : listed = (Array.range l.toArray.size).map fun j => decide (j < n) := by
        apply Array.ext
        · simp [inv.size]
        · intro j h1 h2
          rw [Array.getElem_map, Array.getElem_range]
          by_cases hjn : j < n
          · have := hall j hjn
            simp only [hjn, decide_true]
            simpa [h1] using this
          · have hjl : j < l.toArray.size := by rw [← inv.size]; exact h1
            have := inv.tail j (by omega) hjl
            simp only [hjn, decide_false]
            simpa [h1] using this
      have hend' := hend u w hM (fun j hj => hVs j hj (hall j hj))
      rw [Nat.zero_add]
      rcases hB with hB | hB
      · have h0 : l.length - n = 0 := by omega
        rw [h0]
        rw [List.drop_of_length_le (by omega)] at hend'
        refine ⟨?_, hend'⟩
        rcases hr : Region.ready .any l.toArray listed with _ | ⟨i, r⟩
        · rfl
        · have hi : i ∈ Region.ready .any l.toArray listed := by rw [hr]; simp
          obtain ⟨h1, o, ho, _⟩ := mem_ready.1 hi
          have hil : i < l.toArray.size := (Array.getElem?_eq_some_iff.1 ho).1
          have := hall i (by omega)
          rw [getD_both h1] at this; cases this
      · have hdl : (l.drop n).length = l.length - n := by simp
        have hseq := hB.2
        rw [← hL, hsz, ← hdl] at hseq
        have := wpAny_of_seq (P := P) (md := .any) (ops := l.toArray) (Q' := Q) (l.drop n) n listed ⟨fillAll T (l.take n) u 0, D⟩ w (fun j => by simp [List.getElem?_drop]) hseq hend'
        rw [hdl] at this
        exact this
    | succ f ih =>
      intro listed u w inv hf hM hVs
      rw [show f + 1 + (l.length - n) = (f + (l.length - n)) + 1 by omega]
      -- one of the head has not come: the least of them may come
      have hex : ∃ i, i < n ∧ listed.getD i true = false := by
        rcases hq : (List.range n).filter (fun j => !listed.getD j true) with _ | ⟨i, r⟩
        · rw [hq] at hf; simp at hf
        · have hi : i ∈ (List.range n).filter (fun j => !listed.getD j true) := by rw [hq]; simp
          rw [List.mem_filter, List.mem_range] at hi
          exact ⟨i, hi.1, by simpa using hi.2⟩
      refine ⟨fun h0 => ?_, fun i hi => ?_⟩
      · exfalso
        -- strong induction to the least
        have hleast : ∀ m i, i ≤ m → i < n → listed.getD i true = false → ∃ j, j ∈ Region.ready .any l.toArray listed := by
          intro m
          induction m with
          | zero =>
            intro i hi hin hun
            obtain rfl : i = 0 := by omega
            have hlt : 0 < l.length := by omega
            refine ⟨0, mem_ready.2 ⟨hun, l[0], by simp [hlt], fun e he hb => ?_⟩⟩
            have h1 := List.all_eq_true.1 hback 0 (List.mem_range.2 hin)
            rw [show l.toArray[0]? = some l[0] by simp [hlt]] at h1
            simp only [Option.map_some, Option.getD_some, Array.all_eq_true', decide_eq_true_eq] at h1
            have := h1 e he
            omega
          | succ m ihm =>
            intro i hi hin hun
            by_cases hdep : ∃ j, j < i ∧ listed.getD j true = false
            · obtain ⟨j, hj, hju⟩ := hdep
              exact ihm j (by omega) (by omega) hju
            · have hlt : i < l.length := by omega
              refine ⟨i, mem_ready.2 ⟨hun, l[i], by simp [hlt], fun e he hb => ?_⟩⟩
              have h1 := List.all_eq_true.1 hback i (List.mem_range.2 hin)
              rw [show l.toArray[i]? = some l[i] by simp [hlt]] at h1
              simp only [Option.map_some, Option.getD_some, Array.all_eq_true', decide_eq_true_eq] at h1
              have hlt2 := h1 e he
              have hes : e.on < listed.size := by rw [inv.size, hsz]; omega
              cases hq : listed.getD e.on false with
              | true => rfl
              | false => exact absurd ⟨e.on, hlt2, getD_in hes hq⟩ hdep
        obtain ⟨i, hin, hun⟩ := hex
        obtain ⟨j, hj⟩ := hleast i i (Nat.le_refl _) hin hun
        rw [h0] at hj; cases hj
      · obtain ⟨hun, o, ho, hall⟩ := mem_ready.1 hi
        have hin : i < n := by
          rcases hB with hB | hB
          · have := (Array.getElem?_eq_some_iff.1 ho).1; omega
          · rcases Nat.lt_or_ge i n with h | h
            · exact h
            · obtain ⟨k, hk, hku⟩ := hex
              exact absurd hi (tail_waits hB.1.1.2 hB.1.2 hB.1.1.1 inv _ k rfl hk hku i h)
        have hol : l[i]? = some o := by simpa using ho
        have hfacts : ∀ e ∈ o.after, Region.binds .any e = true → V e.on (u e.on) w := fun e he hb => by
          refine hVs e.on ?_ (hall e he hb)
          have h1 := List.all_eq_true.1 hback i (List.mem_range.2 hin)
          rw [ho] at h1
          simp only [Option.map_some, Option.getD_some, Array.all_eq_true', decide_eq_true_eq] at h1
          have := h1 e he
          omega
        refine wpOp_step ho fun K hK => ?_
        obtain ⟨hg, hstep⟩ := hop i o hin hol
        have hst := hstep (fillAll T (l.take n) u 0) w hM (fillAll_size _ _ _ _) (fun t ht => fillAll_out _ _ _ _ t ht) (fun e he hb oe d hoe hod => by
          have hlt2 : e.on < n := by
            have h1 := List.all_eq_true.1 hback i (List.mem_range.2 hin)
            rw [ho] at h1
            simp only [Option.map_some, Option.getD_some, Array.all_eq_true', decide_eq_true_eq] at h1
            have := h1 e he
            omega
          refine ⟨u e.on, ?_, hfacts e he hb⟩
          have := fillAll_at (l.take n) T u 0 e.on oe d hd (by rw [List.getElem?_take, if_pos hlt2]; exact hoe) hod (hin_ oe d (List.mem_of_getElem? hoe) hod)
          rwa [Nat.zero_add] at this)
        refine step_plain0 hg (hst K (fun v w' hv hM' hE => hK _ _ ?_))
        have hput : (⟨fillAll T (l.take n) u 0, D⟩ : Act).put o.dst v = ⟨fillAll T (l.take n) (upd u i v) 0, D⟩ := by
          have := fillAll_put (l.take n) T u 0 i o v hd (by rw [List.getElem?_take, if_pos hin]; exact hol)
          rw [Nat.zero_add] at this
          rw [← this]
          cases o.dst <;> rfl
        rw [hput]
        refine ih (listed.setIfInBounds i true) (upd u i v) w' (inv.set hi hin) ?_ hM' ?_
        · have hils : i < listed.size := by rw [inv.size, hsz]; omega
          have hsplit : ∀ (r : List Nat), r.Nodup → i ∈ r → (r.filter fun j => !listed.getD j true).length = (r.filter fun j => !(listed.setIfInBounds i true).getD j true).length + 1 := by
            intro r
            induction r with
            | nil => intro _ h; cases h
            | cons x r ihr =>
              intro hnd hmem
              rw [List.nodup_cons] at hnd
              by_cases hx : x = i
              · subst hx
                have h2 : (listed.setIfInBounds x true).getD x true = true := by simp [hils]
                have hsame : ∀ (r' : List Nat), x ∉ r' → (r'.filter fun j => !listed.getD j true) = (r'.filter fun j => !(listed.setIfInBounds x true).getD j true) := by
                  intro r' hr'
                  refine List.filter_congr fun j hj => ?_
                  rw [getD_set_ne true (show x ≠ j from fun e => hr' (by rw [e]; exact hj))]
                rw [List.filter_cons, List.filter_cons, hun, h2]
                simp only [Bool.not_false, if_true, Bool.not_true, Bool.false_eq_true, if_false, List.length_cons]
                rw [hsame r hnd.1]
              · have hm' : i ∈ r := by
                  rcases List.mem_cons.1 hmem with h | h
                  · exact absurd h.symm hx
                  · exact h
                have := ihr hnd.2 hm'
                rw [List.filter_cons, List.filter_cons, getD_set_ne true (fun e => hx e.symm)]
                split
                · simp only [List.length_cons]; omega
                · exact this
          have := hsplit (List.range n) List.nodup_range (List.mem_range.2 hin)
          omega
        · intro j hj hl
          by_cases hji : j = i
          · subst hji
            simp only [upd, if_true]
            exact hv
          · rw [getD_set_ne false (Ne.symm hji)] at hl
            have h1 := hV j (u j) w w' hE (hVs j hj hl)
            simp only [upd, hji, if_false]
            exact h1
  obtain ⟨u, hu⟩ := fillAll_self (l.take n) T 0 hd
  have inv0 : HeadInv .any l.toArray n (Array.replicate l.toArray.size false) :=
    ⟨by simp, fun j oj _ hl => (by rw [getD_replicate_false] at hl; cases hl), fun t _ ht => getD_in (by simpa using ht) (getD_replicate_false _ _)⟩
  have hf0 : ((List.range n).filter fun j => !(Array.replicate l.toArray.size false).getD j true).length = n := by
    rw [List.filter_eq_self.2]
    · simp
    · intro j hj
      have := List.mem_range.1 hj
      rw [getD_in (by simp; omega) (getD_replicate_false _ _)]; rfl
  have := key n (Array.replicate l.toArray.size false) u w.drew inv0 hf0 hM0 (fun j _ hl => by rw [getD_replicate_false] at hl; cases hl)
  rw [hu, show n + (l.length - n) = l.toArray.size by omega] at this
  exact this
theorem wp_region_rel {id : Nat} {Q : Exit → Act → World → Prop} {w : World} {l : List Oper} {T : Array Value} {D : List Deferred} (n : Nat) (hm : P.follows .mixedOrders = true)
    (hB : headB l.toArray n = true) (hd : distinctB (l.take n) = true) (N : Nat) (hN : T.size = N) (hNB : (l.all fun o => (o.dst.map fun d => decide (d < N)).getD true) = true)
    (V : Nat → Value → World → Prop) (M : World → Prop) (Ext : World → World → Prop) (hM0 : M w.drew) (hV : ∀ j v w w', Ext w w' → V j v w → V j v w')
    (hop : ∀ i o, i < n → l[i]? = some o → o.guard = none ∧ ∀ (T' : Array Value) (w : World), M w → T'.size = T.size → (∀ t, dstIn t (l.take n) = false → T'[t]? = T[t]?) →
      (∀ e ∈ o.after, Region.binds .any e = true → ∀ oe d, l[e.on]? = some oe → oe.dst = some d → ∃ v, T'[d]? = some v ∧ V e.on v w) →
      ∀ K : Act → World → Prop, (∀ v w', V i v w' → M w' → Ext w w' → K ((⟨T', D⟩ : Act).put o.dst v) w') → Oper.wp P o ⟨T', D⟩ w K Q)
    (hend : ∀ (u : Nat → Value) (w : World), M w → (∀ j, j < n → V j (u j) w) → wpList P l.toArray Q (l.drop n) ⟨fillAll T (l.take n) u 0, D⟩ w) :
    (Code.region id l.toArray true).wp P Q ⟨T, D⟩ w :=
  wp_region_any hm (wpAny_rel n hB hd N hN hNB V M Ext hM0 hV hop hend)
end

end Go.Proofs.YtjjpecggcjggpaaGreatDoor
/- Rows of rows; the document's parts of an action. -/
namespace Go.Proofs.YtjjpecggcjggpaaGreatDoor
open Go.RowKit Go.Shelf
set_option maxRecDepth 100000
/-- what an operation of a region yielded: a row of texts, or a value that is told -/
def KV (rows : List (Option (List Tx))) (vals : List Value) (j : Nat) (v : Value) (w : World) : Prop :=
  match rows.getD j none with
  | some x => ∃ A c, v = .slice A x.length c ∧ Rd w 1 A x.length (strV x)
  | none => vals[j]? = some v
theorem KV.keep {rows : List (Option (List Tx))} {vals : List Value} {j : Nat} {v : Value} {w w' : World} (h : KV rows vals j v w) (hb : Below w.heap.size w w') : KV rows vals j v w' := by
  unfold KV at *
  split
  · rename_i x hj
    simp only [hj] at h
    obtain ⟨A, c, h1, h2⟩ := h
    exact ⟨A, c, h1, h2.below_all hb⟩
  · rename_i hj
    simp only [hj] at h
    exact h
/-- block g holds the rows L -/
def RowsAt (w : World) (g : Nat) (L : List (List Tx)) (As : Nat → Option Addr) (cs : Nat → Nat) : Prop :=
  ∀ i x, L[i]? = some x → w.cell? ⟨g, i, none⟩ = some (.slice (As i) x.length (cs i)) ∧ Rd w 1 (As i) x.length (strV x)
theorem RowsAt.below {w w' : World} {g : Nat} {L : List (List Tx)} {As : Nat → Option Addr} {cs : Nat → Nat} (h : RowsAt w g L As cs) (hb : Below w.heap.size w w') : RowsAt w' g L As cs := fun i x hx => by
  obtain ⟨h1, h2⟩ := h i x hx
  exact ⟨(hb.cell (p := ⟨g, i, none⟩) (World.block_lt_of_cell? w _ h1)).trans h1, h2.below_all hb⟩
theorem ActAt.lens {w : World} {L : LayA} {a : ActK} (h : ActAt w L a) : a.env.length ≤ maxLen := h.lE
/-- an action that is no great one -/
structure Mild (a : ActK) : Prop where
  env : a.env.length ≤ 22
  tool : a.tool.length ≤ 500
  ins : a.ins.length ≤ 22
  asks : a.asks.length ≤ 22
  outs : a.outs.length ≤ 22
  lI : ∀ x ∈ a.ins, x.length ≤ 100
  lA : ∀ x ∈ a.asks, x.length ≤ 100
  lO : ∀ x ∈ a.outs, x.length ≤ 100
  lE : ∀ p ∈ a.env, p.1.length ≤ 100 ∧ p.2.length ≤ 100
theorem wideL_not {l : List Tx} (h : wideL l = false) : l.length ≤ 20 ∧ ∀ x ∈ l, x.length ≤ 100 := by
  rw [wideL, Bool.or_eq_false_iff] at h
  refine ⟨by have := h.2; simp at this; omega, fun x hx => ?_⟩
  have := List.any_eq_false.1 h.1 x hx
  simp at this
  omega
theorem mild_of {a : ActK} (h : greatL a = false) : Mild a := by
  rw [greatL] at h
  simp only [Bool.or_eq_false_iff] at h
  obtain ⟨⟨⟨⟨⟨h1, h2⟩, h3⟩, h4⟩, h5⟩, h6⟩ := h
  obtain ⟨i1, i2⟩ := wideL_not h3
  obtain ⟨a1, a2⟩ := wideL_not h4
  obtain ⟨o1, o2⟩ := wideL_not h5
  refine ⟨by simp at h1; omega, by simp at h2; omega, by omega, by omega, by omega, i2, a2, o2, fun p hp => ?_⟩
  have := List.any_eq_false.1 h6 p hp
  simp at this
  omega
set_option maxHeartbeats 4000000 in
theorem parts_any (w : World) (L : LayA) (a : ActK) (h : ActAt w L a) (hmi : Mild a) :
    Calls Tryz.prog 41 #[.agg (actV L a)] w fun e w' => ∃ g As cs, e = .returned (.slice (some ⟨g, 0, none⟩) 5 5) ∧ RowsAt w' g ([a.tool] :: partsK a) As cs ∧ Below w.heap.size w w' := by
  obtain ⟨pk, nm, E, I, A, O, cE, cI, cA, cO⟩ := L
  have hE := h.env
  have hI := h.ins
  have hA := h.asks
  have hO := h.outs
  have lE := hmi.env
  have lI := hmi.ins
  have lA := hmi.asks
  have lO := hmi.outs
  simp only at hE hI hA hO
  unfold actV
  simp only
  obtain ⟨W, hW⟩ : ∃ W, W = w.alloc (.cells #[.string pk, .string nm, .string (strB a.tool), .slice E a.env.length cE, .slice I a.ins.length cI, .slice A a.asks.length cA, .slice O a.outs.length cO] 30) := ⟨_, rfl⟩
  obtain ⟨gB, hgB⟩ : ∃ g, g = w.heap.size := ⟨_, rfl⟩
  have hb0 : Below w.heap.size w W := by rw [hW]; exact (Below.refl _ w).alloc (Nat.le_refl _) _
  have hbx : W.heap[gB]? = some (.cells #[.string pk, .string nm, .string (strB a.tool), .slice E a.env.length cE, .slice I a.ins.length cI, .slice A a.asks.length cA, .slice O a.outs.length cO] 30 (0, 0)) := by rw [hW, hgB]; exact World.alloc_heap_new w _
  have CE := hid2 (fun (w2 : World) (hb : Below W.heap.size W w2) => refenv_any w2 E cE a.env (by omega) ((hE.below_all hb0).below_all hb))
  have CI := hid2 (fun (w2 : World) (hb : Below W.heap.size W w2) => refset_any w2 I cI a.ins (by omega) ((hI.below_all hb0).below_all hb))
  have CA := hid2 (fun (w2 : World) (hb : Below W.heap.size W w2) => refset_any w2 A cA a.asks (by omega) ((hA.below_all hb0).below_all hb))
  have CO := hid2 (fun (w2 : World) (hb : Below W.heap.size W w2) => refset_any w2 O cO a.outs (by omega) ((hO.below_all hb0).below_all hb))
  have HTV := hid2 (show strV [a.tool] = [.string (strB a.tool)] from rfl)
  obtain ⟨T, hT⟩ : ∃ T, T = strB a.tool := ⟨_, rfl⟩
  obtain ⟨nE, hnE⟩ : ∃ n, n = a.env.length := ⟨_, rfl⟩
  obtain ⟨nI, hnI⟩ : ∃ n, n = a.ins.length := ⟨_, rfl⟩
  obtain ⟨nA, hnA⟩ : ∃ n, n = a.asks.length := ⟨_, rfl⟩
  obtain ⟨nO, hnO⟩ : ∃ n, n = a.outs.length := ⟨_, rfl⟩
  rw [← hT] at hW hbx HTV ⊢
  rw [← hnE] at hW hbx CE lE ⊢
  rw [← hnI] at hW hbx CI lI ⊢
  rw [← hnA] at hW hbx CA lA ⊢
  rw [← hnO] at hW hbx CO lO ⊢
  have hgl := heap_lt hbx
  have HCELL := hid2 (show ∀ w2, Below W.heap.size W w2 → w2.cell? ⟨gB, 2, none⟩ = some (.string T) ∧ w2.cell? ⟨gB, 3, none⟩ = some (.slice E nE cE) ∧ w2.cell? ⟨gB, 4, none⟩ = some (.slice I nI cI) ∧ w2.cell? ⟨gB, 5, none⟩ = some (.slice A nA cA) ∧ w2.cell? ⟨gB, 6, none⟩ = some (.slice O nO cO) from fun w2 hb => by
    have hh := (hb.block gB hgl).trans hbx
    exact ⟨cell_of_row w2 _ 2 _ _ _ hh, cell_of_row w2 _ 3 _ _ _ hh, cell_of_row w2 _ 4 _ _ _ hh, cell_of_row w2 _ 5 _ _ _ hh, cell_of_row w2 _ 6 _ _ _ hh⟩)
  have HW := hid2 hW
  have HB0 := hid2 hb0
  have HGB := hid2 hgB
  have HT := hid2 hT
  have HTC := hid2 (show W.cell? ⟨gB, 2, none⟩ = some (.string T) from cell_of_row W _ 2 _ _ _ hbx)
  clear h hmi hE hI hA hO hT hnE hnI hnA hnO hbx hb0 hgl hW hgB
  go_enter Tryz.func41, Tryz.ntmps41
  go_wp2_with fail
  rw [← HW.out, ← HGB.out]
  refine wp_region_rel 15 (by kernel_rfl) (by kernel_rfl) (by kernel_rfl) _ rfl (by kernel_rfl) (KV [none, none, some ([a.tool]), none, none, some (envL a.env), none, none, some (setL a.ins), none, none, some (setL a.asks), none, none, some (setL a.outs)] [.pointer (some ⟨gB, 2, none⟩), .string T, undef, .pointer (some ⟨gB, 3, none⟩), .slice E nE cE, undef, .pointer (some ⟨gB, 4, none⟩), .slice I nI cI, undef, .pointer (some ⟨gB, 5, none⟩), .slice A nA cA, undef, .pointer (some ⟨gB, 6, none⟩), .slice O nO cO, undef]) (fun w2 => Below W.heap.size W w2) (fun a b => Below a.heap.size a b) ((Below.refl _ W).drew) (fun _ _ _ _ hb hv => hv.keep hb) ?_ ?_
  · refine of_allOps ⟨?_, ?_, ?_, ?_, ?_, ?_, ?_, ?_, ?_, ?_, ?_, ?_, ?_, ?_, ?_, trivial⟩
    · refine ⟨rfl, fun T2 w2 hM hN hO hE K hK => ?_⟩
      have o1 : T2[1]? = some (.pointer (some ⟨gB, 0, none⟩)) := hO 1 rfl
      clear hE hO hN
      go_simp
      exact hK _ _ rfl hM (Below.refl _ _)
    · refine ⟨rfl, fun T2 w2 hM hN hO hE K hK => ?_⟩
      obtain ⟨v0, h0, e0⟩ := hE ⟨0, .data⟩ (by simp) rfl _ _ rfl rfl
      rw [show v0 = .pointer (some ⟨gB, 2, none⟩) from (Option.some.inj e0).symm] at h0
      have hcc := (HCELL.out w2 hM).1
      clear hE hO hN
      go_simp
      exact hK _ _ rfl hM (Below.refl _ _)
    · refine ⟨rfl, fun T2 w2 hM hN hO hE K hK => ?_⟩
      obtain ⟨v1, h1, e1⟩ := hE ⟨1, .data⟩ (by simp) rfl _ _ rfl rfl
      rw [show v1 = .string T from (Option.some.inj e1).symm] at h1
      clear hE hO hN
      go_simp
      exact hK _ _ ⟨_, _, rfl, by rw [show strV [a.tool] = [.string T] from HTV.out]; exact Rd.one w2 _ _⟩ (hM.alloc hM.size _) ((Below.refl _ _).alloc (Nat.le_refl _) _)
    · refine ⟨rfl, fun T2 w2 hM hN hO hE K hK => ?_⟩
      have o1 : T2[1]? = some (.pointer (some ⟨gB, 0, none⟩)) := hO 1 rfl
      clear hE hO hN
      go_simp
      exact hK _ _ rfl hM (Below.refl _ _)
    · refine ⟨rfl, fun T2 w2 hM hN hO hE K hK => ?_⟩
      obtain ⟨v3, h3, e3⟩ := hE ⟨3, .data⟩ (by simp) rfl _ _ rfl rfl
      rw [show v3 = .pointer (some ⟨gB, 3, none⟩) from (Option.some.inj e3).symm] at h3
      have hcc := (HCELL.out w2 hM).2.1
      clear hE hO hN
      go_simp
      exact hK _ _ rfl hM (Below.refl _ _)
    · refine ⟨rfl, fun T2 w2 hM hN hO hE K hK => ?_⟩
      obtain ⟨v4, h4, e4⟩ := hE ⟨4, .data⟩ (by simp) rfl _ _ rfl rfl
      rw [show v4 = .slice E nE cE from (Option.some.inj e4).symm] at h4
      clear hE hO hN
      go_simp
      refine (CE.out w2 hM).mono ?_
      rintro e w3 ⟨A3, c3, rfl, ho3, hb3⟩
      exact hK _ _ ⟨A3, c3, rfl, ho3.rd⟩ (hM.trans (hb3.mono hM.size)) hb3
    · refine ⟨rfl, fun T2 w2 hM hN hO hE K hK => ?_⟩
      have o1 : T2[1]? = some (.pointer (some ⟨gB, 0, none⟩)) := hO 1 rfl
      clear hE hO hN
      go_simp
      exact hK _ _ rfl hM (Below.refl _ _)
    · refine ⟨rfl, fun T2 w2 hM hN hO hE K hK => ?_⟩
      obtain ⟨v6, h6, e6⟩ := hE ⟨6, .data⟩ (by simp) rfl _ _ rfl rfl
      rw [show v6 = .pointer (some ⟨gB, 4, none⟩) from (Option.some.inj e6).symm] at h6
      have hcc := (HCELL.out w2 hM).2.2.1
      clear hE hO hN
      go_simp
      exact hK _ _ rfl hM (Below.refl _ _)
    · refine ⟨rfl, fun T2 w2 hM hN hO hE K hK => ?_⟩
      obtain ⟨v7, h7, e7⟩ := hE ⟨7, .data⟩ (by simp) rfl _ _ rfl rfl
      rw [show v7 = .slice I nI cI from (Option.some.inj e7).symm] at h7
      clear hE hO hN
      go_simp
      refine (CI.out w2 hM).mono ?_
      rintro e w3 ⟨A3, c3, rfl, ho3, hb3⟩
      exact hK _ _ ⟨A3, c3, rfl, ho3.rd⟩ (hM.trans (hb3.mono hM.size)) hb3
    · refine ⟨rfl, fun T2 w2 hM hN hO hE K hK => ?_⟩
      have o1 : T2[1]? = some (.pointer (some ⟨gB, 0, none⟩)) := hO 1 rfl
      clear hE hO hN
      go_simp
      exact hK _ _ rfl hM (Below.refl _ _)
    · refine ⟨rfl, fun T2 w2 hM hN hO hE K hK => ?_⟩
      obtain ⟨v9, h9, e9⟩ := hE ⟨9, .data⟩ (by simp) rfl _ _ rfl rfl
      rw [show v9 = .pointer (some ⟨gB, 5, none⟩) from (Option.some.inj e9).symm] at h9
      have hcc := (HCELL.out w2 hM).2.2.2.1
      clear hE hO hN
      go_simp
      exact hK _ _ rfl hM (Below.refl _ _)
    · refine ⟨rfl, fun T2 w2 hM hN hO hE K hK => ?_⟩
      obtain ⟨v10, h10, e10⟩ := hE ⟨10, .data⟩ (by simp) rfl _ _ rfl rfl
      rw [show v10 = .slice A nA cA from (Option.some.inj e10).symm] at h10
      clear hE hO hN
      go_simp
      refine (CA.out w2 hM).mono ?_
      rintro e w3 ⟨A3, c3, rfl, ho3, hb3⟩
      exact hK _ _ ⟨A3, c3, rfl, ho3.rd⟩ (hM.trans (hb3.mono hM.size)) hb3
    · refine ⟨rfl, fun T2 w2 hM hN hO hE K hK => ?_⟩
      have o1 : T2[1]? = some (.pointer (some ⟨gB, 0, none⟩)) := hO 1 rfl
      clear hE hO hN
      go_simp
      exact hK _ _ rfl hM (Below.refl _ _)
    · refine ⟨rfl, fun T2 w2 hM hN hO hE K hK => ?_⟩
      obtain ⟨v12, h12, e12⟩ := hE ⟨12, .data⟩ (by simp) rfl _ _ rfl rfl
      rw [show v12 = .pointer (some ⟨gB, 6, none⟩) from (Option.some.inj e12).symm] at h12
      have hcc := (HCELL.out w2 hM).2.2.2.2
      clear hE hO hN
      go_simp
      exact hK _ _ rfl hM (Below.refl _ _)
    · refine ⟨rfl, fun T2 w2 hM hN hO hE K hK => ?_⟩
      obtain ⟨v13, h13, e13⟩ := hE ⟨13, .data⟩ (by simp) rfl _ _ rfl rfl
      rw [show v13 = .slice O nO cO from (Option.some.inj e13).symm] at h13
      clear hE hO hN
      go_simp
      refine (CO.out w2 hM).mono ?_
      rintro e w3 ⟨A3, c3, rfl, ho3, hb3⟩
      exact hK _ _ ⟨A3, c3, rfl, ho3.rd⟩ (hM.trans (hb3.mono hM.size)) hb3
  · intro u w2 hM hF
    obtain ⟨A0, c0, e0, r0⟩ : ∃ A c, u 2 = .slice A ([a.tool]).length c ∧ Rd w2 1 A ([a.tool]).length (strV ([a.tool])) := hF 2 (by omega)
    obtain ⟨A1, c1, e1, r1⟩ : ∃ A c, u 5 = .slice A (envL a.env).length c ∧ Rd w2 1 A (envL a.env).length (strV (envL a.env)) := hF 5 (by omega)
    obtain ⟨A2, c2, e2, r2⟩ : ∃ A c, u 8 = .slice A (setL a.ins).length c ∧ Rd w2 1 A (setL a.ins).length (strV (setL a.ins)) := hF 8 (by omega)
    obtain ⟨A3, c3, e3, r3⟩ : ∃ A c, u 11 = .slice A (setL a.asks).length c ∧ Rd w2 1 A (setL a.asks).length (strV (setL a.asks)) := hF 11 (by omega)
    obtain ⟨A4, c4, e4, r4⟩ : ∃ A c, u 14 = .slice A (setL a.outs).length c ∧ Rd w2 1 A (setL a.outs).length (strV (setL a.outs)) := hF 14 (by omega)
    clear hF
    simp only [fillAll, Nat.reduceAdd, e0, e1, e2, e3, e4, List.take_succ_cons, List.take_zero, List.drop_succ_cons, List.drop_zero, List.setIfInBounds_toArray, List.set_cons_succ, List.set_cons_zero]
    go_wp2_with fail
    go_ret
    refine ⟨w2.heap.size, fun i => [A0, A1, A2, A3, A4].getD i none, fun i => [c0, c1, c2, c3, c4].getD i 0, rfl, ?_, HB0.out.trans ((hM.alloc hM.size _).mono HB0.out.size)⟩
    have hn := World.alloc_heap_new w2 (.cells #[.slice A0 [a.tool].length c0, .slice A1 (envL a.env).length c1, .slice A2 (setL a.ins).length c2, .slice A3 (setL a.asks).length c3, .slice A4 (setL a.outs).length c4] 28)
    have hal : ∀ (A : Option Addr) (x : List Tx), Rd w2 1 A x.length (strV x) → Rd (w2.alloc (.cells #[.slice A0 [a.tool].length c0, .slice A1 (envL a.env).length c1, .slice A2 (setL a.ins).length c2, .slice A3 (setL a.asks).length c3, .slice A4 (setL a.outs).length c4] 28)) 1 A x.length (strV x) := fun A x h => h.alloc _
    intro i x hx
    match i, hx with
    | 0, hx => cases hx; exact ⟨cell_of_row _ _ 0 _ _ _ hn, hal _ _ r0⟩
    | 1, hx => cases hx; exact ⟨cell_of_row _ _ 1 _ _ _ hn, hal _ _ r1⟩
    | 2, hx => cases hx; exact ⟨cell_of_row _ _ 2 _ _ _ hn, hal _ _ r2⟩
    | 3, hx => cases hx; exact ⟨cell_of_row _ _ 3 _ _ _ hn, hal _ _ r3⟩
    | 4, hx => cases hx; exact ⟨cell_of_row _ _ 4 _ _ _ hn, hal _ _ r4⟩
    | i + 5, hx => simp [partsK] at hx
end Go.Proofs.YtjjpecggcjggpaaGreatDoor
/- How long an action's text is. -/
namespace Go.Proofs.YtjjpecggcjggpaaGreatDoor
open Go.Lib (decDigits)
theorem rowL_cons_len (s : Tx) (l : List Tx) : (rowL (s :: l)).length = (decDigits s.length).length + 1 + s.length + (rowL l).length := by
  rw [rowL_cons]
  simp only [List.length_append, List.length_cons]
  omega
theorem dec_le {n : Nat} (h : n ≤ 1000000000) : (decDigits n).length ≤ 10 := dec_len 9 n (by omega)
theorem rowL_len_le {M : Nat} (hM : M ≤ 1000000000) : ∀ (l : List Tx) (n : Nat), l.length ≤ n → (∀ x ∈ l, x.length ≤ M) → (rowL l).length ≤ n * (M + 11)
  | [], n, _, _ => by rw [rowL_nil]; simp
  | s :: l, n, hn, h => by
    obtain ⟨m, rfl⟩ : ∃ m, n = m + 1 := ⟨n - 1, by simp at hn; omega⟩
    have h1 := rowL_len_le hM l m (by simpa using hn) (fun x hx => h x (by simp [hx]))
    have h2 := h s (by simp)
    have h3 := dec_le (n := s.length) (by omega)
    rw [rowL_cons_len, Nat.add_mul]
    omega
theorem setL_mem_len {M : Nat} {l : List Tx} (h : ∀ x ∈ l, x.length ≤ M) : ∀ x ∈ setL l, x.length ≤ M := fun x hx => h x (((setL_is l).2 x).1 hx)
theorem envL_mem_len {M : Nat} {l : List SetE} (h : ∀ p ∈ l, p.1.length ≤ M ∧ p.2.length ≤ M) : ∀ x ∈ envL l, x.length ≤ M := fun x hx => by
  rw [envL, List.mem_flatMap] at hx
  obtain ⟨n, hn, hx⟩ := hx
  rcases List.mem_cons.1 hx with rfl | hx
  · have := ((setL_is _).2 _).1 hn
    obtain ⟨p, hp, rfl⟩ := List.mem_map.1 this
    exact (h p hp).1
  · rw [List.mem_singleton] at hx
    subst hx
    exact valOf_mem fun p hp => (h p hp).2
structure PartLens (a : ActK) : Prop where
  env : (rowL (envL a.env)).length ≤ 4884
  ins : (rowL (setL a.ins)).length ≤ 2442
  asks : (rowL (setL a.asks)).length ≤ 2442
  outs : (rowL (setL a.outs)).length ≤ 2442
  nE : (envL a.env).length ≤ 44
  nI : (setL a.ins).length ≤ 22
  nA : (setL a.asks).length ≤ 22
  nO : (setL a.outs).length ≤ 22
  text : (textK a).length ≤ 14000
theorem partLens {a : ActK} (h : Mild a) : PartLens a := by
  have nE : (envL a.env).length ≤ 44 := by
    rw [envL_len]
    have := setL_len (a.env.map (·.1))
    rw [List.length_map] at this
    have := h.env
    omega
  have nI := Nat.le_trans (setL_len a.ins) h.ins
  have nA := Nat.le_trans (setL_len a.asks) h.asks
  have nO := Nat.le_trans (setL_len a.outs) h.outs
  have e1 := rowL_len_le (M := 100) (by omega) _ _ nE (envL_mem_len h.lE)
  have e2 := rowL_len_le (M := 100) (by omega) _ _ nI (setL_mem_len h.lI)
  have e3 := rowL_len_le (M := 100) (by omega) _ _ nA (setL_mem_len h.lA)
  have e4 := rowL_len_le (M := 100) (by omega) _ _ nO (setL_mem_len h.lO)
  refine ⟨e1, e2, e3, e4, nE, nI, nA, nO, ?_⟩
  have d0 := dec_le (n := a.tool.length) (by have := h.tool; omega)
  have d1 := dec_le (n := (rowL (envL a.env)).length) (by omega)
  have d2 := dec_le (n := (rowL (setL a.ins)).length) (by omega)
  have d3 := dec_le (n := (rowL (setL a.asks)).length) (by omega)
  have d4 := dec_le (n := (rowL (setL a.outs)).length) (by omega)
  have ht := h.tool
  rw [textK, partsK]
  simp only [List.map_cons, List.map_nil]
  rw [rowL_cons_len, rowL_cons_len, rowL_cons_len, rowL_cons_len, rowL_cons_len, rowL_nil]
  simp only [List.length_nil]
  omega
/-- the row that the text is of, so far -/
def rowsK (a : ActK) (k : Nat) : List Tx := a.tool :: ((partsK a).take (k - 1)).map rowL
theorem rowsK_step {a : ActK} {k : Nat} {x : List Tx} (h : ([a.tool] :: partsK a)[k + 1]? = some x) : rowsK a (k + 2) = rowsK a (k + 1) ++ [rowL x] := by
  rw [List.getElem?_cons_succ] at h
  rw [rowsK, rowsK, show k + 2 - 1 = k + 1 by omega, show k + 1 - 1 = k by omega, List.take_add_one, h]
  simp
theorem rowsK_all (a : ActK) : rowL (rowsK a 5) = textK a := rfl
theorem rowsK_len {a : ActK} {k : Nat} (h1 : 1 ≤ k) (h5 : k ≤ 5) : (rowsK a k).length = k := by
  rw [rowsK]
  simp [partsK]
  omega
theorem part_len {a : ActK} (h : PartLens a) {k : Nat} {x : List Tx} (hx : ([a.tool] :: partsK a)[k + 1]? = some x) : (rowL x).length ≤ 4884 ∧ x.length ≤ 44 := by
  rw [List.getElem?_cons_succ] at hx
  have := h.env
  have := h.ins
  have := h.asks
  have := h.outs
  have := h.nE
  have := h.nI
  have := h.nA
  have := h.nO
  match k, hx with
  | 0, hx => cases hx; omega
  | 1, hx => cases hx; omega
  | 2, hx => cases hx; omega
  | 3, hx => cases hx; omega
  | k + 4, hx => simp [partsK] at hx
end Go.Proofs.YtjjpecggcjggpaaGreatDoor
