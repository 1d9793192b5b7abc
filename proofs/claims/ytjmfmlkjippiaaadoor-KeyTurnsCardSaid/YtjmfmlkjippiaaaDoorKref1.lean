/- The document's rows of texts as bytes. -/
import Derived.Test.YtjmfmlkjippiaaaDoorKrow
namespace Go.Proofs.YtjmfmlkjippiaaaDoor
open Go.RowKit Go.Shelf
open Go.Lib (decDigits)
set_option maxRecDepth 100000
theorem digits_any : ∀ (n : Nat), n ≤ 1000000000 → ∀ w : World, Calls Tryd.prog 36 #[.int .i64 n] w fun e w' => e = .returned (.string (strB (decDigits n))) ∧ Below w.heap.size w w' := fun n => by
  induction n using Nat.strongRecOn with
  | _ n ih =>
    intro hn w
    by_cases h : n < 10
    · have hi : (n : Int) < 10 := by omega
      have hd : decDigits n = [UInt8.ofNat (48 + n)] := by rw [decDigits, dif_pos h]
      have ht := dig_toNat h
      have hu : u8s [UInt8.ofNat (48 + n)] = [.int .u8 (48 + (n : Int))] := by
        simp only [u8s, List.map_cons, List.map_nil]
        rw [ht]
        simp
      obtain ⟨B, hB⟩ : ∃ B, B = UInt8.ofNat (48 + n) := ⟨_, rfl⟩
      rw [← hB] at hd hu
      have HD := hid2 hd
      have HU := hid2 hu
      clear hd ht hu ih hn hB
      go_enter Tryd.func36, Tryd.ntmps36
      go_wp2_with (first
        | ((with_reducible refine wpList_to_string_lit 5 (some ⟨w.heap.size, 0, none⟩) 1 1 [B] Tryd.underlying58 Tryd.underlying5 Tryd.underlying9 rfl ?_ ?_ ?_); (rw [HU.out]; exact Rd.one w _ _); exact rfl))
      go_ret
      exact ⟨by rw [HD.out]; rfl, (Below.refl _ w).alloc (Nat.le_refl _) _⟩
    · have hi : ¬ (n : Int) < 10 := by omega
      have hd : decDigits n = decDigits (n / 10) ++ decDigits (n % 10) := by
        rw [decDigits, dif_neg h]
        congr 1
        rw [decDigits, dif_pos (by omega)]
      have i1 := ih (n / 10) (by omega) (by omega)
      have i2 := ih (n % 10) (by omega) (by omega)
      have hs1 : (strB (decDigits (n / 10))).size ≤ 10 := by rw [strB_size]; exact dec_len 9 _ (by omega)
      have hs2 : (strB (decDigits (n % 10))).size ≤ 10 := by rw [strB_size]; exact dec_len 9 _ (by omega)
      have hc1 : ¬ 9223372036854775807 < (strB (decDigits (n / 10))).size + (strB (decDigits (n % 10))).size := by omega
      have HD := hid2 hd
      clear hd ih hs1 hs2
      go_enter Tryd.func36, Tryd.ntmps36
      go_wp2_with (first
        | (go_at_call 36; rw [show ((n : Int) % 10) = ((n % 10 : Nat) : Int) from by omega]; refine (i2 w1).mono ?_; rintro e w2 ⟨rfl, hb2⟩)
        | (go_at_call 36; rw [show ((n : Int) / 10) = ((n / 10 : Nat) : Int) from by omega]; refine (i1 w).mono ?_; rintro e w1 ⟨rfl, hb1⟩))
      go_ret
      exact ⟨by rw [strB_append, ← HD.out]; rfl, hb1.trans (hb2.mono hb1.size)⟩
theorem refrow_any (w : World) (A : Option Addr) (c : Nat) (l : List (List UInt8)) (hl : l.length ≤ 1000) (hr : Rd w 1 A l.length (strV l)) (hlen : (rowL l).length ≤ 1000000) :
    Calls Tryd.prog 21 #[.slice A l.length c] w fun e w' => e = .returned (.string (strB (rowL l))) ∧ Below w.heap.size w w' := by
  obtain ⟨n, hn⟩ : ∃ n, n = l.length := ⟨_, rfl⟩
  rw [← hn] at hr hl ⊢
  have HR := hid2 hr
  have HN := hid2 hn
  have HLEN := hid2 hlen
  clear hr hn hlen
  go_enter Tryd.func21, Tryd.ntmps21
  go_wp2
  have hlim : (n : Int) ≤ 1000 := by omega
  go_loopw [3, 8] (fun t i wr => ∃ k : Nat, k ≤ n ∧ i = .int .i64 k ∧ t = .string (strB (rowL (l.take k))) ∧ Below w.heap.size w wr) (fun _ i _ => n - (intOf i).toNat)
  case atStart => exact ⟨0, by omega, rfl, rfl, Below.refl _ _⟩
  case round =>
    obtain ⟨k, hk, rfl, rfl, hbe⟩ := hrel
    by_cases hlt : k < n
    · have hkl : (k : Int) < n := by omega
      obtain ⟨x, hx⟩ : ∃ x, l[k]? = some x := ⟨_, List.getElem?_eq_getElem (by rw [← HN.out]; exact hlt)⟩
      have htk : l.take (k + 1) = l.take k ++ [x] := by rw [List.take_add_one, hx]; rfl
      obtain ⟨b, o, rfl, hcell⟩ := (HR.out.below_all hbe).2 (by omega)
      have hcx : wr.cell? ⟨b, o + k, none⟩ = some (.string (strB x)) := hcell k _ (by rw [strV, List.getElem?_map, hx]; rfl)
      have hrow : rowL (l.take (k + 1)) = rowL (l.take k) ++ (decDigits x.length ++ [58] ++ x) := by rw [htk, rowL_snoc]; simp
      have hle : (rowL (l.take (k + 1))).length ≤ 1000000 := by
        have h := congrArg (fun z => (rowL z).length) (List.take_append_drop (k + 1) l)
        simp only [rowL_append, List.length_append] at h
        have := HLEN.out
        omega
      rw [hrow] at hle
      simp only [List.length_append, List.length_cons, List.length_nil] at hle
      have hxs : (strB x).size = x.length := strB_size x
      have hds : (strB (decDigits x.length)).size = (decDigits x.length).length := strB_size _
      have hrs : (strB (rowL (l.take k))).size = (rowL (l.take k)).length := strB_size _
      have hcat : strB (rowL (l.take k)) ++ (strB (decDigits x.length) ++ ⟨#[58]⟩ ++ strB x) = strB (rowL (l.take (k + 1))) := by
        rw [hrow, ← strB_append, ← strB_append, ← strB_append]; rfl
      have hc1 : ¬ 9223372036854775807 < (strB (decDigits x.length)).size + 1 := by omega
      have hc2 : ¬ 9223372036854775807 < (rowL (l.take k)).length + ((strB (decDigits x.length)).size + 1 + x.length) := by omega
      obtain ⟨R, hR⟩ : ∃ R, R = strB (rowL (l.take k)) := ⟨_, rfl⟩
      obtain ⟨L, hL⟩ : ∃ L, L = x.length := ⟨_, rfl⟩
      rw [← hR] at hcat hrs ⊢
      rw [← hL] at hle hxs hcat hc1 hc2
      have HCAT := hid2 hcat
      have HLE := hid2 hle
      have hLi : L ≤ 1000000 := by omega
      have HBE := hid2 hbe
      clear hcat hle hrow hx hR hL htk hcell hbe hds
      go_wp2_with (first
        | (go_at_call 36; refine (digits_any L (by omega) wr).mono ?_; rintro e w1 ⟨rfl, hb1⟩))
      go_roundw
      case rel =>
        exact ⟨k + 1, by omega, by go_num, by rw [HCAT.out], HBE.out.trans (hb1.mono HBE.out.size)⟩
      case measure => simp [intOf]; omega
    · have hkn : k = n := by omega
      have hkl : ¬ (k : Int) < n := by omega
      have htl : l.take k = l := by rw [hkn, HN.out, List.take_length]
      rw [htl]
      go_wp2
      go_ret
      exact ⟨rfl, hbe⟩
end Go.Proofs.YtjmfmlkjippiaaaDoor
