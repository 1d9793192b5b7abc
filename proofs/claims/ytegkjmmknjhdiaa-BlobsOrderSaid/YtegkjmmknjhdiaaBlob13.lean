/- bloomerylaw06.alive answers true. (slices.SortFunc's contract is a premise.) -/
import Derived.Test.YtegkjmmknjhdiaaBlob12
namespace Go.Proofs.Ytegkjmmknjhdiaa
open Go.RowKit Go.Maps Go.Sort Go.Lib
attribute [local go_sem high] run_eq_dig
set_option maxRecDepth 100000 in
set_option maxHeartbeats 400000 in
theorem alive6_any (hS : SortsD) (w : World) : Calls Try.prog 21 #[] w fun e w' => e = .returned (.bool true) ∧ Below w.heap.size w w' := by
  obtain ⟨A, hA⟩ : ∃ A, A = Sha.sum (⟨#[97]⟩ : ByteArray).data.toList := ⟨_, rfl⟩
  obtain ⟨B, hB⟩ : ∃ B, B = Sha.sum (⟨#[98]⟩ : ByteArray).data.toList := ⟨_, rfl⟩
  have hAl : A.length = 32 := by rw [hA]; exact sum_len _
  have hBl : B.length = 32 := by rw [hB]; exact sum_len _
  have hne : (A == B) = false := by rw [hA, hB]; exact sum_ab
  have cA : ∀ W : World, Calls Try.prog 31 #[.slice (some ⟨W.heap.size, 0, none⟩) 1 1] (W.alloc (.cells #[.string ⟨#[97]⟩] 9)) fun e w' => e = .returned (.agg (u8s A).toArray) ∧ Below W.heap.size W w' := fun W => by rw [hA]; exact sum_new W ⟨#[97]⟩ (by decide)
  have cB : ∀ W : World, Calls Try.prog 31 #[.slice (some ⟨W.heap.size, 0, none⟩) 1 1] (W.alloc (.cells #[.string ⟨#[98]⟩] 9)) fun e w' => e = .returned (.agg (u8s B).toArray) ∧ Below W.heap.size W w' := fun W => by rw [hB]; exact sum_new W ⟨#[98]⟩ (by decide)
  have g0 : getM ([] : Tab (List UInt8)) A = none := rfl
  have cP1 : ∀ {W : World} {s b : Nat}, AlAt w s b 0 [] 0 W → Calls Try.prog 30 #[.pointer (some ⟨s, 0, none⟩), .string ⟨#[97]⟩] W fun e w' => e = .returned (.agg (u8s A).toArray) ∧ AlAt w s b 1 [(A, [97])] 1 w' ∧ But s b W w' := fun {W s b} h => al_put h (by omega) (by omega) ⟨#[97]⟩ (by decide) hA
  have cP2 : ∀ {W : World} {s b : Nat}, AlAt w s b 1 [(A, [97])] 1 W → Calls Try.prog 30 #[.pointer (some ⟨s, 0, none⟩), .string ⟨#[97]⟩] W fun e w' => e = .returned (.agg (u8s A).toArray) ∧ AlAt w s b 2 [(A, [97])] 1 w' ∧ But s b W w' := fun {W s b} h => by
    have := al_put h (by omega) (by omega) ⟨#[97]⟩ (by decide) hA
    simpa only [get_one, Option.isSome_some, if_true] using this
  have cG : ∀ {W : World} {s b : Nat}, AlAt w s b 2 [(A, [97])] 1 W → Calls Try.prog 27 #[.pointer (some ⟨s, 0, none⟩), .agg (u8s A).toArray] W fun e w' => e = .returned (.tuple #[.string ⟨#[97]⟩, .bool true]) ∧ AlAt w s b 2 [(A, [97])] 1 w' ∧ Below W.heap.size W w' := fun {W s b} h => by
    have := al_get h hAl
    simp only [get_one, Option.isSome_some, Option.getD_some] at this
    exact this
  have cD1 : ∀ {W : World} {s b : Nat}, AlAt w s b 2 [(A, [97])] 1 W → Calls Try.prog 28 #[.pointer (some ⟨s, 0, none⟩), .agg (u8s A).toArray] W fun e w' => e = .returned (.bool true) ∧ AlAt w s b 2 [] 0 w' ∧ But s b W w' := fun {W s b} h => by
    have := al_drop h (by omega) hAl (by rw [get_one]; decide)
    simp only [get_one, del_one, Option.isSome_some, Option.getD_some, if_true] at this
    exact this
  have cD2 : ∀ {W : World} {s b : Nat}, AlAt w s b 2 [] 0 W → Calls Try.prog 28 #[.pointer (some ⟨s, 0, none⟩), .agg (u8s A).toArray] W fun e w' => e = .returned (.bool false) ∧ AlAt w s b 2 [] 0 w' ∧ But s b W w' := fun {W s b} h => by
    have := al_drop h (by omega) hAl (by rw [g0]; decide)
    simpa only [g0, Option.isSome_none, Bool.false_eq_true, if_false] using this
  have cL : ∀ {W : World} {s b : Nat}, AlAt w s b 2 [(A, [97])] 1 W → Calls Try.prog 34 #[.pointer (some ⟨s, 0, none⟩)] W fun e w' => ∃ p c, e = .returned (.slice p 1 c) ∧ AlAt w s b 2 [(A, [97])] 1 w' ∧ Below W.heap.size W w' := fun {W s b} h =>
    (al_all hS h (by omega)).mono fun _ _ ⟨p, c, he, _, h1, h2⟩ => ⟨p, c, he, h1, h2⟩
  have cZ : ∀ {W : World} {s b : Nat}, AlAt w s b 2 [(A, [97])] 1 W → Calls Try.prog 35 #[.pointer (some ⟨s, 0, none⟩)] W fun e w' => e = .returned (.int .i64 1) ∧ w' = W := fun {W s b} h => size_any W s b 2 _ 1 h.st
  have CA := hid2 cA; have CB := hid2 cB; have CP1 := hid2 @cP1; have CP2 := hid2 @cP2; have CG := hid2 @cG; have CD1 := hid2 @cD1; have CD2 := hid2 @cD2; have CL := hid2 @cL; have CZ := hid2 @cZ
  clear hA hB cA cB g0 cP1 cP2 cG cD1 cD2 cL cZ hS
  go_enter Try.func21, Try.ntmps21
  go_wp2_with (first
    | (go_at_call 24; refine (newblobs_any _).mono ?_; rintro e w1 ⟨rfl, hst, hb, hsz⟩; have HAL : Hid2 (AlAt w (w.heap.size + 1) w.heap.size 0 [] 0 w1) := hid2 ⟨hst, hb, by omega, by omega⟩; clear hst hb hsz)
    | (go_at_call 31; (first | (refine (CA.out _).mono ?_; rintro e w2 ⟨rfl, hb2⟩) | (refine (CB.out _).mono ?_; rintro e w2 ⟨rfl, hb2⟩)); have HALx := hid2 (HAL.out.ext hb2); clear HAL hb2; have HAL := HALx; clear HALx)
    | (go_at_call 30; refine (CP1.out HAL.out).mono ?_; rintro e w3 ⟨rfl, hal, hbut⟩; clear hbut HAL; have HAL := hid2 hal; clear hal)
    | ((with_reducible refine wpList_store_fresh A hAl ?_ ?_); exact ⟨rfl, rfl⟩))
  obtain ⟨G, hG⟩ : ∃ G, G = w3.heap.size := ⟨_, rfl⟩
  obtain ⟨W4, hW4⟩ : ∃ W4, W4 = w3.alloc (.cells (u8s A).toArray 39) := ⟨_, rfl⟩
  rw [← hW4, ← hG]
  have hG1 : G ≠ w.heap.size + 1 := by have := HAL.out.st.lt.1; omega
  have hG2 : G ≠ w.heap.size := by have := HAL.out.st.lt.2; omega
  have hdg : DigAt W4 G A := by rw [hW4, hG]; exact heap_alloc_new w3 _
  have hal4 : AlAt w (w.heap.size + 1) w.heap.size 1 [(A, [97])] 1 W4 := by rw [hW4]; exact HAL.out.ext ((Below.refl _ _).alloc (Nat.le_refl _) _)
  clear HAL hG hW4
  have HAL := hid2 hal4
  have HDG := hid2 hdg
  have HG1 := hid2 hG1
  have HG2 := hid2 hG2
  clear hal4 hdg hG1 hG2
  go_wp2_with (first
    | (go_at_call 30; refine (CP2.out HAL.out).mono ?_; rintro e w5 ⟨rfl, hal, hbut⟩; have hd := hid2 (HDG.out.but hbut HG1.out HG2.out); clear hbut HAL HDG; have HAL := hid2 hal; have HDG := hd; clear hal hd)
    | ((with_reducible refine wpList_load_lit G 0 _ _ _ HDG.out (u8s A) (fun j _ => getElem?_zero_add _ j) _ Try.underlying39 (info_h8' hAl) ?_ ?_); exact ⟨rfl, rfl⟩)
    | ((with_reducible refine wpList_load_lit_g G 0 _ _ _ HDG.out (u8s A) (fun j _ => getElem?_zero_add _ j) _ Try.underlying39 (info_h8' hAl) ?_ ?_); exact ⟨⟨rfl, rfl⟩, _, _, rfl, rfl, rfl⟩)
    | (go_at_call 27; refine (CG.out HAL.out).mono ?_; rintro e w6 ⟨rfl, hal, hb⟩; have hd := hid2 (HDG.out.ext hb); clear hb HAL HDG; have HAL := hid2 hal; have HDG := hd; clear hal hd)
    | (go_at_call 34; refine (CL.out HAL.out).mono ?_; rintro e w7 ⟨p7, c7, rfl, hal, hb⟩; have hd := hid2 (HDG.out.ext hb); clear hb HAL HDG; have HAL := hid2 hal; have HDG := hd; clear hal hd)
    | (go_at_call 35; refine (CZ.out HAL.out).mono ?_; rintro e w8 ⟨rfl, rfl⟩)
    | (go_at_call 28; (first
        | (refine (CD1.out HAL.out).mono ?_; rintro e w9 ⟨rfl, hal, hbut⟩; have hd := hid2 (HDG.out.but hbut HG1.out HG2.out); clear hbut HAL HDG; have HAL := hid2 hal; have HDG := hd; clear hal hd)
        | (refine (CD2.out HAL.out).mono ?_; rintro e w9 ⟨rfl, hal, hbut⟩; have hd := hid2 (HDG.out.but hbut HG1.out HG2.out); clear hbut HAL HDG; have HAL := hid2 hal; have HDG := hd; clear hal hd))))

  go_ret
  exact ⟨rfl, HAL.out.low⟩
end Go.Proofs.Ytegkjmmknjhdiaa
