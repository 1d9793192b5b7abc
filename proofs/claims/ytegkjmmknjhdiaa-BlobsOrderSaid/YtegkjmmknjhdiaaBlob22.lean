/- The walk of same: a store keeps just what the reference's row has. -/
import Derived.Test.YtegkjmmknjhdiaaBacts
namespace Go.Proofs.Ytegkjmmknjhdiaa
open Go.RowKit Go.Maps Go.Sort Go.Lib
theorem getM_rises : ∀ {M : BTab} (_ : Rises M) {i : Nat} {x : List UInt8 × List UInt8}, M[i]? = some x → getM M x.1 = some x.2
  | [], _, i, x, h => by simp at h
  | y :: r, hr, 0, x, h => by
    obtain rfl := Option.some.inj (show some y = some x by simpa using h)
    simp [getM]
  | y :: r, hr, i + 1, x, h => by
    have h' : r[i]? = some x := by simpa using h
    have hlt := (List.pairwise_cons.1 hr).1 x (List.mem_of_getElem? h')
    have ih := getM_rises (M := r) (List.pairwise_cons.1 hr).2 h'
    have hne : (y.1 == x.1) = false := beq_eq_false_iff_ne.2 (fun e => by
      rw [bytesBefore_lt, e] at hlt
      exact List.lt_irrefl _ hlt)
    unfold getM at ih ⊢
    rw [List.find?_cons, hne]
    exact ih
theorem keysV_get : ∀ {M : BTab} (_ : KeysOk M) (k : Nat) (x : List UInt8 × List UInt8) (i : Nat) (v : Value), M[k]? = some x → (u8s x.1)[i]? = some v → (keysV M)[k * 32 + i]? = some v
  | [], _, k, x, i, v, h, _ => by simp at h
  | y :: r, hk, k, x, i, v, h, hv => by
    have hy : (u8s y.1).length = 32 := by rw [u8s_length]; exact hk y (List.mem_cons_self ..)
    have hx : (u8s x.1).length = 32 := by rw [u8s_length]; exact hk x (List.mem_of_getElem? h)
    have hi : i < 32 := by
      have := (List.getElem?_eq_some_iff.1 hv).1
      omega
    have e : keysV (y :: r) = u8s y.1 ++ keysV r := by simp [keysV]
    rw [e]
    cases k with
    | zero =>
      obtain rfl := Option.some.inj (show some y = some x by simpa using h)
      rw [Nat.zero_mul, Nat.zero_add, List.getElem?_append_left (by omega)]
      exact hv
    | succ k =>
      have := keysV_get (M := r) (fun z hz => hk z (List.mem_cons_of_mem _ hz)) k x i v (by simpa using h) hv
      rw [List.getElem?_append_right (by omega)]
      rw [show (k + 1) * 32 + i - (u8s y.1).length = k * 32 + i by omega]
      exact this
theorem key_load {w : World} {B : Option Addr} {M : BTab} (hk : KeysOk M) (hr : Rd w 32 B M.length (keysV M)) {k : Nat} {x : List UInt8 × List UInt8} (h : M[k]? = some x) :
    ∃ b o, B = some ⟨b, o, none⟩ ∧ (loadVar 39 ⟨b, o + k * 32, none⟩).run Try.prog w = .ok (.agg (u8s x.1).toArray) w := by
  have hl : k < M.length := (List.getElem?_eq_some_iff.1 h).1
  obtain ⟨b, o, rfl, hc⟩ := hr.2 (by omega)
  exact ⟨b, o, rfl, run_load_cells 39 b (o + k * 32) (u8s x.1) (fun j v hv => by rw [Nat.add_assoc]; exact hc _ _ (keysV_get hk k x j v h hv)) _ Try.underlying39 rfl (info_h8' (hk.at_ h))⟩
set_option maxRecDepth 100000 in
set_option maxHeartbeats 2000000 in
theorem same_any (w : World) (p b n : Nat) (M : BTab) (hst : StoreIs w p b n M (sizeM M)) (hn : n ≤ 1000000) (hk : KeysOk M) (A : Option Addr) (c : Nat) (hr : Rd w 33 A M.length (blobsV M)) (hz : sizeM M ≤ 1000000000) :
    Calls Try.prog 33 #[.pointer (some ⟨p, 0, none⟩), .slice A M.length c] w fun e w' => e = .returned (.bool true) ∧ Below w.heap.size w w' := by
  have hml := hst.map.length_le
  have hri := hst.map.rises keyed_dig
  have cA := all_any sorts_dig w p b n M _ hst (by omega)
  have cZ : ∀ W, Below w.heap.size w W → Calls Try.prog 35 #[.pointer (some ⟨p, 0, none⟩)] W fun e w' => e = .returned (.int .i64 (sizeM M)) ∧ w' = W := fun W hW => size_any W p b n M _ (hst.below hW hst.lt.1 hst.lt.2)
  have cR : ∀ W, Below w.heap.size w W → Calls Try.prog 55 #[.slice A M.length c] W fun e w' => e = .returned (.int .i64 (sizeM M)) ∧ Below W.heap.size W w' := fun W hW => refsize_any W A c M hk (hr.below_all hW) (by omega) hz
  have cG : ∀ W, Below w.heap.size w W → ∀ (i : Nat) (x : List UInt8 × List UInt8), M[i]? = some x → Calls Try.prog 27 #[.pointer (some ⟨p, 0, none⟩), .agg (u8s x.1).toArray] W fun e w' => e = .returned (.tuple #[.string (strB x.2), .bool true]) ∧ Below W.heap.size W w' := fun W hW i x hx => by
    have := get_any W p b n M _ (hst.below hW hst.lt.1 hst.lt.2) x.1 (hk.at_ hx)
    rw [getM_rises hri hx] at this
    exact this
  obtain ⟨N, hN⟩ : ∃ N, N = M.length := ⟨_, rfl⟩
  obtain ⟨z, hzz⟩ : ∃ z, z = sizeM M := ⟨_, rfl⟩
  rw [← hN] at cA cR hml ⊢
  rw [← hzz] at cZ cR
  have HR := hid2 hr
  have HK := hid2 hk
  have HN := hid2 hN
  have HCA := hid2 cA
  have HCZ := hid2 cZ
  have HCR := hid2 cR
  have HCG := hid2 cG
  have hNB : N ≤ 1000000 := by omega
  clear hst hri hr hk hN hzz cA cZ cR cG hz hml hn
  go_enter Try.func33, Try.ntmps33
  go_wp2_with (first
    | (go_at_call 34; refine HCA.out.mono ?_; rintro e w1 ⟨B, c1, rfl, ho, hb⟩; have HO := hid2 ho; have HB := hid2 hb; clear ho hb)
    | (go_at_call 35; refine (HCZ.out _ HB.out).mono ?_; rintro e w2 ⟨rfl, rfl⟩)
    | (go_at_call 55; refine (HCR.out _ HB.out).mono ?_; rintro e w3 ⟨rfl, hb3⟩; have HB3 := hid2 hb3; clear hb3))
  go_loopg [6, 7, 8] N (fun gk i x7 x8 wr => ∃ k : Nat, k + gk = N ∧ i = .int .i64 k ∧ Below w.heap.size w wr ∧ Rd wr 32 B N (keysV M))
  case atStart => exact ⟨0, by omega, rfl, HB.out.trans (HB3.out.mono HB.out.size), HO.out.rd.below_all HB3.out⟩
  case round =>
    obtain ⟨k, hk, rfl, hb, hrd⟩ := hrel
    have HBE := hid2 hb
    have HRD := hid2 hrd
    clear hb hrd
    by_cases hlt : k < N
    · have hlt' : (k : Int) < N := by omega
      have hk0 : (0 : Int) ≤ k := by omega
      obtain ⟨x, hx⟩ : ∃ x, M[k]? = some x := ⟨_, List.getElem?_eq_getElem (by rw [← HN.out]; exact hlt)⟩
      have hx32 := HK.out.at_ hx
      obtain ⟨rb, ro, rfl, _⟩ := blob_cells HK.out HR.out hx
      obtain ⟨kb, ko, rfl, _⟩ := key_load HK.out (by rw [← HN.out]; exact HRD.out) hx
      have hcell : ∀ W, Below w.heap.size w W → ∀ i v, (blobV x)[i]? = some v → W.cell? ⟨rb, ro + k * 33 + i, none⟩ = some v := fun W hW => by
        obtain ⟨b', o', e, hc⟩ := blob_cells HK.out (HR.out.below_all hW) hx
        cases e
        exact hc
      have hkey : ∀ W, Rd W 32 (some ⟨kb, ko, none⟩) N (keysV M) → (loadVar 39 ⟨kb, ko + k * 32, none⟩).run Try.prog W = .ok (.agg (u8s x.1).toArray) W := fun W hW => by
        obtain ⟨b', o', e, hc⟩ := key_load HK.out (by rw [← HN.out]; exact hW) hx
        cases e
        exact hc
      have cG := fun W hW => HCG.out W hW k x hx
      obtain ⟨X, hX⟩ : ∃ X, X = x.1 := ⟨_, rfl⟩
      obtain ⟨S, hS⟩ : ∃ S, S = strB x.2 := ⟨_, rfl⟩
      have hl1 : ∀ W, Below w.heap.size w W → (loadVar 39 ⟨rb, ro + k * 33, none⟩).run Try.prog W = .ok (.agg (u8s X).toArray) W := fun W hW => by rw [hX]; exact blob_dig hx32 (hcell W hW)
      have hd1 : ∀ W, Below w.heap.size w W → W.cell? ⟨rb, ro + k * 33 + 32, none⟩ = some (.string S) := fun W hW => by rw [hS]; exact blob_data hx32 (hcell W hW)
      rw [← hX] at hkey cG hx32
      rw [← hS] at cG
      have heq : ∀ W, (binOp .neq 39 (.agg (u8s X).toArray) (.agg (u8s X).toArray)).run Try.prog W = .ok (.bool false) W := fun W => (run_neq_dig X X hx32 hx32 W).trans (by rw [beq_self_eq_true]; rfl)
      have hse : (S.toList == S.toList) = true := by simp
      have HL1 := hid2 hl1
      have HD1 := hid2 hd1
      have HKEY := hid2 hkey
      have HG := hid2 cG
      clear hx hcell hkey cG hX hS hl1 hd1 hlt
      go_wp2_with (first
        | ((with_reducible refine wpList_load_run (HL1.out _ HBE.out) ?_ ?_); exact rfl)
        | (go_at_call 27; refine (HG.out _ HBE.out).mono ?_; rintro e w5 ⟨rfl, hb5⟩
           have h1 : Below w.heap.size w w5 := HBE.out.trans (hb5.mono HBE.out.size)
           have h2 := HRD.out.below_all hb5
           have HB5 := hid2 h1
           have HRD5 := hid2 h2
           clear h1 h2 hb5))
      have c3 : w5.cell? ⟨rb, ro + k * 33 + 32, none⟩ = some (.string S) := HD1.out w5 HB5.out
      have HLK := hid2 (fun m => HKEY.out (w5.drewN m) HRD5.out)
      have HLB := hid2 (fun m => HL1.out (w5.drewN m) (below_drewN HB5.out m))
      refine wp_region_quiet_lit (by kernel_rfl) (by kernel_rfl) ?_
      repeat (first | go_big_quiet_step (fail) | (((refine wpQuiet_agg (p := ⟨kb, ko + k * 32, none⟩) rfl (by rintro _ ⟨m, rfl⟩; exact HLK.out m) ?_); simp only [Act.put, List.setIfInBounds_toArray, List.set_cons_succ, List.set_cons_zero])) | (((refine wpQuiet_agg (p := ⟨rb, ro + k * 33, none⟩) rfl (by rintro _ ⟨m, rfl⟩; exact HLB.out m) ?_); simp only [Act.put, List.setIfInBounds_toArray, List.set_cons_succ, List.set_cons_zero])))
      refine wpQuiet_nil ?_
      rintro _ ⟨nq, rfl⟩
      go_wp2_with fail
      go_roundg (gk - 1)
      case rel => exact ⟨k + 1, by omega, by go_num, below_drewN HB5.out nq, HRD5.out⟩
      case measure => omega
    · have hlt' : ¬ (k : Int) < N := by omega
      clear hlt
      go_wp2_with fail
      go_ret
      exact ⟨rfl, HBE.out⟩
end Go.Proofs.Ytegkjmmknjhdiaa
