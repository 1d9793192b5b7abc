/- Check; BlobsNone's walk. -/
import Derived.Test.YtegkjmmknjhdiaaBlob13
import Derived.Test.YtegkjmmknjhdiaaBlob14
import Derived.Test.YtegkjmmknjhdiaaReg3
namespace Go.Proofs.Ytegkjmmknjhdiaa
open Go.RowKit Go.Maps Go.Sort Go.Lib
def TInv (w wr : World) (rows : List (Nat × List UInt8)) : Prop := Below w.heap.size w wr ∧ ∀ r ∈ rows, wr.heap[r.1]? = some (.cells (u8s r.2).toArray 39 (0, 0))
theorem TInv.row {w wr : World} {rows : List (Nat × List UInt8)} (h : TInv w wr rows) (g : Nat) (X : List UInt8) (hm : (g, X) ∈ rows) : wr.heap[g]? = some (.cells (u8s X).toArray 39 (0, 0)) := h.2 (g, X) hm
theorem TInv.ext {w wr w2 : World} {rows : List (Nat × List UInt8)} (h : TInv w wr rows) (hb : Below wr.heap.size wr w2) : TInv w w2 rows :=
  ⟨h.1.trans (hb.mono h.1.size), fun r hr => (hb.block _ (heap_lt (h.2 r hr))).trans (h.2 r hr)⟩
def V1 (s : ByteArray) (L : List Value) (j : Nat) (v : Value) (w : World) : Prop := match j with
  | 1 => ∃ g, v = .slice (some ⟨g, 0, none⟩) 1 1 ∧ Rd w 1 (some ⟨g, 0, none⟩) 1 [.string s]
  | _ => L[j]? = some v
theorem V1.keep {s : ByteArray} {L : List Value} {j : Nat} {v : Value} {w w' : World} (h : V1 s L j v w) (hb : Below w.heap.size w w') : V1 s L j v w' := by
  unfold V1 at h ⊢
  split at h
  · obtain ⟨g, h1, h2⟩ := h
    exact ⟨g, h1, h2.below_all hb⟩
  · exact h
def V6 (s : ByteArray) (L : List Value) (j : Nat) (v : Value) (w : World) : Prop := match j with
  | 6 => ∃ g, v = .slice (some ⟨g, 0, none⟩) 1 1 ∧ Rd w 1 (some ⟨g, 0, none⟩) 1 [.string s]
  | _ => L[j]? = some v
theorem V6.keep {s : ByteArray} {L : List Value} {j : Nat} {v : Value} {w w' : World} (h : V6 s L j v w) (hb : Below w.heap.size w w') : V6 s L j v w' := by
  unfold V6 at h ⊢
  split at h
  · obtain ⟨g, h1, h2⟩ := h
    exact ⟨g, h1, h2.below_all hb⟩
  · exact h
set_option maxRecDepth 100000 in
set_option maxHeartbeats 1000000 in
theorem check_any (w : World) (O : List UInt8) (hO : O.length = 32) (s : ByteArray) (hs : s.size ≤ 1000000000) :
    Calls Try.prog 37 #[.agg (u8s O).toArray, .string s] w fun e w' => e = .returned (.bool (Sha.sum s.data.toList == O)) ∧ Below w.heap.size w w' := by
  obtain ⟨X, hX⟩ : ∃ X, X = Sha.sum s.data.toList := ⟨_, rfl⟩
  have hXl : X.length = 32 := by rw [hX]; exact sum_len _
  have hsum := fun (W : World) (g : Nat) (hr : Rd W 1 (some ⟨g, 0, none⟩) 1 [.string s]) => sum_one W g s hs hr
  rw [← hX] at hsum ⊢
  have HSUM := hid2 hsum
  have heq := run_eq_dig X O hXl hO
  generalize (X == O) = bo at heq ⊢
  have hT : TInv w (w.alloc (.cells (u8s O).toArray 39)) [(w.heap.size, O)] := ⟨(Below.refl _ w).alloc (Nat.le_refl _) _, fun r hr => by
    obtain rfl := List.mem_singleton.1 hr
    exact heap_alloc_new w _⟩
  have HT := hid2 hT
  clear hX hsum hT
  go_enter Try.func37, Try.ntmps37
  go_wp2
  obtain ⟨W1, hW1⟩ : ∃ W1, W1 = w.alloc (.cells (u8s O).toArray 39) := ⟨_, rfl⟩
  rw [← hW1]
  have HT1 : Hid2 (TInv w W1 [(w.heap.size, O)]) := by rw [hW1]; exact HT
  clear hW1 HT
  refine wp_region_grd 5 (by kernel_rfl) (by kernel_rfl) (by kernel_rfl) _ rfl (by kernel_rfl) (V1 s [(.string s), undef, (.agg (u8s X).toArray), (.agg (u8s O).toArray), (.bool bo)]) (fun w4 => TInv w w4 [(w.heap.size, O)]) (fun a b => Below a.heap.size a b) (HT1.out.ext (below_drewN (Below.refl _ _) 1)) (fun _ _ _ _ hb hv => hv.keep hb) ?_ ?_
  · refine of_allOps ⟨?_, ?_, ?_, ?_, ?_, trivial⟩
    · intro T2 w2 hM hN hO hE K hK
      have o1 : T2[1]? = some (.string s) := hO 1 rfl
      clear hE hO hN
      refine step_plain0 rfl ?_
      go_simp
      exact hK _ _ rfl hM (Below.refl _ _)
    · intro T2 w2 hM hN hO hE K hK
      obtain ⟨v0, h0, e0⟩ := hE ⟨0, .data⟩ (by simp) rfl _ _ rfl rfl
      rw [show v0 = .string s from (Option.some.inj e0).symm] at h0
      clear hE hO hN
      refine step_plain0 rfl ?_
      go_simp
      exact hK _ _ ⟨_, rfl, Rd.one _ _ _⟩ (hM.ext ((Below.refl _ _).alloc (Nat.le_refl _) _)) ((Below.refl _ _).alloc (Nat.le_refl _) _)
    · intro T2 w2 hM hN hO hE K hK
      obtain ⟨v1, h1, ⟨gg, hg1, hg2⟩⟩ := hE ⟨1, .data⟩ (by simp) rfl _ _ rfl rfl
      clear hE hO hN
      refine step_plain0 rfl ?_
      obtain rfl := hg1
      go_simp
      refine (HSUM.out w2 gg hg2).mono ?_
      rintro e w3 ⟨rfl, hb⟩
      exact hK _ _ rfl (hM.ext hb) hb
    · intro T2 w2 hM hN hO hE K hK
      have o2 : T2[2]? = some (.pointer (some ⟨w.heap.size, 0, none⟩)) := hO 2 rfl
      clear hE hO hN
      refine step_plain0 rfl ?_
      refine wp_load_lit w.heap.size 0 _ _ _ (hM.row w.heap.size O (by simp)) (u8s O) (fun j _ => getElem?_zero_add _ j) _ Try.underlying39 (info_h8' hO) ⟨?_, rfl⟩ ?_
      · simp [Act.eval, o2]
      · exact hK _ _ rfl hM (Below.refl _ _)
    · intro T2 w2 hM hN hO hE K hK
      obtain ⟨v2, h2, e2⟩ := hE ⟨2, .data⟩ (by simp) rfl _ _ rfl rfl
      rw [show v2 = .agg (u8s X).toArray from (Option.some.inj e2).symm] at h2
      obtain ⟨v3, h3, e3⟩ := hE ⟨3, .data⟩ (by simp) rfl _ _ rfl rfl
      rw [show v3 = .agg (u8s O).toArray from (Option.some.inj e3).symm] at h3
      clear hE hO hN
      refine step_plain0 rfl ?_
      go_simp
      exact hK _ _ rfl hM (Below.refl _ _)
  · intro u w2 hM hF
    have e4 : u 4 = .bool bo := (Option.some.inj (hF 4 (by omega))).symm
    clear hF
    simp only [fillAll, Nat.reduceAdd, e4, List.take_succ_cons, List.take_zero, List.drop_succ_cons, List.drop_zero, List.setIfInBounds_toArray, List.set_cons_succ, List.set_cons_zero]
    go_wp2
    go_ret
    exact ⟨rfl, hM.1⟩
attribute [local go_sem high] run_eq_dig
set_option maxRecDepth 100000 in
set_option maxHeartbeats 1000000 in
theorem blobsNone_walk (w : World) (s : ByteArray) (O : List UInt8) (hO : O.length = 32) :
    Calls Try.prog 7 #[.string s, .agg (u8s O).toArray] w fun e w' => e = .returned (.bool true) ∧ Below w.heap.size w w' := by
  have CAL := hid2 (fun W => alive6_any sorts_dig W)
  have hT : TInv w (w.alloc (.cells (u8s O).toArray 39)) [(w.heap.size, O)] := ⟨(Below.refl _ w).alloc (Nat.le_refl _) _, fun r hr => by
    obtain rfl := List.mem_singleton.1 hr
    exact heap_alloc_new w _⟩
  have HT := hid2 hT
  clear hT
  by_cases hs : s.size ≤ 1000
  · have hgt : ((1000 : Int) < (s.size : Int)) = False := eq_false (by omega)
    have hgt' : decide ((1000 : Int) < (s.size : Int)) = false := decide_eq_false (by omega)
    obtain ⟨X, hX⟩ : ∃ X, X = Sha.sum s.data.toList := ⟨_, rfl⟩
    have hXl : X.length = 32 := by rw [hX]; exact sum_len _
    have hXX : (X == X) = true := by simp
    have cP : ∀ W : World, Calls Try.prog 30 #[.pointer none, .string s] W fun e w' => e = .returned (.agg (u8s X).toArray) ∧ Below W.heap.size W w' := fun W => by rw [hX]; exact put_nil W s (by omega)
    have cS : ∀ W : World, Calls Try.prog 31 #[.slice (some ⟨W.heap.size, 0, none⟩) 1 1] (W.alloc (.cells #[.string s] 9)) fun e w' => e = .returned (.agg (u8s X).toArray) ∧ Below W.heap.size W w' := fun W => by rw [hX]; exact sum_new W s (by omega)
    have CP := hid2 cP
    have CS := hid2 cS
    clear hX cP cS
    go_enter Try.func7, Try.ntmps7
    go_wp2_with (first
      | (go_at_call 21; refine (CAL.out _).mono ?_; rintro e w1 ⟨rfl, hb⟩; have h := hid2 (HT.out.ext hb); clear HT hb; have HT := h; clear h)
      | ((with_reducible refine wpList_load_lit w.heap.size 0 _ _ _ (HT.out.row w.heap.size O (by simp)) (u8s O) (fun j _ => getElem?_zero_add _ j) _ Try.underlying39 (info_h8' hO) ?_ ?_); exact ⟨rfl, rfl⟩)
      | ((with_reducible refine wpList_load_lit_g w.heap.size 0 _ _ _ (HT.out.row w.heap.size O (by simp)) (u8s O) (fun j _ => getElem?_zero_add _ j) _ Try.underlying39 (info_h8' hO) ?_ ?_); exact ⟨⟨rfl, rfl⟩, _, _, rfl, rfl, rfl⟩)
      | (go_at_call 27; refine (get_nil _ O hO).mono ?_; rintro e w2 ⟨rfl, hb⟩; have h := hid2 (HT.out.ext hb); clear HT hb; have HT := h; clear h)
      | (go_at_call 30; refine (CP.out _).mono ?_; rintro e w3 ⟨rfl, hb⟩; have h := hid2 (HT.out.ext hb); clear HT hb; have HT := h; clear h)
      | (go_at_call 31; refine (CS.out _).mono ?_; rintro e w4 ⟨rfl, hb⟩; have h := hid2 (HT.out.ext hb); clear HT hb; have HT := h; clear h)
      | (go_at_call 28; refine (drop_nil _ O hO).mono ?_; rintro e w5 ⟨rfl, hb⟩; have h := hid2 (HT.out.ext hb); clear HT hb; have HT := h; clear h)
      | (go_at_call 34; refine (all_nil _).mono ?_; rintro e w6 ⟨rfl, rfl⟩)
      | (go_at_call 35; refine (size_nil _).mono ?_; rintro e w7 ⟨rfl, rfl⟩))
    go_ret
    exact ⟨rfl, HT.out.1⟩
  · have hgt : ((1000 : Int) < (s.size : Int)) = True := eq_true (by omega)
    go_enter Try.func7, Try.ntmps7
    go_wp2_with (first
      | (go_at_call 21; refine (CAL.out _).mono ?_; rintro e w1 ⟨rfl, hb⟩; have h := hid2 (HT.out.ext hb); clear HT hb; have HT := h; clear h))
    go_ret
    exact ⟨rfl, HT.out.1⟩
end Go.Proofs.Ytegkjmmknjhdiaa
