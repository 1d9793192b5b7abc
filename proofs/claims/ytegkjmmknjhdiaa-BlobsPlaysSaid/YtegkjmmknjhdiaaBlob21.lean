/- The walks of asked and clash. -/
import Derived.Test.YtegkjmmknjhdiaaBacts
namespace Go.Proofs.Ytegkjmmknjhdiaa
open Go.RowKit Go.Maps Go.Sort Go.Lib
/-- the digest that an act asks by -/
def askD (a : BActE) : List UInt8 := if a.is = true then a.other else Sha.sum a.data.data.toList
theorem askD_len {a : BActE} (h : a.other.length = 32) : (askD a).length = 32 := by
  unfold askD
  split
  · exact h
  · exact sum_len _
theorem bact_other {w : World} {b off : Nat} {a : BActE} (ha : a.other.length = 32) (hc : ∀ i v, (bactV a)[i]? = some v → w.cell? ⟨b, off + i, none⟩ = some v) :
    (loadVar 39 ⟨b, off + 3, none⟩).run Try.prog w = .ok (.agg (u8s a.other).toArray) w :=
  run_load_cells 39 b (off + 3) (u8s a.other) (fun j v hv => by rw [Nat.add_assoc]; exact hc _ _ (by rw [bactV, List.getElem?_append_right (by simp)]; simpa using hv)) _ Try.underlying39 rfl (info_h8' ha)
abbrev ActAt (W : World) (G : Nat) (a : BActE) : Prop := W.heap[G]? = some (.cells (bactV a).toArray 41 (0, 0))
theorem ActAt.cells {W : World} {G : Nat} {a : BActE} (h : ActAt W G a) : ∀ i v, (bactV a)[i]? = some v → W.cell? ⟨G, 0 + i, none⟩ = some v := fun i v hv => by
  rw [Nat.zero_add, cell_of_row W G i _ _ _ h]
  simpa using hv
theorem ActAt.ext {W W' : World} {G : Nat} {a : BActE} (h : ActAt W G a) (hb : Below W.heap.size W W') : ActAt W' G a := (hb.block _ (heap_lt h)).trans h
set_option maxRecDepth 100000 in
set_option maxHeartbeats 1000000 in
theorem asked_any (w : World) (a : BActE) (ha : a.other.length = 32) (hd : a.data.size ≤ 1000000000) :
    Calls Try.prog 25 #[.agg (bactV a).toArray] w fun e w' => e = .returned (.agg (u8s (askD a)).toArray) ∧ Below w.heap.size w w' := by
  obtain ⟨W0, hW0⟩ : ∃ W0, W0 = w.alloc (.cells (bactV a).toArray 41) := ⟨_, rfl⟩
  have hB0 : Below w.heap.size w W0 := by rw [hW0]; exact (Below.refl _ w).alloc (Nat.le_refl _) _
  have hat : ActAt W0 w.heap.size a := by rw [hW0]; exact heap_alloc_new w _
  obtain ⟨W1, hW1⟩ : ∃ W1, W1 = W0.alloc (.cells (u8s (List.replicate 32 0)).toArray 39) := ⟨_, rfl⟩
  have hR1 : ResAt W0 W1 := by rw [hW1]; exact ResAt.start W0
  have hs0 : W0.heap.size = w.heap.size + 1 := by rw [hW0]; simp
  have hrow1 : W1.heap[w.heap.size + 1]? = some (.cells (u8s (List.replicate 32 0)).toArray 39 (0, 0)) := by rw [← hs0]; exact hR1.row
  have hbW1 : Below w.heap.size w W1 := hB0.trans (hR1.below.mono hB0.size)
  have HROW1 := hid2 hrow1
  have HBW1 := hid2 hbW1
  clear hrow1 hbW1
  have hat1 : ActAt W1 w.heap.size a := by rw [hW1]; exact (Below.heap_alloc _ _ _ (heap_lt hat)).trans hat
  have hcs := hat1.cells
  have c1 : W1.cell? ⟨w.heap.size, 1, none⟩ = some (.string a.data) := hcs 1 _ rfl
  have c2 : W1.cell? ⟨w.heap.size, 2, none⟩ = some (.bool a.is) := hcs 2 _ rfl
  have hl3 : (loadVar 39 ⟨w.heap.size, 3, none⟩).run Try.prog W1 = .ok (.agg (u8s a.other).toArray) W1 := bact_other (off := 0) ha hcs
  have cS : Calls Try.prog 31 #[.slice (some ⟨W1.heap.size, 0, none⟩) 1 1] (W1.alloc (.cells #[.string a.data] 9)) fun e w' => e = .returned (.agg (u8s (Sha.sum a.data.data.toList)).toArray) ∧ Below W1.heap.size W1 w' := sum_new W1 a.data hd
  rw [zeros_lit] at hW1
  obtain ⟨k, s, is, o⟩ := a
  simp only at ha hd c1 c2 hl3 cS
  obtain ⟨X, hX⟩ : ∃ X, X = Sha.sum s.data.toList := ⟨_, rfl⟩
  have hXl : X.length = 32 := by rw [hX]; exact sum_len _
  rw [← hX] at cS
  have HW0 := hid2 hW0
  have HW1 := hid2 hW1
  have HB0 := hid2 hB0
  have HR1 := hid2 hR1
  have HL3 := hid2 hl3
  have HCS := hid2 cS
  have HX := hid2 hX
  clear hW0 hW1 hB0 hat hR1 hat1 hcs hl3 cS hX hs0
  cases is with
  | true =>
    have hask : askD ⟨k, s, true, o⟩ = o := rfl
    rw [hask]
    go_enter Try.func25, Try.ntmps25
    go_upto_region 1 with fail
    rw [← HW0.out, ← HW1.out]
    go_wp2_with (first
      | ((with_reducible refine wpList_load_run HL3.out ?_ ?_); exact rfl)
      | ((with_reducible refine wpList_store_lit (w.heap.size + 1) 0 (.agg (u8s o).toArray) (u8s o) (agg_cells _) _ _ HROW1.out (info_h8' ha) (fit_h ha) (u8s_one _) ?_ ?_); exact ⟨rfl, rfl⟩))
    exact bodyPost_ret (v := .agg (u8s o).toArray) (results_cell_row rfl _ _ _ 39 _ (0, 0) _ rfl (wrote_row HROW1.out _ ha) Try.underlying39 rfl (by rw [List.size_toArray]; exact info_h8' ha)) rfl ⟨rfl, below_setRow HBW1.out (by omega) _⟩
  | false =>
    have hask : askD ⟨k, s, false, o⟩ = X := HX.out.symm
    rw [hask]
    go_enter Try.func25, Try.ntmps25
    go_upto_region 1 with fail
    rw [← HW0.out, ← HW1.out]
    go_wp2_with (first
      | (go_at_call 31; refine HCS.out.mono ?_; rintro e w2 ⟨rfl, hb2⟩; have HROW2 := hid2 ((hb2.block _ (heap_lt HROW1.out)).trans HROW1.out); have HBW2 := hid2 (HBW1.out.trans (hb2.mono HBW1.out.size)); clear hb2)
      | ((with_reducible refine wpList_store_lit (w.heap.size + 1) 0 (.agg (u8s X).toArray) (u8s X) (agg_cells _) _ _ HROW2.out (info_h8' hXl) (fit_h hXl) (u8s_one _) ?_ ?_); exact ⟨rfl, rfl⟩))
    exact bodyPost_ret (v := .agg (u8s X).toArray) (results_cell_row rfl _ _ _ 39 _ (0, 0) _ rfl (wrote_row HROW2.out _ hXl) Try.underlying39 rfl (by rw [List.size_toArray]; exact info_h8' hXl)) rfl ⟨rfl, below_setRow HBW2.out (by omega) _⟩
def Vc (s1 s2 : ByteArray) (L : List Value) (j : Nat) (v : Value) (w : World) : Prop := match j with
  | 17 => ∃ g, v = .slice (some ⟨g, 0, none⟩) 1 1 ∧ Rd w 1 (some ⟨g, 0, none⟩) 1 [.string s1]
  | 24 => ∃ g, v = .slice (some ⟨g, 0, none⟩) 1 1 ∧ Rd w 1 (some ⟨g, 0, none⟩) 1 [.string s2]
  | _ => L[j]? = some v
theorem Vc.keep {s1 s2 : ByteArray} {L : List Value} {j : Nat} {v : Value} {w w' : World} (h : Vc s1 s2 L j v w) (hb : Below w.heap.size w w') : Vc s1 s2 L j v w' := by
  unfold Vc at h ⊢
  split at h
  · obtain ⟨g, h1, h2⟩ := h
    exact ⟨g, h1, h2.below_all hb⟩
  · obtain ⟨g, h1, h2⟩ := h
    exact ⟨g, h1, h2.below_all hb⟩
  · exact h
def ClPost (w : World) (e : Ending) (w' : World) : Prop := ∃ v : Bool, e = .returned (.bool v) ∧ Below w.heap.size w w'
set_option maxRecDepth 100000 in
set_option maxHeartbeats 4000000 in
theorem clash_any (w : World) (A : Option Addr) (c : Nat) (l : List BActE) (hr : Rd w 35 A l.length (bactsV l)) (hl : l.length ≤ 8796093022208) (hA : ∀ a ∈ l, a.other.length = 32) (hs : ∀ a ∈ l, a.data.size ≤ 1000000000) :
    Calls Try.prog 23 #[.slice A l.length c] w fun e w' => ClPost w e w' := by
  have HR := hid2 hr
  have HA := hid2 hA
  have HSZ := hid2 hs
  obtain ⟨N, hN⟩ : ∃ N, N = l.length := ⟨_, rfl⟩
  rw [← hN] at hl ⊢
  have HN := hid2 hN
  clear hr hA hN hs
  go_enter Try.func23, Try.ntmps23
  go_wp2_with fail
  go_loopg [3, 4] N (fun gk i jx wr => ∃ k : Nat, k + gk = N ∧ i = .int .i64 k ∧ Below w.heap.size w wr)
  case atStart => exact ⟨0, by omega, rfl, Below.refl _ _⟩
  case round =>
    obtain ⟨k, hk, rfl, hb⟩ := hrel
    have HB := hid2 hb
    clear hb
    by_cases hlt : k < N
    · have hlt' : (k : Int) < N := by omega
      have hk0 : (0 : Int) ≤ k := by omega
      obtain ⟨a1, ha1⟩ : ∃ a, l[k]? = some a := ⟨_, List.getElem?_eq_getElem (by rw [← HN.out]; exact hlt)⟩
      have HA1 := hid2 ha1
      clear ha1
      obtain ⟨g0, hg0⟩ : ∃ g0, g0 = gk := ⟨_, rfl⟩
      go_wp2_with fail
      go_loopg [4] k (fun gj j wr => ∃ q : Nat, q + gj = k ∧ j = .int .i64 q ∧ Below w.heap.size w wr)
      case atStart => exact ⟨0, by omega, rfl, HB.out⟩
      case round =>
        obtain ⟨q, hq, rfl, hb⟩ := hrel
        have HB2 := hid2 hb
        clear hb
        by_cases hqk : q < k
        · have hqk' : (q : Int) < k := by omega
          have hq0 : (0 : Int) ≤ q := by omega
          have hqN : (q : Int) < N := by omega
          obtain ⟨a2, ha2⟩ : ∃ a, l[q]? = some a := ⟨_, List.getElem?_eq_getElem (by rw [← HN.out]; omega)⟩
          obtain ⟨b, o, rfl, _⟩ := bact_cells HA.out HR.out HA1.out
          obtain ⟨s1, hs1⟩ : ∃ s, s = a1.data := ⟨_, rfl⟩
          obtain ⟨s2, hs2⟩ : ∃ s, s = a2.data := ⟨_, rfl⟩
          have hz1 : s1.size ≤ 1000000000 := by rw [hs1]; exact HSZ.out _ (List.mem_of_getElem? HA1.out)
          have hz2 : s2.size ≤ 1000000000 := by rw [hs2]; exact HSZ.out _ (List.mem_of_getElem? ha2)
          have hc1 : ∀ W, Below w.heap.size w W → W.cell? ⟨b, o + k * 35 + 1, none⟩ = some (.string s1) := fun W hW => by
            obtain ⟨b', o', e, hc⟩ := bact_cells HA.out (HR.out.below_all hW) HA1.out
            cases e
            rw [hs1]
            exact hc 1 _ rfl
          have hc2 : ∀ W, Below w.heap.size w W → W.cell? ⟨b, o + q * 35 + 1, none⟩ = some (.string s2) := fun W hW => by
            obtain ⟨b', o', e, hc⟩ := bact_cells HA.out (HR.out.below_all hW) ha2
            cases e
            rw [hs2]
            exact hc 1 _ rfl
          have HC1 := hid2 hc1
          have HC2 := hid2 hc2
          clear hs1 hs2 hc1 hc2 ha2
          by_cases hne : s1 = s2
          · subst hne
            have hse : (s1.toList == s1.toList) = true := by simp
            go_wp2_with fail
            refine wp_region_grd 28 (by kernel_rfl) (by kernel_rfl) (by kernel_rfl) _ rfl (by kernel_rfl) (fun j v _ => ([(.slice (some ⟨b, o, none⟩) N c), (.int .i64 k), (.pointer (some ⟨b, o + k * 35, none⟩)), (.pointer (some ⟨b, o + k * 35 + 1, none⟩)), (.string s1), (.slice (some ⟨b, o, none⟩) N c), (.int .i64 q), (.pointer (some ⟨b, o + q * 35, none⟩)), (.pointer (some ⟨b, o + q * 35 + 1, none⟩)), (.string s1), (.bool false), (.bool false), (undef), (undef), (undef), (undef), (undef), (undef), (undef), (undef), (undef), (undef), (undef), (undef), (undef), (undef), (undef), (.bool false)] : List Value)[j]? = some v) (fun w4 => Below w.heap.size w w4) (fun a b => Below a.heap.size a b) (HB2.out.drew) (fun _ _ _ _ hb hv => hv) ?_ ?_
            · refine of_allOps ⟨?_, ?_, ?_, ?_, ?_, ?_, ?_, ?_, ?_, ?_, ?_, ?_, ?_, ?_, ?_, ?_, ?_, ?_, ?_, ?_, ?_, ?_, ?_, ?_, ?_, ?_, ?_, ?_, trivial⟩
              · intro T2 w2 hM hN hO hE K hK
                have o0 : T2[0]? = some (.slice (some ⟨b, o, none⟩) N c) := hO 0 rfl
                clear hE hO hN
                refine step_plain0 rfl ?_
                go_simp
                exact hK _ _ rfl hM (Below.refl _ _)
              · intro T2 w2 hM hN hO hE K hK
                have o3 : T2[3]? = some (.int .i64 k) := hO 3 rfl
                clear hE hO hN
                refine step_plain0 rfl ?_
                go_simp
                exact hK _ _ rfl hM (Below.refl _ _)
              · intro T2 w2 hM hN hO hE K hK
                obtain ⟨v0, h0, e0⟩ := hE ⟨0, .data⟩ (by simp) rfl _ _ rfl rfl
                rw [show v0 = .slice (some ⟨b, o, none⟩) N c from (Option.some.inj e0).symm] at h0
                obtain ⟨v1, h1, e1⟩ := hE ⟨1, .data⟩ (by simp) rfl _ _ rfl rfl
                rw [show v1 = .int .i64 k from (Option.some.inj e1).symm] at h1
                clear hE hO hN
                refine step_plain0 rfl ?_
                go_simp
                exact hK _ _ rfl hM (Below.refl _ _)
              · intro T2 w2 hM hN hO hE K hK
                obtain ⟨v2, h2, e2⟩ := hE ⟨2, .data⟩ (by simp) rfl _ _ rfl rfl
                rw [show v2 = .pointer (some ⟨b, o + k * 35, none⟩) from (Option.some.inj e2).symm] at h2
                clear hE hO hN
                refine step_plain0 rfl ?_
                go_simp
                exact hK _ _ rfl hM (Below.refl _ _)
              · intro T2 w2 hM hN hO hE K hK
                obtain ⟨v3, h3, e3⟩ := hE ⟨3, .data⟩ (by simp) rfl _ _ rfl rfl
                rw [show v3 = .pointer (some ⟨b, o + k * 35 + 1, none⟩) from (Option.some.inj e3).symm] at h3
                clear hE hO hN
                refine step_plain0 rfl ?_
                have cc := HC1.out w2 hM
                go_simp
                exact hK _ _ rfl hM (Below.refl _ _)
              · intro T2 w2 hM hN hO hE K hK
                have o0 : T2[0]? = some (.slice (some ⟨b, o, none⟩) N c) := hO 0 rfl
                clear hE hO hN
                refine step_plain0 rfl ?_
                go_simp
                exact hK _ _ rfl hM (Below.refl _ _)
              · intro T2 w2 hM hN hO hE K hK
                have o4 : T2[4]? = some (.int .i64 q) := hO 4 rfl
                clear hE hO hN
                refine step_plain0 rfl ?_
                go_simp
                exact hK _ _ rfl hM (Below.refl _ _)
              · intro T2 w2 hM hN hO hE K hK
                obtain ⟨v5, h5, e5⟩ := hE ⟨5, .data⟩ (by simp) rfl _ _ rfl rfl
                rw [show v5 = .slice (some ⟨b, o, none⟩) N c from (Option.some.inj e5).symm] at h5
                obtain ⟨v6, h6, e6⟩ := hE ⟨6, .data⟩ (by simp) rfl _ _ rfl rfl
                rw [show v6 = .int .i64 q from (Option.some.inj e6).symm] at h6
                clear hE hO hN
                refine step_plain0 rfl ?_
                go_simp
                exact hK _ _ rfl hM (Below.refl _ _)
              · intro T2 w2 hM hN hO hE K hK
                obtain ⟨v7, h7, e7⟩ := hE ⟨7, .data⟩ (by simp) rfl _ _ rfl rfl
                rw [show v7 = .pointer (some ⟨b, o + q * 35, none⟩) from (Option.some.inj e7).symm] at h7
                clear hE hO hN
                refine step_plain0 rfl ?_
                go_simp
                exact hK _ _ rfl hM (Below.refl _ _)
              · intro T2 w2 hM hN hO hE K hK
                obtain ⟨v8, h8, e8⟩ := hE ⟨8, .data⟩ (by simp) rfl _ _ rfl rfl
                rw [show v8 = .pointer (some ⟨b, o + q * 35 + 1, none⟩) from (Option.some.inj e8).symm] at h8
                clear hE hO hN
                refine step_plain0 rfl ?_
                have cc := HC2.out w2 hM
                go_simp
                exact hK _ _ rfl hM (Below.refl _ _)
              · intro T2 w2 hM hN hO hE K hK
                obtain ⟨v4, h4, e4⟩ := hE ⟨4, .data⟩ (by simp) rfl _ _ rfl rfl
                rw [show v4 = .string s1 from (Option.some.inj e4).symm] at h4
                obtain ⟨v9, h9, e9⟩ := hE ⟨9, .data⟩ (by simp) rfl _ _ rfl rfl
                rw [show v9 = .string s1 from (Option.some.inj e9).symm] at h9
                clear hE hO hN
                refine step_plain0 rfl ?_
                go_simp
                exact hK _ _ rfl hM (Below.refl _ _)
              · intro T2 w2 hM hN hO hE K hK
                obtain ⟨v10, h10, e10⟩ := hE ⟨10, .data⟩ (by simp) rfl _ _ rfl rfl
                rw [show v10 = .bool false from (Option.some.inj e10).symm] at h10
                clear hE hO hN
                refine step_plain0 rfl ?_
                go_simp
                exact hK _ _ rfl hM (Below.refl _ _)
              · intro T2 w2 hM hN hO hE K hK
                obtain ⟨v11, h11, e11⟩ := hE ⟨11, .guard⟩ (by simp) rfl _ _ rfl rfl
                rw [show v11 = .bool false from (Option.some.inj e11).symm] at h11
                clear hE hO hN
                refine grd_not rfl rfl rfl h11 (by decide) ?_
                exact hK _ _ rfl hM (Below.refl _ _)
              · intro T2 w2 hM hN hO hE K hK
                obtain ⟨v11, h11, e11⟩ := hE ⟨11, .guard⟩ (by simp) rfl _ _ rfl rfl
                rw [show v11 = .bool false from (Option.some.inj e11).symm] at h11
                clear hE hO hN
                refine grd_not rfl rfl rfl h11 (by decide) ?_
                exact hK _ _ rfl hM (Below.refl _ _)
              · intro T2 w2 hM hN hO hE K hK
                obtain ⟨v11, h11, e11⟩ := hE ⟨11, .guard⟩ (by simp) rfl _ _ rfl rfl
                rw [show v11 = .bool false from (Option.some.inj e11).symm] at h11
                clear hE hO hN
                refine grd_not rfl rfl rfl h11 (by decide) ?_
                exact hK _ _ rfl hM (Below.refl _ _)
              · intro T2 w2 hM hN hO hE K hK
                obtain ⟨v11, h11, e11⟩ := hE ⟨11, .guard⟩ (by simp) rfl _ _ rfl rfl
                rw [show v11 = .bool false from (Option.some.inj e11).symm] at h11
                clear hE hO hN
                refine grd_not rfl rfl rfl h11 (by decide) ?_
                exact hK _ _ rfl hM (Below.refl _ _)
              · intro T2 w2 hM hN hO hE K hK
                obtain ⟨v11, h11, e11⟩ := hE ⟨11, .guard⟩ (by simp) rfl _ _ rfl rfl
                rw [show v11 = .bool false from (Option.some.inj e11).symm] at h11
                clear hE hO hN
                refine grd_not rfl rfl rfl h11 (by decide) ?_
                exact hK _ _ rfl hM (Below.refl _ _)
              · intro T2 w2 hM hN hO hE K hK
                obtain ⟨v11, h11, e11⟩ := hE ⟨11, .guard⟩ (by simp) rfl _ _ rfl rfl
                rw [show v11 = .bool false from (Option.some.inj e11).symm] at h11
                clear hE hO hN
                refine grd_not rfl rfl rfl h11 (by decide) ?_
                exact hK _ _ rfl hM (Below.refl _ _)
              · intro T2 w2 hM hN hO hE K hK
                obtain ⟨v11, h11, e11⟩ := hE ⟨11, .guard⟩ (by simp) rfl _ _ rfl rfl
                rw [show v11 = .bool false from (Option.some.inj e11).symm] at h11
                clear hE hO hN
                refine grd_not rfl rfl rfl h11 (by decide) ?_
                exact hK _ _ rfl hM (Below.refl _ _)
              · intro T2 w2 hM hN hO hE K hK
                obtain ⟨v11, h11, e11⟩ := hE ⟨11, .guard⟩ (by simp) rfl _ _ rfl rfl
                rw [show v11 = .bool false from (Option.some.inj e11).symm] at h11
                clear hE hO hN
                refine grd_not rfl rfl rfl h11 (by decide) ?_
                exact hK _ _ rfl hM (Below.refl _ _)
              · intro T2 w2 hM hN hO hE K hK
                obtain ⟨v11, h11, e11⟩ := hE ⟨11, .guard⟩ (by simp) rfl _ _ rfl rfl
                rw [show v11 = .bool false from (Option.some.inj e11).symm] at h11
                clear hE hO hN
                refine grd_not rfl rfl rfl h11 (by decide) ?_
                exact hK _ _ rfl hM (Below.refl _ _)
              · intro T2 w2 hM hN hO hE K hK
                obtain ⟨v11, h11, e11⟩ := hE ⟨11, .guard⟩ (by simp) rfl _ _ rfl rfl
                rw [show v11 = .bool false from (Option.some.inj e11).symm] at h11
                clear hE hO hN
                refine grd_not rfl rfl rfl h11 (by decide) ?_
                exact hK _ _ rfl hM (Below.refl _ _)
              · intro T2 w2 hM hN hO hE K hK
                obtain ⟨v11, h11, e11⟩ := hE ⟨11, .guard⟩ (by simp) rfl _ _ rfl rfl
                rw [show v11 = .bool false from (Option.some.inj e11).symm] at h11
                clear hE hO hN
                refine grd_not rfl rfl rfl h11 (by decide) ?_
                exact hK _ _ rfl hM (Below.refl _ _)
              · intro T2 w2 hM hN hO hE K hK
                obtain ⟨v11, h11, e11⟩ := hE ⟨11, .guard⟩ (by simp) rfl _ _ rfl rfl
                rw [show v11 = .bool false from (Option.some.inj e11).symm] at h11
                clear hE hO hN
                refine grd_not rfl rfl rfl h11 (by decide) ?_
                exact hK _ _ rfl hM (Below.refl _ _)
              · intro T2 w2 hM hN hO hE K hK
                obtain ⟨v11, h11, e11⟩ := hE ⟨11, .guard⟩ (by simp) rfl _ _ rfl rfl
                rw [show v11 = .bool false from (Option.some.inj e11).symm] at h11
                clear hE hO hN
                refine grd_not rfl rfl rfl h11 (by decide) ?_
                exact hK _ _ rfl hM (Below.refl _ _)
              · intro T2 w2 hM hN hO hE K hK
                obtain ⟨v11, h11, e11⟩ := hE ⟨11, .guard⟩ (by simp) rfl _ _ rfl rfl
                rw [show v11 = .bool false from (Option.some.inj e11).symm] at h11
                clear hE hO hN
                refine grd_not rfl rfl rfl h11 (by decide) ?_
                exact hK _ _ rfl hM (Below.refl _ _)
              · intro T2 w2 hM hN hO hE K hK
                obtain ⟨v11, h11, e11⟩ := hE ⟨11, .guard⟩ (by simp) rfl _ _ rfl rfl
                rw [show v11 = .bool false from (Option.some.inj e11).symm] at h11
                clear hE hO hN
                refine grd_not rfl rfl rfl h11 (by decide) ?_
                exact hK _ _ rfl hM (Below.refl _ _)
              · intro T2 w2 hM hN hO hE K hK
                obtain ⟨v11, h11, e11⟩ := hE ⟨11, .data⟩ (by simp) rfl _ _ rfl rfl
                rw [show v11 = .bool false from (Option.some.inj e11).symm] at h11
                clear hE hO hN
                refine step_plain0 rfl ?_
                go_simp
                exact hK _ _ rfl hM (Below.refl _ _)
            · intro u w2 hM hF
              have e27 : u 27 = .bool false := (Option.some.inj (hF 27 (by omega))).symm
              clear hF
              simp only [fillAll, Nat.reduceAdd, e27, List.take_succ_cons, List.take_zero, List.drop_succ_cons, List.drop_zero, List.setIfInBounds_toArray, List.set_cons_succ, List.set_cons_zero]
              go_wp2_with fail
              go_roundg (gk - 1)
              case rel => exact ⟨q + 1, by omega, by go_num, hM⟩
              case measure => omega
          · have hse : (s1.toList == s2.toList) = false := by rw [ByteArray.toList_eq, ByteArray.toList_eq]; exact beq_eq_false_iff_ne.2 (fun h => hne (bytes_ext h))
            obtain ⟨X1, hX1⟩ : ∃ X, X = Sha.sum s1.data.toList := ⟨_, rfl⟩
            obtain ⟨X2, hX2⟩ : ∃ X, X = Sha.sum s2.data.toList := ⟨_, rfl⟩
            have heq := run_eq_dig X1 X2 (by rw [hX1]; exact sum_len _) (by rw [hX2]; exact sum_len _)
            generalize (X1 == X2) = bo at heq
            have cS1 : ∀ (W : World) (g : Nat), Rd W 1 (some ⟨g, 0, none⟩) 1 [.string s1] → Calls Try.prog 31 #[.slice (some ⟨g, 0, none⟩) 1 1] W fun e w' => e = .returned (.agg (u8s X1).toArray) ∧ Below W.heap.size W w' := fun W g hr => by rw [hX1]; exact sum_one W g s1 hz1 hr
            have cS2 : ∀ (W : World) (g : Nat), Rd W 1 (some ⟨g, 0, none⟩) 1 [.string s2] → Calls Try.prog 31 #[.slice (some ⟨g, 0, none⟩) 1 1] W fun e w' => e = .returned (.agg (u8s X2).toArray) ∧ Below W.heap.size W w' := fun W g hr => by rw [hX2]; exact sum_one W g s2 hz2 hr
            have HS1 := hid2 cS1
            have HS2 := hid2 cS2
            clear hX1 hX2 cS1 cS2 hne
            go_wp2_with fail
            refine wp_region_grd 28 (by kernel_rfl) (by kernel_rfl) (by kernel_rfl) _ rfl (by kernel_rfl) (Vc s1 s2 [(.slice (some ⟨b, o, none⟩) N c), (.int .i64 k), (.pointer (some ⟨b, o + k * 35, none⟩)), (.pointer (some ⟨b, o + k * 35 + 1, none⟩)), (.string s1), (.slice (some ⟨b, o, none⟩) N c), (.int .i64 q), (.pointer (some ⟨b, o + q * 35, none⟩)), (.pointer (some ⟨b, o + q * 35 + 1, none⟩)), (.string s2), (.bool true), (.bool true), (.slice (some ⟨b, o, none⟩) N c), (.int .i64 k), (.pointer (some ⟨b, o + k * 35, none⟩)), (.pointer (some ⟨b, o + k * 35 + 1, none⟩)), (.string s1), undef, (.agg (u8s X1).toArray), (.slice (some ⟨b, o, none⟩) N c), (.int .i64 q), (.pointer (some ⟨b, o + q * 35, none⟩)), (.pointer (some ⟨b, o + q * 35 + 1, none⟩)), (.string s2), undef, (.agg (u8s X2).toArray), (.bool bo), (.bool bo)]) (fun w4 => Below w.heap.size w w4) (fun a b => Below a.heap.size a b) (HB2.out.drew) (fun _ _ _ _ hb hv => hv.keep hb) ?_ ?_
            · refine of_allOps ⟨?_, ?_, ?_, ?_, ?_, ?_, ?_, ?_, ?_, ?_, ?_, ?_, ?_, ?_, ?_, ?_, ?_, ?_, ?_, ?_, ?_, ?_, ?_, ?_, ?_, ?_, ?_, ?_, trivial⟩
              · intro T2 w2 hM hN hO hE K hK
                have o0 : T2[0]? = some (.slice (some ⟨b, o, none⟩) N c) := hO 0 rfl
                clear hE hO hN
                refine step_plain0 rfl ?_
                go_simp
                exact hK _ _ rfl hM (Below.refl _ _)
              · intro T2 w2 hM hN hO hE K hK
                have o3 : T2[3]? = some (.int .i64 k) := hO 3 rfl
                clear hE hO hN
                refine step_plain0 rfl ?_
                go_simp
                exact hK _ _ rfl hM (Below.refl _ _)
              · intro T2 w2 hM hN hO hE K hK
                obtain ⟨v0, h0, e0⟩ := hE ⟨0, .data⟩ (by simp) rfl _ _ rfl rfl
                rw [show v0 = .slice (some ⟨b, o, none⟩) N c from (Option.some.inj e0).symm] at h0
                obtain ⟨v1, h1, e1⟩ := hE ⟨1, .data⟩ (by simp) rfl _ _ rfl rfl
                rw [show v1 = .int .i64 k from (Option.some.inj e1).symm] at h1
                clear hE hO hN
                refine step_plain0 rfl ?_
                go_simp
                exact hK _ _ rfl hM (Below.refl _ _)
              · intro T2 w2 hM hN hO hE K hK
                obtain ⟨v2, h2, e2⟩ := hE ⟨2, .data⟩ (by simp) rfl _ _ rfl rfl
                rw [show v2 = .pointer (some ⟨b, o + k * 35, none⟩) from (Option.some.inj e2).symm] at h2
                clear hE hO hN
                refine step_plain0 rfl ?_
                go_simp
                exact hK _ _ rfl hM (Below.refl _ _)
              · intro T2 w2 hM hN hO hE K hK
                obtain ⟨v3, h3, e3⟩ := hE ⟨3, .data⟩ (by simp) rfl _ _ rfl rfl
                rw [show v3 = .pointer (some ⟨b, o + k * 35 + 1, none⟩) from (Option.some.inj e3).symm] at h3
                clear hE hO hN
                refine step_plain0 rfl ?_
                have cc := HC1.out w2 hM
                go_simp
                exact hK _ _ rfl hM (Below.refl _ _)
              · intro T2 w2 hM hN hO hE K hK
                have o0 : T2[0]? = some (.slice (some ⟨b, o, none⟩) N c) := hO 0 rfl
                clear hE hO hN
                refine step_plain0 rfl ?_
                go_simp
                exact hK _ _ rfl hM (Below.refl _ _)
              · intro T2 w2 hM hN hO hE K hK
                have o4 : T2[4]? = some (.int .i64 q) := hO 4 rfl
                clear hE hO hN
                refine step_plain0 rfl ?_
                go_simp
                exact hK _ _ rfl hM (Below.refl _ _)
              · intro T2 w2 hM hN hO hE K hK
                obtain ⟨v5, h5, e5⟩ := hE ⟨5, .data⟩ (by simp) rfl _ _ rfl rfl
                rw [show v5 = .slice (some ⟨b, o, none⟩) N c from (Option.some.inj e5).symm] at h5
                obtain ⟨v6, h6, e6⟩ := hE ⟨6, .data⟩ (by simp) rfl _ _ rfl rfl
                rw [show v6 = .int .i64 q from (Option.some.inj e6).symm] at h6
                clear hE hO hN
                refine step_plain0 rfl ?_
                go_simp
                exact hK _ _ rfl hM (Below.refl _ _)
              · intro T2 w2 hM hN hO hE K hK
                obtain ⟨v7, h7, e7⟩ := hE ⟨7, .data⟩ (by simp) rfl _ _ rfl rfl
                rw [show v7 = .pointer (some ⟨b, o + q * 35, none⟩) from (Option.some.inj e7).symm] at h7
                clear hE hO hN
                refine step_plain0 rfl ?_
                go_simp
                exact hK _ _ rfl hM (Below.refl _ _)
              · intro T2 w2 hM hN hO hE K hK
                obtain ⟨v8, h8, e8⟩ := hE ⟨8, .data⟩ (by simp) rfl _ _ rfl rfl
                rw [show v8 = .pointer (some ⟨b, o + q * 35 + 1, none⟩) from (Option.some.inj e8).symm] at h8
                clear hE hO hN
                refine step_plain0 rfl ?_
                have cc := HC2.out w2 hM
                go_simp
                exact hK _ _ rfl hM (Below.refl _ _)
              · intro T2 w2 hM hN hO hE K hK
                obtain ⟨v4, h4, e4⟩ := hE ⟨4, .data⟩ (by simp) rfl _ _ rfl rfl
                rw [show v4 = .string s1 from (Option.some.inj e4).symm] at h4
                obtain ⟨v9, h9, e9⟩ := hE ⟨9, .data⟩ (by simp) rfl _ _ rfl rfl
                rw [show v9 = .string s2 from (Option.some.inj e9).symm] at h9
                clear hE hO hN
                refine step_plain0 rfl ?_
                go_simp
                exact hK _ _ rfl hM (Below.refl _ _)
              · intro T2 w2 hM hN hO hE K hK
                obtain ⟨v10, h10, e10⟩ := hE ⟨10, .data⟩ (by simp) rfl _ _ rfl rfl
                rw [show v10 = .bool true from (Option.some.inj e10).symm] at h10
                clear hE hO hN
                refine step_plain0 rfl ?_
                go_simp
                exact hK _ _ rfl hM (Below.refl _ _)
              · intro T2 w2 hM hN hO hE K hK
                obtain ⟨v11, h11, e11⟩ := hE ⟨11, .guard⟩ (by simp) rfl _ _ rfl rfl
                rw [show v11 = .bool true from (Option.some.inj e11).symm] at h11
                have o0 : T2[0]? = some (.slice (some ⟨b, o, none⟩) N c) := hO 0 rfl
                clear hE hO hN
                refine grd_met rfl rfl rfl h11 ?_
                go_simp
                exact hK _ _ rfl hM (Below.refl _ _)
              · intro T2 w2 hM hN hO hE K hK
                obtain ⟨v11, h11, e11⟩ := hE ⟨11, .guard⟩ (by simp) rfl _ _ rfl rfl
                rw [show v11 = .bool true from (Option.some.inj e11).symm] at h11
                have o3 : T2[3]? = some (.int .i64 k) := hO 3 rfl
                clear hE hO hN
                refine grd_met rfl rfl rfl h11 ?_
                go_simp
                exact hK _ _ rfl hM (Below.refl _ _)
              · intro T2 w2 hM hN hO hE K hK
                obtain ⟨v12, h12, e12⟩ := hE ⟨12, .data⟩ (by simp) rfl _ _ rfl rfl
                rw [show v12 = .slice (some ⟨b, o, none⟩) N c from (Option.some.inj e12).symm] at h12
                obtain ⟨v13, h13, e13⟩ := hE ⟨13, .data⟩ (by simp) rfl _ _ rfl rfl
                rw [show v13 = .int .i64 k from (Option.some.inj e13).symm] at h13
                obtain ⟨v11, h11, e11⟩ := hE ⟨11, .guard⟩ (by simp) rfl _ _ rfl rfl
                rw [show v11 = .bool true from (Option.some.inj e11).symm] at h11
                clear hE hO hN
                refine grd_met rfl rfl rfl h11 ?_
                go_simp
                exact hK _ _ rfl hM (Below.refl _ _)
              · intro T2 w2 hM hN hO hE K hK
                obtain ⟨v14, h14, e14⟩ := hE ⟨14, .data⟩ (by simp) rfl _ _ rfl rfl
                rw [show v14 = .pointer (some ⟨b, o + k * 35, none⟩) from (Option.some.inj e14).symm] at h14
                obtain ⟨v11, h11, e11⟩ := hE ⟨11, .guard⟩ (by simp) rfl _ _ rfl rfl
                rw [show v11 = .bool true from (Option.some.inj e11).symm] at h11
                clear hE hO hN
                refine grd_met rfl rfl rfl h11 ?_
                go_simp
                exact hK _ _ rfl hM (Below.refl _ _)
              · intro T2 w2 hM hN hO hE K hK
                obtain ⟨v15, h15, e15⟩ := hE ⟨15, .data⟩ (by simp) rfl _ _ rfl rfl
                rw [show v15 = .pointer (some ⟨b, o + k * 35 + 1, none⟩) from (Option.some.inj e15).symm] at h15
                obtain ⟨v11, h11, e11⟩ := hE ⟨11, .guard⟩ (by simp) rfl _ _ rfl rfl
                rw [show v11 = .bool true from (Option.some.inj e11).symm] at h11
                clear hE hO hN
                refine grd_met rfl rfl rfl h11 ?_
                have cc := HC1.out w2 hM
                go_simp
                exact hK _ _ rfl hM (Below.refl _ _)
              · intro T2 w2 hM hN hO hE K hK
                obtain ⟨v16, h16, e16⟩ := hE ⟨16, .data⟩ (by simp) rfl _ _ rfl rfl
                rw [show v16 = .string s1 from (Option.some.inj e16).symm] at h16
                obtain ⟨v11, h11, e11⟩ := hE ⟨11, .guard⟩ (by simp) rfl _ _ rfl rfl
                rw [show v11 = .bool true from (Option.some.inj e11).symm] at h11
                clear hE hO hN
                refine grd_met rfl rfl rfl h11 ?_
                go_simp
                exact hK _ _ ⟨_, rfl, Rd.one _ _ _⟩ (hM.alloc hM.size _) ((Below.refl _ _).alloc (Nat.le_refl _) _)
              · intro T2 w2 hM hN hO hE K hK
                obtain ⟨v17, h17, ⟨gg, hg1, hg2⟩⟩ := hE ⟨17, .data⟩ (by simp) rfl _ _ rfl rfl
                obtain ⟨v11, h11, e11⟩ := hE ⟨11, .guard⟩ (by simp) rfl _ _ rfl rfl
                rw [show v11 = .bool true from (Option.some.inj e11).symm] at h11
                clear hE hO hN
                refine grd_met rfl rfl rfl h11 ?_
                obtain rfl := hg1
                go_simp
                refine (HS1.out w2 gg hg2).mono ?_
                rintro e w3 ⟨rfl, hb⟩
                exact hK _ _ rfl (hM.trans (hb.mono hM.size)) hb
              · intro T2 w2 hM hN hO hE K hK
                obtain ⟨v11, h11, e11⟩ := hE ⟨11, .guard⟩ (by simp) rfl _ _ rfl rfl
                rw [show v11 = .bool true from (Option.some.inj e11).symm] at h11
                have o0 : T2[0]? = some (.slice (some ⟨b, o, none⟩) N c) := hO 0 rfl
                clear hE hO hN
                refine grd_met rfl rfl rfl h11 ?_
                go_simp
                exact hK _ _ rfl hM (Below.refl _ _)
              · intro T2 w2 hM hN hO hE K hK
                obtain ⟨v11, h11, e11⟩ := hE ⟨11, .guard⟩ (by simp) rfl _ _ rfl rfl
                rw [show v11 = .bool true from (Option.some.inj e11).symm] at h11
                have o4 : T2[4]? = some (.int .i64 q) := hO 4 rfl
                clear hE hO hN
                refine grd_met rfl rfl rfl h11 ?_
                go_simp
                exact hK _ _ rfl hM (Below.refl _ _)
              · intro T2 w2 hM hN hO hE K hK
                obtain ⟨v19, h19, e19⟩ := hE ⟨19, .data⟩ (by simp) rfl _ _ rfl rfl
                rw [show v19 = .slice (some ⟨b, o, none⟩) N c from (Option.some.inj e19).symm] at h19
                obtain ⟨v20, h20, e20⟩ := hE ⟨20, .data⟩ (by simp) rfl _ _ rfl rfl
                rw [show v20 = .int .i64 q from (Option.some.inj e20).symm] at h20
                obtain ⟨v11, h11, e11⟩ := hE ⟨11, .guard⟩ (by simp) rfl _ _ rfl rfl
                rw [show v11 = .bool true from (Option.some.inj e11).symm] at h11
                clear hE hO hN
                refine grd_met rfl rfl rfl h11 ?_
                go_simp
                exact hK _ _ rfl hM (Below.refl _ _)
              · intro T2 w2 hM hN hO hE K hK
                obtain ⟨v21, h21, e21⟩ := hE ⟨21, .data⟩ (by simp) rfl _ _ rfl rfl
                rw [show v21 = .pointer (some ⟨b, o + q * 35, none⟩) from (Option.some.inj e21).symm] at h21
                obtain ⟨v11, h11, e11⟩ := hE ⟨11, .guard⟩ (by simp) rfl _ _ rfl rfl
                rw [show v11 = .bool true from (Option.some.inj e11).symm] at h11
                clear hE hO hN
                refine grd_met rfl rfl rfl h11 ?_
                go_simp
                exact hK _ _ rfl hM (Below.refl _ _)
              · intro T2 w2 hM hN hO hE K hK
                obtain ⟨v22, h22, e22⟩ := hE ⟨22, .data⟩ (by simp) rfl _ _ rfl rfl
                rw [show v22 = .pointer (some ⟨b, o + q * 35 + 1, none⟩) from (Option.some.inj e22).symm] at h22
                obtain ⟨v11, h11, e11⟩ := hE ⟨11, .guard⟩ (by simp) rfl _ _ rfl rfl
                rw [show v11 = .bool true from (Option.some.inj e11).symm] at h11
                clear hE hO hN
                refine grd_met rfl rfl rfl h11 ?_
                have cc := HC2.out w2 hM
                go_simp
                exact hK _ _ rfl hM (Below.refl _ _)
              · intro T2 w2 hM hN hO hE K hK
                obtain ⟨v23, h23, e23⟩ := hE ⟨23, .data⟩ (by simp) rfl _ _ rfl rfl
                rw [show v23 = .string s2 from (Option.some.inj e23).symm] at h23
                obtain ⟨v11, h11, e11⟩ := hE ⟨11, .guard⟩ (by simp) rfl _ _ rfl rfl
                rw [show v11 = .bool true from (Option.some.inj e11).symm] at h11
                clear hE hO hN
                refine grd_met rfl rfl rfl h11 ?_
                go_simp
                exact hK _ _ ⟨_, rfl, Rd.one _ _ _⟩ (hM.alloc hM.size _) ((Below.refl _ _).alloc (Nat.le_refl _) _)
              · intro T2 w2 hM hN hO hE K hK
                obtain ⟨v24, h24, ⟨gg, hg1, hg2⟩⟩ := hE ⟨24, .data⟩ (by simp) rfl _ _ rfl rfl
                obtain ⟨v11, h11, e11⟩ := hE ⟨11, .guard⟩ (by simp) rfl _ _ rfl rfl
                rw [show v11 = .bool true from (Option.some.inj e11).symm] at h11
                clear hE hO hN
                refine grd_met rfl rfl rfl h11 ?_
                obtain rfl := hg1
                go_simp
                refine (HS2.out w2 gg hg2).mono ?_
                rintro e w3 ⟨rfl, hb⟩
                exact hK _ _ rfl (hM.trans (hb.mono hM.size)) hb
              · intro T2 w2 hM hN hO hE K hK
                obtain ⟨v18, h18, e18⟩ := hE ⟨18, .data⟩ (by simp) rfl _ _ rfl rfl
                rw [show v18 = .agg (u8s X1).toArray from (Option.some.inj e18).symm] at h18
                obtain ⟨v25, h25, e25⟩ := hE ⟨25, .data⟩ (by simp) rfl _ _ rfl rfl
                rw [show v25 = .agg (u8s X2).toArray from (Option.some.inj e25).symm] at h25
                obtain ⟨v11, h11, e11⟩ := hE ⟨11, .guard⟩ (by simp) rfl _ _ rfl rfl
                rw [show v11 = .bool true from (Option.some.inj e11).symm] at h11
                clear hE hO hN
                refine grd_met rfl rfl rfl h11 ?_
                go_simp
                exact hK _ _ rfl hM (Below.refl _ _)
              · intro T2 w2 hM hN hO hE K hK
                obtain ⟨v11, h11, e11⟩ := hE ⟨11, .data⟩ (by simp) rfl _ _ rfl rfl
                rw [show v11 = .bool true from (Option.some.inj e11).symm] at h11
                obtain ⟨v26, h26, e26⟩ := hE ⟨26, .data⟩ (by simp) rfl _ _ rfl rfl
                rw [show v26 = .bool bo from (Option.some.inj e26).symm] at h26
                clear hE hO hN
                refine step_plain0 rfl ?_
                go_simp
                exact hK _ _ rfl hM (Below.refl _ _)
            · intro u w2 hM hF
              have e27 : u 27 = .bool bo := (Option.some.inj (hF 27 (by omega))).symm
              clear hF
              simp only [fillAll, Nat.reduceAdd, e27, List.take_succ_cons, List.take_zero, List.drop_succ_cons, List.drop_zero, List.setIfInBounds_toArray, List.set_cons_succ, List.set_cons_zero]
              cases bo with
              | true =>
                go_wp2_with fail
                go_ret
                exact ⟨true, rfl, hM⟩
              | false =>
                go_wp2_with fail
                go_roundg (gk - 1)
                case rel => exact ⟨q + 1, by omega, by go_num, hM⟩
                case measure => omega
        · have hqe : q = k := by omega
          have hqk' : ¬ (q : Int) < k := by omega
          clear hqe hqk
          go_wp2_with fail
          go_roundg (g0 - 1)
          case rel => exact ⟨k + 1, by omega, by go_num, HB2.out⟩
          case measure => omega
    · have hlt' : ¬ (k : Int) < N := by omega
      clear hlt
      go_wp2_with fail
      go_ret
      exact ⟨false, rfl, HB.out⟩
end Go.Proofs.Ytegkjmmknjhdiaa
