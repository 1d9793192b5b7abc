/- BlobsChecks' walk. -/
import Derived.Test.YtegkjmmknjhdiaaBlob15
namespace Go.Proofs.Ytegkjmmknjhdiaa
open Go.RowKit Go.Maps Go.Sort Go.Lib
set_option maxRecDepth 100000 in
set_option maxHeartbeats 2000000 in
theorem blobsChecks_walk (w : World) (s : ByteArray) (O : List UInt8) (hO : O.length = 32) :
    Calls Try.prog 8 #[.string s, .agg (u8s O).toArray] w fun e w' => e = .returned (.bool true) ∧ Below w.heap.size w w' := by
  have CAL := hid2 (fun W => alive6_any sorts_dig W)
  have hT : TInv w (w.alloc (.cells (u8s O).toArray 39)) [(w.heap.size, O)] := ⟨(Below.refl _ w).alloc (Nat.le_refl _) _, fun r hr => by
    obtain rfl := List.mem_singleton.1 hr
    exact heap_alloc_new w _⟩
  have HT := hid2 hT
  clear hT
  by_cases hs : s.size ≤ 1000
  · have hgt : ((1000 : Int) < (s.size : Int)) = False := eq_false (by omega)
    obtain ⟨X, hX⟩ : ∃ X, X = Sha.sum s.data.toList := ⟨_, rfl⟩
    have hXl : X.length = 32 := by rw [hX]; exact sum_len _
    obtain ⟨bo, hbo⟩ : ∃ bo, bo = (O == X) := ⟨_, rfl⟩
    have hbo' : (X == O) = bo := by
      rw [hbo]
      by_cases h : X = O
      · subst h; rfl
      · rw [beq_eq_false_iff_ne.2 h, beq_eq_false_iff_ne.2 (Ne.symm h)]
    have eqOX : ∀ W, (binOp .eql 39 (.agg (u8s O).toArray) (.agg (u8s X).toArray)).run Try.prog W = .ok (.bool bo) W := fun W => by rw [hbo]; exact run_eq_dig O X hO hXl W
    have eqXX : ∀ W, (binOp .eql 39 (.agg (u8s X).toArray) (.agg (u8s X).toArray)).run Try.prog W = .ok (.bool true) W := fun W => (run_eq_dig X X hXl hXl W).trans (by rw [beq_self_eq_true])
    have hgX : getM [(X, s.data.toList)] X = some s.data.toList := get_one _ _
    have hgO : (getM [(X, s.data.toList)] O).isSome = bo := by
      rw [hbo]
      by_cases h : O = X
      · subst h; rw [hgX]; simp
      · have : getM [(X, s.data.toList)] O = none := by simp [getM, Ne.symm h]
        rw [this]; simpa using h
    obtain ⟨xo, hxo⟩ : ∃ xo, xo = strB ((getM [(X, s.data.toList)] O).getD []) := ⟨_, rfl⟩
    have cP : ∀ {W : World} {p b : Nat}, AlAt w p b 0 [] 0 W → Calls Try.prog 30 #[.pointer (some ⟨p, 0, none⟩), .string s] W fun e w' => e = .returned (.agg (u8s X).toArray) ∧ AlAt w p b 1 [(X, s.data.toList)] s.size w' ∧ But p b W w' := fun {W p b} h => by
      have := al_put h (by omega) (by omega) s (by omega) hX
      rw [show (getM ([] : Tab (List UInt8)) X).isSome = false from rfl, if_neg (by decide), if_neg (by decide), put_one, Int.zero_add] at this
      exact this
    have cG1 : ∀ {W : World} {p b : Nat} {z : Int}, AlAt w p b 1 [(X, s.data.toList)] z W → Calls Try.prog 27 #[.pointer (some ⟨p, 0, none⟩), .agg (u8s X).toArray] W fun e w' => e = .returned (.tuple #[.string s, .bool true]) ∧ AlAt w p b 1 [(X, s.data.toList)] z w' ∧ Below W.heap.size W w' := fun {W p b z} h => by
      have := al_get h hXl
      rw [hgX] at this
      exact this
    have cG2 : ∀ {W : World} {p b : Nat} {z : Int}, AlAt w p b 1 [(X, s.data.toList)] z W → Calls Try.prog 27 #[.pointer (some ⟨p, 0, none⟩), .agg (u8s O).toArray] W fun e w' => e = .returned (.tuple #[.string xo, .bool bo]) ∧ AlAt w p b 1 [(X, s.data.toList)] z w' ∧ Below W.heap.size W w' := fun {W p b z} h => by
      have := al_get h hO
      rw [hgO, ← hxo] at this
      exact this
    have hsum : ∀ (W : World) (g : Nat), Rd W 1 (some ⟨g, 0, none⟩) 1 [.string s] → Calls Try.prog 31 #[.slice (some ⟨g, 0, none⟩) 1 1] W fun e w' => e = .returned (.agg (u8s X).toArray) ∧ Below W.heap.size W w' := fun W g hr => by rw [hX]; exact sum_one W g s (by omega) hr
    have cX : ∀ W, Calls Try.prog 37 #[.agg (u8s X).toArray, .string s] W fun e w' => e = .returned (.bool true) ∧ Below W.heap.size W w' := fun W => by
      have := check_any W X hXl s (by omega)
      rw [← hX, show (X == X) = true by simp] at this
      exact this
    have cO : ∀ W, Calls Try.prog 37 #[.agg (u8s O).toArray, .string s] W fun e w' => e = .returned (.bool bo) ∧ Below W.heap.size W w' := fun W => by
      have := check_any W O hO s (by omega)
      rw [← hX, hbo'] at this
      exact this
    have CP := hid2 @cP; have CG1 := hid2 @cG1; have CG2 := hid2 @cG2; have HSUM := hid2 hsum; have CX := hid2 cX; have CO := hid2 cO
    clear hX hbo hbo' hgX hgO hxo cP cG1 cG2 hsum cX cO
    go_enter Try.func8, Try.ntmps8
    go_wp2_with (first
      | (go_at_call 21; refine (CAL.out _).mono ?_; rintro e w1 ⟨rfl, hb⟩; have h := hid2 (HT.out.ext hb); clear HT hb; have HT := h; clear h)
      | (go_at_call 24; refine (newblobs_any _).mono ?_; rintro e w2 ⟨rfl, hst, hb, hsz⟩
         have hsz1 := HT.out.1.size
         obtain ⟨p, hp⟩ : ∃ p, p = w1.heap.size + 1 := ⟨_, rfl⟩
         obtain ⟨b, hbb⟩ : ∃ b, b = w1.heap.size := ⟨_, rfl⟩
         rw [← hp, ← hbb] at hst
         rw [← hp]
         have HAL : Hid2 (AlAt w p b 0 [] 0 w2) := hid2 ⟨hst, HT.out.1.trans (hb.mono (by omega)), by omega, by omega⟩
         have h := hid2 (HT.out.ext hb)
         have HPG : Hid2 (w.heap.size ≠ p ∧ w.heap.size ≠ b) := hid2 (by have := heap_lt (HT.out.row w.heap.size O (by simp)); omega)
         clear HT hb hst hsz hsz1 hp hbb; have HT := h; clear h)
      | (go_at_call 30; refine (CP.out HAL.out).mono ?_; rintro e w3 ⟨rfl, hal, hbut⟩
         have h : Hid2 (TInv w w3 [(w.heap.size, O)]) := hid2 ⟨hal.low, fun r hr => by
           obtain rfl := List.mem_singleton.1 hr
           exact (hbut.block _ (heap_lt (HT.out.row w.heap.size O (by simp))) HPG.out.1 HPG.out.2).trans (HT.out.row w.heap.size O (by simp))⟩
         clear hbut HAL HT; have HT := h; have HAL := hid2 hal; clear hal h)
      | ((with_reducible refine wpList_store_fresh X hXl ?_ ?_); exact ⟨rfl, rfl⟩
         obtain ⟨G, hG⟩ : ∃ G, G = w3.heap.size := ⟨_, rfl⟩
         obtain ⟨W4, hW4⟩ : ∃ W4, W4 = w3.alloc (.cells (u8s X).toArray 39) := ⟨_, rfl⟩
         rw [← hW4, ← hG]
         have h4 : AlAt w p b 1 [(X, s.data.toList)] s.size W4 := by rw [hW4]; exact HAL.out.ext ((Below.refl _ _).alloc (Nat.le_refl _) _)
         have hT4 : TInv w W4 [(w.heap.size, O), (G, X)] := ⟨h4.low, fun r hr => by
           rw [hW4]
           rcases List.mem_cons.1 hr with rfl | hr
           · exact (Below.heap_alloc _ _ _ (heap_lt (HT.out.row w.heap.size O (by simp)))).trans (HT.out.row w.heap.size O (by simp))
           · obtain rfl := List.mem_singleton.1 hr
             rw [hG]
             exact heap_alloc_new w3 _⟩
         clear HAL HT hW4 hG
         have HAL := hid2 h4
         have HT := hid2 hT4
         have hGX : (G, X) ∈ [(w.heap.size, O), (G, X)] := by simp
         have hGO : (w.heap.size, O) ∈ [(w.heap.size, O), (G, X)] := by simp
         have HGX := hid2 hGX
         have HGO := hid2 hGO
         clear h4 hT4 hGX hGO)
      | ((with_reducible refine wpList_load_lit G 0 _ _ _ (HT.out.row G X HGX.out) (u8s X) (fun j _ => getElem?_zero_add _ j) _ Try.underlying39 (info_h8' hXl) ?_ ?_); exact ⟨rfl, rfl⟩)
      | ((with_reducible refine wpList_load_lit w.heap.size 0 _ _ _ (HT.out.row w.heap.size O HGO.out) (u8s O) (fun j _ => getElem?_zero_add _ j) _ Try.underlying39 (info_h8' hO) ?_ ?_); exact ⟨rfl, rfl⟩)
      | (go_at_call 27; (first
          | ((with_reducible refine (CG1.out HAL.out).mono ?_); rintro e w5 ⟨rfl, hal, hb⟩)
          | ((with_reducible refine (CG2.out HAL.out).mono ?_); rintro e w5 ⟨rfl, hal, hb⟩)); have h := hid2 (HT.out.ext hb); clear hb HAL HT; have HT := h; have HAL := hid2 hal; clear hal h))
    have HT1 := HT
    clear HT HAL
    refine wp_region_grd 34 (by kernel_rfl) (by kernel_rfl) (by kernel_rfl) _ rfl (by kernel_rfl) (V6 s [(.agg (u8s X).toArray), (.string s), (.bool true), (.bool true), (.agg (u8s X).toArray), (.string s), undef, (.agg (u8s X).toArray), (.bool true), (.bool true), (.bool true), (.bool true), (.bool true), (.bool true), (.string s), (.string s), (.bool true), (.bool true), (.bool true), (.bool bo), (.agg (u8s O).toArray), (.agg (u8s X).toArray), (.bool bo), (.bool true), (.bool true), (.bool true), (.agg (u8s O).toArray), (.string s), (.bool bo), (.agg (u8s O).toArray), (.agg (u8s X).toArray), (.bool bo), (.bool true), (.bool true)]) (fun w4 => TInv w w4 [(w.heap.size, O), (G, X)]) (fun a b => Below a.heap.size a b) (HT1.out.ext (below_drewN (Below.refl _ _) 1)) (fun _ _ _ _ hb hv => hv.keep hb) ?_ ?_
    · refine of_allOps ⟨?_, ?_, ?_, ?_, ?_, ?_, ?_, ?_, ?_, ?_, ?_, ?_, ?_, ?_, ?_, ?_, ?_, ?_, ?_, ?_, ?_, ?_, ?_, ?_, ?_, ?_, ?_, ?_, ?_, ?_, ?_, ?_, ?_, ?_, trivial⟩
      · intro T2 w2 hM hN hO hE K hK
        have o6 : T2[6]? = some (.pointer (some ⟨G, 0, none⟩)) := hO 6 rfl
        clear hE hO hN
        refine step_plain0 rfl ?_
        refine wp_load_lit G 0 _ _ _ (hM.row G X (by simp)) (u8s X) (fun j _ => getElem?_zero_add _ j) _ Try.underlying39 (info_h8' hXl) ⟨?_, rfl⟩ ?_
        · simp [Act.eval, o6]
        · exact hK _ _ rfl hM (Below.refl _ _)
      · intro T2 w2 hM hN hO hE K hK
        have o0 : T2[0]? = some (.string s) := hO 0 rfl
        clear hE hO hN
        refine step_plain0 rfl ?_
        go_simp
        exact hK _ _ rfl hM (Below.refl _ _)
      · intro T2 w2 hM hN hO hE K hK
        obtain ⟨v0, h0, e0⟩ := hE ⟨0, .data⟩ (by simp) rfl _ _ rfl rfl
        rw [show v0 = .agg (u8s X).toArray from (Option.some.inj e0).symm] at h0
        obtain ⟨v1, h1, e1⟩ := hE ⟨1, .data⟩ (by simp) rfl _ _ rfl rfl
        rw [show v1 = .string s from (Option.some.inj e1).symm] at h1
        clear hE hO hN
        refine step_plain0 rfl ?_
        go_simp
        refine (CX.out _).mono ?_
        rintro e w3 ⟨rfl, hb⟩
        exact hK _ _ rfl (hM.ext hb) hb
      · intro T2 w2 hM hN hO hE K hK
        obtain ⟨v2, h2, e2⟩ := hE ⟨2, .data⟩ (by simp) rfl _ _ rfl rfl
        rw [show v2 = .bool true from (Option.some.inj e2).symm] at h2
        clear hE hO hN
        refine step_plain0 rfl ?_
        go_simp
        exact hK _ _ rfl hM (Below.refl _ _)
      · intro T2 w2 hM hN hO hE K hK
        obtain ⟨v3, h3, e3⟩ := hE ⟨3, .guard⟩ (by simp) rfl _ _ rfl rfl
        rw [show v3 = .bool true from (Option.some.inj e3).symm] at h3
        have o6 : T2[6]? = some (.pointer (some ⟨G, 0, none⟩)) := hO 6 rfl
        clear hE hO hN
        refine grd_met rfl rfl rfl h3 ?_
        refine wp_load_lit G 0 _ _ _ (hM.row G X (by simp)) (u8s X) (fun j _ => getElem?_zero_add _ j) _ Try.underlying39 (info_h8' hXl) ⟨?_, rfl⟩ ?_
        · simp [Act.eval, o6]
        · exact hK _ _ rfl hM (Below.refl _ _)
      · intro T2 w2 hM hN hO hE K hK
        obtain ⟨v3, h3, e3⟩ := hE ⟨3, .guard⟩ (by simp) rfl _ _ rfl rfl
        rw [show v3 = .bool true from (Option.some.inj e3).symm] at h3
        have o0 : T2[0]? = some (.string s) := hO 0 rfl
        clear hE hO hN
        refine grd_met rfl rfl rfl h3 ?_
        go_simp
        exact hK _ _ rfl hM (Below.refl _ _)
      · intro T2 w2 hM hN hO hE K hK
        obtain ⟨v5, h5, e5⟩ := hE ⟨5, .data⟩ (by simp) rfl _ _ rfl rfl
        rw [show v5 = .string s from (Option.some.inj e5).symm] at h5
        obtain ⟨v3, h3, e3⟩ := hE ⟨3, .guard⟩ (by simp) rfl _ _ rfl rfl
        rw [show v3 = .bool true from (Option.some.inj e3).symm] at h3
        clear hE hO hN
        refine grd_met rfl rfl rfl h3 ?_
        go_simp
        exact hK _ _ ⟨_, rfl, Rd.one _ _ _⟩ (hM.ext ((Below.refl _ _).alloc (Nat.le_refl _) _)) ((Below.refl _ _).alloc (Nat.le_refl _) _)
      · intro T2 w2 hM hN hO hE K hK
        obtain ⟨v6, h6, ⟨gg, hg1, hg2⟩⟩ := hE ⟨6, .data⟩ (by simp) rfl _ _ rfl rfl
        obtain ⟨v3, h3, e3⟩ := hE ⟨3, .guard⟩ (by simp) rfl _ _ rfl rfl
        rw [show v3 = .bool true from (Option.some.inj e3).symm] at h3
        clear hE hO hN
        refine grd_met rfl rfl rfl h3 ?_
        obtain rfl := hg1
        go_simp
        refine (HSUM.out w2 gg hg2).mono ?_
        rintro e w3 ⟨rfl, hb⟩
        exact hK _ _ rfl (hM.ext hb) hb
      · intro T2 w2 hM hN hO hE K hK
        obtain ⟨v4, h4, e4⟩ := hE ⟨4, .data⟩ (by simp) rfl _ _ rfl rfl
        rw [show v4 = .agg (u8s X).toArray from (Option.some.inj e4).symm] at h4
        obtain ⟨v7, h7, e7⟩ := hE ⟨7, .data⟩ (by simp) rfl _ _ rfl rfl
        rw [show v7 = .agg (u8s X).toArray from (Option.some.inj e7).symm] at h7
        obtain ⟨v3, h3, e3⟩ := hE ⟨3, .guard⟩ (by simp) rfl _ _ rfl rfl
        rw [show v3 = .bool true from (Option.some.inj e3).symm] at h3
        clear hE hO hN
        refine grd_met rfl rfl rfl h3 ?_
        go_simp
        exact hK _ _ rfl hM (Below.refl _ _)
      · intro T2 w2 hM hN hO hE K hK
        obtain ⟨v3, h3, e3⟩ := hE ⟨3, .data⟩ (by simp) rfl _ _ rfl rfl
        rw [show v3 = .bool true from (Option.some.inj e3).symm] at h3
        obtain ⟨v8, h8, e8⟩ := hE ⟨8, .data⟩ (by simp) rfl _ _ rfl rfl
        rw [show v8 = .bool true from (Option.some.inj e8).symm] at h8
        clear hE hO hN
        refine step_plain0 rfl ?_
        go_simp
        exact hK _ _ rfl hM (Below.refl _ _)
      · intro T2 w2 hM hN hO hE K hK
        obtain ⟨v9, h9, e9⟩ := hE ⟨9, .data⟩ (by simp) rfl _ _ rfl rfl
        rw [show v9 = .bool true from (Option.some.inj e9).symm] at h9
        clear hE hO hN
        refine step_plain0 rfl ?_
        go_simp
        exact hK _ _ rfl hM (Below.refl _ _)
      · intro T2 w2 hM hN hO hE K hK
        obtain ⟨v10, h10, e10⟩ := hE ⟨10, .guard⟩ (by simp) rfl _ _ rfl rfl
        rw [show v10 = .bool true from (Option.some.inj e10).symm] at h10
        have o8 : T2[8]? = some (.bool true) := hO 8 rfl
        clear hE hO hN
        refine grd_met rfl rfl rfl h10 ?_
        go_simp
        exact hK _ _ rfl hM (Below.refl _ _)
      · intro T2 w2 hM hN hO hE K hK
        obtain ⟨v10, h10, e10⟩ := hE ⟨10, .data⟩ (by simp) rfl _ _ rfl rfl
        rw [show v10 = .bool true from (Option.some.inj e10).symm] at h10
        obtain ⟨v11, h11, e11⟩ := hE ⟨11, .data⟩ (by simp) rfl _ _ rfl rfl
        rw [show v11 = .bool true from (Option.some.inj e11).symm] at h11
        clear hE hO hN
        refine step_plain0 rfl ?_
        go_simp
        exact hK _ _ rfl hM (Below.refl _ _)
      · intro T2 w2 hM hN hO hE K hK
        obtain ⟨v12, h12, e12⟩ := hE ⟨12, .data⟩ (by simp) rfl _ _ rfl rfl
        rw [show v12 = .bool true from (Option.some.inj e12).symm] at h12
        clear hE hO hN
        refine step_plain0 rfl ?_
        go_simp
        exact hK _ _ rfl hM (Below.refl _ _)
      · intro T2 w2 hM hN hO hE K hK
        obtain ⟨v13, h13, e13⟩ := hE ⟨13, .guard⟩ (by simp) rfl _ _ rfl rfl
        rw [show v13 = .bool true from (Option.some.inj e13).symm] at h13
        have o7 : T2[7]? = some (.string s) := hO 7 rfl
        clear hE hO hN
        refine grd_met rfl rfl rfl h13 ?_
        go_simp
        exact hK _ _ rfl hM (Below.refl _ _)
      · intro T2 w2 hM hN hO hE K hK
        obtain ⟨v13, h13, e13⟩ := hE ⟨13, .guard⟩ (by simp) rfl _ _ rfl rfl
        rw [show v13 = .bool true from (Option.some.inj e13).symm] at h13
        have o0 : T2[0]? = some (.string s) := hO 0 rfl
        clear hE hO hN
        refine grd_met rfl rfl rfl h13 ?_
        go_simp
        exact hK _ _ rfl hM (Below.refl _ _)
      · intro T2 w2 hM hN hO hE K hK
        obtain ⟨v14, h14, e14⟩ := hE ⟨14, .data⟩ (by simp) rfl _ _ rfl rfl
        rw [show v14 = .string s from (Option.some.inj e14).symm] at h14
        obtain ⟨v15, h15, e15⟩ := hE ⟨15, .data⟩ (by simp) rfl _ _ rfl rfl
        rw [show v15 = .string s from (Option.some.inj e15).symm] at h15
        obtain ⟨v13, h13, e13⟩ := hE ⟨13, .guard⟩ (by simp) rfl _ _ rfl rfl
        rw [show v13 = .bool true from (Option.some.inj e13).symm] at h13
        clear hE hO hN
        refine grd_met rfl rfl rfl h13 ?_
        go_simp
        exact hK _ _ rfl hM (Below.refl _ _)
      · intro T2 w2 hM hN hO hE K hK
        obtain ⟨v13, h13, e13⟩ := hE ⟨13, .data⟩ (by simp) rfl _ _ rfl rfl
        rw [show v13 = .bool true from (Option.some.inj e13).symm] at h13
        obtain ⟨v16, h16, e16⟩ := hE ⟨16, .data⟩ (by simp) rfl _ _ rfl rfl
        rw [show v16 = .bool true from (Option.some.inj e16).symm] at h16
        clear hE hO hN
        refine step_plain0 rfl ?_
        go_simp
        exact hK _ _ rfl hM (Below.refl _ _)
      · intro T2 w2 hM hN hO hE K hK
        obtain ⟨v17, h17, e17⟩ := hE ⟨17, .data⟩ (by simp) rfl _ _ rfl rfl
        rw [show v17 = .bool true from (Option.some.inj e17).symm] at h17
        clear hE hO hN
        refine step_plain0 rfl ?_
        go_simp
        exact hK _ _ rfl hM (Below.refl _ _)
      · intro T2 w2 hM hN hO hE K hK
        obtain ⟨v18, h18, e18⟩ := hE ⟨18, .guard⟩ (by simp) rfl _ _ rfl rfl
        rw [show v18 = .bool true from (Option.some.inj e18).symm] at h18
        have o10 : T2[10]? = some (.bool bo) := hO 10 rfl
        clear hE hO hN
        refine grd_met rfl rfl rfl h18 ?_
        go_simp
        exact hK _ _ rfl hM (Below.refl _ _)
      · intro T2 w2 hM hN hO hE K hK
        obtain ⟨v18, h18, e18⟩ := hE ⟨18, .guard⟩ (by simp) rfl _ _ rfl rfl
        rw [show v18 = .bool true from (Option.some.inj e18).symm] at h18
        have o3 : T2[3]? = some (.pointer (some ⟨w.heap.size, 0, none⟩)) := hO 3 rfl
        clear hE hO hN
        refine grd_met rfl rfl rfl h18 ?_
        refine wp_load_lit w.heap.size 0 _ _ _ (hM.row w.heap.size O (by simp)) (u8s O) (fun j _ => getElem?_zero_add _ j) _ Try.underlying39 (info_h8' hO) ⟨?_, rfl⟩ ?_
        · simp [Act.eval, o3]
        · exact hK _ _ rfl hM (Below.refl _ _)
      · intro T2 w2 hM hN hO hE K hK
        obtain ⟨v18, h18, e18⟩ := hE ⟨18, .guard⟩ (by simp) rfl _ _ rfl rfl
        rw [show v18 = .bool true from (Option.some.inj e18).symm] at h18
        have o6 : T2[6]? = some (.pointer (some ⟨G, 0, none⟩)) := hO 6 rfl
        clear hE hO hN
        refine grd_met rfl rfl rfl h18 ?_
        refine wp_load_lit G 0 _ _ _ (hM.row G X (by simp)) (u8s X) (fun j _ => getElem?_zero_add _ j) _ Try.underlying39 (info_h8' hXl) ⟨?_, rfl⟩ ?_
        · simp [Act.eval, o6]
        · exact hK _ _ rfl hM (Below.refl _ _)
      · intro T2 w2 hM hN hO hE K hK
        obtain ⟨v20, h20, e20⟩ := hE ⟨20, .data⟩ (by simp) rfl _ _ rfl rfl
        rw [show v20 = .agg (u8s O).toArray from (Option.some.inj e20).symm] at h20
        obtain ⟨v21, h21, e21⟩ := hE ⟨21, .data⟩ (by simp) rfl _ _ rfl rfl
        rw [show v21 = .agg (u8s X).toArray from (Option.some.inj e21).symm] at h21
        obtain ⟨v18, h18, e18⟩ := hE ⟨18, .guard⟩ (by simp) rfl _ _ rfl rfl
        rw [show v18 = .bool true from (Option.some.inj e18).symm] at h18
        clear hE hO hN
        refine grd_met rfl rfl rfl h18 ?_
        go_simp
        exact hK _ _ rfl hM (Below.refl _ _)
      · intro T2 w2 hM hN hO hE K hK
        obtain ⟨v19, h19, e19⟩ := hE ⟨19, .data⟩ (by simp) rfl _ _ rfl rfl
        rw [show v19 = .bool bo from (Option.some.inj e19).symm] at h19
        obtain ⟨v22, h22, e22⟩ := hE ⟨22, .data⟩ (by simp) rfl _ _ rfl rfl
        rw [show v22 = .bool bo from (Option.some.inj e22).symm] at h22
        obtain ⟨v18, h18, e18⟩ := hE ⟨18, .guard⟩ (by simp) rfl _ _ rfl rfl
        rw [show v18 = .bool true from (Option.some.inj e18).symm] at h18
        clear hE hO hN
        refine grd_met rfl rfl rfl h18 ?_
        go_simp
        exact hK _ _ rfl hM (Below.refl _ _)
      · intro T2 w2 hM hN hO hE K hK
        obtain ⟨v18, h18, e18⟩ := hE ⟨18, .data⟩ (by simp) rfl _ _ rfl rfl
        rw [show v18 = .bool true from (Option.some.inj e18).symm] at h18
        obtain ⟨v23, h23, e23⟩ := hE ⟨23, .data⟩ (by simp) rfl _ _ rfl rfl
        rw [show v23 = .bool true from (Option.some.inj e23).symm] at h23
        clear hE hO hN
        refine step_plain0 rfl ?_
        go_simp
        exact hK _ _ rfl hM (Below.refl _ _)
      · intro T2 w2 hM hN hO hE K hK
        obtain ⟨v24, h24, e24⟩ := hE ⟨24, .data⟩ (by simp) rfl _ _ rfl rfl
        rw [show v24 = .bool true from (Option.some.inj e24).symm] at h24
        clear hE hO hN
        refine step_plain0 rfl ?_
        go_simp
        exact hK _ _ rfl hM (Below.refl _ _)
      · intro T2 w2 hM hN hO hE K hK
        obtain ⟨v25, h25, e25⟩ := hE ⟨25, .guard⟩ (by simp) rfl _ _ rfl rfl
        rw [show v25 = .bool true from (Option.some.inj e25).symm] at h25
        have o3 : T2[3]? = some (.pointer (some ⟨w.heap.size, 0, none⟩)) := hO 3 rfl
        clear hE hO hN
        refine grd_met rfl rfl rfl h25 ?_
        refine wp_load_lit w.heap.size 0 _ _ _ (hM.row w.heap.size O (by simp)) (u8s O) (fun j _ => getElem?_zero_add _ j) _ Try.underlying39 (info_h8' hO) ⟨?_, rfl⟩ ?_
        · simp [Act.eval, o3]
        · exact hK _ _ rfl hM (Below.refl _ _)
      · intro T2 w2 hM hN hO hE K hK
        obtain ⟨v25, h25, e25⟩ := hE ⟨25, .guard⟩ (by simp) rfl _ _ rfl rfl
        rw [show v25 = .bool true from (Option.some.inj e25).symm] at h25
        have o0 : T2[0]? = some (.string s) := hO 0 rfl
        clear hE hO hN
        refine grd_met rfl rfl rfl h25 ?_
        go_simp
        exact hK _ _ rfl hM (Below.refl _ _)
      · intro T2 w2 hM hN hO hE K hK
        obtain ⟨v26, h26, e26⟩ := hE ⟨26, .data⟩ (by simp) rfl _ _ rfl rfl
        rw [show v26 = .agg (u8s O).toArray from (Option.some.inj e26).symm] at h26
        obtain ⟨v27, h27, e27⟩ := hE ⟨27, .data⟩ (by simp) rfl _ _ rfl rfl
        rw [show v27 = .string s from (Option.some.inj e27).symm] at h27
        obtain ⟨v25, h25, e25⟩ := hE ⟨25, .guard⟩ (by simp) rfl _ _ rfl rfl
        rw [show v25 = .bool true from (Option.some.inj e25).symm] at h25
        clear hE hO hN
        refine grd_met rfl rfl rfl h25 ?_
        go_simp
        refine (CO.out _).mono ?_
        rintro e w3 ⟨rfl, hb⟩
        exact hK _ _ rfl (hM.ext hb) hb
      · intro T2 w2 hM hN hO hE K hK
        obtain ⟨v25, h25, e25⟩ := hE ⟨25, .guard⟩ (by simp) rfl _ _ rfl rfl
        rw [show v25 = .bool true from (Option.some.inj e25).symm] at h25
        have o3 : T2[3]? = some (.pointer (some ⟨w.heap.size, 0, none⟩)) := hO 3 rfl
        clear hE hO hN
        refine grd_met rfl rfl rfl h25 ?_
        refine wp_load_lit w.heap.size 0 _ _ _ (hM.row w.heap.size O (by simp)) (u8s O) (fun j _ => getElem?_zero_add _ j) _ Try.underlying39 (info_h8' hO) ⟨?_, rfl⟩ ?_
        · simp [Act.eval, o3]
        · exact hK _ _ rfl hM (Below.refl _ _)
      · intro T2 w2 hM hN hO hE K hK
        obtain ⟨v25, h25, e25⟩ := hE ⟨25, .guard⟩ (by simp) rfl _ _ rfl rfl
        rw [show v25 = .bool true from (Option.some.inj e25).symm] at h25
        have o6 : T2[6]? = some (.pointer (some ⟨G, 0, none⟩)) := hO 6 rfl
        clear hE hO hN
        refine grd_met rfl rfl rfl h25 ?_
        refine wp_load_lit G 0 _ _ _ (hM.row G X (by simp)) (u8s X) (fun j _ => getElem?_zero_add _ j) _ Try.underlying39 (info_h8' hXl) ⟨?_, rfl⟩ ?_
        · simp [Act.eval, o6]
        · exact hK _ _ rfl hM (Below.refl _ _)
      · intro T2 w2 hM hN hO hE K hK
        obtain ⟨v29, h29, e29⟩ := hE ⟨29, .data⟩ (by simp) rfl _ _ rfl rfl
        rw [show v29 = .agg (u8s O).toArray from (Option.some.inj e29).symm] at h29
        obtain ⟨v30, h30, e30⟩ := hE ⟨30, .data⟩ (by simp) rfl _ _ rfl rfl
        rw [show v30 = .agg (u8s X).toArray from (Option.some.inj e30).symm] at h30
        obtain ⟨v25, h25, e25⟩ := hE ⟨25, .guard⟩ (by simp) rfl _ _ rfl rfl
        rw [show v25 = .bool true from (Option.some.inj e25).symm] at h25
        clear hE hO hN
        refine grd_met rfl rfl rfl h25 ?_
        go_simp
        exact hK _ _ rfl hM (Below.refl _ _)
      · intro T2 w2 hM hN hO hE K hK
        obtain ⟨v28, h28, e28⟩ := hE ⟨28, .data⟩ (by simp) rfl _ _ rfl rfl
        rw [show v28 = .bool bo from (Option.some.inj e28).symm] at h28
        obtain ⟨v31, h31, e31⟩ := hE ⟨31, .data⟩ (by simp) rfl _ _ rfl rfl
        rw [show v31 = .bool bo from (Option.some.inj e31).symm] at h31
        obtain ⟨v25, h25, e25⟩ := hE ⟨25, .guard⟩ (by simp) rfl _ _ rfl rfl
        rw [show v25 = .bool true from (Option.some.inj e25).symm] at h25
        clear hE hO hN
        refine grd_met rfl rfl rfl h25 ?_
        go_simp
        exact hK _ _ rfl hM (Below.refl _ _)
      · intro T2 w2 hM hN hO hE K hK
        obtain ⟨v25, h25, e25⟩ := hE ⟨25, .data⟩ (by simp) rfl _ _ rfl rfl
        rw [show v25 = .bool true from (Option.some.inj e25).symm] at h25
        obtain ⟨v32, h32, e32⟩ := hE ⟨32, .data⟩ (by simp) rfl _ _ rfl rfl
        rw [show v32 = .bool true from (Option.some.inj e32).symm] at h32
        clear hE hO hN
        refine step_plain0 rfl ?_
        go_simp
        exact hK _ _ rfl hM (Below.refl _ _)
    · intro u w2 hM hF
      have e33 : u 33 = .bool true := (Option.some.inj (hF 33 (by omega))).symm
      clear hF
      simp only [fillAll, Nat.reduceAdd, e33, List.take_succ_cons, List.take_zero, List.drop_succ_cons, List.drop_zero, List.setIfInBounds_toArray, List.set_cons_succ, List.set_cons_zero]
      go_wp2
      go_ret
      exact ⟨rfl, hM.1⟩
  · have hgt : ((1000 : Int) < (s.size : Int)) = True := eq_true (by omega)
    go_enter Try.func8, Try.ntmps8
    go_wp2_with (first
      | (go_at_call 21; refine (CAL.out _).mono ?_; rintro e w1 ⟨rfl, hb⟩; have h := hid2 (HT.out.ext hb); clear HT hb; have HT := h; clear h))
    go_ret
    exact ⟨rfl, HT.out.1⟩
end Go.Proofs.Ytegkjmmknjhdiaa
