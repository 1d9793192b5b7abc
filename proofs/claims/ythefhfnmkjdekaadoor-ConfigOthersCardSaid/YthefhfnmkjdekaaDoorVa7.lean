/- Values: the walk of value.may: truth and maps. -/
import Derived.Test.YthefhfnmkjdekaaDoorVa6
namespace Go.Proofs.YthefhfnmkjdekaaDoor
open Go.RowKit
set_option maxRecDepth 100000
set_option maxHeartbeats 800000 in
theorem may_k1 (W : World) (gl deep : Nat) (L nn : Int) (S : ByteArray) (AL AK : Option Addr) (n nk cL cK : Nat) (G K : Prop) (hK : K ↔ ((nn = 0 ∨ nn = 1) ∧ S.toList = [] ∧ n = 0 ∧ nk = 0)) (ts : Int) (hl : Left W gl L) (h0 : 0 ≤ L) (h1 : L ≤ 20000) (hd : deep ≤ 60) (hL : ¬ L - 1 < 0) (hln : n ≤ maxLen) (hlk : nk ≤ maxLen) (has : HAS W gl deep L AL n cL G ts) :
    Calls Tryd.prog 53 #[.agg #[.int .i64 1, .int .i64 nn, .string S, .slice AL n cL, .slice AK nk cK], .int .i64 deep, .pointer (some ⟨gl, 0, none⟩)] W (KPost W gl L G ts K) := by
  have hlt := hl.lt
  have hwl : IntKind.i64.wrap (L - 1) = L - 1 := by unfold IntKind.wrap; simp [IntKind.bits, IntKind.signed]; omega
  have hdd : ¬ (60 : Int) < deep := by omega
  have h4 := m4_of (deep := deep) hl (.cells #[.int .i64 1, .int .i64 nn, .string S, .slice AL n cL, .slice AK nk cK] 40) (L - 1)
  have h5 := h4.alloc (.cells #[.int .i64 1, .int .i64 0, .string ⟨#[]⟩, .slice none 0 0, .slice none 0 0] 40)
  have hl3 : Left (((W.alloc (.cells #[.int .i64 1, .int .i64 nn, .string S, .slice AL n cL, .slice AK nk cK] 40)).alloc (.cells #[.int .i64 deep] 3)).alloc (.cells #[.pointer (some ⟨gl, 0, none⟩)] 84)) gl L := (Below.heap_alloc _ _ _ (by rw [World.size_alloc, World.size_alloc]; omega)).trans ((Below.heap_alloc _ _ _ (by rw [World.size_alloc]; omega)).trans ((Below.heap_alloc _ _ _ hlt).trans hl))
  have hp3 : ((((W.alloc (.cells #[.int .i64 1, .int .i64 nn, .string S, .slice AL n cL, .slice AK nk cK] 40)).alloc (.cells #[.int .i64 deep] 3)).alloc (.cells #[.pointer (some ⟨gl, 0, none⟩)] 84))).cell? ⟨W.heap.size + 1 + 1, 0, none⟩ = some (.pointer (some ⟨gl, 0, none⟩)) := by rw [show W.heap.size + 1 + 1 = ((W.alloc (.cells #[.int .i64 1, .int .i64 nn, .string S, .slice AL n cL, .slice AK nk cK] 40)).alloc (.cells #[.int .i64 deep] 3)).heap.size by rw [World.size_alloc, World.size_alloc]]; exact cell_of_row _ _ 0 _ _ _ (heap_alloc_new _ _)
  have q3 := hl3.cell
  have f3 := hl3.free
  have q4 := h4.left.cell
  have p4 := cell_of_row ((((W.alloc (.cells #[.int .i64 1, .int .i64 nn, .string S, .slice AL n cL, .slice AK nk cK] 40)).alloc (.cells #[.int .i64 deep] 3)).alloc (.cells #[.pointer (some ⟨gl, 0, none⟩)] 84)).setCell ⟨gl, 0, none⟩ (.int .i64 (L - 1))) _ 0 _ _ _ h4.caps.p
  have d4 := cell_of_row ((((W.alloc (.cells #[.int .i64 1, .int .i64 nn, .string S, .slice AL n cL, .slice AK nk cK] 40)).alloc (.cells #[.int .i64 deep] 3)).alloc (.cells #[.pointer (some ⟨gl, 0, none⟩)] 84)).setCell ⟨gl, 0, none⟩ (.int .i64 (L - 1))) _ 0 _ _ _ h4.caps.d
  have hb3 : ((((W.alloc (.cells #[.int .i64 1, .int .i64 nn, .string S, .slice AL n cL, .slice AK nk cK] 40)).alloc (.cells #[.int .i64 deep] 3)).alloc (.cells #[.pointer (some ⟨gl, 0, none⟩)] 84))).heap[W.heap.size]? = some (.cells #[.int .i64 1, .int .i64 nn, .string S, .slice AL n cL, .slice AK nk cK] 40) := by
    have e1 := heap_alloc_new W (.cells #[.int .i64 1, .int .i64 nn, .string S, .slice AL n cL, .slice AK nk cK] 40)
    exact (Below.heap_alloc _ _ _ (by rw [World.size_alloc, World.size_alloc]; omega)).trans ((Below.heap_alloc _ _ _ (by rw [World.size_alloc]; omega)).trans e1)
  have hb4 : (((((W.alloc (.cells #[.int .i64 1, .int .i64 nn, .string S, .slice AL n cL, .slice AK nk cK] 40)).alloc (.cells #[.int .i64 deep] 3)).alloc (.cells #[.pointer (some ⟨gl, 0, none⟩)] 84)).setCell ⟨gl, 0, none⟩ (.int .i64 (L - 1)))).heap[W.heap.size]? = some (.cells #[.int .i64 1, .int .i64 nn, .string S, .slice AL n cL, .slice AK nk cK] 40) := (Below.heap_setCell _ ⟨gl, 0, none⟩ _ _ (show W.heap.size ≠ gl by omega)).trans hb3
  have r0 : (((((W.alloc (.cells #[.int .i64 1, .int .i64 nn, .string S, .slice AL n cL, .slice AK nk cK] 40)).alloc (.cells #[.int .i64 deep] 3)).alloc (.cells #[.pointer (some ⟨gl, 0, none⟩)] 84)).setCell ⟨gl, 0, none⟩ (.int .i64 (L - 1)))).cell? ⟨W.heap.size, 0, none⟩ = some (.int .i64 1) := cell_of_row _ _ 0 _ _ _ hb4
  have hz4 : (((((W.alloc (.cells #[.int .i64 1, .int .i64 nn, .string S, .slice AL n cL, .slice AK nk cK] 40)).alloc (.cells #[.int .i64 deep] 3)).alloc (.cells #[.pointer (some ⟨gl, 0, none⟩)] 84)).setCell ⟨gl, 0, none⟩ (.int .i64 (L - 1)))).heap.size = W.heap.size + 1 + 1 + 1 := by rw [World.size_setCell, World.size_alloc, World.size_alloc, World.size_alloc]
  have hb5 : ((((((W.alloc (.cells #[.int .i64 1, .int .i64 nn, .string S, .slice AL n cL, .slice AK nk cK] 40)).alloc (.cells #[.int .i64 deep] 3)).alloc (.cells #[.pointer (some ⟨gl, 0, none⟩)] 84)).setCell ⟨gl, 0, none⟩ (.int .i64 (L - 1))).alloc (.cells #[.int .i64 1, .int .i64 0, .string ⟨#[]⟩, .slice none 0 0, .slice none 0 0] 40))).heap[W.heap.size]? = some (.cells #[.int .i64 1, .int .i64 nn, .string S, .slice AL n cL, .slice AK nk cK] 40) := (Below.heap_alloc _ _ _ (by rw [hz4]; omega)).trans hb4
  have ha5 : ((((((W.alloc (.cells #[.int .i64 1, .int .i64 nn, .string S, .slice AL n cL, .slice AK nk cK] 40)).alloc (.cells #[.int .i64 deep] 3)).alloc (.cells #[.pointer (some ⟨gl, 0, none⟩)] 84)).setCell ⟨gl, 0, none⟩ (.int .i64 (L - 1))).alloc (.cells #[.int .i64 1, .int .i64 0, .string ⟨#[]⟩, .slice none 0 0, .slice none 0 0] 40))).heap[W.heap.size + 1 + 1 + 1]? = some (.cells #[.int .i64 1, .int .i64 0, .string ⟨#[]⟩, .slice none 0 0, .slice none 0 0] 40) := by rw [← hz4]; exact heap_alloc_new _ _
  have b0 : ((((((W.alloc (.cells #[.int .i64 1, .int .i64 nn, .string S, .slice AL n cL, .slice AK nk cK] 40)).alloc (.cells #[.int .i64 deep] 3)).alloc (.cells #[.pointer (some ⟨gl, 0, none⟩)] 84)).setCell ⟨gl, 0, none⟩ (.int .i64 (L - 1))).alloc (.cells #[.int .i64 1, .int .i64 0, .string ⟨#[]⟩, .slice none 0 0, .slice none 0 0] 40))).cell? ⟨W.heap.size, 0, none⟩ = some (.int .i64 1) := cell_of_row _ _ 0 _ _ _ hb5
  have HL := hid2 hl
  have HAS2 := hid2 has
  have HK := hid2 hK
  clear hK h4 hl3 hb3 hb4 hz4 has
  rcases Decidable.em (nn = 0) with rfl | h10
  · unfold maxLen at hln hlk
    go_enter Tryd.func53, Tryd.ntmps53
    go_wp2_with fail
    have hx0 : XM W gl deep (L - 1) #[.int .i64 1, .int .i64 0, .string S, .slice AL n cL, .slice AK nk cK] (fun p q => #[.int .i64 1, .int .i64 (if p then 0 else 0), .string ⟨#[]⟩, .slice none 0 0, .slice none 0 0]) ((((((W.alloc (.cells #[.int .i64 1, .int .i64 0, .string S, .slice AL n cL, .slice AK nk cK] 40)).alloc (.cells #[.int .i64 deep] 3)).alloc (.cells #[.pointer (some ⟨gl, 0, none⟩)] 84)).setCell ⟨gl, 0, none⟩ (.int .i64 (L - 1))).alloc (.cells #[.int .i64 1, .int .i64 0, .string ⟨#[]⟩, .slice none 0 0, .slice none 0 0] 40))).drew := ⟨h5.drew, hb5, false, false, ha5⟩
    have HX0 := hid2 hx0
    clear hx0 h5 hb5 ha5 q3 f3 q4 p4 d4 r0 b0 hp3
    refine wp_region_grd 13 (by kernel_rfl) (by kernel_rfl) (by kernel_rfl) _ rfl (by kernel_rfl) (V7 W (fun p q => #[.int .i64 1, .int .i64 (if p then 0 else 0), .string ⟨#[]⟩, .slice none 0 0, .slice none 0 0]) [.pointer (some ⟨W.heap.size, 1, none⟩), .int .i64 0, .pointer (some ⟨W.heap.size, 1, none⟩), .int .i64 0, .bool true, .bool true, undef, undef, undef, .bool true, .pointer (some ⟨W.heap.size + 1 + 1 + 1, 1, none⟩), .bool false, .bool true] 11 1000) (XM W gl deep (L - 1) #[.int .i64 1, .int .i64 0, .string S, .slice AL n cL, .slice AK nk cK] (fun p q => #[.int .i64 1, .int .i64 (if p then 0 else 0), .string ⟨#[]⟩, .slice none 0 0, .slice none 0 0])) (Ext7 W (fun p q => #[.int .i64 1, .int .i64 (if p then 0 else 0), .string ⟨#[]⟩, .slice none 0 0, .slice none 0 0])) (HX0.out) (fun _ _ _ _ hb hv => V7.keep hv hb) ?_ ?_
    · refine of_allOps ⟨?_, ?_, ?_, ?_, ?_, ?_, ?_, ?_, ?_, ?_, ?_, ?_, ?_, trivial⟩
      · intro T2 w2 hM hN hO hE K hK
        have o3 : T2[3]? = some (.pointer (some ⟨W.heap.size, 0, none⟩)) := hO 3 rfl
        clear hE hO hN
        refine step_plain0 rfl ?_
        go_simp
        exact hK _ _ ⟨rfl, fun h => absurd h (by decide), fun h => absurd h (by decide)⟩ hM (Ext7.refl _)
      · intro T2 w2 hM hN hO hE K hK
        obtain ⟨v0, h0, e0⟩ := hE ⟨0, .data⟩ (by simp) rfl _ _ rfl rfl
        rw [show v0 = .pointer (some ⟨W.heap.size, 1, none⟩) from (Option.some.inj e0.1).symm] at h0
        clear hE hO hN
        refine step_plain0 rfl ?_
        have hc : w2.cell? ⟨W.heap.size, 1, none⟩ = some (.int .i64 0) := cell_of_row w2 _ 1 _ _ _ hM.v
        go_simp
        exact hK _ _ ⟨rfl, fun h => absurd h (by decide), fun h => absurd h (by decide)⟩ hM (Ext7.refl _)
      · intro T2 w2 hM hN hO hE K hK
        have o3 : T2[3]? = some (.pointer (some ⟨W.heap.size, 0, none⟩)) := hO 3 rfl
        clear hE hO hN
        refine step_plain0 rfl ?_
        go_simp
        exact hK _ _ ⟨rfl, fun h => absurd h (by decide), fun h => absurd h (by decide)⟩ hM (Ext7.refl _)
      · intro T2 w2 hM hN hO hE K hK
        obtain ⟨v2, h2, e2⟩ := hE ⟨2, .data⟩ (by simp) rfl _ _ rfl rfl
        rw [show v2 = .pointer (some ⟨W.heap.size, 1, none⟩) from (Option.some.inj e2.1).symm] at h2
        clear hE hO hN
        refine step_plain0 rfl ?_
        have hc : w2.cell? ⟨W.heap.size, 1, none⟩ = some (.int .i64 0) := cell_of_row w2 _ 1 _ _ _ hM.v
        go_simp
        exact hK _ _ ⟨rfl, fun h => absurd h (by decide), fun h => absurd h (by decide)⟩ hM (Ext7.refl _)
      · intro T2 w2 hM hN hO hE K hK
        obtain ⟨v3, h3, e3⟩ := hE ⟨3, .data⟩ (by simp) rfl _ _ rfl rfl
        rw [show v3 = .int .i64 0 from (Option.some.inj e3.1).symm] at h3
        clear hE hO hN
        refine step_plain0 rfl ?_
        go_simp
        exact hK _ _ ⟨rfl, fun h => absurd h (by decide), fun h => absurd h (by decide)⟩ hM (Ext7.refl _)
      · intro T2 w2 hM hN hO hE K hK
        obtain ⟨v4, h4, e4⟩ := hE ⟨4, .data⟩ (by simp) rfl _ _ rfl rfl
        rw [show v4 = .bool true from (Option.some.inj e4.1).symm] at h4
        clear hE hO hN
        refine step_plain0 rfl ?_
        go_simp
        exact hK _ _ ⟨rfl, fun h => absurd h (by decide), fun h => absurd h (by decide)⟩ hM (Ext7.refl _)
      · intro T2 w2 hM hN hO hE K hK
        obtain ⟨v5, h5, e5⟩ := hE ⟨5, .guard⟩ (by simp) rfl _ _ rfl rfl
        rw [show v5 = .bool true from (Option.some.inj e5.1).symm] at h5
        clear hE hO hN
        refine grd_not rfl rfl rfl h5 (by decide) ?_
        exact hK _ _ ⟨rfl, fun h => absurd h (by decide), fun h => absurd h (by decide)⟩ hM (Ext7.refl _)
      · intro T2 w2 hM hN hO hE K hK
        obtain ⟨v5, h5, e5⟩ := hE ⟨5, .guard⟩ (by simp) rfl _ _ rfl rfl
        rw [show v5 = .bool true from (Option.some.inj e5.1).symm] at h5
        clear hE hO hN
        refine grd_not rfl rfl rfl h5 (by decide) ?_
        exact hK _ _ ⟨rfl, fun h => absurd h (by decide), fun h => absurd h (by decide)⟩ hM (Ext7.refl _)
      · intro T2 w2 hM hN hO hE K hK
        obtain ⟨v5, h5, e5⟩ := hE ⟨5, .guard⟩ (by simp) rfl _ _ rfl rfl
        rw [show v5 = .bool true from (Option.some.inj e5.1).symm] at h5
        clear hE hO hN
        refine grd_not rfl rfl rfl h5 (by decide) ?_
        exact hK _ _ ⟨rfl, fun h => absurd h (by decide), fun h => absurd h (by decide)⟩ hM (Ext7.refl _)
      · intro T2 w2 hM hN hO hE K hK
        obtain ⟨v5, h5, e5⟩ := hE ⟨5, .data⟩ (by simp) rfl _ _ rfl rfl
        rw [show v5 = .bool true from (Option.some.inj e5.1).symm] at h5
        obtain ⟨v8, h8, e8⟩ := hE ⟨8, .data⟩ (by simp) rfl _ _ rfl rfl
        rw [show v8 = undef from (Option.some.inj e8.1).symm] at h8
        clear hE hO hN
        refine step_plain0 rfl ?_
        go_simp
        exact hK _ _ ⟨rfl, fun h => absurd h (by decide), fun h => absurd h (by decide)⟩ hM (Ext7.refl _)
      · intro T2 w2 hM hN hO hE K hK
        have o7 : T2[7]? = some (.pointer (some ⟨W.heap.size + 1 + 1 + 1, 0, none⟩)) := hO 7 rfl
        clear hE hO hN
        refine step_plain0 rfl ?_
        go_simp
        exact hK _ _ ⟨rfl, fun h => absurd h (by decide), fun h => absurd h (by decide)⟩ hM (Ext7.refl _)
      · intro T2 w2 hM hN hO hE K hK
        obtain ⟨v10, h10, e10⟩ := hE ⟨10, .data⟩ (by simp) rfl _ _ rfl rfl
        rw [show v10 = .pointer (some ⟨W.heap.size + 1 + 1 + 1, 1, none⟩) from (Option.some.inj e10.1).symm] at h10
        obtain ⟨v1, h1, e1⟩ := hE ⟨1, .data⟩ (by simp) rfl _ _ rfl rfl
        rw [show v1 = .int .i64 0 from (Option.some.inj e1.1).symm] at h1
        clear hE hO hN
        refine step_plain0 rfl ?_
        obtain ⟨p, q, hb⟩ := hM.b
        obtain ⟨xx, hc⟩ : ∃ xx, w2.cell? ⟨W.heap.size + 1 + 1 + 1, 1, none⟩ = some xx := by cases p <;> cases q <;> exact ⟨_, cell_of_row w2 _ 1 _ _ _ hb⟩
        have hf := frozen_of_row w2 _ 1 _ _ hb
        go_simp
        exact hK (.bool false) _ ⟨rfl, fun _ => ⟨q, (hM.put (p := p) (q := q) hb 1 (.int .i64 0) (p' := true) (q' := q) (by cases p <;> cases q <;> rfl)).2⟩, fun h => absurd h (by decide)⟩ (hM.put (p := p) (q := q) hb 1 (.int .i64 0) (p' := true) (q' := q) (by cases p <;> cases q <;> rfl)).1 (fun p1 q1 h1 => ⟨true, q1, (hM.put (p := p1) (q := q1) h1 1 (.int .i64 0) (p' := true) (q' := q1) (by cases p1 <;> cases q1 <;> rfl)).2, fun _ => rfl, id⟩)
      · intro T2 w2 hM hN hO hE K hK
        obtain ⟨v9, h9, e9⟩ := hE ⟨9, .data⟩ (by simp) rfl _ _ rfl rfl
        rw [show v9 = .bool true from (Option.some.inj e9.1).symm] at h9
        clear hE hO hN
        refine step_plain0 rfl ?_
        go_simp
        exact hK _ _ ⟨rfl, fun h => absurd h (by decide), fun h => absurd h (by decide)⟩ hM (Ext7.refl _)
    · intro u w2 hM hF
      have e12 : u 12 = .bool true := (Option.some.inj (hF 12 (by omega)).1).symm
      obtain ⟨q7, hr7⟩ := (hF 11 (by omega)).2.1 rfl
      clear hF
      simp only [fillAll, Nat.reduceAdd, e12, List.take_succ_cons, List.take_zero, List.drop_succ_cons, List.drop_zero, List.setIfInBounds_toArray, List.set_cons_succ, List.set_cons_zero]
      clear e12
      have h5 := hM.m
      have hv5 := hM.v
      have c0 : w2.cell? ⟨W.heap.size, 0, none⟩ = some (.int .i64 1) := cell_of_row w2 _ 0 _ _ _ hv5
      have a0 : w2.cell? ⟨W.heap.size + 1 + 1 + 1, 0, none⟩ = some (.int .i64 1) := cell_of_row w2 _ 0 _ _ _ hr7
      have c1 : w2.cell? ⟨W.heap.size, 1, none⟩ = some (.int .i64 0) := cell_of_row w2 _ 1 _ _ _ hv5
      have a1 : w2.cell? ⟨W.heap.size + 1 + 1 + 1, 1, none⟩ = some (.int .i64 0) := cell_of_row w2 _ 1 _ _ _ hr7
      have c2 : w2.cell? ⟨W.heap.size, 2, none⟩ = some (.string S) := cell_of_row w2 _ 2 _ _ _ hv5
      have a2 : w2.cell? ⟨W.heap.size + 1 + 1 + 1, 2, none⟩ = some (.string ⟨#[]⟩) := cell_of_row w2 _ 2 _ _ _ hr7
      have c3 : w2.cell? ⟨W.heap.size, 3, none⟩ = some (.slice AL n cL) := cell_of_row w2 _ 3 _ _ _ hv5
      have a3 : w2.cell? ⟨W.heap.size + 1 + 1 + 1, 3, none⟩ = some (.slice none 0 0) := cell_of_row w2 _ 3 _ _ _ hr7
      have c4 : w2.cell? ⟨W.heap.size, 4, none⟩ = some (.slice AK nk cK) := cell_of_row w2 _ 4 _ _ _ hv5
      have a4 : w2.cell? ⟨W.heap.size + 1 + 1 + 1, 4, none⟩ = some (.slice none 0 0) := cell_of_row w2 _ 4 _ _ _ hr7
      have H5 := hid2 h5
      clear h5 hv5 hr7 hM
      go_wp2_with (go_at_call 79; refine (HAS2.out _ (by have h5 := H5.out; (repeat first | (with_reducible assumption) | (with_reducible refine M5.drew ?_) | (with_reducible refine M5.set ?_ (by omega) _)))).mono ?_; rintro e w3 ⟨r, L', rfl, hl2, hg2, hr2⟩)
      all_goals go_ret
      all_goals clear c0 c1 c2 c3 c4 a0 a1 a2 a3 a4
      all_goals first
        | (refine kpost_no (deep := deep) rfl ?_ ?_
           · have h5 := H5.out
             (repeat first | (with_reducible assumption) | (with_reducible refine M5.drew ?_) | (with_reducible refine M5.set ?_ (by omega) _))
           · rw [HK.out]
             rintro hK
             first
               | omega
               | (simp only [bne_iff_ne, bne_eq_false_iff_eq, ne_eq] at *; omega)
               | (obtain ⟨x1, x2, x3, x4⟩ := hK; contradiction)
               | (obtain ⟨x1, x2, x3⟩ := hK; contradiction)
               | fail "left")
        | (refine kpost_yes (deep := deep) (r := r) rfl (W' := _) (?_ : M5 W gl deep (L - 1) _) ?_ hl2 hg2 hr2
           · have h5 := H5.out
             (repeat first | (with_reducible assumption) | (with_reducible refine M5.drew ?_) | (with_reducible refine M5.set ?_ (by omega) _))
           · rw [HK.out]
             try simp only [bne_iff_ne, bne_eq_false_iff_eq, ne_eq] at *
             first
               | omega
               | (refine ⟨?_, ?_, ?_, ?_⟩ <;> first | omega | assumption | (left; trivial) | (right; trivial) | trivial)
               | (refine ⟨?_, ?_, ?_⟩ <;> first | omega | assumption))
  · rcases Decidable.em (nn = 1) with rfl | h11
    · unfold maxLen at hln hlk
      go_enter Tryd.func53, Tryd.ntmps53
      go_wp2_with fail
      have hx0 : XM W gl deep (L - 1) #[.int .i64 1, .int .i64 1, .string S, .slice AL n cL, .slice AK nk cK] (fun p q => #[.int .i64 1, .int .i64 (if p then 1 else 0), .string ⟨#[]⟩, .slice none 0 0, .slice none 0 0]) ((((((W.alloc (.cells #[.int .i64 1, .int .i64 1, .string S, .slice AL n cL, .slice AK nk cK] 40)).alloc (.cells #[.int .i64 deep] 3)).alloc (.cells #[.pointer (some ⟨gl, 0, none⟩)] 84)).setCell ⟨gl, 0, none⟩ (.int .i64 (L - 1))).alloc (.cells #[.int .i64 1, .int .i64 0, .string ⟨#[]⟩, .slice none 0 0, .slice none 0 0] 40))).drew := ⟨h5.drew, hb5, false, false, ha5⟩
      have HX0 := hid2 hx0
      clear hx0 h5 hb5 ha5 q3 f3 q4 p4 d4 r0 b0 hp3
      refine wp_region_grd 13 (by kernel_rfl) (by kernel_rfl) (by kernel_rfl) _ rfl (by kernel_rfl) (V7 W (fun p q => #[.int .i64 1, .int .i64 (if p then 1 else 0), .string ⟨#[]⟩, .slice none 0 0, .slice none 0 0]) [.pointer (some ⟨W.heap.size, 1, none⟩), .int .i64 1, .pointer (some ⟨W.heap.size, 1, none⟩), .int .i64 1, .bool false, .bool false, .pointer (some ⟨W.heap.size, 1, none⟩), .int .i64 1, .bool true, .bool true, .pointer (some ⟨W.heap.size + 1 + 1 + 1, 1, none⟩), .bool false, .bool true] 11 1000) (XM W gl deep (L - 1) #[.int .i64 1, .int .i64 1, .string S, .slice AL n cL, .slice AK nk cK] (fun p q => #[.int .i64 1, .int .i64 (if p then 1 else 0), .string ⟨#[]⟩, .slice none 0 0, .slice none 0 0])) (Ext7 W (fun p q => #[.int .i64 1, .int .i64 (if p then 1 else 0), .string ⟨#[]⟩, .slice none 0 0, .slice none 0 0])) (HX0.out) (fun _ _ _ _ hb hv => V7.keep hv hb) ?_ ?_
      · refine of_allOps ⟨?_, ?_, ?_, ?_, ?_, ?_, ?_, ?_, ?_, ?_, ?_, ?_, ?_, trivial⟩
        · intro T2 w2 hM hN hO hE K hK
          have o3 : T2[3]? = some (.pointer (some ⟨W.heap.size, 0, none⟩)) := hO 3 rfl
          clear hE hO hN
          refine step_plain0 rfl ?_
          go_simp
          exact hK _ _ ⟨rfl, fun h => absurd h (by decide), fun h => absurd h (by decide)⟩ hM (Ext7.refl _)
        · intro T2 w2 hM hN hO hE K hK
          obtain ⟨v0, h0, e0⟩ := hE ⟨0, .data⟩ (by simp) rfl _ _ rfl rfl
          rw [show v0 = .pointer (some ⟨W.heap.size, 1, none⟩) from (Option.some.inj e0.1).symm] at h0
          clear hE hO hN
          refine step_plain0 rfl ?_
          have hc : w2.cell? ⟨W.heap.size, 1, none⟩ = some (.int .i64 1) := cell_of_row w2 _ 1 _ _ _ hM.v
          go_simp
          exact hK _ _ ⟨rfl, fun h => absurd h (by decide), fun h => absurd h (by decide)⟩ hM (Ext7.refl _)
        · intro T2 w2 hM hN hO hE K hK
          have o3 : T2[3]? = some (.pointer (some ⟨W.heap.size, 0, none⟩)) := hO 3 rfl
          clear hE hO hN
          refine step_plain0 rfl ?_
          go_simp
          exact hK _ _ ⟨rfl, fun h => absurd h (by decide), fun h => absurd h (by decide)⟩ hM (Ext7.refl _)
        · intro T2 w2 hM hN hO hE K hK
          obtain ⟨v2, h2, e2⟩ := hE ⟨2, .data⟩ (by simp) rfl _ _ rfl rfl
          rw [show v2 = .pointer (some ⟨W.heap.size, 1, none⟩) from (Option.some.inj e2.1).symm] at h2
          clear hE hO hN
          refine step_plain0 rfl ?_
          have hc : w2.cell? ⟨W.heap.size, 1, none⟩ = some (.int .i64 1) := cell_of_row w2 _ 1 _ _ _ hM.v
          go_simp
          exact hK _ _ ⟨rfl, fun h => absurd h (by decide), fun h => absurd h (by decide)⟩ hM (Ext7.refl _)
        · intro T2 w2 hM hN hO hE K hK
          obtain ⟨v3, h3, e3⟩ := hE ⟨3, .data⟩ (by simp) rfl _ _ rfl rfl
          rw [show v3 = .int .i64 1 from (Option.some.inj e3.1).symm] at h3
          clear hE hO hN
          refine step_plain0 rfl ?_
          go_simp
          exact hK _ _ ⟨rfl, fun h => absurd h (by decide), fun h => absurd h (by decide)⟩ hM (Ext7.refl _)
        · intro T2 w2 hM hN hO hE K hK
          obtain ⟨v4, h4, e4⟩ := hE ⟨4, .data⟩ (by simp) rfl _ _ rfl rfl
          rw [show v4 = .bool false from (Option.some.inj e4.1).symm] at h4
          clear hE hO hN
          refine step_plain0 rfl ?_
          go_simp
          exact hK _ _ ⟨rfl, fun h => absurd h (by decide), fun h => absurd h (by decide)⟩ hM (Ext7.refl _)
        · intro T2 w2 hM hN hO hE K hK
          obtain ⟨v5, h5, e5⟩ := hE ⟨5, .guard⟩ (by simp) rfl _ _ rfl rfl
          rw [show v5 = .bool false from (Option.some.inj e5.1).symm] at h5
          have o3 : T2[3]? = some (.pointer (some ⟨W.heap.size, 0, none⟩)) := hO 3 rfl
          clear hE hO hN
          refine grd_met rfl rfl rfl h5 ?_
          go_simp
          exact hK _ _ ⟨rfl, fun h => absurd h (by decide), fun h => absurd h (by decide)⟩ hM (Ext7.refl _)
        · intro T2 w2 hM hN hO hE K hK
          obtain ⟨v6, h6, e6⟩ := hE ⟨6, .data⟩ (by simp) rfl _ _ rfl rfl
          rw [show v6 = .pointer (some ⟨W.heap.size, 1, none⟩) from (Option.some.inj e6.1).symm] at h6
          obtain ⟨v5, h5, e5⟩ := hE ⟨5, .guard⟩ (by simp) rfl _ _ rfl rfl
          rw [show v5 = .bool false from (Option.some.inj e5.1).symm] at h5
          clear hE hO hN
          refine grd_met rfl rfl rfl h5 ?_
          have hc : w2.cell? ⟨W.heap.size, 1, none⟩ = some (.int .i64 1) := cell_of_row w2 _ 1 _ _ _ hM.v
          go_simp
          exact hK _ _ ⟨rfl, fun h => absurd h (by decide), fun h => absurd h (by decide)⟩ hM (Ext7.refl _)
        · intro T2 w2 hM hN hO hE K hK
          obtain ⟨v7, h7, e7⟩ := hE ⟨7, .data⟩ (by simp) rfl _ _ rfl rfl
          rw [show v7 = .int .i64 1 from (Option.some.inj e7.1).symm] at h7
          obtain ⟨v5, h5, e5⟩ := hE ⟨5, .guard⟩ (by simp) rfl _ _ rfl rfl
          rw [show v5 = .bool false from (Option.some.inj e5.1).symm] at h5
          clear hE hO hN
          refine grd_met rfl rfl rfl h5 ?_
          go_simp
          exact hK _ _ ⟨rfl, fun h => absurd h (by decide), fun h => absurd h (by decide)⟩ hM (Ext7.refl _)
        · intro T2 w2 hM hN hO hE K hK
          obtain ⟨v5, h5, e5⟩ := hE ⟨5, .data⟩ (by simp) rfl _ _ rfl rfl
          rw [show v5 = .bool false from (Option.some.inj e5.1).symm] at h5
          obtain ⟨v8, h8, e8⟩ := hE ⟨8, .data⟩ (by simp) rfl _ _ rfl rfl
          rw [show v8 = .bool true from (Option.some.inj e8.1).symm] at h8
          clear hE hO hN
          refine step_plain0 rfl ?_
          go_simp
          exact hK _ _ ⟨rfl, fun h => absurd h (by decide), fun h => absurd h (by decide)⟩ hM (Ext7.refl _)
        · intro T2 w2 hM hN hO hE K hK
          have o7 : T2[7]? = some (.pointer (some ⟨W.heap.size + 1 + 1 + 1, 0, none⟩)) := hO 7 rfl
          clear hE hO hN
          refine step_plain0 rfl ?_
          go_simp
          exact hK _ _ ⟨rfl, fun h => absurd h (by decide), fun h => absurd h (by decide)⟩ hM (Ext7.refl _)
        · intro T2 w2 hM hN hO hE K hK
          obtain ⟨v10, h10, e10⟩ := hE ⟨10, .data⟩ (by simp) rfl _ _ rfl rfl
          rw [show v10 = .pointer (some ⟨W.heap.size + 1 + 1 + 1, 1, none⟩) from (Option.some.inj e10.1).symm] at h10
          obtain ⟨v1, h1, e1⟩ := hE ⟨1, .data⟩ (by simp) rfl _ _ rfl rfl
          rw [show v1 = .int .i64 1 from (Option.some.inj e1.1).symm] at h1
          clear hE hO hN
          refine step_plain0 rfl ?_
          obtain ⟨p, q, hb⟩ := hM.b
          obtain ⟨xx, hc⟩ : ∃ xx, w2.cell? ⟨W.heap.size + 1 + 1 + 1, 1, none⟩ = some xx := by cases p <;> cases q <;> exact ⟨_, cell_of_row w2 _ 1 _ _ _ hb⟩
          have hf := frozen_of_row w2 _ 1 _ _ hb
          go_simp
          exact hK (.bool false) _ ⟨rfl, fun _ => ⟨q, (hM.put (p := p) (q := q) hb 1 (.int .i64 1) (p' := true) (q' := q) (by cases p <;> cases q <;> rfl)).2⟩, fun h => absurd h (by decide)⟩ (hM.put (p := p) (q := q) hb 1 (.int .i64 1) (p' := true) (q' := q) (by cases p <;> cases q <;> rfl)).1 (fun p1 q1 h1 => ⟨true, q1, (hM.put (p := p1) (q := q1) h1 1 (.int .i64 1) (p' := true) (q' := q1) (by cases p1 <;> cases q1 <;> rfl)).2, fun _ => rfl, id⟩)
        · intro T2 w2 hM hN hO hE K hK
          obtain ⟨v9, h9, e9⟩ := hE ⟨9, .data⟩ (by simp) rfl _ _ rfl rfl
          rw [show v9 = .bool true from (Option.some.inj e9.1).symm] at h9
          clear hE hO hN
          refine step_plain0 rfl ?_
          go_simp
          exact hK _ _ ⟨rfl, fun h => absurd h (by decide), fun h => absurd h (by decide)⟩ hM (Ext7.refl _)
      · intro u w2 hM hF
        have e12 : u 12 = .bool true := (Option.some.inj (hF 12 (by omega)).1).symm
        obtain ⟨q7, hr7⟩ := (hF 11 (by omega)).2.1 rfl
        clear hF
        simp only [fillAll, Nat.reduceAdd, e12, List.take_succ_cons, List.take_zero, List.drop_succ_cons, List.drop_zero, List.setIfInBounds_toArray, List.set_cons_succ, List.set_cons_zero]
        clear e12
        have h5 := hM.m
        have hv5 := hM.v
        have c0 : w2.cell? ⟨W.heap.size, 0, none⟩ = some (.int .i64 1) := cell_of_row w2 _ 0 _ _ _ hv5
        have a0 : w2.cell? ⟨W.heap.size + 1 + 1 + 1, 0, none⟩ = some (.int .i64 1) := cell_of_row w2 _ 0 _ _ _ hr7
        have c1 : w2.cell? ⟨W.heap.size, 1, none⟩ = some (.int .i64 1) := cell_of_row w2 _ 1 _ _ _ hv5
        have a1 : w2.cell? ⟨W.heap.size + 1 + 1 + 1, 1, none⟩ = some (.int .i64 1) := cell_of_row w2 _ 1 _ _ _ hr7
        have c2 : w2.cell? ⟨W.heap.size, 2, none⟩ = some (.string S) := cell_of_row w2 _ 2 _ _ _ hv5
        have a2 : w2.cell? ⟨W.heap.size + 1 + 1 + 1, 2, none⟩ = some (.string ⟨#[]⟩) := cell_of_row w2 _ 2 _ _ _ hr7
        have c3 : w2.cell? ⟨W.heap.size, 3, none⟩ = some (.slice AL n cL) := cell_of_row w2 _ 3 _ _ _ hv5
        have a3 : w2.cell? ⟨W.heap.size + 1 + 1 + 1, 3, none⟩ = some (.slice none 0 0) := cell_of_row w2 _ 3 _ _ _ hr7
        have c4 : w2.cell? ⟨W.heap.size, 4, none⟩ = some (.slice AK nk cK) := cell_of_row w2 _ 4 _ _ _ hv5
        have a4 : w2.cell? ⟨W.heap.size + 1 + 1 + 1, 4, none⟩ = some (.slice none 0 0) := cell_of_row w2 _ 4 _ _ _ hr7
        have H5 := hid2 h5
        clear h5 hv5 hr7 hM
        go_wp2_with (go_at_call 79; refine (HAS2.out _ (by have h5 := H5.out; (repeat first | (with_reducible assumption) | (with_reducible refine M5.drew ?_) | (with_reducible refine M5.set ?_ (by omega) _)))).mono ?_; rintro e w3 ⟨r, L', rfl, hl2, hg2, hr2⟩)
        all_goals go_ret
        all_goals clear c0 c1 c2 c3 c4 a0 a1 a2 a3 a4
        all_goals first
          | (refine kpost_no (deep := deep) rfl ?_ ?_
             · have h5 := H5.out
               (repeat first | (with_reducible assumption) | (with_reducible refine M5.drew ?_) | (with_reducible refine M5.set ?_ (by omega) _))
             · rw [HK.out]
               rintro hK
               first
                 | omega
                 | (simp only [bne_iff_ne, bne_eq_false_iff_eq, ne_eq] at *; omega)
                 | (obtain ⟨x1, x2, x3, x4⟩ := hK; contradiction)
                 | (obtain ⟨x1, x2, x3⟩ := hK; contradiction)
                 | fail "left")
          | (refine kpost_yes (deep := deep) (r := r) rfl (W' := _) (?_ : M5 W gl deep (L - 1) _) ?_ hl2 hg2 hr2
             · have h5 := H5.out
               (repeat first | (with_reducible assumption) | (with_reducible refine M5.drew ?_) | (with_reducible refine M5.set ?_ (by omega) _))
             · rw [HK.out]
               try simp only [bne_iff_ne, bne_eq_false_iff_eq, ne_eq] at *
               first
                 | omega
                 | (refine ⟨?_, ?_, ?_, ?_⟩ <;> first | omega | assumption | (left; trivial) | (right; trivial) | trivial)
                 | (refine ⟨?_, ?_, ?_⟩ <;> first | omega | assumption))
    · have n0 : (nn == 0) = false := beq_eq_false_iff_ne.2 h10
      have n1 : (nn == 1) = false := beq_eq_false_iff_ne.2 h11
      unfold maxLen at hln hlk
      go_enter Tryd.func53, Tryd.ntmps53
      go_wp2_with fail
      have hx0 : XM W gl deep (L - 1) #[.int .i64 1, .int .i64 nn, .string S, .slice AL n cL, .slice AK nk cK] (fun p q => #[.int .i64 1, .int .i64 (if p then nn else 0), .string ⟨#[]⟩, .slice none 0 0, .slice none 0 0]) ((((((W.alloc (.cells #[.int .i64 1, .int .i64 nn, .string S, .slice AL n cL, .slice AK nk cK] 40)).alloc (.cells #[.int .i64 deep] 3)).alloc (.cells #[.pointer (some ⟨gl, 0, none⟩)] 84)).setCell ⟨gl, 0, none⟩ (.int .i64 (L - 1))).alloc (.cells #[.int .i64 1, .int .i64 0, .string ⟨#[]⟩, .slice none 0 0, .slice none 0 0] 40))).drew := ⟨h5.drew, hb5, false, false, ha5⟩
      have HX0 := hid2 hx0
      clear hx0 h5 hb5 ha5 q3 f3 q4 p4 d4 r0 b0 hp3
      refine wp_region_grd 13 (by kernel_rfl) (by kernel_rfl) (by kernel_rfl) _ rfl (by kernel_rfl) (V7 W (fun p q => #[.int .i64 1, .int .i64 (if p then nn else 0), .string ⟨#[]⟩, .slice none 0 0, .slice none 0 0]) [.pointer (some ⟨W.heap.size, 1, none⟩), .int .i64 nn, .pointer (some ⟨W.heap.size, 1, none⟩), .int .i64 nn, .bool false, .bool false, .pointer (some ⟨W.heap.size, 1, none⟩), .int .i64 nn, .bool false, .bool false, .pointer (some ⟨W.heap.size + 1 + 1 + 1, 1, none⟩), .bool false, .bool false] 11 1000) (XM W gl deep (L - 1) #[.int .i64 1, .int .i64 nn, .string S, .slice AL n cL, .slice AK nk cK] (fun p q => #[.int .i64 1, .int .i64 (if p then nn else 0), .string ⟨#[]⟩, .slice none 0 0, .slice none 0 0])) (Ext7 W (fun p q => #[.int .i64 1, .int .i64 (if p then nn else 0), .string ⟨#[]⟩, .slice none 0 0, .slice none 0 0])) (HX0.out) (fun _ _ _ _ hb hv => V7.keep hv hb) ?_ ?_
      · refine of_allOps ⟨?_, ?_, ?_, ?_, ?_, ?_, ?_, ?_, ?_, ?_, ?_, ?_, ?_, trivial⟩
        · intro T2 w2 hM hN hO hE K hK
          have o3 : T2[3]? = some (.pointer (some ⟨W.heap.size, 0, none⟩)) := hO 3 rfl
          clear hE hO hN
          refine step_plain0 rfl ?_
          go_simp
          exact hK _ _ ⟨rfl, fun h => absurd h (by decide), fun h => absurd h (by decide)⟩ hM (Ext7.refl _)
        · intro T2 w2 hM hN hO hE K hK
          obtain ⟨v0, h0, e0⟩ := hE ⟨0, .data⟩ (by simp) rfl _ _ rfl rfl
          rw [show v0 = .pointer (some ⟨W.heap.size, 1, none⟩) from (Option.some.inj e0.1).symm] at h0
          clear hE hO hN
          refine step_plain0 rfl ?_
          have hc : w2.cell? ⟨W.heap.size, 1, none⟩ = some (.int .i64 nn) := cell_of_row w2 _ 1 _ _ _ hM.v
          go_simp
          exact hK _ _ ⟨rfl, fun h => absurd h (by decide), fun h => absurd h (by decide)⟩ hM (Ext7.refl _)
        · intro T2 w2 hM hN hO hE K hK
          have o3 : T2[3]? = some (.pointer (some ⟨W.heap.size, 0, none⟩)) := hO 3 rfl
          clear hE hO hN
          refine step_plain0 rfl ?_
          go_simp
          exact hK _ _ ⟨rfl, fun h => absurd h (by decide), fun h => absurd h (by decide)⟩ hM (Ext7.refl _)
        · intro T2 w2 hM hN hO hE K hK
          obtain ⟨v2, h2, e2⟩ := hE ⟨2, .data⟩ (by simp) rfl _ _ rfl rfl
          rw [show v2 = .pointer (some ⟨W.heap.size, 1, none⟩) from (Option.some.inj e2.1).symm] at h2
          clear hE hO hN
          refine step_plain0 rfl ?_
          have hc : w2.cell? ⟨W.heap.size, 1, none⟩ = some (.int .i64 nn) := cell_of_row w2 _ 1 _ _ _ hM.v
          go_simp
          exact hK _ _ ⟨rfl, fun h => absurd h (by decide), fun h => absurd h (by decide)⟩ hM (Ext7.refl _)
        · intro T2 w2 hM hN hO hE K hK
          obtain ⟨v3, h3, e3⟩ := hE ⟨3, .data⟩ (by simp) rfl _ _ rfl rfl
          rw [show v3 = .int .i64 nn from (Option.some.inj e3.1).symm] at h3
          clear hE hO hN
          refine step_plain0 rfl ?_
          go_simp
          exact hK _ _ ⟨rfl, fun h => absurd h (by decide), fun h => absurd h (by decide)⟩ hM (Ext7.refl _)
        · intro T2 w2 hM hN hO hE K hK
          obtain ⟨v4, h4, e4⟩ := hE ⟨4, .data⟩ (by simp) rfl _ _ rfl rfl
          rw [show v4 = .bool false from (Option.some.inj e4.1).symm] at h4
          clear hE hO hN
          refine step_plain0 rfl ?_
          go_simp
          exact hK _ _ ⟨rfl, fun h => absurd h (by decide), fun h => absurd h (by decide)⟩ hM (Ext7.refl _)
        · intro T2 w2 hM hN hO hE K hK
          obtain ⟨v5, h5, e5⟩ := hE ⟨5, .guard⟩ (by simp) rfl _ _ rfl rfl
          rw [show v5 = .bool false from (Option.some.inj e5.1).symm] at h5
          have o3 : T2[3]? = some (.pointer (some ⟨W.heap.size, 0, none⟩)) := hO 3 rfl
          clear hE hO hN
          refine grd_met rfl rfl rfl h5 ?_
          go_simp
          exact hK _ _ ⟨rfl, fun h => absurd h (by decide), fun h => absurd h (by decide)⟩ hM (Ext7.refl _)
        · intro T2 w2 hM hN hO hE K hK
          obtain ⟨v6, h6, e6⟩ := hE ⟨6, .data⟩ (by simp) rfl _ _ rfl rfl
          rw [show v6 = .pointer (some ⟨W.heap.size, 1, none⟩) from (Option.some.inj e6.1).symm] at h6
          obtain ⟨v5, h5, e5⟩ := hE ⟨5, .guard⟩ (by simp) rfl _ _ rfl rfl
          rw [show v5 = .bool false from (Option.some.inj e5.1).symm] at h5
          clear hE hO hN
          refine grd_met rfl rfl rfl h5 ?_
          have hc : w2.cell? ⟨W.heap.size, 1, none⟩ = some (.int .i64 nn) := cell_of_row w2 _ 1 _ _ _ hM.v
          go_simp
          exact hK _ _ ⟨rfl, fun h => absurd h (by decide), fun h => absurd h (by decide)⟩ hM (Ext7.refl _)
        · intro T2 w2 hM hN hO hE K hK
          obtain ⟨v7, h7, e7⟩ := hE ⟨7, .data⟩ (by simp) rfl _ _ rfl rfl
          rw [show v7 = .int .i64 nn from (Option.some.inj e7.1).symm] at h7
          obtain ⟨v5, h5, e5⟩ := hE ⟨5, .guard⟩ (by simp) rfl _ _ rfl rfl
          rw [show v5 = .bool false from (Option.some.inj e5.1).symm] at h5
          clear hE hO hN
          refine grd_met rfl rfl rfl h5 ?_
          go_simp
          exact hK _ _ ⟨rfl, fun h => absurd h (by decide), fun h => absurd h (by decide)⟩ hM (Ext7.refl _)
        · intro T2 w2 hM hN hO hE K hK
          obtain ⟨v5, h5, e5⟩ := hE ⟨5, .data⟩ (by simp) rfl _ _ rfl rfl
          rw [show v5 = .bool false from (Option.some.inj e5.1).symm] at h5
          obtain ⟨v8, h8, e8⟩ := hE ⟨8, .data⟩ (by simp) rfl _ _ rfl rfl
          rw [show v8 = .bool false from (Option.some.inj e8.1).symm] at h8
          clear hE hO hN
          refine step_plain0 rfl ?_
          go_simp
          exact hK _ _ ⟨rfl, fun h => absurd h (by decide), fun h => absurd h (by decide)⟩ hM (Ext7.refl _)
        · intro T2 w2 hM hN hO hE K hK
          have o7 : T2[7]? = some (.pointer (some ⟨W.heap.size + 1 + 1 + 1, 0, none⟩)) := hO 7 rfl
          clear hE hO hN
          refine step_plain0 rfl ?_
          go_simp
          exact hK _ _ ⟨rfl, fun h => absurd h (by decide), fun h => absurd h (by decide)⟩ hM (Ext7.refl _)
        · intro T2 w2 hM hN hO hE K hK
          obtain ⟨v10, h10, e10⟩ := hE ⟨10, .data⟩ (by simp) rfl _ _ rfl rfl
          rw [show v10 = .pointer (some ⟨W.heap.size + 1 + 1 + 1, 1, none⟩) from (Option.some.inj e10.1).symm] at h10
          obtain ⟨v1, h1, e1⟩ := hE ⟨1, .data⟩ (by simp) rfl _ _ rfl rfl
          rw [show v1 = .int .i64 nn from (Option.some.inj e1.1).symm] at h1
          clear hE hO hN
          refine step_plain0 rfl ?_
          obtain ⟨p, q, hb⟩ := hM.b
          obtain ⟨xx, hc⟩ : ∃ xx, w2.cell? ⟨W.heap.size + 1 + 1 + 1, 1, none⟩ = some xx := by cases p <;> cases q <;> exact ⟨_, cell_of_row w2 _ 1 _ _ _ hb⟩
          have hf := frozen_of_row w2 _ 1 _ _ hb
          go_simp
          exact hK (.bool false) _ ⟨rfl, fun _ => ⟨q, (hM.put (p := p) (q := q) hb 1 (.int .i64 nn) (p' := true) (q' := q) (by cases p <;> cases q <;> rfl)).2⟩, fun h => absurd h (by decide)⟩ (hM.put (p := p) (q := q) hb 1 (.int .i64 nn) (p' := true) (q' := q) (by cases p <;> cases q <;> rfl)).1 (fun p1 q1 h1 => ⟨true, q1, (hM.put (p := p1) (q := q1) h1 1 (.int .i64 nn) (p' := true) (q' := q1) (by cases p1 <;> cases q1 <;> rfl)).2, fun _ => rfl, id⟩)
        · intro T2 w2 hM hN hO hE K hK
          obtain ⟨v9, h9, e9⟩ := hE ⟨9, .data⟩ (by simp) rfl _ _ rfl rfl
          rw [show v9 = .bool false from (Option.some.inj e9.1).symm] at h9
          clear hE hO hN
          refine step_plain0 rfl ?_
          go_simp
          exact hK _ _ ⟨rfl, fun h => absurd h (by decide), fun h => absurd h (by decide)⟩ hM (Ext7.refl _)
      · intro u w2 hM hF
        have e12 : u 12 = .bool false := (Option.some.inj (hF 12 (by omega)).1).symm
        obtain ⟨q7, hr7⟩ := (hF 11 (by omega)).2.1 rfl
        clear hF
        simp only [fillAll, Nat.reduceAdd, e12, List.take_succ_cons, List.take_zero, List.drop_succ_cons, List.drop_zero, List.setIfInBounds_toArray, List.set_cons_succ, List.set_cons_zero]
        clear e12
        have h5 := hM.m
        have hv5 := hM.v
        have c0 : w2.cell? ⟨W.heap.size, 0, none⟩ = some (.int .i64 1) := cell_of_row w2 _ 0 _ _ _ hv5
        have a0 : w2.cell? ⟨W.heap.size + 1 + 1 + 1, 0, none⟩ = some (.int .i64 1) := cell_of_row w2 _ 0 _ _ _ hr7
        have c1 : w2.cell? ⟨W.heap.size, 1, none⟩ = some (.int .i64 nn) := cell_of_row w2 _ 1 _ _ _ hv5
        have a1 : w2.cell? ⟨W.heap.size + 1 + 1 + 1, 1, none⟩ = some (.int .i64 nn) := cell_of_row w2 _ 1 _ _ _ hr7
        have c2 : w2.cell? ⟨W.heap.size, 2, none⟩ = some (.string S) := cell_of_row w2 _ 2 _ _ _ hv5
        have a2 : w2.cell? ⟨W.heap.size + 1 + 1 + 1, 2, none⟩ = some (.string ⟨#[]⟩) := cell_of_row w2 _ 2 _ _ _ hr7
        have c3 : w2.cell? ⟨W.heap.size, 3, none⟩ = some (.slice AL n cL) := cell_of_row w2 _ 3 _ _ _ hv5
        have a3 : w2.cell? ⟨W.heap.size + 1 + 1 + 1, 3, none⟩ = some (.slice none 0 0) := cell_of_row w2 _ 3 _ _ _ hr7
        have c4 : w2.cell? ⟨W.heap.size, 4, none⟩ = some (.slice AK nk cK) := cell_of_row w2 _ 4 _ _ _ hv5
        have a4 : w2.cell? ⟨W.heap.size + 1 + 1 + 1, 4, none⟩ = some (.slice none 0 0) := cell_of_row w2 _ 4 _ _ _ hr7
        have H5 := hid2 h5
        clear h5 hv5 hr7 hM
        go_wp2_with (go_at_call 79; refine (HAS2.out _ (by have h5 := H5.out; (repeat first | (with_reducible assumption) | (with_reducible refine M5.drew ?_) | (with_reducible refine M5.set ?_ (by omega) _)))).mono ?_; rintro e w3 ⟨r, L', rfl, hl2, hg2, hr2⟩)
        all_goals go_ret
        all_goals clear c0 c1 c2 c3 c4 a0 a1 a2 a3 a4
        all_goals first
          | (refine kpost_no (deep := deep) rfl ?_ ?_
             · have h5 := H5.out
               (repeat first | (with_reducible assumption) | (with_reducible refine M5.drew ?_) | (with_reducible refine M5.set ?_ (by omega) _))
             · rw [HK.out]
               rintro hK
               first
                 | omega
                 | (simp only [bne_iff_ne, bne_eq_false_iff_eq, ne_eq] at *; omega)
                 | (obtain ⟨x1, x2, x3, x4⟩ := hK; contradiction)
                 | (obtain ⟨x1, x2, x3⟩ := hK; contradiction)
                 | fail "left")
          | (refine kpost_yes (deep := deep) (r := r) rfl (W' := _) (?_ : M5 W gl deep (L - 1) _) ?_ hl2 hg2 hr2
             · have h5 := H5.out
               (repeat first | (with_reducible assumption) | (with_reducible refine M5.drew ?_) | (with_reducible refine M5.set ?_ (by omega) _))
             · rw [HK.out]
               try simp only [bne_iff_ne, bne_eq_false_iff_eq, ne_eq] at *
               first
                 | omega
                 | (refine ⟨?_, ?_, ?_, ?_⟩ <;> first | omega | assumption | (left; trivial) | (right; trivial) | trivial)
                 | (refine ⟨?_, ?_, ?_⟩ <;> first | omega | assumption))

set_option maxHeartbeats 800000 in
theorem may_k5 (W : World) (gl deep : Nat) (L nn : Int) (S : ByteArray) (AL AK : Option Addr) (n nk cL cK : Nat) (rk : Bool) (hrk : ∀ W', M5 W gl deep (L - 1) W' → Calls Tryd.prog 78 #[.slice AK nk cK] W' fun e w2 => e = .returned (.bool rk) ∧ w2 = W') (G K : Prop) (hK : K ↔ (nn = 0 ∧ S.toList = [] ∧ n = nk ∧ rk = true)) (ts : Int) (hl : Left W gl L) (h0 : 0 ≤ L) (h1 : L ≤ 20000) (hd : deep ≤ 60) (hL : ¬ L - 1 < 0) (hln : n ≤ maxLen) (hlk : nk ≤ maxLen) (has : HAS W gl deep L AL n cL G ts) :
    Calls Tryd.prog 53 #[.agg #[.int .i64 5, .int .i64 nn, .string S, .slice AL n cL, .slice AK nk cK], .int .i64 deep, .pointer (some ⟨gl, 0, none⟩)] W (KPost W gl L G ts K) := by
  have hlt := hl.lt
  have hwl : IntKind.i64.wrap (L - 1) = L - 1 := by unfold IntKind.wrap; simp [IntKind.bits, IntKind.signed]; omega
  have hdd : ¬ (60 : Int) < deep := by omega
  have h4 := m4_of (deep := deep) hl (.cells #[.int .i64 5, .int .i64 nn, .string S, .slice AL n cL, .slice AK nk cK] 40) (L - 1)
  have h5 := h4.alloc (.cells #[.int .i64 5, .int .i64 0, .string ⟨#[]⟩, .slice none 0 0, .slice none 0 0] 40)
  have hl3 : Left (((W.alloc (.cells #[.int .i64 5, .int .i64 nn, .string S, .slice AL n cL, .slice AK nk cK] 40)).alloc (.cells #[.int .i64 deep] 3)).alloc (.cells #[.pointer (some ⟨gl, 0, none⟩)] 84)) gl L := (Below.heap_alloc _ _ _ (by rw [World.size_alloc, World.size_alloc]; omega)).trans ((Below.heap_alloc _ _ _ (by rw [World.size_alloc]; omega)).trans ((Below.heap_alloc _ _ _ hlt).trans hl))
  have hp3 : ((((W.alloc (.cells #[.int .i64 5, .int .i64 nn, .string S, .slice AL n cL, .slice AK nk cK] 40)).alloc (.cells #[.int .i64 deep] 3)).alloc (.cells #[.pointer (some ⟨gl, 0, none⟩)] 84))).cell? ⟨W.heap.size + 1 + 1, 0, none⟩ = some (.pointer (some ⟨gl, 0, none⟩)) := by rw [show W.heap.size + 1 + 1 = ((W.alloc (.cells #[.int .i64 5, .int .i64 nn, .string S, .slice AL n cL, .slice AK nk cK] 40)).alloc (.cells #[.int .i64 deep] 3)).heap.size by rw [World.size_alloc, World.size_alloc]]; exact cell_of_row _ _ 0 _ _ _ (heap_alloc_new _ _)
  have q3 := hl3.cell
  have f3 := hl3.free
  have q4 := h4.left.cell
  have p4 := cell_of_row ((((W.alloc (.cells #[.int .i64 5, .int .i64 nn, .string S, .slice AL n cL, .slice AK nk cK] 40)).alloc (.cells #[.int .i64 deep] 3)).alloc (.cells #[.pointer (some ⟨gl, 0, none⟩)] 84)).setCell ⟨gl, 0, none⟩ (.int .i64 (L - 1))) _ 0 _ _ _ h4.caps.p
  have d4 := cell_of_row ((((W.alloc (.cells #[.int .i64 5, .int .i64 nn, .string S, .slice AL n cL, .slice AK nk cK] 40)).alloc (.cells #[.int .i64 deep] 3)).alloc (.cells #[.pointer (some ⟨gl, 0, none⟩)] 84)).setCell ⟨gl, 0, none⟩ (.int .i64 (L - 1))) _ 0 _ _ _ h4.caps.d
  have hb3 : ((((W.alloc (.cells #[.int .i64 5, .int .i64 nn, .string S, .slice AL n cL, .slice AK nk cK] 40)).alloc (.cells #[.int .i64 deep] 3)).alloc (.cells #[.pointer (some ⟨gl, 0, none⟩)] 84))).heap[W.heap.size]? = some (.cells #[.int .i64 5, .int .i64 nn, .string S, .slice AL n cL, .slice AK nk cK] 40) := by
    have e1 := heap_alloc_new W (.cells #[.int .i64 5, .int .i64 nn, .string S, .slice AL n cL, .slice AK nk cK] 40)
    exact (Below.heap_alloc _ _ _ (by rw [World.size_alloc, World.size_alloc]; omega)).trans ((Below.heap_alloc _ _ _ (by rw [World.size_alloc]; omega)).trans e1)
  have hb4 : (((((W.alloc (.cells #[.int .i64 5, .int .i64 nn, .string S, .slice AL n cL, .slice AK nk cK] 40)).alloc (.cells #[.int .i64 deep] 3)).alloc (.cells #[.pointer (some ⟨gl, 0, none⟩)] 84)).setCell ⟨gl, 0, none⟩ (.int .i64 (L - 1)))).heap[W.heap.size]? = some (.cells #[.int .i64 5, .int .i64 nn, .string S, .slice AL n cL, .slice AK nk cK] 40) := (Below.heap_setCell _ ⟨gl, 0, none⟩ _ _ (show W.heap.size ≠ gl by omega)).trans hb3
  have r0 : (((((W.alloc (.cells #[.int .i64 5, .int .i64 nn, .string S, .slice AL n cL, .slice AK nk cK] 40)).alloc (.cells #[.int .i64 deep] 3)).alloc (.cells #[.pointer (some ⟨gl, 0, none⟩)] 84)).setCell ⟨gl, 0, none⟩ (.int .i64 (L - 1)))).cell? ⟨W.heap.size, 0, none⟩ = some (.int .i64 5) := cell_of_row _ _ 0 _ _ _ hb4
  have hz4 : (((((W.alloc (.cells #[.int .i64 5, .int .i64 nn, .string S, .slice AL n cL, .slice AK nk cK] 40)).alloc (.cells #[.int .i64 deep] 3)).alloc (.cells #[.pointer (some ⟨gl, 0, none⟩)] 84)).setCell ⟨gl, 0, none⟩ (.int .i64 (L - 1)))).heap.size = W.heap.size + 1 + 1 + 1 := by rw [World.size_setCell, World.size_alloc, World.size_alloc, World.size_alloc]
  have hb5 : ((((((W.alloc (.cells #[.int .i64 5, .int .i64 nn, .string S, .slice AL n cL, .slice AK nk cK] 40)).alloc (.cells #[.int .i64 deep] 3)).alloc (.cells #[.pointer (some ⟨gl, 0, none⟩)] 84)).setCell ⟨gl, 0, none⟩ (.int .i64 (L - 1))).alloc (.cells #[.int .i64 5, .int .i64 0, .string ⟨#[]⟩, .slice none 0 0, .slice none 0 0] 40))).heap[W.heap.size]? = some (.cells #[.int .i64 5, .int .i64 nn, .string S, .slice AL n cL, .slice AK nk cK] 40) := (Below.heap_alloc _ _ _ (by rw [hz4]; omega)).trans hb4
  have ha5 : ((((((W.alloc (.cells #[.int .i64 5, .int .i64 nn, .string S, .slice AL n cL, .slice AK nk cK] 40)).alloc (.cells #[.int .i64 deep] 3)).alloc (.cells #[.pointer (some ⟨gl, 0, none⟩)] 84)).setCell ⟨gl, 0, none⟩ (.int .i64 (L - 1))).alloc (.cells #[.int .i64 5, .int .i64 0, .string ⟨#[]⟩, .slice none 0 0, .slice none 0 0] 40))).heap[W.heap.size + 1 + 1 + 1]? = some (.cells #[.int .i64 5, .int .i64 0, .string ⟨#[]⟩, .slice none 0 0, .slice none 0 0] 40) := by rw [← hz4]; exact heap_alloc_new _ _
  have b0 : ((((((W.alloc (.cells #[.int .i64 5, .int .i64 nn, .string S, .slice AL n cL, .slice AK nk cK] 40)).alloc (.cells #[.int .i64 deep] 3)).alloc (.cells #[.pointer (some ⟨gl, 0, none⟩)] 84)).setCell ⟨gl, 0, none⟩ (.int .i64 (L - 1))).alloc (.cells #[.int .i64 5, .int .i64 0, .string ⟨#[]⟩, .slice none 0 0, .slice none 0 0] 40))).cell? ⟨W.heap.size, 0, none⟩ = some (.int .i64 5) := cell_of_row _ _ 0 _ _ _ hb5
  have HL := hid2 hl
  have HAS2 := hid2 has
  have HK := hid2 hK
  clear hK h4 hl3 hb3 hb4 hz4 has
  have HRK := hid2 hrk
  clear hrk
  rcases Decidable.em (n = nk) with rfl | hne
  · have nn0 : ((n : Int) == n) = true := beq_self_eq_true _
    cases rk with
    | true =>
      unfold maxLen at hln hlk
      go_enter Tryd.func53, Tryd.ntmps53
      go_wp2_with fail
      have hx0 : XM W gl deep (L - 1) #[.int .i64 5, .int .i64 nn, .string S, .slice AL n cL, .slice AK n cK] (fun p q => #[.int .i64 5, .int .i64 0, .string ⟨#[]⟩, if p then .slice AL n cL else .slice none 0 0, if q then .slice AK n cK else .slice none 0 0]) ((((((W.alloc (.cells #[.int .i64 5, .int .i64 nn, .string S, .slice AL n cL, .slice AK n cK] 40)).alloc (.cells #[.int .i64 deep] 3)).alloc (.cells #[.pointer (some ⟨gl, 0, none⟩)] 84)).setCell ⟨gl, 0, none⟩ (.int .i64 (L - 1))).alloc (.cells #[.int .i64 5, .int .i64 0, .string ⟨#[]⟩, .slice none 0 0, .slice none 0 0] 40))).drew := ⟨h5.drew, hb5, false, false, ha5⟩
      have HX0 := hid2 hx0
      clear hx0 h5 hb5 ha5 q3 f3 q4 p4 d4 r0 b0 hp3
      refine wp_region_grd 21 (by kernel_rfl) (by kernel_rfl) (by kernel_rfl) _ rfl (by kernel_rfl) (V7 W (fun p q => #[.int .i64 5, .int .i64 0, .string ⟨#[]⟩, if p then .slice AL n cL else .slice none 0 0, if q then .slice AK n cK else .slice none 0 0]) [.pointer (some ⟨W.heap.size, 3, none⟩), .slice AL n cL, .pointer (some ⟨W.heap.size, 4, none⟩), .slice AK n cK, .pointer (some ⟨W.heap.size, 3, none⟩), .slice AL n cL, .int .i64 n, .pointer (some ⟨W.heap.size, 4, none⟩), .slice AK n cK, .int .i64 n, .bool true, .bool true, .pointer (some ⟨W.heap.size, 4, none⟩), .slice AK n cK, .bool true, .bool true, .pointer (some ⟨W.heap.size + 1 + 1 + 1, 3, none⟩), .bool false, .pointer (some ⟨W.heap.size + 1 + 1 + 1, 4, none⟩), .bool false, .bool true] 17 19) (XM W gl deep (L - 1) #[.int .i64 5, .int .i64 nn, .string S, .slice AL n cL, .slice AK n cK] (fun p q => #[.int .i64 5, .int .i64 0, .string ⟨#[]⟩, if p then .slice AL n cL else .slice none 0 0, if q then .slice AK n cK else .slice none 0 0])) (Ext7 W (fun p q => #[.int .i64 5, .int .i64 0, .string ⟨#[]⟩, if p then .slice AL n cL else .slice none 0 0, if q then .slice AK n cK else .slice none 0 0])) (HX0.out) (fun _ _ _ _ hb hv => V7.keep hv hb) ?_ ?_
      · refine of_allOps ⟨?_, ?_, ?_, ?_, ?_, ?_, ?_, ?_, ?_, ?_, ?_, ?_, ?_, ?_, ?_, ?_, ?_, ?_, ?_, ?_, ?_, trivial⟩
        · intro T2 w2 hM hN hO hE K hK
          have o3 : T2[3]? = some (.pointer (some ⟨W.heap.size, 0, none⟩)) := hO 3 rfl
          clear hE hO hN
          refine step_plain0 rfl ?_
          go_simp
          exact hK _ _ ⟨rfl, fun h => absurd h (by decide), fun h => absurd h (by decide)⟩ hM (Ext7.refl _)
        · intro T2 w2 hM hN hO hE K hK
          obtain ⟨v0, h0, e0⟩ := hE ⟨0, .data⟩ (by simp) rfl _ _ rfl rfl
          rw [show v0 = .pointer (some ⟨W.heap.size, 3, none⟩) from (Option.some.inj e0.1).symm] at h0
          clear hE hO hN
          refine step_plain0 rfl ?_
          have hc : w2.cell? ⟨W.heap.size, 3, none⟩ = some (.slice AL n cL) := cell_of_row w2 _ 3 _ _ _ hM.v
          go_simp
          exact hK _ _ ⟨rfl, fun h => absurd h (by decide), fun h => absurd h (by decide)⟩ hM (Ext7.refl _)
        · intro T2 w2 hM hN hO hE K hK
          have o3 : T2[3]? = some (.pointer (some ⟨W.heap.size, 0, none⟩)) := hO 3 rfl
          clear hE hO hN
          refine step_plain0 rfl ?_
          go_simp
          exact hK _ _ ⟨rfl, fun h => absurd h (by decide), fun h => absurd h (by decide)⟩ hM (Ext7.refl _)
        · intro T2 w2 hM hN hO hE K hK
          obtain ⟨v2, h2, e2⟩ := hE ⟨2, .data⟩ (by simp) rfl _ _ rfl rfl
          rw [show v2 = .pointer (some ⟨W.heap.size, 4, none⟩) from (Option.some.inj e2.1).symm] at h2
          clear hE hO hN
          refine step_plain0 rfl ?_
          have hc : w2.cell? ⟨W.heap.size, 4, none⟩ = some (.slice AK n cK) := cell_of_row w2 _ 4 _ _ _ hM.v
          go_simp
          exact hK _ _ ⟨rfl, fun h => absurd h (by decide), fun h => absurd h (by decide)⟩ hM (Ext7.refl _)
        · intro T2 w2 hM hN hO hE K hK
          have o3 : T2[3]? = some (.pointer (some ⟨W.heap.size, 0, none⟩)) := hO 3 rfl
          clear hE hO hN
          refine step_plain0 rfl ?_
          go_simp
          exact hK _ _ ⟨rfl, fun h => absurd h (by decide), fun h => absurd h (by decide)⟩ hM (Ext7.refl _)
        · intro T2 w2 hM hN hO hE K hK
          obtain ⟨v4, h4, e4⟩ := hE ⟨4, .data⟩ (by simp) rfl _ _ rfl rfl
          rw [show v4 = .pointer (some ⟨W.heap.size, 3, none⟩) from (Option.some.inj e4.1).symm] at h4
          clear hE hO hN
          refine step_plain0 rfl ?_
          have hc : w2.cell? ⟨W.heap.size, 3, none⟩ = some (.slice AL n cL) := cell_of_row w2 _ 3 _ _ _ hM.v
          go_simp
          exact hK _ _ ⟨rfl, fun h => absurd h (by decide), fun h => absurd h (by decide)⟩ hM (Ext7.refl _)
        · intro T2 w2 hM hN hO hE K hK
          obtain ⟨v5, h5, e5⟩ := hE ⟨5, .data⟩ (by simp) rfl _ _ rfl rfl
          rw [show v5 = .slice AL n cL from (Option.some.inj e5.1).symm] at h5
          clear hE hO hN
          refine step_plain0 rfl ?_
          go_simp
          exact hK _ _ ⟨rfl, fun h => absurd h (by decide), fun h => absurd h (by decide)⟩ hM (Ext7.refl _)
        · intro T2 w2 hM hN hO hE K hK
          have o3 : T2[3]? = some (.pointer (some ⟨W.heap.size, 0, none⟩)) := hO 3 rfl
          clear hE hO hN
          refine step_plain0 rfl ?_
          go_simp
          exact hK _ _ ⟨rfl, fun h => absurd h (by decide), fun h => absurd h (by decide)⟩ hM (Ext7.refl _)
        · intro T2 w2 hM hN hO hE K hK
          obtain ⟨v7, h7, e7⟩ := hE ⟨7, .data⟩ (by simp) rfl _ _ rfl rfl
          rw [show v7 = .pointer (some ⟨W.heap.size, 4, none⟩) from (Option.some.inj e7.1).symm] at h7
          clear hE hO hN
          refine step_plain0 rfl ?_
          have hc : w2.cell? ⟨W.heap.size, 4, none⟩ = some (.slice AK n cK) := cell_of_row w2 _ 4 _ _ _ hM.v
          go_simp
          exact hK _ _ ⟨rfl, fun h => absurd h (by decide), fun h => absurd h (by decide)⟩ hM (Ext7.refl _)
        · intro T2 w2 hM hN hO hE K hK
          obtain ⟨v8, h8, e8⟩ := hE ⟨8, .data⟩ (by simp) rfl _ _ rfl rfl
          rw [show v8 = .slice AK n cK from (Option.some.inj e8.1).symm] at h8
          clear hE hO hN
          refine step_plain0 rfl ?_
          go_simp
          exact hK _ _ ⟨rfl, fun h => absurd h (by decide), fun h => absurd h (by decide)⟩ hM (Ext7.refl _)
        · intro T2 w2 hM hN hO hE K hK
          obtain ⟨v6, h6, e6⟩ := hE ⟨6, .data⟩ (by simp) rfl _ _ rfl rfl
          rw [show v6 = .int .i64 n from (Option.some.inj e6.1).symm] at h6
          obtain ⟨v9, h9, e9⟩ := hE ⟨9, .data⟩ (by simp) rfl _ _ rfl rfl
          rw [show v9 = .int .i64 n from (Option.some.inj e9.1).symm] at h9
          clear hE hO hN
          refine step_plain0 rfl ?_
          go_simp
          exact hK _ _ ⟨rfl, fun h => absurd h (by decide), fun h => absurd h (by decide)⟩ hM (Ext7.refl _)
        · intro T2 w2 hM hN hO hE K hK
          obtain ⟨v10, h10, e10⟩ := hE ⟨10, .data⟩ (by simp) rfl _ _ rfl rfl
          rw [show v10 = .bool true from (Option.some.inj e10.1).symm] at h10
          clear hE hO hN
          refine step_plain0 rfl ?_
          go_simp
          exact hK _ _ ⟨rfl, fun h => absurd h (by decide), fun h => absurd h (by decide)⟩ hM (Ext7.refl _)
        · intro T2 w2 hM hN hO hE K hK
          obtain ⟨v11, h11, e11⟩ := hE ⟨11, .guard⟩ (by simp) rfl _ _ rfl rfl
          rw [show v11 = .bool true from (Option.some.inj e11.1).symm] at h11
          have o3 : T2[3]? = some (.pointer (some ⟨W.heap.size, 0, none⟩)) := hO 3 rfl
          clear hE hO hN
          refine grd_met rfl rfl rfl h11 ?_
          go_simp
          exact hK _ _ ⟨rfl, fun h => absurd h (by decide), fun h => absurd h (by decide)⟩ hM (Ext7.refl _)
        · intro T2 w2 hM hN hO hE K hK
          obtain ⟨v12, h12, e12⟩ := hE ⟨12, .data⟩ (by simp) rfl _ _ rfl rfl
          rw [show v12 = .pointer (some ⟨W.heap.size, 4, none⟩) from (Option.some.inj e12.1).symm] at h12
          obtain ⟨v11, h11, e11⟩ := hE ⟨11, .guard⟩ (by simp) rfl _ _ rfl rfl
          rw [show v11 = .bool true from (Option.some.inj e11.1).symm] at h11
          clear hE hO hN
          refine grd_met rfl rfl rfl h11 ?_
          have hc : w2.cell? ⟨W.heap.size, 4, none⟩ = some (.slice AK n cK) := cell_of_row w2 _ 4 _ _ _ hM.v
          go_simp
          exact hK _ _ ⟨rfl, fun h => absurd h (by decide), fun h => absurd h (by decide)⟩ hM (Ext7.refl _)
        · intro T2 w2 hM hN hO hE K hK
          obtain ⟨v13, h13, e13⟩ := hE ⟨13, .data⟩ (by simp) rfl _ _ rfl rfl
          rw [show v13 = .slice AK n cK from (Option.some.inj e13.1).symm] at h13
          obtain ⟨v11, h11, e11⟩ := hE ⟨11, .guard⟩ (by simp) rfl _ _ rfl rfl
          rw [show v11 = .bool true from (Option.some.inj e11.1).symm] at h11
          clear hE hO hN
          refine grd_met rfl rfl rfl h11 ?_
          go_wp2_with (go_at_call 78; refine (HRK.out w2 hM.m).mono ?_; rintro e w3 ⟨rfl, rfl⟩)
          exact hK _ _ ⟨rfl, fun h => absurd h (by decide), fun h => absurd h (by decide)⟩ hM (Ext7.refl _)
        · intro T2 w2 hM hN hO hE K hK
          obtain ⟨v11, h11, e11⟩ := hE ⟨11, .data⟩ (by simp) rfl _ _ rfl rfl
          rw [show v11 = .bool true from (Option.some.inj e11.1).symm] at h11
          obtain ⟨v14, h14, e14⟩ := hE ⟨14, .data⟩ (by simp) rfl _ _ rfl rfl
          rw [show v14 = .bool true from (Option.some.inj e14.1).symm] at h14
          clear hE hO hN
          refine step_plain0 rfl ?_
          go_simp
          exact hK _ _ ⟨rfl, fun h => absurd h (by decide), fun h => absurd h (by decide)⟩ hM (Ext7.refl _)
        · intro T2 w2 hM hN hO hE K hK
          have o7 : T2[7]? = some (.pointer (some ⟨W.heap.size + 1 + 1 + 1, 0, none⟩)) := hO 7 rfl
          clear hE hO hN
          refine step_plain0 rfl ?_
          go_simp
          exact hK _ _ ⟨rfl, fun h => absurd h (by decide), fun h => absurd h (by decide)⟩ hM (Ext7.refl _)
        · intro T2 w2 hM hN hO hE K hK
          obtain ⟨v16, h16, e16⟩ := hE ⟨16, .data⟩ (by simp) rfl _ _ rfl rfl
          rw [show v16 = .pointer (some ⟨W.heap.size + 1 + 1 + 1, 3, none⟩) from (Option.some.inj e16.1).symm] at h16
          obtain ⟨v1, h1, e1⟩ := hE ⟨1, .data⟩ (by simp) rfl _ _ rfl rfl
          rw [show v1 = .slice AL n cL from (Option.some.inj e1.1).symm] at h1
          clear hE hO hN
          refine step_plain0 rfl ?_
          obtain ⟨p, q, hb⟩ := hM.b
          obtain ⟨xx, hc⟩ : ∃ xx, w2.cell? ⟨W.heap.size + 1 + 1 + 1, 3, none⟩ = some xx := by cases p <;> cases q <;> exact ⟨_, cell_of_row w2 _ 3 _ _ _ hb⟩
          have hf := frozen_of_row w2 _ 3 _ _ hb
          go_simp
          exact hK (.bool false) _ ⟨rfl, fun _ => ⟨q, (hM.put (p := p) (q := q) hb 3 (.slice AL n cL) (p' := true) (q' := q) (by cases p <;> cases q <;> rfl)).2⟩, fun h => absurd h (by decide)⟩ (hM.put (p := p) (q := q) hb 3 (.slice AL n cL) (p' := true) (q' := q) (by cases p <;> cases q <;> rfl)).1 (fun p1 q1 h1 => ⟨true, q1, (hM.put (p := p1) (q := q1) h1 3 (.slice AL n cL) (p' := true) (q' := q1) (by cases p1 <;> cases q1 <;> rfl)).2, fun _ => rfl, id⟩)
        · intro T2 w2 hM hN hO hE K hK
          have o7 : T2[7]? = some (.pointer (some ⟨W.heap.size + 1 + 1 + 1, 0, none⟩)) := hO 7 rfl
          clear hE hO hN
          refine step_plain0 rfl ?_
          go_simp
          exact hK _ _ ⟨rfl, fun h => absurd h (by decide), fun h => absurd h (by decide)⟩ hM (Ext7.refl _)
        · intro T2 w2 hM hN hO hE K hK
          obtain ⟨v18, h18, e18⟩ := hE ⟨18, .data⟩ (by simp) rfl _ _ rfl rfl
          rw [show v18 = .pointer (some ⟨W.heap.size + 1 + 1 + 1, 4, none⟩) from (Option.some.inj e18.1).symm] at h18
          obtain ⟨v3, h3, e3⟩ := hE ⟨3, .data⟩ (by simp) rfl _ _ rfl rfl
          rw [show v3 = .slice AK n cK from (Option.some.inj e3.1).symm] at h3
          clear hE hO hN
          refine step_plain0 rfl ?_
          obtain ⟨p, q, hb⟩ := hM.b
          obtain ⟨xx, hc⟩ : ∃ xx, w2.cell? ⟨W.heap.size + 1 + 1 + 1, 4, none⟩ = some xx := by cases p <;> cases q <;> exact ⟨_, cell_of_row w2 _ 4 _ _ _ hb⟩
          have hf := frozen_of_row w2 _ 4 _ _ hb
          go_simp
          exact hK (.bool false) _ ⟨rfl, fun h => absurd h (by decide), fun _ => ⟨p, (hM.put (p := p) (q := q) hb 4 (.slice AK n cK) (p' := p) (q' := true) (by cases p <;> cases q <;> rfl)).2⟩⟩ (hM.put (p := p) (q := q) hb 4 (.slice AK n cK) (p' := p) (q' := true) (by cases p <;> cases q <;> rfl)).1 (fun p1 q1 h1 => ⟨p1, true, (hM.put (p := p1) (q := q1) h1 4 (.slice AK n cK) (p' := p1) (q' := true) (by cases p1 <;> cases q1 <;> rfl)).2, id, fun _ => rfl⟩)
        · intro T2 w2 hM hN hO hE K hK
          obtain ⟨v15, h15, e15⟩ := hE ⟨15, .data⟩ (by simp) rfl _ _ rfl rfl
          rw [show v15 = .bool true from (Option.some.inj e15.1).symm] at h15
          clear hE hO hN
          refine step_plain0 rfl ?_
          go_simp
          exact hK _ _ ⟨rfl, fun h => absurd h (by decide), fun h => absurd h (by decide)⟩ hM (Ext7.refl _)
      · intro u w2 hM hF
        have e20 : u 20 = .bool true := (Option.some.inj (hF 20 (by omega)).1).symm
        obtain ⟨q7, hq7⟩ := (hF 17 (by omega)).2.1 rfl
        obtain ⟨p7, hp7⟩ := (hF 19 (by omega)).2.2 rfl
        have hr7 : Row7 W w2 #[.int .i64 5, .int .i64 0, .string ⟨#[]⟩, .slice AL n cL, .slice AK n cK] := by
          cases q7 with
          | true => exact hq7
          | false =>
            cases p7 with
            | true => exact hp7
            | false =>
              have hpq := hq7.symm.trans hp7
              have h4 : (some (Value.slice none 0 0)) = some (Value.slice AK n cK) := congrArg (fun o : Option Obj => match o with | some (.cells R _ _) => R[4]? | _ => none) hpq
              exact hq7.trans (by rw [← Option.some.inj h4]; rfl)
        clear hF
        simp only [fillAll, Nat.reduceAdd, e20, List.take_succ_cons, List.take_zero, List.drop_succ_cons, List.drop_zero, List.setIfInBounds_toArray, List.set_cons_succ, List.set_cons_zero]
        clear e20
        have h5 := hM.m
        have hv5 := hM.v
        have c0 : w2.cell? ⟨W.heap.size, 0, none⟩ = some (.int .i64 5) := cell_of_row w2 _ 0 _ _ _ hv5
        have a0 : w2.cell? ⟨W.heap.size + 1 + 1 + 1, 0, none⟩ = some (.int .i64 5) := cell_of_row w2 _ 0 _ _ _ hr7
        have c1 : w2.cell? ⟨W.heap.size, 1, none⟩ = some (.int .i64 nn) := cell_of_row w2 _ 1 _ _ _ hv5
        have a1 : w2.cell? ⟨W.heap.size + 1 + 1 + 1, 1, none⟩ = some (.int .i64 0) := cell_of_row w2 _ 1 _ _ _ hr7
        have c2 : w2.cell? ⟨W.heap.size, 2, none⟩ = some (.string S) := cell_of_row w2 _ 2 _ _ _ hv5
        have a2 : w2.cell? ⟨W.heap.size + 1 + 1 + 1, 2, none⟩ = some (.string ⟨#[]⟩) := cell_of_row w2 _ 2 _ _ _ hr7
        have c3 : w2.cell? ⟨W.heap.size, 3, none⟩ = some (.slice AL n cL) := cell_of_row w2 _ 3 _ _ _ hv5
        have a3 : w2.cell? ⟨W.heap.size + 1 + 1 + 1, 3, none⟩ = some (.slice AL n cL) := cell_of_row w2 _ 3 _ _ _ hr7
        have c4 : w2.cell? ⟨W.heap.size, 4, none⟩ = some (.slice AK n cK) := cell_of_row w2 _ 4 _ _ _ hv5
        have a4 : w2.cell? ⟨W.heap.size + 1 + 1 + 1, 4, none⟩ = some (.slice AK n cK) := cell_of_row w2 _ 4 _ _ _ hr7
        have H5 := hid2 h5
        clear h5 hv5 hr7 hM
        go_wp2_with (go_at_call 79; refine (HAS2.out _ (by have h5 := H5.out; (repeat first | (with_reducible assumption) | (with_reducible refine M5.drew ?_) | (with_reducible refine M5.set ?_ (by omega) _)))).mono ?_; rintro e w3 ⟨r, L', rfl, hl2, hg2, hr2⟩)
        all_goals go_ret
        all_goals clear c0 c1 c2 c3 c4 a0 a1 a2 a3 a4
        all_goals first
          | (refine kpost_no (deep := deep) rfl ?_ ?_
             · have h5 := H5.out
               (repeat first | (with_reducible assumption) | (with_reducible refine M5.drew ?_) | (with_reducible refine M5.set ?_ (by omega) _))
             · rw [HK.out]
               rintro hK
               first
                 | omega
                 | (simp only [bne_iff_ne, bne_eq_false_iff_eq, ne_eq] at *; omega)
                 | (obtain ⟨x1, x2, x3, x4⟩ := hK; contradiction)
                 | (obtain ⟨x1, x2, x3⟩ := hK; contradiction)
                 | fail "left")
          | (refine kpost_yes (deep := deep) (r := r) rfl (W' := _) (?_ : M5 W gl deep (L - 1) _) ?_ hl2 hg2 hr2
             · have h5 := H5.out
               (repeat first | (with_reducible assumption) | (with_reducible refine M5.drew ?_) | (with_reducible refine M5.set ?_ (by omega) _))
             · rw [HK.out]
               try simp only [bne_iff_ne, bne_eq_false_iff_eq, ne_eq] at *
               first
                 | omega
                 | (refine ⟨?_, ?_, ?_, ?_⟩ <;> first | omega | assumption | (left; trivial) | (right; trivial) | trivial)
                 | (refine ⟨?_, ?_, ?_⟩ <;> first | omega | assumption))
    | false =>
      unfold maxLen at hln hlk
      go_enter Tryd.func53, Tryd.ntmps53
      go_wp2_with fail
      have hx0 : XM W gl deep (L - 1) #[.int .i64 5, .int .i64 nn, .string S, .slice AL n cL, .slice AK n cK] (fun p q => #[.int .i64 5, .int .i64 0, .string ⟨#[]⟩, if p then .slice AL n cL else .slice none 0 0, if q then .slice AK n cK else .slice none 0 0]) ((((((W.alloc (.cells #[.int .i64 5, .int .i64 nn, .string S, .slice AL n cL, .slice AK n cK] 40)).alloc (.cells #[.int .i64 deep] 3)).alloc (.cells #[.pointer (some ⟨gl, 0, none⟩)] 84)).setCell ⟨gl, 0, none⟩ (.int .i64 (L - 1))).alloc (.cells #[.int .i64 5, .int .i64 0, .string ⟨#[]⟩, .slice none 0 0, .slice none 0 0] 40))).drew := ⟨h5.drew, hb5, false, false, ha5⟩
      have HX0 := hid2 hx0
      clear hx0 h5 hb5 ha5 q3 f3 q4 p4 d4 r0 b0 hp3
      refine wp_region_grd 21 (by kernel_rfl) (by kernel_rfl) (by kernel_rfl) _ rfl (by kernel_rfl) (V7 W (fun p q => #[.int .i64 5, .int .i64 0, .string ⟨#[]⟩, if p then .slice AL n cL else .slice none 0 0, if q then .slice AK n cK else .slice none 0 0]) [.pointer (some ⟨W.heap.size, 3, none⟩), .slice AL n cL, .pointer (some ⟨W.heap.size, 4, none⟩), .slice AK n cK, .pointer (some ⟨W.heap.size, 3, none⟩), .slice AL n cL, .int .i64 n, .pointer (some ⟨W.heap.size, 4, none⟩), .slice AK n cK, .int .i64 n, .bool true, .bool true, .pointer (some ⟨W.heap.size, 4, none⟩), .slice AK n cK, .bool false, .bool false, .pointer (some ⟨W.heap.size + 1 + 1 + 1, 3, none⟩), .bool false, .pointer (some ⟨W.heap.size + 1 + 1 + 1, 4, none⟩), .bool false, .bool false] 17 19) (XM W gl deep (L - 1) #[.int .i64 5, .int .i64 nn, .string S, .slice AL n cL, .slice AK n cK] (fun p q => #[.int .i64 5, .int .i64 0, .string ⟨#[]⟩, if p then .slice AL n cL else .slice none 0 0, if q then .slice AK n cK else .slice none 0 0])) (Ext7 W (fun p q => #[.int .i64 5, .int .i64 0, .string ⟨#[]⟩, if p then .slice AL n cL else .slice none 0 0, if q then .slice AK n cK else .slice none 0 0])) (HX0.out) (fun _ _ _ _ hb hv => V7.keep hv hb) ?_ ?_
      · refine of_allOps ⟨?_, ?_, ?_, ?_, ?_, ?_, ?_, ?_, ?_, ?_, ?_, ?_, ?_, ?_, ?_, ?_, ?_, ?_, ?_, ?_, ?_, trivial⟩
        · intro T2 w2 hM hN hO hE K hK
          have o3 : T2[3]? = some (.pointer (some ⟨W.heap.size, 0, none⟩)) := hO 3 rfl
          clear hE hO hN
          refine step_plain0 rfl ?_
          go_simp
          exact hK _ _ ⟨rfl, fun h => absurd h (by decide), fun h => absurd h (by decide)⟩ hM (Ext7.refl _)
        · intro T2 w2 hM hN hO hE K hK
          obtain ⟨v0, h0, e0⟩ := hE ⟨0, .data⟩ (by simp) rfl _ _ rfl rfl
          rw [show v0 = .pointer (some ⟨W.heap.size, 3, none⟩) from (Option.some.inj e0.1).symm] at h0
          clear hE hO hN
          refine step_plain0 rfl ?_
          have hc : w2.cell? ⟨W.heap.size, 3, none⟩ = some (.slice AL n cL) := cell_of_row w2 _ 3 _ _ _ hM.v
          go_simp
          exact hK _ _ ⟨rfl, fun h => absurd h (by decide), fun h => absurd h (by decide)⟩ hM (Ext7.refl _)
        · intro T2 w2 hM hN hO hE K hK
          have o3 : T2[3]? = some (.pointer (some ⟨W.heap.size, 0, none⟩)) := hO 3 rfl
          clear hE hO hN
          refine step_plain0 rfl ?_
          go_simp
          exact hK _ _ ⟨rfl, fun h => absurd h (by decide), fun h => absurd h (by decide)⟩ hM (Ext7.refl _)
        · intro T2 w2 hM hN hO hE K hK
          obtain ⟨v2, h2, e2⟩ := hE ⟨2, .data⟩ (by simp) rfl _ _ rfl rfl
          rw [show v2 = .pointer (some ⟨W.heap.size, 4, none⟩) from (Option.some.inj e2.1).symm] at h2
          clear hE hO hN
          refine step_plain0 rfl ?_
          have hc : w2.cell? ⟨W.heap.size, 4, none⟩ = some (.slice AK n cK) := cell_of_row w2 _ 4 _ _ _ hM.v
          go_simp
          exact hK _ _ ⟨rfl, fun h => absurd h (by decide), fun h => absurd h (by decide)⟩ hM (Ext7.refl _)
        · intro T2 w2 hM hN hO hE K hK
          have o3 : T2[3]? = some (.pointer (some ⟨W.heap.size, 0, none⟩)) := hO 3 rfl
          clear hE hO hN
          refine step_plain0 rfl ?_
          go_simp
          exact hK _ _ ⟨rfl, fun h => absurd h (by decide), fun h => absurd h (by decide)⟩ hM (Ext7.refl _)
        · intro T2 w2 hM hN hO hE K hK
          obtain ⟨v4, h4, e4⟩ := hE ⟨4, .data⟩ (by simp) rfl _ _ rfl rfl
          rw [show v4 = .pointer (some ⟨W.heap.size, 3, none⟩) from (Option.some.inj e4.1).symm] at h4
          clear hE hO hN
          refine step_plain0 rfl ?_
          have hc : w2.cell? ⟨W.heap.size, 3, none⟩ = some (.slice AL n cL) := cell_of_row w2 _ 3 _ _ _ hM.v
          go_simp
          exact hK _ _ ⟨rfl, fun h => absurd h (by decide), fun h => absurd h (by decide)⟩ hM (Ext7.refl _)
        · intro T2 w2 hM hN hO hE K hK
          obtain ⟨v5, h5, e5⟩ := hE ⟨5, .data⟩ (by simp) rfl _ _ rfl rfl
          rw [show v5 = .slice AL n cL from (Option.some.inj e5.1).symm] at h5
          clear hE hO hN
          refine step_plain0 rfl ?_
          go_simp
          exact hK _ _ ⟨rfl, fun h => absurd h (by decide), fun h => absurd h (by decide)⟩ hM (Ext7.refl _)
        · intro T2 w2 hM hN hO hE K hK
          have o3 : T2[3]? = some (.pointer (some ⟨W.heap.size, 0, none⟩)) := hO 3 rfl
          clear hE hO hN
          refine step_plain0 rfl ?_
          go_simp
          exact hK _ _ ⟨rfl, fun h => absurd h (by decide), fun h => absurd h (by decide)⟩ hM (Ext7.refl _)
        · intro T2 w2 hM hN hO hE K hK
          obtain ⟨v7, h7, e7⟩ := hE ⟨7, .data⟩ (by simp) rfl _ _ rfl rfl
          rw [show v7 = .pointer (some ⟨W.heap.size, 4, none⟩) from (Option.some.inj e7.1).symm] at h7
          clear hE hO hN
          refine step_plain0 rfl ?_
          have hc : w2.cell? ⟨W.heap.size, 4, none⟩ = some (.slice AK n cK) := cell_of_row w2 _ 4 _ _ _ hM.v
          go_simp
          exact hK _ _ ⟨rfl, fun h => absurd h (by decide), fun h => absurd h (by decide)⟩ hM (Ext7.refl _)
        · intro T2 w2 hM hN hO hE K hK
          obtain ⟨v8, h8, e8⟩ := hE ⟨8, .data⟩ (by simp) rfl _ _ rfl rfl
          rw [show v8 = .slice AK n cK from (Option.some.inj e8.1).symm] at h8
          clear hE hO hN
          refine step_plain0 rfl ?_
          go_simp
          exact hK _ _ ⟨rfl, fun h => absurd h (by decide), fun h => absurd h (by decide)⟩ hM (Ext7.refl _)
        · intro T2 w2 hM hN hO hE K hK
          obtain ⟨v6, h6, e6⟩ := hE ⟨6, .data⟩ (by simp) rfl _ _ rfl rfl
          rw [show v6 = .int .i64 n from (Option.some.inj e6.1).symm] at h6
          obtain ⟨v9, h9, e9⟩ := hE ⟨9, .data⟩ (by simp) rfl _ _ rfl rfl
          rw [show v9 = .int .i64 n from (Option.some.inj e9.1).symm] at h9
          clear hE hO hN
          refine step_plain0 rfl ?_
          go_simp
          exact hK _ _ ⟨rfl, fun h => absurd h (by decide), fun h => absurd h (by decide)⟩ hM (Ext7.refl _)
        · intro T2 w2 hM hN hO hE K hK
          obtain ⟨v10, h10, e10⟩ := hE ⟨10, .data⟩ (by simp) rfl _ _ rfl rfl
          rw [show v10 = .bool true from (Option.some.inj e10.1).symm] at h10
          clear hE hO hN
          refine step_plain0 rfl ?_
          go_simp
          exact hK _ _ ⟨rfl, fun h => absurd h (by decide), fun h => absurd h (by decide)⟩ hM (Ext7.refl _)
        · intro T2 w2 hM hN hO hE K hK
          obtain ⟨v11, h11, e11⟩ := hE ⟨11, .guard⟩ (by simp) rfl _ _ rfl rfl
          rw [show v11 = .bool true from (Option.some.inj e11.1).symm] at h11
          have o3 : T2[3]? = some (.pointer (some ⟨W.heap.size, 0, none⟩)) := hO 3 rfl
          clear hE hO hN
          refine grd_met rfl rfl rfl h11 ?_
          go_simp
          exact hK _ _ ⟨rfl, fun h => absurd h (by decide), fun h => absurd h (by decide)⟩ hM (Ext7.refl _)
        · intro T2 w2 hM hN hO hE K hK
          obtain ⟨v12, h12, e12⟩ := hE ⟨12, .data⟩ (by simp) rfl _ _ rfl rfl
          rw [show v12 = .pointer (some ⟨W.heap.size, 4, none⟩) from (Option.some.inj e12.1).symm] at h12
          obtain ⟨v11, h11, e11⟩ := hE ⟨11, .guard⟩ (by simp) rfl _ _ rfl rfl
          rw [show v11 = .bool true from (Option.some.inj e11.1).symm] at h11
          clear hE hO hN
          refine grd_met rfl rfl rfl h11 ?_
          have hc : w2.cell? ⟨W.heap.size, 4, none⟩ = some (.slice AK n cK) := cell_of_row w2 _ 4 _ _ _ hM.v
          go_simp
          exact hK _ _ ⟨rfl, fun h => absurd h (by decide), fun h => absurd h (by decide)⟩ hM (Ext7.refl _)
        · intro T2 w2 hM hN hO hE K hK
          obtain ⟨v13, h13, e13⟩ := hE ⟨13, .data⟩ (by simp) rfl _ _ rfl rfl
          rw [show v13 = .slice AK n cK from (Option.some.inj e13.1).symm] at h13
          obtain ⟨v11, h11, e11⟩ := hE ⟨11, .guard⟩ (by simp) rfl _ _ rfl rfl
          rw [show v11 = .bool true from (Option.some.inj e11.1).symm] at h11
          clear hE hO hN
          refine grd_met rfl rfl rfl h11 ?_
          go_wp2_with (go_at_call 78; refine (HRK.out w2 hM.m).mono ?_; rintro e w3 ⟨rfl, rfl⟩)
          exact hK _ _ ⟨rfl, fun h => absurd h (by decide), fun h => absurd h (by decide)⟩ hM (Ext7.refl _)
        · intro T2 w2 hM hN hO hE K hK
          obtain ⟨v11, h11, e11⟩ := hE ⟨11, .data⟩ (by simp) rfl _ _ rfl rfl
          rw [show v11 = .bool true from (Option.some.inj e11.1).symm] at h11
          obtain ⟨v14, h14, e14⟩ := hE ⟨14, .data⟩ (by simp) rfl _ _ rfl rfl
          rw [show v14 = .bool false from (Option.some.inj e14.1).symm] at h14
          clear hE hO hN
          refine step_plain0 rfl ?_
          go_simp
          exact hK _ _ ⟨rfl, fun h => absurd h (by decide), fun h => absurd h (by decide)⟩ hM (Ext7.refl _)
        · intro T2 w2 hM hN hO hE K hK
          have o7 : T2[7]? = some (.pointer (some ⟨W.heap.size + 1 + 1 + 1, 0, none⟩)) := hO 7 rfl
          clear hE hO hN
          refine step_plain0 rfl ?_
          go_simp
          exact hK _ _ ⟨rfl, fun h => absurd h (by decide), fun h => absurd h (by decide)⟩ hM (Ext7.refl _)
        · intro T2 w2 hM hN hO hE K hK
          obtain ⟨v16, h16, e16⟩ := hE ⟨16, .data⟩ (by simp) rfl _ _ rfl rfl
          rw [show v16 = .pointer (some ⟨W.heap.size + 1 + 1 + 1, 3, none⟩) from (Option.some.inj e16.1).symm] at h16
          obtain ⟨v1, h1, e1⟩ := hE ⟨1, .data⟩ (by simp) rfl _ _ rfl rfl
          rw [show v1 = .slice AL n cL from (Option.some.inj e1.1).symm] at h1
          clear hE hO hN
          refine step_plain0 rfl ?_
          obtain ⟨p, q, hb⟩ := hM.b
          obtain ⟨xx, hc⟩ : ∃ xx, w2.cell? ⟨W.heap.size + 1 + 1 + 1, 3, none⟩ = some xx := by cases p <;> cases q <;> exact ⟨_, cell_of_row w2 _ 3 _ _ _ hb⟩
          have hf := frozen_of_row w2 _ 3 _ _ hb
          go_simp
          exact hK (.bool false) _ ⟨rfl, fun _ => ⟨q, (hM.put (p := p) (q := q) hb 3 (.slice AL n cL) (p' := true) (q' := q) (by cases p <;> cases q <;> rfl)).2⟩, fun h => absurd h (by decide)⟩ (hM.put (p := p) (q := q) hb 3 (.slice AL n cL) (p' := true) (q' := q) (by cases p <;> cases q <;> rfl)).1 (fun p1 q1 h1 => ⟨true, q1, (hM.put (p := p1) (q := q1) h1 3 (.slice AL n cL) (p' := true) (q' := q1) (by cases p1 <;> cases q1 <;> rfl)).2, fun _ => rfl, id⟩)
        · intro T2 w2 hM hN hO hE K hK
          have o7 : T2[7]? = some (.pointer (some ⟨W.heap.size + 1 + 1 + 1, 0, none⟩)) := hO 7 rfl
          clear hE hO hN
          refine step_plain0 rfl ?_
          go_simp
          exact hK _ _ ⟨rfl, fun h => absurd h (by decide), fun h => absurd h (by decide)⟩ hM (Ext7.refl _)
        · intro T2 w2 hM hN hO hE K hK
          obtain ⟨v18, h18, e18⟩ := hE ⟨18, .data⟩ (by simp) rfl _ _ rfl rfl
          rw [show v18 = .pointer (some ⟨W.heap.size + 1 + 1 + 1, 4, none⟩) from (Option.some.inj e18.1).symm] at h18
          obtain ⟨v3, h3, e3⟩ := hE ⟨3, .data⟩ (by simp) rfl _ _ rfl rfl
          rw [show v3 = .slice AK n cK from (Option.some.inj e3.1).symm] at h3
          clear hE hO hN
          refine step_plain0 rfl ?_
          obtain ⟨p, q, hb⟩ := hM.b
          obtain ⟨xx, hc⟩ : ∃ xx, w2.cell? ⟨W.heap.size + 1 + 1 + 1, 4, none⟩ = some xx := by cases p <;> cases q <;> exact ⟨_, cell_of_row w2 _ 4 _ _ _ hb⟩
          have hf := frozen_of_row w2 _ 4 _ _ hb
          go_simp
          exact hK (.bool false) _ ⟨rfl, fun h => absurd h (by decide), fun _ => ⟨p, (hM.put (p := p) (q := q) hb 4 (.slice AK n cK) (p' := p) (q' := true) (by cases p <;> cases q <;> rfl)).2⟩⟩ (hM.put (p := p) (q := q) hb 4 (.slice AK n cK) (p' := p) (q' := true) (by cases p <;> cases q <;> rfl)).1 (fun p1 q1 h1 => ⟨p1, true, (hM.put (p := p1) (q := q1) h1 4 (.slice AK n cK) (p' := p1) (q' := true) (by cases p1 <;> cases q1 <;> rfl)).2, id, fun _ => rfl⟩)
        · intro T2 w2 hM hN hO hE K hK
          obtain ⟨v15, h15, e15⟩ := hE ⟨15, .data⟩ (by simp) rfl _ _ rfl rfl
          rw [show v15 = .bool false from (Option.some.inj e15.1).symm] at h15
          clear hE hO hN
          refine step_plain0 rfl ?_
          go_simp
          exact hK _ _ ⟨rfl, fun h => absurd h (by decide), fun h => absurd h (by decide)⟩ hM (Ext7.refl _)
      · intro u w2 hM hF
        have e20 : u 20 = .bool false := (Option.some.inj (hF 20 (by omega)).1).symm
        obtain ⟨q7, hq7⟩ := (hF 17 (by omega)).2.1 rfl
        obtain ⟨p7, hp7⟩ := (hF 19 (by omega)).2.2 rfl
        have hr7 : Row7 W w2 #[.int .i64 5, .int .i64 0, .string ⟨#[]⟩, .slice AL n cL, .slice AK n cK] := by
          cases q7 with
          | true => exact hq7
          | false =>
            cases p7 with
            | true => exact hp7
            | false =>
              have hpq := hq7.symm.trans hp7
              have h4 : (some (Value.slice none 0 0)) = some (Value.slice AK n cK) := congrArg (fun o : Option Obj => match o with | some (.cells R _ _) => R[4]? | _ => none) hpq
              exact hq7.trans (by rw [← Option.some.inj h4]; rfl)
        clear hF
        simp only [fillAll, Nat.reduceAdd, e20, List.take_succ_cons, List.take_zero, List.drop_succ_cons, List.drop_zero, List.setIfInBounds_toArray, List.set_cons_succ, List.set_cons_zero]
        clear e20
        have h5 := hM.m
        have hv5 := hM.v
        have c0 : w2.cell? ⟨W.heap.size, 0, none⟩ = some (.int .i64 5) := cell_of_row w2 _ 0 _ _ _ hv5
        have a0 : w2.cell? ⟨W.heap.size + 1 + 1 + 1, 0, none⟩ = some (.int .i64 5) := cell_of_row w2 _ 0 _ _ _ hr7
        have c1 : w2.cell? ⟨W.heap.size, 1, none⟩ = some (.int .i64 nn) := cell_of_row w2 _ 1 _ _ _ hv5
        have a1 : w2.cell? ⟨W.heap.size + 1 + 1 + 1, 1, none⟩ = some (.int .i64 0) := cell_of_row w2 _ 1 _ _ _ hr7
        have c2 : w2.cell? ⟨W.heap.size, 2, none⟩ = some (.string S) := cell_of_row w2 _ 2 _ _ _ hv5
        have a2 : w2.cell? ⟨W.heap.size + 1 + 1 + 1, 2, none⟩ = some (.string ⟨#[]⟩) := cell_of_row w2 _ 2 _ _ _ hr7
        have c3 : w2.cell? ⟨W.heap.size, 3, none⟩ = some (.slice AL n cL) := cell_of_row w2 _ 3 _ _ _ hv5
        have a3 : w2.cell? ⟨W.heap.size + 1 + 1 + 1, 3, none⟩ = some (.slice AL n cL) := cell_of_row w2 _ 3 _ _ _ hr7
        have c4 : w2.cell? ⟨W.heap.size, 4, none⟩ = some (.slice AK n cK) := cell_of_row w2 _ 4 _ _ _ hv5
        have a4 : w2.cell? ⟨W.heap.size + 1 + 1 + 1, 4, none⟩ = some (.slice AK n cK) := cell_of_row w2 _ 4 _ _ _ hr7
        have H5 := hid2 h5
        clear h5 hv5 hr7 hM
        go_wp2_with (go_at_call 79; refine (HAS2.out _ (by have h5 := H5.out; (repeat first | (with_reducible assumption) | (with_reducible refine M5.drew ?_) | (with_reducible refine M5.set ?_ (by omega) _)))).mono ?_; rintro e w3 ⟨r, L', rfl, hl2, hg2, hr2⟩)
        all_goals go_ret
        all_goals clear c0 c1 c2 c3 c4 a0 a1 a2 a3 a4
        all_goals first
          | (refine kpost_no (deep := deep) rfl ?_ ?_
             · have h5 := H5.out
               (repeat first | (with_reducible assumption) | (with_reducible refine M5.drew ?_) | (with_reducible refine M5.set ?_ (by omega) _))
             · rw [HK.out]
               rintro hK
               first
                 | omega
                 | (simp only [bne_iff_ne, bne_eq_false_iff_eq, ne_eq] at *; omega)
                 | (obtain ⟨x1, x2, x3, x4⟩ := hK; contradiction)
                 | (obtain ⟨x1, x2, x3⟩ := hK; contradiction)
                 | fail "left")
          | (refine kpost_yes (deep := deep) (r := r) rfl (W' := _) (?_ : M5 W gl deep (L - 1) _) ?_ hl2 hg2 hr2
             · have h5 := H5.out
               (repeat first | (with_reducible assumption) | (with_reducible refine M5.drew ?_) | (with_reducible refine M5.set ?_ (by omega) _))
             · rw [HK.out]
               try simp only [bne_iff_ne, bne_eq_false_iff_eq, ne_eq] at *
               first
                 | omega
                 | (refine ⟨?_, ?_, ?_, ?_⟩ <;> first | omega | assumption | (left; trivial) | (right; trivial) | trivial)
                 | (refine ⟨?_, ?_, ?_⟩ <;> first | omega | assumption))
  · have nne : ((n : Int) == nk) = false := beq_eq_false_iff_ne.2 (by omega)
    unfold maxLen at hln hlk
    go_enter Tryd.func53, Tryd.ntmps53
    go_wp2_with fail
    have hx0 : XM W gl deep (L - 1) #[.int .i64 5, .int .i64 nn, .string S, .slice AL n cL, .slice AK nk cK] (fun p q => #[.int .i64 5, .int .i64 0, .string ⟨#[]⟩, if p then .slice AL n cL else .slice none 0 0, if q then .slice AK nk cK else .slice none 0 0]) ((((((W.alloc (.cells #[.int .i64 5, .int .i64 nn, .string S, .slice AL n cL, .slice AK nk cK] 40)).alloc (.cells #[.int .i64 deep] 3)).alloc (.cells #[.pointer (some ⟨gl, 0, none⟩)] 84)).setCell ⟨gl, 0, none⟩ (.int .i64 (L - 1))).alloc (.cells #[.int .i64 5, .int .i64 0, .string ⟨#[]⟩, .slice none 0 0, .slice none 0 0] 40))).drew := ⟨h5.drew, hb5, false, false, ha5⟩
    have HX0 := hid2 hx0
    clear hx0 h5 hb5 ha5 q3 f3 q4 p4 d4 r0 b0 hp3
    refine wp_region_grd 21 (by kernel_rfl) (by kernel_rfl) (by kernel_rfl) _ rfl (by kernel_rfl) (V7 W (fun p q => #[.int .i64 5, .int .i64 0, .string ⟨#[]⟩, if p then .slice AL n cL else .slice none 0 0, if q then .slice AK nk cK else .slice none 0 0]) [.pointer (some ⟨W.heap.size, 3, none⟩), .slice AL n cL, .pointer (some ⟨W.heap.size, 4, none⟩), .slice AK nk cK, .pointer (some ⟨W.heap.size, 3, none⟩), .slice AL n cL, .int .i64 n, .pointer (some ⟨W.heap.size, 4, none⟩), .slice AK nk cK, .int .i64 nk, .bool false, .bool false, undef, undef, undef, .bool false, .pointer (some ⟨W.heap.size + 1 + 1 + 1, 3, none⟩), .bool false, .pointer (some ⟨W.heap.size + 1 + 1 + 1, 4, none⟩), .bool false, .bool false] 17 19) (XM W gl deep (L - 1) #[.int .i64 5, .int .i64 nn, .string S, .slice AL n cL, .slice AK nk cK] (fun p q => #[.int .i64 5, .int .i64 0, .string ⟨#[]⟩, if p then .slice AL n cL else .slice none 0 0, if q then .slice AK nk cK else .slice none 0 0])) (Ext7 W (fun p q => #[.int .i64 5, .int .i64 0, .string ⟨#[]⟩, if p then .slice AL n cL else .slice none 0 0, if q then .slice AK nk cK else .slice none 0 0])) (HX0.out) (fun _ _ _ _ hb hv => V7.keep hv hb) ?_ ?_
    · refine of_allOps ⟨?_, ?_, ?_, ?_, ?_, ?_, ?_, ?_, ?_, ?_, ?_, ?_, ?_, ?_, ?_, ?_, ?_, ?_, ?_, ?_, ?_, trivial⟩
      · intro T2 w2 hM hN hO hE K hK
        have o3 : T2[3]? = some (.pointer (some ⟨W.heap.size, 0, none⟩)) := hO 3 rfl
        clear hE hO hN
        refine step_plain0 rfl ?_
        go_simp
        exact hK _ _ ⟨rfl, fun h => absurd h (by decide), fun h => absurd h (by decide)⟩ hM (Ext7.refl _)
      · intro T2 w2 hM hN hO hE K hK
        obtain ⟨v0, h0, e0⟩ := hE ⟨0, .data⟩ (by simp) rfl _ _ rfl rfl
        rw [show v0 = .pointer (some ⟨W.heap.size, 3, none⟩) from (Option.some.inj e0.1).symm] at h0
        clear hE hO hN
        refine step_plain0 rfl ?_
        have hc : w2.cell? ⟨W.heap.size, 3, none⟩ = some (.slice AL n cL) := cell_of_row w2 _ 3 _ _ _ hM.v
        go_simp
        exact hK _ _ ⟨rfl, fun h => absurd h (by decide), fun h => absurd h (by decide)⟩ hM (Ext7.refl _)
      · intro T2 w2 hM hN hO hE K hK
        have o3 : T2[3]? = some (.pointer (some ⟨W.heap.size, 0, none⟩)) := hO 3 rfl
        clear hE hO hN
        refine step_plain0 rfl ?_
        go_simp
        exact hK _ _ ⟨rfl, fun h => absurd h (by decide), fun h => absurd h (by decide)⟩ hM (Ext7.refl _)
      · intro T2 w2 hM hN hO hE K hK
        obtain ⟨v2, h2, e2⟩ := hE ⟨2, .data⟩ (by simp) rfl _ _ rfl rfl
        rw [show v2 = .pointer (some ⟨W.heap.size, 4, none⟩) from (Option.some.inj e2.1).symm] at h2
        clear hE hO hN
        refine step_plain0 rfl ?_
        have hc : w2.cell? ⟨W.heap.size, 4, none⟩ = some (.slice AK nk cK) := cell_of_row w2 _ 4 _ _ _ hM.v
        go_simp
        exact hK _ _ ⟨rfl, fun h => absurd h (by decide), fun h => absurd h (by decide)⟩ hM (Ext7.refl _)
      · intro T2 w2 hM hN hO hE K hK
        have o3 : T2[3]? = some (.pointer (some ⟨W.heap.size, 0, none⟩)) := hO 3 rfl
        clear hE hO hN
        refine step_plain0 rfl ?_
        go_simp
        exact hK _ _ ⟨rfl, fun h => absurd h (by decide), fun h => absurd h (by decide)⟩ hM (Ext7.refl _)
      · intro T2 w2 hM hN hO hE K hK
        obtain ⟨v4, h4, e4⟩ := hE ⟨4, .data⟩ (by simp) rfl _ _ rfl rfl
        rw [show v4 = .pointer (some ⟨W.heap.size, 3, none⟩) from (Option.some.inj e4.1).symm] at h4
        clear hE hO hN
        refine step_plain0 rfl ?_
        have hc : w2.cell? ⟨W.heap.size, 3, none⟩ = some (.slice AL n cL) := cell_of_row w2 _ 3 _ _ _ hM.v
        go_simp
        exact hK _ _ ⟨rfl, fun h => absurd h (by decide), fun h => absurd h (by decide)⟩ hM (Ext7.refl _)
      · intro T2 w2 hM hN hO hE K hK
        obtain ⟨v5, h5, e5⟩ := hE ⟨5, .data⟩ (by simp) rfl _ _ rfl rfl
        rw [show v5 = .slice AL n cL from (Option.some.inj e5.1).symm] at h5
        clear hE hO hN
        refine step_plain0 rfl ?_
        go_simp
        exact hK _ _ ⟨rfl, fun h => absurd h (by decide), fun h => absurd h (by decide)⟩ hM (Ext7.refl _)
      · intro T2 w2 hM hN hO hE K hK
        have o3 : T2[3]? = some (.pointer (some ⟨W.heap.size, 0, none⟩)) := hO 3 rfl
        clear hE hO hN
        refine step_plain0 rfl ?_
        go_simp
        exact hK _ _ ⟨rfl, fun h => absurd h (by decide), fun h => absurd h (by decide)⟩ hM (Ext7.refl _)
      · intro T2 w2 hM hN hO hE K hK
        obtain ⟨v7, h7, e7⟩ := hE ⟨7, .data⟩ (by simp) rfl _ _ rfl rfl
        rw [show v7 = .pointer (some ⟨W.heap.size, 4, none⟩) from (Option.some.inj e7.1).symm] at h7
        clear hE hO hN
        refine step_plain0 rfl ?_
        have hc : w2.cell? ⟨W.heap.size, 4, none⟩ = some (.slice AK nk cK) := cell_of_row w2 _ 4 _ _ _ hM.v
        go_simp
        exact hK _ _ ⟨rfl, fun h => absurd h (by decide), fun h => absurd h (by decide)⟩ hM (Ext7.refl _)
      · intro T2 w2 hM hN hO hE K hK
        obtain ⟨v8, h8, e8⟩ := hE ⟨8, .data⟩ (by simp) rfl _ _ rfl rfl
        rw [show v8 = .slice AK nk cK from (Option.some.inj e8.1).symm] at h8
        clear hE hO hN
        refine step_plain0 rfl ?_
        go_simp
        exact hK _ _ ⟨rfl, fun h => absurd h (by decide), fun h => absurd h (by decide)⟩ hM (Ext7.refl _)
      · intro T2 w2 hM hN hO hE K hK
        obtain ⟨v6, h6, e6⟩ := hE ⟨6, .data⟩ (by simp) rfl _ _ rfl rfl
        rw [show v6 = .int .i64 n from (Option.some.inj e6.1).symm] at h6
        obtain ⟨v9, h9, e9⟩ := hE ⟨9, .data⟩ (by simp) rfl _ _ rfl rfl
        rw [show v9 = .int .i64 nk from (Option.some.inj e9.1).symm] at h9
        clear hE hO hN
        refine step_plain0 rfl ?_
        go_simp
        exact hK _ _ ⟨rfl, fun h => absurd h (by decide), fun h => absurd h (by decide)⟩ hM (Ext7.refl _)
      · intro T2 w2 hM hN hO hE K hK
        obtain ⟨v10, h10, e10⟩ := hE ⟨10, .data⟩ (by simp) rfl _ _ rfl rfl
        rw [show v10 = .bool false from (Option.some.inj e10.1).symm] at h10
        clear hE hO hN
        refine step_plain0 rfl ?_
        go_simp
        exact hK _ _ ⟨rfl, fun h => absurd h (by decide), fun h => absurd h (by decide)⟩ hM (Ext7.refl _)
      · intro T2 w2 hM hN hO hE K hK
        obtain ⟨v11, h11, e11⟩ := hE ⟨11, .guard⟩ (by simp) rfl _ _ rfl rfl
        rw [show v11 = .bool false from (Option.some.inj e11.1).symm] at h11
        clear hE hO hN
        refine grd_not rfl rfl rfl h11 (by decide) ?_
        exact hK _ _ ⟨rfl, fun h => absurd h (by decide), fun h => absurd h (by decide)⟩ hM (Ext7.refl _)
      · intro T2 w2 hM hN hO hE K hK
        obtain ⟨v11, h11, e11⟩ := hE ⟨11, .guard⟩ (by simp) rfl _ _ rfl rfl
        rw [show v11 = .bool false from (Option.some.inj e11.1).symm] at h11
        clear hE hO hN
        refine grd_not rfl rfl rfl h11 (by decide) ?_
        exact hK _ _ ⟨rfl, fun h => absurd h (by decide), fun h => absurd h (by decide)⟩ hM (Ext7.refl _)
      · intro T2 w2 hM hN hO hE K hK
        obtain ⟨v11, h11, e11⟩ := hE ⟨11, .guard⟩ (by simp) rfl _ _ rfl rfl
        rw [show v11 = .bool false from (Option.some.inj e11.1).symm] at h11
        clear hE hO hN
        refine grd_not rfl rfl rfl h11 (by decide) ?_
        exact hK _ _ ⟨rfl, fun h => absurd h (by decide), fun h => absurd h (by decide)⟩ hM (Ext7.refl _)
      · intro T2 w2 hM hN hO hE K hK
        obtain ⟨v11, h11, e11⟩ := hE ⟨11, .data⟩ (by simp) rfl _ _ rfl rfl
        rw [show v11 = .bool false from (Option.some.inj e11.1).symm] at h11
        obtain ⟨v14, h14, e14⟩ := hE ⟨14, .data⟩ (by simp) rfl _ _ rfl rfl
        rw [show v14 = undef from (Option.some.inj e14.1).symm] at h14
        clear hE hO hN
        refine step_plain0 rfl ?_
        go_simp
        exact hK _ _ ⟨rfl, fun h => absurd h (by decide), fun h => absurd h (by decide)⟩ hM (Ext7.refl _)
      · intro T2 w2 hM hN hO hE K hK
        have o7 : T2[7]? = some (.pointer (some ⟨W.heap.size + 1 + 1 + 1, 0, none⟩)) := hO 7 rfl
        clear hE hO hN
        refine step_plain0 rfl ?_
        go_simp
        exact hK _ _ ⟨rfl, fun h => absurd h (by decide), fun h => absurd h (by decide)⟩ hM (Ext7.refl _)
      · intro T2 w2 hM hN hO hE K hK
        obtain ⟨v16, h16, e16⟩ := hE ⟨16, .data⟩ (by simp) rfl _ _ rfl rfl
        rw [show v16 = .pointer (some ⟨W.heap.size + 1 + 1 + 1, 3, none⟩) from (Option.some.inj e16.1).symm] at h16
        obtain ⟨v1, h1, e1⟩ := hE ⟨1, .data⟩ (by simp) rfl _ _ rfl rfl
        rw [show v1 = .slice AL n cL from (Option.some.inj e1.1).symm] at h1
        clear hE hO hN
        refine step_plain0 rfl ?_
        obtain ⟨p, q, hb⟩ := hM.b
        obtain ⟨xx, hc⟩ : ∃ xx, w2.cell? ⟨W.heap.size + 1 + 1 + 1, 3, none⟩ = some xx := by cases p <;> cases q <;> exact ⟨_, cell_of_row w2 _ 3 _ _ _ hb⟩
        have hf := frozen_of_row w2 _ 3 _ _ hb
        go_simp
        exact hK (.bool false) _ ⟨rfl, fun _ => ⟨q, (hM.put (p := p) (q := q) hb 3 (.slice AL n cL) (p' := true) (q' := q) (by cases p <;> cases q <;> rfl)).2⟩, fun h => absurd h (by decide)⟩ (hM.put (p := p) (q := q) hb 3 (.slice AL n cL) (p' := true) (q' := q) (by cases p <;> cases q <;> rfl)).1 (fun p1 q1 h1 => ⟨true, q1, (hM.put (p := p1) (q := q1) h1 3 (.slice AL n cL) (p' := true) (q' := q1) (by cases p1 <;> cases q1 <;> rfl)).2, fun _ => rfl, id⟩)
      · intro T2 w2 hM hN hO hE K hK
        have o7 : T2[7]? = some (.pointer (some ⟨W.heap.size + 1 + 1 + 1, 0, none⟩)) := hO 7 rfl
        clear hE hO hN
        refine step_plain0 rfl ?_
        go_simp
        exact hK _ _ ⟨rfl, fun h => absurd h (by decide), fun h => absurd h (by decide)⟩ hM (Ext7.refl _)
      · intro T2 w2 hM hN hO hE K hK
        obtain ⟨v18, h18, e18⟩ := hE ⟨18, .data⟩ (by simp) rfl _ _ rfl rfl
        rw [show v18 = .pointer (some ⟨W.heap.size + 1 + 1 + 1, 4, none⟩) from (Option.some.inj e18.1).symm] at h18
        obtain ⟨v3, h3, e3⟩ := hE ⟨3, .data⟩ (by simp) rfl _ _ rfl rfl
        rw [show v3 = .slice AK nk cK from (Option.some.inj e3.1).symm] at h3
        clear hE hO hN
        refine step_plain0 rfl ?_
        obtain ⟨p, q, hb⟩ := hM.b
        obtain ⟨xx, hc⟩ : ∃ xx, w2.cell? ⟨W.heap.size + 1 + 1 + 1, 4, none⟩ = some xx := by cases p <;> cases q <;> exact ⟨_, cell_of_row w2 _ 4 _ _ _ hb⟩
        have hf := frozen_of_row w2 _ 4 _ _ hb
        go_simp
        exact hK (.bool false) _ ⟨rfl, fun h => absurd h (by decide), fun _ => ⟨p, (hM.put (p := p) (q := q) hb 4 (.slice AK nk cK) (p' := p) (q' := true) (by cases p <;> cases q <;> rfl)).2⟩⟩ (hM.put (p := p) (q := q) hb 4 (.slice AK nk cK) (p' := p) (q' := true) (by cases p <;> cases q <;> rfl)).1 (fun p1 q1 h1 => ⟨p1, true, (hM.put (p := p1) (q := q1) h1 4 (.slice AK nk cK) (p' := p1) (q' := true) (by cases p1 <;> cases q1 <;> rfl)).2, id, fun _ => rfl⟩)
      · intro T2 w2 hM hN hO hE K hK
        obtain ⟨v15, h15, e15⟩ := hE ⟨15, .data⟩ (by simp) rfl _ _ rfl rfl
        rw [show v15 = .bool false from (Option.some.inj e15.1).symm] at h15
        clear hE hO hN
        refine step_plain0 rfl ?_
        go_simp
        exact hK _ _ ⟨rfl, fun h => absurd h (by decide), fun h => absurd h (by decide)⟩ hM (Ext7.refl _)
    · intro u w2 hM hF
      have e20 : u 20 = .bool false := (Option.some.inj (hF 20 (by omega)).1).symm
      obtain ⟨q7, hq7⟩ := (hF 17 (by omega)).2.1 rfl
      obtain ⟨p7, hp7⟩ := (hF 19 (by omega)).2.2 rfl
      have hr7 : Row7 W w2 #[.int .i64 5, .int .i64 0, .string ⟨#[]⟩, .slice AL n cL, .slice AK nk cK] := by
        cases q7 with
        | true => exact hq7
        | false =>
          cases p7 with
          | true => exact hp7
          | false =>
            have hpq := hq7.symm.trans hp7
            have h4 : (some (Value.slice none 0 0)) = some (Value.slice AK nk cK) := congrArg (fun o : Option Obj => match o with | some (.cells R _ _) => R[4]? | _ => none) hpq
            exact hq7.trans (by rw [← Option.some.inj h4]; rfl)
      clear hF
      simp only [fillAll, Nat.reduceAdd, e20, List.take_succ_cons, List.take_zero, List.drop_succ_cons, List.drop_zero, List.setIfInBounds_toArray, List.set_cons_succ, List.set_cons_zero]
      clear e20
      have h5 := hM.m
      have hv5 := hM.v
      have c0 : w2.cell? ⟨W.heap.size, 0, none⟩ = some (.int .i64 5) := cell_of_row w2 _ 0 _ _ _ hv5
      have a0 : w2.cell? ⟨W.heap.size + 1 + 1 + 1, 0, none⟩ = some (.int .i64 5) := cell_of_row w2 _ 0 _ _ _ hr7
      have c1 : w2.cell? ⟨W.heap.size, 1, none⟩ = some (.int .i64 nn) := cell_of_row w2 _ 1 _ _ _ hv5
      have a1 : w2.cell? ⟨W.heap.size + 1 + 1 + 1, 1, none⟩ = some (.int .i64 0) := cell_of_row w2 _ 1 _ _ _ hr7
      have c2 : w2.cell? ⟨W.heap.size, 2, none⟩ = some (.string S) := cell_of_row w2 _ 2 _ _ _ hv5
      have a2 : w2.cell? ⟨W.heap.size + 1 + 1 + 1, 2, none⟩ = some (.string ⟨#[]⟩) := cell_of_row w2 _ 2 _ _ _ hr7
      have c3 : w2.cell? ⟨W.heap.size, 3, none⟩ = some (.slice AL n cL) := cell_of_row w2 _ 3 _ _ _ hv5
      have a3 : w2.cell? ⟨W.heap.size + 1 + 1 + 1, 3, none⟩ = some (.slice AL n cL) := cell_of_row w2 _ 3 _ _ _ hr7
      have c4 : w2.cell? ⟨W.heap.size, 4, none⟩ = some (.slice AK nk cK) := cell_of_row w2 _ 4 _ _ _ hv5
      have a4 : w2.cell? ⟨W.heap.size + 1 + 1 + 1, 4, none⟩ = some (.slice AK nk cK) := cell_of_row w2 _ 4 _ _ _ hr7
      have H5 := hid2 h5
      clear h5 hv5 hr7 hM
      go_wp2_with (go_at_call 79; refine (HAS2.out _ (by have h5 := H5.out; (repeat first | (with_reducible assumption) | (with_reducible refine M5.drew ?_) | (with_reducible refine M5.set ?_ (by omega) _)))).mono ?_; rintro e w3 ⟨r, L', rfl, hl2, hg2, hr2⟩)
      all_goals go_ret
      all_goals clear c0 c1 c2 c3 c4 a0 a1 a2 a3 a4
      all_goals first
        | (refine kpost_no (deep := deep) rfl ?_ ?_
           · have h5 := H5.out
             (repeat first | (with_reducible assumption) | (with_reducible refine M5.drew ?_) | (with_reducible refine M5.set ?_ (by omega) _))
           · rw [HK.out]
             rintro hK
             first
               | omega
               | (simp only [bne_iff_ne, bne_eq_false_iff_eq, ne_eq] at *; omega)
               | (obtain ⟨x1, x2, x3, x4⟩ := hK; contradiction)
               | (obtain ⟨x1, x2, x3⟩ := hK; contradiction)
               | fail "left")
        | (refine kpost_yes (deep := deep) (r := r) rfl (W' := _) (?_ : M5 W gl deep (L - 1) _) ?_ hl2 hg2 hr2
           · have h5 := H5.out
             (repeat first | (with_reducible assumption) | (with_reducible refine M5.drew ?_) | (with_reducible refine M5.set ?_ (by omega) _))
           · rw [HK.out]
             try simp only [bne_iff_ne, bne_eq_false_iff_eq, ne_eq] at *
             first
               | omega
               | (refine ⟨?_, ?_, ?_, ?_⟩ <;> first | omega | assumption | (left; trivial) | (right; trivial) | trivial)
               | (refine ⟨?_, ?_, ?_⟩ <;> first | omega | assumption))

end Go.Proofs.YthefhfnmkjdekaaDoor
