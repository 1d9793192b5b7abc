/- Settings: config's Read at a text of settings that may be. -/
import Derived.Test.YthefhfnmkjdekaaDoorCf8
namespace Go.Proofs.YthefhfnmkjdekaaDoor
open Go.RowKit Go.Shelf Go.Sort
set_option maxRecDepth 100000
theorem pred_name (w : World) (B : Nat) (x : Tx) (hB : B < w.heap.size) (hc : w.cell? ⟨B, 0, none⟩ = some (.string (strB x))) :
    PredBelow Tryd.prog 26 #[.pointer (some ⟨B, 0, none⟩)] (fun p => .agg (setC p).toArray) (fun p => decide (p.1 = x)) w := fun W p hb => by
  have hcW : W.cell? ⟨B, 0, none⟩ = some (.string (strB x)) := (hb.cell (p := ⟨B, 0, none⟩) hB).trans hc
  have hBW : B < W.heap.size := Nat.lt_of_lt_of_le hB hb.size
  have hne : B ≠ W.heap.size := by omega
  have heq : ((strB p.1).toList == (strB x).toList) = decide (p.1 = x) := by rw [toList_strB, toList_strB, Bool.eq_iff_iff]; simp
  have hbb : Below w.heap.size w (W.alloc (.cells #[.string (strB p.1), .string (strB p.2)] 31)) := hb.alloc hb.size _
  show Calls Tryd.prog 26 #[.agg #[.string (strB p.1), .string (strB p.2)], .pointer (some ⟨B, 0, none⟩)] W fun e w' => e = .returned (.bool (decide (p.1 = x))) ∧ Below w.heap.size w w'
  obtain ⟨X, hX⟩ : ∃ X, X = strB p.1 := ⟨_, rfl⟩
  obtain ⟨Y, hY⟩ : ∃ Y, Y = strB p.2 := ⟨_, rfl⟩
  obtain ⟨N, hN⟩ : ∃ N, N = strB x := ⟨_, rfl⟩
  obtain ⟨r, hr⟩ : ∃ r, r = decide (p.1 = x) := ⟨_, rfl⟩
  rw [← hX, ← hN, ← hr] at heq
  rw [← hX, ← hY] at hbb ⊢
  rw [← hN] at hcW
  rw [← hr]
  have HBB := hid2 hbb
  clear hX hY hN hr hbb hc hb
  go_enter Tryd.func26, Tryd.ntmps26
  go_wp2
  go_ret
  exact ⟨rfl, HBB.out⟩
theorem cmp_name (W : World) (x y : SetE) : Calls Tryd.prog 28 #[.agg (setC x).toArray, .agg (setC y).toArray] W fun e w' => e = .returned (.int .i64 (cfS x y)) ∧ ∃ q os', w' = grow (W.drewN q) os' := by
  have cC := fun w => compare_any w (strB x.1) (strB y.1)
  rw [strB_list, strB_list] at cC
  rw [show Lib.compareBytes x.1 y.1 = cfS x y from rfl] at cC
  show Calls Tryd.prog 28 #[.agg #[.string (strB x.1), .string (strB x.2)], .agg #[.string (strB y.1), .string (strB y.2)]] W _
  obtain ⟨X, hX⟩ : ∃ X, X = strB x.1 := ⟨_, rfl⟩
  obtain ⟨X2, hX2⟩ : ∃ X, X = strB x.2 := ⟨_, rfl⟩
  obtain ⟨Y, hY⟩ : ∃ X, X = strB y.1 := ⟨_, rfl⟩
  obtain ⟨Y2, hY2⟩ : ∃ X, X = strB y.2 := ⟨_, rfl⟩
  rw [← hX, ← hY] at cC
  rw [← hX, ← hX2, ← hY, ← hY2]
  obtain ⟨r, hr⟩ : ∃ r, r = cfS x y := ⟨_, rfl⟩
  rw [← hr] at cC ⊢
  have hfin : ∃ q os', (W.alloc (.cells #[.string X, .string X2] 31)).alloc (.cells #[.string Y, .string Y2] 31) = grow (W.drewN q) os' := ⟨0, _, by rw [alloc_eq_grow, alloc_eq_grow, grow_grow]; rfl⟩
  have HF := hid2 hfin
  clear hX hX2 hY hY2 hr hfin
  go_enter Tryd.func28, Tryd.ntmps28
  go_wp2_with (go_at_call 29; refine (cC _).mono ?_; rintro e w2 ⟨rfl, rfl⟩)
  go_ret
  exact ⟨rfl, HF.out⟩
theorem has_any (w : World) (b o i c B : Nat) (x : Tx) (l : List SetE) (hi : i ≤ l.length) (hl : l.length ≤ 1000000) (hb : b < w.heap.size) (hB : B < w.heap.size) (hc : w.cell? ⟨B, 0, none⟩ = some (.string (strB x)))
    (hcells : ∀ j u, (setsV l)[j]? = some u → w.cell? ⟨b, o + j, none⟩ = some u) :
    Calls Tryd.prog 25 #[.slice (some ⟨b, o, none⟩) i c, .func (.func 26) #[] #[.pointer (some ⟨B, 0, none⟩)]] w fun e w' => e = .returned (.bool ((l.take i).any fun p => decide (p.1 = x))) ∧ Below w.heap.size w w' := by
  exact AnyQ.slices_ContainsFunc Tryd.cfgHas 2 Tryd.isAgg31 Tryd.sizeOf31 setC setC_len (fun p => decide (p.1 = x)) 26 #[.pointer (some ⟨B, 0, none⟩)] (enters_of Tryd.func26 (by kernel_rfl) rfl) b o i c l w
    (pred_name w B x hB hc) hi (by omega) hb (fun j hj q v hv => by
      have hq : q < 2 := by have := (List.getElem?_eq_some_iff.1 hv).1; rw [setC_len] at this; exact this
      have hp : l[j]? = some l[j]! := by rw [List.getElem?_eq_getElem hj, getElem!_pos l j hj]
      obtain ⟨h1, h2⟩ := setsV_get hp
      rw [Nat.add_assoc]
      match q, hq, hv with
      | 0, _, hv => exact (hcells _ _ h1).trans hv
      | 1, _, hv => exact (hcells _ _ h2).trans hv)
theorem sort_any (w : World) (base b o n c : Nat) (l : List SetE) (hn : n = l.length) (h0 : 0 < n) (hl : n ≤ 1000000) (hown : Own w base 31 2 (some ⟨b, o, none⟩) n c (setsV l)) :
    Calls Tryd.prog 27 #[.slice (some ⟨b, o, none⟩) n c, .func (.func 28) #[] #[]] w fun e w' => e = .returned (.tuple #[]) ∧ ∃ m : List SetE, m.Perm l ∧ ByName m ∧ Rd w' 2 (some ⟨b, o, none⟩) n (setsV m) ∧ w.grownBy w' (some b) := by
  have hH := holdsK_own hown h0
  have hb : b < w.heap.size := (hown.block b rfl).2.1
  have h := AnyQ.slices_SortFunc Tryd.cfgSort 2 Tryd.isAgg31 Tryd.sizeOf31 setC setC_len setC_one cfS swoS 28 #[] b o c l.toArray w (enters_of Tryd.func28 (by kernel_rfl) rfl) (fun m os dk _ x y => cmp_name _ x y) hH hb (by rw [List.size_toArray]; omega)
  rw [List.size_toArray, ← hn] at h
  refine h.mono ?_
  rintro e w' ⟨he, d', q, os, hp, hs, rfl⟩
  have hp' : PermIn 0 l.toArray.size l.toArray d' := by rw [List.size_toArray, ← hn]; exact hp
  obtain ⟨k1, k2⟩ := sorted_of hp' (by rw [List.size_toArray, ← hn]; exact hs)
  have hsz : d'.size = l.toArray.size := hp'.1
  have hK := holdsK_sortWorldK setC 2 w b o q l.toArray d' os hb hH hsz
  refine ⟨he, d'.toList, k1, k2, ?_, grownBy_sorted d'⟩
  have := rd_holdsK (l := d'.toList) (by simpa using hK)
  rw [Array.length_toList, hsz, List.size_toArray, ← hn] at this
  exact this
theorem strV_get {l : List Tx} {k : Nat} {x : Tx} (h : l[k]? = some x) : (strV l)[k]? = some (.string (strB x)) := by rw [strV, List.getElem?_map, h]; rfl
theorem nodup_any {l : List SetE} (h : (l.map (·.1)).Nodup) {j : Nat} {p : SetE} (hp : l[j]? = some p) : ((l.take j).any fun q => decide (q.1 = p.1)) = false := by
  rw [List.any_eq_false]
  intro q hq
  obtain ⟨i, hi⟩ := List.getElem?_of_mem hq
  rw [List.getElem?_take] at hi
  split at hi
  · rename_i hij
    intro e
    have e1 := of_decide_eq_true e
    obtain ⟨hj, rfl⟩ := List.getElem?_eq_some_iff.1 hp
    obtain ⟨hi', rfl⟩ := List.getElem?_eq_some_iff.1 hi
    have := (List.pairwise_iff_getElem.1 h) i j (by simpa using hi') (by simpa using hj) hij
    simp at this
    exact this e1
  · cases hi
/-- what Read makes of a text of settings that may be -/
def RPost (w : World) (l : List SetE) (e : Ending) (w' : World) : Prop :=
  ∃ (A : Option Addr) (c : Nat) (m : List SetE), e = .returned (.tuple #[.slice A m.length c, .int .i64 0]) ∧ Rd w' 2 A m.length (setsV m) ∧ m.Perm l ∧ ByName m ∧ Below w.heap.size w w'
theorem info_set3 : (Tryd.prog.info? 31).map (fun i => (i.zero, i.size, i.bytes)) = some (some (.agg #[.string ⟨#[]⟩, .string ⟨#[]⟩]), 2, 32) := by kernel_rfl
theorem setsV_snoc {l : List SetE} {k : Nat} {p : SetE} (hp : l[k]? = some p) : setsV (l.take k) ++ [.string (strB p.1), .string (strB p.2)] = setsV (l.take (k + 1)) := by
  rw [List.take_add_one, hp]
  simp [setsV]
theorem name_no {s : Tx} (h : isName s = true) (c : UInt8) (hc : nameN c.toNat = false) : c ∉ s := fun hm => by
  simp only [isName, Bool.and_eq_true] at h
  have := List.all_eq_true.1 h.1.2 c hm
  rw [hc] at this
  cases this
theorem val_no {s : Tx} (h : isVal s = true) (c : UInt8) (hc : valN c.toNat = false) : c ∉ s := fun hm => by
  simp only [isVal, Bool.and_eq_true] at h
  have := List.all_eq_true.1 h.2 c hm
  rw [hc] at this
  cases this
theorem oneE_ok {p : SetE} (h : oneE p = 0) : isName p.1 = true ∧ isVal p.2 = true := by
  unfold oneE at h
  split at h
  · cases h
  · rename_i h1
    split at h
    · cases h
    · rename_i h2
      exact ⟨by simpa using h1, by simpa using h2⟩
theorem oneE_len {p : SetE} (h : oneE p = 0) : 1 ≤ p.1.length ∧ p.1.length ≤ 64 ∧ p.2.length ≤ 64 := by
  obtain ⟨h1, h2⟩ := oneE_ok h
  simp only [isName, isVal, Bool.and_eq_true, decide_eq_true_eq] at h1 h2
  exact ⟨h1.1.1.1, h1.1.1.2, h2.1⟩
theorem setT_no {p : SetE} (h : oneE p = 0) : (44 : UInt8) ∉ setT p := by
  obtain ⟨h1, h2⟩ := oneE_ok h
  have a := name_no h1 44 (by decide)
  have b := val_no h2 44 (by decide)
  simp only [setT, List.mem_append, List.mem_cons, List.not_mem_nil, or_false, not_or]
  exact ⟨⟨a, by decide⟩, b⟩
set_option maxHeartbeats 8000000 in
theorem read_ok (w : World) (l : List SetE) (h16 : l.length ≤ 16) (h1 : ∀ p ∈ l, oneE p = 0) (hnd : (l.map (·.1)).Nodup) (hM : MaxL w) :
    Calls Tryd.prog 10 #[.string (strB (joinE l))] w (RPost w l) := by
  by_cases h0 : l = []
  · subst h0
    rw [show strB (joinE []) = ⟨#[]⟩ from rfl]
    go_enter Tryd.func10, Tryd.ntmps10
    go_wp2_with fail
    go_ret2
    exact ⟨none, 0, [], rfl, Rd.none_ _ _ _, List.Perm.refl _, List.Pairwise.nil, Below.refl _ _⟩
  · obtain ⟨n, hn⟩ : ∃ n, n = l.length := ⟨_, rfl⟩
    have hn0 : 0 < n := by rw [hn]; exact List.length_pos_iff.2 h0
    have hn16 : n ≤ 16 := by omega
    have hlen : (joinE l).length ≤ 3000 := by
      have h2 := join_len (l.map setT) 129 (fun x hx => by
        obtain ⟨p, hp, rfl⟩ := List.mem_map.1 hx
        have := oneE_len (h1 p hp)
        simp only [setT, List.length_append, List.length_cons, List.length_nil]
        omega)
      rw [List.length_map] at h2
      have h3 : l.length * (129 + 1) ≤ 16 * 130 := Nat.mul_le_mul_right _ h16
      exact Nat.le_trans h2 (by omega)
    have cs := split_any w (l.map setT) (by simpa using h0) (fun x hx => by
      obtain ⟨p, hp, rfl⟩ := List.mem_map.1 hx
      exact setT_no (h1 p hp)) (Nat.le_trans hlen (by omega)) hM
    rw [List.length_map, ← hn, show Lib.join (l.map setT) [44] = joinE l from rfl] at cs
    have hne : (strB (joinE l)).toList.isEmpty = false := by
      rw [toList_strB]
      cases hj : joinE l with
      | cons a r => rfl
      | nil =>
        exfalso
        cases l with
        | nil => exact h0 rfl
        | cons p r =>
          rw [joinE, List.map_cons, Lib.join_cons, setT] at hj
          simp at hj
    have hne2 : ((strB (joinE l)).toList == []) = false := by
      cases hj : (strB (joinE l)).toList with
      | cons a r => rfl
      | nil => rw [hj] at hne; cases hne
    obtain ⟨S, hS⟩ : ∃ S, S = strB (joinE l) := ⟨_, rfl⟩
    rw [← hS] at cs hne hne2 ⊢
    have CS := hid2 cs
    have HN := hid2 hn
    have H1 := hid2 h1
    have HND := hid2 hnd
    have HM := hid2 hM
    clear cs hn h1 hnd hM hS hlen h16 h0
    go_enter Tryd.func10, Tryd.ntmps10
    go_wp2_with (go_at_call 22; refine CS.out.mono ?_; rintro e W ⟨A0, rfl, hrd0, hb0⟩; have HRD0 := hid2 hrd0; have HB0 := hid2 hb0; clear CS hrd0 hb0)
    go_loopw [4, 20] (fun v i wr => ∃ (k : Nat) (A1 : Option Addr) (c1 : Nat), k ≤ n ∧ i = .int .i64 k ∧ v = .slice A1 k c1 ∧ Own wr W.heap.size 31 2 A1 k c1 (setsV (l.take k)) ∧ Below W.heap.size W wr) (fun _ i _ => n - (intOf i).toNat)
    case atStart => exact ⟨0, none, 0, by omega, rfl, rfl, Own.nil _ _ _ _, Below.refl _ _⟩
    case round =>
      obtain ⟨k, A1, c1, hk, rfl, rfl, hown, hbe⟩ := hrel
      have HBE := hid2 hbe
      by_cases hlt : k < n
      · have hkl : (k : Int) < n := by omega
        have hk0 : (0 : Int) ≤ k := by omega
        obtain ⟨p, hp⟩ : ∃ p, l[k]? = some p := ⟨_, List.getElem?_eq_getElem (by rw [← HN.out]; exact hlt)⟩
        obtain ⟨b, o, rfl, hcell⟩ := (HRD0.out.below_all hbe).2 (by omega)
        have hc0 : wr.cell? ⟨b, o + k, none⟩ = some (.string (strB (setT p))) := hcell k _ (strV_get (by rw [List.getElem?_map, hp]; rfl))
        have hpo := H1.out p (List.mem_of_getElem? hp)
        have hpl := oneE_len hpo
        have cc := fun (w2 : World) (hb : Below wr.heap.size wr w2) => cut_any w2 p (name_no (oneE_ok hpo).1 61 (by decide)) (by simp only [setT, List.length_append, List.length_cons, List.length_nil]; omega) ((HM.out.on HB0.out).on (hbe.trans (hb.mono hbe.size)))
        have cc0 := cc wr (Below.refl _ _)
        have hsn := setsV_snoc hp
        obtain ⟨T, hT⟩ : ∃ T, T = strB (setT p) := ⟨_, rfl⟩
        obtain ⟨X, hX⟩ : ∃ X, X = strB p.1 := ⟨_, rfl⟩
        obtain ⟨Y, hY⟩ : ∃ Y, Y = strB p.2 := ⟨_, rfl⟩
        rw [← hT] at hc0 cc0
        rw [← hX, ← hY] at cc0 hsn
        have CC := hid2 cc0
        have HSN := hid2 hsn
        obtain ⟨V, hV⟩ : ∃ V, V = setsV (l.take k) := ⟨_, rfl⟩
        rw [← hV] at hown
        have HV := hid2 hV
        have h12 : ∀ v ∈ [Value.string X, Value.string Y], v.oneCell' = true := by simp [Value.oneCell']
        have H12 := hid2 h12
        clear cc cc0 hcell hT hX hY hbe hp hsn hV hpo hpl h12
        go_wp2_with (first
          | (go_at_call 23; refine CC.out.mono ?_; rintro e w2 ⟨rfl, q, rfl⟩; have hown2 := hown.drewN q; have hbw := below_drewN HBE.out q; obtain ⟨W2, hW2⟩ : ∃ W2, W2 = wr.drewN q := ⟨_, rfl⟩; rw [← hW2] at hown2 hbw ⊢; clear hown hW2 CC)
          | (at_builtin; have _t := hown2; go_must ((with_reducible refine wpList_append_lit 31 (.agg #[.string ⟨#[]⟩, .string ⟨#[]⟩]) 2 32 Tryd.underlying22 info_set3 rfl W.heap.size A1 k c1 V (hown2.alloc _) 1 [.string X, .string Y] (.slice (some ⟨W2.heap.size, 0, none⟩) 1 1) (Src.slice Tryd.underlying22 (Rd.of_lit W2 #[.string X, .string Y] 31 2 1 (by decide) rfl)) H12.out ?_ ?_ ?_ ?_ ?_); (unfold maxLen; omega); omega; (exact Nat.le_trans hbw.size (by simp)); exact ⟨rfl, rfl⟩; intro A3 c3 w3 hown3 hgr3 hbl3; have hb3 : Below W.heap.size W w3 := (hbw.alloc hbw.size _).grown hgr3 (Nat.le_trans hbw.size (by simp)) (fun g e => (_t.block g e).1); clear hown2)))
        go_roundw
        case rel => exact ⟨k + 1, A3, c3, by omega, by go_num, rfl, by rw [← HSN.out, ← HV.out]; exact hown3, hb3⟩
        case measure => simp [intOf]; omega
      · have hkl : ¬ (k : Int) < n := by omega
        obtain rfl : k = n := by omega
        rw [List.take_of_length_le (by have := HN.out; omega)] at hown
        obtain ⟨w1, rfl⟩ : ∃ w1, w1 = wr := ⟨_, rfl⟩
        have HOWN := hid2 hown
        have hi16 : ¬ (16 : Int) < k := by omega
        have hk0 : (0 : Int) < k := by omega
        have hcap : (k : Int) ≤ c1 := by have := hown.2.1; omega
        obtain ⟨b, o, rfl, hcz⟩ := hown.rd.2 hn0
        have HBLK := hid2 (hown.block b rfl)
        clear hown hbe hcz
        go_wp2_with fail
        go_loopw [44] (fun i w2 => ∃ (j : Nat), j ≤ k ∧ i = .int .i64 j ∧ Below w1.heap.size w1 w2) (fun i _ => k - (intOf i).toNat)
        case atStart => exact ⟨0, by omega, rfl, Below.refl _ _⟩
        case round =>
          obtain ⟨j, hj, rfl, hb2⟩ := hrel
          have HB2 := hid2 hb2
          by_cases hjl : j < k
          · have hjl2 : (j : Int) < k := by omega
            have hj0 : (0 : Int) ≤ j := by omega
            obtain ⟨p, hp⟩ : ∃ p, l[j]? = some p := ⟨_, List.getElem?_eq_getElem (by rw [← HN.out]; exact hjl)⟩
            obtain ⟨b', o', e', hc0, hc1⟩ := (HOWN.out.rd.below_all hb2).set_at hp
            cases e'
            have hpo := H1.out p (List.mem_of_getElem? hp)
            have hpl := oneE_len hpo
            have co := fun W => one_any W (strB p.1) (strB p.2) (by rw [strB_size]; omega) (by rw [strB_size]; omega)
            simp only [strB_list] at co
            rw [show (p.1, p.2) = p from rfl, hpo] at co
            obtain ⟨X, hX⟩ : ∃ X, X = strB p.1 := ⟨_, rfl⟩
            obtain ⟨Y, hY⟩ : ∃ Y, Y = strB p.2 := ⟨_, rfl⟩
            rw [← hX] at hc0 co
            rw [← hY] at hc1 co
            have CO := hid2 co
            clear hX hY hb2 hpo hpl hp co
            go_wp2_with (first
              | ((with_reducible refine wpList_store_lit wr.heap.size 0 (.agg #[.string X, .string Y]) [.string X, .string Y] (set_cells X Y) #[.string ⟨#[]⟩, .string ⟨#[]⟩] 31 (heap_alloc_new wr _) (set_size X Y) (set_fit X Y) (set_one X Y) ?_ ?_); exact ⟨rfl, rfl⟩; have hX1 := stored_row (VX := [.string X, .string Y]) (heap_alloc_new wr (.cells #[.string ⟨#[]⟩, .string ⟨#[]⟩] 31)) rfl; have hb1 := below_setRow ((HB2.out.alloc HB2.out.size (.cells #[.string ⟨#[]⟩, .string ⟨#[]⟩] 31))) HB2.out.size (laid #[.string ⟨#[]⟩, .string ⟨#[]⟩] 0 [.string X, .string Y]); obtain ⟨W1, hW1⟩ : ∃ W1, W1 = (wr.alloc (.cells #[.string ⟨#[]⟩, .string ⟨#[]⟩] 31)).setRow wr.heap.size (laid #[.string ⟨#[]⟩, .string ⟨#[]⟩] 0 [.string X, .string Y]) := ⟨_, rfl⟩; rw [← hW1] at hX1 hb1 ⊢; clear hW1 hc0 hc1)
              | ((with_reducible refine wpList_load_lit wr.heap.size 0 _ _ _ hX1 [.string X, .string Y] (fun j _ => getElem?_zero_add _ j) _ Tryd.underlying31 (set_size X Y) ?_ ?_); exact ⟨rfl, rfl⟩)
              | (go_at_call 24; refine (CO.out W1).mono ?_; rintro e w4 ⟨rfl, hb4⟩; have hb := hb1.trans (hb4.mono hb1.size); clear hb1 hb4 hX1 CO))
            go_roundw
            case rel => exact ⟨j + 1, by omega, by go_num, hb⟩
            case measure => simp [intOf]; omega
          · have hjl2 : ¬ (j : Int) < k := by omega
            obtain ⟨w2, rfl⟩ : ∃ w2, w2 = wr := ⟨_, rfl⟩
            clear hb2 hjl hj
            go_wp2_with fail
            go_loopw [56] (fun i w3 => ∃ (q : Nat), q ≤ k ∧ i = .int .i64 q ∧ Below w1.heap.size w1 w3) (fun i _ => k - (intOf i).toNat)
            case atStart => exact ⟨0, by omega, rfl, HB2.out⟩
            case round =>
              obtain ⟨q, hq, rfl, hb3⟩ := hrel
              clear HB2
              have HB2 := hid2 hb3
              by_cases hql : q < k
              · have hql2 : (q : Int) < k := by omega
                have hq0 : (0 : Int) ≤ q := by omega
                have hqc : (q : Int) ≤ c1 := by omega
                obtain ⟨p, hp⟩ : ∃ p, l[q]? = some p := ⟨_, List.getElem?_eq_getElem (by rw [← HN.out]; exact hql)⟩
                obtain ⟨b', o', e', hc0, hc1⟩ := (HOWN.out.rd.below_all hb3).set_at hp
                cases e'
                have hfl := nodup_any HND.out hp
                have hh := fun (W1 : World) (hb : Below w1.heap.size w1 W1) (B : Nat) (hB : B < W1.heap.size) (hc : W1.cell? ⟨B, 0, none⟩ = some (.string (strB p.1))) => has_any W1 b o q c1 B p.1 l (by have := HN.out; omega) (by have := HN.out; omega) (Nat.lt_of_lt_of_le HBLK.out.2.1 hb.size) hB hc (by
                  obtain ⟨b', o', e, hc⟩ := (HOWN.out.rd.below_all hb).2 hn0
                  cases e
                  exact hc)
                rw [hfl] at hh
                obtain ⟨X, hX⟩ : ∃ X, X = strB p.1 := ⟨_, rfl⟩
                obtain ⟨Y, hY⟩ : ∃ Y, Y = strB p.2 := ⟨_, rfl⟩
                rw [← hX] at hc0 hh
                rw [← hY] at hc1
                have HH := hid2 hh
                clear hX hY hb3 hp hfl hh
                go_wp2_with (first
                  | ((with_reducible refine wpList_store_lit wr.heap.size 0 (.agg #[.string X, .string Y]) [.string X, .string Y] (set_cells X Y) #[.string ⟨#[]⟩, .string ⟨#[]⟩] 31 (heap_alloc_new wr _) (set_size X Y) (set_fit X Y) (set_one X Y) ?_ ?_); exact ⟨rfl, rfl⟩; have hX1 := stored_row (VX := [.string X, .string Y]) (heap_alloc_new wr (.cells #[.string ⟨#[]⟩, .string ⟨#[]⟩] 31)) rfl; have hb1 := below_setRow ((HB2.out.alloc HB2.out.size (.cells #[.string ⟨#[]⟩, .string ⟨#[]⟩] 31))) HB2.out.size (laid #[.string ⟨#[]⟩, .string ⟨#[]⟩] 0 [.string X, .string Y]); obtain ⟨W1, hW1⟩ : ∃ W1, W1 = (wr.alloc (.cells #[.string ⟨#[]⟩, .string ⟨#[]⟩] 31)).setRow wr.heap.size (laid #[.string ⟨#[]⟩, .string ⟨#[]⟩] 0 [.string X, .string Y]) := ⟨_, rfl⟩; rw [← hW1] at hX1 hb1 ⊢; have ch := HH.out W1 hb1 wr.heap.size (heap_lt hX1) (cell_of_row W1 _ 0 _ _ _ hX1); clear hW1 hc0 hc1 HH)
                  | (go_at_call 25; refine ch.mono ?_; rintro e w4 ⟨rfl, hb4⟩; have hb := hb1.trans (hb4.mono hb1.size); clear hb1 hb4 hX1 ch))
                go_roundw
                case rel => exact ⟨q + 1, by omega, by go_num, hb⟩
                case measure => simp [intOf]; omega
              · have hql2 : ¬ (q : Int) < k := by omega
                have cS := sort_any wr W.heap.size b o k c1 l HN.out hn0 (by omega) (HOWN.out.below hb3 (Nat.le_refl _))
                have CSO := hid2 cS
                clear hb3 cS
                go_wp2_with (go_at_call 27; refine CSO.out.mono ?_; rintro e w4 ⟨rfl, m, hm1, hm2, hm3, hm4⟩)
                go_ret2
                have hml : m.length = k := by rw [hm1.length_eq]; exact HN.out.symm
                have b1 := HB0.out.trans (HBE.out.mono HB0.out.size)
                have b2 := b1.trans (HB2.out.mono b1.size)
                refine ⟨some ⟨b, o, none⟩, c1, m, by rw [hml]; rfl, by rw [hml]; exact hm3, hm1, hm2, b2.grown hm4 b2.size fun g e => ?_⟩
                cases e
                exact Nat.le_trans HB0.out.size HBLK.out.1
end Go.Proofs.YthefhfnmkjdekaaDoor
