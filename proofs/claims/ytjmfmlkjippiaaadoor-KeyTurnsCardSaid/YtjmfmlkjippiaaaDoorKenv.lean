/- The program's settings in their one form. -/
import Derived.Test.YtjmfmlkjippiaaaDoorKtab
import Derived.Test.YtjmfmlkjippiaaaDoorKb1
import Derived.Test.YtjmfmlkjippiaaaDoorIter
import Derived.Maps.OwnIn
namespace Go.Proofs.YtjmfmlkjippiaaaDoor
open Go.RowKit Go.Shelf Go.Maps Go.WideMaps Go.WideAt Go.MapKept Go.ChangeMaps
attribute [local go_sem] Oper.semAt_some
theorem MapIs.grown {α : Type} {enc : α → Value} {w w' : World} {P : Program} {k : TypeId} {b n : Nat} {M : Tab α} {row : Option Nat} (h : MapIs w P k enc b n M) (hg : w.grownBy w' row) (hne : some b ≠ row) : MapIs w' P k enc b n M := h.keep (hg.block b h.lt hne)
theorem zero_str (w : World) : (zeroValue 9).run Tryd.prog w = .ok (.string (strB [])) w := by rw [Tryd.zeroValue9]; rfl
def txE (x : Tx) : Value := .string (strB x)
set_option maxRecDepth 100000 in
set_option maxHeartbeats 4000000 in
theorem env_any (w : World) (A : Option Addr) (c : Nat) (l : List SetE) (hl : l.length ≤ 1000) (hall : ∀ p ∈ l, p.1.length ≤ 1000) (hr : Rd w 2 A l.length (setsV l)) :
    Calls Tryd.prog 17 #[.slice A l.length c] w fun e w' => ∃ A' c', e = .returned (.slice A' (envL l).length c') ∧ Own w' w.heap.size 9 1 A' (envL l).length c' (strV (envL l)) ∧ Below w.heap.size w w' := by
  have hmm := @run_makeMap Tryd.prog
  have hfB := wide_fn 25
  have hfK := wide_fn 27
  have hfS := wide_fn 26
  refine (callsIn_wide (n := 6)).1 ?_
  refine callsIn_of_wp_marks Tryd.func17 rfl trivial ?_ rfl
  simp only [Tryd.ntmps17, List.size_toArray, List.length_cons, List.length_nil, Nat.reduceAdd, Nat.reduceSub, Array.replicate_succ, Array.replicate_zero, List.push_toArray, List.append_toArray, List.nil_append, List.cons_append]
  gi_wp2_with (first
    | (gi_at_call 25; refine (callsIn_wide.2 (back_any _ A l.length c)).mono ?_; rintro e w' ⟨rfl, rfl⟩))
  obtain ⟨b, hb⟩ : ∃ b, b = w.heap.size := ⟨_, rfl⟩
  obtain ⟨W0, hW0⟩ : ∃ W0, W0 = ((w.alloc (.map #[] 0)).alloc (.cells #[.map (some w.heap.size)] 48)).alloc (.cells #[.slice A l.length c] 24) := ⟨_, rfl⟩
  have hM0 : MapIs W0 Tryd.prog 9 txE b 0 ([] : Tab Tx) := by rw [hW0, hb]; exact ((MapIs.made w Tryd.prog 9 txE).alloc _).alloc _
  have hs0 : W0.heap.size = b + 3 := by rw [hW0, hb]; simp
  have hbx : W0.heap[b + 1]? = some (.cells #[.map (some b)] 48 (0, 0)) := by
    rw [hW0, hb]
    refine (Below.heap_alloc _ _ _ (by simp)).trans ?_
    have := World.alloc_heap_new (w.alloc (.map #[] 0)) (.cells #[.map (some w.heap.size)] 48)
    rwa [World.size_alloc] at this
  have hbs : W0.heap[b + 2]? = some (.cells #[.slice A l.length c] 24 (0, 0)) := by
    rw [hW0, hb]
    have := World.alloc_heap_new ((w.alloc (.map #[] 0)).alloc (.cells #[.map (some w.heap.size)] 48)) (.cells #[.slice A l.length c] 24)
    rwa [World.size_alloc, World.size_alloc] at this
  have hB0 : Below w.heap.size w W0 := by rw [hW0]; exact (((Below.refl _ w).alloc (Nat.le_refl _) _).alloc (by simp) _).alloc (by simp; omega) _
  rw [← hW0, ← hb]
  rw [← hb] at hB0
  have hrK : ∀ W, KpB (b + 3) b W0 W → Rd W 2 A l.length (setsV l) := fun W hW => hr.keep fun bb oo u hbb hu => by
    have hlt := World.block_lt_of_cell? _ _ hu
    simp only at hlt
    exact (World.cell?_of_block ((hW.keep bb (by omega) (by omega)).trans (hB0.block bb (by omega)))).trans hu
  have hstops := back_stops 5 (by omega) (b + 2) (b + 3) b A c l (by omega) hall W0 (by omega) (by omega) (by omega) hbs hrK
  have HBE := hid2 hb
  have hB0' : Below w.heap.size w W0 := by rw [← hb]; exact hB0
  have HB0 := hid2 hB0'
  have HHR := hid2 hr
  have hbw : w.heap.size < b + 3 := by omega
  clear hb hW0 hr hB0 hB0' hrK
  refine wpIn_rangeFunc_ownH rfl (by omega) (gf := 42) (lb := #[.pointer (some ⟨b + 1 + 1, 0, none⟩)]) rfl trivial (enters_of Tryd.func42 (by kernel_rfl) rfl)
    hstops KpB.trans (KpB.put (by omega)) (Below.refl _ _) (fun _ => rfl)
    (fun pre W => MapIs W Tryd.prog 9 txE b pre.length (tabOf (pre.map (·.1.2))) ∧ KpB (b + 3) b W0 W ∧ Below w.heap.size w W)
    (fun _ _ _ => False)
    ?hI (fun _ _ _ _ _ hs _ _ => hs) ⟨hM0, KpB.refl _ _ _, HB0.out⟩
    (fun x a' W => ∃ Bx, b + 3 ≤ Bx ∧ W.heap[Bx]? = some (.cells #[.string (strB x.1.2.1), .string (strB x.1.2.2)] 37 (0, 0)) ∧ a' = { tmps := #[.slice A l.length c, undef, .slice none 0 0, .pointer (some ⟨b + 1, 0, none⟩), undef, .pointer (some ⟨Bx, 0, none⟩), undef, undef, undef, .map (some b), .slice A l.length c, .func (.func 42) #[] #[.pointer (some ⟨b + 1 + 1, 0, none⟩)], .int .i64 x.1.1, setA x.1.2, undef, undef, undef, undef, undef, undef, undef, undef, undef, undef, undef, undef, undef, undef, undef, undef, undef, undef, undef, undef, undef, undef], defers := [] })
    ?hAx ?assign ?body ?done ?stop
  case hI =>
    rintro pre W W' row ⟨h1, h2, h3⟩ hg hrow
    refine ⟨h1.grown hg (fun e => by have := (hrow b e.symm).1; omega), h2.trans ⟨hg.size, fun k hk _ => hg.block k (by have := h2.size; omega) (fun e => by have := (hrow k e.symm).1; omega)⟩, h3.grown hg h3.size (fun k e => by have := (hrow k e).1; omega)⟩
  case hAx =>
    rintro x a' _ W W' row ⟨Bx, h1, h2, h3⟩ hg hrow
    refine ⟨Bx, h1, (hg.block Bx (heap_lt h2) (fun e => ?_)).trans h2, h3⟩
    obtain ⟨o, ho, hc⟩ := (hrow Bx e.symm).2
    rw [h2] at ho
    cases ho
    cases hc
  case assign =>
    rintro lp pre ⟨⟨ix, nm, vv⟩, hx⟩ W K ⟨h1, h2, h3⟩ hK
    simp only [encB, setA]
    have H1 := hid2 h1
    have H2 := hid2 h2
    have H3 := hid2 h3
    have hsz := h2.size
    clear h1 h2 h3
    gi_wp2
    exact hK _ _ ((KeepsOthers.alloc _ _).from _) (KpB.of_below ((Below.refl _ W).alloc (by omega) _)) ⟨H1.out.alloc _, H2.out.trans (KpB.of_below ((Below.refl _ W).alloc (by omega) _)), H3.out.alloc H3.out.size _⟩ ⟨W.heap.size, by omega, World.alloc_heap_new W _, rfl⟩
  case body =>
    rintro lp pre ⟨⟨ix, nm, vv⟩, hx⟩ a' W hlp hll ⟨h1, h2, h3⟩ ⟨Bx, hBx, hcx, rfl⟩ hlt
    simp only at hcx hx
    have hc0 : W.cell? ⟨Bx, 0, none⟩ = some (.string (strB nm)) := cell_of_row W Bx 0 _ _ _ hcx
    have hc1 : W.cell? ⟨Bx, 1, none⟩ = some (.string (strB vv)) := cell_of_row W Bx 1 _ _ _ hcx
    have hcm : W.cell? ⟨b + 1, 0, none⟩ = some (.map (some b)) := cell_of_row W (b + 1) 0 _ _ _ ((h2.keep (b + 1) (by omega) (by omega)).trans hbx)
    have hbl := h1.lt
    have hsz := h2.size
    simp only [setA]
    have H1 := hid2 h1
    have H2 := hid2 h2
    have H3 := hid2 h3
    clear h1 h2 h3 hcx hM0 hbx hbs
    gi_wp2_with (first
      | (gi_at_mapUpdate; go_must (refine wpListIn_mapUpdate_own _ rfl _ _ _ 48 rfl 9 9 (string_keyed Tryd.underlying9) Tryd.underlying48 (elemR txE) b pre.length _ rfl H1.out (by unfold maxLen; omega) _ _ _ rfl rfl (keyOf_string_mk Tryd.underlying9 (by rw [strB_size]; unfold maxLen; omega)) (.held vv) [] (elemR_mk txV_inj vv) ?_; intro w1 hown1 hgrow1)))
    refine ⟨KeepsFrom.of_grownBy hgrow1 (fun j e => by cases e; omega), ⟨hgrow1.size, fun k hk hne => hgrow1.block k (by omega) (fun e => hne (by cases e; rfl))⟩, ?_, H2.out.trans ⟨hgrow1.size, fun k hk hne => hgrow1.block k (by omega) (fun e => hne (by cases e; rfl))⟩, H3.out.grown hgrow1 H3.out.size (fun k e => by cases e; exact Nat.le_of_eq HBE.out.symm)⟩
    rw [mapD_put, strB_list] at hown1
    rw [List.map_append, List.length_append, show ([⟨(ix, nm, vv), hx⟩] : List BX).map (·.1.2) = [(nm, vv)] from rfl, tabOf_snoc]
    exact hown1
  case done =>
    rintro D ys W hD hS ⟨h1, h2, h3⟩ hK
    rw [hS] at h1
    have hyl : ys.length = l.length := by
      have := congrArg List.length hS
      rwa [List.length_map, List.length_reverse] at this
    rw [hyl] at h1
    have hri := MapIs.rises h1 (string_keyed Tryd.underlying9)
    have hkeys := tabOf_keys hri
    have hel := envL_len l
    have hek := envK_len l
    have hea := envK_all l
    have hes := fun (k : Nat) (n : Tx) h => envK_step (l := l) (k := k) (n := n) h
    have hsl := setL_len (l.map (·.1))
    rw [List.length_map] at hsl
    have hgv := fun n => tabOf_valOf l n
    have hMl : (tabOf l.reverse).length = (setL (l.map (·.1))).length := by rw [← hkeys, List.length_map]
    have hmem : ∀ x ∈ setL (l.map (·.1)), x.length ≤ 1000 := fun x hx => by
      obtain ⟨p, hp, rfl⟩ := List.mem_map.1 (((setL_is _).2 x).1 hx)
      exact hall p hp
    obtain ⟨M, hM⟩ : ∃ M, M = tabOf l.reverse := ⟨_, rfl⟩
    obtain ⟨SS, hSS⟩ : ∃ SS, SS = setL (l.map (·.1)) := ⟨_, rfl⟩
    obtain ⟨m, hm⟩ : ∃ m, m = SS.length := ⟨_, rfl⟩
    rw [← hM] at h1 hri hkeys hgv hMl
    rw [← hSS] at hkeys hel hek hea hes hsl hMl hmem
    rw [← hm] at hel hek hea hsl hMl
    have hown := h1
    unfold MapIs at hown
    have cK := Tryd.maps_Keys_27 (some b) W
    have cS := Tryd.slices_Sorted_keys_26_27 b l.length (mapD M) (elemR txE) W hown (by rw [size_mapD]; unfold maxLen; omega) (by rw [size_mapD]; omega)
    have hcm : W.cell? ⟨b + 1, 0, none⟩ = some (.map (some b)) := cell_of_row W (b + 1) 0 _ _ _ ((h2.keep (b + 1) (by omega) (by omega)).trans hbx)
    have hlW : b + 1 < W.heap.size := by have := h2.size; omega
    have hDW := heap_lt hK
    have hbW := h1.lt
    have HKD := hid2 hK
    have H1 := hid2 h1
    have H3 := hid2 h3
    have HM := hid2 hm
    have HSS := hid2 hSS
    have HRI := hid2 hri
    have HKEYS := hid2 hkeys
    have HEL := hid2 hel
    have HEK := hid2 hek
    have HEA := hid2 hea
    have HES := hid2 hes
    have HGV := hid2 hgv
    have HMEM := hid2 hmem
    have HCM := hid2 hcm
    have hml : m ≤ 1000 := by omega
    have hmi : (m : Int) ≤ 1000 := by omega
    clear hown h1 h2 h3 hK hm hSS hri hkeys hel hek hea hes hgv hmem hM hMl hsl hbx hbs hM0 hstops hS hyl
    gi_wp2_with (first
      | (gi_at_call 27; refine cK.mono ?_; rintro e w1 ⟨rfl, rfl⟩; clear cK)
      | (gi_at_call 26; refine cS.mono ?_; rintro e w2 ⟨v, ss, rfl, hSo, hrow, hnil, hb2⟩; rw [strKeys_mapD] at hSo; have hl2 : ss.length = m := (by rw [hSo.length_eq, HKEYS.out, ← HM.out]); rw [sort_rises HRI.out hSo, hl2, HKEYS.out] at hrow; obtain ⟨A2, c2, rfl, ho2⟩ := own_of_rowT hrow; have HB2 := hid2 hb2; have HO2 := hid2 ho2; clear hrow hnil hb2 ho2 hSo cS hl2))
    refine wpIn_wide.2 ?_
    have hb2 := HB2.out
    have hWs : (W.alloc (.cells #[.map (some b)] 48)).heap.size = W.heap.size + 1 := by simp
    have M2 : MapIs w2 Tryd.prog 9 txE b l.length M := (H1.out.alloc _).below hb2 (by omega)
    have cm2 : w2.cell? ⟨b + 1, 0, none⟩ = some (.map (some b)) := (hb2.cell (p := ⟨b + 1, 0, none⟩) (by show b + 1 < _; omega)).trans ((World.cell?_alloc_lt W _ ⟨b + 1, 0, none⟩ (by show b + 1 < _; omega)).trans HCM.out)
    have d2 : w2.heap[D]? = some (.deferred (some [])) := (hb2.block D (by omega)).trans ((Below.heap_alloc _ _ _ hDW).trans HKD.out)
    have B2 : Below w.heap.size w w2 := (H3.out.alloc H3.out.size _).trans (hb2.mono (by have := H3.out.size; omega))
    have hs2 := B2.size
    have hs22 := hb2.size
    have HM2 := hid2 M2
    have HC2 := hid2 cm2
    have HD2 := hid2 d2
    have HBB := hid2 B2
    have HR2 := hid2 HO2.out.rd
    clear hb2 M2 cm2 d2 B2 HB2 HO2 HKD H1 H3 HCM
    go_loopg [6, 23] m (fun gk ov iv wr => ∃ (k j : Nat) (A1 : Option Addr) (c1 : Nat), k + gk = m ∧ j = 2 * k ∧ iv = .int .i64 k ∧ ov = .slice A1 j c1 ∧ Own wr w2.heap.size 9 1 A1 j c1 (strV (envK l k)) ∧ Below w2.heap.size w2 wr)
    case atStart => exact ⟨0, 0, none, 0, by omega, rfl, rfl, rfl, Own.nil _ _ _ _, Below.refl _ _⟩
    case round =>
      obtain ⟨k, j, A1, c1, hk, hj, rfl, rfl, hown, hbe⟩ := hrel
      have hjl : j ≤ 2000 := by omega
      have HJ := hid2 hj
      clear hj
      by_cases hlt : k < m
      · have hkl : (k : Int) < m := by omega
        have hk0 : (0 : Int) ≤ k := by omega
        obtain ⟨x, hx⟩ : ∃ x, SS[k]? = some x := ⟨_, List.getElem?_eq_getElem (by rw [← HM.out]; exact hlt)⟩
        have hstep := HES.out k x hx
        have hxl := HMEM.out x (List.mem_of_getElem? hx)
        obtain ⟨bq, o, rfl, hcell⟩ := (HR2.out.below_all hbe).2 (by omega)
        have hcx : wr.cell? ⟨bq, o + k, none⟩ = some (.string (strB x)) := hcell k _ (strV_get hx)
        have hcm : wr.cell? ⟨b + 1, 0, none⟩ = some (.map (some b)) := (hbe.cell (p := ⟨b + 1, 0, none⟩) (World.block_lt_of_cell? _ _ HC2.out)).trans HC2.out
        have hlook := (HM2.out.below hbe HM2.out.lt).look txV_inj Tryd.underlying9 Tryd.underlying48 ([] : Tx) (zero_str wr) (strB x) (by rw [strB_size]; unfold maxLen; omega)
        rw [strB_list, HGV.out x] at hlook
        unfold txE at hlook
        obtain ⟨X, hX⟩ : ∃ X, X = strB x := ⟨_, rfl⟩
        obtain ⟨U, hU⟩ : ∃ U, U = strB (valOf l x) := ⟨_, rfl⟩
        rw [← hX] at hcx hlook
        rw [← hU] at hlook
        obtain ⟨V, hV⟩ : ∃ V, V = strV (envK l k) := ⟨_, rfl⟩
        rw [← hV] at hown
        have HX := hid2 hX
        have HU := hid2 hU
        have HV := hid2 hV
        have HST := hid2 hstep
        have HBE2 := hid2 hbe
        have hsz := hbe.size
        have hone : ∀ v ∈ [Value.string X, Value.string U], v.oneCell' = true := by simp [Value.oneCell']
        clear hx hstep hcell hbe hX hU hV hxl
        go_wp2_with (at_builtin; have _t := hown; go_must ((with_reducible refine wpList_append_lit 9 (.string ⟨#[]⟩) 1 16 Tryd.underlying25 info_str rfl w2.heap.size A1 j c1 V (hown.alloc _) 2 [.string X, .string U] (.slice (some ⟨wr.heap.size, 0, none⟩) 2 2) (Src.slice Tryd.underlying25 (Rd.of_lit wr _ _ 1 2 (by decide) rfl)) hone ?_ ?_ ?_ ?_ ?_); (unfold maxLen; omega); omega; (simp; omega); exact ⟨rfl, rfl⟩; intro A3 c3 w3 hown3 hgr3 hbl3; clear hown; have hb3 : Below w2.heap.size w2 w3 := (HBE2.out.alloc (by omega) _).grown hgr3 (by simp; omega) (fun g e => (_t.block g e).1)))
        go_roundg (gk - 1)
        case rel =>
          refine ⟨k + 1, j + 2, A3, c3, by omega, by have := HJ.out; omega, by go_num, rfl, ?_, hb3⟩
          rw [HST.out, show strV (envK l k ++ [x, valOf l x]) = V ++ [.string X, .string U] by rw [HV.out, HX.out, HU.out]; simp [strV]]
          exact hown3
        case measure => omega
      · have hkm : k = m := by omega
        have hkl : ¬ (k : Int) < m := by omega
        rw [hkm, HEA.out] at hown
        have HJM := hid2 (show j = (envL l).length by rw [HEL.out, ← hkm]; exact HJ.out)
        have hdd := (hbe.block D (heap_lt HD2.out)).trans HD2.out
        have HOWN := hid2 hown
        have HBE2 := hid2 hbe
        clear hkm hown hbe
        go_wp2_with fail
        refine wpIn_wide.2 ?_
        go_wp2_with fail
        have hDlt := heap_lt HD2.out
        have hbbe := HBB.out.trans (HBE2.out.mono hs2)
        refine ⟨by simp, .inl ⟨_, _, rfl, run_takeDeferred hdd, ?_⟩⟩
        refine ⟨_, results_tmp rfl _ _ _, A1, c1, by rw [← HJM.out]; rfl, ?_, hbbe.grown (grownBy_putObj' wr D _) hbbe.size (fun k e => by cases e; omega)⟩
        rw [← HJM.out]
        exact (HOWN.out.grown (grownBy_putObj' wr D _) (fun b hb e => by have := (HOWN.out.block b hb).1; cases e; omega)).mono hs2
  case stop =>
    rintro D cc pre W _ _ h _
    exact h.elim
end Go.Proofs.YtjmfmlkjippiaaaDoor
