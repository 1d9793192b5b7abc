/- The program's settings in their one form. -/
import Derived.Test.YtjjpecggcjggpaaGreatDoorKf
import Derived.Test.YtjjpecggcjggpaaGreatDoorIter
import Derived.Maps.OwnIn
import Derived.Test.YtjjpecggcjggpaaGreatDoorKb
import Derived.BigRegion
import Derived.Test.YtjjpecggcjggpaaGreatDoorKe
set_option linter.unusedSimpArgs false
set_option linter.unusedVariables false
namespace Go.Proofs.YtjjpecggcjggpaaGreatDoor
open Go.RowKit Go.Shelf Go.Maps Go.WideMaps Go.WideAt Go.MapKept Go.ChangeMaps
attribute [local go_sem] Oper.semAt_some
theorem MapIs.grown {α : Type} {enc : α → Value} {w w' : World} {P : Program} {k : TypeId} {b n : Nat} {M : Tab α} {row : Option Nat} (h : MapIs w P k enc b n M) (hg : w.grownBy w' row) (hne : some b ≠ row) : MapIs w' P k enc b n M := h.keep (hg.block b h.lt hne)
theorem zero_str (w : World) : (zeroValue 9).run Tryz.prog w = .ok (.string (strB [])) w := by rw [Tryz.zeroValue9]; rfl
def txE (x : Tx) : Value := .string (strB x)
set_option maxRecDepth 100000 in
set_option maxHeartbeats 4000000 in
theorem env_any (w : World) (A : Option Addr) (c : Nat) (l : List SetE) (hl : l.length ≤ 1000) (hall : ∀ p ∈ l, p.1.length ≤ 1000) (hr : Rd w 2 A l.length (setsV l)) :
    Calls Tryz.prog 13 #[.slice A l.length c] w fun e w' => ∃ A' c', e = .returned (.slice A' (envL l).length c') ∧ Own w' w.heap.size 9 1 A' (envL l).length c' (strV (envL l)) ∧ Below w.heap.size w w' := by
  have hmm := @run_makeMap Tryz.prog
  have hfB := wide_fn 27
  have hfK := wide_fn 29
  have hfS := wide_fn 28
  refine (callsIn_wide (n := 6)).1 ?_
  refine callsIn_of_wp_marks Tryz.func13 rfl trivial ?_ rfl
  simp only [Tryz.ntmps13, List.size_toArray, List.length_cons, List.length_nil, Nat.reduceAdd, Nat.reduceSub, Array.replicate_succ, Array.replicate_zero, List.push_toArray, List.append_toArray, List.nil_append, List.cons_append]
  gi_wp2_with (first
    | (gi_at_call 27; refine (callsIn_wide.2 (back_any _ A l.length c)).mono ?_; rintro e w' ⟨rfl, rfl⟩))
  obtain ⟨b, hb⟩ : ∃ b, b = w.heap.size := ⟨_, rfl⟩
  obtain ⟨W0, hW0⟩ : ∃ W0, W0 = ((w.alloc (.map #[] 0)).alloc (.cells #[.map (some w.heap.size)] 55)).alloc (.cells #[.slice A l.length c] 27) := ⟨_, rfl⟩
  have hM0 : MapIs W0 Tryz.prog 9 txE b 0 ([] : Tab Tx) := by rw [hW0, hb]; exact ((MapIs.made w Tryz.prog 9 txE).alloc _).alloc _
  have hs0 : W0.heap.size = b + 3 := by rw [hW0, hb]; simp
  have hbx : W0.heap[b + 1]? = some (.cells #[.map (some b)] 55 (0, 0)) := by
    rw [hW0, hb]
    refine (Below.heap_alloc _ _ _ (by simp)).trans ?_
    have := World.alloc_heap_new (w.alloc (.map #[] 0)) (.cells #[.map (some w.heap.size)] 55)
    rwa [World.size_alloc] at this
  have hbs : W0.heap[b + 2]? = some (.cells #[.slice A l.length c] 27 (0, 0)) := by
    rw [hW0, hb]
    have := World.alloc_heap_new ((w.alloc (.map #[] 0)).alloc (.cells #[.map (some w.heap.size)] 55)) (.cells #[.slice A l.length c] 27)
    rwa [World.size_alloc, World.size_alloc] at this
  have hB0 : Below w.heap.size w W0 := by rw [hW0]; exact (((Below.refl _ w).alloc (Nat.le_refl _) _).alloc (by simp) _).alloc (by simp; omega) _
  rw [← hW0, ← hb]
  rw [← hb] at hB0
  have hrK : ∀ W, KpB (b + 3) b W0 W → Rd W 2 A l.length (setsV l) := fun W hW => hr.keep fun bb oo u hbb hu => by
    have hlt := World.block_lt_of_cell? _ _ hu
    simp only at hlt
    exact (World.cell?_of_block ((hW.keep bb (by omega) (by omega)).trans (hB0.block bb (by omega)))).trans hu
  have hstops := back_stops 5 (by omega) (b + 2) (b + 3) b A c l (by omega) hall W0 (by omega) (by omega) (by omega) hbs hrK
  have HBE := hid2 hb
  have hB0' : Below w.heap.size w W0 := by rw [← hb]; exact hB0
  have HB0 := hid2 hB0'
  have HHR := hid2 hr
  have hbw : w.heap.size < b + 3 := by omega
  clear hb hW0 hr hB0 hB0' hrK
  refine wpIn_rangeFunc_ownH rfl (by omega) (gf := 51) (lb := #[.pointer (some ⟨b + 1 + 1, 0, none⟩)]) rfl trivial (enters_of Tryz.func51 (by kernel_rfl) rfl)
    hstops KpB.trans (KpB.put (by omega)) (Below.refl _ _) (fun _ => rfl)
    (fun pre W => MapIs W Tryz.prog 9 txE b pre.length (tabOf (pre.map (·.1.2))) ∧ KpB (b + 3) b W0 W ∧ Below w.heap.size w W)
    (fun _ _ _ => False)
    ?hI (fun _ _ _ _ _ hs _ _ => hs) ⟨hM0, KpB.refl _ _ _, HB0.out⟩
    (fun x a' W => ∃ Bx, b + 3 ≤ Bx ∧ W.heap[Bx]? = some (.cells #[.string (strB x.1.2.1), .string (strB x.1.2.2)] 42 (0, 0)) ∧ a' = { tmps := #[.slice A l.length c, undef, .slice none 0 0, .pointer (some ⟨b + 1, 0, none⟩), undef, .pointer (some ⟨Bx, 0, none⟩), undef, undef, undef, .map (some b), .slice A l.length c, .func (.func 51) #[] #[.pointer (some ⟨b + 1 + 1, 0, none⟩)], .int .i64 x.1.1, setA x.1.2, undef, undef, undef, undef, undef, undef, undef, undef, undef, undef, undef, undef, undef, undef, undef, undef, undef, undef, undef, undef, undef, undef], defers := [] })
    ?hAx ?assign ?body ?done ?stop
  case hI =>
    rintro pre W W' row ⟨h1, h2, h3⟩ hg hrow
    refine ⟨h1.grown hg (fun e => by have := (hrow b e.symm).1; omega), h2.trans ⟨hg.size, fun k hk _ => hg.block k (by have := h2.size; omega) (fun e => by have := (hrow k e.symm).1; omega)⟩, h3.grown hg h3.size (fun k e => by have := (hrow k e).1; omega)⟩
  case hAx =>
    rintro x a' _ W W' row ⟨Bx, h1, h2, h3⟩ hg hrow
    refine ⟨Bx, h1, (hg.block Bx (heap_lt h2) (fun e => ?_)).trans h2, h3⟩
    obtain ⟨o, ho, hc⟩ := (hrow Bx e.symm).2
    rw [h2] at ho
    cases ho
    cases hc
  case assign =>
    rintro lp pre ⟨⟨ix, nm, vv⟩, hx⟩ W K ⟨h1, h2, h3⟩ hK
    simp only [encB, setA]
    have H1 := hid2 h1
    have H2 := hid2 h2
    have H3 := hid2 h3
    have hsz := h2.size
    clear h1 h2 h3
    gi_wp2
    exact hK _ _ ((KeepsOthers.alloc _ _).from _) (KpB.of_below ((Below.refl _ W).alloc (by omega) _)) ⟨H1.out.alloc _, H2.out.trans (KpB.of_below ((Below.refl _ W).alloc (by omega) _)), H3.out.alloc H3.out.size _⟩ ⟨W.heap.size, by omega, World.alloc_heap_new W _, rfl⟩
  case body =>
    rintro lp pre ⟨⟨ix, nm, vv⟩, hx⟩ a' W hlp hll ⟨h1, h2, h3⟩ ⟨Bx, hBx, hcx, rfl⟩ hlt
    simp only at hcx hx
    have hc0 : W.cell? ⟨Bx, 0, none⟩ = some (.string (strB nm)) := cell_of_row W Bx 0 _ _ _ hcx
    have hc1 : W.cell? ⟨Bx, 1, none⟩ = some (.string (strB vv)) := cell_of_row W Bx 1 _ _ _ hcx
    have hcm : W.cell? ⟨b + 1, 0, none⟩ = some (.map (some b)) := cell_of_row W (b + 1) 0 _ _ _ ((h2.keep (b + 1) (by omega) (by omega)).trans hbx)
    have hbl := h1.lt
    have hsz := h2.size
    simp only [setA]
    have H1 := hid2 h1
    have H2 := hid2 h2
    have H3 := hid2 h3
    clear h1 h2 h3 hcx hM0 hbx hbs
    gi_wp2_with (first
      | (gi_at_mapUpdate; go_must (refine wpListIn_mapUpdate_own _ rfl _ _ _ 55 rfl 9 9 (string_keyed Tryz.underlying9) Tryz.underlying55 (elemR txE) b pre.length _ rfl H1.out (by unfold maxLen; omega) _ _ _ rfl rfl (keyOf_string_mk Tryz.underlying9 (by rw [strB_size]; unfold maxLen; omega)) (.held vv) [] (elemR_mk txV_inj vv) ?_; intro w1 hown1 hgrow1)))
    refine ⟨KeepsFrom.of_grownBy hgrow1 (fun j e => by cases e; omega), ⟨hgrow1.size, fun k hk hne => hgrow1.block k (by omega) (fun e => hne (by cases e; rfl))⟩, ?_, H2.out.trans ⟨hgrow1.size, fun k hk hne => hgrow1.block k (by omega) (fun e => hne (by cases e; rfl))⟩, H3.out.grown hgrow1 H3.out.size (fun k e => by cases e; exact Nat.le_of_eq HBE.out.symm)⟩
    rw [mapD_put, strB_list] at hown1
    rw [List.map_append, List.length_append, show ([⟨(ix, nm, vv), hx⟩] : List BX).map (·.1.2) = [(nm, vv)] from rfl, tabOf_snoc]
    exact hown1
  case done =>
    rintro D ys W hD hS ⟨h1, h2, h3⟩ hK
    rw [hS] at h1
    have hyl : ys.length = l.length := by
      have := congrArg List.length hS
      rwa [List.length_map, List.length_reverse] at this
    rw [hyl] at h1
    have hri := MapIs.rises h1 (string_keyed Tryz.underlying9)
    have hkeys := tabOf_keys hri
    have hel := envL_len l
    have hek := envK_len l
    have hea := envK_all l
    have hes := fun (k : Nat) (n : Tx) h => envK_step (l := l) (k := k) (n := n) h
    have hsl := setL_len (l.map (·.1))
    rw [List.length_map] at hsl
    have hgv := fun n => tabOf_valOf l n
    have hMl : (tabOf l.reverse).length = (setL (l.map (·.1))).length := by rw [← hkeys, List.length_map]
    have hmem : ∀ x ∈ setL (l.map (·.1)), x.length ≤ 1000 := fun x hx => by
      obtain ⟨p, hp, rfl⟩ := List.mem_map.1 (((setL_is _).2 x).1 hx)
      exact hall p hp
    obtain ⟨M, hM⟩ : ∃ M, M = tabOf l.reverse := ⟨_, rfl⟩
    obtain ⟨SS, hSS⟩ : ∃ SS, SS = setL (l.map (·.1)) := ⟨_, rfl⟩
    obtain ⟨m, hm⟩ : ∃ m, m = SS.length := ⟨_, rfl⟩
    rw [← hM] at h1 hri hkeys hgv hMl
    rw [← hSS] at hkeys hel hek hea hes hsl hMl hmem
    rw [← hm] at hel hek hea hsl hMl
    have hown := h1
    unfold MapIs at hown
    have cK := Tryz.maps_Keys_29 (some b) W
    have cS := Tryz.slices_Sorted_keys_28_29 b l.length (mapD M) (elemR txE) W hown (by rw [size_mapD]; unfold maxLen; omega) (by rw [size_mapD]; omega)
    have hcm : W.cell? ⟨b + 1, 0, none⟩ = some (.map (some b)) := cell_of_row W (b + 1) 0 _ _ _ ((h2.keep (b + 1) (by omega) (by omega)).trans hbx)
    have hlW : b + 1 < W.heap.size := by have := h2.size; omega
    have hDW := heap_lt hK
    have hbW := h1.lt
    have HKD := hid2 hK
    have H1 := hid2 h1
    have H3 := hid2 h3
    have HM := hid2 hm
    have HSS := hid2 hSS
    have HRI := hid2 hri
    have HKEYS := hid2 hkeys
    have HEL := hid2 hel
    have HEK := hid2 hek
    have HEA := hid2 hea
    have HES := hid2 hes
    have HGV := hid2 hgv
    have HMEM := hid2 hmem
    have HCM := hid2 hcm
    have hml : m ≤ 1000 := by omega
    have hmi : (m : Int) ≤ 1000 := by omega
    clear hown h1 h2 h3 hK hm hSS hri hkeys hel hek hea hes hgv hmem hM hMl hsl hbx hbs hM0 hstops hS hyl
    gi_wp2_with (first
      | (gi_at_call 29; refine cK.mono ?_; rintro e w1 ⟨rfl, rfl⟩; clear cK)
      | (gi_at_call 28; refine cS.mono ?_; rintro e w2 ⟨v, ss, rfl, hSo, hrow, hnil, hb2⟩; rw [strKeys_mapD] at hSo; have hl2 : ss.length = m := (by rw [hSo.length_eq, HKEYS.out, ← HM.out]); rw [sort_rises HRI.out hSo, hl2, HKEYS.out] at hrow; obtain ⟨A2, c2, rfl, ho2⟩ := own_of_rowT hrow; have HB2 := hid2 hb2; have HO2 := hid2 ho2; clear hrow hnil hb2 ho2 hSo cS hl2))
    refine wpIn_wide.2 ?_
    have hb2 := HB2.out
    have hWs : (W.alloc (.cells #[.map (some b)] 55)).heap.size = W.heap.size + 1 := by simp
    have M2 : MapIs w2 Tryz.prog 9 txE b l.length M := (H1.out.alloc _).below hb2 (by omega)
    have cm2 : w2.cell? ⟨b + 1, 0, none⟩ = some (.map (some b)) := (hb2.cell (p := ⟨b + 1, 0, none⟩) (by show b + 1 < _; omega)).trans ((World.cell?_alloc_lt W _ ⟨b + 1, 0, none⟩ (by show b + 1 < _; omega)).trans HCM.out)
    have d2 : w2.heap[D]? = some (.deferred (some [])) := (hb2.block D (by omega)).trans ((Below.heap_alloc _ _ _ hDW).trans HKD.out)
    have B2 : Below w.heap.size w w2 := (H3.out.alloc H3.out.size _).trans (hb2.mono (by have := H3.out.size; omega))
    have hs2 := B2.size
    have hs22 := hb2.size
    have HM2 := hid2 M2
    have HC2 := hid2 cm2
    have HD2 := hid2 d2
    have HBB := hid2 B2
    have HR2 := hid2 HO2.out.rd
    clear hb2 M2 cm2 d2 B2 HB2 HO2 HKD H1 H3 HCM
    go_loopg [6, 23] m (fun gk ov iv wr => ∃ (k j : Nat) (A1 : Option Addr) (c1 : Nat), k + gk = m ∧ j = 2 * k ∧ iv = .int .i64 k ∧ ov = .slice A1 j c1 ∧ Own wr w2.heap.size 9 1 A1 j c1 (strV (envK l k)) ∧ Below w2.heap.size w2 wr)
    case atStart => exact ⟨0, 0, none, 0, by omega, rfl, rfl, rfl, Own.nil _ _ _ _, Below.refl _ _⟩
    case round =>
      obtain ⟨k, j, A1, c1, hk, hj, rfl, rfl, hown, hbe⟩ := hrel
      have hjl : j ≤ 2000 := by omega
      have HJ := hid2 hj
      clear hj
      by_cases hlt : k < m
      · have hkl : (k : Int) < m := by omega
        have hk0 : (0 : Int) ≤ k := by omega
        obtain ⟨x, hx⟩ : ∃ x, SS[k]? = some x := ⟨_, List.getElem?_eq_getElem (by rw [← HM.out]; exact hlt)⟩
        have hstep := HES.out k x hx
        have hxl := HMEM.out x (List.mem_of_getElem? hx)
        obtain ⟨bq, o, rfl, hcell⟩ := (HR2.out.below_all hbe).2 (by omega)
        have hcx : wr.cell? ⟨bq, o + k, none⟩ = some (.string (strB x)) := hcell k _ (strV_get hx)
        have hcm : wr.cell? ⟨b + 1, 0, none⟩ = some (.map (some b)) := (hbe.cell (p := ⟨b + 1, 0, none⟩) (World.block_lt_of_cell? _ _ HC2.out)).trans HC2.out
        have hlook := (HM2.out.below hbe HM2.out.lt).look txV_inj Tryz.underlying9 Tryz.underlying55 ([] : Tx) (zero_str wr) (strB x) (by rw [strB_size]; unfold maxLen; omega)
        rw [strB_list, HGV.out x] at hlook
        unfold txE at hlook
        obtain ⟨X, hX⟩ : ∃ X, X = strB x := ⟨_, rfl⟩
        obtain ⟨U, hU⟩ : ∃ U, U = strB (valOf l x) := ⟨_, rfl⟩
        rw [← hX] at hcx hlook
        rw [← hU] at hlook
        obtain ⟨V, hV⟩ : ∃ V, V = strV (envK l k) := ⟨_, rfl⟩
        rw [← hV] at hown
        have HX := hid2 hX
        have HU := hid2 hU
        have HV := hid2 hV
        have HST := hid2 hstep
        have HBE2 := hid2 hbe
        have hsz := hbe.size
        have hone : ∀ v ∈ [Value.string X, Value.string U], v.oneCell' = true := by simp [Value.oneCell']
        clear hx hstep hcell hbe hX hU hV hxl
        go_wp2_with (at_builtin; have _t := hown; go_must ((with_reducible refine wpList_append_lit 9 (.string ⟨#[]⟩) 1 16 Tryz.underlying28 info_str rfl w2.heap.size A1 j c1 V (hown.alloc _) 2 [.string X, .string U] (.slice (some ⟨wr.heap.size, 0, none⟩) 2 2) (Src.slice Tryz.underlying28 (Rd.of_lit wr _ _ 1 2 (by decide) rfl)) hone ?_ ?_ ?_ ?_ ?_); (unfold maxLen; omega); omega; (simp; omega); exact ⟨rfl, rfl⟩; intro A3 c3 w3 hown3 hgr3 hbl3; clear hown; have hb3 : Below w2.heap.size w2 w3 := (HBE2.out.alloc (by omega) _).grown hgr3 (by simp; omega) (fun g e => (_t.block g e).1)))
        go_roundg (gk - 1)
        case rel =>
          refine ⟨k + 1, j + 2, A3, c3, by omega, by have := HJ.out; omega, by go_num, rfl, ?_, hb3⟩
          rw [HST.out, show strV (envK l k ++ [x, valOf l x]) = V ++ [.string X, .string U] by rw [HV.out, HX.out, HU.out]; simp [strV]]
          exact hown3
        case measure => omega
      · have hkm : k = m := by omega
        have hkl : ¬ (k : Int) < m := by omega
        rw [hkm, HEA.out] at hown
        have HJM := hid2 (show j = (envL l).length by rw [HEL.out, ← hkm]; exact HJ.out)
        have hdd := (hbe.block D (heap_lt HD2.out)).trans HD2.out
        have HOWN := hid2 hown
        have HBE2 := hid2 hbe
        clear hkm hown hbe
        go_wp2_with fail
        refine wpIn_wide.2 ?_
        go_wp2_with fail
        have hDlt := heap_lt HD2.out
        have hbbe := HBB.out.trans (HBE2.out.mono hs2)
        refine ⟨by simp, .inl ⟨_, _, rfl, run_takeDeferred hdd, ?_⟩⟩
        refine ⟨_, results_tmp rfl _ _ _, A1, c1, by rw [← HJM.out]; rfl, ?_, hbbe.grown (grownBy_putObj' wr D _) hbbe.size (fun k e => by cases e; omega)⟩
        rw [← HJM.out]
        exact (HOWN.out.grown (grownBy_putObj' wr D _) (fun b hb e => by have := (HOWN.out.block b hb).1; cases e; omega)).mono hs2
  case stop =>
    rintro D cc pre W _ _ h _
    exact h.elim
end Go.Proofs.YtjjpecggcjggpaaGreatDoor
/- The walks of the document's whole. -/
namespace Go.Proofs.YtjjpecggcjggpaaGreatDoor
open Go.RowKit
set_option maxRecDepth 100000

/-- a row of bytes in its slot v: so far T -/
def RowInv (w wr : World) (T : List UInt8) (v : Value) : Prop :=
  Below w.heap.size w wr ∧ ∃ A c, v = .slice A T.length c ∧ Own wr w.heap.size 5 1 A T.length c (u8s T)
theorem RowInv.push {w wr w2 : World} {T : List UInt8} {A A' : Option Addr} {n c c' : Nat} {o : Obj} {b : UInt8} {x : Int} (hn : n = T.length) (hb : Below w.heap.size w wr) (hown : Own wr w.heap.size 5 1 A n c (u8s T))
    (hgr : (wr.alloc o).grownBy w2 (blockOf A)) (hown2 : Own w2 w.heap.size 5 1 A' (n + 1) c' (u8s T ++ [.int .u8 x])) (hx : x = b.toNat) : RowInv w w2 (T ++ [b]) (.slice A' (n + 1) c') := by
  subst hn hx
  rw [u8s_snoc] at hown2
  refine ⟨(hb.alloc hb.size o).grown hgr (by simp; have := hb.size; omega) (fun k e => (hown.block k e).1), A', c', by rw [List.length_append]; rfl, ?_⟩
  rw [List.length_append]
  exact hown2
set_option maxHeartbeats 1000000 in
theorem whole_any (w : World) (s : ByteArray) (hs : s.size ≤ 20000) :
    Calls Tryz.prog 39 #[.string s] w fun e w' => ∃ v, e = .returned v ∧ RowInv w w' (Sha.whole s.data.toList) v := by
  have HMX := hid2 (show s.size ≤ maxLen by unfold maxLen; omega)
  obtain ⟨d, hd⟩ : ∃ d, d = s.data.toList := ⟨_, rfl⟩
  have htl := toList_length s
  rw [← hd] at htl ⊢
  have HTL := hid2 htl
  have HD := hid2 hd
  have HM1 := hid2 (show s.size + 1 ≤ maxLen by unfold maxLen; omega)
  have HM2 := hid2 (show (s.size + 1) * 1 ≤ 140737488355328 by omega)
  clear hd htl
  go_enter Tryz.func39, Tryz.ntmps39
  go_wp2_with (first
    | ((with_reducible refine wpList_to_bytes_lit 5 w.heap.size s Tryz.underlying9 Tryz.underlying65 Tryz.underlying5 (Nat.le_refl _) HMX.out ?_ ?_); exact rfl; intro A2 c2 w2 hown0 hbe2 hbl2; rw [← HD.out] at hown0)
    | (at_builtin; have _t := hown0; go_must ((with_reducible refine wpList_append_lit 5 (.int .u8 0) 1 1 Tryz.underlying65 info_u8 rfl w.heap.size A2 s.size c2 (u8s d) (hown0.alloc _) 1 [.int .u8 128] (.slice (some ⟨w2.heap.size, 0, none⟩) 1 1) (Src.slice Tryz.underlying65 (Rd.one w2 _ _)) one_int HM1.out HM2.out ?_ ?_ ?_); (simp; have := hbe2.size; omega); exact ⟨rfl, rfl⟩; intro A3 c3 w3 hown3 hgr3 hbl3; clear hown0)))
  have hI0 : RowInv w w3 (d ++ [128]) (.slice A3 (s.size + 1) c3) := RowInv.push HTL.out.symm hbe2 _t hgr3 hown3 rfl
  clear hbe2 hbl2 hgr3 hbl3 hown3 _t
  obtain ⟨z, hz⟩ : ∃ z, z = (119 - s.size % 64) % 64 := ⟨_, rfl⟩
  have hmz : (s.size + 1 + z) % 64 = 56 := by omega
  have hmz' : ∀ k, k < z → (s.size + 1 + k) % 64 ≠ 56 := by intro k hk; omega
  have hz64 : z < 64 := by omega
  have HZ := hid2 hz
  have HMZ := hid2 hmz
  have HMZ' := hid2 hmz'
  clear hz hmz hmz'
  go_loopg [3] z (fun gk v wr => ∃ k, k + gk = z ∧ RowInv w wr (d ++ 128 :: List.replicate k 0) v)
  case atStart => exact ⟨0, by omega, hI0⟩
  case round =>
    clear hI0
    obtain ⟨k, hk, hbe, Ak, ck, rfl, hown⟩ := hrel
    have hTl : (d ++ 128 :: List.replicate k 0).length = s.size + 1 + k := by
      rw [List.length_append, HTL.out, List.length_cons, List.length_replicate]; omega
    obtain ⟨T, hT⟩ : ∃ T, T = d ++ 128 :: List.replicate k 0 := ⟨_, rfl⟩
    rw [← hT] at hTl hown ⊢
    obtain ⟨n, hn⟩ : ∃ n, n = T.length := ⟨_, rfl⟩
    rw [← hn] at hTl hown ⊢
    have HT := hid2 hT
    have HTL2 := hid2 hTl
    have HNT := hid2 hn
    clear hT hn
    have hS1 := hbe.size
    by_cases hkz : k < z
    · have htest : ((n : Int) % 64 != 56) = true := by
        have := HMZ'.out k hkz
        rw [bne_iff_ne]; omega
      clear hTl
      go_wp2_with (first
        | (at_builtin; have _t := hown; go_must ((with_reducible refine wpList_append_lit 5 (.int .u8 0) 1 1 Tryz.underlying65 info_u8 rfl w.heap.size Ak n ck (u8s T) (hown.alloc _) 1 [.int .u8 0] (.slice (some ⟨wr.heap.size, 0, none⟩) 1 1) (Src.slice Tryz.underlying65 (Rd.one wr _ _)) one_int ?_ ?_ ?_ ?_ ?_); (have := HTL2.out; unfold maxLen; omega); (have := HTL2.out; omega); (simp; omega); exact ⟨rfl, rfl⟩; intro A3 c3 w3 hown3 hgr3 hbl3; clear hown)))
      go_roundg (gk - 1)
      case rel => exact ⟨k + 1, by omega, by rw [zeros_snoc, ← HT.out]; exact RowInv.push HNT.out hbe _t hgr3 hown3 rfl⟩
      case measure => omega
    · have hkz' : k = z := by omega
      have htest : ((n : Int) % 64 != 56) = false := by
        have := HMZ.out
        rw [bne_eq_false_iff_eq]; omega
      have HKZ := hid2 hkz'
      have hn130 : n ≤ 20200 := by omega
      clear hTl hkz' hkz hk
      go_wp2
      have hI : RowInv w wr (T ++ (Sha.eight (8 * s.size)).take 0) (.slice Ak n ck) := by
        rw [List.take_zero, List.append_nil, HNT.out]
        rw [HNT.out] at hown
        exact ⟨hbe, Ak, ck, rfl, hown⟩
      clear hbe hown hS1
      go_loopg [3, 5] 8 (fun gk v i wr => ∃ j, j + gk = 8 ∧ i = .int .i64 (7 - (j : Int)) ∧ RowInv w wr (T ++ (Sha.eight (8 * s.size)).take j) v)
      case atStart => exact ⟨0, by omega, rfl, hI⟩
      case round =>
        clear hI
        obtain ⟨j, hj, rfl, hbe, Aj, cj, rfl, hown⟩ := hrel
        obtain ⟨U, hU⟩ : ∃ U, U = T ++ (Sha.eight (8 * s.size)).take j := ⟨_, rfl⟩
        rw [← hU] at hown ⊢
        obtain ⟨q, hq⟩ : ∃ q, q = U.length := ⟨_, rfl⟩
        rw [← hq] at hown ⊢
        have hql : q ≤ n + 8 := by rw [hq, hU, List.length_append, HNT.out, List.length_take]; omega
        have HU := hid2 hU
        have HQ := hid2 hq
        clear hU hq
        have hS1 := hbe.size
        by_cases hj8 : j < 8
        · have hge : (0 : Int) ≤ 7 - (j : Int) := by omega
          have hge8 : (0 : Int) ≤ 8 * (7 - (j : Int)) := by omega
          go_wp2_with (first
            | (at_builtin; have _t := hown; go_must ((with_reducible refine wpList_append_lit 5 (.int .u8 0) 1 1 Tryz.underlying65 info_u8 rfl w.heap.size Aj q cj (u8s U) (hown.alloc _) 1 [_] (.slice (some ⟨wr.heap.size, 0, none⟩) 1 1) (Src.slice Tryz.underlying65 (Rd.one wr _ _)) one_int ?_ ?_ ?_ ?_ ?_); (unfold maxLen; omega); omega; (simp; omega); exact ⟨rfl, rfl⟩; intro A3 c3 w3 hown3 hgr3 hbl3; clear hown)))
          go_roundg (gk - 1)
          case rel => exact ⟨j + 1, by omega, by go_num, by rw [eight_take s.size j hj8, ← List.append_assoc, ← HU.out]; exact RowInv.push HQ.out hbe _t hgr3 hown3 (by rw [← byteAt_int, show 56 - 8 * j = 8 * (7 - j) by omega, Int.mul_comm])⟩
          case measure => omega
        · have hlt0 : (7 - (j : Int)) < 0 := by omega
          have hj8' : j = 8 := by omega
          have hW : U = T ++ Sha.eight (8 * s.size) := by rw [HU.out, hj8', List.take_of_length_le (by rw [eight_length]; omega)]
          have HW := hid2 hW
          have HJ := hid2 hj8'
          clear hW hj8' hj8 hj
          go_wp2
          go_ret
          refine ⟨_, rfl, ?_⟩
          have e : Sha.whole d = U := by
            rw [HW.out, HT.out, HKZ.out, HZ.out, Sha.whole, Sha.tail, HTL.out, List.append_assoc, List.cons_append]
          rw [e, HQ.out]
          rw [HQ.out] at hown
          exact ⟨hbe, Aj, cj, rfl, hown⟩
end Go.Proofs.YtjjpecggcjggpaaGreatDoor
/- The walk of the document's block. -/
namespace Go.Proofs.YtjjpecggcjggpaaGreatDoor.Sha
theorem words_step (b : List UInt8) (n : Nat) : words b (n + 1) = words b n ++ [nextWord (words b n) n] := rfl
/-- the first k words of a block -/
def wordsTo (b : List UInt8) (k : Nat) : List UInt32 := if k ≤ 16 then (words b 0).take k else words b (k - 16)
theorem wordsTo_length (b : List UInt8) (k : Nat) : (wordsTo b k).length = k := by
  unfold wordsTo
  split
  · rw [List.length_take, words_length]; omega
  · rw [words_length]; omega
theorem wordsTo_low (b : List UInt8) (k : Nat) (h : k < 16) : wordsTo b (k + 1) = wordsTo b k ++ [wordAt b (4 * k)] := by
  have hl : k < (words b 0).length := by rw [words_length]; omega
  rw [wordsTo, wordsTo, if_pos (by omega), if_pos (by omega), List.take_succ_eq_append_getElem hl]
  congr 2
  simp [words]
theorem wordsTo_high (b : List UInt8) (k : Nat) (h : 16 ≤ k) : wordsTo b (k + 1) = wordsTo b k ++ [nextWord (wordsTo b k) (k - 16)] := by
  have e : wordsTo b k = words b (k - 16) := by
    unfold wordsTo
    split
    · have : k = 16 := by omega
      subst this
      rw [List.take_of_length_le (by rw [words_length]; omega)]
    · rfl
  rw [e, wordsTo, if_neg (by omega), show k + 1 - 16 = (k - 16) + 1 by omega]
  rfl
theorem wordsTo_all (b : List UInt8) : wordsTo b 64 = words b 48 := by rw [wordsTo, if_neg (by omega)]
theorem wordAt_drop (b : List UInt8) (k : Nat) : wordAt (b.drop k) 0 = wordAt b k := by
  simp [wordAt, List.getD_eq_getElem?_getD, List.getElem?_drop]
end Go.Proofs.YtjjpecggcjggpaaGreatDoor.Sha
namespace Go.Proofs.YtjjpecggcjggpaaGreatDoor
open Go.RowKit
set_option maxRecDepth 100000
theorem info_u32w : (Tryz.prog.info? 79).map (fun i => (i.zero, i.size, i.bytes)) = some (some (.int .u32 0), 1, 4) := by kernel_rfl
theorem info_w1 : (Tryz.prog.info? 79).map (·.size) = some 1 := by kernel_rfl
/-- a row of words of the call's own in its slot v -/
def WRow (w wr : World) (L : List UInt32) (v : Value) : Prop :=
  Below w.heap.size w wr ∧ ∃ A c, v = .slice A L.length c ∧ Own wr w.heap.size 79 1 A L.length c (w32s L)
theorem w32s_snoc (l : List UInt32) (x : UInt32) : w32s l ++ [.int .u32 x.toNat] = w32s (l ++ [x]) := by simp [w32s, w32]
theorem WRow.push {w wr w2 : World} {L : List UInt32} {A A' : Option Addr} {n m c c' : Nat} {o : Obj} {x : UInt32} {y : Int} (hn : L.length = n) (hb : Below w.heap.size w wr) (hown : Own wr w.heap.size 79 1 A n c (w32s L))
    (hgr : ((wr.drewN m).alloc o).grownBy w2 (blockOf A)) (hown2 : Own w2 w.heap.size 79 1 A' (n + 1) c' (w32s L ++ [.int .u32 y])) (hy : y = x.toNat) : WRow w w2 (L ++ [x]) (.slice A' (n + 1) c') := by
  subst hn hy
  rw [w32s_snoc] at hown2
  refine ⟨((below_drewN hb m).alloc (by exact hb.size) o).grown hgr (by simp; have := hb.size; omega) (fun k e => (hown.block k e).1), A', c', by rw [List.length_append]; rfl, ?_⟩
  rw [List.length_append]
  exact hown2
/-- what is known of operation j of the region that makes the next word: its value; of the last, that it is a row of one word -/
def BlkV (B : Nat) (vals : List Value) (x : Value) (j : Nat) (v : Value) (w2 : World) : Prop :=
  match j == 30 with
  | true => ∃ g, v = .slice (some ⟨g, 0, none⟩) 1 1 ∧ B ≤ g ∧ w2.heap[g]? = some (.cells #[x] 79 (0, 0))
  | false => vals[j]? = some v
theorem BlkV.keep {B : Nat} {vals : List Value} {x : Value} {j : Nat} {v : Value} {w2 w3 : World} (h : BlkV B vals x j v w2) (hb : Below w2.heap.size w2 w3) : BlkV B vals x j v w3 := by
  unfold BlkV at *
  split
  · rename_i hj
    simp only [hj] at h
    obtain ⟨g, h1, h2, h3⟩ := h
    exact ⟨g, h1, h2, (hb.block g (heap_lt h3)).trans h3⟩
  · rename_i hj
    simp only [hj] at h
    exact h
/-- what is known of operation j of a region whose operation N makes a row of one word: its value; of operation N, that it is such a row -/
def BlkN (N B : Nat) (vals : List Value) (x : Value) (j : Nat) (v : Value) (w2 : World) : Prop :=
  match j == N with
  | true => ∃ g, v = .slice (some ⟨g, 0, none⟩) 1 1 ∧ B ≤ g ∧ w2.heap[g]? = some (.cells #[x] 79 (0, 0))
  | false => vals[j]? = some v
theorem BlkN.keep {N B : Nat} {vals : List Value} {x : Value} {j : Nat} {v : Value} {w2 w3 : World} (h : BlkN N B vals x j v w2) (hb : Below w2.heap.size w2 w3) : BlkN N B vals x j v w3 := by
  unfold BlkN at *
  split
  · rename_i hj
    simp only [hj] at h
    obtain ⟨g, h1, h2, h3⟩ := h
    exact ⟨g, h1, h2, (hb.block g (heap_lt h3)).trans h3⟩
  · rename_i hj
    simp only [hj] at h
    exact h
theorem Rd.of_row {w : World} {g : Nat} {v : Value} {t : TypeId} (h : w.heap[g]? = some (.cells #[v] t (0, 0))) : Rd w 1 (some ⟨g, 0, none⟩) 1 [v] := by
  refine ⟨rfl, fun _ => ⟨g, 0, rfl, fun j u hu => ?_⟩⟩
  rw [Nat.zero_add, cell_of_row w g j _ _ _ h]
  simpa using hu
theorem WRow.push2 {w wr w2 : World} {L : List UInt32} {A A' : Option Addr} {n c c' : Nat} {x : UInt32} {y : Int} (hn : L.length = n) (hb : Below w.heap.size w wr) (hown : Own wr w.heap.size 79 1 A n c (w32s L))
    (hgr : wr.grownBy w2 (blockOf A)) (hown2 : Own w2 w.heap.size 79 1 A' (n + 1) c' (w32s L ++ [.int .u32 y])) (hy : y = x.toNat) : WRow w w2 (L ++ [x]) (.slice A' (n + 1) c') := by
  subst hn hy
  rw [w32s_snoc] at hown2
  refine ⟨hb.grown hgr hb.size (fun k e => (hown.block k e).1), A', c', by rw [List.length_append]; rfl, ?_⟩
  rw [List.length_append]
  exact hown2
theorem plus_take (S Z : Sha.S8) (i : Nat) (h : i < 8) : (S.plus Z).list.take (i + 1) = (S.plus Z).list.take i ++ [S.list.getD i 0 + Z.list.getD i 0] := by
  have : i = 0 ∨ i = 1 ∨ i = 2 ∨ i = 3 ∨ i = 4 ∨ i = 5 ∨ i = 6 ∨ i = 7 := by omega
  rcases this with rfl | rfl | rfl | rfl | rfl | rfl | rfl | rfl <;> rfl
section
attribute [local go_sem] w_add w_xor w_and w_not w_shr3 w_shr10 sgn32 max32
set_option maxRecDepth 100000 in
set_option maxHeartbeats 8000000 in
theorem block_any (w : World) (ab ao bb bo c cb : Nat) (S : Sha.S8) (b : List UInt8) (hab : ab < w.heap.size) (hbb : bb < w.heap.size)
    (hA : ∀ j, j < 8 → w.cell? ⟨ab, ao + j, none⟩ = some (.int .u32 (S.list.getD j 0).toNat)) (hB : ∀ j, j < 64 → w.cell? ⟨bb, bo + j, none⟩ = some (.int .u8 (b.getD j 0).toNat)) (hcb : 64 ≤ cb) :
    Calls Tryz.prog 40 #[.slice (some ⟨ab, ao, none⟩) 8 c, .slice (some ⟨bb, bo, none⟩) 64 cb] w fun e w' => ∃ v, e = .returned v ∧ WRow w w' (Sha.block S b).list v := by
  have HA := hid2 hA
  have HB := hid2 hB
  have hcb3 : (64 : Int) ≤ cb := by omega
  clear hA hB
  go_enter Tryz.func40, Tryz.ntmps40
  go_wp2_with (first | (go_at_call 60; refine (ks_any _).mono ?_; rintro e w1 ⟨AK, rfl, hK, hb1⟩))
  have HA1 := hid2 (fun j (hj : j < 8) => (hb1.cell (p := ⟨ab, ao + j, none⟩) hab).trans (HA.out j hj))
  have HB1 := hid2 (fun j (hj : j < 64) => (hb1.cell (p := ⟨bb, bo + j, none⟩) hbb).trans (HB.out j hj))
  have hab1 : ab < w1.heap.size := Nat.lt_of_lt_of_le hab hb1.size
  have hbb1 : bb < w1.heap.size := Nat.lt_of_lt_of_le hbb hb1.size
  have HK := hid2 hK
  have Hb1 := hid2 hb1
  clear HA HB hab hbb hK hb1
  have hI : WRow w1 (w1.alloc (.cells #[] 79)) (Sha.wordsTo b 0) (.slice (some ⟨w1.heap.size, 0, none⟩) 0 0) := ⟨(Below.refl _ _).alloc (Nat.le_refl _) _, _, _, rfl, Own.lit w1 #[] _ 1 0 _ (Nat.le_refl _) (by decide) rfl⟩
  go_loopg [6, 7] 64 (fun gk v i wr => ∃ k : Nat, k + gk = 64 ∧ i = .int .i64 k ∧ WRow w1 wr (Sha.wordsTo b k) v)
  case atStart => exact ⟨0, by omega, rfl, hI⟩
  case round =>
    clear hI
    obtain ⟨k, hk, rfl, hbe, Aw, cw, rfl, hown⟩ := hrel
    rw [Sha.wordsTo_length] at hown ⊢
    have hs1 := hbe.size
    by_cases hlt : k < 16
    · have hlt64 : (k : Int) < 64 := by omega
      have hwl := Sha.wordsTo_length b k
      have hlow := Sha.wordsTo_low b k hlt
      obtain ⟨W, hW⟩ : ∃ W, W = Sha.wordsTo b k := ⟨_, rfl⟩
      rw [← hW] at hown hwl hlow
      have HLOW := hid2 hlow
      have HWL := hid2 hwl
      clear hW hlow hwl
      have hword := fun wx hx => word_any bb (bo + 4 * k) (cb - 4 * k) (b.drop (4 * k)) wx hx
      have hsrc : ∀ j, j < 4 → wr.cell? ⟨bb, bo + 4 * k + j, none⟩ = some (.int .u8 ((b.drop (4 * k)).getD j 0).toNat) := by
        intro j hj
        rw [Nat.add_assoc, (hbe.cell (p := ⟨bb, bo + (4 * k + j), none⟩) hbb1), HB1.out (4 * k + j) (by omega), List.getD_eq_getElem?_getD, List.getD_eq_getElem?_getD, List.getElem?_drop]
      have HSRC := hid2 hsrc
      have HWORD := hid2 hword
      clear hsrc hword
      go_wp2_with (first
        | (go_at_call 61; refine (HWORD.out _ HSRC.out).mono ?_; rintro e w2 ⟨rfl, m, rfl⟩; rw [Sha.wordAt_drop])
        | (at_builtin; have _t := hown; go_must ((with_reducible refine wpList_append_lit 79 (.int .u32 0) 1 4 Tryz.underlying80 info_u32w rfl w1.heap.size Aw k cw (w32s W) ((hown.drewN m).alloc _) 1 [.int .u32 (Sha.wordAt b (4 * k)).toNat] (.slice (some ⟨wr.heap.size, 0, none⟩) 1 1) (Src.slice Tryz.underlying80 (Rd.one (wr.drewN m) _ _)) one_int ?_ ?_ ?_ ?_ ?_); (unfold maxLen; omega); omega; (simp; omega); exact ⟨rfl, rfl⟩; intro A3 c3 w3 hown3 hgr3 hbl3; clear hown)))
      go_roundg (gk - 1)
      case rel =>
        have hp := WRow.push HWL.out hbe _t hgr3 hown3 rfl
        rw [← HLOW.out] at hp
        exact ⟨k + 1, by omega, by go_num, hp⟩
      case measure => omega
    · by_cases hlt64 : k < 64
      · have hwl := Sha.wordsTo_length b k
        have hhigh := Sha.wordsTo_high b k (by omega)
        obtain ⟨W, hW⟩ : ∃ W, W = Sha.wordsTo b k := ⟨_, rfl⟩
        rw [← hW] at hown hwl hhigh
        have HHIGH := hid2 hhigh
        have HWL := hid2 hwl
        obtain ⟨ob, oo, cur, fr, rfl, hobb, hocur, _, hooc, hox⟩ := hown.at_ (by have := hown.2.1; omega)
        have hcell : ∀ j, j < k → wr.cell? ⟨ob, oo + j, none⟩ = some (.int .u32 (W.getD j 0).toNat) := by
          intro j hj
          rw [cell_of_row wr ob _ cur _ _ hocur, hox j (by omega), w32s_get W (by omega)]
        have HCELL := hid2 hcell
        have hc1 := hcell (k - 15) (by omega)
        have hc2 := hcell (k - 2) (by omega)
        have hc3 := hcell (k - 16) (by omega)
        have hc4 := hcell (k - 7) (by omega)
        have hg1 : (0 : Int) ≤ (k : Int) - 15 := by omega
        have hg2 : (0 : Int) ≤ (k : Int) - 2 := by omega
        have hg3 : (0 : Int) ≤ (k : Int) - 16 := by omega
        have hg4 : (0 : Int) ≤ (k : Int) - 7 := by omega
        have hobl := heap_lt hocur
        have hw16 : IntKind.i64.wrap ((k : Int) - 16) = (k : Int) - 16 := IntWalk.i64_in _ (by constructor <;> omega)
        have hw7 : IntKind.i64.wrap ((k : Int) - 7) = (k : Int) - 7 := IntWalk.i64_in _ (by constructor <;> omega)
        have ht16 : ((k : Int) - 16).toNat = k - 16 := by omega
        have ht7 : ((k : Int) - 7).toNat = k - 7 := by omega
        have hk16 : (k : Int) - 16 < k := by omega
        have hk7 : (k : Int) - 7 < k := by omega
        have hge7 : (7 : Int) ≤ k := by omega
        have hge16 : (16 : Int) ≤ k := by omega
        clear hhigh hwl hcell hocur hooc hox hobb
        have HW := hid2 hW
        obtain ⟨x, hx⟩ : ∃ x, x = W.getD (k - 15) 0 := ⟨_, rfl⟩
        obtain ⟨y, hy⟩ : ∃ y, y = W.getD (k - 2) 0 := ⟨_, rfl⟩
        obtain ⟨p, hp⟩ : ∃ p, p = W.getD (k - 16) 0 := ⟨_, rfl⟩
        obtain ⟨r, hr⟩ : ∃ r, r = W.getD (k - 7) 0 := ⟨_, rfl⟩
        rw [← hx] at hc1
        rw [← hy] at hc2
        rw [← hp] at hc3
        rw [← hr] at hc4
        have HX := hid2 hx
        have HY := hid2 hy
        have HP := hid2 hp
        have HR := hid2 hr
        clear hW hx hy hp hr
        have HOWN := hid2 hown
        have hnc := hown.2.1
        clear hown
        go_wp2_with fail
        go_quiet (fail)
        go_wp2_with fail
        refine wp_region_rel 31 (by kernel_rfl) (by kernel_rfl) (by kernel_rfl) _ rfl (by kernel_rfl) (BlkV wr.heap.size [.slice (some ⟨ob, oo, none⟩) k cw, .slice (some ⟨ob, oo, none⟩) k cw, .int .i64 (k), .int .i64 ((k : Int) - 16), .pointer (some ⟨ob, oo + (k - 16), none⟩), .int .u32 (p).toNat, .int .u32 (x).toNat, .int .u32 (rotI x 7).toNat, .int .u32 (x).toNat, .int .u32 (rotI x 18).toNat, .int .u32 (xor32 (rotI x 7) (rotI x 18)).toNat, .int .u32 (x).toNat, .int .u32 (shr32 x 3).toNat, .int .u32 (xor32 (xor32 (rotI x 7) (rotI x 18)) (shr32 x 3)).toNat, .int .u32 (add32 p (xor32 (xor32 (rotI x 7) (rotI x 18)) (shr32 x 3))).toNat, .slice (some ⟨ob, oo, none⟩) k cw, .int .i64 (k), .int .i64 ((k : Int) - 7), .pointer (some ⟨ob, oo + (k - 7), none⟩), .int .u32 (r).toNat, .int .u32 (add32 (add32 p (xor32 (xor32 (rotI x 7) (rotI x 18)) (shr32 x 3))) r).toNat, .int .u32 (y).toNat, .int .u32 (rotI y 17).toNat, .int .u32 (y).toNat, .int .u32 (rotI y 19).toNat, .int .u32 (xor32 (rotI y 17) (rotI y 19)).toNat, .int .u32 (y).toNat, .int .u32 (shr32 y 10).toNat, .int .u32 (xor32 (xor32 (rotI y 17) (rotI y 19)) (shr32 y 10)).toNat, .int .u32 (add32 (add32 (add32 p (xor32 (xor32 (rotI x 7) (rotI x 18)) (shr32 x 3))) r) (xor32 (xor32 (rotI y 17) (rotI y 19)) (shr32 y 10))).toNat] (.int .u32 (add32 (add32 (add32 p (xor32 (xor32 (rotI x 7) (rotI x 18)) (shr32 x 3))) r) (xor32 (xor32 (rotI y 17) (rotI y 19)) (shr32 y 10))).toNat)) (fun w2 => Below wr.heap.size wr w2) (fun a b => Below a.heap.size a b) (below_drewN (Below.refl _ wr) (nq + 1)) (fun _ _ _ _ hb hv => hv.keep hb) ?_ ?_
        · refine of_allOps ⟨?_, ?_, ?_, ?_, ?_, ?_, ?_, ?_, ?_, ?_, ?_, ?_, ?_, ?_, ?_, ?_, ?_, ?_, ?_, ?_, ?_, ?_, ?_, ?_, ?_, ?_, ?_, ?_, ?_, ?_, ?_, trivial⟩
          · refine ⟨rfl, fun T2 w2 hM hN hO hE K hK => ?_⟩
            have o6 : T2[6]? = some (.slice (some ⟨ob, oo, none⟩) k cw) := hO 6 rfl
            clear hE hO hN
            go_simp
            exact hK _ _ rfl hM (Below.refl _ _)
          · refine ⟨rfl, fun T2 w2 hM hN hO hE K hK => ?_⟩
            have o6 : T2[6]? = some (.slice (some ⟨ob, oo, none⟩) k cw) := hO 6 rfl
            clear hE hO hN
            go_simp
            exact hK _ _ rfl hM (Below.refl _ _)
          · refine ⟨rfl, fun T2 w2 hM hN hO hE K hK => ?_⟩
            have o7 : T2[7]? = some (.int .i64 (k)) := hO 7 rfl
            clear hE hO hN
            go_simp
            exact hK _ _ rfl hM (Below.refl _ _)
          · refine ⟨rfl, fun T2 w2 hM hN hO hE K hK => ?_⟩
            obtain ⟨v2, h2, e2⟩ := hE ⟨2, .data⟩ (by simp) rfl _ _ rfl rfl
            rw [show v2 = .int .i64 (k) from (Option.some.inj e2).symm] at h2
            clear hE hO hN
            go_simp
            exact hK _ _ rfl hM (Below.refl _ _)
          · refine ⟨rfl, fun T2 w2 hM hN hO hE K hK => ?_⟩
            obtain ⟨v1, h1, e1⟩ := hE ⟨1, .data⟩ (by simp) rfl _ _ rfl rfl
            rw [show v1 = .slice (some ⟨ob, oo, none⟩) k cw from (Option.some.inj e1).symm] at h1
            obtain ⟨v3, h3, e3⟩ := hE ⟨3, .data⟩ (by simp) rfl _ _ rfl rfl
            rw [show v3 = .int .i64 ((k : Int) - 16) from (Option.some.inj e3).symm] at h3
            clear hE hO hN
            go_simp
            exact hK _ _ rfl hM (Below.refl _ _)
          · refine ⟨rfl, fun T2 w2 hM hN hO hE K hK => ?_⟩
            obtain ⟨v4, h4, e4⟩ := hE ⟨4, .data⟩ (by simp) rfl _ _ rfl rfl
            rw [show v4 = .pointer (some ⟨ob, oo + (k - 16), none⟩) from (Option.some.inj e4).symm] at h4
            have hcc := (hM.cell (p := ⟨ob, _, none⟩) hobl).trans hc3
            clear hE hO hN
            go_simp
            exact hK _ _ rfl hM (Below.refl _ _)
          · refine ⟨rfl, fun T2 w2 hM hN hO hE K hK => ?_⟩
            have o8 : T2[8]? = some (.int .u32 (x).toNat) := hO 8 rfl
            clear hE hO hN
            go_simp
            exact hK _ _ rfl hM (Below.refl _ _)
          · refine ⟨rfl, fun T2 w2 hM hN hO hE K hK => ?_⟩
            obtain ⟨v6, h6, e6⟩ := hE ⟨6, .data⟩ (by simp) rfl _ _ rfl rfl
            rw [show v6 = .int .u32 (x).toNat from (Option.some.inj e6).symm] at h6
            clear hE hO hN
            go_simp
            refine (turn_any _ _ _ (by omega) (by omega)).mono ?_
            rintro e w3 ⟨rfl, m2, rfl⟩
            exact hK _ _ rfl (below_drewN hM m2) (below_drewN (Below.refl _ _) m2)
          · refine ⟨rfl, fun T2 w2 hM hN hO hE K hK => ?_⟩
            have o8 : T2[8]? = some (.int .u32 (x).toNat) := hO 8 rfl
            clear hE hO hN
            go_simp
            exact hK _ _ rfl hM (Below.refl _ _)
          · refine ⟨rfl, fun T2 w2 hM hN hO hE K hK => ?_⟩
            obtain ⟨v8, h8, e8⟩ := hE ⟨8, .data⟩ (by simp) rfl _ _ rfl rfl
            rw [show v8 = .int .u32 (x).toNat from (Option.some.inj e8).symm] at h8
            clear hE hO hN
            go_simp
            refine (turn_any _ _ _ (by omega) (by omega)).mono ?_
            rintro e w3 ⟨rfl, m2, rfl⟩
            exact hK _ _ rfl (below_drewN hM m2) (below_drewN (Below.refl _ _) m2)
          · refine ⟨rfl, fun T2 w2 hM hN hO hE K hK => ?_⟩
            obtain ⟨v7, h7, e7⟩ := hE ⟨7, .data⟩ (by simp) rfl _ _ rfl rfl
            rw [show v7 = .int .u32 (rotI x 7).toNat from (Option.some.inj e7).symm] at h7
            obtain ⟨v9, h9, e9⟩ := hE ⟨9, .data⟩ (by simp) rfl _ _ rfl rfl
            rw [show v9 = .int .u32 (rotI x 18).toNat from (Option.some.inj e9).symm] at h9
            clear hE hO hN
            go_simp
            exact hK _ _ rfl hM (Below.refl _ _)
          · refine ⟨rfl, fun T2 w2 hM hN hO hE K hK => ?_⟩
            have o8 : T2[8]? = some (.int .u32 (x).toNat) := hO 8 rfl
            clear hE hO hN
            go_simp
            exact hK _ _ rfl hM (Below.refl _ _)
          · refine ⟨rfl, fun T2 w2 hM hN hO hE K hK => ?_⟩
            obtain ⟨v11, h11, e11⟩ := hE ⟨11, .data⟩ (by simp) rfl _ _ rfl rfl
            rw [show v11 = .int .u32 (x).toNat from (Option.some.inj e11).symm] at h11
            clear hE hO hN
            go_simp
            exact hK _ _ rfl hM (Below.refl _ _)
          · refine ⟨rfl, fun T2 w2 hM hN hO hE K hK => ?_⟩
            obtain ⟨v10, h10, e10⟩ := hE ⟨10, .data⟩ (by simp) rfl _ _ rfl rfl
            rw [show v10 = .int .u32 (xor32 (rotI x 7) (rotI x 18)).toNat from (Option.some.inj e10).symm] at h10
            obtain ⟨v12, h12, e12⟩ := hE ⟨12, .data⟩ (by simp) rfl _ _ rfl rfl
            rw [show v12 = .int .u32 (shr32 x 3).toNat from (Option.some.inj e12).symm] at h12
            clear hE hO hN
            go_simp
            exact hK _ _ rfl hM (Below.refl _ _)
          · refine ⟨rfl, fun T2 w2 hM hN hO hE K hK => ?_⟩
            obtain ⟨v5, h5, e5⟩ := hE ⟨5, .data⟩ (by simp) rfl _ _ rfl rfl
            rw [show v5 = .int .u32 (p).toNat from (Option.some.inj e5).symm] at h5
            obtain ⟨v13, h13, e13⟩ := hE ⟨13, .data⟩ (by simp) rfl _ _ rfl rfl
            rw [show v13 = .int .u32 (xor32 (xor32 (rotI x 7) (rotI x 18)) (shr32 x 3)).toNat from (Option.some.inj e13).symm] at h13
            clear hE hO hN
            go_simp
            exact hK _ _ rfl hM (Below.refl _ _)
          · refine ⟨rfl, fun T2 w2 hM hN hO hE K hK => ?_⟩
            have o6 : T2[6]? = some (.slice (some ⟨ob, oo, none⟩) k cw) := hO 6 rfl
            clear hE hO hN
            go_simp
            exact hK _ _ rfl hM (Below.refl _ _)
          · refine ⟨rfl, fun T2 w2 hM hN hO hE K hK => ?_⟩
            have o7 : T2[7]? = some (.int .i64 (k)) := hO 7 rfl
            clear hE hO hN
            go_simp
            exact hK _ _ rfl hM (Below.refl _ _)
          · refine ⟨rfl, fun T2 w2 hM hN hO hE K hK => ?_⟩
            obtain ⟨v16, h16, e16⟩ := hE ⟨16, .data⟩ (by simp) rfl _ _ rfl rfl
            rw [show v16 = .int .i64 (k) from (Option.some.inj e16).symm] at h16
            clear hE hO hN
            go_simp
            exact hK _ _ rfl hM (Below.refl _ _)
          · refine ⟨rfl, fun T2 w2 hM hN hO hE K hK => ?_⟩
            obtain ⟨v15, h15, e15⟩ := hE ⟨15, .data⟩ (by simp) rfl _ _ rfl rfl
            rw [show v15 = .slice (some ⟨ob, oo, none⟩) k cw from (Option.some.inj e15).symm] at h15
            obtain ⟨v17, h17, e17⟩ := hE ⟨17, .data⟩ (by simp) rfl _ _ rfl rfl
            rw [show v17 = .int .i64 ((k : Int) - 7) from (Option.some.inj e17).symm] at h17
            clear hE hO hN
            go_simp
            exact hK _ _ rfl hM (Below.refl _ _)
          · refine ⟨rfl, fun T2 w2 hM hN hO hE K hK => ?_⟩
            obtain ⟨v18, h18, e18⟩ := hE ⟨18, .data⟩ (by simp) rfl _ _ rfl rfl
            rw [show v18 = .pointer (some ⟨ob, oo + (k - 7), none⟩) from (Option.some.inj e18).symm] at h18
            have hcc := (hM.cell (p := ⟨ob, _, none⟩) hobl).trans hc4
            clear hE hO hN
            go_simp
            exact hK _ _ rfl hM (Below.refl _ _)
          · refine ⟨rfl, fun T2 w2 hM hN hO hE K hK => ?_⟩
            obtain ⟨v14, h14, e14⟩ := hE ⟨14, .data⟩ (by simp) rfl _ _ rfl rfl
            rw [show v14 = .int .u32 (add32 p (xor32 (xor32 (rotI x 7) (rotI x 18)) (shr32 x 3))).toNat from (Option.some.inj e14).symm] at h14
            obtain ⟨v19, h19, e19⟩ := hE ⟨19, .data⟩ (by simp) rfl _ _ rfl rfl
            rw [show v19 = .int .u32 (r).toNat from (Option.some.inj e19).symm] at h19
            clear hE hO hN
            go_simp
            exact hK _ _ rfl hM (Below.refl _ _)
          · refine ⟨rfl, fun T2 w2 hM hN hO hE K hK => ?_⟩
            have o9 : T2[9]? = some (.int .u32 (y).toNat) := hO 9 rfl
            clear hE hO hN
            go_simp
            exact hK _ _ rfl hM (Below.refl _ _)
          · refine ⟨rfl, fun T2 w2 hM hN hO hE K hK => ?_⟩
            obtain ⟨v21, h21, e21⟩ := hE ⟨21, .data⟩ (by simp) rfl _ _ rfl rfl
            rw [show v21 = .int .u32 (y).toNat from (Option.some.inj e21).symm] at h21
            clear hE hO hN
            go_simp
            refine (turn_any _ _ _ (by omega) (by omega)).mono ?_
            rintro e w3 ⟨rfl, m2, rfl⟩
            exact hK _ _ rfl (below_drewN hM m2) (below_drewN (Below.refl _ _) m2)
          · refine ⟨rfl, fun T2 w2 hM hN hO hE K hK => ?_⟩
            have o9 : T2[9]? = some (.int .u32 (y).toNat) := hO 9 rfl
            clear hE hO hN
            go_simp
            exact hK _ _ rfl hM (Below.refl _ _)
          · refine ⟨rfl, fun T2 w2 hM hN hO hE K hK => ?_⟩
            obtain ⟨v23, h23, e23⟩ := hE ⟨23, .data⟩ (by simp) rfl _ _ rfl rfl
            rw [show v23 = .int .u32 (y).toNat from (Option.some.inj e23).symm] at h23
            clear hE hO hN
            go_simp
            refine (turn_any _ _ _ (by omega) (by omega)).mono ?_
            rintro e w3 ⟨rfl, m2, rfl⟩
            exact hK _ _ rfl (below_drewN hM m2) (below_drewN (Below.refl _ _) m2)
          · refine ⟨rfl, fun T2 w2 hM hN hO hE K hK => ?_⟩
            obtain ⟨v22, h22, e22⟩ := hE ⟨22, .data⟩ (by simp) rfl _ _ rfl rfl
            rw [show v22 = .int .u32 (rotI y 17).toNat from (Option.some.inj e22).symm] at h22
            obtain ⟨v24, h24, e24⟩ := hE ⟨24, .data⟩ (by simp) rfl _ _ rfl rfl
            rw [show v24 = .int .u32 (rotI y 19).toNat from (Option.some.inj e24).symm] at h24
            clear hE hO hN
            go_simp
            exact hK _ _ rfl hM (Below.refl _ _)
          · refine ⟨rfl, fun T2 w2 hM hN hO hE K hK => ?_⟩
            have o9 : T2[9]? = some (.int .u32 (y).toNat) := hO 9 rfl
            clear hE hO hN
            go_simp
            exact hK _ _ rfl hM (Below.refl _ _)
          · refine ⟨rfl, fun T2 w2 hM hN hO hE K hK => ?_⟩
            obtain ⟨v26, h26, e26⟩ := hE ⟨26, .data⟩ (by simp) rfl _ _ rfl rfl
            rw [show v26 = .int .u32 (y).toNat from (Option.some.inj e26).symm] at h26
            clear hE hO hN
            go_simp
            exact hK _ _ rfl hM (Below.refl _ _)
          · refine ⟨rfl, fun T2 w2 hM hN hO hE K hK => ?_⟩
            obtain ⟨v25, h25, e25⟩ := hE ⟨25, .data⟩ (by simp) rfl _ _ rfl rfl
            rw [show v25 = .int .u32 (xor32 (rotI y 17) (rotI y 19)).toNat from (Option.some.inj e25).symm] at h25
            obtain ⟨v27, h27, e27⟩ := hE ⟨27, .data⟩ (by simp) rfl _ _ rfl rfl
            rw [show v27 = .int .u32 (shr32 y 10).toNat from (Option.some.inj e27).symm] at h27
            clear hE hO hN
            go_simp
            exact hK _ _ rfl hM (Below.refl _ _)
          · refine ⟨rfl, fun T2 w2 hM hN hO hE K hK => ?_⟩
            obtain ⟨v20, h20, e20⟩ := hE ⟨20, .data⟩ (by simp) rfl _ _ rfl rfl
            rw [show v20 = .int .u32 (add32 (add32 p (xor32 (xor32 (rotI x 7) (rotI x 18)) (shr32 x 3))) r).toNat from (Option.some.inj e20).symm] at h20
            obtain ⟨v28, h28, e28⟩ := hE ⟨28, .data⟩ (by simp) rfl _ _ rfl rfl
            rw [show v28 = .int .u32 (xor32 (xor32 (rotI y 17) (rotI y 19)) (shr32 y 10)).toNat from (Option.some.inj e28).symm] at h28
            clear hE hO hN
            go_simp
            exact hK _ _ rfl hM (Below.refl _ _)
          · refine ⟨rfl, fun T2 w2 hM hN hO hE K hK => ?_⟩
            obtain ⟨v29, h29, e29⟩ := hE ⟨29, .data⟩ (by simp) rfl _ _ rfl rfl
            rw [show v29 = .int .u32 (add32 (add32 (add32 p (xor32 (xor32 (rotI x 7) (rotI x 18)) (shr32 x 3))) r) (xor32 (xor32 (rotI y 17) (rotI y 19)) (shr32 y 10))).toNat from (Option.some.inj e29).symm] at h29
            clear hE hO hN
            go_simp
            exact hK _ _ ⟨_, rfl, hM.size, heap_alloc_new w2 _⟩ (hM.alloc hM.size _) ((Below.refl _ _).alloc (Nat.le_refl _) _)
        · intro u w2 hM hF
          have e0 : .slice (some ⟨ob, oo, none⟩) k cw = u 0 := Option.some.inj (hF 0 (by omega))
          obtain ⟨gg, e30, hgg, hgc⟩ : ∃ g, u 30 = .slice (some ⟨g, 0, none⟩) 1 1 ∧ wr.heap.size ≤ g ∧ w2.heap[g]? = some (.cells #[.int .u32 (add32 (add32 (add32 p (xor32 (xor32 (rotI x 7) (rotI x 18)) (shr32 x 3))) r) (xor32 (xor32 (rotI y 17) (rotI y 19)) (shr32 y 10))).toNat] 79 (0, 0)) := hF 30 (by omega)
          clear hF
          simp only [fillAll, Nat.reduceAdd, ← e0, e30, List.take_succ_cons, List.take_zero, List.drop_succ_cons, List.drop_zero, List.setIfInBounds_toArray, List.set_cons_succ, List.set_cons_zero]
          have hown2 := HOWN.out.below hM (Nat.le_refl _)
          have _t := hown2
          have hbe2 := hbe.trans (hM.mono hs1)
          have hs2 := hM.size
          with_reducible refine wpList_append_lit 79 (.int .u32 0) 1 4 Tryz.underlying80 info_u32w rfl w1.heap.size (some ⟨ob, oo, none⟩) k cw (w32s W) hown2 1 [_] (.slice (some ⟨gg, 0, none⟩) 1 1) (Src.slice Tryz.underlying80 (Rd.of_row hgc)) one_int ?_ ?_ ?_ ?_ ?_
          · unfold maxLen; omega
          · omega
          · omega
          · exact ⟨rfl, rfl⟩
          intro A3 c3 w3 hown3 hgr3 hbl3
          clear hown2
          go_wp2
          go_roundg (gk - 1)
          case rel =>
            refine ⟨k + 1, by omega, by go_num, ?_⟩
            rw [HHIGH.out]
            exact WRow.push2 HWL.out hbe2 _t hgr3 hown3 (by rw [HX.out, HY.out, HP.out, HR.out, Sha.nextWord, show k - 16 + 1 = k - 15 by omega, show k - 16 + 9 = k - 7 by omega, show k - 16 + 14 = k - 2 by omega]; rfl)
          case measure => omega
      · have hk64 : k = 64 := by omega
        have hW64 : Sha.wordsTo b k = Sha.words b 48 := by rw [hk64, Sha.wordsTo_all]
        have HK64 := hid2 hk64
        rw [hW64] at hown
        obtain ⟨W, hW⟩ : ∃ W, W = Sha.words b 48 := ⟨_, rfl⟩
        rw [← hW] at hown
        have HW := hid2 hW
        have HOWN := hid2 hown
        have hnc := hown.2.1
        have hnl : ¬ (k : Int) < 64 := by omega
        clear hW hW64 hown hk64 hk
        have hRA : Rd (wr.alloc (.cells #[] 79)) 1 (some ⟨ab, ao, none⟩) 8 (w32s S.list) := by
          refine Rd.alloc ⟨rfl, fun _ => ⟨ab, ao, rfl, fun j u hu => ?_⟩⟩ _
          have hj : j < 8 := by
            rcases Nat.lt_or_ge j 8 with h | h
            · exact h
            · rw [List.getElem?_eq_none (by rw [w32s_length]; exact h)] at hu; cases hu
          rw [(hbe.cell (p := ⟨ab, ao + j, none⟩) hab1), HA1.out j hj]
          rw [w32s_get S.list (by exact hj)] at hu
          exact hu
        have HRA := hid2 hRA
        have HL := hid2 (Own.lit wr #[] 79 1 0 w1.heap.size hs1 (by decide) rfl)
        clear hRA
        go_wp2_with (first
          | (at_builtin; have _t := HL; go_must ((with_reducible refine wpList_append_lit 79 (.int .u32 0) 1 4 Tryz.underlying80 info_u32w rfl w1.heap.size (some ⟨wr.heap.size, 0, none⟩) 0 0 [] HL.out 8 (w32s S.list) (.slice (some ⟨ab, ao, none⟩) 8 c) (Src.slice Tryz.underlying80 HRA.out) (w32s_one _) ?_ ?_ ?_ ?_ ?_); (unfold maxLen; omega); omega; (simp; omega); exact ⟨rfl, rfl⟩; intro A3 c3 w3 hown3 hgr3 hbl3; clear HL)))
        have hb3 : Below w1.heap.size w1 w3 := (hbe.alloc hs1 _).grown hgr3 (by simp; omega) (fun g e => by simp [blockOf] at e; omega)
        have hWR : Rd w3 1 Aw 64 (w32s W) := by
          have := HOWN.out.grown (w' := w3) ⟨hgr3.os, hgr3.tape, hgr3.output, by have := hgr3.size; simp at this; omega, fun g hg hne => (hgr3.block g (by simp; omega) hne).trans (Below.heap_alloc wr _ g hg)⟩ (fun g hg e => by have := (HOWN.out.block g hg).2.1; simp [blockOf] at e; omega)
          rw [HK64.out] at this
          exact this.rd
        have hKR : Rd w3 1 AK 64 (w32s Sha.ks) := HK.out.below_all hb3
        have HWR := hid2 hWR
        have HKR := hid2 hKR
        have Hb3 := hid2 hb3
        have hc38 : 8 ≤ c3 := by have := hown3.2.1; omega
        have hR0 : Rd w3 1 A3 8 (w32s (Sha.turns W S 0).list) := hown3.rd
        have HA1b := HA1
        clear hWR hKR hb3 hown3 hgr3 hbl3 _t HRA HOWN hnc hnl hbe hs1 HK HB1 hlt hlt64
        go_loopg [10, 11] 64 (fun gk v i wx => ∃ j : Nat, j + gk = 64 ∧ i = .int .i64 j ∧ Below w3.heap.size w3 wx ∧ ∃ A c, v = .slice A 8 c ∧ 8 ≤ c ∧ Rd wx 1 A 8 (w32s (Sha.turns W S j).list))
        case atStart => exact ⟨0, by omega, rfl, Below.refl _ _, A3, c3, rfl, hc38, hR0⟩
        case round =>
          clear hR0
          obtain ⟨j, hj, rfl, hbx, Al, cl, rfl, hcl, hR⟩ := hrel
          obtain ⟨Z, hZ⟩ : ∃ Z, Z = Sha.turns W S j := ⟨_, rfl⟩
          rw [← hZ] at hR
          have HZ := hid2 hZ
          clear hZ
          by_cases hj64 : j < 64
          · obtain ⟨lb, lo, rfl, hlc⟩ := hR.2 (by omega)
            have c0 : wr.cell? ⟨lb, lo, none⟩ = some (.int .u32 Z.a.toNat) := hlc 0 _ (w32s_get Z.list (show 0 < 8 by decide))
            have c1 : wr.cell? ⟨lb, lo + 1, none⟩ = some (.int .u32 Z.b.toNat) := hlc 1 _ (w32s_get Z.list (show 1 < 8 by decide))
            have c2 : wr.cell? ⟨lb, lo + 2, none⟩ = some (.int .u32 Z.c.toNat) := hlc 2 _ (w32s_get Z.list (show 2 < 8 by decide))
            have c3 : wr.cell? ⟨lb, lo + 3, none⟩ = some (.int .u32 Z.d.toNat) := hlc 3 _ (w32s_get Z.list (show 3 < 8 by decide))
            have c4 : wr.cell? ⟨lb, lo + 4, none⟩ = some (.int .u32 Z.e.toNat) := hlc 4 _ (w32s_get Z.list (show 4 < 8 by decide))
            have c5 : wr.cell? ⟨lb, lo + 5, none⟩ = some (.int .u32 Z.f.toNat) := hlc 5 _ (w32s_get Z.list (show 5 < 8 by decide))
            have c6 : wr.cell? ⟨lb, lo + 6, none⟩ = some (.int .u32 Z.g.toNat) := hlc 6 _ (w32s_get Z.list (show 6 < 8 by decide))
            have c7 : wr.cell? ⟨lb, lo + 7, none⟩ = some (.int .u32 Z.h.toNat) := hlc 7 _ (w32s_get Z.list (show 7 < 8 by decide))
            obtain ⟨kb, ko, rfl, hkc⟩ := HKR.out.2 (by omega)
            obtain ⟨wb, wo, rfl, hwc⟩ := HWR.out.2 (by omega)
            have hkk := hkc j _ (w32s_get Sha.ks (show j < 64 from hj64))
            have hwk := hwc j _ (w32s_get W (by rw [HW.out, Sha.words_length]; exact hj64))
            obtain ⟨kk, hkke⟩ : ∃ kk, kk = Sha.ks.getD j 0 := ⟨_, rfl⟩
            obtain ⟨wk, hwke⟩ : ∃ wk, wk = W.getD j 0 := ⟨_, rfl⟩
            rw [← hkke] at hkk
            rw [← hwke] at hwk
            have hkk1 := (hbx.cell (p := ⟨kb, ko + j, none⟩) (World.block_lt_of_cell? w3 _ hkk)).trans hkk
            have hwk1 := (hbx.cell (p := ⟨wb, wo + j, none⟩) (World.block_lt_of_cell? w3 _ hwk)).trans hwk
            have HKE := hid2 hkke
            have HWE := hid2 hwke
            have hjk : (j : Int) < k := by have := HK64.out; omega
            have hjk2 : j < k := by have := HK64.out; omega
            clear hkk hwk hkke hwke hkc hwc hlc hR HKR HWR
            go_wp2_with fail
            go_quiet (fail)
            go_wp2_with fail
            go_quiet ((go_at_call 62; exact quiet_more_d (turn_any _ _ _ (by omega) (by omega))))
            go_wp2_with fail
            go_quiet ((go_at_call 62; exact quiet_more_d (turn_any _ _ _ (by omega) (by omega))))
            go_wp2_with fail
            refine wp_region_vals 22 (by kernel_rfl) (by kernel_rfl) (by kernel_rfl) _ rfl (by kernel_rfl) (fun i => ([.int .u32 (add32 (add32 (add32 (add32 Z.h (xor32 (xor32 (rotI Z.e 6) (rotI Z.e 11)) (rotI Z.e 25))) (xor32 (and32 Z.e Z.f) (and32 (not32 Z.e) Z.g))) kk) wk).toNat, .int .u32 (add32 (xor32 (xor32 (rotI Z.a 2) (rotI Z.a 13)) (rotI Z.a 22)) (xor32 (xor32 (and32 Z.a Z.b) (and32 Z.a Z.c)) (and32 Z.b Z.c))).toNat, .int .u32 (add32 (add32 (add32 (add32 (add32 Z.h (xor32 (xor32 (rotI Z.e 6) (rotI Z.e 11)) (rotI Z.e 25))) (xor32 (and32 Z.e Z.f) (and32 (not32 Z.e) Z.g))) kk) wk) (add32 (xor32 (xor32 (rotI Z.a 2) (rotI Z.a 13)) (rotI Z.a 22)) (xor32 (xor32 (and32 Z.a Z.b) (and32 Z.a Z.c)) (and32 Z.b Z.c)))).toNat, .int .u32 (Z.a).toNat, .slice (some ⟨lb, lo, none⟩) 8 cl, .pointer (some ⟨lb, lo + 1, none⟩), .int .u32 (Z.b).toNat, .slice (some ⟨lb, lo, none⟩) 8 cl, .pointer (some ⟨lb, lo + 2, none⟩), .int .u32 (Z.c).toNat, .slice (some ⟨lb, lo, none⟩) 8 cl, .pointer (some ⟨lb, lo + 3, none⟩), .int .u32 (Z.d).toNat, .int .u32 (add32 (add32 (add32 (add32 Z.h (xor32 (xor32 (rotI Z.e 6) (rotI Z.e 11)) (rotI Z.e 25))) (xor32 (and32 Z.e Z.f) (and32 (not32 Z.e) Z.g))) kk) wk).toNat, .int .u32 (add32 Z.d (add32 (add32 (add32 (add32 Z.h (xor32 (xor32 (rotI Z.e 6) (rotI Z.e 11)) (rotI Z.e 25))) (xor32 (and32 Z.e Z.f) (and32 (not32 Z.e) Z.g))) kk) wk)).toNat, .int .u32 (Z.e).toNat, .slice (some ⟨lb, lo, none⟩) 8 cl, .pointer (some ⟨lb, lo + 5, none⟩), .int .u32 (Z.f).toNat, .slice (some ⟨lb, lo, none⟩) 8 cl, .pointer (some ⟨lb, lo + 6, none⟩), .int .u32 (Z.g).toNat] : List Value).getD i undef) (fun w2 => ∃ m, w2 = wr.drewN m) (by simp only [World.drewN_drewN]; exact ⟨_ + 1, rfl⟩) ?_ ?_
            · refine of_allOps ⟨?_, ?_, ?_, ?_, ?_, ?_, ?_, ?_, ?_, ?_, ?_, ?_, ?_, ?_, ?_, ?_, ?_, ?_, ?_, ?_, ?_, ?_, trivial⟩
              · refine ⟨rfl, fun T2 w2 hM hN hO hE => ?_⟩
                obtain ⟨m, rfl⟩ := hM
                have o14 : T2[14]? = some (.int .u32 (add32 (add32 (add32 (add32 Z.h (xor32 (xor32 (rotI Z.e 6) (rotI Z.e 11)) (rotI Z.e 25))) (xor32 (and32 Z.e Z.f) (and32 (not32 Z.e) Z.g))) kk) wk).toNat) := hO 14 rfl
                clear hE hO hN
                go_simp
                first | exact ⟨m, rfl⟩ | exact ⟨rfl, m, rfl⟩
              · refine ⟨rfl, fun T2 w2 hM hN hO hE => ?_⟩
                obtain ⟨m, rfl⟩ := hM
                have o15 : T2[15]? = some (.int .u32 (add32 (xor32 (xor32 (rotI Z.a 2) (rotI Z.a 13)) (rotI Z.a 22)) (xor32 (xor32 (and32 Z.a Z.b) (and32 Z.a Z.c)) (and32 Z.b Z.c))).toNat) := hO 15 rfl
                clear hE hO hN
                go_simp
                first | exact ⟨m, rfl⟩ | exact ⟨rfl, m, rfl⟩
              · refine ⟨rfl, fun T2 w2 hM hN hO hE => ?_⟩
                obtain ⟨m, rfl⟩ := hM
                have h0 : T2[155]? = some (.int .u32 (add32 (add32 (add32 (add32 Z.h (xor32 (xor32 (rotI Z.e 6) (rotI Z.e 11)) (rotI Z.e 25))) (xor32 (and32 Z.e Z.f) (and32 (not32 Z.e) Z.g))) kk) wk).toNat) := hE ⟨0, .data⟩ (by simp) rfl _ _ rfl rfl
                have h1 : T2[156]? = some (.int .u32 (add32 (xor32 (xor32 (rotI Z.a 2) (rotI Z.a 13)) (rotI Z.a 22)) (xor32 (xor32 (and32 Z.a Z.b) (and32 Z.a Z.c)) (and32 Z.b Z.c))).toNat) := hE ⟨1, .data⟩ (by simp) rfl _ _ rfl rfl
                clear hE hO hN
                go_simp
                first | exact ⟨m, rfl⟩ | exact ⟨rfl, m, rfl⟩
              · refine ⟨rfl, fun T2 w2 hM hN hO hE => ?_⟩
                obtain ⟨m, rfl⟩ := hM
                have o12 : T2[12]? = some (.int .u32 (Z.a).toNat) := hO 12 rfl
                clear hE hO hN
                go_simp
                first | exact ⟨m, rfl⟩ | exact ⟨rfl, m, rfl⟩
              · refine ⟨rfl, fun T2 w2 hM hN hO hE => ?_⟩
                obtain ⟨m, rfl⟩ := hM
                have o10 : T2[10]? = some (.slice (some ⟨lb, lo, none⟩) 8 cl) := hO 10 rfl
                clear hE hO hN
                go_simp
                first | exact ⟨m, rfl⟩ | exact ⟨rfl, m, rfl⟩
              · refine ⟨rfl, fun T2 w2 hM hN hO hE => ?_⟩
                obtain ⟨m, rfl⟩ := hM
                have h4 : T2[159]? = some (.slice (some ⟨lb, lo, none⟩) 8 cl) := hE ⟨4, .data⟩ (by simp) rfl _ _ rfl rfl
                clear hE hO hN
                go_simp
                first | exact ⟨m, rfl⟩ | exact ⟨rfl, m, rfl⟩
              · refine ⟨rfl, fun T2 w2 hM hN hO hE => ?_⟩
                obtain ⟨m, rfl⟩ := hM
                have h5 : T2[160]? = some (.pointer (some ⟨lb, lo + 1, none⟩)) := hE ⟨5, .data⟩ (by simp) rfl _ _ rfl rfl
                clear hE hO hN
                go_simp
                first | exact ⟨m, rfl⟩ | exact ⟨rfl, m, rfl⟩
              · refine ⟨rfl, fun T2 w2 hM hN hO hE => ?_⟩
                obtain ⟨m, rfl⟩ := hM
                have o10 : T2[10]? = some (.slice (some ⟨lb, lo, none⟩) 8 cl) := hO 10 rfl
                clear hE hO hN
                go_simp
                first | exact ⟨m, rfl⟩ | exact ⟨rfl, m, rfl⟩
              · refine ⟨rfl, fun T2 w2 hM hN hO hE => ?_⟩
                obtain ⟨m, rfl⟩ := hM
                have h7 : T2[162]? = some (.slice (some ⟨lb, lo, none⟩) 8 cl) := hE ⟨7, .data⟩ (by simp) rfl _ _ rfl rfl
                clear hE hO hN
                go_simp
                first | exact ⟨m, rfl⟩ | exact ⟨rfl, m, rfl⟩
              · refine ⟨rfl, fun T2 w2 hM hN hO hE => ?_⟩
                obtain ⟨m, rfl⟩ := hM
                have h8 : T2[163]? = some (.pointer (some ⟨lb, lo + 2, none⟩)) := hE ⟨8, .data⟩ (by simp) rfl _ _ rfl rfl
                clear hE hO hN
                go_simp
                first | exact ⟨m, rfl⟩ | exact ⟨rfl, m, rfl⟩
              · refine ⟨rfl, fun T2 w2 hM hN hO hE => ?_⟩
                obtain ⟨m, rfl⟩ := hM
                have o10 : T2[10]? = some (.slice (some ⟨lb, lo, none⟩) 8 cl) := hO 10 rfl
                clear hE hO hN
                go_simp
                first | exact ⟨m, rfl⟩ | exact ⟨rfl, m, rfl⟩
              · refine ⟨rfl, fun T2 w2 hM hN hO hE => ?_⟩
                obtain ⟨m, rfl⟩ := hM
                have h10 : T2[165]? = some (.slice (some ⟨lb, lo, none⟩) 8 cl) := hE ⟨10, .data⟩ (by simp) rfl _ _ rfl rfl
                clear hE hO hN
                go_simp
                first | exact ⟨m, rfl⟩ | exact ⟨rfl, m, rfl⟩
              · refine ⟨rfl, fun T2 w2 hM hN hO hE => ?_⟩
                obtain ⟨m, rfl⟩ := hM
                have h11 : T2[166]? = some (.pointer (some ⟨lb, lo + 3, none⟩)) := hE ⟨11, .data⟩ (by simp) rfl _ _ rfl rfl
                clear hE hO hN
                go_simp
                first | exact ⟨m, rfl⟩ | exact ⟨rfl, m, rfl⟩
              · refine ⟨rfl, fun T2 w2 hM hN hO hE => ?_⟩
                obtain ⟨m, rfl⟩ := hM
                have o14 : T2[14]? = some (.int .u32 (add32 (add32 (add32 (add32 Z.h (xor32 (xor32 (rotI Z.e 6) (rotI Z.e 11)) (rotI Z.e 25))) (xor32 (and32 Z.e Z.f) (and32 (not32 Z.e) Z.g))) kk) wk).toNat) := hO 14 rfl
                clear hE hO hN
                go_simp
                first | exact ⟨m, rfl⟩ | exact ⟨rfl, m, rfl⟩
              · refine ⟨rfl, fun T2 w2 hM hN hO hE => ?_⟩
                obtain ⟨m, rfl⟩ := hM
                have h12 : T2[167]? = some (.int .u32 (Z.d).toNat) := hE ⟨12, .data⟩ (by simp) rfl _ _ rfl rfl
                have h13 : T2[168]? = some (.int .u32 (add32 (add32 (add32 (add32 Z.h (xor32 (xor32 (rotI Z.e 6) (rotI Z.e 11)) (rotI Z.e 25))) (xor32 (and32 Z.e Z.f) (and32 (not32 Z.e) Z.g))) kk) wk).toNat) := hE ⟨13, .data⟩ (by simp) rfl _ _ rfl rfl
                clear hE hO hN
                go_simp
                first | exact ⟨m, rfl⟩ | exact ⟨rfl, m, rfl⟩
              · refine ⟨rfl, fun T2 w2 hM hN hO hE => ?_⟩
                obtain ⟨m, rfl⟩ := hM
                have o13 : T2[13]? = some (.int .u32 (Z.e).toNat) := hO 13 rfl
                clear hE hO hN
                go_simp
                first | exact ⟨m, rfl⟩ | exact ⟨rfl, m, rfl⟩
              · refine ⟨rfl, fun T2 w2 hM hN hO hE => ?_⟩
                obtain ⟨m, rfl⟩ := hM
                have o10 : T2[10]? = some (.slice (some ⟨lb, lo, none⟩) 8 cl) := hO 10 rfl
                clear hE hO hN
                go_simp
                first | exact ⟨m, rfl⟩ | exact ⟨rfl, m, rfl⟩
              · refine ⟨rfl, fun T2 w2 hM hN hO hE => ?_⟩
                obtain ⟨m, rfl⟩ := hM
                have h16 : T2[171]? = some (.slice (some ⟨lb, lo, none⟩) 8 cl) := hE ⟨16, .data⟩ (by simp) rfl _ _ rfl rfl
                clear hE hO hN
                go_simp
                first | exact ⟨m, rfl⟩ | exact ⟨rfl, m, rfl⟩
              · refine ⟨rfl, fun T2 w2 hM hN hO hE => ?_⟩
                obtain ⟨m, rfl⟩ := hM
                have h17 : T2[172]? = some (.pointer (some ⟨lb, lo + 5, none⟩)) := hE ⟨17, .data⟩ (by simp) rfl _ _ rfl rfl
                clear hE hO hN
                go_simp
                first | exact ⟨m, rfl⟩ | exact ⟨rfl, m, rfl⟩
              · refine ⟨rfl, fun T2 w2 hM hN hO hE => ?_⟩
                obtain ⟨m, rfl⟩ := hM
                have o10 : T2[10]? = some (.slice (some ⟨lb, lo, none⟩) 8 cl) := hO 10 rfl
                clear hE hO hN
                go_simp
                first | exact ⟨m, rfl⟩ | exact ⟨rfl, m, rfl⟩
              · refine ⟨rfl, fun T2 w2 hM hN hO hE => ?_⟩
                obtain ⟨m, rfl⟩ := hM
                have h19 : T2[174]? = some (.slice (some ⟨lb, lo, none⟩) 8 cl) := hE ⟨19, .data⟩ (by simp) rfl _ _ rfl rfl
                clear hE hO hN
                go_simp
                first | exact ⟨m, rfl⟩ | exact ⟨rfl, m, rfl⟩
              · refine ⟨rfl, fun T2 w2 hM hN hO hE => ?_⟩
                obtain ⟨m, rfl⟩ := hM
                have h20 : T2[175]? = some (.pointer (some ⟨lb, lo + 6, none⟩)) := hE ⟨20, .data⟩ (by simp) rfl _ _ rfl rfl
                clear hE hO hN
                go_simp
                first | exact ⟨m, rfl⟩ | exact ⟨rfl, m, rfl⟩
            · rintro _ ⟨m, rfl⟩
              simp only [fillAll, Nat.reduceAdd, List.take_succ_cons, List.take_zero, List.drop_succ_cons, List.drop_zero, List.getD_cons_succ, List.getD_cons_zero, List.setIfInBounds_toArray, List.set_cons_succ, List.set_cons_zero]
              go_wp2
              go_roundg (gk - 1)
              case rel =>
                refine ⟨j + 1, by omega, by go_num, ?_, _, _, rfl, Nat.le_refl _, ?_⟩
                · exact (below_drewN hbx m).alloc (by exact hbx.size) _
                · have h := Rd.of_lit (wr.drewN m) (w32s (Sha.step Z kk wk).list).toArray 79 1 8 (by decide) rfl
                  rw [Sha.turns, ← HZ.out, ← HKE.out, ← HWE.out]
                  exact h
              case measure => omega
          · have hj64' : j = 64 := by omega
            have HJ := hid2 hj64'
            have hnl2 : ¬ (j : Int) < 64 := by omega
            obtain ⟨lb, lo, rfl, hlc⟩ := hR.2 (by omega)
            have hA3 := fun i (hi : i < 8) => ((Hb3.out.trans (hbx.mono Hb3.out.size)).cell (p := ⟨ab, ao + i, none⟩) hab1).trans (HA1b.out i hi)
            have HA3 := hid2 hA3
            have HLC := hid2 hlc
            obtain ⟨wz, hwz⟩ : ∃ wz, wz = wr := ⟨_, rfl⟩
            subst hwz
            have hI3 : WRow wz (wz.alloc (.cells #[] 79)) ((S.plus Z).list.take 0) (.slice (some ⟨wz.heap.size, 0, none⟩) 0 0) := ⟨(Below.refl _ _).alloc (Nat.le_refl _) _, _, _, rfl, Own.lit wz #[] _ 1 0 _ (Nat.le_refl _) (by decide) rfl⟩
            have hab3 : ab < wz.heap.size := Nat.lt_of_lt_of_le hab1 (Nat.le_trans Hb3.out.size hbx.size)
            have hlb3 : lb < wz.heap.size := World.block_lt_of_cell? wz _ (hlc 0 _ (w32s_get Z.list (show 0 < 8 by decide)))
            have HBX := hid2 hbx
            clear hA3 hlc hj64' hj hR hbx HKR HWR
            go_wp2
            clear hcb hcb3 hab1 hbb1 HA1 HA1b hc38 hnl2 hj64
            go_loopg [16, 17] 8 (fun gk v i wy => ∃ n : Nat, n + gk = 8 ∧ i = .int .i64 n ∧ WRow wz wy ((S.plus Z).list.take n) v)
            case atStart => exact ⟨0, by omega, rfl, hI3⟩
            case round =>
              clear hI3
              obtain ⟨i, hi, rfl, hbe, Ao, co, rfl, hown⟩ := hrel
              have hll : ((S.plus Z).list.take i).length = i := by rw [List.length_take, show (S.plus Z).list.length = 8 from rfl]; omega
              by_cases hi8 : i < 8
              · have hsn := plus_take S Z i hi8
                have hp1 := HA3.out i hi8
                have hr1 := HLC.out i _ (w32s_get Z.list hi8)
                obtain ⟨L, hL⟩ : ∃ L, L = (S.plus Z).list.take i := ⟨_, rfl⟩
                rw [← hL] at hown hsn hll ⊢
                obtain ⟨p, hp⟩ : ∃ p, p = S.list.getD i 0 := ⟨_, rfl⟩
                obtain ⟨r, hr⟩ : ∃ r, r = Z.list.getD i 0 := ⟨_, rfl⟩
                rw [← hp] at hp1 hsn
                rw [← hr] at hr1 hsn
                rw [hll] at hown ⊢
                have hs1 := hbe.size
                have hp2 := (hbe.cell (p := ⟨ab, ao + i, none⟩) hab3).trans hp1
                have hr2 := (hbe.cell (p := ⟨lb, lo + i, none⟩) hlb3).trans hr1
                have hab4 : ab < wr.heap.size := by omega
                have hlb4 : lb < wr.heap.size := by omega
                have hi64 : (i : Int) < 8 := by omega
                have HSN := hid2 hsn
                have HLL := hid2 hll
                have HOWN := hid2 hown
                clear hL hp hr hsn hll hown hp1 hr1
                go_wp2_with fail
                refine wp_region_rel 11 (by kernel_rfl) (by kernel_rfl) (by kernel_rfl) _ rfl (by kernel_rfl) (BlkN 10 wr.heap.size [.slice Ao i co, .slice (some ⟨ab, ao, none⟩) 8 c, .int .i64 (i), .pointer (some ⟨ab, ao + i, none⟩), .int .u32 (p).toNat, .slice (some ⟨lb, lo, none⟩) 8 cl, .int .i64 (i), .pointer (some ⟨lb, lo + i, none⟩), .int .u32 (r).toNat, .int .u32 (add32 p r).toNat] (.int .u32 (add32 p r).toNat)) (fun w2 => Below wr.heap.size wr w2) (fun a b => Below a.heap.size a b) (below_drewN (Below.refl _ wr) 1) (fun _ _ _ _ hb hv => hv.keep hb) ?_ ?_
                · refine of_allOps ⟨?_, ?_, ?_, ?_, ?_, ?_, ?_, ?_, ?_, ?_, ?_, trivial⟩
                  · refine ⟨rfl, fun T2 w2 hM hN hO hE K hK => ?_⟩
                    have o16 : T2[16]? = some (.slice Ao i co) := hO 16 rfl
                    clear hE hO hN
                    go_simp
                    exact hK _ _ rfl hM (Below.refl _ _)
                  · refine ⟨rfl, fun T2 w2 hM hN hO hE K hK => ?_⟩
                    have o0 : T2[0]? = some (.slice (some ⟨ab, ao, none⟩) 8 c) := hO 0 rfl
                    clear hE hO hN
                    go_simp
                    exact hK _ _ rfl hM (Below.refl _ _)
                  · refine ⟨rfl, fun T2 w2 hM hN hO hE K hK => ?_⟩
                    have o17 : T2[17]? = some (.int .i64 (i)) := hO 17 rfl
                    clear hE hO hN
                    go_simp
                    exact hK _ _ rfl hM (Below.refl _ _)
                  · refine ⟨rfl, fun T2 w2 hM hN hO hE K hK => ?_⟩
                    obtain ⟨v1, h1, e1⟩ := hE ⟨1, .data⟩ (by simp) rfl _ _ rfl rfl
                    rw [show v1 = .slice (some ⟨ab, ao, none⟩) 8 c from (Option.some.inj e1).symm] at h1
                    obtain ⟨v2, h2, e2⟩ := hE ⟨2, .data⟩ (by simp) rfl _ _ rfl rfl
                    rw [show v2 = .int .i64 (i) from (Option.some.inj e2).symm] at h2
                    clear hE hO hN
                    go_simp
                    exact hK _ _ rfl hM (Below.refl _ _)
                  · refine ⟨rfl, fun T2 w2 hM hN hO hE K hK => ?_⟩
                    obtain ⟨v3, h3, e3⟩ := hE ⟨3, .data⟩ (by simp) rfl _ _ rfl rfl
                    rw [show v3 = .pointer (some ⟨ab, ao + i, none⟩) from (Option.some.inj e3).symm] at h3
                    have hcc := (hM.cell (p := ⟨ab, _, none⟩) hab4).trans hp2
                    clear hE hO hN
                    go_simp
                    exact hK _ _ rfl hM (Below.refl _ _)
                  · refine ⟨rfl, fun T2 w2 hM hN hO hE K hK => ?_⟩
                    have o10 : T2[10]? = some (.slice (some ⟨lb, lo, none⟩) 8 cl) := hO 10 rfl
                    clear hE hO hN
                    go_simp
                    exact hK _ _ rfl hM (Below.refl _ _)
                  · refine ⟨rfl, fun T2 w2 hM hN hO hE K hK => ?_⟩
                    have o17 : T2[17]? = some (.int .i64 (i)) := hO 17 rfl
                    clear hE hO hN
                    go_simp
                    exact hK _ _ rfl hM (Below.refl _ _)
                  · refine ⟨rfl, fun T2 w2 hM hN hO hE K hK => ?_⟩
                    obtain ⟨v5, h5, e5⟩ := hE ⟨5, .data⟩ (by simp) rfl _ _ rfl rfl
                    rw [show v5 = .slice (some ⟨lb, lo, none⟩) 8 cl from (Option.some.inj e5).symm] at h5
                    obtain ⟨v6, h6, e6⟩ := hE ⟨6, .data⟩ (by simp) rfl _ _ rfl rfl
                    rw [show v6 = .int .i64 (i) from (Option.some.inj e6).symm] at h6
                    clear hE hO hN
                    go_simp
                    exact hK _ _ rfl hM (Below.refl _ _)
                  · refine ⟨rfl, fun T2 w2 hM hN hO hE K hK => ?_⟩
                    obtain ⟨v7, h7, e7⟩ := hE ⟨7, .data⟩ (by simp) rfl _ _ rfl rfl
                    rw [show v7 = .pointer (some ⟨lb, lo + i, none⟩) from (Option.some.inj e7).symm] at h7
                    have hcc := (hM.cell (p := ⟨lb, _, none⟩) hlb4).trans hr2
                    clear hE hO hN
                    go_simp
                    exact hK _ _ rfl hM (Below.refl _ _)
                  · refine ⟨rfl, fun T2 w2 hM hN hO hE K hK => ?_⟩
                    obtain ⟨v4, h4, e4⟩ := hE ⟨4, .data⟩ (by simp) rfl _ _ rfl rfl
                    rw [show v4 = .int .u32 (p).toNat from (Option.some.inj e4).symm] at h4
                    obtain ⟨v8, h8, e8⟩ := hE ⟨8, .data⟩ (by simp) rfl _ _ rfl rfl
                    rw [show v8 = .int .u32 (r).toNat from (Option.some.inj e8).symm] at h8
                    clear hE hO hN
                    go_simp
                    exact hK _ _ rfl hM (Below.refl _ _)
                  · refine ⟨rfl, fun T2 w2 hM hN hO hE K hK => ?_⟩
                    obtain ⟨v9, h9, e9⟩ := hE ⟨9, .data⟩ (by simp) rfl _ _ rfl rfl
                    rw [show v9 = .int .u32 (add32 p r).toNat from (Option.some.inj e9).symm] at h9
                    clear hE hO hN
                    go_simp
                    exact hK _ _ ⟨_, rfl, hM.size, heap_alloc_new w2 _⟩ (hM.alloc hM.size _) ((Below.refl _ _).alloc (Nat.le_refl _) _)
                · intro u w2 hM hF
                  have e0 : .slice Ao i co = u 0 := Option.some.inj (hF 0 (by omega))
                  obtain ⟨gg, e10, hgg, hgc⟩ : ∃ g, u 10 = .slice (some ⟨g, 0, none⟩) 1 1 ∧ wr.heap.size ≤ g ∧ w2.heap[g]? = some (.cells #[.int .u32 (add32 p r).toNat] 79 (0, 0)) := hF 10 (by omega)
                  clear hF
                  simp only [fillAll, Nat.reduceAdd, ← e0, e10, List.take_succ_cons, List.take_zero, List.drop_succ_cons, List.drop_zero, List.setIfInBounds_toArray, List.set_cons_succ, List.set_cons_zero]
                  have hown2 := HOWN.out.below hM (Nat.le_refl _)
                  have _t := hown2
                  have hbe2 := hbe.trans (hM.mono hs1)
                  have hs2 := hM.size
                  with_reducible refine wpList_append_lit 79 (.int .u32 0) 1 4 Tryz.underlying80 info_u32w rfl wz.heap.size Ao i co (w32s L) hown2 1 [_] (.slice (some ⟨gg, 0, none⟩) 1 1) (Src.slice Tryz.underlying80 (Rd.of_row hgc)) one_int ?_ ?_ ?_ ?_ ?_
                  · unfold maxLen; omega
                  · omega
                  · omega
                  · exact ⟨rfl, rfl⟩
                  intro A4 c4 w4 hown4 hgr4 hbl4
                  clear hown2
                  go_wp2
                  go_roundg (gk - 1)
                  case rel =>
                    refine ⟨i + 1, by omega, by go_num, ?_⟩
                    rw [HSN.out]
                    exact WRow.push2 HLL.out hbe2 _t hgr4 hown4 rfl
                  case measure => omega
              · have hi8' : i = 8 := by omega
                have hnl : ¬ (i : Int) < 8 := by omega
                have hall : (S.plus Z).list.take i = (Sha.block S b).list := by
                  rw [hi8', HZ.out, HJ.out, HW.out]
                  rfl
                rw [hall] at hown ⊢
                have hres : WRow w wr (Sha.block S b).list (.slice Ao (Sha.block S b).list.length co) :=
                  ⟨Hb1.out.trans ((Hb3.out.trans ((HBX.out.trans (hbe.mono HBX.out.size)).mono Hb3.out.size)).mono Hb1.out.size), Ao, co, rfl, hown.mono (Nat.le_trans Hb1.out.size (Nat.le_trans Hb3.out.size HBX.out.size))⟩
                obtain ⟨R, hR⟩ : ∃ R, R = (Sha.block S b).list := ⟨_, rfl⟩
                rw [← hR] at hres ⊢
                have HRES := hid2 hres
                have HRE := hid2 hR
                clear hres hown hall hi8' hR hi hll hi8
                go_wp2
                go_ret
                refine ⟨_, rfl, ?_⟩
                rw [← HRE.out]
                exact HRES.out
end
end Go.Proofs.YtjjpecggcjggpaaGreatDoor
/- The walk of the document's Sum. -/
namespace Go.Proofs.YtjjpecggcjggpaaGreatDoor
open Go.RowKit
set_option maxRecDepth 100000
theorem whole_64 (l : List UInt8) : (Sha.whole l).length = 64 * ((Sha.whole l).length / 64) := by
  rw [Sha.whole, List.length_append, Sha.tail_len]; omega
theorem whole_le (l : List UInt8) : (Sha.whole l).length ≤ l.length + 72 := by
  rw [Sha.whole, List.length_append, Sha.tail_len]; omega
theorem whole_u8 (l : List UInt8) (j : Nat) (h : j < l.length) : (u8s l)[j]? = some (.int .u8 (l.getD j 0).toNat) := u8s_get l h
theorem s8_len (S : Sha.S8) : S.list.length = 8 := rfl
/-- the digest's block while the document's sum fills it -/
structure OutR (w wr : World) (F : Sha.S8) (G k hb ho : Nat) : Prop where
  res : ResAt w wr
  out_ : wr.heap[G]? = some (.cells (u8s (outK F k)).toArray 38 (0, 0))
  words : ∀ j, j < 8 → wr.cell? ⟨hb, ho + j, none⟩ = some (.int .u32 (F.list.getD j 0).toNat)
  ge : w.heap.size + 1 ≤ G
  ne : hb ≠ G
theorem OutR.frozen {w wr : World} {F : Sha.S8} {G k hb ho : Nat} (h : OutR w wr F G k hb ho) (j : Nat) : wr.frozen? ⟨G, j, none⟩ = false := frozen_of_row wr G j _ _ h.out_
theorem OutR.target {w wr : World} {F : Sha.S8} {G k hb ho : Nat} (h : OutR w wr F G k hb ho) (j : Nat) (hj : j < 32) : wr.cell? ⟨G, j, none⟩ = some (.int .u8 ((outK F k).getD j 0).toNat) := by
  have hk : (outK F k).length ≥ 32 := by rw [outK, List.length_append, List.length_take, out_length, List.length_replicate]; omega
  exact cell_of_row wr G j _ _ _ h.out_ |>.trans (by rw [List.getElem?_toArray]; exact u8s_get _ (by omega))
theorem OutR.set {w wr : World} {F : Sha.S8} {G k hb ho : Nat} (h : OutR w wr F G k hb ho) (hk : k < 32) (v : Int) (hv : v = (Sha.byteOf F k).toNat) : OutR w (wr.setCell ⟨G, k, none⟩ (.int .u8 v)) F G (k + 1) hb ho := by
  subst hv
  have hge := h.ge
  refine ⟨⟨?_, ?_⟩, ?_, ?_, h.ge, h.ne⟩
  · exact (heap_setCell_other wr _ _ _ (by simp; omega)).trans h.res.row
  · exact h.res.below.setCell (by simp; omega) _
  · rw [heap_setCell_same wr G k _ _ _ h.out_, u8s_set, outK_set F k hk]
  · intro j hj
    exact (World.cell?_of_block (heap_setCell_other wr _ _ _ (by simpa using h.ne))).trans (h.words j hj)
set_option maxHeartbeats 2000000 in
theorem refsum_any (w : World) (s : ByteArray) (hs : s.size ≤ 20000) :
    Calls Tryz.prog 17 #[.string s] w fun e w' => e = .returned (.agg (u8s (Sha.sum s.data.toList)).toArray) ∧ Below w.heap.size w w' := by
  have hr0 := ResAt.start w
  have hL0 := Rd.of_lit (w.alloc (.cells (u8s (List.replicate 32 0)).toArray 38)) (w32s Sha.start.list).toArray 79 1 8 (by decide) rfl
  have HR0 := hid2 (hr0.ext ((Below.refl _ _).alloc (Nat.le_refl _) (.cells (w32s Sha.start.list).toArray 79)))
  have HL0 := hid2 hL0
  clear hr0 hL0
  go_enter Tryz.func17, Tryz.ntmps17
  go_wp2_with (first
    | (go_at_call 39; refine (whole_any _ s hs).mono ?_; rintro e w1 ⟨v, rfl, hbe, Ab, cb, rfl, hown⟩))
  have hr1 : ResAt w w1 := HR0.out.ext hbe
  have hR1 : Rd w1 1 (some ⟨w.heap.size + 1, 0, none⟩) 8 (w32s (Sha.blocks 0 Sha.start (Sha.whole s.data.toList)).list) := by
    have := HL0.out.below_all hbe
    rw [show Sha.blocks 0 Sha.start (Sha.whole s.data.toList) = Sha.start from rfl]
    simpa using this
  have h64 := whole_64 s.data.toList
  have hwle := whole_le s.data.toList
  rw [toList_length] at hwle
  obtain ⟨d, hd⟩ : ∃ d, d = Sha.whole s.data.toList := ⟨_, rfl⟩
  rw [← hd] at hown hR1 h64 hwle ⊢
  obtain ⟨q, hq⟩ : ∃ q, q = d.length / 64 := ⟨_, rfl⟩
  obtain ⟨n, hn⟩ : ∃ n, n = d.length := ⟨_, rfl⟩
  rw [← hq] at h64
  rw [← hn] at h64 hown hwle ⊢
  have hrb := hown.rd
  have hncb := hown.2.1
  have HD := hid2 hd
  have HQ := hid2 hq
  have HN := hid2 hn
  have hq20 : q ≤ 320 := by omega
  have hn2k : (n : Int) ≤ 21000 := by omega
  have HRB := hid2 hrb
  have H64 := hid2 h64
  have hn64 : (n : Int) = 64 * (q : Int) := by omega
  have HN64 := hid2 hn64
  clear HR0 HL0 hbe hown hd hq hn hrb hwle h64 hn64
  go_loopg [3, 5] q (fun gk v i wx => ∃ p : Nat, p + gk = q ∧ i = .int .i64 (64 * (p : Int)) ∧ Below w1.heap.size w1 wx ∧ ∃ A c, v = .slice A 8 c ∧ Rd wx 1 A 8 (w32s (Sha.blocks p Sha.start d).list))
  case atStart => exact ⟨0, by omega, rfl, Below.refl _ _, _, _, rfl, hR1⟩
  case round =>
    clear hR1
    obtain ⟨p, hp, rfl, hbx, A, c, rfl, hR⟩ := hrel
    obtain ⟨S, hS⟩ : ∃ S, S = Sha.blocks p Sha.start d := ⟨_, rfl⟩
    rw [← hS] at hR
    have HS := hid2 hS
    obtain ⟨hb, ho, rfl, hcs⟩ := hR.2 (by omega)
    have hcell : ∀ j, j < 8 → wr.cell? ⟨hb, ho + j, none⟩ = some (.int .u32 (S.list.getD j 0).toNat) := fun j hj => hcs j _ (w32s_get S.list hj)
    have hhb : hb < wr.heap.size := World.block_lt_of_cell? wr _ (hcell 0 (by omega))
    have HC := hid2 hcell
    have HBX := hid2 hbx
    have hsx := hbx.size
    clear hS hcs hR hcell hbx
    by_cases hpq : p < q
    · have hlt : 64 * (p : Int) < n := by have := HN64.out; omega
      obtain ⟨bb, bo, rfl, hbc⟩ := HRB.out.2 (by have := H64.out; omega)
      have hbcell : ∀ j, j < 64 → wr.cell? ⟨bb, bo + 64 * p + j, none⟩ = some (.int .u8 (((d.drop (64 * p)).take 64).getD j 0).toNat) := by
        intro j hj
        have h := hbc (64 * p + j) _ (u8s_get d (by have := HN.out; have := H64.out; omega))
        rw [Nat.add_assoc, HBX.out.cell (by exact World.block_lt_of_cell? w1 _ h), h, List.getD_eq_getElem?_getD, List.getD_eq_getElem?_getD, List.getElem?_take, if_pos hj, List.getElem?_drop]
      have hwn' : 64 * (p : Int) + 64 ≤ n := by have := HN64.out; omega
      have hbb : bb < wr.heap.size := World.block_lt_of_cell? wr _ (hbcell 0 (by omega))
      have hw0 : (0 : Int) ≤ 64 * (p : Int) + 64 := by omega
      have hwn : 64 * (p : Int) + 64 ≤ cb := by have := HN64.out; omega
      have hw64 : IntKind.i64.wrap (64 * (p : Int) + 64) = 64 * (p : Int) + 64 := IntWalk.i64_in _ (by constructor <;> omega)
      have HBC := hid2 hbcell
      clear hbcell hbc
      have hcap : 64 ≤ cb - 64 * p := by have := HN64.out; omega
      go_wp2_with (first
        | (go_at_call 40; refine (block_any wr hb ho bb (bo + 64 * p) c (cb - 64 * p) S ((d.drop (64 * p)).take 64) hhb hbb HC.out HBC.out hcap).mono ?_; rintro e w3 ⟨v, rfl, hbe3, A3, c3, rfl, hown3⟩; rw [s8_len] at hown3 ⊢; have HOWN3 := hid2 hown3; clear hown3))
      go_roundg (gk - 1)
      case rel =>
        refine ⟨p + 1, by omega, by go_num, HBX.out.trans (hbe3.mono HBX.out.size), A3, c3, rfl, ?_⟩
        rw [Sha.blocks_succ, ← HS.out]
        exact HOWN3.out.rd
      case measure => omega
    · have hpq' : p = q := by omega
      have hF : S = Sha.blocks ((Sha.whole s.data.toList).length / 64) Sha.start (Sha.whole s.data.toList) := by rw [HS.out, hpq', HQ.out, HD.out]
      have HF := hid2 hF
      have hnl : ¬ 64 * (p : Int) < n := by have := HN64.out; omega
      have hr2 := hr1.ext (HBX.out)
      obtain ⟨wz, hwz⟩ : ∃ wz, wz = wr := ⟨_, rfl⟩
      subst hwz
      have hOM : OutR w (wz.alloc (.cells (u8s (List.replicate 32 0)).toArray 38)) S wz.heap.size 0 hb ho :=
        ⟨hr2.ext ((Below.refl _ _).alloc (Nat.le_refl _) _), heap_alloc_new wz _, fun j hj => (((Below.refl wz.heap.size wz).alloc (Nat.le_refl _) _).cell hhb).trans (HC.out j hj), hr2.size, by omega⟩
      have HOM0 := hid2 hOM
      clear hpq' hF hr2 hr1 hp hpq hOM
      go_wp2_with (first
        | (refine wpList_gen (fun w2 => OutR w w2 S wz.heap.size 0 hb ho) HOM0.out ?_; intro w2 hOM2; have h0 : w2.heap[wz.heap.size]? = some (.cells (u8s (List.replicate 32 0)).toArray 38 (0, 0)) := hOM2.out_; (with_reducible refine wpList_store_lit wz.heap.size 0 (.agg (u8s (List.replicate 32 0)).toArray) (u8s (List.replicate 32 0)) (agg_cells _) _ _ h0 (info_h8' List.length_replicate) (fit_h List.length_replicate) (u8s_one _) ?_ ?_); exact ⟨rfl, rfl⟩; rw [laid_all (by simp), setRow_self _ _ _ _ _ h0]; clear h0 HOM0))
      obtain ⟨G, hG⟩ : ∃ G, G = wz.heap.size := ⟨_, rfl⟩
      have hOM := hOM2
      rw [← hG] at hOM ⊢
      clear hG hOM2
      go_loopw [7] (fun i wx => ∃ k : Nat, k ≤ 32 ∧ i = .int .i64 k ∧ OutR w wx S G k hb ho) (fun i _ => 32 - (intOf i).toNat)
      case atStart => exact ⟨0, by omega, rfl, hOM⟩
      case round =>
        clear hOM
        obtain ⟨k, hk, rfl, hOM⟩ := hrel
        by_cases hlt : k < 32
        · have hcell := hOM.words (k / 4) (by omega)
          have hfr := hOM.frozen k
          have hct := hOM.target k hlt
          have hsub : (0 : Int) ≤ 24 - 8 * ((k : Int) % 4) := by omega
          have HOM := hid2 hOM
          clear hOM
          go_wp2
          go_roundw
          case rel => exact ⟨k + 1, by omega, by go_num, HOM.out.set hlt _ (by rw [← byteOf_int, List.getD_eq_getElem?_getD])⟩
          case measure => simp [intOf]; omega
        · have hk32 : k = 32 := by omega
          have HK := hid2 hk32
          have h1 := hid2 hOM.out_
          have h2 := hid2 hOM.res
          have hol := outK_length S k (by omega)
          have HOL := hid2 hol
          clear hk32 hk hOM hol
          go_wp2_with (first
            | ((with_reducible refine wpList_load_lit G 0 _ _ _ h1.out (u8s (outK S k)) (fun j _ => getElem?_zero_add _ j) _ Tryz.underlying38 (info_h8' HOL.out) ?_ ?_); exact ⟨rfl, rfl⟩)
            | ((with_reducible refine wpList_store_lit w.heap.size 0 (.agg (u8s (outK S k)).toArray) (u8s (outK S k)) (agg_cells _) _ _ (ResAt.row h2.out) (info_h8' HOL.out) (fit_h HOL.out) (u8s_one _) ?_ ?_); exact ⟨rfl, rfl⟩))
          have hfin : outK S k = Sha.sum s.data.toList := by
            rw [HK.out, outK_full, HF.out, Sha.sum]
          rw [← hfin]
          exact bodyPost_ret (v := .agg (u8s (outK S k)).toArray) (results_cell_row rfl _ _ _ 38 _ (0, 0) _ rfl (ResAt.wrote h2.out _ HOL.out) Tryz.underlying38 rfl (by rw [List.size_toArray]; exact info_h8' HOL.out)) rfl ⟨rfl, ResAt.below2 h2.out _⟩
end Go.Proofs.YtjjpecggcjggpaaGreatDoor
/- The document's text of an action, and its key. -/
namespace Go.Proofs.YtjjpecggcjggpaaGreatDoor
open Go.RowKit Go.Shelf
set_option maxRecDepth 100000
theorem info_act : (Tryz.prog.info? 30).map (·.size) = some 7 := by kernel_rfl
theorem actV_get (L : LayA) (a : ActK) (j : Nat) : (actV L a)[0 + j]? = (actV L a).toList[j]? := by rw [Nat.zero_add]; simp
theorem rowsK_strV {a : ActK} {k : Nat} : strV (rowsK a 1) = [.string (strB a.tool)] := rfl
set_option maxHeartbeats 4000000 in
theorem reftext_any (w : World) (L : LayA) (a : ActK) (h : ActAt w L a) (hmi : Mild a) :
    Calls Tryz.prog 18 #[.agg (actV L a)] w fun e w' => e = .returned (.string (strB (textK a))) ∧ Below w.heap.size w w' := by
  have hpl := partLens hmi
  have hpa : ∀ k, 1 ≤ k → ∀ x, ([a.tool] :: partsK a)[k]? = some x → (rowL x).length ≤ 4884 ∧ x.length ≤ 44 := fun k h1 x hx => by
    obtain ⟨j, rfl⟩ : ∃ j, k = j + 1 := ⟨k - 1, by omega⟩
    exact part_len hpl hx
  have hst : ∀ k, 1 ≤ k → ∀ x, ([a.tool] :: partsK a)[k]? = some x → rowsK a (k + 1) = rowsK a k ++ [rowL x] := fun k h1 x hx => by
    obtain ⟨j, rfl⟩ : ∃ j, k = j + 1 := ⟨k - 1, by omega⟩
    exact rowsK_step hx
  have hrl := fun (k : Nat) (h1 : 1 ≤ k) (h5 : k ≤ 5) => rowsK_len (a := a) h1 h5
  have htl : (textK a).length ≤ 14000 := hpl.text
  have hal := rowsK_all a
  obtain ⟨W, hW⟩ : ∃ W, W = w.alloc (.cells (actV L a) 30) := ⟨_, rfl⟩
  have hb0 : Below w.heap.size w W := by rw [hW]; exact (Below.refl _ w).alloc (Nat.le_refl _) _
  have hbx : W.heap[w.heap.size]? = some (.cells (actV L a) 30 (0, 0)) := by rw [hW]; exact World.alloc_heap_new w _
  have cP := parts_any W L a (h.below hb0) hmi
  have hx2 : (actV L a)[2]? = some (.string (strB a.tool)) := rfl
  have hts : ∃ V : List Value, V = (actV L a).toList ∧ V.length = 7 := ⟨_, rfl, rfl⟩
  have hag : ∀ j, (actV L a)[0 + j]? = (actV L a).toList[j]? := actV_get L a
  have hva : (actV L a).toList.toArray = actV L a := by simp
  obtain ⟨AV, hAV⟩ : ∃ AV, AV = actV L a := ⟨_, rfl⟩
  rw [← hAV] at hW hbx cP hx2 hts hag hva ⊢
  obtain ⟨V, hV, hVl⟩ := hts
  have hag' : ∀ j, j < V.length → AV[0 + j]? = V[j]? := fun j _ => by rw [hag j, hV]
  have hva' : V.toArray = AV := (congrArg List.toArray hV).trans hva
  obtain ⟨LL, hLL⟩ : ∃ LL, LL = [a.tool] :: partsK a := ⟨_, rfl⟩
  have hLn : LL.length = 5 := by rw [hLL]; rfl
  rw [← hLL] at hpa hst cP
  have HP := hid2 hpa
  have HST := hid2 hst
  have HRL := hid2 hrl
  have HTL := hid2 htl
  have HAL := hid2 hal
  have HW := hid2 hW
  have HB0 := hid2 hb0
  have HBX := hid2 hbx
  have HAG := hid2 hag'
  have HVA := hid2 hva'
  have HVL := hid2 (show (Tryz.prog.info? 30).map (·.size) = some V.length from by rw [hVl]; exact info_act)
  have HX2 := hid2 hx2
  have HLN := hid2 hLn
  clear hpl hpa hst hrl htl hal hb0 hbx h hmi hAV hV hVl hag hva hag' hva' hx2 hLn hLL
  go_enter Tryz.func18, Tryz.ntmps18
  go_wp2_with (first
    | ((with_reducible refine wpList_load_lit w.heap.size 0 _ _ _ (by first | exact HBX.out | (rw [← HW.out]; exact HBX.out)) V HAG.out _ Tryz.underlying30 HVL.out ?_ ?_); exact ⟨rfl, rfl⟩; rw [HVA.out])
    | (go_at_call 41; rw [← HW.out]; refine cP.mono ?_; rintro e w1 ⟨g, As, cs, rfl, hra, hb1⟩; have hc2 : w1.cell? ⟨w.heap.size, 2, none⟩ = some (.string (strB a.tool)) := (cell_of_row w1 _ 2 _ _ _ ((hb1.block _ (heap_lt HBX.out)).trans HBX.out)).trans HX2.out; have HRA := hid2 hra; have HB1 := hid2 hb1; clear hra hb1))
  have hown0 : Own (w1.alloc (.cells #[.string (strB a.tool)] 9)) w1.heap.size 9 1 (some ⟨w1.heap.size, 0, none⟩) 1 1 (strV (rowsK a 1)) := Own.lit w1 #[.string (strB a.tool)] 9 1 1 w1.heap.size (Nat.le_refl _) (by decide) rfl
  have HOWN0 := hid2 hown0
  clear hown0 hc2 cP
  go_loopg [4, 5] 4 (fun gk ov iv wr => ∃ (k : Nat) (A1 : Option Addr) (c1 : Nat), k + gk = 5 ∧ 1 ≤ k ∧ iv = .int .i64 k ∧ ov = .slice A1 k c1 ∧ Own wr w1.heap.size 9 1 A1 k c1 (strV (rowsK a k)) ∧ Below w1.heap.size w1 wr)
  case atStart => exact ⟨1, _, _, by omega, by omega, rfl, rfl, HOWN0.out, (Below.refl _ _).alloc (Nat.le_refl _) _⟩
  case round =>
    obtain ⟨k, A1, c1, hk, hk1, rfl, rfl, hown, hbe⟩ := hrel
    by_cases hlt : k < 5
    · have hkl : (k : Int) < 5 := by omega
      have hk0 : (0 : Int) ≤ k := by omega
      obtain ⟨x, hx⟩ : ∃ x, LL[k]? = some x := ⟨_, List.getElem?_eq_getElem (by rw [HLN.out]; exact hlt)⟩
      have hstep := HST.out k hk1 x hx
      obtain ⟨hx1, hx2⟩ := HP.out k hk1 x hx
      obtain ⟨hcr, hrx⟩ := (HRA.out.below hbe) k x hx
      have cR := refrow_any wr (As k) (cs k) x (by omega) hrx (by omega)
      have hsz := hbe.size
      obtain ⟨R, hR⟩ : ∃ R, R = strB (rowL x) := ⟨_, rfl⟩
      rw [← hR] at cR
      obtain ⟨n, hn⟩ : ∃ n, n = x.length := ⟨_, rfl⟩
      rw [← hn] at cR hcr
      obtain ⟨V1, hV1⟩ : ∃ V1, V1 = strV (rowsK a k) := ⟨_, rfl⟩
      rw [← hV1] at hown
      have HSTEP := hid2 hstep
      have HBE := hid2 hbe
      have HR := hid2 hR
      have HV1 := hid2 hV1
      clear hx hstep hx1 hx2 hrx hR hn hV1 hbe
      go_wp2_with (first
        | (go_at_call 42; refine cR.mono ?_; rintro e w2 ⟨rfl, hb2⟩; have hown2 := hown.below hb2 (Nat.le_refl _); have hsz2 := hb2.size; have HB2 := hid2 hb2; clear cR hown hb2)
        | (at_builtin; have _t := hown2; go_must ((with_reducible refine wpList_append_lit 9 (.string ⟨#[]⟩) 1 16 Tryz.underlying28 info_str rfl w1.heap.size A1 k c1 V1 (hown2.alloc _) 1 [.string R] (.slice (some ⟨w2.heap.size, 0, none⟩) 1 1) (Src.slice Tryz.underlying28 (Rd.one w2 _ _)) one_str ?_ ?_ ?_ ?_ ?_); (unfold maxLen; omega); omega; (simp; omega); exact ⟨rfl, rfl⟩; intro A3 c3 w3 hown3 hgr3 hbl3; clear hown2; have hb3 : Below w1.heap.size w1 w3 := (((HBE.out.trans (HB2.out.mono hsz))).alloc (by omega) _).grown hgr3 (by simp; omega) (fun g e => (_t.block g e).1))))
      go_roundg (gk - 1)
      case rel => exact ⟨k + 1, A3, c3, by omega, by omega, by go_num, rfl, by rw [HSTEP.out, ← strV_snoc, ← HV1.out, ← HR.out]; exact hown3, hb3⟩
      case measure => omega
    · obtain rfl : k = 5 := by omega
      have hln := HRL.out 5 (by omega) (by omega)
      have hrd := hown.rd
      have hlen2 : (rowL (rowsK a 5)).length ≤ 1000000 := by rw [HAL.out]; have := HTL.out; omega
      have cR := refrow_any wr A1 c1 (rowsK a 5) (by rw [hln]; omega) (by rw [hln]; exact hrd) hlen2
      rw [hln, HAL.out] at cR
      have HBE := hid2 hbe
      clear hrd hlen2 hown hln hbe
      go_wp2_with (first
        | (go_at_call 42; refine cR.mono ?_; rintro e w2 ⟨rfl, hb2⟩; have HB2 := hid2 hb2; clear cR hb2))
      go_ret
      have b1 := HB0.out.trans (HB1.out.mono HB0.out.size)
      have b2 := b1.trans (HBE.out.mono b1.size)
      exact ⟨rfl, b2.trans (HB2.out.mono b2.size)⟩
/-- what a key's function leaves: the digest in its block -/
theorem digest_left (w wb w2 : World) (S : List UInt8) (hS : S.length = 32) (hG : w.heap.size + 1 = wb.heap.size) (hr : ResAt wb w2) (hb : Below w.heap.size w w2) :
    w2.heap[w.heap.size + 1]? = some (.cells (u8s (List.replicate 32 0)).toArray 38 (0, 0)) ∧
    (w2.setRow (w.heap.size + 1) (laid (u8s (List.replicate 32 0)).toArray 0 (u8s S))).heap[w.heap.size + 1]? = some (.cells (u8s S).toArray 38 (0, 0)) ∧
    Below w.heap.size w (w2.setRow (w.heap.size + 1) (laid (u8s (List.replicate 32 0)).toArray 0 (u8s S))) := by
  refine ⟨by rw [hG]; exact hr.row, by rw [hG]; exact ResAt.wrote hr S hS, below_setRow hb (by omega) _⟩
set_option maxHeartbeats 4000000 in
theorem refof_any (w : World) (L : LayA) (a : ActK) (h : ActAt w L a) (hmi : Mild a) :
    Calls Tryz.prog 10 #[.agg (actV L a)] w fun e w' => e = .returned (.agg (u8s (Sha.sum (textK a))).toArray) ∧ Below w.heap.size w w' := by
  have htl : (textK a).length ≤ 14000 := (partLens hmi).text
  obtain ⟨wb, hwb⟩ : ∃ wb, wb = w.alloc (.cells (actV L a) 30) := ⟨_, rfl⟩
  have hb0 : Below w.heap.size w wb := by rw [hwb]; exact (Below.refl _ w).alloc (Nat.le_refl _) _
  have hG : w.heap.size + 1 = wb.heap.size := by rw [hwb]; simp
  have hbx : wb.heap[w.heap.size]? = some (.cells (actV L a) 30 (0, 0)) := by rw [hwb]; exact World.alloc_heap_new w _
  have hr0 := ResAt.start wb
  obtain ⟨W, hW⟩ : ∃ W, W = wb.alloc (.cells (u8s (List.replicate 32 0)).toArray 38) := ⟨_, rfl⟩
  rw [← hW] at hr0
  have hbW : Below w.heap.size w W := hb0.trans (hr0.below.mono (by omega))
  have cT := reftext_any W L a (h.below hbW) hmi
  have hbxW : W.heap[w.heap.size]? = some (.cells (actV L a) 30 (0, 0)) := (hr0.below.block _ (by omega)).trans hbx
  have hts : ∃ V : List Value, V = (actV L a).toList ∧ V.length = 7 := ⟨_, rfl, rfl⟩
  have hag : ∀ j, (actV L a)[0 + j]? = (actV L a).toList[j]? := actV_get L a
  have hva : (actV L a).toList.toArray = actV L a := by simp
  obtain ⟨AV, hAV⟩ : ∃ AV, AV = actV L a := ⟨_, rfl⟩
  rw [← hAV] at hwb hbxW cT hts hag hva ⊢
  obtain ⟨V, hV, hVl⟩ := hts
  have HAG := hid2 (show ∀ j, j < V.length → AV[0 + j]? = V[j]? from fun j _ => by rw [hag j, hV])
  have HVA := hid2 (show V.toArray = AV from (congrArg List.toArray hV).trans hva)
  have HVL := hid2 (show (Tryz.prog.info? 30).map (·.size) = some V.length from by rw [hVl]; exact info_act)
  have HGE := hid2 hG
  have HWW := hid2 (show (w.alloc (.cells AV 30)).alloc (.cells (u8s (List.replicate 32 0)).toArray 38) = W from by rw [hW, hwb])
  have HBW := hid2 hbW
  have HBX := hid2 hbxW
  have HR0 := hid2 hr0
  obtain ⟨s, hs⟩ : ∃ s, s = strB (textK a) := ⟨_, rfl⟩
  have hss : s.size ≤ 20000 := by rw [hs, strB_size]; omega
  have hsl : s.data.toList = textK a := by rw [hs, strB_list]
  rw [← hs] at cT
  have HSL := hid2 hsl
  obtain ⟨S, hS⟩ : ∃ S, S = Sha.sum s.data.toList := ⟨_, rfl⟩
  have hd32 : S.length = 32 := by rw [hS]; exact sum_len _
  have HSS := hid2 hS
  have HD32 := hid2 hd32
  have hfin : S = Sha.sum (textK a) := by rw [hS, hsl]
  rw [← hfin]
  clear hb0 hbx h hmi hAV hV hVl hag hva hs hsl htl hd32 hW hwb hbW hbxW hr0 hG hfin hS
  go_enter Tryz.func10, Tryz.ntmps10
  go_wp2_with (first
    | ((with_reducible refine wpList_load_lit w.heap.size 0 _ _ _ (heap_alloc2_old w _ _) V HAG.out _ Tryz.underlying30 HVL.out ?_ ?_); exact ⟨rfl, rfl⟩; rw [HVA.out])
    | (go_at_call 18; refine (HWW.out ▸ cT).mono ?_; rintro e w1 ⟨rfl, hb1⟩; have HB1 := hid2 (show Below W.heap.size W w1 from HWW.out ▸ hb1); clear hb1 cT)
    | (go_at_call 17; refine (refsum_any w1 s hss).mono ?_; rw [← HSS.out]; rintro e w2 ⟨rfl, hb2⟩; have hr2 := (HR0.out.ext HB1.out).ext hb2; have hbb := (HBW.out.trans (HB1.out.mono HBW.out.size)).trans (hb2.mono (Nat.le_trans HBW.out.size HB1.out.size)); obtain ⟨hz, hz1, hz2⟩ := digest_left w wb w2 S HD32.out HGE.out hr2 hbb; have HZ1 := hid2 hz1; have HZ2 := hid2 hz2; clear hb2 hr2 hbb hz1 hz2)
    | (refine wpList_gen (fun w3 => w3 = w2) rfl ?_; rintro w3 rfl; (with_reducible refine wpList_store_lit (w.heap.size + 1) 0 (.agg (u8s S).toArray) (u8s S) (agg_cells _) _ _ hz (info_h8' HD32.out) (fit_h HD32.out) (u8s_one _) ?_ ?_); exact ⟨rfl, rfl⟩))
  exact bodyPost_ret (v := .agg (u8s S).toArray) (results_cell_row rfl _ _ _ 38 _ (0, 0) _ rfl HZ1.out Tryz.underlying38 rfl (by rw [List.size_toArray]; exact info_h8' HD32.out)) rfl ⟨rfl, HZ2.out⟩
end Go.Proofs.YtjjpecggcjggpaaGreatDoor
/- The program's text of an action, and its key. -/
namespace Go.Proofs.YtjjpecggcjggpaaGreatDoor
open Go.RowKit Go.Shelf
set_option maxRecDepth 100000
set_option maxHeartbeats 4000000 in
theorem text_any (w : World) (L : LayA) (a : ActK) (h : ActAt w L a) (hmi : Mild a) (hTab : Tabs w) :
    Calls Tryz.prog 8 #[.agg (actV L a)] w fun e w' => e = .returned (.string (strB (textK a))) ∧ Below w.heap.size w w' := by
  have hpl := partLens hmi
  have hpa : ∀ k, ∀ x, (partsK a)[k]? = some x → (rowL x).length ≤ 4884 ∧ x.length ≤ 44 := fun k x hx => part_len hpl (k := k) (by rw [List.getElem?_cons_succ]; exact hx)
  have hst : ∀ k, ∀ x, (partsK a)[k]? = some x → rowsK a (k + 2) = rowsK a (k + 1) ++ [rowL x] := fun k x hx => rowsK_step (by rw [List.getElem?_cons_succ]; exact hx)
  have hrl := fun (k : Nat) (h1 : 1 ≤ k) (h5 : k ≤ 5) => rowsK_len (a := a) h1 h5
  have htl : (textK a).length ≤ 14000 := hpl.text
  have hal := rowsK_all a
  have hPn : (partsK a).length = 4 := rfl
  obtain ⟨pk, nm, E, I, A, O, cE, cI, cA, cO⟩ := L
  have hE := h.env
  have hI := h.ins
  have hA := h.asks
  have hO := h.outs
  have lE := hmi.env
  have lI := hmi.ins
  have lA := hmi.asks
  have lO := hmi.outs
  simp only at hE hI hA hO
  unfold actV
  simp only
  obtain ⟨W, hW⟩ : ∃ W, W = w.alloc (.cells #[.string pk, .string nm, .string (strB a.tool), .slice E a.env.length cE, .slice I a.ins.length cI, .slice A a.asks.length cA, .slice O a.outs.length cO] 30) := ⟨_, rfl⟩
  obtain ⟨gB, hgB⟩ : ∃ g, g = w.heap.size := ⟨_, rfl⟩
  have hb0 : Below w.heap.size w W := by rw [hW]; exact (Below.refl _ w).alloc (Nat.le_refl _) _
  have hbx : W.heap[gB]? = some (.cells #[.string pk, .string nm, .string (strB a.tool), .slice E a.env.length cE, .slice I a.ins.length cI, .slice A a.asks.length cA, .slice O a.outs.length cO] 30 (0, 0)) := by rw [hW, hgB]; exact World.alloc_heap_new w _
  have CE := hid2 (fun (w2 : World) (hb : Below W.heap.size W w2) => env_any w2 E cE a.env (by omega) (fun p hp => by have := (hmi.lE p hp).1; omega) ((hE.below_all hb0).below_all hb))
  have CI := hid2 (fun (w2 : World) (hb : Below W.heap.size W w2) => set_any w2 I cI a.ins (by omega) ((hI.below_all hb0).below_all hb))
  have CA := hid2 (fun (w2 : World) (hb : Below W.heap.size W w2) => set_any w2 A cA a.asks (by omega) ((hA.below_all hb0).below_all hb))
  have CO := hid2 (fun (w2 : World) (hb : Below W.heap.size W w2) => set_any w2 O cO a.outs (by omega) ((hO.below_all hb0).below_all hb))
  have HTV := hid2 (show strV [a.tool] = [.string (strB a.tool)] from rfl)
  obtain ⟨T, hT⟩ : ∃ T, T = strB a.tool := ⟨_, rfl⟩
  obtain ⟨nE, hnE⟩ : ∃ n, n = a.env.length := ⟨_, rfl⟩
  obtain ⟨nI, hnI⟩ : ∃ n, n = a.ins.length := ⟨_, rfl⟩
  obtain ⟨nA, hnA⟩ : ∃ n, n = a.asks.length := ⟨_, rfl⟩
  obtain ⟨nO, hnO⟩ : ∃ n, n = a.outs.length := ⟨_, rfl⟩
  rw [← hT] at hW hbx HTV ⊢
  rw [← hnE] at hW hbx CE lE ⊢
  rw [← hnI] at hW hbx CI lI ⊢
  rw [← hnA] at hW hbx CA lA ⊢
  rw [← hnO] at hW hbx CO lO ⊢
  have hgl := heap_lt hbx
  have HCELL := hid2 (show ∀ w2, Below W.heap.size W w2 → w2.cell? ⟨gB, 2, none⟩ = some (.string T) ∧ w2.cell? ⟨gB, 3, none⟩ = some (.slice E nE cE) ∧ w2.cell? ⟨gB, 4, none⟩ = some (.slice I nI cI) ∧ w2.cell? ⟨gB, 5, none⟩ = some (.slice A nA cA) ∧ w2.cell? ⟨gB, 6, none⟩ = some (.slice O nO cO) from fun w2 hb => by
    have hh := (hb.block gB hgl).trans hbx
    exact ⟨cell_of_row w2 _ 2 _ _ _ hh, cell_of_row w2 _ 3 _ _ _ hh, cell_of_row w2 _ 4 _ _ _ hh, cell_of_row w2 _ 5 _ _ _ hh, cell_of_row w2 _ 6 _ _ _ hh⟩)
  have HW := hid2 hW
  have HB0 := hid2 hb0
  have HGB := hid2 hgB
  have HT := hid2 hT
  have HTC := hid2 (show W.cell? ⟨gB, 2, none⟩ = some (.string T) from cell_of_row W _ 2 _ _ _ hbx)
  have HTB := hid2 (show Tabs W from hTab.on hb0)
  have HP := hid2 hpa
  have HST := hid2 hst
  have HRL := hid2 hrl
  have HTL := hid2 htl
  have HAL := hid2 hal
  have HPN := hid2 hPn
  have HO1 := hid2 (show ∀ wq : World, Own (wq.alloc (.cells #[.string T] 9)) wq.heap.size 9 1 (some ⟨wq.heap.size, 0, none⟩) 1 1 (strV (rowsK a 1)) from fun wq => by
    rw [show strV (rowsK a 1) = [.string T] from HTV.out]
    exact Own.lit wq #[.string T] 9 1 1 wq.heap.size (Nat.le_refl _) (by decide) rfl)
  clear hpl hpa hst hrl htl hal hPn hTab h hmi hE hI hA hO hT hnE hnI hnA hnO hbx hb0 hgl hW hgB
  go_enter Tryz.func8, Tryz.ntmps8
  go_wp2_with fail
  rw [← HW.out, ← HGB.out]
  refine wp_region_rel 12 (by kernel_rfl) (by kernel_rfl) (by kernel_rfl) _ rfl (by kernel_rfl) (KV [none, none, some (envL a.env), none, none, some (setL a.ins), none, none, some (setL a.asks), none, none, some (setL a.outs)] [.pointer (some ⟨gB, 3, none⟩), .slice E nE cE, undef, .pointer (some ⟨gB, 4, none⟩), .slice I nI cI, undef, .pointer (some ⟨gB, 5, none⟩), .slice A nA cA, undef, .pointer (some ⟨gB, 6, none⟩), .slice O nO cO, undef]) (fun w2 => Below W.heap.size W w2) (fun a b => Below a.heap.size a b) ((Below.refl _ W).drew) (fun _ _ _ _ hb hv => hv.keep hb) ?_ ?_
  · refine of_allOps ⟨?_, ?_, ?_, ?_, ?_, ?_, ?_, ?_, ?_, ?_, ?_, ?_, trivial⟩
    · refine ⟨rfl, fun T2 w2 hM hN hO hE K hK => ?_⟩
      have o1 : T2[1]? = some (.pointer (some ⟨gB, 0, none⟩)) := hO 1 rfl
      clear hE hO hN
      go_simp
      exact hK _ _ rfl hM (Below.refl _ _)
    · refine ⟨rfl, fun T2 w2 hM hN hO hE K hK => ?_⟩
      obtain ⟨v0, h0, e0⟩ := hE ⟨0, .data⟩ (by simp) rfl _ _ rfl rfl
      rw [show v0 = .pointer (some ⟨gB, 3, none⟩) from (Option.some.inj e0).symm] at h0
      have hcc := (HCELL.out w2 hM).2.1
      clear hE hO hN
      go_simp
      exact hK _ _ rfl hM (Below.refl _ _)
    · refine ⟨rfl, fun T2 w2 hM hN hO hE K hK => ?_⟩
      obtain ⟨v1, h1, e1⟩ := hE ⟨1, .data⟩ (by simp) rfl _ _ rfl rfl
      rw [show v1 = .slice E nE cE from (Option.some.inj e1).symm] at h1
      clear hE hO hN
      go_simp
      refine (CE.out w2 hM).mono ?_
      rintro e w3 ⟨A3, c3, rfl, ho3, hb3⟩
      exact hK _ _ ⟨A3, c3, rfl, ho3.rd⟩ (hM.trans (hb3.mono hM.size)) hb3
    · refine ⟨rfl, fun T2 w2 hM hN hO hE K hK => ?_⟩
      have o1 : T2[1]? = some (.pointer (some ⟨gB, 0, none⟩)) := hO 1 rfl
      clear hE hO hN
      go_simp
      exact hK _ _ rfl hM (Below.refl _ _)
    · refine ⟨rfl, fun T2 w2 hM hN hO hE K hK => ?_⟩
      obtain ⟨v3, h3, e3⟩ := hE ⟨3, .data⟩ (by simp) rfl _ _ rfl rfl
      rw [show v3 = .pointer (some ⟨gB, 4, none⟩) from (Option.some.inj e3).symm] at h3
      have hcc := (HCELL.out w2 hM).2.2.1
      clear hE hO hN
      go_simp
      exact hK _ _ rfl hM (Below.refl _ _)
    · refine ⟨rfl, fun T2 w2 hM hN hO hE K hK => ?_⟩
      obtain ⟨v4, h4, e4⟩ := hE ⟨4, .data⟩ (by simp) rfl _ _ rfl rfl
      rw [show v4 = .slice I nI cI from (Option.some.inj e4).symm] at h4
      clear hE hO hN
      go_simp
      refine (CI.out w2 hM).mono ?_
      rintro e w3 ⟨A3, c3, rfl, ho3, hb3⟩
      exact hK _ _ ⟨A3, c3, rfl, ho3.rd⟩ (hM.trans (hb3.mono hM.size)) hb3
    · refine ⟨rfl, fun T2 w2 hM hN hO hE K hK => ?_⟩
      have o1 : T2[1]? = some (.pointer (some ⟨gB, 0, none⟩)) := hO 1 rfl
      clear hE hO hN
      go_simp
      exact hK _ _ rfl hM (Below.refl _ _)
    · refine ⟨rfl, fun T2 w2 hM hN hO hE K hK => ?_⟩
      obtain ⟨v6, h6, e6⟩ := hE ⟨6, .data⟩ (by simp) rfl _ _ rfl rfl
      rw [show v6 = .pointer (some ⟨gB, 5, none⟩) from (Option.some.inj e6).symm] at h6
      have hcc := (HCELL.out w2 hM).2.2.2.1
      clear hE hO hN
      go_simp
      exact hK _ _ rfl hM (Below.refl _ _)
    · refine ⟨rfl, fun T2 w2 hM hN hO hE K hK => ?_⟩
      obtain ⟨v7, h7, e7⟩ := hE ⟨7, .data⟩ (by simp) rfl _ _ rfl rfl
      rw [show v7 = .slice A nA cA from (Option.some.inj e7).symm] at h7
      clear hE hO hN
      go_simp
      refine (CA.out w2 hM).mono ?_
      rintro e w3 ⟨A3, c3, rfl, ho3, hb3⟩
      exact hK _ _ ⟨A3, c3, rfl, ho3.rd⟩ (hM.trans (hb3.mono hM.size)) hb3
    · refine ⟨rfl, fun T2 w2 hM hN hO hE K hK => ?_⟩
      have o1 : T2[1]? = some (.pointer (some ⟨gB, 0, none⟩)) := hO 1 rfl
      clear hE hO hN
      go_simp
      exact hK _ _ rfl hM (Below.refl _ _)
    · refine ⟨rfl, fun T2 w2 hM hN hO hE K hK => ?_⟩
      obtain ⟨v9, h9, e9⟩ := hE ⟨9, .data⟩ (by simp) rfl _ _ rfl rfl
      rw [show v9 = .pointer (some ⟨gB, 6, none⟩) from (Option.some.inj e9).symm] at h9
      have hcc := (HCELL.out w2 hM).2.2.2.2
      clear hE hO hN
      go_simp
      exact hK _ _ rfl hM (Below.refl _ _)
    · refine ⟨rfl, fun T2 w2 hM hN hO hE K hK => ?_⟩
      obtain ⟨v10, h10, e10⟩ := hE ⟨10, .data⟩ (by simp) rfl _ _ rfl rfl
      rw [show v10 = .slice O nO cO from (Option.some.inj e10).symm] at h10
      clear hE hO hN
      go_simp
      refine (CO.out w2 hM).mono ?_
      rintro e w3 ⟨A3, c3, rfl, ho3, hb3⟩
      exact hK _ _ ⟨A3, c3, rfl, ho3.rd⟩ (hM.trans (hb3.mono hM.size)) hb3
  · intro u w2 hM hF
    obtain ⟨A0, c0, e0, r0⟩ : ∃ A c, u 2 = .slice A (envL a.env).length c ∧ Rd w2 1 A (envL a.env).length (strV (envL a.env)) := hF 2 (by omega)
    obtain ⟨A1, c1, e1, r1⟩ : ∃ A c, u 5 = .slice A (setL a.ins).length c ∧ Rd w2 1 A (setL a.ins).length (strV (setL a.ins)) := hF 5 (by omega)
    obtain ⟨A2, c2, e2, r2⟩ : ∃ A c, u 8 = .slice A (setL a.asks).length c ∧ Rd w2 1 A (setL a.asks).length (strV (setL a.asks)) := hF 8 (by omega)
    obtain ⟨A3, c3, e3, r3⟩ : ∃ A c, u 11 = .slice A (setL a.outs).length c ∧ Rd w2 1 A (setL a.outs).length (strV (setL a.outs)) := hF 11 (by omega)
    clear hF
    simp only [fillAll, Nat.reduceAdd, e0, e1, e2, e3, List.take_succ_cons, List.take_zero, List.drop_succ_cons, List.drop_zero, List.setIfInBounds_toArray, List.set_cons_succ, List.set_cons_zero]
    have hn := World.alloc_heap_new w2 (.cells #[.slice A0 (envL a.env).length c0, .slice A1 (setL a.ins).length c1, .slice A2 (setL a.asks).length c2, .slice A3 (setL a.outs).length c3] 28)
    obtain ⟨W3, hW3⟩ : ∃ W3, W3 = w2.alloc (.cells #[.slice A0 (envL a.env).length c0, .slice A1 (setL a.ins).length c1, .slice A2 (setL a.asks).length c2, .slice A3 (setL a.outs).length c3] 28) := ⟨_, rfl⟩
    have hM3 : Below W.heap.size W W3 := by rw [hW3]; exact hM.alloc hM.size _
    have hal : ∀ (A : Option Addr) (x : List Tx), Rd w2 1 A x.length (strV x) → Rd W3 1 A x.length (strV x) := fun A x h => by rw [hW3]; exact h.alloc _
    rw [← hW3] at hn
    have hra : RowsAt W3 w2.heap.size (partsK a) (fun i => [A0, A1, A2, A3].getD i none) (fun i => [c0, c1, c2, c3].getD i 0) := by
      intro i x hx
      match i, hx with
      | 0, hx => cases hx; exact ⟨cell_of_row _ _ 0 _ _ _ hn, hal _ _ r0⟩
      | 1, hx => cases hx; exact ⟨cell_of_row _ _ 1 _ _ _ hn, hal _ _ r1⟩
      | 2, hx => cases hx; exact ⟨cell_of_row _ _ 2 _ _ _ hn, hal _ _ r2⟩
      | 3, hx => cases hx; exact ⟨cell_of_row _ _ 3 _ _ _ hn, hal _ _ r3⟩
      | i + 4, hx => simp [partsK] at hx
    have hcT := (HCELL.out W3 hM3).1
    have HW3 := hid2 hW3
    have HRA := hid2 hra
    have HM3 := hid2 hM3
    obtain ⟨g, hg⟩ : ∃ g, g = w2.heap.size := ⟨_, rfl⟩
    obtain ⟨As, hAs⟩ : ∃ As : Nat → Option Addr, As = fun i => [A0, A1, A2, A3].getD i none := ⟨_, rfl⟩
    obtain ⟨cs, hcs⟩ : ∃ cs : Nat → Nat, cs = fun i => [c0, c1, c2, c3].getD i 0 := ⟨_, rfl⟩
    rw [← hg, ← hAs, ← hcs] at HRA
    have hb0' := HB0.out
    have hszW := hM3.size
    obtain ⟨P1, hP1⟩ : ∃ P1, P1 = partsK a := ⟨_, rfl⟩
    rw [← hP1] at HRA HP HST HPN
    have HG := hid2 hg
    clear hn hal hra hM hM3 hW3 hAs hcs r0 r1 r2 r3 CE CI CA CO HCELL hg hP1
    go_wp2_with (first
      | (rw [← HW3.out, ← HG.out])
      | fail)
    go_loopg [4, 25] 4 (fun gk ov iv wr => ∃ (k j : Nat) (A1 : Option Addr) (c1 : Nat), k + gk = 4 ∧ j = k + 1 ∧ iv = .int .i64 k ∧ ov = .slice A1 j c1 ∧ Own wr W3.heap.size 9 1 A1 j c1 (strV (rowsK a j)) ∧ Below W3.heap.size W3 wr)
    case atStart => exact ⟨0, 1, _, _, by omega, rfl, rfl, rfl, HO1.out W3, (Below.refl _ _).alloc (Nat.le_refl _) _⟩
    case round =>
      obtain ⟨k, j, A5, c5, hk, hj, rfl, rfl, hown, hbe⟩ := hrel
      have HJ := hid2 hj
      have hjl : j ≤ 5 := by omega
      clear hj
      by_cases hlt : k < 4
      · have hkl : (k : Int) < 4 := by omega
        have hk0 : (0 : Int) ≤ k := by omega
        obtain ⟨x, hx⟩ : ∃ x, P1[k]? = some x := ⟨_, List.getElem?_eq_getElem (by rw [HPN.out]; exact hlt)⟩
        have hstep : rowsK a (j + 1) = rowsK a j ++ [rowL x] := by rw [HJ.out]; exact HST.out k x hx
        obtain ⟨hx1, hx2⟩ := HP.out k x hx
        obtain ⟨hcr, hrx⟩ := (HRA.out.below hbe) k x hx
        have cR := row_any wr (As k) (cs k) x (by omega) hrx ((HTB.out.on HM3.out).on hbe) (by omega)
        have hsz := hbe.size
        obtain ⟨R, hR⟩ : ∃ R, R = strB (rowL x) := ⟨_, rfl⟩
        rw [← hR] at cR
        obtain ⟨n, hn⟩ : ∃ n, n = x.length := ⟨_, rfl⟩
        rw [← hn] at cR hcr
        obtain ⟨V1, hV1⟩ : ∃ V1, V1 = strV (rowsK a j) := ⟨_, rfl⟩
        rw [← hV1] at hown
        have HSTEP := hid2 hstep
        have HBE := hid2 hbe
        have HR := hid2 hR
        have HV1 := hid2 hV1
        clear hx hstep hx1 hx2 hrx hR hn hV1 hbe
        go_wp2_with (first
          | (go_at_call 15; refine cR.mono ?_; rintro e w5 ⟨rfl, hb5⟩; have hown2 := hown.below hb5 (Nat.le_refl _); have hsz2 := hb5.size; have HB5 := hid2 hb5; clear cR hown hb5)
          | (at_builtin; have _t := hown2; go_must ((with_reducible refine wpList_append_lit 9 (.string ⟨#[]⟩) 1 16 Tryz.underlying28 info_str rfl W3.heap.size A5 j c5 V1 (hown2.alloc _) 1 [.string R] (.slice (some ⟨w5.heap.size, 0, none⟩) 1 1) (Src.slice Tryz.underlying28 (Rd.one w5 _ _)) one_str ?_ ?_ ?_ ?_ ?_); (unfold maxLen; omega); omega; (simp; omega); exact ⟨rfl, rfl⟩; intro A6 c6 w6 hown3 hgr3 hbl3; clear hown2; have hb6 : Below W3.heap.size W3 w6 := (((HBE.out.trans (HB5.out.mono hsz))).alloc (by omega) _).grown hgr3 (by simp; omega) (fun g e => (_t.block g e).1))))
        go_roundg (gk - 1)
        case rel => exact ⟨k + 1, j + 1, A6, c6, by omega, by have := HJ.out; omega, by go_num, rfl, by rw [HSTEP.out, ← strV_snoc, ← HV1.out, ← HR.out]; exact hown3, hb6⟩
        case measure => omega
      · have hk4 : k = 4 := by omega
        have hkl : ¬ (k : Int) < 4 := by omega
        obtain rfl : j = 5 := by have := HJ.out; omega
        have hln := HRL.out 5 (by omega) (by omega)
        have hrd := hown.rd
        have hlen2 : (rowL (rowsK a 5)).length ≤ 1000000 := by rw [HAL.out]; have := HTL.out; omega
        have cR := row_any wr A5 c5 (rowsK a 5) (by rw [hln]; omega) (by rw [hln]; exact hrd) ((HTB.out.on HM3.out).on hbe) hlen2
        rw [hln, HAL.out] at cR
        have HBE := hid2 hbe
        clear hrd hlen2 hown hln hbe hk4
        go_wp2_with (first
          | (go_at_call 15; refine cR.mono ?_; rintro e w5 ⟨rfl, hb5⟩; have HB5 := hid2 hb5; clear cR hb5))
        go_ret
        have b1 := HB0.out.trans (HM3.out.mono HB0.out.size)
        have b2 := b1.trans (HBE.out.mono b1.size)
        exact ⟨rfl, b2.trans (HB5.out.mono b2.size)⟩
end Go.Proofs.YtjjpecggcjggpaaGreatDoor
