/- The document's settings in their one form. -/
import Derived.Test.YtjmfmlkjippiaaaDoorKref4
namespace Go.Proofs.YtjmfmlkjippiaaaDoor
open Go.RowKit Go.Shelf
set_option maxRecDepth 100000
theorem valOf_cons (p : SetE) (l : List SetE) (n : Tx) : valOf (p :: l) n = if p.1 = n then p.2 else valOf l n := by
  unfold valOf
  rw [List.find?_cons]
  by_cases h : p.1 = n
  · simp [h]
  · rw [show (p.1 == n) = false by simp [h], if_neg h]
theorem valOf_drop {l : List SetE} {q : Nat} {p : SetE} (h : l[q]? = some p) (n : Tx) : valOf (l.drop q) n = if p.1 = n then p.2 else valOf (l.drop (q + 1)) n := by
  obtain ⟨hq, rfl⟩ := List.getElem?_eq_some_iff.1 h
  rw [List.drop_eq_getElem_cons hq, valOf_cons]
def envK (l : List SetE) (k : Nat) : List Tx := ((setL (l.map (·.1))).take k).flatMap fun n => [n, valOf l n]
theorem envK_len (l : List SetE) : ∀ k, k ≤ (setL (l.map (·.1))).length → (envK l k).length = 2 * k
  | 0, _ => rfl
  | k + 1, h => by
    have := envK_len l k (by omega)
    unfold envK at this ⊢
    rw [List.take_add_one, List.getElem?_eq_getElem (by omega), List.flatMap_append, List.length_append, this]
    simp
    omega
theorem envK_step {l : List SetE} {k : Nat} {n : Tx} (h : (setL (l.map (·.1)))[k]? = some n) : envK l (k + 1) = envK l k ++ [n, valOf l n] := by
  unfold envK
  rw [List.take_add_one, h, List.flatMap_append]
  rfl
theorem envK_all (l : List SetE) : envK l (setL (l.map (·.1))).length = envL l := by
  unfold envK envL
  rw [List.take_length]
theorem envL_len (l : List SetE) : (envL l).length = 2 * (setL (l.map (·.1))).length := by rw [← envK_all, envK_len l _ (Nat.le_refl _)]
theorem valOf_mem {l : List SetE} {n : Tx} {M : Nat} (h : ∀ p ∈ l, p.2.length ≤ M) : (valOf l n).length ≤ M := by
  unfold valOf
  cases hf : l.find? fun p => p.1 == n with
  | none => simp
  | some p => exact h p (List.mem_of_find?_eq_some hf)
set_option maxHeartbeats 4000000 in
theorem refenv_any (w : World) (A : Option Addr) (c : Nat) (l : List SetE) (hl : l.length ≤ 1000) (hr : Rd w 2 A l.length (setsV l)) :
    Calls Tryd.prog 34 #[.slice A l.length c] w fun e w' => ∃ A' c', e = .returned (.slice A' (envL l).length c') ∧ Own w' w.heap.size 9 1 A' (envL l).length c' (strV (envL l)) ∧ Below w.heap.size w w' := by
  have hsl := setL_len (l.map (·.1))
  rw [List.length_map] at hsl
  have hel := envL_len l
  have hek := envK_len l
  have hea := envK_all l
  have hes := fun (k : Nat) (n : Tx) h => envK_step (l := l) (k := k) (n := n) h
  have hnl : (l.map (·.1)).length = l.length := List.length_map _
  obtain ⟨n, hn⟩ : ∃ n, n = l.length := ⟨_, rfl⟩
  obtain ⟨NS, hNS⟩ : ∃ NS, NS = l.map (·.1) := ⟨_, rfl⟩
  obtain ⟨SS, hSS⟩ : ∃ SS, SS = setL NS := ⟨_, rfl⟩
  rw [← hNS] at hsl hel hek hea hes hnl
  rw [← hSS] at hsl hel hek hea hes
  obtain ⟨m, hm⟩ : ∃ m, m = SS.length := ⟨_, rfl⟩
  rw [← hm] at hsl hel hek hea
  have HM := hid2 hm
  rw [← hn] at hr hl hsl hnl ⊢
  have HR := hid2 hr
  have HN := hid2 hn
  have HEL := hid2 hel
  have HEK := hid2 hek
  have HEA := hid2 hea
  have HES := hid2 hes
  have HNL := hid2 hnl
  have HNS := hid2 hNS
  have HSS := hid2 hSS
  have HSL := hid2 hsl
  clear hr hn hel hek hea hes hnl hNS hSS hm
  have hlim : (n : Int) ≤ 1000 := by omega
  go_enter Tryd.func34, Tryd.ntmps34
  go_wp2_with fail
  go_loopg [3, 13] n (fun gk ov iv wr => ∃ (k : Nat) (A1 : Option Addr) (c1 : Nat), k + gk = n ∧ iv = .int .i64 k ∧ ov = .slice A1 k c1 ∧ Own wr w.heap.size 9 1 A1 k c1 (strV (NS.take k)) ∧ Below w.heap.size w wr)
  case atStart => exact ⟨0, _, _, by omega, rfl, rfl, Own.lit w #[] _ 1 0 _ (Nat.le_refl _) (by decide) rfl, (Below.refl _ _).alloc (Nat.le_refl _) _⟩
  case round =>
    obtain ⟨k, A1, c1, hk, rfl, rfl, hown, hbe⟩ := hrel
    by_cases hlt : k < n
    · have hkl : (k : Int) < n := by omega
      have hk0 : (0 : Int) ≤ k := by omega
      obtain ⟨x, hx⟩ : ∃ x, l[k]? = some x := ⟨_, List.getElem?_eq_getElem (by rw [← HN.out]; exact hlt)⟩
      have htk : NS.take (k + 1) = NS.take k ++ [x.1] := by rw [List.take_add_one, HNS.out, List.getElem?_map, hx]; rfl
      obtain ⟨b, o, rfl, hcell⟩ := (HR.out.below_all hbe).2 (by omega)
      have hcn : wr.cell? ⟨b, o + k * 2, none⟩ = some (.string (strB x.1)) := hcell (k * 2) _ (setsV_get hx).1
      have hsz := hbe.size
      have HTK := hid2 htk
      have HBE := hid2 hbe
      obtain ⟨X, hX⟩ : ∃ X, X = strB x.1 := ⟨_, rfl⟩
      rw [← hX] at hcn
      have HX := hid2 hX
      obtain ⟨V, hV⟩ : ∃ V, V = strV (NS.take k) := ⟨_, rfl⟩
      rw [← hV] at hown
      have HV := hid2 hV
      clear hx htk hcell hbe hX hV
      go_wp2_with (at_builtin; have _t := hown; go_must ((with_reducible refine wpList_append_lit 9 (.string ⟨#[]⟩) 1 16 Tryd.underlying25 info_str rfl w.heap.size A1 k c1 V (hown.alloc _) 1 [.string X] (.slice (some ⟨wr.heap.size, 0, none⟩) 1 1) (Src.slice Tryd.underlying25 (Rd.one wr _ _)) one_str ?_ ?_ ?_ ?_ ?_); (unfold maxLen; omega); omega; (simp; omega); exact ⟨rfl, rfl⟩; intro A3 c3 w3 hown3 hgr3 hbl3; clear hown; have hb3 : Below w.heap.size w w3 := (HBE.out.alloc (by omega) _).grown hgr3 (by simp; omega) (fun g e => (_t.block g e).1)))
      go_roundg (gk - 1)
      case rel => exact ⟨k + 1, A3, c3, by omega, by go_num, rfl, by rw [HTK.out, ← strV_snoc, ← HV.out, ← HX.out]; exact hown3, hb3⟩
      case measure => omega
    · obtain ⟨W0, rfl⟩ : ∃ W0, W0 = wr := ⟨_, rfl⟩
      have hkn : k = n := by omega
      have hkl : ¬ (k : Int) < n := by omega
      have htl : NS.take k = NS := by rw [hkn, ← HNL.out, List.take_length]
      rw [htl] at hown
      have hrd := (hown.alloc (.cells #[] 9)).rd
      have HBE := hid2 (hbe.alloc hbe.size (.cells #[] 9))
      have hsz := hbe.size
      have hn0 : Own (W0.alloc (.cells #[] 9)) w.heap.size 9 1 (some ⟨W0.heap.size, 0, none⟩) 0 0 (strV []) := Own.lit W0 #[] _ 1 0 _ hsz (by decide) rfl
      obtain ⟨W1, hW1⟩ : ∃ W1, W1 = W0.alloc (.cells #[] 9) := ⟨_, rfl⟩
      rw [← hW1] at hrd hn0 HBE
      rw [hkn] at hrd
      have cS := refset_any W1 A1 c1 NS (by rw [HNL.out]; exact hl) (by rw [HNL.out]; exact hrd)
      rw [HNL.out, ← HSS.out, ← HM.out] at cS
      have HW1 := hid2 hW1
      clear hown hrd hbe htl hW1
      rw [hkn]
      clear hkn hkl hlt hk
      have hnn : ¬ (n : Int) < n := by omega
      have hbw : ∀ b, blockOf (some (⟨W0.heap.size, 0, none⟩ : Addr)) = some b → b < W1.heap.size := by
        intro b hb
        cases hb
        rw [HW1.out]
        simp
      have HBW := hid2 hbw
      clear hbw
      obtain ⟨AZ, hAZ⟩ : ∃ AZ, AZ = (some ⟨W0.heap.size, 0, none⟩ : Option Addr) := ⟨_, rfl⟩
      go_wp2_with (first
        | (go_at_call 35; rw [← HW1.out]; refine cS.mono ?_; rintro e W2 ⟨A2, c2, rfl, hown2, hb2⟩; have HO2 := hid2 hown2; have hn2 := hn0.below hb2 (Nat.le_refl _); have HN2 := hid2 hn2; have HB2 := hid2 (HBE.out.trans (hb2.mono HBE.out.size)); have HB12 := hid2 hb2; clear cS hown2 hb2 hn0 hn2))
      rw [← hAZ] at HN2 HBW
      rw [← hAZ]
      clear hAZ
      have hml : m ≤ 1000 := by have := HSL.out; omega
      have hmi : (m : Int) ≤ 1000 := by omega
      go_loopg [5, 30] m (fun gk ov iv wr => ∃ (k j : Nat) (A1 : Option Addr) (c1 : Nat), k + gk = m ∧ j = 2 * k ∧ iv = .int .i64 k ∧ ov = .slice A1 j c1 ∧ Own wr w.heap.size 9 1 A1 j c1 (strV (envK l k)) ∧ Own wr W1.heap.size 9 1 A2 m c2 (strV SS) ∧ (∀ b, blockOf A1 = some b → blockOf A2 ≠ some b) ∧ Below w.heap.size w wr)
      case atStart =>
        refine ⟨0, 0, AZ, 0, by omega, rfl, rfl, rfl, HN2.out, HO2.out, fun b hb e => ?_, HB2.out⟩
        have := HBW.out b hb
        have := (HO2.out.block b e).1
        omega
      case round =>
        clear HN2 HO2 HB2
        obtain ⟨k, j, A1, c1, hk, hj, rfl, rfl, hown, ho2, hdis, hbe⟩ := hrel
        obtain ⟨wo, rfl⟩ : ∃ wo, wo = wr := ⟨_, rfl⟩
        obtain ⟨go, rfl⟩ : ∃ go, go = gk := ⟨_, rfl⟩
        have hjl : j ≤ 2000 := by omega
        have HJ := hid2 hj
        clear hj
        by_cases hlt : k < m
        · have hkl : (k : Int) < m := by omega
          have hk0 : (0 : Int) ≤ k := by omega
          obtain ⟨x, hx⟩ : ∃ x, SS[k]? = some x := ⟨_, List.getElem?_eq_getElem (by rw [← HM.out]; exact hlt)⟩
          have hstep := HES.out k x hx
          obtain ⟨b, o, rfl, hcell⟩ := ho2.rd.2 (by omega)
          have hcx : wo.cell? ⟨b, o + k, none⟩ = some (.string (strB x)) := hcell k _ (by rw [strV, List.getElem?_map, hx]; rfl)
          have hxe := toList_strB x
          obtain ⟨X, hX⟩ : ∃ X, X = strB x := ⟨_, rfl⟩
          rw [← hX] at hcx hxe
          have hrE := HR.out.below_all hbe
          have HRE := hid2 hrE
          have HX := hid2 hX
          have HXE := hid2 hxe
          have HST := hid2 hstep
          have HOWN := hid2 hown
          have HO2 := hid2 ho2
          have HDIS := hid2 hdis
          have HBE2 := hid2 hbe
          have HCX := hid2 hcx
          have hsz := hbe.size
          clear hx hstep hcell hX hrE hown ho2 hdis hbe hxe hcx
          go_wp2_with fail
          go_loopg [8, 9] n (fun gj vv iv wr => gj ≤ n ∧ ∃ i : Int, iv = .int .i64 i ∧ i = (gj : Int) - 1 ∧ vv = .string (strB (valOf (l.drop gj) x)) ∧ ∃ d, wr = wo.drewN d)
          case atStart =>
            refine ⟨Nat.le_refl _, _, rfl, by omega, ?_, 0, rfl⟩
            rw [HN.out, List.drop_length]
            rfl
          case round =>
            obtain ⟨hgn, i, rfl, hi, rfl, d, hd⟩ := hrel
            have HD := hid2 hd
            by_cases h0 : 0 < gk
            · obtain ⟨p, rfl⟩ : ∃ p, gk = p + 1 := ⟨gk - 1, by omega⟩
              obtain rfl : i = (p : Int) := by omega
              clear hi
              have hp0 : (0 : Int) ≤ p := by omega
              have hpn : (p : Int) < n := by omega
              obtain ⟨y, hy⟩ : ∃ y, l[p]? = some y := ⟨_, List.getElem?_eq_getElem (by rw [← HN.out]; omega)⟩
              have hvo := valOf_drop hy x
              obtain ⟨b', o', rfl, hcell⟩ := HRE.out.2 (by omega)
              have hcn : wr.cell? ⟨b', o' + p * 2, none⟩ = some (.string (strB y.1)) := by rw [hd]; exact hcell (p * 2) _ (setsV_get hy).1
              have hcv : wr.cell? ⟨b', o' + p * 2 + 1, none⟩ = some (.string (strB y.2)) := by rw [hd]; exact hcell (p * 2 + 1) _ (setsV_get hy).2
              have hcx : wr.cell? ⟨b, o + k, none⟩ = some (.string X) := by rw [hd]; exact HCX.out
              have hye := toList_strB y.1
              obtain ⟨Y, hY⟩ : ∃ Y, Y = strB y.1 := ⟨_, rfl⟩
              obtain ⟨Z, hZ⟩ : ∃ Z, Z = strB y.2 := ⟨_, rfl⟩
              rw [← hY] at hcn hye
              rw [← hZ] at hcv
              have HZ := hid2 hZ
              by_cases he : y.1 = x
              · rw [if_pos he] at hvo
                have hbq : (Y.toList == X.toList) = true := by rw [hye, HXE.out]; simp [he]
                have HVO := hid2 hvo
                clear hd hvo hcell hy hY hZ hye he
                go_wp2_with fail
                go_quiet (fail)
                go_wp2_with fail
                go_roundg p
                case rel => exact ⟨by omega, _, rfl, by omega, by rw [HVO.out, ← HZ.out], by rw [HD.out]; exact ⟨_, drewN_two _ _ _⟩⟩
                case measure => omega
              · rw [if_neg he] at hvo
                have hbq : (Y.toList == X.toList) = false := by rw [hye, HXE.out]; simp [he]
                have HVO := hid2 hvo
                rw [← hvo]
                clear hd hvo hcell hy hY hZ hye he
                go_wp2_with fail
                go_quiet (fail)
                go_wp2_with fail
                go_roundg p
                case rel => exact ⟨by omega, _, rfl, by omega, rfl, by rw [HD.out]; exact ⟨_, drewN_two _ _ _⟩⟩
                case measure => omega
            · obtain rfl : gk = 0 := by omega
              obtain rfl : i = -1 := by omega
              clear hi
              rw [List.drop_zero]
              obtain ⟨U, hU⟩ : ∃ U, U = strB (valOf l x) := ⟨_, rfl⟩
              rw [← hU]
              have HU := hid2 hU
              have hown := HOWN.out.drewN d
              have hbe3 := below_drewN HBE2.out d
              have hcx : wr.cell? ⟨b, o + k, none⟩ = some (.string X) := by rw [hd]; exact HCX.out
              have hodd := HO2.out.drewN d
              have hsz3 : w.heap.size ≤ wr.heap.size := by rw [hd]; exact hsz
              rw [← hd] at hown hbe3 hodd
              obtain ⟨V, hV⟩ : ∃ V, V = strV (envK l k) := ⟨_, rfl⟩
              rw [← hV] at hown
              have HV := hid2 hV
              have HODD := hid2 hodd
              have HBE3 := hid2 hbe3
              have hone : ∀ v ∈ [Value.string X, Value.string U], v.oneCell' = true := by simp [Value.oneCell']
              clear hU hd hV hodd hbe3 h0
              go_wp2_with (at_builtin; have _t := hown; go_must ((with_reducible refine wpList_append_lit 9 (.string ⟨#[]⟩) 1 16 Tryd.underlying25 info_str rfl w.heap.size A1 j c1 V (hown.alloc _) 2 [.string X, .string U] (.slice (some ⟨wr.heap.size, 0, none⟩) 2 2) (Src.slice Tryd.underlying25 (Rd.of_lit wr _ _ 1 2 (by decide) rfl)) hone ?_ ?_ ?_ ?_ ?_); (unfold maxLen; omega); omega; (simp; omega); exact ⟨rfl, rfl⟩; intro A3 c3 w3 hown3 hgr3 hbl3; clear hown; have hb3 : Below w.heap.size w w3 := (HBE3.out.alloc (by omega) _).grown hgr3 (by simp; omega) (fun g e => (_t.block g e).1); have HT := hid2 _t))
              go_roundg (go - 1)
              case rel =>
                refine ⟨k + 1, j + 2, A3, c3, by omega, by have := HJ.out; omega, by go_num, rfl, ?_, ?_, ?_, hb3⟩
                · rw [HST.out, show strV (envK l k ++ [x, valOf l x]) = V ++ [.string X, .string U] by rw [HV.out, HX.out, HU.out]; simp [strV]]
                  exact hown3
                · exact (HODD.out.alloc _).grown hgr3 (fun b' hb' e => HDIS.out b' e.symm hb')
                · intro b' hb' e
                  rcases hbl3 with h | h
                  · exact HDIS.out b' (by rw [← h]; exact hb') e
                  · rw [h] at hb'
                    cases hb'
                    have := (HODD.out.block _ e).2.1
                    simp at this
                    omega
              case measure => omega
        · have hkm : k = m := by omega
          have hkl : ¬ (k : Int) < m := by omega
          rw [hkm, HEA.out] at hown
          have hjm : j = (envL l).length := by rw [HEL.out, ← hkm]; exact HJ.out
          have HJM := hid2 hjm
          clear hkm hdis ho2 hjm
          go_wp2_with fail
          go_ret
          exact ⟨A1, c1, by rw [HJM.out]; rfl, by rw [← HJM.out]; exact hown, hbe⟩
end Go.Proofs.YtjmfmlkjippiaaaDoor
