/- The document's bounds; are two rows one? -/
import Derived.Test.YtjmfmlkjippiaaaDoorKref2
namespace Go.Proofs.YtjmfmlkjippiaaaDoor
open Go.RowKit Go.Shelf
set_option maxRecDepth 100000
def wideL (l : List Tx) : Bool := l.any (fun x => decide (100 < x.length)) || decide (20 < l.length)
theorem wide_any (w : World) (A : Option Addr) (c : Nat) (l : List Tx) (hm : l.length ≤ maxLen) (hr : Rd w 1 A l.length (strV l)) :
    Calls Tryd.prog 16 #[.slice A l.length c] w fun e w' => e = .returned (.bool (wideL l)) ∧ w' = w := by
  obtain ⟨n, hn⟩ : ∃ n, n = l.length := ⟨_, rfl⟩
  have hlim : (n : Int) ≤ 9223372036854775807 := by rw [hn]; unfold maxLen at hm; omega
  have HW := hid2 (show wideL l = (l.any (fun x => decide (100 < x.length)) || decide (20 < n)) by rw [hn]; rfl)
  rw [← hn] at hr ⊢
  have HR := hid2 hr
  have HN := hid2 hn
  clear hr hn hm
  go_enter Tryd.func16, Tryd.ntmps16
  go_wp2_with fail
  go_loopw [6] (fun i wr => ∃ k : Nat, k ≤ n ∧ i = .int .i64 k ∧ (l.take k).any (fun x => decide (100 < x.length)) = false ∧ wr = w) (fun i _ => n - (intOf i).toNat)
  case atStart => exact ⟨0, by omega, rfl, rfl, rfl⟩
  case round =>
    obtain ⟨k, hk, rfl, hany, rfl⟩ := hrel
    by_cases hlt : k < n
    · have hkl : (k : Int) < n := by omega
      have hk0 : (0 : Int) ≤ k := by omega
      obtain ⟨x, hx⟩ : ∃ x, l[k]? = some x := ⟨_, List.getElem?_eq_getElem (by rw [← HN.out]; exact hlt)⟩
      have htk : l.take (k + 1) = l.take k ++ [x] := by rw [List.take_add_one, hx]; rfl
      obtain ⟨b, o, rfl, hcell⟩ := HR.out.2 (by omega)
      have hcx : wr.cell? ⟨b, o + k, none⟩ = some (.string (strB x)) := hcell k _ (by rw [strV, List.getElem?_map, hx]; rfl)
      have hxs := strB_size x
      have hmem : x ∈ l := List.mem_of_getElem? hx
      have HTK := hid2 htk
      have HMEM := hid2 hmem
      have HANY := hid2 hany
      clear hx htk hcell hmem hany
      by_cases h100 : 100 < x.length
      · have h100i : (100 : Int) < x.length := by omega
        go_wp2_with fail
        go_ret
        refine ⟨?_, rfl⟩
        have : l.any (fun x => decide (100 < x.length)) = true := List.any_eq_true.2 ⟨x, HMEM.out, by simpa using h100⟩
        rw [HW.out, this]
        rfl
      · have h100i : ¬ (100 : Int) < x.length := by omega
        go_wp2_with fail
        go_roundw
        case rel => exact ⟨k + 1, by omega, by go_num, by rw [HTK.out, List.any_append, HANY.out]; simp; omega, by first | rfl | trivial⟩
        case measure => simp [intOf]; omega
    · have hkn : k = n := by omega
      have hkl : ¬ (k : Int) < n := by omega
      have htl : l.take k = l := by rw [hkn, HN.out, List.take_length]
      rw [htl] at hany
      have HANY := hid2 hany
      clear hany htl hkn
      by_cases h20 : 20 < n
      · have h20i : (20 : Int) < n := by omega
        go_wp2_with fail
        go_ret
        refine ⟨?_, rfl⟩
        rw [HW.out, HANY.out]
        simp [h20]
      · have h20i : ¬ (20 : Int) < n := by omega
        go_wp2_with fail
        go_ret
        refine ⟨?_, rfl⟩
        rw [HW.out, HANY.out]
        simp [h20]
theorem drewN_two (w : World) (a b : Nat) : (w.drewN a).drewN b = w.drewN (a + b) := by simp
theorem texts_any (w : World) (A A' : Option Addr) (c c' : Nat) (l m : List Tx) (hl : l.length ≤ 100000) (hm : m.length ≤ 100000) (hr : Rd w 1 A l.length (strV l)) (hr' : Rd w 1 A' m.length (strV m)) :
    Calls Tryd.prog 24 #[.slice A l.length c, .slice A' m.length c'] w fun e w' => e = .returned (.bool (decide (l = m))) ∧ ∃ k, w' = w.drewN k := by
  by_cases hne : l.length = m.length
  · obtain ⟨n, hn⟩ : ∃ n, n = l.length := ⟨_, rfl⟩
    have hn' : n = m.length := hn.trans hne
    rw [← hn] at hr hl ⊢
    rw [← hn'] at hr' ⊢
    have HR := hid2 hr
    have HR' := hid2 hr'
    have HN := hid2 hn
    have HN' := hid2 hn'
    have hlim : (n : Int) ≤ 100000 := by omega
    clear hr hr' hn hn' hne hm hl
    go_enter Tryd.func24, Tryd.ntmps24
    go_wp2_with fail
    go_loopw [13] (fun i wr => ∃ k : Nat, k ≤ n ∧ i = .int .i64 k ∧ l.take k = m.take k ∧ ∃ d, wr = w.drewN d) (fun i _ => n - (intOf i).toNat)
    case atStart => exact ⟨0, by omega, rfl, rfl, 0, rfl⟩
    case round =>
      obtain ⟨k, hk, rfl, htk, d, hd⟩ := hrel
      have HD := hid2 hd
      by_cases hlt : k < n
      · have hkl : (k : Int) < n := by omega
        have hk0 : (0 : Int) ≤ k := by omega
        obtain ⟨x, hx⟩ : ∃ x, l[k]? = some x := ⟨_, List.getElem?_eq_getElem (by rw [← HN.out]; exact hlt)⟩
        obtain ⟨y, hy⟩ : ∃ y, m[k]? = some y := ⟨_, List.getElem?_eq_getElem (by rw [← HN'.out]; exact hlt)⟩
        have h1 : l.take (k + 1) = l.take k ++ [x] := by rw [List.take_add_one, hx]; rfl
        have h2 : m.take (k + 1) = m.take k ++ [y] := by rw [List.take_add_one, hy]; rfl
        obtain ⟨b, o, rfl, hcell⟩ := HR.out.2 (by omega)
        obtain ⟨b', o', rfl, hcell'⟩ := HR'.out.2 (by omega)
        have hcx : wr.cell? ⟨b, o + k, none⟩ = some (.string (strB x)) := by
          rw [hd]
          exact hcell k _ (by rw [strV, List.getElem?_map, hx]; rfl)
        have hcy : wr.cell? ⟨b', o' + k, none⟩ = some (.string (strB y)) := by
          rw [hd]
          exact hcell' k _ (by rw [strV, List.getElem?_map, hy]; rfl)
        have hxe := toList_strB x
        have hye := toList_strB y
        obtain ⟨X, hX⟩ : ∃ X, X = strB x := ⟨_, rfl⟩
        obtain ⟨Y, hY⟩ : ∃ Y, Y = strB y := ⟨_, rfl⟩
        rw [← hX] at hcx hxe
        rw [← hY] at hcy hye
        by_cases he : x = y
        · subst he
          have hXY : X = Y := by rw [hX, hY]
          subst hXY
          have H3 := hid2 (show l.take (k + 1) = m.take (k + 1) by rw [h1, h2, htk])
          clear hd hx hy h1 h2 hcell hcell' hX hY hxe hye htk
          go_wp2_with fail
          go_quiet (fail)
          go_wp2_with fail
          go_roundw
          case rel => exact ⟨k + 1, by omega, by go_num, H3.out, by rw [HD.out]; exact ⟨_, drewN_two _ _ _⟩⟩
          case measure => simp [intOf]; omega
        · have hb : (!X.toList == Y.toList) = true := by rw [hxe, hye]; simp [he]
          have H3 := hid2 (show ¬ l = m by
            intro e
            rw [e, hy] at hx
            injection hx with hx
            exact he hx.symm)
          clear hd hx hy h1 h2 hcell hcell' hX hY hxe hye htk he
          go_wp2_with fail
          go_quiet (fail)
          go_wp2_with fail
          go_ret
          exact ⟨by rw [decide_eq_false H3.out]; rfl, by rw [HD.out]; exact ⟨_, drewN_two _ _ _⟩⟩
      · have hkn : k = n := by omega
        have hkl : ¬ (k : Int) < n := by omega
        have hlm : l = m := by
          rw [hkn] at htk
          rw [List.take_of_length_le (by rw [← HN.out]; exact Nat.le_refl _), List.take_of_length_le (by rw [← HN'.out]; exact Nat.le_refl _)] at htk
          exact htk
        have H3 := hid2 hlm
        clear hd htk hlm hkn
        go_wp2_with fail
        go_ret
        exact ⟨by rw [decide_eq_true H3.out]; rfl, d, HD.out⟩
  · have hd : decide (l = m) = false := decide_eq_false (fun e => hne (by rw [e]))
    have hi : ¬ (l.length : Int) = m.length := by omega
    rw [hd]
    clear hr hr' hne hd hl hm
    go_enter Tryd.func24, Tryd.ntmps24
    go_wp2_with fail
    go_ret
    exact ⟨rfl, 0, rfl⟩
end Go.Proofs.YtjmfmlkjippiaaaDoor
