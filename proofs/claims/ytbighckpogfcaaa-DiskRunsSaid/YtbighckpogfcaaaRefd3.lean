/- The reference's disk as a row of files: Names, pass. -/
import Derived.Test.YtbighckpogfcaaaRefd2
namespace Go.Proofs.Ytbighckpogfcaaa
open Go.RowKit Go.Maps
set_option maxRecDepth 100000 in
theorem names07m_any (w : World) (A : Option Addr) (c : Nat) (M : Tab FileE) (left : Int) (hr : Rd w 3 A M.length (rfsV M)) (hl : M.length ≤ 1000000000) :
    Calls Try.prog 63 #[.agg #[.slice A M.length c, .int .i64 left]] w fun e w' => ∃ A' c', e = .returned (.slice A' M.length c') ∧ Rd w' 1 A' M.length (strV (M.map (·.1))) ∧ Below w.heap.size w w' := by
  obtain ⟨N, hN⟩ : ∃ N, N = M.length := ⟨_, rfl⟩
  have hB : Below w.heap.size w ((w.alloc (.cells #[.slice A N c, .int .i64 left] 46)).alloc (.cells #[] 9)) := ((Below.refl _ _).alloc (Nat.le_refl _) _).alloc (by simp) _
  have hO : Own ((w.alloc (.cells #[.slice A N c, .int .i64 left] 46)).alloc (.cells #[] 9)) w.heap.size 9 1 (some ⟨w.heap.size + 1, 0, none⟩) 0 0 [] := by
    have := Own.lit (w.alloc (.cells #[.slice A N c, .int .i64 left] 46)) #[] 9 1 0 w.heap.size (by simp) (by decide) rfl
    simpa using this
  have HR := hid2 hr
  rw [← hN] at hl ⊢
  have HN := hid2 hN
  have HO := hid2 hO
  clear hr hN hO
  go_enter Try.func63, Try.ntmps63
  go_wp2_with fail
  go_loopg [3, 10] N (fun gk v i wr => ∃ (k : Nat) (A' : Option Addr) (c' : Nat), k + gk = N ∧ i = .int .i64 k ∧ v = .slice A' k c' ∧ Own wr w.heap.size 9 1 A' k c' (strV ((M.take k).map (·.1))) ∧ Below w.heap.size w wr)
  case atStart => exact ⟨0, _, _, by omega, rfl, rfl, HO.out, hB⟩
  case round =>
    obtain ⟨k, A', c', hk, rfl, rfl, hown, hb⟩ := hrel
    have hHw := hb.size
    by_cases hlt : k < N
    · have hlt' : (k : Int) < N := by omega
      obtain ⟨x, hx⟩ : ∃ x, M[k]? = some x := ⟨_, List.getElem?_eq_getElem (by rw [← HN.out]; exact hlt)⟩
      obtain ⟨b, o, rfl, c0, c1, c2⟩ := rf_cells (HR.out.below_all hb) hx
      have hstep : strV ((M.take k).map (·.1)) ++ [.string (strB x.1)] = strV ((M.take (k + 1)).map (·.1)) := by
        obtain ⟨hkl, hxe⟩ := List.getElem?_eq_some_iff.1 hx
        rw [strV_snoc, List.take_succ_eq_append_getElem hkl, hxe, List.map_append]
        rfl
      obtain ⟨S, hS⟩ : ∃ S, S = strB x.1 := ⟨_, rfl⟩
      obtain ⟨T, hT⟩ : ∃ T, T = strB x.2.1 := ⟨_, rfl⟩
      obtain ⟨U, hU⟩ : ∃ U : Int, U = x.2.2 := ⟨_, rfl⟩
      obtain ⟨V, hV⟩ : ∃ V, V = strV ((M.take k).map (·.1)) := ⟨_, rfl⟩
      rw [← hS] at c0 hstep
      rw [← hT] at c1
      rw [← hU] at c2
      rw [← hV] at hown hstep
      have HST := hid2 hstep
      have hown1 := hown.alloc (.cells #[.string S, .string T, .int .i64 U] 108)
      have hown2 := hown1.alloc (.cells #[.string S] 9)
      have hrd0 := Rd.one (wr.alloc (.cells #[.string S, .string T, .int .i64 U] 108)) (.string S) 9
      have hrd : Rd ((wr.alloc (.cells #[.string S, .string T, .int .i64 U] 108)).alloc (.cells #[.string S] 9)) 1 (some ⟨wr.heap.size + 1, 0, none⟩) 1 [.string S] := by simpa using hrd0
      have hb2 := (hb.alloc hHw (.cells #[.string S, .string T, .int .i64 U] 108)).alloc (by simp; omega) (.cells #[.string S] 9)
      clear hx hstep hS hT hU hV hown hown1 hrd0
      go_wp2_with (at_builtin; have _t := hown2; go_must ((with_reducible refine wpList_append_lit 9 (.string ⟨#[]⟩) 1 16 Try.underlying31 info_str rfl w.heap.size A' k c' V hown2 1 [.string S] (.slice (some ⟨wr.heap.size + 1, 0, none⟩) 1 1) (Src.slice Try.underlying31 hrd) one_str ?_ ?_ ?_ ?_ ?_); (unfold maxLen; omega); omega; (simp; omega); exact ⟨rfl, rfl⟩; intro A3 c3 w3 hown3 hgr3 hbl3; clear hown2))
      go_roundg (gk - 1)
      case rel => exact ⟨k + 1, A3, c3, by omega, by go_num, rfl, by rw [← HST.out]; exact hown3, hb2.grown hgr3 (by simp; omega) (fun g e => (_t.block g e).1)⟩
      case measure => omega
    · have hkN : k = N := by omega
      have hlt' : ¬ (k : Int) < N := by omega
      have HKN := hid2 hkN
      have HOW := hid2 hown
      clear hkN hlt hown
      go_wp2_with fail
      go_ret
      refine ⟨A', ⟨c', by rw [HKN.out]; rfl⟩, ?_, hb⟩
      have := HOW.out.rd
      rw [HKN.out, HN.out, List.take_of_length_le (Nat.le_refl _)] at this
      rw [HN.out]
      exact this
end Go.Proofs.Ytbighckpogfcaaa
