/- The reference's disk as a row of files: without. -/
import Derived.Test.YtbighckpogfcaaaRefd3
import Derived.Test.YtbighckpogfcaaaDisk10
namespace Go.Proofs.Ytbighckpogfcaaa
open Go.RowKit Go.Maps
theorem rfsV_snoc (L : Tab FileE) (x : List UInt8 × FileE) : rfsV L ++ rfV x = rfsV (L ++ [x]) := by simp [rfsV]
theorem delM_step {M : Tab FileE} {k : Nat} {x : List UInt8 × FileE} (h : M[k]? = some x) (s : List UInt8) : delM (M.take (k + 1)) s = if x.1 = s then delM (M.take k) s else delM (M.take k) s ++ [x] := by
  obtain ⟨hkl, hxe⟩ := List.getElem?_eq_some_iff.1 h
  unfold delM
  rw [List.take_succ_eq_append_getElem hkl, hxe, List.filter_append]
  by_cases he : x.1 = s <;> simp [he]
theorem delM_len (M : Tab FileE) (s : List UInt8) : (delM M s).length ≤ M.length := List.length_filter_le _ _
set_option maxRecDepth 100000 in
theorem without07m_any (w : World) (A : Option Addr) (c : Nat) (M : Tab FileE) (left : Int) (hr : Rd w 3 A M.length (rfsV M)) (hl : M.length ≤ 1000000000) (s : ByteArray) :
    Calls Try.prog 89 #[.agg #[.slice A M.length c, .int .i64 left], .string s] w fun e w' => ∃ A' c', e = .returned (.slice A' (delM M s.data.toList).length c') ∧ Own w' w.heap.size 108 3 A' (delM M s.data.toList).length c' (rfsV (delM M s.data.toList)) ∧ Below w.heap.size w w' := by
  obtain ⟨N, hN⟩ : ∃ N, N = M.length := ⟨_, rfl⟩
  have hB : Below w.heap.size w ((w.alloc (.cells #[.slice A N c, .int .i64 left] 46)).alloc (.cells #[] 108)) := ((Below.refl _ _).alloc (Nat.le_refl _) _).alloc (by simp) _
  have hO : Own ((w.alloc (.cells #[.slice A N c, .int .i64 left] 46)).alloc (.cells #[] 108)) w.heap.size 108 3 (some ⟨w.heap.size + 1, 0, none⟩) 0 0 [] := by
    have := Own.lit (w.alloc (.cells #[.slice A N c, .int .i64 left] 46)) #[] 108 3 0 w.heap.size (by simp) (by decide) rfl
    simpa using this
  have HR := hid2 hr
  rw [← hN] at hl ⊢
  have HN := hid2 hN
  have HO := hid2 hO
  clear hr hN hO
  go_enter Try.func89, Try.ntmps89
  go_wp2_with fail
  go_loopg [5, 12] N (fun gk v i wr => ∃ (k n : Nat) (A' : Option Addr) (c' : Nat), k + gk = N ∧ i = .int .i64 k ∧ n = (delM (M.take k) s.data.toList).length ∧ v = .slice A' n c' ∧ Own wr w.heap.size 108 3 A' n c' (rfsV (delM (M.take k) s.data.toList)) ∧ Below w.heap.size w wr)
  case atStart => exact ⟨0, 0, _, _, by omega, rfl, rfl, rfl, HO.out, hB⟩
  case round =>
    obtain ⟨k, n, A', c', hk, rfl, hn, rfl, hown, hb⟩ := hrel
    have hHw := hb.size
    by_cases hlt : k < N
    · have hlt' : (k : Int) < N := by omega
      have hnk : n ≤ k := by
        rw [hn]
        exact Nat.le_trans (delM_len _ _) (by rw [List.length_take]; omega)
      obtain ⟨x, hx⟩ : ∃ x, M[k]? = some x := ⟨_, List.getElem?_eq_getElem (by rw [← HN.out]; exact hlt)⟩
      obtain ⟨b, o, rfl, c0, c1, c2⟩ := rf_cells (HR.out.below_all hb) hx
      have hstep := delM_step hx s.data.toList
      obtain ⟨S, hS⟩ : ∃ S, S = strB x.1 := ⟨_, rfl⟩
      obtain ⟨T, hT⟩ : ∃ T, T = strB x.2.1 := ⟨_, rfl⟩
      obtain ⟨U, hU⟩ : ∃ U : Int, U = x.2.2 := ⟨_, rfl⟩
      rw [← hS] at c0
      rw [← hT] at c1
      rw [← hU] at c2
      have hSx : S.data.toList = x.1 := by rw [hS, strB_list]
      by_cases he : S = s
      · rw [if_pos (by rw [← hSx, he])] at hstep
        have HST := hid2 hstep
        have HOW := hid2 hown
        have HNN := hid2 hn
        clear hx hstep hS hT hU hown hSx hn
        subst he
        go_wp2_with fail
        go_roundg (gk - 1)
        case rel => exact ⟨k + 1, n, A', c', by omega, by go_num, by rw [HST.out]; exact HNN.out, rfl, by rw [HST.out]; exact HOW.out.alloc _, hb.alloc hHw _⟩
        case measure => omega
      · rw [if_neg (fun h => he (bytes_ext (by rw [hSx]; exact h)))] at hstep
        have he2 : (S.toList == s.toList) = false := by rw [ByteArray.toList_eq, ByteArray.toList_eq]; exact beq_eq_false_iff_ne.2 (fun h => he (bytes_ext h))
        obtain ⟨V, hV⟩ : ∃ V, V = rfsV (delM (M.take k) s.data.toList) := ⟨_, rfl⟩
        have hV2 : V ++ [.string S, .string T, .int .i64 U] = rfsV (delM (M.take (k + 1)) s.data.toList) := by
          rw [hstep, ← rfsV_snoc, ← hV, rfV, ← hS, ← hT, ← hU]
        have hn2 : n + 1 = (delM (M.take (k + 1)) s.data.toList).length := by rw [hstep, List.length_append, ← hn]; rfl
        rw [← hV] at hown
        have HV2 := hid2 hV2
        have HN2 := hid2 hn2
        have hown1 := hown.alloc (.cells #[.string S, .string T, .int .i64 U] 108)
        have hown2 := hown1.alloc (.cells #[.string S, .string T, .int .i64 U] 108)
        have hrd0 := Rd.of_lit (wr.alloc (.cells #[.string S, .string T, .int .i64 U] 108)) #[.string S, .string T, .int .i64 U] 108 3 1 (by decide) rfl
        have hrd : Rd ((wr.alloc (.cells #[.string S, .string T, .int .i64 U] 108)).alloc (.cells #[.string S, .string T, .int .i64 U] 108)) 3 (some ⟨wr.heap.size + 1, 0, none⟩) 1 [.string S, .string T, .int .i64 U] := by simpa using hrd0
        have hone : ∀ v ∈ [Value.string S, Value.string T, Value.int .i64 U], v.oneCell' = true := by simp [Value.oneCell']
        have hb2 := (hb.alloc hHw (.cells #[.string S, .string T, .int .i64 U] 108)).alloc (by simp; omega) (.cells #[.string S, .string T, .int .i64 U] 108)
        clear hx hstep hS hT hU hV hV2 hn2 hn hown hown1 hrd0 hSx
        go_wp2_with (at_builtin; have _t := hown2; go_must ((with_reducible refine wpList_append_lit 108 (.agg #[.string ⟨#[]⟩, .string ⟨#[]⟩, .int .i64 0]) 3 40 Try.underlying44 info_rfile rfl w.heap.size A' n c' V hown2 1 _ (.slice (some ⟨wr.heap.size + 1, 0, none⟩) 1 1) (Src.slice Try.underlying44 hrd) hone ?_ ?_ ?_ ?_ ?_); (unfold maxLen; omega); omega; (simp; omega); exact ⟨rfl, rfl⟩; intro A3 c3 w3 hown3 hgr3 hbl3; clear hown2))
        go_roundg (gk - 1)
        case rel => exact ⟨k + 1, n + 1, A3, c3, by omega, by go_num, HN2.out, rfl, by rw [← HV2.out]; exact hown3, hb2.grown hgr3 (by simp; omega) (fun g e => (_t.block g e).1)⟩
        case measure => omega
    · have hkN : k = N := by omega
      have hlt' : ¬ (k : Int) < N := by omega
      have hM : M.take k = M := by rw [hkN, HN.out, List.take_of_length_le (Nat.le_refl _)]
      rw [hM] at hown hn
      have HNN := hid2 hn
      have HOW := hid2 hown
      clear hkN hlt hown hn hM
      go_wp2_with fail
      go_ret
      rw [← HNN.out]
      exact ⟨A', c', rfl, HOW.out, hb⟩
end Go.Proofs.Ytbighckpogfcaaa
