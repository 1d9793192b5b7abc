/- The reference's disk as a row of files: the walk of with. -/
import Derived.Test.YtbighckpogfcaaaRefd5
import Derived.Laws.Cover1
namespace Go.Proofs.Ytbighckpogfcaaa
open Go.RowKit Go.Maps
theorem less_before : ∀ x y : List UInt8, Op.bytesLess x y = bytesBefore x y
  | [], [] => rfl
  | [], _ :: _ => rfl
  | _ :: _, [] => rfl
  | a :: x, b :: y => by rw [Op.bytesLess, bytesBefore, less_before x y]
/-- between two rounds of with -/
structure WInv (w : World) (A : Option Addr) (N c : Nat) (left : Int) (s d : ByteArray) (u : Int) (A' : Option Addr) (c' : Nat) (L : Tab FileE) (wr : World) : Prop where
  own : Own wr (w.heap.size + 2) 108 3 A' L.length c' (rfsV L)
  below : Below w.heap.size w wr
  box0 : wr.heap[w.heap.size]? = some (.cells #[.slice A N c, .int .i64 left] 46 (0, 0))
  box1 : wr.heap[w.heap.size + 1]? = some (.cells #[.string s, .string d, .int .i64 u] 108 (0, 0))
  size : w.heap.size + 2 ≤ wr.heap.size
theorem WInv.start (w : World) (A : Option Addr) (N c : Nat) (left : Int) (s d : ByteArray) (u : Int) : WInv w A N c left s d u (some ⟨w.heap.size + 1 + 1, 0, none⟩) 0 [] (((w.alloc (.cells #[.slice A N c, .int .i64 left] 46)).alloc (.cells #[.string s, .string d, .int .i64 u] 108)).alloc (.cells #[] 108)) := by
  refine ⟨?_, (((Below.refl _ _).alloc (Nat.le_refl _) _).alloc (by simp) _).alloc (by rw [World.size_alloc, World.size_alloc]; omega) _, ?_, ?_, by rw [World.size_alloc, World.size_alloc, World.size_alloc]; omega⟩
  · have := Own.lit ((w.alloc (.cells #[.slice A N c, .int .i64 left] 46)).alloc (.cells #[.string s, .string d, .int .i64 u] 108)) #[] 108 3 0 (w.heap.size + 2) (by simp) (by decide) rfl
    simpa [rfsV] using this
  · exact (Below.heap_alloc _ _ _ (by simp; omega)).trans ((Below.heap_alloc _ _ _ (by simp)).trans (heap_alloc_new w _))
  · have := heap_alloc_new (w.alloc (.cells #[.slice A N c, .int .i64 left] 46)) (.cells #[.string s, .string d, .int .i64 u] 108)
    rw [World.size_alloc] at this
    exact (Below.heap_alloc _ _ _ (by simp)).trans this
theorem WInv.alloc {w : World} {A : Option Addr} {N c : Nat} {left : Int} {s d : ByteArray} {u : Int} {A' : Option Addr} {c' : Nat} {L : Tab FileE} {wr : World} (h : WInv w A N c left s d u A' c' L wr) (O : Obj) : WInv w A N c left s d u A' c' L (wr.alloc O) :=
  ⟨h.own.alloc _, h.below.alloc h.below.size _, (Below.heap_alloc _ _ _ (by have := h.size; omega)).trans h.box0, (Below.heap_alloc _ _ _ (by have := h.size; omega)).trans h.box1, by rw [World.size_alloc]; exact Nat.le_succ_of_le h.size⟩
theorem WInv.grown {w : World} {A : Option Addr} {N c : Nat} {left : Int} {s d : ByteArray} {u : Int} {A' A3 : Option Addr} {c' c3 : Nat} {L : Tab FileE} {x : List UInt8 × FileE} {wr w3 : World} (h : WInv w A N c left s d u A' c' L wr)
    (ho : Own w3 (w.heap.size + 2) 108 3 A3 (L.length + 1) c3 (rfsV L ++ rfV x)) (hg : wr.grownBy w3 (blockOf A')) : WInv w A N c left s d u A3 c3 (L ++ [x]) w3 := by
  refine ⟨?_, h.below.grown hg h.below.size (fun g e => by have := (h.own.block g e).1; omega), (hg.block _ (by have := h.size; omega) (fun e => by have := (h.own.block _ e.symm).1; omega)).trans h.box0, (hg.block _ (by have := h.size; omega) (fun e => by have := (h.own.block _ e.symm).1; omega)).trans h.box1, Nat.le_trans h.size hg.size⟩
  rw [List.length_append, ← rfsV_snoc]
  exact ho
theorem lowM_step {M : Tab FileE} {k : Nat} {x : List UInt8 × FileE} (h : M[k]? = some x) (s : List UInt8) : lowM (M.take (k + 1)) s = if bytesBefore x.1 s = true then lowM (M.take k) s ++ [x] else lowM (M.take k) s := by
  obtain ⟨hkl, hxe⟩ := List.getElem?_eq_some_iff.1 h
  unfold lowM
  rw [List.take_succ_eq_append_getElem hkl, hxe, List.filter_append]
  by_cases he : bytesBefore x.1 s = true <;> simp [he]
theorem highM_step {M : Tab FileE} {k : Nat} {x : List UInt8 × FileE} (h : M[k]? = some x) (s : List UInt8) : highM (M.take (k + 1)) s = if bytesBefore s x.1 = true then highM (M.take k) s ++ [x] else highM (M.take k) s := by
  obtain ⟨hkl, hxe⟩ := List.getElem?_eq_some_iff.1 h
  unfold highM
  rw [List.take_succ_eq_append_getElem hkl, hxe, List.filter_append]
  by_cases he : bytesBefore s x.1 = true <;> simp [he]
set_option maxRecDepth 100000 in
set_option maxHeartbeats 2000000 in
theorem with07m_any (w : World) (A : Option Addr) (c : Nat) (M : Tab FileE) (left : Int) (hr : Rd w 3 A M.length (rfsV M)) (hl : M.length ≤ 1000000000) (hri : Rises M) (s d : ByteArray) (n : Nat) :
    Calls Try.prog 88 #[.agg #[.slice A M.length c, .int .i64 left], .agg #[.string s, .string d, .int .i64 n]] w fun e w' => ∃ A' c', e = .returned (.slice A' (putM M s.data.toList (d.data.toList, n)).length c') ∧ Own w' w.heap.size 108 3 A' (putM M s.data.toList (d.data.toList, n)).length c' (rfsV (putM M s.data.toList (d.data.toList, n))) ∧ Below w.heap.size w w' := by
  rw [putM_split hri]
  obtain ⟨N, hN⟩ : ∃ N, N = M.length := ⟨_, rfl⟩
  obtain ⟨u, hu⟩ : ∃ u : Int, u = n := ⟨_, rfl⟩
  have HR := hid2 hr
  rw [← hN] at hl ⊢
  rw [← hu]
  have HN := hid2 hN
  have HU := hid2 hu
  have HW := hid2 (WInv.start w A N c left s d u)
  clear hr hN hri hu
  go_enter Try.func88, Try.ntmps88
  go_wp2_with fail
  go_loopg [5, 14] N (fun gk v i wr => ∃ (k m : Nat) (A' : Option Addr) (c' : Nat), k + gk = N ∧ i = .int .i64 k ∧ m = (lowM (M.take k) s.data.toList).length ∧ v = .slice A' m c' ∧ WInv w A N c left s d u A' c' (lowM (M.take k) s.data.toList) wr)
  case atStart => exact ⟨0, 0, _, _, by omega, rfl, rfl, rfl, HW.out⟩
  case round =>
    obtain ⟨k, m, A', c', hk, rfl, hm, rfl, hinv⟩ := hrel
    have hsz := hinv.size
    by_cases hlt : k < N
    · have hlt' : (k : Int) < N := by omega
      obtain ⟨x, hx⟩ : ∃ x, M[k]? = some x := ⟨_, List.getElem?_eq_getElem (by rw [← HN.out]; exact hlt)⟩
      obtain ⟨b, o, rfl, c0, c1, c2⟩ := rf_cells (HR.out.below_all hinv.below) hx
      have f0 : wr.cell? ⟨w.heap.size + 1, 0, none⟩ = some (.string s) := (cell_of_row wr _ 0 _ _ _ hinv.box1).trans rfl
      have hstep := lowM_step hx s.data.toList
      obtain ⟨S, hS⟩ : ∃ S, S = strB x.1 := ⟨_, rfl⟩
      obtain ⟨T, hT⟩ : ∃ T, T = strB x.2.1 := ⟨_, rfl⟩
      obtain ⟨U, hU⟩ : ∃ U : Int, U = x.2.2 := ⟨_, rfl⟩
      rw [← hS] at c0
      rw [← hT] at c1
      rw [← hU] at c2
      have hless : Op.bytesLess S.toList s.toList = bytesBefore x.1 s.data.toList := by
        rw [ByteArray.toList_eq, ByteArray.toList_eq, hS, strB_list, less_before]
      have hcells : [Value.string S, Value.string T, Value.int .i64 U] = rfV x := by rw [rfV, ← hS, ← hT, ← hU]
      have HX := hid2 hcells
      have hmk : m ≤ k := by
        rw [hm]
        exact Nat.le_trans (List.length_filter_le _ _) (by rw [List.length_take]; omega)
      have HM := hid2 hm
      have f1 := f0
      rw [← World.cell?_alloc_lt wr (.cells #[.string S, .string T, .int .i64 U] 108) ⟨w.heap.size + 1, 0, none⟩ (by show w.heap.size + 1 < _; omega)] at f1
      by_cases hbb : bytesBefore x.1 s.data.toList = true
      · rw [if_pos hbb] at hstep
        rw [hbb] at hless
        have HST := hid2 hstep
        have hi2 := (hinv.alloc (.cells #[.string S, .string T, .int .i64 U] 108)).alloc (.cells #[.string S, .string T, .int .i64 U] 108)
        have hown2 := hi2.own
        rw [← hm] at hown2
        have HI2 := hid2 hi2
        obtain ⟨V, hV⟩ : ∃ V, V = rfsV (lowM (M.take k) s.data.toList) := ⟨_, rfl⟩
        rw [← hV] at hown2
        have HV := hid2 hV
        have hrd0 := Rd.of_lit (wr.alloc (.cells #[.string S, .string T, .int .i64 U] 108)) #[.string S, .string T, .int .i64 U] 108 3 1 (by decide) rfl
        have hrd : Rd ((wr.alloc (.cells #[.string S, .string T, .int .i64 U] 108)).alloc (.cells #[.string S, .string T, .int .i64 U] 108)) 3 (some ⟨wr.heap.size + 1, 0, none⟩) 1 [.string S, .string T, .int .i64 U] := by simpa using hrd0
        have hone : ∀ v ∈ [Value.string S, Value.string T, Value.int .i64 U], v.oneCell' = true := by simp [Value.oneCell']
        clear hinv hstep hx hS hT hU hi2 hV hrd0 hm hcells hbb
        go_wp2_with (at_builtin; have _t := hown2; go_must ((with_reducible refine wpList_append_lit 108 (.agg #[.string ⟨#[]⟩, .string ⟨#[]⟩, .int .i64 0]) 3 40 Try.underlying44 info_rfile rfl (w.heap.size + 2) A' m c' V hown2 1 _ (.slice (some ⟨wr.heap.size + 1, 0, none⟩) 1 1) (Src.slice Try.underlying44 hrd) hone ?_ ?_ ?_ ?_ ?_); (unfold maxLen; omega); omega; (simp; omega); exact ⟨rfl, rfl⟩; intro A3 c3 w3 hown3 hgr3 hbl3; clear hown2))
        go_roundg (gk - 1)
        case rel => exact ⟨k + 1, m + 1, A3, c3, by omega, by go_num, by rw [HST.out, List.length_append, ← HM.out]; rfl, rfl, by rw [HST.out]; exact HI2.out.grown (by rw [← HM.out, ← HV.out, ← HX.out]; exact hown3) hgr3⟩
        case measure => omega
      · rw [if_neg hbb] at hstep
        rw [Bool.not_eq_true] at hbb
        rw [hbb] at hless
        have HST := hid2 hstep
        have HI2 := hid2 (hinv.alloc (.cells #[.string S, .string T, .int .i64 U] 108))
        clear hinv hstep hx hS hT hU hm hcells hbb
        go_wp2_with fail
        go_roundg (gk - 1)
        case rel => exact ⟨k + 1, m, A', c', by omega, by go_num, by rw [HST.out]; exact HM.out, rfl, by rw [HST.out]; exact HI2.out⟩
        case measure => omega
    · have hkN : k = N := by omega
      have hlt' : ¬ (k : Int) < N := by omega
      rw [hkN, HN.out, List.take_of_length_le (Nat.le_refl _)] at hm hinv
      have hmk : m ≤ 1000000000 := by
        rw [hm]
        exact Nat.le_trans (List.length_filter_le _ _) (by rw [← HN.out]; exact hl)
      have b0 : wr.cell? ⟨w.heap.size + 1, 0, none⟩ = some (.string s) := (cell_of_row wr _ 0 _ _ _ hinv.box1).trans rfl
      have b1 : wr.cell? ⟨w.heap.size + 1, 1, none⟩ = some (.string d) := (cell_of_row wr _ 1 _ _ _ hinv.box1).trans rfl
      have b2 : wr.cell? ⟨w.heap.size + 1, 2, none⟩ = some (.int .i64 u) := (cell_of_row wr _ 2 _ _ _ hinv.box1).trans rfl
      have hi2 := hinv.alloc (.cells #[.string s, .string d, .int .i64 u] 108)
      have hown2 := hi2.own
      rw [← HN.out] at hi2
      rw [← hm] at hown2
      obtain ⟨V, hV⟩ : ∃ V, V = rfsV (lowM M s.data.toList) := ⟨_, rfl⟩
      rw [← hV] at hown2
      obtain ⟨L0, hL0⟩ : ∃ L0, L0 = lowM M s.data.toList := ⟨_, rfl⟩
      rw [← hL0] at hm hV hi2
      have HM := hid2 hm
      have HV := hid2 hV
      have HL0 := hid2 hL0
      have HI2 := hid2 hi2
      have hrd := Rd.of_lit wr #[.string s, .string d, .int .i64 u] 108 3 1 (by decide) rfl
      have hone : ∀ v ∈ [Value.string s, Value.string d, Value.int .i64 u], v.oneCell' = true := by simp [Value.oneCell']
      have hnew : [Value.string s, Value.string d, Value.int .i64 u] = rfV (s.data.toList, (d.data.toList, n)) := by
        rw [rfV, strB_of, strB_of, HU.out]
      have HNEW := hid2 hnew
      clear hinv hi2 hV hL0 hm hnew hkN hlt
      go_wp2_with (at_builtin; have _t := hown2; go_must ((with_reducible refine wpList_append_lit 108 (.agg #[.string ⟨#[]⟩, .string ⟨#[]⟩, .int .i64 0]) 3 40 Try.underlying44 info_rfile rfl (w.heap.size + 2) A' m c' V hown2 1 _ (.slice (some ⟨wr.heap.size, 0, none⟩) 1 1) (Src.slice Try.underlying44 hrd) hone ?_ ?_ ?_ ?_ ?_); (unfold maxLen; omega); omega; (simp; omega); exact ⟨rfl, rfl⟩; intro A3 c3 w3 hown3 hgr3 hbl3; have hi3 := HI2.out.grown (x := (s.data.toList, (d.data.toList, n))) (by rw [← HM.out, ← HV.out, ← HNEW.out]; exact hown3) hgr3; have k00 : w3.cell? ⟨w.heap.size, 0, none⟩ = some (.slice A N c) := (cell_of_row w3 _ 0 _ _ _ hi3.box0).trans rfl; have HI3 := hid2 hi3; clear hown2 hi3 hown3 hgr3 hbl3))
      obtain ⟨L1, hL1⟩ : ∃ L1, L1 = L0 ++ [(s.data.toList, (d.data.toList, n))] := ⟨_, rfl⟩
      have hi3 := HI3.out
      rw [← hL1] at hi3
      have hm1 : m + 1 = L1.length := by rw [hL1, List.length_append, ← HM.out]; rfl
      have HI4 := hid2 hi3
      have HL1 := hid2 hL1
      have HM1 := hid2 hm1
      obtain ⟨m1, hm1'⟩ : ∃ m1, m1 = m + 1 := ⟨_, rfl⟩
      have hm1b : m1 ≤ 1000000001 := by omega
      have HM2 := hid2 (show m1 = L1.length by rw [hm1']; exact hm1)
      clear hi3 HI3 hL1 hm1 HI2 HNEW HV HW b0 b1 b2 hrd hone _t hsz
      go_loopg [5, 35] N (fun gk v i wr => ∃ (k m : Nat) (A' : Option Addr) (c' : Nat), k + gk = N ∧ i = .int .i64 k ∧ m = (L1 ++ highM (M.take k) s.data.toList).length ∧ v = .slice A' m c' ∧ WInv w A N c left s d u A' c' (L1 ++ highM (M.take k) s.data.toList) wr)
      case atStart => exact ⟨0, m + 1, A3, c3, by omega, rfl, by simpa [highM] using HM1.out, rfl, by simpa [highM] using HI4.out⟩
      case round =>
        obtain ⟨k, m, A', c', hk, rfl, hm, rfl, hinv⟩ := hrel
        have hsz := hinv.size
        by_cases hlt : k < N
        · have hlt' : (k : Int) < N := by omega
          obtain ⟨x, hx⟩ : ∃ x, M[k]? = some x := ⟨_, List.getElem?_eq_getElem (by rw [← HN.out]; exact hlt)⟩
          obtain ⟨b, o, rfl, c0, c1, c2⟩ := rf_cells (HR.out.below_all hinv.below) hx
          have f0 : wr.cell? ⟨w.heap.size + 1, 0, none⟩ = some (.string s) := (cell_of_row wr _ 0 _ _ _ hinv.box1).trans rfl
          have hstep := highM_step hx s.data.toList
          obtain ⟨S, hS⟩ : ∃ S, S = strB x.1 := ⟨_, rfl⟩
          obtain ⟨T, hT⟩ : ∃ T, T = strB x.2.1 := ⟨_, rfl⟩
          obtain ⟨U, hU⟩ : ∃ U : Int, U = x.2.2 := ⟨_, rfl⟩
          rw [← hS] at c0
          rw [← hT] at c1
          rw [← hU] at c2
          have hSx : S.toList = x.1 := by rw [ByteArray.toList_eq, hS, strB_list]
          have hsx : s.toList = s.data.toList := by rw [ByteArray.toList_eq]
          have hcells : [Value.string S, Value.string T, Value.int .i64 U] = rfV x := by rw [rfV, ← hS, ← hT, ← hU]
          have HX := hid2 hcells
          have hmk : m ≤ 2000000001 := by
            rw [hm, List.length_append, ← HM2.out]
            have : (highM (M.take k) s.data.toList).length ≤ k := Nat.le_trans (List.length_filter_le _ _) (by rw [List.length_take]; omega)
            omega
          have HM := hid2 hm
          have f1 := f0
          rw [← World.cell?_alloc_lt wr (.cells #[.string S, .string T, .int .i64 U] 108) ⟨w.heap.size + 1, 0, none⟩ (by show w.heap.size + 1 < _; omega)] at f1
          by_cases hbb : bytesBefore s.data.toList x.1 = true
          · rw [if_pos hbb] at hstep
            rw [bytesBefore_lt] at hbb
            have h1 : Op.bytesLess S.toList s.toList = false := by
              rw [less_before, hSx, hsx, Bool.eq_false_iff, Ne, bytesBefore_lt]
              exact fun h => List.lt_irrefl _ (List.lt_trans hbb h)
            have h2 : (S.toList == s.toList) = false := by
              rw [hSx, hsx, beq_eq_false_iff_ne]
              exact fun h => List.lt_irrefl _ (by rw [h] at hbb; exact hbb)
            have HST := hid2 hstep
            have hi2 := (hinv.alloc (.cells #[.string S, .string T, .int .i64 U] 108)).alloc (.cells #[.string S, .string T, .int .i64 U] 108)
            have hown2 := hi2.own
            rw [← hm] at hown2
            have HI2 := hid2 hi2
            obtain ⟨V, hV⟩ : ∃ V, V = rfsV (L1 ++ highM (M.take k) s.data.toList) := ⟨_, rfl⟩
            rw [← hV] at hown2
            have HV := hid2 hV
            have hrd0 := Rd.of_lit (wr.alloc (.cells #[.string S, .string T, .int .i64 U] 108)) #[.string S, .string T, .int .i64 U] 108 3 1 (by decide) rfl
            have hrd : Rd ((wr.alloc (.cells #[.string S, .string T, .int .i64 U] 108)).alloc (.cells #[.string S, .string T, .int .i64 U] 108)) 3 (some ⟨wr.heap.size + 1, 0, none⟩) 1 [.string S, .string T, .int .i64 U] := by simpa using hrd0
            have hone : ∀ v ∈ [Value.string S, Value.string T, Value.int .i64 U], v.oneCell' = true := by simp [Value.oneCell']
            clear hinv hstep hx hS hT hU hi2 hV hrd0 hm hcells hbb hSx hsx
            go_wp2_with (at_builtin; have _t := hown2; go_must ((with_reducible refine wpList_append_lit 108 (.agg #[.string ⟨#[]⟩, .string ⟨#[]⟩, .int .i64 0]) 3 40 Try.underlying44 info_rfile rfl (w.heap.size + 2) A' m c' V hown2 1 _ (.slice (some ⟨wr.heap.size + 1, 0, none⟩) 1 1) (Src.slice Try.underlying44 hrd) hone ?_ ?_ ?_ ?_ ?_); (unfold maxLen; omega); omega; (simp; omega); exact ⟨rfl, rfl⟩; intro A3 c3 w3 hown3 hgr3 hbl3; clear hown2))
            go_roundg (gk - 1)
            case rel => exact ⟨k + 1, m + 1, A3, c3, by omega, by go_num, by rw [HST.out, ← List.append_assoc, List.length_append, ← HM.out]; rfl, rfl, by rw [HST.out, ← List.append_assoc]; exact HI2.out.grown (by rw [← HM.out, ← HV.out, ← HX.out]; exact hown3) hgr3⟩
            case measure => omega
          · rw [if_neg hbb] at hstep
            rw [bytesBefore_lt] at hbb
            have HST := hid2 hstep
            have HI2 := hid2 (hinv.alloc (.cells #[.string S, .string T, .int .i64 U] 108))
            have h12 : Op.bytesLess S.toList s.toList = true ∨ Op.bytesLess S.toList s.toList = false ∧ S.toList = s.toList := by
              rw [less_before, hSx, hsx]
              by_cases h : bytesBefore x.1 s.data.toList = true
              · exact .inl h
              · refine .inr ⟨by simpa using h, ?_⟩
                rw [bytesBefore_lt] at h
                exact List.le_antisymm (List.not_lt.1 hbb) (List.not_lt.1 h)
            clear hinv hstep hx hS hT hU hm hcells hbb hSx hsx
            rcases h12 with h1 | ⟨h1, h2⟩
            · go_wp2_with fail
              go_roundg (gk - 1)
              case rel => exact ⟨k + 1, m, A', c', by omega, by go_num, by rw [HST.out]; exact HM.out, rfl, by rw [HST.out]; exact HI2.out⟩
              case measure => omega
            · go_wp2_with fail
              go_roundg (gk - 1)
              case rel => exact ⟨k + 1, m, A', c', by omega, by go_num, by rw [HST.out]; exact HM.out, rfl, by rw [HST.out]; exact HI2.out⟩
              case measure => omega
        · have hkN : k = N := by omega
          have hlt' : ¬ (k : Int) < N := by omega
          rw [hkN, HN.out, List.take_of_length_le (Nat.le_refl _)] at hm hinv
          rw [HL1.out, HL0.out] at hm hinv
          have HMM := hid2 hm
          have HII := hid2 hinv
          clear hm hinv hkN hlt
          go_wp2_with fail
          go_ret
          have e1 := HMM.out
          have e2 : lowM M s.data.toList ++ [(s.data.toList, (d.data.toList, n))] ++ highM M s.data.toList = lowM M s.data.toList ++ (s.data.toList, (d.data.toList, n)) :: highM M s.data.toList := by simp
          rw [e2] at e1
          have ho := HII.out.own.mono (show w.heap.size ≤ w.heap.size + 2 by omega)
          rw [e2, ← e1] at ho
          rw [List.length_append, List.length_cons] at e1
          try rw [← e1]
          exact ⟨A', c', rfl, ho, HII.out.below⟩
end Go.Proofs.Ytbighckpogfcaaa
