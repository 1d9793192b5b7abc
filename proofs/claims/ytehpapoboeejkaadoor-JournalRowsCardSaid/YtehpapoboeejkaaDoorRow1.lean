/- pack.Texts at a row's own bytes: the texts that it was made of. -/
import Derived.Test.YtehpapoboeejkaaDoorRowP
import Derived.Test.YtehpapoboeejkaaDoorBox
import Derived.Test.YtehpapoboeejkaaDoorStr
namespace Go.Proofs.YtehpapoboeejkaaDoor
open Go.RowKit Go.Lib
set_option maxRecDepth 100000
theorem run_index_row (s : ByteArray) (i : Nat) (x : Int) (hx : x = i) (h : i < s.size) (w : World) : (Instr.index 9 (.string s) (.int .i64 x)).run Tryd.prog w = .ok (.int .u8 (s.data.toList.getD i 0).toNat) w := by
  subst hx
  rw [run_index_string w 9 s .i64 i Tryd.underlying9, dif_pos ⟨by omega, by omega⟩]
  have e : s[(i : Int).toNat]'(by omega) = s.data.toList.getD i 0 := by
    rw [List.getD_eq_getElem?_getD, List.getElem?_eq_getElem (by rw [toList_length]; exact h)]
    simp [ByteArray.getElem_eq_getElem_data]
  rw [e]
theorem row_index_at (s : ByteArray) (i : Nat) (c : UInt8) (h : s.data.toList[i]? = some c) (w : World) : (Instr.index 9 (.string s) (.int .i64 i)).run Tryd.prog w = .ok (.int .u8 c.toNat) w := by
  have hi : i < s.size := by
    have := (List.getElem?_eq_some_iff.1 h).1
    rwa [Array.length_toList] at this
  have := run_index_row s i i rfl hi w
  rw [List.getD_eq_getElem?_getD, h] at this
  exact this
theorem results_tmp3R {fn : Func} {t u v : Tmp} (h : fn.results = #[.tmp t, .tmp u, .tmp v]) (tmps : Array Value) (P : Program) (w : World) :
    (results fn tmps).run P w = .ok (.tuple #[tmps.getD t undef, tmps.getD u undef, tmps.getD v undef]) w := by
  simp [results, h]
set_option maxHeartbeats 2000000 in
theorem phead_any (w : World) (k : Nat) (t : List UInt8) (hk : k ≤ 1000000) (ht : t.length ≤ 100000000) :
    Calls Tryd.prog 29 #[.string (strB (decDigits k ++ 58 :: t))] w fun e w' => e = .returned (.tuple #[.int .i64 k, .string (strB t), .int .i64 0]) ∧ Below w.heap.size w w' := by
  obtain ⟨D, hD⟩ : ∃ D, D = decDigits k := ⟨_, rfl⟩
  rw [← hD]
  obtain ⟨n, hn⟩ : ∃ n, n = D.length := ⟨_, rfl⟩
  have hn0 : 0 < n := by rw [hn, hD]; exact dec_pos k
  have hn7 : n ≤ 7 := by rw [hn, hD]; exact dec_len 6 k (by omega)
  obtain ⟨S, hS⟩ : ∃ S, S = strB (D ++ 58 :: t) := ⟨_, rfl⟩
  have hSs : S.size = n + 1 + t.length := by rw [hS, strB_size, List.length_append, List.length_cons, hn]; omega
  have hSl : S.data.toList = D ++ 58 :: t := by rw [hS, strB_list]
  have hdig : ∀ (i : Nat) (d : UInt8), D[i]? = some d → 48 ≤ d.toNat ∧ d.toNat ≤ 57 := fun i d h => dec_digit k d (by rw [← hD]; exact List.mem_of_getElem? h)
  have hlead : ∀ i, 0 < i → i < n → valL (D.take i) ≠ 0 := fun i h0 hi => by rw [hD]; exact dec_lead k i h0 (by rw [← hD, ← hn]; exact hi)
  have hle : ∀ i, valL (D.take i) < 10 ^ i := valL_le fun d hd => (dec_digit k d (by rw [← hD]; exact hd)).2
  have hval : valL (D.take n) = k := by rw [hn, List.take_length, hD, val_dec]
  have hat : ∀ (i : Nat) (d : UInt8), D[i]? = some d → ∀ wx, (Instr.index 9 (.string S) (.int .i64 i)).run Tryd.prog wx = .ok (.int .u8 d.toNat) wx := fun i d h wx => row_index_at S i d (by
    rw [hSl, List.getElem?_append_left (List.getElem?_eq_some_iff.1 h).1]; exact h) wx
  have hcol : ∀ wx, (Instr.index 9 (.string S) (.int .i64 n)).run Tryd.prog wx = .ok (.int .u8 58) wx := fun wx => row_index_at S n 58 (by
    rw [hSl, hn, List.getElem?_append_right (Nat.le_refl _), Nat.sub_self]; rfl) wx
  have hext : S.extract (n + 1) S.size = strB t := bytes_ext (by
    rw [extract_list, hSl, strB_list, hSs, hn, show D ++ 58 :: t = (D ++ [58]) ++ t by simp, List.drop_left' (by simp)]
    exact List.take_of_length_le (by omega))
  have HD := hid2 (And.intro hn hdig)
  have HLEAD := hid2 hlead
  have HLE := hid2 hle
  have HVAL := hid2 hval
  have HAT := hid2 hat
  have HCOL := hid2 hcol
  have HEXT := hid2 hext
  rw [← hS]
  have hSs2 : S.size ≤ 100000010 := by omega
  have hSn : n < S.size := by omega
  clear hS hSl hdig hlead hle hval hat hcol hext hD hn hSs ht
  go_enter Tryd.func29, Tryd.ntmps29
  go_wp2_with fail
  go_loopg [5, 10] n (fun gk nv iv wr => ∃ i : Nat, i + gk = n ∧ iv = .int .i64 i ∧ nv = .int .i64 (valL (D.take i)) ∧ Below w.heap.size w wr)
  case atStart => exact ⟨0, by omega, rfl, by simp [valL], Below.refl _ _⟩
  case round =>
    obtain ⟨i, hi, rfl, rfl, hbe⟩ := hrel
    have hiS : (i : Int) < S.size := by omega
    have hi0 : (0 : Int) ≤ i := by omega
    have hlt := HLE.out i
    have hp7 : (10 : Nat) ^ i ≤ 10000000 := Nat.le_trans (Nat.pow_le_pow_right (by decide) (show i ≤ 7 by omega)) (by decide)
    obtain ⟨V, hV⟩ : ∃ V, V = valL (D.take i) := ⟨_, rfl⟩
    rw [← hV] at hlt ⊢
    have hV7 : V < 10000000 := by omega
    by_cases hin : i < n
    · obtain ⟨d, hd⟩ : ∃ d, D[i]? = some d := ⟨_, List.getElem?_eq_getElem (by rw [← HD.out.1]; exact hin)⟩
      obtain ⟨d1, d2⟩ := HD.out.2 i d hd
      have hix := HAT.out i d hd
      have hnext := valL_take hd
      rw [← hV] at hnext
      obtain ⟨x, hx⟩ : ∃ x, x = d.toNat := ⟨_, rfl⟩
      rw [← hx] at d1 d2 hix hnext
      have hz : 0 < i → V ≠ 0 := fun h0 => by rw [hV]; exact HLEAD.out i h0 hin
      have n58 : ((x : Int) == 58) = false := by rw [beq_eq_false_iff_ne]; omega
      have n58' : (x : Int) ≠ 58 := by omega
      have g1 : ¬ (x : Int) < 48 := by omega
      have g2 : ¬ (57 : Int) < x := by omega
      have g3 : ((i : Int) == 9) = false := by rw [beq_eq_false_iff_ne]; omega
      have g4 : (i : Int) ≠ 9 := by omega
      have w0 : IntKind.u8.wrap ((x : Int) - 48) = (x : Int) - 48 := by unfold IntKind.wrap; simp [IntKind.bits, IntKind.signed]; omega
      have w1 : IntKind.i64.wrap ((x : Int) - 48) = (x : Int) - 48 := IntWalk.i64_in _ (by constructor <;> omega)
      have w2 : IntKind.i64.wrap (10 * (V : Int)) = 10 * (V : Int) := IntWalk.i64_in _ (by constructor <;> omega)
      have w3 : IntKind.i64.wrap (10 * (V : Int) + ((x : Int) - 48)) = 10 * (V : Int) + ((x : Int) - 48) := IntWalk.i64_in _ (by constructor <;> omega)
      have w4 : IntKind.i64.wrap ((i : Int) + 1) = (i : Int) + 1 := IntWalk.i64_in _ (by constructor <;> omega)
      have HN := hid2 hnext
      have HBE := hid2 hbe
      clear hV hx hd hnext hlt hp7 hbe
      by_cases h0 : 0 < i
      · have h0i : (0 : Int) < i := by omega
        have hV0 := hz h0
        have hV0' : ((V : Int) == 0) = false := by rw [beq_eq_false_iff_ne]; omega
        have hV0i : (V : Int) ≠ 0 := by omega
        clear hz
        go_wp2_with fail
        go_roundg (gk - 1)
        case rel => exact ⟨i + 1, by omega, by go_num, by rw [HN.out]; congr 1; omega, HBE.out⟩
        case measure => omega
      · have h0i : ¬ (0 : Int) < i := by omega
        clear hz h0
        go_wp2_with fail
        go_roundg (gk - 1)
        case rel => exact ⟨i + 1, by omega, by go_num, by rw [HN.out]; congr 1; omega, HBE.out⟩
        case measure => omega
    · obtain rfl : i = n := by omega
      have hVk : V = k := by rw [hV]; exact HVAL.out
      have hix := HCOL.out
      have hi00 : (0 : Int) < i := by omega
      have w4 : IntKind.i64.wrap ((i : Int) + 1) = (i : Int) + 1 := IntWalk.i64_in _ (by constructor <;> omega)
      have HE := HEXT.out
      have HBE := hid2 hbe
      subst hVk
      clear hV hlt hp7 hbe
      go_wp2_with fail
      go_region
      go_wp2_with fail
      ((try simp only [Exit.inBlock, Exit.then]); refine bodyPost_ret (results_tmp3R rfl _ _ _) rfl ?_)
      exact ⟨by rw [← HE]; rfl, below_drewN HBE.out _⟩
theorem strV_getR {l : List (List UInt8)} {k : Nat} {x : List UInt8} (h : l[k]? = some x) : (strV l)[k]? = some (.string (strB x)) := by rw [strV, List.getElem?_map, h]; rfl
theorem rd_oneR (w : World) (X : ByteArray) (t : TypeId) : Rd (w.alloc (.cells #[.string X] t)) 1 (some ⟨w.heap.size, 0, none⟩) 1 [.string X] := Rd.of_lit w #[.string X] t 1 1 (by decide) rfl
set_option maxHeartbeats 2000000 in
theorem texts_any (w : World) (l : List (List UInt8)) (hs : ∀ x ∈ l, x.length ≤ 1000000) (hl : l.length ≤ 1000000) (hz : (rowL l).length ≤ 10000000) :
    Calls Tryd.prog 11 #[.string (strB (rowL l))] w fun e w' => ∃ A c, e = .returned (.tuple #[.slice A l.length c, .int .i64 0]) ∧ Own w' w.heap.size 9 1 A l.length c (strV l) ∧ Below w.heap.size w w' := by
  have hsz : ∀ j, (rowL (l.drop j)).length ≤ 10000000 := fun j => by
    have h1 := rowL_app (l.take j) (l.drop j)
    rw [List.take_append_drop] at h1
    rw [h1, List.length_append] at hz
    omega
  obtain ⟨n, hn⟩ : ∃ n, n = l.length := ⟨_, rfl⟩
  have h0 : rowL l = rowL (l.drop 0) := by rw [List.drop_zero]
  have hall : rowL (l.drop n) = [] := by rw [hn, List.drop_length]; rfl
  have htk : strV (l.take n) = strV l := by rw [hn, List.take_length]
  rw [← hn] at hl ⊢
  rw [h0]
  have HN := hid2 hn
  have HS := hid2 hs
  have HSZ := hid2 hsz
  have HALL := hid2 hall
  have HTK := hid2 htk
  clear hn hs hsz hall htk h0 hz
  obtain ⟨B0, hB0⟩ : ∃ B, B = strB (rowL (l.drop 0)) := ⟨_, rfl⟩
  rw [← hB0]
  have HB0 := hid2 hB0
  clear hB0
  go_enter Tryd.func11, Tryd.ntmps11
  go_wp2_with fail
  go_loopg [0, 4] n (fun gk bv ov wr => ∃ (j : Nat) (A1 : Option Addr) (c1 : Nat), j + gk = n ∧ bv = .string (strB (rowL (l.drop j))) ∧ ov = .slice A1 j c1 ∧ Own wr w.heap.size 9 1 A1 j c1 (strV (l.take j)) ∧ Below w.heap.size w wr)
  case atStart => exact ⟨0, none, 0, by omega, by rw [HB0.out], rfl, Own.nil _ _ _ _, Below.refl _ _⟩
  case round =>
    obtain ⟨j, A1, c1, hj, rfl, rfl, hown, hbe⟩ := hrel
    by_cases hjn : j < n
    · obtain ⟨x, hx⟩ : ∃ x, l[j]? = some x := ⟨_, List.getElem?_eq_getElem (by rw [← HN.out]; exact hjn)⟩
      have hxl := HS.out x (List.mem_of_getElem? hx)
      have hrow := rowL_drop hx
      have hz1 := HSZ.out j
      have hz2 := HSZ.out (j + 1)
      have hts : l.take (j + 1) = l.take j ++ [x] := by rw [List.take_add_one, hx]; rfl
      have hhead := phead_any wr x.length (x ++ rowL (l.drop (j + 1))) hxl (by rw [List.length_append]; omega)
      rw [← hrow] at hhead
      have hne : ((strB (rowL (l.drop j))).toList == (⟨#[]⟩ : ByteArray).toList) = false := by
        rw [ByteArray.toList_eq, ByteArray.toList_eq, strB_list, hrow]
        simp
      have hne3 : (strB (rowL (l.drop j))).toList.isEmpty = false := by
        rw [ByteArray.toList_eq, strB_list, hrow]
        simp
      have hne2 : ¬ (strB (rowL (l.drop j))).toList = [] := by
        rw [ByteArray.toList_eq, strB_list, hrow]
        simp
      obtain ⟨B, hB⟩ : ∃ B, B = strB (rowL (l.drop j)) := ⟨_, rfl⟩
      rw [← hB] at hhead hne hne2 hne3 ⊢
      obtain ⟨T, hT⟩ : ∃ T, T = strB (x ++ rowL (l.drop (j + 1))) := ⟨_, rfl⟩
      rw [← hT] at hhead
      obtain ⟨k, hk⟩ : ∃ k, k = x.length := ⟨_, rfl⟩
      have hTs : T.size = k + (rowL (l.drop (j + 1))).length := by rw [hT, strB_size, List.length_append, hk]
      have he1 : T.extract 0 k = strB x := bytes_ext (by rw [extract_list, hT, strB_list, strB_list, hk]; simp)
      have he2 : T.extract k T.size = strB (rowL (l.drop (j + 1))) := bytes_ext (by
        rw [extract_list, hTs, hT, strB_list, strB_list, hk]
        simp)
      rw [← hk] at hhead hxl
      have hkT : (k : Int) ≤ T.size := by omega
      have hkT' : ¬ (T.size : Int) < k := by omega
      have hk0 : (0 : Int) ≤ k := by omega
      obtain ⟨V, hV⟩ : ∃ V, V = strV (l.take j) := ⟨_, rfl⟩
      rw [← hV] at hown
      obtain ⟨X, hX⟩ : ∃ X, X = strB x := ⟨_, rfl⟩
      rw [← hX] at he1
      have HH := hid2 hhead
      have HV := hid2 hV
      have HX := hid2 hX
      have HTS := hid2 hts
      have HE1 := hid2 he1
      have HE2 := hid2 he2
      have HBE := hid2 hbe
      have hjl : j ≤ 1000000 := by omega
      have HOWN := hid2 hown
      clear hhead hV hX hts hx hrow hz1 hz2 hB hT hk hTs he2 hbe hown
      go_wp2_with (first
        | (go_at_call 29; refine HH.out.mono ?_; rintro e w2 ⟨rfl, hc2⟩; have hb2 := HBE.out.trans (hc2.mono HBE.out.size); have hown := HOWN.out.below hc2 (Nat.le_refl _); clear hc2)
        | (at_builtin; have _t := hown; go_must ((with_reducible refine wpList_append_lit 9 (.string ⟨#[]⟩) 1 16 Tryd.underlying28 info_str rfl w.heap.size A1 j c1 V (hown.alloc _) 1 [.string X] (.slice (some ⟨w2.heap.size, 0, none⟩) 1 1) (Src.slice Tryd.underlying28 (rd_oneR w2 _ _)) one_str ?_ ?_ ?_ ?_ ?_); (unfold maxLen; omega); omega; (exact Nat.le_trans hb2.size (by simp)); exact ⟨rfl, rfl⟩; intro A3 c3 w3 hown3 hgr3 hbl3; clear hown; have hb3 : Below w.heap.size w w3 := (hb2.alloc hb2.size _).grown hgr3 (Nat.le_trans hb2.size (by simp)) (fun g e => (_t.block g e).1))))
      go_roundg (gk - 1)
      case rel => exact ⟨j + 1, A3, c3, by omega, by rw [← HE2.out], rfl, by rw [HTS.out, ← strV_snoc, ← HV.out, ← HX.out]; exact hown3, hb3⟩
      case measure => omega
    · obtain rfl : j = n := by omega
      have HBE := hid2 hbe
      have HOWN := hid2 hown
      rw [HALL.out, show strB [] = ⟨#[]⟩ from rfl]
      clear hbe hown
      go_wp2_with fail
      go_ret2
      exact ⟨A1, c1, rfl, by rw [← HTK.out]; exact HOWN.out, HBE.out⟩
end Go.Proofs.YtehpapoboeejkaaDoor
