/- The law ToolParts: its walk. -/
import Derived.Test.YtnecjdhamohadaaGreatDoorMTp3
import Derived.Test.YtnecjdhamohadaaGreatDoorMRf2
set_option linter.unusedSimpArgs false
set_option linter.unusedVariables false
namespace Go.Proofs.YtnecjdhamohadaaGreatDoor
open Go.RowKit Go.Maps Go.Shelf
set_option maxRecDepth 100000
theorem doVs_one : ∀ l : List DE, ∀ v ∈ doVs l, v.oneCell' = true := fun l v hv => by
  unfold doVs at hv
  obtain ⟨d, _, hd⟩ := List.mem_flatMap.1 hv
  simp [doC] at hd
  rcases hd with rfl | rfl | rfl | rfl <;> rfl
theorem mild_text {v : Env} {U : List KE} {text text' : TT} (h : Mild v U text) (h2 : text'.length ≤ 100000) : Mild v U text' := ⟨h.env, h2, h.small, h.len, h.data⟩
set_option maxHeartbeats 16000000 in
theorem parts_wide1 (w : World) (env : List (TT × TT)) (U : List KE) (a b : TT) (hl : Lib3 w)
    (hwe : ∀ p ∈ env, p.1.length + p.2.length ≤ 4611686018427387904) (hwk : ∀ k ∈ U, k.path.length + k.data.length ≤ 4611686018427387904)
    (EA KA : Option Addr) (ec kc : Nat) (hre : Rd w 2 EA env.length (setV env)) (hrk : Rd w 3 KA U.length (kV U)) (h1 : wideL env U a = true) :
    Calls Tryz.prog 7 #[.string (strB a), .string (strB b), .slice EA env.length ec, .slice KA U.length kc] w fun e w' => e = .returned (.bool true) ∧ Below w.heap.size w w' := by
  obtain ⟨A0, hA0⟩ : ∃ X, X = strB a := ⟨_, rfl⟩
  obtain ⟨B0, hB0⟩ : ∃ X, X = strB b := ⟨_, rfl⟩
  obtain ⟨en, hen⟩ : ∃ n, n = env.length := ⟨_, rfl⟩
  obtain ⟨un, hun⟩ : ∃ n, n = U.length := ⟨_, rfl⟩
  have CW1 := hid2 (show ∀ w2, Below w.heap.size w w2 → Calls Tryz.prog 10 #[.string A0, .slice EA en ec, .slice KA un kc] w2 fun e w' => e = .returned (.bool true) ∧ Below w2.heap.size w2 w' from fun w2 hb => by
    have := wide_any w2 EA KA ec kc env U a hwe hwk (hre.below_all hb) (hrk.below_all hb)
    rw [h1] at this
    rw [hA0, hen, hun]
    exact this)
  have CAL := hid2 (alive_any w hl)
  rw [← hA0, ← hB0, ← hen, ← hun]
  clear hl hwe hwk hre hrk hA0 hB0 hen hun
  go_enter Tryz.func7, Tryz.ntmps7
  go_upto_region 3 with (go_at_call 9; refine CAL.out.mono ?_; rintro e w1 ⟨rfl, hb⟩; have HB := hid2 hb; clear hb)
  clear CAL
  go_wp2_with (first
    | (go_at_call 10; refine (CW1.out _ HB.out).mono ?_; rintro e w1 ⟨rfl, hb⟩; have HB := hid2 (HB.out.trans (hb.mono HB.out.size)); clear hb CW1)
    | (go_at_call 10; refine (CW2.out _ HB.out).mono ?_; rintro e w1 ⟨rfl, hb⟩; have HB := hid2 (HB.out.trans (hb.mono HB.out.size)); clear hb CW2))
  refine bodyPost_ret (results_tmp rfl _ _ _) rfl ?_
  exact ⟨rfl, HB.out⟩
set_option maxHeartbeats 16000000 in
theorem parts_wide2 (w : World) (env : List (TT × TT)) (U : List KE) (a b : TT) (hl : Lib3 w)
    (hwe : ∀ p ∈ env, p.1.length + p.2.length ≤ 4611686018427387904) (hwk : ∀ k ∈ U, k.path.length + k.data.length ≤ 4611686018427387904)
    (EA KA : Option Addr) (ec kc : Nat) (hre : Rd w 2 EA env.length (setV env)) (hrk : Rd w 3 KA U.length (kV U)) (h1 : wideL env U a = false) (h2 : wideL [] [] b = true) :
    Calls Tryz.prog 7 #[.string (strB a), .string (strB b), .slice EA env.length ec, .slice KA U.length kc] w fun e w' => e = .returned (.bool true) ∧ Below w.heap.size w w' := by
  obtain ⟨A0, hA0⟩ : ∃ X, X = strB a := ⟨_, rfl⟩
  obtain ⟨B0, hB0⟩ : ∃ X, X = strB b := ⟨_, rfl⟩
  obtain ⟨en, hen⟩ : ∃ n, n = env.length := ⟨_, rfl⟩
  obtain ⟨un, hun⟩ : ∃ n, n = U.length := ⟨_, rfl⟩
  have CW1 := hid2 (show ∀ w2, Below w.heap.size w w2 → Calls Tryz.prog 10 #[.string A0, .slice EA en ec, .slice KA un kc] w2 fun e w' => e = .returned (.bool false) ∧ Below w2.heap.size w2 w' from fun w2 hb => by
    have := wide_any w2 EA KA ec kc env U a hwe hwk (hre.below_all hb) (hrk.below_all hb)
    rw [h1] at this
    rw [hA0, hen, hun]
    exact this)
  have CW2 := hid2 (show ∀ w2, Below w.heap.size w w2 → Calls Tryz.prog 10 #[.string B0, .slice none 0 0, .slice none 0 0] w2 fun e w' => e = .returned (.bool true) ∧ Below w2.heap.size w2 w' from fun w2 hb => by
    have := wide_any w2 none none 0 0 [] [] b (fun p hp => by cases hp) (fun p hp => by cases hp) (Rd.none_ _ _ _) (Rd.none_ _ _ _)
    rw [h2] at this
    rw [hB0]
    exact this)
  have CAL := hid2 (alive_any w hl)
  rw [← hA0, ← hB0, ← hen, ← hun]
  clear hl hwe hwk hre hrk hA0 hB0 hen hun
  go_enter Tryz.func7, Tryz.ntmps7
  go_upto_region 3 with (go_at_call 9; refine CAL.out.mono ?_; rintro e w1 ⟨rfl, hb⟩; have HB := hid2 hb; clear hb)
  clear CAL
  go_wp2_with (first
    | (go_at_call 10; refine (CW1.out _ HB.out).mono ?_; rintro e w1 ⟨rfl, hb⟩; have HB := hid2 (HB.out.trans (hb.mono HB.out.size)); clear hb CW1)
    | (go_at_call 10; refine (CW2.out _ HB.out).mono ?_; rintro e w1 ⟨rfl, hb⟩; have HB := hid2 (HB.out.trans (hb.mono HB.out.size)); clear hb CW2))
  refine bodyPost_ret (results_tmp rfl _ _ _) rfl ?_
  exact ⟨rfl, HB.out⟩
set_option maxHeartbeats 16000000 in
theorem parts_walk (w : World) (env : List (TT × TT)) (U : List KE) (a b : TT) (hl : Lib3 w)
    (hwe : ∀ p ∈ env, p.1.length + p.2.length ≤ 4611686018427387904) (hwk : ∀ k ∈ U, k.path.length + k.data.length ≤ 4611686018427387904)
    (EA KA : Option Addr) (ec kc : Nat) (hre : Rd w 2 EA env.length (setV env)) (hrk : Rd w 3 KA U.length (kV U)) (h1 : wideL env U a = false) (h2 : wideL [] [] b = false) :
    Calls Tryz.prog 7 #[.string (strB a), .string (strB b), .slice EA env.length ec, .slice KA U.length kc] w fun e w' => e = .returned (.bool true) ∧ Below w.heap.size w w' := by
  obtain ⟨A0, hA0⟩ : ∃ X, X = strB a := ⟨_, rfl⟩
  obtain ⟨B0, hB0⟩ : ∃ X, X = strB b := ⟨_, rfl⟩
  obtain ⟨en, hen⟩ : ∃ n, n = env.length := ⟨_, rfl⟩
  obtain ⟨un, hun⟩ : ∃ n, n = U.length := ⟨_, rfl⟩
  have CW1 := hid2 (show ∀ w2, Below w.heap.size w w2 → Calls Tryz.prog 10 #[.string A0, .slice EA en ec, .slice KA un kc] w2 fun e w' => e = .returned (.bool false) ∧ Below w2.heap.size w2 w' from fun w2 hb => by
    have := wide_any w2 EA KA ec kc env U a hwe hwk (hre.below_all hb) (hrk.below_all hb)
    rw [h1] at this
    rw [hA0, hen, hun]
    exact this)
  have CW2 := hid2 (show ∀ w2, Below w.heap.size w w2 → Calls Tryz.prog 10 #[.string B0, .slice none 0 0, .slice none 0 0] w2 fun e w' => e = .returned (.bool false) ∧ Below w2.heap.size w2 w' from fun w2 hb => by
    have := wide_any w2 none none 0 0 [] [] b (fun p hp => by cases hp) (fun p hp => by cases hp) (Rd.none_ _ _ _) (Rd.none_ _ _ _)
    rw [h2] at this
    rw [hB0]
    exact this)
  have CAL := hid2 (alive_any w hl)
  obtain ⟨f1, f2, f3, f4, f5⟩ := not_wide h1
  obtain ⟨f6, -, -, -, -⟩ := not_wide h2
  have hma : Mild ⟨mayB, env⟩ U a := mild_of f1 (by omega) f4 f2 f5
  obtain ⟨first, hfi⟩ : ∃ first, first = ((a ++ [10] ++ [119, 114, 105, 116, 101, 32, 122, 122]) ++ [10]) := ⟨_, rfl⟩
  have hfl : first.length = a.length + 10 := by rw [hfi]; simp
  have hmf : Mild ⟨mayB, env⟩ U first := mild_text hma (by omega)
  have hmb : Mild ⟨mayB, env⟩ U b := mild_text hma (by omega)
  have hmz : Mild ⟨mayB, env⟩ U (first ++ b) := mild_text hma (by rw [List.length_append]; omega)
  obtain ⟨F, hF⟩ : ∃ F, F = A0 ++ (⟨#[10, 119, 114, 105, 116, 101, 32, 122, 122, 10]⟩ : ByteArray) := ⟨_, rfl⟩
  obtain ⟨G, hG⟩ : ∃ G, G = F ++ B0 := ⟨_, rfl⟩
  have hFs : F = strB first := strB_eq (by rw [hF, string_append_toList, hA0, strB_list, hfi]; simp)
  have hGs : G = strB (first ++ b) := strB_eq (by rw [hG, string_append_toList, hFs, hB0, strB_list, strB_list])
  have hAz : A0.size ≤ 1500 := by rw [hA0, strB_size]; exact f1
  have hBz : B0.size ≤ 1500 := by rw [hB0, strB_size]; exact f6
  have hFz : F.size ≤ 1510 := by rw [hFs, strB_size]; omega
  have hadd1 : ¬ (A0.size + (⟨#[10, 119, 114, 105, 116, 101, 32, 122, 122, 10]⟩ : ByteArray).size > 9223372036854775807) := by
    have : (⟨#[10, 119, 114, 105, 116, 101, 32, 122, 122, 10]⟩ : ByteArray).size = 10 := rfl
    omega
  have hadd2 : ¬ (F.size + B0.size > 9223372036854775807) := by omega
  have hF' := hF.symm
  have hG' := hG.symm
  obtain ⟨ck, hck⟩ : ∃ ck, ck = checkT mayB (first ++ b) := ⟨_, rfl⟩
  have CCK := hid2 (show ∀ w2, Calls Tryz.prog 12 #[.string G] w2 fun e w' => e = .returned (.tuple #[.int .i64 ck.1, .int .i64 ck.2]) ∧ Below w2.heap.size w2 w' from fun w2 => by
    have := rcheck_any w2 G (by rw [hGs, strB_size, List.length_append, hfl]; omega)
    rw [hGs, strB_list, ← hck] at this
    rw [hGs]
    exact this)
  have CD := hid2 (show ∀ text, Mild ⟨mayB, env⟩ U text → ∀ w2, Below w.heap.size w w2 → Calls Tryz.prog 18 #[.string (strB text), .slice EA en ec, .slice KA un kc] w2 (DoesPost w2 ⟨mayB, env⟩ U text) from fun text hm w2 hb => by
    rw [hen, hun]
    exact does_any w2 ⟨mayB, env⟩ rfl U text hm (hl.on hb) EA KA ec kc (hre.below_all hb) (hrk.below_all hb))
  have CD1 := hid2 (show ∀ w2, Below w.heap.size w w2 → Calls Tryz.prog 18 #[.string F, .slice EA en ec, .slice KA un kc] w2 (DoesPost w2 ⟨mayB, env⟩ U first) from fun w2 hb => by rw [hFs]; exact CD.out first hmf w2 hb)
  have CD2 := hid2 (show ∀ w2, Below w.heap.size w w2 → Calls Tryz.prog 18 #[.string B0, .slice EA en ec, .slice KA un kc] w2 (DoesPost w2 ⟨mayB, env⟩ U b) from fun w2 hb => by rw [hB0]; exact CD.out b hmb w2 hb)
  have CD3 := hid2 (show ∀ w2, Below w.heap.size w w2 → Calls Tryz.prog 18 #[.string G, .slice EA en ec, .slice KA un kc] w2 (DoesPost w2 ⟨mayB, env⟩ U (first ++ b)) from fun w2 hb => by rw [hGs]; exact CD.out (first ++ b) hmz w2 hb)
  have HCK := hid2 hck
  have HFI := hid2 hfi
  have HMF := hid2 hmf
  have HMB := hid2 hmb
  have HMZ := hid2 hmz
  rw [← hA0, ← hB0, ← hen, ← hun]
  clear hl hwe hwk hre hrk hA0 hB0 hen hun h1 h2 f1 f2 f3 f4 f5 f6 hma hfi hfl hmf hmb hmz hF hG hFs hGs hAz hBz hFz hck CD
  go_enter Tryz.func7, Tryz.ntmps7
  go_upto_region 3 with (go_at_call 9; refine CAL.out.mono ?_; rintro e w1 ⟨rfl, hb⟩; have HB := hid2 hb; clear hb)
  clear CAL
  go_upto_region 5 with (first
    | (go_at_call 10; refine (CW1.out _ HB.out).mono ?_; rintro e w1 ⟨rfl, hb⟩; have HB := hid2 (HB.out.trans (hb.mono HB.out.size)); clear hb CW1)
    | (go_at_call 10; refine (CW2.out _ HB.out).mono ?_; rintro e w1 ⟨rfl, hb⟩; have HB := hid2 (HB.out.trans (hb.mono HB.out.size)); clear hb CW2))
  go_upto_region 7 with (go_at_call 12; refine (CCK.out _).mono ?_; rintro e w2 ⟨rfl, hb⟩; have HB := hid2 (HB.out.trans (hb.mono HB.out.size)); clear hb CCK)
  by_cases hok : ck.1 = 0
  · have hoki : (ck.1 : Int) = 0 := by omega
    have hokb : ((ck.1 : Int) != 0) = false := by rw [hoki]; rfl
    have HOK := hid2 hok
    clear hok
    go_upto_region 10 with (first
      | (go_at_call 18; refine (CD1.out _ HB.out).mono ?_; rintro e w3 ⟨AX, cX, X, rfl, hown, hdo, hb⟩; have HO1 := hid2 hown; have HD1 := hid2 hdo; have HZ1 := hid2 hb; have HB := hid2 (HB.out.trans (hb.mono HB.out.size)); clear hown hdo hb CD1)
      | (go_at_call 18; refine (CD2.out _ HB.out).mono ?_; rintro e w4 ⟨AY, cY, Y, rfl, hown, hdo, hb⟩; have HO2 := hid2 hown; have HD2 := hid2 hdo; have HZ2 := hid2 hb; have HB := hid2 (HB.out.trans (hb.mono HB.out.size)); clear hown hdo hb CD2)
      | (go_at_call 18; refine (CD3.out _ HB.out).mono ?_; rintro e w5 ⟨AZ, cZ, Z, rfl, hown, hdo, hb⟩; have HO3 := hid2 hown; have HD3 := hid2 hdo; have HZ3 := hid2 hb; have HB := hid2 (HB.out.trans (hb.mono HB.out.size)); clear hown hdo hb CD3))
    have hx9 : X.length ≤ 901 := HD1.out.fit HMF.out
    have hy9 : Y.length ≤ 901 := HD2.out.fit HMB.out
    have hz9 : Z.length ≤ 901 := HD3.out.fit HMZ.out
    have HFX := hid2 (doesis_fitdo HMF.out HD1.out)
    have HFY := hid2 (doesis_fitdo HMB.out HD2.out)
    have HFZ := hid2 (doesis_fitdo HMZ.out HD3.out)
    have hrx : Rd w5 4 AX X.length (doVs X) := ((HO1.out.rd).below_all HZ2.out).below_all HZ3.out
    have hry : Rd w5 4 AY Y.length (doVs Y) := (HO2.out.rd).below_all HZ3.out
    have hrz : Rd w5 4 AZ Z.length (doVs Z) := HO3.out.rd
    have hrd1 : (readsOf X).length ≤ X.length := by unfold readsOf; rw [List.length_map]; exact List.length_filter_le _ _
    have hrd2 : (readsOf Y).length ≤ Y.length := by unfold readsOf; rw [List.length_map]; exact List.length_filter_le _ _
    have CR := hid2 (show ∀ (A : Option Addr) (c n : Nat) (l : List DE), n = l.length → l.length ≤ 901 → Rd w5 4 A n (doVs l) → ∀ w2, Below w5.heap.size w5 w2 → Calls Tryz.prog 21 #[.slice A n c] w2 fun e w' => e = .returned (.int .i64 (readsOf l).length) ∧ Below w2.heap.size w2 w' from fun A c n l hn hl hr w2 hb => by
      subst hn
      exact reading_any w2 A c l (by omega) (hr.below_all hb))
    obtain ⟨xn, hxn⟩ : ∃ n, n = X.length := ⟨_, rfl⟩
    obtain ⟨yn, hyn⟩ : ∃ n, n = Y.length := ⟨_, rfl⟩
    obtain ⟨zn, hzn⟩ : ∃ n, n = Z.length := ⟨_, rfl⟩
    rw [← hxn] at hrx
    rw [← hyn] at hry
    rw [← hzn] at hrz
    obtain ⟨rx, hrxn⟩ : ∃ n, n = (readsOf X).length := ⟨_, rfl⟩
    obtain ⟨ry, hryn⟩ : ∃ n, n = (readsOf Y).length := ⟨_, rfl⟩
    have CR1 := hid2 (show ∀ w2, Below w5.heap.size w5 w2 → Calls Tryz.prog 21 #[.slice AX xn cX] w2 fun e w' => e = .returned (.int .i64 rx) ∧ Below w2.heap.size w2 w' from fun w2 hb => by rw [hrxn]; exact CR.out AX cX xn X hxn hx9 hrx w2 hb)
    have CR2 := hid2 (show ∀ w2, Below w5.heap.size w5 w2 → Calls Tryz.prog 21 #[.slice AY yn cY] w2 fun e w' => e = .returned (.int .i64 ry) ∧ Below w2.heap.size w2 w' from fun w2 hb => by rw [hryn]; exact CR.out AY cY yn Y hyn hy9 hry w2 hb)
    have hrx9 : rx ≤ 901 := by omega
    have hry9 : ry ≤ 901 := by omega
    have hws : IntKind.i64.wrap ((rx : Int) + ry) = (rx : Int) + ry := IntWalk.i64_in _ (by constructor <;> omega)
    have HRX := hid2 hrx
    have HRY := hid2 hry
    have HRZ := hid2 hrz
    have HXN := hid2 hxn
    have HYN := hid2 hyn
    have HZN := hid2 hzn
    have HRXN := hid2 hrxn
    have HRYN := hid2 hryn
    rw [← hxn, ← hyn, ← hzn]
    rw [← hxn] at hx9
    rw [← hyn] at hy9
    rw [← hzn] at hz9
    clear hrx hry hrz hxn hyn hzn hrd1 hrd2 CR hrxn hryn
    have RARMS : True := trivial
    by_cases hsum : 500 < rx + ry
    · have hsi : (500 : Int) < (rx : Int) + ry := by omega
      clear hsum
      go_wp2_with (first
        | (go_at_call 21; refine (CR1.out _ (Below.refl _ _)).mono ?_; rintro e w6 ⟨rfl, hb⟩; have HB6 := hid2 hb; clear hb CR1)
        | (go_at_call 21; refine (CR2.out _ HB6.out).mono ?_; rintro e w7 ⟨rfl, hb⟩; have HB7 := hid2 (HB6.out.trans (hb.mono HB6.out.size)); clear hb CR2))
      refine bodyPost_ret (results_tmp rfl _ _ _) rfl ?_
      exact ⟨rfl, HB.out.trans (HB7.out.mono HB.out.size)⟩
    · have hsi : ¬ (500 : Int) < (rx : Int) + ry := by omega
      obtain ⟨E1, dd, hXE, hcase⟩ := parts_does (v := ⟨mayB, env⟩) (U := U) (a := a) (b := b) (X := X) (Y := Y) (by rw [← HFI.out]; exact HMF.out) HMB.out (by rw [← HFI.out, ← HCK.out]; exact HOK.out) (by rw [← HFI.out]; exact HD1.out) HD2.out (by rw [← HRXN.out, ← HRYN.out]; omega)
      rw [← HFI.out] at hcase
      have hlen : xn = E1.length + 1 := by rw [HXN.out, hXE, List.length_append]; rfl
      have HXE := hid2 hXE
      have HCS := hid2 hcase
      have HLE := hid2 hlen
      have hx1 : 1 ≤ xn := by omega
      clear hsum hXE hcase hlen
      go_upto_region 12 with (first
        | (go_at_call 21; refine (CR1.out _ (Below.refl _ _)).mono ?_; rintro e w6 ⟨rfl, hb⟩; have HB6 := hid2 hb; clear hb CR1)
        | (go_at_call 21; refine (CR2.out _ HB6.out).mono ?_; rintro e w7 ⟨rfl, hb⟩; have HB7 := hid2 (HB6.out.trans (hb.mono HB6.out.size)); clear hb CR2))
      have hget : X[xn - 1]? = some dd := by rw [HXE.out, HLE.out, List.getElem?_append_right (by omega), show E1.length + 1 - 1 - E1.length = 0 by omega]; rfl
      obtain ⟨b1, o1, hA1, hc1⟩ := (HRX.out.below_all HB7.out).2 (by omega)
      subst hA1
      have hk1 : w7.cell? ⟨b1, o1 + (xn - 1) * 4, none⟩ = some (.int .i64 dd.kind) := hc1 _ _ (doVs_get hget).1
      have ha0 : (0 : Int) ≤ (xn : Int) - 1 := by omega
      have ha1 : (xn : Int) - 1 < xn := by omega
      have hat : ((xn : Int) - 1).toNat = xn - 1 := by omega
      have hw1 : IntKind.i64.wrap ((xn : Int) - 1) = (xn : Int) - 1 := IntWalk.i64_in _ (by constructor <;> omega)
      have hx0 : ¬ (xn : Int) = 0 := by omega
      have hx0b : ((xn : Int) == 0) = false := by rw [beq_eq_false_iff_ne]; exact hx0
      have HBW := hid2 (HB.out.trans (HB7.out.mono HB.out.size))
      clear hget hc1
      rcases HCS.out with ⟨hk4, hdo⟩ | ⟨hk3, hdo⟩
      · -- the first one failed
        have hZX : Z = X := DoesIs.one HD3.out hdo
        rw [hk4] at hk1
        have CS := hid2 (show ∀ w2, Below w5.heap.size w5 w2 → Calls Tryz.prog 20 #[.slice AZ zn cZ, .slice (some ⟨b1, o1, none⟩) xn cX] w2 fun e w' => e = .returned (.bool true) ∧ Below w2.heap.size w2 w' from fun w2 hb => by
          have h1 := HRZ.out.below_all hb
          have h2 := HRX.out.below_all hb
          rw [HZN.out] at h1 ⊢
          rw [HXN.out] at h2 ⊢
          exact samedo_same w2 AZ _ cZ cX Z X hZX (by rw [← HZN.out]; omega) HFZ.out h1 h2)
        clear hk4 hdo hZX
        go_wp2_with (go_at_call 20; refine (CS.out _ HB7.out).mono ?_; rintro e w8 ⟨rfl, hb⟩; have HB8 := hid2 hb; clear hb)
        refine bodyPost_ret (results_tmp rfl _ _ _) rfl ?_
        exact ⟨rfl, HBW.out.trans (HB8.out.mono HBW.out.size)⟩
      · -- the first one ended
        have hZX : Z = E1 ++ Y.filter (keepD X) := DoesIs.one HD3.out hdo
        obtain ⟨kd, hkd⟩ : ∃ kd : Int, kd = dd.kind := ⟨_, rfl⟩
        rw [← hkd] at hk1
        have hkn : ¬ kd = 4 := by omega
        have hkb : (kd == 4) = false := by rw [beq_eq_false_iff_ne]; exact hkn
        have HZX := hid2 hZX
        clear hk3 hdo hZX hkd
        obtain ⟨fl, hfl⟩ : ∃ l, l = Y.filter (keepD X) := ⟨_, rfl⟩
        obtain ⟨fn, hfn⟩ : ∃ n, n = fl.length := ⟨_, rfl⟩
        have HFLN := hid2 hfn
        have hf9 : fn ≤ 901 := by
          rw [hfn, hfl]
          refine Nat.le_trans (List.length_filter_le _ _) ?_
          rw [← HYN.out]
          exact hy9
        have CWO := hid2 (show ∀ w2, Below w5.heap.size w5 w2 → Calls Tryz.prog 22 #[.slice AY yn cY, .slice (some ⟨b1, o1, none⟩) xn cX] w2 fun e w' => ∃ A' c', e = .returned (.slice A' fn c') ∧ Own w' w2.heap.size 35 4 A' fn c' (doVs fl) ∧ Below w2.heap.size w2 w' from fun w2 hb => by
          have h1 := HRY.out.below_all hb
          have h2 := HRX.out.below_all hb
          rw [HYN.out] at h1 ⊢
          rw [HXN.out] at h2 ⊢
          rw [hfn, hfl]
          exact without_any w2 AY _ cY cX Y X (by rw [← HYN.out]; omega) (by rw [← HXN.out]; omega) HFY.out HFX.out h1 h2)
        have hEX : (doVs X).take ((xn - 1) * 4) = doVs E1 := by
          rw [HXE.out, ← doVs_snoc, HLE.out, show (E1.length + 1 - 1) * 4 = (doVs E1).length by rw [doVs_len, Nat.add_sub_cancel]]
          exact List.take_left
        have hrE : Rd w7 4 (some ⟨b1, o1, none⟩) (xn - 1) (doVs E1) := by
          have := (HRX.out.below_all HB7.out).take (k := xn - 1) (by omega)
          rwa [hEX] at this
        have HRE := hid2 hrE
        have hcap : (xn : Int) - 1 ≤ cX := by
          have := HO1.out.2.1
          rw [← HXN.out] at this
          omega
        have hcap2 : ¬ (cX : Int) < (xn : Int) - 1 := by omega
        obtain ⟨w8, hw8⟩ : ∃ w8, w8 = w7.alloc (.cells #[] 35) := ⟨_, rfl⟩
        have hown8 : Own w8 w7.heap.size 35 4 (some ⟨w7.heap.size, 0, none⟩) 0 0 [] := by
          rw [hw8]
          exact Own.lit w7 #[] 35 4 0 w7.heap.size (Nat.le_refl _) (Nat.zero_le _) rfl
        have hb8 : Below w7.heap.size w7 w8 := by rw [hw8]; exact (Below.refl _ _).alloc (Nat.le_refl _) _
        have hrE8 : Rd w8 4 (some ⟨b1, o1, none⟩) (xn - 1) (doVs E1) := hrE.below_all hb8
        have hw8' := hw8.symm
        have honeE := doVs_one E1
        have honeF := doVs_one fl
        have HB8 := hid2 hb8
        have HO8 := hid2 hown8
        have hsz8 := hb8.size
        have HFL := hid2 hfl
        clear hfn hfl hEX hrE hw8 hb8
        go_upto_region 15 with (first
          | (at_builtin; have _t := hown8; go_must ((with_reducible refine wpList_append_lit 35 (.agg #[.int .i64 0, .string ⟨#[]⟩, .string ⟨#[]⟩, .int .i64 0]) 4 48 Tryz.underlying33 zero_doI rfl w7.heap.size (some ⟨w7.heap.size, 0, none⟩) 0 0 [] hown8 (xn - 1) (doVs E1) (.slice (some ⟨b1, o1, none⟩) (xn - 1) cX) (Src.slice Tryz.underlying33 hrE8) honeE ?_ ?_ ?_ ?_ ?_); (unfold maxLen; omega); omega; exact hsz8; exact ⟨rfl, rfl⟩; intro A9 c9 w9 hown9 hgr9 hbl9; rw [Nat.zero_add]; rw [Nat.zero_add, List.nil_append] at hown9; have HO9 := hid2 hown9; have HB9 := hid2 (HB8.out.grown hgr9 hsz8 (fun k e => (HO8.out.block k e).1)); clear hown8 hrE8 _t hown9 hgr9 hbl9))
          | (go_at_call 22; refine (CWO.out _ (HB7.out.trans (HB9.out.mono HB7.out.size))).mono ?_; rintro e w10 ⟨A4, c4, rfl, ho, hb⟩; have hrF := ho.rd; have hownN := HO9.out.below hb (Nat.le_refl _); have HON := hid2 hownN; have HB10 := hid2 (HB9.out.trans (hb.mono HB9.out.size)); have hsz10 := HB10.out.size; clear ho hb CWO)
          | (at_builtin; have _t := hownN; go_must ((with_reducible refine wpList_append_lit 35 (.agg #[.int .i64 0, .string ⟨#[]⟩, .string ⟨#[]⟩, .int .i64 0]) 4 48 Tryz.underlying33 zero_doI rfl w7.heap.size A9 (xn - 1) c9 (doVs E1) hownN fn (doVs fl) (.slice A4 fn c4) (Src.slice Tryz.underlying33 hrF) honeF ?_ ?_ ?_ ?_ ?_); (unfold maxLen; omega); omega; exact hsz10; exact ⟨rfl, rfl⟩; intro A5 c5 w11 hown5 hgr5 hbl5; have HO5 := hid2 hown5; have HB11 := hid2 (HB10.out.grown hgr5 hsz10 (fun k e => (HON.out.block k e).1)); clear hownN hrF _t hown5 hgr5 hbl5)))
        obtain ⟨n5, hn5⟩ : ∃ n, n = xn - 1 + fn := ⟨_, rfl⟩
        rw [← hn5]
        have hb11 := HB7.out.trans (HB11.out.mono HB7.out.size)
        have cS : Calls Tryz.prog 20 #[.slice AZ zn cZ, .slice A5 n5 c5] w11 fun e w' => e = .returned (.bool true) ∧ Below w11.heap.size w11 w' := by
          have h1 := HRZ.out.below_all hb11
          have h2 := HO5.out.rd
          have e1 : doVs E1 ++ doVs fl = doVs (E1 ++ fl) := by unfold doVs; rw [List.flatMap_append]
          have e2 : n5 = (E1 ++ fl).length := by rw [hn5, List.length_append, HFLN.out, HLE.out]; omega
          rw [e1, ← hn5] at h2
          rw [HZN.out] at h1 ⊢
          rw [e2] at h2 ⊢
          exact samedo_same w11 AZ A5 cZ c5 Z (E1 ++ fl) (by rw [HZX.out, HFL.out]) (by rw [← HZN.out]; omega) HFZ.out h1 h2
        have CS := hid2 cS
        clear hn5 hb11 cS
        go_wp2_with (go_at_call 20; refine CS.out.mono ?_; rintro e w12 ⟨rfl, hb⟩; have HB12 := hid2 hb; clear hb)
        refine bodyPost_ret (results_tmp rfl _ _ _) rfl ?_
        exact ⟨rfl, (HBW.out.trans (HB11.out.mono HBW.out.size)).trans (HB12.out.mono (Nat.le_trans HBW.out.size HB11.out.size))⟩
  · have hoki : ¬ (ck.1 : Int) = 0 := by omega
    have hokb : ((ck.1 : Int) != 0) = true := by simpa using hoki
    clear hok
    go_wp2_with fail
    refine bodyPost_ret (results_tmp rfl _ _ _) rfl ?_
    exact ⟨rfl, HB.out⟩
theorem partsl_any (w : World) (env : List (TT × TT)) (U : List KE) (a b : TT) (hl : Lib3 w)
    (hwe : ∀ p ∈ env, p.1.length + p.2.length ≤ 4611686018427387904) (hwk : ∀ k ∈ U, k.path.length + k.data.length ≤ 4611686018427387904)
    (EA KA : Option Addr) (ec kc : Nat) (hre : Rd w 2 EA env.length (setV env)) (hrk : Rd w 3 KA U.length (kV U)) :
    Calls Tryz.prog 7 #[.string (strB a), .string (strB b), .slice EA env.length ec, .slice KA U.length kc] w fun e w' => e = .returned (.bool true) ∧ Below w.heap.size w w' := by
  cases h1 : wideL env U a with
  | true => exact parts_wide1 w env U a b hl hwe hwk EA KA ec kc hre hrk h1
  | false =>
    cases h2 : wideL [] [] b with
    | true => exact parts_wide2 w env U a b hl hwe hwk EA KA ec kc hre hrk h1 h2
    | false => exact parts_walk w env U a b hl hwe hwk EA KA ec kc hre hrk h1 h2
end Go.Proofs.YtnecjdhamohadaaGreatDoor
