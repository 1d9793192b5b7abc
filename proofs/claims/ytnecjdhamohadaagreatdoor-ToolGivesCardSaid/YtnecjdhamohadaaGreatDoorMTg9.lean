/- Answers that are not waited for. -/
import Derived.Test.YtnecjdhamohadaaGreatDoorMu
set_option linter.unusedSimpArgs false
set_option linter.unusedVariables false
namespace Go.Proofs.YtnecjdhamohadaaGreatDoor
open Go.RowKit Go.Maps Go.Shelf
set_option maxRecDepth 100000
set_option maxHeartbeats 4000000 in
theorem gives_wide (w : World) (U : List KE) (text : TT) (P : ByteArray) (bb : Nat) (hbb : bb ≤ 255) (hl : Lib3 w)
    (hwk : ∀ k ∈ U, k.path.length + k.data.length ≤ 4611686018427387904) (KA : Option Addr) (kc : Nat) (hrk : Rd w 3 KA U.length (kV U)) (h1 : wideL [] U text = true) :
    Calls Tryz.prog 5 #[.string (strB text), .slice KA U.length kc, .string P, .int .u8 bb] w fun e w' => e = .returned (.bool true) ∧ Below w.heap.size w w' := by
  obtain ⟨X, hX⟩ : ∃ X, X = strB text := ⟨_, rfl⟩
  obtain ⟨un, hun⟩ : ∃ n, n = U.length := ⟨_, rfl⟩
  have CW1 := hid2 (show ∀ w2, Below w.heap.size w w2 → Calls Tryz.prog 10 #[.string X, .slice none 0 0, .slice KA un kc] w2 fun e w' => e = .returned (.bool true) ∧ Below w2.heap.size w2 w' from fun w2 hb => by
    have := wide_any w2 none KA 0 kc [] U text (fun p hp => by cases hp) hwk (Rd.none_ _ _ _) (hrk.below_all hb)
    rw [h1] at this
    rw [hX, hun]
    exact this)
  have CAL := hid2 (alive_any w hl)
  rw [← hX, ← hun]
  clear hl hwk hrk hX hun h1
  go_enter Tryz.func5, Tryz.ntmps5
  go_wp2_with (first
    | (go_at_call 9; refine CAL.out.mono ?_; rintro e w1 ⟨rfl, hb⟩; have HB := hid2 hb; clear hb CAL)
    | (go_at_call 10; refine (CW1.out _ HB.out).mono ?_; rintro e w1 ⟨rfl, hb⟩; have HB := hid2 (HB.out.trans (hb.mono HB.out.size)); clear hb CW1))
  refine bodyPost_ret (results_tmp rfl _ _ _) rfl ?_
  exact ⟨rfl, HB.out⟩
set_option maxHeartbeats 4000000 in
theorem gives_long (w : World) (U : List KE) (text : TT) (P : ByteArray) (bb : Nat) (hbb : bb ≤ 255) (hl : Lib3 w)
    (hwk : ∀ k ∈ U, k.path.length + k.data.length ≤ 4611686018427387904) (KA : Option Addr) (kc : Nat) (hrk : Rd w 3 KA U.length (kV U)) (h1 : wideL [] U text = false) (h2 : 500 < P.size) :
    Calls Tryz.prog 5 #[.string (strB text), .slice KA U.length kc, .string P, .int .u8 bb] w fun e w' => e = .returned (.bool true) ∧ Below w.heap.size w w' := by
  obtain ⟨X, hX⟩ : ∃ X, X = strB text := ⟨_, rfl⟩
  obtain ⟨un, hun⟩ : ∃ n, n = U.length := ⟨_, rfl⟩
  have CW1 := hid2 (show ∀ w2, Below w.heap.size w w2 → Calls Tryz.prog 10 #[.string X, .slice none 0 0, .slice KA un kc] w2 fun e w' => e = .returned (.bool false) ∧ Below w2.heap.size w2 w' from fun w2 hb => by
    have := wide_any w2 none KA 0 kc [] U text (fun p hp => by cases hp) hwk (Rd.none_ _ _ _) (hrk.below_all hb)
    rw [h1] at this
    rw [hX, hun]
    exact this)
  have CAL := hid2 (alive_any w hl)
  rw [← hX, ← hun]
  have h2i : (500 : Int) < P.size := by omega
  clear hl hwk hrk hX hun h1
  go_enter Tryz.func5, Tryz.ntmps5
  go_wp2_with (first
    | (go_at_call 9; refine CAL.out.mono ?_; rintro e w1 ⟨rfl, hb⟩; have HB := hid2 hb; clear hb CAL)
    | (go_at_call 10; refine (CW1.out _ HB.out).mono ?_; rintro e w1 ⟨rfl, hb⟩; have HB := hid2 (HB.out.trans (hb.mono HB.out.size)); clear hb CW1))
  refine bodyPost_ret (results_tmp rfl _ _ _) rfl ?_
  exact ⟨rfl, HB.out⟩
theorem fit_run {v : Env} : ∀ (n : Nat) {s : PS}, Ord s → FitDo s.over → FitDo (s.run v n).over
  | 0, _, _, h => h
  | n + 1, _, ho, h => fit_run n ho.step (fit_step v h ho.lim)
theorem fit_nextV {s : PS} (ho : Ord s) (h : FitDo s.over) : FitDo (nextV s) := by
  unfold nextV
  split
  · exact ⟨show 1 ≤ 1000000 from by decide, show 0 ≤ 1000000 from by decide, Nat.le_trans ho.lim.asks (by decide), by simp⟩
  · exact h
theorem toList_of (s : ByteArray) : s.toList = s.data.toList := ByteArray.toList_eq s
theorem info_u8g : (Tryz.prog.info? 5).map (fun i => (i.zero, i.size, i.bytes)) = some (some (.int .u8 0), 1, 1) := by kernel_rfl
theorem made_u8g (w : World) (m : Nat) (hm : m ≤ 100000000) : (Instr.makeSlice 46 (.int .i64 (m : Int)) (.int .i64 (m : Int))).run Tryz.prog w = .ok (.slice (some ⟨w.heap.size, 0, none⟩) m m) (w.alloc (.cells (u8s (List.replicate m 0)).toArray 5)) := by
  have h := info_u8g
  cases hi : Tryz.prog.info? 5 with
  | none => rw [hi] at h; cases h
  | some i =>
    rw [hi] at h
    simp only [Option.map_some, Option.some.injEq, Prod.mk.injEq] at h
    obtain ⟨hz, hs, hb⟩ := h
    rw [run_make w 46 5 i (.int .u8 0) Tryz.underlying46 hi hz .i64 .i64 m m (by omega) (Int.le_refl _) (by rw [hb]; omega) (by omega), Int.toNat_natCast, hs, Nat.mul_one]
    have e : madeCells (Value.int .u8 0).cells m = (u8s (List.replicate m 0)).toArray := by
      have := toList_madeCells_one (Value.int .u8 0) m
      rw [show (Value.int .u8 0).cells = #[Value.int .u8 0] from rfl, ← Array.toArray_toList (xs := madeCells #[Value.int .u8 0] m), this]
      simp [u8s]
    rw [e]
theorem conv_zeros (w : World) (g : Nat) (h : w.heap[g]? = some (.cells (u8s (List.replicate 65537 0)).toArray 5 (0, 0))) : (Go.convert 46 9 (.slice (some ⟨g, 0, none⟩) 65537 65537)).run Tryz.prog w = .ok (.string (strB (List.replicate 65537 0))) w := by
  obtain ⟨n, hn⟩ : ∃ n, n = 65537 := ⟨_, rfl⟩
  rw [← hn] at h ⊢
  have := run_convert_bytes_back (P := Tryz.prog) w 46 9 5 ⟨g, 0, none⟩ n (List.replicate n 0) Tryz.underlying46 Tryz.underlying5 Tryz.underlying9 (fun j hj => by
    have e : (u8s (List.replicate n 0)).toArray[j]? = some (.int .u8 ((List.replicate n (0 : UInt8))[j].toNat : Int)) := by
      rw [List.getElem?_toArray]
      unfold u8s
      rw [List.getElem?_map, List.getElem?_eq_getElem hj]
      rfl
    have e2 := cell_of_row w g j _ _ _ h
    rw [e] at e2
    rw [addr_add, Nat.zero_add]
    exact e2)
  rw [List.length_replicate] at this
  exact this
theorem toList_len3 (s : ByteArray) : s.data.toList.length = s.size := by cases s; simp [ByteArray.size]
theorem gives_nil_do : doA ⟨4, [], [], 1⟩ = .agg #[.int .i64 4, .string ⟨#[]⟩, .string ⟨#[]⟩, .int .i64 1] := rfl
theorem gave_other {s : PS} {k : KE} (hw : s.waits = true) (hk : k.path ≠ s.asks) : PS.gave s k = (1, s) := by
  rw [PS.gave, if_neg (by rw [hw]; simp), if_pos hk]
theorem gave_long {s : PS} {k : KE} (hw : s.waits = true) (hk : k.path = s.asks) (hi : k.is = true) (hd : 65536 < k.data.length) : PS.gave s k = (6, s) := by
  rw [PS.gave, if_neg (by rw [hw]; simp), if_neg (by rw [hk]; simp), if_pos ⟨hi, hd⟩]
theorem gave_idle {s : PS} {k : KE} (hw : s.waits = false) : PS.gave s k = (19, s) := by
  rw [PS.gave, if_pos hw]
theorem gave_fit {s : PS} {k : KE} (hw : s.waits = true) (hk : k.path = s.asks) (hd : k.data.length ≤ 65536) : PS.gave s k = (0, s.give (nrm k)) := by
  rw [PS.gave, if_neg (by rw [hw]; simp), if_neg (by rw [hk]; simp), if_neg (by omega)]
set_option maxHeartbeats 4000000 in
theorem gives_bad (w : World) (U : List KE) (text : TT) (P : ByteArray) (bb : Nat) (hbb : bb ≤ 255) (hl : Lib3 w)
    (hwk : ∀ k ∈ U, k.path.length + k.data.length ≤ 4611686018427387904) (KA : Option Addr) (kc : Nat) (hrk : Rd w 3 KA U.length (kV U)) (h1 : wideL [] U text = false) (h2 : P.size ≤ 500) (hbad : (checkT mayB text).1 ≠ 0) :
    Calls Tryz.prog 5 #[.string (strB text), .slice KA U.length kc, .string P, .int .u8 bb] w fun e w' => e = .returned (.bool true) ∧ Below w.heap.size w w' := by
  obtain ⟨X, hX⟩ : ∃ X, X = strB text := ⟨_, rfl⟩
  obtain ⟨un, hun⟩ : ∃ n, n = U.length := ⟨_, rfl⟩
  have CW1 := hid2 (show ∀ w2, Below w.heap.size w w2 → Calls Tryz.prog 10 #[.string X, .slice none 0 0, .slice KA un kc] w2 fun e w' => e = .returned (.bool false) ∧ Below w2.heap.size w2 w' from fun w2 hb => by
    have := wide_any w2 none KA 0 kc [] U text (fun p hp => by cases hp) hwk (Rd.none_ _ _ _) (hrk.below_all hb)
    rw [h1] at this
    rw [hX, hun]
    exact this)
  have CAL := hid2 (alive_any w hl)
  have hP500 : ¬ (500 : Int) < P.size := by omega
  have CNN := hid2 (fun (w2 : World) => show Calls Tryz.prog 14 #[.pointer none] w2 fun e w' => e = .returned (.agg #[.int .i64 4, .string { data := #[] }, .string { data := #[] }, .int .i64 1]) ∧ Below w2.heap.size w2 w' from next_nil w2)
  have CGN := hid2 (fun (w2 : World) => give_nil w2 P { data := #[] } false)
  have htx : text.length ≤ 1500 := (not_wide h1).1
  have CST := hid2 (show ∀ w2, Below w.heap.size w w2 → Calls Tryz.prog 11 #[.string X, .slice none 0 0] w2 fun e w' => e = .returned (.tuple #[.pointer none, .int .i64 (checkT mayB text).1]) ∧ Below w2.heap.size w2 w' from fun w2 hb => by
    rw [hX]
    refine (start_bad w2 ⟨mayB, []⟩ text (by omega) (hl.on hb).lib hbad none 0 0).mono fun e w' k => ?_
    rcases k with ⟨_, h2, h3⟩ | ⟨h1, _⟩
    · exact ⟨h2, h3⟩
    · exact absurd h1 hbad)
  obtain ⟨ck, hck⟩ : ∃ ck : Int, ck = ((checkT mayB text).1 : Int) := ⟨_, rfl⟩
  have hck0 : ck ≠ 0 := by omega
  have hckb : (ck == 0) = false := by rw [beq_eq_false_iff_ne]; exact hck0
  rw [← hck] at CST
  rw [← hX, ← hun]
  clear hl hwk hrk hX hun h1 htx hck hbad
  go_enter Tryz.func5, Tryz.ntmps5
  go_upto_region 5 with (first
    | (go_at_call 9; refine CAL.out.mono ?_; rintro e w1 ⟨rfl, hb⟩; have HB := hid2 hb; clear hb CAL)
    | (go_at_call 10; refine (CW1.out _ HB.out).mono ?_; rintro e w1 ⟨rfl, hb⟩; have HB := hid2 (HB.out.trans (hb.mono HB.out.size)); clear hb CW1))
  go_upto_region 8 with (first
    | (go_at_call 9; refine CAL.out.mono ?_; rintro e w1 ⟨rfl, hb⟩; have HB := hid2 hb; clear hb CAL)
    | (go_at_call 10; refine (CW1.out _ HB.out).mono ?_; rintro e w1 ⟨rfl, hb⟩; have HB := hid2 (HB.out.trans (hb.mono HB.out.size)); clear hb CW1)
    | (go_at_call 14; refine (CNN.out _).mono ?_; rintro e w1 ⟨rfl, hb⟩; have HB := hid2 (HB.out.trans (hb.mono HB.out.size)); clear hb CNN)
    | (go_at_call 16; refine (CGN.out _).mono ?_; rintro e w1 ⟨rfl, hb⟩; have HB := hid2 (HB.out.trans (hb.mono HB.out.size)); clear hb CGN))
  go_wp2_with (go_at_call 11; refine (CST.out _ HB.out).mono ?_; rintro e w1 ⟨rfl, hb⟩; have HB := hid2 (HB.out.trans (hb.mono HB.out.size)); clear hb CST)
  go_loopw [12] (fun i wr => i = .int .i64 0 ∧ wr = w1) (fun _ _ => 0)
  case atStart => exact ⟨rfl, rfl⟩
  case round =>
    obtain ⟨rfl, rfl⟩ := hrel
    go_wp2_with fail
    refine bodyPost_ret (results_tmp rfl _ _ _) rfl ?_
    exact ⟨rfl, HB.out⟩
set_option maxHeartbeats 4000000 in
theorem gives_ok (w : World) (U : List KE) (text : TT) (P : ByteArray) (bb : Nat) (hbb : bb ≤ 255) (hl : Lib3 w)
    (hwk : ∀ k ∈ U, k.path.length + k.data.length ≤ 4611686018427387904) (KA : Option Addr) (kc : Nat) (hrk : Rd w 3 KA U.length (kV U)) (h1 : wideL [] U text = false) (h2 : P.size ≤ 500) (hok : (checkT mayB text).1 = 0) :
    Calls Tryz.prog 5 #[.string (strB text), .slice KA U.length kc, .string P, .int .u8 bb] w fun e w' => e = .returned (.bool true) ∧ Below w.heap.size w w' := by
  obtain ⟨X, hX⟩ : ∃ X, X = strB text := ⟨_, rfl⟩
  obtain ⟨un, hun⟩ : ∃ n, n = U.length := ⟨_, rfl⟩
  have CW1 := hid2 (show ∀ w2, Below w.heap.size w w2 → Calls Tryz.prog 10 #[.string X, .slice none 0 0, .slice KA un kc] w2 fun e w' => e = .returned (.bool false) ∧ Below w2.heap.size w2 w' from fun w2 hb => by
    have := wide_any w2 none KA 0 kc [] U text (fun p hp => by cases hp) hwk (Rd.none_ _ _ _) (hrk.below_all hb)
    rw [h1] at this
    rw [hX, hun]
    exact this)
  have CAL := hid2 (alive_any w hl)
  have hP500 : ¬ (500 : Int) < P.size := by omega
  have CNN := hid2 (fun (w2 : World) => show Calls Tryz.prog 14 #[.pointer none] w2 fun e w' => e = .returned (.agg #[.int .i64 4, .string { data := #[] }, .string { data := #[] }, .int .i64 1]) ∧ Below w2.heap.size w2 w' from next_nil w2)
  have CGN := hid2 (fun (w2 : World) => give_nil w2 P { data := #[] } false)
  obtain ⟨bi, hbi⟩ : ∃ x : Int, x = bb := ⟨_, rfl⟩
  rw [← hbi]
  have hbi0 : 0 ≤ bi := by omega
  have hbi1 : bi ≤ 255 := by omega
  clear hbi hbb
  obtain ⟨htx, _, hul, huk, _⟩ := not_wide h1
  have hmi : Mild ⟨mayB, []⟩ U text := mild_of htx (by omega) huk (Nat.zero_le _) (fun p hp => by cases hp)
  obtain ⟨start, hst⟩ : ∃ st, st = PS.start (cmdsOf mayB (linesT text)) := ⟨_, rfl⟩
  obtain ⟨v, hv⟩ : ∃ v : Env, v = ⟨mayB, []⟩ := ⟨_, rfl⟩
  have hin : Inv U start := by rw [hst]; exact hmi.start hok
  have HFS := hid2 (show FitDo start.over from by rw [hst]; exact fit_fail 0 0 (by decide) (by decide))
  rw [← hv] at hmi
  have CST := hid2 (show ∀ w2, Below w.heap.size w w2 → Calls Tryz.prog 11 #[.string X, .slice none 0 0] w2 fun e w' => ∃ L : RLay, e = .returned (.tuple #[.pointer (some ⟨L.R, 0, none⟩), .int .i64 0]) ∧ L.B = w2.heap.size ∧ RunIs w' L v none start ∧ Below w2.heap.size w2 w' from fun w2 hb => by
    rw [hX, hst, hv]
    refine (start_ok w2 ⟨mayB, []⟩ (by rw [← hv]; exact hmi.env) text (by omega) (hl.on hb).lib hok none 0 (Rd.none_ _ _ _)).mono fun e w' k => ?_
    rcases k with ⟨h1, _⟩ | ⟨_, L, h2, h3, h4, h5⟩
    · exact absurd hok h1
    · refine ⟨L, h2, h3, h4, ?_⟩
      have := h5.below
      rwa [h3] at this)
  have HL := hid2 hl
  have HMI := hid2 hmi
  have HIN := hid2 hin
  have HRK := hid2 hrk
  rw [← hun] at hrk
  have HAN := hid2 (show ∀ w2, Below w.heap.size w w2 → ∀ p, Calls Tryz.prog 15 #[.slice KA un kc, .string (strB p)] w2 fun e w' => e = .returned (encK (ansU U p)) ∧ Below w2.heap.size w2 w' from fun w2 hb p => by
    rw [hun]
    exact answer_any w2 KA kc U hmi.len (HRK.out.below_all hb) p)
  rw [← hX, ← hun]
  clear hl hwk hrk hX hun h1 htx hul huk hmi hst hv hin hok HRK
  go_enter Tryz.func5, Tryz.ntmps5
  go_upto_region 5 with (first
    | (go_at_call 9; refine CAL.out.mono ?_; rintro e w1 ⟨rfl, hb⟩; have HB := hid2 hb; clear hb CAL)
    | (go_at_call 10; refine (CW1.out _ HB.out).mono ?_; rintro e w1 ⟨rfl, hb⟩; have HB := hid2 (HB.out.trans (hb.mono HB.out.size)); clear hb CW1))
  go_upto_region 8 with (first
    | (go_at_call 9; refine CAL.out.mono ?_; rintro e w1 ⟨rfl, hb⟩; have HB := hid2 hb; clear hb CAL)
    | (go_at_call 10; refine (CW1.out _ HB.out).mono ?_; rintro e w1 ⟨rfl, hb⟩; have HB := hid2 (HB.out.trans (hb.mono HB.out.size)); clear hb CW1)
    | (go_at_call 14; refine (CNN.out _).mono ?_; rintro e w1 ⟨rfl, hb⟩; have HB := hid2 (HB.out.trans (hb.mono HB.out.size)); clear hb CNN)
    | (go_at_call 16; refine (CGN.out _).mono ?_; rintro e w1 ⟨rfl, hb⟩; have HB := hid2 (HB.out.trans (hb.mono HB.out.size)); clear hb CGN))
  go_upto_region 9 with (go_at_call 11; refine (CST.out _ HB.out).mono ?_; rintro e w2 ⟨L, rfl, hLB, hr, hb⟩; have HR := hid2 hr; have HH := hid2 ((HL.out.on HB.out).home hLB hb); have BB := hid2 (show w.heap.size ≤ L.B from by rw [hLB]; exact HB.out.size); have HB2 := hid2 (HB.out.trans (hb.mono HB.out.size)); clear hb hLB hr CST)
  obtain ⟨R, hR⟩ : ∃ R, R = L.R := ⟨_, rfl⟩
  rw [← hR]
  have ER := hid2 hR
  clear hR
  go_wp2_with fail
  go_loopg [12] 100 (fun gk iv wr => ∃ (i : Nat) (s : PS) (q : Option Nat), i + gk = 100 ∧ iv = .int .i64 i ∧ Inv U s ∧ FitDo s.over ∧ RunIs wr L v q s ∧ Home wr L ∧ Below w.heap.size w wr)
  case atStart => exact ⟨0, start, none, rfl, rfl, HIN.out, HFS.out, HR.out, HH.out, HB2.out⟩
  case round =>
    obtain ⟨i, s, q, hgk, rfl, hinv, hfo, hrun, hhome, hbe⟩ := hrel
    by_cases hlt : i < 100
    · have hil : (i : Int) < 100 := by omega
      obtain ⟨j, hj⟩ := hinv.stands v
      have hSI := hinv.run (v := v) j
      have hfd := fit_run (v := v) j hinv.ord hfo
      have hcases := hSI.ord.cases hj
      have cN := next_any wr L v HMI.out.env q s hrun hhome (fun i => (hinv.run (v := v) i).sound) j hj
      obtain ⟨S, hS⟩ : ∃ S, S = s.run v j := ⟨_, rfl⟩
      rw [← hS] at hSI hcases cN hj hfd
      obtain ⟨kd, hkd⟩ : ∃ kd : Int, kd = (nextV S).kind := ⟨_, rfl⟩
      obtain ⟨P0, hP0⟩ : ∃ x, x = strB (nextV S).path := ⟨_, rfl⟩
      obtain ⟨D0, hD0⟩ : ∃ x, x = strB (nextV S).data := ⟨_, rfl⟩
      obtain ⟨wy, hwy⟩ : ∃ x : Int, x = (nextV S).why := ⟨_, rfl⟩
      have hdoc : doC (nextV S) = [.int .i64 kd, .string P0, .string D0, .int .i64 wy] := by rw [hkd, hP0, hD0, hwy]; rfl
      have hdoa : doA (nextV S) = .agg #[.int .i64 kd, .string P0, .string D0, .int .i64 wy] := by rw [doA, hdoc]
      have cN2 : Calls Tryz.prog 14 #[.pointer (some ⟨R, 0, none⟩)] wr fun e w' => e = .returned (.agg #[.int .i64 kd, .string P0, .string D0, .int .i64 wy]) ∧ (∃ q, RunIs w' L v q S.next) ∧ TBut L.B wr w' := by
        rw [ER.out, ← hdoa]
        exact cN
      have CN := hid2 cN2
      have HSI := hid2 hSI
      have HCA := hid2 hcases
      have HJ := hid2 hj
      have HDOA := hid2 hdoa
      have HFD := hid2 (show FitDo (nextV S) from fit_nextV hSI.ord hfd)
      have HFO := hid2 hfd
      have HKD := hid2 hkd
      have HP0 := hid2 hP0
      have HBE := hid2 hbe
      have HHM := hid2 hhome
      have HGK := hid2 hgk
      clear hinv hfo hfd hrun hhome hbe hgk hj hSI hcases cN cN2 hS hkd hP0 hD0 hwy hdoc hdoa
      go_upto_region 13 with (go_at_call 14; refine CN.out.mono ?_; rintro e wn ⟨rfl, ⟨q2, hr2⟩, hb2⟩; have HR2 := hid2 hr2; have HB2 := hid2 hb2; clear hr2 hb2 CN)
      obtain ⟨wx, hwx⟩ : ∃ wx, wx = wn.alloc (.cells #[.int .i64 kd, .string P0, .string D0, .int .i64 wy] 35) := ⟨_, rfl⟩
      have hbx : Below wn.heap.size wn wx := by rw [hwx]; exact (Below.refl _ _).alloc (Nat.le_refl _) _
      have hdx : wx.heap[wn.heap.size]? = some (.cells #[.int .i64 kd, .string P0, .string D0, .int .i64 wy] 35 (0, 0)) := by rw [hwx]; exact World.alloc_heap_new wn _
      have hbn : Below w.heap.size w wn := HBE.out.trans (HB2.out.below.mono BB.out)
      have hbwx : Below w.heap.size w wx := hbn.trans (hbx.mono hbn.size)
      have hhn : Home wn L := HHM.out.tbut HB2.out
      have hhx : Home wx L := hhn.tbut (TBut.of_below hbx hhn.base)
      have hrx : RunIs wx L v q2 S.next := HR2.out.below hbx
      rw [← hwx]
      obtain ⟨g, hg⟩ : ∃ g, g = wn.heap.size := ⟨_, rfl⟩
      rw [← hg] at hdx ⊢
      have HC := hid2 (show ∀ w2, TBut L.B wx w2 → w2.cell? ⟨g, 0, none⟩ = some (.int .i64 kd) ∧ w2.cell? ⟨g, 1, none⟩ = some (.string P0) ∧ w2.cell? ⟨g, 2, none⟩ = some (.string D0) ∧ w2.cell? ⟨g, 3, none⟩ = some (.int .i64 wy) from fun w2 hb => by
        have h9 := (hb.cells _ _ _ _ hdx (by decide) (by decide)).trans hdx
        exact ⟨cell_of_row w2 g 0 _ _ _ h9, cell_of_row w2 g 1 _ _ _ h9, cell_of_row w2 g 2 _ _ _ h9, cell_of_row w2 g 3 _ _ _ h9⟩)
      have y0 : wx.cell? ⟨g, 0, none⟩ = some (.int .i64 kd) := cell_of_row wx g 0 _ _ _ hdx
      have y1 : wx.cell? ⟨g, 1, none⟩ = some (.string P0) := cell_of_row wx g 1 _ _ _ hdx
      have HBX := hid2 hbwx
      have HHX := hid2 hhx
      have HRX := hid2 hrx
      clear hwx hbx hdx hbn hbwx hhn hhx hrx hg
      rcases HCA.out with ⟨hwt, hov⟩ | ⟨hwt, hov⟩ | ⟨hwt, hov⟩
      · -- it waits
        have hnv : nextV S = ⟨1, S.asks, [], 0⟩ := by rw [nextV, if_pos hwt]
        have hnx : S.next = S := by rw [PS.next, if_pos hwt]
        have hkd1 : kd = 1 := by rw [HKD.out, hnv]; rfl
        have hp0 : P0 = strB S.asks := by rw [HP0.out, hnv]
        have hal := HSI.out.ord.lim.asks
        have hwts := HSI.out.ord.waits hwt
        have hsd : ∀ k, Sound (S.run v k) := fun k => (HSI.out.run k).sound
        have hrx := HRX.out
        rw [hnx] at hrx
        have hdat := HMI.out.ans S.asks
        obtain ⟨Z, hZ⟩ : ∃ Z, Z = strB (List.replicate 65537 0) := ⟨_, rfl⟩
        obtain ⟨ZC, hZC⟩ : ∃ ZC, ZC = (u8s (List.replicate 65537 0)).toArray := ⟨_, rfl⟩
        have HMK := hid2 (fun (w2 : World) => show (Instr.makeSlice 46 (.int .i64 65537) (.int .i64 65537)).run Tryz.prog w2 = .ok (.slice (some ⟨w2.heap.size, 0, none⟩) 65537 65537) (w2.alloc (.cells ZC 5)) from by
          rw [hZC]
          exact made_u8g w2 65537 (by omega))
        have HCV := hid2 (fun (w2 : World) (sb : Nat) (h : w2.heap[sb]? = some (.cells ZC 5 (0, 0))) => show (Go.convert 46 9 (.slice (some ⟨sb, 0, none⟩) 65537 65537)).run Tryz.prog w2 = .ok (.string Z) w2 from by
          rw [hZ]
          rw [hZC] at h
          exact conv_zeros w2 sb h)
        have hkeq : ∃ (kb : Bool) (K0 K1 : ByteArray), encK (ansU U S.asks) = .agg #[.string K0, .bool kb, .string K1] := ⟨_, _, _, rfl⟩
        obtain ⟨kb, K0, K1, hke⟩ := hkeq
        have CA := hid2 (fun (w2 : World) (hb : Below w.heap.size w w2) => show Calls Tryz.prog 15 #[.slice KA un kc, .string P0] w2 fun e w' => e = .returned (.agg #[.string K0, .bool kb, .string K1]) ∧ Below w2.heap.size w2 w' from by
          have := HAN.out w2 hb S.asks
          rw [← hp0, hke] at this
          exact this)
        have CGL := hid2 (fun (w2 : World) (q : Option Nat) (hr : RunIs w2 L v q S) (hh : Home w2 L) => show Calls Tryz.prog 16 #[.pointer (some ⟨R, 0, none⟩), .agg #[.string P0, .bool true, .string Z]] w2 fun e w' => e = .returned (.int .i64 6) ∧ (∃ q, RunIs w' L v q S) ∧ TBut L.B w2 w' from by
          have hg := give_any w2 L v HMI.out.env q S hr hh hsd 0 HJ.out ⟨S.asks, true, List.replicate 65537 0⟩ ⟨by show S.asks.length ≤ _; omega, by show (List.replicate 65537 (0 : UInt8)).length ≤ _; rw [List.length_replicate]; omega⟩ (fun _ => hwts.2.1)
          have hgv : PS.gave (S.run v 0) ⟨S.asks, true, List.replicate 65537 0⟩ = (6, S) := gave_long hwt rfl rfl (by show 65536 < (List.replicate 65537 (0 : UInt8)).length; rw [List.length_replicate]; omega)
          unfold GivePost at hg
          rw [hgv, ptrV, ← ER.out] at hg
          rw [show encK ⟨S.asks, true, List.replicate 65537 0⟩ = .agg #[.string P0, .bool true, .string Z] from by rw [encK, hp0, hZ]] at hg
          exact hg)
        have CGF := hid2 (fun (w2 : World) (q : Option Nat) (hr : RunIs w2 L v q S) (hh : Home w2 L) => show Calls Tryz.prog 16 #[.pointer (some ⟨R, 0, none⟩), .agg #[.string K0, .bool kb, .string K1]] w2 fun e w' => e = .returned (.int .i64 0) ∧ (∃ q, RunIs w' L v q (S.give (nrm (ansU U S.asks)))) ∧ TBut L.B w2 w' from by
          have hg := give_any w2 L v HMI.out.env q S hr hh hsd 0 HJ.out (ansU U S.asks) ⟨by rw [ansU_path]; omega, by omega⟩ (fun _ => hwts.2.1)
          have hgv : PS.gave (S.run v 0) (ansU U S.asks) = (0, (S.give (nrm (ansU U S.asks)))) := gave_fit hwt (ansU_path _ _) hdat
          unfold GivePost at hg
          rw [hgv, ptrV, ← ER.out] at hg
          rw [show encK (ansU U S.asks) = .agg #[.string K0, .bool kb, .string K1] from hke] at hg
          exact hg)
        have CN2 := hid2 (fun (w2 : World) (q : Option Nat) (hr : RunIs w2 L v q S) (hh : Home w2 L) => show Calls Tryz.prog 14 #[.pointer (some ⟨R, 0, none⟩)] w2 fun e w' => e = .returned (.agg #[.int .i64 kd, .string P0, .string D0, .int .i64 wy]) ∧ (∃ q, RunIs w' L v q S) ∧ TBut L.B w2 w' from by
          have := next_any w2 L v HMI.out.env q S hr hh hsd 0 HJ.out
          unfold NextPost at this
          rw [show S.run v 0 = S from rfl, hnx, HDOA.out, ptrV, ← ER.out] at this
          exact this)
        have HNE := hid2 (fun (w2 : World) => show (binOp .neq 35 (.agg #[.int .i64 kd, .string P0, .string D0, .int .i64 wy]) (.agg #[.int .i64 kd, .string P0, .string D0, .int .i64 wy])).run Tryz.prog w2 = .ok (.bool false) w2 from by
          rw [← HDOA.out]
          have := run_neq_do (nextV S) (nextV S) HFD.out HFD.out w2
          rw [sameD_iff.2 rfl] at this
          exact this)
        have HRS := hid2 hrx
        have HIN2 := hid2 (HSI.out.give hwt (fun p _ => by have := HMI.out.ans p; omega))
        have htp : P0.toList = S.asks := by rw [hp0]; exact toList_strBT _
        have HWT := hid2 hwt
        have HWS := hid2 hwts
        have HTP := hid2 htp
        subst hkd1
        by_cases hpe : P.data.toList = S.asks
        · have heq2 : P.toList = P0.toList := by rw [htp, ← hpe]; exact toList_of P
          have heq : (P.toList == P0.toList) = true := by rw [heq2, beq_self_eq_true]
          clear hwt hov hnv hnx hp0 hal hwts hsd hrx hdat hZ hZC hke htp hpe
          go_upto_region 18 with fail
          obtain ⟨W, hW⟩ : ∃ W, W = wx := ⟨_, rfl⟩
          have HRW := hid2 (show ∃ q, RunIs W L v q S from by rw [hW]; exact ⟨_, HRS.out⟩)
          have HHW := hid2 (show Home W L from by rw [hW]; exact HHX.out)
          have HTW := hid2 (show TBut L.B wx W from by rw [hW]; exact TBut.refl _ _)
          have HWW := hid2 hW
          rw [← hW]
          clear hW
          by_cases hb0 : bi = 0
          · subst hb0
            refine wp_region_grd 9 (by kernel_rfl) (by kernel_rfl) (by kernel_rfl) _ rfl (by kernel_rfl) (VV [some (.int .u8 0), some (.bool true), some (.bool true), some (.pointer (some ⟨R, 0, none⟩)), some (.pointer (some ⟨g, 1, none⟩)), some (.string P0), none, some (.string Z), some (.agg #[.string P0, .bool true, .string Z])] (fun _ u w2 => ∃ sb, u = .slice (some ⟨sb, 0, none⟩) 65537 65537 ∧ w2.heap[sb]? = some (.cells ZC 5 (0, 0)))) (fun w2 => (∃ q, RunIs w2 L v q S) ∧ Home w2 L ∧ TBut L.B wx w2) (fun a b => TBut L.B a b) (⟨(let ⟨q, h⟩ := HRW.out; ⟨q, h.below (Below.refl _ _).drew⟩), HHW.out.tbut (TBut.refl _ _).drew, HTW.out.drew⟩) (fun j v w1 w2 hb hv => VV.keep (fun ⟨sb, e, h⟩ => ⟨sb, e, (hb.cells _ _ _ _ h (by decide) (by decide)).trans h⟩) hv) ?_ ?_
            · refine of_allOps ⟨?_, ?_, ?_, ?_, ?_, ?_, ?_, ?_, ?_, trivial⟩
              · intro T2 w2 hM hN hO hE K hK
                have o3 : T2[3]? = some (.int .u8 0) := hO 3 rfl
                clear hE hO hN
                refine step_plain0 rfl ?_
                go_simp
                exact hK _ _ rfl hM (TBut.refl _ _)
              · intro T2 w2 hM hN hO hE K hK
                obtain ⟨v0, h0, e0⟩ := hE ⟨0, .data⟩ (by simp) rfl _ _ rfl rfl
                rw [show v0 = .int .u8 0 from e0] at h0
                clear hE hO hN
                refine step_plain0 rfl ?_
                go_simp
                exact hK _ _ rfl hM (TBut.refl _ _)
              · intro T2 w2 hM hN hO hE K hK
                obtain ⟨v1, h1, e1⟩ := hE ⟨1, .data⟩ (by simp) rfl _ _ rfl rfl
                rw [show v1 = .bool true from e1] at h1
                clear hE hO hN
                refine step_plain0 rfl ?_
                go_simp
                exact hK _ _ rfl hM (TBut.refl _ _)
              · intro T2 w2 hM hN hO hE K hK
                have o10 : T2[10]? = some (.pointer (some ⟨R, 0, none⟩)) := hO 10 rfl
                obtain ⟨v2, h2, e2⟩ := hE ⟨2, .guard⟩ (by simp) rfl _ _ rfl rfl
                rw [show v2 = .bool true from e2] at h2
                clear hE hO hN
                refine grd_met rfl rfl rfl h2 ?_
                go_simp
                exact hK _ _ rfl hM (TBut.refl _ _)
              · intro T2 w2 hM hN hO hE K hK
                have o13 : T2[13]? = some (.pointer (some ⟨g, 0, none⟩)) := hO 13 rfl
                obtain ⟨v2, h2, e2⟩ := hE ⟨2, .guard⟩ (by simp) rfl _ _ rfl rfl
                rw [show v2 = .bool true from e2] at h2
                clear hE hO hN
                refine grd_met rfl rfl rfl h2 ?_
                go_simp
                exact hK _ _ rfl hM (TBut.refl _ _)
              · intro T2 w2 hM hN hO hE K hK
                obtain ⟨v4, h4, e4⟩ := hE ⟨4, .data⟩ (by simp) rfl _ _ rfl rfl
                rw [show v4 = .pointer (some ⟨g, 1, none⟩) from e4] at h4
                obtain ⟨v2, h2, e2⟩ := hE ⟨2, .guard⟩ (by simp) rfl _ _ rfl rfl
                rw [show v2 = .bool true from e2] at h2
                clear hE hO hN
                refine grd_met rfl rfl rfl h2 ?_
                obtain ⟨y0, y1, y2, y3⟩ := HC.out w2 hM.2.2
                go_simp
                exact hK _ _ rfl hM (TBut.refl _ _)
              · intro T2 w2 hM hN hO hE K hK
                obtain ⟨v2, h2, e2⟩ := hE ⟨2, .guard⟩ (by simp) rfl _ _ rfl rfl
                rw [show v2 = .bool true from e2] at h2
                clear hE hO hN
                refine grd_met rfl rfl rfl h2 ?_
                have hq := HMK.out w2
                go_simp
                have hx3 := TBut.of_below ((Below.refl _ w2).alloc (Nat.le_refl _) (.cells ZC 5)) hM.2.1.base
                obtain ⟨⟨qm, hrm⟩, hhm, htm⟩ := hM
                exact hK _ _ ⟨_, rfl, World.alloc_heap_new w2 _⟩ ⟨⟨qm, hrm.below ((Below.refl _ w2).alloc (Nat.le_refl _) _)⟩, hhm.tbut hx3, htm.trans hx3⟩ hx3
              · intro T2 w2 hM hN hO hE K hK
                obtain ⟨v6, h6, e6⟩ := hE ⟨6, .data⟩ (by simp) rfl _ _ rfl rfl
                obtain ⟨v2, h2, e2⟩ := hE ⟨2, .guard⟩ (by simp) rfl _ _ rfl rfl
                rw [show v2 = .bool true from e2] at h2
                clear hE hO hN
                refine grd_met rfl rfl rfl h2 ?_
                obtain ⟨sb, rfl, hsb⟩ := (show ∃ sb, v6 = .slice (some ⟨sb, 0, none⟩) 65537 65537 ∧ w2.heap[sb]? = some (.cells ZC 5 (0, 0)) from e6)
                have hq := HCV.out w2 sb hsb
                go_simp
                exact hK _ _ rfl hM (TBut.refl _ _)
              · intro T2 w2 hM hN hO hE K hK
                obtain ⟨v5, h5, e5⟩ := hE ⟨5, .data⟩ (by simp) rfl _ _ rfl rfl
                rw [show v5 = .string P0 from e5] at h5
                obtain ⟨v7, h7, e7⟩ := hE ⟨7, .data⟩ (by simp) rfl _ _ rfl rfl
                rw [show v7 = .string Z from e7] at h7
                obtain ⟨v2, h2, e2⟩ := hE ⟨2, .guard⟩ (by simp) rfl _ _ rfl rfl
                rw [show v2 = .bool true from e2] at h2
                clear hE hO hN
                refine grd_met rfl rfl rfl h2 ?_
                go_simp
                exact hK _ _ rfl hM (TBut.refl _ _)
            · intro u w2 hM hF
              have e2 : u 2 = .bool true := hF 2 (by omega)
              have e3 : u 3 = .pointer (some ⟨R, 0, none⟩) := hF 3 (by omega)
              have e8 : u 8 = .agg #[.string P0, .bool true, .string Z] := hF 8 (by omega)
              clear hF
              simp only [fillAll, Nat.reduceAdd, e2, e3, e8, List.take_succ_cons, List.take_zero, List.drop_succ_cons, List.drop_zero, List.setIfInBounds_toArray, List.set_cons_succ, List.set_cons_zero]
              obtain ⟨⟨qm, hrm⟩, hhm, htm⟩ := hM
              have HRM := hid2 hrm
              have HHM2 := hid2 hhm
              have HTM := hid2 htm
              clear hrm hhm htm
              go_upto_region 20 with (go_at_call 16; refine (CGL.out _ qm HRM.out HHM2.out).mono ?_; rintro e W5 ⟨rfl, hq5, hb5⟩; have HQ5 := hid2 hq5; have HB5 := hid2 hb5; clear hq5 hb5 CGL)
              obtain ⟨W, hW⟩ : ∃ W, W = W5 := ⟨_, rfl⟩
              rw [← hW]
              rw [← hW] at HB5 HQ5
              clear hW
              have HRW := hid2 (show ∃ q, RunIs W L v q S from HQ5.out)
              have HHW := hid2 (show Home W L from HHM2.out.tbut HB5.out)
              have HTW := hid2 (show TBut L.B wx W from HTM.out.trans HB5.out)
              refine wp_region_grd 10 (by kernel_rfl) (by kernel_rfl) (by kernel_rfl) _ rfl (by kernel_rfl) (VV [some (.pointer (some ⟨R, 0, none⟩)), some (.agg #[.int .i64 1, .string P0, .string D0, .int .i64 wy]), some (.agg #[.int .i64 1, .string P0, .string D0, .int .i64 wy]), some (.bool false), some (.bool false), some (.pointer (some ⟨R, 0, none⟩)), some (.slice KA un kc), some (.pointer (some ⟨g, 1, none⟩)), some (.string P0), some (.agg #[.string K0, .bool kb, .string K1])] (fun _ _ _ => False)) (fun w2 => (∃ q, RunIs w2 L v q S) ∧ Home w2 L ∧ TBut L.B wx w2) (fun a b => TBut L.B a b) (⟨(let ⟨q, h⟩ := HRW.out; ⟨q, h.below (Below.refl _ _).drew⟩), HHW.out.tbut (TBut.refl _ _).drew, HTW.out.drew⟩) (fun j v w1 w2 hb hv => VV.keep (fun h => h.elim) hv) ?_ ?_
              · refine of_allOps ⟨?_, ?_, ?_, ?_, ?_, ?_, ?_, ?_, ?_, ?_, trivial⟩
                · intro T2 w2 hM hN hO hE K hK
                  have o10 : T2[10]? = some (.pointer (some ⟨R, 0, none⟩)) := hO 10 rfl
                  clear hE hO hN
                  refine step_plain0 rfl ?_
                  go_simp
                  exact hK _ _ rfl hM (TBut.refl _ _)
                · intro T2 w2 hM hN hO hE K hK
                  obtain ⟨v0, h0, e0⟩ := hE ⟨0, .data⟩ (by simp) rfl _ _ rfl rfl
                  rw [show v0 = .pointer (some ⟨R, 0, none⟩) from e0] at h0
                  clear hE hO hN
                  refine step_plain0 rfl ?_
                  go_simp
                  obtain ⟨⟨qm, hrm⟩, hhm, htm⟩ := hM
                  refine (CN2.out w2 qm hrm hhm).mono ?_
                  rintro e w3 ⟨rfl, hq3, hb3⟩
                  exact hK _ _ rfl ⟨hq3, hhm.tbut hb3, htm.trans hb3⟩ hb3
                · intro T2 w2 hM hN hO hE K hK
                  have o13 : T2[13]? = some (.pointer (some ⟨g, 0, none⟩)) := hO 13 rfl
                  clear hE hO hN
                  refine step_plain0 rfl ?_
                  obtain ⟨y0, y1, y2, y3⟩ := HC.out w2 hM.2.2
                  go_simp
                  exact hK _ _ rfl hM (TBut.refl _ _)
                · intro T2 w2 hM hN hO hE K hK
                  obtain ⟨v1, h1, e1⟩ := hE ⟨1, .data⟩ (by simp) rfl _ _ rfl rfl
                  rw [show v1 = .agg #[.int .i64 1, .string P0, .string D0, .int .i64 wy] from e1] at h1
                  obtain ⟨v2, h2, e2⟩ := hE ⟨2, .data⟩ (by simp) rfl _ _ rfl rfl
                  rw [show v2 = .agg #[.int .i64 1, .string P0, .string D0, .int .i64 wy] from e2] at h2
                  clear hE hO hN
                  refine step_plain0 rfl ?_
                  have hq := HNE.out w2
                  go_simp
                  exact hK _ _ rfl hM (TBut.refl _ _)
                · intro T2 w2 hM hN hO hE K hK
                  obtain ⟨v3, h3, e3⟩ := hE ⟨3, .data⟩ (by simp) rfl _ _ rfl rfl
                  rw [show v3 = .bool false from e3] at h3
                  clear hE hO hN
                  refine step_plain0 rfl ?_
                  go_simp
                  exact hK _ _ rfl hM (TBut.refl _ _)
                · intro T2 w2 hM hN hO hE K hK
                  have o10 : T2[10]? = some (.pointer (some ⟨R, 0, none⟩)) := hO 10 rfl
                  obtain ⟨v4, h4, e4⟩ := hE ⟨4, .guard⟩ (by simp) rfl _ _ rfl rfl
                  rw [show v4 = .bool false from e4] at h4
                  clear hE hO hN
                  refine grd_met rfl rfl rfl h4 ?_
                  go_simp
                  exact hK _ _ rfl hM (TBut.refl _ _)
                · intro T2 w2 hM hN hO hE K hK
                  have o1 : T2[1]? = some (.slice KA un kc) := hO 1 rfl
                  obtain ⟨v4, h4, e4⟩ := hE ⟨4, .guard⟩ (by simp) rfl _ _ rfl rfl
                  rw [show v4 = .bool false from e4] at h4
                  clear hE hO hN
                  refine grd_met rfl rfl rfl h4 ?_
                  go_simp
                  exact hK _ _ rfl hM (TBut.refl _ _)
                · intro T2 w2 hM hN hO hE K hK
                  have o13 : T2[13]? = some (.pointer (some ⟨g, 0, none⟩)) := hO 13 rfl
                  obtain ⟨v4, h4, e4⟩ := hE ⟨4, .guard⟩ (by simp) rfl _ _ rfl rfl
                  rw [show v4 = .bool false from e4] at h4
                  clear hE hO hN
                  refine grd_met rfl rfl rfl h4 ?_
                  go_simp
                  exact hK _ _ rfl hM (TBut.refl _ _)
                · intro T2 w2 hM hN hO hE K hK
                  obtain ⟨v7, h7, e7⟩ := hE ⟨7, .data⟩ (by simp) rfl _ _ rfl rfl
                  rw [show v7 = .pointer (some ⟨g, 1, none⟩) from e7] at h7
                  obtain ⟨v4, h4, e4⟩ := hE ⟨4, .guard⟩ (by simp) rfl _ _ rfl rfl
                  rw [show v4 = .bool false from e4] at h4
                  clear hE hO hN
                  refine grd_met rfl rfl rfl h4 ?_
                  obtain ⟨y0, y1, y2, y3⟩ := HC.out w2 hM.2.2
                  go_simp
                  exact hK _ _ rfl hM (TBut.refl _ _)
                · intro T2 w2 hM hN hO hE K hK
                  obtain ⟨v6, h6, e6⟩ := hE ⟨6, .data⟩ (by simp) rfl _ _ rfl rfl
                  rw [show v6 = .slice KA un kc from e6] at h6
                  obtain ⟨v8, h8, e8⟩ := hE ⟨8, .data⟩ (by simp) rfl _ _ rfl rfl
                  rw [show v8 = .string P0 from e8] at h8
                  obtain ⟨v4, h4, e4⟩ := hE ⟨4, .guard⟩ (by simp) rfl _ _ rfl rfl
                  rw [show v4 = .bool false from e4] at h4
                  clear hE hO hN
                  refine grd_met rfl rfl rfl h4 ?_
                  go_simp
                  refine (CA.out w2 (HBX.out.trans (hM.2.2.below.mono BB.out))).mono ?_
                  rintro e w3 ⟨rfl, hb3⟩
                  obtain ⟨⟨qm, hrm⟩, hhm, htm⟩ := hM
                  have hx3 := TBut.of_below hb3 hhm.base
                  exact hK _ _ rfl ⟨⟨qm, hrm.below hb3⟩, hhm.tbut hx3, htm.trans hx3⟩ hx3
              · intro u w2 hM hF
                have e4 : u 4 = .bool false := hF 4 (by omega)
                have e5 : u 5 = .pointer (some ⟨R, 0, none⟩) := hF 5 (by omega)
                have e9 : u 9 = .agg #[.string K0, .bool kb, .string K1] := hF 9 (by omega)
                clear hF
                simp only [fillAll, Nat.reduceAdd, e4, e5, e9, List.take_succ_cons, List.take_zero, List.drop_succ_cons, List.drop_zero, List.setIfInBounds_toArray, List.set_cons_succ, List.set_cons_zero]
                obtain ⟨⟨qm, hrm⟩, hhm, htm⟩ := hM
                have HRM := hid2 hrm
                have HHM2 := hid2 hhm
                have HTM := hid2 htm
                clear hrm hhm htm
                go_wp2_with (go_at_call 16; refine (CGF.out _ qm HRM.out HHM2.out).mono ?_; rintro e w5 ⟨rfl, ⟨q5, hr5⟩, hb5⟩; have HR5 := hid2 hr5; have HB5 := hid2 hb5; clear hr5 hb5 CGF)
                go_roundg (gk - 1)
                case rel => exact ⟨i + 1, _, q5, by have := HGK.out; omega, by go_num, HIN2.out, HFO.out, HR5.out, HHM2.out.tbut HB5.out, HBX.out.trans ((HTM.out.trans HB5.out).below.mono BB.out)⟩
                case measure => have := HGK.out; omega
          · have hbb0 : (bi == 0) = false := by rw [beq_eq_false_iff_ne]; exact hb0
            refine wp_region_grd 12 (by kernel_rfl) (by kernel_rfl) (by kernel_rfl) _ rfl (by kernel_rfl) (VV [some (.int .u8 bi), some (.bool false), some (.bool false), some (undef), some (undef), some (undef), some (undef), some (undef), some (undef), some (undef), some (undef), some (.bool false)] (fun _ _ _ => False)) (fun w2 => (∃ q, RunIs w2 L v q S) ∧ Home w2 L ∧ TBut L.B wx w2) (fun a b => TBut L.B a b) (⟨(let ⟨q, h⟩ := HRW.out; ⟨q, h.below (Below.refl _ _).drew⟩), HHW.out.tbut (TBut.refl _ _).drew, HTW.out.drew⟩) (fun j v w1 w2 hb hv => VV.keep (fun h => h.elim) hv) ?_ ?_
            · refine of_allOps ⟨?_, ?_, ?_, ?_, ?_, ?_, ?_, ?_, ?_, ?_, ?_, ?_, trivial⟩
              · intro T2 w2 hM hN hO hE K hK
                have o3 : T2[3]? = some (.int .u8 bi) := hO 3 rfl
                clear hE hO hN
                refine step_plain0 rfl ?_
                go_simp
                exact hK _ _ rfl hM (TBut.refl _ _)
              · intro T2 w2 hM hN hO hE K hK
                obtain ⟨v0, h0, e0⟩ := hE ⟨0, .data⟩ (by simp) rfl _ _ rfl rfl
                rw [show v0 = .int .u8 bi from e0] at h0
                clear hE hO hN
                refine step_plain0 rfl ?_
                go_simp
                exact hK _ _ rfl hM (TBut.refl _ _)
              · intro T2 w2 hM hN hO hE K hK
                obtain ⟨v1, h1, e1⟩ := hE ⟨1, .data⟩ (by simp) rfl _ _ rfl rfl
                rw [show v1 = .bool false from e1] at h1
                clear hE hO hN
                refine step_plain0 rfl ?_
                go_simp
                exact hK _ _ rfl hM (TBut.refl _ _)
              · intro T2 w2 hM hN hO hE K hK
                obtain ⟨v2, h2, e2⟩ := hE ⟨2, .guard⟩ (by simp) rfl _ _ rfl rfl
                rw [show v2 = .bool false from e2] at h2
                clear hE hO hN
                refine grd_not rfl rfl rfl h2 (by decide) ?_
                exact hK _ _ rfl hM (TBut.refl _ _)
              · intro T2 w2 hM hN hO hE K hK
                obtain ⟨v2, h2, e2⟩ := hE ⟨2, .guard⟩ (by simp) rfl _ _ rfl rfl
                rw [show v2 = .bool false from e2] at h2
                clear hE hO hN
                refine grd_not rfl rfl rfl h2 (by decide) ?_
                exact hK _ _ rfl hM (TBut.refl _ _)
              · intro T2 w2 hM hN hO hE K hK
                obtain ⟨v2, h2, e2⟩ := hE ⟨2, .guard⟩ (by simp) rfl _ _ rfl rfl
                rw [show v2 = .bool false from e2] at h2
                clear hE hO hN
                refine grd_not rfl rfl rfl h2 (by decide) ?_
                exact hK _ _ rfl hM (TBut.refl _ _)
              · intro T2 w2 hM hN hO hE K hK
                obtain ⟨v2, h2, e2⟩ := hE ⟨2, .guard⟩ (by simp) rfl _ _ rfl rfl
                rw [show v2 = .bool false from e2] at h2
                clear hE hO hN
                refine grd_not rfl rfl rfl h2 (by decide) ?_
                exact hK _ _ rfl hM (TBut.refl _ _)
              · intro T2 w2 hM hN hO hE K hK
                obtain ⟨v2, h2, e2⟩ := hE ⟨2, .guard⟩ (by simp) rfl _ _ rfl rfl
                rw [show v2 = .bool false from e2] at h2
                clear hE hO hN
                refine grd_not rfl rfl rfl h2 (by decide) ?_
                exact hK _ _ rfl hM (TBut.refl _ _)
              · intro T2 w2 hM hN hO hE K hK
                obtain ⟨v2, h2, e2⟩ := hE ⟨2, .guard⟩ (by simp) rfl _ _ rfl rfl
                rw [show v2 = .bool false from e2] at h2
                clear hE hO hN
                refine grd_not rfl rfl rfl h2 (by decide) ?_
                exact hK _ _ rfl hM (TBut.refl _ _)
              · intro T2 w2 hM hN hO hE K hK
                obtain ⟨v2, h2, e2⟩ := hE ⟨2, .guard⟩ (by simp) rfl _ _ rfl rfl
                rw [show v2 = .bool false from e2] at h2
                clear hE hO hN
                refine grd_not rfl rfl rfl h2 (by decide) ?_
                exact hK _ _ rfl hM (TBut.refl _ _)
              · intro T2 w2 hM hN hO hE K hK
                obtain ⟨v2, h2, e2⟩ := hE ⟨2, .guard⟩ (by simp) rfl _ _ rfl rfl
                rw [show v2 = .bool false from e2] at h2
                clear hE hO hN
                refine grd_not rfl rfl rfl h2 (by decide) ?_
                exact hK _ _ rfl hM (TBut.refl _ _)
              · intro T2 w2 hM hN hO hE K hK
                obtain ⟨v2, h2, e2⟩ := hE ⟨2, .data⟩ (by simp) rfl _ _ rfl rfl
                rw [show v2 = .bool false from e2] at h2
                obtain ⟨v10, h10, e10⟩ := hE ⟨10, .data⟩ (by simp) rfl _ _ rfl rfl
                rw [show v10 = undef from e10] at h10
                clear hE hO hN
                refine step_plain0 rfl ?_
                go_simp
                exact hK _ _ rfl hM (TBut.refl _ _)
            · intro u w2 hM hF
              have e11 : u 11 = .bool false := hF 11 (by omega)
              clear hF
              simp only [fillAll, Nat.reduceAdd, e11, List.take_succ_cons, List.take_zero, List.drop_succ_cons, List.drop_zero, List.setIfInBounds_toArray, List.set_cons_succ, List.set_cons_zero]
              obtain ⟨hrm, hhm, htm⟩ := hM
              obtain ⟨W, hW⟩ : ∃ W, W = w2 := ⟨_, rfl⟩
              rw [← hW] at hrm hhm htm ⊢
              clear hW HRW HHW HTW
              have HRW := hid2 (show ∃ q, RunIs W L v q S from hrm)
              have HHW := hid2 (show Home W L from hhm)
              have HTW := hid2 (show TBut L.B wx W from htm)
              clear hrm hhm htm
              go_upto_region 20 with fail
              refine wp_region_grd 10 (by kernel_rfl) (by kernel_rfl) (by kernel_rfl) _ rfl (by kernel_rfl) (VV [some (.pointer (some ⟨R, 0, none⟩)), some (.agg #[.int .i64 1, .string P0, .string D0, .int .i64 wy]), some (.agg #[.int .i64 1, .string P0, .string D0, .int .i64 wy]), some (.bool false), some (.bool false), some (.pointer (some ⟨R, 0, none⟩)), some (.slice KA un kc), some (.pointer (some ⟨g, 1, none⟩)), some (.string P0), some (.agg #[.string K0, .bool kb, .string K1])] (fun _ _ _ => False)) (fun w2 => (∃ q, RunIs w2 L v q S) ∧ Home w2 L ∧ TBut L.B wx w2) (fun a b => TBut L.B a b) (⟨(let ⟨q, h⟩ := HRW.out; ⟨q, h.below (Below.refl _ _).drew⟩), HHW.out.tbut (TBut.refl _ _).drew, HTW.out.drew⟩) (fun j v w1 w2 hb hv => VV.keep (fun h => h.elim) hv) ?_ ?_
              · refine of_allOps ⟨?_, ?_, ?_, ?_, ?_, ?_, ?_, ?_, ?_, ?_, trivial⟩
                · intro T2 w2 hM hN hO hE K hK
                  have o10 : T2[10]? = some (.pointer (some ⟨R, 0, none⟩)) := hO 10 rfl
                  clear hE hO hN
                  refine step_plain0 rfl ?_
                  go_simp
                  exact hK _ _ rfl hM (TBut.refl _ _)
                · intro T2 w2 hM hN hO hE K hK
                  obtain ⟨v0, h0, e0⟩ := hE ⟨0, .data⟩ (by simp) rfl _ _ rfl rfl
                  rw [show v0 = .pointer (some ⟨R, 0, none⟩) from e0] at h0
                  clear hE hO hN
                  refine step_plain0 rfl ?_
                  go_simp
                  obtain ⟨⟨qm, hrm⟩, hhm, htm⟩ := hM
                  refine (CN2.out w2 qm hrm hhm).mono ?_
                  rintro e w3 ⟨rfl, hq3, hb3⟩
                  exact hK _ _ rfl ⟨hq3, hhm.tbut hb3, htm.trans hb3⟩ hb3
                · intro T2 w2 hM hN hO hE K hK
                  have o13 : T2[13]? = some (.pointer (some ⟨g, 0, none⟩)) := hO 13 rfl
                  clear hE hO hN
                  refine step_plain0 rfl ?_
                  obtain ⟨y0, y1, y2, y3⟩ := HC.out w2 hM.2.2
                  go_simp
                  exact hK _ _ rfl hM (TBut.refl _ _)
                · intro T2 w2 hM hN hO hE K hK
                  obtain ⟨v1, h1, e1⟩ := hE ⟨1, .data⟩ (by simp) rfl _ _ rfl rfl
                  rw [show v1 = .agg #[.int .i64 1, .string P0, .string D0, .int .i64 wy] from e1] at h1
                  obtain ⟨v2, h2, e2⟩ := hE ⟨2, .data⟩ (by simp) rfl _ _ rfl rfl
                  rw [show v2 = .agg #[.int .i64 1, .string P0, .string D0, .int .i64 wy] from e2] at h2
                  clear hE hO hN
                  refine step_plain0 rfl ?_
                  have hq := HNE.out w2
                  go_simp
                  exact hK _ _ rfl hM (TBut.refl _ _)
                · intro T2 w2 hM hN hO hE K hK
                  obtain ⟨v3, h3, e3⟩ := hE ⟨3, .data⟩ (by simp) rfl _ _ rfl rfl
                  rw [show v3 = .bool false from e3] at h3
                  clear hE hO hN
                  refine step_plain0 rfl ?_
                  go_simp
                  exact hK _ _ rfl hM (TBut.refl _ _)
                · intro T2 w2 hM hN hO hE K hK
                  have o10 : T2[10]? = some (.pointer (some ⟨R, 0, none⟩)) := hO 10 rfl
                  obtain ⟨v4, h4, e4⟩ := hE ⟨4, .guard⟩ (by simp) rfl _ _ rfl rfl
                  rw [show v4 = .bool false from e4] at h4
                  clear hE hO hN
                  refine grd_met rfl rfl rfl h4 ?_
                  go_simp
                  exact hK _ _ rfl hM (TBut.refl _ _)
                · intro T2 w2 hM hN hO hE K hK
                  have o1 : T2[1]? = some (.slice KA un kc) := hO 1 rfl
                  obtain ⟨v4, h4, e4⟩ := hE ⟨4, .guard⟩ (by simp) rfl _ _ rfl rfl
                  rw [show v4 = .bool false from e4] at h4
                  clear hE hO hN
                  refine grd_met rfl rfl rfl h4 ?_
                  go_simp
                  exact hK _ _ rfl hM (TBut.refl _ _)
                · intro T2 w2 hM hN hO hE K hK
                  have o13 : T2[13]? = some (.pointer (some ⟨g, 0, none⟩)) := hO 13 rfl
                  obtain ⟨v4, h4, e4⟩ := hE ⟨4, .guard⟩ (by simp) rfl _ _ rfl rfl
                  rw [show v4 = .bool false from e4] at h4
                  clear hE hO hN
                  refine grd_met rfl rfl rfl h4 ?_
                  go_simp
                  exact hK _ _ rfl hM (TBut.refl _ _)
                · intro T2 w2 hM hN hO hE K hK
                  obtain ⟨v7, h7, e7⟩ := hE ⟨7, .data⟩ (by simp) rfl _ _ rfl rfl
                  rw [show v7 = .pointer (some ⟨g, 1, none⟩) from e7] at h7
                  obtain ⟨v4, h4, e4⟩ := hE ⟨4, .guard⟩ (by simp) rfl _ _ rfl rfl
                  rw [show v4 = .bool false from e4] at h4
                  clear hE hO hN
                  refine grd_met rfl rfl rfl h4 ?_
                  obtain ⟨y0, y1, y2, y3⟩ := HC.out w2 hM.2.2
                  go_simp
                  exact hK _ _ rfl hM (TBut.refl _ _)
                · intro T2 w2 hM hN hO hE K hK
                  obtain ⟨v6, h6, e6⟩ := hE ⟨6, .data⟩ (by simp) rfl _ _ rfl rfl
                  rw [show v6 = .slice KA un kc from e6] at h6
                  obtain ⟨v8, h8, e8⟩ := hE ⟨8, .data⟩ (by simp) rfl _ _ rfl rfl
                  rw [show v8 = .string P0 from e8] at h8
                  obtain ⟨v4, h4, e4⟩ := hE ⟨4, .guard⟩ (by simp) rfl _ _ rfl rfl
                  rw [show v4 = .bool false from e4] at h4
                  clear hE hO hN
                  refine grd_met rfl rfl rfl h4 ?_
                  go_simp
                  refine (CA.out w2 (HBX.out.trans (hM.2.2.below.mono BB.out))).mono ?_
                  rintro e w3 ⟨rfl, hb3⟩
                  obtain ⟨⟨qm, hrm⟩, hhm, htm⟩ := hM
                  have hx3 := TBut.of_below hb3 hhm.base
                  exact hK _ _ rfl ⟨⟨qm, hrm.below hb3⟩, hhm.tbut hx3, htm.trans hx3⟩ hx3
              · intro u w2 hM hF
                have e4 : u 4 = .bool false := hF 4 (by omega)
                have e5 : u 5 = .pointer (some ⟨R, 0, none⟩) := hF 5 (by omega)
                have e9 : u 9 = .agg #[.string K0, .bool kb, .string K1] := hF 9 (by omega)
                clear hF
                simp only [fillAll, Nat.reduceAdd, e4, e5, e9, List.take_succ_cons, List.take_zero, List.drop_succ_cons, List.drop_zero, List.setIfInBounds_toArray, List.set_cons_succ, List.set_cons_zero]
                obtain ⟨⟨qm, hrm⟩, hhm, htm⟩ := hM
                have HRM := hid2 hrm
                have HHM2 := hid2 hhm
                have HTM := hid2 htm
                clear hrm hhm htm
                go_wp2_with (go_at_call 16; refine (CGF.out _ qm HRM.out HHM2.out).mono ?_; rintro e w5 ⟨rfl, ⟨q5, hr5⟩, hb5⟩; have HR5 := hid2 hr5; have HB5 := hid2 hb5; clear hr5 hb5 CGF)
                go_roundg (gk - 1)
                case rel => exact ⟨i + 1, _, q5, by have := HGK.out; omega, by go_num, HIN2.out, HFO.out, HR5.out, HHM2.out.tbut HB5.out, HBX.out.trans ((HTM.out.trans HB5.out).below.mono BB.out)⟩
                case measure => have := HGK.out; omega
        · have hneq2 : ¬ P.toList = P0.toList := by rw [htp, toList_of P]; exact hpe
          have hneq : (P.toList == P0.toList) = false := by rw [beq_eq_false_iff_ne]; exact hneq2
          have CGO := hid2 (fun (w2 : World) (q : Option Nat) (hr : RunIs w2 L v q S) (hh : Home w2 L) => show Calls Tryz.prog 16 #[.pointer (some ⟨R, 0, none⟩), .agg #[.string P, .bool true, .string { data := #[120] }]] w2 fun e w' => e = .returned (.int .i64 1) ∧ (∃ q, RunIs w' L v q S) ∧ TBut L.B w2 w' from by
            have hg := give_any w2 L v HMI.out.env q S hr hh hsd 0 HJ.out ⟨P.data.toList, true, [120]⟩ ⟨by show P.data.toList.length ≤ _; rw [toList_len3]; omega, by show (1 : Nat) ≤ 1000000000; omega⟩ (fun _ => hwts.2.1)
            have hgv : PS.gave (S.run v 0) ⟨P.data.toList, true, [120]⟩ = (1, S) := gave_other hwt hpe
            unfold GivePost at hg
            rw [hgv, ptrV, ← ER.out] at hg
            rw [show encK ⟨P.data.toList, true, [120]⟩ = .agg #[.string P, .bool true, .string { data := #[120] }] from by rw [encK, strB_of]; rfl] at hg
            exact hg)
          clear hwt hov hnv hnx hp0 hal hwts hsd hrx hdat hZ hZC hke htp hpe
          go_upto_region 18 with (go_at_call 16; refine (CGO.out _ q2 HRS.out HHX.out).mono ?_; rintro e W ⟨rfl, hq3, hb3⟩; have HRW := hid2 hq3; have HHW := hid2 (HHX.out.tbut hb3); have HTW := hid2 hb3; clear hq3 hb3 CGO)
          by_cases hb0 : bi = 0
          · subst hb0
            refine wp_region_grd 9 (by kernel_rfl) (by kernel_rfl) (by kernel_rfl) _ rfl (by kernel_rfl) (VV [some (.int .u8 0), some (.bool true), some (.bool true), some (.pointer (some ⟨R, 0, none⟩)), some (.pointer (some ⟨g, 1, none⟩)), some (.string P0), none, some (.string Z), some (.agg #[.string P0, .bool true, .string Z])] (fun _ u w2 => ∃ sb, u = .slice (some ⟨sb, 0, none⟩) 65537 65537 ∧ w2.heap[sb]? = some (.cells ZC 5 (0, 0)))) (fun w2 => (∃ q, RunIs w2 L v q S) ∧ Home w2 L ∧ TBut L.B wx w2) (fun a b => TBut L.B a b) (⟨(let ⟨q, h⟩ := HRW.out; ⟨q, h.below (Below.refl _ _).drew⟩), HHW.out.tbut (TBut.refl _ _).drew, HTW.out.drew⟩) (fun j v w1 w2 hb hv => VV.keep (fun ⟨sb, e, h⟩ => ⟨sb, e, (hb.cells _ _ _ _ h (by decide) (by decide)).trans h⟩) hv) ?_ ?_
            · refine of_allOps ⟨?_, ?_, ?_, ?_, ?_, ?_, ?_, ?_, ?_, trivial⟩
              · intro T2 w2 hM hN hO hE K hK
                have o3 : T2[3]? = some (.int .u8 0) := hO 3 rfl
                clear hE hO hN
                refine step_plain0 rfl ?_
                go_simp
                exact hK _ _ rfl hM (TBut.refl _ _)
              · intro T2 w2 hM hN hO hE K hK
                obtain ⟨v0, h0, e0⟩ := hE ⟨0, .data⟩ (by simp) rfl _ _ rfl rfl
                rw [show v0 = .int .u8 0 from e0] at h0
                clear hE hO hN
                refine step_plain0 rfl ?_
                go_simp
                exact hK _ _ rfl hM (TBut.refl _ _)
              · intro T2 w2 hM hN hO hE K hK
                obtain ⟨v1, h1, e1⟩ := hE ⟨1, .data⟩ (by simp) rfl _ _ rfl rfl
                rw [show v1 = .bool true from e1] at h1
                clear hE hO hN
                refine step_plain0 rfl ?_
                go_simp
                exact hK _ _ rfl hM (TBut.refl _ _)
              · intro T2 w2 hM hN hO hE K hK
                have o10 : T2[10]? = some (.pointer (some ⟨R, 0, none⟩)) := hO 10 rfl
                obtain ⟨v2, h2, e2⟩ := hE ⟨2, .guard⟩ (by simp) rfl _ _ rfl rfl
                rw [show v2 = .bool true from e2] at h2
                clear hE hO hN
                refine grd_met rfl rfl rfl h2 ?_
                go_simp
                exact hK _ _ rfl hM (TBut.refl _ _)
              · intro T2 w2 hM hN hO hE K hK
                have o13 : T2[13]? = some (.pointer (some ⟨g, 0, none⟩)) := hO 13 rfl
                obtain ⟨v2, h2, e2⟩ := hE ⟨2, .guard⟩ (by simp) rfl _ _ rfl rfl
                rw [show v2 = .bool true from e2] at h2
                clear hE hO hN
                refine grd_met rfl rfl rfl h2 ?_
                go_simp
                exact hK _ _ rfl hM (TBut.refl _ _)
              · intro T2 w2 hM hN hO hE K hK
                obtain ⟨v4, h4, e4⟩ := hE ⟨4, .data⟩ (by simp) rfl _ _ rfl rfl
                rw [show v4 = .pointer (some ⟨g, 1, none⟩) from e4] at h4
                obtain ⟨v2, h2, e2⟩ := hE ⟨2, .guard⟩ (by simp) rfl _ _ rfl rfl
                rw [show v2 = .bool true from e2] at h2
                clear hE hO hN
                refine grd_met rfl rfl rfl h2 ?_
                obtain ⟨y0, y1, y2, y3⟩ := HC.out w2 hM.2.2
                go_simp
                exact hK _ _ rfl hM (TBut.refl _ _)
              · intro T2 w2 hM hN hO hE K hK
                obtain ⟨v2, h2, e2⟩ := hE ⟨2, .guard⟩ (by simp) rfl _ _ rfl rfl
                rw [show v2 = .bool true from e2] at h2
                clear hE hO hN
                refine grd_met rfl rfl rfl h2 ?_
                have hq := HMK.out w2
                go_simp
                have hx3 := TBut.of_below ((Below.refl _ w2).alloc (Nat.le_refl _) (.cells ZC 5)) hM.2.1.base
                obtain ⟨⟨qm, hrm⟩, hhm, htm⟩ := hM
                exact hK _ _ ⟨_, rfl, World.alloc_heap_new w2 _⟩ ⟨⟨qm, hrm.below ((Below.refl _ w2).alloc (Nat.le_refl _) _)⟩, hhm.tbut hx3, htm.trans hx3⟩ hx3
              · intro T2 w2 hM hN hO hE K hK
                obtain ⟨v6, h6, e6⟩ := hE ⟨6, .data⟩ (by simp) rfl _ _ rfl rfl
                obtain ⟨v2, h2, e2⟩ := hE ⟨2, .guard⟩ (by simp) rfl _ _ rfl rfl
                rw [show v2 = .bool true from e2] at h2
                clear hE hO hN
                refine grd_met rfl rfl rfl h2 ?_
                obtain ⟨sb, rfl, hsb⟩ := (show ∃ sb, v6 = .slice (some ⟨sb, 0, none⟩) 65537 65537 ∧ w2.heap[sb]? = some (.cells ZC 5 (0, 0)) from e6)
                have hq := HCV.out w2 sb hsb
                go_simp
                exact hK _ _ rfl hM (TBut.refl _ _)
              · intro T2 w2 hM hN hO hE K hK
                obtain ⟨v5, h5, e5⟩ := hE ⟨5, .data⟩ (by simp) rfl _ _ rfl rfl
                rw [show v5 = .string P0 from e5] at h5
                obtain ⟨v7, h7, e7⟩ := hE ⟨7, .data⟩ (by simp) rfl _ _ rfl rfl
                rw [show v7 = .string Z from e7] at h7
                obtain ⟨v2, h2, e2⟩ := hE ⟨2, .guard⟩ (by simp) rfl _ _ rfl rfl
                rw [show v2 = .bool true from e2] at h2
                clear hE hO hN
                refine grd_met rfl rfl rfl h2 ?_
                go_simp
                exact hK _ _ rfl hM (TBut.refl _ _)
            · intro u w2 hM hF
              have e2 : u 2 = .bool true := hF 2 (by omega)
              have e3 : u 3 = .pointer (some ⟨R, 0, none⟩) := hF 3 (by omega)
              have e8 : u 8 = .agg #[.string P0, .bool true, .string Z] := hF 8 (by omega)
              clear hF
              simp only [fillAll, Nat.reduceAdd, e2, e3, e8, List.take_succ_cons, List.take_zero, List.drop_succ_cons, List.drop_zero, List.setIfInBounds_toArray, List.set_cons_succ, List.set_cons_zero]
              obtain ⟨⟨qm, hrm⟩, hhm, htm⟩ := hM
              have HRM := hid2 hrm
              have HHM2 := hid2 hhm
              have HTM := hid2 htm
              clear hrm hhm htm
              go_upto_region 20 with (go_at_call 16; refine (CGL.out _ qm HRM.out HHM2.out).mono ?_; rintro e W5 ⟨rfl, hq5, hb5⟩; have HQ5 := hid2 hq5; have HB5 := hid2 hb5; clear hq5 hb5 CGL)
              obtain ⟨W, hW⟩ : ∃ W, W = W5 := ⟨_, rfl⟩
              rw [← hW]
              rw [← hW] at HB5 HQ5
              clear hW
              have HRW := hid2 (show ∃ q, RunIs W L v q S from HQ5.out)
              have HHW := hid2 (show Home W L from HHM2.out.tbut HB5.out)
              have HTW := hid2 (show TBut L.B wx W from HTM.out.trans HB5.out)
              refine wp_region_grd 10 (by kernel_rfl) (by kernel_rfl) (by kernel_rfl) _ rfl (by kernel_rfl) (VV [some (.pointer (some ⟨R, 0, none⟩)), some (.agg #[.int .i64 1, .string P0, .string D0, .int .i64 wy]), some (.agg #[.int .i64 1, .string P0, .string D0, .int .i64 wy]), some (.bool false), some (.bool false), some (.pointer (some ⟨R, 0, none⟩)), some (.slice KA un kc), some (.pointer (some ⟨g, 1, none⟩)), some (.string P0), some (.agg #[.string K0, .bool kb, .string K1])] (fun _ _ _ => False)) (fun w2 => (∃ q, RunIs w2 L v q S) ∧ Home w2 L ∧ TBut L.B wx w2) (fun a b => TBut L.B a b) (⟨(let ⟨q, h⟩ := HRW.out; ⟨q, h.below (Below.refl _ _).drew⟩), HHW.out.tbut (TBut.refl _ _).drew, HTW.out.drew⟩) (fun j v w1 w2 hb hv => VV.keep (fun h => h.elim) hv) ?_ ?_
              · refine of_allOps ⟨?_, ?_, ?_, ?_, ?_, ?_, ?_, ?_, ?_, ?_, trivial⟩
                · intro T2 w2 hM hN hO hE K hK
                  have o10 : T2[10]? = some (.pointer (some ⟨R, 0, none⟩)) := hO 10 rfl
                  clear hE hO hN
                  refine step_plain0 rfl ?_
                  go_simp
                  exact hK _ _ rfl hM (TBut.refl _ _)
                · intro T2 w2 hM hN hO hE K hK
                  obtain ⟨v0, h0, e0⟩ := hE ⟨0, .data⟩ (by simp) rfl _ _ rfl rfl
                  rw [show v0 = .pointer (some ⟨R, 0, none⟩) from e0] at h0
                  clear hE hO hN
                  refine step_plain0 rfl ?_
                  go_simp
                  obtain ⟨⟨qm, hrm⟩, hhm, htm⟩ := hM
                  refine (CN2.out w2 qm hrm hhm).mono ?_
                  rintro e w3 ⟨rfl, hq3, hb3⟩
                  exact hK _ _ rfl ⟨hq3, hhm.tbut hb3, htm.trans hb3⟩ hb3
                · intro T2 w2 hM hN hO hE K hK
                  have o13 : T2[13]? = some (.pointer (some ⟨g, 0, none⟩)) := hO 13 rfl
                  clear hE hO hN
                  refine step_plain0 rfl ?_
                  obtain ⟨y0, y1, y2, y3⟩ := HC.out w2 hM.2.2
                  go_simp
                  exact hK _ _ rfl hM (TBut.refl _ _)
                · intro T2 w2 hM hN hO hE K hK
                  obtain ⟨v1, h1, e1⟩ := hE ⟨1, .data⟩ (by simp) rfl _ _ rfl rfl
                  rw [show v1 = .agg #[.int .i64 1, .string P0, .string D0, .int .i64 wy] from e1] at h1
                  obtain ⟨v2, h2, e2⟩ := hE ⟨2, .data⟩ (by simp) rfl _ _ rfl rfl
                  rw [show v2 = .agg #[.int .i64 1, .string P0, .string D0, .int .i64 wy] from e2] at h2
                  clear hE hO hN
                  refine step_plain0 rfl ?_
                  have hq := HNE.out w2
                  go_simp
                  exact hK _ _ rfl hM (TBut.refl _ _)
                · intro T2 w2 hM hN hO hE K hK
                  obtain ⟨v3, h3, e3⟩ := hE ⟨3, .data⟩ (by simp) rfl _ _ rfl rfl
                  rw [show v3 = .bool false from e3] at h3
                  clear hE hO hN
                  refine step_plain0 rfl ?_
                  go_simp
                  exact hK _ _ rfl hM (TBut.refl _ _)
                · intro T2 w2 hM hN hO hE K hK
                  have o10 : T2[10]? = some (.pointer (some ⟨R, 0, none⟩)) := hO 10 rfl
                  obtain ⟨v4, h4, e4⟩ := hE ⟨4, .guard⟩ (by simp) rfl _ _ rfl rfl
                  rw [show v4 = .bool false from e4] at h4
                  clear hE hO hN
                  refine grd_met rfl rfl rfl h4 ?_
                  go_simp
                  exact hK _ _ rfl hM (TBut.refl _ _)
                · intro T2 w2 hM hN hO hE K hK
                  have o1 : T2[1]? = some (.slice KA un kc) := hO 1 rfl
                  obtain ⟨v4, h4, e4⟩ := hE ⟨4, .guard⟩ (by simp) rfl _ _ rfl rfl
                  rw [show v4 = .bool false from e4] at h4
                  clear hE hO hN
                  refine grd_met rfl rfl rfl h4 ?_
                  go_simp
                  exact hK _ _ rfl hM (TBut.refl _ _)
                · intro T2 w2 hM hN hO hE K hK
                  have o13 : T2[13]? = some (.pointer (some ⟨g, 0, none⟩)) := hO 13 rfl
                  obtain ⟨v4, h4, e4⟩ := hE ⟨4, .guard⟩ (by simp) rfl _ _ rfl rfl
                  rw [show v4 = .bool false from e4] at h4
                  clear hE hO hN
                  refine grd_met rfl rfl rfl h4 ?_
                  go_simp
                  exact hK _ _ rfl hM (TBut.refl _ _)
                · intro T2 w2 hM hN hO hE K hK
                  obtain ⟨v7, h7, e7⟩ := hE ⟨7, .data⟩ (by simp) rfl _ _ rfl rfl
                  rw [show v7 = .pointer (some ⟨g, 1, none⟩) from e7] at h7
                  obtain ⟨v4, h4, e4⟩ := hE ⟨4, .guard⟩ (by simp) rfl _ _ rfl rfl
                  rw [show v4 = .bool false from e4] at h4
                  clear hE hO hN
                  refine grd_met rfl rfl rfl h4 ?_
                  obtain ⟨y0, y1, y2, y3⟩ := HC.out w2 hM.2.2
                  go_simp
                  exact hK _ _ rfl hM (TBut.refl _ _)
                · intro T2 w2 hM hN hO hE K hK
                  obtain ⟨v6, h6, e6⟩ := hE ⟨6, .data⟩ (by simp) rfl _ _ rfl rfl
                  rw [show v6 = .slice KA un kc from e6] at h6
                  obtain ⟨v8, h8, e8⟩ := hE ⟨8, .data⟩ (by simp) rfl _ _ rfl rfl
                  rw [show v8 = .string P0 from e8] at h8
                  obtain ⟨v4, h4, e4⟩ := hE ⟨4, .guard⟩ (by simp) rfl _ _ rfl rfl
                  rw [show v4 = .bool false from e4] at h4
                  clear hE hO hN
                  refine grd_met rfl rfl rfl h4 ?_
                  go_simp
                  refine (CA.out w2 (HBX.out.trans (hM.2.2.below.mono BB.out))).mono ?_
                  rintro e w3 ⟨rfl, hb3⟩
                  obtain ⟨⟨qm, hrm⟩, hhm, htm⟩ := hM
                  have hx3 := TBut.of_below hb3 hhm.base
                  exact hK _ _ rfl ⟨⟨qm, hrm.below hb3⟩, hhm.tbut hx3, htm.trans hx3⟩ hx3
              · intro u w2 hM hF
                have e4 : u 4 = .bool false := hF 4 (by omega)
                have e5 : u 5 = .pointer (some ⟨R, 0, none⟩) := hF 5 (by omega)
                have e9 : u 9 = .agg #[.string K0, .bool kb, .string K1] := hF 9 (by omega)
                clear hF
                simp only [fillAll, Nat.reduceAdd, e4, e5, e9, List.take_succ_cons, List.take_zero, List.drop_succ_cons, List.drop_zero, List.setIfInBounds_toArray, List.set_cons_succ, List.set_cons_zero]
                obtain ⟨⟨qm, hrm⟩, hhm, htm⟩ := hM
                have HRM := hid2 hrm
                have HHM2 := hid2 hhm
                have HTM := hid2 htm
                clear hrm hhm htm
                go_wp2_with (go_at_call 16; refine (CGF.out _ qm HRM.out HHM2.out).mono ?_; rintro e w5 ⟨rfl, ⟨q5, hr5⟩, hb5⟩; have HR5 := hid2 hr5; have HB5 := hid2 hb5; clear hr5 hb5 CGF)
                go_roundg (gk - 1)
                case rel => exact ⟨i + 1, _, q5, by have := HGK.out; omega, by go_num, HIN2.out, HFO.out, HR5.out, HHM2.out.tbut HB5.out, HBX.out.trans ((HTM.out.trans HB5.out).below.mono BB.out)⟩
                case measure => have := HGK.out; omega
          · have hbb0 : (bi == 0) = false := by rw [beq_eq_false_iff_ne]; exact hb0
            refine wp_region_grd 12 (by kernel_rfl) (by kernel_rfl) (by kernel_rfl) _ rfl (by kernel_rfl) (VV [some (.int .u8 bi), some (.bool false), some (.bool false), some (undef), some (undef), some (undef), some (undef), some (undef), some (undef), some (undef), some (undef), some (.bool false)] (fun _ _ _ => False)) (fun w2 => (∃ q, RunIs w2 L v q S) ∧ Home w2 L ∧ TBut L.B wx w2) (fun a b => TBut L.B a b) (⟨(let ⟨q, h⟩ := HRW.out; ⟨q, h.below (Below.refl _ _).drew⟩), HHW.out.tbut (TBut.refl _ _).drew, HTW.out.drew⟩) (fun j v w1 w2 hb hv => VV.keep (fun h => h.elim) hv) ?_ ?_
            · refine of_allOps ⟨?_, ?_, ?_, ?_, ?_, ?_, ?_, ?_, ?_, ?_, ?_, ?_, trivial⟩
              · intro T2 w2 hM hN hO hE K hK
                have o3 : T2[3]? = some (.int .u8 bi) := hO 3 rfl
                clear hE hO hN
                refine step_plain0 rfl ?_
                go_simp
                exact hK _ _ rfl hM (TBut.refl _ _)
              · intro T2 w2 hM hN hO hE K hK
                obtain ⟨v0, h0, e0⟩ := hE ⟨0, .data⟩ (by simp) rfl _ _ rfl rfl
                rw [show v0 = .int .u8 bi from e0] at h0
                clear hE hO hN
                refine step_plain0 rfl ?_
                go_simp
                exact hK _ _ rfl hM (TBut.refl _ _)
              · intro T2 w2 hM hN hO hE K hK
                obtain ⟨v1, h1, e1⟩ := hE ⟨1, .data⟩ (by simp) rfl _ _ rfl rfl
                rw [show v1 = .bool false from e1] at h1
                clear hE hO hN
                refine step_plain0 rfl ?_
                go_simp
                exact hK _ _ rfl hM (TBut.refl _ _)
              · intro T2 w2 hM hN hO hE K hK
                obtain ⟨v2, h2, e2⟩ := hE ⟨2, .guard⟩ (by simp) rfl _ _ rfl rfl
                rw [show v2 = .bool false from e2] at h2
                clear hE hO hN
                refine grd_not rfl rfl rfl h2 (by decide) ?_
                exact hK _ _ rfl hM (TBut.refl _ _)
              · intro T2 w2 hM hN hO hE K hK
                obtain ⟨v2, h2, e2⟩ := hE ⟨2, .guard⟩ (by simp) rfl _ _ rfl rfl
                rw [show v2 = .bool false from e2] at h2
                clear hE hO hN
                refine grd_not rfl rfl rfl h2 (by decide) ?_
                exact hK _ _ rfl hM (TBut.refl _ _)
              · intro T2 w2 hM hN hO hE K hK
                obtain ⟨v2, h2, e2⟩ := hE ⟨2, .guard⟩ (by simp) rfl _ _ rfl rfl
                rw [show v2 = .bool false from e2] at h2
                clear hE hO hN
                refine grd_not rfl rfl rfl h2 (by decide) ?_
                exact hK _ _ rfl hM (TBut.refl _ _)
              · intro T2 w2 hM hN hO hE K hK
                obtain ⟨v2, h2, e2⟩ := hE ⟨2, .guard⟩ (by simp) rfl _ _ rfl rfl
                rw [show v2 = .bool false from e2] at h2
                clear hE hO hN
                refine grd_not rfl rfl rfl h2 (by decide) ?_
                exact hK _ _ rfl hM (TBut.refl _ _)
              · intro T2 w2 hM hN hO hE K hK
                obtain ⟨v2, h2, e2⟩ := hE ⟨2, .guard⟩ (by simp) rfl _ _ rfl rfl
                rw [show v2 = .bool false from e2] at h2
                clear hE hO hN
                refine grd_not rfl rfl rfl h2 (by decide) ?_
                exact hK _ _ rfl hM (TBut.refl _ _)
              · intro T2 w2 hM hN hO hE K hK
                obtain ⟨v2, h2, e2⟩ := hE ⟨2, .guard⟩ (by simp) rfl _ _ rfl rfl
                rw [show v2 = .bool false from e2] at h2
                clear hE hO hN
                refine grd_not rfl rfl rfl h2 (by decide) ?_
                exact hK _ _ rfl hM (TBut.refl _ _)
              · intro T2 w2 hM hN hO hE K hK
                obtain ⟨v2, h2, e2⟩ := hE ⟨2, .guard⟩ (by simp) rfl _ _ rfl rfl
                rw [show v2 = .bool false from e2] at h2
                clear hE hO hN
                refine grd_not rfl rfl rfl h2 (by decide) ?_
                exact hK _ _ rfl hM (TBut.refl _ _)
              · intro T2 w2 hM hN hO hE K hK
                obtain ⟨v2, h2, e2⟩ := hE ⟨2, .guard⟩ (by simp) rfl _ _ rfl rfl
                rw [show v2 = .bool false from e2] at h2
                clear hE hO hN
                refine grd_not rfl rfl rfl h2 (by decide) ?_
                exact hK _ _ rfl hM (TBut.refl _ _)
              · intro T2 w2 hM hN hO hE K hK
                obtain ⟨v2, h2, e2⟩ := hE ⟨2, .data⟩ (by simp) rfl _ _ rfl rfl
                rw [show v2 = .bool false from e2] at h2
                obtain ⟨v10, h10, e10⟩ := hE ⟨10, .data⟩ (by simp) rfl _ _ rfl rfl
                rw [show v10 = undef from e10] at h10
                clear hE hO hN
                refine step_plain0 rfl ?_
                go_simp
                exact hK _ _ rfl hM (TBut.refl _ _)
            · intro u w2 hM hF
              have e11 : u 11 = .bool false := hF 11 (by omega)
              clear hF
              simp only [fillAll, Nat.reduceAdd, e11, List.take_succ_cons, List.take_zero, List.drop_succ_cons, List.drop_zero, List.setIfInBounds_toArray, List.set_cons_succ, List.set_cons_zero]
              obtain ⟨hrm, hhm, htm⟩ := hM
              obtain ⟨W, hW⟩ : ∃ W, W = w2 := ⟨_, rfl⟩
              rw [← hW] at hrm hhm htm ⊢
              clear hW HRW HHW HTW
              have HRW := hid2 (show ∃ q, RunIs W L v q S from hrm)
              have HHW := hid2 (show Home W L from hhm)
              have HTW := hid2 (show TBut L.B wx W from htm)
              clear hrm hhm htm
              go_upto_region 20 with fail
              refine wp_region_grd 10 (by kernel_rfl) (by kernel_rfl) (by kernel_rfl) _ rfl (by kernel_rfl) (VV [some (.pointer (some ⟨R, 0, none⟩)), some (.agg #[.int .i64 1, .string P0, .string D0, .int .i64 wy]), some (.agg #[.int .i64 1, .string P0, .string D0, .int .i64 wy]), some (.bool false), some (.bool false), some (.pointer (some ⟨R, 0, none⟩)), some (.slice KA un kc), some (.pointer (some ⟨g, 1, none⟩)), some (.string P0), some (.agg #[.string K0, .bool kb, .string K1])] (fun _ _ _ => False)) (fun w2 => (∃ q, RunIs w2 L v q S) ∧ Home w2 L ∧ TBut L.B wx w2) (fun a b => TBut L.B a b) (⟨(let ⟨q, h⟩ := HRW.out; ⟨q, h.below (Below.refl _ _).drew⟩), HHW.out.tbut (TBut.refl _ _).drew, HTW.out.drew⟩) (fun j v w1 w2 hb hv => VV.keep (fun h => h.elim) hv) ?_ ?_
              · refine of_allOps ⟨?_, ?_, ?_, ?_, ?_, ?_, ?_, ?_, ?_, ?_, trivial⟩
                · intro T2 w2 hM hN hO hE K hK
                  have o10 : T2[10]? = some (.pointer (some ⟨R, 0, none⟩)) := hO 10 rfl
                  clear hE hO hN
                  refine step_plain0 rfl ?_
                  go_simp
                  exact hK _ _ rfl hM (TBut.refl _ _)
                · intro T2 w2 hM hN hO hE K hK
                  obtain ⟨v0, h0, e0⟩ := hE ⟨0, .data⟩ (by simp) rfl _ _ rfl rfl
                  rw [show v0 = .pointer (some ⟨R, 0, none⟩) from e0] at h0
                  clear hE hO hN
                  refine step_plain0 rfl ?_
                  go_simp
                  obtain ⟨⟨qm, hrm⟩, hhm, htm⟩ := hM
                  refine (CN2.out w2 qm hrm hhm).mono ?_
                  rintro e w3 ⟨rfl, hq3, hb3⟩
                  exact hK _ _ rfl ⟨hq3, hhm.tbut hb3, htm.trans hb3⟩ hb3
                · intro T2 w2 hM hN hO hE K hK
                  have o13 : T2[13]? = some (.pointer (some ⟨g, 0, none⟩)) := hO 13 rfl
                  clear hE hO hN
                  refine step_plain0 rfl ?_
                  obtain ⟨y0, y1, y2, y3⟩ := HC.out w2 hM.2.2
                  go_simp
                  exact hK _ _ rfl hM (TBut.refl _ _)
                · intro T2 w2 hM hN hO hE K hK
                  obtain ⟨v1, h1, e1⟩ := hE ⟨1, .data⟩ (by simp) rfl _ _ rfl rfl
                  rw [show v1 = .agg #[.int .i64 1, .string P0, .string D0, .int .i64 wy] from e1] at h1
                  obtain ⟨v2, h2, e2⟩ := hE ⟨2, .data⟩ (by simp) rfl _ _ rfl rfl
                  rw [show v2 = .agg #[.int .i64 1, .string P0, .string D0, .int .i64 wy] from e2] at h2
                  clear hE hO hN
                  refine step_plain0 rfl ?_
                  have hq := HNE.out w2
                  go_simp
                  exact hK _ _ rfl hM (TBut.refl _ _)
                · intro T2 w2 hM hN hO hE K hK
                  obtain ⟨v3, h3, e3⟩ := hE ⟨3, .data⟩ (by simp) rfl _ _ rfl rfl
                  rw [show v3 = .bool false from e3] at h3
                  clear hE hO hN
                  refine step_plain0 rfl ?_
                  go_simp
                  exact hK _ _ rfl hM (TBut.refl _ _)
                · intro T2 w2 hM hN hO hE K hK
                  have o10 : T2[10]? = some (.pointer (some ⟨R, 0, none⟩)) := hO 10 rfl
                  obtain ⟨v4, h4, e4⟩ := hE ⟨4, .guard⟩ (by simp) rfl _ _ rfl rfl
                  rw [show v4 = .bool false from e4] at h4
                  clear hE hO hN
                  refine grd_met rfl rfl rfl h4 ?_
                  go_simp
                  exact hK _ _ rfl hM (TBut.refl _ _)
                · intro T2 w2 hM hN hO hE K hK
                  have o1 : T2[1]? = some (.slice KA un kc) := hO 1 rfl
                  obtain ⟨v4, h4, e4⟩ := hE ⟨4, .guard⟩ (by simp) rfl _ _ rfl rfl
                  rw [show v4 = .bool false from e4] at h4
                  clear hE hO hN
                  refine grd_met rfl rfl rfl h4 ?_
                  go_simp
                  exact hK _ _ rfl hM (TBut.refl _ _)
                · intro T2 w2 hM hN hO hE K hK
                  have o13 : T2[13]? = some (.pointer (some ⟨g, 0, none⟩)) := hO 13 rfl
                  obtain ⟨v4, h4, e4⟩ := hE ⟨4, .guard⟩ (by simp) rfl _ _ rfl rfl
                  rw [show v4 = .bool false from e4] at h4
                  clear hE hO hN
                  refine grd_met rfl rfl rfl h4 ?_
                  go_simp
                  exact hK _ _ rfl hM (TBut.refl _ _)
                · intro T2 w2 hM hN hO hE K hK
                  obtain ⟨v7, h7, e7⟩ := hE ⟨7, .data⟩ (by simp) rfl _ _ rfl rfl
                  rw [show v7 = .pointer (some ⟨g, 1, none⟩) from e7] at h7
                  obtain ⟨v4, h4, e4⟩ := hE ⟨4, .guard⟩ (by simp) rfl _ _ rfl rfl
                  rw [show v4 = .bool false from e4] at h4
                  clear hE hO hN
                  refine grd_met rfl rfl rfl h4 ?_
                  obtain ⟨y0, y1, y2, y3⟩ := HC.out w2 hM.2.2
                  go_simp
                  exact hK _ _ rfl hM (TBut.refl _ _)
                · intro T2 w2 hM hN hO hE K hK
                  obtain ⟨v6, h6, e6⟩ := hE ⟨6, .data⟩ (by simp) rfl _ _ rfl rfl
                  rw [show v6 = .slice KA un kc from e6] at h6
                  obtain ⟨v8, h8, e8⟩ := hE ⟨8, .data⟩ (by simp) rfl _ _ rfl rfl
                  rw [show v8 = .string P0 from e8] at h8
                  obtain ⟨v4, h4, e4⟩ := hE ⟨4, .guard⟩ (by simp) rfl _ _ rfl rfl
                  rw [show v4 = .bool false from e4] at h4
                  clear hE hO hN
                  refine grd_met rfl rfl rfl h4 ?_
                  go_simp
                  refine (CA.out w2 (HBX.out.trans (hM.2.2.below.mono BB.out))).mono ?_
                  rintro e w3 ⟨rfl, hb3⟩
                  obtain ⟨⟨qm, hrm⟩, hhm, htm⟩ := hM
                  have hx3 := TBut.of_below hb3 hhm.base
                  exact hK _ _ rfl ⟨⟨qm, hrm.below hb3⟩, hhm.tbut hx3, htm.trans hx3⟩ hx3
              · intro u w2 hM hF
                have e4 : u 4 = .bool false := hF 4 (by omega)
                have e5 : u 5 = .pointer (some ⟨R, 0, none⟩) := hF 5 (by omega)
                have e9 : u 9 = .agg #[.string K0, .bool kb, .string K1] := hF 9 (by omega)
                clear hF
                simp only [fillAll, Nat.reduceAdd, e4, e5, e9, List.take_succ_cons, List.take_zero, List.drop_succ_cons, List.drop_zero, List.setIfInBounds_toArray, List.set_cons_succ, List.set_cons_zero]
                obtain ⟨⟨qm, hrm⟩, hhm, htm⟩ := hM
                have HRM := hid2 hrm
                have HHM2 := hid2 hhm
                have HTM := hid2 htm
                clear hrm hhm htm
                go_wp2_with (go_at_call 16; refine (CGF.out _ qm HRM.out HHM2.out).mono ?_; rintro e w5 ⟨rfl, ⟨q5, hr5⟩, hb5⟩; have HR5 := hid2 hr5; have HB5 := hid2 hb5; clear hr5 hb5 CGF)
                go_roundg (gk - 1)
                case rel => exact ⟨i + 1, _, q5, by have := HGK.out; omega, by go_num, HIN2.out, HFO.out, HR5.out, HHM2.out.tbut HB5.out, HBX.out.trans ((HTM.out.trans HB5.out).below.mono BB.out)⟩
                case measure => have := HGK.out; omega
      · -- it has written
        have hnv : nextV S = S.over := by rw [nextV, if_neg (by rw [hwt]; simp)]
        have hkd2 : kd = 2 := by rw [HKD.out, hnv, hov]; rfl
        have HIN2 := hid2 HSI.out.next
        have HFN := hid2 (show FitDo S.next.over from by rw [PS.next, if_neg (by rw [hwt]; simp), if_pos hov]; exact fit_fail 0 0 (by decide) (by decide))
        subst hkd2
        clear hwt hov hnv
        go_wp2_with fail
        go_roundg (gk - 1)
        case rel => exact ⟨i + 1, S.next, q2, by have := HGK.out; omega, by go_num, HIN2.out, HFN.out, HRX.out, HHX.out, HBX.out⟩
        case measure => have := HGK.out; omega
      · -- it has ended
        have hnv : nextV S = S.over := by rw [nextV, if_neg (by rw [hwt]; simp)]
        have hkd1 : ¬ kd = 1 := by rw [HKD.out, hnv]; omega
        have hkd2 : ¬ kd = 2 := by rw [HKD.out, hnv]; omega
        have hkb1 : (kd == 1) = false := by rw [beq_eq_false_iff_ne]; exact hkd1
        have hkb2 : (kd == 2) = false := by rw [beq_eq_false_iff_ne]; exact hkd2
        have hnx : S.next = S := by
          rw [PS.next, if_neg (by rw [hwt]; simp), if_neg (by omega)]
        have hrx := HRX.out
        rw [hnx] at hrx
        have hsd : ∀ k, Sound (S.run v k) := fun k => (HSI.out.run k).sound
        have CG := hid2 (fun (w2 : World) (q : Option Nat) (hr : RunIs w2 L v q S) (hh : Home w2 L) => show Calls Tryz.prog 16 #[.pointer (some ⟨R, 0, none⟩), .agg #[.string P, .bool false, .string { data := #[] }]] w2 fun e w' => e = .returned (.int .i64 19) ∧ (∃ q, RunIs w' L v q S) ∧ TBut L.B w2 w' from by
          have hg := give_any w2 L v HMI.out.env q S hr hh hsd 0 HJ.out ⟨P.data.toList, false, []⟩ ⟨by show P.data.toList.length ≤ _; rw [toList_len3]; omega, by simp⟩ (fun h => absurd h (by show ¬ S.waits = true; rw [hwt]; simp))
          have hgv : PS.gave (S.run v 0) ⟨P.data.toList, false, []⟩ = (19, S) := gave_idle hwt
          unfold GivePost at hg
          rw [hgv, ptrV, ← ER.out] at hg
          rw [show encK ⟨P.data.toList, false, []⟩ = .agg #[.string P, .bool false, .string { data := #[] }] from by rw [encK, strB_of]; rfl] at hg
          exact hg)
        have CN2 := hid2 (fun (w2 : World) (q : Option Nat) (hr : RunIs w2 L v q S) (hh : Home w2 L) => show Calls Tryz.prog 14 #[.pointer (some ⟨R, 0, none⟩)] w2 fun e w' => e = .returned (.agg #[.int .i64 kd, .string P0, .string D0, .int .i64 wy]) ∧ (∃ q, RunIs w' L v q S) ∧ TBut L.B w2 w' from by
          have := next_any w2 L v HMI.out.env q S hr hh hsd 0 HJ.out
          unfold NextPost at this
          rw [show S.run v 0 = S from rfl, hnx, HDOA.out, ptrV, ← ER.out] at this
          exact this)
        have HEQ := hid2 (fun (w2 : World) => show (binOp .eql 35 (.agg #[.int .i64 kd, .string P0, .string D0, .int .i64 wy]) (.agg #[.int .i64 kd, .string P0, .string D0, .int .i64 wy])).run Tryz.prog w2 = .ok (.bool true) w2 from by
          rw [← HDOA.out]
          exact al_same _ (HFD.out) w2)
        have HRS := hid2 hrx
        clear hnv hwt hov hrx hsd hnx
        go_upto_region 14 with fail
        refine wp_region_grd 11 (by kernel_rfl) (by kernel_rfl) (by kernel_rfl) _ rfl (by kernel_rfl) (VV [some (.pointer (some ⟨R, 0, none⟩)), some (.string P), some (.agg #[.string P, .bool false, .string { data := #[] }]), some (.int .i64 19), some (.bool true), some (.bool true), some (.pointer (some ⟨R, 0, none⟩)), some (.agg #[.int .i64 kd, .string P0, .string D0, .int .i64 wy]), some (.agg #[.int .i64 kd, .string P0, .string D0, .int .i64 wy]), some (.bool true), some (.bool true)] (fun _ _ _ => False)) (fun w2 => (∃ q, RunIs w2 L v q S) ∧ Home w2 L ∧ TBut L.B wx w2) (fun a b => TBut L.B a b) (⟨⟨q2, HRS.out.below (Below.refl _ _).drew⟩, HHX.out.tbut (TBut.refl _ _).drew, (TBut.refl _ _).drew⟩) (fun j v w1 w2 hb hv => VV.keep (fun h => h.elim) hv) ?_ ?_
        · refine of_allOps ⟨?_, ?_, ?_, ?_, ?_, ?_, ?_, ?_, ?_, ?_, ?_, trivial⟩
          · intro T2 w2 hM hN hO hE K hK
            have o10 : T2[10]? = some (.pointer (some ⟨R, 0, none⟩)) := hO 10 rfl
            clear hE hO hN
            refine step_plain0 rfl ?_
            go_simp
            exact hK _ _ rfl hM (TBut.refl _ _)
          · intro T2 w2 hM hN hO hE K hK
            have o2 : T2[2]? = some (.string P) := hO 2 rfl
            clear hE hO hN
            refine step_plain0 rfl ?_
            go_simp
            exact hK _ _ rfl hM (TBut.refl _ _)
          · intro T2 w2 hM hN hO hE K hK
            obtain ⟨v1, h1, e1⟩ := hE ⟨1, .data⟩ (by simp) rfl _ _ rfl rfl
            rw [show v1 = .string P from e1] at h1
            clear hE hO hN
            refine step_plain0 rfl ?_
            go_simp
            exact hK _ _ rfl hM (TBut.refl _ _)
          · intro T2 w2 hM hN hO hE K hK
            obtain ⟨v0, h0, e0⟩ := hE ⟨0, .data⟩ (by simp) rfl _ _ rfl rfl
            rw [show v0 = .pointer (some ⟨R, 0, none⟩) from e0] at h0
            obtain ⟨v2, h2, e2⟩ := hE ⟨2, .data⟩ (by simp) rfl _ _ rfl rfl
            rw [show v2 = .agg #[.string P, .bool false, .string { data := #[] }] from e2] at h2
            clear hE hO hN
            refine step_plain0 rfl ?_
            go_simp
            obtain ⟨⟨qm, hrm⟩, hhm, htm⟩ := hM
            refine (CG.out w2 qm hrm hhm).mono ?_
            rintro e w3 ⟨rfl, hq3, hb3⟩
            exact hK _ _ rfl ⟨hq3, hhm.tbut hb3, htm.trans hb3⟩ hb3
          · intro T2 w2 hM hN hO hE K hK
            obtain ⟨v3, h3, e3⟩ := hE ⟨3, .data⟩ (by simp) rfl _ _ rfl rfl
            rw [show v3 = .int .i64 19 from e3] at h3
            clear hE hO hN
            refine step_plain0 rfl ?_
            go_simp
            exact hK _ _ rfl hM (TBut.refl _ _)
          · intro T2 w2 hM hN hO hE K hK
            obtain ⟨v4, h4, e4⟩ := hE ⟨4, .data⟩ (by simp) rfl _ _ rfl rfl
            rw [show v4 = .bool true from e4] at h4
            clear hE hO hN
            refine step_plain0 rfl ?_
            go_simp
            exact hK _ _ rfl hM (TBut.refl _ _)
          · intro T2 w2 hM hN hO hE K hK
            have o10 : T2[10]? = some (.pointer (some ⟨R, 0, none⟩)) := hO 10 rfl
            obtain ⟨v5, h5, e5⟩ := hE ⟨5, .guard⟩ (by simp) rfl _ _ rfl rfl
            rw [show v5 = .bool true from e5] at h5
            clear hE hO hN
            refine grd_met rfl rfl rfl h5 ?_
            go_simp
            exact hK _ _ rfl hM (TBut.refl _ _)
          · intro T2 w2 hM hN hO hE K hK
            obtain ⟨v6, h6, e6⟩ := hE ⟨6, .data⟩ (by simp) rfl _ _ rfl rfl
            rw [show v6 = .pointer (some ⟨R, 0, none⟩) from e6] at h6
            obtain ⟨v5, h5, e5⟩ := hE ⟨5, .guard⟩ (by simp) rfl _ _ rfl rfl
            rw [show v5 = .bool true from e5] at h5
            clear hE hO hN
            refine grd_met rfl rfl rfl h5 ?_
            go_simp
            obtain ⟨⟨qm, hrm⟩, hhm, htm⟩ := hM
            refine (CN2.out w2 qm hrm hhm).mono ?_
            rintro e w3 ⟨rfl, hq3, hb3⟩
            exact hK _ _ rfl ⟨hq3, hhm.tbut hb3, htm.trans hb3⟩ hb3
          · intro T2 w2 hM hN hO hE K hK
            have o13 : T2[13]? = some (.pointer (some ⟨g, 0, none⟩)) := hO 13 rfl
            obtain ⟨v5, h5, e5⟩ := hE ⟨5, .guard⟩ (by simp) rfl _ _ rfl rfl
            rw [show v5 = .bool true from e5] at h5
            clear hE hO hN
            refine grd_met rfl rfl rfl h5 ?_
            obtain ⟨y0, y1, y2, y3⟩ := HC.out w2 hM.2.2
            go_simp
            exact hK _ _ rfl hM (TBut.refl _ _)
          · intro T2 w2 hM hN hO hE K hK
            obtain ⟨v7, h7, e7⟩ := hE ⟨7, .data⟩ (by simp) rfl _ _ rfl rfl
            rw [show v7 = .agg #[.int .i64 kd, .string P0, .string D0, .int .i64 wy] from e7] at h7
            obtain ⟨v8, h8, e8⟩ := hE ⟨8, .data⟩ (by simp) rfl _ _ rfl rfl
            rw [show v8 = .agg #[.int .i64 kd, .string P0, .string D0, .int .i64 wy] from e8] at h8
            obtain ⟨v5, h5, e5⟩ := hE ⟨5, .guard⟩ (by simp) rfl _ _ rfl rfl
            rw [show v5 = .bool true from e5] at h5
            clear hE hO hN
            refine grd_met rfl rfl rfl h5 ?_
            have hq := HEQ.out w2
            go_simp
            exact hK _ _ rfl hM (TBut.refl _ _)
          · intro T2 w2 hM hN hO hE K hK
            obtain ⟨v5, h5, e5⟩ := hE ⟨5, .data⟩ (by simp) rfl _ _ rfl rfl
            rw [show v5 = .bool true from e5] at h5
            obtain ⟨v9, h9, e9⟩ := hE ⟨9, .data⟩ (by simp) rfl _ _ rfl rfl
            rw [show v9 = .bool true from e9] at h9
            clear hE hO hN
            refine step_plain0 rfl ?_
            go_simp
            exact hK _ _ rfl hM (TBut.refl _ _)
        · intro u w2 hM hF
          have e10 : u 10 = .bool true := hF 10 (by omega)
          clear hF
          simp only [fillAll, Nat.reduceAdd, e10, List.take_succ_cons, List.take_zero, List.drop_succ_cons, List.drop_zero, List.setIfInBounds_toArray, List.set_cons_succ, List.set_cons_zero]
          have HBF := hid2 (HBX.out.trans (hM.2.2.below.mono BB.out))
          clear hM
          go_wp2_with fail
          refine bodyPost_ret (results_tmp rfl _ _ _) rfl ?_
          exact ⟨rfl, HBF.out⟩
    · have hil : ¬ (i : Int) < 100 := by omega
      have HBE := hid2 hbe
      clear hinv hfo hrun hhome hbe hgk
      go_wp2_with fail
      refine bodyPost_ret (results_tmp rfl _ _ _) rfl ?_
      exact ⟨rfl, HBE.out⟩
theorem gives_any (w : World) (U : List KE) (text : TT) (P : ByteArray) (bb : Nat) (hbb : bb ≤ 255) (hl : Lib3 w)
    (hwk : ∀ k ∈ U, k.path.length + k.data.length ≤ 4611686018427387904) (KA : Option Addr) (kc : Nat) (hrk : Rd w 3 KA U.length (kV U)) :
    Calls Tryz.prog 5 #[.string (strB text), .slice KA U.length kc, .string P, .int .u8 bb] w fun e w' => e = .returned (.bool true) ∧ Below w.heap.size w w' := by
  cases h1 : wideL [] U text with
  | true => exact gives_wide w U text P bb hbb hl hwk KA kc hrk h1
  | false =>
    by_cases h2 : 500 < P.size
    · exact gives_long w U text P bb hbb hl hwk KA kc hrk h1 h2
    · by_cases hok : (checkT mayB text).1 = 0
      · exact gives_ok w U text P bb hbb hl hwk KA kc hrk h1 (by omega) hok
      · exact gives_bad w U text P bb hbb hl hwk KA kc hrk h1 (by omega) hok
end Go.Proofs.YtnecjdhamohadaaGreatDoor
