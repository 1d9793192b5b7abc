/- The law ToolAsks: its walk. -/
import Derived.Test.YtnecjdhamohadaaGreatDoorMTa1
import Derived.Test.YtnecjdhamohadaaGreatDoorMReg4
set_option linter.unusedSimpArgs false
set_option linter.unusedVariables false
namespace Go.Proofs.YtnecjdhamohadaaGreatDoor
open Go.RowKit Go.Maps Go.Shelf
set_option maxRecDepth 100000
theorem doesis_reads {v : Env} {U : List KE} {text : TT} {D : List DE} (hm : Mild v U text) (h : DoesIs v U text D) : (readsOf D).Nodup ∧ (readsOf D).length ≤ 500 := by
  rcases h with ⟨_, rfl⟩ | ⟨h1, n, S, E, h2, ho, rfl⟩
  · exact ⟨List.nodup_nil, Nat.zero_le _⟩
  · rw [readsOf_snoc (by rcases ho with h | h <;> omega)]
    have hev := Ev.on_run (v := v) hm.orc n (m := (PS.start (cmdsOf mayB (linesT text)), [])) (ev_start _) (hm.start h1).ord
    have hord := Ord.mrun (v := v) hm.orc n (m := (PS.start (cmdsOf mayB (linesT text)), [])) (hm.start h1).ord
    rw [h2] at hev hord
    rw [hev.reads]
    exact ⟨hev.nodup, by rw [List.length_map]; exact hord.lim.less⟩
theorem DoesIs.reads_take {v : Env} {U U' : List KE} {text : TT} {D D' : List DE} (h : DoesIs v U text D) (h' : DoesIs v U' text D') (i : Nat) (hi : i < (readsOf D).length) (ha : ∀ p ∈ (readsOf D).take i, nrm (ansU U' p) = nrm (ansU U p)) : (readsOf D').take (i + 1) = (readsOf D).take (i + 1) := by
  rcases h with ⟨_, rfl⟩ | ⟨h1, n, S, E, h2, ho, rfl⟩
  · cases hi
  · rcases h' with ⟨e, _⟩ | ⟨_, n', S', E', h2', ho', rfl⟩
    · exact absurd h1 e
    rw [readsOf_snoc (by rcases ho with h | h <;> omega)] at hi ha ⊢
    rw [readsOf_snoc (by rcases ho' with h | h <;> omega)]
    obtain ⟨m, hm⟩ := reads_agree (v := v) (O := orc U) (O' := orc U') (fun p => ⟨_, rfl⟩) (fun p => ⟨_, rfl⟩) n (PS.start (cmdsOf mayB (linesT text)), []) (readsOf E) i (by rw [h2]; rfl) hi (fun p hp => by unfold orc; rw [ha p hp])
    have e1 : mrun v (orc U') (m + n') (PS.start (cmdsOf mayB (linesT text)), []) = (S', E') := by
      rw [Nat.add_comm, mrun_add, h2']
      exact mrun_end ho' m
    rw [mrun_add] at e1
    obtain ⟨G, hG⟩ := mrun_prefix (v := v) (O := orc U') n' (mrun v (orc U') m (PS.start (cmdsOf mayB (linesT text)), []))
    rw [e1] at hG
    have e2 : readsOf E' = (readsOf E).take (i + 1) ++ readsOf G := by
      rw [show E' = _ from hG, readsOf_append, hm]
      rfl
    rw [e2, List.take_append_of_le_length (by rw [List.length_take]; omega), List.take_take, Nat.min_self]
theorem DoesIs.reads_all {v : Env} {U U' : List KE} {text : TT} {D D' : List DE} (h : DoesIs v U text D) (h' : DoesIs v U' text D') (ha : ∀ p ∈ readsOf D, nrm (ansU U' p) = nrm (ansU U p)) : D' = D := by
  refine DoesIs.one h' ?_
  rcases h with ⟨h1, rfl⟩ | ⟨h1, n, S, E, hm, ho, rfl⟩
  · exact .inl ⟨h1, rfl⟩
  · refine .inr ⟨h1, n, S, E, ?_, ho, rfl⟩
    rw [readsOf_snoc (by rcases ho with h | h <;> rw [h] <;> decide)] at ha
    have := mrun_alike (v := v) (O := orc U) (O' := orc U') (fun p => ⟨_, rfl⟩) n (PS.start (cmdsOf mayB (linesT text)), []) (fun p hpp => by
      rw [hm] at hpp
      unfold orc
      rw [ha p hpp])
    rw [this, hm]
theorem take_get {α : Type} {l m : List α} {i : Nat} {x y : α} (h : m.take (i + 1) = l.take (i + 1)) (hx : l[i]? = some x) (hy : m[i]? = some y) : y = x := by
  have h1 : (m.take (i + 1))[i]? = m[i]? := by rw [List.getElem?_take, if_pos (by omega)]
  have h2 : (l.take (i + 1))[i]? = l[i]? := by rw [List.getElem?_take, if_pos (by omega)]
  rw [h, h2, hx, hy] at h1
  exact (Option.some.inj h1).symm
theorem nrm_eq {p q : KE} (h1 : p.is = q.is) (h2 : p.is = true → p.data = q.data) : nrm q = nrm p := by
  unfold nrm
  by_cases h : p.is = true
  · rw [if_pos (h1 ▸ h), if_pos h, h2 h]
  · rw [if_neg (h1 ▸ h), if_neg h]
theorem laid_known (p d : ByteArray) (b : Bool) : laid #[.string ⟨#[]⟩, .bool false, .string ⟨#[]⟩] 0 [.string p, .bool b, .string d] = #[.string p, .bool b, .string d] := laid_all rfl
theorem nodup_ne {l : List TT} {i k : Nat} {x y : TT} (h : l.Nodup) (hi : l[i]? = some x) (hk : l[k]? = some y) (hne : k ≠ i) : y ≠ x := by
  intro e
  subst e
  obtain ⟨h1, e1⟩ := List.getElem?_eq_some_iff.1 hi
  obtain ⟨h2, e2⟩ := List.getElem?_eq_some_iff.1 hk
  have hp := List.pairwise_iff_getElem.1 h
  rcases Nat.lt_or_ge k i with hl | hl
  · exact hp k i h2 h1 hl (e2.trans e1.symm)
  · exact hp i k h1 h2 (by omega) (e1.trans e2.symm)
set_option maxHeartbeats 16000000 in
theorem asksl_wide1 (w : World) (env : List (TT × TT)) (U V : List KE) (text : TT) (hl : Lib3 w)
    (hwe : ∀ p ∈ env, p.1.length + p.2.length ≤ 4611686018427387904) (hwk : ∀ k ∈ U, k.path.length + k.data.length ≤ 4611686018427387904) (hwv : ∀ k ∈ V, k.path.length + k.data.length ≤ 4611686018427387904)
    (EA KA OA : Option Addr) (ec kc oc : Nat) (hre : Rd w 2 EA env.length (setV env)) (hrk : Rd w 3 KA U.length (kV U)) (hrv : Rd w 3 OA V.length (kV V)) (h1 : wideL env U text = true) :
    Calls Tryz.prog 4 #[.string (strB text), .slice EA env.length ec, .slice KA U.length kc, .slice OA V.length oc] w fun e w' => e = .returned (.bool true) ∧ Below w.heap.size w w' := by
  obtain ⟨X, hX⟩ : ∃ X, X = strB text := ⟨_, rfl⟩
  obtain ⟨en, hen⟩ : ∃ n, n = env.length := ⟨_, rfl⟩
  obtain ⟨un, hun⟩ : ∃ n, n = U.length := ⟨_, rfl⟩
  obtain ⟨vn, hvn⟩ : ∃ n, n = V.length := ⟨_, rfl⟩
  have CW1 := hid2 (show ∀ w2, Below w.heap.size w w2 → Calls Tryz.prog 10 #[.string X, .slice EA en ec, .slice KA un kc] w2 fun e w' => e = .returned (.bool true) ∧ Below w2.heap.size w2 w' from fun w2 hb => by
    have := wide_any w2 EA KA ec kc env U text hwe hwk (hre.below_all hb) (hrk.below_all hb)
    rw [h1] at this
    rw [hX, hen, hun]
    exact this)
  have CAL := hid2 (alive_any w hl)
  rw [← hX, ← hen, ← hun, ← hvn]
  clear hl hwe hwk hwv hre hrk hrv hX hen hun hvn
  go_enter Tryz.func4, Tryz.ntmps4
  go_upto_region 3 with (go_at_call 9; refine CAL.out.mono ?_; rintro e w1 ⟨rfl, hb⟩; have HB := hid2 hb; clear hb)
  clear CAL
  go_wp2_with (first
    | (go_at_call 10; refine (CW1.out _ HB.out).mono ?_; rintro e w1 ⟨rfl, hb⟩; have HB := hid2 (HB.out.trans (hb.mono HB.out.size)); clear hb CW1)
    | (go_at_call 10; refine (CW2.out _ HB.out).mono ?_; rintro e w1 ⟨rfl, hb⟩; have HB := hid2 (HB.out.trans (hb.mono HB.out.size)); clear hb CW2))
  refine bodyPost_ret (results_tmp rfl _ _ _) rfl ?_
  exact ⟨rfl, HB.out⟩
set_option maxHeartbeats 16000000 in
theorem asksl_wide2 (w : World) (env : List (TT × TT)) (U V : List KE) (text : TT) (hl : Lib3 w)
    (hwe : ∀ p ∈ env, p.1.length + p.2.length ≤ 4611686018427387904) (hwk : ∀ k ∈ U, k.path.length + k.data.length ≤ 4611686018427387904) (hwv : ∀ k ∈ V, k.path.length + k.data.length ≤ 4611686018427387904)
    (EA KA OA : Option Addr) (ec kc oc : Nat) (hre : Rd w 2 EA env.length (setV env)) (hrk : Rd w 3 KA U.length (kV U)) (hrv : Rd w 3 OA V.length (kV V)) (h1 : wideL env U text = false) (h2 : wideL env V text = true) :
    Calls Tryz.prog 4 #[.string (strB text), .slice EA env.length ec, .slice KA U.length kc, .slice OA V.length oc] w fun e w' => e = .returned (.bool true) ∧ Below w.heap.size w w' := by
  obtain ⟨X, hX⟩ : ∃ X, X = strB text := ⟨_, rfl⟩
  obtain ⟨en, hen⟩ : ∃ n, n = env.length := ⟨_, rfl⟩
  obtain ⟨un, hun⟩ : ∃ n, n = U.length := ⟨_, rfl⟩
  obtain ⟨vn, hvn⟩ : ∃ n, n = V.length := ⟨_, rfl⟩
  have CW1 := hid2 (show ∀ w2, Below w.heap.size w w2 → Calls Tryz.prog 10 #[.string X, .slice EA en ec, .slice KA un kc] w2 fun e w' => e = .returned (.bool false) ∧ Below w2.heap.size w2 w' from fun w2 hb => by
    have := wide_any w2 EA KA ec kc env U text hwe hwk (hre.below_all hb) (hrk.below_all hb)
    rw [h1] at this
    rw [hX, hen, hun]
    exact this)
  have CW2 := hid2 (show ∀ w2, Below w.heap.size w w2 → Calls Tryz.prog 10 #[.string X, .slice EA en ec, .slice OA vn oc] w2 fun e w' => e = .returned (.bool true) ∧ Below w2.heap.size w2 w' from fun w2 hb => by
    have := wide_any w2 EA OA ec oc env V text hwe hwv (hre.below_all hb) (hrv.below_all hb)
    rw [h2] at this
    rw [hX, hen, hvn]
    exact this)
  have CAL := hid2 (alive_any w hl)
  rw [← hX, ← hen, ← hun, ← hvn]
  clear hl hwe hwk hwv hre hrk hrv hX hen hun hvn
  go_enter Tryz.func4, Tryz.ntmps4
  go_upto_region 3 with (go_at_call 9; refine CAL.out.mono ?_; rintro e w1 ⟨rfl, hb⟩; have HB := hid2 hb; clear hb)
  clear CAL
  go_wp2_with (first
    | (go_at_call 10; refine (CW1.out _ HB.out).mono ?_; rintro e w1 ⟨rfl, hb⟩; have HB := hid2 (HB.out.trans (hb.mono HB.out.size)); clear hb CW1)
    | (go_at_call 10; refine (CW2.out _ HB.out).mono ?_; rintro e w1 ⟨rfl, hb⟩; have HB := hid2 (HB.out.trans (hb.mono HB.out.size)); clear hb CW2))
  refine bodyPost_ret (results_tmp rfl _ _ _) rfl ?_
  exact ⟨rfl, HB.out⟩
set_option maxHeartbeats 16000000 in
theorem asksl_walk (w : World) (env : List (TT × TT)) (U V : List KE) (text : TT) (hl : Lib3 w)
    (hwe : ∀ p ∈ env, p.1.length + p.2.length ≤ 4611686018427387904) (hwk : ∀ k ∈ U, k.path.length + k.data.length ≤ 4611686018427387904) (hwv : ∀ k ∈ V, k.path.length + k.data.length ≤ 4611686018427387904)
    (EA KA OA : Option Addr) (ec kc oc : Nat) (hre : Rd w 2 EA env.length (setV env)) (hrk : Rd w 3 KA U.length (kV U)) (hrv : Rd w 3 OA V.length (kV V)) (h1 : wideL env U text = false) (h2 : wideL env V text = false) :
    Calls Tryz.prog 4 #[.string (strB text), .slice EA env.length ec, .slice KA U.length kc, .slice OA V.length oc] w fun e w' => e = .returned (.bool true) ∧ Below w.heap.size w w' := by
  obtain ⟨X, hX⟩ : ∃ X, X = strB text := ⟨_, rfl⟩
  obtain ⟨en, hen⟩ : ∃ n, n = env.length := ⟨_, rfl⟩
  obtain ⟨un, hun⟩ : ∃ n, n = U.length := ⟨_, rfl⟩
  obtain ⟨vn, hvn⟩ : ∃ n, n = V.length := ⟨_, rfl⟩
  have CW1 := hid2 (show ∀ w2, Below w.heap.size w w2 → Calls Tryz.prog 10 #[.string X, .slice EA en ec, .slice KA un kc] w2 fun e w' => e = .returned (.bool false) ∧ Below w2.heap.size w2 w' from fun w2 hb => by
    have := wide_any w2 EA KA ec kc env U text hwe hwk (hre.below_all hb) (hrk.below_all hb)
    rw [h1] at this
    rw [hX, hen, hun]
    exact this)
  have CW2 := hid2 (show ∀ w2, Below w.heap.size w w2 → Calls Tryz.prog 10 #[.string X, .slice EA en ec, .slice OA vn oc] w2 fun e w' => e = .returned (.bool false) ∧ Below w2.heap.size w2 w' from fun w2 hb => by
    have := wide_any w2 EA OA ec oc env V text hwe hwv (hre.below_all hb) (hrv.below_all hb)
    rw [h2] at this
    rw [hX, hen, hvn]
    exact this)
  have CAL := hid2 (alive_any w hl)
  obtain ⟨f1, f2, f3, f4, f5⟩ := not_wide h1
  obtain ⟨-, -, f6, f7, -⟩ := not_wide h2
  have hmu : Mild ⟨mayB, env⟩ U text := mild_of f1 (by omega) f4 f2 f5
  have hmv : Mild ⟨mayB, env⟩ V text := mild_of f1 (by omega) f7 f2 f5
  have CA1 := hid2 (show ∀ w2, Below w.heap.size w w2 → Calls Tryz.prog 17 #[.string X, .slice EA en ec, .slice KA un kc] w2 (AsksPost w2 ⟨mayB, env⟩ U text) from fun w2 hb => by
    rw [hX, hen, hun]
    exact asks_any w2 ⟨mayB, env⟩ rfl U text hmu (hl.on hb) EA KA ec kc (hre.below_all hb) (hrk.below_all hb))
  have CA2 := hid2 (show ∀ w2, Below w.heap.size w w2 → Calls Tryz.prog 17 #[.string X, .slice EA en ec, .slice OA vn oc] w2 (AsksPost w2 ⟨mayB, env⟩ V text) from fun w2 hb => by
    rw [hX, hen, hvn]
    exact asks_any w2 ⟨mayB, env⟩ rfl V text hmv (hl.on hb) EA OA ec oc (hre.below_all hb) (hrv.below_all hb))
  have CB1 := hid2 (show ∀ w2, Below w.heap.size w w2 → ∀ p, Calls Tryz.prog 15 #[.slice KA un kc, .string (strB p)] w2 fun e w' => e = .returned (encK (ansU U p)) ∧ Below w2.heap.size w2 w' from fun w2 hb p => by
    rw [hun]
    exact answer_any w2 KA kc U hmu.len (hrk.below_all hb) p)
  have CB2 := hid2 (show ∀ w2, Below w.heap.size w w2 → ∀ p, Calls Tryz.prog 15 #[.slice OA vn oc, .string (strB p)] w2 fun e w' => e = .returned (encK (ansU V p)) ∧ Below w2.heap.size w2 w' from fun w2 hb p => by
    rw [hvn]
    exact answer_any w2 OA oc V hmv.len (hrv.below_all hb) p)
  have HMU := hid2 hmu
  have HMV := hid2 hmv
  rw [← hX, ← hen, ← hun, ← hvn]
  clear hl hwe hwk hwv hre hrk hrv hX hen hun hvn h1 h2 f1 f2 f3 f4 f5 f6 f7 hmu hmv
  go_enter Tryz.func4, Tryz.ntmps4
  go_upto_region 3 with (go_at_call 9; refine CAL.out.mono ?_; rintro e w1 ⟨rfl, hb⟩; have HB := hid2 hb; clear hb)
  clear CAL
  go_upto_region 5 with (first
    | (go_at_call 10; refine (CW1.out _ HB.out).mono ?_; rintro e w1 ⟨rfl, hb⟩; have HB := hid2 (HB.out.trans (hb.mono HB.out.size)); clear hb CW1)
    | (go_at_call 10; refine (CW2.out _ HB.out).mono ?_; rintro e w1 ⟨rfl, hb⟩; have HB := hid2 (HB.out.trans (hb.mono HB.out.size)); clear hb CW2))
  go_upto_region 6 with (first
    | (go_at_call 17; refine (CA1.out _ HB.out).mono ?_; rintro e w2 ⟨A1, c1, D1, rfl, hown, hdo, hb⟩; have HO1 := hid2 hown; have HD1 := hid2 hdo; have HZ1 := hid2 (HB.out.trans (hb.mono HB.out.size)); clear hown hdo hb CA1)
    | (go_at_call 17; refine (CA2.out _ HZ1.out).mono ?_; rintro e w3 ⟨A2, c2, D2, rfl, hown, hdo, hb⟩; have HO2 := hid2 hown; have HD2 := hid2 hdo; have HB3 := hid2 hb; clear hown hdo hb CA2))
  obtain ⟨x, hx⟩ : ∃ x, x = readsOf D1 := ⟨_, rfl⟩
  obtain ⟨y, hy⟩ : ∃ y, y = readsOf D2 := ⟨_, rfl⟩
  obtain ⟨xn, hxn⟩ : ∃ n, n = x.length := ⟨_, rfl⟩
  obtain ⟨yn, hyn⟩ : ∃ n, n = y.length := ⟨_, rfl⟩
  rw [← hx, ← hy, ← hxn, ← hyn]
  obtain ⟨q1, q2⟩ := doesis_reads HMU.out HD1.out
  obtain ⟨q3, q4⟩ := doesis_reads HMV.out HD2.out
  rw [← hx] at q1 q2
  rw [← hy] at q3 q4
  rw [← hxn] at q2
  rw [← hyn] at q4
  have HND := hid2 q1
  have HX := hid2 hx
  have HY := hid2 hy
  have HXN := hid2 hxn
  have HYN := hid2 hyn
  have hx5 : (xn : Int) ≤ 500 := by omega
  have hbw3 : Below w.heap.size w w3 := HZ1.out.trans (HB3.out.mono HZ1.out.size)
  have HB3W := hid2 hbw3
  have HRX := hid2 (show ∀ wr, Below w3.heap.size w3 wr → Rd wr 1 A1 xn (strV x) from fun wr hb => by
    have h := ((HO1.out.rd).below_all HB3.out).below_all hb
    rw [← hx, ← hxn] at h
    exact h)
  have HRY := hid2 (show ∀ wr, Below w3.heap.size w3 wr → Rd wr 1 A2 yn (strV y) from fun wr hb => by
    have h := (HO2.out.rd).below_all hb
    rw [← hy, ← hyn] at h
    exact h)
  clear hx hy hxn hyn q1 q2 q3 q4 hbw3
  go_wp2_with fail
  go_loopg [11] xn (fun gk iv wr => Below w3.heap.size w3 wr ∧ ∃ i : Nat, i + gk = xn ∧ iv = .int .i64 i)
  case atStart => exact ⟨Below.refl _ _, 0, by omega, rfl⟩
  case round =>
    obtain ⟨hbe, i, hi, rfl⟩ := hrel
    have HBE := hid2 hbe
    have HI := hid2 hi
    clear hbe hi
    by_cases hlt : i < xn
    · have hil : (i : Int) < xn := by omega
      have hi0 : (0 : Int) ≤ i := by omega
      obtain ⟨p, hp⟩ : ∃ p, x[i]? = some p := ⟨_, List.getElem?_eq_getElem (by rw [← HXN.out]; exact hlt)⟩
      have HP := hid2 hp
      clear hp
      obtain ⟨g0, hg0⟩ : ∃ g0, g0 = gk := ⟨_, rfl⟩
      have HG0 := hid2 hg0
      clear hg0
      go_wp2_with fail
      go_loopg [12] i (fun gj kv wq => Below w3.heap.size w3 wq ∧ ∃ k : Nat, k + gj = i ∧ kv = .int .i64 k)
      case atStart => exact ⟨HBE.out, 0, by omega, rfl⟩
      case round =>
        obtain ⟨hbq, k, hk, rfl⟩ := hrel
        have HBQ := hid2 hbq
        have HK := hid2 hk
        clear hbq hk
        by_cases hkl : k < i
        · have hki : (k : Int) < i := by omega
          have hk0 : (0 : Int) ≤ k := by omega
          have hkx : (k : Int) < xn := by omega
          obtain ⟨q, hq⟩ : ∃ q, x[k]? = some q := ⟨_, List.getElem?_eq_getElem (by rw [← HXN.out]; omega)⟩
          have hne := nodup_ne HND.out HP.out hq (by omega)
          obtain ⟨b, o, rfl, hc⟩ := (HRX.out _ HBQ.out).2 (by omega)
          have hcp := hc _ _ (strV_get HP.out)
          have hcq := hc _ _ (strV_get hq)
          obtain ⟨SP, hSP⟩ : ∃ S, S = strB p := ⟨_, rfl⟩
          obtain ⟨SQ, hSQ⟩ : ∃ S, S = strB q := ⟨_, rfl⟩
          have hneq2 : ¬ SQ.toList = SP.toList := by rw [hSP, hSQ, toList_strBT, toList_strBT]; exact hne
          have hneq : (SQ.toList == SP.toList) = false := by rw [beq_eq_false_iff_ne]; exact hneq2
          rw [← hSP] at hcp
          rw [← hSQ] at hcq
          have hblt : b < wr.heap.size := World.block_lt_of_cell? _ _ hcp
          have HC := hid2 (show ∀ w2, Below wr.heap.size wr w2 → w2.cell? ⟨b, o + k, none⟩ = some (.string SQ) ∧ w2.cell? ⟨b, o + i, none⟩ = some (.string SP) from fun w2 hb => ⟨(hb.cell (p := ⟨b, o + k, none⟩) hblt).trans hcq, (hb.cell (p := ⟨b, o + i, none⟩) hblt).trans hcp⟩)
          clear hq hne hc hcp hcq hSP hSQ hblt
          go_wp2_with fail
          refine wp_region_rel 9 (by kernel_rfl) (by kernel_rfl) (by kernel_rfl) _ rfl (by kernel_rfl) (VV [some (.slice (some ⟨b, o, none⟩) xn c1), some (.int .i64 k), some (.pointer (some ⟨b, o + k, none⟩)), some (.string SQ), some (.slice (some ⟨b, o, none⟩) xn c1), some (.int .i64 i), some (.pointer (some ⟨b, o + i, none⟩)), some (.string SP), some (.bool false)] (fun _ _ _ => False)) (fun w2 => Below wr.heap.size wr w2) (fun a b => Below a.heap.size a b) ((Below.refl _ wr).drew) (fun j v w1 w2 hb hv => VV.keep (fun h => h.elim) hv) ?_ ?_
          · refine of_allOps ⟨?_, ?_, ?_, ?_, ?_, ?_, ?_, ?_, ?_, trivial⟩
            · refine ⟨rfl, fun T2 w2 hM hN hO hE K hK => ?_⟩
              have o9 : T2[9]? = some (.slice (some ⟨b, o, none⟩) xn c1) := hO 9 rfl
              clear hE hO hN
              go_simp
              exact hK _ _ rfl hM (Below.refl _ _)
            · refine ⟨rfl, fun T2 w2 hM hN hO hE K hK => ?_⟩
              have o12 : T2[12]? = some (.int .i64 k) := hO 12 rfl
              clear hE hO hN
              go_simp
              exact hK _ _ rfl hM (Below.refl _ _)
            · refine ⟨rfl, fun T2 w2 hM hN hO hE K hK => ?_⟩
              obtain ⟨v0, h0, e0⟩ := hE ⟨0, .data⟩ (by simp) rfl _ _ rfl rfl
              rw [show v0 = .slice (some ⟨b, o, none⟩) xn c1 from e0] at h0
              obtain ⟨v1, h1, e1⟩ := hE ⟨1, .data⟩ (by simp) rfl _ _ rfl rfl
              rw [show v1 = .int .i64 k from e1] at h1
              clear hE hO hN
              go_simp
              exact hK _ _ rfl hM (Below.refl _ _)
            · refine ⟨rfl, fun T2 w2 hM hN hO hE K hK => ?_⟩
              obtain ⟨v2, h2, e2⟩ := hE ⟨2, .data⟩ (by simp) rfl _ _ rfl rfl
              rw [show v2 = .pointer (some ⟨b, o + k, none⟩) from e2] at h2
              clear hE hO hN
              obtain ⟨y1, y2⟩ := HC.out w2 hM
              go_simp
              exact hK _ _ rfl hM (Below.refl _ _)
            · refine ⟨rfl, fun T2 w2 hM hN hO hE K hK => ?_⟩
              have o9 : T2[9]? = some (.slice (some ⟨b, o, none⟩) xn c1) := hO 9 rfl
              clear hE hO hN
              go_simp
              exact hK _ _ rfl hM (Below.refl _ _)
            · refine ⟨rfl, fun T2 w2 hM hN hO hE K hK => ?_⟩
              have o11 : T2[11]? = some (.int .i64 i) := hO 11 rfl
              clear hE hO hN
              go_simp
              exact hK _ _ rfl hM (Below.refl _ _)
            · refine ⟨rfl, fun T2 w2 hM hN hO hE K hK => ?_⟩
              obtain ⟨v4, h4, e4⟩ := hE ⟨4, .data⟩ (by simp) rfl _ _ rfl rfl
              rw [show v4 = .slice (some ⟨b, o, none⟩) xn c1 from e4] at h4
              obtain ⟨v5, h5, e5⟩ := hE ⟨5, .data⟩ (by simp) rfl _ _ rfl rfl
              rw [show v5 = .int .i64 i from e5] at h5
              clear hE hO hN
              go_simp
              exact hK _ _ rfl hM (Below.refl _ _)
            · refine ⟨rfl, fun T2 w2 hM hN hO hE K hK => ?_⟩
              obtain ⟨v6, h6, e6⟩ := hE ⟨6, .data⟩ (by simp) rfl _ _ rfl rfl
              rw [show v6 = .pointer (some ⟨b, o + i, none⟩) from e6] at h6
              clear hE hO hN
              obtain ⟨y1, y2⟩ := HC.out w2 hM
              go_simp
              exact hK _ _ rfl hM (Below.refl _ _)
            · refine ⟨rfl, fun T2 w2 hM hN hO hE K hK => ?_⟩
              obtain ⟨v3, h3, e3⟩ := hE ⟨3, .data⟩ (by simp) rfl _ _ rfl rfl
              rw [show v3 = .string SQ from e3] at h3
              obtain ⟨v7, h7, e7⟩ := hE ⟨7, .data⟩ (by simp) rfl _ _ rfl rfl
              rw [show v7 = .string SP from e7] at h7
              clear hE hO hN
              go_simp
              exact hK _ _ rfl hM (Below.refl _ _)
          · intro u w2 hM hF
            have e8 : u 8 = .bool false := hF 8 (by omega)
            clear hF
            simp only [fillAll, Nat.reduceAdd, e8, List.take_succ_cons, List.take_zero, List.drop_succ_cons, List.drop_zero, List.setIfInBounds_toArray, List.set_cons_succ, List.set_cons_zero]
            have HBF := hid2 (HBQ.out.trans (hM.mono HBQ.out.size))
            clear hM
            go_wp2_with fail
            go_roundg (gk - 1)
            case rel => exact ⟨HBF.out, k + 1, by have := HK.out; omega, by go_num⟩
            case measure => have := HK.out; omega
        · have hki : ¬ (k : Int) < i := by omega
          go_wp2_with fail
          go_roundg (g0 - 1)
          case rel => exact ⟨HBQ.out, i + 1, by have := HI.out; have := HG0.out; omega, by go_num⟩
          case measure => have := HI.out; have := HG0.out; omega
    · have hil : ¬ (i : Int) < xn := by omega
      have HW0 := hid2 HBE.out
      go_wp2_with fail
      clear HBE HI
      go_loopg [13] xn (fun gk iv wr => Below w3.heap.size w3 wr ∧ ∃ i : Nat, i + gk = xn ∧ i ≤ yn ∧ iv = .int .i64 i ∧ ∀ p ∈ x.take i, nrm (ansU V p) = nrm (ansU U p))
      case atStart => exact ⟨HW0.out, 0, by omega, Nat.zero_le _, rfl, fun p hp => by simp at hp⟩
      case round =>
        obtain ⟨hbe, i, hi, hiy, rfl, hag⟩ := hrel
        have HBE := hid2 hbe
        have HI := hid2 hi
        have HIY := hid2 hiy
        have HAG := hid2 hag
        clear hbe hi hiy hag
        by_cases hlx : i < xn
        · have hilx : (i : Int) < xn := by omega
          have hi0 : (0 : Int) ≤ i := by omega
          have htk : y.take (i + 1) = x.take (i + 1) := by
            have := DoesIs.reads_take HD1.out HD2.out i (by rw [← HX.out, ← HXN.out]; exact hlx) (by rw [← HX.out]; exact HAG.out)
            rwa [← HX.out, ← HY.out] at this
          have hly : i < yn := by
            have := congrArg List.length htk
            rw [List.length_take, List.length_take, ← HXN.out, ← HYN.out] at this
            omega
          have hily : (i : Int) < yn := by omega
          obtain ⟨p, hp⟩ : ∃ p, x[i]? = some p := ⟨_, List.getElem?_eq_getElem (by rw [← HXN.out]; exact hlx)⟩
          obtain ⟨p2, hp2⟩ : ∃ p, y[i]? = some p := ⟨_, List.getElem?_eq_getElem (by rw [← HYN.out]; exact hly)⟩
          have hpp := take_get htk hp hp2
          subst hpp
          obtain ⟨b1, o1, rfl, hc1⟩ := (HRX.out _ HBE.out).2 (by omega)
          obtain ⟨b2, o2, rfl, hc2⟩ := (HRY.out _ HBE.out).2 (by omega)
          have k1 := hc1 _ _ (strV_get hp)
          have k2 := hc2 _ _ (strV_get hp2)
          obtain ⟨SP, hSP⟩ : ∃ S, S = strB p2 := ⟨_, rfl⟩
          rw [← hSP] at k1 k2
          have l1 : b1 < wr.heap.size := World.block_lt_of_cell? _ _ k1
          have l2 : b2 < wr.heap.size := World.block_lt_of_cell? _ _ k2
          have HC := hid2 (show ∀ w2, Below wr.heap.size wr w2 → w2.cell? ⟨b1, o1 + i, none⟩ = some (.string SP) ∧ w2.cell? ⟨b2, o2 + i, none⟩ = some (.string SP) from fun w2 hb => ⟨(hb.cell (p := ⟨b1, o1 + i, none⟩) l1).trans k1, (hb.cell (p := ⟨b2, o2 + i, none⟩) l2).trans k2⟩)
          have heqs : (SP.toList != SP.toList) = false := by simp
          have heqt : (SP.toList == SP.toList) = true := by simp
          obtain ⟨KU, hKU⟩ : ∃ k, k = ansU U p2 := ⟨_, rfl⟩
          obtain ⟨KV, hKV⟩ : ∃ k, k = ansU V p2 := ⟨_, rfl⟩
          obtain ⟨P1, hP1⟩ : ∃ z, z = strB KU.path := ⟨_, rfl⟩
          obtain ⟨I1, hI1⟩ : ∃ z, z = KU.is := ⟨_, rfl⟩
          obtain ⟨Q1, hQ1⟩ : ∃ z, z = strB KU.data := ⟨_, rfl⟩
          obtain ⟨P2, hP2⟩ : ∃ z, z = strB KV.path := ⟨_, rfl⟩
          obtain ⟨I2, hI2⟩ : ∃ z, z = KV.is := ⟨_, rfl⟩
          obtain ⟨Q2, hQ2⟩ : ∃ z, z = strB KV.data := ⟨_, rfl⟩
          have e1 : encK KU = .agg #[.string P1, .bool I1, .string Q1] := by rw [encK, hP1, hI1, hQ1]
          have e2 : encK KV = .agg #[.string P2, .bool I2, .string Q2] := by rw [encK, hP2, hI2, hQ2]
          have CC1 := hid2 (show ∀ w2, Below wr.heap.size wr w2 → Calls Tryz.prog 15 #[.slice KA un kc, .string SP] w2 fun e w' => e = .returned (.agg #[.string P1, .bool I1, .string Q1]) ∧ Below w2.heap.size w2 w' from fun w2 hb => by
            have hb0 := HB3W.out.trans (HBE.out.mono HB3W.out.size)
            have := CB1.out w2 (hb0.trans (hb.mono hb0.size)) p2
            rw [← hKU, e1, ← hSP] at this
            exact this)
          have CC2 := hid2 (show ∀ w2, Below wr.heap.size wr w2 → Calls Tryz.prog 15 #[.slice OA vn oc, .string SP] w2 fun e w' => e = .returned (.agg #[.string P2, .bool I2, .string Q2]) ∧ Below w2.heap.size w2 w' from fun w2 hb => by
            have hb0 := HB3W.out.trans (HBE.out.mono HB3W.out.size)
            have := CB2.out w2 (hb0.trans (hb.mono hb0.size)) p2
            rw [← hKV, e2, ← hSP] at this
            exact this)
          have HNR := hid2 (show I1 = I2 → (I1 = true → Q1.toList = Q2.toList) → ∀ p ∈ x.take (i + 1), nrm (ansU V p) = nrm (ansU U p) from fun a1 a2 p hp' => by
            rw [List.take_add_one, hp] at hp'
            rcases List.mem_append.1 hp' with h | h
            · exact HAG.out p h
            · have : p = p2 := by simpa using h
              subst this
              rw [← hKU, ← hKV]
              refine nrm_eq (by rw [← hI1, ← hI2]; exact a1) fun h3 => ?_
              have := a2 (by rw [hI1]; exact h3)
              rwa [hQ1, hQ2, toList_strBT, toList_strBT] at this)
          clear htk hp hp2 hc1 hc2 k1 k2 hSP l1 l2 hKU hKV hP1 hI1 hQ1 hP2 hI2 hQ2 e1 e2 HAG
          go_upto_region 17 with fail
          refine wp_region_rel 9 (by kernel_rfl) (by kernel_rfl) (by kernel_rfl) _ rfl (by kernel_rfl) (VV [some (.slice (some ⟨b1, o1, none⟩) xn c1), some (.int .i64 i), some (.pointer (some ⟨b1, o1 + i, none⟩)), some (.string SP), some (.slice (some ⟨b2, o2, none⟩) yn c2), some (.int .i64 i), some (.pointer (some ⟨b2, o2 + i, none⟩)), some (.string SP), some (.bool false)] (fun _ _ _ => False)) (fun w2 => Below wr.heap.size wr w2) (fun a b => Below a.heap.size a b) ((Below.refl _ wr).drew) (fun j v w1 w2 hb hv => VV.keep (fun h => h.elim) hv) ?_ ?_
          · refine of_allOps ⟨?_, ?_, ?_, ?_, ?_, ?_, ?_, ?_, ?_, trivial⟩
            · refine ⟨rfl, fun T2 w2 hM hN hO hE K hK => ?_⟩
              have o9 : T2[9]? = some (.slice (some ⟨b1, o1, none⟩) xn c1) := hO 9 rfl
              clear hE hO hN
              go_simp
              exact hK _ _ rfl hM (Below.refl _ _)
            · refine ⟨rfl, fun T2 w2 hM hN hO hE K hK => ?_⟩
              have o13 : T2[13]? = some (.int .i64 i) := hO 13 rfl
              clear hE hO hN
              go_simp
              exact hK _ _ rfl hM (Below.refl _ _)
            · refine ⟨rfl, fun T2 w2 hM hN hO hE K hK => ?_⟩
              obtain ⟨v0, h0, e0⟩ := hE ⟨0, .data⟩ (by simp) rfl _ _ rfl rfl
              rw [show v0 = .slice (some ⟨b1, o1, none⟩) xn c1 from e0] at h0
              obtain ⟨v1, h1, e1⟩ := hE ⟨1, .data⟩ (by simp) rfl _ _ rfl rfl
              rw [show v1 = .int .i64 i from e1] at h1
              clear hE hO hN
              go_simp
              exact hK _ _ rfl hM (Below.refl _ _)
            · refine ⟨rfl, fun T2 w2 hM hN hO hE K hK => ?_⟩
              obtain ⟨v2, h2, e2⟩ := hE ⟨2, .data⟩ (by simp) rfl _ _ rfl rfl
              rw [show v2 = .pointer (some ⟨b1, o1 + i, none⟩) from e2] at h2
              clear hE hO hN
              obtain ⟨y1, y2⟩ := HC.out w2 hM
              go_simp
              exact hK _ _ rfl hM (Below.refl _ _)
            · refine ⟨rfl, fun T2 w2 hM hN hO hE K hK => ?_⟩
              have o10 : T2[10]? = some (.slice (some ⟨b2, o2, none⟩) yn c2) := hO 10 rfl
              clear hE hO hN
              go_simp
              exact hK _ _ rfl hM (Below.refl _ _)
            · refine ⟨rfl, fun T2 w2 hM hN hO hE K hK => ?_⟩
              have o13 : T2[13]? = some (.int .i64 i) := hO 13 rfl
              clear hE hO hN
              go_simp
              exact hK _ _ rfl hM (Below.refl _ _)
            · refine ⟨rfl, fun T2 w2 hM hN hO hE K hK => ?_⟩
              obtain ⟨v4, h4, e4⟩ := hE ⟨4, .data⟩ (by simp) rfl _ _ rfl rfl
              rw [show v4 = .slice (some ⟨b2, o2, none⟩) yn c2 from e4] at h4
              obtain ⟨v5, h5, e5⟩ := hE ⟨5, .data⟩ (by simp) rfl _ _ rfl rfl
              rw [show v5 = .int .i64 i from e5] at h5
              clear hE hO hN
              go_simp
              exact hK _ _ rfl hM (Below.refl _ _)
            · refine ⟨rfl, fun T2 w2 hM hN hO hE K hK => ?_⟩
              obtain ⟨v6, h6, e6⟩ := hE ⟨6, .data⟩ (by simp) rfl _ _ rfl rfl
              rw [show v6 = .pointer (some ⟨b2, o2 + i, none⟩) from e6] at h6
              clear hE hO hN
              obtain ⟨y1, y2⟩ := HC.out w2 hM
              go_simp
              exact hK _ _ rfl hM (Below.refl _ _)
            · refine ⟨rfl, fun T2 w2 hM hN hO hE K hK => ?_⟩
              obtain ⟨v3, h3, e3⟩ := hE ⟨3, .data⟩ (by simp) rfl _ _ rfl rfl
              rw [show v3 = .string SP from e3] at h3
              obtain ⟨v7, h7, e7⟩ := hE ⟨7, .data⟩ (by simp) rfl _ _ rfl rfl
              rw [show v7 = .string SP from e7] at h7
              clear hE hO hN
              go_simp
              exact hK _ _ rfl hM (Below.refl _ _)
          · intro u w4 hM hF
            have e8 : u 8 = .bool false := hF 8 (by omega)
            clear hF
            simp only [fillAll, Nat.reduceAdd, e8, List.take_succ_cons, List.take_zero, List.drop_succ_cons, List.drop_zero, List.setIfInBounds_toArray, List.set_cons_succ, List.set_cons_zero]
            have HB17 := hid2 hM
            clear hM
            go_upto_region 19 with fail
            refine wp_region_dis 14 (by kernel_rfl) (by kernel_rfl) (by kernel_rfl) _ rfl (by kernel_rfl) (VV [some (.slice KA un kc), some (.slice (some ⟨b1, o1, none⟩) xn c1), some (.int .i64 i), some (.pointer (some ⟨b1, o1 + i, none⟩)), some (.string SP), some (.agg #[.string P1, .bool I1, .string Q1]), some (.slice OA vn oc), some (.slice (some ⟨b1, o1, none⟩) xn c1), some (.int .i64 i), some (.pointer (some ⟨b1, o1 + i, none⟩)), some (.string SP), some (.agg #[.string P2, .bool I2, .string Q2]), none, none] (fun _ v2 w2 => ∃ g, v2 = .pointer (some ⟨g, 0, none⟩) ∧ wr.heap.size ≤ g ∧ w2.heap[g]? = some (.cells #[.string ⟨#[]⟩, .bool false, .string ⟨#[]⟩] 41 (0, 0)))) (fun w2 => Below wr.heap.size wr w2) (fun a b => Below a.heap.size a b) (HB17.out.drew) (fun j v w1 w2 hb hv => VV.keep (fun ⟨g, h1, h2, h3⟩ => ⟨g, h1, h2, (hb.block g (heap_lt h3)).trans h3⟩) hv) (fun i v j v2 => ((i = 12 ∧ j = 13) ∨ (i = 13 ∧ j = 12)) → v ≠ v2) (fun i v j v2 h hc => Ne.symm (h (by omega))) ?_ ?_
            · refine of_allOps ⟨?_, ?_, ?_, ?_, ?_, ?_, ?_, ?_, ?_, ?_, ?_, ?_, ?_, ?_, trivial⟩
              · intro T2 w2 hM hN hO hE K hK
                have o2 : T2[2]? = some (.slice KA un kc) := hO 2 rfl
                clear hE hO hN
                refine step_plain0 rfl ?_
                go_simp
                exact hK _ _ rfl hM (Below.refl _ _) (fun j v2 _ _ _ h => absurd h (by omega))
              · intro T2 w2 hM hN hO hE K hK
                have o9 : T2[9]? = some (.slice (some ⟨b1, o1, none⟩) xn c1) := hO 9 rfl
                clear hE hO hN
                refine step_plain0 rfl ?_
                go_simp
                exact hK _ _ rfl hM (Below.refl _ _) (fun j v2 _ _ _ h => absurd h (by omega))
              · intro T2 w2 hM hN hO hE K hK
                have o13 : T2[13]? = some (.int .i64 i) := hO 13 rfl
                clear hE hO hN
                refine step_plain0 rfl ?_
                go_simp
                exact hK _ _ rfl hM (Below.refl _ _) (fun j v2 _ _ _ h => absurd h (by omega))
              · intro T2 w2 hM hN hO hE K hK
                obtain ⟨v1, h1, e1⟩ := hE ⟨1, .data⟩ (by simp) rfl _ _ rfl rfl
                rw [show v1 = .slice (some ⟨b1, o1, none⟩) xn c1 from e1] at h1
                obtain ⟨v2, h2, e2⟩ := hE ⟨2, .data⟩ (by simp) rfl _ _ rfl rfl
                rw [show v2 = .int .i64 i from e2] at h2
                clear hE hO hN
                refine step_plain0 rfl ?_
                go_simp
                exact hK _ _ rfl hM (Below.refl _ _) (fun j v2 _ _ _ h => absurd h (by omega))
              · intro T2 w2 hM hN hO hE K hK
                obtain ⟨v3, h3, e3⟩ := hE ⟨3, .data⟩ (by simp) rfl _ _ rfl rfl
                rw [show v3 = .pointer (some ⟨b1, o1 + i, none⟩) from e3] at h3
                clear hE hO hN
                refine step_plain0 rfl ?_
                obtain ⟨y1, y2⟩ := HC.out w2 hM
                go_simp
                exact hK _ _ rfl hM (Below.refl _ _) (fun j v2 _ _ _ h => absurd h (by omega))
              · intro T2 w2 hM hN hO hE K hK
                obtain ⟨v0, h0, e0⟩ := hE ⟨0, .data⟩ (by simp) rfl _ _ rfl rfl
                rw [show v0 = .slice KA un kc from e0] at h0
                obtain ⟨v4, h4, e4⟩ := hE ⟨4, .data⟩ (by simp) rfl _ _ rfl rfl
                rw [show v4 = .string SP from e4] at h4
                clear hE hO hN
                refine step_plain0 rfl ?_
                go_simp
                refine (CC1.out w2 hM).mono ?_
                rintro e w5 ⟨rfl, hb5⟩
                exact hK _ _ rfl (hM.trans (hb5.mono hM.size)) hb5 (fun j v2 _ _ _ h => absurd h (by omega))
              · intro T2 w2 hM hN hO hE K hK
                have o3 : T2[3]? = some (.slice OA vn oc) := hO 3 rfl
                clear hE hO hN
                refine step_plain0 rfl ?_
                go_simp
                exact hK _ _ rfl hM (Below.refl _ _) (fun j v2 _ _ _ h => absurd h (by omega))
              · intro T2 w2 hM hN hO hE K hK
                have o9 : T2[9]? = some (.slice (some ⟨b1, o1, none⟩) xn c1) := hO 9 rfl
                clear hE hO hN
                refine step_plain0 rfl ?_
                go_simp
                exact hK _ _ rfl hM (Below.refl _ _) (fun j v2 _ _ _ h => absurd h (by omega))
              · intro T2 w2 hM hN hO hE K hK
                have o13 : T2[13]? = some (.int .i64 i) := hO 13 rfl
                clear hE hO hN
                refine step_plain0 rfl ?_
                go_simp
                exact hK _ _ rfl hM (Below.refl _ _) (fun j v2 _ _ _ h => absurd h (by omega))
              · intro T2 w2 hM hN hO hE K hK
                obtain ⟨v7, h7, e7⟩ := hE ⟨7, .data⟩ (by simp) rfl _ _ rfl rfl
                rw [show v7 = .slice (some ⟨b1, o1, none⟩) xn c1 from e7] at h7
                obtain ⟨v8, h8, e8⟩ := hE ⟨8, .data⟩ (by simp) rfl _ _ rfl rfl
                rw [show v8 = .int .i64 i from e8] at h8
                clear hE hO hN
                refine step_plain0 rfl ?_
                go_simp
                exact hK _ _ rfl hM (Below.refl _ _) (fun j v2 _ _ _ h => absurd h (by omega))
              · intro T2 w2 hM hN hO hE K hK
                obtain ⟨v9, h9, e9⟩ := hE ⟨9, .data⟩ (by simp) rfl _ _ rfl rfl
                rw [show v9 = .pointer (some ⟨b1, o1 + i, none⟩) from e9] at h9
                clear hE hO hN
                refine step_plain0 rfl ?_
                obtain ⟨y1, y2⟩ := HC.out w2 hM
                go_simp
                exact hK _ _ rfl hM (Below.refl _ _) (fun j v2 _ _ _ h => absurd h (by omega))
              · intro T2 w2 hM hN hO hE K hK
                obtain ⟨v6, h6, e6⟩ := hE ⟨6, .data⟩ (by simp) rfl _ _ rfl rfl
                rw [show v6 = .slice OA vn oc from e6] at h6
                obtain ⟨v10, h10, e10⟩ := hE ⟨10, .data⟩ (by simp) rfl _ _ rfl rfl
                rw [show v10 = .string SP from e10] at h10
                clear hE hO hN
                refine step_plain0 rfl ?_
                go_simp
                refine (CC2.out w2 hM).mono ?_
                rintro e w5 ⟨rfl, hb5⟩
                exact hK _ _ rfl (hM.trans (hb5.mono hM.size)) hb5 (fun j v2 _ _ _ h => absurd h (by omega))
              · intro T2 w2 hM hN hO hE K hK
                clear hE hO hN
                refine step_plain0 rfl ?_
                go_simp
                exact hK _ _ ⟨w2.heap.size, rfl, hM.size, World.alloc_heap_new w2 _⟩ (hM.alloc hM.size _) ((Below.refl _ w2).alloc (Nat.le_refl _) _) (fun j v2 _ _ hv h => by
                  obtain rfl : j = 13 := by omega
                  obtain ⟨g, e, _, hg⟩ := (show ∃ g, v2 = .pointer (some ⟨g, 0, none⟩) ∧ wr.heap.size ≤ g ∧ w2.heap[g]? = some (.cells #[.string ⟨#[]⟩, .bool false, .string ⟨#[]⟩] 41 (0, 0)) from hv)
                  have := heap_lt hg
                  rw [e]
                  intro hc
                  injection hc with hc
                  injection hc with hc
                  injection hc with hc
                  omega)
              · intro T2 w2 hM hN hO hE K hK
                clear hE hO hN
                refine step_plain0 rfl ?_
                go_simp
                exact hK _ _ ⟨w2.heap.size, rfl, hM.size, World.alloc_heap_new w2 _⟩ (hM.alloc hM.size _) ((Below.refl _ w2).alloc (Nat.le_refl _) _) (fun j v2 _ _ hv h => by
                  obtain rfl : j = 12 := by omega
                  obtain ⟨g, e, _, hg⟩ := (show ∃ g, v2 = .pointer (some ⟨g, 0, none⟩) ∧ wr.heap.size ≤ g ∧ w2.heap[g]? = some (.cells #[.string ⟨#[]⟩, .bool false, .string ⟨#[]⟩] 41 (0, 0)) from hv)
                  have := heap_lt hg
                  rw [e]
                  intro hc
                  injection hc with hc
                  injection hc with hc
                  injection hc with hc
                  omega)
            · intro u w4 hM hF hRR
              have e5 : u 5 = .agg #[.string P1, .bool I1, .string Q1] := hF 5 (by omega)
              have e11 : u 11 = .agg #[.string P2, .bool I2, .string Q2] := hF 11 (by omega)
              obtain ⟨gp, e12, hgp⟩ := (show ∃ g, u 12 = .pointer (some ⟨g, 0, none⟩) ∧ wr.heap.size ≤ g ∧ w4.heap[g]? = some (.cells #[.string ⟨#[]⟩, .bool false, .string ⟨#[]⟩] 41 (0, 0)) from hF 12 (by omega))
              obtain ⟨gq, e13, hgq⟩ := (show ∃ g, u 13 = .pointer (some ⟨g, 0, none⟩) ∧ wr.heap.size ≤ g ∧ w4.heap[g]? = some (.cells #[.string ⟨#[]⟩, .bool false, .string ⟨#[]⟩] 41 (0, 0)) from hF 13 (by omega))
              have hne := hRR 12 13 (by omega) (by omega) (by omega) (by omega)
              rw [e12, e13] at hne
              clear hF
              simp only [fillAll, Nat.reduceAdd, e5, e11, e12, e13, List.take_succ_cons, List.take_zero, List.drop_succ_cons, List.drop_zero, List.setIfInBounds_toArray, List.set_cons_succ, List.set_cons_zero]
              have HB4 := hid2 hM
              have HNE := hid2 hne
              have HGP := hid2 hgp
              have HGQ := hid2 hgq
              clear hM hne hgp hgq
              have hpq : gp ≠ gq := fun e => HNE.out (by rw [e])
              have hg1 := HGP.out.2
              have hF0 : ∀ (a b : ByteArray) (f : Bool), 0 + [Value.string a, .bool f, .string b].length ≤ (#[.string ⟨#[]⟩, .bool false, .string ⟨#[]⟩] : Array Value).size := fun _ _ _ => Nat.le_refl _
              refine wpList_store_lit gp 0 (.agg #[.string P1, .bool I1, .string Q1]) [.string P1, .bool I1, .string Q1] (known_cells _ _ _) #[.string ⟨#[]⟩, .bool false, .string ⟨#[]⟩] 41 hg1 (info_known3 _ _ _) (hF0 _ _ _) one_known ?_ ?_
              · exact ⟨rfl, rfl⟩
              rw [laid_known]
              obtain ⟨W5, hW5⟩ : ∃ W5, W5 = w4.setRow gp #[.string P1, .bool I1, .string Q1] := ⟨_, rfl⟩
              rw [← hW5]
              have hg2 : W5.heap[gq]? = some (.cells #[.string ⟨#[]⟩, .bool false, .string ⟨#[]⟩] 41 (0, 0)) := by rw [hW5, setRow_other w4 gp gq _ (Ne.symm hpq)]; exact HGQ.out.2
              refine wpList_store_lit gq 0 (.agg #[.string P2, .bool I2, .string Q2]) [.string P2, .bool I2, .string Q2] (known_cells _ _ _) #[.string ⟨#[]⟩, .bool false, .string ⟨#[]⟩] 41 hg2 (info_known3 _ _ _) (hF0 _ _ _) one_known ?_ ?_
              · exact ⟨rfl, rfl⟩
              rw [laid_known]
              obtain ⟨W6, hW6⟩ : ∃ W6, W6 = W5.setRow gq #[.string P2, .bool I2, .string Q2] := ⟨_, rfl⟩
              rw [← hW6]
              have r1 : W6.heap[gp]? = some (.cells #[.string P1, .bool I1, .string Q1] 41 (0, 0)) := by
                rw [hW6, setRow_other W5 gq gp _ hpq, hW5]
                exact setRow_heap w4 gp _ _ _ _ hg1
              have r2 : W6.heap[gq]? = some (.cells #[.string P2, .bool I2, .string Q2] 41 (0, 0)) := by
                rw [hW6]
                exact setRow_heap W5 gq _ _ _ _ hg2
              have hb6 : Below wr.heap.size wr W6 := by
                rw [hW6, hW5]
                exact below_setRow (below_setRow HB4.out HGP.out.1 _) HGQ.out.1 _
              have HB6 := hid2 hb6
              have a1 := cell_of_row W6 gp 1 _ _ _ r1
              have a2 := cell_of_row W6 gp 2 _ _ _ r1
              have b1' := cell_of_row W6 gq 1 _ _ _ r2
              have b2' := cell_of_row W6 gq 2 _ _ _ r2
              have x1 : W6.cell? ⟨gp, 1, none⟩ = some (.bool I1) := a1
              have x2 : W6.cell? ⟨gp, 2, none⟩ = some (.string Q1) := a2
              have x3 : W6.cell? ⟨gq, 1, none⟩ = some (.bool I2) := b1'
              have x4 : W6.cell? ⟨gq, 2, none⟩ = some (.string Q2) := b2'
              have HBF := hid2 (HBE.out.trans (hb6.mono HBE.out.size))
              clear hg1 hg2 r1 r2 hb6 hW5 hW6 a1 a2 b1' b2' hF0 hpq HNE HGP HGQ
              go_upto_region 20 with fail
              by_cases hI : I1 = I2
              · subst hI
                cases I1 with
                | false =>
                  have HN2 := hid2 (HNR.out rfl (fun h => by cases h))
                  go_wp2_with fail
                  go_roundg (gk - 1)
                  case rel => exact ⟨HBF.out, i + 1, by have := HI.out; omega, by omega, by go_num, HN2.out⟩
                  case measure => have := HI.out; omega
                | true =>
                  by_cases hQ : Q1.toList = Q2.toList
                  · have HN2 := hid2 (HNR.out rfl (fun _ => hQ))
                    have hq1 : (Q1.toList == Q2.toList) = true := by rw [hQ, beq_self_eq_true]
                    have hq2 : (Q1.toList != Q2.toList) = false := by rw [bne, hq1]; rfl
                    go_wp2_with fail
                    go_roundg (gk - 1)
                    case rel => exact ⟨HBF.out, i + 1, by have := HI.out; omega, by omega, by go_num, HN2.out⟩
                    case measure => have := HI.out; omega
                  · have hq1 : (Q1.toList == Q2.toList) = false := by rw [beq_eq_false_iff_ne]; exact hQ
                    have hq2 : (Q1.toList != Q2.toList) = true := by rw [bne, hq1]; rfl
                    go_wp2_with fail
                    refine bodyPost_ret (results_tmp rfl _ _ _) rfl ?_
                    exact ⟨rfl, HB3W.out.trans (HBF.out.mono HB3W.out.size)⟩
              · have hd : (I1 != I2) = true := by simpa using hI
                go_wp2_with fail
                refine bodyPost_ret (results_tmp rfl _ _ _) rfl ?_
                exact ⟨rfl, HB3W.out.trans (HBF.out.mono HB3W.out.size)⟩
        · have hilx : ¬ (i : Int) < xn := by omega
          have hxi : i = xn := by have := HI.out; omega
          have hDD := DoesIs.reads_all HD1.out HD2.out (by
            have h := HAG.out
            rw [hxi, HXN.out, List.take_length] at h
            rw [← HX.out]
            exact h)
          have hyx : (yn : Int) = xn := by
            rw [HXN.out, HYN.out, HX.out, HY.out, hDD]
          have hyx2 : ((xn : Int) == (yn : Int)) = true := by rw [hyx, beq_self_eq_true]
          clear hDD hxi
          go_wp2_with fail
          refine bodyPost_ret (results_tmp rfl _ _ _) rfl ?_
          exact ⟨rfl, HB3W.out.trans (HBE.out.mono HB3W.out.size)⟩
theorem asksl_any (w : World) (env : List (TT × TT)) (U V : List KE) (text : TT) (hl : Lib3 w)
    (hwe : ∀ p ∈ env, p.1.length + p.2.length ≤ 4611686018427387904) (hwk : ∀ k ∈ U, k.path.length + k.data.length ≤ 4611686018427387904) (hwv : ∀ k ∈ V, k.path.length + k.data.length ≤ 4611686018427387904)
    (EA KA OA : Option Addr) (ec kc oc : Nat) (hre : Rd w 2 EA env.length (setV env)) (hrk : Rd w 3 KA U.length (kV U)) (hrv : Rd w 3 OA V.length (kV V)) :
    Calls Tryz.prog 4 #[.string (strB text), .slice EA env.length ec, .slice KA U.length kc, .slice OA V.length oc] w fun e w' => e = .returned (.bool true) ∧ Below w.heap.size w w' := by
  cases h1 : wideL env U text with
  | true => exact asksl_wide1 w env U V text hl hwe hwk hwv EA KA OA ec kc oc hre hrk hrv h1
  | false =>
    cases h2 : wideL env V text with
    | true => exact asksl_wide2 w env U V text hl hwe hwk hwv EA KA OA ec kc oc hre hrk hrv h1 h2
    | false => exact asksl_walk w env U V text hl hwe hwk hwv EA KA OA ec kc oc hre hrk hrv h1 h2
end Go.Proofs.YtnecjdhamohadaaGreatDoor
