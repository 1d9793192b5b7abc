/- HERMETIC. -/
import Derived.Test.YtnecjdhamohadaaGreatDoorMt
import Derived.Test.YtnecjdhamohadaaGreatDoorRows
import Derived.WalkKit
import Derived.ProofKit
import Derived.OpenShut
import Derived.ChangeMaps5
import Derived.SliceStrings
import Derived.JoinedCond
import Derived.Carry
import Derived.SizedLaws
import Derived.Test.YtnecjdhamohadaaGreatDoorMa
import Derived.HandedShaped
import Derived.Handed
import Derived.Deep.Slices
import Derived.Lib.LaidTab
import Derived.LaidMore
import Derived.Stop.Joined
import Derived.Stop.LaidErr
set_option linter.unusedSimpArgs false
set_option linter.unusedVariables false
namespace Go.Proofs.YtnecjdhamohadaaGreatDoor
open Go.RowKit Go.Maps Go.Shelf
set_option maxRecDepth 100000
theorem zero_knownI : (Tryz.prog.info? 41).map (fun i => (i.zero, i.size, i.bytes)) = some (some (.agg #[.string ⟨#[]⟩, .bool false, .string ⟨#[]⟩]), 3, 40) := by kernel_rfl
theorem kV_app (l m : List KE) : kV l ++ kV m = kV (l ++ m) := by simp [kV]
theorem filter_take {α : Type} {f : α → Bool} : ∀ {l : List α} {i : Nat} {x : α}, l[i]? = some x → (l.take (i + 1)).filter f = (l.take i).filter f ++ (if f x = true then [x] else [])
  | [], _, _, h => by simp at h
  | y :: l, 0, x, h => by
    rw [List.getElem?_cons_zero] at h
    cases h
    by_cases hf : f y = true
    · simp [hf]
    · simp [hf]
  | y :: l, i + 1, x, h => by
    rw [List.getElem?_cons_succ] at h
    have := filter_take (f := f) h
    rw [List.take_succ_cons, List.take_succ_cons]
    by_cases hf : f y = true
    · rw [List.filter_cons_of_pos hf, List.filter_cons_of_pos hf, this]; rfl
    · rw [List.filter_cons_of_neg hf, List.filter_cons_of_neg hf, this]
theorem fit_fail (k y : Nat) (hk : k ≤ 1000000) (hy : y ≤ 1000000) : FitDo ⟨k, [], [], y⟩ := ⟨hk, hy, by simp, by simp⟩
/-- what is told is not great -/
theorem fit_task (v : Env) (s : PS) (h : FitDo s.over) (hl : Lim s) (t : TaskE) (ht : TaskOk t) : FitDo (s.task v t).over := by
  have hf : ∀ (s : PS) y, y ≤ 1000000 → FitDo (s.fail y).over := fun s y hy => fit_fail 4 y (by decide) hy
  have hadd : ∀ (s : PS) t, FitDo s.over → FitDo (s.add t).over := fun s t h => by
    unfold PS.add
    split
    · exact hf s 6 (by decide)
    · exact h
  have hthen : ∀ (s : PS) th k, FitDo s.over → FitDo (s.then_ th k).over := fun s th k h => by
    cases th <;> unfold PS.then_ <;> simp only <;> split
    · exact hadd s _ h
    · exact hf s 10 (by decide)
    · exact hadd s _ h
    · exact h
    · exact h
    · exact hf s 10 (by decide)
  have hask : ∀ (s : PS) p th, FitDo s.over → FitDo (s.ask p th).over := fun s p th h => by
    unfold PS.ask
    split
    · exact hthen s _ _ h
    · split
      · exact hf s 6 (by decide)
      · exact h
  cases t with
  | cmd c =>
    have harg : ((c.ws.drop 1).headD []).length ≤ 1000000 := by
      cases hd : c.ws.drop 1 with
      | nil => exact Nat.zero_le _
      | cons x r => exact ht.2.2.1 x (List.mem_of_mem_drop (i := 1) (by rw [hd]; exact List.mem_cons_self ..))
    have hwr : FitDo ⟨2, (c.ws.drop 1).headD [], s.buf, 0⟩ := ⟨show 2 ≤ 1000000 from by decide, show 0 ≤ 1000000 from by decide, Nat.le_trans harg (by decide), Nat.le_trans hl.buf (by decide)⟩
    unfold PS.task PS.do_
    simp only
    have hturn : ∀ n a l, FitDo (s.turn n a l).over := fun n a l => by
      unfold PS.turn
      repeat' split
      all_goals first
        | exact hadd { s with buf := [] } _ h
        | exact h
    repeat' split
    all_goals first
      | exact hask s _ _ h
      | exact hadd s _ h
      | exact hf s _ (by decide)
      | exact hask { s with seen := _ } _ _ h
      | exact hwr
      | exact hturn _ _ _
      | exact h
  | ans p th => exact hthen s _ _ h
  | line x w =>
    unfold PS.task PS.line
    simp only
    repeat' split
    all_goals first
      | exact hask { s with seen := _ } _ _ h
      | exact hadd s _ h
      | exact h
theorem fit_step (v : Env) {s : PS} (h : FitDo s.over) (hl : Lim s) : FitDo (s.step v).over := by
  by_cases hs : s.Still
  · rw [PS.step_still hs]; exact h
  · cases ht : s.todo with
    | nil => rw [step_nil hs ht]; exact fit_fail 3 0 (by decide) (by decide)
    | cons t r =>
      rw [step_cons hs ht]
      exact fit_task v { s with todo := r } h ⟨hl.buf, fun t2 h2 => hl.tasks t2 (by rw [ht]; exact List.mem_cons_of_mem _ h2), hl.datas, hl.seens, hl.asks, hl.less⟩ t (hl.tasks t (by rw [ht]; exact List.mem_cons_self ..))
theorem fit_mrun {v : Env} {O : TT → Option KE} (hO : ∀ p k, O p = some k → k.is = true → k.data.length ≤ 1000000) : ∀ (n : Nat) {s : PS} {E : List DE}, Ord s → FitDo s.over → (∀ x ∈ E, FitDo x) → FitDo (mrun v O n (s, E)).1.over ∧ ∀ x ∈ (mrun v O n (s, E)).2, FitDo x
  | 0, _, _, _, h2, h3 => ⟨h2, h3⟩
  | n + 1, s, E, h1, h2, h3 => by
    have ho := Ord.mstep (v := v) (E := E) h1 hO
    have hx : FitDo (mstep v O (s, E)).1.over ∧ ∀ x ∈ (mstep v O (s, E)).2, FitDo x := by
      have happ : ∀ d, FitDo d → ∀ x ∈ E ++ [d], FitDo x := fun d hd x hx => by
        rcases List.mem_append.1 hx with h | h
        · exact h3 x h
        · rw [List.mem_singleton.1 h]; exact hd
      unfold mstep
      simp only
      split
      · exact ⟨fit_fail 0 0 (by decide) (by decide), happ _ h2⟩
      · split
        · exact ⟨h2, h3⟩
        · split
          · split
            · exact ⟨h2, happ _ ⟨show 1 ≤ 1000000 from by decide, show 0 ≤ 1000000 from by decide, Nat.le_trans h1.lim.asks (by decide), by simp⟩⟩
            · exact ⟨h2, h3⟩
          · exact ⟨fit_step v h2 h1.lim, h3⟩
    rw [mrun]
    exact fit_mrun hO n ho hx.1 hx.2
theorem doesis_fitdo {v : Env} {U : List KE} {text : TT} {D : List DE} (hm : Mild v U text) (h : DoesIs v U text D) : ∀ x ∈ D, FitDo x := by
  rcases h with ⟨_, rfl⟩ | ⟨h1, n, S, E, h2, _, rfl⟩
  · exact fun x hx => by cases hx
  · have := fit_mrun (v := v) hm.orc n (s := PS.start (cmdsOf mayB (linesT text))) (E := []) (hm.start h1).ord (fit_fail 0 0 (by decide) (by decide)) (fun x hx => by cases hx)
    rw [h2] at this
    intro x hx
    rcases List.mem_append.1 hx with h | h
    · exact this.2 x h
    · rw [List.mem_singleton.1 h]; exact this.1
set_option maxHeartbeats 16000000 in
theorem unread_walk (w : World) (env : List (TT × TT)) (U V : List KE) (text : TT) (hl : Lib3 w)
    (hwe : ∀ p ∈ env, p.1.length + p.2.length ≤ 4611686018427387904) (hwk : ∀ k ∈ U, k.path.length + k.data.length ≤ 4611686018427387904) (hwv : ∀ k ∈ V, k.path.length + k.data.length ≤ 4611686018427387904)
    (EA KA OA : Option Addr) (ec kc oc : Nat) (hre : Rd w 2 EA env.length (setV env)) (hrk : Rd w 3 KA U.length (kV U)) (hrv : Rd w 3 OA V.length (kV V))
    (h1 : wideL env U text = false) (h2 : wideL env V text = false) :
    Calls Tryz.prog 6 #[.string (strB text), .slice EA env.length ec, .slice KA U.length kc, .slice OA V.length oc] w fun e w' => e = .returned (.bool true) ∧ Below w.heap.size w w' := by
  obtain ⟨X, hX⟩ : ∃ X, X = strB text := ⟨_, rfl⟩
  obtain ⟨en, hen⟩ : ∃ n, n = env.length := ⟨_, rfl⟩
  obtain ⟨un, hun⟩ : ∃ n, n = U.length := ⟨_, rfl⟩
  obtain ⟨vn, hvn⟩ : ∃ n, n = V.length := ⟨_, rfl⟩
  obtain ⟨f1, f2, f3, f4, f5⟩ := not_wide h1
  obtain ⟨-, -, f6, f7, -⟩ := not_wide h2
  have hmild : ∀ W : List KE, W.length ≤ 120 → (∀ k ∈ W, k.path.length + k.data.length ≤ 4000) → Mild ⟨mayB, env⟩ W text := fun W a b => mild_of f1 a b f2 f5
  have hmu := hmild U (by omega) f4
  have CW1 := hid2 (show ∀ w2, Below w.heap.size w w2 → Calls Tryz.prog 10 #[.string X, .slice EA en ec, .slice KA un kc] w2 fun e w' => e = .returned (.bool false) ∧ Below w2.heap.size w2 w' from fun w2 hb => by
    have := wide_any w2 EA KA ec kc env U text hwe hwk (hre.below_all hb) (hrk.below_all hb)
    rw [h1] at this
    rw [hX, hen, hun]
    exact this)
  have CW2 := hid2 (show ∀ w2, Below w.heap.size w w2 → Calls Tryz.prog 10 #[.string X, .slice EA en ec, .slice OA vn oc] w2 fun e w' => e = .returned (.bool false) ∧ Below w2.heap.size w2 w' from fun w2 hb => by
    have := wide_any w2 EA OA ec oc env V text hwe hwv (hre.below_all hb) (hrv.below_all hb)
    rw [h2] at this
    rw [hX, hen, hvn]
    exact this)
  have CAL := hid2 (alive_any w hl)
  have CD1 := hid2 (show ∀ w2, Below w.heap.size w w2 → Calls Tryz.prog 18 #[.string X, .slice EA en ec, .slice KA un kc] w2 (DoesPost w2 ⟨mayB, env⟩ U text) from fun w2 hb => by
    rw [hX, hen, hun]
    exact does_any w2 ⟨mayB, env⟩ rfl U text hmu (hl.on hb) EA KA ec kc (hre.below_all hb) (hrk.below_all hb))
  have CD2 := hid2 (show ∀ w2, Below w.heap.size w w2 → ∀ (W : List KE) (n : Nat), n = W.length → W.length ≤ 120 → (∀ k ∈ W, k.path.length + k.data.length ≤ 4000) → ∀ (A : Option Addr) (c : Nat), Rd w2 3 A n (kV W) → Calls Tryz.prog 18 #[.string X, .slice EA en ec, .slice A n c] w2 (DoesPost w2 ⟨mayB, env⟩ W text) from fun w2 hb W n hn a b A c hr => by
    subst hn
    rw [hX, hen]
    exact does_any w2 ⟨mayB, env⟩ rfl W text (hmild W a b) (hl.on hb) EA A ec c (hre.below_all hb) hr)
  rw [← hX, ← hen, ← hun, ← hvn]
  rw [← hun] at hrk f3
  rw [← hvn] at hrv f6
  have HUR := hid2 hrk
  have HVR := hid2 hrv
  have HUN := hid2 hun
  have HVN := hid2 hvn
  have HMU := hid2 hmu
  have HF4 := hid2 f4
  have HF7 := hid2 f7
  clear hl hwe hwk hwv hre hrk hrv h1 h2 hX hen hun hvn hmu hmild f1 f2 f4 f5 f7
  go_enter Tryz.func6, Tryz.ntmps6
  go_upto_region 3 with (go_at_call 9; refine CAL.out.mono ?_; rintro e w1 ⟨rfl, hb⟩; have HB := hid2 hb; clear hb)
  clear CAL
  go_upto_region 5 with (first
    | (go_at_call 10; refine (CW1.out _ HB.out).mono ?_; rintro e w1 ⟨rfl, hb⟩; have HB := hid2 (HB.out.trans (hb.mono HB.out.size)); clear hb CW1)
    | (go_at_call 10; refine (CW2.out _ HB.out).mono ?_; rintro e w1 ⟨rfl, hb⟩; have HB := hid2 (HB.out.trans (hb.mono HB.out.size)); clear hb CW2))
  go_upto_region 8 with (go_at_call 18; refine (CD1.out _ HB.out).mono ?_; rintro e w2 ⟨AD, cD, D, rfl, hown, hdo, hb⟩; have HOD := hid2 hown; have HDO := hid2 hdo; have HB2 := hid2 (HB.out.trans (hb.mono HB.out.size)); clear hown hdo hb)
  have hdl : D.length ≤ 901 := HDO.out.fit HMU.out
  have HFD := hid2 (doesis_fitdo HMU.out HDO.out)
  obtain ⟨dn, hdn⟩ : ∃ n, n = D.length := ⟨_, rfl⟩
  rw [← hdn]
  have hod := HOD.out.rd
  rw [← hdn] at hod
  obtain ⟨w4, hw4⟩ : ∃ w4, w4 = w2.alloc (.cells #[.slice AD dn cD] 33) := ⟨_, rfl⟩
  have hb4 : Below w2.heap.size w2 w4 := by rw [hw4]; exact (Below.refl _ _).alloc (Nat.le_refl _) _
  have hg4 : w4.heap[w2.heap.size]? = some (.cells #[.slice AD dn cD] 33 (0, 0)) := by rw [hw4]; exact World.alloc_heap_new w2 _
  rw [← hw4]
  obtain ⟨g, hg⟩ : ∃ g, g = w2.heap.size := ⟨_, rfl⟩
  rw [← hg] at hg4 ⊢
  have hgc : w4.cell? ⟨g, 0, none⟩ = some (.slice AD dn cD) := cell_of_row w4 g 0 _ _ _ hg4
  have hglt := World.block_lt_of_cell? _ _ hgc
  have HW4 := hid2 (show ∀ wr, Below w4.heap.size w4 wr → wr.cell? ⟨g, 0, none⟩ = some (.slice AD dn cD) ∧ Rd wr 4 AD dn (doVs D) ∧ Below w.heap.size w wr from fun wr hb => ⟨(hb.cell (p := ⟨g, 0, none⟩) hglt).trans hgc, (hod.below_all hb4).below_all hb, (HB2.out.trans (hb4.mono HB2.out.size)).trans (hb.mono (Nat.le_trans HB2.out.size hb4.size))⟩)
  have HDN := hid2 hdn
  have HDL := hid2 hdl
  have HPL := hid2 (show ([] : List KE).length ≤ 0 from Nat.le_refl _)
  clear hdl hdn hod hw4 hb4 hg4 hg hgc hglt
  go_wp2_with fail
  go_loopg [11, 12] vn (fun gk ov iv wr => Below w4.heap.size w4 wr ∧ ∃ (i : Nat) (Xs : List KE) (A : Option Addr) (n c : Nat), i + gk = vn ∧ iv = .int .i64 i ∧ ov = .slice A n c ∧ n = Xs.length ∧ Xs = [] ++ (V.take i).filter (fun k => !askedB D k.path) ∧ Own wr w4.heap.size 41 3 A n c (kV Xs))
  case atStart => exact ⟨Below.refl _ _, 0, [], none, 0, 0, by omega, rfl, rfl, rfl, rfl, Own.nil _ _ _ _⟩
  case round =>
    obtain ⟨hbe, i, Xs, A, n, c, hi, rfl, rfl, hnx, hXs, hown⟩ := hrel
    by_cases hlt : i < vn
    · have hil : (i : Int) < vn := by omega
      have hi0 : (0 : Int) ≤ i := by omega
      obtain ⟨x, hx⟩ : ∃ x, V[i]? = some x := ⟨_, List.getElem?_eq_getElem (by rw [← HVN.out]; exact hlt)⟩
      have hn : n ≤ 200 := by
        have h1 : ((V.take i).filter (fun k => !askedB D k.path)).length ≤ i := Nat.le_trans (List.length_filter_le _ _) (by rw [List.length_take]; omega)
        have h2 : [].length ≤ 0 := HPL.out
        rw [hnx, hXs, List.length_append]
        omega
      obtain ⟨b, o, rfl, hcell⟩ := (HVR.out.below_all (HW4.out wr hbe).2.2).2 (by omega)
      have h0 : wr.cell? ⟨b, o + i * 3, none⟩ = some (.string (strB x.path)) := hcell _ _ (kV_get hx).1
      have h1 : wr.cell? ⟨b, o + i * 3 + 1, none⟩ = some (.bool x.is) := hcell _ _ (kV_get hx).2.1
      have h2 : wr.cell? ⟨b, o + i * 3 + 2, none⟩ = some (.string (strB x.data)) := hcell _ _ (kV_get hx).2.2
      have hkv : kV [x] = [.string (strB x.path), .bool x.is, .string (strB x.data)] := rfl
      have cA := asked_any wr g AD cD D (by have := HDL.out; omega) (by rw [← HDN.out]; exact (HW4.out wr hbe).1) (by rw [← HDN.out]; exact (HW4.out wr hbe).2.1) x.path
      obtain ⟨P, hP⟩ : ∃ P, P = strB x.path := ⟨_, rfl⟩
      obtain ⟨I, hI⟩ : ∃ I, I = x.is := ⟨_, rfl⟩
      obtain ⟨Q, hQ⟩ : ∃ Q, Q = strB x.data := ⟨_, rfl⟩
      rw [← hP] at h0 hkv cA
      rw [← hI] at h1 hkv
      rw [← hQ] at h2 hkv
      have CA := hid2 cA
      have HX := hid2 hx
      have HXS := hid2 hXs
      have HNX := hid2 hnx
      have HKV := hid2 hkv
      have HI := hid2 hi
      have HOW := hid2 hown
      have HBE := hid2 hbe
      have hblt : b < wr.heap.size := World.block_lt_of_cell? _ _ h0
      by_cases ha : askedB D x.path = false
      · have hfx : (fun k => !askedB D k.path) x = true := by show _ = _; simp [ha]
        rw [ha] at cA
        have CA := hid2 cA
        have HFX := hid2 hfx
        clear hbe hi hnx hXs hown hcell hx hkv hP hI hQ cA hfx ha
        go_wp2_with fail
        refine CA.out.mono ?_
        rintro e wq ⟨rfl, hbq⟩
        have HBQ := hid2 hbq
        have k0 : wq.cell? ⟨b, o + i * 3, none⟩ = some (.string P) := (hbq.cell (p := ⟨b, o + i * 3, none⟩) hblt).trans h0
        have k1 : wq.cell? ⟨b, o + i * 3 + 1, none⟩ = some (.bool I) := (hbq.cell (p := ⟨b, o + i * 3 + 1, none⟩) hblt).trans h1
        have k2 : wq.cell? ⟨b, o + i * 3 + 2, none⟩ = some (.string Q) := (hbq.cell (p := ⟨b, o + i * 3 + 2, none⟩) hblt).trans h2
        have hown : Own wq w4.heap.size 41 3 A n c (kV Xs) := HOW.out.below hbq (Nat.le_refl _)
        obtain ⟨W0, hW0⟩ : ∃ W0, W0 = kV Xs := ⟨_, rfl⟩
        rw [← hW0] at hown
        have HW0 := hid2 hW0
        have hsz := HBE.out.size
        have hszq := hbq.size
        have hone : ∀ u ∈ [Value.string P, .bool I, .string Q], u.oneCell' = true := by simp [Value.oneCell']
        have HOWQ := hid2 hown
        clear h0 h1 h2 hbq hW0
        go_wp2_with (at_builtin; have _t := hown; go_must ((with_reducible refine wpList_append_lit 41 (.agg #[.string ⟨#[]⟩, .bool false, .string ⟨#[]⟩]) 3 40 Tryz.underlying23 zero_knownI rfl w4.heap.size A n c W0 (hown.alloc _) 1 [.string P, .bool I, .string Q] (.slice (some ⟨wq.heap.size, 0, none⟩) 1 1) (Src.slice Tryz.underlying23 (Rd.of_lit wq _ _ 3 1 (by decide) rfl)) hone ?_ ?_ ?_ ?_ ?_); (unfold maxLen; omega); omega; (simp; omega); exact ⟨rfl, rfl⟩; intro A3 c3 w3 hown3 hgr3 hbl3; have HO3 := hid2 hown3; have HG3 := hid2 hgr3; clear hown hown3 hgr3 hbl3))
        go_roundg (gk - 1)
        case rel =>
          have hba : Below wq.heap.size wq (wq.alloc (.cells #[.string P, .bool I, .string Q] 41)) := (Below.refl _ _).alloc (Nat.le_refl _) _
          have hb3 : Below w4.heap.size w4 w3 := ((HBE.out.trans (HBQ.out.mono hsz)).trans (hba.mono (Nat.le_trans hsz hszq))).grown HG3.out (by simp; omega) (fun k e => (HOWQ.out.block k e).1)
          have ho3 := HO3.out
          rw [HW0.out, ← HKV.out, kV_app] at ho3
          exact ⟨hb3, i + 1, Xs ++ [x], A3, n + 1, c3, by have := HI.out; omega, by go_num, rfl, by rw [List.length_append, ← HNX.out]; rfl, by rw [filter_take HX.out, if_pos HFX.out, HXS.out, List.append_assoc], ho3⟩
        case measure => have := HI.out; omega
      · have ha2 : askedB D x.path = true := by simpa using ha
        have hfx : ¬ (fun k => !askedB D k.path) x = true := by show ¬ _ = _; simp [ha2]
        rw [ha2] at cA
        have CA := hid2 cA
        have HFX := hid2 hfx
        clear hbe hi hnx hXs hown hcell hx hkv hP hI hQ cA hfx ha ha2
        go_wp2_with fail
        refine CA.out.mono ?_
        rintro e wq ⟨rfl, hbq⟩
        have HBQ := hid2 hbq
        have hsz := HBE.out.size
        clear h0 h1 h2 hbq
        go_wp2_with fail
        go_roundg (gk - 1)
        case rel =>
          exact ⟨HBE.out.trans (HBQ.out.mono hsz), i + 1, Xs, A, n, c, by have := HI.out; omega, by go_num, rfl, HNX.out, by rw [filter_take HX.out, if_neg HFX.out, HXS.out, List.append_nil], HOW.out.below HBQ.out (Nat.le_refl _)⟩
        case measure => have := HI.out; omega
    · have hil : ¬ (i : Int) < vn := by omega
      have hie : i = vn := by omega
      have hX2 : Xs = [] ++ V.filter (fun k => !askedB D k.path) := by rw [hXs, hie, HVN.out, List.take_length]
      have HX2 := hid2 hX2
      have HNX := hid2 hnx
      have HOW := hid2 hown
      have HBE := hid2 hbe
      clear hbe hi hnx hXs hown hX2
      go_wp2_with fail
      have HPL := hid2 (show (V.filter (fun k => !askedB D k.path)).length ≤ 60 from Nat.le_trans (List.length_filter_le _ _) (by rw [← HVN.out]; exact f6))
      have HX1 := hid2 (show Xs = V.filter (fun k => !askedB D k.path) from by rw [HX2.out, List.nil_append])
      clear HX2
      go_loopg [11, 13] un (fun gk ov iv wr => Below w4.heap.size w4 wr ∧ ∃ (i : Nat) (Xs : List KE) (A : Option Addr) (n c : Nat), i + gk = un ∧ iv = .int .i64 i ∧ ov = .slice A n c ∧ n = Xs.length ∧ Xs = (V.filter (fun k => !askedB D k.path)) ++ (U.take i).filter (fun k => askedB D k.path) ∧ Own wr w4.heap.size 41 3 A n c (kV Xs))
      case atStart => exact ⟨HBE.out, 0, Xs, A, n, c, by omega, rfl, rfl, HNX.out, by rw [HX1.out]; simp, HOW.out⟩
      case round =>
        obtain ⟨hbe, i, Xs, A, n, c, hi, rfl, rfl, hnx, hXs, hown⟩ := hrel
        by_cases hlt : i < un
        · have hil : (i : Int) < un := by omega
          have hi0 : (0 : Int) ≤ i := by omega
          obtain ⟨x, hx⟩ : ∃ x, U[i]? = some x := ⟨_, List.getElem?_eq_getElem (by rw [← HUN.out]; exact hlt)⟩
          have hn : n ≤ 200 := by
            have h1 : ((U.take i).filter (fun k => askedB D k.path)).length ≤ i := Nat.le_trans (List.length_filter_le _ _) (by rw [List.length_take]; omega)
            have h2 : (V.filter (fun k => !askedB D k.path)).length ≤ 60 := HPL.out
            rw [hnx, hXs, List.length_append]
            omega
          obtain ⟨b, o, rfl, hcell⟩ := (HUR.out.below_all (HW4.out wr hbe).2.2).2 (by omega)
          have h0 : wr.cell? ⟨b, o + i * 3, none⟩ = some (.string (strB x.path)) := hcell _ _ (kV_get hx).1
          have h1 : wr.cell? ⟨b, o + i * 3 + 1, none⟩ = some (.bool x.is) := hcell _ _ (kV_get hx).2.1
          have h2 : wr.cell? ⟨b, o + i * 3 + 2, none⟩ = some (.string (strB x.data)) := hcell _ _ (kV_get hx).2.2
          have hkv : kV [x] = [.string (strB x.path), .bool x.is, .string (strB x.data)] := rfl
          have cA := asked_any wr g AD cD D (by have := HDL.out; omega) (by rw [← HDN.out]; exact (HW4.out wr hbe).1) (by rw [← HDN.out]; exact (HW4.out wr hbe).2.1) x.path
          obtain ⟨P, hP⟩ : ∃ P, P = strB x.path := ⟨_, rfl⟩
          obtain ⟨I, hI⟩ : ∃ I, I = x.is := ⟨_, rfl⟩
          obtain ⟨Q, hQ⟩ : ∃ Q, Q = strB x.data := ⟨_, rfl⟩
          rw [← hP] at h0 hkv cA
          rw [← hI] at h1 hkv
          rw [← hQ] at h2 hkv
          have CA := hid2 cA
          have HX := hid2 hx
          have HXS := hid2 hXs
          have HNX := hid2 hnx
          have HKV := hid2 hkv
          have HI := hid2 hi
          have HOW := hid2 hown
          have HBE := hid2 hbe
          have hblt : b < wr.heap.size := World.block_lt_of_cell? _ _ h0
          by_cases ha : askedB D x.path = true
          · have hfx : (fun k => askedB D k.path) x = true := by show _ = _; simp [ha]
            rw [ha] at cA
            have CA := hid2 cA
            have HFX := hid2 hfx
            clear hbe hi hnx hXs hown hcell hx hkv hP hI hQ cA hfx ha
            go_wp2_with fail
            refine CA.out.mono ?_
            rintro e wq ⟨rfl, hbq⟩
            have HBQ := hid2 hbq
            have k0 : wq.cell? ⟨b, o + i * 3, none⟩ = some (.string P) := (hbq.cell (p := ⟨b, o + i * 3, none⟩) hblt).trans h0
            have k1 : wq.cell? ⟨b, o + i * 3 + 1, none⟩ = some (.bool I) := (hbq.cell (p := ⟨b, o + i * 3 + 1, none⟩) hblt).trans h1
            have k2 : wq.cell? ⟨b, o + i * 3 + 2, none⟩ = some (.string Q) := (hbq.cell (p := ⟨b, o + i * 3 + 2, none⟩) hblt).trans h2
            have hown : Own wq w4.heap.size 41 3 A n c (kV Xs) := HOW.out.below hbq (Nat.le_refl _)
            obtain ⟨W0, hW0⟩ : ∃ W0, W0 = kV Xs := ⟨_, rfl⟩
            rw [← hW0] at hown
            have HW0 := hid2 hW0
            have hsz := HBE.out.size
            have hszq := hbq.size
            have hone : ∀ u ∈ [Value.string P, .bool I, .string Q], u.oneCell' = true := by simp [Value.oneCell']
            have HOWQ := hid2 hown
            clear h0 h1 h2 hbq hW0
            go_wp2_with (at_builtin; have _t := hown; go_must ((with_reducible refine wpList_append_lit 41 (.agg #[.string ⟨#[]⟩, .bool false, .string ⟨#[]⟩]) 3 40 Tryz.underlying23 zero_knownI rfl w4.heap.size A n c W0 (hown.alloc _) 1 [.string P, .bool I, .string Q] (.slice (some ⟨wq.heap.size, 0, none⟩) 1 1) (Src.slice Tryz.underlying23 (Rd.of_lit wq _ _ 3 1 (by decide) rfl)) hone ?_ ?_ ?_ ?_ ?_); (unfold maxLen; omega); omega; (simp; omega); exact ⟨rfl, rfl⟩; intro A3 c3 w3 hown3 hgr3 hbl3; have HO3 := hid2 hown3; have HG3 := hid2 hgr3; clear hown hown3 hgr3 hbl3))
            go_roundg (gk - 1)
            case rel =>
              have hba : Below wq.heap.size wq (wq.alloc (.cells #[.string P, .bool I, .string Q] 41)) := (Below.refl _ _).alloc (Nat.le_refl _) _
              have hb3 : Below w4.heap.size w4 w3 := ((HBE.out.trans (HBQ.out.mono hsz)).trans (hba.mono (Nat.le_trans hsz hszq))).grown HG3.out (by simp; omega) (fun k e => (HOWQ.out.block k e).1)
              have ho3 := HO3.out
              rw [HW0.out, ← HKV.out, kV_app] at ho3
              exact ⟨hb3, i + 1, Xs ++ [x], A3, n + 1, c3, by have := HI.out; omega, by go_num, rfl, by rw [List.length_append, ← HNX.out]; rfl, by rw [filter_take HX.out, if_pos HFX.out, HXS.out, List.append_assoc], ho3⟩
            case measure => have := HI.out; omega
          · have ha2 : askedB D x.path = false := by simpa using ha
            have hfx : ¬ (fun k => askedB D k.path) x = true := by show ¬ _ = _; simp [ha2]
            rw [ha2] at cA
            have CA := hid2 cA
            have HFX := hid2 hfx
            clear hbe hi hnx hXs hown hcell hx hkv hP hI hQ cA hfx ha ha2
            go_wp2_with fail
            refine CA.out.mono ?_
            rintro e wq ⟨rfl, hbq⟩
            have HBQ := hid2 hbq
            have hsz := HBE.out.size
            clear h0 h1 h2 hbq
            go_wp2_with fail
            go_roundg (gk - 1)
            case rel =>
              exact ⟨HBE.out.trans (HBQ.out.mono hsz), i + 1, Xs, A, n, c, by have := HI.out; omega, by go_num, rfl, HNX.out, by rw [filter_take HX.out, if_neg HFX.out, HXS.out, List.append_nil], HOW.out.below HBQ.out (Nat.le_refl _)⟩
            case measure => have := HI.out; omega
        · have hil : ¬ (i : Int) < un := by omega
          have hie : i = un := by omega
          have hX2 : Xs = (V.filter (fun k => !askedB D k.path)) ++ U.filter (fun k => askedB D k.path) := by rw [hXs, hie, HUN.out, List.take_length]
          have HX2 := hid2 hX2
          have HNX := hid2 hnx
          have HOW := hid2 hown
          have HBE := hid2 hbe
          clear hbe hi hnx hXs hown hX2
          go_wp2_with fail
          have hXs : Xs = otherU D U V := HX2.out
          have hXl : Xs.length ≤ 120 := by
            rw [hXs, otherU, List.length_append]
            have a1 := List.length_filter_le (fun k : KE => !askedB D k.path) V
            have a2 := List.length_filter_le (fun k : KE => askedB D k.path) U
            rw [← HVN.out] at a1
            rw [← HUN.out] at a2
            omega
          have hXk : ∀ k ∈ Xs, k.path.length + k.data.length ≤ 4000 := fun k hk => by
            rw [hXs, otherU] at hk
            rcases List.mem_append.1 hk with h | h
            · exact HF7.out k (List.mem_filter.1 h).1
            · exact HF4.out k (List.mem_filter.1 h).1
          have hXd : DoesIs ⟨mayB, env⟩ Xs text D := by rw [hXs]; exact HDO.out.other V
          have hro := HOW.out.rd
          have hws := (HW4.out wr HBE.out).2.2.size
          have HDX := hid2 (show ∀ w2, Below wr.heap.size wr w2 → Calls Tryz.prog 18 #[.string X, .slice EA en ec, .slice A n c] w2 fun e w' => (∃ A' c', e = .returned (.slice A' dn c') ∧ Rd w' 4 A' dn (doVs D)) ∧ Below w2.heap.size w2 w' from fun w2 hb => by
            refine (CD2.out w2 ((HW4.out wr HBE.out).2.2.trans (hb.mono hws)) Xs n HNX.out hXl hXk A c (hro.below_all hb)).mono ?_
            rintro e w' ⟨A', c', D', rfl, ho, hd, hb'⟩
            have : D' = D := hd.one hXd
            subst this
            exact ⟨⟨A', c', by rw [HDN.out], by rw [HDN.out]; exact ho.rd⟩, hb'⟩)
          have HSA := hid2 (show ∀ w2, Below wr.heap.size wr w2 → ∀ A' c', Rd w2 4 A' dn (doVs D) → Calls Tryz.prog 20 #[.slice AD dn cD, .slice A' dn c'] w2 fun e w' => e = .returned (.bool true) ∧ Below w2.heap.size w2 w' from fun w2 hb A' c' hr => by
            have h9 := (HW4.out w2 (HBE.out.trans (hb.mono HBE.out.size))).2.1
            rw [HDN.out] at h9 hr ⊢
            exact samedo_same w2 AD A' cD c' D D rfl (by have := HDL.out; omega) HFD.out h9 hr)
          have HG := hid2 (show ∀ w2, Below wr.heap.size wr w2 → w2.cell? ⟨g, 0, none⟩ = some (.slice AD dn cD) from fun w2 hb => (HW4.out w2 (HBE.out.trans (hb.mono HBE.out.size))).1)
          clear hXs hXl hXk hXd hro
          refine wp_region_rel 6 (by kernel_rfl) (by kernel_rfl) (by kernel_rfl) _ rfl (by kernel_rfl) (VV [some (.slice AD dn cD), some (.string X), some (.slice EA en ec), some (.slice A n c), none, some (.bool true)] (fun _ v w2 => ∃ A' c', v = .slice A' dn c' ∧ Rd w2 4 A' dn (doVs D))) (fun w2 => Below wr.heap.size wr w2) (fun a b => Below a.heap.size a b) ((Below.refl _ wr).drew) (fun j v w1 w2 hb hv => VV.keep (fun h => by obtain ⟨A2, c2, e1, e2⟩ := h; exact ⟨A2, c2, e1, e2.below_all hb⟩) hv) ?_ ?_
          · refine of_allOps ⟨?_, ?_, ?_, ?_, ?_, ?_, trivial⟩
            · refine ⟨rfl, fun T2 w2 hM hN hO hE K hK => ?_⟩
              have o9 : T2[9]? = some (.pointer (some ⟨g, 0, none⟩)) := hO 9 rfl
              clear hE hO hN
              have hcc := HG.out w2 hM
              go_simp
              exact hK _ _ rfl hM (Below.refl _ _)
            · refine ⟨rfl, fun T2 w2 hM hN hO hE K hK => ?_⟩
              have o0 : T2[0]? = some (.string X) := hO 0 rfl
              clear hE hO hN
              go_simp
              exact hK _ _ rfl hM (Below.refl _ _)
            · refine ⟨rfl, fun T2 w2 hM hN hO hE K hK => ?_⟩
              have o1 : T2[1]? = some (.slice EA en ec) := hO 1 rfl
              clear hE hO hN
              go_simp
              exact hK _ _ rfl hM (Below.refl _ _)
            · refine ⟨rfl, fun T2 w2 hM hN hO hE K hK => ?_⟩
              have o11 : T2[11]? = some (.slice A n c) := hO 11 rfl
              clear hE hO hN
              go_simp
              exact hK _ _ rfl hM (Below.refl _ _)
            · refine ⟨rfl, fun T2 w2 hM hN hO hE K hK => ?_⟩
              obtain ⟨v1, h1, e1⟩ := hE ⟨1, .data⟩ (by simp) rfl _ _ rfl rfl
              rw [show v1 = .string X from e1] at h1
              obtain ⟨v2, h2, e2⟩ := hE ⟨2, .data⟩ (by simp) rfl _ _ rfl rfl
              rw [show v2 = .slice EA en ec from e2] at h2
              obtain ⟨v3, h3, e3⟩ := hE ⟨3, .data⟩ (by simp) rfl _ _ rfl rfl
              rw [show v3 = .slice A n c from e3] at h3
              clear hE hO hN
              go_simp
              refine (HDX.out w2 hM).mono ?_
              rintro e w3 ⟨⟨A2, c2, rfl, hr2⟩, hb⟩
              exact hK _ _ ⟨A2, c2, rfl, hr2⟩ (hM.trans (hb.mono hM.size)) hb
            · refine ⟨rfl, fun T2 w2 hM hN hO hE K hK => ?_⟩
              obtain ⟨v0, h0, e0⟩ := hE ⟨0, .data⟩ (by simp) rfl _ _ rfl rfl
              rw [show v0 = .slice AD dn cD from e0] at h0
              obtain ⟨v4, h4, e4⟩ := hE ⟨4, .data⟩ (by simp) rfl _ _ rfl rfl
              clear hE hO hN
              obtain ⟨A9, c9, rfl, hr9⟩ := (show ∃ A2 c2, v4 = .slice A2 dn c2 ∧ Rd w2 4 A2 dn (doVs D) from e4)
              go_simp
              refine (HSA.out w2 hM A9 c9 hr9).mono ?_
              rintro e w3 ⟨rfl, hb⟩
              exact hK _ _ rfl (hM.trans (hb.mono hM.size)) hb
          · intro u w2 hM hF
            have e5 : u 5 = .bool true := hF 5 (by omega)
            clear hF
            simp only [fillAll, Nat.reduceAdd, e5, List.take_succ_cons, List.take_zero, List.drop_succ_cons, List.drop_zero, List.setIfInBounds_toArray, List.set_cons_succ, List.set_cons_zero]
            have HBF := hid2 ((HW4.out wr HBE.out).2.2.trans (hM.mono hws))
            clear hM
            go_wp2_with fail
            refine bodyPost_ret (results_tmp rfl _ _ _) rfl ?_
            exact ⟨rfl, HBF.out⟩
set_option maxHeartbeats 4000000 in
theorem unread_wide1 (w : World) (env : List (TT × TT)) (U V : List KE) (text : TT) (hl : Lib3 w)
    (hwe : ∀ p ∈ env, p.1.length + p.2.length ≤ 4611686018427387904) (hwk : ∀ k ∈ U, k.path.length + k.data.length ≤ 4611686018427387904) (hwv : ∀ k ∈ V, k.path.length + k.data.length ≤ 4611686018427387904)
    (EA KA OA : Option Addr) (ec kc oc : Nat) (hre : Rd w 2 EA env.length (setV env)) (hrk : Rd w 3 KA U.length (kV U)) (hrv : Rd w 3 OA V.length (kV V)) (h1 : wideL env U text = true) :
    Calls Tryz.prog 6 #[.string (strB text), .slice EA env.length ec, .slice KA U.length kc, .slice OA V.length oc] w fun e w' => e = .returned (.bool true) ∧ Below w.heap.size w w' := by
  obtain ⟨X, hX⟩ : ∃ X, X = strB text := ⟨_, rfl⟩
  obtain ⟨en, hen⟩ : ∃ n, n = env.length := ⟨_, rfl⟩
  obtain ⟨un, hun⟩ : ∃ n, n = U.length := ⟨_, rfl⟩
  obtain ⟨vn, hvn⟩ : ∃ n, n = V.length := ⟨_, rfl⟩
  have CW1 := hid2 (show ∀ w2, Below w.heap.size w w2 → Calls Tryz.prog 10 #[.string X, .slice EA en ec, .slice KA un kc] w2 fun e w' => e = .returned (.bool true) ∧ Below w2.heap.size w2 w' from fun w2 hb => by
    have := wide_any w2 EA KA ec kc env U text hwe hwk (hre.below_all hb) (hrk.below_all hb)
    rw [h1] at this
    rw [hX, hen, hun]
    exact this)
  have CAL := hid2 (alive_any w hl)
  rw [← hX, ← hen, ← hun, ← hvn]
  clear hl hwe hwk hwv hre hrk hrv hX hen hun hvn
  go_enter Tryz.func6, Tryz.ntmps6
  go_upto_region 3 with (go_at_call 9; refine CAL.out.mono ?_; rintro e w1 ⟨rfl, hb⟩; have HB := hid2 hb; clear hb)
  clear CAL
  go_wp2_with (first
    | (go_at_call 10; refine (CW1.out _ HB.out).mono ?_; rintro e w1 ⟨rfl, hb⟩; have HB := hid2 (HB.out.trans (hb.mono HB.out.size)); clear hb CW1)
    | (go_at_call 10; refine (CW2.out _ HB.out).mono ?_; rintro e w1 ⟨rfl, hb⟩; have HB := hid2 (HB.out.trans (hb.mono HB.out.size)); clear hb CW2))
  refine bodyPost_ret (results_tmp rfl _ _ _) rfl ?_
  exact ⟨rfl, HB.out⟩
set_option maxHeartbeats 4000000 in
theorem unread_wide2 (w : World) (env : List (TT × TT)) (U V : List KE) (text : TT) (hl : Lib3 w)
    (hwe : ∀ p ∈ env, p.1.length + p.2.length ≤ 4611686018427387904) (hwk : ∀ k ∈ U, k.path.length + k.data.length ≤ 4611686018427387904) (hwv : ∀ k ∈ V, k.path.length + k.data.length ≤ 4611686018427387904)
    (EA KA OA : Option Addr) (ec kc oc : Nat) (hre : Rd w 2 EA env.length (setV env)) (hrk : Rd w 3 KA U.length (kV U)) (hrv : Rd w 3 OA V.length (kV V)) (h1 : wideL env U text = false) (h2 : wideL env V text = true) :
    Calls Tryz.prog 6 #[.string (strB text), .slice EA env.length ec, .slice KA U.length kc, .slice OA V.length oc] w fun e w' => e = .returned (.bool true) ∧ Below w.heap.size w w' := by
  obtain ⟨X, hX⟩ : ∃ X, X = strB text := ⟨_, rfl⟩
  obtain ⟨en, hen⟩ : ∃ n, n = env.length := ⟨_, rfl⟩
  obtain ⟨un, hun⟩ : ∃ n, n = U.length := ⟨_, rfl⟩
  obtain ⟨vn, hvn⟩ : ∃ n, n = V.length := ⟨_, rfl⟩
  have CW1 := hid2 (show ∀ w2, Below w.heap.size w w2 → Calls Tryz.prog 10 #[.string X, .slice EA en ec, .slice KA un kc] w2 fun e w' => e = .returned (.bool false) ∧ Below w2.heap.size w2 w' from fun w2 hb => by
    have := wide_any w2 EA KA ec kc env U text hwe hwk (hre.below_all hb) (hrk.below_all hb)
    rw [h1] at this
    rw [hX, hen, hun]
    exact this)
  have CW2 := hid2 (show ∀ w2, Below w.heap.size w w2 → Calls Tryz.prog 10 #[.string X, .slice EA en ec, .slice OA vn oc] w2 fun e w' => e = .returned (.bool true) ∧ Below w2.heap.size w2 w' from fun w2 hb => by
    have := wide_any w2 EA OA ec oc env V text hwe hwv (hre.below_all hb) (hrv.below_all hb)
    rw [h2] at this
    rw [hX, hen, hvn]
    exact this)
  have CAL := hid2 (alive_any w hl)
  rw [← hX, ← hen, ← hun, ← hvn]
  clear hl hwe hwk hwv hre hrk hrv hX hen hun hvn
  go_enter Tryz.func6, Tryz.ntmps6
  go_upto_region 3 with (go_at_call 9; refine CAL.out.mono ?_; rintro e w1 ⟨rfl, hb⟩; have HB := hid2 hb; clear hb)
  clear CAL
  go_wp2_with (first
    | (go_at_call 10; refine (CW1.out _ HB.out).mono ?_; rintro e w1 ⟨rfl, hb⟩; have HB := hid2 (HB.out.trans (hb.mono HB.out.size)); clear hb CW1)
    | (go_at_call 10; refine (CW2.out _ HB.out).mono ?_; rintro e w1 ⟨rfl, hb⟩; have HB := hid2 (HB.out.trans (hb.mono HB.out.size)); clear hb CW2))
  refine bodyPost_ret (results_tmp rfl _ _ _) rfl ?_
  exact ⟨rfl, HB.out⟩
theorem unread_any (w : World) (env : List (TT × TT)) (U V : List KE) (text : TT) (hl : Lib3 w)
    (hwe : ∀ p ∈ env, p.1.length + p.2.length ≤ 4611686018427387904) (hwk : ∀ k ∈ U, k.path.length + k.data.length ≤ 4611686018427387904) (hwv : ∀ k ∈ V, k.path.length + k.data.length ≤ 4611686018427387904)
    (EA KA OA : Option Addr) (ec kc oc : Nat) (hre : Rd w 2 EA env.length (setV env)) (hrk : Rd w 3 KA U.length (kV U)) (hrv : Rd w 3 OA V.length (kV V)) :
    Calls Tryz.prog 6 #[.string (strB text), .slice EA env.length ec, .slice KA U.length kc, .slice OA V.length oc] w fun e w' => e = .returned (.bool true) ∧ Below w.heap.size w w' := by
  cases h1 : wideL env U text with
  | true => exact unread_wide1 w env U V text hl hwe hwk hwv EA KA OA ec kc oc hre hrk hrv h1
  | false =>
    cases h2 : wideL env V text with
    | true => exact unread_wide2 w env U V text hl hwe hwk hwv EA KA OA ec kc oc hre hrk hrv h1 h2
    | false => exact unread_walk w env U V text hl hwe hwk hwv EA KA OA ec kc oc hre hrk hrv h1 h2
end Go.Proofs.YtnecjdhamohadaaGreatDoor
/- How a law's statement is closed: what is kept below the call's own floor reads as it did. -/
namespace Go.Proofs.YtnecjdhamohadaaGreatDoor
open Go.ChangeShapes Go.WideShapes Go.ChangeAt Go.RowKit
variable {H : Type} {enc : TypeId × Value → H} {P : Program}
theorem own_knob : ownKnob Tryz.prog.godebug = none := by kernel_rfl
/-- one bool comes back, all else reads as it did -/
theorem post_law {f : Func} {s : ChangeSpec} {apart fresh handsOn : Bool} {W W' : World} {args : Array Value} {v : Value} {ds gs : List (DataW H)} {before pa pv : List MemPlace}
    (hW : DataW.Whole enc P f.params.toList s.vars apart W args.toList ds gs before)
    (hres : ∀ (b : Nat) (sp : Nat → Bool) (hd : Bool), DataW.TrodAll enc P W' b sp hd f.resultTypes.toList (v.resultList f.resultTypes.size) (s.fn H (ds ++ gs)).results [])
    (hargs : ∀ sp : Nat → Bool, (∀ p ∈ before, sp p.block = true) → DataW.TrodAll enc P W' 0 sp true f.params.toList args.toList (s.fn H (ds ++ gs)).args pa)
    (hvars : ∀ sp : Nat → Bool, (∀ p ∈ before, sp p.block = true) → DataW.TrodVars enc P W' sp s.vars (s.fn H (ds ++ gs)).vars pv)
    (hps : before = pa ++ pv) (hk : W.keptBut W' (· ∈ before)) : s.post enc P f apart fresh handsOn false W args v W' := by
  have hold : ∀ p ∈ before, (fun b => decide (b < W.heap.size)) p.block = true := fun p hp => by simpa using hW.lt p hp
  refine ⟨ds, gs, before, [], pa, pv, hW, hres _ _ _, hargs _ hold, hvars _ hold, World.keptBut_mono (fun p hp => ⟨hp, ?_⟩) hk, fun h => nomatch h⟩
  rw [hps, List.mem_append] at hp
  exact Or.inr hp
/-- arguments read as they did -/
theorem args_stay (hl : laidOutB P = true) {W W' : World} (hb : Below W.heap.size W W') : ∀ (ts : List TypeId) (vs : List Value) (ds : List (DataW H)) (p : List MemPlace), (∀ t ∈ ts, P.readableRec t = true ∧ t < P.types.size) →
    DataW.TrodAll enc P W 0 (fun _ => true) true ts vs ds p → (∀ x ∈ p, x.block < W.heap.size) → DataW.TrodAll enc P W' 0 (fun b => decide (b < W.heap.size)) true ts vs ds p
  | [], [], [], _, _, h, _ => h
  | t :: ts, v :: vs, d :: ds, _, ht, ⟨p, q, h1, h2, rfl⟩, hlt =>
    ⟨p, q, Below.trod hl (ht t (by simp)).1 (ht t (by simp)).2 h1 hb (fun x hx => hlt x (by simp [hx])), args_stay hl hb ts vs ds q (fun t' h' => ht t' (by simp [h'])) h2 (fun x hx => hlt x (by simp [hx])), rfl⟩
  | [], [], _ :: _, _, _, h, _ => h.elim
  | [], _ :: _, _, _, _, h, _ => h.elim
  | _ :: _, [], _, _, _, h, _ => h.elim
  | _ :: _, _ :: _, [], _, _, h, _ => h.elim
/-- a law's end: true came back, and nothing below the call's own floor was touched -/
theorem law_close {f : Func} {s : ChangeSpec} {W W' : World} {args : Array Value} {ds gs : List (DataW H)} {before : List MemPlace} {tb : TypeId}
    (hl : laidOutB P = true) (hts : (f.params.toList.all fun t => P.readableRec t && decide (t < P.types.size)) = true) (hrt : f.resultTypes = #[tb]) (hbool : P.underlying tb = some .bool) (hvs : s.vars = [])
    (hW : DataW.Whole enc P f.params.toList s.vars false W args.toList ds gs before)
    (hfn : s.fn H (ds ++ gs) = { results := [.lit (.bool true)], args := ds }) (hb : Below W.heap.size W W') : s.post enc P f false true false false W args (.bool true) W' := by
  have hlt := hW.lt
  have hW0 := hW
  obtain ⟨p, q, hA, hV, rfl, hfz, hnd⟩ := hW
  rw [hvs] at hV
  obtain ⟨rfl, rfl⟩ := trodVars_none hV
  rw [List.append_nil] at hlt hW0
  refine ⟨ds, [], p, [], p, [], hW0, ?_, ?_, ?_, World.keptBut_mono (fun x hx => ⟨hx, Or.inr (Or.inl hx)⟩) (hb.frame _), fun h => nomatch h⟩
  · rw [hfn, hrt]
    exact trodAll_cons_mk (shut_bool hbool _) trodAll_mk0
  · rw [hfn]
    exact args_stay hl hb _ _ _ _ (fun t ht => by have := List.all_eq_true.1 hts t ht; simpa using this) hA hlt
  · rw [hfn, hvs]
    exact rfl
end Go.Proofs.YtnecjdhamohadaaGreatDoor
/- A law's frame where a listed variable is laid and the world's shape is wanted too. -/
namespace Go.Proofs.YtnecjdhamohadaaGreatDoor
open Go.ChangeShapes Go.WideShapes Go.ChangeAt Go.RowKit
theorem returns_laid_shaped {H : Type} {enc : TypeId × Value → H} {a : Assume} {C : Checked} {os : Os} {f : FuncId} {fn : Func} {s : ChangeSpec} {conds : List PathCond} {apart fresh handsOn again : Bool} {X : World → Array Value → Prop}
    (hX : ∀ (w w' : World) (args : Array Value), w.heap = w'.heap → X w args → X w' args)
    (own : ownKnob C.prog.godebug = none) (started : os.Started) (noInit : C.prog.inits.idxOf? f = none) (hfn : C.prog.funcs[f]? = some fn)
    (witness : ∃ (w : World) (tape : Tape) (i : Input), w.os = os ∧ (w.forCall tape i).Shaped C.prog ∧ i.vars = [] ∧ Input.okWide C.prog (w.forCall tape i) .any w.heap.size f i ∧
      ((s.pre enc C.prog fn conds apart (w.forCall tape i).memory i.args ∧ X (w.forCall tape i).memory i.args) ∧ sizedMet enc C.prog fn (OpenSpec.ofChange s) apart (w.forCall tape i).memory i.args) ∧ a.holds C.prog (lone (Frame.enter C.prog f i.args .normal) [] (w.forCall tape i)))
    (contract : ∀ (W : World) (base : Nat) (args : Array Value) (ds gs : List (DataW H)) (before : List MemPlace),
      (∀ (j : Nat) t v, fn.params[j]? = some t → args[j]? = some v → Value.okWide C.prog W .any base t v) →
      DataW.Whole enc C.prog fn.params.toList s.vars apart W args.toList ds gs before →
      (DataW.weightsEach C.prog (fn.params.toList ++ s.plain.varTypes C.prog) (ds ++ gs)).all (· ≤ reachBytes) = true → X W args → W.ShapedOpen C.prog →
      Calls C.prog f args W fun e W' => ∃ v, e = .returned v ∧ s.post enc C.prog fn apart fresh handsOn again W args v W') :
    ReturnsInHanded a C os f .any (fun w args => (s.pre enc C.prog fn conds apart w args ∧ X w args) ∧ sizedMet enc C.prog fn (OpenSpec.ofChange s) apart w args) (s.post enc C.prog fn apart fresh handsOn again) := by
  refine returnsInHanded_of_calls own started noInit witness ?_
  intro w tape i _ hsh _ hok hpre _
  obtain ⟨_, _, _, fn', hfn', _, _, _, _, hval⟩ := hok
  obtain rfl : fn' = fn := Option.some.inj (hfn'.symm.trans hfn)
  obtain ⟨⟨⟨ds, gs, before, hw, _⟩, hx⟩, hz⟩ := hpre
  have hw2 := DataW.Whole.of_heap (w' := w.forCall tape i) (by rfl) hw
  refine (contract (w.forCall tape i) w.heap.size i.args ds gs before hval hw2 (hz.weights hw) (hX _ _ _ (by rfl) hx) hsh).mono fun e W' ⟨v, he, hp⟩ => ?_
  subst he
  exact ChangeSpec.post_blind hp
end Go.Proofs.YtnecjdhamohadaaGreatDoor
/- Rows of settings, and of what is known, as arguments: opened. -/
namespace Go.Proofs.YtnecjdhamohadaaGreatDoor
open Go.ChangeShapes Go.WideShapes Go.ChangeAt Go.RowKit Go.Maps
set_option maxRecDepth 100000
variable {H : Type} {enc : TypeId × Value → H}
theorem toList_len2 (s : ByteArray) : s.data.toList.length = s.size := by cases s; simp [ByteArray.size]
theorem weightsAll_mem3 {P : Program} {e : TypeId} : ∀ {l : List (DataW H)} {d : DataW H}, d ∈ l → ∀ n ∈ d.weights P e, n ∈ DataW.weightsAll P e l
  | d' :: r, d, hd, n, hn => by
    simp only [DataW.weightsAll, List.mem_append]
    rcases List.mem_cons.1 hd with rfl | h
    · exact Or.inl hn
    · exact Or.inr (weightsAll_mem3 h n hn)
def setC2 (p : TT × TT) : List Value := [.string (strB p.1), .string (strB p.2)]
def knC (k : KE) : List Value := [.string (strB k.path), .bool k.is, .string (strB k.data)]
/-- what the datum says of its sizes -/
def envD (a : TT × TT) (d : DataW H) : Prop := d = .agg [.lit (.string a.1), .lit (.string a.2)]
theorem open_env1 {W : World} {sp : Nat → Bool} {n : Nat} {cs : List Value} {x : DataW H × List MemPlace} (h : DataW.trod enc Tryz.prog W 0 sp true n 55 cs = some x) : ∃ a : TT × TT, cs = setC2 a ∧ envD a x.1 := by
  obtain ⟨xs, m, rfl, rfl, hlen, hxl, hf⟩ := DataW.trod_struct Tryz.underlying55 h
  have hn : Tryz.prog.cellsOf 55 = 2 := by kernel_rfl
  have hcs : Tryz.prog.cellsOf 9 = 1 := by kernel_rfl
  have hcb : Tryz.prog.cellsOf 4 = 1 := by kernel_rfl
  rw [hn] at hlen
  match cs, hlen, xs, hxl with
  | [v0, v1], _, [x0, x1], _ =>
    have h0 : DataW.trod enc Tryz.prog W 0 sp true m 9 ((List.drop 0 [v0, v1]).take (Tryz.prog.cellsOf 9)) = some x0 := hf 0 _ rfl
    rw [hcs] at h0
    have h1 : DataW.trod enc Tryz.prog W 0 sp true m 9 ((List.drop 1 [v0, v1]).take (Tryz.prog.cellsOf 9)) = some x1 := hf 1 _ rfl
    rw [hcs] at h1
    obtain ⟨s0, e0, r0, _⟩ := DataW.trod_string Tryz.underlying9 (show DataW.trod enc Tryz.prog W 0 sp true m 9 [v0] = some x0 from h0)
    obtain ⟨s1, e1, r1, _⟩ := DataW.trod_string Tryz.underlying9 (show DataW.trod enc Tryz.prog W 0 sp true m 9 [v1] = some x1 from h1)
    obtain ⟨rfl⟩ := e0
    obtain ⟨rfl⟩ := e1
    subst r0 r1
    exact ⟨(s0.data.toList, s1.data.toList), by unfold setC2; rw [strB_of, strB_of], rfl⟩
theorem envV_at : ∀ {l : List (TT × TT)} (j : Nat) (u : Value), (setV l)[j]? = some u → ∃ i p r, l[i]? = some p ∧ (setC2 p)[r]? = some u ∧ j = i * 2 + r
  | [], j, u, h => by simp [setV] at h
  | x :: q, j, u, h => by
    rw [show setV (x :: q) = setC2 x ++ setV q from rfl] at h
    have hc : (setC2 x).length = 2 := rfl
    rcases Nat.lt_or_ge j 2 with hj | hj
    · rw [List.getElem?_append_left (by rw [hc]; exact hj)] at h
      exact ⟨0, x, j, rfl, h, by omega⟩
    · rw [List.getElem?_append_right (by rw [hc]; exact hj)] at h
      obtain ⟨i, a, r, h1, h2, h3⟩ := envV_at (l := q) _ u h
      exact ⟨i + 1, a, r, by simpa using h1, h2, by rw [hc] at h3; omega⟩
theorem open_env {W : World} {b0 : Nat} {v : Value} {d : DataW H} {p : List MemPlace} (h : DataW.Trod enc Tryz.prog W 0 (fun _ => true) true 22 v d p) (hval : Value.okWide Tryz.prog W .any b0 22 v) :
    ∃ (A : Option Addr) (c : Nat) (l : List (TT × TT)), v = .slice A l.length c ∧ Rd W 2 A l.length (setV l) ∧ (l = [] ∨ ∃ el sp, d = .slice el sp ∧ el.length = l.length ∧ ∀ (i : Nat) (a : TT × TT), l[i]? = some a → ∃ x, el[i]? = some x ∧ envD a x) := by
  obtain ⟨fuel, hf⟩ := h
  have hv : v.cells.toList = [v] := by
    rcases okWide_slice Tryz.underlying22 hval with ⟨A, n, c, rfl⟩
    rfl
  have hn : Tryz.prog.cellsOf 55 = 2 := by kernel_rfl
  rw [hv] at hf
  rcases Go.Deep.open_slice Tryz.underlying22 hf with ⟨h1, _⟩ | ⟨a, len, cap, m, n, D, Pl, h1, _, hlc, hcm, hm, hx, hel⟩
  · exact ⟨none, 0, [], by simpa using h1, Rd.none_ _ _ _, .inl rfl⟩
  · have hml : len ≤ m := by rw [hm]; split <;> omega
    have hch : ∀ i, i < len → ∃ e : TT × TT, W.cells? 0 (a.add (i * 2)) 2 = some (setC2 e) ∧ envD e (D i) := fun i hi => by
      obtain ⟨cs, hc, ht⟩ := hel i (by omega)
      obtain ⟨e, rfl, he⟩ := open_env1 ht
      rw [hn] at hc
      exact ⟨e, hc, he⟩
    have : Inhabited (TT × TT) := ⟨⟨[], []⟩⟩
    obtain ⟨V, hV⟩ := Go.Deep.choose_lt (α := TT × TT) (p := fun i e => W.cells? 0 (a.add (i * 2)) 2 = some (setC2 e) ∧ envD e (D i)) hch
    have hll : ((List.range len).map V).length = len := by simp
    have hget : ∀ i e, ((List.range len).map V)[i]? = some e → i < len ∧ e = V i := fun i e h => by
      rw [List.getElem?_map] at h
      obtain ⟨q, hq, rfl⟩ := Option.map_eq_some_iff.1 h
      obtain ⟨hi, hqi⟩ := List.getElem?_eq_some_iff.1 hq
      rw [List.getElem_range] at hqi
      subst hqi
      exact ⟨by simpa using hi, rfl⟩
    refine ⟨some a, cap, (List.range len).map V, by rw [hll]; simpa using h1, ?_, .inr ⟨_, _, congrArg Prod.fst hx, by simp, fun i e he => ?_⟩⟩
    · refine ⟨setV_len _, fun h0 => ?_⟩
      obtain ⟨b, o, sp⟩ := a
      have hc0 := (World.cells?_some (hV 0 (by omega)).1).2.2 0 (by omega)
      cases sp with
      | some x =>
        exfalso
        rw [Addr.add, Addr.add] at hc0
        unfold World.cell? at hc0
        split at hc0
        · simp [setC2] at hc0
        · simp [setC2] at hc0
      | none =>
        refine ⟨b, o, rfl, fun j u hu => ?_⟩
        obtain ⟨i, e, r, h1, h2, rfl⟩ := envV_at j u hu
        obtain ⟨hi, rfl⟩ := hget i e h1
        have hr6 : r < 2 := (List.getElem?_eq_some_iff.1 h2).1
        have := (World.cells?_some (hV i hi).1).2.2 r hr6
        rw [h2, addr_add, addr_add] at this
        rw [← this, Nat.add_assoc]
    · obtain ⟨hi, rfl⟩ := hget i e he
      exact ⟨D i, by rw [List.getElem?_map, List.getElem?_range hi]; rfl, (hV i hi).2⟩
/-- the texts are not great -/
theorem env_sized {ts : List TypeId} {ds : List (DataW H)} (h : (DataW.weightsEach Tryz.prog ts ds).all (· ≤ reachBytes) = true) {j : Nat} (ht : ts[j]? = some 22) {d : DataW H} (hd : ds[j]? = some d) {l : List (TT × TT)}
    (hl : l = [] ∨ ∃ el sp, d = .slice el sp ∧ el.length = l.length ∧ ∀ (i : Nat) (a : TT × TT), l[i]? = some a → ∃ x, el[i]? = some x ∧ envD a x) : ∀ a ∈ l, a.1.length + a.2.length ≤ 4611686018427387904 := by
  rcases hl with rfl | ⟨el, sp, rfl, hlen, hx⟩
  · exact fun a ha => by cases ha
  have h47 := reachBytes_lt
  have hle := fun n hn => of_decide_eq_true (List.all_eq_true.1 h n (DataW.weights_mem_each ht hd n hn))
  intro a ha
  obtain ⟨i, hi⟩ := List.getElem?_of_mem ha
  obtain ⟨x, hxe, hxd⟩ := hx i a hi
  have hall : ∀ n ∈ DataW.weights Tryz.prog 55 x, n ≤ reachBytes := fun n hn => by
    refine hle n ?_
    rw [DataW.weights, show Tryz.prog.underlying 22 = _ from Tryz.underlying22]
    simp only [List.mem_cons, List.mem_append]
    exact .inr (.inl (weightsAll_mem3 (List.mem_of_getElem? hxe) n hn))
  rw [envD] at hxd; subst hxd
  rw [DataW.weights, show Tryz.prog.underlying 55 = _ from Tryz.underlying55] at hall
  simp only [List.map_cons, List.map_nil, DataW.weightsEach, DataW.weights, List.mem_append, List.mem_cons, List.not_mem_nil, or_false] at hall
  have a1 := hall _ (.inl rfl)
  have a2 := hall _ (.inr rfl)
  omega
/-- what the datum says of its sizes -/
def knD (a : KE) (d : DataW H) : Prop := ∃ xb, d = .agg [.lit (.string a.path), xb, .lit (.string a.data)]
theorem open_kn1 {W : World} {sp : Nat → Bool} {n : Nat} {cs : List Value} {x : DataW H × List MemPlace} (h : DataW.trod enc Tryz.prog W 0 sp true n 41 cs = some x) : ∃ a : KE, cs = knC a ∧ knD a x.1 := by
  obtain ⟨xs, m, rfl, rfl, hlen, hxl, hf⟩ := DataW.trod_struct Tryz.underlying41 h
  have hn : Tryz.prog.cellsOf 41 = 3 := by kernel_rfl
  have hcs : Tryz.prog.cellsOf 9 = 1 := by kernel_rfl
  have hcb : Tryz.prog.cellsOf 4 = 1 := by kernel_rfl
  rw [hn] at hlen
  match cs, hlen, xs, hxl with
  | [v0, v1, v2], _, [x0, x1, x2], _ =>
    have h0 : DataW.trod enc Tryz.prog W 0 sp true m 9 ((List.drop 0 [v0, v1, v2]).take (Tryz.prog.cellsOf 9)) = some x0 := hf 0 _ rfl
    rw [hcs] at h0
    have h1 : DataW.trod enc Tryz.prog W 0 sp true m 4 ((List.drop 1 [v0, v1, v2]).take (Tryz.prog.cellsOf 4)) = some x1 := hf 1 _ rfl
    rw [hcb] at h1
    have h2 : DataW.trod enc Tryz.prog W 0 sp true m 9 ((List.drop 2 [v0, v1, v2]).take (Tryz.prog.cellsOf 9)) = some x2 := hf 2 _ rfl
    rw [hcs] at h2
    obtain ⟨s0, e0, r0, _⟩ := DataW.trod_string Tryz.underlying9 (show DataW.trod enc Tryz.prog W 0 sp true m 9 [v0] = some x0 from h0)
    obtain ⟨s1, e1, r1⟩ := DataW.trod_bool Tryz.underlying4 (show DataW.trod enc Tryz.prog W 0 sp true m 4 [v1] = some x1 from h1)
    obtain ⟨s2, e2, r2, _⟩ := DataW.trod_string Tryz.underlying9 (show DataW.trod enc Tryz.prog W 0 sp true m 9 [v2] = some x2 from h2)
    obtain ⟨rfl⟩ := e0
    obtain ⟨rfl⟩ := e1
    obtain ⟨rfl⟩ := e2
    subst r0 r1 r2
    exact ⟨⟨s0.data.toList, s1, s2.data.toList⟩, by unfold knC; rw [strB_of, strB_of], _, rfl⟩
theorem knV_at : ∀ {l : List (KE)} (j : Nat) (u : Value), (kV l)[j]? = some u → ∃ i p r, l[i]? = some p ∧ (knC p)[r]? = some u ∧ j = i * 3 + r
  | [], j, u, h => by simp [kV] at h
  | x :: q, j, u, h => by
    rw [show kV (x :: q) = knC x ++ kV q from rfl] at h
    have hc : (knC x).length = 3 := rfl
    rcases Nat.lt_or_ge j 3 with hj | hj
    · rw [List.getElem?_append_left (by rw [hc]; exact hj)] at h
      exact ⟨0, x, j, rfl, h, by omega⟩
    · rw [List.getElem?_append_right (by rw [hc]; exact hj)] at h
      obtain ⟨i, a, r, h1, h2, h3⟩ := knV_at (l := q) _ u h
      exact ⟨i + 1, a, r, by simpa using h1, h2, by rw [hc] at h3; omega⟩
theorem open_kn {W : World} {b0 : Nat} {v : Value} {d : DataW H} {p : List MemPlace} (h : DataW.Trod enc Tryz.prog W 0 (fun _ => true) true 23 v d p) (hval : Value.okWide Tryz.prog W .any b0 23 v) :
    ∃ (A : Option Addr) (c : Nat) (l : List (KE)), v = .slice A l.length c ∧ Rd W 3 A l.length (kV l) ∧ (l = [] ∨ ∃ el sp, d = .slice el sp ∧ el.length = l.length ∧ ∀ (i : Nat) (a : KE), l[i]? = some a → ∃ x, el[i]? = some x ∧ knD a x) := by
  obtain ⟨fuel, hf⟩ := h
  have hv : v.cells.toList = [v] := by
    rcases okWide_slice Tryz.underlying23 hval with ⟨A, n, c, rfl⟩
    rfl
  have hn : Tryz.prog.cellsOf 41 = 3 := by kernel_rfl
  rw [hv] at hf
  rcases Go.Deep.open_slice Tryz.underlying23 hf with ⟨h1, _⟩ | ⟨a, len, cap, m, n, D, Pl, h1, _, hlc, hcm, hm, hx, hel⟩
  · exact ⟨none, 0, [], by simpa using h1, Rd.none_ _ _ _, .inl rfl⟩
  · have hml : len ≤ m := by rw [hm]; split <;> omega
    have hch : ∀ i, i < len → ∃ e : KE, W.cells? 0 (a.add (i * 3)) 3 = some (knC e) ∧ knD e (D i) := fun i hi => by
      obtain ⟨cs, hc, ht⟩ := hel i (by omega)
      obtain ⟨e, rfl, he⟩ := open_kn1 ht
      rw [hn] at hc
      exact ⟨e, hc, he⟩
    have : Inhabited (KE) := ⟨⟨[], false, []⟩⟩
    obtain ⟨V, hV⟩ := Go.Deep.choose_lt (α := KE) (p := fun i e => W.cells? 0 (a.add (i * 3)) 3 = some (knC e) ∧ knD e (D i)) hch
    have hll : ((List.range len).map V).length = len := by simp
    have hget : ∀ i e, ((List.range len).map V)[i]? = some e → i < len ∧ e = V i := fun i e h => by
      rw [List.getElem?_map] at h
      obtain ⟨q, hq, rfl⟩ := Option.map_eq_some_iff.1 h
      obtain ⟨hi, hqi⟩ := List.getElem?_eq_some_iff.1 hq
      rw [List.getElem_range] at hqi
      subst hqi
      exact ⟨by simpa using hi, rfl⟩
    refine ⟨some a, cap, (List.range len).map V, by rw [hll]; simpa using h1, ?_, .inr ⟨_, _, congrArg Prod.fst hx, by simp, fun i e he => ?_⟩⟩
    · refine ⟨kV_len _, fun h0 => ?_⟩
      obtain ⟨b, o, sp⟩ := a
      have hc0 := (World.cells?_some (hV 0 (by omega)).1).2.2 0 (by omega)
      cases sp with
      | some x =>
        exfalso
        rw [Addr.add, Addr.add] at hc0
        unfold World.cell? at hc0
        split at hc0
        · simp [knC] at hc0
        · simp [knC] at hc0
      | none =>
        refine ⟨b, o, rfl, fun j u hu => ?_⟩
        obtain ⟨i, e, r, h1, h2, rfl⟩ := knV_at j u hu
        obtain ⟨hi, rfl⟩ := hget i e h1
        have hr6 : r < 3 := (List.getElem?_eq_some_iff.1 h2).1
        have := (World.cells?_some (hV i hi).1).2.2 r hr6
        rw [h2, addr_add, addr_add] at this
        rw [← this, Nat.add_assoc]
    · obtain ⟨hi, rfl⟩ := hget i e he
      exact ⟨D i, by rw [List.getElem?_map, List.getElem?_range hi]; rfl, (hV i hi).2⟩
/-- the texts are not great -/
theorem kn_sized {ts : List TypeId} {ds : List (DataW H)} (h : (DataW.weightsEach Tryz.prog ts ds).all (· ≤ reachBytes) = true) {j : Nat} (ht : ts[j]? = some 23) {d : DataW H} (hd : ds[j]? = some d) {l : List (KE)}
    (hl : l = [] ∨ ∃ el sp, d = .slice el sp ∧ el.length = l.length ∧ ∀ (i : Nat) (a : KE), l[i]? = some a → ∃ x, el[i]? = some x ∧ knD a x) : ∀ a ∈ l, a.path.length + a.data.length ≤ 4611686018427387904 := by
  rcases hl with rfl | ⟨el, sp, rfl, hlen, hx⟩
  · exact fun a ha => by cases ha
  have h47 := reachBytes_lt
  have hle := fun n hn => of_decide_eq_true (List.all_eq_true.1 h n (DataW.weights_mem_each ht hd n hn))
  intro a ha
  obtain ⟨i, hi⟩ := List.getElem?_of_mem ha
  obtain ⟨x, hxe, hxd⟩ := hx i a hi
  have hall : ∀ n ∈ DataW.weights Tryz.prog 41 x, n ≤ reachBytes := fun n hn => by
    refine hle n ?_
    rw [DataW.weights, show Tryz.prog.underlying 23 = _ from Tryz.underlying23]
    simp only [List.mem_cons, List.mem_append]
    exact .inr (.inl (weightsAll_mem3 (List.mem_of_getElem? hxe) n hn))
  obtain ⟨xb, rfl⟩ := hxd
  rw [DataW.weights, show Tryz.prog.underlying 41 = _ from Tryz.underlying41] at hall
  simp only [List.map_cons, List.map_nil, DataW.weightsEach, DataW.weights, List.mem_append, List.mem_cons, List.not_mem_nil, or_false] at hall
  have a1 := hall _ (.inl rfl)
  have a2 := hall _ (.inr (.inr rfl))
  omega
theorem maxl_of {W : World} (h : W.ShapedOpen Tryz.prog) : MaxL W := Tryz.tlSplit.s1_3 W h
theorem tabs_ofT {W : World} {a b c d : String × DataW Unit} (h : laidMet Tryz.prog [a, b, ("internal/strconv.uint64pow10", Lib.tabData .u64 Lib.pow10Tab), c, d] W) : Lib.TabBelow Tryz.prog W.heap.size W "internal/strconv.uint64pow10" .u64 Lib.pow10Tab := by
  have h3 := h.tail.tail
  refine Lib.tabBelow_of_tabIs ?_
  exact Lib.tabIs_of_head (g := 1) (t := 175) (e := 150) (n := 20) (by kernel_rfl) (by kernel_rfl) Tryz.underlying175 Tryz.underlying150 (by kernel_rfl) (by kernel_rfl) h3
end Go.Proofs.YtnecjdhamohadaaGreatDoor
