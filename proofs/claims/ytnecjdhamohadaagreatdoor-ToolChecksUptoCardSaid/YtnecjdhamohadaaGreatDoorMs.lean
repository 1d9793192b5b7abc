/- The statements' own functions: all that a tool does. -/
import Derived.Test.YtnecjdhamohadaaGreatDoorMr
import Derived.Test.YtnecjdhamohadaaGreatDoorMd
import Derived.DeepKeys
set_option linter.unusedSimpArgs false
set_option linter.unusedVariables false
namespace Go.Proofs.YtnecjdhamohadaaGreatDoor
open Go.RowKit Go.Maps Go.Shelf
set_option maxRecDepth 100000
def doVs (l : List DE) : List Value := l.flatMap doC
theorem doVs_snoc (l : List DE) (d : DE) : doVs l ++ doC d = doVs (l ++ [d]) := by simp [doVs]
theorem doVs_len : ∀ l : List DE, (doVs l).length = l.length * 4
  | [] => rfl
  | x :: l => by
    have := doVs_len l
    rw [List.length_cons, show doVs (x :: l) = doC x ++ doVs l from rfl, List.length_append, this]
    show 4 + l.length * 4 = _
    omega
/-- the answers by files -/
def orc (U : List KE) (p : TT) : Option KE := some (nrm (ansU U p))
/-- the events of a tool, by files, and how it ends -/
def DoesIs (v : Env) (U : List KE) (text : TT) (D : List DE) : Prop :=
  ((checkT mayB text).1 ≠ 0 ∧ D = []) ∨
  ((checkT mayB text).1 = 0 ∧ ∃ n S E, mrun v (orc U) n (PS.start (cmdsOf mayB (linesT text)), []) = (S, E) ∧ (S.over.kind = 3 ∨ S.over.kind = 4) ∧ D = E ++ [S.over])
/-- how great all is -/
structure Mild (v : Env) (U : List KE) (text : TT) : Prop where
  env : EnvFit v
  text : text.length ≤ 100000
  small : allU U ≤ 1000000
  len : U.length ≤ 1000000
  data : ∀ u ∈ U, u.path.length ≤ 65536 ∧ u.data.length ≤ 65536
theorem ansU_mem (U : List KE) (p : TT) : ansU U p ∈ U ∨ ansU U p = ⟨p, false, []⟩ := by
  unfold ansU
  cases h : U.find? fun x => x.path == p with
  | none => exact .inr rfl
  | some x => exact .inl (List.mem_of_find?_eq_some h)
theorem ansU_path (U : List KE) (p : TT) : (ansU U p).path = p := by
  unfold ansU
  cases h : U.find? fun x => x.path == p with
  | none => rfl
  | some x =>
    have := List.find?_some h
    simpa using this
theorem Mild.ans {v : Env} {U : List KE} {text : TT} (h : Mild v U text) (p : TT) : (ansU U p).data.length ≤ 65536 := by
  rcases ansU_mem U p with h1 | h1
  · exact (h.data _ h1).2
  · rw [h1]; simp
theorem Mild.orc {v : Env} {U : List KE} {text : TT} (h : Mild v U text) : ∀ p k, orc U p = some k → k.is = true → k.data.length ≤ 1000000 := fun p k hk hi => by
  have h1 := h.ans p
  cases hk
  unfold nrm at hi ⊢
  by_cases hx : (ansU U p).is = true
  · rw [if_pos hx]
    show (ansU U p).data.length ≤ 1000000
    omega
  · rw [if_neg hx] at hi
    cases hi
theorem cmds_few {text : TT} (h : (checkT mayB text).1 = 0) : (cmdsOf mayB (linesT text)).length ≤ 400 := by
  have h1 := cmdsOf_len mayB (linesT text)
  unfold checkT at h
  by_cases hb : 65536 < text.length ∨ 400 < (linesT text).length
  · rw [if_pos hb] at h
    cases h
  · omega
theorem Mild.start {v : Env} {U : List KE} {text : TT} (h : Mild v U text) (hok : (checkT mayB text).1 = 0) : Inv U (PS.start (cmdsOf mayB (linesT text))) := inv_start (cmds_fit h.text) (by have := cmds_few hok; omega) h.small
/-- it does less than 2000 things -/
theorem Mild.few {v : Env} {U : List KE} {text : TT} (h : Mild v U text) (hok : (checkT mayB text).1 = 0) {n : Nat} {S : PS} {E : List DE} (hm : mrun v (Go.Proofs.YtnecjdhamohadaaGreatDoor.orc U) n (PS.start (cmdsOf mayB (linesT text)), []) = (S, E)) : E.length ≤ 900 := by
  have hord := (h.start hok).ord
  have h1 := Ev.on_run (v := v) h.orc n (m := (PS.start (cmdsOf mayB (linesT text)), [])) (ev_start _) hord
  have h2 := Ord.mrun (v := v) h.orc n (m := (PS.start (cmdsOf mayB (linesT text)), [])) hord
  rw [hm] at h1 h2
  have h3 : E.length ≤ (cmdsOf mayB (linesT text)).length + 500 := h1.len h2.lim
  have := cmds_few hok
  omega
theorem RunAt.grownDo {w w' : World} {L : RLay} {v : Env} {q : Option Nat} {s : PS} {A : Option Addr} {c : Nat} {us : List Value} {row : Option Nat} (h : RunAt w L v q s A c us) (hg : w.grownBy w' row) (hrow : ∀ b, row = some b → ∃ cs fr, w.heap[b]? = some (.cells cs 35 fr)) : RunAt w' L v q s A c us := by
  cases row with
  | none => exact h.below ⟨hg.os, hg.tape, hg.output, hg.size, fun k hk => hg.block k hk (by simp)⟩
  | some b =>
    obtain ⟨cs, fr, hb⟩ := hrow b rfl
    have hc : ∀ (g : Nat) (cs' : Array Value) (t : TypeId) (fr' : Nat × Nat), w.heap[g]? = some (.cells cs' t fr') → t ≠ 35 → w'.heap[g]? = w.heap[g]? := fun g cs' t fr' hgg hne => hg.block g (heap_lt hgg) fun e => by
      cases e
      rw [hb] at hgg
      injection hgg with hgg
      injection hgg with _ hgg
      exact hne hgg.symm
    have cb : ∀ {g : Nat} {cs' : Array Value} {t : TypeId}, CellB w g cs' t → t ≠ 35 → CellB w' g cs' t := fun {g cs' t} hx hne => (hc g cs' t _ hx hne).trans hx
    have ow : ∀ {base sz n c : Nat} {t : TypeId} {A : Option Addr} {xs : List Value}, Own w base t sz A n c xs → t ≠ 35 → Own w' base t sz A n c xs := fun {base sz n c t A xs} ho hne => ho.keep fun k hk _ _ => by
      obtain ⟨_, _, cur, fr', hx⟩ := ho.block k hk
      exact hc k cur t fr' hx hne
    have mp : ∀ {α : Type} {enc : α → Value} {k m : Nat} {M : Tab α}, MapIs w Tryz.prog 9 enc k m M → MapIs w' Tryz.prog 9 enc k m M := fun hM => hM.keep (hg.block _ hM.lt fun e => by cases e; exact hM.isMap hb)
    have mb : ∀ {g : Nat}, MBox w g q → MBox w' g q := fun {g} ⟨m, h1, h2⟩ => ⟨m, h1, cb h2 (by decide)⟩
    have db : ∀ {R : Nat} {u : Value} {d : DataF}, DataIs w R q u d → DataIs w' R q u d := fun {R u d} hd => by
      cases d with
      | add => exact hd
      | scan x =>
        obtain ⟨g1, g2, g3, e, h1, h2, h3⟩ := hd
        exact ⟨g1, g2, g3, e, cb h1 (by decide), cb h2 (by decide), mb h3⟩
    have tb : ∀ {R : Nat} {u : Value} {d : DataF}, ThereIs w R q u d → ThereIs w' R q u d := fun {R u d} hd => by
      obtain ⟨g1, g2, v, e, h1, h2, h3⟩ := hd
      exact ⟨g1, g2, v, e, cb h1 (by decide), cb h2 (by decide), db h3⟩
    have nb : ∀ {R : Nat} {u : Value} {th : ThenE}, ThenIs w R q u th → ThenIs w' R q u th := fun {R u th} hd => by
      cases th with
      | add => exact tb hd
      | try_ =>
        obtain ⟨g1, e, h1⟩ := hd
        exact ⟨g1, e, cb h1 (by decide)⟩
      | scan x => exact tb hd
    refine ⟨cb h.run (by decide), h.base, ow h.row (by decide), fun i t hi => ?_, ow h.env (by decide), ?_, ?_⟩
    · obtain ⟨u, h1, h2⟩ := h.tasks i t hi
      refine ⟨u, h1, ?_⟩
      cases t with
      | cmd c =>
        obtain ⟨g1, g2, e, h1, A, cA, h2, h3, h4⟩ := h2
        exact ⟨g1, g2, e, cb h1 (by decide), A, cA, cb h2 (by decide), ow h3 (by decide), h4⟩
      | ans p th =>
        obtain ⟨g1, g2, g3, v, e, h1, h2, h3, h4⟩ := h2
        exact ⟨g1, g2, g3, v, e, cb h1 (by decide), nb h2, cb h3 (by decide), cb h4 (by decide)⟩
      | line x y =>
        obtain ⟨g1, g2, g3, g4, e, h1, h2, h3, h4⟩ := h2
        exact ⟨g1, g2, g3, g4, e, cb h1 (by decide), cb h2 (by decide), cb h3 (by decide), mb h4⟩
    · obtain ⟨h1, M, h2, h3⟩ := h.known
      exact ⟨h1, M, mp h2, h3⟩
    · rcases h.seen with h1 | ⟨g, M, h1, h2, h3, h4, h5⟩
      · exact .inl h1
      · exact .inr ⟨g, M, h1, h2, h3, mp h4, h5⟩
/-- what a world has for the statements -/
structure Lib3 (w : World) : Prop where
  lib : MaxL w
  tabs : Lib.TabBelow Tryz.prog w.heap.size w "internal/strconv.uint64pow10" .u64 Lib.pow10Tab
theorem Lib3.on {w w' : World} (h : Lib3 w) (hb : Below w.heap.size w w') : Lib3 w' := ⟨h.lib.on hb, fun x hx => h.tabs x (hb.trans (hx.mono hb.size))⟩
theorem Lib3.home {w w' : World} (h : Lib3 w) {L : RLay} (hL : L.B = w.heap.size) (hb : Below w.heap.size w w') : Home w' L := by
  obtain ⟨m, hm⟩ := h.lib
  have hg := World.block_lt_of_cell? _ _ hm
  exact ⟨h.lib.on hb, by rw [hL]; exact hg, by rw [hL]; exact hb.size, by rw [hL]; exact h.tabs.on hb⟩
def DoesPost (w : World) (v : Env) (U : List KE) (text : TT) (e : Ending) (w' : World) : Prop := ∃ A c D, e = .returned (.slice A D.length c) ∧ Own w' w.heap.size 35 4 A D.length c (doVs D) ∧ DoesIs v U text D ∧ Below w.heap.size w w'
set_option maxHeartbeats 8000000 in
theorem does_bad (w : World) (v : Env) (U : List KE) (text : TT) (h : Mild v U text) (hl : Lib3 w) (hbad : (checkT mayB text).1 ≠ 0) (EA KA : Option Addr) (n ec kn kc : Nat) :
    Calls Tryz.prog 18 #[.string (strB text), .slice EA n ec, .slice KA kn kc] w (DoesPost w v U text) := by
  have cS := start_bad w v text (by have := h.text; omega) hl.lib hbad EA n ec
  obtain ⟨Pq, hPq⟩ : ∃ Pq : Ending → World → Prop, Pq = DoesPost w v U text := ⟨_, rfl⟩
  obtain ⟨X, hX⟩ : ∃ X, X = strB text := ⟨_, rfl⟩
  obtain ⟨ck, hck⟩ : ∃ ck : Int, ck = ((checkT mayB text).1 : Int) := ⟨_, rfl⟩
  have hck0 : ck ≠ 0 := by omega
  have hckb : (ck == 0) = false := by rw [beq_eq_false_iff_ne]; exact hck0
  have hfin : ∀ w', Below w.heap.size w w' → Pq (.returned (.slice none 0 0)) w' := fun w' hb => by
    rw [hPq]
    exact ⟨none, 0, [], rfl, Own.nil _ _ _ _, .inl ⟨hbad, rfl⟩, hb⟩
  have cS2 : Calls Tryz.prog 11 #[.string X, .slice EA n ec] w fun e w' => e = .returned (.tuple #[.pointer none, .int .i64 ck]) ∧ Below w.heap.size w w' := by
    rw [hX, hck]
    refine cS.mono fun e w' k => ?_
    rcases k with ⟨_, h2, h3⟩ | ⟨h1, _⟩
    · exact ⟨h2, h3⟩
    · exact absurd h1 hbad
  have HF := hid2 hfin
  have CS := hid2 cS2
  rw [← hPq, ← hX]
  clear cS cS2 hfin hPq hX hck h hl hbad
  go_enter Tryz.func18, Tryz.ntmps18
  go_wp2_with (go_at_call 11; refine CS.out.mono ?_; rintro e w1 ⟨rfl, hb⟩; have HB := hid2 hb; clear hb)
  go_loopw [7, 10] (fun o i wr => o = .slice none 0 0 ∧ i = .int .i64 0 ∧ wr = w1) (fun _ _ _ => 0)
  case atStart => exact ⟨rfl, rfl, rfl⟩
  case round =>
    obtain ⟨rfl, rfl, rfl⟩ := hrel
    go_wp2_with fail
    exact HF.out _ HB.out
theorem zero_doI : (Tryz.prog.info? 35).map (fun i => (i.zero, i.size, i.bytes)) = some (some (.agg #[.int .i64 0, .string ⟨#[]⟩, .string ⟨#[]⟩, .int .i64 0]), 4, 48) := by kernel_rfl
set_option maxHeartbeats 16000000 in
theorem does_ok (w : World) (v : Env) (hmay : v.may = mayB) (U : List KE) (text : TT) (h : Mild v U text) (hl : Lib3 w) (hok : (checkT mayB text).1 = 0) (EA KA : Option Addr) (ec kc : Nat) (hre : Rd w 2 EA v.env.length (setV v.env)) (hrk : Rd w 3 KA U.length (kV U)) :
    Calls Tryz.prog 18 #[.string (strB text), .slice EA v.env.length ec, .slice KA U.length kc] w (DoesPost w v U text) := by
  have cS := start_ok w v h.env text (by have := h.text; omega) hl.lib hok EA ec hre
  obtain ⟨start, hst⟩ : ∃ st, st = PS.start (cmdsOf mayB (linesT text)) := ⟨_, rfl⟩
  obtain ⟨Pq, hPq⟩ : ∃ Pq : Ending → World → Prop, Pq = DoesPost w v U text := ⟨_, rfl⟩
  obtain ⟨X, hX⟩ : ∃ X, X = strB text := ⟨_, rfl⟩
  obtain ⟨en, hen⟩ : ∃ en, en = v.env.length := ⟨_, rfl⟩
  obtain ⟨kn, hkn⟩ : ∃ kn, kn = U.length := ⟨_, rfl⟩
  have cS2 : Calls Tryz.prog 11 #[.string X, .slice EA en ec] w fun e w' => ∃ L : RLay, e = .returned (.tuple #[.pointer (some ⟨L.R, 0, none⟩), .int .i64 0]) ∧ L.B = w.heap.size ∧ RunIs w' L v none start ∧ Below w.heap.size w w' := by
    rw [hX, hen, hst]
    refine cS.mono fun e w' k => ?_
    rcases k with ⟨h1, _⟩ | ⟨_, L, h2, h3, h4, h5⟩
    · exact absurd hok h1
    · refine ⟨L, h2, h3, h4, ?_⟩
      have := h5.below
      rwa [h3] at this
  have CS := hid2 cS2
  have HST := hid2 hst
  have HPQ := hid2 hPq
  have HMI := hid2 h
  have HL := hid2 hl
  have HOK := hid2 hok
  have HRK := hid2 (show ∀ w2, Below w.heap.size w w2 → ∀ p, Calls Tryz.prog 15 #[.slice KA kn kc, .string (strB p)] w2 fun e w' => e = .returned (encK (ansU U p)) ∧ Below w2.heap.size w2 w' from fun w2 hb p => by
    rw [hkn]
    exact answer_any w2 KA kc U h.len (hrk.below_all hb) p)
  rw [← hPq, ← hX, ← hen, ← hkn]
  clear cS cS2 hPq hX hst h hl hok hen hkn hre hrk
  go_enter Tryz.func18, Tryz.ntmps18
  go_wp2_with (go_at_call 11; refine CS.out.mono ?_; rintro e w1 ⟨L, rfl, hLB, hr, hb⟩; have HB1 := hid2 hb; have HR1 := hid2 hr; have HLB := hid2 hLB; clear hb hr hLB)
  obtain ⟨R, hR⟩ : ∃ R, R = L.R := ⟨_, rfl⟩
  rw [← hR]
  have HR := hid2 hR
  clear hR
  go_loopg [7, 10] 2000 (fun gk ov iv wr => ∃ (n : Nat) (k : Nat) (s : PS) (E : List DE) (q : Option Nat) (A : Option Addr) (c : Nat), n + gk = 2000 ∧ n = E.length ∧ iv = .int .i64 n ∧ ov = .slice A n c ∧ mrun v (orc U) k (start, []) = (s, E) ∧ Inv U s ∧ RunIs wr L v q s ∧ Own wr w.heap.size 35 4 A n c (doVs E) ∧ Below w.heap.size w wr)
  case atStart => exact ⟨0, 0, start, [], none, none, 0, rfl, rfl, rfl, rfl, rfl, by rw [HST.out]; exact HMI.out.start HOK.out, HR1.out, Own.nil _ _ _ _, HB1.out⟩
  case round =>
    obtain ⟨n, k, s, E, q, A, c, hgk, hnE, rfl, rfl, hmr, hinv, hrun, hown, hbe⟩ := hrel
    have hfew : n ≤ 900 := by rw [hnE]; rw [HST.out] at hmr; exact HMI.out.few HOK.out hmr
    have hni : (n : Int) < 2000 := by omega
    obtain ⟨j, hj⟩ := hinv.stands v
    have hSI := hinv.run (v := v) j
    have hcases := hSI.ord.cases hj
    have hlead := run_leads (v := v) (O := orc U) j s E
    obtain ⟨k2, hk2⟩ := hlead
    have hk3 : mrun v (orc U) (k + k2) (start, []) = (s.run v j, E) := by rw [mrun_add, hmr, hk2]
    have cN := next_any wr L v HMI.out.env q s hrun (HL.out.home HLB.out hbe) (fun i => (hinv.run (v := v) i).sound) j hj
    obtain ⟨S, hS⟩ : ∃ S, S = s.run v j := ⟨_, rfl⟩
    rw [← hS] at hSI hcases hk3 cN hj
    obtain ⟨kd, hkd⟩ : ∃ kd : Int, kd = (nextV S).kind := ⟨_, rfl⟩
    obtain ⟨P0, hP0⟩ : ∃ x, x = strB (nextV S).path := ⟨_, rfl⟩
    obtain ⟨D0, hD0⟩ : ∃ x, x = strB (nextV S).data := ⟨_, rfl⟩
    obtain ⟨wy, hwy⟩ : ∃ x : Int, x = (nextV S).why := ⟨_, rfl⟩
    have hdoc : doC (nextV S) = [.int .i64 kd, .string P0, .string D0, .int .i64 wy] := by rw [hkd, hP0, hD0, hwy]; rfl
    have hdoa : doA (nextV S) = .agg #[.int .i64 kd, .string P0, .string D0, .int .i64 wy] := by rw [doA, hdoc]
    have cN2 : Calls Tryz.prog 14 #[.pointer (some ⟨R, 0, none⟩)] wr fun e w' => e = .returned (.agg #[.int .i64 kd, .string P0, .string D0, .int .i64 wy]) ∧ (∃ q, RunIs w' L v q S.next) ∧ TBut L.B wr w' := by
      rw [HR.out, ← hdoa]
      exact cN
    have CN := hid2 cN2
    have HSI := hid2 hSI
    have HCA := hid2 hcases
    have HK3 := hid2 hk3
    have HJ := hid2 hj
    have HDOC := hid2 hdoc
    have HKD := hid2 hkd
    have HP0 := hid2 hP0
    have HOWN := hid2 hown
    have HBE := hid2 hbe
    have HNE := hid2 hnE
    have HGK := hid2 hgk
    clear hmr hinv hrun hown hbe hnE hgk hfew hj hSI hcases hk2 hk3 cN cN2 hS hkd hP0 hD0 hwy hdoc hdoa
    go_upto_region 7 with (go_at_call 14; refine CN.out.mono ?_; rintro e wn ⟨rfl, ⟨q2, hr2⟩, hb2⟩; have HR2 := hid2 hr2; have HB2 := hid2 hb2; clear hr2 hb2 CN)
    obtain ⟨wx, hwx⟩ : ∃ wx, wx = wn.alloc (.cells #[.int .i64 kd, .string P0, .string D0, .int .i64 wy] 35) := ⟨_, rfl⟩
    have hbx : Below wn.heap.size wn wx := by rw [hwx]; exact (Below.refl _ _).alloc (Nat.le_refl _) _
    have hdx : wx.heap[wn.heap.size]? = some (.cells #[.int .i64 kd, .string P0, .string D0, .int .i64 wy] 35 (0, 0)) := by rw [hwx]; exact World.alloc_heap_new wn _
    have hbn : Below w.heap.size w wn := by
      have := HB2.out.below
      rw [HLB.out] at this
      exact HBE.out.trans this
    have hown1 : Own wn w.heap.size 35 4 A n c (doVs E) := HOWN.out.tbut HB2.out (by decide) (by decide)
    have hdne : blockOf A ≠ some wn.heap.size := fun e => by have := (hown1.block _ e).2.1; omega
    have hownx : Own wx w.heap.size 35 4 A n c (doVs E) := hown1.below hbx (Nat.le_refl _)
    have hbxx : Below w.heap.size w wx := hbn.trans (hbx.mono hbn.size)
    obtain ⟨V, hV⟩ : ∃ V, V = doVs E := ⟨_, rfl⟩
    rw [← hV] at hownx
    have hv4 : V ++ [.int .i64 kd, .string P0, .string D0, .int .i64 wy] = doVs (E ++ [nextV S]) := by rw [hV, ← HDOC.out, doVs_snoc]
    have hr2x : RunIs wx L v q2 S.next := HR2.out.below hbx
    rw [← hwx]
    obtain ⟨g, hg⟩ : ∃ g, g = wn.heap.size := ⟨_, rfl⟩
    rw [← hg] at hdx hdne ⊢
    have y0 : wx.cell? ⟨g, 0, none⟩ = some (.int .i64 kd) := cell_of_row wx g 0 _ _ _ hdx
    have y1 : wx.cell? ⟨g, 1, none⟩ = some (.string P0) := cell_of_row wx g 1 _ _ _ hdx
    have y2 : wx.cell? ⟨g, 2, none⟩ = some (.string D0) := cell_of_row wx g 2 _ _ _ hdx
    have y3 : wx.cell? ⟨g, 3, none⟩ = some (.int .i64 wy) := cell_of_row wx g 3 _ _ _ hdx
    have hone : ∀ u ∈ [Value.int .i64 kd, .string P0, .string D0, .int .i64 wy], u.oneCell' = true := by simp [Value.oneCell']
    have HDX := hid2 hdx
    have HDN := hid2 hdne
    have HV4 := hid2 hv4
    have HRX := hid2 hr2x
    have HBXX := hid2 hbxx
    have HOX := hid2 hownx
    have hbsz := hbxx.size
    have hfew : n ≤ 2000 := by have := HGK.out; omega
    clear hwx hbx hdx hbn hown1 hdne hbxx hV hv4 hr2x hg
    go_upto_region 8 with (at_builtin; have _t := hownx; go_must ((with_reducible refine wpList_append_lit 35 (.agg #[.int .i64 0, .string ⟨#[]⟩, .string ⟨#[]⟩, .int .i64 0]) 4 48 Tryz.underlying33 zero_doI rfl w.heap.size A n c V (hownx.alloc _) 1 [.int .i64 kd, .string P0, .string D0, .int .i64 wy] (.slice (some ⟨wx.heap.size, 0, none⟩) 1 1) (Src.slice Tryz.underlying33 (Rd.of_lit wx _ _ 4 1 (by decide) rfl)) hone ?_ ?_ ?_ ?_ ?_); (unfold maxLen; omega); omega; (simp; omega); exact ⟨rfl, rfl⟩; intro A3 c3 w3 hown3 hgr3 hbl3; clear hownx))
    have hba : Below wx.heap.size wx (wx.alloc (.cells #[.int .i64 kd, .string P0, .string D0, .int .i64 wy] 35)) := (Below.refl _ _).alloc (Nat.le_refl _) _
    have hb3 : Below w.heap.size w w3 := (HBXX.out.trans (hba.mono hbsz)).grown hgr3 (by simp; omega) (fun k e => (HOX.out.block k e).1)
    have hd3 : w3.heap[g]? = some (.cells #[.int .i64 kd, .string P0, .string D0, .int .i64 wy] 35 (0, 0)) := (hgr3.block g (by have := heap_lt HDX.out; simp; omega) (fun e => HDN.out e.symm)).trans ((hba.block g (heap_lt HDX.out)).trans HDX.out)
    have hr3 : RunIs w3 L v q2 S.next := by
      obtain ⟨a1, a2, a3, hra⟩ := HRX.out
      exact ⟨a1, a2, a3, (hra.below hba).grownDo hgr3 fun b e => by
        obtain ⟨_, _, cur, fr, hx⟩ := (HOX.out.alloc (.cells #[.int .i64 kd, .string P0, .string D0, .int .i64 wy] 35)).block b e
        exact ⟨cur, fr, hx⟩⟩
    rw [HV4.out] at hown3
    have z0 : w3.cell? ⟨g, 0, none⟩ = some (.int .i64 kd) := cell_of_row w3 g 0 _ _ _ hd3
    have z1 : w3.cell? ⟨g, 1, none⟩ = some (.string P0) := cell_of_row w3 g 1 _ _ _ hd3
    have HB3 := hid2 hb3
    have HR3 := hid2 hr3
    have HO3 := hid2 hown3
    have hb3s := hb3.size
    clear hba hb3 hd3 hr3 hown3 hgr3 hbl3 y0 y1 y2 y3 _t hone
    rcases HCA.out with ⟨hwt, hov⟩ | ⟨hwt, hov⟩ | ⟨hwt, hov⟩
    · -- it asks
      have hnv : nextV S = ⟨1, S.asks, [], 0⟩ := by rw [nextV, if_pos hwt]
      have hnx : S.next = S := by rw [PS.next, if_pos hwt]
      have hkd1 : kd = 1 := by rw [HKD.out, hnv]; rfl
      have hp0 : P0 = strB S.asks := by rw [HP0.out, hnv]
      have hr3 := HR3.out
      rw [hnx] at hr3
      have hdat := HMI.out.ans S.asks
      have hal := HSI.out.ord.lim.asks
      have hwts := HSI.out.ord.waits hwt
      have hsound := HSI.out.sound
      have hstill : ∀ m, S.run v m = S := fun m => PS.run_still HJ.out m
      have cA := HRK.out w3 HB3.out S.asks
      have hkeq : ∃ (kb : Bool) (K0 K1 : ByteArray), encK (ansU U S.asks) = .agg #[.string K0, .bool kb, .string K1] := ⟨_, _, _, rfl⟩
      obtain ⟨kb, K0, K1, hke⟩ := hkeq
      rw [← hp0, hke] at cA
      have cG := hid2 (fun (w4 : World) (hb : Below w3.heap.size w3 w4) => show Calls Tryz.prog 16 #[.pointer (some ⟨R, 0, none⟩), .agg #[.string K0, .bool kb, .string K1]] w4 fun e w' => e = .returned (.int .i64 0) ∧ (∃ q, RunIs w' L v q (S.give (nrm (ansU U S.asks)))) ∧ TBut L.B w4 w' from by
        have hg := give_any w4 L v HMI.out.env q2 S (hr3.below hb) (HL.out.home HLB.out (HB3.out.trans (hb.mono hb3s))) (fun i => by rw [hstill]; exact hsound) 0 HJ.out (ansU U S.asks) ⟨by rw [ansU_path]; omega, by omega⟩ (fun _ => hwts.2.1)
        have hgv : PS.gave (S.run v 0) (ansU U S.asks) = (0, S.give (nrm (ansU U S.asks))) := by
          show PS.gave S _ = _
          rw [PS.gave, if_neg (by rw [hwt]; simp), if_neg (by rw [ansU_path]; simp), if_neg (by omega)]
        rw [hke, ptrV, ← HR.out] at hg
        refine hg.mono fun e w' x => ?_
        obtain ⟨x1, x2, x3⟩ := x
        rw [hgv] at x1 x2
        exact ⟨x1, x2, x3⟩)
      have hmr2 : mrun v (orc U) (k + k2 + 1) (start, []) = (S.give (nrm (ansU U S.asks)), E ++ [nextV S]) := by
        rw [mrun_add, HK3.out, hnv]
        unfold mrun mrun mstep
        simp [hov, DE.none, hwt, orc]
      have hinv2 := HSI.out.give hwt (fun p _ => by have := HMI.out.ans p; omega)
      have HMR2 := hid2 hmr2
      have HIN2 := hid2 hinv2
      have CA := hid2 cA
      subst hkd1
      clear hwt hov hnv hnx hp0 hr3 hdat hal hwts hsound hstill cA hke hmr2 hinv2
      go_wp2_with (first
        | (go_at_call 15; refine CA.out.mono ?_; rintro e w4 ⟨rfl, hb4⟩; have HB4 := hid2 hb4; clear hb4 z0 z1 CA)
        | (go_at_call 16; refine (cG.out w4 HB4.out).mono ?_; rintro e w5 ⟨rfl, ⟨q5, hr5⟩, hb5⟩; have HR5 := hid2 hr5; have HB5 := hid2 hb5; clear hr5 hb5))
      go_roundg (gk - 1)
      case rel =>
        have hb45 := HB5.out.below
        rw [HLB.out] at hb45
        exact ⟨n + 1, k + k2 + 1, _, E ++ [nextV S], q5, A3, c3, by have := HGK.out; omega, by rw [List.length_append, ← HNE.out]; rfl, by go_num, rfl, HMR2.out, HIN2.out, HR5.out, ((HO3.out.below HB4.out (Nat.le_refl _)).tbut HB5.out (by decide) (by decide)), (HB3.out.trans (HB4.out.mono hb3s)).trans hb45⟩
      case measure => have := HGK.out; omega
    · -- it has written
      have hnv : nextV S = S.over := by rw [nextV, if_neg (by rw [hwt]; simp)]
      have hnx : S.next = { S with over := DE.none } := by rw [PS.next, if_neg (by rw [hwt]; simp), if_pos hov]
      have hkd2 : kd = 2 := by rw [HKD.out, hnv, hov]; rfl
      have hr3 := HR3.out
      rw [hnx] at hr3
      have hmr2 : mrun v (orc U) (k + k2 + 1) (start, []) = ({ S with over := DE.none }, E ++ [nextV S]) := by
        rw [mrun_add, HK3.out, hnv]
        unfold mrun mrun mstep
        simp [hov]
      have hinv2 := HSI.out.next
      rw [hnx] at hinv2
      have HMR2 := hid2 hmr2
      have HIN2 := hid2 hinv2
      have HR4 := hid2 hr3
      subst hkd2
      clear hwt hov hnv hnx hr3 hmr2 hinv2
      go_wp2_with fail
      go_roundg (gk - 1)
      case rel => exact ⟨n + 1, k + k2 + 1, _, E ++ [nextV S], q2, A3, c3, by have := HGK.out; omega, by rw [List.length_append, ← HNE.out]; rfl, by go_num, rfl, HMR2.out, HIN2.out, HR4.out, HO3.out, HB3.out⟩
      case measure => have := HGK.out; omega
    · -- it has ended
      have hnv : nextV S = S.over := by rw [nextV, if_neg (by rw [hwt]; simp)]
      have hkd1 : ¬ kd = 1 := by rw [HKD.out, hnv]; omega
      have hkd2 : ¬ kd = 2 := by rw [HKD.out, hnv]; omega
      have hkb1 : (kd == 1) = false := by rw [beq_eq_false_iff_ne]; exact hkd1
      have hkb2 : (kd == 2) = false := by rw [beq_eq_false_iff_ne]; exact hkd2
      have hkb3 : (kd != 2) = true := by simpa using hkd2
      have hfin : Pq (.returned (.slice A3 (n + 1) c3)) w3 := by
        have hlen : (E ++ [nextV S]).length = n + 1 := by rw [List.length_append, ← HNE.out]; rfl
        rw [HPQ.out]
        refine ⟨A3, c3, E ++ [nextV S], by rw [hlen], by rw [hlen]; exact HO3.out, .inr ⟨HOK.out, k + k2, S, E, ?_, hov, by rw [hnv]⟩, HB3.out⟩
        rw [← HST.out]
        exact HK3.out
      have HF := hid2 hfin
      clear hwt hov hnv hfin
      go_wp2_with fail
      exact HF.out
theorem does_any (w : World) (v : Env) (hmay : v.may = mayB) (U : List KE) (text : TT) (h : Mild v U text) (hl : Lib3 w) (EA KA : Option Addr) (ec kc : Nat) (hre : Rd w 2 EA v.env.length (setV v.env)) (hrk : Rd w 3 KA U.length (kV U)) :
    Calls Tryz.prog 18 #[.string (strB text), .slice EA v.env.length ec, .slice KA U.length kc] w (DoesPost w v U text) := by
  by_cases hok : (checkT mayB text).1 = 0
  · exact does_ok w v hmay U text h hl hok EA KA ec kc hre hrk
  · exact does_bad w v U text h hl hok EA KA _ ec _ kc
end Go.Proofs.YtnecjdhamohadaaGreatDoor
/- The statements' own functions: two things that tools do, compared. -/
namespace Go.Proofs.YtnecjdhamohadaaGreatDoor
open Go.RowKit Go.Maps Go.Shelf
set_option maxRecDepth 100000
/-- a thing that a tool does, of an ordinary size -/
def FitDo (d : DE) : Prop := d.kind ≤ 1000000 ∧ d.why ≤ 1000000 ∧ d.path.length ≤ 1000000000 ∧ d.data.length ≤ 1000000000
def litDo (d : DE) : List Lit := [.int .i64 d.kind, .string d.path, .string d.data, .int .i64 d.why]
theorem litDo_inj {a b : DE} (h : litDo a = litDo b) : a = b := by
  obtain ⟨k, p, d, y⟩ := a
  obtain ⟨k', p', d', y'⟩ := b
  simp only [litDo, List.cons.injEq, Lit.int.injEq, Lit.string.injEq, and_true, true_and] at h
  obtain ⟨h1, h2, h3, h4⟩ := h
  have e1 : k = k' := by omega
  have e4 : y = y' := by omega
  subst e1 e4 h2 h3
  rfl
def sameD (a b : DE) : Bool := a.kind == b.kind && (a.path == b.path && (a.data == b.data && a.why == b.why))
theorem sameD_iff {a b : DE} : sameD a b = true ↔ a = b := by
  obtain ⟨k, p, d, y⟩ := a
  obtain ⟨k', p', d', y'⟩ := b
  simp [sameD]
theorem lit_wf (n : Nat) (h : n ≤ 1000000) : (Lit.int .i64 (n : Int)).wf = true := by
  have h0 : IntKind.i64.min = -9223372036854775808 := by decide
  have h1 : IntKind.i64.max = 9223372036854775807 := by decide
  simp only [Lit.wf, Bool.and_eq_true, decide_eq_true_eq, h0, h1]
  omega
theorem keyLits_do (d : DE) (h : FitDo d) : Tryz.prog.keyLits 2 35 (doC d) = some (litDo d) := by
  obtain ⟨h1, h2, h3, h4⟩ := h
  have hu := Tryz.underlying35
  have hui := Tryz.underlying3
  have hue := Tryz.underlying27
  have hus := Tryz.underlying9
  have hc : Tryz.prog.cellsOf 35 = 4 := by kernel_rfl
  have hci : Tryz.prog.cellsOf 3 = 1 := by kernel_rfl
  have hce : Tryz.prog.cellsOf 27 = 1 := by kernel_rfl
  have hcs : Tryz.prog.cellsOf 9 = 1 := by kernel_rfl
  have w1 := lit_wf d.kind h1
  have w2 := lit_wf d.why h2
  have s1 : (strB d.path).size ≤ maxLen := by rw [strB_size]; unfold maxLen; omega
  have s2 : (strB d.data).size ≤ maxLen := by rw [strB_size]; unfold maxLen; omega
  simp [Program.keyLits, hu, hui, hue, hus, hc, hci, hce, hcs, doC, w1, w2, s1, s2, litDo, strB_list]
theorem formed_do (d : DE) : (doA d).formed Tryz.prog 35 = true := by
  have hu := Tryz.underlying35
  have hc : Tryz.prog.cellsOf 35 = 4 := by kernel_rfl
  simp [Value.formed, hu, hc, doA, doC]
theorem run_eq_do (a b : DE) (ha : FitDo a) (hb : FitDo b) (w : World) : (binOp .eql 35 (doA a) (doA b)).run Tryz.prog w = .ok (.bool (sameD a b)) w := by
  have hE : EqAt Tryz.prog 10000 35 := run_equalIn_deep 9998 2 35 (by kernel_rfl)
  obtain ⟨r, h1, h2⟩ := hE w 2 2 (doA a) (doA b) _ _ (formed_do a) (formed_do b) (by simpa [doA, Value.cells] using keyLits_do a ha) (by simpa [doA, Value.cells] using keyLits_do b hb)
  unfold doA at h1 ⊢
  rw [run_eql_struct, h1]
  have : r = sameD a b := by
    rw [Bool.eq_iff_iff, h2, sameD_iff]
    exact ⟨litDo_inj, fun e => by rw [e]⟩
  rw [this]
  rfl
theorem run_neq_do (a b : DE) (ha : FitDo a) (hb : FitDo b) (w : World) : (binOp .neq 35 (doA a) (doA b)).run Tryz.prog w = .ok (.bool (!sameD a b)) w := by
  have hE : EqAt Tryz.prog 10000 35 := run_equalIn_deep 9998 2 35 (by kernel_rfl)
  obtain ⟨r, h1, h2⟩ := hE w 2 2 (doA a) (doA b) _ _ (formed_do a) (formed_do b) (by simpa [doA, Value.cells] using keyLits_do a ha) (by simpa [doA, Value.cells] using keyLits_do b hb)
  unfold doA at h1 ⊢
  rw [run_neq_struct, h1]
  have : r = sameD a b := by
    rw [Bool.eq_iff_iff, h2, sameD_iff]
    exact ⟨litDo_inj, fun e => by rw [e]⟩
  rw [this]
  rfl
theorem doVs_get : ∀ {l : List DE} {k : Nat} {p : DE}, l[k]? = some p → (doVs l)[k * 4]? = some (.int .i64 p.kind) ∧ (doVs l)[k * 4 + 1]? = some (.string (strB p.path)) ∧ (doVs l)[k * 4 + 2]? = some (.string (strB p.data)) ∧ (doVs l)[k * 4 + 3]? = some (.int .i64 p.why)
  | [], _, _, h => by simp at h
  | x :: l, 0, p, h => by
    rw [List.getElem?_cons_zero] at h
    cases h
    exact ⟨rfl, rfl, rfl, rfl⟩
  | x :: l, k + 1, p, h => by
    rw [List.getElem?_cons_succ] at h
    have := doVs_get h
    have e1 : (k + 1) * 4 = k * 4 + 4 := by omega
    rw [e1]
    exact this
def sameL : List DE → List DE → Bool
  | [], [] => true
  | a :: l, b :: m => sameD a b && sameL l m
  | _, _ => false
theorem sameL_self : ∀ l : List DE, sameL l l = true
  | [] => rfl
  | a :: l => by rw [sameL, sameL_self l, (sameD_iff (a := a) (b := a)).2 rfl]; rfl
end Go.Proofs.YtnecjdhamohadaaGreatDoor
/- The statements' own functions: lists of what tools did, compared. -/
namespace Go.Proofs.YtnecjdhamohadaaGreatDoor
open Go.RowKit Go.Maps Go.Shelf
set_option maxRecDepth 100000
set_option maxHeartbeats 4000000 in
/-- two lists that are one -/
theorem samedo_same (w : World) (A B : Option Addr) (c d : Nat) (l m : List DE) (hlm : l = m) (hl : l.length ≤ 1000000) (hf : ∀ x ∈ l, FitDo x) (ha : Rd w 4 A l.length (doVs l)) (hb : Rd w 4 B m.length (doVs m)) :
    Calls Tryz.prog 20 #[.slice A l.length c, .slice B m.length d] w fun e w' => e = .returned (.bool true) ∧ Below w.heap.size w w' := by
  subst hlm
  obtain ⟨n, hn⟩ : ∃ n, n = l.length := ⟨_, rfl⟩
  rw [← hn] at ha hb hl ⊢
  have HA := hid2 ha
  have HB := hid2 hb
  have HN := hid2 hn
  have HF := hid2 hf
  have hlim : (n : Int) ≤ 1000000 := by omega
  have hnn : ((n : Int) != n) = false := by simp
  clear ha hb hn hf
  go_enter Tryz.func20, Tryz.ntmps20
  go_wp2_with fail
  go_loopg [5] n (fun gk iv wr => Below w.heap.size w wr ∧ ∃ i : Nat, i + gk = n ∧ iv = .int .i64 i)
  case atStart => exact ⟨Below.refl _ _, 0, by omega, rfl⟩
  case round =>
    obtain ⟨hbe, i, hi, rfl⟩ := hrel
    by_cases hlt : i < n
    · have hil : (i : Int) < n := by omega
      have hi0 : (0 : Int) ≤ i := by omega
      obtain ⟨x, hx⟩ : ∃ x, l[i]? = some x := ⟨_, List.getElem?_eq_getElem (by rw [← HN.out]; exact hlt)⟩
      have hfx := HF.out x (List.mem_of_getElem? hx)
      obtain ⟨b1, o1, rfl, hc1⟩ := (HA.out.below_all hbe).2 (by omega)
      obtain ⟨b2, o2, rfl, hc2⟩ := (HB.out.below_all hbe).2 (by omega)
      obtain ⟨kd, hkd⟩ : ∃ kd : Int, kd = x.kind := ⟨_, rfl⟩
      obtain ⟨P0, hP0⟩ : ∃ y, y = strB x.path := ⟨_, rfl⟩
      obtain ⟨D0, hD0⟩ : ∃ y, y = strB x.data := ⟨_, rfl⟩
      obtain ⟨wy, hwy⟩ : ∃ y : Int, y = x.why := ⟨_, rfl⟩
      have hval : doA x = .agg #[.int .i64 kd, .string P0, .string D0, .int .i64 wy] := by rw [hkd, hP0, hD0, hwy]; rfl
      obtain ⟨g0, g1, g2, g3⟩ := doVs_get hx
      rw [← hkd] at g0
      rw [← hP0] at g1
      rw [← hD0] at g2
      rw [← hwy] at g3
      have HC := hid2 (show ∀ w2, Below wr.heap.size wr w2 → (w2.cell? ⟨b1, o1 + i * 4, none⟩ = some (.int .i64 kd) ∧ w2.cell? ⟨b1, o1 + i * 4 + 1, none⟩ = some (.string P0) ∧ w2.cell? ⟨b1, o1 + i * 4 + 2, none⟩ = some (.string D0) ∧ w2.cell? ⟨b1, o1 + i * 4 + 3, none⟩ = some (.int .i64 wy)) ∧ (w2.cell? ⟨b2, o2 + i * 4, none⟩ = some (.int .i64 kd) ∧ w2.cell? ⟨b2, o2 + i * 4 + 1, none⟩ = some (.string P0) ∧ w2.cell? ⟨b2, o2 + i * 4 + 2, none⟩ = some (.string D0) ∧ w2.cell? ⟨b2, o2 + i * 4 + 3, none⟩ = some (.int .i64 wy)) from fun w2 hb => by
        have k1 := World.block_lt_of_cell? _ _ (hc1 _ _ g0)
        have k2 := World.block_lt_of_cell? _ _ (hc2 _ _ g0)
        have c1 : ∀ j u, (doVs l)[j]? = some u → w2.cell? ⟨b1, o1 + j, none⟩ = some u := fun j u hu => (hb.cell (p := ⟨b1, o1 + j, none⟩) k1).trans (hc1 j u hu)
        have c2 : ∀ j u, (doVs l)[j]? = some u → w2.cell? ⟨b2, o2 + j, none⟩ = some u := fun j u hu => (hb.cell (p := ⟨b2, o2 + j, none⟩) k2).trans (hc2 j u hu)
        exact ⟨⟨c1 _ _ g0, c1 _ _ g1, c1 _ _ g2, c1 _ _ g3⟩, ⟨c2 _ _ g0, c2 _ _ g1, c2 _ _ g2, c2 _ _ g3⟩⟩)
      have HQ := hid2 (show ∀ w2, (binOp .neq 35 (.agg #[.int .i64 kd, .string P0, .string D0, .int .i64 wy]) (.agg #[.int .i64 kd, .string P0, .string D0, .int .i64 wy])).run Tryz.prog w2 = .ok (.bool false) w2 from fun w2 => by
        rw [← hval, run_neq_do x x hfx hfx w2, sameD_iff.2 rfl]
        rfl)
      have HBE := hid2 hbe
      have HI := hid2 hi
      clear hx hfx hc1 hc2 hkd hP0 hD0 hwy hval g0 g1 g2 g3 hbe hi
      go_wp2_with fail
      refine wp_region_rel 9 (by kernel_rfl) (by kernel_rfl) (by kernel_rfl) _ rfl (by kernel_rfl) (VV [some (.slice (some ⟨b1, o1, none⟩) n c), some (.int .i64 i), some (.pointer (some ⟨b1, o1 + i * 4, none⟩)), some (.agg #[.int .i64 kd, .string P0, .string D0, .int .i64 wy]), some (.slice (some ⟨b2, o2, none⟩) n d), some (.int .i64 i), some (.pointer (some ⟨b2, o2 + i * 4, none⟩)), some (.agg #[.int .i64 kd, .string P0, .string D0, .int .i64 wy]), some (.bool false)] (fun _ _ _ => False)) (fun w2 => Below wr.heap.size wr w2) (fun a b => Below a.heap.size a b) ((Below.refl _ wr).drew) (fun j v w1 w2 hb hv => VV.keep (fun h => h.elim) hv) ?_ ?_
      · refine of_allOps ⟨?_, ?_, ?_, ?_, ?_, ?_, ?_, ?_, ?_, trivial⟩
        · refine ⟨rfl, fun T2 w2 hM hN hO hE K hK => ?_⟩
          have o0 : T2[0]? = some (.slice (some ⟨b1, o1, none⟩) n c) := hO 0 rfl
          clear hE hO hN
          go_simp
          exact hK _ _ rfl hM (Below.refl _ _)
        · refine ⟨rfl, fun T2 w2 hM hN hO hE K hK => ?_⟩
          have o5 : T2[5]? = some (.int .i64 i) := hO 5 rfl
          clear hE hO hN
          go_simp
          exact hK _ _ rfl hM (Below.refl _ _)
        · refine ⟨rfl, fun T2 w2 hM hN hO hE K hK => ?_⟩
          obtain ⟨v0, h0, e0⟩ := hE ⟨0, .data⟩ (by simp) rfl _ _ rfl rfl
          rw [show v0 = .slice (some ⟨b1, o1, none⟩) n c from e0] at h0
          obtain ⟨v1, h1, e1⟩ := hE ⟨1, .data⟩ (by simp) rfl _ _ rfl rfl
          rw [show v1 = .int .i64 i from e1] at h1
          clear hE hO hN
          go_simp
          exact hK _ _ rfl hM (Below.refl _ _)
        · refine ⟨rfl, fun T2 w2 hM hN hO hE K hK => ?_⟩
          obtain ⟨v2, h2, e2⟩ := hE ⟨2, .data⟩ (by simp) rfl _ _ rfl rfl
          rw [show v2 = .pointer (some ⟨b1, o1 + i * 4, none⟩) from e2] at h2
          clear hE hO hN
          obtain ⟨⟨a0, a1, a2, a3⟩, ⟨d0, d1, d2, d3⟩⟩ := HC.out w2 hM
          go_simp
          exact hK _ _ rfl hM (Below.refl _ _)
        · refine ⟨rfl, fun T2 w2 hM hN hO hE K hK => ?_⟩
          have o1 : T2[1]? = some (.slice (some ⟨b2, o2, none⟩) n d) := hO 1 rfl
          clear hE hO hN
          go_simp
          exact hK _ _ rfl hM (Below.refl _ _)
        · refine ⟨rfl, fun T2 w2 hM hN hO hE K hK => ?_⟩
          have o5 : T2[5]? = some (.int .i64 i) := hO 5 rfl
          clear hE hO hN
          go_simp
          exact hK _ _ rfl hM (Below.refl _ _)
        · refine ⟨rfl, fun T2 w2 hM hN hO hE K hK => ?_⟩
          obtain ⟨v4, h4, e4⟩ := hE ⟨4, .data⟩ (by simp) rfl _ _ rfl rfl
          rw [show v4 = .slice (some ⟨b2, o2, none⟩) n d from e4] at h4
          obtain ⟨v5, h5, e5⟩ := hE ⟨5, .data⟩ (by simp) rfl _ _ rfl rfl
          rw [show v5 = .int .i64 i from e5] at h5
          clear hE hO hN
          go_simp
          exact hK _ _ rfl hM (Below.refl _ _)
        · refine ⟨rfl, fun T2 w2 hM hN hO hE K hK => ?_⟩
          obtain ⟨v6, h6, e6⟩ := hE ⟨6, .data⟩ (by simp) rfl _ _ rfl rfl
          rw [show v6 = .pointer (some ⟨b2, o2 + i * 4, none⟩) from e6] at h6
          clear hE hO hN
          obtain ⟨⟨a0, a1, a2, a3⟩, ⟨d0, d1, d2, d3⟩⟩ := HC.out w2 hM
          go_simp
          exact hK _ _ rfl hM (Below.refl _ _)
        · refine ⟨rfl, fun T2 w2 hM hN hO hE K hK => ?_⟩
          obtain ⟨v3, h3, e3⟩ := hE ⟨3, .data⟩ (by simp) rfl _ _ rfl rfl
          rw [show v3 = .agg #[.int .i64 kd, .string P0, .string D0, .int .i64 wy] from e3] at h3
          obtain ⟨v7, h7, e7⟩ := hE ⟨7, .data⟩ (by simp) rfl _ _ rfl rfl
          rw [show v7 = .agg #[.int .i64 kd, .string P0, .string D0, .int .i64 wy] from e7] at h7
          clear hE hO hN
          have hq := HQ.out w2
          go_simp
          exact hK _ _ rfl hM (Below.refl _ _)
      · intro u w2 hM hF
        have e8 : u 8 = .bool false := hF 8 (by omega)
        clear hF
        simp only [fillAll, Nat.reduceAdd, e8, List.take_succ_cons, List.take_zero, List.drop_succ_cons, List.drop_zero, List.setIfInBounds_toArray, List.set_cons_succ, List.set_cons_zero]
        have hbf := HBE.out.trans (hM.mono HBE.out.size)
        have HBF := hid2 hbf
        clear hM hbf
        go_wp2_with fail
        go_roundg (gk - 1)
        case rel => exact ⟨HBF.out, i + 1, by have := HI.out; omega, by go_num⟩
        case measure => have := HI.out; omega
    · have hil : ¬ (i : Int) < n := by omega
      have HBE := hid2 hbe
      clear hbe hi
      go_wp2_with fail
      refine bodyPost_ret (results_tmp rfl _ _ _) rfl ?_
      exact ⟨rfl, HBE.out⟩
end Go.Proofs.YtnecjdhamohadaaGreatDoor
