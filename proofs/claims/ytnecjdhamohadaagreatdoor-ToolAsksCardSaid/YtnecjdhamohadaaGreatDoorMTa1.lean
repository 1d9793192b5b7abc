/- The statements' own functions: all that a tool asks for. -/
import Derived.Test.YtnecjdhamohadaaGreatDoorMu
import Derived.Test.YtnecjdhamohadaaGreatDoorMTaP
set_option linter.unusedSimpArgs false
set_option linter.unusedVariables false
namespace Go.Proofs.YtnecjdhamohadaaGreatDoor
open Go.RowKit Go.Maps Go.Shelf
set_option maxRecDepth 100000
theorem reads_len (E : List DE) : (readsOf E).length ≤ E.length := by
  unfold readsOf
  rw [List.length_map]
  exact List.length_filter_le _ _
section
variable {P : Program} {w : World}
theorem wpList_append_twol {ops : Array Oper} {rest : List Oper} {a : Act} {Q : Exit → Act → World → Prop} {dst : Option Tmp} {tt : TypeId} {s x : Operand} {t u : TypeId} {pos : String} {after : Array Edge}
    (e : TypeId) (z : Value) (sz bytes : Nat) (ht : P.underlying t = some (.slice e)) (hi : (P.info? e).map (fun i => (i.zero, i.size, i.bytes)) = some (some z, sz, bytes)) (hzs : z.cells.size = sz)
    (base : Nat) (A : Option Addr) (n c : Nat) (xs : List Value) (hown : Own w base e sz A n c xs)
    (m : Nat) (news : List Value) (v : Value) (hsrc : Src P w u sz v m news) (h1 : ∀ v ∈ news, v.oneCell' = true)
    (h63 : n + m ≤ maxLen) (hbytes : (n + m) * bytes ≤ 140737488355328) (hbase : base ≤ w.heap.size) (hsx : a.eval s = .slice A n c ∧ a.eval x = v)
    (h : ∀ A' c' w', Own w' base e sz A' (n + m) c' (xs ++ news) → w.grownBy w' (blockOf A) → ((A' = A ∧ c' = c) ∨ (blockOf A' = some w.heap.size ∧ Below w.heap.size w w')) → wpList P ops Q rest (a.put dst (.slice A' (n + m) c')) w') :
    wpList P ops Q (⟨dst, .call ⟨.builtin .append, #[s, x], #[t, u]⟩, tt, pos, after, none⟩ :: rest) a w := by
  refine wpList_plain rfl fun _ hK => ?_
  obtain ⟨i, hi0, hz, hsz, hby⟩ := info_parts hi
  obtain ⟨A', c', w', hr, h2, h3, h4⟩ := run_append_two (P := P) t u tt e i z sz bytes ht hi0 hz hsz hby hzs hown hsrc h1 h63 hbytes hbase
  unfold Oper.wp execOp
  simp only [resolve, invoke, builtin, Sem.run_bind, Sem.run_pure, Result.andThen_ok, List.map_toArray, List.map_cons, List.map_nil, hsx.1, hsx.2, hr]
  exact hK _ _ (h A' c' w' h2 h3 h4)
end
theorem Own.some_of {w : World} {base sz n c : Nat} {t : TypeId} {A : Option Addr} {xs : List Value} (h : Own w base t sz A n c xs) (hc : c ≠ 0) : ∃ b o cur fr, A = some ⟨b, o, none⟩ ∧ base ≤ b ∧ w.heap[b]? = some (.cells cur t fr) ∧ Free fr cur.size ∧ o + c * sz ≤ cur.size ∧ ∀ j, j < n * sz → cur[o + j]? = xs[j]? := by
  rcases h.2.2.2 with ⟨_, e⟩ | ⟨b, o, cur, fr, h⟩
  · exact absurd e hc
  · exact ⟨b, o, cur, fr, h⟩
/-- a row of texts grows that the run does not reach: it has two cells or more, and lies above the run -/
theorem RunAt.grownStr {w w' : World} {L : RLay} {v : Env} {q : Option Nat} {s : PS} {A : Option Addr} {c : Nat} {us : List Value} {row : Option Nat} (h : RunAt w L v q s A c us) (hg : w.grownBy w' row) (hrow : ∀ b, row = some b → ∃ cs fr, w.heap[b]? = some (.cells cs 9 fr) ∧ 2 ≤ cs.size ∧ L.R < b) : RunAt w' L v q s A c us := by
  cases row with
  | none => exact h.below ⟨hg.os, hg.tape, hg.output, hg.size, fun k hk => hg.block k hk (by simp)⟩
  | some b =>
    obtain ⟨cs, fr, hb, hb2, hbR⟩ := hrow b rfl
    have hc : ∀ (g : Nat) (cs' : Array Value) (t : TypeId) (fr' : Nat × Nat), w.heap[g]? = some (.cells cs' t fr') → (t ≠ 9 ∨ cs'.size < 2) → w'.heap[g]? = w.heap[g]? := fun g cs' t fr' hgg hne => hg.block g (heap_lt hgg) fun e => by
      cases e
      rw [hb] at hgg
      injection hgg with hgg
      injection hgg with h1 h2
      rcases hne with hne | hne
      · exact hne h2.symm
      · rw [← h1] at hne
        omega
    have cb : ∀ {g : Nat} {cs' : Array Value} {t : TypeId}, CellB w g cs' t → (t ≠ 9 ∨ cs'.size < 2) → CellB w' g cs' t := fun {g cs' t} hx hne => (hc g cs' t _ hx hne).trans hx
    have ow : ∀ {base sz n c : Nat} {t : TypeId} {A : Option Addr} {xs : List Value}, Own w base t sz A n c xs → t ≠ 9 → Own w' base t sz A n c xs := fun {base sz n c t A xs} ho hne => ho.keep fun k hk _ _ => by
      obtain ⟨_, _, cur, fr', hx⟩ := ho.block k hk
      exact hc k cur t fr' hx (.inl hne)
    have owR : ∀ {base sz n c : Nat} {t : TypeId} {A : Option Addr} {xs : List Value}, Own w base t sz A n c xs → (∀ k, blockOf A = some k → k < L.R) → Own w' base t sz A n c xs := fun {base sz n c t A xs} ho hlt => ho.keep fun k hk _ _ => hg.block k (ho.block k hk).2.1 fun e => by
      cases e
      have := hlt _ hk
      omega
    have mp : ∀ {α : Type} {enc : α → Value} {k m : Nat} {M : Tab α}, MapIs w Tryz.prog 9 enc k m M → MapIs w' Tryz.prog 9 enc k m M := fun hM => hM.keep (hg.block _ hM.lt fun e => by cases e; exact hM.isMap hb)
    have mb : ∀ {g : Nat}, MBox w g q → MBox w' g q := fun {g} ⟨m, h1, h2⟩ => ⟨m, h1, cb h2 (.inl (by decide))⟩
    have sb : ∀ {g : Nat} {x : TT}, SBox w g x → SBox w' g x := fun {g x} h1 => cb h1 (.inr (by show (1 : Nat) < 2; decide))
    have db : ∀ {R : Nat} {u : Value} {d : DataF}, DataIs w R q u d → DataIs w' R q u d := fun {R u d} hd => by
      cases d with
      | add => exact hd
      | scan x =>
        obtain ⟨g1, g2, g3, e, h1, h2, h3⟩ := hd
        exact ⟨g1, g2, g3, e, cb h1 (.inl (by decide)), sb h2, mb h3⟩
    have tb : ∀ {R : Nat} {u : Value} {d : DataF}, ThereIs w R q u d → ThereIs w' R q u d := fun {R u d} hd => by
      obtain ⟨g1, g2, v, e, h1, h2, h3⟩ := hd
      exact ⟨g1, g2, v, e, cb h1 (.inl (by decide)), cb h2 (.inl (by decide)), db h3⟩
    have nb : ∀ {R : Nat} {u : Value} {th : ThenE}, ThenIs w R q u th → ThenIs w' R q u th := fun {R u th} hd => by
      cases th with
      | add => exact tb hd
      | try_ =>
        obtain ⟨g1, e, h1⟩ := hd
        exact ⟨g1, e, cb h1 (.inl (by decide))⟩
      | scan x => exact tb hd
    refine ⟨cb h.run (.inl (by decide)), h.base, ow h.row (by decide), fun i t hi => ?_, ow h.env (by decide), ?_, ?_⟩
    · obtain ⟨u, h1, h2⟩ := h.tasks i t hi
      refine ⟨u, h1, ?_⟩
      cases t with
      | cmd c =>
        obtain ⟨g1, g2, e, h1, A, cA, h2, h3, h4⟩ := h2
        exact ⟨g1, g2, e, cb h1 (.inl (by decide)), A, cA, cb h2 (.inl (by decide)), owR h3 h4, h4⟩
      | ans p th =>
        obtain ⟨g1, g2, g3, v, e, h1, h2, h3, h4⟩ := h2
        exact ⟨g1, g2, g3, v, e, cb h1 (.inl (by decide)), nb h2, cb h3 (.inl (by decide)), sb h4⟩
      | line x y =>
        obtain ⟨g1, g2, g3, g4, e, h1, h2, h3, h4⟩ := h2
        exact ⟨g1, g2, g3, g4, e, sb h1, sb h2, cb h3 (.inl (by decide)), mb h4⟩
    · obtain ⟨h1, M, h2, h3⟩ := h.known
      exact ⟨h1, M, mp h2, h3⟩
    · rcases h.seen with h1 | ⟨g, M, h1, h2, h3, h4, h5⟩
      · exact .inl h1
      · exact .inr ⟨g, M, h1, h2, h3, mp h4, h5⟩
def AsksPost (w : World) (v : Env) (U : List KE) (text : TT) (e : Ending) (w' : World) : Prop := ∃ A c D, e = .returned (.slice A (readsOf D).length c) ∧ Own w' w.heap.size 9 1 A (readsOf D).length c (strV (readsOf D)) ∧ DoesIs v U text D ∧ Below w.heap.size w w'
set_option maxHeartbeats 8000000 in
theorem asks_bad (w : World) (v : Env) (U : List KE) (text : TT) (h : Mild v U text) (hl : Lib3 w) (hbad : (checkT mayB text).1 ≠ 0) (EA KA : Option Addr) (n ec kn kc : Nat) :
    Calls Tryz.prog 17 #[.string (strB text), .slice EA n ec, .slice KA kn kc] w (AsksPost w v U text) := by
  have cS := start_bad w v text (by have := h.text; omega) hl.lib hbad EA n ec
  obtain ⟨Pq, hPq⟩ : ∃ Pq : Ending → World → Prop, Pq = AsksPost w v U text := ⟨_, rfl⟩
  obtain ⟨X, hX⟩ : ∃ X, X = strB text := ⟨_, rfl⟩
  obtain ⟨ck, hck⟩ : ∃ ck : Int, ck = ((checkT mayB text).1 : Int) := ⟨_, rfl⟩
  have hck0 : ck ≠ 0 := by omega
  have hckb : (ck == 0) = false := by rw [beq_eq_false_iff_ne]; exact hck0
  have hfin : ∀ w', Below w.heap.size w w' → Pq (.returned (.slice none 0 0)) w' := fun w' hb => by
    rw [hPq]
    exact ⟨none, 0, [], rfl, Own.nil _ _ _ _, .inl ⟨hbad, rfl⟩, hb⟩
  have cS2 : Calls Tryz.prog 11 #[.string X, .slice EA n ec] w fun e w' => e = .returned (.tuple #[.pointer none, .int .i64 ck]) ∧ Below w.heap.size w w' := by
    rw [hX, hck]
    refine cS.mono fun e w' k => ?_
    rcases k with ⟨_, h2, h3⟩ | ⟨h1, _⟩
    · exact ⟨h2, h3⟩
    · exact absurd h1 hbad
  have HF := hid2 hfin
  have CS := hid2 cS2
  rw [← hPq, ← hX]
  clear cS cS2 hfin hPq hX hck h hl hbad
  go_enter Tryz.func17, Tryz.ntmps17
  go_wp2_with (go_at_call 11; refine CS.out.mono ?_; rintro e w1 ⟨rfl, hb⟩; have HB := hid2 hb; clear hb)
  go_loopw [7, 10] (fun o i wr => o = .slice none 0 0 ∧ i = .int .i64 0 ∧ wr = w1) (fun _ _ _ => 0)
  case atStart => exact ⟨rfl, rfl, rfl⟩
  case round =>
    obtain ⟨rfl, rfl, rfl⟩ := hrel
    go_wp2_with fail
    exact HF.out _ HB.out
set_option maxHeartbeats 16000000 in
theorem asks_ok (w : World) (v : Env) (hmay : v.may = mayB) (U : List KE) (text : TT) (h : Mild v U text) (hl : Lib3 w) (hok : (checkT mayB text).1 = 0) (EA KA : Option Addr) (ec kc : Nat) (hre : Rd w 2 EA v.env.length (setV v.env)) (hrk : Rd w 3 KA U.length (kV U)) :
    Calls Tryz.prog 17 #[.string (strB text), .slice EA v.env.length ec, .slice KA U.length kc] w (AsksPost w v U text) := by
  have cS := start_ok w v h.env text (by have := h.text; omega) hl.lib hok EA ec hre
  obtain ⟨start, hst⟩ : ∃ st, st = PS.start (cmdsOf mayB (linesT text)) := ⟨_, rfl⟩
  obtain ⟨Pq, hPq⟩ : ∃ Pq : Ending → World → Prop, Pq = AsksPost w v U text := ⟨_, rfl⟩
  obtain ⟨X, hX⟩ : ∃ X, X = strB text := ⟨_, rfl⟩
  obtain ⟨en, hen⟩ : ∃ en, en = v.env.length := ⟨_, rfl⟩
  obtain ⟨kn, hkn⟩ : ∃ kn, kn = U.length := ⟨_, rfl⟩
  have cS2 : Calls Tryz.prog 11 #[.string X, .slice EA en ec] w fun e w' => ∃ L : RLay, e = .returned (.tuple #[.pointer (some ⟨L.R, 0, none⟩), .int .i64 0]) ∧ L.B = w.heap.size ∧ RunIs w' L v none start ∧ Below w.heap.size w w' := by
    rw [hX, hen, hst]
    refine cS.mono fun e w' k => ?_
    rcases k with ⟨h1, _⟩ | ⟨_, L, h2, h3, h4, h5⟩
    · exact absurd hok h1
    · refine ⟨L, h2, h3, h4, ?_⟩
      have := h5.below
      rwa [h3] at this
  have CS := hid2 cS2
  have HST := hid2 hst
  have HPQ := hid2 hPq
  have HMI := hid2 h
  have HL := hid2 hl
  have HOK := hid2 hok
  have HRK := hid2 (show ∀ w2, Below w.heap.size w w2 → ∀ p, Calls Tryz.prog 15 #[.slice KA kn kc, .string (strB p)] w2 fun e w' => e = .returned (encK (ansU U p)) ∧ Below w2.heap.size w2 w' from fun w2 hb p => by
    rw [hkn]
    exact answer_any w2 KA kc U h.len (hrk.below_all hb) p)
  rw [← hPq, ← hX, ← hen, ← hkn]
  clear cS cS2 hPq hX hst h hl hok hen hkn hre hrk
  go_enter Tryz.func17, Tryz.ntmps17
  go_wp2_with (go_at_call 11; refine CS.out.mono ?_; rintro e w1 ⟨L, rfl, hLB, hr, hb⟩; have HB1 := hid2 hb; have HR1 := hid2 hr; have HLB := hid2 hLB; clear hb hr hLB)
  obtain ⟨R, hR⟩ : ∃ R, R = L.R := ⟨_, rfl⟩
  rw [← hR]
  have HR := hid2 hR
  clear hR
  have HRS1 := hid2 (show w.heap.size ≤ R from by
    obtain ⟨_, _, _, h⟩ := HR1.out
    have := h.base
    rw [HLB.out] at this
    rw [HR.out]
    exact this)
  go_loopg [7, 10] 2000 (fun gk ov iv wr => ∃ (i n : Nat) (k : Nat) (s : PS) (E : List DE) (q : Option Nat) (A : Option Addr) (c : Nat), i + gk = 2000 ∧ i = E.length ∧ n = (readsOf E).length ∧ iv = .int .i64 i ∧ ov = .slice A n c ∧ mrun v (orc U) k (start, []) = (s, E) ∧ Inv U s ∧ RunIs wr L v q s ∧ Own wr w.heap.size 9 1 A n c (strV (readsOf E)) ∧ (∀ b, blockOf A = some b → R < b) ∧ (n = 0 → c = 0) ∧ Below w.heap.size w wr)
  case atStart => exact ⟨0, 0, 0, start, [], none, none, 0, rfl, rfl, rfl, rfl, rfl, rfl, by rw [HST.out]; exact HMI.out.start HOK.out, HR1.out, Own.nil _ _ _ _, (fun b hb => by cases hb), (fun _ => rfl), HB1.out⟩
  case round =>
    obtain ⟨i, n, k, s, E, q, A, c, hgk, hiE, hnE, rfl, rfl, hmr, hinv, hrun, hown, habv, hzero, hbe⟩ := hrel
    have hfew : i ≤ 900 := by rw [hiE]; rw [HST.out] at hmr; exact HMI.out.few HOK.out hmr
    have hni : (i : Int) < 2000 := by omega
    have hnl : n ≤ i := by rw [hnE, hiE]; exact reads_len E
    obtain ⟨j, hj⟩ := hinv.stands v
    have hSI := hinv.run (v := v) j
    have hcases := hSI.ord.cases hj
    have hlead := run_leads (v := v) (O := orc U) j s E
    obtain ⟨k2, hk2⟩ := hlead
    have hk3 : mrun v (orc U) (k + k2) (start, []) = (s.run v j, E) := by rw [mrun_add, hmr, hk2]
    have cN := next_any wr L v HMI.out.env q s hrun (HL.out.home HLB.out hbe) (fun i => (hinv.run (v := v) i).sound) j hj
    obtain ⟨S, hS⟩ : ∃ S, S = s.run v j := ⟨_, rfl⟩
    rw [← hS] at hSI hcases hk3 cN hj
    obtain ⟨kd, hkd⟩ : ∃ kd : Int, kd = (nextV S).kind := ⟨_, rfl⟩
    obtain ⟨P0, hP0⟩ : ∃ x, x = strB (nextV S).path := ⟨_, rfl⟩
    obtain ⟨D0, hD0⟩ : ∃ x, x = strB (nextV S).data := ⟨_, rfl⟩
    obtain ⟨wy, hwy⟩ : ∃ x : Int, x = (nextV S).why := ⟨_, rfl⟩
    have hdoc : doC (nextV S) = [.int .i64 kd, .string P0, .string D0, .int .i64 wy] := by rw [hkd, hP0, hD0, hwy]; rfl
    have hdoa : doA (nextV S) = .agg #[.int .i64 kd, .string P0, .string D0, .int .i64 wy] := by rw [doA, hdoc]
    have cN2 : Calls Tryz.prog 14 #[.pointer (some ⟨R, 0, none⟩)] wr fun e w' => e = .returned (.agg #[.int .i64 kd, .string P0, .string D0, .int .i64 wy]) ∧ (∃ q, RunIs w' L v q S.next) ∧ TBut L.B wr w' := by
      rw [HR.out, ← hdoa]
      exact cN
    have CN := hid2 cN2
    have HSI := hid2 hSI
    have HCA := hid2 hcases
    have HK3 := hid2 hk3
    have HJ := hid2 hj
    have HDOC := hid2 hdoc
    have HKD := hid2 hkd
    have HP0 := hid2 hP0
    have HOWN := hid2 hown
    have HBE := hid2 hbe
    have HNE := hid2 hnE
    have HIE := hid2 hiE
    have HAB := hid2 habv
    have HZR := hid2 hzero
    have HGK := hid2 hgk
    clear hmr hinv hrun hown hbe hnE hiE habv hzero hgk hfew hj hSI hcases hk2 hk3 cN cN2 hS hkd hP0 hD0 hwy hdoc hdoa
    go_upto_region 7 with (go_at_call 14; refine CN.out.mono ?_; rintro e wn ⟨rfl, ⟨q2, hr2⟩, hb2⟩; have HR2 := hid2 hr2; have HB2 := hid2 hb2; clear hr2 hb2 CN)
    obtain ⟨wx, hwx⟩ : ∃ wx, wx = wn.alloc (.cells #[.int .i64 kd, .string P0, .string D0, .int .i64 wy] 35) := ⟨_, rfl⟩
    have hbx : Below wn.heap.size wn wx := by rw [hwx]; exact (Below.refl _ _).alloc (Nat.le_refl _) _
    have hdx : wx.heap[wn.heap.size]? = some (.cells #[.int .i64 kd, .string P0, .string D0, .int .i64 wy] 35 (0, 0)) := by rw [hwx]; exact World.alloc_heap_new wn _
    have hbn : Below w.heap.size w wn := by
      have := HB2.out.below
      rw [HLB.out] at this
      exact HBE.out.trans this
    have hown1 : Own wn w.heap.size 9 1 A n c (strV (readsOf E)) := HOWN.out.tbut HB2.out (by decide) (by decide)
    have hdne : blockOf A ≠ some wn.heap.size := fun e => by have := (hown1.block _ e).2.1; omega
    have hownx : Own wx w.heap.size 9 1 A n c (strV (readsOf E)) := hown1.below hbx (Nat.le_refl _)
    have hbxx : Below w.heap.size w wx := hbn.trans (hbx.mono hbn.size)
    obtain ⟨V, hV⟩ : ∃ V, V = strV (readsOf E) := ⟨_, rfl⟩
    rw [← hV] at hownx
    have hr2x : RunIs wx L v q2 S.next := HR2.out.below hbx
    rw [← hwx]
    obtain ⟨g, hg⟩ : ∃ g, g = wn.heap.size := ⟨_, rfl⟩
    rw [← hg] at hdx hdne ⊢
    have y0 : wx.cell? ⟨g, 0, none⟩ = some (.int .i64 kd) := cell_of_row wx g 0 _ _ _ hdx
    have y1 : wx.cell? ⟨g, 1, none⟩ = some (.string P0) := cell_of_row wx g 1 _ _ _ hdx
    have y2 : wx.cell? ⟨g, 2, none⟩ = some (.string D0) := cell_of_row wx g 2 _ _ _ hdx
    have y3 : wx.cell? ⟨g, 3, none⟩ = some (.int .i64 wy) := cell_of_row wx g 3 _ _ _ hdx
    have HDX := hid2 hdx
    have HDN := hid2 hdne
    have HVV := hid2 hV
    have HRX := hid2 hr2x
    have HBXX := hid2 hbxx
    have HOX := hid2 hownx
    have hbsz := hbxx.size
    have HNL := hid2 hnl
    clear hwx hbx hdx hbn hown1 hdne hbxx hV hr2x hg hnl y2 y3 hownx
    rcases HCA.out with ⟨hwt, hov⟩ | ⟨hwt, hov⟩ | ⟨hwt, hov⟩
    · -- it asks
      have hnv : nextV S = ⟨1, S.asks, [], 0⟩ := by rw [nextV, if_pos hwt]
      have hnx : S.next = S := by rw [PS.next, if_pos hwt]
      have hkd1 : kd = 1 := by rw [HKD.out, hnv]; rfl
      have hp0 : P0 = strB S.asks := by rw [HP0.out, hnv]
      have hrx := HRX.out
      rw [hnx] at hrx
      have hone : ∀ u ∈ [Value.string P0], u.oneCell' = true := one_str
      have hgk0 := HGK.out
      have hnl0 := HNL.out
      have hownx := HOX.out
      have hv1 : V ++ [Value.string P0] = strV (readsOf (E ++ [nextV S])) := by rw [HVV.out, hp0, strV_snoc, hnv, readsOf_append]; rfl
      have HV1 := hid2 hv1
      have HNX := hid2 hnx
      have HNV := hid2 hnv
      have HP1 := hid2 hp0
      have HWT := hid2 hwt
      have HOV := hid2 hov
      have HRXX := hid2 hrx
      subst hkd1
      clear hv1 hnx hnv hp0 hwt hov hrx
      go_upto_region 11 with (at_builtin; have _t := hownx; go_must ((with_reducible refine wpList_append_twol 9 (.string ⟨#[]⟩) 1 16 Tryz.underlying32 info_str rfl w.heap.size A n c V (hownx.alloc _) 1 [.string P0] (.slice (some ⟨wx.heap.size, 0, none⟩) 1 1) (Src.slice Tryz.underlying32 (Rd.of_lit wx _ _ 1 1 (by decide) rfl)) hone ?_ ?_ ?_ ?_ ?_); (unfold maxLen; omega); omega; (simp; omega); exact ⟨rfl, rfl⟩; intro A3 c3 w3 hown3 hgr3 htwo3; clear hownx))
      have hba : Below wx.heap.size wx (wx.alloc (.cells #[.string P0] 9)) := (Below.refl _ _).alloc (Nat.le_refl _) _
      have hb3 : Below w.heap.size w w3 := (HBXX.out.trans (hba.mono hbsz)).grown hgr3 (by simp; omega) (fun k e => (HOX.out.block k e).1)
      have hd3 : w3.heap[g]? = some (.cells #[.int .i64 1, .string P0, .string D0, .int .i64 wy] 35 (0, 0)) := (hgr3.block g (by have := heap_lt HDX.out; simp; omega) (fun e => HDN.out e.symm)).trans ((hba.block g (heap_lt HDX.out)).trans HDX.out)
      have hzr3 : c3 ≠ 0 := by have := hown3.2.1; omega
      have habv3 : ∀ b, blockOf A3 = some b → R < b := fun b hb => by
        rcases htwo3 with ⟨rfl, _⟩ | ⟨e, _⟩
        · exact HAB.out b hb
        · rw [e] at hb
          cases hb
          obtain ⟨_, _, _, hra⟩ := HRXX.out
          have := hra.run.lt
          rw [← HR.out] at this
          simp
          omega
      have hr3 : RunIs w3 L v q2 S := by
        obtain ⟨a1, a2, a3, hra⟩ := HRXX.out
        refine ⟨a1, a2, a3, ?_⟩
        rcases htwo3 with ⟨e1, e2⟩ | ⟨_, hbw⟩
        · subst e1 e2
          refine (hra.below hba).grownStr hgr3 fun b e => ?_
          obtain ⟨b', o, cur, fr, e1, _, h1, _, h2, _⟩ := (HOX.out.alloc (.cells #[.string P0] 9)).some_of (show c3 ≠ 0 from hzr3)
          rw [e1] at e
          cases e
          refine ⟨cur, fr, h1, ?_, ?_⟩
          · have h3 := hown3.2.1
            have h4 : n ≠ 0 := fun e => hzr3 (HZR.out e)
            omega
          · rw [← HR.out]
            exact HAB.out _ (by rw [e1]; rfl)
        · exact (hra.below hba).below hbw
      rw [HV1.out] at hown3
      have z0 : w3.cell? ⟨g, 0, none⟩ = some (.int .i64 1) := cell_of_row w3 g 0 _ _ _ hd3
      have z1 : w3.cell? ⟨g, 1, none⟩ = some (.string P0) := cell_of_row w3 g 1 _ _ _ hd3
      have HB3 := hid2 hb3
      have HO3 := hid2 hown3
      have HAB3 := hid2 habv3
      have HZ3 := hid2 hzr3
      have hb3s := hb3.size
      have hwt := HWT.out
      have hov := HOV.out
      have hnv := HNV.out
      have hp0 := HP1.out
      have HR3 := hid2 hr3
      clear hba hb3 hd3 hown3 hgr3 htwo3 y0 y1 _t hone habv3 hzr3 hgk0 hnl0
      have hdat := HMI.out.ans S.asks
      have hal := HSI.out.ord.lim.asks
      have hwts := HSI.out.ord.waits hwt
      have hsound := HSI.out.sound
      have hstill : ∀ m, S.run v m = S := fun m => PS.run_still HJ.out m
      have cA := HRK.out w3 HB3.out S.asks
      have hkeq : ∃ (kb : Bool) (K0 K1 : ByteArray), encK (ansU U S.asks) = .agg #[.string K0, .bool kb, .string K1] := ⟨_, _, _, rfl⟩
      obtain ⟨kb, K0, K1, hke⟩ := hkeq
      rw [← hp0, hke] at cA
      have cG := hid2 (fun (w4 : World) (hb : Below w3.heap.size w3 w4) => show Calls Tryz.prog 16 #[.pointer (some ⟨R, 0, none⟩), .agg #[.string K0, .bool kb, .string K1]] w4 fun e w' => e = .returned (.int .i64 0) ∧ (∃ q, RunIs w' L v q (S.give (nrm (ansU U S.asks)))) ∧ TBut L.B w4 w' from by
        have hg := give_any w4 L v HMI.out.env q2 S (hr3.below hb) (HL.out.home HLB.out (HB3.out.trans (hb.mono hb3s))) (fun i => by rw [hstill]; exact hsound) 0 HJ.out (ansU U S.asks) ⟨by rw [ansU_path]; omega, by omega⟩ (fun _ => hwts.2.1)
        have hgv : PS.gave (S.run v 0) (ansU U S.asks) = (0, S.give (nrm (ansU U S.asks))) := by
          show PS.gave S _ = _
          rw [PS.gave, if_neg (by rw [hwt]; simp), if_neg (by rw [ansU_path]; simp), if_neg (by omega)]
        rw [hke, ptrV, ← HR.out] at hg
        refine hg.mono fun e w' x => ?_
        obtain ⟨x1, x2, x3⟩ := x
        rw [hgv] at x1 x2
        exact ⟨x1, x2, x3⟩)
      have hmr2 : mrun v (orc U) (k + k2 + 1) (start, []) = (S.give (nrm (ansU U S.asks)), E ++ [nextV S]) := by
        rw [mrun_add, HK3.out, hnv]
        unfold mrun mrun mstep
        simp [hov, DE.none, hwt, orc]
      have hinv2 := HSI.out.give hwt (fun p _ => by have := HMI.out.ans p; omega)
      have HMR2 := hid2 hmr2
      have HIN2 := hid2 hinv2
      have CA := hid2 cA
      clear hwt hov hnv hp0 hr3 hdat hal hwts hsound hstill cA hke hmr2 hinv2
      go_wp2_with (first
        | (go_at_call 15; refine CA.out.mono ?_; rintro e w4 ⟨rfl, hb4⟩; have HB4 := hid2 hb4; clear hb4 z0 z1 CA)
        | (go_at_call 16; refine (cG.out w4 HB4.out).mono ?_; rintro e w5 ⟨rfl, ⟨q5, hr5⟩, hb5⟩; have HR5 := hid2 hr5; have HB5 := hid2 hb5; clear hr5 hb5))
      go_roundg (gk - 1)
      case rel =>
        have hb45 := HB5.out.below
        rw [HLB.out] at hb45
        exact ⟨i + 1, n + 1, k + k2 + 1, _, E ++ [nextV S], q5, A3, c3, by have := HGK.out; omega, by rw [List.length_append, ← HIE.out]; rfl, by rw [HNV.out, readsOf_append, List.length_append, ← HNE.out]; rfl, by go_num, rfl, HMR2.out, HIN2.out, HR5.out, ((HO3.out.below HB4.out (Nat.le_refl _)).tbut HB5.out (by decide) (by decide)), HAB3.out, (fun e => absurd e (by omega)), (HB3.out.trans (HB4.out.mono hb3s)).trans hb45⟩
      case measure => have := HGK.out; omega
    · -- it has written
      have hnv : nextV S = S.over := by rw [nextV, if_neg (by rw [hwt]; simp)]
      have hnx : S.next = { S with over := DE.none } := by rw [PS.next, if_neg (by rw [hwt]; simp), if_pos hov]
      have hkd2 : kd = 2 := by rw [HKD.out, hnv, hov]; rfl
      have hr3 := HRX.out
      rw [hnx] at hr3
      have hmr2 : mrun v (orc U) (k + k2 + 1) (start, []) = ({ S with over := DE.none }, E ++ [nextV S]) := by
        rw [mrun_add, HK3.out, hnv]
        unfold mrun mrun mstep
        simp [hov]
      have hinv2 := HSI.out.next
      rw [hnx] at hinv2
      have HMR2 := hid2 hmr2
      have HN1 := hid2 (show (nextV S).kind ≠ 1 from by rw [hnv, hov]; decide)
      have HIN2 := hid2 hinv2
      have HR4 := hid2 hr3
      subst hkd2
      clear hwt hov hnv hnx hr3 hmr2 hinv2
      go_wp2_with fail
      go_roundg (gk - 1)
      case rel => exact ⟨i + 1, n, k + k2 + 1, _, E ++ [nextV S], q2, A, c, by have := HGK.out; omega, by rw [List.length_append, ← HIE.out]; rfl, by rw [reads_other HN1.out]; exact HNE.out, by go_num, rfl, HMR2.out, HIN2.out, HR4.out, by rw [reads_other HN1.out, ← HVV.out]; exact HOX.out, HAB.out, HZR.out, HBXX.out⟩
      case measure => have := HGK.out; omega
    · -- it has ended
      have hnv : nextV S = S.over := by rw [nextV, if_neg (by rw [hwt]; simp)]
      have hkd1 : ¬ kd = 1 := by rw [HKD.out, hnv]; omega
      have hkd2 : ¬ kd = 2 := by rw [HKD.out, hnv]; omega
      have hkb1 : (kd == 1) = false := by rw [beq_eq_false_iff_ne]; exact hkd1
      have hkb2 : (kd == 2) = false := by rw [beq_eq_false_iff_ne]; exact hkd2
      have hkb3 : (kd != 2) = true := by simpa using hkd2
      have hkb4 : (kd != 1) = true := by simpa using hkd1
      have hfin : Pq (.returned (.slice A n c)) wx := by
        have hrd : readsOf (E ++ [nextV S]) = readsOf E := reads_other (by rw [hnv]; omega)
        rw [HPQ.out]
        refine ⟨A, c, E ++ [nextV S], by rw [hrd, ← HNE.out], by rw [hrd, ← HNE.out, ← HVV.out]; exact HOX.out, .inr ⟨HOK.out, k + k2, S, E, ?_, hov, by rw [hnv]⟩, HBXX.out⟩
        rw [← HST.out]
        exact HK3.out
      have HF := hid2 hfin
      clear hwt hov hnv hfin
      go_wp2_with fail
      exact HF.out
theorem asks_any (w : World) (v : Env) (hmay : v.may = mayB) (U : List KE) (text : TT) (h : Mild v U text) (hl : Lib3 w) (EA KA : Option Addr) (ec kc : Nat) (hre : Rd w 2 EA v.env.length (setV v.env)) (hrk : Rd w 3 KA U.length (kV U)) :
    Calls Tryz.prog 17 #[.string (strB text), .slice EA v.env.length ec, .slice KA U.length kc] w (AsksPost w v U text) := by
  by_cases hok : (checkT mayB text).1 = 0
  · exact asks_ok w v hmay U text h hl hok EA KA ec kc hre hrk
  · exact asks_bad w v U text h hl hok EA KA _ ec _ kc
end Go.Proofs.YtnecjdhamohadaaGreatDoor
