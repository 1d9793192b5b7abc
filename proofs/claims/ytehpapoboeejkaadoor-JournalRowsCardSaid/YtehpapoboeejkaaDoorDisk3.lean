/- The walks of a disk's Names and Crash. -/
import Derived.Test.YtehpapoboeejkaaDoorDisk2
import Derived.Test.YtehpapoboeejkaaDoorIter
import Derived.OwnWalkIn
import Derived.TacticsInMore
import Derived.LoopIn
namespace Go.Proofs.YtehpapoboeejkaaDoor
open Go.RowKit Go.Maps
theorem wide_fn (f : FuncId) : Fence.wide.fn f := trivial
theorem own_of_row {w : World} {base : Nat} {e : TypeId} {v : Value} {n : Nat} {xs : List Value} (h : w.ownsRow base e 1 v n xs) : ∃ A c, v = .slice A n c ∧ Own w base e 1 A n c xs := by
  obtain ⟨hl, ⟨rfl, rfl⟩ | ⟨g, cap, cur, rfl, hb, hg, hn, hm, hc, hx⟩⟩ := h
  · have : xs = [] := List.eq_nil_of_length_eq_zero (by simpa using hl)
    subst this
    exact ⟨none, 0, rfl, Own.nil _ _ _ _⟩
  · refine ⟨some ⟨g, 0, none⟩, cap, rfl, hl, hn, hm, .inr ⟨g, 0, cur, (0, 0), rfl, hb, hg, .inl rfl, by omega, fun j hj => ?_⟩⟩
    rw [Nat.zero_add, ← hx, List.getElem?_take, if_pos hj]; simp
theorem encStr_strB (l : List UInt8) : encStr l = .string (strB l) := rfl
theorem own_base {w : World} {base base' : Nat} {e : TypeId} {A : Option Addr} {n c : Nat} {xs : List Value} (h : Own w base e 1 A n c xs) (hb : base' ≤ base) : Own w base' e 1 A n c xs := h.mono hb
set_option maxHeartbeats 1000000 in
theorem names_any (w : World) (p b n : Nat) (M : Tab FileE) (left : Int) (h : DiskIs w p b n M left) (hn : n ≤ 1000000000) :
    Calls Tryd.prog 28 #[.pointer (some ⟨p, 0, none⟩)] w fun e w' => ∃ A c, e = .returned (.slice A M.length c) ∧ Own w' w.heap.size 9 1 A M.length c (strV (M.map (·.1))) ∧ Below w.heap.size w w' := by
  have hml := h.2.length_le
  have hri := MapIs.rises h.2 (string_keyed Tryd.underlying9)
  have c0 : w.cell? ⟨p, 0, none⟩ = some (.map (some b)) := (cell_of_row w p 0 _ _ _ h.1).trans rfl
  have hmax : Maps.size (mapD M) ≤ maxLen := by rw [size_mapD]; unfold maxLen; omega
  have hbytes : Maps.size (mapD M) * 16 ≤ 140737488355328 := by rw [size_mapD]; omega
  have hown := h.2
  unfold MapIs at hown
  have cK := Tryd.maps_Keys_42 (some b) w
  have cS := Tryd.slices_Sorted_keys_41_42 b n (mapD M) (elemR encFile) w hown hmax hbytes
  have hfK := wide_fn 42
  have hfS := wide_fn 41
  have HRI := hid2 hri
  have HH := hid2 h
  clear hml hri hmax hbytes hown h
  refine (callsIn_wide (n := 6)).1 ?_
  refine callsIn_of_wp Tryd.func28 rfl trivial ?_ rfl
  simp only [Tryd.ntmps28, List.size_toArray, List.length_cons, List.length_nil, Nat.reduceAdd, Nat.reduceSub, Array.replicate_succ, Array.replicate_zero, List.push_toArray, List.append_toArray, List.nil_append, List.cons_append]
  gi_wp2_with (first
    | (gi_at_call 42; refine cK.mono ?_; rintro e w' ⟨rfl, rfl⟩)
    | (gi_at_call 41; refine cS.mono ?_; rintro e w' ⟨v, ss, rfl, hS, hrow, hnil, hb⟩))
  go_ret
  rw [strKeys_mapD] at hS
  have hl : ss.length = M.length := by rw [hS.length_eq, List.length_map]
  rw [sort_rises HRI.out hS, hl] at hrow
  obtain ⟨A, c, rfl, ho⟩ := own_of_row hrow
  refine ⟨A, c, rfl, ?_, ((Below.refl _ w).alloc (Nat.le_refl _) _).trans (hb.mono (by simp))⟩
  exact own_base ho (by simp)
/-- what stays of a file behind a crash, and the picks that are left -/
def crash1 (x : List UInt8 × FileE) (ps : List Int) : (List UInt8 × FileE) × List Int :=
  if x.2.2 < x.2.1.length then
    ((x.1, (x.2.1.take (x.2.2 + ((ps.headD 0) % ((x.2.1.length - x.2.2 : Nat) + 1 : Int)).toNat), x.2.2 + ((ps.headD 0) % ((x.2.1.length - x.2.2 : Nat) + 1 : Int)).toNat)), ps.tail)
  else ((x.1, (x.2.1, x.2.1.length)), ps)
def crashP (M : Tab FileE) (ps : List Int) : Tab FileE × List Int := M.foldl (fun acc x => (acc.1 ++ [(crash1 x acc.2).1], (crash1 x acc.2).2)) ([], ps)
theorem crashP_snoc (M : Tab FileE) (x : List UInt8 × FileE) (ps : List Int) : crashP (M ++ [x]) ps = ((crashP M ps).1 ++ [(crash1 x (crashP M ps).2).1], (crash1 x (crashP M ps).2).2) := by
  simp [crashP, List.foldl_append]
theorem crash1_key (x : List UInt8 × FileE) (ps : List Int) : (crash1 x ps).1.1 = x.1 := by
  unfold crash1
  split <;> rfl
theorem crashP_keys (ps : List Int) (M : Tab FileE) : (crashP M ps).1.map (·.1) = M.map (·.1) := by
  suffices h : ∀ M' : Tab FileE, (crashP M'.reverse.reverse ps).1.map (·.1) = M'.map (·.1) by simpa using h M
  intro M'
  generalize hR : M'.reverse = R
  have hM : M' = R.reverse := by rw [← hR]; simp
  subst hM
  clear hR
  induction R with
  | nil => rfl
  | cons x r ih =>
    rw [List.reverse_cons, crashP_snoc, List.map_append, List.map_append, ih]
    simp [crash1_key]
theorem insM_last {α : Type} (x : List UInt8 × α) : ∀ M : Tab α, (∀ y ∈ M, bytesBefore y.1 x.1 = true) → insM x M = M ++ [x]
  | [], _ => rfl
  | y :: r, h => by
    have hy := h y (by simp)
    have hn : ¬ bytesBefore x.1 y.1 = true := by
      rw [bytesBefore_lt] at hy ⊢
      exact fun e => List.lt_irrefl _ (List.lt_trans hy e)
    rw [insM, if_neg hn, insM_last x r (fun z hz => h z (List.mem_cons_of_mem _ hz))]
    rfl
theorem putM_last {α : Type} (M : Tab α) (k : List UInt8) (a : α) (h : ∀ y ∈ M, bytesBefore y.1 k = true) : putM M k a = M ++ [(k, a)] := by
  have hd : delM M k = M := by
    unfold delM
    rw [List.filter_eq_self]
    intro y hy
    have := h y hy
    simp only [Bool.not_eq_true', beq_eq_false_iff_ne]
    rintro rfl
    rw [bytesBefore_lt] at this
    exact List.lt_irrefl _ this
  rw [putM, hd]
  exact insM_last _ _ h
theorem cell_turn {w w' : World} {b n : Nat} {M : Tab FileE} {k : TypeId} (hm : MapIs w Tryd.prog k encFile b n M) (ht : Turn b w w') {q : Addr} {u : Value} (h : w.cell? q = some u) : w'.cell? q = some u := by
  have hne : q.block ≠ b := by
    intro e
    obtain ⟨es, clock, hb, _⟩ := hm
    unfold World.cell? at h
    rw [e, hb] at h
    cases h
  rw [← h]; unfold World.cell?; rw [ht.2.2.2.2 _ hne]
theorem getM_at {α : Type} {M : Tab α} (hr : Rises M) {k : Nat} {x : List UInt8 × α} (h : M[k]? = some x) : getM M x.1 = some x.2 := by
  induction M generalizing k with
  | nil => simp at h
  | cons y r ih =>
    rw [Rises, List.pairwise_cons] at hr
    cases k with
    | zero =>
      simp only [List.getElem?_cons_zero, Option.some.injEq] at h
      subst h
      simp [getM]
    | succ k =>
      simp only [List.getElem?_cons_succ] at h
      have hlt := hr.1 x (List.mem_of_getElem? h)
      have hne : (y.1 == x.1) = false := by
        rw [beq_eq_false_iff_ne]
        intro e
        rw [e, bytesBefore_lt] at hlt
        exact List.lt_irrefl _ hlt
      have := ih hr.2 h
      unfold getM at this ⊢
      rw [List.find?_cons, hne]
      exact this
/-- ints as cells -/
def intV (l : List Int) : List Value := l.map fun x => .int .i64 x
theorem intV_length (l : List Int) : (intV l).length = l.length := by simp [intV]
theorem crash_step {M : Tab FileE} (hr : Rises M) (ps : List Int) {k : Nat} {x : List UInt8 × FileE} (h : M[k]? = some x) :
    crashP (M.take (k + 1)) ps = ((crashP (M.take k) ps).1 ++ [(crash1 x (crashP (M.take k) ps).2).1], (crash1 x (crashP (M.take k) ps).2).2) ∧
    putM (crashP (M.take k) ps).1 x.1 (crash1 x (crashP (M.take k) ps).2).1.2 = (crashP (M.take k) ps).1 ++ [(crash1 x (crashP (M.take k) ps).2).1] := by
  obtain ⟨hk, hx⟩ := List.getElem?_eq_some_iff.1 h
  refine ⟨by rw [List.take_succ_eq_append_getElem hk, hx, crashP_snoc], ?_⟩
  rw [putM_last]
  · congr 2
    exact Prod.ext (crash1_key x _).symm rfl
  · intro y hy
    have hym : y.1 ∈ (crashP (M.take k) ps).1.map (·.1) := List.mem_map_of_mem hy
    rw [crashP_keys] at hym
    obtain ⟨z, hz, hzy⟩ := List.mem_map.1 hym
    rw [← hzy]
    obtain ⟨i, hi⟩ := List.getElem?_of_mem hz
    rw [List.getElem?_take] at hi
    split at hi
    · rename_i hik
      obtain ⟨hil, hiz⟩ := List.getElem?_eq_some_iff.1 hi
      have := List.pairwise_iff_getElem.1 hr i k hil hk hik
      rw [hx, hiz] at this
      exact this
    · cases hi
theorem keep_arith {u : Nat} {pick : Int} (hu : 0 < u) : ∃ P R : Int, pick.tmod ((u : Int) + 1) = P ∧ -(u : Int) - 1 < P ∧ P < (u : Int) + 1 ∧ (P + u + 1).tmod ((u : Int) + 1) = R ∧ R = pick % ((u : Int) + 1) ∧ 0 ≤ R ∧ R ≤ u := by
  obtain ⟨m, hm⟩ : ∃ m : Int, m = (u : Int) + 1 := ⟨_, rfl⟩
  have h1 : (0 : Int) < m := by omega
  rw [← hm]
  have key : ∃ P : Int, pick.tmod m = P ∧ -m < P ∧ P < m ∧ P % m = pick % m := by
    rcases Int.lt_or_le pick 0 with hp | hp
    · obtain ⟨q, hq⟩ : ∃ q, q = -pick := ⟨_, rfl⟩
      have hpq : pick = -q := by omega
      have hq0 : 0 ≤ q := by omega
      refine ⟨-(q % m), by rw [hpq, Int.neg_tmod, Int.tmod_eq_emod_of_nonneg hq0], ?_, ?_, ?_⟩
      · have := Int.emod_lt_of_pos q h1; omega
      · have := Int.emod_nonneg q (show m ≠ 0 by omega); omega
      · rw [hpq]
        have e : -q = -(q % m) + m * (-(q / m)) := by
          have := Int.emod_add_mul_ediv q m
          rw [Int.mul_neg]; omega
        rw [e, Int.add_mul_emod_self_left]
    · exact ⟨pick % m, Int.tmod_eq_emod_of_nonneg hp, by have := Int.emod_nonneg pick (show m ≠ 0 by omega); omega, Int.emod_lt_of_pos _ h1, Int.emod_emod_of_dvd _ (Int.dvd_refl m)⟩
  obtain ⟨P, h2, h3, h4, h5⟩ := key
  have h6 : P + u + 1 = P + m := by omega
  refine ⟨P, pick % m, h2, by omega, h4, ?_, rfl, Int.emod_nonneg _ (by omega), ?_⟩
  · rw [h6, Int.tmod_eq_emod_of_nonneg (by omega), Int.add_emod_right, h5]
  · have := Int.emod_lt_of_pos pick h1; omega
theorem strB_full (s : ByteArray) : s.extract 0 s.size = s := bytes_ext (by rw [extract_list, List.drop_zero, Nat.sub_zero, List.take_of_length_le (by rw [toList_length]; exact Nat.le_refl _)])
theorem strB_take (d : List UInt8) (n : Nat) : (strB d).extract 0 n = strB (d.take n) := bytes_ext (by rw [extract_list, strB_list, strB_list, List.drop_zero, Nat.sub_zero])
theorem text_cell {w : World} {A : Option Addr} {N : Nat} {L : List (List UInt8)} {p : List UInt8} (hr : Rd w 1 A N (strV L)) {k : Nat} (hp : L[k]? = some p) : ∃ b o, A = some ⟨b, o, none⟩ ∧ w.cell? ⟨b, o + k, none⟩ = some (.string (strB p)) := by
  have hk : k < L.length := (List.getElem?_eq_some_iff.1 hp).1
  obtain ⟨b, o, rfl, hcell⟩ := hr.cell (j := k) (by rw [strV_length]; exact hk)
  refine ⟨b, o, rfl, ?_⟩
  rw [hcell]
  rw [List.getElem?_eq_getElem hk] at hp
  simp [strV, Option.some.inj hp]
/-- between two rounds of Crash -/
structure CInv (w : World) (p b n : Nat) (M : Tab FileE) (left : Int) (A2 : Option Addr) (N p2 b2 : Nat) (ps : List Int) (k : Nat) (A' : Option Addr) (c' : Nat) (rest : List Int) (wr : World) : Prop where
  hc : rest.length ≤ c'
  hl : rest.length ≤ 1000000000
  hr : rest = (crashP (M.take k) ps).2
  rd : Rd wr 1 A' rest.length (intV rest)
  d : DiskIs wr p b n M left
  e : DiskIs wr p2 b2 k (crashP (M.take k) ps).1 (-1)
  names : Rd wr 1 A2 N (strV (M.map (·.1)))
  below : Below w.heap.size w wr
theorem Rd.turn {w w' : World} {b n : Nat} {M : Tab FileE} {A : Option Addr} {N : Nat} {xs : List Value} (h : Rd w 1 A N xs) (hm : MapIs w Tryd.prog 9 encFile b n M) (ht : Turn b w w') : Rd w' 1 A N xs :=
  h.keep fun _ _ _ _ hu => cell_turn hm ht hu
theorem crash_round {w : World} {p b n : Nat} {M : Tab FileE} {left : Int} {A2 : Option Addr} {N p2 b2 : Nat} {ps : List Int} {k : Nat} {A' : Option Addr} {c' : Nat} {rest : List Int} {wr : World}
    (hI : CInv w p b n M left A2 N p2 b2 ps k A' c' rest wr) (hri : Rises M) {x : List UInt8 × FileE} (hx : M[k]? = some x)
    (hge : w.heap.size ≤ p2 ∧ w.heap.size ≤ b2 ∧ p2 ≠ b2 ∧ p ≠ b2 ∧ b ≠ b2 ∧ p ≠ p2 ∧ b ≠ p2) {W w5 : World} (hW : Below wr.heap.size wr W) (hmW : MapIs W.drew Tryd.prog 9 encFile b2 k (crashP (M.take k) ps).1) (ht : Turn b2 W.drew w5)
    {s : List UInt8} (hs : s = x.1) {val : FileE} (hv : val = (crash1 x rest).1.2) (hm5 : MapIs w5 Tryd.prog 9 encFile b2 (k + 1) (putM (crashP (M.take k) ps).1 s val))
    {A'' : Option Addr} {c'' : Nat} {rest' : List Int} (hr' : rest' = (crash1 x rest).2) (hrd : Rd wr 1 A'' rest'.length (intV rest')) (hc : rest'.length ≤ c'') (hl : rest'.length ≤ 1000000000) :
    CInv w p b n M left A2 N p2 b2 ps (k + 1) A'' c'' rest' w5 := by
  obtain ⟨h1, h2⟩ := crash_step hri ps hx
  rw [← hI.hr] at h1 h2
  have hgo : ∀ {A : Option Addr} {n : Nat} {xs : List Value}, Rd wr 1 A n xs → Rd w5 1 A n xs := fun h => by
    have h3 : Rd W 1 _ _ _ := h.below_all hW
    have h4 : Rd W.drew 1 _ _ _ := h3.drew
    exact Rd.turn h4 hmW ht
  have hblk : ∀ j, j < wr.heap.size → j ≠ b2 → w5.heap[j]? = wr.heap[j]? := fun j hj hjb => (ht.2.2.2.2 j hjb).trans (hW.block j hj)
  have hdl := hI.d.lt
  have hel := hI.e.lt
  have hwz := hI.below.size
  refine ⟨hc, hl, by rw [h1]; exact hr', hgo hrd, hI.d.same (hblk _ hdl.1 hge.2.2.2.1) (hblk _ hdl.2 hge.2.2.2.2.1), ⟨(hblk _ hel.1 hge.2.2.1).trans hI.e.1, ?_⟩, hgo hI.names, ?_⟩
  · rw [h1]
    rw [hs, hv, h2] at hm5
    exact hm5
  · refine hI.below.trans ?_
    have hWw : Below w.heap.size wr W := hW.mono hwz
    refine hWw.trans ⟨ht.1, ht.2.1, ht.2.2.1, by rw [ht.2.2.2.1]; exact Nat.le_refl _, fun j hj => ht.2.2.2.2 j (by omega)⟩
/-- what Crash answers -/
def CPost (w : World) (M : Tab FileE) (ps : List Int) (e : Ending) (w' : World) : Prop :=
  ∃ p2 b2, e = .returned (.pointer (some ⟨p2, 0, none⟩)) ∧ DiskIs w' p2 b2 M.length (crashP M ps).1 (-1) ∧ w.heap.size ≤ p2 ∧ w.heap.size ≤ b2 ∧ Below w.heap.size w w'
set_option maxHeartbeats 1000000 in
set_option maxRecDepth 100000 in
theorem crash_any (w : World) (p b n : Nat) (M : Tab FileE) (left : Int) (h : DiskIs w p b n M left) (hn : n ≤ 1000000000) (hC : ∀ x ∈ M, x.1.length ≤ 1000000000 ∧ x.2.1.length ≤ 1000000000 ∧ x.2.2 ≤ x.2.1.length)
    (A : Option Addr) (c : Nat) (ps : List Int) (hr : Rd w 1 A ps.length (intV ps)) (hpc : ps.length ≤ c) (hpl : ps.length ≤ 1000000000) :
    Calls Tryd.prog 10 #[.pointer (some ⟨p, 0, none⟩), .slice A ps.length c] w (CPost w M ps) := by
  have hri := MapIs.rises h.2 (string_keyed Tryd.underlying9)
  have hml := h.2.length_le
  obtain ⟨H, hH⟩ : ∃ H, H = w.heap.size := ⟨_, rfl⟩
  obtain ⟨N, hN⟩ : ∃ N, N = M.length := ⟨_, rfl⟩
  obtain ⟨Q, hQ⟩ : ∃ Q, Q = ps.length := ⟨_, rfl⟩
  have hN' : (N : Int) ≤ 1000000000 := by omega
  have hlt := h.lt
  rw [← hQ] at hr hpc hpl ⊢
  have HD := hid2 h
  have HC := hid2 hC
  have HRI := hid2 hri
  have HN := hid2 hN
  have HQ := hid2 hQ
  have HH := hid2 hH
  have HR := hid2 hr
  have hB := Below.refl w.heap.size w
  clear h hC hri hml hH hN hQ hr
  go_enter Tryd.func10, Tryd.ntmps10
  go_wp2_with (first
    | (go_at_call 5; refine (new_any _).mono ?_; rintro e w1 ⟨rfl, hd1, hb1, hz1⟩; have HD1 := hid2 hd1; have HB1 := hid2 hb1; have hD := HD.out.below hb1 hlt.1 hlt.2; clear hd1 hb1; have hz1' : w.heap.size ≤ w1.heap.size := by omega)
    | (go_at_call 28; refine (names_any _ p b n M left hD hn).mono ?_; rintro e w2 ⟨A2, c2, rfl, ho2, hb2⟩; rw [← HN.out] at ho2; rw [← HN.out]; have hr2 := ho2.rd; have hnc2 := ho2.2.1; have HR2 := hid2 hr2; have HD2 := hid2 (hD.below hb2 (by omega) (by omega)); have HE2 := hid2 (HD1.out.below hb2 (by omega) (by omega)); have HB2 := hid2 (HB1.out.trans (hb2.mono hz1')); clear ho2 hr2 hb2 hD))
  obtain ⟨p2, hp2⟩ : ∃ p2, p2 = w.heap.size + 1 := ⟨_, rfl⟩
  obtain ⟨b2, hb2⟩ : ∃ b2, b2 = w.heap.size := ⟨_, rfl⟩
  have hge : w.heap.size ≤ p2 ∧ w.heap.size ≤ b2 ∧ p2 ≠ b2 ∧ p ≠ b2 ∧ b ≠ b2 ∧ p ≠ p2 ∧ b ≠ p2 := by omega
  rw [← hp2, ← hb2] at HE2
  rw [← hp2]
  clear hp2 hb2 hz1 HD1 HB1 hz1' HD
  go_loopg [1, 16] N (fun gk v i wr => ∃ (k : Nat) (A' : Option Addr) (c' : Nat) (rest : List Int), k + gk = N ∧ i = .int .i64 k ∧ v = .slice A' rest.length c' ∧ CInv w p b n M left A2 N p2 b2 ps k A' c' rest wr)
  case atStart => exact ⟨0, A, c, ps, by omega, rfl, by rw [HQ.out], ⟨by rw [← HQ.out]; exact hpc, by rw [← HQ.out]; exact hpl, rfl, by rw [← HQ.out]; exact HR.out.below HB2.out (fun _ _ h => h), HD2.out, HE2.out, HR2.out, HB2.out⟩⟩
  case round =>
    obtain ⟨k, A', c', rest, hk, rfl, rfl, hinv⟩ := hrel
    by_cases hlt : k < N
    · have hlt' : (k : Int) < N := by omega
      have hkM : k < M.length := by rw [← HN.out]; exact hlt
      obtain ⟨x, hx⟩ : ∃ x, M[k]? = some x := ⟨_, List.getElem?_eq_getElem hkM⟩
      obtain ⟨kx, d, sv⟩ := x
      have hxm := List.mem_of_getElem? hx
      obtain ⟨hk1, hd1, hsvl⟩ := HC.out _ hxm
      simp only at hk1 hd1 hsvl
      have hsvB : (sv : Int) ≤ 1000000000 := by omega
      obtain ⟨S, hS⟩ : ∃ S, S = strB kx := ⟨_, rfl⟩
      obtain ⟨Sd, hSd⟩ : ∃ Sd, Sd = strB d := ⟨_, rfl⟩
      have hSs : S.size ≤ 1000000000 := by rw [hS, strB_size]; exact hk1
      have hSds : Sd.size = d.length := by rw [hSd, strB_size]
      have hSdl : (Sd.size : Int) ≤ 1000000000 := by omega
      have hSl : S.data.toList = kx := by rw [hS, strB_list]
      obtain ⟨ba, oa, rfl, hname⟩ := text_cell hinv.names (k := k) (p := kx) (by rw [List.getElem?_map, hx]; rfl)
      rw [← hS] at hname
      have hlk := hinv.d.look S hSs
      rw [hSl, fileOf, getM_at HRI.out hx, Option.getD_some, encFile_eq (d, sv) Sd sv hSd.symm rfl] at hlk
      have c0 : wr.cell? ⟨p, 0, none⟩ = some (.map (some b)) := (cell_of_row wr p 0 _ _ _ hinv.d.1).trans rfl
      have HI := hid2 hinv
      have HX := hid2 hx
      have HS := hid2 hSl
      have HSD := hid2 hSd
      have HSDS := hid2 hSds
      have hkn : k < 1000000000 := by omega
      have hr := hinv.rd
      have hrc := hinv.hc
      by_cases hu : sv < d.length
      · obtain ⟨u, hu'⟩ : ∃ u, u = d.length - sv := ⟨_, rfl⟩
        have hu0 : 0 < u := by omega
        have hun : IntKind.i64.wrap ((Sd.size : Int) - sv) = (u : Int) := by rw [IntWalk.i64_in _ (by constructor <;> omega)]; omega
        have hun2 : (Sd.size : Int) - sv = u := by omega
        have hw1 : IntKind.i64.wrap ((u : Int) + 1) = (u : Int) + 1 := IntWalk.i64_in _ (by constructor <;> omega)
        have hu0' : (0 : Int) < u := by omega
        have hune : ¬ ((u : Int) + 1 = 0) := by omega
        have huB : (u : Int) ≤ 1000000000 := by omega
        have HU := hid2 hu
        have HU2 := hid2 hu'
        have HSV := hid2 (show (sv : Int) ≤ 1000000000 by omega)
        have hsv0 : (0 : Int) ≤ sv := by omega
        have HSVL := hid2 hsvl
        have HSL := hid2 hSl
        clear hx hxm hSl hS hSd hSds hkM hinv hu hu' hd1 hsvl
        cases rest with
        | nil =>
          go_wp2_with fail
          go_quiet (fail)
          have hcr : crash1 (kx, (d, sv)) [] = ((kx, (d.take sv, sv)), []) := by
            unfold crash1
            rw [if_pos HU.out]
            simp
          have hTs : sv ≤ Sd.size := by rw [HSDS.out]; exact HSVL.out
          obtain ⟨St, hSt⟩ : ∃ St, St = strB (d.take sv) := ⟨_, rfl⟩
          have hx1 : Sd.extract 0 sv = St := by rw [hSt, HSD.out]; exact strB_take d sv
          obtain ⟨val, hval⟩ : ∃ val : FileE, val = (d.take sv, sv) := ⟨_, rfl⟩
          have HVAL : Hid2 (val = (crash1 (kx, (d, sv)) []).1.2) := hid2 (by rw [hcr, hval])
          have HCR := hid2 hcr
          have HENC : Hid2 (encFile val = .agg #[.string St, .int .i64 (sv : Nat)]) := hid2 (encFile_eq val St _ (by rw [hval, hSt]) (by rw [hval]))
          have hTi : (sv : Int) ≤ Sd.size := by omega
          clear hcr hval hSt hTs
          go_wp2_with fail
          obtain ⟨W, hW⟩ : ∃ W, W = (wr.alloc (.cells #[.string Sd, .int .i64 sv] 66)).drewN nq := ⟨_, rfl⟩
          rw [← hW]
          obtain ⟨G, hG⟩ : ∃ G, G = wr.heap.size := ⟨_, rfl⟩
          have hmW : MapIs W Tryd.prog 9 encFile b2 k (crashP (M.take k) ps).1 := by rw [hW]; exact HI.out.e.2.alloc _
          have hrW : W.heap[p2]? = some (.cells #[.map (some b2), .int .i64 (-1)] 44 (0, 0)) := by rw [hW]; exact (Below.heap_alloc _ _ _ HI.out.e.lt.1).trans HI.out.e.1
          have e0 : W.cell? ⟨p2, 0, none⟩ = some (.map (some b2)) := (cell_of_row W p2 0 _ _ _ hrW).trans rfl
          have r8 : W.heap[G]? = some (.cells #[.string Sd, .int .i64 sv] 66 (0, 0)) := by rw [hW, hG]; exact heap_alloc_new wr _
          have l0 : W.cell? ⟨G, 0, none⟩ = some (.string Sd) := (cell_of_row W G 0 _ _ _ r8).trans rfl
          have hbW : Below wr.heap.size wr W := by
            rw [hW]
            have h : Below wr.heap.size wr (wr.alloc (.cells #[.string Sd, .int .i64 sv] 66)) := (Below.refl _ _).alloc (Nat.le_refl _) _
            exact ⟨h.os, h.tape, h.output, h.size, h.block⟩
          have hmWd : MapIs W.drew Tryd.prog 9 encFile b2 k (crashP (M.take k) ps).1 := hmW
          rw [← hG]
          have HMW := hid2 hmWd
          have HBW := hid2 hbW
          clear hW hmW hrW r8 hmWd hbW hG
          go_still_tail 11, (by kernel_rfl)
          change wpList _ _ _ _ _ W.drew
          go_wp2_with (((with_reducible refine wpList_update_map HMW.out encFile_inj Tryd.underlying9 Tryd.underlying42 ?_ S ?_ val ?_ ?_); (unfold maxLen; omega); (unfold maxLen; omega); exact ⟨rfl, rfl, HENC.out.symm⟩; intro w5 hm5 ht5))
          go_roundg (gk - 1)
          case rel => exact ⟨k + 1, A', c', [], by omega, by go_num, rfl, crash_round HI.out HRI.out HX.out hge HBW.out HMW.out ht5 HS.out HVAL.out hm5 (by rw [HCR.out]) hr hrc HI.out.hl⟩
          case measure => omega
        | cons pick rs =>
          obtain ⟨P, R, hP, hP1, hP2, hR, hR1, hR2, hR3⟩ := keep_arith (u := u) (pick := pick) hu0
          obtain ⟨T, hT⟩ : ∃ T : Nat, T = sv + R.toNat := ⟨_, rfl⟩
          have hcr : crash1 (kx, (d, sv)) (pick :: rs) = ((kx, (d.take T, T)), rs) := by
            unfold crash1
            rw [if_pos HU.out, hT, hR1, HU2.out]
            rfl
          have hw2 : IntKind.i64.wrap (P + u) = P + u := IntWalk.i64_in _ (by constructor <;> omega)
          have hw3 : IntKind.i64.wrap (P + u + 1) = P + u + 1 := IntWalk.i64_in _ (by constructor <;> omega)
          have hw4 : IntKind.i64.wrap ((sv : Int) + R) = (T : Int) := by rw [IntWalk.i64_in _ (by constructor <;> omega)]; omega
          have hwP : IntKind.i64.wrap P = P := IntWalk.i64_in _ (by constructor <;> omega)
          have hwR : IntKind.i64.wrap R = R := IntWalk.i64_in _ (by constructor <;> omega)
          have hbA : Below wr.heap.size wr (wr.alloc (.cells #[.string Sd, .int .i64 sv] 66 (0, 0))) := (Below.refl _ _).alloc (Nat.le_refl _) _
          have hrA := hr.below_all hbA
          obtain ⟨bp, op, rfl, hpick⟩ := hrA.cell (j := 0) (by rw [intV_length]; simp)
          clear hbA hrA
          simp only [intV, List.map_cons, List.getElem_cons_zero, Nat.add_zero] at hpick
          have hr' := hr.drop (k := 1) (c := c') (by simp) hrc
          have hlen1 : (1 : Int) ≤ ((pick :: rs).length : Nat) := by simp only [List.length_cons]; omega
          have hlc : (1 : Int) ≤ (c' : Nat) := by simp at hrc; omega
          have hrc2 : rs.length ≤ c' - 1 := by simp only [List.length_cons] at hrc; omega
          have hTs : T ≤ Sd.size := by rw [HSDS.out]; have := HU.out; have := HU2.out; omega
          obtain ⟨St, hSt⟩ : ∃ St, St = strB (d.take T) := ⟨_, rfl⟩
          have hx1 : Sd.extract 0 T = St := by rw [hSt, HSD.out]; exact strB_take d T
          obtain ⟨val, hval⟩ : ∃ val : FileE, val = (d.take T, T) := ⟨_, rfl⟩
          have HVAL : Hid2 (val = (crash1 (kx, (d, sv)) (pick :: rs)).1.2) := hid2 (by rw [hcr, hval])
          have HCR := hid2 hcr
          have HENC : Hid2 (encFile val = .agg #[.string St, .int .i64 (T : Nat)]) := hid2 (encFile_eq val St _ (by rw [hval, hSt]) (by rw [hval]))
          have hTi : (T : Int) ≤ Sd.size := by omega
          have hrl : rs.length ≤ 1000000000 := by have := HI.out.hl; simp only [List.length_cons] at this; omega
          have hP3 : P + u + 1 < 4000000000 := by omega
          have hTe : (sv : Int) + pick % ((u : Int) + 1) = (T : Int) := by rw [← hR1]; omega
          clear hcr hval hSt hTs hT
          by_cases hc1 : c' = 1
          · rw [if_pos hc1] at hr'
            have hr2 : Rd wr 1 (some ⟨bp, op, none⟩) rs.length (intV rs) := hr'
            go_wp2_with fail
            go_quiet (fail)
            go_wp2_with fail
            go_quiet (fail)
            go_wp2_with fail
            rw [World.drewN_drewN]
            rename_i nq0
            obtain ⟨W, hW⟩ : ∃ W, W = (wr.alloc (.cells #[.string Sd, .int .i64 sv] 66)).drewN (nq0 + nq) := ⟨_, rfl⟩
            rw [← hW]
            obtain ⟨G, hG⟩ : ∃ G, G = wr.heap.size := ⟨_, rfl⟩
            have hmW : MapIs W Tryd.prog 9 encFile b2 k (crashP (M.take k) ps).1 := by rw [hW]; exact HI.out.e.2.alloc _
            have hrW : W.heap[p2]? = some (.cells #[.map (some b2), .int .i64 (-1)] 44 (0, 0)) := by rw [hW]; exact (Below.heap_alloc _ _ _ HI.out.e.lt.1).trans HI.out.e.1
            have e0 : W.cell? ⟨p2, 0, none⟩ = some (.map (some b2)) := (cell_of_row W p2 0 _ _ _ hrW).trans rfl
            have r8 : W.heap[G]? = some (.cells #[.string Sd, .int .i64 sv] 66 (0, 0)) := by rw [hW, hG]; exact heap_alloc_new wr _
            have l0 : W.cell? ⟨G, 0, none⟩ = some (.string Sd) := (cell_of_row W G 0 _ _ _ r8).trans rfl
            have hbW : Below wr.heap.size wr W := by
              rw [hW]
              have h : Below wr.heap.size wr (wr.alloc (.cells #[.string Sd, .int .i64 sv] 66)) := (Below.refl _ _).alloc (Nat.le_refl _) _
              exact ⟨h.os, h.tape, h.output, h.size, h.block⟩
            have hmWd : MapIs W.drew Tryd.prog 9 encFile b2 k (crashP (M.take k) ps).1 := hmW
            rw [← hG]
            have HMW := hid2 hmWd
            have HBW := hid2 hbW
            clear hW hmW hrW r8 hmWd hbW hG
            go_still_tail 11, (by kernel_rfl)
            change wpList _ _ _ _ _ W.drew
            go_wp2_with (((with_reducible refine wpList_update_map HMW.out encFile_inj Tryd.underlying9 Tryd.underlying42 ?_ S ?_ val ?_ ?_); (unfold maxLen; omega); (unfold maxLen; omega); exact ⟨rfl, rfl, HENC.out.symm⟩; intro w5 hm5 ht5))
            go_roundg (gk - 1)
            case rel => exact ⟨k + 1, (some ⟨bp, op, none⟩), 0, rs, by omega, by go_num, rfl, crash_round HI.out HRI.out HX.out hge HBW.out HMW.out ht5 HS.out HVAL.out hm5 (by rw [HCR.out]) hr2 (by omega) hrl⟩
            case measure => omega
          · rw [if_neg hc1] at hr'
            have hr2 : Rd wr 1 (some ⟨bp, op + 1, none⟩) rs.length (intV rs) := hr'
            go_wp2_with fail
            go_quiet (fail)
            go_wp2_with fail
            go_quiet (fail)
            go_wp2_with fail
            rw [World.drewN_drewN]
            rename_i nq0
            obtain ⟨W, hW⟩ : ∃ W, W = (wr.alloc (.cells #[.string Sd, .int .i64 sv] 66)).drewN (nq0 + nq) := ⟨_, rfl⟩
            rw [← hW]
            obtain ⟨G, hG⟩ : ∃ G, G = wr.heap.size := ⟨_, rfl⟩
            have hmW : MapIs W Tryd.prog 9 encFile b2 k (crashP (M.take k) ps).1 := by rw [hW]; exact HI.out.e.2.alloc _
            have hrW : W.heap[p2]? = some (.cells #[.map (some b2), .int .i64 (-1)] 44 (0, 0)) := by rw [hW]; exact (Below.heap_alloc _ _ _ HI.out.e.lt.1).trans HI.out.e.1
            have e0 : W.cell? ⟨p2, 0, none⟩ = some (.map (some b2)) := (cell_of_row W p2 0 _ _ _ hrW).trans rfl
            have r8 : W.heap[G]? = some (.cells #[.string Sd, .int .i64 sv] 66 (0, 0)) := by rw [hW, hG]; exact heap_alloc_new wr _
            have l0 : W.cell? ⟨G, 0, none⟩ = some (.string Sd) := (cell_of_row W G 0 _ _ _ r8).trans rfl
            have hbW : Below wr.heap.size wr W := by
              rw [hW]
              have h : Below wr.heap.size wr (wr.alloc (.cells #[.string Sd, .int .i64 sv] 66)) := (Below.refl _ _).alloc (Nat.le_refl _) _
              exact ⟨h.os, h.tape, h.output, h.size, h.block⟩
            have hmWd : MapIs W.drew Tryd.prog 9 encFile b2 k (crashP (M.take k) ps).1 := hmW
            rw [← hG]
            have HMW := hid2 hmWd
            have HBW := hid2 hbW
            clear hW hmW hrW r8 hmWd hbW hG
            go_still_tail 11, (by kernel_rfl)
            change wpList _ _ _ _ _ W.drew
            go_wp2_with (((with_reducible refine wpList_update_map HMW.out encFile_inj Tryd.underlying9 Tryd.underlying42 ?_ S ?_ val ?_ ?_); (unfold maxLen; omega); (unfold maxLen; omega); exact ⟨rfl, rfl, HENC.out.symm⟩; intro w5 hm5 ht5))
            go_roundg (gk - 1)
            case rel => exact ⟨k + 1, (some ⟨bp, op + 1, none⟩), (c' - 1), rs, by omega, by go_num, rfl, crash_round HI.out HRI.out HX.out hge HBW.out HMW.out ht5 HS.out HVAL.out hm5 (by rw [HCR.out]) hr2 hrc2 hrl⟩
            case measure => omega
      · obtain ⟨val, hval⟩ : ∃ val : FileE, val = (d, d.length) := ⟨_, rfl⟩
        have hcr : crash1 (kx, (d, sv)) rest = ((kx, (d, d.length)), rest) := by unfold crash1; rw [if_neg hu]
        have HVAL : Hid2 (val = (crash1 (kx, (d, sv)) rest).1.2) := hid2 (by rw [hcr, hval])
        have HCR := hid2 hcr
        have hx1 : Sd.extract 0 Sd.size = Sd := strB_full Sd
        have HENC : Hid2 (encFile val = .agg #[.string Sd, .int .i64 (Sd.size : Nat)]) := hid2 (encFile_eq val Sd _ (by rw [hval, hSd]) (by rw [hval, hSds]))
        have hun2 : (sv : Int) = Sd.size := by omega
        have hun3 : ¬ (0 : Int) < (Sd.size : Int) - sv := by omega
        have HUN2 := hid2 hun2
        have hun4 : (Sd.size : Int) - sv ≤ 0 := by omega
        clear hx hxm hSl hS hSd hSds hkM hinv hu hd1 hcr hval hun2 hsvl hun3
        go_wp2_with fail
        obtain ⟨W, hW⟩ : ∃ W, W = (wr.alloc (.cells #[.string Sd, .int .i64 sv] 66)) := ⟨_, rfl⟩
        rw [← hW]
        obtain ⟨G, hG⟩ : ∃ G, G = wr.heap.size := ⟨_, rfl⟩
        have hmW : MapIs W Tryd.prog 9 encFile b2 k (crashP (M.take k) ps).1 := by rw [hW]; exact HI.out.e.2.alloc _
        have hrW : W.heap[p2]? = some (.cells #[.map (some b2), .int .i64 (-1)] 44 (0, 0)) := by rw [hW]; exact (Below.heap_alloc _ _ _ HI.out.e.lt.1).trans HI.out.e.1
        have e0 : W.cell? ⟨p2, 0, none⟩ = some (.map (some b2)) := (cell_of_row W p2 0 _ _ _ hrW).trans rfl
        have r8 : W.heap[G]? = some (.cells #[.string Sd, .int .i64 sv] 66 (0, 0)) := by rw [hW, hG]; exact heap_alloc_new wr _
        have l0 : W.cell? ⟨G, 0, none⟩ = some (.string Sd) := (cell_of_row W G 0 _ _ _ r8).trans rfl
        have hbW : Below wr.heap.size wr W := by
          rw [hW]
          have h : Below wr.heap.size wr (wr.alloc (.cells #[.string Sd, .int .i64 sv] 66)) := (Below.refl _ _).alloc (Nat.le_refl _) _
          exact ⟨h.os, h.tape, h.output, h.size, h.block⟩
        have hmWd : MapIs W.drew Tryd.prog 9 encFile b2 k (crashP (M.take k) ps).1 := hmW
        rw [← hG]
        have HMW := hid2 hmWd
        have HBW := hid2 hbW
        clear hW hmW hrW r8 hmWd hbW hG
        go_still_tail 11, (by kernel_rfl)
        change wpList _ _ _ _ _ W.drew
        go_wp2_with (((with_reducible refine wpList_update_map HMW.out encFile_inj Tryd.underlying9 Tryd.underlying42 ?_ S ?_ val ?_ ?_); (unfold maxLen; omega); (unfold maxLen; omega); exact ⟨rfl, rfl, HENC.out.symm⟩; intro w5 hm5 ht5))
        go_roundg (gk - 1)
        case rel => exact ⟨k + 1, A', c', rest, by omega, by go_num, rfl, crash_round HI.out HRI.out HX.out hge HBW.out HMW.out ht5 HS.out HVAL.out hm5 (by rw [HCR.out]) hr hrc HI.out.hl⟩
        case measure => omega
    · have hkN : k = N := by omega
      have hlt' : ¬ (k : Int) < N := by omega
      have HI := hid2 hinv
      have HKN := hid2 hkN
      clear hinv hkN hlt
      go_wp2_with fail
      go_ret
      obtain ⟨_, _, _, _, _, hE, _, hB⟩ := HI.out
      refine ⟨p2, b2, rfl, ?_, hge.1, hge.2.1, hB⟩
      rw [HKN.out, HN.out, List.take_of_length_le (Nat.le_refl _)] at hE
      exact hE
end Go.Proofs.YtehpapoboeejkaaDoor
