/- The walks of SplitSeq at a stroke, and of May. -/
import Derived.Test.YtdhmebilloefjaaDoorPath2
import Derived.Test.YtdhmebilloefjaaDoorRangeF
namespace Go.Proofs.YtdhmebilloefjaaDoor
open Go.RowKit
attribute [local go_sem] Oper.semAt_some
theorem index_self_stroke : Lib.indexByte [47] 47 = 0 := by decide
set_option maxRecDepth 100000 in
theorem sindex_any (w : World) (s : ByteArray) : Calls Tryd.prog 40 #[.string s, .string ⟨#[47]⟩] w fun e w' => e = .returned (.int .i64 (Lib.indexByte s.data.toList 47)) ∧ w' = w := by
  by_cases h : s.toList = [47]
  · have hi : Lib.indexByte s.data.toList 47 = 0 := by rw [← ByteArray.toList_eq, h]; decide
    rw [hi]
    have e1 : (s.toList == [47]) = true := by rw [h]; rfl
    have e2 : ([47] == s.toList) = true := by rw [h]; rfl
    clear h hi
    go_enter Tryd.func40, Tryd.ntmps40
    go_wp2_with fail
    go_ret
    exact ⟨rfl, rfl⟩
  · have e1 : (s.toList == [47]) = false := by simpa using h
    have e2 : ([47] == s.toList) = false := by simpa using fun e => h e.symm
    clear h
    go_enter Tryd.func40, Tryd.ntmps40
    go_wp2_with (go_at_call 42; refine (sbyte_any _ _ _).mono ?_; rintro e w2 ⟨rfl, rfl⟩)
    all_goals go_ret
    all_goals exact ⟨rfl, rfl⟩
theorem index_any (w : World) (s : ByteArray) : Calls Tryd.prog 36 #[.string s, .string ⟨#[47]⟩] w fun e w' => e = .returned (.int .i64 (Lib.indexByte s.data.toList 47)) ∧ w' = w := by
  go_enter Tryd.func36, Tryd.ntmps36
  go_wp2_with (first | (go_at_call 40; refine (sindex_any _ _).mono ?_; rintro e w2 ⟨rfl, rfl⟩))
  go_ret
  exact ⟨rfl, rfl⟩
/-- the world behind SplitSeq: three boxes -/
def splitW (w : World) (s : ByteArray) : World := ((w.alloc (.cells #[.string s] 9)).alloc (.cells #[.string ⟨#[47]⟩] 9)).alloc (.cells #[.int .i64 0] 3)
theorem splitseq_any (w : World) (s : ByteArray) : Calls Tryd.prog 22 #[.string s, .string ⟨#[47]⟩] w fun e w' => e = .returned (.func (.func 34) #[] #[.pointer (some ⟨w.heap.size + 1, 0, none⟩), .pointer (some ⟨w.heap.size, 0, none⟩), .pointer (some ⟨w.heap.size + 1 + 1, 0, none⟩)]) ∧ w' = splitW w s := by
  go_enter Tryd.func22, Tryd.ntmps22
  go_wp2
  go_ret
  exact ⟨rfl, rfl⟩
theorem wide_fn (f : FuncId) : Fence.wide.fn f := trivial
/-- how much is left -/
def leftS (Bs : Nat) (w : World) : Nat := match w.heap[Bs]? with | some (.cells #[.string s] _ _) => s.size | _ => 0
theorem leftS_eq {Bs : Nat} {w : World} {s : ByteArray} {t : TypeId} {fr : Nat × Nat} (h : w.heap[Bs]? = some (.cells #[.string s] t fr)) : leftS Bs w = s.size := by unfold leftS; rw [h]; rfl
theorem setCell_row {w : World} {B : Nat} {v u : Value} {t : TypeId} (h : w.heap[B]? = some (.cells #[v] t (0, 0))) : (w.setCell ⟨B, 0, none⟩ u).heap[B]? = some (.cells #[u] t (0, 0)) := by
  have := setCell_eq_setRow w B 0 #[v] t (0, 0) u h
  rw [this]
  exact setRow_heap w B _ _ t _ h
theorem setCell_other {w : World} {B k : Nat} (u : Value) (hk : k ≠ B) : (w.setCell ⟨B, 0, none⟩ u).heap[k]? = w.heap[k]? := Below.heap_setCell w ⟨B, 0, none⟩ u k hk
theorem cell_of_one' {w : World} {B : Nat} {v : Value} {t : TypeId} (h : w.heap[B]? = some (.cells #[v] t (0, 0))) : w.cell? ⟨B, 0, none⟩ = some v := (cell_of_row w B 0 _ _ _ h).trans rfl
theorem free_of_one' {w : World} {B : Nat} {v : Value} {t : TypeId} (h : w.heap[B]? = some (.cells #[v] t (0, 0))) : w.frozen? ⟨B, 0, none⟩ = false := by simp [World.frozen?, h]
theorem stroke_at (l : List UInt8) : (Lib.indexByte l 47 = -1 ∧ 47 ∉ l) ∨ ∃ a b, l = a ++ 47 :: b ∧ 47 ∉ a ∧ Lib.indexByte l 47 = a.length := by
  rcases Int.lt_or_le (Lib.indexByte l 47) 0 with h | h
  · have h1 : Lib.indexByte l 47 = -1 := by have := Lib.indexByte_ge l 47; omega
    refine .inl ⟨h1, fun hm => ?_⟩
    obtain ⟨k, hk⟩ := List.getElem?_of_mem hm
    exact Lib.indexByte_none h1 k hk
  · obtain ⟨k, hk⟩ : ∃ k : Nat, Lib.indexByte l 47 = k := ⟨(Lib.indexByte l 47).toNat, by omega⟩
    obtain ⟨h1, h2⟩ := Lib.indexByte_some hk
    have hkl : k < l.length := (List.getElem?_eq_some_iff.1 h1).1
    refine .inr ⟨l.take k, l.drop (k + 1), ?_, ?_, ?_⟩
    · have : l[k] = 47 := by simpa [hkl] using h1
      rw [← this, ← List.drop_eq_getElem_cons hkl, List.take_append_drop]
    · intro hm
      obtain ⟨i, hi⟩ := List.getElem?_of_mem hm
      rw [List.getElem?_take] at hi
      split at hi
      · exact h2 i (by assumption) hi
      · cases hi
    · rw [hk, List.length_take]; omega
set_option maxHeartbeats 1000000 in
set_option maxRecDepth 100000 in
/-- the iterator: each part in turn, till a round says 'no more' -/
theorem split_in (n l Bp Bs Bn : Nat) (hn1 : 1 ≤ n) (s : List UInt8) (hsl : s.length ≤ 1000000) (hne : Bp ≠ Bs) (hne2 : Bn ≠ Bs) (J Jx : List (List UInt8) → World → Prop)
    (hJ : ∀ pre W v, J pre W → J pre (W.setCell ⟨Bs, 0, none⟩ v))
    (hY : ∀ pre x W, J pre W → YieldAt Fence.wide (n - 1) Tryd.prog l #[.string (strB x)] W fun e W' =>
      (e = .returned (.bool true) ∧ J (pre ++ [x]) W' ∧ (∀ k, k = Bp ∨ k = Bs ∨ k = Bn → W'.heap[k]? = W.heap[k]?)) ∨ (e = .returned (.bool false) ∧ Jx (pre ++ [x]) W'))
    (W : World) (hp : W.heap[Bp]? = some (.cells #[.string ⟨#[47]⟩] 9 (0, 0))) (hs : W.heap[Bs]? = some (.cells #[.string (strB s)] 9 (0, 0))) (hn : W.heap[Bn]? = some (.cells #[.int .i64 0] 3 (0, 0))) (h0 : J [] W) :
    CallsIn Fence.wide n Tryd.prog 34 #[.func (.yield l) #[] #[], .pointer (some ⟨Bp, 0, none⟩), .pointer (some ⟨Bs, 0, none⟩), .pointer (some ⟨Bn, 0, none⟩)] W fun e W' =>
      (∃ v, e = .returned v) ∧ (J (splitL s) W' ∨ ∃ pre, pre <+: splitL s ∧ Jx pre W') := by
  refine callsIn_of_wp Tryd.func34 rfl trivial ?_ rfl
  simp only [Tryd.ntmps34, List.size_toArray, List.length_cons, List.length_nil, Nat.reduceAdd, Nat.reduceSub, Array.replicate_succ, Array.replicate_zero, List.push_toArray, List.append_toArray, List.nil_append, List.cons_append]
  have cp := cell_of_one' hp
  gi_wp2_with fail
  gi_loopw [] (fun wr => ∃ pre rest, rest.length ≤ s.length ∧ splitL s = pre ++ splitL rest ∧ wr.heap[Bp]? = some (.cells #[.string ⟨#[47]⟩] 9 (0, 0)) ∧ wr.heap[Bs]? = some (.cells #[.string (strB rest)] 9 (0, 0)) ∧ wr.heap[Bn]? = some (.cells #[.int .i64 0] 3 (0, 0)) ∧ J pre wr) (fun wr => leftS Bs wr)
  case atStart => exact ⟨[], s, Nat.le_refl _, rfl, hp, hs, hn, h0⟩
  case round =>
    obtain ⟨pre, rest, hrl, hpre, hp, hs, hn, hJp⟩ := hrel
    have hmeas := leftS_eq hs
    have cp := cell_of_one' hp
    have cs := cell_of_one' hs
    have cn := cell_of_one' hn
    have fs := free_of_one' hs
    have hf := wide_fn 36
    rcases stroke_at rest with ⟨hi, h47⟩ | ⟨a, b, hrest, ha, hi⟩
    · have cI : ∀ w, CallsIn Fence.wide (n - 1) Tryd.prog 36 #[.string (strB rest), .string ⟨#[47]⟩] w fun e w' => e = .returned (.int .i64 (-1)) ∧ w' = w := fun w => by
        have := callsIn_wide (n := n - 1).2 (index_any w (strB rest))
        rw [strB_list, hi] at this
        exact this
      have hsp := splitL_pure h47
      obtain ⟨fn, tmps, assign, body, hy, hR⟩ := hY pre rest wr hJp
      obtain ⟨R, hRR⟩ : ∃ R, R = strB rest := ⟨_, rfl⟩
      rw [← hRR] at cs cI hy
      have HPRE := hid2 hpre
      have HSP := hid2 hsp
      clear hi h47 hRR hp hs hn hpre hsp hmeas
      gi_wp2_with (gi_at_call 36; refine (cI _).mono ?_; rintro e w' ⟨rfl, rfl⟩)
      refine hR.mono ?_
      rintro e W3 (⟨rfl, hJ3, _⟩ | ⟨rfl, hJx3⟩)
      · gi_wp2_with fail
        go_end0
        exact ⟨⟨_, rfl⟩, .inl (by rw [HPRE.out, HSP.out]; exact hJ3)⟩
      · gi_wp2_with fail
        go_end0
        exact ⟨⟨_, rfl⟩, .inr ⟨pre ++ [rest], by rw [HPRE.out, HSP.out]; exact List.prefix_refl _, hJx3⟩⟩
    · have cI : ∀ w, CallsIn Fence.wide (n - 1) Tryd.prog 36 #[.string (strB rest), .string ⟨#[47]⟩] w fun e w' => e = .returned (.int .i64 a.length) ∧ w' = w := fun w => by
        have := callsIn_wide (n := n - 1).2 (index_any w (strB rest))
        rw [strB_list, hi] at this
        exact this
      have hsp : splitL rest = a :: splitL b := by rw [hrest, splitL_append, splitL_pure ha]; rfl
      obtain ⟨fn, tmps, assign, body, hy, hR⟩ := hY pre a wr hJp
      have hsz : (strB rest).size = a.length + 1 + b.length := by rw [strB_size, hrest]; simp; omega
      have hbig : (strB rest).size ≤ 1000000 := by rw [strB_size]; omega
      have hbl : b.length ≤ s.length := by rw [strB_size] at hsz; omega
      have hx1 : (strB rest).extract 0 a.length = strB a := strB_eq (by rw [extract_list, strB_list, hrest]; simp)
      have hx2 : (strB rest).extract (a.length + 1) (strB rest).size = strB b := strB_eq (by rw [hsz, extract_list, strB_list, hrest]; simp)
      obtain ⟨k, hk⟩ : ∃ k, k = a.length := ⟨_, rfl⟩
      rw [← hk] at cI hx1 hx2 hsz
      obtain ⟨R, hRR⟩ : ∃ R, R = strB rest := ⟨_, rfl⟩
      rw [← hRR] at cs cI hx1 hx2 hsz hbig hmeas
      obtain ⟨Fr, hFr⟩ : ∃ Fr, Fr = strB a := ⟨_, rfl⟩
      rw [← hFr] at hy hx1
      obtain ⟨Nx, hNx⟩ : ∃ Nx, Nx = strB b := ⟨_, rfl⟩
      rw [← hNx] at hx2
      have hNs : Nx.size = b.length := by rw [hNx, strB_size]
      have HPRE := hid2 hpre
      have HSP := hid2 hsp
      have HNX := hid2 hNx
      have HRR := hid2 hRR
      have HP := hid2 hp
      have HS := hid2 hs
      have HN := hid2 hn
      have hkR : (k : Int) ≤ R.size := by omega
      have hkR1 : (k : Int) + 1 ≤ R.size := by omega
      have HSZ := hid2 hsz
      have HME := hid2 hmeas
      have HNS := hid2 hNs
      clear hi ha hRR hp hs hn hpre hsp hFr hNx hrest hk hsz hmeas hNs
      gi_wp2_with (gi_at_call 36; refine (cI _).mono ?_; rintro e w' ⟨rfl, rfl⟩)
      refine hR.mono ?_
      clear hR hy
      rintro e W3 (⟨rfl, hJ3, hk3⟩ | ⟨rfl, hJx3⟩)
      · have hp3 := (hk3 Bp (.inl rfl)).trans HP.out
        have hs3 := (hk3 Bs (.inr (.inl rfl))).trans HS.out
        have hn3 := (hk3 Bn (.inr (.inr rfl))).trans HN.out
        rw [← HRR.out] at hs3
        have cp3 := cell_of_one' hp3
        have cs3 := cell_of_one' hs3
        have cn3 := cell_of_one' hn3
        have fs3 := free_of_one' hs3
        have hJ4 := hJ _ _ (.string Nx) hJ3
        have hp4 := (setCell_other (w := W3) (.string Nx) hne).trans hp3
        have hs4 := setCell_row (u := .string Nx) hs3
        have hn4 := (setCell_other (w := W3) (.string Nx) hne2).trans hn3
        have HP4 := hid2 hp4
        have HS4 := hid2 hs4
        have HN4 := hid2 hn4
        clear hk3 hp3 hs3 hn3 hp4 hs4 hn4 cs cp cn fs HP HS HN hJp hJ3
        gi_wp2_with fail
        go_roundw
        case rel =>
          refine ⟨pre ++ [a], b, hbl, ?_, HP4.out, ?_, HN4.out, hJ4⟩
          · rw [HPRE.out, HSP.out]; simp
          · rw [← HNX.out]; exact HS4.out
        case measure =>
          rw [leftS_eq HS4.out, HNS.out, HME.out, HSZ.out]
          omega
      · gi_wp2_with fail
        refine bodyPost_ret (results_none rfl _ _ _) rfl ?_
        exact ⟨⟨_, rfl⟩, .inr ⟨pre ++ [a], by rw [HPRE.out, HSP.out]; exact ⟨splitL b, by simp⟩, hJx3⟩⟩
end Go.Proofs.YtdhmebilloefjaaDoor
