/- The walk of a hash's Sum. -/
import Derived.Test.YtehpapoboeejkaaDoorSha4
namespace Go.Proofs.YtehpapoboeejkaaDoor.Sha
theorem eight_len (n : Nat) : (eight n).length = 8 := by simp [eight]
theorem tail_len (n : Nat) : (tail n).length = 1 + (119 - n % 64) % 64 + 8 := by
  simp only [tail, List.length_cons, List.length_append, List.length_replicate, eight_len]; omega
/-- what the walk has built is the sum -/
theorem sum_parts (l d : List UInt8) (S : S8) (U : List UInt8) (N z q : Nat) (hN : N = l.length) (hd : d = l.drop (64 * (l.length / 64))) (hS : S = blocks (l.length / 64) start l) (hz : z = (119 - N % 64) % 64)
    (hU : U = d ++ 128 :: (List.replicate z 0 ++ eight (8 * N))) (hq : q = U.length) : out (blocks (q / 64) S U) = sum l := by
  have hU' : U = (whole l).drop (64 * (l.length / 64)) := by
    rw [whole, List.drop_append_of_le_length (by omega), ← hd, hU, hz, hN]; rfl
  have hwl : (whole l).length = l.length + (1 + (119 - l.length % 64) % 64 + 8) := by rw [whole, List.length_append, tail_len]
  have hql : q = (whole l).length - 64 * (l.length / 64) := by rw [hq, hU', List.length_drop]
  have he : (whole l).length / 64 = l.length / 64 + q / 64 := by omega
  rw [sum, he, blocks_add, ← hU', hS]
  congr 2
  exact blocks_congr _ _ _ _ (by rw [whole, List.take_append_of_le_length (by omega)])
end Go.Proofs.YtehpapoboeejkaaDoor.Sha
namespace Go.Proofs.YtehpapoboeejkaaDoor
open Go.RowKit

theorem info_h8 : (Tryd.prog.info? 83).map (·.size) = some 32 := by kernel_rfl
/-- the two first blocks of Sum (the result's, the state's), and what was there -/
structure SumMem (w wr : World) (L : List UInt32) : Prop where
  res : wr.heap[w.heap.size]? = some (.cells (u8s (List.replicate 32 0)).toArray 83 (0, 0))
  st : Words wr (w.heap.size + 1) 105 L
  below : Below w.heap.size w wr
theorem SumMem.size {w wr : World} {L : List UInt32} (h : SumMem w wr L) : w.heap.size + 2 ≤ wr.heap.size := by have := h.st.lt; omega
theorem SumMem.ext {w wr w2 : World} {L : List UInt32} (h : SumMem w wr L) (hb : Below (w.heap.size + 2) wr w2) : SumMem w w2 L :=
  ⟨(hb.block _ (by omega)).trans h.res, (hb.block _ (by omega)).trans h.st, h.below.trans (hb.mono (by omega))⟩
theorem SumMem.grown {w wr w2 : World} {L : List UInt32} {row : Option Nat} (h : SumMem w wr L) (hg : wr.grownBy w2 row) (hr : ∀ k, row = some k → w.heap.size + 2 ≤ k) : SumMem w w2 L := by
  have hs := h.size
  refine h.ext ⟨hg.os, hg.tape, hg.output, hg.size, fun k hk => hg.block k (by omega) (fun e => ?_)⟩
  have := hr k e.symm
  omega
theorem SumMem.alloc {w wr : World} {L : List UInt32} (h : SumMem w wr L) (o : Obj) : SumMem w (wr.alloc o) L := h.ext ((Below.refl _ _).alloc h.size o)
theorem SumMem.start (w : World) (S : Sha.S8) : SumMem w (((w.alloc (.cells (u8s (List.replicate 32 0)).toArray 83)).alloc (.cells (w32s (List.replicate 8 0)).toArray 105)).setRow (w.heap.size + 1) (laid (w32s (List.replicate 8 0)).toArray 0 (w32s S.list))) S.list := by
  have e : laid (w32s (List.replicate 8 0)).toArray 0 (w32s S.list) = (w32s S.list).toArray := laid_all rfl
  rw [e]
  exact ⟨(setRow_other _ _ _ _ (by omega)).trans (heap_alloc2_old w _ _), setRow_heap _ _ _ _ _ _ (heap_alloc2_new w _ _), below_setRow (((Below.refl _ _).alloc (Nat.le_refl _) _).alloc (by simp) _) (by omega) _⟩

theorem one_le : 1 ≤ maxLen := by decide
/-- the tail in its slot v: so far T -/
def TailInv (w wr : World) (S : Sha.S8) (T : List UInt8) (v : Value) : Prop :=
  SumMem w wr S.list ∧ ∃ A c, v = .slice A T.length c ∧ Own wr (w.heap.size + 2) 5 1 A T.length c (u8s T)
theorem TailInv.push {w wr w2 : World} {S : Sha.S8} {T : List UInt8} {A A' : Option Addr} {n c c' : Nat} {o : Obj} {b : UInt8} {x : Int} (hn : n = T.length) (hSM : SumMem w wr S.list) (hown : Own wr (w.heap.size + 2) 5 1 A n c (u8s T))
    (hgr : (wr.alloc o).grownBy w2 (blockOf A)) (hown2 : Own w2 (w.heap.size + 2) 5 1 A' (n + 1) c' (u8s T ++ [.int .u8 x])) (hx : x = b.toNat) : TailInv w w2 S (T ++ [b]) (.slice A' (n + 1) c') := by
  subst hx hn
  rw [u8s_snoc] at hown2
  refine ⟨(hSM.alloc o).grown hgr (fun k e => (hown.block k e).1), A', c', by rw [List.length_append]; rfl, ?_⟩
  rw [List.length_append]
  exact hown2
theorem zeros_snoc (d : List UInt8) (k : Nat) : d ++ 128 :: List.replicate (k + 1) 0 = (d ++ 128 :: List.replicate k 0) ++ [0] := by
  rw [List.replicate_succ', List.append_assoc]; rfl
/-- the byte that is shifted out -/
def byteAt (N j : Nat) : UInt8 := UInt8.ofNat (8 * N / 2 ^ (56 - 8 * j) % 256)
theorem eight_take (N j : Nat) (h : j < 8) : (Sha.eight (8 * N)).take (j + 1) = (Sha.eight (8 * N)).take j ++ [byteAt N j] := by
  have hl : (Sha.eight (8 * N)).length = 8 := by simp [Sha.eight]
  rw [List.take_succ_eq_append_getElem (by omega)]
  congr 2
  simp [Sha.eight, byteAt]
theorem byteAt_int (N j : Nat) : (8 * (N : Int)) / 2 ^ (56 - 8 * j) % 256 = ((byteAt N j).toNat : Int) := by
  rw [byteAt, UInt8.toNat_ofNat']
  have : ((8 * N / 2 ^ (56 - 8 * j) % 256 % 2 ^ 8 : Nat) : Int) = ((8 * N / 2 ^ (56 - 8 * j) % 256 : Nat) : Int) := by
    rw [Nat.mod_eq_of_lt (Nat.mod_lt _ (by decide))]
  rw [this]
  simp
theorem SumMem.take {w wr w2 : World} {S S' : Sha.S8} (h : SumMem w wr S.list) (hg : w2.heap[w.heap.size + 1]? = some (.cells (laid (w32s S.list).toArray 0 (w32s S'.list)) 105 (0, 0))) (hgr : wr.grownBy w2 (some (w.heap.size + 1))) : SumMem w w2 S'.list := by
  have hs := h.size
  rw [show laid (w32s S.list).toArray 0 (w32s S'.list) = (w32s S'.list).toArray from laid_all rfl] at hg
  exact ⟨(hgr.block _ (by omega) (by simp)).trans h.res, hg, h.below.grown hgr (by omega) (fun k e => by injection e with e; omega)⟩
theorem eight_length (n : Nat) : (Sha.eight n).length = 8 := by simp [Sha.eight]
/-- k bytes of what comes out, and zeros -/
def outK (F : Sha.S8) (k : Nat) : List UInt8 := (Sha.out F).take k ++ List.replicate (32 - k) 0
theorem out_length (F : Sha.S8) : (Sha.out F).length = 32 := by simp [Sha.out]
theorem outK_length (F : Sha.S8) (k : Nat) (h : k ≤ 32) : (outK F k).length = 32 := by
  rw [outK, List.length_append, List.length_take, out_length, List.length_replicate]; omega
theorem outK_set (F : Sha.S8) (k : Nat) (h : k < 32) : (outK F k).set k (Sha.byteOf F k) = outK F (k + 1) := by
  have e : (Sha.out F)[k]'(by rw [out_length]; omega) = Sha.byteOf F k := by simp [Sha.out]
  have hl : ((Sha.out F).take k).length = k := by rw [List.length_take, out_length]; omega
  rw [outK, outK, List.set_append_right _ _ (by omega), hl, Nat.sub_self, List.take_succ_eq_append_getElem (by rw [out_length]; omega), e, show 32 - k = (32 - (k + 1)) + 1 by omega, List.replicate_succ, List.append_assoc]
  rfl
theorem outK_full (F : Sha.S8) : outK F 32 = Sha.out F := by
  rw [outK, List.take_of_length_le (by rw [out_length]; omega)]; simp
theorem u8s_set (l : List UInt8) (j : Nat) (b : UInt8) : (u8s l).toArray.setIfInBounds j (.int .u8 b.toNat) = (u8s (l.set j b)).toArray := by
  simp [u8s, List.map_set]
/-- the digest's block while it fills -/
structure OutMem (w wr : World) (F : Sha.S8) (G k : Nat) : Prop where
  mem : SumMem w wr F.list
  out_ : wr.heap[G]? = some (.cells (u8s (outK F k)).toArray 83 (0, 0))
  ge : w.heap.size + 2 ≤ G
theorem OutMem.word {w wr : World} {F : Sha.S8} {G k : Nat} (h : OutMem w wr F G k) (j : Nat) (hj : j < 32) : wr.cell? ⟨w.heap.size + 1, j / 4, none⟩ = some (.int .u32 (F.list.getD (j / 4) 0).toNat) :=
  h.mem.st.cell (by have : F.list.length = 8 := rfl; omega)
theorem OutMem.frozen {w wr : World} {F : Sha.S8} {G k : Nat} (h : OutMem w wr F G k) (j : Nat) : wr.frozen? ⟨G, j, none⟩ = false := frozen_of_row wr G j _ _ h.out_
theorem OutMem.target {w wr : World} {F : Sha.S8} {G k : Nat} (h : OutMem w wr F G k) (j : Nat) (hj : j < 32) : wr.cell? ⟨G, j, none⟩ = some (.int .u8 ((outK F k).getD j 0).toNat) := by
  have hk : (outK F k).length ≥ 32 := by rw [outK, List.length_append, List.length_take, out_length, List.length_replicate]; omega
  exact cell_of_row wr G j _ _ _ h.out_ |>.trans (by rw [List.getElem?_toArray]; exact u8s_get _ (by omega))
theorem info_h8' {l : List UInt8} (h : l.length = 32) : (Tryd.prog.info? 83).map (·.size) = some (u8s l).length := by rw [u8s_length, h]; exact info_h8
theorem fit_h {l : List UInt8} (h : l.length = 32) : 0 + (u8s l).length ≤ (u8s (List.replicate 32 0)).toArray.size := by
  rw [u8s_length, h]; exact Nat.le_refl 32
theorem OutMem.set {w wr : World} {F : Sha.S8} {G k : Nat} (h : OutMem w wr F G k) (hk : k < 32) (v : Int) (hv : v = (Sha.byteOf F k).toNat) : OutMem w (wr.setCell ⟨G, k, none⟩ (.int .u8 v)) F G (k + 1) := by
  subst hv
  have hge := h.ge
  refine ⟨⟨?_, ?_, ?_⟩, ?_, h.ge⟩
  · exact (heap_setCell_other wr _ _ _ (by simp; omega)).trans h.mem.res
  · exact (heap_setCell_other wr _ _ _ (by simp; omega)).trans h.mem.st
  · exact h.mem.below.setCell (by simp; omega) _
  · rw [heap_setCell_same wr G k _ _ _ h.out_, u8s_set, outK_set F k hk]
/-- the byte that comes out of a word -/
theorem byteOf_int (F : Sha.S8) (k : Nat) : (((F.list.getD (k / 4) 0).toNat : Int) / 2 ^ (24 - 8 * (k % 4))) % 256 = ((Sha.byteOf F k).toNat : Int) := by
  have h1 : ∀ (x : UInt32) (m : Nat), m < 4 → ((x >>> (UInt32.ofNat (24 - 8 * m))).toUInt8).toNat = x.toNat / 2 ^ (24 - 8 * m) % 256 := by
    intro x m hm
    rw [UInt32.toNat_toUInt8, UInt32.toNat_shiftRight, Nat.shiftRight_eq_div_pow]
    have : (UInt32.ofNat (24 - 8 * m)).toNat % 32 = 24 - 8 * m := by
      rw [UInt32.toNat_ofNat']
      omega
    rw [this]
  rw [Sha.byteOf, h1 _ _ (Nat.mod_lt _ (by decide))]
  simp
set_option maxRecDepth 100000 in
set_option maxHeartbeats 2000000 in
theorem hsum_any (w : World) (base g : Nat) (l : List UInt8) (h : HashAt w base g l) (hlen : l.length ≤ 70368744177664) :
    Calls Tryd.prog 52 #[.pointer (some ⟨g, 0, none⟩)] w fun e w' => e = .returned (.agg (u8s (Sha.sum l)).toArray) ∧ Below w.heap.size w w' := by
  obtain ⟨hq, hbg, A, c, hg, hown⟩ := h
  have hgl := heap_lt hg
  obtain ⟨m, hm⟩ : ∃ m, m = l.length - 64 * (l.length / 64) := ⟨_, rfl⟩
  obtain ⟨d, hd⟩ : ∃ d, d = l.drop (64 * (l.length / 64)) := ⟨_, rfl⟩
  obtain ⟨S, hS⟩ : ∃ S, S = Sha.blocks (l.length / 64) Sha.start l := ⟨_, rfl⟩
  obtain ⟨N, hN⟩ : ∃ N, N = l.length := ⟨_, rfl⟩
  rw [← hm, ← hS, ← hN] at hg
  rw [← hm, ← hd] at hown
  have hdm : d.length = m := by rw [hd, hm, List.length_drop]
  have hm64 : m < 64 := by omega
  rw [← hN] at hlen
  have HG := hid2 hg
  have HO := hid2 hown
  have HD := hid2 hd
  have HS := hid2 hS
  have HN := hid2 hN
  have HM := hid2 hm
  have HDM := hid2 hdm
  have hds : (⟨d.toArray⟩ : ByteArray).size = m := hdm
  have HMX := hid2 (show (⟨d.toArray⟩ : ByteArray).size ≤ maxLen by rw [hds]; unfold maxLen; omega)
  have HM1 := hid2 (show d.length + 1 ≤ maxLen by rw [hdm]; unfold maxLen; omega)
  have HM2 := hid2 (show (d.length + 1) * 1 ≤ 140737488355328 by rw [hdm]; omega)
  clear hg hown hd hS hN hm hdm hq hds
  go_enter Tryd.func52, Tryd.ntmps52
  go_wp2_with (first
    | ((with_reducible refine wpList_load_lit g 0 _ _ _ ((Below.heap_alloc _ _ _ hgl).trans HG.out) (w32s S.list) (fun j hj => by rw [Nat.zero_add]; exact hash_get _ _ _ _ _ hj) _ Tryd.underlying105 (info_s8 S) ?_ ?_); exact ⟨rfl, rfl⟩; trace "load")
    | ((with_reducible refine wpList_store_lit (w.heap.size + 1) 0 (.agg (w32s S.list).toArray) (w32s S.list) (agg_cells _) (w32s (List.replicate 8 0)).toArray 105 ?_ (info_s8 S) (fit_s8 S) (w32s_one _) ?_ ?_); exact heap_alloc2_new w _ _; exact ⟨rfl, rfl⟩; refine wpList_gen (fun x => SumMem w x S.list) (SumMem.start w S) ?_; intro w1 hSM; have hc8 : w1.cell? ⟨g, 8, none⟩ = some (.slice A m c) := (hSM.below.cell (p := ⟨g, 8, none⟩) hgl).trans (cell_of_row w g 8 _ _ _ HG.out); have hB1 := hSM.below; have hS1 := hSM.size)
    | ((with_reducible refine wpList_to_string_lit 5 A m c d Tryd.underlying54 Tryd.underlying5 Tryd.underlying9 HDM.out (HO.out.rd.below_all hB1) ?_ ?_); exact rfl)
    | ((with_reducible refine wpList_to_bytes_lit 5 (w.heap.size + 2) ⟨d.toArray⟩ Tryd.underlying9 Tryd.underlying54 Tryd.underlying5 hS1 HMX.out ?_ ?_); exact rfl; intro A2 c2 w2 hown0 hbe2 hbl2; have hown2 : Own w2 (w.heap.size + 2) 5 1 A2 d.length c2 (u8s d) := hown0; clear hown0)
    | (at_builtin; have _t := hown2; go_must ((with_reducible refine wpList_append_lit 5 (.int .u8 0) 1 1 Tryd.underlying54 info_u8 rfl (w.heap.size + 2) A2 d.length c2 (u8s d) (hown2.alloc _) 1 [.int .u8 128] (.slice (some ⟨w2.heap.size, 0, none⟩) 1 1) (Src.slice Tryd.underlying54 (Rd.one w2 _ _)) one_int HM1.out HM2.out ?_ ?_ ?_); (simp; have := hbe2.size; omega); exact ⟨rfl, rfl⟩; intro A3 c3 w3 hown3 hgr3 hbl3; clear hown2)))
  have hb2 := hbe2.mono (B' := w.heap.size + 2) hS1
  have hI0 : TailInv w w3 S (d ++ [128]) (.slice A3 (d.length + 1) c3) := TailInv.push rfl (hSM.ext hb2) _t hgr3 hown3 rfl
  have HSM := hid2 hSM
  clear hSM hbe2 hbl2 hgr3 hbl3 hown3 hb2 _t hB1 hS1 hc8
  obtain ⟨z, hz⟩ : ∃ z, z = (119 - N % 64) % 64 := ⟨_, rfl⟩
  have hmN : m = N % 64 := by rw [HM.out, HN.out]; omega
  have hmz : (m + 1 + z) % 64 = 56 := by omega
  have hmz' : ∀ k, k < z → (m + 1 + k) % 64 ≠ 56 := by intro k hk; omega
  have hz64 : z < 64 := by omega
  have HZ := hid2 hz
  have HMZ := hid2 hmz
  have HMZ' := hid2 hmz'
  clear hz hmz hmz' hmN
  go_loopg [4] z (fun gk v wr => ∃ k, k + gk = z ∧ TailInv w wr S (d ++ 128 :: List.replicate k 0) v)
  case atStart => exact ⟨0, by omega, hI0⟩
  case round =>
    clear hI0
    obtain ⟨k, hk, hSM, Ak, ck, rfl, hown⟩ := hrel
    have hTl : (d ++ 128 :: List.replicate k 0).length = m + 1 + k := by
      rw [List.length_append, HDM.out, List.length_cons, List.length_replicate]; omega
    obtain ⟨T, hT⟩ : ∃ T, T = d ++ 128 :: List.replicate k 0 := ⟨_, rfl⟩
    rw [← hT] at hTl hown ⊢
    obtain ⟨n, hn⟩ : ∃ n, n = T.length := ⟨_, rfl⟩
    rw [← hn] at hTl hown ⊢
    have HT := hid2 hT
    have HTL := hid2 hTl
    have HNT := hid2 hn
    clear hT hn
    have hS1 := hSM.size
    by_cases hkz : k < z
    · have htest : ((n : Int) % 64 != 56) = true := by
        have := HMZ'.out k hkz
        rw [bne_iff_ne]; omega
      clear hTl
      go_wp2_with (first
        | (at_builtin; have _t := hown; go_must ((with_reducible refine wpList_append_lit 5 (.int .u8 0) 1 1 Tryd.underlying54 info_u8 rfl (w.heap.size + 2) Ak n ck (u8s T) (hown.alloc _) 1 [.int .u8 0] (.slice (some ⟨wr.heap.size, 0, none⟩) 1 1) (Src.slice Tryd.underlying54 (Rd.one wr _ _)) one_int ?_ ?_ ?_ ?_ ?_); (have := HTL.out; unfold maxLen; omega); (have := HTL.out; omega); (simp; omega); exact ⟨rfl, rfl⟩; intro A3 c3 w3 hown3 hgr3 hbl3; clear hown)))
      go_roundg (gk - 1)
      case rel => exact ⟨k + 1, by omega, by rw [zeros_snoc, ← HT.out]; exact TailInv.push HNT.out hSM _t hgr3 hown3 rfl⟩
      case measure => omega
    · have hkz' : k = z := by omega
      have htest : ((n : Int) % 64 != 56) = false := by
        have := HMZ.out
        rw [bne_eq_false_iff_eq]; omega
      have HKZ := hid2 hkz'
      have hn130 : n ≤ 130 := by omega
      clear hTl hkz' hkz hk
      have hc9 : ∀ wx, SumMem w wx S.list → wx.cell? ⟨g, 9, none⟩ = some (.int .u64 N) := fun wx h => (h.below.cell (p := ⟨g, 9, none⟩) hgl).trans (cell_of_row w g 9 _ _ _ HG.out)
      have HC9 := hid2 hc9
      clear hc9
      go_wp2
      have hI : TailInv w wr S (T ++ (Sha.eight (8 * N)).take 0) (.slice Ak n ck) := by
        rw [List.take_zero, List.append_nil, HNT.out]
        rw [HNT.out] at hown
        exact ⟨hSM, Ak, ck, rfl, hown⟩
      have HSM2 := hid2 hSM
      clear hSM hown hS1
      go_loopg [4, 5] 8 (fun gk v i wr => ∃ j, j + gk = 8 ∧ i = .int .i64 (56 - 8 * (j : Int)) ∧ TailInv w wr S (T ++ (Sha.eight (8 * N)).take j) v)
      case atStart => exact ⟨0, by omega, rfl, hI⟩
      case round =>
        clear hI
        obtain ⟨j, hj, rfl, hSM, Aj, cj, rfl, hown⟩ := hrel
        obtain ⟨U, hU⟩ : ∃ U, U = T ++ (Sha.eight (8 * N)).take j := ⟨_, rfl⟩
        rw [← hU] at hown ⊢
        obtain ⟨q, hq⟩ : ∃ q, q = U.length := ⟨_, rfl⟩
        rw [← hq] at hown ⊢
        have hql : q ≤ n + 8 := by rw [hq, hU, List.length_append, HNT.out, List.length_take]; omega
        have HU := hid2 hU
        have HQ := hid2 hq
        clear hU hq
        have hS1 := hSM.size
        have hc9 := HC9.out wr hSM
        by_cases hj8 : j < 8
        · have hge : (0 : Int) ≤ 56 - 8 * (j : Int) := by omega
          go_wp2_with (first
            | (at_builtin; have _t := hown; go_must ((with_reducible refine wpList_append_lit 5 (.int .u8 0) 1 1 Tryd.underlying54 info_u8 rfl (w.heap.size + 2) Aj q cj (u8s U) (hown.alloc _) 1 [_] (.slice (some ⟨wr.heap.size, 0, none⟩) 1 1) (Src.slice Tryd.underlying54 (Rd.one wr _ _)) one_int ?_ ?_ ?_ ?_ ?_); (unfold maxLen; omega); omega; (simp; omega); exact ⟨rfl, rfl⟩; intro A3 c3 w3 hown3 hgr3 hbl3; clear hown)))
          go_roundg (gk - 1)
          case rel => exact ⟨j + 1, by omega, by go_num, by rw [eight_take N j hj8, ← List.append_assoc, ← HU.out]; exact TailInv.push HQ.out hSM _t hgr3 hown3 (byteAt_int N j)⟩
          case measure => omega
        · have hlt0 : (56 - 8 * (j : Int)) < 0 := by omega
          have hj8' : j = 8 := by omega
          have hW : U = T ++ Sha.eight (8 * N) := by rw [HU.out, hj8', List.take_of_length_le (by rw [eight_length]; omega)]
          have hq64 : q = n + 8 := by rw [HQ.out, hW, List.length_append, eight_length, HNT.out]
          have hq64' : q % 64 = 0 := by
            have h1 := HTL.out
            have h2 := HMZ.out
            have h3 := HKZ.out
            omega
          have HW := hid2 hW
          have HJ := hid2 hj8'
          have HQN := hid2 hq64
          have HQ64 := hid2 hq64'
          clear hW hj8' hq64 hq64' hc9 hj8 hj
          go_wp2
          go_loopg [4] (q / 64) (fun gk v wr => ∃ p, p + gk = q / 64 ∧ SumMem w wr (Sha.blocks p S U).list ∧ ∃ A c, v = .slice A (q - 64 * p) c ∧ Own wr (w.heap.size + 2) 5 1 A (q - 64 * p) c (u8s (U.drop (64 * p))))
          case atStart => exact ⟨0, by omega, hSM, Aj, cj, rfl, hown⟩
          case round =>
            clear hSM hown hS1
            obtain ⟨p, hp, hSM, Ap, cp, rfl, hown⟩ := hrel
            have hS1 := hSM.size
            have hnc := hown.2.1
            by_cases hpq : p < q / 64
            · obtain ⟨b, o, cur, fr, rfl, hbb, hcur, _, hoc, hcx⟩ := hown.at_ (by omega)
              have hUl := HQ.out
              have hsrc : ∀ j, j < 64 → wr.cell? ⟨b, o + j, none⟩ = some (.int .u8 (((U.drop (64 * p)).take 64).getD j 0).toNat) := by
                intro j hj
                rw [cell_of_row wr b _ cur _ _ hcur, hcx j (by omega), u8s_get _ (by rw [List.length_drop]; omega), List.getD_eq_getElem?_getD, List.getD_eq_getElem?_getD, List.getElem?_take, if_pos hj]
              have hbl := heap_lt hcur
              have hst : wr.heap[w.heap.size + 1]? = some (.cells (w32s (Sha.blocks p S U).list).toArray 105 (0, 0)) := hSM.st
              have hbne : b ≠ w.heap.size + 1 := by omega
              obtain ⟨r, hr⟩ : ∃ r, r = q - 64 * p := ⟨_, rfl⟩
              have hr64 : 64 ≤ r := by omega
              have hr64' : (64 : Int) ≤ r := by omega
              rw [← hr] at hown hnc ⊢
              have hc64 : (64 : Int) ≤ cp := by omega
              have HR := hid2 hr
              have HSRC := hid2 hsrc
              have HST := hid2 hst
              have HOWN := hid2 hown
              have HSM3 := hid2 hSM
              clear hr hsrc hst hown hSM hcur hoc hcx hUl
              go_wp2_with fail
              refine (take_any (w.heap.size + 1) _ _ (Sha.blocks p S U) wr HST.out (by decide : 8 ≤ 8) (fun j _ => by rw [List.getElem?_toArray]) b o cp ((U.drop (64 * p)).take 64) hbl HSRC.out).mono ?_
              rintro e w2 ⟨rfl, hg2, hgr⟩
              have hSM2 := SumMem.take (S := Sha.blocks p S U) (S' := Sha.block (Sha.blocks p S U) ((U.drop (64 * p)).take 64)) HSM3.out hg2 hgr
              rw [← Sha.blocks_succ] at hSM2
              have hd := (HOWN.out.grown hgr (fun b' hb' e => by simp [blockOf] at hb'; injection e with e; omega)).drop (k := 64) (by omega)
              rw [Nat.mul_one, ← u8s_drop, List.drop_drop, show 64 * p + 64 = 64 * (p + 1) by omega] at hd
              have HSM4 := hid2 hSM2
              have HD4 := hid2 hd
              clear hg2 hgr hSM2 hd
              by_cases h64 : cp = 64
              · subst h64
                go_wp2
                go_roundg (gk - 1)
                case rel =>
                  refine ⟨p + 1, by omega, HSM4.out, some ⟨b, o, none⟩, 0, by rw [show q - 64 * (p + 1) = 0 by have := HR.out; omega], ?_⟩
                  have hh := HD4.out
                  rw [show q - 64 * (p + 1) = r - 64 by have := HR.out; omega]
                  simpa using hh
                case measure => omega
              · go_wp2
                go_roundg (gk - 1)
                case rel =>
                  refine ⟨p + 1, by omega, HSM4.out, some ⟨b, o + 64, none⟩, cp - 64, by rw [show q - 64 * (p + 1) = r - 64 by have := HR.out; omega], ?_⟩
                  have hh := HD4.out
                  rw [if_neg h64] at hh
                  rw [show q - 64 * (p + 1) = r - 64 by have := HR.out; omega]
                  simpa [addr_add] using hh
                case measure => omega
            · have hpq' : p = q / 64 := by omega
              have HP := hid2 hpq'
              have hS64 : (Sha.blocks p S U).list.length = 8 := rfl
              obtain ⟨r, hr⟩ : ∃ r, r = q - 64 * p := ⟨_, rfl⟩
              have hr0 : ¬ (0 : Int) < r := by have := HQ64.out; omega
              rw [← hr] at hown hnc ⊢
              obtain ⟨F, hF⟩ : ∃ F, F = Sha.blocks p S U := ⟨_, rfl⟩
              rw [← hF] at hSM
              have HF := hid2 hF
              clear hF hS64 hr hown hnc hpq hp hpq'
              go_wp2
              have hD0 : (wr.alloc (.cells (u8s (List.replicate 32 0)).toArray 83)).heap[wr.heap.size]? = some (.cells (u8s (outK F 0)).toArray 83 (0, 0)) := heap_alloc_new wr _
              have hSM5 := hSM.alloc (.cells (u8s (List.replicate 32 0)).toArray 83)
              have hsz5 : wr.heap.size < (wr.alloc (.cells (u8s (List.replicate 32 0)).toArray 83)).heap.size := by simp
              have hOM : OutMem w (wr.alloc (.cells (u8s (List.replicate 32 0)).toArray 83)) F wr.heap.size 0 := ⟨hSM5, hD0, by have := hSM.size; omega⟩
              have hgen : ∃ G, G = wr.heap.size := ⟨_, rfl⟩
              clear hD0 hSM5 hSM
              obtain ⟨G, hG⟩ := hgen
              rw [← hG] at hOM ⊢
              clear hG hsz5
              go_loopw [54] (fun i wx => ∃ k : Nat, k ≤ 32 ∧ i = .int .i64 k ∧ OutMem w wx F G k) (fun i _ => 32 - (intOf i).toNat)
              case atStart => exact ⟨0, by omega, rfl, hOM⟩
              case round =>
                clear hOM
                obtain ⟨k, hk, rfl, hOM⟩ := hrel
                by_cases hlt : k < 32
                · have hcell := hOM.word k hlt
                  have hfr := hOM.frozen k
                  have hct := hOM.target k hlt
                  have hsub : (0 : Int) ≤ 24 - 8 * ((k : Int) % 4) := by omega
                  have HOM := hid2 hOM
                  clear hOM
                  go_wp2
                  go_roundw
                  case rel => exact ⟨k + 1, by omega, by go_num, HOM.out.set hlt _ (by rw [← byteOf_int, List.getD_eq_getElem?_getD])⟩
                  case measure => simp [intOf]; omega
                · have hk32 : k = 32 := by omega
                  have HK := hid2 hk32
                  have h1 := hid2 hOM.out_
                  have h2 := hid2 hOM.mem.res
                  have hb := hid2 hOM.mem.below
                  have hne : w.heap.size ≠ G := by have := hOM.ge; omega
                  have hol := outK_length F k (by omega)
                  have HOL := hid2 hol
                  clear hk32 hk hOM hol
                  go_wp2_with (first
                    | ((with_reducible refine wpList_load_lit G 0 _ _ _ h1.out (u8s (outK F k)) (fun j _ => getElem?_zero_add _ j) _ Tryd.underlying83 (info_h8' HOL.out) ?_ ?_); exact ⟨rfl, rfl⟩)
                    | ((with_reducible refine wpList_store_lit w.heap.size 0 (.agg (u8s (outK F k)).toArray) (u8s (outK F k)) (agg_cells _) _ _ h2.out (info_h8' HOL.out) (fit_h HOL.out) (u8s_one _) ?_ ?_); exact ⟨rfl, rfl⟩))
                  have hr := setRow_heap wr w.heap.size _ (laid (u8s (List.replicate 32 0)).toArray 0 (u8s (outK F k))) _ _ h2.out
                  rw [laid_all (by rw [u8s_length, HOL.out, List.size_toArray, u8s_length, List.length_replicate])] at hr
                  have HR := hid2 hr
                  clear hr
                  have hfin : outK F k = Sha.sum l := by
                    rw [HK.out, outK_full, HF.out, HP.out]
                    refine Sha.sum_parts l d S U N z q HN.out HD.out HS.out HZ.out ?_ HQ.out
                    rw [HW.out, HT.out, HKZ.out, List.append_assoc, List.cons_append]
                  rw [← hfin]
                  refine bodyPost_ret (v := .agg (u8s (outK F k)).toArray) ?_ rfl ⟨rfl, below_setRow hb.out (Nat.le_refl _) _⟩
                  rw [laid_all (by rw [u8s_length, HOL.out, List.size_toArray, u8s_length, List.length_replicate])]
                  exact results_cell_row rfl _ _ w.heap.size 83 _ (0, 0) _ rfl HR.out Tryd.underlying83 rfl (by rw [List.size_toArray]; exact info_h8' HOL.out)
end Go.Proofs.YtehpapoboeejkaaDoor
