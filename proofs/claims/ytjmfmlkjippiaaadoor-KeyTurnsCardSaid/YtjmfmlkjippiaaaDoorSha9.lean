/- The walk of the document's block. -/
import Derived.Test.YtjmfmlkjippiaaaDoorSha8
import Derived.Test.YtjmfmlkjippiaaaDoorReg2
namespace Go.Proofs.YtjmfmlkjippiaaaDoor.Sha
theorem words_step (b : List UInt8) (n : Nat) : words b (n + 1) = words b n ++ [nextWord (words b n) n] := rfl
/-- the first k words of a block -/
def wordsTo (b : List UInt8) (k : Nat) : List UInt32 := if k ≤ 16 then (words b 0).take k else words b (k - 16)
theorem wordsTo_length (b : List UInt8) (k : Nat) : (wordsTo b k).length = k := by
  unfold wordsTo
  split
  · rw [List.length_take, words_length]; omega
  · rw [words_length]; omega
theorem wordsTo_low (b : List UInt8) (k : Nat) (h : k < 16) : wordsTo b (k + 1) = wordsTo b k ++ [wordAt b (4 * k)] := by
  have hl : k < (words b 0).length := by rw [words_length]; omega
  rw [wordsTo, wordsTo, if_pos (by omega), if_pos (by omega), List.take_succ_eq_append_getElem hl]
  congr 2
  simp [words]
theorem wordsTo_high (b : List UInt8) (k : Nat) (h : 16 ≤ k) : wordsTo b (k + 1) = wordsTo b k ++ [nextWord (wordsTo b k) (k - 16)] := by
  have e : wordsTo b k = words b (k - 16) := by
    unfold wordsTo
    split
    · have : k = 16 := by omega
      subst this
      rw [List.take_of_length_le (by rw [words_length]; omega)]
    · rfl
  rw [e, wordsTo, if_neg (by omega), show k + 1 - 16 = (k - 16) + 1 by omega]
  rfl
theorem wordsTo_all (b : List UInt8) : wordsTo b 64 = words b 48 := by rw [wordsTo, if_neg (by omega)]
theorem wordAt_drop (b : List UInt8) (k : Nat) : wordAt (b.drop k) 0 = wordAt b k := by
  simp [wordAt, List.getD_eq_getElem?_getD, List.getElem?_drop]
end Go.Proofs.YtjmfmlkjippiaaaDoor.Sha
namespace Go.Proofs.YtjmfmlkjippiaaaDoor
open Go.RowKit
set_option maxRecDepth 100000
theorem info_u32w : (Tryd.prog.info? 72).map (fun i => (i.zero, i.size, i.bytes)) = some (some (.int .u32 0), 1, 4) := by kernel_rfl
theorem info_w1 : (Tryd.prog.info? 72).map (·.size) = some 1 := by kernel_rfl
/-- a row of words of the call's own in its slot v -/
def WRow (w wr : World) (L : List UInt32) (v : Value) : Prop :=
  Below w.heap.size w wr ∧ ∃ A c, v = .slice A L.length c ∧ Own wr w.heap.size 72 1 A L.length c (w32s L)
theorem w32s_snoc (l : List UInt32) (x : UInt32) : w32s l ++ [.int .u32 x.toNat] = w32s (l ++ [x]) := by simp [w32s, w32]
theorem WRow.push {w wr w2 : World} {L : List UInt32} {A A' : Option Addr} {n m c c' : Nat} {o : Obj} {x : UInt32} {y : Int} (hn : L.length = n) (hb : Below w.heap.size w wr) (hown : Own wr w.heap.size 72 1 A n c (w32s L))
    (hgr : ((wr.drewN m).alloc o).grownBy w2 (blockOf A)) (hown2 : Own w2 w.heap.size 72 1 A' (n + 1) c' (w32s L ++ [.int .u32 y])) (hy : y = x.toNat) : WRow w w2 (L ++ [x]) (.slice A' (n + 1) c') := by
  subst hn hy
  rw [w32s_snoc] at hown2
  refine ⟨((below_drewN hb m).alloc (by exact hb.size) o).grown hgr (by simp; have := hb.size; omega) (fun k e => (hown.block k e).1), A', c', by rw [List.length_append]; rfl, ?_⟩
  rw [List.length_append]
  exact hown2
/-- what is known of operation j of the region that makes the next word: its value; of the last, that it is a row of one word -/
def BlkV (B : Nat) (vals : List Value) (x : Value) (j : Nat) (v : Value) (w2 : World) : Prop :=
  match j == 30 with
  | true => ∃ g, v = .slice (some ⟨g, 0, none⟩) 1 1 ∧ B ≤ g ∧ w2.heap[g]? = some (.cells #[x] 72 (0, 0))
  | false => vals[j]? = some v
theorem BlkV.keep {B : Nat} {vals : List Value} {x : Value} {j : Nat} {v : Value} {w2 w3 : World} (h : BlkV B vals x j v w2) (hb : Below w2.heap.size w2 w3) : BlkV B vals x j v w3 := by
  unfold BlkV at *
  split
  · rename_i hj
    simp only [hj] at h
    obtain ⟨g, h1, h2, h3⟩ := h
    exact ⟨g, h1, h2, (hb.block g (heap_lt h3)).trans h3⟩
  · rename_i hj
    simp only [hj] at h
    exact h
/-- what is known of operation j of a region whose operation N makes a row of one word: its value; of operation N, that it is such a row -/
def BlkN (N B : Nat) (vals : List Value) (x : Value) (j : Nat) (v : Value) (w2 : World) : Prop :=
  match j == N with
  | true => ∃ g, v = .slice (some ⟨g, 0, none⟩) 1 1 ∧ B ≤ g ∧ w2.heap[g]? = some (.cells #[x] 72 (0, 0))
  | false => vals[j]? = some v
theorem BlkN.keep {N B : Nat} {vals : List Value} {x : Value} {j : Nat} {v : Value} {w2 w3 : World} (h : BlkN N B vals x j v w2) (hb : Below w2.heap.size w2 w3) : BlkN N B vals x j v w3 := by
  unfold BlkN at *
  split
  · rename_i hj
    simp only [hj] at h
    obtain ⟨g, h1, h2, h3⟩ := h
    exact ⟨g, h1, h2, (hb.block g (heap_lt h3)).trans h3⟩
  · rename_i hj
    simp only [hj] at h
    exact h
theorem Rd.of_row {w : World} {g : Nat} {v : Value} {t : TypeId} (h : w.heap[g]? = some (.cells #[v] t (0, 0))) : Rd w 1 (some ⟨g, 0, none⟩) 1 [v] := by
  refine ⟨rfl, fun _ => ⟨g, 0, rfl, fun j u hu => ?_⟩⟩
  rw [Nat.zero_add, cell_of_row w g j _ _ _ h]
  simpa using hu
theorem WRow.push2 {w wr w2 : World} {L : List UInt32} {A A' : Option Addr} {n c c' : Nat} {x : UInt32} {y : Int} (hn : L.length = n) (hb : Below w.heap.size w wr) (hown : Own wr w.heap.size 72 1 A n c (w32s L))
    (hgr : wr.grownBy w2 (blockOf A)) (hown2 : Own w2 w.heap.size 72 1 A' (n + 1) c' (w32s L ++ [.int .u32 y])) (hy : y = x.toNat) : WRow w w2 (L ++ [x]) (.slice A' (n + 1) c') := by
  subst hn hy
  rw [w32s_snoc] at hown2
  refine ⟨hb.grown hgr hb.size (fun k e => (hown.block k e).1), A', c', by rw [List.length_append]; rfl, ?_⟩
  rw [List.length_append]
  exact hown2
theorem plus_take (S Z : Sha.S8) (i : Nat) (h : i < 8) : (S.plus Z).list.take (i + 1) = (S.plus Z).list.take i ++ [S.list.getD i 0 + Z.list.getD i 0] := by
  have : i = 0 ∨ i = 1 ∨ i = 2 ∨ i = 3 ∨ i = 4 ∨ i = 5 ∨ i = 6 ∨ i = 7 := by omega
  rcases this with rfl | rfl | rfl | rfl | rfl | rfl | rfl | rfl <;> rfl
section
attribute [local go_sem] w_add w_xor w_and w_not w_shr3 w_shr10 sgn32 max32
set_option maxRecDepth 100000 in
set_option maxHeartbeats 8000000 in
theorem block_any (w : World) (ab ao bb bo c cb : Nat) (S : Sha.S8) (b : List UInt8) (hab : ab < w.heap.size) (hbb : bb < w.heap.size)
    (hA : ∀ j, j < 8 → w.cell? ⟨ab, ao + j, none⟩ = some (.int .u32 (S.list.getD j 0).toNat)) (hB : ∀ j, j < 64 → w.cell? ⟨bb, bo + j, none⟩ = some (.int .u8 (b.getD j 0).toNat)) (hcb : 64 ≤ cb) :
    Calls Tryd.prog 41 #[.slice (some ⟨ab, ao, none⟩) 8 c, .slice (some ⟨bb, bo, none⟩) 64 cb] w fun e w' => ∃ v, e = .returned v ∧ WRow w w' (Sha.block S b).list v := by
  have HA := hid2 hA
  have HB := hid2 hB
  have hcb3 : (64 : Int) ≤ cb := by omega
  clear hA hB
  go_enter Tryd.func41, Tryd.ntmps41
  go_wp2_with (first | (go_at_call 51; refine (ks_any _).mono ?_; rintro e w1 ⟨AK, rfl, hK, hb1⟩))
  have HA1 := hid2 (fun j (hj : j < 8) => (hb1.cell (p := ⟨ab, ao + j, none⟩) hab).trans (HA.out j hj))
  have HB1 := hid2 (fun j (hj : j < 64) => (hb1.cell (p := ⟨bb, bo + j, none⟩) hbb).trans (HB.out j hj))
  have hab1 : ab < w1.heap.size := Nat.lt_of_lt_of_le hab hb1.size
  have hbb1 : bb < w1.heap.size := Nat.lt_of_lt_of_le hbb hb1.size
  have HK := hid2 hK
  have Hb1 := hid2 hb1
  clear HA HB hab hbb hK hb1
  have hI : WRow w1 (w1.alloc (.cells #[] 72)) (Sha.wordsTo b 0) (.slice (some ⟨w1.heap.size, 0, none⟩) 0 0) := ⟨(Below.refl _ _).alloc (Nat.le_refl _) _, _, _, rfl, Own.lit w1 #[] _ 1 0 _ (Nat.le_refl _) (by decide) rfl⟩
  go_loopg [6, 7] 64 (fun gk v i wr => ∃ k : Nat, k + gk = 64 ∧ i = .int .i64 k ∧ WRow w1 wr (Sha.wordsTo b k) v)
  case atStart => exact ⟨0, by omega, rfl, hI⟩
  case round =>
    clear hI
    obtain ⟨k, hk, rfl, hbe, Aw, cw, rfl, hown⟩ := hrel
    rw [Sha.wordsTo_length] at hown ⊢
    have hs1 := hbe.size
    by_cases hlt : k < 16
    · have hlt64 : (k : Int) < 64 := by omega
      have hwl := Sha.wordsTo_length b k
      have hlow := Sha.wordsTo_low b k hlt
      obtain ⟨W, hW⟩ : ∃ W, W = Sha.wordsTo b k := ⟨_, rfl⟩
      rw [← hW] at hown hwl hlow
      have HLOW := hid2 hlow
      have HWL := hid2 hwl
      clear hW hlow hwl
      have hword := fun wx hx => word_any bb (bo + 4 * k) (cb - 4 * k) (b.drop (4 * k)) wx hx
      have hsrc : ∀ j, j < 4 → wr.cell? ⟨bb, bo + 4 * k + j, none⟩ = some (.int .u8 ((b.drop (4 * k)).getD j 0).toNat) := by
        intro j hj
        rw [Nat.add_assoc, (hbe.cell (p := ⟨bb, bo + (4 * k + j), none⟩) hbb1), HB1.out (4 * k + j) (by omega), List.getD_eq_getElem?_getD, List.getD_eq_getElem?_getD, List.getElem?_drop]
      have HSRC := hid2 hsrc
      have HWORD := hid2 hword
      clear hsrc hword
      go_wp2_with (first
        | (go_at_call 52; refine (HWORD.out _ HSRC.out).mono ?_; rintro e w2 ⟨rfl, m, rfl⟩; rw [Sha.wordAt_drop])
        | (at_builtin; have _t := hown; go_must ((with_reducible refine wpList_append_lit 72 (.int .u32 0) 1 4 Tryd.underlying73 info_u32w rfl w1.heap.size Aw k cw (w32s W) ((hown.drewN m).alloc _) 1 [.int .u32 (Sha.wordAt b (4 * k)).toNat] (.slice (some ⟨wr.heap.size, 0, none⟩) 1 1) (Src.slice Tryd.underlying73 (Rd.one (wr.drewN m) _ _)) one_int ?_ ?_ ?_ ?_ ?_); (unfold maxLen; omega); omega; (simp; omega); exact ⟨rfl, rfl⟩; intro A3 c3 w3 hown3 hgr3 hbl3; clear hown)))
      go_roundg (gk - 1)
      case rel =>
        have hp := WRow.push HWL.out hbe _t hgr3 hown3 rfl
        rw [← HLOW.out] at hp
        exact ⟨k + 1, by omega, by go_num, hp⟩
      case measure => omega
    · by_cases hlt64 : k < 64
      · have hwl := Sha.wordsTo_length b k
        have hhigh := Sha.wordsTo_high b k (by omega)
        obtain ⟨W, hW⟩ : ∃ W, W = Sha.wordsTo b k := ⟨_, rfl⟩
        rw [← hW] at hown hwl hhigh
        have HHIGH := hid2 hhigh
        have HWL := hid2 hwl
        obtain ⟨ob, oo, cur, fr, rfl, hobb, hocur, _, hooc, hox⟩ := hown.at_ (by have := hown.2.1; omega)
        have hcell : ∀ j, j < k → wr.cell? ⟨ob, oo + j, none⟩ = some (.int .u32 (W.getD j 0).toNat) := by
          intro j hj
          rw [cell_of_row wr ob _ cur _ _ hocur, hox j (by omega), w32s_get W (by omega)]
        have HCELL := hid2 hcell
        have hc1 := hcell (k - 15) (by omega)
        have hc2 := hcell (k - 2) (by omega)
        have hc3 := hcell (k - 16) (by omega)
        have hc4 := hcell (k - 7) (by omega)
        have hg1 : (0 : Int) ≤ (k : Int) - 15 := by omega
        have hg2 : (0 : Int) ≤ (k : Int) - 2 := by omega
        have hg3 : (0 : Int) ≤ (k : Int) - 16 := by omega
        have hg4 : (0 : Int) ≤ (k : Int) - 7 := by omega
        have hobl := heap_lt hocur
        have hw16 : IntKind.i64.wrap ((k : Int) - 16) = (k : Int) - 16 := IntWalk.i64_in _ (by constructor <;> omega)
        have hw7 : IntKind.i64.wrap ((k : Int) - 7) = (k : Int) - 7 := IntWalk.i64_in _ (by constructor <;> omega)
        have ht16 : ((k : Int) - 16).toNat = k - 16 := by omega
        have ht7 : ((k : Int) - 7).toNat = k - 7 := by omega
        have hk16 : (k : Int) - 16 < k := by omega
        have hk7 : (k : Int) - 7 < k := by omega
        have hge7 : (7 : Int) ≤ k := by omega
        have hge16 : (16 : Int) ≤ k := by omega
        clear hhigh hwl hcell hocur hooc hox hobb
        have HW := hid2 hW
        obtain ⟨x, hx⟩ : ∃ x, x = W.getD (k - 15) 0 := ⟨_, rfl⟩
        obtain ⟨y, hy⟩ : ∃ y, y = W.getD (k - 2) 0 := ⟨_, rfl⟩
        obtain ⟨p, hp⟩ : ∃ p, p = W.getD (k - 16) 0 := ⟨_, rfl⟩
        obtain ⟨r, hr⟩ : ∃ r, r = W.getD (k - 7) 0 := ⟨_, rfl⟩
        rw [← hx] at hc1
        rw [← hy] at hc2
        rw [← hp] at hc3
        rw [← hr] at hc4
        have HX := hid2 hx
        have HY := hid2 hy
        have HP := hid2 hp
        have HR := hid2 hr
        clear hW hx hy hp hr
        have HOWN := hid2 hown
        have hnc := hown.2.1
        clear hown
        go_wp2_with fail
        go_quiet (fail)
        go_wp2_with fail
        refine wp_region_rel 31 (by kernel_rfl) (by kernel_rfl) (by kernel_rfl) _ rfl (by kernel_rfl) (BlkV wr.heap.size [.slice (some ⟨ob, oo, none⟩) k cw, .slice (some ⟨ob, oo, none⟩) k cw, .int .i64 (k), .int .i64 ((k : Int) - 16), .pointer (some ⟨ob, oo + (k - 16), none⟩), .int .u32 (p).toNat, .int .u32 (x).toNat, .int .u32 (rotI x 7).toNat, .int .u32 (x).toNat, .int .u32 (rotI x 18).toNat, .int .u32 (xor32 (rotI x 7) (rotI x 18)).toNat, .int .u32 (x).toNat, .int .u32 (shr32 x 3).toNat, .int .u32 (xor32 (xor32 (rotI x 7) (rotI x 18)) (shr32 x 3)).toNat, .int .u32 (add32 p (xor32 (xor32 (rotI x 7) (rotI x 18)) (shr32 x 3))).toNat, .slice (some ⟨ob, oo, none⟩) k cw, .int .i64 (k), .int .i64 ((k : Int) - 7), .pointer (some ⟨ob, oo + (k - 7), none⟩), .int .u32 (r).toNat, .int .u32 (add32 (add32 p (xor32 (xor32 (rotI x 7) (rotI x 18)) (shr32 x 3))) r).toNat, .int .u32 (y).toNat, .int .u32 (rotI y 17).toNat, .int .u32 (y).toNat, .int .u32 (rotI y 19).toNat, .int .u32 (xor32 (rotI y 17) (rotI y 19)).toNat, .int .u32 (y).toNat, .int .u32 (shr32 y 10).toNat, .int .u32 (xor32 (xor32 (rotI y 17) (rotI y 19)) (shr32 y 10)).toNat, .int .u32 (add32 (add32 (add32 p (xor32 (xor32 (rotI x 7) (rotI x 18)) (shr32 x 3))) r) (xor32 (xor32 (rotI y 17) (rotI y 19)) (shr32 y 10))).toNat] (.int .u32 (add32 (add32 (add32 p (xor32 (xor32 (rotI x 7) (rotI x 18)) (shr32 x 3))) r) (xor32 (xor32 (rotI y 17) (rotI y 19)) (shr32 y 10))).toNat)) (fun w2 => Below wr.heap.size wr w2) (fun a b => Below a.heap.size a b) (below_drewN (Below.refl _ wr) (nq + 1)) (fun _ _ _ _ hb hv => hv.keep hb) ?_ ?_
        · refine of_allOps ⟨?_, ?_, ?_, ?_, ?_, ?_, ?_, ?_, ?_, ?_, ?_, ?_, ?_, ?_, ?_, ?_, ?_, ?_, ?_, ?_, ?_, ?_, ?_, ?_, ?_, ?_, ?_, ?_, ?_, ?_, ?_, trivial⟩
          · refine ⟨rfl, fun T2 w2 hM hN hO hE K hK => ?_⟩
            have o6 : T2[6]? = some (.slice (some ⟨ob, oo, none⟩) k cw) := hO 6 rfl
            clear hE hO hN
            go_simp
            exact hK _ _ rfl hM (Below.refl _ _)
          · refine ⟨rfl, fun T2 w2 hM hN hO hE K hK => ?_⟩
            have o6 : T2[6]? = some (.slice (some ⟨ob, oo, none⟩) k cw) := hO 6 rfl
            clear hE hO hN
            go_simp
            exact hK _ _ rfl hM (Below.refl _ _)
          · refine ⟨rfl, fun T2 w2 hM hN hO hE K hK => ?_⟩
            have o7 : T2[7]? = some (.int .i64 (k)) := hO 7 rfl
            clear hE hO hN
            go_simp
            exact hK _ _ rfl hM (Below.refl _ _)
          · refine ⟨rfl, fun T2 w2 hM hN hO hE K hK => ?_⟩
            obtain ⟨v2, h2, e2⟩ := hE ⟨2, .data⟩ (by simp) rfl _ _ rfl rfl
            rw [show v2 = .int .i64 (k) from (Option.some.inj e2).symm] at h2
            clear hE hO hN
            go_simp
            exact hK _ _ rfl hM (Below.refl _ _)
          · refine ⟨rfl, fun T2 w2 hM hN hO hE K hK => ?_⟩
            obtain ⟨v1, h1, e1⟩ := hE ⟨1, .data⟩ (by simp) rfl _ _ rfl rfl
            rw [show v1 = .slice (some ⟨ob, oo, none⟩) k cw from (Option.some.inj e1).symm] at h1
            obtain ⟨v3, h3, e3⟩ := hE ⟨3, .data⟩ (by simp) rfl _ _ rfl rfl
            rw [show v3 = .int .i64 ((k : Int) - 16) from (Option.some.inj e3).symm] at h3
            clear hE hO hN
            go_simp
            exact hK _ _ rfl hM (Below.refl _ _)
          · refine ⟨rfl, fun T2 w2 hM hN hO hE K hK => ?_⟩
            obtain ⟨v4, h4, e4⟩ := hE ⟨4, .data⟩ (by simp) rfl _ _ rfl rfl
            rw [show v4 = .pointer (some ⟨ob, oo + (k - 16), none⟩) from (Option.some.inj e4).symm] at h4
            have hcc := (hM.cell (p := ⟨ob, _, none⟩) hobl).trans hc3
            clear hE hO hN
            go_simp
            exact hK _ _ rfl hM (Below.refl _ _)
          · refine ⟨rfl, fun T2 w2 hM hN hO hE K hK => ?_⟩
            have o8 : T2[8]? = some (.int .u32 (x).toNat) := hO 8 rfl
            clear hE hO hN
            go_simp
            exact hK _ _ rfl hM (Below.refl _ _)
          · refine ⟨rfl, fun T2 w2 hM hN hO hE K hK => ?_⟩
            obtain ⟨v6, h6, e6⟩ := hE ⟨6, .data⟩ (by simp) rfl _ _ rfl rfl
            rw [show v6 = .int .u32 (x).toNat from (Option.some.inj e6).symm] at h6
            clear hE hO hN
            go_simp
            refine (turn_any _ _ _ (by omega) (by omega)).mono ?_
            rintro e w3 ⟨rfl, m2, rfl⟩
            exact hK _ _ rfl (below_drewN hM m2) (below_drewN (Below.refl _ _) m2)
          · refine ⟨rfl, fun T2 w2 hM hN hO hE K hK => ?_⟩
            have o8 : T2[8]? = some (.int .u32 (x).toNat) := hO 8 rfl
            clear hE hO hN
            go_simp
            exact hK _ _ rfl hM (Below.refl _ _)
          · refine ⟨rfl, fun T2 w2 hM hN hO hE K hK => ?_⟩
            obtain ⟨v8, h8, e8⟩ := hE ⟨8, .data⟩ (by simp) rfl _ _ rfl rfl
            rw [show v8 = .int .u32 (x).toNat from (Option.some.inj e8).symm] at h8
            clear hE hO hN
            go_simp
            refine (turn_any _ _ _ (by omega) (by omega)).mono ?_
            rintro e w3 ⟨rfl, m2, rfl⟩
            exact hK _ _ rfl (below_drewN hM m2) (below_drewN (Below.refl _ _) m2)
          · refine ⟨rfl, fun T2 w2 hM hN hO hE K hK => ?_⟩
            obtain ⟨v7, h7, e7⟩ := hE ⟨7, .data⟩ (by simp) rfl _ _ rfl rfl
            rw [show v7 = .int .u32 (rotI x 7).toNat from (Option.some.inj e7).symm] at h7
            obtain ⟨v9, h9, e9⟩ := hE ⟨9, .data⟩ (by simp) rfl _ _ rfl rfl
            rw [show v9 = .int .u32 (rotI x 18).toNat from (Option.some.inj e9).symm] at h9
            clear hE hO hN
            go_simp
            exact hK _ _ rfl hM (Below.refl _ _)
          · refine ⟨rfl, fun T2 w2 hM hN hO hE K hK => ?_⟩
            have o8 : T2[8]? = some (.int .u32 (x).toNat) := hO 8 rfl
            clear hE hO hN
            go_simp
            exact hK _ _ rfl hM (Below.refl _ _)
          · refine ⟨rfl, fun T2 w2 hM hN hO hE K hK => ?_⟩
            obtain ⟨v11, h11, e11⟩ := hE ⟨11, .data⟩ (by simp) rfl _ _ rfl rfl
            rw [show v11 = .int .u32 (x).toNat from (Option.some.inj e11).symm] at h11
            clear hE hO hN
            go_simp
            exact hK _ _ rfl hM (Below.refl _ _)
          · refine ⟨rfl, fun T2 w2 hM hN hO hE K hK => ?_⟩
            obtain ⟨v10, h10, e10⟩ := hE ⟨10, .data⟩ (by simp) rfl _ _ rfl rfl
            rw [show v10 = .int .u32 (xor32 (rotI x 7) (rotI x 18)).toNat from (Option.some.inj e10).symm] at h10
            obtain ⟨v12, h12, e12⟩ := hE ⟨12, .data⟩ (by simp) rfl _ _ rfl rfl
            rw [show v12 = .int .u32 (shr32 x 3).toNat from (Option.some.inj e12).symm] at h12
            clear hE hO hN
            go_simp
            exact hK _ _ rfl hM (Below.refl _ _)
          · refine ⟨rfl, fun T2 w2 hM hN hO hE K hK => ?_⟩
            obtain ⟨v5, h5, e5⟩ := hE ⟨5, .data⟩ (by simp) rfl _ _ rfl rfl
            rw [show v5 = .int .u32 (p).toNat from (Option.some.inj e5).symm] at h5
            obtain ⟨v13, h13, e13⟩ := hE ⟨13, .data⟩ (by simp) rfl _ _ rfl rfl
            rw [show v13 = .int .u32 (xor32 (xor32 (rotI x 7) (rotI x 18)) (shr32 x 3)).toNat from (Option.some.inj e13).symm] at h13
            clear hE hO hN
            go_simp
            exact hK _ _ rfl hM (Below.refl _ _)
          · refine ⟨rfl, fun T2 w2 hM hN hO hE K hK => ?_⟩
            have o6 : T2[6]? = some (.slice (some ⟨ob, oo, none⟩) k cw) := hO 6 rfl
            clear hE hO hN
            go_simp
            exact hK _ _ rfl hM (Below.refl _ _)
          · refine ⟨rfl, fun T2 w2 hM hN hO hE K hK => ?_⟩
            have o7 : T2[7]? = some (.int .i64 (k)) := hO 7 rfl
            clear hE hO hN
            go_simp
            exact hK _ _ rfl hM (Below.refl _ _)
          · refine ⟨rfl, fun T2 w2 hM hN hO hE K hK => ?_⟩
            obtain ⟨v16, h16, e16⟩ := hE ⟨16, .data⟩ (by simp) rfl _ _ rfl rfl
            rw [show v16 = .int .i64 (k) from (Option.some.inj e16).symm] at h16
            clear hE hO hN
            go_simp
            exact hK _ _ rfl hM (Below.refl _ _)
          · refine ⟨rfl, fun T2 w2 hM hN hO hE K hK => ?_⟩
            obtain ⟨v15, h15, e15⟩ := hE ⟨15, .data⟩ (by simp) rfl _ _ rfl rfl
            rw [show v15 = .slice (some ⟨ob, oo, none⟩) k cw from (Option.some.inj e15).symm] at h15
            obtain ⟨v17, h17, e17⟩ := hE ⟨17, .data⟩ (by simp) rfl _ _ rfl rfl
            rw [show v17 = .int .i64 ((k : Int) - 7) from (Option.some.inj e17).symm] at h17
            clear hE hO hN
            go_simp
            exact hK _ _ rfl hM (Below.refl _ _)
          · refine ⟨rfl, fun T2 w2 hM hN hO hE K hK => ?_⟩
            obtain ⟨v18, h18, e18⟩ := hE ⟨18, .data⟩ (by simp) rfl _ _ rfl rfl
            rw [show v18 = .pointer (some ⟨ob, oo + (k - 7), none⟩) from (Option.some.inj e18).symm] at h18
            have hcc := (hM.cell (p := ⟨ob, _, none⟩) hobl).trans hc4
            clear hE hO hN
            go_simp
            exact hK _ _ rfl hM (Below.refl _ _)
          · refine ⟨rfl, fun T2 w2 hM hN hO hE K hK => ?_⟩
            obtain ⟨v14, h14, e14⟩ := hE ⟨14, .data⟩ (by simp) rfl _ _ rfl rfl
            rw [show v14 = .int .u32 (add32 p (xor32 (xor32 (rotI x 7) (rotI x 18)) (shr32 x 3))).toNat from (Option.some.inj e14).symm] at h14
            obtain ⟨v19, h19, e19⟩ := hE ⟨19, .data⟩ (by simp) rfl _ _ rfl rfl
            rw [show v19 = .int .u32 (r).toNat from (Option.some.inj e19).symm] at h19
            clear hE hO hN
            go_simp
            exact hK _ _ rfl hM (Below.refl _ _)
          · refine ⟨rfl, fun T2 w2 hM hN hO hE K hK => ?_⟩
            have o9 : T2[9]? = some (.int .u32 (y).toNat) := hO 9 rfl
            clear hE hO hN
            go_simp
            exact hK _ _ rfl hM (Below.refl _ _)
          · refine ⟨rfl, fun T2 w2 hM hN hO hE K hK => ?_⟩
            obtain ⟨v21, h21, e21⟩ := hE ⟨21, .data⟩ (by simp) rfl _ _ rfl rfl
            rw [show v21 = .int .u32 (y).toNat from (Option.some.inj e21).symm] at h21
            clear hE hO hN
            go_simp
            refine (turn_any _ _ _ (by omega) (by omega)).mono ?_
            rintro e w3 ⟨rfl, m2, rfl⟩
            exact hK _ _ rfl (below_drewN hM m2) (below_drewN (Below.refl _ _) m2)
          · refine ⟨rfl, fun T2 w2 hM hN hO hE K hK => ?_⟩
            have o9 : T2[9]? = some (.int .u32 (y).toNat) := hO 9 rfl
            clear hE hO hN
            go_simp
            exact hK _ _ rfl hM (Below.refl _ _)
          · refine ⟨rfl, fun T2 w2 hM hN hO hE K hK => ?_⟩
            obtain ⟨v23, h23, e23⟩ := hE ⟨23, .data⟩ (by simp) rfl _ _ rfl rfl
            rw [show v23 = .int .u32 (y).toNat from (Option.some.inj e23).symm] at h23
            clear hE hO hN
            go_simp
            refine (turn_any _ _ _ (by omega) (by omega)).mono ?_
            rintro e w3 ⟨rfl, m2, rfl⟩
            exact hK _ _ rfl (below_drewN hM m2) (below_drewN (Below.refl _ _) m2)
          · refine ⟨rfl, fun T2 w2 hM hN hO hE K hK => ?_⟩
            obtain ⟨v22, h22, e22⟩ := hE ⟨22, .data⟩ (by simp) rfl _ _ rfl rfl
            rw [show v22 = .int .u32 (rotI y 17).toNat from (Option.some.inj e22).symm] at h22
            obtain ⟨v24, h24, e24⟩ := hE ⟨24, .data⟩ (by simp) rfl _ _ rfl rfl
            rw [show v24 = .int .u32 (rotI y 19).toNat from (Option.some.inj e24).symm] at h24
            clear hE hO hN
            go_simp
            exact hK _ _ rfl hM (Below.refl _ _)
          · refine ⟨rfl, fun T2 w2 hM hN hO hE K hK => ?_⟩
            have o9 : T2[9]? = some (.int .u32 (y).toNat) := hO 9 rfl
            clear hE hO hN
            go_simp
            exact hK _ _ rfl hM (Below.refl _ _)
          · refine ⟨rfl, fun T2 w2 hM hN hO hE K hK => ?_⟩
            obtain ⟨v26, h26, e26⟩ := hE ⟨26, .data⟩ (by simp) rfl _ _ rfl rfl
            rw [show v26 = .int .u32 (y).toNat from (Option.some.inj e26).symm] at h26
            clear hE hO hN
            go_simp
            exact hK _ _ rfl hM (Below.refl _ _)
          · refine ⟨rfl, fun T2 w2 hM hN hO hE K hK => ?_⟩
            obtain ⟨v25, h25, e25⟩ := hE ⟨25, .data⟩ (by simp) rfl _ _ rfl rfl
            rw [show v25 = .int .u32 (xor32 (rotI y 17) (rotI y 19)).toNat from (Option.some.inj e25).symm] at h25
            obtain ⟨v27, h27, e27⟩ := hE ⟨27, .data⟩ (by simp) rfl _ _ rfl rfl
            rw [show v27 = .int .u32 (shr32 y 10).toNat from (Option.some.inj e27).symm] at h27
            clear hE hO hN
            go_simp
            exact hK _ _ rfl hM (Below.refl _ _)
          · refine ⟨rfl, fun T2 w2 hM hN hO hE K hK => ?_⟩
            obtain ⟨v20, h20, e20⟩ := hE ⟨20, .data⟩ (by simp) rfl _ _ rfl rfl
            rw [show v20 = .int .u32 (add32 (add32 p (xor32 (xor32 (rotI x 7) (rotI x 18)) (shr32 x 3))) r).toNat from (Option.some.inj e20).symm] at h20
            obtain ⟨v28, h28, e28⟩ := hE ⟨28, .data⟩ (by simp) rfl _ _ rfl rfl
            rw [show v28 = .int .u32 (xor32 (xor32 (rotI y 17) (rotI y 19)) (shr32 y 10)).toNat from (Option.some.inj e28).symm] at h28
            clear hE hO hN
            go_simp
            exact hK _ _ rfl hM (Below.refl _ _)
          · refine ⟨rfl, fun T2 w2 hM hN hO hE K hK => ?_⟩
            obtain ⟨v29, h29, e29⟩ := hE ⟨29, .data⟩ (by simp) rfl _ _ rfl rfl
            rw [show v29 = .int .u32 (add32 (add32 (add32 p (xor32 (xor32 (rotI x 7) (rotI x 18)) (shr32 x 3))) r) (xor32 (xor32 (rotI y 17) (rotI y 19)) (shr32 y 10))).toNat from (Option.some.inj e29).symm] at h29
            clear hE hO hN
            go_simp
            exact hK _ _ ⟨_, rfl, hM.size, heap_alloc_new w2 _⟩ (hM.alloc hM.size _) ((Below.refl _ _).alloc (Nat.le_refl _) _)
        · intro u w2 hM hF
          have e0 : .slice (some ⟨ob, oo, none⟩) k cw = u 0 := Option.some.inj (hF 0 (by omega))
          obtain ⟨gg, e30, hgg, hgc⟩ : ∃ g, u 30 = .slice (some ⟨g, 0, none⟩) 1 1 ∧ wr.heap.size ≤ g ∧ w2.heap[g]? = some (.cells #[.int .u32 (add32 (add32 (add32 p (xor32 (xor32 (rotI x 7) (rotI x 18)) (shr32 x 3))) r) (xor32 (xor32 (rotI y 17) (rotI y 19)) (shr32 y 10))).toNat] 72 (0, 0)) := hF 30 (by omega)
          clear hF
          simp only [fillAll, Nat.reduceAdd, ← e0, e30, List.take_succ_cons, List.take_zero, List.drop_succ_cons, List.drop_zero, List.setIfInBounds_toArray, List.set_cons_succ, List.set_cons_zero]
          have hown2 := HOWN.out.below hM (Nat.le_refl _)
          have _t := hown2
          have hbe2 := hbe.trans (hM.mono hs1)
          have hs2 := hM.size
          with_reducible refine wpList_append_lit 72 (.int .u32 0) 1 4 Tryd.underlying73 info_u32w rfl w1.heap.size (some ⟨ob, oo, none⟩) k cw (w32s W) hown2 1 [_] (.slice (some ⟨gg, 0, none⟩) 1 1) (Src.slice Tryd.underlying73 (Rd.of_row hgc)) one_int ?_ ?_ ?_ ?_ ?_
          · unfold maxLen; omega
          · omega
          · omega
          · exact ⟨rfl, rfl⟩
          intro A3 c3 w3 hown3 hgr3 hbl3
          clear hown2
          go_wp2
          go_roundg (gk - 1)
          case rel =>
            refine ⟨k + 1, by omega, by go_num, ?_⟩
            rw [HHIGH.out]
            exact WRow.push2 HWL.out hbe2 _t hgr3 hown3 (by rw [HX.out, HY.out, HP.out, HR.out, Sha.nextWord, show k - 16 + 1 = k - 15 by omega, show k - 16 + 9 = k - 7 by omega, show k - 16 + 14 = k - 2 by omega]; rfl)
          case measure => omega
      · have hk64 : k = 64 := by omega
        have hW64 : Sha.wordsTo b k = Sha.words b 48 := by rw [hk64, Sha.wordsTo_all]
        have HK64 := hid2 hk64
        rw [hW64] at hown
        obtain ⟨W, hW⟩ : ∃ W, W = Sha.words b 48 := ⟨_, rfl⟩
        rw [← hW] at hown
        have HW := hid2 hW
        have HOWN := hid2 hown
        have hnc := hown.2.1
        have hnl : ¬ (k : Int) < 64 := by omega
        clear hW hW64 hown hk64 hk
        have hRA : Rd (wr.alloc (.cells #[] 72)) 1 (some ⟨ab, ao, none⟩) 8 (w32s S.list) := by
          refine Rd.alloc ⟨rfl, fun _ => ⟨ab, ao, rfl, fun j u hu => ?_⟩⟩ _
          have hj : j < 8 := by
            rcases Nat.lt_or_ge j 8 with h | h
            · exact h
            · rw [List.getElem?_eq_none (by rw [w32s_length]; exact h)] at hu; cases hu
          rw [(hbe.cell (p := ⟨ab, ao + j, none⟩) hab1), HA1.out j hj]
          rw [w32s_get S.list (by exact hj)] at hu
          exact hu
        have HRA := hid2 hRA
        have HL := hid2 (Own.lit wr #[] 72 1 0 w1.heap.size hs1 (by decide) rfl)
        clear hRA
        go_wp2_with (first
          | (at_builtin; have _t := HL; go_must ((with_reducible refine wpList_append_lit 72 (.int .u32 0) 1 4 Tryd.underlying73 info_u32w rfl w1.heap.size (some ⟨wr.heap.size, 0, none⟩) 0 0 [] HL.out 8 (w32s S.list) (.slice (some ⟨ab, ao, none⟩) 8 c) (Src.slice Tryd.underlying73 HRA.out) (w32s_one _) ?_ ?_ ?_ ?_ ?_); (unfold maxLen; omega); omega; (simp; omega); exact ⟨rfl, rfl⟩; intro A3 c3 w3 hown3 hgr3 hbl3; clear HL)))
        have hb3 : Below w1.heap.size w1 w3 := (hbe.alloc hs1 _).grown hgr3 (by simp; omega) (fun g e => by simp [blockOf] at e; omega)
        have hWR : Rd w3 1 Aw 64 (w32s W) := by
          have := HOWN.out.grown (w' := w3) ⟨hgr3.os, hgr3.tape, hgr3.output, by have := hgr3.size; simp at this; omega, fun g hg hne => (hgr3.block g (by simp; omega) hne).trans (Below.heap_alloc wr _ g hg)⟩ (fun g hg e => by have := (HOWN.out.block g hg).2.1; simp [blockOf] at e; omega)
          rw [HK64.out] at this
          exact this.rd
        have hKR : Rd w3 1 AK 64 (w32s Sha.ks) := HK.out.below_all hb3
        have HWR := hid2 hWR
        have HKR := hid2 hKR
        have Hb3 := hid2 hb3
        have hc38 : 8 ≤ c3 := by have := hown3.2.1; omega
        have hR0 : Rd w3 1 A3 8 (w32s (Sha.turns W S 0).list) := hown3.rd
        have HA1b := HA1
        clear hWR hKR hb3 hown3 hgr3 hbl3 _t HRA HOWN hnc hnl hbe hs1 HK HB1 hlt hlt64
        go_loopg [10, 11] 64 (fun gk v i wx => ∃ j : Nat, j + gk = 64 ∧ i = .int .i64 j ∧ Below w3.heap.size w3 wx ∧ ∃ A c, v = .slice A 8 c ∧ 8 ≤ c ∧ Rd wx 1 A 8 (w32s (Sha.turns W S j).list))
        case atStart => exact ⟨0, by omega, rfl, Below.refl _ _, A3, c3, rfl, hc38, hR0⟩
        case round =>
          clear hR0
          obtain ⟨j, hj, rfl, hbx, Al, cl, rfl, hcl, hR⟩ := hrel
          obtain ⟨Z, hZ⟩ : ∃ Z, Z = Sha.turns W S j := ⟨_, rfl⟩
          rw [← hZ] at hR
          have HZ := hid2 hZ
          clear hZ
          by_cases hj64 : j < 64
          · obtain ⟨lb, lo, rfl, hlc⟩ := hR.2 (by omega)
            have c0 : wr.cell? ⟨lb, lo, none⟩ = some (.int .u32 Z.a.toNat) := hlc 0 _ (w32s_get Z.list (show 0 < 8 by decide))
            have c1 : wr.cell? ⟨lb, lo + 1, none⟩ = some (.int .u32 Z.b.toNat) := hlc 1 _ (w32s_get Z.list (show 1 < 8 by decide))
            have c2 : wr.cell? ⟨lb, lo + 2, none⟩ = some (.int .u32 Z.c.toNat) := hlc 2 _ (w32s_get Z.list (show 2 < 8 by decide))
            have c3 : wr.cell? ⟨lb, lo + 3, none⟩ = some (.int .u32 Z.d.toNat) := hlc 3 _ (w32s_get Z.list (show 3 < 8 by decide))
            have c4 : wr.cell? ⟨lb, lo + 4, none⟩ = some (.int .u32 Z.e.toNat) := hlc 4 _ (w32s_get Z.list (show 4 < 8 by decide))
            have c5 : wr.cell? ⟨lb, lo + 5, none⟩ = some (.int .u32 Z.f.toNat) := hlc 5 _ (w32s_get Z.list (show 5 < 8 by decide))
            have c6 : wr.cell? ⟨lb, lo + 6, none⟩ = some (.int .u32 Z.g.toNat) := hlc 6 _ (w32s_get Z.list (show 6 < 8 by decide))
            have c7 : wr.cell? ⟨lb, lo + 7, none⟩ = some (.int .u32 Z.h.toNat) := hlc 7 _ (w32s_get Z.list (show 7 < 8 by decide))
            obtain ⟨kb, ko, rfl, hkc⟩ := HKR.out.2 (by omega)
            obtain ⟨wb, wo, rfl, hwc⟩ := HWR.out.2 (by omega)
            have hkk := hkc j _ (w32s_get Sha.ks (show j < 64 from hj64))
            have hwk := hwc j _ (w32s_get W (by rw [HW.out, Sha.words_length]; exact hj64))
            obtain ⟨kk, hkke⟩ : ∃ kk, kk = Sha.ks.getD j 0 := ⟨_, rfl⟩
            obtain ⟨wk, hwke⟩ : ∃ wk, wk = W.getD j 0 := ⟨_, rfl⟩
            rw [← hkke] at hkk
            rw [← hwke] at hwk
            have hkk1 := (hbx.cell (p := ⟨kb, ko + j, none⟩) (World.block_lt_of_cell? w3 _ hkk)).trans hkk
            have hwk1 := (hbx.cell (p := ⟨wb, wo + j, none⟩) (World.block_lt_of_cell? w3 _ hwk)).trans hwk
            have HKE := hid2 hkke
            have HWE := hid2 hwke
            have hjk : (j : Int) < k := by have := HK64.out; omega
            have hjk2 : j < k := by have := HK64.out; omega
            clear hkk hwk hkke hwke hkc hwc hlc hR HKR HWR
            go_wp2_with fail
            go_quiet (fail)
            go_wp2_with fail
            go_quiet ((go_at_call 53; exact quiet_more_d (turn_any _ _ _ (by omega) (by omega))))
            go_wp2_with fail
            go_quiet ((go_at_call 53; exact quiet_more_d (turn_any _ _ _ (by omega) (by omega))))
            go_wp2_with fail
            refine wp_region_vals 22 (by kernel_rfl) (by kernel_rfl) (by kernel_rfl) _ rfl (by kernel_rfl) (fun i => ([.int .u32 (add32 (add32 (add32 (add32 Z.h (xor32 (xor32 (rotI Z.e 6) (rotI Z.e 11)) (rotI Z.e 25))) (xor32 (and32 Z.e Z.f) (and32 (not32 Z.e) Z.g))) kk) wk).toNat, .int .u32 (add32 (xor32 (xor32 (rotI Z.a 2) (rotI Z.a 13)) (rotI Z.a 22)) (xor32 (xor32 (and32 Z.a Z.b) (and32 Z.a Z.c)) (and32 Z.b Z.c))).toNat, .int .u32 (add32 (add32 (add32 (add32 (add32 Z.h (xor32 (xor32 (rotI Z.e 6) (rotI Z.e 11)) (rotI Z.e 25))) (xor32 (and32 Z.e Z.f) (and32 (not32 Z.e) Z.g))) kk) wk) (add32 (xor32 (xor32 (rotI Z.a 2) (rotI Z.a 13)) (rotI Z.a 22)) (xor32 (xor32 (and32 Z.a Z.b) (and32 Z.a Z.c)) (and32 Z.b Z.c)))).toNat, .int .u32 (Z.a).toNat, .slice (some ⟨lb, lo, none⟩) 8 cl, .pointer (some ⟨lb, lo + 1, none⟩), .int .u32 (Z.b).toNat, .slice (some ⟨lb, lo, none⟩) 8 cl, .pointer (some ⟨lb, lo + 2, none⟩), .int .u32 (Z.c).toNat, .slice (some ⟨lb, lo, none⟩) 8 cl, .pointer (some ⟨lb, lo + 3, none⟩), .int .u32 (Z.d).toNat, .int .u32 (add32 (add32 (add32 (add32 Z.h (xor32 (xor32 (rotI Z.e 6) (rotI Z.e 11)) (rotI Z.e 25))) (xor32 (and32 Z.e Z.f) (and32 (not32 Z.e) Z.g))) kk) wk).toNat, .int .u32 (add32 Z.d (add32 (add32 (add32 (add32 Z.h (xor32 (xor32 (rotI Z.e 6) (rotI Z.e 11)) (rotI Z.e 25))) (xor32 (and32 Z.e Z.f) (and32 (not32 Z.e) Z.g))) kk) wk)).toNat, .int .u32 (Z.e).toNat, .slice (some ⟨lb, lo, none⟩) 8 cl, .pointer (some ⟨lb, lo + 5, none⟩), .int .u32 (Z.f).toNat, .slice (some ⟨lb, lo, none⟩) 8 cl, .pointer (some ⟨lb, lo + 6, none⟩), .int .u32 (Z.g).toNat] : List Value).getD i undef) (fun w2 => ∃ m, w2 = wr.drewN m) (by simp only [World.drewN_drewN]; exact ⟨_ + 1, rfl⟩) ?_ ?_
            · refine of_allOps ⟨?_, ?_, ?_, ?_, ?_, ?_, ?_, ?_, ?_, ?_, ?_, ?_, ?_, ?_, ?_, ?_, ?_, ?_, ?_, ?_, ?_, ?_, trivial⟩
              · refine ⟨rfl, fun T2 w2 hM hN hO hE => ?_⟩
                obtain ⟨m, rfl⟩ := hM
                have o14 : T2[14]? = some (.int .u32 (add32 (add32 (add32 (add32 Z.h (xor32 (xor32 (rotI Z.e 6) (rotI Z.e 11)) (rotI Z.e 25))) (xor32 (and32 Z.e Z.f) (and32 (not32 Z.e) Z.g))) kk) wk).toNat) := hO 14 rfl
                clear hE hO hN
                go_simp
                first | exact ⟨m, rfl⟩ | exact ⟨rfl, m, rfl⟩
              · refine ⟨rfl, fun T2 w2 hM hN hO hE => ?_⟩
                obtain ⟨m, rfl⟩ := hM
                have o15 : T2[15]? = some (.int .u32 (add32 (xor32 (xor32 (rotI Z.a 2) (rotI Z.a 13)) (rotI Z.a 22)) (xor32 (xor32 (and32 Z.a Z.b) (and32 Z.a Z.c)) (and32 Z.b Z.c))).toNat) := hO 15 rfl
                clear hE hO hN
                go_simp
                first | exact ⟨m, rfl⟩ | exact ⟨rfl, m, rfl⟩
              · refine ⟨rfl, fun T2 w2 hM hN hO hE => ?_⟩
                obtain ⟨m, rfl⟩ := hM
                have h0 : T2[155]? = some (.int .u32 (add32 (add32 (add32 (add32 Z.h (xor32 (xor32 (rotI Z.e 6) (rotI Z.e 11)) (rotI Z.e 25))) (xor32 (and32 Z.e Z.f) (and32 (not32 Z.e) Z.g))) kk) wk).toNat) := hE ⟨0, .data⟩ (by simp) rfl _ _ rfl rfl
                have h1 : T2[156]? = some (.int .u32 (add32 (xor32 (xor32 (rotI Z.a 2) (rotI Z.a 13)) (rotI Z.a 22)) (xor32 (xor32 (and32 Z.a Z.b) (and32 Z.a Z.c)) (and32 Z.b Z.c))).toNat) := hE ⟨1, .data⟩ (by simp) rfl _ _ rfl rfl
                clear hE hO hN
                go_simp
                first | exact ⟨m, rfl⟩ | exact ⟨rfl, m, rfl⟩
              · refine ⟨rfl, fun T2 w2 hM hN hO hE => ?_⟩
                obtain ⟨m, rfl⟩ := hM
                have o12 : T2[12]? = some (.int .u32 (Z.a).toNat) := hO 12 rfl
                clear hE hO hN
                go_simp
                first | exact ⟨m, rfl⟩ | exact ⟨rfl, m, rfl⟩
              · refine ⟨rfl, fun T2 w2 hM hN hO hE => ?_⟩
                obtain ⟨m, rfl⟩ := hM
                have o10 : T2[10]? = some (.slice (some ⟨lb, lo, none⟩) 8 cl) := hO 10 rfl
                clear hE hO hN
                go_simp
                first | exact ⟨m, rfl⟩ | exact ⟨rfl, m, rfl⟩
              · refine ⟨rfl, fun T2 w2 hM hN hO hE => ?_⟩
                obtain ⟨m, rfl⟩ := hM
                have h4 : T2[159]? = some (.slice (some ⟨lb, lo, none⟩) 8 cl) := hE ⟨4, .data⟩ (by simp) rfl _ _ rfl rfl
                clear hE hO hN
                go_simp
                first | exact ⟨m, rfl⟩ | exact ⟨rfl, m, rfl⟩
              · refine ⟨rfl, fun T2 w2 hM hN hO hE => ?_⟩
                obtain ⟨m, rfl⟩ := hM
                have h5 : T2[160]? = some (.pointer (some ⟨lb, lo + 1, none⟩)) := hE ⟨5, .data⟩ (by simp) rfl _ _ rfl rfl
                clear hE hO hN
                go_simp
                first | exact ⟨m, rfl⟩ | exact ⟨rfl, m, rfl⟩
              · refine ⟨rfl, fun T2 w2 hM hN hO hE => ?_⟩
                obtain ⟨m, rfl⟩ := hM
                have o10 : T2[10]? = some (.slice (some ⟨lb, lo, none⟩) 8 cl) := hO 10 rfl
                clear hE hO hN
                go_simp
                first | exact ⟨m, rfl⟩ | exact ⟨rfl, m, rfl⟩
              · refine ⟨rfl, fun T2 w2 hM hN hO hE => ?_⟩
                obtain ⟨m, rfl⟩ := hM
                have h7 : T2[162]? = some (.slice (some ⟨lb, lo, none⟩) 8 cl) := hE ⟨7, .data⟩ (by simp) rfl _ _ rfl rfl
                clear hE hO hN
                go_simp
                first | exact ⟨m, rfl⟩ | exact ⟨rfl, m, rfl⟩
              · refine ⟨rfl, fun T2 w2 hM hN hO hE => ?_⟩
                obtain ⟨m, rfl⟩ := hM
                have h8 : T2[163]? = some (.pointer (some ⟨lb, lo + 2, none⟩)) := hE ⟨8, .data⟩ (by simp) rfl _ _ rfl rfl
                clear hE hO hN
                go_simp
                first | exact ⟨m, rfl⟩ | exact ⟨rfl, m, rfl⟩
              · refine ⟨rfl, fun T2 w2 hM hN hO hE => ?_⟩
                obtain ⟨m, rfl⟩ := hM
                have o10 : T2[10]? = some (.slice (some ⟨lb, lo, none⟩) 8 cl) := hO 10 rfl
                clear hE hO hN
                go_simp
                first | exact ⟨m, rfl⟩ | exact ⟨rfl, m, rfl⟩
              · refine ⟨rfl, fun T2 w2 hM hN hO hE => ?_⟩
                obtain ⟨m, rfl⟩ := hM
                have h10 : T2[165]? = some (.slice (some ⟨lb, lo, none⟩) 8 cl) := hE ⟨10, .data⟩ (by simp) rfl _ _ rfl rfl
                clear hE hO hN
                go_simp
                first | exact ⟨m, rfl⟩ | exact ⟨rfl, m, rfl⟩
              · refine ⟨rfl, fun T2 w2 hM hN hO hE => ?_⟩
                obtain ⟨m, rfl⟩ := hM
                have h11 : T2[166]? = some (.pointer (some ⟨lb, lo + 3, none⟩)) := hE ⟨11, .data⟩ (by simp) rfl _ _ rfl rfl
                clear hE hO hN
                go_simp
                first | exact ⟨m, rfl⟩ | exact ⟨rfl, m, rfl⟩
              · refine ⟨rfl, fun T2 w2 hM hN hO hE => ?_⟩
                obtain ⟨m, rfl⟩ := hM
                have o14 : T2[14]? = some (.int .u32 (add32 (add32 (add32 (add32 Z.h (xor32 (xor32 (rotI Z.e 6) (rotI Z.e 11)) (rotI Z.e 25))) (xor32 (and32 Z.e Z.f) (and32 (not32 Z.e) Z.g))) kk) wk).toNat) := hO 14 rfl
                clear hE hO hN
                go_simp
                first | exact ⟨m, rfl⟩ | exact ⟨rfl, m, rfl⟩
              · refine ⟨rfl, fun T2 w2 hM hN hO hE => ?_⟩
                obtain ⟨m, rfl⟩ := hM
                have h12 : T2[167]? = some (.int .u32 (Z.d).toNat) := hE ⟨12, .data⟩ (by simp) rfl _ _ rfl rfl
                have h13 : T2[168]? = some (.int .u32 (add32 (add32 (add32 (add32 Z.h (xor32 (xor32 (rotI Z.e 6) (rotI Z.e 11)) (rotI Z.e 25))) (xor32 (and32 Z.e Z.f) (and32 (not32 Z.e) Z.g))) kk) wk).toNat) := hE ⟨13, .data⟩ (by simp) rfl _ _ rfl rfl
                clear hE hO hN
                go_simp
                first | exact ⟨m, rfl⟩ | exact ⟨rfl, m, rfl⟩
              · refine ⟨rfl, fun T2 w2 hM hN hO hE => ?_⟩
                obtain ⟨m, rfl⟩ := hM
                have o13 : T2[13]? = some (.int .u32 (Z.e).toNat) := hO 13 rfl
                clear hE hO hN
                go_simp
                first | exact ⟨m, rfl⟩ | exact ⟨rfl, m, rfl⟩
              · refine ⟨rfl, fun T2 w2 hM hN hO hE => ?_⟩
                obtain ⟨m, rfl⟩ := hM
                have o10 : T2[10]? = some (.slice (some ⟨lb, lo, none⟩) 8 cl) := hO 10 rfl
                clear hE hO hN
                go_simp
                first | exact ⟨m, rfl⟩ | exact ⟨rfl, m, rfl⟩
              · refine ⟨rfl, fun T2 w2 hM hN hO hE => ?_⟩
                obtain ⟨m, rfl⟩ := hM
                have h16 : T2[171]? = some (.slice (some ⟨lb, lo, none⟩) 8 cl) := hE ⟨16, .data⟩ (by simp) rfl _ _ rfl rfl
                clear hE hO hN
                go_simp
                first | exact ⟨m, rfl⟩ | exact ⟨rfl, m, rfl⟩
              · refine ⟨rfl, fun T2 w2 hM hN hO hE => ?_⟩
                obtain ⟨m, rfl⟩ := hM
                have h17 : T2[172]? = some (.pointer (some ⟨lb, lo + 5, none⟩)) := hE ⟨17, .data⟩ (by simp) rfl _ _ rfl rfl
                clear hE hO hN
                go_simp
                first | exact ⟨m, rfl⟩ | exact ⟨rfl, m, rfl⟩
              · refine ⟨rfl, fun T2 w2 hM hN hO hE => ?_⟩
                obtain ⟨m, rfl⟩ := hM
                have o10 : T2[10]? = some (.slice (some ⟨lb, lo, none⟩) 8 cl) := hO 10 rfl
                clear hE hO hN
                go_simp
                first | exact ⟨m, rfl⟩ | exact ⟨rfl, m, rfl⟩
              · refine ⟨rfl, fun T2 w2 hM hN hO hE => ?_⟩
                obtain ⟨m, rfl⟩ := hM
                have h19 : T2[174]? = some (.slice (some ⟨lb, lo, none⟩) 8 cl) := hE ⟨19, .data⟩ (by simp) rfl _ _ rfl rfl
                clear hE hO hN
                go_simp
                first | exact ⟨m, rfl⟩ | exact ⟨rfl, m, rfl⟩
              · refine ⟨rfl, fun T2 w2 hM hN hO hE => ?_⟩
                obtain ⟨m, rfl⟩ := hM
                have h20 : T2[175]? = some (.pointer (some ⟨lb, lo + 6, none⟩)) := hE ⟨20, .data⟩ (by simp) rfl _ _ rfl rfl
                clear hE hO hN
                go_simp
                first | exact ⟨m, rfl⟩ | exact ⟨rfl, m, rfl⟩
            · rintro _ ⟨m, rfl⟩
              simp only [fillAll, Nat.reduceAdd, List.take_succ_cons, List.take_zero, List.drop_succ_cons, List.drop_zero, List.getD_cons_succ, List.getD_cons_zero, List.setIfInBounds_toArray, List.set_cons_succ, List.set_cons_zero]
              go_wp2
              go_roundg (gk - 1)
              case rel =>
                refine ⟨j + 1, by omega, by go_num, ?_, _, _, rfl, Nat.le_refl _, ?_⟩
                · exact (below_drewN hbx m).alloc (by exact hbx.size) _
                · have h := Rd.of_lit (wr.drewN m) (w32s (Sha.step Z kk wk).list).toArray 72 1 8 (by decide) rfl
                  rw [Sha.turns, ← HZ.out, ← HKE.out, ← HWE.out]
                  exact h
              case measure => omega
          · have hj64' : j = 64 := by omega
            have HJ := hid2 hj64'
            have hnl2 : ¬ (j : Int) < 64 := by omega
            obtain ⟨lb, lo, rfl, hlc⟩ := hR.2 (by omega)
            have hA3 := fun i (hi : i < 8) => ((Hb3.out.trans (hbx.mono Hb3.out.size)).cell (p := ⟨ab, ao + i, none⟩) hab1).trans (HA1b.out i hi)
            have HA3 := hid2 hA3
            have HLC := hid2 hlc
            obtain ⟨wz, hwz⟩ : ∃ wz, wz = wr := ⟨_, rfl⟩
            subst hwz
            have hI3 : WRow wz (wz.alloc (.cells #[] 72)) ((S.plus Z).list.take 0) (.slice (some ⟨wz.heap.size, 0, none⟩) 0 0) := ⟨(Below.refl _ _).alloc (Nat.le_refl _) _, _, _, rfl, Own.lit wz #[] _ 1 0 _ (Nat.le_refl _) (by decide) rfl⟩
            have hab3 : ab < wz.heap.size := Nat.lt_of_lt_of_le hab1 (Nat.le_trans Hb3.out.size hbx.size)
            have hlb3 : lb < wz.heap.size := World.block_lt_of_cell? wz _ (hlc 0 _ (w32s_get Z.list (show 0 < 8 by decide)))
            have HBX := hid2 hbx
            clear hA3 hlc hj64' hj hR hbx HKR HWR
            go_wp2
            clear hcb hcb3 hab1 hbb1 HA1 HA1b hc38 hnl2 hj64
            go_loopg [16, 17] 8 (fun gk v i wy => ∃ n : Nat, n + gk = 8 ∧ i = .int .i64 n ∧ WRow wz wy ((S.plus Z).list.take n) v)
            case atStart => exact ⟨0, by omega, rfl, hI3⟩
            case round =>
              clear hI3
              obtain ⟨i, hi, rfl, hbe, Ao, co, rfl, hown⟩ := hrel
              have hll : ((S.plus Z).list.take i).length = i := by rw [List.length_take, show (S.plus Z).list.length = 8 from rfl]; omega
              by_cases hi8 : i < 8
              · have hsn := plus_take S Z i hi8
                have hp1 := HA3.out i hi8
                have hr1 := HLC.out i _ (w32s_get Z.list hi8)
                obtain ⟨L, hL⟩ : ∃ L, L = (S.plus Z).list.take i := ⟨_, rfl⟩
                rw [← hL] at hown hsn hll ⊢
                obtain ⟨p, hp⟩ : ∃ p, p = S.list.getD i 0 := ⟨_, rfl⟩
                obtain ⟨r, hr⟩ : ∃ r, r = Z.list.getD i 0 := ⟨_, rfl⟩
                rw [← hp] at hp1 hsn
                rw [← hr] at hr1 hsn
                rw [hll] at hown ⊢
                have hs1 := hbe.size
                have hp2 := (hbe.cell (p := ⟨ab, ao + i, none⟩) hab3).trans hp1
                have hr2 := (hbe.cell (p := ⟨lb, lo + i, none⟩) hlb3).trans hr1
                have hab4 : ab < wr.heap.size := by omega
                have hlb4 : lb < wr.heap.size := by omega
                have hi64 : (i : Int) < 8 := by omega
                have HSN := hid2 hsn
                have HLL := hid2 hll
                have HOWN := hid2 hown
                clear hL hp hr hsn hll hown hp1 hr1
                go_wp2_with fail
                refine wp_region_rel 11 (by kernel_rfl) (by kernel_rfl) (by kernel_rfl) _ rfl (by kernel_rfl) (BlkN 10 wr.heap.size [.slice Ao i co, .slice (some ⟨ab, ao, none⟩) 8 c, .int .i64 (i), .pointer (some ⟨ab, ao + i, none⟩), .int .u32 (p).toNat, .slice (some ⟨lb, lo, none⟩) 8 cl, .int .i64 (i), .pointer (some ⟨lb, lo + i, none⟩), .int .u32 (r).toNat, .int .u32 (add32 p r).toNat] (.int .u32 (add32 p r).toNat)) (fun w2 => Below wr.heap.size wr w2) (fun a b => Below a.heap.size a b) (below_drewN (Below.refl _ wr) 1) (fun _ _ _ _ hb hv => hv.keep hb) ?_ ?_
                · refine of_allOps ⟨?_, ?_, ?_, ?_, ?_, ?_, ?_, ?_, ?_, ?_, ?_, trivial⟩
                  · refine ⟨rfl, fun T2 w2 hM hN hO hE K hK => ?_⟩
                    have o16 : T2[16]? = some (.slice Ao i co) := hO 16 rfl
                    clear hE hO hN
                    go_simp
                    exact hK _ _ rfl hM (Below.refl _ _)
                  · refine ⟨rfl, fun T2 w2 hM hN hO hE K hK => ?_⟩
                    have o0 : T2[0]? = some (.slice (some ⟨ab, ao, none⟩) 8 c) := hO 0 rfl
                    clear hE hO hN
                    go_simp
                    exact hK _ _ rfl hM (Below.refl _ _)
                  · refine ⟨rfl, fun T2 w2 hM hN hO hE K hK => ?_⟩
                    have o17 : T2[17]? = some (.int .i64 (i)) := hO 17 rfl
                    clear hE hO hN
                    go_simp
                    exact hK _ _ rfl hM (Below.refl _ _)
                  · refine ⟨rfl, fun T2 w2 hM hN hO hE K hK => ?_⟩
                    obtain ⟨v1, h1, e1⟩ := hE ⟨1, .data⟩ (by simp) rfl _ _ rfl rfl
                    rw [show v1 = .slice (some ⟨ab, ao, none⟩) 8 c from (Option.some.inj e1).symm] at h1
                    obtain ⟨v2, h2, e2⟩ := hE ⟨2, .data⟩ (by simp) rfl _ _ rfl rfl
                    rw [show v2 = .int .i64 (i) from (Option.some.inj e2).symm] at h2
                    clear hE hO hN
                    go_simp
                    exact hK _ _ rfl hM (Below.refl _ _)
                  · refine ⟨rfl, fun T2 w2 hM hN hO hE K hK => ?_⟩
                    obtain ⟨v3, h3, e3⟩ := hE ⟨3, .data⟩ (by simp) rfl _ _ rfl rfl
                    rw [show v3 = .pointer (some ⟨ab, ao + i, none⟩) from (Option.some.inj e3).symm] at h3
                    have hcc := (hM.cell (p := ⟨ab, _, none⟩) hab4).trans hp2
                    clear hE hO hN
                    go_simp
                    exact hK _ _ rfl hM (Below.refl _ _)
                  · refine ⟨rfl, fun T2 w2 hM hN hO hE K hK => ?_⟩
                    have o10 : T2[10]? = some (.slice (some ⟨lb, lo, none⟩) 8 cl) := hO 10 rfl
                    clear hE hO hN
                    go_simp
                    exact hK _ _ rfl hM (Below.refl _ _)
                  · refine ⟨rfl, fun T2 w2 hM hN hO hE K hK => ?_⟩
                    have o17 : T2[17]? = some (.int .i64 (i)) := hO 17 rfl
                    clear hE hO hN
                    go_simp
                    exact hK _ _ rfl hM (Below.refl _ _)
                  · refine ⟨rfl, fun T2 w2 hM hN hO hE K hK => ?_⟩
                    obtain ⟨v5, h5, e5⟩ := hE ⟨5, .data⟩ (by simp) rfl _ _ rfl rfl
                    rw [show v5 = .slice (some ⟨lb, lo, none⟩) 8 cl from (Option.some.inj e5).symm] at h5
                    obtain ⟨v6, h6, e6⟩ := hE ⟨6, .data⟩ (by simp) rfl _ _ rfl rfl
                    rw [show v6 = .int .i64 (i) from (Option.some.inj e6).symm] at h6
                    clear hE hO hN
                    go_simp
                    exact hK _ _ rfl hM (Below.refl _ _)
                  · refine ⟨rfl, fun T2 w2 hM hN hO hE K hK => ?_⟩
                    obtain ⟨v7, h7, e7⟩ := hE ⟨7, .data⟩ (by simp) rfl _ _ rfl rfl
                    rw [show v7 = .pointer (some ⟨lb, lo + i, none⟩) from (Option.some.inj e7).symm] at h7
                    have hcc := (hM.cell (p := ⟨lb, _, none⟩) hlb4).trans hr2
                    clear hE hO hN
                    go_simp
                    exact hK _ _ rfl hM (Below.refl _ _)
                  · refine ⟨rfl, fun T2 w2 hM hN hO hE K hK => ?_⟩
                    obtain ⟨v4, h4, e4⟩ := hE ⟨4, .data⟩ (by simp) rfl _ _ rfl rfl
                    rw [show v4 = .int .u32 (p).toNat from (Option.some.inj e4).symm] at h4
                    obtain ⟨v8, h8, e8⟩ := hE ⟨8, .data⟩ (by simp) rfl _ _ rfl rfl
                    rw [show v8 = .int .u32 (r).toNat from (Option.some.inj e8).symm] at h8
                    clear hE hO hN
                    go_simp
                    exact hK _ _ rfl hM (Below.refl _ _)
                  · refine ⟨rfl, fun T2 w2 hM hN hO hE K hK => ?_⟩
                    obtain ⟨v9, h9, e9⟩ := hE ⟨9, .data⟩ (by simp) rfl _ _ rfl rfl
                    rw [show v9 = .int .u32 (add32 p r).toNat from (Option.some.inj e9).symm] at h9
                    clear hE hO hN
                    go_simp
                    exact hK _ _ ⟨_, rfl, hM.size, heap_alloc_new w2 _⟩ (hM.alloc hM.size _) ((Below.refl _ _).alloc (Nat.le_refl _) _)
                · intro u w2 hM hF
                  have e0 : .slice Ao i co = u 0 := Option.some.inj (hF 0 (by omega))
                  obtain ⟨gg, e10, hgg, hgc⟩ : ∃ g, u 10 = .slice (some ⟨g, 0, none⟩) 1 1 ∧ wr.heap.size ≤ g ∧ w2.heap[g]? = some (.cells #[.int .u32 (add32 p r).toNat] 72 (0, 0)) := hF 10 (by omega)
                  clear hF
                  simp only [fillAll, Nat.reduceAdd, ← e0, e10, List.take_succ_cons, List.take_zero, List.drop_succ_cons, List.drop_zero, List.setIfInBounds_toArray, List.set_cons_succ, List.set_cons_zero]
                  have hown2 := HOWN.out.below hM (Nat.le_refl _)
                  have _t := hown2
                  have hbe2 := hbe.trans (hM.mono hs1)
                  have hs2 := hM.size
                  with_reducible refine wpList_append_lit 72 (.int .u32 0) 1 4 Tryd.underlying73 info_u32w rfl wz.heap.size Ao i co (w32s L) hown2 1 [_] (.slice (some ⟨gg, 0, none⟩) 1 1) (Src.slice Tryd.underlying73 (Rd.of_row hgc)) one_int ?_ ?_ ?_ ?_ ?_
                  · unfold maxLen; omega
                  · omega
                  · omega
                  · exact ⟨rfl, rfl⟩
                  intro A4 c4 w4 hown4 hgr4 hbl4
                  clear hown2
                  go_wp2
                  go_roundg (gk - 1)
                  case rel =>
                    refine ⟨i + 1, by omega, by go_num, ?_⟩
                    rw [HSN.out]
                    exact WRow.push2 HLL.out hbe2 _t hgr4 hown4 rfl
                  case measure => omega
              · have hi8' : i = 8 := by omega
                have hnl : ¬ (i : Int) < 8 := by omega
                have hall : (S.plus Z).list.take i = (Sha.block S b).list := by
                  rw [hi8', HZ.out, HJ.out, HW.out]
                  rfl
                rw [hall] at hown ⊢
                have hres : WRow w wr (Sha.block S b).list (.slice Ao (Sha.block S b).list.length co) :=
                  ⟨Hb1.out.trans ((Hb3.out.trans ((HBX.out.trans (hbe.mono HBX.out.size)).mono Hb3.out.size)).mono Hb1.out.size), Ao, co, rfl, hown.mono (Nat.le_trans Hb1.out.size (Nat.le_trans Hb3.out.size HBX.out.size))⟩
                obtain ⟨R, hR⟩ : ∃ R, R = (Sha.block S b).list := ⟨_, rfl⟩
                rw [← hR] at hres ⊢
                have HRES := hid2 hres
                have HRE := hid2 hR
                clear hres hown hall hi8' hR hi hll hi8
                go_wp2
                go_ret
                refine ⟨_, rfl, ?_⟩
                rw [← HRE.out]
                exact HRES.out
end
end Go.Proofs.YtjmfmlkjippiaaaDoor
