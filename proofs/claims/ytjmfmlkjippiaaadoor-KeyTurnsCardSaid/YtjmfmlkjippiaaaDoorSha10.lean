/- The walk of the document's Sum. -/
import Derived.Test.YtjmfmlkjippiaaaDoorSha9
namespace Go.Proofs.YtjmfmlkjippiaaaDoor
open Go.RowKit
set_option maxRecDepth 100000
theorem whole_64 (l : List UInt8) : (Sha.whole l).length = 64 * ((Sha.whole l).length / 64) := by
  rw [Sha.whole, List.length_append, Sha.tail_len]; omega
theorem whole_le (l : List UInt8) : (Sha.whole l).length ≤ l.length + 72 := by
  rw [Sha.whole, List.length_append, Sha.tail_len]; omega
theorem whole_u8 (l : List UInt8) (j : Nat) (h : j < l.length) : (u8s l)[j]? = some (.int .u8 (l.getD j 0).toNat) := u8s_get l h
theorem s8_len (S : Sha.S8) : S.list.length = 8 := rfl
/-- the digest's block while the document's sum fills it -/
structure OutR (w wr : World) (F : Sha.S8) (G k hb ho : Nat) : Prop where
  res : ResAt w wr
  out_ : wr.heap[G]? = some (.cells (u8s (outK F k)).toArray 32 (0, 0))
  words : ∀ j, j < 8 → wr.cell? ⟨hb, ho + j, none⟩ = some (.int .u32 (F.list.getD j 0).toNat)
  ge : w.heap.size + 1 ≤ G
  ne : hb ≠ G
theorem OutR.frozen {w wr : World} {F : Sha.S8} {G k hb ho : Nat} (h : OutR w wr F G k hb ho) (j : Nat) : wr.frozen? ⟨G, j, none⟩ = false := frozen_of_row wr G j _ _ h.out_
theorem OutR.target {w wr : World} {F : Sha.S8} {G k hb ho : Nat} (h : OutR w wr F G k hb ho) (j : Nat) (hj : j < 32) : wr.cell? ⟨G, j, none⟩ = some (.int .u8 ((outK F k).getD j 0).toNat) := by
  have hk : (outK F k).length ≥ 32 := by rw [outK, List.length_append, List.length_take, out_length, List.length_replicate]; omega
  exact cell_of_row wr G j _ _ _ h.out_ |>.trans (by rw [List.getElem?_toArray]; exact u8s_get _ (by omega))
theorem OutR.set {w wr : World} {F : Sha.S8} {G k hb ho : Nat} (h : OutR w wr F G k hb ho) (hk : k < 32) (v : Int) (hv : v = (Sha.byteOf F k).toNat) : OutR w (wr.setCell ⟨G, k, none⟩ (.int .u8 v)) F G (k + 1) hb ho := by
  subst hv
  have hge := h.ge
  refine ⟨⟨?_, ?_⟩, ?_, ?_, h.ge, h.ne⟩
  · exact (heap_setCell_other wr _ _ _ (by simp; omega)).trans h.res.row
  · exact h.res.below.setCell (by simp; omega) _
  · rw [heap_setCell_same wr G k _ _ _ h.out_, u8s_set, outK_set F k hk]
  · intro j hj
    exact (World.cell?_of_block (heap_setCell_other wr _ _ _ (by simpa using h.ne))).trans (h.words j hj)
set_option maxHeartbeats 2000000 in
theorem refsum_any (w : World) (s : ByteArray) (hs : s.size ≤ 20000) :
    Calls Tryd.prog 23 #[.string s] w fun e w' => e = .returned (.agg (u8s (Sha.sum s.data.toList)).toArray) ∧ Below w.heap.size w w' := by
  have hr0 := ResAt.start w
  have hL0 := Rd.of_lit (w.alloc (.cells (u8s (List.replicate 32 0)).toArray 32)) (w32s Sha.start.list).toArray 72 1 8 (by decide) rfl
  have HR0 := hid2 (hr0.ext ((Below.refl _ _).alloc (Nat.le_refl _) (.cells (w32s Sha.start.list).toArray 72)))
  have HL0 := hid2 hL0
  clear hr0 hL0
  go_enter Tryd.func23, Tryd.ntmps23
  go_wp2_with (first
    | (go_at_call 40; refine (whole_any _ s hs).mono ?_; rintro e w1 ⟨v, rfl, hbe, Ab, cb, rfl, hown⟩))
  have hr1 : ResAt w w1 := HR0.out.ext hbe
  have hR1 : Rd w1 1 (some ⟨w.heap.size + 1, 0, none⟩) 8 (w32s (Sha.blocks 0 Sha.start (Sha.whole s.data.toList)).list) := by
    have := HL0.out.below_all hbe
    rw [show Sha.blocks 0 Sha.start (Sha.whole s.data.toList) = Sha.start from rfl]
    simpa using this
  have h64 := whole_64 s.data.toList
  have hwle := whole_le s.data.toList
  rw [toList_length] at hwle
  obtain ⟨d, hd⟩ : ∃ d, d = Sha.whole s.data.toList := ⟨_, rfl⟩
  rw [← hd] at hown hR1 h64 hwle ⊢
  obtain ⟨q, hq⟩ : ∃ q, q = d.length / 64 := ⟨_, rfl⟩
  obtain ⟨n, hn⟩ : ∃ n, n = d.length := ⟨_, rfl⟩
  rw [← hq] at h64
  rw [← hn] at h64 hown hwle ⊢
  have hrb := hown.rd
  have hncb := hown.2.1
  have HD := hid2 hd
  have HQ := hid2 hq
  have HN := hid2 hn
  have hq20 : q ≤ 320 := by omega
  have hn2k : (n : Int) ≤ 21000 := by omega
  have HRB := hid2 hrb
  have H64 := hid2 h64
  have hn64 : (n : Int) = 64 * (q : Int) := by omega
  have HN64 := hid2 hn64
  clear HR0 HL0 hbe hown hd hq hn hrb hwle h64 hn64
  go_loopg [3, 5] q (fun gk v i wx => ∃ p : Nat, p + gk = q ∧ i = .int .i64 (64 * (p : Int)) ∧ Below w1.heap.size w1 wx ∧ ∃ A c, v = .slice A 8 c ∧ Rd wx 1 A 8 (w32s (Sha.blocks p Sha.start d).list))
  case atStart => exact ⟨0, by omega, rfl, Below.refl _ _, _, _, rfl, hR1⟩
  case round =>
    clear hR1
    obtain ⟨p, hp, rfl, hbx, A, c, rfl, hR⟩ := hrel
    obtain ⟨S, hS⟩ : ∃ S, S = Sha.blocks p Sha.start d := ⟨_, rfl⟩
    rw [← hS] at hR
    have HS := hid2 hS
    obtain ⟨hb, ho, rfl, hcs⟩ := hR.2 (by omega)
    have hcell : ∀ j, j < 8 → wr.cell? ⟨hb, ho + j, none⟩ = some (.int .u32 (S.list.getD j 0).toNat) := fun j hj => hcs j _ (w32s_get S.list hj)
    have hhb : hb < wr.heap.size := World.block_lt_of_cell? wr _ (hcell 0 (by omega))
    have HC := hid2 hcell
    have HBX := hid2 hbx
    have hsx := hbx.size
    clear hS hcs hR hcell hbx
    by_cases hpq : p < q
    · have hlt : 64 * (p : Int) < n := by have := HN64.out; omega
      obtain ⟨bb, bo, rfl, hbc⟩ := HRB.out.2 (by have := H64.out; omega)
      have hbcell : ∀ j, j < 64 → wr.cell? ⟨bb, bo + 64 * p + j, none⟩ = some (.int .u8 (((d.drop (64 * p)).take 64).getD j 0).toNat) := by
        intro j hj
        have h := hbc (64 * p + j) _ (u8s_get d (by have := HN.out; have := H64.out; omega))
        rw [Nat.add_assoc, HBX.out.cell (by exact World.block_lt_of_cell? w1 _ h), h, List.getD_eq_getElem?_getD, List.getD_eq_getElem?_getD, List.getElem?_take, if_pos hj, List.getElem?_drop]
      have hwn' : 64 * (p : Int) + 64 ≤ n := by have := HN64.out; omega
      have hbb : bb < wr.heap.size := World.block_lt_of_cell? wr _ (hbcell 0 (by omega))
      have hw0 : (0 : Int) ≤ 64 * (p : Int) + 64 := by omega
      have hwn : 64 * (p : Int) + 64 ≤ cb := by have := HN64.out; omega
      have hw64 : IntKind.i64.wrap (64 * (p : Int) + 64) = 64 * (p : Int) + 64 := IntWalk.i64_in _ (by constructor <;> omega)
      have HBC := hid2 hbcell
      clear hbcell hbc
      have hcap : 64 ≤ cb - 64 * p := by have := HN64.out; omega
      go_wp2_with (first
        | (go_at_call 41; refine (block_any wr hb ho bb (bo + 64 * p) c (cb - 64 * p) S ((d.drop (64 * p)).take 64) hhb hbb HC.out HBC.out hcap).mono ?_; rintro e w3 ⟨v, rfl, hbe3, A3, c3, rfl, hown3⟩; rw [s8_len] at hown3 ⊢; have HOWN3 := hid2 hown3; clear hown3))
      go_roundg (gk - 1)
      case rel =>
        refine ⟨p + 1, by omega, by go_num, HBX.out.trans (hbe3.mono HBX.out.size), A3, c3, rfl, ?_⟩
        rw [Sha.blocks_succ, ← HS.out]
        exact HOWN3.out.rd
      case measure => omega
    · have hpq' : p = q := by omega
      have hF : S = Sha.blocks ((Sha.whole s.data.toList).length / 64) Sha.start (Sha.whole s.data.toList) := by rw [HS.out, hpq', HQ.out, HD.out]
      have HF := hid2 hF
      have hnl : ¬ 64 * (p : Int) < n := by have := HN64.out; omega
      have hr2 := hr1.ext (HBX.out)
      obtain ⟨wz, hwz⟩ : ∃ wz, wz = wr := ⟨_, rfl⟩
      subst hwz
      have hOM : OutR w (wz.alloc (.cells (u8s (List.replicate 32 0)).toArray 32)) S wz.heap.size 0 hb ho :=
        ⟨hr2.ext ((Below.refl _ _).alloc (Nat.le_refl _) _), heap_alloc_new wz _, fun j hj => (((Below.refl wz.heap.size wz).alloc (Nat.le_refl _) _).cell hhb).trans (HC.out j hj), hr2.size, by omega⟩
      have HOM0 := hid2 hOM
      clear hpq' hF hr2 hr1 hp hpq hOM
      go_wp2_with (first
        | (refine wpList_gen (fun w2 => OutR w w2 S wz.heap.size 0 hb ho) HOM0.out ?_; intro w2 hOM2; have h0 : w2.heap[wz.heap.size]? = some (.cells (u8s (List.replicate 32 0)).toArray 32 (0, 0)) := hOM2.out_; (with_reducible refine wpList_store_lit wz.heap.size 0 (.agg (u8s (List.replicate 32 0)).toArray) (u8s (List.replicate 32 0)) (agg_cells _) _ _ h0 (info_h8' List.length_replicate) (fit_h List.length_replicate) (u8s_one _) ?_ ?_); exact ⟨rfl, rfl⟩; rw [laid_all (by simp), setRow_self _ _ _ _ _ h0]; clear h0 HOM0))
      obtain ⟨G, hG⟩ : ∃ G, G = wz.heap.size := ⟨_, rfl⟩
      have hOM := hOM2
      rw [← hG] at hOM ⊢
      clear hG hOM2
      go_loopw [7] (fun i wx => ∃ k : Nat, k ≤ 32 ∧ i = .int .i64 k ∧ OutR w wx S G k hb ho) (fun i _ => 32 - (intOf i).toNat)
      case atStart => exact ⟨0, by omega, rfl, hOM⟩
      case round =>
        clear hOM
        obtain ⟨k, hk, rfl, hOM⟩ := hrel
        by_cases hlt : k < 32
        · have hcell := hOM.words (k / 4) (by omega)
          have hfr := hOM.frozen k
          have hct := hOM.target k hlt
          have hsub : (0 : Int) ≤ 24 - 8 * ((k : Int) % 4) := by omega
          have HOM := hid2 hOM
          clear hOM
          go_wp2
          go_roundw
          case rel => exact ⟨k + 1, by omega, by go_num, HOM.out.set hlt _ (by rw [← byteOf_int, List.getD_eq_getElem?_getD])⟩
          case measure => simp [intOf]; omega
        · have hk32 : k = 32 := by omega
          have HK := hid2 hk32
          have h1 := hid2 hOM.out_
          have h2 := hid2 hOM.res
          have hol := outK_length S k (by omega)
          have HOL := hid2 hol
          clear hk32 hk hOM hol
          go_wp2_with (first
            | ((with_reducible refine wpList_load_lit G 0 _ _ _ h1.out (u8s (outK S k)) (fun j _ => getElem?_zero_add _ j) _ Tryd.underlying32 (info_h8' HOL.out) ?_ ?_); exact ⟨rfl, rfl⟩)
            | ((with_reducible refine wpList_store_lit w.heap.size 0 (.agg (u8s (outK S k)).toArray) (u8s (outK S k)) (agg_cells _) _ _ (ResAt.row h2.out) (info_h8' HOL.out) (fit_h HOL.out) (u8s_one _) ?_ ?_); exact ⟨rfl, rfl⟩))
          have hfin : outK S k = Sha.sum s.data.toList := by
            rw [HK.out, outK_full, HF.out, Sha.sum]
          rw [← hfin]
          exact bodyPost_ret (v := .agg (u8s (outK S k)).toArray) (results_cell_row rfl _ _ _ 32 _ (0, 0) _ rfl (ResAt.wrote h2.out _ HOL.out) Tryd.underlying32 rfl (by rw [List.size_toArray]; exact info_h8' HOL.out)) rfl ⟨rfl, ResAt.below2 h2.out _⟩
end Go.Proofs.YtjmfmlkjippiaaaDoor
