/- The walks of New and Add: a hash in memory. -/
import Derived.Test.YtehpapoboeejkaaDoorSha3
import Derived.Test.YtehpapoboeejkaaDoorMem3
import Derived.Deep.LoopGhost
import Derived.Deep.DeepMust
namespace Go.Proofs.YtehpapoboeejkaaDoor
open Go.RowKit

/-- the ten cells of a hash -/
def hashCells (S : Sha.S8) (A : Option Addr) (n c N : Nat) : Array Value := (w32s S.list ++ [Value.slice A n c, Value.int .u64 N]).toArray
/-- a hash in block g that was told l, of which q blocks are gone through -/
def HashMid (w : World) (base g : Nat) (l : List UInt8) (q : Nat) : Prop :=
  64 * q ≤ l.length ∧ base ≤ g ∧ ∃ A c, w.heap[g]? = some (.cells (hashCells (Sha.blocks q Sha.start l) A (l.length - 64 * q) c l.length) 108 (0, 0)) ∧
    Own w base 5 1 A (l.length - 64 * q) c (u8s (l.drop (64 * q)))
def HashAt (w : World) (base g : Nat) (l : List UInt8) : Prop := HashMid w base g l (l.length / 64)

def NewPost (w : World) (e : Ending) (w' : World) : Prop := ∃ g, e = .returned (.pointer (some ⟨g, 0, none⟩)) ∧ HashAt w' w.heap.size g [] ∧ Below w.heap.size w w'
theorem hnew_any (w : World) : Calls Tryd.prog 50 #[] w (NewPost w) := by
  go_enter Tryd.func50, Tryd.ntmps50
  go_wp2_with (first
    | (go_at_call 60; refine (shabegin_any _).mono ?_; rintro e w1 ⟨rfl, hb⟩; rw [w32s_start]))
  go_ret
  exact ⟨_, rfl, ⟨by simp, hb.size, none, 0, heap_alloc_new w1 _, Own.nil _ _ _ _⟩, hb.alloc hb.size _⟩

theorem laid_hash (S S' : Sha.S8) (A : Option Addr) (n c N : Nat) : laid (hashCells S A n c N) 0 (w32s S'.list) = hashCells S' A n c N := rfl
theorem hash_set8 (S : Sha.S8) (A A' : Option Addr) (n c N n' c' : Nat) : (hashCells S A n c N).setIfInBounds 8 (.slice A' n' c') = hashCells S A' n' c' N := rfl
theorem hash_set9 (S : Sha.S8) (A : Option Addr) (n c N N' : Nat) : (hashCells S A n c N).setIfInBounds 9 (.int .u64 (N' : Nat)) = hashCells S A n c N' := rfl
theorem info_u8 : (Tryd.prog.info? 5).map (fun i => (i.zero, i.size, i.bytes)) = some (some (.int .u8 0), 1, 1) := by kernel_rfl
/-- a hash while blocks are gone through: of D, q blocks are -/
def AddInv (w : World) (base g : Nat) (S : Sha.S8) (D : List UInt8) (N q : Nat) (w' : World) : Prop :=
  64 * q ≤ D.length ∧ Below base w w' ∧ w.heap.size ≤ w'.heap.size ∧ ∃ A c, w'.heap[g]? = some (.cells (hashCells (Sha.blocks q S D) A (D.length - 64 * q) c N) 108 (0, 0)) ∧
    Own w' base 5 1 A (D.length - 64 * q) c (u8s (D.drop (64 * q)))

theorem hash_get (S : Sha.S8) (A : Option Addr) (n c N : Nat) {j : Nat} (hj : j < (w32s S.list).length) : (hashCells S A n c N)[j]? = (w32s S.list)[j]? := by
  rw [hashCells, List.getElem?_toArray, List.getElem?_append_left hj]
theorem size_setCell (w : World) (a : Addr) (v : Value) : (w.setCell a v).heap.size = w.heap.size := by simp [World.setCell]
theorem AddInv.start {w w1 : World} {base g m c c' n N : Nat} {S : Sha.S8} {D : List UInt8} {A A' : Option Addr} (hbg : base ≤ g) (hg : w1.heap[g]? = some (.cells (hashCells S A n c N) 108 (0, 0)))
    (hown : Own w1 base 5 1 A' m c' (u8s D)) (hm : m = D.length) (hb : Below base w w1) : AddInv w base g S D N 0 (w1.setCell ⟨g, 8, none⟩ (.slice A' m c')) := by
  subst hm
  refine ⟨by omega, hb.setCell (by exact hbg) _, by rw [size_setCell]; exact hb.size, A', c', ?_, ?_⟩
  · rw [heap_setCell_same w1 g 8 _ _ _ hg, hash_set8]; rfl
  · exact hown.setOther (p := ⟨g, 8, none⟩) (hown.ne hg (by decide)) _
/-- what a round of Add does -/
theorem AddInv.round {w wr w2 : World} {base g q N b o c : Nat} {S : Sha.S8} {D : List UInt8} {A : Option Addr} (hbg : base ≤ g) (hq : 64 * (q + 1) ≤ D.length) (hbe : Below base w wr) (hbase : base ≤ wr.heap.size)
    (hown : Own wr base 5 1 (some ⟨b, o, none⟩) (D.length - 64 * q) c (u8s (D.drop (64 * q)))) (hne : b ≠ g)
    (hg2 : w2.heap[g]? = some (.cells (hashCells (Sha.block (Sha.blocks q S D) ((D.drop (64 * q)).take 64)) (some ⟨b, o, none⟩) (D.length - 64 * q) c N) 108 (0, 0))) (hgr : wr.grownBy w2 (some g))
    (hA : A = if c = 64 then some ⟨b, o, none⟩ else (some (⟨b, o, none⟩ : Addr)).map (·.add (64 * 1))) :
    AddInv w base g S D N (q + 1) (w2.setCell ⟨g, 8, none⟩ (.slice A (D.length - 64 * q - 64) (c - 64))) := by
  have hbe2 : Below base w w2 := hbe.grown hgr hbase (fun k e => by injection e with e; omega)
  have h1 := (hown.grown hgr (fun b' hb' e => by simp [blockOf] at hb'; injection e with e; omega)).drop (k := 64) (by omega)
  rw [← hA, Nat.mul_one, ← u8s_drop, List.drop_drop, show D.length - 64 * q - 64 = D.length - 64 * (q + 1) by omega, show 64 * q + 64 = 64 * (q + 1) by omega] at h1
  rw [show D.length - 64 * q - 64 = D.length - 64 * (q + 1) by omega]
  refine ⟨hq, hbe2.setCell (by exact hbg) _, by rw [size_setCell]; exact hbe2.size, A, c - 64, ?_, h1.setOther (p := ⟨g, 8, none⟩) (h1.ne hg2 (by decide)) _⟩
  rw [heap_setCell_same w2 g 8 _ _ _ hg2, hash_set8, Sha.blocks_succ]

set_option maxRecDepth 100000 in
set_option maxHeartbeats 800000 in
theorem add_core (w : World) (base g : Nat) (S : Sha.S8) (d : List UInt8) (N : Nat) (A : Option Addr) (c : Nat) (s : ByteArray) (D : List UInt8) (hD : D = d ++ s.data.toList) (hbg : base ≤ g) (hbase : base ≤ w.heap.size)
    (hg : w.heap[g]? = some (.cells (hashCells S A d.length c N) 108 (0, 0))) (hown : Own w base 5 1 A d.length c (u8s d)) (hN : N + s.size ≤ 140737488355328) (hd : d.length + s.size ≤ 140737488355328) :
    Calls Tryd.prog 51 #[.pointer (some ⟨g, 0, none⟩), .string s] w fun e w' => e = .returned (.tuple #[]) ∧ AddInv w base g S D (N + s.size) (D.length / 64) w' := by
  have hc8 : w.cell? ⟨g, 8, none⟩ = some (.slice A d.length c) := cell_of_row w g 8 _ _ _ hg
  have hc9 : w.cell? ⟨g, 9, none⟩ = some (.int .u64 N) := cell_of_row w g 9 _ _ _ hg
  have hf9 : w.frozen? ⟨g, 9, none⟩ = false := frozen_of_row w g 9 _ _ hg
  have hgl := heap_lt hg
  have hg1 : (w.setCell ⟨g, 9, none⟩ (.int .u64 ((N : Int) + s.size))).heap[g]? = some (.cells (hashCells S A d.length c (N + s.size)) 108 (0, 0)) := by
    rw [heap_setCell_same w g 9 _ _ _ hg, show (N : Int) + s.size = ((N + s.size : Nat) : Int) by omega, hash_set9]
  obtain ⟨n, hn⟩ : ∃ n, n = d.length := ⟨_, rfl⟩
  rw [← hn] at hc8 hown hd hg1
  have hL : n + s.size = D.length := by rw [hn, hD, List.length_append, Array.length_toList]; rfl
  have hu : u8s d ++ u8s s.data.toList = u8s D := by rw [hD, u8s_append]
  have hne := hown.ne hg (by decide)
  have h1 : Own (w.setCell ⟨g, 9, none⟩ (.int .u64 ((N : Int) + s.size))) base 5 1 A n c (u8s d) := hown.setOther hne _
  have hs1 : (w.setCell ⟨g, 9, none⟩ (.int .u64 ((N : Int) + s.size))).heap.size = w.heap.size := size_setCell _ _ _
  have HB := hid2 hown.block
  have HG1 := hid2 hg1
  have H1 := hid2 h1
  have HS1 := hid2 hs1
  have HL := hid2 hL
  have HU := hid2 hu
  have HNE := hid2 hne
  clear hn hg1 hg h1 hs1 hown hL hu hD hne
  have h63 : n + s.size ≤ maxLen := by unfold maxLen; omega
  go_enter Tryd.func51, Tryd.ntmps51
  go_wp2_with (first
    | (at_builtin; go_must ((with_reducible refine wpList_append_lit 5 (.int .u8 0) 1 1 Tryd.underlying54 info_u8 rfl base A n c (u8s d) H1.out s.size (u8s s.data.toList) (.string s) (Src.str Tryd.underlying9) (u8s_one _) h63 (by omega) (by rw [HS1.out]; exact hbase) ?_ ?_); exact ⟨rfl, rfl⟩; intro A' c' w1 hown1 hgr hbl; have hg2 := (hgr.block g (by rw [HS1.out]; exact hgl) (fun e => HNE.out e.symm)).trans HG1.out; have hc8' : w1.cell? ⟨g, 8, none⟩ = some (.slice A n c) := cell_of_row w1 g 8 _ _ _ hg2; have hf8' := frozen_of_row w1 g 8 _ _ hg2; have HG2 := hid2 hg2; clear hg2)))
  have hbw : Below base w w1 := ((Below.refl base w).setCell (p := ⟨g, 9, none⟩) (by exact hbg) (.int .u64 ((N : Int) + s.size))).grown hgr (by rw [HS1.out]; exact hbase) (fun k e => (HB.out k e).1)
  rw [HU.out] at hown1
  have hI := AddInv.start hbg HG2.out hown1 HL.out hbw
  clear hown1 hgr hbl hc8' hf8' hbw H1 HG1 HS1 HG2 HL hc8 hc9 hf9 h63 HB HU HNE
  go_loopg [] (D.length / 64) (fun gk wr => ∃ q, q + gk = D.length / 64 ∧ AddInv w base g S D (N + s.size) q wr)
  case atStart => exact ⟨0, by omega, hI⟩
  case round =>
    clear hI
    obtain ⟨q, hq, hqD, hbe, hsz, Aq, cq, hgq, hownq⟩ := hrel
    have hncq := hownq.2.1
    by_cases hge : 64 ≤ D.length - 64 * q
    · obtain ⟨b, o, cur, fr, rfl, hbb, hcur, _, hoc, hcx⟩ := hownq.at_ (by omega)
      have hsrc : ∀ j, j < 64 → wr.cell? ⟨b, o + j, none⟩ = some (.int .u8 (((D.drop (64 * q)).take 64).getD j 0).toNat) := by
        intro j hj
        rw [cell_of_row wr b _ cur _ _ hcur, hcx j (by omega), u8s_get _ (by rw [List.length_drop]; omega), List.getD_eq_getElem?_getD, List.getD_eq_getElem?_getD, List.getElem?_take, if_pos hj]
      have hbg' : b ≠ g := fun e => hownq.ne hgq (by decide) (by rw [blockOf, e]; rfl)
      have HGQ := hid2 hgq
      have HOWN := hid2 hownq
      have HSRC := hid2 hsrc
      have hbl := heap_lt hcur
      obtain ⟨m, hm⟩ : ∃ m, m = D.length - 64 * q := ⟨_, rfl⟩
      have hc8 : wr.cell? ⟨g, 8, none⟩ = some (.slice (some ⟨b, o, none⟩) m cq) := by rw [hm]; exact cell_of_row wr g 8 _ _ _ hgq
      have HMQ := hid2 hm
      rw [← hm] at hge hncq
      clear hm hgq hownq hsrc hcur hoc hcx hqD
      have hge' : (64 : Int) ≤ m := by omega
      have hcq' : (64 : Int) ≤ cq := by omega
      go_wp2_with fail
      go_still_tail 8, (by kernel_rfl)
      go_wp2_with fail
      refine (take_any g _ _ (Sha.blocks q S D) wr.drew HGQ.out (by decide : 8 ≤ 10) (fun j hj => hash_get _ _ _ _ _ hj) b o cq ((D.drop (64 * q)).take 64) hbl HSRC.out).mono ?_
      rintro e w2 ⟨rfl, hg2, hgr⟩
      rw [laid_hash] at hg2
      have hc8' : w2.cell? ⟨g, 8, none⟩ = some (.slice (some ⟨b, o, none⟩) m cq) := by rw [HMQ.out]; exact cell_of_row w2 g 8 _ _ _ hg2
      have hf8' := frozen_of_row w2 g 8 _ _ hg2
      have HG2 := hid2 hg2
      clear hg2 hc8
      have hgr' : wr.grownBy w2 (some g) := ⟨hgr.os, hgr.tape, hgr.output, hgr.size, hgr.block⟩
      have hR := fun (A : Option Addr) hA => AddInv.round (A := A) hbg (by have := HMQ.out; omega) hbe (by omega) HOWN.out hbg' HG2.out hgr' hA
      rw [← HMQ.out] at hR
      have HR := hid2 hR
      clear hR hgr
      by_cases h64 : cq = 64
      · subst h64
        go_wp2
        go_roundg (gk - 1)
        case rel => exact ⟨q + 1, by have := HMQ.out; omega, by have hh := HR.out (some ⟨b, o, none⟩) (by simp); rw [show m - 64 = 0 by omega] at hh; exact hh⟩
        case measure => have := HMQ.out; omega
      · go_wp2
        go_roundg (gk - 1)
        case rel => exact ⟨q + 1, by have := HMQ.out; omega, HR.out _ (by rw [if_neg h64]; simp [addr_add])⟩
        case measure => have := HMQ.out; omega
    · have hI : AddInv w base g S D (N + s.size) (D.length / 64) wr := by
        rw [show D.length / 64 = q by omega]
        exact ⟨hqD, hbe, hsz, Aq, cq, hgq, hownq⟩
      obtain ⟨m, hm⟩ : ∃ m, m = D.length - 64 * q := ⟨_, rfl⟩
      have hc8 : wr.cell? ⟨g, 8, none⟩ = some (.slice Aq m cq) := by rw [hm]; exact cell_of_row wr g 8 _ _ _ hgq
      rw [← hm] at hge
      have HI := hid2 hI
      clear hI hm hgq hownq hncq
      go_wp2
      go_end0
      exact ⟨rfl, HI.out⟩
set_option maxRecDepth 100000 in
/-- Add: behind it the hash was told both texts -/
theorem hadd_any (w : World) (base g : Nat) (l : List UInt8) (s : ByteArray) (h : HashAt w base g l) (hlen : l.length + s.size ≤ 140737488355328) (hbase : base ≤ w.heap.size) :
    Calls Tryd.prog 51 #[.pointer (some ⟨g, 0, none⟩), .string s] w fun e w' => e = .returned (.tuple #[]) ∧ HashAt w' base g (l ++ s.data.toList) ∧ Below base w w' ∧ w.heap.size ≤ w'.heap.size := by
  obtain ⟨hq, hbg, A, c, hg, hown⟩ := h
  have hdl : (l.drop (64 * (l.length / 64))).length = l.length - 64 * (l.length / 64) := List.length_drop
  rw [← hdl] at hg hown
  have hss : s.data.toList.length = s.size := by rw [Array.length_toList]; rfl
  refine (add_core w base g _ _ l.length A c s _ rfl hbg hbase hg hown hlen (by omega)).mono ?_
  rintro e w' ⟨rfl, hqD, hbe, hsz, A', c', hg', hown'⟩
  have hDl : (l.drop (64 * (l.length / 64)) ++ s.data.toList).length = l.length - 64 * (l.length / 64) + s.size := by rw [List.length_append, hdl, hss]
  have hl : (l ++ s.data.toList).length = l.length + s.size := by rw [List.length_append, hss]
  have hqq : (l ++ s.data.toList).length / 64 = l.length / 64 + (l.drop (64 * (l.length / 64)) ++ s.data.toList).length / 64 := by rw [hDl, hl]; omega
  have hdrop : (l ++ s.data.toList).drop (64 * (l.length / 64)) = l.drop (64 * (l.length / 64)) ++ s.data.toList := by rw [List.drop_append_of_le_length (by omega)]
  refine ⟨rfl, ⟨by omega, hbg, A', c', ?_, ?_⟩, hbe, hsz⟩
  · rw [hqq, Sha.blocks_add, hdrop, Sha.blocks_congr (l.length / 64) Sha.start (l ++ s.data.toList) l (by rw [List.take_append_of_le_length (by omega)]), hl]
    rw [show l.length + s.size - 64 * (l.length / 64 + (l.drop (64 * (l.length / 64)) ++ s.data.toList).length / 64) = (l.drop (64 * (l.length / 64)) ++ s.data.toList).length - 64 * ((l.drop (64 * (l.length / 64)) ++ s.data.toList).length / 64) by rw [hDl]; omega]
    exact hg'
  · rw [hqq, hl, show 64 * (l.length / 64 + (l.drop (64 * (l.length / 64)) ++ s.data.toList).length / 64) = 64 * (l.length / 64) + 64 * ((l.drop (64 * (l.length / 64)) ++ s.data.toList).length / 64) by omega, ← List.drop_drop, hdrop,
      show l.length + s.size - (64 * (l.length / 64) + 64 * ((l.drop (64 * (l.length / 64)) ++ s.data.toList).length / 64)) = (l.drop (64 * (l.length / 64)) ++ s.data.toList).length - 64 * ((l.drop (64 * (l.length / 64)) ++ s.data.toList).length / 64) by rw [hDl]; omega]
    exact hown'
end Go.Proofs.YtehpapoboeejkaaDoor
