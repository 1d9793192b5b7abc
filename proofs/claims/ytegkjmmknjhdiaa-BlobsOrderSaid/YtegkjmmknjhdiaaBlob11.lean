/- slices.SortedFunc at digests, and a store's All. (slices.SortFunc's contract is a premise here: text Blob12 pays it.) -/
import Derived.Test.YtegkjmmknjhdiaaBlob10
namespace Go.Proofs.Ytegkjmmknjhdiaa
open Go.RowKit Go.Maps Go.Sort Go.Lib
abbrev cmpV : Value := .func (.func 58) #[] #[]
structure SortsD : Prop where
  some : ∀ (blk off cap : Nat) (d : Array Dig) (w : World), HoldsK digC 32 w blk off d → blk < w.heap.size → d.size < 4611686018427387904 →
    Calls Try.prog 68 #[.slice (some ⟨blk, off, none⟩) d.size cap, cmpV] w fun e w' => e = .returned (.tuple #[]) ∧ ∃ d' n os, PermIn 0 d.size d d' ∧ SortedIn (ltOf cfD) 0 d.size d' ∧ w' = sortWorldK digC 32 w blk off n d' os
  none : ∀ (w : World), Calls Try.prog 68 #[.slice none 0 0, cmpV] w fun e w' => e = .returned (.tuple #[]) ∧ w' = w
set_option maxRecDepth 100000 in
set_option maxHeartbeats 1000000 in
theorem sortedD_in (hS : SortsD) (n : Nat) (hn : 4 ≤ n) (g : Nat) (lb : Array Value) (eg : ∀ args w, (callFunc g args).run Try.prog w = .ok (.enter g args) w)
    (M : Tab (List UInt8)) (hr : Rises M) (hN : M.length ≤ 1000000000) (w : World) (hseq : SeqGives Fence.wide (n - 1 - 1 - 1) Try.prog g lb digK (fun ss => (ss.map (·.1)).Perm (M.map (·.1))) M.length w) :
    CallsIn Fence.wide n Try.prog 56 #[.func (.func g) #[] lb, cmpV] w fun e w' => ∃ (v : Value) (ts : List Dig), e = .returned v ∧ ts.map (·.1) = M.map (·.1) ∧ w'.ownsRow (w.heap.size + 3) 39 32 v ts.length (digs ts) ∧ Below w.heap.size w w' := by
  have cC := collectD_in (n - 1) (by omega) g lb eg _ M.length (by unfold maxLen; omega) (by omega) w hseq
  have h1 : 1 ≤ n := by omega
  have hfC := wide_fn 67
  have hfS := wide_fn 68
  refine callsIn_of_wp Try.func56 rfl trivial ?_ rfl
  simp only [Try.ntmps56, List.size_toArray, List.length_cons, List.length_nil, Nat.reduceAdd, Nat.reduceSub, Array.replicate_succ, Array.replicate_zero, List.push_toArray, List.append_toArray, List.nil_append, List.cons_append]
  gi_wp2_with (gi_at_call 67; refine cC.mono ?_; rintro e W ⟨v, ss, rfl, hp, hrow, hnil, hb⟩)
  have hl : ss.length = M.length := by have := hp.length_eq; simpa using this
  rcases hrow.2 with ⟨rfl, hz⟩ | ⟨gb, cap, cur, rfl, hbase, hgb, r1, r2, r3, r4⟩
  · have hss : ss = [] := List.eq_nil_of_length_eq_zero hz
    subst hss
    have cS : CallsIn Fence.wide (n - 1) Try.prog 68 #[.slice none 0 0, cmpV] W fun e w' => e = .returned (.tuple #[]) ∧ w' = W := callsIn_wide.2 (hS.none W)
    have HP := hid2 hp
    have HROW := hid2 hrow
    clear hp hrow hnil hseq cC
    gi_wp2_with (gi_at_call 68; refine cS.mono ?_; rintro e w' ⟨rfl, rfl⟩)
    go_ret
    refine ⟨_, [], rfl, ?_, HROW.out, hb⟩
    have := HP.out.length_eq
    simp only [List.map_nil, List.length_nil] at this
    exact (List.eq_nil_of_length_eq_zero this.symm).symm
  · have hH : HoldsK digC 32 W gb 0 ss.toArray := holdsK_digs hgb r4
    have hgl : gb < W.heap.size := (Array.getElem?_eq_some_iff.1 hgb).1
    have cS : CallsIn Fence.wide (n - 1) Try.prog 68 #[.slice (some ⟨gb, 0, none⟩) ss.length cap, cmpV] W fun e w' => e = .returned (.tuple #[]) ∧ ∃ d' n os, PermIn 0 ss.toArray.size ss.toArray d' ∧ SortedIn (ltOf cfD) 0 ss.toArray.size d' ∧ w' = sortWorldK digC 32 W gb 0 n d' os :=
      callsIn_wide.2 (hS.some gb 0 cap ss.toArray W hH hgl (by simp; omega))
    have HP := hid2 hp
    have HGB := hid2 hgb
    have HC := hid2 r3
    clear hp hrow hnil hseq cC hH hgb r4 r3
    gi_wp2_with (gi_at_call 68; refine cS.mono ?_; rintro e w' ⟨rfl, d', nn, os, hP, hSo, rfl⟩)
    go_ret
    have hk := sorted_keys hr HP.out hP hSo
    have hd : d'.toList.length = ss.length := by have := hP.1; simpa using this
    refine ⟨_, d'.toList, rfl, hk, ?_, hb.grown (grownBy_sortedD d'.toList) hb.size (fun j e => by cases e; omega)⟩
    have h := ownsRow_sortedD (n := nn) (os := os) (ts := d'.toList) hd hbase HGB.out r1 r2 HC.out
    rw [hd]
    rw [hl] at h ⊢
    exact h
theorem own_of_rowD {w : World} {base : Nat} {e : TypeId} {v : Value} {n : Nat} {xs : List Value} (h : w.ownsRow base e 32 v n xs) : ∃ A c, v = .slice A n c ∧ Own w base e 32 A n c xs := by
  obtain ⟨hl, ⟨rfl, rfl⟩ | ⟨g, cap, cur, rfl, hb, hg, hn, hm, hc, hx⟩⟩ := h
  · have : xs = [] := List.eq_nil_of_length_eq_zero (by simpa using hl)
    subst this
    exact ⟨none, 0, rfl, Own.nil _ _ _ _⟩
  · refine ⟨some ⟨g, 0, none⟩, cap, rfl, hl, hn, hm, .inr ⟨g, 0, cur, (0, 0), rfl, hb, hg, .inl rfl, by omega, fun j hj => ?_⟩⟩
    rw [Nat.zero_add, ← hx, List.getElem?_take, if_pos hj]; simp
def keysV {α : Type} (M : Tab α) : List Value := (M.map (·.1)).flatMap u8s
theorem digs_keys {α : Type} {M : Tab α} {ts : List Dig} (h : ts.map (·.1) = M.map (·.1)) : digs ts = keysV M := by
  rw [keysV, ← h, List.flatMap_map]
  rfl
set_option maxRecDepth 100000 in
set_option maxHeartbeats 1000000 in
theorem all_any (hS : SortsD) (w : World) (s b n : Nat) (M : Tab (List UInt8)) (z : Int) (h : StoreIs w s b n M z) (hn : n ≤ 1000000000) :
    Calls Try.prog 34 #[.pointer (some ⟨s, 0, none⟩)] w fun e w' => ∃ A c, e = .returned (.slice A M.length c) ∧ Own w' w.heap.size 39 32 A M.length c (keysV M) ∧ Below w.heap.size w w' := by
  have hml := h.map.length_le
  have hri := h.map.rises keyed_dig
  have c0 : w.cell? ⟨s, 0, none⟩ = some (.map (some b)) := h.box.cells 0
  have cK := bkeys_in 7 (by omega) b w
  have cS := sortedD_in hS 7 (by omega) 69 #[.pointer (some ⟨w.heap.size, 0, none⟩)] (enters_of Try.func69 (by kernel_rfl) rfl) M hri (by omega) (w.alloc (.cells #[.map (some b)] 76))
    (bkeys_gives 4 (by omega) w.heap.size b n M _ (by simp) (cell_of_row _ _ 0 _ _ _ (heap_alloc_new w _)) (h.map.alloc _))
  have hfK := wide_fn 57
  have hfS := wide_fn 56
  clear hri h hS
  refine (callsIn_wide (n := 8)).1 ?_
  refine callsIn_of_wp Try.func34 rfl trivial ?_ rfl
  simp only [Try.ntmps34, List.size_toArray, List.length_cons, List.length_nil, Nat.reduceAdd, Nat.reduceSub, Array.replicate_succ, Array.replicate_zero, List.push_toArray, List.append_toArray, List.nil_append, List.cons_append]
  gi_wp2_with (first
    | (gi_at_call 57; refine cK.mono ?_; rintro e w' ⟨rfl, rfl⟩)
    | (gi_at_call 56; refine cS.mono ?_; rintro e w' ⟨v, ts, rfl, hk, hrow, hb⟩))
  go_ret
  have hl : ts.length = M.length := by have := congrArg List.length hk; simpa using this
  rw [hl, digs_keys hk] at hrow
  obtain ⟨A, c, rfl, ho⟩ := own_of_rowD hrow
  exact ⟨A, c, rfl, ho.mono (by simp; omega), ((Below.refl _ w).alloc (Nat.le_refl _) _).trans (hb.mono (by simp))⟩
end Go.Proofs.Ytegkjmmknjhdiaa
