/- The walks of package disk: New, Budget, begin. -/
import Derived.Test.YtehpapoboeejkaaDoorDMap
import Derived.Test.YtehpapoboeejkaaDoorReg3
import Derived.Test.YtehpapoboeejkaaDoorStr
import Derived.Test.YtehpapoboeejkaaDoorBut
namespace Go.Proofs.YtehpapoboeejkaaDoor
open Go.RowKit Go.Maps
/-- a file: its bytes, and how many of them are sure -/
abbrev FileE := List UInt8 × Nat
def encFile (f : FileE) : Value := .agg #[.string (strB f.1), .int .i64 f.2]
theorem encFile_inj (a b : FileE) (h : encFile a = encFile b) : a = b := by
  unfold encFile at h
  injection h with h
  simp only [Array.mk.injEq, List.cons.injEq, Value.string.injEq, Value.int.injEq, and_true, true_and] at h
  have h1 : a.1 = b.1 := by rw [← strB_list a.1, ← strB_list b.1, h.1]
  exact Prod.ext h1 (by omega)
theorem zero_file (w : World) : (zeroValue 66).run Tryd.prog w = .ok (encFile ([], 0)) w := by kernel_rfl
/-- the disk p, its files in the map b: the table M, at most n entries ever, so many calls left -/
def DiskIs (w : World) (p b n : Nat) (M : Tab FileE) (left : Int) : Prop :=
  w.heap[p]? = some (.cells #[.map (some b), .int .i64 left] 44 (0, 0)) ∧ MapIs w Tryd.prog 9 encFile b n M
theorem DiskIs.ne {w : World} {p b n : Nat} {M : Tab FileE} {left : Int} (h : DiskIs w p b n M left) : p ≠ b := by
  rintro rfl
  obtain ⟨es, clock, hb, _⟩ := h.2
  rw [h.1] at hb; cases hb
theorem DiskIs.lt {w : World} {p b n : Nat} {M : Tab FileE} {left : Int} (h : DiskIs w p b n M left) : p < w.heap.size ∧ b < w.heap.size := ⟨heap_lt h.1, h.2.lt⟩
theorem DiskIs.below {w w' : World} {p b n B : Nat} {M : Tab FileE} {left : Int} (h : DiskIs w p b n M left) (hb : Below B w w') (h1 : p < B) (h2 : b < B) : DiskIs w' p b n M left := ⟨(hb.block _ h1).trans h.1, h.2.below hb h2⟩
theorem DiskIs.same {w w' : World} {p b n : Nat} {M : Tab FileE} {left : Int} (h : DiskIs w p b n M left) (h1 : w'.heap[p]? = w.heap[p]?) (h2 : w'.heap[b]? = w.heap[b]?) : DiskIs w' p b n M left := ⟨h1.trans h.1, h.2.keep h2⟩
theorem new_any (w : World) : Calls Tryd.prog 5 #[] w fun e w' => e = .returned (.pointer (some ⟨w.heap.size + 1, 0, none⟩)) ∧ DiskIs w' (w.heap.size + 1) w.heap.size 0 [] (-1) ∧ Below w.heap.size w w' ∧ w'.heap.size = w.heap.size + 2 := by
  have hmm := @run_makeMap Tryd.prog
  go_enter Tryd.func5, Tryd.ntmps5
  go_wp2
  go_ret
  refine ⟨rfl, ⟨?_, ?_⟩, ?_, ?_⟩
  · have := heap_alloc_new (w.alloc (.map #[] 0)) (.cells #[.map (some w.heap.size), .int .i64 (-1)] 44)
    rwa [World.size_alloc] at this
  · exact (MapIs.made w _ _ _).alloc _
  · exact ((Below.refl _ w).alloc (Nat.le_refl _) _).alloc (by simp) _
  · simp
/-- the first place of a text in a row, or -1 -/
theorem sindexs_any (w : World) (A : Option Addr) (c : Nat) (ns : List ByteArray) (x : ByteArray) (hr : Rd w 1 A ns.length (ns.map Value.string)) (hl : ns.length ≤ 1000000000) :
    Calls Tryd.prog 44 #[.slice A ns.length c, .string x] w fun e w' => ∃ v : Int, e = .returned (.int .i64 v) ∧ (0 ≤ v ↔ x ∈ ns) ∧ w' = w := by
  have hl' : (ns.length : Int) ≤ 1000000000 := by omega
  obtain ⟨N, hN⟩ : ∃ N, N = ns.length := ⟨_, rfl⟩
  rw [← hN] at hr hl hl' ⊢
  have HN := hid2 hN
  clear hN
  go_enter Tryd.func44, Tryd.ntmps44
  go_wp2_with fail
  go_loop [8] (fun i => ∃ k : Nat, k ≤ N ∧ i = .int .i64 k ∧ Hid2 (x ∉ ns.take k)) (fun i => N - (intOf i).toNat)
  case atStart => exact ⟨0, Nat.zero_le _, rfl, hid2 (by simp)⟩
  case round =>
    obtain ⟨k, hk, rfl, hno⟩ := hrel
    by_cases hlt : k < N
    · have hlt' : (k : Int) < N := by omega
      have hkl : k < ns.length := by rw [← HN.out]; exact hlt
      obtain ⟨b, o, rfl, hcell⟩ := hr.cell (j := k) (by simpa using hkl)
      rw [List.getElem_map] at hcell
      obtain ⟨y, hy⟩ : ∃ y, y = ns[k]'hkl := ⟨_, rfl⟩
      rw [← hy] at hcell
      by_cases hxy : x = y
      · have hin : Hid2 (x ∈ ns) := hid2 (by rw [hxy, hy]; exact List.getElem_mem hkl)
        have hbe : (x.toList == y.toList) = true := by rw [hxy]; exact beq_self_eq_true _
        clear hxy hy hkl
        go_wp2_with fail
        go_ret
        exact ⟨k, rfl, ⟨fun _ => hin.out, fun _ => by omega⟩, rfl⟩
      · have hno2 : Hid2 (x ∉ ns.take (k + 1)) := hid2 (by
          rw [List.take_succ_eq_append_getElem hkl, List.mem_append, List.mem_singleton, ← hy]
          exact fun h => h.elim hno.out hxy)
        have hbe : (x.toList == y.toList) = false := by
          rw [beq_eq_false_iff_ne]
          intro h
          exact hxy (bytes_ext (by rw [← ByteArray.toList_eq, ← ByteArray.toList_eq, h]))
        clear hxy hy hkl
        go_wp2_with fail
        go_round
        case rel => exact ⟨k + 1, by omega, by go_num, hno2⟩
        case measure => simp [intOf]; omega
    · have hlt' : ¬ (k : Int) < N := by omega
      have hno2 : Hid2 (x ∉ ns) := hid2 (by
        have := hno.out
        rwa [List.take_of_length_le (by rw [← HN.out]; omega)] at this)
      go_wp2_with fail
      go_ret
      exact ⟨-1, rfl, ⟨fun h => by omega, fun h => absurd h hno2.out⟩, rfl⟩
theorem contains_any (w : World) (A : Option Addr) (c : Nat) (ns : List ByteArray) (x : ByteArray) (v : Bool) (hr : Rd w 1 A ns.length (ns.map Value.string)) (hl : ns.length ≤ 1000000000) (hv : v = true ↔ x ∈ ns) :
    Calls Tryd.prog 32 #[.slice A ns.length c, .string x] w fun e w' => e = .returned (.bool v) ∧ w' = w := by
  have hc := sindexs_any w A c ns x hr hl
  obtain ⟨N, hN⟩ : ∃ N, N = ns.length := ⟨_, rfl⟩
  rw [← hN] at hc ⊢
  have HV := hid2 hv
  clear hN hv hr hl
  go_enter Tryd.func32, Tryd.ntmps32
  go_wp2_with (go_at_call 44; refine hc.mono ?_; rintro e w2 ⟨i, rfl, hi, rfl⟩; have HI := hid2 hi; clear hi)
  go_ret
  refine ⟨?_, rfl⟩
  show Ending.returned (Value.bool _) = Ending.returned (Value.bool v)
  congr 2
  rw [Bool.eq_iff_iff, decide_eq_true_eq, HI.out, HV.out]
theorem any_empty (ns : List ByteArray) : ns.any (fun s => s.data.toList.isEmpty) = true ↔ (⟨#[]⟩ : ByteArray) ∈ ns := by
  rw [List.any_eq_true]
  constructor
  · rintro ⟨s, hs, he⟩
    have : s = ⟨#[]⟩ := bytes_ext (by rw [List.isEmpty_iff.1 he])
    rw [← this]; exact hs
  · intro h
    exact ⟨_, h, rfl⟩
/-- what begin answers -/
def beginE (M : Tab FileE) (left : Int) (there : Bool) (ns : List ByteArray) (k : List UInt8) : Int :=
  if ns.any (fun s => s.data.toList.isEmpty) = true then 1 else if (there && (getM M k).isNone) = true then 10 else if left = 0 then 18 else 0
def beginL (M : Tab FileE) (left : Int) (there : Bool) (ns : List ByteArray) (k : List UInt8) : Int :=
  if beginE M left there ns k = 0 ∧ 0 < left then left - 1 else left
/-- files of a disk, in a region that draws -/
def Ext2 (H : Nat) (a b : World) : Prop := Below H a b ∧ ∀ (k : Nat) (cs : Array Value), a.heap[k]? = some (.cells cs 66 (0, 0)) → cs.size = 2 → ∃ cs' : Array Value, b.heap[k]? = some (.cells cs' 66 (0, 0)) ∧ cs'.size = 2
def Fresh (H : Nat) (v : Value) (w : World) : Prop := ∃ (B : Nat) (cs : Array Value), v = .pointer (some ⟨B, 0, none⟩) ∧ H ≤ B ∧ w.heap[B]? = some (.cells cs 66 (0, 0)) ∧ cs.size = 2
theorem Ext2.refl (H : Nat) (w : World) : Ext2 H w w := ⟨Below.refl _ _, fun _ cs h hs => ⟨cs, h, hs⟩⟩
theorem Ext2.alloc {H : Nat} {w : World} (h : H ≤ w.heap.size) (o : Obj) : Ext2 H w (w.alloc o) :=
  ⟨(Below.refl _ _).alloc h _, fun k cs hk hs => ⟨cs, (Below.heap_alloc w o k (heap_lt hk)).trans hk, hs⟩⟩
theorem Ext2.setRow {H B : Nat} {w : World} {cs : Array Value} (h : H ≤ B) (hh : w.heap[B]? = some (.cells cs 66 (0, 0))) (hs : cs.size = 2) (o : Nat) (vs : List Value) (hv : o + vs.length ≤ 2 := by decide) : Ext2 H w (w.setRow B (laid cs o vs)) := by
  refine ⟨below_setRow (Below.refl _ _) h _, fun k c hk hc => ?_⟩
  by_cases e : k = B
  · subst e
    exact ⟨_, setRow_heap w k cs _ _ _ hh, by rw [laid_size (by omega)]; exact hs⟩
  · exact ⟨c, (setRow_other w B k _ e).trans hk, hc⟩
theorem Fresh.keep {H : Nat} {v : Value} {a b : World} (h : Fresh H v a) (he : Ext2 H a b) : Fresh H v b := by
  obtain ⟨B, cs, rfl, hB, hh, hs⟩ := h
  obtain ⟨cs', h1, h2⟩ := he.2 B cs hh hs
  exact ⟨B, cs', rfl, hB, h1, h2⟩
def VB (H : Nat) (L : List Value) (j : Nat) (v : Value) (w : World) : Prop := match j with | 11 => Fresh H v w | j => L[j]? = some v
theorem VB.keep {H j : Nat} {L : List Value} {v : Value} {a b : World} (hb : Ext2 H a b) (hv : VB H L j v a) : VB H L j v b := by
  unfold VB at hv ⊢
  split at hv
  · exact hv.keep hb
  · exact hv
theorem info_file : (Tryd.prog.info? 66).map (·.size) = some 2 := by kernel_rfl
set_option maxRecDepth 100000 in
theorem begin_any (w : World) (p b n : Nat) (M : Tab FileE) (left : Int) (h : DiskIs w p b n M left) (there : Bool) (A : Option Addr) (c : Nat) (ns : List ByteArray) (s0 : ByteArray)
    (hr : Rd w 1 A ns.length (ns.map Value.string)) (hl : ns.length ≤ 1000000) (h0 : ns[0]? = some s0) (hs0 : s0.size ≤ 1000000000) (hle : -1 ≤ left ∧ left ≤ 9223372036854775807) :
    Calls Tryd.prog 38 #[.pointer (some ⟨p, 0, none⟩), .bool there, .slice A ns.length c] w fun e w' =>
      e = .returned (.int .i64 (beginE M left there ns s0.data.toList)) ∧ DiskIs w' p b n M (beginL M left there ns s0.data.toList) ∧ But p b w w' := by
  obtain ⟨N, hN⟩ : ∃ N, N = ns.length := ⟨_, rfl⟩
  have hn0 : 0 < ns.length := (List.getElem?_eq_some_iff.1 h0).1
  obtain ⟨bq, oq, rfl, hq⟩ := hr.cell (j := 0) (by simpa using hn0)
  rw [List.getElem_map, show ns[0] = s0 from by rw [List.getElem?_eq_getElem hn0] at h0; exact Option.some.inj h0, Nat.add_zero] at hq
  have hqlt : bq < w.heap.size := by
    rcases Nat.lt_or_ge bq w.heap.size with h | h
    · exact h
    · unfold World.cell? at hq; simp only at hq; rw [Array.getElem?_eq_none h] at hq; cases hq
  obtain ⟨H, hH⟩ : ∃ H, H = w.heap.size := ⟨_, rfl⟩
  have hlt := h.lt
  have hne := h.ne
  rw [← hH] at hqlt hlt
  have c0 : w.cell? ⟨p, 0, none⟩ = some (.map (some b)) := (cell_of_row w p 0 _ _ _ h.1).trans rfl
  have c1 : w.cell? ⟨p, 1, none⟩ = some (.int .i64 left) := (cell_of_row w p 1 _ _ _ h.1).trans rfl
  obtain ⟨is, his⟩ : ∃ is, is = (getM M s0.data.toList).isSome := ⟨_, rfl⟩
  obtain ⟨f, hf⟩ : ∃ f, f = encFile ((getM M s0.data.toList).getD ([], 0)) := ⟨_, rfl⟩
  have look : ∀ w2, Below H w w2 → (Instr.lookup 42 (.map (some b)) (.string s0) true).run Tryd.prog w2 = .ok (.tuple #[f, .bool is]) w2 := fun w2 hb => by
    rw [hf, his]
    exact (h.2.below hb hlt.2).look_ok encFile_inj Tryd.underlying9 Tryd.underlying42 ([], 0) (zero_file w2) s0 (by unfold maxLen; omega)
  obtain ⟨fa, fb, hff⟩ : ∃ fa fb, f = .agg #[.string fa, .int .i64 fb] := ⟨_, _, hf⟩
  rw [← hN]
  have HD := hid2 h
  have HR := hid2 hr
  have HF := hid2 hff
  have HIS := hid2 his
  have HH := hid2 hH
  have HN := hid2 hN
  have LOOK := hid2 look
  have C0 := hid2 c0
  have C1 := hid2 c1
  have CQ := hid2 hq
  have hN0 : (0 : Int) < N := by omega
  have hN0' : 0 < N := by omega
  clear h hr hf hff his hH hN h0 look c0 c1 hq hn0
  go_enter Tryd.func38, Tryd.ntmps38
  go_wp2_with fail
  refine wp_region_grd 14 (by kernel_rfl) (by kernel_rfl) (by kernel_rfl) _ rfl (by kernel_rfl) (VB H [.pointer (some ⟨p, 0, none⟩), .pointer (some ⟨p, 0, none⟩), .pointer (some ⟨p, 0, none⟩), .map (some b), .slice (some ⟨bq, oq, none⟩) N c, .pointer (some ⟨bq, oq, none⟩), .string s0, .tuple #[f, .bool is], .tuple #[f, .bool is], f, .bool is, undef, undef, .bool is]) (fun w4 => Below H w w4) (Ext2 H) (below_drewN (Below.refl _ _) 1) (fun _ _ _ _ hb hv => hv.keep hb) ?_ ?_
  · refine of_allOps ⟨?_, ?_, ?_, ?_, ?_, ?_, ?_, ?_, ?_, ?_, ?_, ?_, ?_, ?_, trivial⟩
    · intro T2 w2 hM hN hO hE K hK
      have o0 : T2[0]? = some (.pointer (some ⟨p, 0, none⟩)) := hO 0 rfl
      clear hE hO hN
      refine step_plain0 rfl ?_
      go_simp
      exact hK _ _ rfl hM (Ext2.refl _ _)
    · intro T2 w2 hM hN hO hE K hK
      obtain ⟨v0, h0, e0⟩ := hE ⟨0, .data⟩ (by simp) rfl _ _ rfl rfl
      rw [show v0 = .pointer (some ⟨p, 0, none⟩) from (Option.some.inj e0).symm] at h0
      clear hE hO hN
      refine step_plain0 rfl ?_
      go_simp
      exact hK _ _ rfl hM (Ext2.refl _ _)
    · intro T2 w2 hM hN hO hE K hK
      obtain ⟨v1, h1, e1⟩ := hE ⟨1, .data⟩ (by simp) rfl _ _ rfl rfl
      rw [show v1 = .pointer (some ⟨p, 0, none⟩) from (Option.some.inj e1).symm] at h1
      clear hE hO hN
      refine step_plain0 rfl ?_
      go_simp
      exact hK _ _ rfl hM (Ext2.refl _ _)
    · intro T2 w2 hM hN hO hE K hK
      obtain ⟨v2, h2, e2⟩ := hE ⟨2, .data⟩ (by simp) rfl _ _ rfl rfl
      rw [show v2 = .pointer (some ⟨p, 0, none⟩) from (Option.some.inj e2).symm] at h2
      clear hE hO hN
      refine step_plain0 rfl ?_
      have c0 : w2.cell? ⟨p, 0, none⟩ = some (.map (some b)) := (hM.cell (p := ⟨p, 0, none⟩) hlt.1).trans C0.out
      go_simp
      exact hK _ _ rfl hM (Ext2.refl _ _)
    · intro T2 w2 hM hN hO hE K hK
      have o2 : T2[2]? = some (.slice (some ⟨bq, oq, none⟩) N c) := hO 2 rfl
      clear hE hO hN
      refine step_plain0 rfl ?_
      go_simp
      exact hK _ _ rfl hM (Ext2.refl _ _)
    · intro T2 w2 hM hN hO hE K hK
      obtain ⟨v4, h4, e4⟩ := hE ⟨4, .data⟩ (by simp) rfl _ _ rfl rfl
      rw [show v4 = .slice (some ⟨bq, oq, none⟩) N c from (Option.some.inj e4).symm] at h4
      clear hE hO hN
      refine step_plain0 rfl ?_
      go_simp
      exact hK _ _ rfl hM (Ext2.refl _ _)
    · intro T2 w2 hM hN hO hE K hK
      obtain ⟨v5, h5, e5⟩ := hE ⟨5, .data⟩ (by simp) rfl _ _ rfl rfl
      rw [show v5 = .pointer (some ⟨bq, oq, none⟩) from (Option.some.inj e5).symm] at h5
      clear hE hO hN
      refine step_plain0 rfl ?_
      have cq : w2.cell? ⟨bq, oq, none⟩ = some (.string s0) := (hM.cell (p := ⟨bq, oq, none⟩) hqlt).trans CQ.out
      go_simp
      exact hK _ _ rfl hM (Ext2.refl _ _)
    · intro T2 w2 hM hN hO hE K hK
      obtain ⟨v3, h3, e3⟩ := hE ⟨3, .data⟩ (by simp) rfl _ _ rfl rfl
      rw [show v3 = .map (some b) from (Option.some.inj e3).symm] at h3
      obtain ⟨v6, h6, e6⟩ := hE ⟨6, .data⟩ (by simp) rfl _ _ rfl rfl
      rw [show v6 = .string s0 from (Option.some.inj e6).symm] at h6
      clear hE hO hN
      refine step_plain0 rfl ?_
      have hlk := LOOK.out w2 hM
      go_simp
      exact hK _ _ rfl hM (Ext2.refl _ _)
    · intro T2 w2 hM hN hO hE K hK
      obtain ⟨v7, h7, e7⟩ := hE ⟨7, .data⟩ (by simp) rfl _ _ rfl rfl
      rw [show v7 = .tuple #[f, .bool is] from (Option.some.inj e7).symm] at h7
      clear hE hO hN
      refine step_plain0 rfl ?_
      go_simp
      exact hK _ _ rfl hM (Ext2.refl _ _)
    · intro T2 w2 hM hN hO hE K hK
      obtain ⟨v8, h8, e8⟩ := hE ⟨8, .data⟩ (by simp) rfl _ _ rfl rfl
      rw [show v8 = .tuple #[f, .bool is] from (Option.some.inj e8).symm] at h8
      clear hE hO hN
      refine step_plain0 rfl ?_
      go_simp
      exact hK _ _ rfl hM (Ext2.refl _ _)
    · intro T2 w2 hM hN hO hE K hK
      obtain ⟨v8, h8, e8⟩ := hE ⟨8, .data⟩ (by simp) rfl _ _ rfl rfl
      rw [show v8 = .tuple #[f, .bool is] from (Option.some.inj e8).symm] at h8
      clear hE hO hN
      refine step_plain0 rfl ?_
      go_simp
      exact hK _ _ rfl hM (Ext2.refl _ _)
    · intro T2 w2 hM hN hO hE K hK
      clear hE hO hN
      refine step_plain0 rfl ?_
      go_simp
      exact hK _ _ ⟨w2.heap.size, _, rfl, by have := hM.size; have := HH.out; omega, heap_alloc_new w2 _, rfl⟩ (hM.alloc (by have := hM.size; have := HH.out; omega) _) (Ext2.alloc (by have := hM.size; have := HH.out; omega) _)
    · intro T2 w2 hM hN hO hE K hK
      obtain ⟨v11, h11, hv11⟩ := hE ⟨11, .data⟩ (by simp) rfl _ _ rfl rfl
      obtain ⟨v9, h9, e9⟩ := hE ⟨9, .data⟩ (by simp) rfl _ _ rfl rfl
      rw [show v9 = f from (Option.some.inj e9).symm] at h9
      clear hE hO hN
      refine step_plain0 rfl ?_
      obtain ⟨B, cs, rfl, hB, hh, hsz⟩ := hv11
      refine wp_store_at 66 (.tmp 7) (.tmp 18) rfl B 0 (by simp [go_sem, h11]) f (by simp [go_sem, h9]) [.string fa, .int .i64 fb] (by rw [HF.out]; rfl) cs 66 hh info_file (by rw [hsz]; simp) (by simp [Value.oneCell']) ?_
      exact hK _ _ rfl (below_setRow hM hB _) (Ext2.setRow hB hh hsz _ _ (by simp))
    · intro T2 w2 hM hN hO hE K hK
      obtain ⟨v10, h10, e10⟩ := hE ⟨10, .data⟩ (by simp) rfl _ _ rfl rfl
      rw [show v10 = .bool is from (Option.some.inj e10).symm] at h10
      clear hE hO hN
      refine step_plain0 rfl ?_
      go_simp
      exact hK _ _ rfl hM (Ext2.refl _ _)
  · intro u w2 hM hF
    have e13 : u 13 = .bool is := (Option.some.inj (hF 13 (by omega))).symm
    clear hF
    simp only [fillAll, Nat.reduceAdd, e13, List.take_succ_cons, List.take_zero, List.drop_succ_cons, List.drop_zero, List.setIfInBounds_toArray, List.set_cons_succ, List.set_cons_zero]
    refine wpList_nil ?_
    have c1 : w2.cell? ⟨p, 1, none⟩ = some (.int .i64 left) := (hM.cell (p := ⟨p, 1, none⟩) hlt.1).trans C1.out
    have hr2 : Rd w2 1 (some ⟨bq, oq, none⟩) ns.length (ns.map Value.string) := HR.out.below hM (fun b' hb' hl' => by rw [HH.out]; exact hl')
    have hd2 : DiskIs w2 p b n M left := HD.out.below hM hlt.1 hlt.2
    have f1 : w2.frozen? ⟨p, 1, none⟩ = false := frozen_of_row w2 p 1 _ _ hd2.1
    have hb2 : But p b w w2 := But.of_below (by rw [← HH.out]; exact hM)
    obtain ⟨e0, he0⟩ : ∃ e0, e0 = ns.any (fun s => s.data.toList.isEmpty) := ⟨_, rfl⟩
    have cc : ∀ w3, w3 = w2 → Calls Tryd.prog 32 #[.slice (some ⟨bq, oq, none⟩) N c, .string ⟨#[]⟩] w3 fun e w' => e = .returned (.bool e0) ∧ w3 = w' := fun w3 hw => by
      subst hw
      rw [HN.out]
      exact (contains_any _ _ c ns ⟨#[]⟩ e0 hr2 (by omega) (by rw [he0]; exact any_empty ns)).mono fun _ _ h => ⟨h.1, h.2.symm⟩
    have HE0 := hid2 he0
    have HD2 := hid2 hd2
    have HB2 := hid2 hb2
    have key : ∀ y, DiskIs (w2.setCell ⟨p, 1, none⟩ (.int .i64 y)) p b n M y ∧ But p b w (w2.setCell ⟨p, 1, none⟩ (.int .i64 y)) := fun y => by
      refine ⟨⟨?_, HD2.out.2.setCell _ _ (fun e => hne e.symm)⟩, HB2.out.trans ⟨rfl, rfl, rfl, by rw [World.size_setCell]; exact Nat.le_refl _, fun k _ hk _ => Below.heap_setCell _ _ _ k hk⟩⟩
      rw [setCell_eq_setRow w2 p 1 _ _ _ _ HD2.out.1]
      exact setRow_heap w2 p _ _ _ _ HD2.out.1
    have KEY := hid2 key
    clear hr2 hd2 hb2 he0 key e13
    cases e0
    · have hE0 : beginE M left there ns s0.data.toList = if (there && !is) = true then 10 else if left = 0 then 18 else 0 := by
        rw [beginE, ← HE0.out, if_neg (by simp), HIS.out]
        congr 2
        cases getM M s0.data.toList <;> rfl
      have HE := hid2 hE0
      clear hE0
      by_cases ht : (there && !is) = true
      · have hv : Hid2 (beginE M left there ns s0.data.toList = 10) := hid2 (by rw [HE.out, if_pos ht])
        have hl2 : Hid2 (beginL M left there ns s0.data.toList = left) := hid2 (by rw [beginL, hv.out, if_neg (by simp)])
        cases there <;> cases is <;> simp at ht
        go_wp2_with (go_at_call 32; refine (cc _ rfl).mono ?_; rintro e w3 ⟨rfl, rfl⟩)
        go_ret
        exact ⟨by rw [hv.out]; rfl, by rw [hl2.out]; exact HD2.out, HB2.out⟩
      · by_cases hz : left = 0
        · have hv : Hid2 (beginE M left there ns s0.data.toList = 18) := hid2 (by rw [HE.out, if_neg ht, if_pos hz])
          have hl2 : Hid2 (beginL M left there ns s0.data.toList = left) := hid2 (by rw [beginL, hv.out, if_neg (by simp)])
          have hz' : (left == 0) = true := by rw [hz]; rfl
          clear hz
          cases there <;> cases is <;> simp at ht
          all_goals go_wp2_with (go_at_call 32; refine (cc _ rfl).mono ?_; rintro e w3 ⟨rfl, rfl⟩)
          all_goals go_ret
          all_goals exact ⟨by rw [hv.out]; rfl, by rw [hl2.out]; exact HD2.out, HB2.out⟩
        · have hv : Hid2 (beginE M left there ns s0.data.toList = 0) := hid2 (by rw [HE.out, if_neg ht, if_neg hz])
          have hz' : (left == 0) = false := by simpa using hz
          by_cases hp : 0 < left
          · have hl2 : Hid2 (beginL M left there ns s0.data.toList = left - 1) := hid2 (by rw [beginL, hv.out, if_pos ⟨rfl, hp⟩])
            have hw1 : IntKind.i64.wrap (left - 1) = left - 1 := IntWalk.i64_in _ (by constructor <;> omega)
            clear hz
            cases there <;> cases is <;> simp at ht
            all_goals go_wp2_with (go_at_call 32; refine (cc _ rfl).mono ?_; rintro e w3 ⟨rfl, rfl⟩)
            all_goals go_ret
            all_goals exact ⟨by rw [hv.out]; rfl, by rw [hl2.out]; exact (KEY.out _).1, (KEY.out _).2⟩
          · have hl2 : Hid2 (beginL M left there ns s0.data.toList = left) := hid2 (by rw [beginL, hv.out, if_neg (by omega)])
            clear hz
            cases there <;> cases is <;> simp at ht
            all_goals go_wp2_with (go_at_call 32; refine (cc _ rfl).mono ?_; rintro e w3 ⟨rfl, rfl⟩)
            all_goals go_ret
            all_goals exact ⟨by rw [hv.out]; rfl, by rw [hl2.out]; exact HD2.out, HB2.out⟩
    · have hv : Hid2 (beginE M left there ns s0.data.toList = 1) := hid2 (by rw [beginE, ← HE0.out, if_pos rfl])
      have hl2 : Hid2 (beginL M left there ns s0.data.toList = left) := hid2 (by rw [beginL, hv.out, if_neg (by simp)])
      go_wp2_with (go_at_call 32; refine (cc _ rfl).mono ?_; rintro e w3 ⟨rfl, rfl⟩)
      go_ret
      exact ⟨by rw [hv.out]; rfl, by rw [hl2.out]; exact HD2.out, HB2.out⟩
end Go.Proofs.YtehpapoboeejkaaDoor
