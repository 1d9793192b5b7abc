/- The reference's Put. -/
import Derived.Test.YtegkjmmknjhdiaaBlob19
namespace Go.Proofs.Ytegkjmmknjhdiaa
open Go.RowKit Go.Maps Go.Sort Go.Lib
/-- a blob put into a row -/
def putB (M : BTab) (X d : List UInt8) : BTab := if (getM M X).isSome = true then M else putM M X d
/-- one step of Put's loop -/
def stepB (X d : List UInt8) (s : BTab × Bool) (x : List UInt8 × List UInt8) : BTab × Bool :=
  if s.2 = false ∧ X < x.1 then (s.1 ++ [(X, d)] ++ [x], true) else (s.1 ++ [x], s.2)
def loopB (X d : List UInt8) (M : BTab) : BTab × Bool := M.foldl (stepB X d) ([], false)
def endB (X d : List UInt8) (s : BTab × Bool) : BTab := if s.2 = true then s.1 else s.1 ++ [(X, d)]
theorem foldl_true (X d : List UInt8) : ∀ (M P : BTab), M.foldl (stepB X d) (P, true) = (P ++ M, true)
  | [], P => by simp
  | x :: r, P => by
    rw [List.foldl_cons, stepB, if_neg (by simp), foldl_true X d r]
    simp
theorem foldl_false (X d : List UInt8) : ∀ (M P : BTab), endB X d (M.foldl (stepB X d) (P, false)) = P ++ insM (X, d) M
  | [], P => by simp [endB, insM]
  | x :: r, P => by
    rw [List.foldl_cons, stepB]
    by_cases h : X < x.1
    · have hb : bytesBefore X x.1 = true := (bytesBefore_lt _ _).2 h
      rw [if_pos ⟨rfl, h⟩, foldl_true, insM, if_pos hb]
      simp [endB]
    · have hb : ¬ bytesBefore X x.1 = true := fun e => h ((bytesBefore_lt _ _).1 e)
      rw [if_neg (fun e => h e.2), foldl_false X d r, insM, if_neg hb]
      simp
theorem loop_put {M : BTab} {X : List UInt8} (d : List UInt8) (h : getM M X = none) : endB X d (loopB X d M) = putM M X d := by
  rw [loopB, foldl_false, List.nil_append, putM]
  congr 1
  symm
  rw [delM, List.filter_eq_self]
  intro p hp
  rw [getM, Option.map_eq_none_iff, List.find?_eq_none] at h
  simpa using h p hp
theorem loop_take {M : BTab} {X d : List UInt8} {k : Nat} {x : List UInt8 × List UInt8} (h : M[k]? = some x) : loopB X d (M.take (k + 1)) = stepB X d (loopB X d (M.take k)) x := by
  obtain ⟨hk, hx⟩ := List.getElem?_eq_some_iff.1 h
  rw [List.take_succ_eq_append_getElem hk, hx, loopB, loopB, List.foldl_append]
  rfl
theorem find_none {M : BTab} {X : List UInt8} (h : ∀ x ∈ M, x.1 ≠ X) : getM M X = none := by
  rw [getM, Option.map_eq_none_iff, List.find?_eq_none]
  intro x hx
  simpa using h x hx
theorem find_some {M : BTab} {X : List UInt8} {i : Nat} {x : List UInt8 × List UInt8} (h : M[i]? = some x) (hx : x.1 = X) : (getM M X).isSome = true := by
  rw [getM, Option.isSome_map, List.find?_isSome]
  exact ⟨x, List.mem_of_getElem? h, by simp [hx]⟩
theorem loop_len (X d : List UInt8) (M : BTab) : (loopB X d M).1.length ≤ M.length + 1 ∧ ((loopB X d M).2 = false → (loopB X d M).1.length ≤ M.length) := by
  have key : ∀ (M P : BTab) (f : Bool) (n : Nat), P.length ≤ n + 1 → (f = false → P.length ≤ n) → (M.foldl (stepB X d) (P, f)).1.length ≤ n + M.length + 1 ∧ ((M.foldl (stepB X d) (P, f)).2 = false → (M.foldl (stepB X d) (P, f)).1.length ≤ n + M.length) := by
    intro M
    induction M with
    | nil => intro P f n h1 h2; exact ⟨h1, h2⟩
    | cons x r ih =>
      intro P f n h1 h2
      rw [List.foldl_cons, stepB, List.length_cons]
      dsimp only
      split
      · rename_i h
        have h3 := h2 h.1
        have := ih (P ++ [(X, d)] ++ [x]) true (n + 1) (by simp; omega) (by simp)
        exact ⟨by omega, fun e => by have := this.2 e; omega⟩
      · have := ih (P ++ [x]) f (n + 1) (by simp; omega) (fun e => by have := h2 e; simp; omega)
        exact ⟨by omega, fun e => by have := this.2 e; omega⟩
  have := key M [] false 0 (by simp) (by simp)
  exact ⟨by have := this.1; rw [loopB]; omega, fun e => by have := this.2 e; rw [loopB]; omega⟩
/-- what Put's walk holds of its box -/
abbrev BlobAt (W : World) (G : Nat) (x : List UInt8 × List UInt8) : Prop := W.heap[G]? = some (.cells (blobV x).toArray 47 (0, 0))
theorem BlobAt.cells {W : World} {G : Nat} {x : List UInt8 × List UInt8} (h : BlobAt W G x) : ∀ i v, (blobV x)[i]? = some v → W.cell? ⟨G, 0 + i, none⟩ = some v := fun i v hv => by
  rw [Nat.zero_add, cell_of_row W G i _ _ _ h]
  simpa using hv
structure PutI (w : World) (g : Nat) (M : BTab) (b0 : List UInt8 × List UInt8) (k : Nat) (A2 : Option Addr) (c2 : Nat) (wr : World) : Prop where
  row : RowG w (w.heap.size + 1) (loopB b0.1 b0.2 (M.take k)).1 A2 c2 wr
  box : BlobAt wr g b0
theorem PutI.ext {w wr w' : World} {g : Nat} {M : BTab} {b0 : List UInt8 × List UInt8} {k : Nat} {A2 : Option Addr} {c2 : Nat} (h : PutI w g M b0 k A2 c2 wr) (hb : Below wr.heap.size wr w') : PutI w g M b0 k A2 c2 w' :=
  ⟨h.row.ext hb, (hb.block _ (heap_lt h.box)).trans h.box⟩
section
variable {w wr w' : World} {base m : Nat} {P : BTab} {A A' : Option Addr} {c c' : Nat}
/-- one blob appended, as the arms want it -/
theorem RowG.news (h : RowG w base P A c wr) {x : List UInt8 × List UInt8} (hx : x.1.length = 32) : Rd (wr.alloc (.cells (Value.agg (blobV x).toArray).cells 47)) 33 (some ⟨wr.heap.size, 0, none⟩) 1 (blobV x) :=
  Rd.of_lit wr (blobV x).toArray 47 33 1 (by decide) (by rw [List.size_toArray, blobV_length hx])
end
set_option maxRecDepth 100000 in
set_option maxHeartbeats 4000000 in
theorem refput_any (w : World) (A : Option Addr) (c : Nat) (M : BTab) (hk : KeysOk M) (hr : Rd w 33 A M.length (blobsV M)) (hl : M.length ≤ 1000000000) (X d : List UInt8) (hX32 : X.length = 32) :
    Calls Try.prog 32 #[.slice A M.length c, .agg (blobV (X, d)).toArray] w fun e w' => ∃ A' c', e = .returned (.slice A' (putB M X d).length c') ∧ Rd w' 33 A' (putB M X d).length (blobsV (putB M X d)) ∧ (blockOf A' = blockOf A ∨ ∀ b, blockOf A' = some b → w.heap.size ≤ b ∧ b < w'.heap.size) ∧ Below w.heap.size w w' := by
  obtain ⟨W1, hW1⟩ : ∃ W1, W1 = w.alloc (.cells (blobV (X, d)).toArray 47) := ⟨_, rfl⟩
  have hbx : BlobAt W1 w.heap.size (X, d) := by rw [hW1]; exact heap_alloc_new w _
  have hB1 : Below w.heap.size w W1 := by rw [hW1]; exact (Below.refl _ w).alloc (Nat.le_refl _) _
  have hs1 : W1.heap.size = w.heap.size + 1 := by rw [hW1]; simp
  have hr1 : Rd W1 33 A M.length (blobsV M) := by rw [hW1]; exact hr.alloc _
  have hld1 := blob_dig (x := (X, d)) hX32 hbx.cells
  have cF := find_any W1 A c M hk hr1 hl X hX32
  obtain ⟨N, hN⟩ : ∃ N, N = M.length := ⟨_, rfl⟩
  rw [← hN] at hl hr1 cF ⊢
  have HR := hid2 hr
  have HR1 := hid2 hr1
  have HK := hid2 hk
  have HN := hid2 hN
  have HBX := hid2 hbx
  have HB1 := hid2 hB1
  have HW1 := hid2 hW1
  have HS1 := hid2 hs1
  have HLD1 := hid2 hld1
  have HCF := hid2 cF
  clear hr hr1 hN hk hbx hB1 hW1 hs1 hld1 cF
  by_cases hin : (getM M X).isSome = true
  · have cF1 : Calls Try.prog 26 #[.slice A N c, .agg (u8s X).toArray] W1 fun e w' => ∃ i : Nat, e = .returned (.int .i64 i) ∧ Below W1.heap.size W1 w' := HCF.out.mono fun e w' ⟨v, he, hf, hb⟩ => by
      rcases hf with ⟨i, x, _, _, rfl⟩ | ⟨_, hno⟩
      · exact ⟨i, he, hb⟩
      · rw [find_none hno] at hin; cases hin
    have hp : putB M X d = M := by rw [putB, if_pos hin]
    have HP := hid2 hp
    have HCF1 := hid2 cF1
    clear hp cF1 hin
    go_enter Try.func32, Try.ntmps32
    go_wp2_with (first
      | (rw [← HW1.out]; (with_reducible refine wpList_load_run HLD1.out ?_ ?_); exact rfl)
      | (go_at_call 26; refine HCF1.out.mono ?_; rintro e w2 ⟨i, rfl, hb2⟩; have hi0 : (0 : Int) ≤ i := (by omega)))
    go_ret
    exact ⟨A, c, by rw [HP.out, HN.out]; rfl, by rw [HP.out, ← HN.out]; exact HR1.out.below_all hb2, .inl rfl, HB1.out.trans (hb2.mono HB1.out.size)⟩
  · have cF1 : Calls Try.prog 26 #[.slice A N c, .agg (u8s X).toArray] W1 fun e w' => e = .returned (.int .i64 (-1)) ∧ Below W1.heap.size W1 w' := HCF.out.mono fun e w' ⟨v, he, hf, hb⟩ => by
      rcases hf with ⟨i, x, h1, h2, rfl⟩ | ⟨rfl, _⟩
      · exact absurd (find_some h1 h2) hin
      · exact ⟨he, hb⟩
    have hp : putB M X d = endB X d (loopB X d M) := by
      rw [putB, if_neg hin, loop_put d]
      simpa using hin
    have HP := hid2 hp
    have HCF1 := hid2 cF1
    clear hp cF1 hin
    go_enter Try.func32, Try.ntmps32
    go_wp2_with (first
      | (rw [← HW1.out]; (with_reducible refine wpList_load_run HLD1.out ?_ ?_); exact rfl)
      | (go_at_call 26; refine HCF1.out.mono ?_; rintro e w2 ⟨rfl, hb2⟩; have HB2 := hid2 hb2; clear hb2))
    go_loopg [5, 6, 7] N (fun gk s f i wr => ∃ (k : Nat) (A2 : Option Addr) (m c2 : Nat) (fb : Bool), k + gk = N ∧ i = .int .i64 k ∧ f = .bool fb ∧ fb = (loopB X d (M.take k)).2 ∧ m = (loopB X d (M.take k)).1.length ∧ s = .slice A2 m c2 ∧ PutI w w.heap.size M (X, d) k A2 c2 wr)
    case atStart => exact ⟨0, none, 0, 0, false, by omega, rfl, rfl, rfl, rfl, rfl, RowG.nil (HB1.out.trans (HB2.out.mono HB1.out.size)), (HB2.out.block _ (by rw [HS1.out]; omega)).trans HBX.out⟩
    case round =>
      obtain ⟨k, A2, m, c2, fb, hk, rfl, rfl, hfb, hm, rfl, hI⟩ := hrel
      have HSZ := hid2 (show w.heap.size < wr.heap.size from heap_lt hI.box)
      have hlen := loop_len X d (M.take k)
      rw [← hfb, ← hm, List.length_take] at hlen
      have hmB : m ≤ 1000000001 ∧ (fb = false → m ≤ 1000000000) := ⟨by omega, fun e => by have := hlen.2 e; omega⟩
      obtain ⟨hmB1, hmB2⟩ := hmB
      have HMB2 := hid2 hmB2
      have HI := hid2 hI
      have HM := hid2 hm
      have HFB := hid2 hfb
      clear hlen hmB2 hI hm hfb
      by_cases hlt : k < N
      · have hlt' : (k : Int) < N := by omega
        have hk0 : (0 : Int) ≤ k := by omega
        obtain ⟨x, hx⟩ : ∃ x, M[k]? = some x := ⟨_, List.getElem?_eq_getElem (by rw [← HN.out]; exact hlt)⟩
        have hx32 := HK.out.at_ hx
        obtain ⟨b, o, rfl, _⟩ := blob_cells HK.out HR.out hx
        have hcell : ∀ W, Below w.heap.size w W → ∀ i v, (blobV x)[i]? = some v → W.cell? ⟨b, o + k * 33 + i, none⟩ = some v := fun W hW => by
          obtain ⟨b', o', e, hc⟩ := blob_cells HK.out (HR.out.below_all hW) hx
          cases e
          exact hc
        obtain ⟨Y, hY⟩ : ∃ Y, Y = x.1 := ⟨_, rfl⟩
        have hY32 : Y.length = 32 := by rw [hY]; exact hx32
        have hl1 : ∀ W, Below w.heap.size w W → (loadVar 39 ⟨b, o + k * 33, none⟩).run Try.prog W = .ok (.agg (u8s Y).toArray) W := fun W hW => by rw [hY]; exact blob_dig hx32 (hcell W hW)
        have hl3 : ∀ W, Below w.heap.size w W → (loadVar 47 ⟨b, o + k * 33, none⟩).run Try.prog W = .ok (.agg (blobV x).toArray) W := fun W hW => blob_load hx32 (hcell W hW)
        have hstep := loop_take (X := X) (d := d) hx
        rw [stepB, ← HFB.out, ← hY] at hstep
        have HL1 := hid2 hl1
        have HL3 := hid2 hl3
        have HX32 := hid2 hx32
        have HSTEP := hid2 hstep
        clear hx hx32 hcell hl1 hl3 hstep hlt hY
        cases fb with
        | true =>
          have HST := hid2 (show loopB X d (M.take (k + 1)) = ((loopB X d (M.take k)).1 ++ [x], true) from by rw [HSTEP.out, if_neg (by simp)])
          go_wp2_with fail
          go_quiet (fail)
          obtain ⟨w2q, hw2q⟩ : ∃ w2q, w2q = wr.drewN nq := ⟨_, rfl⟩
          rw [← hw2q]
          have hIq : PutI w w.heap.size M (X, d) k A2 c2 w2q := by rw [hw2q]; exact HI.out.ext (below_drewN (Below.refl _ _) _)
          have HIQ := hid2 hIq
          clear hw2q hIq
          obtain ⟨W7, hW7⟩ : ∃ W0, W0 = w2q.alloc (.cells (Value.agg (blobV x).toArray).cells 47) := ⟨_, rfl⟩
          have hrd7 := RowG.news (x := x) (HIQ.out.row) HX32.out
          rw [← hW7] at hrd7
          have hg7 : RowG w (w.heap.size + 1) ((loopB X d (M.take k)).1) A2 c2 W7 := by rw [hW7]; exact (HIQ.out.row).ext ((Below.refl _ _).alloc (Nat.le_refl _) _)
          have hs7 : w.heap.size + 1 ≤ W7.heap.size := by have h1 := HSZ.out; have h2 := (HIQ.out.row).below.size; rw [hW7]; simp; omega
          have hown7 := hg7.own
          rw [← HM.out] at hown7
          obtain ⟨V7, hV7⟩ : ∃ V0, V0 = blobsV ((loopB X d (M.take k)).1) := ⟨_, rfl⟩
          rw [← hV7] at hown7
          have HLD7 := hid2 (HL3.out w2q HIQ.out.row.below)
          have HW7 := hid2 hW7
          have HRD7 := hid2 hrd7
          have HG7 := hid2 hg7
          have HS7 := hid2 hs7
          have HOWN7 := hid2 hown7
          have HV7 := hid2 hV7
          clear hW7 hrd7 hg7 hs7 hown7 hV7
          go_wp2_with (first
            | ((with_reducible refine wpList_load_run HLD7.out ?_ ?_); exact rfl)
            | ((with_reducible refine wpList_build_one 47 (.agg (blobV x).toArray) blobZ 33 Try.underlying37 zero_blob rfl (blob_cs HX32.out) (by decide) (by decide) ?_ ?_); exact rfl; rw [← HW7.out])
            | (at_builtin; (with_reducible refine wpList_append_lit 47 blobZ 33 48 Try.underlying37 info_blob3 rfl (w.heap.size + 1) A2 m c2 V7 HOWN7.out 1 _ (.slice (some ⟨w2q.heap.size, 0, none⟩) 1 1) (Src.slice Try.underlying37 HRD7.out) (blob_one x) ?_ ?_ ?_ ?_ ?_); (unfold maxLen; omega); omega; exact HS7.out; exact ⟨rfl, rfl⟩; intro A7 c7 w7 hownx7 hgrx7 hblx7; have HGR7 := hid2 hgrx7; have HOWNX7 := hid2 hownx7; clear hgrx7 hownx7 hblx7))
          have hrow7 : RowG w (w.heap.size + 1) ((loopB X d (M.take k)).1 ++ [x]) A7 c7 w7 := HG7.out.grown (x := x) (by omega) HX32.out (by rw [← HM.out, ← HV7.out]; exact HOWNX7.out) HGR7.out
          have HROW7 := hid2 hrow7
          clear hrow7
          go_roundg (gk - 1)
          case rel => exact ⟨k + 1, A7, m + 1, c7, true, by omega, by go_num, rfl, by rw [HST.out], by rw [HST.out, List.length_append, ← HM.out]; rfl, rfl, by rw [HST.out]; exact HROW7.out, (HGR7.out.block _ (by have := HS7.out; omega) (fun e' => by have := (HG7.out.own.block _ e'.symm).1; omega)).trans (by rw [HW7.out]; exact (Below.heap_alloc _ _ _ (heap_lt HIQ.out.box)).trans HIQ.out.box)⟩
          case measure => omega
        | false =>
          have hmB3 := HMB2.out rfl
          obtain ⟨bl, hbl⟩ : ∃ bl, bl = decide (X < Y) := ⟨_, rfl⟩
          have HBL := hid2 hbl.symm
          have HBLE := hid2 (show (bl = true ↔ X < Y) from by rw [hbl]; simp)
          clear hbl
          cases bl with
          | true =>
            have HST := hid2 (show loopB X d (M.take (k + 1)) = ((loopB X d (M.take k)).1 ++ [(X, d)] ++ [x], true) from by rw [HSTEP.out, if_pos ⟨rfl, HBLE.out.1 rfl⟩])
            go_wp2_with fail
            refine wp_region_grd 12 (by kernel_rfl) (by kernel_rfl) (by kernel_rfl) _ rfl (by kernel_rfl) (fun j v _ => ([.bool false, .bool true, .bool true, .pointer (some ⟨w.heap.size, 0, none⟩), .agg (u8s X).toArray, .slice (some ⟨b, o, none⟩) N c, .int .i64 k, .pointer (some ⟨b, o + k * 33, none⟩), .pointer (some ⟨b, o + k * 33, none⟩), .agg (u8s Y).toArray, .bool true, .bool true] : List Value)[j]? = some v) (fun w4 => PutI w w.heap.size M (X, d) k A2 c2 w4) (fun a b => Below a.heap.size a b) (HI.out.ext (below_drewN (Below.refl _ _) 1)) (fun _ _ _ _ hb hv => hv) ?_ ?_
            · refine of_allOps ⟨?_, ?_, ?_, ?_, ?_, ?_, ?_, ?_, ?_, ?_, ?_, ?_, trivial⟩
              · intro T2 w2 hM hN hO hE K hK
                have o6 : T2[6]? = some (.bool false) := hO 6 rfl
                clear hE hO hN
                refine step_plain0 rfl ?_
                go_simp
                exact hK _ _ rfl hM (Below.refl _ _)
              · intro T2 w2 hM hN hO hE K hK
                obtain ⟨v0, h0, e0⟩ := hE ⟨0, .data⟩ (by simp) rfl _ _ rfl rfl
                rw [show v0 = .bool false from (Option.some.inj e0).symm] at h0
                clear hE hO hN
                refine step_plain0 rfl ?_
                go_simp
                exact hK _ _ rfl hM (Below.refl _ _)
              · intro T2 w2 hM hN hO hE K hK
                obtain ⟨v1, h1, e1⟩ := hE ⟨1, .data⟩ (by simp) rfl _ _ rfl rfl
                rw [show v1 = .bool true from (Option.some.inj e1).symm] at h1
                clear hE hO hN
                refine step_plain0 rfl ?_
                go_simp
                exact hK _ _ rfl hM (Below.refl _ _)
              · intro T2 w2 hM hN hO hE K hK
                obtain ⟨v2, h2, e2⟩ := hE ⟨2, .guard⟩ (by simp) rfl _ _ rfl rfl
                rw [show v2 = .bool true from (Option.some.inj e2).symm] at h2
                have o3 : T2[3]? = some (.pointer (some ⟨w.heap.size, 0, none⟩)) := hO 3 rfl
                clear hE hO hN
                refine grd_met rfl rfl rfl h2 ?_
                go_simp
                exact hK _ _ rfl hM (Below.refl _ _)
              · intro T2 w2 hM hN hO hE K hK
                obtain ⟨v3, h3, e3⟩ := hE ⟨3, .data⟩ (by simp) rfl _ _ rfl rfl
                rw [show v3 = .pointer (some ⟨w.heap.size, 0, none⟩) from (Option.some.inj e3).symm] at h3
                obtain ⟨v2, h2, e2⟩ := hE ⟨2, .guard⟩ (by simp) rfl _ _ rfl rfl
                rw [show v2 = .bool true from (Option.some.inj e2).symm] at h2
                clear hE hO hN
                refine grd_met rfl rfl rfl h2 ?_
                refine wp_load_run 39 (.tmp 23) rfl (blob_dig (x := (X, d)) hX32 (BlobAt.cells hM.box)) ?_ ?_
                · simp [Act.eval, h3]
                · exact hK _ _ rfl hM (Below.refl _ _)
              · intro T2 w2 hM hN hO hE K hK
                obtain ⟨v2, h2, e2⟩ := hE ⟨2, .guard⟩ (by simp) rfl _ _ rfl rfl
                rw [show v2 = .bool true from (Option.some.inj e2).symm] at h2
                have o0 : T2[0]? = some (.slice (some ⟨b, o, none⟩) N c) := hO 0 rfl
                clear hE hO hN
                refine grd_met rfl rfl rfl h2 ?_
                go_simp
                exact hK _ _ rfl hM (Below.refl _ _)
              · intro T2 w2 hM hN hO hE K hK
                obtain ⟨v2, h2, e2⟩ := hE ⟨2, .guard⟩ (by simp) rfl _ _ rfl rfl
                rw [show v2 = .bool true from (Option.some.inj e2).symm] at h2
                have o7 : T2[7]? = some (.int .i64 k) := hO 7 rfl
                clear hE hO hN
                refine grd_met rfl rfl rfl h2 ?_
                go_simp
                exact hK _ _ rfl hM (Below.refl _ _)
              · intro T2 w2 hM hN hO hE K hK
                obtain ⟨v5, h5, e5⟩ := hE ⟨5, .data⟩ (by simp) rfl _ _ rfl rfl
                rw [show v5 = .slice (some ⟨b, o, none⟩) N c from (Option.some.inj e5).symm] at h5
                obtain ⟨v6, h6, e6⟩ := hE ⟨6, .data⟩ (by simp) rfl _ _ rfl rfl
                rw [show v6 = .int .i64 k from (Option.some.inj e6).symm] at h6
                obtain ⟨v2, h2, e2⟩ := hE ⟨2, .guard⟩ (by simp) rfl _ _ rfl rfl
                rw [show v2 = .bool true from (Option.some.inj e2).symm] at h2
                clear hE hO hN
                refine grd_met rfl rfl rfl h2 ?_
                go_simp
                exact hK _ _ rfl hM (Below.refl _ _)
              · intro T2 w2 hM hN hO hE K hK
                obtain ⟨v7, h7, e7⟩ := hE ⟨7, .data⟩ (by simp) rfl _ _ rfl rfl
                rw [show v7 = .pointer (some ⟨b, o + k * 33, none⟩) from (Option.some.inj e7).symm] at h7
                obtain ⟨v2, h2, e2⟩ := hE ⟨2, .guard⟩ (by simp) rfl _ _ rfl rfl
                rw [show v2 = .bool true from (Option.some.inj e2).symm] at h2
                clear hE hO hN
                refine grd_met rfl rfl rfl h2 ?_
                go_simp
                exact hK _ _ rfl hM (Below.refl _ _)
              · intro T2 w2 hM hN hO hE K hK
                obtain ⟨v8, h8, e8⟩ := hE ⟨8, .data⟩ (by simp) rfl _ _ rfl rfl
                rw [show v8 = .pointer (some ⟨b, o + k * 33, none⟩) from (Option.some.inj e8).symm] at h8
                obtain ⟨v2, h2, e2⟩ := hE ⟨2, .guard⟩ (by simp) rfl _ _ rfl rfl
                rw [show v2 = .bool true from (Option.some.inj e2).symm] at h2
                clear hE hO hN
                refine grd_met rfl rfl rfl h2 ?_
                refine wp_load_run 39 (.tmp 28) rfl (HL1.out w2 (hM.row.below)) ?_ ?_
                · simp [Act.eval, h8]
                · exact hK _ _ rfl hM (Below.refl _ _)
              · intro T2 w2 hM hN hO hE K hK
                obtain ⟨v4, h4, e4⟩ := hE ⟨4, .data⟩ (by simp) rfl _ _ rfl rfl
                rw [show v4 = .agg (u8s X).toArray from (Option.some.inj e4).symm] at h4
                obtain ⟨v9, h9, e9⟩ := hE ⟨9, .data⟩ (by simp) rfl _ _ rfl rfl
                rw [show v9 = .agg (u8s Y).toArray from (Option.some.inj e9).symm] at h9
                obtain ⟨v2, h2, e2⟩ := hE ⟨2, .guard⟩ (by simp) rfl _ _ rfl rfl
                rw [show v2 = .bool true from (Option.some.inj e2).symm] at h2
                clear hE hO hN
                refine grd_met rfl rfl rfl h2 ?_
                go_simp
                refine (less_any w2 X Y hX32 hY32).mono ?_
                rintro e w3 ⟨rfl, hb⟩
                rw [HBL.out]
                exact hK _ _ rfl (hM.ext hb) hb
              · intro T2 w2 hM hN hO hE K hK
                obtain ⟨v2, h2, e2⟩ := hE ⟨2, .data⟩ (by simp) rfl _ _ rfl rfl
                rw [show v2 = .bool true from (Option.some.inj e2).symm] at h2
                obtain ⟨v10, h10, e10⟩ := hE ⟨10, .data⟩ (by simp) rfl _ _ rfl rfl
                rw [show v10 = .bool true from (Option.some.inj e10).symm] at h10
                clear hE hO hN
                refine step_plain0 rfl ?_
                go_simp
                exact hK _ _ rfl hM (Below.refl _ _)
            · intro u w2 hM hF
              have e11 : u 11 = .bool true := (Option.some.inj (hF 11 (by omega))).symm
              clear hF
              simp only [fillAll, Nat.reduceAdd, e11, List.take_succ_cons, List.take_zero, List.drop_succ_cons, List.drop_zero, List.setIfInBounds_toArray, List.set_cons_succ, List.set_cons_zero]
              have HIQ := hid2 hM
              clear hM
              obtain ⟨W5, hW5⟩ : ∃ W0, W0 = w2.alloc (.cells (Value.agg (blobV (X, d)).toArray).cells 47) := ⟨_, rfl⟩
              have hrd5 := RowG.news (x := (X, d)) (HIQ.out.row) hX32
              rw [← hW5] at hrd5
              have hg5 : RowG w (w.heap.size + 1) ((loopB X d (M.take k)).1) A2 c2 W5 := by rw [hW5]; exact (HIQ.out.row).ext ((Below.refl _ _).alloc (Nat.le_refl _) _)
              have hs5 : w.heap.size + 1 ≤ W5.heap.size := by have h1 := HSZ.out; have h2 := (HIQ.out.row).below.size; rw [hW5]; simp; omega
              have hown5 := hg5.own
              rw [← HM.out] at hown5
              obtain ⟨V5, hV5⟩ : ∃ V0, V0 = blobsV ((loopB X d (M.take k)).1) := ⟨_, rfl⟩
              rw [← hV5] at hown5
              have HLD5 := hid2 (blob_load (x := (X, d)) hX32 (BlobAt.cells HIQ.out.box))
              have HW5 := hid2 hW5
              have HRD5 := hid2 hrd5
              have HG5 := hid2 hg5
              have HS5 := hid2 hs5
              have HOWN5 := hid2 hown5
              have HV5 := hid2 hV5
              clear hW5 hrd5 hg5 hs5 hown5 hV5
              go_wp2_with (first
                | ((with_reducible refine wpList_load_run HLD5.out ?_ ?_); exact rfl)
                | ((with_reducible refine wpList_build_one 47 (.agg (blobV (X, d)).toArray) blobZ 33 Try.underlying37 zero_blob rfl (blob_cs hX32) (by decide) (by decide) ?_ ?_); exact rfl; rw [← HW5.out])
                | (at_builtin; (with_reducible refine wpList_append_lit 47 blobZ 33 48 Try.underlying37 info_blob3 rfl (w.heap.size + 1) A2 m c2 V5 HOWN5.out 1 _ (.slice (some ⟨w2.heap.size, 0, none⟩) 1 1) (Src.slice Try.underlying37 HRD5.out) (blob_one (X, d)) ?_ ?_ ?_ ?_ ?_); (unfold maxLen; omega); omega; exact HS5.out; exact ⟨rfl, rfl⟩; intro A5 c5 w5 hownx5 hgrx5 hblx5; have HGR5 := hid2 hgrx5; have HOWNX5 := hid2 hownx5; clear hgrx5 hownx5 hblx5
                   have hrow5 : RowG w (w.heap.size + 1) ((loopB X d (M.take k)).1 ++ [(X, d)]) A5 c5 w5 := HG5.out.grown (x := (X, d)) (by omega) hX32 (by rw [← HM.out, ← HV5.out]; exact HOWNX5.out) HGR5.out
                   have HROW5 := hid2 hrow5
                   clear hrow5
                   have HM5 := hid2 (show m + 1 = ((loopB X d (M.take k)).1 ++ [(X, d)]).length from by rw [List.length_append, ← HM.out]; rfl)
                   have HBX5 := hid2 (show BlobAt w5 w.heap.size (X, d) from (HGR5.out.block _ (by have := HS5.out; omega) (fun e' => by have := (HG5.out.own.block _ e'.symm).1; omega)).trans (by rw [HW5.out]; exact (Below.heap_alloc _ _ _ (heap_lt HIQ.out.box)).trans HIQ.out.box))
                   obtain ⟨W7, hW7⟩ : ∃ W0, W0 = w5.alloc (.cells (Value.agg (blobV x).toArray).cells 47) := ⟨_, rfl⟩
                   have hrd7 := RowG.news (x := x) (HROW5.out) HX32.out
                   rw [← hW7] at hrd7
                   have hg7 : RowG w (w.heap.size + 1) ((loopB X d (M.take k)).1 ++ [(X, d)]) A5 c5 W7 := by rw [hW7]; exact (HROW5.out).ext ((Below.refl _ _).alloc (Nat.le_refl _) _)
                   have hs7 : w.heap.size + 1 ≤ W7.heap.size := by have h1 := HSZ.out; have h2 := (HROW5.out).below.size; rw [hW7]; simp; omega
                   have hown7 := hg7.own
                   rw [← HM5.out] at hown7
                   obtain ⟨V7, hV7⟩ : ∃ V0, V0 = blobsV ((loopB X d (M.take k)).1 ++ [(X, d)]) := ⟨_, rfl⟩
                   rw [← hV7] at hown7
                   have HLD7 := hid2 (HL3.out w5 HROW5.out.below)
                   have HW7 := hid2 hW7
                   have HRD7 := hid2 hrd7
                   have HG7 := hid2 hg7
                   have HS7 := hid2 hs7
                   have HOWN7 := hid2 hown7
                   have HV7 := hid2 hV7
                   clear hW7 hrd7 hg7 hs7 hown7 hV7)
                | ((with_reducible refine wpList_load_run HLD7.out ?_ ?_); exact rfl)
                | ((with_reducible refine wpList_build_one 47 (.agg (blobV x).toArray) blobZ 33 Try.underlying37 zero_blob rfl (blob_cs HX32.out) (by decide) (by decide) ?_ ?_); exact rfl; rw [← HW7.out])
                | (at_builtin; (with_reducible refine wpList_append_lit 47 blobZ 33 48 Try.underlying37 info_blob3 rfl (w.heap.size + 1) A5 (m + 1) c5 V7 HOWN7.out 1 _ (.slice (some ⟨w5.heap.size, 0, none⟩) 1 1) (Src.slice Try.underlying37 HRD7.out) (blob_one x) ?_ ?_ ?_ ?_ ?_); (unfold maxLen; omega); omega; exact HS7.out; exact ⟨rfl, rfl⟩; intro A7 c7 w7 hownx7 hgrx7 hblx7; have HGR7 := hid2 hgrx7; have HOWNX7 := hid2 hownx7; clear hgrx7 hownx7 hblx7))
              have hrow7 : RowG w (w.heap.size + 1) ((loopB X d (M.take k)).1 ++ [(X, d)] ++ [x]) A7 c7 w7 := HG7.out.grown (x := x) (by omega) HX32.out (by rw [← HM5.out, ← HV7.out]; exact HOWNX7.out) HGR7.out
              have HROW7 := hid2 hrow7
              clear hrow7
              go_roundg (gk - 1)
              case rel => exact ⟨k + 1, A7, m + 1 + 1, c7, true, by omega, by go_num, rfl, by rw [HST.out], by rw [HST.out, List.length_append, ← HM5.out]; rfl, rfl, by rw [HST.out]; exact HROW7.out, (HGR7.out.block _ (by have := HS7.out; omega) (fun e' => by have := (HG7.out.own.block _ e'.symm).1; omega)).trans (by rw [HW7.out]; exact (Below.heap_alloc _ _ _ (heap_lt HBX5.out)).trans HBX5.out)⟩
              case measure => omega
          | false =>
            have HST := hid2 (show loopB X d (M.take (k + 1)) = ((loopB X d (M.take k)).1 ++ [x], false) from by rw [HSTEP.out, if_neg (fun h => by have := HBLE.out.2 h.2; cases this)])
            go_wp2_with fail
            refine wp_region_grd 12 (by kernel_rfl) (by kernel_rfl) (by kernel_rfl) _ rfl (by kernel_rfl) (fun j v _ => ([.bool false, .bool true, .bool true, .pointer (some ⟨w.heap.size, 0, none⟩), .agg (u8s X).toArray, .slice (some ⟨b, o, none⟩) N c, .int .i64 k, .pointer (some ⟨b, o + k * 33, none⟩), .pointer (some ⟨b, o + k * 33, none⟩), .agg (u8s Y).toArray, .bool false, .bool false] : List Value)[j]? = some v) (fun w4 => PutI w w.heap.size M (X, d) k A2 c2 w4) (fun a b => Below a.heap.size a b) (HI.out.ext (below_drewN (Below.refl _ _) 1)) (fun _ _ _ _ hb hv => hv) ?_ ?_
            · refine of_allOps ⟨?_, ?_, ?_, ?_, ?_, ?_, ?_, ?_, ?_, ?_, ?_, ?_, trivial⟩
              · intro T2 w2 hM hN hO hE K hK
                have o6 : T2[6]? = some (.bool false) := hO 6 rfl
                clear hE hO hN
                refine step_plain0 rfl ?_
                go_simp
                exact hK _ _ rfl hM (Below.refl _ _)
              · intro T2 w2 hM hN hO hE K hK
                obtain ⟨v0, h0, e0⟩ := hE ⟨0, .data⟩ (by simp) rfl _ _ rfl rfl
                rw [show v0 = .bool false from (Option.some.inj e0).symm] at h0
                clear hE hO hN
                refine step_plain0 rfl ?_
                go_simp
                exact hK _ _ rfl hM (Below.refl _ _)
              · intro T2 w2 hM hN hO hE K hK
                obtain ⟨v1, h1, e1⟩ := hE ⟨1, .data⟩ (by simp) rfl _ _ rfl rfl
                rw [show v1 = .bool true from (Option.some.inj e1).symm] at h1
                clear hE hO hN
                refine step_plain0 rfl ?_
                go_simp
                exact hK _ _ rfl hM (Below.refl _ _)
              · intro T2 w2 hM hN hO hE K hK
                obtain ⟨v2, h2, e2⟩ := hE ⟨2, .guard⟩ (by simp) rfl _ _ rfl rfl
                rw [show v2 = .bool true from (Option.some.inj e2).symm] at h2
                have o3 : T2[3]? = some (.pointer (some ⟨w.heap.size, 0, none⟩)) := hO 3 rfl
                clear hE hO hN
                refine grd_met rfl rfl rfl h2 ?_
                go_simp
                exact hK _ _ rfl hM (Below.refl _ _)
              · intro T2 w2 hM hN hO hE K hK
                obtain ⟨v3, h3, e3⟩ := hE ⟨3, .data⟩ (by simp) rfl _ _ rfl rfl
                rw [show v3 = .pointer (some ⟨w.heap.size, 0, none⟩) from (Option.some.inj e3).symm] at h3
                obtain ⟨v2, h2, e2⟩ := hE ⟨2, .guard⟩ (by simp) rfl _ _ rfl rfl
                rw [show v2 = .bool true from (Option.some.inj e2).symm] at h2
                clear hE hO hN
                refine grd_met rfl rfl rfl h2 ?_
                refine wp_load_run 39 (.tmp 23) rfl (blob_dig (x := (X, d)) hX32 (BlobAt.cells hM.box)) ?_ ?_
                · simp [Act.eval, h3]
                · exact hK _ _ rfl hM (Below.refl _ _)
              · intro T2 w2 hM hN hO hE K hK
                obtain ⟨v2, h2, e2⟩ := hE ⟨2, .guard⟩ (by simp) rfl _ _ rfl rfl
                rw [show v2 = .bool true from (Option.some.inj e2).symm] at h2
                have o0 : T2[0]? = some (.slice (some ⟨b, o, none⟩) N c) := hO 0 rfl
                clear hE hO hN
                refine grd_met rfl rfl rfl h2 ?_
                go_simp
                exact hK _ _ rfl hM (Below.refl _ _)
              · intro T2 w2 hM hN hO hE K hK
                obtain ⟨v2, h2, e2⟩ := hE ⟨2, .guard⟩ (by simp) rfl _ _ rfl rfl
                rw [show v2 = .bool true from (Option.some.inj e2).symm] at h2
                have o7 : T2[7]? = some (.int .i64 k) := hO 7 rfl
                clear hE hO hN
                refine grd_met rfl rfl rfl h2 ?_
                go_simp
                exact hK _ _ rfl hM (Below.refl _ _)
              · intro T2 w2 hM hN hO hE K hK
                obtain ⟨v5, h5, e5⟩ := hE ⟨5, .data⟩ (by simp) rfl _ _ rfl rfl
                rw [show v5 = .slice (some ⟨b, o, none⟩) N c from (Option.some.inj e5).symm] at h5
                obtain ⟨v6, h6, e6⟩ := hE ⟨6, .data⟩ (by simp) rfl _ _ rfl rfl
                rw [show v6 = .int .i64 k from (Option.some.inj e6).symm] at h6
                obtain ⟨v2, h2, e2⟩ := hE ⟨2, .guard⟩ (by simp) rfl _ _ rfl rfl
                rw [show v2 = .bool true from (Option.some.inj e2).symm] at h2
                clear hE hO hN
                refine grd_met rfl rfl rfl h2 ?_
                go_simp
                exact hK _ _ rfl hM (Below.refl _ _)
              · intro T2 w2 hM hN hO hE K hK
                obtain ⟨v7, h7, e7⟩ := hE ⟨7, .data⟩ (by simp) rfl _ _ rfl rfl
                rw [show v7 = .pointer (some ⟨b, o + k * 33, none⟩) from (Option.some.inj e7).symm] at h7
                obtain ⟨v2, h2, e2⟩ := hE ⟨2, .guard⟩ (by simp) rfl _ _ rfl rfl
                rw [show v2 = .bool true from (Option.some.inj e2).symm] at h2
                clear hE hO hN
                refine grd_met rfl rfl rfl h2 ?_
                go_simp
                exact hK _ _ rfl hM (Below.refl _ _)
              · intro T2 w2 hM hN hO hE K hK
                obtain ⟨v8, h8, e8⟩ := hE ⟨8, .data⟩ (by simp) rfl _ _ rfl rfl
                rw [show v8 = .pointer (some ⟨b, o + k * 33, none⟩) from (Option.some.inj e8).symm] at h8
                obtain ⟨v2, h2, e2⟩ := hE ⟨2, .guard⟩ (by simp) rfl _ _ rfl rfl
                rw [show v2 = .bool true from (Option.some.inj e2).symm] at h2
                clear hE hO hN
                refine grd_met rfl rfl rfl h2 ?_
                refine wp_load_run 39 (.tmp 28) rfl (HL1.out w2 (hM.row.below)) ?_ ?_
                · simp [Act.eval, h8]
                · exact hK _ _ rfl hM (Below.refl _ _)
              · intro T2 w2 hM hN hO hE K hK
                obtain ⟨v4, h4, e4⟩ := hE ⟨4, .data⟩ (by simp) rfl _ _ rfl rfl
                rw [show v4 = .agg (u8s X).toArray from (Option.some.inj e4).symm] at h4
                obtain ⟨v9, h9, e9⟩ := hE ⟨9, .data⟩ (by simp) rfl _ _ rfl rfl
                rw [show v9 = .agg (u8s Y).toArray from (Option.some.inj e9).symm] at h9
                obtain ⟨v2, h2, e2⟩ := hE ⟨2, .guard⟩ (by simp) rfl _ _ rfl rfl
                rw [show v2 = .bool true from (Option.some.inj e2).symm] at h2
                clear hE hO hN
                refine grd_met rfl rfl rfl h2 ?_
                go_simp
                refine (less_any w2 X Y hX32 hY32).mono ?_
                rintro e w3 ⟨rfl, hb⟩
                rw [HBL.out]
                exact hK _ _ rfl (hM.ext hb) hb
              · intro T2 w2 hM hN hO hE K hK
                obtain ⟨v2, h2, e2⟩ := hE ⟨2, .data⟩ (by simp) rfl _ _ rfl rfl
                rw [show v2 = .bool true from (Option.some.inj e2).symm] at h2
                obtain ⟨v10, h10, e10⟩ := hE ⟨10, .data⟩ (by simp) rfl _ _ rfl rfl
                rw [show v10 = .bool false from (Option.some.inj e10).symm] at h10
                clear hE hO hN
                refine step_plain0 rfl ?_
                go_simp
                exact hK _ _ rfl hM (Below.refl _ _)
            · intro u w2 hM hF
              have e11 : u 11 = .bool false := (Option.some.inj (hF 11 (by omega))).symm
              clear hF
              simp only [fillAll, Nat.reduceAdd, e11, List.take_succ_cons, List.take_zero, List.drop_succ_cons, List.drop_zero, List.setIfInBounds_toArray, List.set_cons_succ, List.set_cons_zero]
              have HIQ := hid2 hM
              clear hM
              obtain ⟨W7, hW7⟩ : ∃ W0, W0 = w2.alloc (.cells (Value.agg (blobV x).toArray).cells 47) := ⟨_, rfl⟩
              have hrd7 := RowG.news (x := x) (HIQ.out.row) HX32.out
              rw [← hW7] at hrd7
              have hg7 : RowG w (w.heap.size + 1) ((loopB X d (M.take k)).1) A2 c2 W7 := by rw [hW7]; exact (HIQ.out.row).ext ((Below.refl _ _).alloc (Nat.le_refl _) _)
              have hs7 : w.heap.size + 1 ≤ W7.heap.size := by have h1 := HSZ.out; have h2 := (HIQ.out.row).below.size; rw [hW7]; simp; omega
              have hown7 := hg7.own
              rw [← HM.out] at hown7
              obtain ⟨V7, hV7⟩ : ∃ V0, V0 = blobsV ((loopB X d (M.take k)).1) := ⟨_, rfl⟩
              rw [← hV7] at hown7
              have HLD7 := hid2 (HL3.out w2 HIQ.out.row.below)
              have HW7 := hid2 hW7
              have HRD7 := hid2 hrd7
              have HG7 := hid2 hg7
              have HS7 := hid2 hs7
              have HOWN7 := hid2 hown7
              have HV7 := hid2 hV7
              clear hW7 hrd7 hg7 hs7 hown7 hV7
              go_wp2_with (first
                | ((with_reducible refine wpList_load_run HLD7.out ?_ ?_); exact rfl)
                | ((with_reducible refine wpList_build_one 47 (.agg (blobV x).toArray) blobZ 33 Try.underlying37 zero_blob rfl (blob_cs HX32.out) (by decide) (by decide) ?_ ?_); exact rfl; rw [← HW7.out])
                | (at_builtin; (with_reducible refine wpList_append_lit 47 blobZ 33 48 Try.underlying37 info_blob3 rfl (w.heap.size + 1) A2 m c2 V7 HOWN7.out 1 _ (.slice (some ⟨w2.heap.size, 0, none⟩) 1 1) (Src.slice Try.underlying37 HRD7.out) (blob_one x) ?_ ?_ ?_ ?_ ?_); (unfold maxLen; omega); omega; exact HS7.out; exact ⟨rfl, rfl⟩; intro A7 c7 w7 hownx7 hgrx7 hblx7; have HGR7 := hid2 hgrx7; have HOWNX7 := hid2 hownx7; clear hgrx7 hownx7 hblx7))
              have hrow7 : RowG w (w.heap.size + 1) ((loopB X d (M.take k)).1 ++ [x]) A7 c7 w7 := HG7.out.grown (x := x) (by omega) HX32.out (by rw [← HM.out, ← HV7.out]; exact HOWNX7.out) HGR7.out
              have HROW7 := hid2 hrow7
              clear hrow7
              go_roundg (gk - 1)
              case rel => exact ⟨k + 1, A7, m + 1, c7, false, by omega, by go_num, rfl, by rw [HST.out], by rw [HST.out, List.length_append, ← HM.out]; rfl, rfl, by rw [HST.out]; exact HROW7.out, (HGR7.out.block _ (by have := HS7.out; omega) (fun e' => by have := (HG7.out.own.block _ e'.symm).1; omega)).trans (by rw [HW7.out]; exact (Below.heap_alloc _ _ _ (heap_lt HIQ.out.box)).trans HIQ.out.box)⟩
              case measure => omega
      · have hkN : k = N := by omega
        have hlt' : ¬ (k : Int) < N := by omega
        have hMk : M.take k = M := by rw [hkN, HN.out, List.take_length]
        have HMK := hid2 hMk
        clear hMk hkN hlt
        cases fb with
        | true =>
          have HE := hid2 (show putB M X d = (loopB X d (M.take k)).1 from by rw [HP.out, endB, HMK.out, if_pos (by rw [← HMK.out, ← HFB.out])])
          go_wp2_with fail
          go_ret
          first
            | exact ⟨A2, c2, by rw [HE.out, ← HM.out]; rfl, by rw [HE.out]; exact HI.out.row.own.rd, .inr fun b hb => by have := HI.out.row.own.block b hb; exact ⟨by omega, this.2.1⟩, HI.out.row.below⟩
            | exact ⟨A2, ⟨c2, by rw [HE.out, ← HM.out]; rfl⟩, by rw [HE.out]; exact HI.out.row.own.rd, .inr fun b hb => by have := HI.out.row.own.block b hb; exact ⟨by omega, this.2.1⟩, HI.out.row.below⟩
        | false =>
          have hmB3 := HMB2.out rfl
          have HE := hid2 (show putB M X d = (loopB X d (M.take k)).1 ++ [(X, d)] from by rw [HP.out, endB, HMK.out, if_neg (by rw [← HMK.out, ← HFB.out]; simp)])
          have HIQ := HI
          obtain ⟨W5, hW5⟩ : ∃ W0, W0 = wr.alloc (.cells (Value.agg (blobV (X, d)).toArray).cells 47) := ⟨_, rfl⟩
          have hrd5 := RowG.news (x := (X, d)) (HIQ.out.row) hX32
          rw [← hW5] at hrd5
          have hg5 : RowG w (w.heap.size + 1) ((loopB X d (M.take k)).1) A2 c2 W5 := by rw [hW5]; exact (HIQ.out.row).ext ((Below.refl _ _).alloc (Nat.le_refl _) _)
          have hs5 : w.heap.size + 1 ≤ W5.heap.size := by have h1 := HSZ.out; have h2 := (HIQ.out.row).below.size; rw [hW5]; simp; omega
          have hown5 := hg5.own
          rw [← HM.out] at hown5
          obtain ⟨V5, hV5⟩ : ∃ V0, V0 = blobsV ((loopB X d (M.take k)).1) := ⟨_, rfl⟩
          rw [← hV5] at hown5
          have HLD5 := hid2 (blob_load (x := (X, d)) hX32 (BlobAt.cells HIQ.out.box))
          have HW5 := hid2 hW5
          have HRD5 := hid2 hrd5
          have HG5 := hid2 hg5
          have HS5 := hid2 hs5
          have HOWN5 := hid2 hown5
          have HV5 := hid2 hV5
          clear hW5 hrd5 hg5 hs5 hown5 hV5
          go_wp2_with (first
            | ((with_reducible refine wpList_load_run HLD5.out ?_ ?_); exact rfl)
            | ((with_reducible refine wpList_build_one 47 (.agg (blobV (X, d)).toArray) blobZ 33 Try.underlying37 zero_blob rfl (blob_cs hX32) (by decide) (by decide) ?_ ?_); exact rfl; rw [← HW5.out])
            | (at_builtin; (with_reducible refine wpList_append_lit 47 blobZ 33 48 Try.underlying37 info_blob3 rfl (w.heap.size + 1) A2 m c2 V5 HOWN5.out 1 _ (.slice (some ⟨wr.heap.size, 0, none⟩) 1 1) (Src.slice Try.underlying37 HRD5.out) (blob_one (X, d)) ?_ ?_ ?_ ?_ ?_); (unfold maxLen; omega); omega; exact HS5.out; exact ⟨rfl, rfl⟩; intro A5 c5 w5 hownx5 hgrx5 hblx5; have HGR5 := hid2 hgrx5; have HOWNX5 := hid2 hownx5; clear hgrx5 hownx5 hblx5))
          have hrow5 : RowG w (w.heap.size + 1) ((loopB X d (M.take k)).1 ++ [(X, d)]) A5 c5 w5 := HG5.out.grown (x := (X, d)) (by omega) hX32 (by rw [← HM.out, ← HV5.out]; exact HOWNX5.out) HGR5.out
          have HROW5 := hid2 hrow5
          clear hrow5
          go_ret
          first
            | exact ⟨A5, c5, by rw [HE.out, List.length_append, ← HM.out]; rfl, by rw [HE.out]; exact HROW5.out.own.rd, .inr fun b hb => by have := HROW5.out.own.block b hb; exact ⟨by omega, this.2.1⟩, HROW5.out.below⟩
            | exact ⟨A5, ⟨c5, by rw [HE.out, List.length_append, ← HM.out]; rfl⟩, by rw [HE.out]; exact HROW5.out.own.rd, .inr fun b hb => by have := HROW5.out.own.block b hb; exact ⟨by omega, this.2.1⟩, HROW5.out.below⟩
end Go.Proofs.Ytegkjmmknjhdiaa
