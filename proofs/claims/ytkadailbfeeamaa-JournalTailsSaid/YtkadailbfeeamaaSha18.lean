/- The law ShaTexts. -/
import Derived.Test.YtkadailbfeeamaaSha17
import Derived.Deep.WholeRow
namespace Go.Proofs.Ytkadailbfeeamaa
open Go.RowKit
set_option maxRecDepth 100000
theorem of_hex_any (w : World) (d : List UInt8) (hd : d.length = 32) : Calls Try.prog 28 #[.string ⟨(hexOf d).toArray⟩] w fun e w' => e = .returned (.tuple #[.agg (u8s d).toArray, .bool true]) ∧ Below w.heap.size w w' := by
  refine (of_any w ⟨(hexOf d).toArray⟩).mono ?_
  rintro e w' ⟨rfl, hb⟩
  refine ⟨?_, hb⟩
  rw [show (⟨(hexOf d).toArray⟩ : ByteArray).data.toList = hexOf d by simp, ofHex_hexOf d hd, hexOk_hexOf d hd]
theorem hex_of_any (w : World) (s : ByteArray) (h : hexOk s.data.toList = true) : Calls Try.prog 30 #[.agg (u8s (ofHex s.data.toList)).toArray] w fun e w' => e = .returned (.string s) ∧ Below w.heap.size w w' := by
  refine (hex_any w _ (ofHex_length _)).mono ?_
  rintro e w' ⟨rfl, hb⟩
  refine ⟨?_, hb⟩
  rw [hexOf_ofHex _ h]
/-- digests that stand in blocks -/
def TInv (w wr : World) (rows : List (Nat × List UInt8)) : Prop := Below w.heap.size w wr ∧ ∀ r ∈ rows, wr.heap[r.1]? = some (.cells (u8s r.2).toArray 34 (0, 0))
theorem TInv.push {w wr : World} {rows : List (Nat × List UInt8)} (h : TInv w wr rows) (X : List UInt8) : TInv w (wr.alloc (.cells (u8s X).toArray 34)) ((wr.heap.size, X) :: rows) := by
  refine ⟨h.1.alloc h.1.size _, fun r hr => ?_⟩
  rcases List.mem_cons.1 hr with rfl | hr
  · exact heap_alloc_new wr _
  · have := h.2 r hr
    exact (Below.heap_alloc wr _ _ (heap_lt this)).trans this
theorem TInv.row {w wr : World} {rows : List (Nat × List UInt8)} (h : TInv w wr rows) (g : Nat) (X : List UInt8) (hm : (g, X) ∈ rows) : wr.heap[g]? = some (.cells (u8s X).toArray 34 (0, 0)) := h.2 (g, X) hm
theorem TInv.ext {w wr w2 : World} {rows : List (Nat × List UInt8)} (h : TInv w wr rows) (hb : Below wr.heap.size wr w2) : TInv w w2 rows :=
  ⟨h.1.trans (hb.mono h.1.size), fun r hr => (hb.block _ (heap_lt (h.2 r hr))).trans (h.2 r hr)⟩
theorem wpList_store_fresh {ops : Array Oper} {rest : List Oper} {a : Act} {Q : Exit → Act → World → Prop} {w1 : World} {dst : Option Tmp} {tt : TypeId} {x v : Operand} {pos : String} {after : Array Edge} (X : List UInt8) (hX : X.length = 32)
    (hxv : a.eval x = .pointer (some ⟨w1.heap.size, 0, none⟩) ∧ a.eval v = .agg (u8s X).toArray)
    (h : wpList Try.prog ops Q rest (a.put dst undef) (w1.alloc (.cells (u8s X).toArray 34))) :
    wpList Try.prog ops Q (⟨dst, .store 34 x v, tt, pos, after, none⟩ :: rest) a (w1.alloc (.cells #[Value.int IntKind.u8 0, Value.int IntKind.u8 0, Value.int IntKind.u8 0, Value.int IntKind.u8 0, Value.int IntKind.u8 0, Value.int IntKind.u8 0, Value.int IntKind.u8 0, Value.int IntKind.u8 0, Value.int IntKind.u8 0, Value.int IntKind.u8 0, Value.int IntKind.u8 0, Value.int IntKind.u8 0, Value.int IntKind.u8 0, Value.int IntKind.u8 0, Value.int IntKind.u8 0, Value.int IntKind.u8 0, Value.int IntKind.u8 0, Value.int IntKind.u8 0, Value.int IntKind.u8 0, Value.int IntKind.u8 0, Value.int IntKind.u8 0, Value.int IntKind.u8 0, Value.int IntKind.u8 0, Value.int IntKind.u8 0, Value.int IntKind.u8 0, Value.int IntKind.u8 0, Value.int IntKind.u8 0, Value.int IntKind.u8 0, Value.int IntKind.u8 0, Value.int IntKind.u8 0, Value.int IntKind.u8 0, Value.int IntKind.u8 0] 34)) := by
  refine wpList_store_lit w1.heap.size 0 (.agg (u8s X).toArray) (u8s X) (agg_cells _) (u8s (List.replicate 32 0)).toArray 34 (heap_alloc_new w1 _) (info_h8' hX) (fit_h hX) (u8s_one _) hxv ?_
  rw [laid_all (by rw [u8s_length, hX, List.size_toArray, u8s_length, List.length_replicate]), World.setRow_alloc_new]
  exact h
section
attribute [local go_sem high] run_eq_dig
attribute [local go_sem] ofHex_length
set_option maxHeartbeats 2000000 in
theorem shatexts_any (w : World) (d : List UInt8) (hd : d.length = 32) (s : ByteArray) : Calls Try.prog 10 #[.agg (u8s d).toArray, .string s] w fun e w' => e = .returned (.bool true) ∧ Below w.heap.size w w' := by
  have hB : TInv w (w.alloc (.cells (u8s d).toArray 34)) [(w.heap.size, d)] := TInv.push ⟨Below.refl _ _, by simp⟩ d
  go_enter Try.func10, Try.ntmps10
  by_cases h200 : 200 < s.size
  · have h200' : (200 : Int) < s.size := by omega
    go_wp2_with (first
      | (go_at_call 17; refine (fixed_any _).mono ?_; rintro e w1 ⟨rfl, hb⟩; replace hB := hB.ext hb; clear hb))
    go_ret
    exact ⟨rfl, hB.1⟩
  · have h200' : (s.size : Int) ≤ 200 := by omega
    obtain ⟨X, hX⟩ : ∃ X, X = ofHex s.data.toList := ⟨_, rfl⟩
    have hXl : X.length = 32 := by rw [hX]; exact ofHex_length _
    have HX := hid2 hX
    clear hX
    rcases hk : hexOk s.data.toList with _ | _
    · have HK := hid2 hk
      clear hk
      go_wp2_with (first
        | ((with_reducible refine wpList_store_fresh X hXl ?_ ?_); exact ⟨rfl, rfl⟩; replace hB := hB.push X)
        | ((with_reducible refine wpList_store_fresh d hd ?_ ?_); exact ⟨rfl, rfl⟩; replace hB := hB.push d)
        | (have hr := hB.row w.heap.size d (by simp); (with_reducible refine wpList_load_lit w.heap.size 0 _ _ _ hr (u8s d) (fun j _ => getElem?_zero_add _ j) _ Try.underlying34 (info_h8' hd) ?_ ?_); exact ⟨rfl, rfl⟩)
        | (have hr := hB.row wA.heap.size X (by simp); (with_reducible refine wpList_load_lit wA.heap.size 0 _ _ _ hr (u8s X) (fun j _ => getElem?_zero_add _ j) _ Try.underlying34 (info_h8' hXl) ?_ ?_); exact ⟨rfl, rfl⟩)
        | (have hr := hB.row wB.heap.size X (by simp); (with_reducible refine wpList_load_lit wB.heap.size 0 _ _ _ hr (u8s X) (fun j _ => getElem?_zero_add _ j) _ Try.underlying34 (info_h8' hXl) ?_ ?_); exact ⟨rfl, rfl⟩)
        | (have hr := hB.row wC.heap.size d (by simp); (with_reducible refine wpList_load_lit wC.heap.size 0 _ _ _ hr (u8s d) (fun j _ => getElem?_zero_add _ j) _ Try.underlying34 (info_h8' hd) ?_ ?_); exact ⟨rfl, rfl⟩)
        | (go_at_call 28; first | ((with_reducible refine (of_hex_any _ d hd).mono ?_); rintro e wC ⟨rfl, hb⟩; replace hB := hB.ext hb; clear hb) | ((with_reducible refine (of_any _ s).mono ?_); rintro e wA ⟨rfl, hb⟩; replace hB := hB.ext hb; clear hb; rw [HK.out, ← HX.out]))
        | (go_at_call 29; refine (refof_any _ s).mono ?_; rintro e wB ⟨rfl, hb⟩; replace hB := hB.ext hb; clear hb; rw [HK.out, ← HX.out])
        | (go_at_call 30; (with_reducible refine (hex_any _ d hd).mono ?_); rintro e w1 ⟨rfl, hb⟩; replace hB := hB.ext hb; clear hb)
        | (go_at_call 31; refine (refhex_any _ d hd).mono ?_; rintro e w1 ⟨rfl, hb⟩; replace hB := hB.ext hb; clear hb)
        | (go_at_call 17; refine (fixed_any _).mono ?_; rintro e w1 ⟨rfl, hb⟩; replace hB := hB.ext hb; clear hb))
      refine wp_region_grd 34 (by kernel_rfl) (by kernel_rfl) (by kernel_rfl) _ rfl (by kernel_rfl) (fun j v _ => ([.agg (u8s d).toArray, .string ⟨(hexOf d).toArray⟩, .agg (u8s d).toArray, .string ⟨(hexOf d).toArray⟩, .bool true, .bool true, .agg (u8s X).toArray, .agg (u8s X).toArray, .bool true, .bool true, .bool true, .bool false, .bool false, .bool true, .bool true, .bool true, .bool true, .bool true, .bool true, .agg (u8s d).toArray, .agg (u8s d).toArray, .bool true, .bool true, .bool true, .bool false, .bool true, .bool true, undef, undef, undef, undef, .bool true, .bool true, .bool true] : List Value)[j]? = some v) (fun w4 => TInv w w4 [(wC.heap.size, d), (wB.heap.size, X), (wA.heap.size, X), (w.heap.size, d)]) (fun a b => Below a.heap.size a b) (hB.ext (below_drewN (Below.refl _ _) 1)) (fun _ _ _ _ hb hv => hv) ?_ ?_
      · refine of_allOps ⟨?_, ?_, ?_, ?_, ?_, ?_, ?_, ?_, ?_, ?_, ?_, ?_, ?_, ?_, ?_, ?_, ?_, ?_, ?_, ?_, ?_, ?_, ?_, ?_, ?_, ?_, ?_, ?_, ?_, ?_, ?_, ?_, ?_, ?_, trivial⟩
        · intro T2 w2 hM hN hO hE K hK
          have o2 : T2[2]? = some (.pointer (some ⟨w.heap.size, 0, none⟩)) := hO 2 rfl
          clear hE hO hN
          refine step_plain0 rfl ?_
          refine wp_load_lit w.heap.size 0 _ _ _ (hM.row w.heap.size d (by simp)) (u8s d) (fun j _ => getElem?_zero_add _ j) _ Try.underlying34 (info_h8' hd) ⟨?_, rfl⟩ ?_
          · simp [Act.eval, o2]
          · exact hK _ _ rfl hM (Below.refl _ _)
        · intro T2 w2 hM hN hO hE K hK
          obtain ⟨v0, h0, e0⟩ := hE ⟨0, .data⟩ (by simp) rfl _ _ rfl rfl
          rw [show v0 = .agg (u8s d).toArray from (Option.some.inj e0).symm] at h0
          clear hE hO hN
          refine step_plain0 rfl ?_
          go_simp
          refine (hex_any _ d hd).mono ?_
          rintro e w3 ⟨rfl, hb⟩
          exact hK _ _ rfl (hM.ext hb) hb
        · intro T2 w2 hM hN hO hE K hK
          have o2 : T2[2]? = some (.pointer (some ⟨w.heap.size, 0, none⟩)) := hO 2 rfl
          clear hE hO hN
          refine step_plain0 rfl ?_
          refine wp_load_lit w.heap.size 0 _ _ _ (hM.row w.heap.size d (by simp)) (u8s d) (fun j _ => getElem?_zero_add _ j) _ Try.underlying34 (info_h8' hd) ⟨?_, rfl⟩ ?_
          · simp [Act.eval, o2]
          · exact hK _ _ rfl hM (Below.refl _ _)
        · intro T2 w2 hM hN hO hE K hK
          obtain ⟨v2, h2, e2⟩ := hE ⟨2, .data⟩ (by simp) rfl _ _ rfl rfl
          rw [show v2 = .agg (u8s d).toArray from (Option.some.inj e2).symm] at h2
          clear hE hO hN
          refine step_plain0 rfl ?_
          go_simp
          refine (refhex_any _ d hd).mono ?_
          rintro e w3 ⟨rfl, hb⟩
          exact hK _ _ rfl (hM.ext hb) hb
        · intro T2 w2 hM hN hO hE K hK
          obtain ⟨v1, h1, e1⟩ := hE ⟨1, .data⟩ (by simp) rfl _ _ rfl rfl
          rw [show v1 = .string ⟨(hexOf d).toArray⟩ from (Option.some.inj e1).symm] at h1
          obtain ⟨v3, h3, e3⟩ := hE ⟨3, .data⟩ (by simp) rfl _ _ rfl rfl
          rw [show v3 = .string ⟨(hexOf d).toArray⟩ from (Option.some.inj e3).symm] at h3
          clear hE hO hN
          refine step_plain0 rfl ?_
          go_simp
          exact hK _ _ rfl hM (Below.refl _ _)
        · intro T2 w2 hM hN hO hE K hK
          obtain ⟨v4, h4, e4⟩ := hE ⟨4, .data⟩ (by simp) rfl _ _ rfl rfl
          rw [show v4 = .bool true from (Option.some.inj e4).symm] at h4
          clear hE hO hN
          refine step_plain0 rfl ?_
          go_simp
          exact hK _ _ rfl hM (Below.refl _ _)
        · intro T2 w2 hM hN hO hE K hK
          obtain ⟨v5, h5, e5⟩ := hE ⟨5, .guard⟩ (by simp) rfl _ _ rfl rfl
          rw [show v5 = .bool true from (Option.some.inj e5).symm] at h5
          have o5 : T2[5]? = some (.pointer (some ⟨wA.heap.size, 0, none⟩)) := hO 5 rfl
          clear hE hO hN
          refine grd_met rfl rfl rfl h5 ?_
          refine wp_load_lit wA.heap.size 0 _ _ _ (hM.row wA.heap.size X (by simp)) (u8s X) (fun j _ => getElem?_zero_add _ j) _ Try.underlying34 (info_h8' hXl) ⟨?_, rfl⟩ ?_
          · simp [Act.eval, o5]
          · exact hK _ _ rfl hM (Below.refl _ _)
        · intro T2 w2 hM hN hO hE K hK
          obtain ⟨v5, h5, e5⟩ := hE ⟨5, .guard⟩ (by simp) rfl _ _ rfl rfl
          rw [show v5 = .bool true from (Option.some.inj e5).symm] at h5
          have o7 : T2[7]? = some (.pointer (some ⟨wB.heap.size, 0, none⟩)) := hO 7 rfl
          clear hE hO hN
          refine grd_met rfl rfl rfl h5 ?_
          refine wp_load_lit wB.heap.size 0 _ _ _ (hM.row wB.heap.size X (by simp)) (u8s X) (fun j _ => getElem?_zero_add _ j) _ Try.underlying34 (info_h8' hXl) ⟨?_, rfl⟩ ?_
          · simp [Act.eval, o7]
          · exact hK _ _ rfl hM (Below.refl _ _)
        · intro T2 w2 hM hN hO hE K hK
          obtain ⟨v6, h6, e6⟩ := hE ⟨6, .data⟩ (by simp) rfl _ _ rfl rfl
          rw [show v6 = .agg (u8s X).toArray from (Option.some.inj e6).symm] at h6
          obtain ⟨v7, h7, e7⟩ := hE ⟨7, .data⟩ (by simp) rfl _ _ rfl rfl
          rw [show v7 = .agg (u8s X).toArray from (Option.some.inj e7).symm] at h7
          obtain ⟨v5, h5, e5⟩ := hE ⟨5, .guard⟩ (by simp) rfl _ _ rfl rfl
          rw [show v5 = .bool true from (Option.some.inj e5).symm] at h5
          clear hE hO hN
          refine grd_met rfl rfl rfl h5 ?_
          go_simp
          exact hK _ _ rfl hM (Below.refl _ _)
        · intro T2 w2 hM hN hO hE K hK
          obtain ⟨v5, h5, e5⟩ := hE ⟨5, .data⟩ (by simp) rfl _ _ rfl rfl
          rw [show v5 = .bool true from (Option.some.inj e5).symm] at h5
          obtain ⟨v8, h8, e8⟩ := hE ⟨8, .data⟩ (by simp) rfl _ _ rfl rfl
          rw [show v8 = .bool true from (Option.some.inj e8).symm] at h8
          clear hE hO hN
          refine step_plain0 rfl ?_
          go_simp
          exact hK _ _ rfl hM (Below.refl _ _)
        · intro T2 w2 hM hN hO hE K hK
          obtain ⟨v9, h9, e9⟩ := hE ⟨9, .data⟩ (by simp) rfl _ _ rfl rfl
          rw [show v9 = .bool true from (Option.some.inj e9).symm] at h9
          clear hE hO hN
          refine step_plain0 rfl ?_
          go_simp
          exact hK _ _ rfl hM (Below.refl _ _)
        · intro T2 w2 hM hN hO hE K hK
          obtain ⟨v10, h10, e10⟩ := hE ⟨10, .guard⟩ (by simp) rfl _ _ rfl rfl
          rw [show v10 = .bool true from (Option.some.inj e10).symm] at h10
          have o6 : T2[6]? = some (.bool false) := hO 6 rfl
          clear hE hO hN
          refine grd_met rfl rfl rfl h10 ?_
          go_simp
          exact hK _ _ rfl hM (Below.refl _ _)
        · intro T2 w2 hM hN hO hE K hK
          obtain ⟨v10, h10, e10⟩ := hE ⟨10, .guard⟩ (by simp) rfl _ _ rfl rfl
          rw [show v10 = .bool true from (Option.some.inj e10).symm] at h10
          have o8 : T2[8]? = some (.bool false) := hO 8 rfl
          clear hE hO hN
          refine grd_met rfl rfl rfl h10 ?_
          go_simp
          exact hK _ _ rfl hM (Below.refl _ _)
        · intro T2 w2 hM hN hO hE K hK
          obtain ⟨v11, h11, e11⟩ := hE ⟨11, .data⟩ (by simp) rfl _ _ rfl rfl
          rw [show v11 = .bool false from (Option.some.inj e11).symm] at h11
          obtain ⟨v12, h12, e12⟩ := hE ⟨12, .data⟩ (by simp) rfl _ _ rfl rfl
          rw [show v12 = .bool false from (Option.some.inj e12).symm] at h12
          obtain ⟨v10, h10, e10⟩ := hE ⟨10, .guard⟩ (by simp) rfl _ _ rfl rfl
          rw [show v10 = .bool true from (Option.some.inj e10).symm] at h10
          clear hE hO hN
          refine grd_met rfl rfl rfl h10 ?_
          go_simp
          exact hK _ _ rfl hM (Below.refl _ _)
        · intro T2 w2 hM hN hO hE K hK
          obtain ⟨v10, h10, e10⟩ := hE ⟨10, .data⟩ (by simp) rfl _ _ rfl rfl
          rw [show v10 = .bool true from (Option.some.inj e10).symm] at h10
          obtain ⟨v13, h13, e13⟩ := hE ⟨13, .data⟩ (by simp) rfl _ _ rfl rfl
          rw [show v13 = .bool true from (Option.some.inj e13).symm] at h13
          clear hE hO hN
          refine step_plain0 rfl ?_
          go_simp
          exact hK _ _ rfl hM (Below.refl _ _)
        · intro T2 w2 hM hN hO hE K hK
          obtain ⟨v14, h14, e14⟩ := hE ⟨14, .data⟩ (by simp) rfl _ _ rfl rfl
          rw [show v14 = .bool true from (Option.some.inj e14).symm] at h14
          clear hE hO hN
          refine step_plain0 rfl ?_
          go_simp
          exact hK _ _ rfl hM (Below.refl _ _)
        · intro T2 w2 hM hN hO hE K hK
          obtain ⟨v15, h15, e15⟩ := hE ⟨15, .guard⟩ (by simp) rfl _ _ rfl rfl
          rw [show v15 = .bool true from (Option.some.inj e15).symm] at h15
          have o10 : T2[10]? = some (.bool true) := hO 10 rfl
          clear hE hO hN
          refine grd_met rfl rfl rfl h15 ?_
          go_simp
          exact hK _ _ rfl hM (Below.refl _ _)
        · intro T2 w2 hM hN hO hE K hK
          obtain ⟨v15, h15, e15⟩ := hE ⟨15, .data⟩ (by simp) rfl _ _ rfl rfl
          rw [show v15 = .bool true from (Option.some.inj e15).symm] at h15
          obtain ⟨v16, h16, e16⟩ := hE ⟨16, .data⟩ (by simp) rfl _ _ rfl rfl
          rw [show v16 = .bool true from (Option.some.inj e16).symm] at h16
          clear hE hO hN
          refine step_plain0 rfl ?_
          go_simp
          exact hK _ _ rfl hM (Below.refl _ _)
        · intro T2 w2 hM hN hO hE K hK
          obtain ⟨v17, h17, e17⟩ := hE ⟨17, .data⟩ (by simp) rfl _ _ rfl rfl
          rw [show v17 = .bool true from (Option.some.inj e17).symm] at h17
          clear hE hO hN
          refine step_plain0 rfl ?_
          go_simp
          exact hK _ _ rfl hM (Below.refl _ _)
        · intro T2 w2 hM hN hO hE K hK
          obtain ⟨v18, h18, e18⟩ := hE ⟨18, .guard⟩ (by simp) rfl _ _ rfl rfl
          rw [show v18 = .bool true from (Option.some.inj e18).symm] at h18
          have o9 : T2[9]? = some (.pointer (some ⟨wC.heap.size, 0, none⟩)) := hO 9 rfl
          clear hE hO hN
          refine grd_met rfl rfl rfl h18 ?_
          refine wp_load_lit wC.heap.size 0 _ _ _ (hM.row wC.heap.size d (by simp)) (u8s d) (fun j _ => getElem?_zero_add _ j) _ Try.underlying34 (info_h8' hd) ⟨?_, rfl⟩ ?_
          · simp [Act.eval, o9]
          · exact hK _ _ rfl hM (Below.refl _ _)
        · intro T2 w2 hM hN hO hE K hK
          obtain ⟨v18, h18, e18⟩ := hE ⟨18, .guard⟩ (by simp) rfl _ _ rfl rfl
          rw [show v18 = .bool true from (Option.some.inj e18).symm] at h18
          have o2 : T2[2]? = some (.pointer (some ⟨w.heap.size, 0, none⟩)) := hO 2 rfl
          clear hE hO hN
          refine grd_met rfl rfl rfl h18 ?_
          refine wp_load_lit w.heap.size 0 _ _ _ (hM.row w.heap.size d (by simp)) (u8s d) (fun j _ => getElem?_zero_add _ j) _ Try.underlying34 (info_h8' hd) ⟨?_, rfl⟩ ?_
          · simp [Act.eval, o2]
          · exact hK _ _ rfl hM (Below.refl _ _)
        · intro T2 w2 hM hN hO hE K hK
          obtain ⟨v19, h19, e19⟩ := hE ⟨19, .data⟩ (by simp) rfl _ _ rfl rfl
          rw [show v19 = .agg (u8s d).toArray from (Option.some.inj e19).symm] at h19
          obtain ⟨v20, h20, e20⟩ := hE ⟨20, .data⟩ (by simp) rfl _ _ rfl rfl
          rw [show v20 = .agg (u8s d).toArray from (Option.some.inj e20).symm] at h20
          obtain ⟨v18, h18, e18⟩ := hE ⟨18, .guard⟩ (by simp) rfl _ _ rfl rfl
          rw [show v18 = .bool true from (Option.some.inj e18).symm] at h18
          clear hE hO hN
          refine grd_met rfl rfl rfl h18 ?_
          go_simp
          exact hK _ _ rfl hM (Below.refl _ _)
        · intro T2 w2 hM hN hO hE K hK
          obtain ⟨v18, h18, e18⟩ := hE ⟨18, .data⟩ (by simp) rfl _ _ rfl rfl
          rw [show v18 = .bool true from (Option.some.inj e18).symm] at h18
          obtain ⟨v21, h21, e21⟩ := hE ⟨21, .data⟩ (by simp) rfl _ _ rfl rfl
          rw [show v21 = .bool true from (Option.some.inj e21).symm] at h21
          clear hE hO hN
          refine step_plain0 rfl ?_
          go_simp
          exact hK _ _ rfl hM (Below.refl _ _)
        · intro T2 w2 hM hN hO hE K hK
          obtain ⟨v22, h22, e22⟩ := hE ⟨22, .data⟩ (by simp) rfl _ _ rfl rfl
          rw [show v22 = .bool true from (Option.some.inj e22).symm] at h22
          clear hE hO hN
          refine step_plain0 rfl ?_
          go_simp
          exact hK _ _ rfl hM (Below.refl _ _)
        · intro T2 w2 hM hN hO hE K hK
          obtain ⟨v23, h23, e23⟩ := hE ⟨23, .guard⟩ (by simp) rfl _ _ rfl rfl
          rw [show v23 = .bool true from (Option.some.inj e23).symm] at h23
          have o6 : T2[6]? = some (.bool false) := hO 6 rfl
          clear hE hO hN
          refine grd_met rfl rfl rfl h23 ?_
          go_simp
          exact hK _ _ rfl hM (Below.refl _ _)
        · intro T2 w2 hM hN hO hE K hK
          obtain ⟨v24, h24, e24⟩ := hE ⟨24, .data⟩ (by simp) rfl _ _ rfl rfl
          rw [show v24 = .bool false from (Option.some.inj e24).symm] at h24
          obtain ⟨v23, h23, e23⟩ := hE ⟨23, .guard⟩ (by simp) rfl _ _ rfl rfl
          rw [show v23 = .bool true from (Option.some.inj e23).symm] at h23
          clear hE hO hN
          refine grd_met rfl rfl rfl h23 ?_
          go_simp
          exact hK _ _ rfl hM (Below.refl _ _)
        · intro T2 w2 hM hN hO hE K hK
          obtain ⟨v25, h25, e25⟩ := hE ⟨25, .data⟩ (by simp) rfl _ _ rfl rfl
          rw [show v25 = .bool true from (Option.some.inj e25).symm] at h25
          obtain ⟨v23, h23, e23⟩ := hE ⟨23, .guard⟩ (by simp) rfl _ _ rfl rfl
          rw [show v23 = .bool true from (Option.some.inj e23).symm] at h23
          clear hE hO hN
          refine grd_met rfl rfl rfl h23 ?_
          go_simp
          exact hK _ _ rfl hM (Below.refl _ _)
        · intro T2 w2 hM hN hO hE K hK
          obtain ⟨v26, h26, e26⟩ := hE ⟨26, .guard⟩ (by simp) rfl _ _ rfl rfl
          rw [show v26 = .bool true from (Option.some.inj e26).symm] at h26
          clear hE hO hN
          refine grd_not rfl rfl rfl h26 (by decide) ?_
          exact hK _ _ rfl hM (Below.refl _ _)
        · intro T2 w2 hM hN hO hE K hK
          obtain ⟨v26, h26, e26⟩ := hE ⟨26, .guard⟩ (by simp) rfl _ _ rfl rfl
          rw [show v26 = .bool true from (Option.some.inj e26).symm] at h26
          clear hE hO hN
          refine grd_not rfl rfl rfl h26 (by decide) ?_
          exact hK _ _ rfl hM (Below.refl _ _)
        · intro T2 w2 hM hN hO hE K hK
          obtain ⟨v26, h26, e26⟩ := hE ⟨26, .guard⟩ (by simp) rfl _ _ rfl rfl
          rw [show v26 = .bool true from (Option.some.inj e26).symm] at h26
          clear hE hO hN
          refine grd_not rfl rfl rfl h26 (by decide) ?_
          exact hK _ _ rfl hM (Below.refl _ _)
        · intro T2 w2 hM hN hO hE K hK
          obtain ⟨v26, h26, e26⟩ := hE ⟨26, .guard⟩ (by simp) rfl _ _ rfl rfl
          rw [show v26 = .bool true from (Option.some.inj e26).symm] at h26
          clear hE hO hN
          refine grd_not rfl rfl rfl h26 (by decide) ?_
          exact hK _ _ rfl hM (Below.refl _ _)
        · intro T2 w2 hM hN hO hE K hK
          obtain ⟨v26, h26, e26⟩ := hE ⟨26, .data⟩ (by simp) rfl _ _ rfl rfl
          rw [show v26 = .bool true from (Option.some.inj e26).symm] at h26
          obtain ⟨v23, h23, e23⟩ := hE ⟨23, .guard⟩ (by simp) rfl _ _ rfl rfl
          rw [show v23 = .bool true from (Option.some.inj e23).symm] at h23
          clear hE hO hN
          refine grd_met rfl rfl rfl h23 ?_
          go_simp
          exact hK _ _ rfl hM (Below.refl _ _)
        · intro T2 w2 hM hN hO hE K hK
          obtain ⟨v23, h23, e23⟩ := hE ⟨23, .data⟩ (by simp) rfl _ _ rfl rfl
          rw [show v23 = .bool true from (Option.some.inj e23).symm] at h23
          obtain ⟨v31, h31, e31⟩ := hE ⟨31, .data⟩ (by simp) rfl _ _ rfl rfl
          rw [show v31 = .bool true from (Option.some.inj e31).symm] at h31
          clear hE hO hN
          refine step_plain0 rfl ?_
          go_simp
          exact hK _ _ rfl hM (Below.refl _ _)
        · intro T2 w2 hM hN hO hE K hK
          obtain ⟨v32, h32, e32⟩ := hE ⟨32, .data⟩ (by simp) rfl _ _ rfl rfl
          rw [show v32 = .bool true from (Option.some.inj e32).symm] at h32
          clear hE hO hN
          refine step_plain0 rfl ?_
          go_simp
          exact hK _ _ rfl hM (Below.refl _ _)
      · intro u w2 hM hF
        have e33 : u 33 = .bool true := (Option.some.inj (hF 33 (by omega))).symm
        clear hF
        simp only [fillAll, Nat.reduceAdd, e33, List.take_succ_cons, List.take_zero, List.drop_succ_cons, List.drop_zero, List.setIfInBounds_toArray, List.set_cons_succ, List.set_cons_zero]
        go_wp2_with (first
          | (go_at_call 17; refine (fixed_any _).mono ?_; rintro e w1 ⟨rfl, hb⟩; replace hM := hM.ext hb; clear hb))
        go_ret
        exact ⟨rfl, hM.1⟩
    · have HK := hid2 hk
      clear hk
      go_wp2_with (first
        | ((with_reducible refine wpList_store_fresh X hXl ?_ ?_); exact ⟨rfl, rfl⟩; replace hB := hB.push X)
        | ((with_reducible refine wpList_store_fresh d hd ?_ ?_); exact ⟨rfl, rfl⟩; replace hB := hB.push d)
        | (have hr := hB.row w.heap.size d (by simp); (with_reducible refine wpList_load_lit w.heap.size 0 _ _ _ hr (u8s d) (fun j _ => getElem?_zero_add _ j) _ Try.underlying34 (info_h8' hd) ?_ ?_); exact ⟨rfl, rfl⟩)
        | (have hr := hB.row wA.heap.size X (by simp); (with_reducible refine wpList_load_lit wA.heap.size 0 _ _ _ hr (u8s X) (fun j _ => getElem?_zero_add _ j) _ Try.underlying34 (info_h8' hXl) ?_ ?_); exact ⟨rfl, rfl⟩)
        | (have hr := hB.row wB.heap.size X (by simp); (with_reducible refine wpList_load_lit wB.heap.size 0 _ _ _ hr (u8s X) (fun j _ => getElem?_zero_add _ j) _ Try.underlying34 (info_h8' hXl) ?_ ?_); exact ⟨rfl, rfl⟩)
        | (have hr := hB.row wC.heap.size d (by simp); (with_reducible refine wpList_load_lit wC.heap.size 0 _ _ _ hr (u8s d) (fun j _ => getElem?_zero_add _ j) _ Try.underlying34 (info_h8' hd) ?_ ?_); exact ⟨rfl, rfl⟩)
        | (go_at_call 28; first | ((with_reducible refine (of_hex_any _ d hd).mono ?_); rintro e wC ⟨rfl, hb⟩; replace hB := hB.ext hb; clear hb) | ((with_reducible refine (of_any _ s).mono ?_); rintro e wA ⟨rfl, hb⟩; replace hB := hB.ext hb; clear hb; rw [HK.out, ← HX.out]))
        | (go_at_call 29; refine (refof_any _ s).mono ?_; rintro e wB ⟨rfl, hb⟩; replace hB := hB.ext hb; clear hb; rw [HK.out, ← HX.out])
        | (go_at_call 30; first | ((with_reducible refine (hex_any _ d hd).mono ?_); rintro e w1 ⟨rfl, hb⟩; replace hB := hB.ext hb; clear hb) | (rw [HX.out]; (with_reducible refine (hex_of_any _ s HK.out).mono ?_); rintro e w1 ⟨rfl, hb⟩; replace hB := hB.ext hb; clear hb))
        | (go_at_call 31; refine (refhex_any _ d hd).mono ?_; rintro e w1 ⟨rfl, hb⟩; replace hB := hB.ext hb; clear hb)
        | (go_at_call 17; refine (fixed_any _).mono ?_; rintro e w1 ⟨rfl, hb⟩; replace hB := hB.ext hb; clear hb))
      refine wp_region_grd 34 (by kernel_rfl) (by kernel_rfl) (by kernel_rfl) _ rfl (by kernel_rfl) (fun j v _ => ([.agg (u8s d).toArray, .string ⟨(hexOf d).toArray⟩, .agg (u8s d).toArray, .string ⟨(hexOf d).toArray⟩, .bool true, .bool true, .agg (u8s X).toArray, .agg (u8s X).toArray, .bool true, .bool true, .bool true, .bool true, .bool true, .bool true, .bool true, .bool true, .bool true, .bool true, .bool true, .agg (u8s d).toArray, .agg (u8s d).toArray, .bool true, .bool true, .bool true, .bool true, .bool false, .bool false, .agg (u8s X).toArray, .string s, .string s, .bool true, .bool true, .bool true, .bool true] : List Value)[j]? = some v) (fun w4 => TInv w w4 [(wC.heap.size, d), (wB.heap.size, X), (wA.heap.size, X), (w.heap.size, d)]) (fun a b => Below a.heap.size a b) (hB.ext (below_drewN (Below.refl _ _) 1)) (fun _ _ _ _ hb hv => hv) ?_ ?_
      · refine of_allOps ⟨?_, ?_, ?_, ?_, ?_, ?_, ?_, ?_, ?_, ?_, ?_, ?_, ?_, ?_, ?_, ?_, ?_, ?_, ?_, ?_, ?_, ?_, ?_, ?_, ?_, ?_, ?_, ?_, ?_, ?_, ?_, ?_, ?_, ?_, trivial⟩
        · intro T2 w2 hM hN hO hE K hK
          have o2 : T2[2]? = some (.pointer (some ⟨w.heap.size, 0, none⟩)) := hO 2 rfl
          clear hE hO hN
          refine step_plain0 rfl ?_
          refine wp_load_lit w.heap.size 0 _ _ _ (hM.row w.heap.size d (by simp)) (u8s d) (fun j _ => getElem?_zero_add _ j) _ Try.underlying34 (info_h8' hd) ⟨?_, rfl⟩ ?_
          · simp [Act.eval, o2]
          · exact hK _ _ rfl hM (Below.refl _ _)
        · intro T2 w2 hM hN hO hE K hK
          obtain ⟨v0, h0, e0⟩ := hE ⟨0, .data⟩ (by simp) rfl _ _ rfl rfl
          rw [show v0 = .agg (u8s d).toArray from (Option.some.inj e0).symm] at h0
          clear hE hO hN
          refine step_plain0 rfl ?_
          go_simp
          refine (hex_any _ d hd).mono ?_
          rintro e w3 ⟨rfl, hb⟩
          exact hK _ _ rfl (hM.ext hb) hb
        · intro T2 w2 hM hN hO hE K hK
          have o2 : T2[2]? = some (.pointer (some ⟨w.heap.size, 0, none⟩)) := hO 2 rfl
          clear hE hO hN
          refine step_plain0 rfl ?_
          refine wp_load_lit w.heap.size 0 _ _ _ (hM.row w.heap.size d (by simp)) (u8s d) (fun j _ => getElem?_zero_add _ j) _ Try.underlying34 (info_h8' hd) ⟨?_, rfl⟩ ?_
          · simp [Act.eval, o2]
          · exact hK _ _ rfl hM (Below.refl _ _)
        · intro T2 w2 hM hN hO hE K hK
          obtain ⟨v2, h2, e2⟩ := hE ⟨2, .data⟩ (by simp) rfl _ _ rfl rfl
          rw [show v2 = .agg (u8s d).toArray from (Option.some.inj e2).symm] at h2
          clear hE hO hN
          refine step_plain0 rfl ?_
          go_simp
          refine (refhex_any _ d hd).mono ?_
          rintro e w3 ⟨rfl, hb⟩
          exact hK _ _ rfl (hM.ext hb) hb
        · intro T2 w2 hM hN hO hE K hK
          obtain ⟨v1, h1, e1⟩ := hE ⟨1, .data⟩ (by simp) rfl _ _ rfl rfl
          rw [show v1 = .string ⟨(hexOf d).toArray⟩ from (Option.some.inj e1).symm] at h1
          obtain ⟨v3, h3, e3⟩ := hE ⟨3, .data⟩ (by simp) rfl _ _ rfl rfl
          rw [show v3 = .string ⟨(hexOf d).toArray⟩ from (Option.some.inj e3).symm] at h3
          clear hE hO hN
          refine step_plain0 rfl ?_
          go_simp
          exact hK _ _ rfl hM (Below.refl _ _)
        · intro T2 w2 hM hN hO hE K hK
          obtain ⟨v4, h4, e4⟩ := hE ⟨4, .data⟩ (by simp) rfl _ _ rfl rfl
          rw [show v4 = .bool true from (Option.some.inj e4).symm] at h4
          clear hE hO hN
          refine step_plain0 rfl ?_
          go_simp
          exact hK _ _ rfl hM (Below.refl _ _)
        · intro T2 w2 hM hN hO hE K hK
          obtain ⟨v5, h5, e5⟩ := hE ⟨5, .guard⟩ (by simp) rfl _ _ rfl rfl
          rw [show v5 = .bool true from (Option.some.inj e5).symm] at h5
          have o5 : T2[5]? = some (.pointer (some ⟨wA.heap.size, 0, none⟩)) := hO 5 rfl
          clear hE hO hN
          refine grd_met rfl rfl rfl h5 ?_
          refine wp_load_lit wA.heap.size 0 _ _ _ (hM.row wA.heap.size X (by simp)) (u8s X) (fun j _ => getElem?_zero_add _ j) _ Try.underlying34 (info_h8' hXl) ⟨?_, rfl⟩ ?_
          · simp [Act.eval, o5]
          · exact hK _ _ rfl hM (Below.refl _ _)
        · intro T2 w2 hM hN hO hE K hK
          obtain ⟨v5, h5, e5⟩ := hE ⟨5, .guard⟩ (by simp) rfl _ _ rfl rfl
          rw [show v5 = .bool true from (Option.some.inj e5).symm] at h5
          have o7 : T2[7]? = some (.pointer (some ⟨wB.heap.size, 0, none⟩)) := hO 7 rfl
          clear hE hO hN
          refine grd_met rfl rfl rfl h5 ?_
          refine wp_load_lit wB.heap.size 0 _ _ _ (hM.row wB.heap.size X (by simp)) (u8s X) (fun j _ => getElem?_zero_add _ j) _ Try.underlying34 (info_h8' hXl) ⟨?_, rfl⟩ ?_
          · simp [Act.eval, o7]
          · exact hK _ _ rfl hM (Below.refl _ _)
        · intro T2 w2 hM hN hO hE K hK
          obtain ⟨v6, h6, e6⟩ := hE ⟨6, .data⟩ (by simp) rfl _ _ rfl rfl
          rw [show v6 = .agg (u8s X).toArray from (Option.some.inj e6).symm] at h6
          obtain ⟨v7, h7, e7⟩ := hE ⟨7, .data⟩ (by simp) rfl _ _ rfl rfl
          rw [show v7 = .agg (u8s X).toArray from (Option.some.inj e7).symm] at h7
          obtain ⟨v5, h5, e5⟩ := hE ⟨5, .guard⟩ (by simp) rfl _ _ rfl rfl
          rw [show v5 = .bool true from (Option.some.inj e5).symm] at h5
          clear hE hO hN
          refine grd_met rfl rfl rfl h5 ?_
          go_simp
          exact hK _ _ rfl hM (Below.refl _ _)
        · intro T2 w2 hM hN hO hE K hK
          obtain ⟨v5, h5, e5⟩ := hE ⟨5, .data⟩ (by simp) rfl _ _ rfl rfl
          rw [show v5 = .bool true from (Option.some.inj e5).symm] at h5
          obtain ⟨v8, h8, e8⟩ := hE ⟨8, .data⟩ (by simp) rfl _ _ rfl rfl
          rw [show v8 = .bool true from (Option.some.inj e8).symm] at h8
          clear hE hO hN
          refine step_plain0 rfl ?_
          go_simp
          exact hK _ _ rfl hM (Below.refl _ _)
        · intro T2 w2 hM hN hO hE K hK
          obtain ⟨v9, h9, e9⟩ := hE ⟨9, .data⟩ (by simp) rfl _ _ rfl rfl
          rw [show v9 = .bool true from (Option.some.inj e9).symm] at h9
          clear hE hO hN
          refine step_plain0 rfl ?_
          go_simp
          exact hK _ _ rfl hM (Below.refl _ _)
        · intro T2 w2 hM hN hO hE K hK
          obtain ⟨v10, h10, e10⟩ := hE ⟨10, .guard⟩ (by simp) rfl _ _ rfl rfl
          rw [show v10 = .bool true from (Option.some.inj e10).symm] at h10
          have o6 : T2[6]? = some (.bool true) := hO 6 rfl
          clear hE hO hN
          refine grd_met rfl rfl rfl h10 ?_
          go_simp
          exact hK _ _ rfl hM (Below.refl _ _)
        · intro T2 w2 hM hN hO hE K hK
          obtain ⟨v10, h10, e10⟩ := hE ⟨10, .guard⟩ (by simp) rfl _ _ rfl rfl
          rw [show v10 = .bool true from (Option.some.inj e10).symm] at h10
          have o8 : T2[8]? = some (.bool true) := hO 8 rfl
          clear hE hO hN
          refine grd_met rfl rfl rfl h10 ?_
          go_simp
          exact hK _ _ rfl hM (Below.refl _ _)
        · intro T2 w2 hM hN hO hE K hK
          obtain ⟨v11, h11, e11⟩ := hE ⟨11, .data⟩ (by simp) rfl _ _ rfl rfl
          rw [show v11 = .bool true from (Option.some.inj e11).symm] at h11
          obtain ⟨v12, h12, e12⟩ := hE ⟨12, .data⟩ (by simp) rfl _ _ rfl rfl
          rw [show v12 = .bool true from (Option.some.inj e12).symm] at h12
          obtain ⟨v10, h10, e10⟩ := hE ⟨10, .guard⟩ (by simp) rfl _ _ rfl rfl
          rw [show v10 = .bool true from (Option.some.inj e10).symm] at h10
          clear hE hO hN
          refine grd_met rfl rfl rfl h10 ?_
          go_simp
          exact hK _ _ rfl hM (Below.refl _ _)
        · intro T2 w2 hM hN hO hE K hK
          obtain ⟨v10, h10, e10⟩ := hE ⟨10, .data⟩ (by simp) rfl _ _ rfl rfl
          rw [show v10 = .bool true from (Option.some.inj e10).symm] at h10
          obtain ⟨v13, h13, e13⟩ := hE ⟨13, .data⟩ (by simp) rfl _ _ rfl rfl
          rw [show v13 = .bool true from (Option.some.inj e13).symm] at h13
          clear hE hO hN
          refine step_plain0 rfl ?_
          go_simp
          exact hK _ _ rfl hM (Below.refl _ _)
        · intro T2 w2 hM hN hO hE K hK
          obtain ⟨v14, h14, e14⟩ := hE ⟨14, .data⟩ (by simp) rfl _ _ rfl rfl
          rw [show v14 = .bool true from (Option.some.inj e14).symm] at h14
          clear hE hO hN
          refine step_plain0 rfl ?_
          go_simp
          exact hK _ _ rfl hM (Below.refl _ _)
        · intro T2 w2 hM hN hO hE K hK
          obtain ⟨v15, h15, e15⟩ := hE ⟨15, .guard⟩ (by simp) rfl _ _ rfl rfl
          rw [show v15 = .bool true from (Option.some.inj e15).symm] at h15
          have o10 : T2[10]? = some (.bool true) := hO 10 rfl
          clear hE hO hN
          refine grd_met rfl rfl rfl h15 ?_
          go_simp
          exact hK _ _ rfl hM (Below.refl _ _)
        · intro T2 w2 hM hN hO hE K hK
          obtain ⟨v15, h15, e15⟩ := hE ⟨15, .data⟩ (by simp) rfl _ _ rfl rfl
          rw [show v15 = .bool true from (Option.some.inj e15).symm] at h15
          obtain ⟨v16, h16, e16⟩ := hE ⟨16, .data⟩ (by simp) rfl _ _ rfl rfl
          rw [show v16 = .bool true from (Option.some.inj e16).symm] at h16
          clear hE hO hN
          refine step_plain0 rfl ?_
          go_simp
          exact hK _ _ rfl hM (Below.refl _ _)
        · intro T2 w2 hM hN hO hE K hK
          obtain ⟨v17, h17, e17⟩ := hE ⟨17, .data⟩ (by simp) rfl _ _ rfl rfl
          rw [show v17 = .bool true from (Option.some.inj e17).symm] at h17
          clear hE hO hN
          refine step_plain0 rfl ?_
          go_simp
          exact hK _ _ rfl hM (Below.refl _ _)
        · intro T2 w2 hM hN hO hE K hK
          obtain ⟨v18, h18, e18⟩ := hE ⟨18, .guard⟩ (by simp) rfl _ _ rfl rfl
          rw [show v18 = .bool true from (Option.some.inj e18).symm] at h18
          have o9 : T2[9]? = some (.pointer (some ⟨wC.heap.size, 0, none⟩)) := hO 9 rfl
          clear hE hO hN
          refine grd_met rfl rfl rfl h18 ?_
          refine wp_load_lit wC.heap.size 0 _ _ _ (hM.row wC.heap.size d (by simp)) (u8s d) (fun j _ => getElem?_zero_add _ j) _ Try.underlying34 (info_h8' hd) ⟨?_, rfl⟩ ?_
          · simp [Act.eval, o9]
          · exact hK _ _ rfl hM (Below.refl _ _)
        · intro T2 w2 hM hN hO hE K hK
          obtain ⟨v18, h18, e18⟩ := hE ⟨18, .guard⟩ (by simp) rfl _ _ rfl rfl
          rw [show v18 = .bool true from (Option.some.inj e18).symm] at h18
          have o2 : T2[2]? = some (.pointer (some ⟨w.heap.size, 0, none⟩)) := hO 2 rfl
          clear hE hO hN
          refine grd_met rfl rfl rfl h18 ?_
          refine wp_load_lit w.heap.size 0 _ _ _ (hM.row w.heap.size d (by simp)) (u8s d) (fun j _ => getElem?_zero_add _ j) _ Try.underlying34 (info_h8' hd) ⟨?_, rfl⟩ ?_
          · simp [Act.eval, o2]
          · exact hK _ _ rfl hM (Below.refl _ _)
        · intro T2 w2 hM hN hO hE K hK
          obtain ⟨v19, h19, e19⟩ := hE ⟨19, .data⟩ (by simp) rfl _ _ rfl rfl
          rw [show v19 = .agg (u8s d).toArray from (Option.some.inj e19).symm] at h19
          obtain ⟨v20, h20, e20⟩ := hE ⟨20, .data⟩ (by simp) rfl _ _ rfl rfl
          rw [show v20 = .agg (u8s d).toArray from (Option.some.inj e20).symm] at h20
          obtain ⟨v18, h18, e18⟩ := hE ⟨18, .guard⟩ (by simp) rfl _ _ rfl rfl
          rw [show v18 = .bool true from (Option.some.inj e18).symm] at h18
          clear hE hO hN
          refine grd_met rfl rfl rfl h18 ?_
          go_simp
          exact hK _ _ rfl hM (Below.refl _ _)
        · intro T2 w2 hM hN hO hE K hK
          obtain ⟨v18, h18, e18⟩ := hE ⟨18, .data⟩ (by simp) rfl _ _ rfl rfl
          rw [show v18 = .bool true from (Option.some.inj e18).symm] at h18
          obtain ⟨v21, h21, e21⟩ := hE ⟨21, .data⟩ (by simp) rfl _ _ rfl rfl
          rw [show v21 = .bool true from (Option.some.inj e21).symm] at h21
          clear hE hO hN
          refine step_plain0 rfl ?_
          go_simp
          exact hK _ _ rfl hM (Below.refl _ _)
        · intro T2 w2 hM hN hO hE K hK
          obtain ⟨v22, h22, e22⟩ := hE ⟨22, .data⟩ (by simp) rfl _ _ rfl rfl
          rw [show v22 = .bool true from (Option.some.inj e22).symm] at h22
          clear hE hO hN
          refine step_plain0 rfl ?_
          go_simp
          exact hK _ _ rfl hM (Below.refl _ _)
        · intro T2 w2 hM hN hO hE K hK
          obtain ⟨v23, h23, e23⟩ := hE ⟨23, .guard⟩ (by simp) rfl _ _ rfl rfl
          rw [show v23 = .bool true from (Option.some.inj e23).symm] at h23
          have o6 : T2[6]? = some (.bool true) := hO 6 rfl
          clear hE hO hN
          refine grd_met rfl rfl rfl h23 ?_
          go_simp
          exact hK _ _ rfl hM (Below.refl _ _)
        · intro T2 w2 hM hN hO hE K hK
          obtain ⟨v24, h24, e24⟩ := hE ⟨24, .data⟩ (by simp) rfl _ _ rfl rfl
          rw [show v24 = .bool true from (Option.some.inj e24).symm] at h24
          obtain ⟨v23, h23, e23⟩ := hE ⟨23, .guard⟩ (by simp) rfl _ _ rfl rfl
          rw [show v23 = .bool true from (Option.some.inj e23).symm] at h23
          clear hE hO hN
          refine grd_met rfl rfl rfl h23 ?_
          go_simp
          exact hK _ _ rfl hM (Below.refl _ _)
        · intro T2 w2 hM hN hO hE K hK
          obtain ⟨v25, h25, e25⟩ := hE ⟨25, .data⟩ (by simp) rfl _ _ rfl rfl
          rw [show v25 = .bool false from (Option.some.inj e25).symm] at h25
          obtain ⟨v23, h23, e23⟩ := hE ⟨23, .guard⟩ (by simp) rfl _ _ rfl rfl
          rw [show v23 = .bool true from (Option.some.inj e23).symm] at h23
          clear hE hO hN
          refine grd_met rfl rfl rfl h23 ?_
          go_simp
          exact hK _ _ rfl hM (Below.refl _ _)
        · intro T2 w2 hM hN hO hE K hK
          obtain ⟨v26, h26, e26⟩ := hE ⟨26, .guard⟩ (by simp) rfl _ _ rfl rfl
          rw [show v26 = .bool false from (Option.some.inj e26).symm] at h26
          have o5 : T2[5]? = some (.pointer (some ⟨wA.heap.size, 0, none⟩)) := hO 5 rfl
          clear hE hO hN
          refine grd_met rfl rfl rfl h26 ?_
          refine wp_load_lit wA.heap.size 0 _ _ _ (hM.row wA.heap.size X (by simp)) (u8s X) (fun j _ => getElem?_zero_add _ j) _ Try.underlying34 (info_h8' hXl) ⟨?_, rfl⟩ ?_
          · simp [Act.eval, o5]
          · exact hK _ _ rfl hM (Below.refl _ _)
        · intro T2 w2 hM hN hO hE K hK
          obtain ⟨v27, h27, e27⟩ := hE ⟨27, .data⟩ (by simp) rfl _ _ rfl rfl
          rw [show v27 = .agg (u8s X).toArray from (Option.some.inj e27).symm] at h27
          obtain ⟨v26, h26, e26⟩ := hE ⟨26, .guard⟩ (by simp) rfl _ _ rfl rfl
          rw [show v26 = .bool false from (Option.some.inj e26).symm] at h26
          clear hE hO hN
          refine grd_met rfl rfl rfl h26 ?_
          go_simp
          rw [HX.out]
          refine (hex_of_any _ s HK.out).mono ?_
          rintro e w3 ⟨rfl, hb⟩
          exact hK _ _ rfl (hM.ext hb) hb
        · intro T2 w2 hM hN hO hE K hK
          obtain ⟨v26, h26, e26⟩ := hE ⟨26, .guard⟩ (by simp) rfl _ _ rfl rfl
          rw [show v26 = .bool false from (Option.some.inj e26).symm] at h26
          have o1 : T2[1]? = some (.string s) := hO 1 rfl
          clear hE hO hN
          refine grd_met rfl rfl rfl h26 ?_
          go_simp
          exact hK _ _ rfl hM (Below.refl _ _)
        · intro T2 w2 hM hN hO hE K hK
          obtain ⟨v28, h28, e28⟩ := hE ⟨28, .data⟩ (by simp) rfl _ _ rfl rfl
          rw [show v28 = .string s from (Option.some.inj e28).symm] at h28
          obtain ⟨v29, h29, e29⟩ := hE ⟨29, .data⟩ (by simp) rfl _ _ rfl rfl
          rw [show v29 = .string s from (Option.some.inj e29).symm] at h29
          obtain ⟨v26, h26, e26⟩ := hE ⟨26, .guard⟩ (by simp) rfl _ _ rfl rfl
          rw [show v26 = .bool false from (Option.some.inj e26).symm] at h26
          clear hE hO hN
          refine grd_met rfl rfl rfl h26 ?_
          go_simp
          exact hK _ _ rfl hM (Below.refl _ _)
        · intro T2 w2 hM hN hO hE K hK
          obtain ⟨v26, h26, e26⟩ := hE ⟨26, .data⟩ (by simp) rfl _ _ rfl rfl
          rw [show v26 = .bool false from (Option.some.inj e26).symm] at h26
          obtain ⟨v30, h30, e30⟩ := hE ⟨30, .data⟩ (by simp) rfl _ _ rfl rfl
          rw [show v30 = .bool true from (Option.some.inj e30).symm] at h30
          obtain ⟨v23, h23, e23⟩ := hE ⟨23, .guard⟩ (by simp) rfl _ _ rfl rfl
          rw [show v23 = .bool true from (Option.some.inj e23).symm] at h23
          clear hE hO hN
          refine grd_met rfl rfl rfl h23 ?_
          go_simp
          exact hK _ _ rfl hM (Below.refl _ _)
        · intro T2 w2 hM hN hO hE K hK
          obtain ⟨v23, h23, e23⟩ := hE ⟨23, .data⟩ (by simp) rfl _ _ rfl rfl
          rw [show v23 = .bool true from (Option.some.inj e23).symm] at h23
          obtain ⟨v31, h31, e31⟩ := hE ⟨31, .data⟩ (by simp) rfl _ _ rfl rfl
          rw [show v31 = .bool true from (Option.some.inj e31).symm] at h31
          clear hE hO hN
          refine step_plain0 rfl ?_
          go_simp
          exact hK _ _ rfl hM (Below.refl _ _)
        · intro T2 w2 hM hN hO hE K hK
          obtain ⟨v32, h32, e32⟩ := hE ⟨32, .data⟩ (by simp) rfl _ _ rfl rfl
          rw [show v32 = .bool true from (Option.some.inj e32).symm] at h32
          clear hE hO hN
          refine step_plain0 rfl ?_
          go_simp
          exact hK _ _ rfl hM (Below.refl _ _)
      · intro u w2 hM hF
        have e33 : u 33 = .bool true := (Option.some.inj (hF 33 (by omega))).symm
        clear hF
        simp only [fillAll, Nat.reduceAdd, e33, List.take_succ_cons, List.take_zero, List.drop_succ_cons, List.drop_zero, List.setIfInBounds_toArray, List.set_cons_succ, List.set_cons_zero]
        go_wp2_with (first
          | (go_at_call 17; refine (fixed_any _).mono ?_; rintro e w1 ⟨rfl, hb⟩; replace hM := hM.ext hb; clear hb))
        go_ret
        exact ⟨rfl, hM.1⟩
end
end Go.Proofs.Ytkadailbfeeamaa
