/- The reference's row of blobs: its cells; Less, Find, Size. -/
import Derived.Test.YtegkjmmknjhdiaaBlob15
namespace Go.Proofs.Ytegkjmmknjhdiaa
open Go.RowKit Go.Maps Go.Sort Go.Lib
abbrev BTab := Tab (List UInt8)
def blobV (x : List UInt8 × List UInt8) : List Value := u8s x.1 ++ [.string (strB x.2)]
def blobsV (M : BTab) : List Value := M.flatMap blobV
/-- every key is a digest -/
def KeysOk (M : BTab) : Prop := ∀ x ∈ M, x.1.length = 32
theorem blobV_length {x : List UInt8 × List UInt8} (h : x.1.length = 32) : (blobV x).length = 33 := by rw [blobV, List.length_append, u8s_length, h]; rfl
theorem blobsV_length : ∀ {M : BTab}, KeysOk M → (blobsV M).length = M.length * 33
  | [], _ => rfl
  | x :: r, hk => by
    have h := blobsV_length (M := r) (fun y hy => hk y (List.mem_cons_of_mem _ hy))
    have hx := blobV_length (hk x (List.mem_cons_self ..))
    simp only [blobsV, List.flatMap_cons, List.length_append, List.length_cons] at h ⊢
    rw [h, hx]
    omega
theorem blobsV_get : ∀ {M : BTab} (_ : KeysOk M) (k : Nat) (x : List UInt8 × List UInt8) (i : Nat) (v : Value), M[k]? = some x → (blobV x)[i]? = some v → (blobsV M)[k * 33 + i]? = some v
  | [], _, k, x, i, v, h, _ => by simp at h
  | y :: r, hk, k, x, i, v, h, hv => by
    have hy := blobV_length (hk y (List.mem_cons_self ..))
    have hx : (blobV x).length = 33 := blobV_length (hk x (List.mem_of_getElem? h))
    have hi : i < 33 := by
      have := (List.getElem?_eq_some_iff.1 hv).1
      omega
    cases k with
    | zero =>
      obtain rfl := Option.some.inj (show some y = some x by simpa using h)
      rw [blobsV, List.flatMap_cons, Nat.zero_mul, Nat.zero_add, List.getElem?_append_left (by omega)]
      exact hv
    | succ k =>
      have := blobsV_get (M := r) (fun z hz => hk z (List.mem_cons_of_mem _ hz)) k x i v (by simpa using h) hv
      rw [blobsV, List.flatMap_cons, List.getElem?_append_right (by omega)]
      rw [show (k + 1) * 33 + i - (blobV y).length = k * 33 + i by omega]
      exact this
theorem blobsV_snoc (M : BTab) (x : List UInt8 × List UInt8) : blobsV (M ++ [x]) = blobsV M ++ blobV x := by simp [blobsV]
theorem KeysOk.at_ {M : BTab} (h : KeysOk M) {k : Nat} {x : List UInt8 × List UInt8} (hx : M[k]? = some x) : x.1.length = 32 := h x (List.mem_of_getElem? hx)
theorem KeysOk.snoc {M : BTab} (h : KeysOk M) {x : List UInt8 × List UInt8} (hx : x.1.length = 32) : KeysOk (M ++ [x]) := fun y hy => by
  rcases List.mem_append.1 hy with hy | hy
  · exact h y hy
  · obtain rfl := List.mem_singleton.1 hy
    exact hx
/-- a row's cells -/
theorem blob_cells {w : World} {A : Option Addr} {M : BTab} (hk : KeysOk M) (hr : Rd w 33 A M.length (blobsV M)) {k : Nat} {x : List UInt8 × List UInt8} (h : M[k]? = some x) :
    ∃ b o, A = some ⟨b, o, none⟩ ∧ (∀ i v, (blobV x)[i]? = some v → w.cell? ⟨b, o + k * 33 + i, none⟩ = some v) := by
  have hl : k < M.length := (List.getElem?_eq_some_iff.1 h).1
  obtain ⟨b, o, rfl, hc⟩ := hr.2 (by omega)
  exact ⟨b, o, rfl, fun i v hv => by rw [Nat.add_assoc]; exact hc _ _ (blobsV_get hk k x i v h hv)⟩
/-- a composite read off cells -/
theorem run_load_cells {P : Program} {w : World} (ty : TypeId) (b off : Nat) (vs : List Value) (hc : ∀ j v, vs[j]? = some v → w.cell? ⟨b, off + j, none⟩ = some v)
    (d : TypeDesc) (hu : P.underlying ty = some d) (hd : (match d with | .struct _ | .array _ _ => true | _ => false) = true) (hi : (P.info? ty).map (·.size) = some vs.length) :
    (loadVar ty ⟨b, off, none⟩).run P w = .ok (.agg vs.toArray) w := by
  have hl : (loadCells ⟨b, off, none⟩ vs.length).run P w = .ok vs.toArray w :=
    run_loadCells_list (P := P) w ⟨b, off, none⟩ vs (fun j v hv => by rw [addr_add]; exact hc j v hv)
  cases hq : P.info? ty with
  | none => simp [hq] at hi
  | some i =>
    have hs : i.size = vs.length := by simpa [hq] using hi
    have hagg : (isAgg ty).run P w = .ok true w := by
      unfold isAgg
      rw [Sem.run_bind, run_underlying hu w]
      cases d <;> simp_all
    simp [loadVar, Sem.run_bind, hagg, sizeOf, typeInfo, hq, hs, hl]
theorem blob_dig {w : World} {b off : Nat} {x : List UInt8 × List UInt8} (hx : x.1.length = 32) (hc : ∀ i v, (blobV x)[i]? = some v → w.cell? ⟨b, off + i, none⟩ = some v) :
    (loadVar 39 ⟨b, off, none⟩).run Try.prog w = .ok (.agg (u8s x.1).toArray) w :=
  run_load_cells 39 b off (u8s x.1) (fun j v hv => hc j v (by
    have hj := (List.getElem?_eq_some_iff.1 hv).1
    rw [blobV, List.getElem?_append_left hj]; exact hv)) _ Try.underlying39 rfl (info_h8' hx)
theorem blob_data {w : World} {b off : Nat} {x : List UInt8 × List UInt8} (hx : x.1.length = 32) (hc : ∀ i v, (blobV x)[i]? = some v → w.cell? ⟨b, off + i, none⟩ = some v) :
    w.cell? ⟨b, off + 32, none⟩ = some (.string (strB x.2)) := hc 32 _ (by
    rw [blobV, List.getElem?_append_right (by rw [u8s_length]; omega), u8s_length, hx]; rfl)
theorem info_blob : (Try.prog.info? 47).map (fun i => (i.size, i.bytes)) = some (33, 48) := by kernel_rfl
theorem blob_load {w : World} {b off : Nat} {x : List UInt8 × List UInt8} (hx : x.1.length = 32) (hc : ∀ i v, (blobV x)[i]? = some v → w.cell? ⟨b, off + i, none⟩ = some v) :
    (loadVar 47 ⟨b, off, none⟩).run Try.prog w = .ok (.agg (blobV x).toArray) w :=
  run_load_cells 47 b off (blobV x) hc _ Try.underlying47 rfl (by
    rw [blobV_length hx]
    have := info_blob
    cases h : Try.prog.info? 47 with
    | none => rw [h] at this; cases this
    | some i => rw [h] at this; simp at this ⊢; exact this.1)
/-! Size -/
def sizeM (M : BTab) : Int := M.foldl (fun n x => n + (x.2.length : Int)) 0
theorem sizeM_take {M : BTab} {k : Nat} {x : List UInt8 × List UInt8} (h : M[k]? = some x) : sizeM (M.take (k + 1)) = sizeM (M.take k) + x.2.length := by
  obtain ⟨hk, hx⟩ := List.getElem?_eq_some_iff.1 h
  rw [List.take_succ_eq_append_getElem hk, hx, sizeM, sizeM, List.foldl_append]
  rfl
theorem foldl_size (M : BTab) : ∀ n : Int, M.foldl (fun n x => n + (x.2.length : Int)) n = n + sizeM M := by
  unfold sizeM
  induction M with
  | nil => intro n; simp
  | cons x r ih => intro n; rw [List.foldl_cons, List.foldl_cons, ih, ih (0 + _)]; omega
theorem sizeM_cons (x : List UInt8 × List UInt8) (M : BTab) : sizeM (x :: M) = x.2.length + sizeM M := by
  rw [sizeM, List.foldl_cons, foldl_size]; omega
theorem sizeM_nonneg (M : BTab) : 0 ≤ sizeM M := by
  induction M with
  | nil => exact Int.le_refl _
  | cons x r ih => rw [sizeM_cons]; omega
theorem sizeM_take_le (M : BTab) (k : Nat) : sizeM (M.take k) ≤ sizeM M := by
  conv => rhs; rw [← List.take_append_drop k M]
  rw [show sizeM (M.take k ++ M.drop k) = sizeM (M.take k) + sizeM (M.drop k) by rw [sizeM, List.foldl_append, foldl_size]; rfl]
  have := sizeM_nonneg (M.drop k)
  omega
set_option maxRecDepth 100000 in
theorem refsize_any (w : World) (A : Option Addr) (c : Nat) (M : BTab) (hk : KeysOk M) (hr : Rd w 33 A M.length (blobsV M)) (hl : M.length ≤ 1000000000) (hz : sizeM M ≤ 1000000000) :
    Calls Try.prog 55 #[.slice A M.length c] w fun e w' => e = .returned (.int .i64 (sizeM M)) ∧ Below w.heap.size w w' := by
  obtain ⟨N, hN⟩ : ∃ N, N = M.length := ⟨_, rfl⟩
  have HR := hid2 hr
  have HK := hid2 hk
  have HZ := hid2 hz
  rw [← hN] at hl ⊢
  have HN := hid2 hN
  clear hr hN hk hz
  go_enter Try.func55, Try.ntmps55
  go_wp2_with fail
  go_loopg [3, 4] N (fun gk n i wr => ∃ k : Nat, k + gk = N ∧ i = .int .i64 k ∧ n = .int .i64 (sizeM (M.take k)) ∧ Below w.heap.size w wr)
  case atStart => exact ⟨0, by omega, rfl, rfl, Below.refl _ _⟩
  case round =>
    obtain ⟨k, hk, rfl, rfl, hb⟩ := hrel
    have hHw := hb.size
    by_cases hlt : k < N
    · have hlt' : (k : Int) < N := by omega
      obtain ⟨x, hx⟩ : ∃ x, M[k]? = some x := ⟨_, List.getElem?_eq_getElem (by rw [← HN.out]; exact hlt)⟩
      have hx32 := HK.out.at_ hx
      obtain ⟨b, o, rfl, hc⟩ := blob_cells HK.out (HR.out.below_all hb) hx
      have c1 := blob_data hx32 hc
      obtain ⟨S, hS⟩ : ∃ S, S = strB x.2 := ⟨_, rfl⟩
      have hSs : (S.size : Int) = x.2.length := by rw [hS, strB_size]
      rw [← hS] at c1
      obtain ⟨z, hz⟩ : ∃ z, z = sizeM (M.take k) := ⟨_, rfl⟩
      have hz2 : sizeM (M.take (k + 1)) = z + S.size := by rw [sizeM_take hx, hz, hSs]
      have h1 : z + S.size ≤ 1000000000 := by rw [← hz2]; exact Int.le_trans (sizeM_take_le M _) HZ.out
      have h0 : 0 ≤ z := by rw [hz]; exact sizeM_nonneg _
      have hw : IntKind.i64.wrap (z + (S.size : Int)) = z + S.size := IntWalk.i64_in _ (by constructor <;> omega)
      rw [← hz]
      have HZ2 := hid2 hz2
      clear hc hx hS hSs hz hz2
      go_wp2_with fail
      go_roundg (gk - 1)
      case rel => exact ⟨k + 1, by omega, by go_num, by rw [HZ2.out], hb⟩
      case measure => omega
    · have hkN : k = N := by omega
      have hlt' : ¬ (k : Int) < N := by omega
      have HKN := hid2 (show sizeM (M.take k) = sizeM M by rw [hkN, HN.out, List.take_length])
      clear hkN hlt
      go_wp2_with fail
      go_ret
      exact ⟨by rw [HKN.out]; rfl, hb⟩
end Go.Proofs.Ytegkjmmknjhdiaa
