/- The keys that a range over a store's map has told. -/
import Derived.Test.YtegkjmmknjhdiaaBlob3
import Derived.Sort.KeysCollected
namespace Go.Proofs.Ytegkjmmknjhdiaa
open Go.RowKit Go.Maps Go.WideMaps
theorem collected_tab {α : Type} {M : Tab α} (hr : Rises M) {left : Lit → Bool} {ss : List (List UInt8)} (h : Collected (mapD M) left ss) (hl : ∀ kl, left kl = false) : ss.Perm (M.map (·.1)) := by
  rw [← strKeys_mapD]
  refine perm_strKeys ?_ (fun p hp => ?_) h.1 (fun x => by rw [h.2 x, hl]; simp only [and_true]; rfl)
  · rw [List.pairwise_map]
    refine hr.imp fun {p q} hpq e => ?_
    injection e with e
    rw [bytesBefore_lt, e] at hpq
    exact List.lt_irrefl _ hpq
  · obtain ⟨q, _, rfl⟩ := List.mem_map.1 hp
    exact ⟨q.1, rfl⟩
/-- a digest, as a key -/
abbrev Dig := { l : List UInt8 // l.length = 32 }
def digK (x : Dig) : Value := digV x.1
theorem u8_of_wf {n : Int} (h : (Lit.int .u8 n).wf = true) : ∃ b : UInt8, n = (b.toNat : Int) := by
  simp [Lit.wf, IntKind.min, IntKind.max, IntKind.signed, IntKind.bits] at h
  refine ⟨UInt8.ofNat n.toNat, ?_⟩
  rw [UInt8.toNat_ofNat']
  omega
theorem u8s_of_cells : ∀ cs : List Value, (∀ v ∈ cs, ∃ b : UInt8, v = .int .u8 b.toNat) → ∃ l : List UInt8, cs = u8s l
  | [], _ => ⟨[], rfl⟩
  | v :: cs, h => by
    obtain ⟨b, rfl⟩ := h v (List.mem_cons_self ..)
    obtain ⟨l, rfl⟩ := u8s_of_cells cs (fun w hw => h w (List.mem_cons_of_mem _ hw))
    exact ⟨b :: l, rfl⟩
theorem mapM_some {β : Type} {f : Nat → Option β} : ∀ (L : List Nat) (ys : List β), L.mapM f = some ys → ∀ i ∈ L, ∃ y, f i = some y
  | [], _, _, i, hi => by cases hi
  | j :: L, ys, h, i, hi => by
    rw [List.mapM_cons] at h
    simp only [bind, Option.bind_eq_some_iff, pure, Option.some.injEq] at h
    obtain ⟨y, hy, zs, hzs, rfl⟩ := h
    rcases List.mem_cons.1 hi with rfl | hi
    · exact ⟨y, hy⟩
    · exact mapM_some L zs hzs i hi
set_option maxRecDepth 100000 in
theorem keyOf_dig_inv {v : Value} {kl : Lit} (h : keyOf Try.prog 39 v = some kl) : ∃ x : Dig, v = digK x := by
  unfold keyOf at h
  simp only [arr_dig.hu] at h
  split at h
  · rename_i hf
    simp only [Bool.and_eq_true] at hf
    have hfm := hf.2
    unfold Value.formed at hfm
    rw [arr_dig.hu] at hfm
    cases v with
    | agg cs =>
      simp [arr_dig.size] at hfm
      unfold Program.keyLits at h
      simp only [arr_dig.hu] at h
      obtain ⟨ls, hls, _⟩ := Option.map_eq_some_iff.1 h
      split at hls
      · obtain ⟨ys, hys, _⟩ := Option.map_eq_some_iff.1 hls
        have hc := mapM_some _ _ hys
        have hcell : ∀ w ∈ cs.toList, ∃ b : UInt8, w = .int .u8 b.toNat := by
          intro w hw
          obtain ⟨i, hi, rfl⟩ := List.mem_iff_getElem.1 hw
          have hi32 : i < 32 := by simpa [hfm] using hi
          obtain ⟨y, hy⟩ := hc i (List.mem_range.2 hi32)
          rw [arr_dig.one, Nat.mul_one] at hy
          have e1 : ((Value.agg cs).cells.toList.drop i).take 1 = [cs.toList[i]] := by
            show (cs.toList.drop i).take 1 = _
            rw [List.drop_eq_getElem_cons hi, List.take_succ_cons, List.take_zero]
          rw [e1] at hy
          cases hD : Try.prog.types.size with
          | zero => rw [hD] at hy; simp [Program.keyLits] at hy
          | succ m =>
            rw [hD] at hy
            unfold Program.keyLits at hy
            rw [Try.underlying5] at hy
            cases hv : cs.toList[i] with
            | int q n =>
              rw [hv] at hy
              simp at hy
              obtain ⟨⟨rfl, hw⟩, _⟩ := hy
              obtain ⟨b, rfl⟩ := u8_of_wf hw
              exact ⟨b, rfl⟩
            | _ => rw [hv] at hy; simp at hy
        obtain ⟨l, hl⟩ := u8s_of_cells _ hcell
        have hl32 : l.length = 32 := by
          have := congrArg List.length hl
          simp [u8s, hfm] at this
          omega
        refine ⟨⟨l, hl32⟩, ?_⟩
        show Value.agg cs = .agg (u8s l).toArray
        rw [← hl]
      · cases hls
    | _ => simp at hfm
  · cases h
end Go.Proofs.Ytegkjmmknjhdiaa
