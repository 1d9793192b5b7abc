/- Settings: what Read leans on: a text cut at commas, a part cut at its first sign of equality, names compared, rows sorted. -/
import Derived.Test.YthefhfnmkjdekaaDoorCf7
import Derived.Lib.CutLaws
import Derived.Lib.Split
import Derived.Lib.SplitLaws
import Derived.Lib.Bytealg
import Derived.Lib.BytesEntry
import Derived.Sort.Grow
import Derived.Shelf.GgSortFunc.RowK
import Derived.Shelf.SlSortCmp.InsertionK
namespace Go.Proofs.YthefhfnmkjdekaaDoor
open Go.RowKit Go.Shelf Go.Sort
set_option maxRecDepth 100000
theorem indexB_at (c : UInt8) (x r : Tx) (h : c ∉ x) : Lib.index (x ++ c :: r) [c] = x.length := by
  rw [Lib.index_one]
  have hc : (x ++ c :: r)[x.length]? = some c := by simp
  rcases Int.lt_or_le (Lib.indexByte (x ++ c :: r) c) 0 with hn | hn
  · have h1 : Lib.indexByte (x ++ c :: r) c = -1 := by have := Lib.indexByte_ge (x ++ c :: r) c; omega
    exact absurd hc (Lib.indexByte_none h1 _)
  · obtain ⟨k, hk⟩ : ∃ k : Nat, Lib.indexByte (x ++ c :: r) c = k := ⟨_, (Int.toNat_of_nonneg hn).symm⟩
    obtain ⟨h1, h2⟩ := Lib.indexByte_some hk
    rw [hk]
    rcases Nat.lt_trichotomy k x.length with hlt | heq | hgt
    · rw [List.getElem?_append_left hlt] at h1
      exact absurd (List.mem_of_getElem? h1) h
    · rw [heq]
    · exact absurd hc (h2 _ hgt)
theorem indexB_not (c : UInt8) (x : Tx) (h : c ∉ x) : Lib.index x [c] = -1 := by
  rw [Lib.index_one]
  rcases Int.lt_or_le (Lib.indexByte x c) 0 with hn | hn
  · have := Lib.indexByte_ge x c; omega
  · obtain ⟨k, hk⟩ : ∃ k : Nat, Lib.indexByte x c = k := ⟨_, (Int.toNat_of_nonneg hn).symm⟩
    exact absurd (List.mem_of_getElem? (Lib.indexByte_some hk).1) h
theorem indexB_strB (l m : Tx) : Lib.indexB (strB l) (strB m) = Lib.index l m := by
  show Lib.index (strB l).data.toList (strB m).data.toList = _
  rw [strB_list, strB_list]
theorem drop_strB (l r : Tx) (c : UInt8) : (strB (l ++ c :: r)).extract (l.length + (strB [c]).size) (strB (l ++ c :: r)).size = strB r := by
  refine bytes_ext ?_
  rw [extract_list, strB_list, strB_list, strB_size, strB_size]
  simp
  exact List.take_of_length_le (by omega)
theorem take_strB (l r : Tx) : (strB (l ++ r)).extract 0 (l.length + 0) = strB l := by
  refine bytes_ext ?_
  rw [extract_list, strB_list, strB_list]
  simp
theorem join_two (c : UInt8) (x y : Tx) (r : List Tx) : Lib.join (x :: y :: r) [c] = x ++ c :: Lib.join (y :: r) [c] := by
  rw [Lib.join_cons, Lib.join_cons, Lib.joinTail]
  simp [Lib.joinTail]
theorem split_join (c : UInt8) : ∀ (xs : List Tx), xs ≠ [] → (∀ x ∈ xs, c ∉ x) → Lib.countB (strB (Lib.join xs [c])) (strB [c]) = xs.length - 1 ∧ Lib.splitB (strB [c]) 0 (xs.length - 1) (strB (Lib.join xs [c])) = xs.map strB
  | [], h, _ => absurd rfl h
  | [x], _, h => by
    have hi : Lib.indexB (strB (Lib.join [x] [c])) (strB [c]) = -1 := by
      rw [Lib.join_one, indexB_strB]
      exact indexB_not c x (h x (by simp))
    refine ⟨Lib.countB_miss _ _ hi, ?_⟩
    rw [Lib.splitB_miss _ _ _ _ hi, Lib.join_one]
    rfl
  | x :: y :: r, _, h => by
    have ih := split_join c (y :: r) (by simp) (fun z hz => h z (by simp only [List.mem_cons] at hz ⊢; exact .inr hz))
    have hi : Lib.indexB (strB (Lib.join (x :: y :: r) [c])) (strB [c]) = (x.length : Nat) := by
      rw [join_two, indexB_strB]
      exact indexB_at c x _ (h x (by simp))
    have hd := drop_strB x (Lib.join (y :: r) [c]) c
    have ht := take_strB x (c :: Lib.join (y :: r) [c])
    rw [← join_two] at hd ht
    constructor
    · rw [Lib.countB_hit _ _ _ (by rw [strB_size]; simp) hi, hd, ih.1]
      simp
      omega
    · rw [show (x :: y :: r).length - 1 = ((y :: r).length - 1) + 1 by simp, Lib.splitB_hit _ _ _ _ _ hi, hd, ht, ih.2]
      rfl
/-- the world has that variable of the library's -/
def MaxL (w : World) : Prop := ∃ m, w.cell? ⟨0, 0, none⟩ = some (.int .i64 m)
theorem MaxL.on {w w' : World} (h : MaxL w) (hb : Below w.heap.size w w') : MaxL w' := by
  obtain ⟨m, hm⟩ := h
  exact ⟨m, (hb.cell (World.block_lt_of_cell? w _ hm)).trans hm⟩
theorem info_str9 : (Tryd.prog.info? (Tryd.cfgSplit_ren.t 9)).map (fun i => (i.zero, i.size, i.bytes)) = some (some (.string ByteArray.empty), 1, 16) := by kernel_rfl
theorem split_any (w : World) (xs : List Tx) (h0 : xs ≠ []) (hx : ∀ x ∈ xs, (44 : UInt8) ∉ x) (hl : (Lib.join xs [44]).length ≤ 1000000000) (hM : MaxL w) :
    Calls Tryd.prog 22 #[.string (strB (Lib.join xs [44])), .string ⟨#[44]⟩] w fun e w' => ∃ A, e = .returned (.slice A xs.length xs.length) ∧ Rd w' 1 A xs.length (strV xs) ∧ Below w.heap.size w w' := by
  obtain ⟨m, hm⟩ := hM
  have h := Any.strings_Split { Tryd.cfgSplit with } info_str9 (strB (Lib.join xs [44])) (strB [44]) m w (by rw [strB_size]; omega) hm (by decide)
  obtain ⟨h1, h2⟩ := split_join 44 xs h0 hx
  have hp : 0 < xs.length := List.length_pos_iff.2 h0
  rw [h1, h2, show xs.length - 1 + 1 = xs.length by omega] at h
  refine h.mono ?_
  rintro e w' ⟨rfl, rfl⟩
  refine ⟨_, rfl, ?_, (Below.refl _ _).alloc (Nat.le_refl _) _⟩
  have e1 : (xs.map strB).map Value.string = strV xs := by rw [strV, List.map_map]; rfl
  rw [e1]
  refine ⟨by rw [strV_length]; omega, fun _ => ⟨w.heap.size, 0, rfl, fun j u hu => ?_⟩⟩
  rw [cell_of_row _ _ _ _ _ _ (heap_alloc_new w _), Nat.zero_add]
  simpa using hu
theorem cut_any (w : World) (p : SetE) (hp : (61 : UInt8) ∉ p.1) (hl : (setT p).length ≤ 1000000000) (hM : MaxL w) :
    Calls Tryd.prog 23 #[.string (strB (setT p)), .string ⟨#[61]⟩] w fun e w' => e = .returned (.tuple #[.string (strB p.1), .string (strB p.2), .bool true]) ∧ ∃ n, w' = w.drewN n := by
  obtain ⟨m, hm⟩ := hM
  have h := Any.strings_Cut { Tryd.cfgCut with } (strB (setT p)) (strB [61]) m w (by rw [strB_size]; omega) hm
  have hi : Lib.index (setT p) [61] = p.1.length := by
    rw [show setT p = p.1 ++ 61 :: p.2 by simp [setT]]
    exact indexB_at 61 p.1 p.2 hp
  have hc : Lib.cut (setT p) [61] = (p.1, p.2, true) := by
    unfold Lib.cut
    rw [hi, if_pos (by omega)]
    simp [setT]
  rw [strB_list, strB_list, hc] at h
  exact h
/-! rows of settings, sorted -/
instance : Inhabited SetE := ⟨([], [])⟩
def setC (p : SetE) : List Value := [.string (strB p.1), .string (strB p.2)]
theorem setC_len (p : SetE) : (setC p).length = 2 := rfl
theorem setC_one (p : SetE) : ∀ v ∈ setC p, v.oneCell' = true := by simp [setC, Value.oneCell']
theorem sets_get : ∀ (l : List SetE) (t : Nat), t < l.length * 2 → (setsV l)[t]! = (setC l[t / 2]!)[t % 2]!
  | [], t, h => by simp at h
  | x :: l, t, h => by
    have e : setsV (x :: l) = setC x ++ setsV l := by simp [setsV, setC]
    have hx := setC_len x
    rw [e]
    by_cases ht : t < 2
    · rw [Nat.div_eq_of_lt ht, Nat.mod_eq_of_lt ht, getElem!_pos _ t (by rw [List.length_append]; omega), List.getElem_append_left (by omega), List.getElem!_cons_zero, getElem!_pos _ t (by omega)]
    · obtain ⟨u, rfl⟩ : ∃ u, t = u + 2 := ⟨t - 2, by omega⟩
      have hu : u < l.length * 2 := by rw [List.length_cons] at h; omega
      have ih := sets_get l u hu
      rw [show (u + 2) / 2 = u / 2 + 1 by omega, show (u + 2) % 2 = u % 2 by omega, List.getElem!_cons_succ, ← ih]
      have hl : u < (setsV l).length := by rw [setsV_length]; exact hu
      rw [getElem!_pos _ u hl, getElem!_pos _ (u + 2) (by rw [List.length_append]; omega), List.getElem_append_right (by omega)]
      simp only [hx]
      congr 1
theorem flatK_sets (l : List SetE) : flatK setC 2 l.toArray = (setsV l).toArray := by
  refine ext_get! (by rw [size_flatK, List.size_toArray, List.size_toArray, setsV_length]) fun t ht => ?_
  rw [size_flatK, List.size_toArray] at ht
  rw [get_flatK _ _ _ _ (by rw [List.size_toArray]; exact ht), List.getElem!_toArray, List.getElem!_toArray, sets_get l t ht]
theorem holdsK_own {w : World} {base g o n c : Nat} {t : TypeId} {l : List SetE} (h : Own w base t 2 (some ⟨g, o, none⟩) n c (setsV l)) (h0 : 0 < n) : HoldsK setC 2 w g o l.toArray := by
  have hl := h.1
  obtain ⟨b, o', cur, fr, e, _, hg, hf, hs, hx⟩ := h.at_ (by have := h.2.1; omega)
  cases e
  have hn := h.2.1
  unfold HoldsK
  rw [flatK_sets]
  intro j hj
  have hj' : j < (setsV l).length := by simpa using hj
  have hc : n * 2 ≤ c * 2 := Nat.mul_le_mul_right _ hn
  refine ⟨?_, hf.cell hg (by omega)⟩
  rw [cell_of_row w _ _ cur t _ hg, hx j (by omega), List.getElem!_toArray, List.getElem?_eq_getElem hj']
  exact congrArg some (getElem!_pos (setsV l) j hj').symm
theorem rd_holdsK {w : World} {g o : Nat} {l : List SetE} (h : HoldsK setC 2 w g o l.toArray) : Rd w 2 (some ⟨g, o, none⟩) l.length (setsV l) := by
  unfold HoldsK at h
  rw [flatK_sets] at h
  refine ⟨setsV_length l, fun _ => ⟨g, o, rfl, fun j u hu => ?_⟩⟩
  obtain ⟨hj, rfl⟩ := List.getElem?_eq_some_iff.1 hu
  have := (h j (by simpa using hj)).1
  rw [List.getElem!_toArray] at this
  exact this.trans (congrArg some (getElem!_pos (setsV l) j hj))
theorem grownBy_sorted {w : World} {g o n : Nat} {os : Array Obj} (d : Array SetE) : w.grownBy (sortWorldK setC 2 w g o n d os) (some g) := by
  unfold sortWorldK putRowK
  refine ⟨rfl, rfl, rfl, by simp, fun k hk hne => ?_⟩
  rw [heap_grow_old _ _ (by simpa using hk)]
  have : g ≠ k := fun e => hne (by rw [e])
  simp [putRow, mapBlock, Sort.ahead, Array.getElem?_modify, this]
def cfS (x y : SetE) : Int := Lib.compareBytes x.1 y.1
theorem compareBytes_lt : ∀ a b : List UInt8, Lib.compareBytes a b < 0 ↔ a < b
  | [], [] => by simp [Lib.compareBytes]
  | [], _ :: _ => by simp [Lib.compareBytes]
  | _ :: _, [] => by simp [Lib.compareBytes]
  | x :: a, y :: b => by
    have ih := compareBytes_lt a b
    rw [List.cons_lt_cons_iff, ← ih, show Lib.compareBytes (x :: a) (y :: b) = if x < y then -1 else if y < x then 1 else Lib.compareBytes a b from rfl]
    by_cases h1 : x < y
    · simp [h1]
    · by_cases h2 : y < x
      · have : x ≠ y := fun e => h1 (e ▸ h2)
        simp [h1, h2, this]
      · have : x = y := UInt8.le_antisymm (UInt8.not_lt.1 h2) (UInt8.not_lt.1 h1)
        simp [this]
theorem cfS_lt (x y : SetE) : ltOf cfS x y = decide (x.1 < y.1) := by
  unfold ltOf cfS
  by_cases h : x.1 < y.1
  · simp only [h, decide_true, decide_eq_true_eq]; exact (compareBytes_lt _ _).2 h
  · have := mt (compareBytes_lt x.1 y.1).1 h
    simp [h, this]
theorem swoS : SWO (ltOf cfS) where
  irrefl x := by rw [cfS_lt]; simp [List.lt_irrefl]
  trans x y z h1 h2 := by
    rw [cfS_lt] at *
    simp only [decide_eq_true_eq] at *
    exact List.lt_trans h1 h2
  ntrans x y z h1 h2 := by
    rw [cfS_lt] at *
    simp only [decide_eq_false_iff_not, List.not_lt] at *
    exact List.le_trans h2 h1
/-- sorted by names -/
def ByName (m : List SetE) : Prop := m.Pairwise fun a b => ¬ b.1 < a.1
theorem sorted_of {l : List SetE} {d' : Array SetE} (h1 : PermIn 0 l.toArray.size l.toArray d') (h2 : SortedIn (ltOf cfS) 0 l.toArray.size d') : d'.toList.Perm l ∧ ByName d'.toList := by
  have hsz : d'.size = l.length := by simpa using h1.1
  constructor
  · have h := h1.2.2
    have e1 : (d'.extract 0 l.toArray.size) = d' := by
      apply Array.extract_eq_self_of_le
      rw [hsz]; simp
    have e2 : (l.toArray.extract 0 l.toArray.size) = l.toArray := Array.extract_eq_self_of_le (by simp)
    rw [e1, e2] at h
    simpa using h
  · rw [ByName, List.pairwise_iff_getElem]
    intro i j hi hj hij
    have hj' : j < d'.size := by simpa using hj
    have := h2 i j (Nat.zero_le _) hij (by simp; omega)
    rw [cfS_lt, getElem!_pos d' j hj', getElem!_pos d' i (by omega)] at this
    simpa using this
theorem compare_any (w : World) (a b : ByteArray) : Calls Tryd.prog 29 #[.string a, .string b] w fun e w' => e = .returned (.int .i64 (Lib.compareBytes a.data.toList b.data.toList)) ∧ w' = w := by
  have cC : ∀ w, Calls Tryd.prog 49 #[.string a, .string b] w fun e w' => e = .returned (.int .i64 (Lib.compareBytes a.data.toList b.data.toList)) ∧ w' = w := fun w => by
    go_enter Tryd.func49, Tryd.ntmps49
    go_wp2
    rw [run_callFunc_extern Tryd.func75 (by kernel_rfl) (by kernel_rfl) (by kernel_rfl) (e := Extern.BytealgCompare.compare) (by kernel_rfl), Lib.run_compareString]
    simp only [Result.andThen]
    rw [Oper.upon_value]
    go_wp2
    go_ret
    exact ⟨rfl, rfl⟩
  go_enter Tryd.func29, Tryd.ntmps29
  go_wp2_with (go_at_call 49; refine (cC _).mono ?_; rintro e w2 ⟨rfl, rfl⟩)
  go_ret
  exact ⟨rfl, rfl⟩
end Go.Proofs.YthefhfnmkjdekaaDoor
