/- Settings: their text, in the program and in the document. -/
import Derived.Test.YthefhfnmkjdekaaDoorCf6
import Derived.Test.YthefhfnmkjdekaaDoorCfgD
import Derived.Test.YthefhfnmkjdekaaDoorMem4
import Derived.Lib.Join
namespace Go.Proofs.YthefhfnmkjdekaaDoor
open Go.RowKit Go.Shelf
set_option maxRecDepth 100000
def setT (p : SetE) : Tx := p.1 ++ [61] ++ p.2
def joinE (l : List SetE) : Tx := Lib.join (l.map setT) [44]
def textE (l : List SetE) : Tx := if checkE l = 0 then joinE l else []
theorem join_snoc (xs : List Tx) (x : Tx) (h : xs ≠ []) : Lib.join (xs ++ [x]) [44] = Lib.join xs [44] ++ [44] ++ x := by
  obtain ⟨y, r, rfl⟩ : ∃ y r, xs = y :: r := by
    cases xs with
    | nil => exact absurd rfl h
    | cons y r => exact ⟨y, r, rfl⟩
  rw [List.cons_append, Lib.join_cons, Lib.join_cons, Lib.joinTail, Lib.joinTail, List.map_append, List.flatten_append]
  simp
theorem joinE_zero {l : List SetE} {p : SetE} (hp : l[0]? = some p) : joinE (l.take 1) = setT p := by
  rw [show (1 : Nat) = 0 + 1 from rfl, List.take_add_one, hp]
  simp [joinE, Lib.join_one]
theorem joinE_succ {l : List SetE} {k : Nat} {p : SetE} (hp : l[k + 1]? = some p) : joinE (l.take (k + 2)) = joinE (l.take (k + 1)) ++ [44] ++ setT p := by
  have hk : k + 1 < l.length := (List.getElem?_eq_some_iff.1 hp).1
  rw [List.take_add_one, hp, joinE, List.map_append]
  refine join_snoc _ _ fun e => ?_
  have := congrArg List.length e
  rw [List.length_map, List.length_take, List.length_nil] at this
  omega
theorem lens_le : ∀ (xs : List Tx) (m : Nat), (∀ x ∈ xs, x.length ≤ m) → Lib.lens xs ≤ xs.length * m
  | [], m, _ => Nat.zero_le _
  | x :: r, m, h => by
    have h1 := lens_le r m (fun y hy => h y (by simp [hy]))
    have h2 := h x (by simp)
    have : Lib.lens (x :: r) = x.length + Lib.lens r := by simp [Lib.lens]
    rw [this, List.length_cons, Nat.succ_mul]
    omega
theorem join_len (xs : List Tx) (m : Nat) (h : ∀ x ∈ xs, x.length ≤ m) : (Lib.join xs [44]).length ≤ xs.length * (m + 1) := by
  cases xs with
  | nil => simp [Lib.join_nil]
  | cons x r =>
    rw [Lib.join_length]
    have := lens_le (x :: r) m h
    rw [List.length_cons] at *
    rw [Nat.mul_add]
    simp
    omega
theorem cfgExtra : Builder.Extra Tryd.prog Tryd.cfgJoin_ren where
  sizeBuilder := by kernel_rfl
  liesBuilder := by kernel_rfl
  t5 := Tryd.underlying5
  a5 := Tryd.isAgg5
  z5 := Tryd.sizeOf5
  v5 := Tryd.zeroValue5
  infoByte := by kernel_rfl
  cellsByte := by kernel_rfl
  sizeByte := by kernel_rfl
  neB5 := by decide
theorem joined_any (W : World) (A : Option Addr) (c : Nat) (xs : List Tx) (h : Rd W 1 A xs.length (strV xs)) (hc : xs.length ≤ c) (hn : xs.length ≤ 1000000) (hlen : (Lib.join xs [44]).length ≤ 140737488355328) :
    Calls Tryd.prog 30 #[.slice A xs.length c, .string ⟨#[44]⟩] W fun e w' => e = .returned (.string (strB (Lib.join xs [44]))) ∧ Below W.heap.size W w' := by
  have hmm : (xs.map strB).map (fun x : ByteArray => x.data.toList) = xs := by
    rw [List.map_map]
    conv => rhs; rw [← List.map_id xs]
    exact List.map_congr_left fun x _ => strB_list x
  cases hx : xs with
  | nil =>
    exact (Any.strings_Join_none Tryd.cfgJoin cfgExtra A c ⟨#[44]⟩ W).mono fun e w' ⟨he, hw⟩ => ⟨he, hw ▸ Below.refl _ _⟩
  | cons x r =>
    rw [← hx]
    obtain ⟨b, o, rfl, hcell⟩ := h.2 (by rw [hx]; simp)
    have hcx : ∀ (j : Nat) y, (xs.map strB)[j]? = some y → W.cell? ⟨b, o + j, none⟩ = some (.string y) := fun j y hy => by
      rw [List.getElem?_map] at hy
      obtain ⟨z, hz, rfl⟩ := Option.map_eq_some_iff.1 hy
      exact hcell j _ (by rw [strV, List.getElem?_map, hz]; rfl)
    have hb : b < W.heap.size := World.block_lt_of_cell? W _ (hcx 0 (strB x) (by rw [hx]; rfl))
    have := Any.strings_Join Tryd.cfgJoin cfgExtra b o c (xs.map strB) ⟨#[44]⟩ W hcx hb (by rw [List.length_map]; omega) (by rw [List.length_map]; exact hc) (by rw [hmm]; exact hlen)
    rw [hmm, List.length_map] at this
    exact this
theorem checkE_len {l : List SetE} (h : checkE l = 0) : l.length ≤ 16 := by
  rw [checkE] at h
  split at h
  · cases h
  · omega
theorem setT_len {l : List SetE} (hs : Short l) : ∀ x ∈ l.map setT, x.length ≤ 2000001 := fun x hx => by
  obtain ⟨p, hp, rfl⟩ := List.mem_map.1 hx
  have := hs p hp
  simp only [setT, List.length_append, List.length_cons, List.length_nil]
  omega
theorem setT_strB (p : SetE) : strB p.1 ++ ⟨#[61]⟩ ++ strB p.2 = strB (setT p) := by
  rw [show (⟨#[61]⟩ : ByteArray) = strB [61] from rfl, strB_append, strB_append]
  rfl
def rowT (l : List SetE) (k : Nat) : List Value := strV ((l.take k).map setT)
theorem rowT_snoc {l : List SetE} {k : Nat} {p : SetE} (hp : l[k]? = some p) : rowT l k ++ [.string (strB (setT p))] = rowT l (k + 1) := by
  rw [rowT, rowT, strV_snoc, List.take_add_one, hp]
  simp
set_option maxHeartbeats 4000000 in
theorem text_any (w : World) (A : Option Addr) (c : Nat) (l : List SetE) (hl : l.length ≤ 1000000) (hs : Short l) (hr : Rd w 2 A l.length (setsV l)) :
    Calls Tryd.prog 11 #[.slice A l.length c] w fun e w' => e = .returned (.string (strB (textE l))) ∧ Below w.heap.size w w' := by
  have ck := check_any w A c l hl hs hr
  obtain ⟨n, hn⟩ : ∃ n, n = l.length := ⟨_, rfl⟩
  rw [← hn] at hr hl ck ⊢
  by_cases h0 : checkE l = 0
  · rw [h0] at ck
    have hn16 : n ≤ 16 := by have := checkE_len h0; omega
    have hT : textE l = joinE l := by rw [textE, if_pos h0]
    have cj := fun (W : World) (A1 : Option Addr) (c1 : Nat) (h : Rd W 1 A1 (l.map setT).length (strV (l.map setT))) (h2 : (l.map setT).length ≤ c1) => joined_any W A1 c1 (l.map setT) h h2 (by rw [List.length_map]; omega) (by
      have := join_len (l.map setT) 2000001 (setT_len hs)
      rw [List.length_map] at this
      have h3 : l.length * (2000001 + 1) ≤ 16 * 2000002 := Nat.mul_le_mul_right _ (by omega)
      omega)
    rw [hT, joinE]
    obtain ⟨T, hTT⟩ : ∃ T, T = strB (Lib.join (l.map setT) [44]) := ⟨_, rfl⟩
    rw [← hTT] at cj ⊢
    have CJ := hid2 cj
    have CK := hid2 ck
    have HR := hid2 hr
    have HN := hid2 hn
    have HS := hid2 hs
    clear cj ck hr hn hs h0 hT hTT
    go_enter Tryd.func11, Tryd.ntmps11
    go_wp2_with (go_at_call 15; refine CK.out.mono ?_; rintro e W ⟨rfl, hb0⟩; have HB0 := hid2 hb0; clear CK hb0)
    go_loopw [3, 11] (fun v i wr => ∃ (k : Nat) (A1 : Option Addr) (c1 : Nat), k ≤ n ∧ i = .int .i64 k ∧ v = .slice A1 k c1 ∧ Own wr w.heap.size 9 1 A1 k c1 (rowT l k) ∧ Below w.heap.size w wr) (fun _ i _ => n - (intOf i).toNat)
    case atStart => exact ⟨0, none, 0, by omega, rfl, rfl, Own.nil _ _ _ _, HB0.out⟩
    case round =>
      obtain ⟨k, A1, c1, hk, rfl, rfl, hown, hbe⟩ := hrel
      have HBE := hid2 hbe
      by_cases hlt : k < n
      · have hkl : (k : Int) < n := by omega
        have hk0 : (0 : Int) ≤ k := by omega
        obtain ⟨p, hp⟩ : ∃ p, l[k]? = some p := ⟨_, List.getElem?_eq_getElem (by rw [← HN.out]; exact hlt)⟩
        obtain ⟨b, o, rfl, hc0, hc1⟩ := ((HR.out.below_all hbe)).set_at hp
        have hsn := rowT_snoc hp
        rw [← setT_strB] at hsn
        have hsp := HS.out p (List.mem_of_getElem? hp)
        obtain ⟨X, hX⟩ : ∃ X, X = strB p.1 := ⟨_, rfl⟩
        obtain ⟨Y, hY⟩ : ∃ Y, Y = strB p.2 := ⟨_, rfl⟩
        have hXs : X.size ≤ 1000000 := by rw [hX, strB_size]; exact hsp.1
        have hYs : Y.size ≤ 1000000 := by rw [hY, strB_size]; exact hsp.2
        rw [← hX] at hc0 hsn
        rw [← hY] at hc1 hsn
        obtain ⟨Z, hZ⟩ : ∃ Z, X ++ (⟨#[61]⟩ : ByteArray) = Z := ⟨_, rfl⟩
        obtain ⟨U, hU⟩ : ∃ U, Z ++ Y = U := ⟨_, rfl⟩
        have hZs : Z.size = X.size + 1 := by rw [← hZ, ByteArray.size_append]; rfl
        have ha1 : ¬ (X.size + (⟨#[61]⟩ : ByteArray).size > 9223372036854775807) := by show ¬ (X.size + 1 > _); omega
        have ha2 : ¬ (Z.size + Y.size > 9223372036854775807) := by omega
        rw [hZ, hU] at hsn
        have HSN := hid2 hsn
        clear hsp hXs hYs hZs
        obtain ⟨V, hV⟩ : ∃ V, V = rowT l k := ⟨_, rfl⟩
        rw [← hV] at hown
        have HV := hid2 hV
        have HOWN := hid2 hown
        clear hX hY hbe hp hsn hV hown
        go_wp2_with (first
          | ((with_reducible refine wpList_store_lit wr.heap.size 0 (.agg #[.string X, .string Y]) [.string X, .string Y] (set_cells X Y) #[.string ⟨#[]⟩, .string ⟨#[]⟩] 31 (heap_alloc_new wr _) (set_size X Y) (set_fit X Y) (set_one X Y) ?_ ?_); exact ⟨rfl, rfl⟩; have hX1 := stored_row (VX := [.string X, .string Y]) (heap_alloc_new wr (.cells #[.string ⟨#[]⟩, .string ⟨#[]⟩] 31)) rfl; have hb1 := below_setRow ((HBE.out.alloc HBE.out.size (.cells #[.string ⟨#[]⟩, .string ⟨#[]⟩] 31))) HBE.out.size (laid #[.string ⟨#[]⟩, .string ⟨#[]⟩] 0 [.string X, .string Y]); have hbw := below_setRow ((Below.refl wr.heap.size wr).alloc (Nat.le_refl _) (.cells #[.string ⟨#[]⟩, .string ⟨#[]⟩] 31)) (Nat.le_refl _) (laid #[.string ⟨#[]⟩, .string ⟨#[]⟩] 0 [.string X, .string Y]); obtain ⟨W1, hW1⟩ : ∃ W1, W1 = (wr.alloc (.cells #[.string ⟨#[]⟩, .string ⟨#[]⟩] 31)).setRow wr.heap.size (laid #[.string ⟨#[]⟩, .string ⟨#[]⟩] 0 [.string X, .string Y]) := ⟨_, rfl⟩; rw [← hW1] at hX1 hb1 hbw ⊢; have hown1 := HOWN.out.below hbw (Nat.le_refl _); have HB1 := hid2 hb1; have hx0 : W1.cell? ⟨wr.heap.size, 0, none⟩ = some (.string X) := cell_of_row W1 _ 0 _ _ _ hX1; have hx1 : W1.cell? ⟨wr.heap.size, 1, none⟩ = some (.string Y) := cell_of_row W1 _ 1 _ _ _ hX1; clear hW1 hc0 hc1 hX1 hbw hb1)
          | (at_builtin; have _t := hown1; go_must ((with_reducible refine wpList_append_lit 9 (.string ⟨#[]⟩) 1 16 Tryd.underlying38 info_str rfl w.heap.size A1 k c1 V (hown1.alloc _) 1 [.string U] (.slice (some ⟨W1.heap.size, 0, none⟩) 1 1) (Src.slice Tryd.underlying38 (Rd.one W1 _ _)) one_str ?_ ?_ ?_ ?_ ?_); (unfold maxLen; omega); omega; (exact Nat.le_trans HB1.out.size (by simp)); exact ⟨rfl, rfl⟩; intro A3 c3 w3 hown3 hgr3 hbl3; have hb3 : Below w.heap.size w w3 := (HB1.out.alloc HB1.out.size _).grown hgr3 (Nat.le_trans HB1.out.size (by simp)) (fun g e => (_t.block g e).1); clear hown1)))
        go_roundw
        case rel => exact ⟨k + 1, A3, c3, by omega, by go_num, rfl, by rw [← HSN.out, ← HV.out]; exact hown3, hb3⟩
        case measure => simp [intOf]; omega
      · have hkl : ¬ (k : Int) < n := by omega
        obtain rfl : k = n := by omega
        have hrd : Rd wr 1 A1 (l.map setT).length (strV (l.map setT)) := by
          have := hown.rd
          rw [rowT, List.take_of_length_le (by have := HN.out; omega)] at this
          rw [List.length_map, ← HN.out]
          exact this
        have cj := CJ.out wr A1 c1 hrd (by rw [List.length_map, ← HN.out]; exact hown.2.1)
        rw [List.length_map, ← HN.out] at cj
        clear hrd hown hbe
        go_wp2_with (go_at_call 30; refine cj.mono ?_; rintro e w2 ⟨rfl, hb2⟩)
        go_ret
        exact ⟨rfl, HBE.out.trans (hb2.mono HBE.out.size)⟩
  · have hT : textE l = [] := by rw [textE, if_neg h0]
    have hne : ¬ ((checkE l : Nat) : Int) = 0 := by omega
    rw [hT]
    obtain ⟨E, hE⟩ : ∃ E, E = checkE l := ⟨_, rfl⟩
    rw [← hE] at ck hne
    clear hE hT hn hr hs h0
    go_enter Tryd.func11, Tryd.ntmps11
    go_wp2_with (go_at_call 15; refine ck.mono ?_; rintro e W ⟨rfl, hb0⟩)
    go_ret
    exact ⟨rfl, hb0⟩
set_option maxHeartbeats 4000000 in
theorem rtext_any (w : World) (A : Option Addr) (c : Nat) (l : List SetE) (hl : l.length ≤ 1000000) (hs : Short l) (hr : Rd w 2 A l.length (setsV l)) :
    Calls Tryd.prog 16 #[.slice A l.length c] w fun e w' => e = .returned (.string (strB (textE l))) ∧ Below w.heap.size w w' := by
  have ck := rcheck_any w A c l hl hs hr
  obtain ⟨n, hn⟩ : ∃ n, n = l.length := ⟨_, rfl⟩
  rw [← hn] at hr hl ck ⊢
  by_cases h0 : checkE l = 0
  · rw [h0] at ck
    have hT : textE l = joinE (l.take n) := by rw [textE, if_pos h0, List.take_of_length_le (by omega)]
    rw [hT]
    have CK := hid2 ck
    have HR := hid2 hr
    have HN := hid2 hn
    have HS := hid2 hs
    have hn16 : n ≤ 16 := by have := checkE_len h0; omega
    clear ck hr hn hs h0 hT
    go_enter Tryd.func16, Tryd.ntmps16
    go_wp2_with (go_at_call 8; refine CK.out.mono ?_; rintro e W ⟨rfl, hb0⟩; have HB0 := hid2 hb0; clear CK hb0)
    go_loopw [3, 10] (fun v i wr => ∃ (k : Nat), k ≤ n ∧ i = .int .i64 k ∧ v = .string (strB (joinE (l.take k))) ∧ Below w.heap.size w wr) (fun _ i _ => n - (intOf i).toNat)
    case atStart => exact ⟨0, by omega, rfl, rfl, HB0.out⟩
    case round =>
      obtain ⟨k, hk, rfl, rfl, hbe⟩ := hrel
      have HBE := hid2 hbe
      by_cases hlt : k < n
      · have hkl : (k : Int) < n := by omega
        have hk0 : (0 : Int) ≤ k := by omega
        obtain ⟨p, hp⟩ : ∃ p, l[k]? = some p := ⟨_, List.getElem?_eq_getElem (by rw [← HN.out]; exact hlt)⟩
        obtain ⟨b, o, rfl, hc0, hc1⟩ := ((HR.out.below_all hbe)).set_at hp
        have hsp := HS.out p (List.mem_of_getElem? hp)
        have hOs : (strB (joinE (l.take k))).size ≤ 40000000 := by
          rw [strB_size]
          have h1 := join_len ((l.take k).map setT) 2000001 (fun x hx => setT_len HS.out x (by obtain ⟨q, hq, rfl⟩ := List.mem_map.1 hx; exact List.mem_map.2 ⟨q, List.mem_of_mem_take hq, rfl⟩))
          rw [List.length_map, List.length_take] at h1
          have h2 : min k l.length * (2000001 + 1) ≤ 16 * 2000002 := Nat.mul_le_mul_right _ (by omega)
          exact Nat.le_trans h1 (by omega)
        obtain ⟨X, hX⟩ : ∃ X, X = strB p.1 := ⟨_, rfl⟩
        obtain ⟨Y, hY⟩ : ∃ Y, Y = strB p.2 := ⟨_, rfl⟩
        have hXs : X.size ≤ 1000000 := by rw [hX, strB_size]; exact hsp.1
        have hYs : Y.size ≤ 1000000 := by rw [hY, strB_size]; exact hsp.2
        cases k with
        | zero =>
          have hj : strB (joinE (l.take 1)) = strB (joinE (l.take 0)) ++ strB p.1 ++ ⟨#[61]⟩ ++ strB p.2 := by
            rw [joinE_zero hp, ← setT_strB, show strB (joinE (l.take 0)) = strB [] from rfl, strB_append, List.nil_append]
          rw [Nat.zero_mul, Nat.add_zero] at hc0 hc1
          obtain ⟨O, hO⟩ : ∃ O, O = strB (joinE (l.take 0)) := ⟨_, rfl⟩
          rw [← hX] at hc0 hj
          rw [← hY] at hc1 hj
          rw [← hO] at hj hOs ⊢
          obtain ⟨Z1, hZ1⟩ : ∃ Z, O ++ X = Z := ⟨_, rfl⟩
          obtain ⟨Z2, hZ2⟩ : ∃ Z, Z1 ++ (⟨#[61]⟩ : ByteArray) = Z := ⟨_, rfl⟩
          obtain ⟨U, hU⟩ : ∃ U, Z2 ++ Y = U := ⟨_, rfl⟩
          have hs1 : Z1.size = O.size + X.size := by rw [← hZ1, ByteArray.size_append]
          have hs2 : Z2.size = Z1.size + 1 := by rw [← hZ2, ByteArray.size_append]; rfl
          have ha1 : ¬ (O.size + X.size > 9223372036854775807) := by omega
          have ha2 : ¬ (Z1.size + (⟨#[61]⟩ : ByteArray).size > 9223372036854775807) := by show ¬ (Z1.size + 1 > _); omega
          have ha3 : ¬ (Z2.size + Y.size > 9223372036854775807) := by omega
          rw [hZ1, hZ2, hU] at hj
          have HJ := hid2 hj
          clear hX hY hbe hp hj hO hs1 hs2 hOs hXs hYs hsp
          go_wp2_with fail
          go_quiet (fail)
          go_wp2_with fail
          go_roundw
          case rel => exact ⟨1, by omega, by go_num, by rw [HJ.out], below_drewN HBE.out _⟩
          case measure => simp [intOf]; omega
        | succ j =>
          have hj : strB (joinE (l.take (j + 2))) = strB (joinE (l.take (j + 1))) ++ ⟨#[44]⟩ ++ strB p.1 ++ ⟨#[61]⟩ ++ strB p.2 := by
            rw [joinE_succ hp, ← strB_append, ← setT_strB, ← strB_append, show (⟨#[44]⟩ : ByteArray) = strB [44] from rfl, show (⟨#[61]⟩ : ByteArray) = strB [61] from rfl]
            simp only [strB_append, List.append_assoc]
          have hjp : (0 : Int) < (j : Int) + 1 := by omega
          have hjq : (0 : Int) ≤ (j : Int) + 1 := by omega
          obtain ⟨O, hO⟩ : ∃ O, O = strB (joinE (l.take (j + 1))) := ⟨_, rfl⟩
          rw [← hX] at hc0 hj
          rw [← hY] at hc1 hj
          rw [← hO] at hj hOs ⊢
          obtain ⟨Z0, hZ0⟩ : ∃ Z, O ++ (⟨#[44]⟩ : ByteArray) = Z := ⟨_, rfl⟩
          obtain ⟨Z1, hZ1⟩ : ∃ Z, Z0 ++ X = Z := ⟨_, rfl⟩
          obtain ⟨Z2, hZ2⟩ : ∃ Z, Z1 ++ (⟨#[61]⟩ : ByteArray) = Z := ⟨_, rfl⟩
          obtain ⟨U, hU⟩ : ∃ U, Z2 ++ Y = U := ⟨_, rfl⟩
          have hs0 : Z0.size = O.size + 1 := by rw [← hZ0, ByteArray.size_append]; rfl
          have hs1 : Z1.size = Z0.size + X.size := by rw [← hZ1, ByteArray.size_append]
          have hs2 : Z2.size = Z1.size + 1 := by rw [← hZ2, ByteArray.size_append]; rfl
          have ha0 : ¬ (O.size + (⟨#[44]⟩ : ByteArray).size > 9223372036854775807) := by show ¬ (O.size + 1 > _); omega
          have ha1 : ¬ (Z0.size + X.size > 9223372036854775807) := by omega
          have ha2 : ¬ (Z1.size + (⟨#[61]⟩ : ByteArray).size > 9223372036854775807) := by show ¬ (Z1.size + 1 > _); omega
          have ha3 : ¬ (Z2.size + Y.size > 9223372036854775807) := by omega
          rw [hZ0, hZ1, hZ2, hU] at hj
          have HJ := hid2 hj
          clear hX hY hbe hp hj hO hs0 hs1 hs2 hOs hXs hYs hsp
          go_wp2_with fail
          go_quiet (fail)
          go_wp2_with fail
          go_roundw
          case rel => exact ⟨j + 2, by omega, by go_num, by rw [HJ.out], below_drewN HBE.out _⟩
          case measure => simp [intOf]; omega
      · have hkl : ¬ (k : Int) < n := by omega
        obtain rfl : k = n := by omega
        obtain ⟨O, hO⟩ : ∃ O, O = strB (joinE (l.take k)) := ⟨_, rfl⟩
        rw [← hO]
        have HO := hid2 hO
        clear hbe hO
        go_wp2_with fail
        go_ret
        exact ⟨by rw [← HO.out]; rfl, HBE.out⟩
  · have hT : textE l = [] := by rw [textE, if_neg h0]
    have hne : ¬ ((checkE l : Nat) : Int) = 0 := by omega
    rw [hT]
    obtain ⟨E, hE⟩ : ∃ E, E = checkE l := ⟨_, rfl⟩
    rw [← hE] at ck hne
    clear hE hT hn hr hs h0
    go_enter Tryd.func16, Tryd.ntmps16
    go_wp2_with (go_at_call 8; refine ck.mono ?_; rintro e W ⟨rfl, hb0⟩)
    go_ret
    exact ⟨rfl, hb0⟩
end Go.Proofs.YthefhfnmkjdekaaDoor
