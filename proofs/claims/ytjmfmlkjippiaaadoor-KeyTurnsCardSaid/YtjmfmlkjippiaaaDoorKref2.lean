/- The document's set of texts. -/
import Derived.Test.YtjmfmlkjippiaaaDoorKref1
import Derived.Sort.Walk0
import Derived.BigQuiet
namespace Go.Proofs.YtjmfmlkjippiaaaDoor
open Go.RowKit Go.Shelf
abbrev Tx := List UInt8
/-- one text of the row met while x is put in: what was laid, and whether x was -/
def stepI (x : Tx) (s : List Tx × Bool) (o : Tx) : List Tx × Bool :=
  ((if s.2 = false ∧ x ≤ o then s.1 ++ [x] else s.1) ++ (if o ≠ x then [o] else []), s.2 || decide (x ≤ o))
def stepsI (x : Tx) (l : List Tx) : List Tx × Bool := l.foldl (stepI x) ([], false)
def insS (x : Tx) (l : List Tx) : List Tx := if (stepsI x l).2 then (stepsI x l).1 else (stepsI x l).1 ++ [x]
def refSet (l : List Tx) : List Tx := l.foldl (fun out x => insS x out) []
def insR (x : Tx) : List Tx → List Tx
  | [] => [x]
  | o :: r => if x ≤ o then x :: (if o ≠ x then [o] else []) ++ r else o :: insR x r
theorem fold_done {x : Tx} : ∀ {r : List Tx} (nx : List Tx), (∀ o ∈ r, o ≠ x) → r.foldl (stepI x) (nx, true) = (nx ++ r, true)
  | [], nx, _ => by simp
  | o :: r, nx, h => by
    rw [List.foldl_cons, show stepI x (nx, true) o = (nx ++ [o], true) by simp [stepI, h o (by simp)], fold_done _ (fun o' ho' => h o' (by simp [ho']))]
    simp
theorem fold_ins {x : Tx} : ∀ {r : List Tx} (nx : List Tx), r.Pairwise (· < ·) → (let p := r.foldl (stepI x) (nx, false); if p.2 then p.1 else p.1 ++ [x]) = nx ++ insR x r
  | [], nx, _ => by simp [insR]
  | o :: r, nx, h => by
    obtain ⟨h1, h2⟩ := List.pairwise_cons.1 h
    rw [List.foldl_cons]
    by_cases hx : x ≤ o
    · rw [show stepI x (nx, false) o = (nx ++ [x] ++ (if o ≠ x then [o] else []), true) by simp [stepI, hx], fold_done _ (fun o' ho' e => by subst e; exact absurd (h1 _ ho') (List.not_lt.2 hx))]
      simp [insR, hx]
    · have hne : o ≠ x := fun e => hx (e ▸ List.le_refl _)
      rw [show stepI x (nx, false) o = (nx ++ [o], false) by simp [stepI, hx, hne]]
      have := fold_ins (x := x) (nx ++ [o]) h2
      simp only at this ⊢
      rw [this, insR, if_neg hx]
      simp
theorem insS_eq {x : Tx} {r : List Tx} (h : r.Pairwise (· < ·)) : insS x r = insR x r := by
  have := fold_ins (x := x) [] h
  rw [List.nil_append] at this
  exact this
theorem insR_mem {x y : Tx} : ∀ {r : List Tx}, y ∈ insR x r ↔ y = x ∨ y ∈ r
  | [] => by simp [insR]
  | o :: r => by
    rw [insR]
    by_cases hx : x ≤ o
    · rw [if_pos hx]
      by_cases he : o = x
      · subst he; simp
      · simp [he]
    · rw [if_neg hx, List.mem_cons, insR_mem, List.mem_cons]
      constructor
      · rintro (h | h | h)
        · exact .inr (.inl h)
        · exact .inl h
        · exact .inr (.inr h)
      · rintro (h | h | h)
        · exact .inr (.inl h)
        · exact .inl h
        · exact .inr (.inr h)
theorem insR_rise {x : Tx} : ∀ {r : List Tx}, r.Pairwise (· < ·) → (insR x r).Pairwise (· < ·)
  | [], _ => by simp [insR]
  | o :: r, h => by
    obtain ⟨h1, h2⟩ := List.pairwise_cons.1 h
    rw [insR]
    by_cases hx : x ≤ o
    · rw [if_pos hx]
      by_cases he : o = x
      · subst he
        simpa using h
      · have hlt := tx_lt_of hx (fun e => he e.symm)
        rw [if_pos he]
        refine List.pairwise_cons.2 ⟨fun y hy => ?_, h⟩
        rcases List.mem_cons.1 hy with rfl | hy
        · exact hlt
        · exact List.lt_trans hlt (h1 y hy)
    · rw [if_neg hx]
      refine List.pairwise_cons.2 ⟨fun y hy => ?_, insR_rise h2⟩
      rcases insR_mem.1 hy with rfl | hy
      · exact List.not_le.1 hx
      · exact h1 y hy
theorem refSet_snoc (l : List Tx) (x : Tx) : refSet (l ++ [x]) = insS x (refSet l) := by rw [refSet, List.foldl_append]; rfl
theorem refSet_is : ∀ l : List Tx, IsSet l (refSet l) := fun l => by
  suffices h : ∀ n, ∀ l : List Tx, l.length = n → IsSet l (refSet l) from h _ l rfl
  intro n
  induction n with
  | zero =>
    intro l hl
    rw [List.eq_nil_of_length_eq_zero hl]
    exact ⟨List.Pairwise.nil, fun x => Iff.rfl⟩
  | succ n ih =>
    intro l hl
    obtain ⟨m, x, rfl⟩ : ∃ m x, l = m ++ [x] := ⟨l.dropLast, l.getLast (by intro e; simp [e] at hl), (List.dropLast_concat_getLast _).symm⟩
    obtain ⟨h1, h2⟩ := ih m (by simpa using hl)
    rw [refSet_snoc, insS_eq h1]
    refine ⟨insR_rise h1, fun y => ?_⟩
    rw [insR_mem, h2, List.mem_append, List.mem_singleton]
    exact Or.comm
theorem refSet_eq (l : List Tx) : refSet l = setL l := (refSet_is l).one (setL_is l)
theorem stepI_len {x : Tx} {s : List Tx × Bool} {o : Tx} : (stepI x s o).1.length ≤ s.1.length + 2 := by
  rw [stepI]
  simp only [List.length_append]
  split <;> split <;> simp
theorem stepsI_snoc (x : Tx) (l : List Tx) (o : Tx) : stepsI x (l ++ [o]) = stepI x (stepsI x l) o := by rw [stepsI, List.foldl_append]; rfl
theorem stepsI_len (x : Tx) : ∀ (l : List Tx) (n : Nat), l.length = n → (stepsI x l).1.length ≤ 2 * n := fun l n => by
  induction n generalizing l with
  | zero => intro hl; rw [List.eq_nil_of_length_eq_zero hl]; simp [stepsI]
  | succ n ih =>
    intro hl
    obtain ⟨m, y, rfl⟩ : ∃ m x, l = m ++ [x] := ⟨l.dropLast, l.getLast (by intro e; simp [e] at hl), (List.dropLast_concat_getLast _).symm⟩
    rw [stepsI_snoc]
    have := ih m (by simpa using hl)
    have := stepI_len (x := x) (s := stepsI x m) (o := y)
    omega
theorem less_dec (x y : Tx) : Op.bytesLess (strB x).toList (strB y).toList = decide (x < y) := by rw [ByteArray.toList_eq, ByteArray.toList_eq, strB_list, strB_list, bytesLess_eq]
theorem toList_strB (x : Tx) : (strB x).toList = x := by rw [ByteArray.toList_eq, strB_list]
theorem run_leq (w : World) (X Y : ByteArray) : (binOp BinOp.leq 9 (.string X) (.string Y)).run Tryd.prog w = .ok (.bool (Op.bytesLess X.toList Y.toList || X.toList == Y.toList)) w := by
  simp [go_sem, binOp, Op.stringOp, Tryd.underlying9]
set_option maxRecDepth 100000 in
set_option maxHeartbeats 4000000 in
theorem refset_any (w : World) (A : Option Addr) (c : Nat) (l : List Tx) (hl : l.length ≤ 1000) (hr : Rd w 1 A l.length (strV l)) :
    Calls Tryd.prog 35 #[.slice A l.length c] w fun e w' => ∃ A' c', e = .returned (.slice A' (setL l).length c') ∧ Own w' w.heap.size 9 1 A' (setL l).length c' (strV (setL l)) ∧ Below w.heap.size w w' := by
  have hlen : ∀ k, (refSet (l.take k)).length ≤ 1000 := fun k => by
    rw [refSet_eq]
    have := setL_len (l.take k)
    rw [List.length_take] at this
    omega
  obtain ⟨n, hn⟩ : ∃ n, n = l.length := ⟨_, rfl⟩
  rw [← hn] at hr hl ⊢
  have HR := hid2 hr
  have HN := hid2 hn
  have HLN := hid2 hlen
  clear hr hn hlen
  go_enter Tryd.func35, Tryd.ntmps35
  go_wp2_with fail
  go_loopg [3, 11] n (fun gk ov iv wr => ∃ (k : Nat) (A1 : Option Addr) (m c1 : Nat), k + gk = n ∧ iv = .int .i64 k ∧ ov = .slice A1 m c1 ∧ m = (refSet (l.take k)).length ∧ Own wr w.heap.size 9 1 A1 m c1 (strV (refSet (l.take k))) ∧ Below w.heap.size w wr)
  case atStart => exact ⟨0, _, _, _, by omega, rfl, rfl, rfl, Own.lit w #[] _ 1 0 _ (Nat.le_refl _) (by decide) rfl, (Below.refl _ _).alloc (Nat.le_refl _) _⟩
  case round =>
    obtain ⟨k, A1, m, c1, hk, rfl, rfl, hm, hown, hbe⟩ := hrel
    obtain ⟨wo, rfl⟩ : ∃ wo, wo = wr := ⟨_, rfl⟩
    obtain ⟨go, rfl⟩ : ∃ go, go = gk := ⟨_, rfl⟩
    by_cases hlt : k < n
    · have hkl : (k : Int) < n := by omega
      have hk0 : (0 : Int) ≤ k := by omega
      obtain ⟨x, hx⟩ : ∃ x, l[k]? = some x := ⟨_, List.getElem?_eq_getElem (by rw [← HN.out]; exact hlt)⟩
      have htk : l.take (k + 1) = l.take k ++ [x] := by rw [List.take_add_one, hx]; rfl
      have hset : refSet (l.take (k + 1)) = insS x (refSet (l.take k)) := by rw [htk, refSet_snoc]
      have hm1 : m ≤ 1000 := by rw [hm]; exact HLN.out k
      obtain ⟨b, o, rfl, hcell⟩ := (HR.out.below_all hbe).2 (by omega)
      have hcx : wo.cell? ⟨b, o + k, none⟩ = some (.string (strB x)) := hcell k _ (by rw [strV, List.getElem?_map, hx]; rfl)
      have hblt := World.block_lt_of_cell? wo _ hcx
      simp only at hblt
      obtain ⟨S, hS⟩ : ∃ S, S = refSet (l.take k) := ⟨_, rfl⟩
      rw [← hS] at hm hown hset
      have hrS := hown.rd
      have HS := hid2 hS
      have HSET := hid2 hset
      have HM := hid2 hm
      have HRS := hid2 hrS
      have HBE := hid2 hbe
      have HCX := hid2 hcx
      clear hx htk hset hm hcell hS hown hbe hrS hcx
      go_wp2_with fail
      go_loopg [5, 6, 17] m (fun gj nv dv qv wr2 => ∃ (q : Nat) (A2 : Option Addr) (m2 c2 : Nat), q + gj = m ∧ qv = .int .i64 q ∧ dv = .bool (stepsI x (S.take q)).2 ∧ nv = .slice A2 m2 c2 ∧ m2 = (stepsI x (S.take q)).1.length ∧ Own wr2 wo.heap.size 9 1 A2 m2 c2 (strV (stepsI x (S.take q)).1) ∧ Below wo.heap.size wo wr2)
      case atStart => exact ⟨0, _, _, _, by omega, rfl, rfl, rfl, rfl, Own.lit wo #[] _ 1 0 _ (Nat.le_refl _) (by decide) rfl, (Below.refl _ _).alloc (Nat.le_refl _) _⟩
      case round =>
        obtain ⟨q, A2, m2, c2, hq, rfl, rfl, rfl, hm2, hown2, hbe2⟩ := hrel
        by_cases hql : q < m
        · have hqi : (q : Int) < m := by omega
          have hq0 : (0 : Int) ≤ q := by omega
          obtain ⟨y, hy⟩ : ∃ y, S[q]? = some y := ⟨_, List.getElem?_eq_getElem (by rw [← HM.out]; exact hql)⟩
          have htq : S.take (q + 1) = S.take q ++ [y] := by rw [List.take_add_one, hy]; rfl
          have hst : stepsI x (S.take (q + 1)) = stepI x (stepsI x (S.take q)) y := by rw [htq, stepsI_snoc]
          have hlen2 : m2 ≤ 2000 := by
            rw [hm2]
            have := stepsI_len x (S.take q) _ rfl
            rw [List.length_take] at this
            omega
          obtain ⟨b1, o1, rfl, hcell⟩ := HRS.out.2 (by omega)
          have hcy0 : wo.cell? ⟨b1, o1 + q, none⟩ = some (.string (strB y)) := hcell q _ (by rw [strV, List.getElem?_map, hy]; rfl)
          have hblt1 := World.block_lt_of_cell? wo _ hcy0
          simp only at hblt1
          have hless := less_dec x y
          have htx := toList_strB x
          have hty := toList_strB y
          obtain ⟨P, hP⟩ : ∃ P, P = stepsI x (S.take q) := ⟨_, rfl⟩
          rw [← hP] at hst hm2 hown2 ⊢
          obtain ⟨nx, d⟩ := P
          simp only at hm2 hown2 ⊢
          obtain ⟨X, hX⟩ : ∃ X, X = strB x := ⟨_, rfl⟩
          obtain ⟨Y, hY⟩ : ∃ Y, Y = strB y := ⟨_, rfl⟩
          have hcx0 := HCX.out
          rw [← hX] at hcx0 hless htx
          rw [← hY] at hcy0 hless hty
          have HCL := hid2 (show ∀ W, Below wo.heap.size wo W → W.cell? ⟨b1, o1 + q, none⟩ = some (.string Y) ∧ W.cell? ⟨b, o + k, none⟩ = some (.string X) from fun W hW => ⟨(hW.cell (p := ⟨b1, o1 + q, none⟩) hblt1).trans hcy0, (hW.cell (p := ⟨b, o + k, none⟩) hblt).trans hcx0⟩)
          obtain ⟨hcy, hcx⟩ := HCL.out wr hbe2
          have HST := hid2 hst
          have HM2 := hid2 hm2
          have HBE2 := hid2 hbe2
          have hsz2 := hbe2.size
          have hsz1 := HBE.out.size
          have hvx : strV [x] = [.string X] := by rw [hX]; rfl
          have hvy : strV [y] = [.string Y] := by rw [hY]; rfl
          have HVX := hid2 hvx
          have HVY := hid2 hvy
          have HXE := hid2 hX
          have HYE := hid2 hY
          obtain ⟨V, hV⟩ : ∃ V, V = strV nx := ⟨_, rfl⟩
          rw [← hV] at hown2
          have HV := hid2 hV
          clear hy htq hst hcell hP hbe2 hm2 hcy0 hcx0 hX hY hV hvx hvy
          by_cases hyx : y = x
          · subst hyx
            have hXY : Y = X := by rw [HXE.out, HYE.out]
            subst hXY
            have HLQ := hid2 (fun w' : World => (run_leq w' Y Y).trans (by rw [show (Op.bytesLess Y.toList Y.toList || Y.toList == Y.toList) = true by simp]))
            clear htx hty hless
            cases d with
            | true =>
              have HS1 := hid2 (show stepI y (nx, true) y = (nx, true) by simp [stepI])
              go_wp2_with fail
              go_quiet (fail)
              go_wp2_with fail
              go_quiet (fail)
              go_wp2_with fail
              go_roundg (gk - 1)
              case rel => exact ⟨q + 1, A2, m2, c2, by omega, by go_num, by rw [HST.out, HS1.out], rfl, by rw [HST.out, HS1.out]; exact HM2.out, by rw [HST.out, HS1.out]; rw [← HV.out]; exact hown2, below_drewN HBE2.out _⟩
              case measure => omega
            | false =>
              have HS1 := hid2 (show stepI y (nx, false) y = (nx ++ [y], true) by simp [stepI, List.le_refl])
              go_wp2_with fail
              go_quiet ((rw [HLQ.out]; exact ⟨rfl, rfl⟩))
              obtain ⟨W1, hW1⟩ : ∃ W1, W1 = wr.drewN nq := ⟨_, rfl⟩
              rw [← hW1]
              have hb1 : Below wo.heap.size wo W1 := by rw [hW1]; exact below_drewN HBE2.out _
              have ho1 : Own W1 wo.heap.size 9 1 A2 m2 c2 V := by rw [hW1]; exact hown2.drewN _
              have hs1 := hb1.size
              obtain ⟨hcy1, hcx1⟩ := HCL.out W1 hb1
              clear hW1 hown2 hcy hcx
              go_wp2_with (at_builtin; have _t := ho1; go_must ((with_reducible refine wpList_append_lit 9 (.string ⟨#[]⟩) 1 16 Tryd.underlying25 info_str rfl wo.heap.size A2 (m2) c2 (V) (ho1.alloc _) 1 [.string Y] (.slice (some ⟨W1.heap.size, 0, none⟩) 1 1) (Src.slice Tryd.underlying25 (Rd.one W1 _ _)) one_str ?_ ?_ ?_ ?_ ?_); (unfold maxLen; omega); omega; (simp; omega); exact ⟨rfl, rfl⟩; intro A3 c3 w3 ho3 hgr3 hbl3; have hb3 : Below wo.heap.size wo w3 := (hb1.alloc (by omega) _).grown hgr3 (by simp; omega) (fun g e => (_t.block g e).1); obtain ⟨hcy3, hcx3⟩ := HCL.out w3 hb3; have hs3 := hb3.size; clear ho1))
              have HB3 := hid2 hb3
              have HO3 := hid2 ho3
              clear hb3 ho3
              go_quiet (fail)
              go_wp2_with fail
              go_roundg (gk - 1)
              case rel => exact ⟨q + 1, A3, m2 + 1, c3, by omega, by go_num, by rw [HST.out, HS1.out], rfl, by rw [HST.out, HS1.out]; rw [List.length_append, ← HM2.out]; rfl, by rw [HST.out, HS1.out]; rw [← strV_snoc, ← HV.out, ← HYE.out]; exact HO3.out, below_drewN HB3.out _⟩
              case measure => omega
          · have hne : ¬ Y.toList = X.toList := by rw [htx, hty]; exact hyx
            have hne2 : ¬ X.toList = Y.toList := fun e => hne e.symm
            have hneb : (!Y.toList == X.toList) = true := by simp [hne]
            cases d with
            | true =>
              have HS1 := hid2 (show stepI x (nx, true) y = (nx ++ [y], true) by simp [stepI, hyx])
              clear htx hty hless
              go_wp2_with fail
              go_quiet (fail)
              obtain ⟨W1, hW1⟩ : ∃ W1, W1 = wr.drewN nq := ⟨_, rfl⟩
              rw [← hW1]
              have hb1 : Below wo.heap.size wo W1 := by rw [hW1]; exact below_drewN HBE2.out _
              have ho1 : Own W1 wo.heap.size 9 1 A2 m2 c2 V := by rw [hW1]; exact hown2.drewN _
              have hs1 := hb1.size
              obtain ⟨hcy1, hcx1⟩ := HCL.out W1 hb1
              clear hW1 hown2 hcy hcx
              go_wp2_with fail
              go_quiet (fail)
              obtain ⟨W2, hW2⟩ : ∃ W2, W2 = W1.drewN nq := ⟨_, rfl⟩
              rw [← hW2]
              have hb2 : Below wo.heap.size wo W2 := by rw [hW2]; exact below_drewN hb1 _
              have ho2 : Own W2 wo.heap.size 9 1 A2 m2 c2 V := by rw [hW2]; exact ho1.drewN _
              have hs2 := hb2.size
              obtain ⟨hcy2, hcx2⟩ := HCL.out W2 hb2
              clear hW2 ho1 hb1 hcy1 hcx1 hs1
              go_wp2_with (at_builtin; have _t := ho2; go_must ((with_reducible refine wpList_append_lit 9 (.string ⟨#[]⟩) 1 16 Tryd.underlying25 info_str rfl wo.heap.size A2 (m2) c2 (V) (ho2.alloc _) 1 [.string Y] (.slice (some ⟨W2.heap.size, 0, none⟩) 1 1) (Src.slice Tryd.underlying25 (Rd.one W2 _ _)) one_str ?_ ?_ ?_ ?_ ?_); (unfold maxLen; omega); omega; (simp; omega); exact ⟨rfl, rfl⟩; intro A3 c3 w3 ho3 hgr3 hbl3; have hb3 : Below wo.heap.size wo w3 := (hb2.alloc (by omega) _).grown hgr3 (by simp; omega) (fun g e => (_t.block g e).1); obtain ⟨hcy3, hcx3⟩ := HCL.out w3 hb3; have hs3 := hb3.size; clear ho2))
              go_wp2_with fail
              go_roundg (gk - 1)
              case rel => exact ⟨q + 1, A3, m2 + 1, c3, by omega, by go_num, by rw [HST.out, HS1.out], rfl, by rw [HST.out, HS1.out]; rw [List.length_append, ← HM2.out]; rfl, by rw [HST.out, HS1.out]; rw [← strV_snoc, ← HV.out, ← HYE.out]; exact ho3, hb3⟩
              case measure => omega
            | false =>
              by_cases hle : x ≤ y
              · have hlt2 : x < y := tx_lt_of hle (fun e => hyx e.symm)
                have HS1 := hid2 (show stepI x (nx, false) y = (nx ++ [x] ++ [y], true) by simp [stepI, hle, hyx])
                have HLQ := hid2 (fun w' : World => (run_leq w' X Y).trans (by rw [show (Op.bytesLess X.toList Y.toList || X.toList == Y.toList) = true by rw [hless]; simp [hlt2]]))
                clear htx hty hless
                go_wp2_with fail
                go_quiet ((rw [HLQ.out]; exact ⟨rfl, rfl⟩))
                obtain ⟨W1, hW1⟩ : ∃ W1, W1 = wr.drewN nq := ⟨_, rfl⟩
                rw [← hW1]
                have hb1 : Below wo.heap.size wo W1 := by rw [hW1]; exact below_drewN HBE2.out _
                have ho1 : Own W1 wo.heap.size 9 1 A2 m2 c2 V := by rw [hW1]; exact hown2.drewN _
                have hs1 := hb1.size
                obtain ⟨hcy1, hcx1⟩ := HCL.out W1 hb1
                clear hW1 hown2 hcy hcx
                go_wp2_with (at_builtin; have _t := ho1; go_must ((with_reducible refine wpList_append_lit 9 (.string ⟨#[]⟩) 1 16 Tryd.underlying25 info_str rfl wo.heap.size A2 (m2) c2 (V) (ho1.alloc _) 1 [.string X] (.slice (some ⟨W1.heap.size, 0, none⟩) 1 1) (Src.slice Tryd.underlying25 (Rd.one W1 _ _)) one_str ?_ ?_ ?_ ?_ ?_); (unfold maxLen; omega); omega; (simp; omega); exact ⟨rfl, rfl⟩; intro A3 c3 w3 ho3 hgr3 hbl3; have hb3 : Below wo.heap.size wo w3 := (hb1.alloc (by omega) _).grown hgr3 (by simp; omega) (fun g e => (_t.block g e).1); obtain ⟨hcy3, hcx3⟩ := HCL.out w3 hb3; have hs3 := hb3.size; clear ho1))
                go_quiet (fail)
                obtain ⟨W2, hW2⟩ : ∃ W2, W2 = w3.drewN nq := ⟨_, rfl⟩
                rw [← hW2]
                have hb2 : Below wo.heap.size wo W2 := by rw [hW2]; exact below_drewN hb3 _
                have ho2 : Own W2 wo.heap.size 9 1 A3 (m2 + 1) c3 (V ++ [.string X]) := by rw [hW2]; exact ho3.drewN _
                have hs2 := hb2.size
                obtain ⟨hcy2, hcx2⟩ := HCL.out W2 hb2
                clear hW2 ho3 hb3 hcy3 hcx3 hs3
                go_wp2_with (at_builtin; have _t := ho2; go_must ((with_reducible refine wpList_append_lit 9 (.string ⟨#[]⟩) 1 16 Tryd.underlying25 info_str rfl wo.heap.size A3 (m2 + 1) c3 (V ++ [.string X]) (ho2.alloc _) 1 [.string Y] (.slice (some ⟨W2.heap.size, 0, none⟩) 1 1) (Src.slice Tryd.underlying25 (Rd.one W2 _ _)) one_str ?_ ?_ ?_ ?_ ?_); (unfold maxLen; omega); omega; (simp; omega); exact ⟨rfl, rfl⟩; intro A4 c4 w4 ho4 hgr4 hbl4; have hb4 : Below wo.heap.size wo w4 := (hb2.alloc (by omega) _).grown hgr4 (by simp; omega) (fun g e => (_t.block g e).1); obtain ⟨hcy4, hcx4⟩ := HCL.out w4 hb4; have hs4 := hb4.size; clear ho2))
                go_wp2_with fail
                go_roundg (gk - 1)
                case rel => exact ⟨q + 1, A4, m2 + 1 + 1, c4, by omega, by go_num, by rw [HST.out, HS1.out], rfl, by rw [HST.out, HS1.out]; rw [List.length_append, List.length_append, ← HM2.out]; rfl, by rw [HST.out, HS1.out]; rw [← strV_snoc, ← strV_snoc, ← HV.out, ← HYE.out, ← HXE.out]; exact ho4, hb4⟩
                case measure => omega
              · have hlt2 : ¬ x < y := fun h => hle (List.le_of_lt h)
                have HS1 := hid2 (show stepI x (nx, false) y = (nx ++ [y], false) by simp [stepI, hle, hyx])
                have HLQ := hid2 (fun w' : World => (run_leq w' X Y).trans (by rw [show (Op.bytesLess X.toList Y.toList || X.toList == Y.toList) = false by rw [hless]; simp [hlt2, hne2]]))
                clear htx hty hless
                go_wp2_with fail
                go_quiet ((rw [HLQ.out]; exact ⟨rfl, rfl⟩))
                obtain ⟨W1, hW1⟩ : ∃ W1, W1 = wr.drewN nq := ⟨_, rfl⟩
                rw [← hW1]
                have hb1 : Below wo.heap.size wo W1 := by rw [hW1]; exact below_drewN HBE2.out _
                have ho1 : Own W1 wo.heap.size 9 1 A2 m2 c2 V := by rw [hW1]; exact hown2.drewN _
                have hs1 := hb1.size
                obtain ⟨hcy1, hcx1⟩ := HCL.out W1 hb1
                clear hW1 hown2 hcy hcx
                go_wp2_with fail
                go_quiet (fail)
                obtain ⟨W2, hW2⟩ : ∃ W2, W2 = W1.drewN nq := ⟨_, rfl⟩
                rw [← hW2]
                have hb2 : Below wo.heap.size wo W2 := by rw [hW2]; exact below_drewN hb1 _
                have ho2 : Own W2 wo.heap.size 9 1 A2 m2 c2 V := by rw [hW2]; exact ho1.drewN _
                have hs2 := hb2.size
                obtain ⟨hcy2, hcx2⟩ := HCL.out W2 hb2
                clear hW2 ho1 hb1 hcy1 hcx1 hs1
                go_wp2_with (at_builtin; have _t := ho2; go_must ((with_reducible refine wpList_append_lit 9 (.string ⟨#[]⟩) 1 16 Tryd.underlying25 info_str rfl wo.heap.size A2 (m2) c2 (V) (ho2.alloc _) 1 [.string Y] (.slice (some ⟨W2.heap.size, 0, none⟩) 1 1) (Src.slice Tryd.underlying25 (Rd.one W2 _ _)) one_str ?_ ?_ ?_ ?_ ?_); (unfold maxLen; omega); omega; (simp; omega); exact ⟨rfl, rfl⟩; intro A3 c3 w3 ho3 hgr3 hbl3; have hb3 : Below wo.heap.size wo w3 := (hb2.alloc (by omega) _).grown hgr3 (by simp; omega) (fun g e => (_t.block g e).1); obtain ⟨hcy3, hcx3⟩ := HCL.out w3 hb3; have hs3 := hb3.size; clear ho2))
                go_wp2_with fail
                go_roundg (gk - 1)
                case rel => exact ⟨q + 1, A3, m2 + 1, c3, by omega, by go_num, by rw [HST.out, HS1.out], rfl, by rw [HST.out, HS1.out]; rw [List.length_append, ← HM2.out]; rfl, by rw [HST.out, HS1.out]; rw [← strV_snoc, ← HV.out, ← HYE.out]; exact ho3, hb3⟩
                case measure => omega
        · have hqm : q = m := by omega
          have hqi : ¬ (q : Int) < m := by omega
          have htq : S.take q = S := by rw [hqm, HM.out, List.take_length]
          rw [htq] at hm2 hown2 ⊢
          have hsx := HSET.out
          rw [insS] at hsx
          have hlen2 : m2 ≤ 2000 := by
            rw [hm2]
            have := stepsI_len x S _ rfl
            rw [← HM.out] at this
            omega
          obtain ⟨P, hP⟩ : ∃ P, P = stepsI x S := ⟨_, rfl⟩
          rw [← hP] at hsx hm2 hown2 ⊢
          obtain ⟨nx, d⟩ := P
          simp only at hm2 hown2 hsx ⊢
          have HSX := hid2 hsx
          have HM2 := hid2 hm2
          have HBE2 := hid2 hbe2
          have hsz2 := hbe2.size
          have hsz1 := HBE.out.size
          obtain ⟨X, hX⟩ : ∃ X, X = strB x := ⟨_, rfl⟩
          have hcx : wr.cell? ⟨b, o + k, none⟩ = some (.string X) := by rw [hX]; exact (hbe2.cell (p := ⟨b, o + k, none⟩) hblt).trans HCX.out
          have HXE := hid2 hX
          obtain ⟨V, hV⟩ : ∃ V, V = strV nx := ⟨_, rfl⟩
          rw [← hV] at hown2
          have HV := hid2 hV
          clear hP htq hsx hm2 hbe2 hX hV hqm hql
          cases d with
          | true =>
            have HS1 := hid2 (show refSet (l.take (k + 1)) = nx by rw [HSX.out]; simp)
            go_wp2_with fail
            go_roundg (go - 1)
            case rel => exact ⟨k + 1, A2, m2, c2, by omega, by go_num, rfl, by rw [HS1.out]; exact HM2.out, by rw [HS1.out, ← HV.out]; exact hown2.mono hsz1, HBE.out.trans (HBE2.out.mono hsz1)⟩
            case measure => omega
          | false =>
            have HS1 := hid2 (show refSet (l.take (k + 1)) = nx ++ [x] by rw [HSX.out]; simp)
            go_wp2_with (at_builtin; have _t := hown2; go_must ((with_reducible refine wpList_append_lit 9 (.string ⟨#[]⟩) 1 16 Tryd.underlying25 info_str rfl wo.heap.size A2 m2 c2 V (hown2.alloc _) 1 [.string X] (.slice (some ⟨wr.heap.size, 0, none⟩) 1 1) (Src.slice Tryd.underlying25 (Rd.one wr _ _)) one_str ?_ ?_ ?_ ?_ ?_); (unfold maxLen; omega); omega; (simp; omega); exact ⟨rfl, rfl⟩; intro A3 c3 w3 hown3 hgr3 hbl3; clear hown2; have hb3 : Below wo.heap.size wo w3 := (HBE2.out.alloc (by omega) _).grown hgr3 (by simp; omega) (fun g e => (_t.block g e).1)))
            go_roundg (go - 1)
            case rel => exact ⟨k + 1, A3, m2 + 1, c3, by omega, by go_num, rfl, by rw [HS1.out, List.length_append, ← HM2.out]; rfl, by rw [HS1.out, ← strV_snoc, ← HV.out, ← HXE.out]; exact hown3.mono hsz1, HBE.out.trans (hb3.mono hsz1)⟩
            case measure => omega
    · have hkn : k = n := by omega
      have hkl : ¬ (k : Int) < n := by omega
      have htl : l.take k = l := by rw [hkn, HN.out, List.take_length]
      rw [htl, refSet_eq] at hm hown
      go_wp2_with fail
      go_ret
      exact ⟨A1, c1, rfl, by first | exact hown | (rw [← hm]; exact hown), hbe⟩
end Go.Proofs.YtjmfmlkjippiaaaDoor
