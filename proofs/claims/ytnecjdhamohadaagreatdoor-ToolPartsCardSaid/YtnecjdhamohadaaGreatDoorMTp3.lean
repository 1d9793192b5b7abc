/- The law ToolParts: how many paths were asked for; what was not asked for ahead. -/
import Derived.Test.YtnecjdhamohadaaGreatDoorMTp2
set_option linter.unusedSimpArgs false
set_option linter.unusedVariables false
namespace Go.Proofs.YtnecjdhamohadaaGreatDoor
open Go.RowKit Go.Maps Go.Shelf
set_option maxRecDepth 100000
section
variable {P : Program} {ops : Array Oper} {T : Array Value} {D : List Deferred} {o og : Oper} {w : World} {K : Act → World → Prop} {Q : Exit → Act → World → Prop} {E : Prop}
/-- a guard that hangs on what was not wanted -/
theorem grd_undef {g : Nat} {b : Bool} {dg : Tmp} {F : Prop} (hg : o.guard = some (g, b)) (ho : ops[g]? = some og) (hd : og.dst = some dg) (hv : T[dg]? = some undef) (h : E) :
    if Region.wanted o (yielded ops T) = true then F else E := by
  rw [if_neg (by simp [Region.wanted, hg, yielded, ho, hd, hv, undef])]; exact h
end
set_option maxHeartbeats 4000000 in
theorem reading_any (w : World) (A : Option Addr) (c : Nat) (l : List DE) (hl : l.length ≤ 1000000) (hr : Rd w 4 A l.length (doVs l)) :
    Calls Tryz.prog 21 #[.slice A l.length c] w fun e w' => e = .returned (.int .i64 (readsOf l).length) ∧ Below w.heap.size w w' := by
  obtain ⟨n, hn⟩ : ∃ n, n = l.length := ⟨_, rfl⟩
  rw [← hn] at hr hl ⊢
  have HR := hid2 hr
  have HN := hid2 hn
  have hlim : (n : Int) ≤ 1000000 := by omega
  clear hr hn
  go_enter Tryz.func21, Tryz.ntmps21
  go_wp2_with fail
  go_loopg [3, 4] n (fun gk nv iv wr => wr = w ∧ ∃ (i m : Nat), i + gk = n ∧ m ≤ i ∧ iv = .int .i64 i ∧ nv = .int .i64 m ∧ m = (readsOf (l.take i)).length)
  case atStart => exact ⟨rfl, 0, 0, by omega, Nat.le_refl _, rfl, rfl, rfl⟩
  case round =>
    obtain ⟨rfl, i, m, hi, hmi, rfl, rfl, hm⟩ := hrel
    by_cases hlt : i < n
    · have hil : (i : Int) < n := by omega
      have hi0 : (0 : Int) ≤ i := by omega
      obtain ⟨x, hx⟩ : ∃ x, l[i]? = some x := ⟨_, List.getElem?_eq_getElem (by rw [← HN.out]; exact hlt)⟩
      obtain ⟨b, o, rfl, hcell⟩ := HR.out.2 (by omega)
      have h0 : wr.cell? ⟨b, o + i * 4, none⟩ = some (.int .i64 x.kind) := hcell _ _ (doVs_get hx).1
      have htk : l.take (i + 1) = l.take i ++ [x] := by rw [List.take_add_one, hx]; rfl
      have hmm : (m : Int) ≤ i := by omega
      by_cases hk : x.kind = 1
      · have hm2 : m + 1 = (readsOf (l.take (i + 1))).length := by
          rw [htk, readsOf_append, List.length_append, ← hm]
          unfold readsOf
          simp [hk]
        rw [hk] at h0
        have HM2 := hid2 hm2
        have HI := hid2 hi
        clear hx hcell htk hk hm hm2 hi hmi
        go_wp2_with fail
        go_roundg (gk - 1)
        case rel => exact ⟨rfl, i + 1, m + 1, by have := HI.out; omega, by omega, by go_num, by go_num, HM2.out⟩
        case measure => have := HI.out; omega
      · have hm2 : m = (readsOf (l.take (i + 1))).length := by rw [htk, readsOf_snoc hk]; exact hm
        obtain ⟨kd, hkd⟩ : ∃ kd : Int, kd = x.kind := ⟨_, rfl⟩
        have hkn : ¬ kd = 1 := by omega
        have hkb : (kd == 1) = false := by rw [beq_eq_false_iff_ne]; exact hkn
        rw [← hkd] at h0
        have HM2 := hid2 hm2
        have HI := hid2 hi
        clear hx hcell htk hk hm hm2 hi hkd hmi
        go_wp2_with fail
        go_roundg (gk - 1)
        case rel => exact ⟨rfl, i + 1, m, by have := HI.out; omega, by omega, by go_num, rfl, HM2.out⟩
        case measure => have := HI.out; omega
    · have hil : ¬ (i : Int) < n := by omega
      have hin : i = n := by omega
      have hm2 : m = (readsOf l).length := by rw [hm, List.take_of_length_le (by rw [hin, HN.out]; exact Nat.le_refl _)]
      have HM2 := hid2 hm2
      clear hm hi hin hm2
      go_wp2_with fail
      refine bodyPost_ret (results_tmp rfl _ _ _) rfl ?_
      exact ⟨by rw [← HM2.out]; rfl, Below.refl _ _⟩
theorem same_ifs (y x : DE) (k2 wz wy : Int) (P2 P0 D2 D0 : ByteArray) (h1 : k2 = y.kind) (h2 : x.kind = 1) (h3 : P2 = strB y.path) (h4 : P0 = strB x.path) (h5 : D2 = strB y.data) (h6 : D0 = strB x.data) (h7 : wz = y.why) (h8 : wy = x.why) (w2 : World) :
    (if k2 = 1 then if P2.toList = P0.toList then if D2.toList = D0.toList then if wz = wy then Result.ok (Next.value (Value.bool true)) w2 else Result.ok (Next.value (Value.bool false)) w2 else Result.ok (Next.value (Value.bool false)) w2 else Result.ok (Next.value (Value.bool false)) w2 else Result.ok (Next.value (Value.bool false)) w2) = Result.ok (Next.value (Value.bool (sameD y x))) w2 := by
  obtain ⟨k, p, d, q⟩ := y
  obtain ⟨k', p', d', q'⟩ := x
  simp only at h1 h2 h3 h4 h5 h6 h7 h8
  subst h2
  rw [h3, h4, h5, h6, toList_strBT, toList_strBT, toList_strBT, toList_strBT]
  unfold sameD
  simp only
  by_cases a1 : k = 1
  · rw [if_pos (by omega)]
    by_cases a2 : p = p'
    · rw [if_pos a2]
      by_cases a3 : d = d'
      · rw [if_pos a3]
        by_cases a4 : q = q'
        · rw [if_pos (by omega)]
          simp [a1, a2, a3, a4]
        · rw [if_neg (by omega)]
          simp [a1, a2, a3, a4]
      · rw [if_neg a3]
        simp [a1, a2, a3]
    · rw [if_neg a2]
      simp [a1, a2]
  · rw [if_neg (by omega)]
    simp [a1]
/-- was it read ahead? -/
def hadD (X : List DE) (d : DE) : Bool := d.kind == 1 && X.any fun x => sameD x d
theorem keepD_eq (X : List DE) (d : DE) : keepD X d = !(hadD X d) := rfl
theorem hadD_snoc (X : List DE) (x d : DE) : hadD (X ++ [x]) d = (hadD X d || (d.kind == 1 && sameD x d)) := by
  unfold hadD
  rw [List.any_append]
  cases d.kind == 1 <;> simp
set_option maxHeartbeats 16000000 in
theorem without_any (w : World) (A B : Option Addr) (c d : Nat) (l X : List DE) (hl : l.length ≤ 1000000) (hx : X.length ≤ 1000000) (hfl : ∀ x ∈ l, FitDo x) (hfx : ∀ x ∈ X, FitDo x) (ha : Rd w 4 A l.length (doVs l)) (hb : Rd w 4 B X.length (doVs X)) :
    Calls Tryz.prog 22 #[.slice A l.length c, .slice B X.length d] w fun e w' => ∃ A' c', e = .returned (.slice A' (l.filter (keepD X)).length c') ∧ Own w' w.heap.size 35 4 A' (l.filter (keepD X)).length c' (doVs (l.filter (keepD X))) ∧ Below w.heap.size w w' := by
  obtain ⟨n, hn⟩ : ∃ n, n = l.length := ⟨_, rfl⟩
  obtain ⟨m, hm⟩ : ∃ m, m = X.length := ⟨_, rfl⟩
  obtain ⟨PQ, hPQ⟩ : ∃ PQ : Ending → World → Prop, PQ = fun e w' => ∃ A' c', e = .returned (.slice A' (l.filter (keepD X)).length c') ∧ Own w' w.heap.size 35 4 A' (l.filter (keepD X)).length c' (doVs (l.filter (keepD X))) ∧ Below w.heap.size w w' := ⟨_, rfl⟩
  rw [← hn] at ha hl ⊢
  rw [← hm] at hb hx ⊢
  rw [← hPQ]
  have HA := hid2 ha
  have HB := hid2 hb
  have HN := hid2 hn
  have HM := hid2 hm
  have HFL := hid2 hfl
  have HFX := hid2 hfx
  have HPQ := hid2 hPQ
  have hlim : (n : Int) ≤ 1000000 := by omega
  have hlim2 : (m : Int) ≤ 1000000 := by omega
  clear ha hb hn hm hfl hfx hPQ
  go_enter Tryz.func22, Tryz.ntmps22
  go_wp2_with fail
  go_loopg [5, 6] n (fun gk ov iv wr => Below w.heap.size w wr ∧ ∃ (i q : Nat) (AO : Option Addr) (co : Nat), i + gk = n ∧ iv = .int .i64 i ∧ ov = .slice AO q co ∧ q = ((l.take i).filter (keepD X)).length ∧ Own wr w.heap.size 35 4 AO q co (doVs ((l.take i).filter (keepD X))))
  case atStart => exact ⟨Below.refl _ _, 0, 0, none, 0, by omega, rfl, rfl, rfl, Own.nil _ _ _ _⟩
  case round =>
    obtain ⟨hbe, i, q, AO, co, hi, rfl, rfl, hq, hown⟩ := hrel
    have HBE := hid2 hbe
    have HI := hid2 hi
    have HQ := hid2 hq
    by_cases hlt : i < n
    · have hil : (i : Int) < n := by omega
      have hi0 : (0 : Int) ≤ i := by omega
      have hqi : q ≤ i := by
        rw [hq]
        refine Nat.le_trans (List.length_filter_le _ _) ?_
        rw [List.length_take]
        omega
      obtain ⟨x, hx⟩ : ∃ x, l[i]? = some x := ⟨_, List.getElem?_eq_getElem (by rw [← HN.out]; exact hlt)⟩
      have htk : l.take (i + 1) = l.take i ++ [x] := by rw [List.take_add_one, hx]; rfl
      have hfx := HFL.out x (List.mem_of_getElem? hx)
      obtain ⟨b1, o1, rfl, hc1⟩ := (HA.out.below_all hbe).2 (by omega)
      obtain ⟨kd, hkd⟩ : ∃ kd : Int, kd = x.kind := ⟨_, rfl⟩
      obtain ⟨P0, hP0⟩ : ∃ y, y = strB x.path := ⟨_, rfl⟩
      obtain ⟨D0, hD0⟩ : ∃ y, y = strB x.data := ⟨_, rfl⟩
      obtain ⟨wy, hwy⟩ : ∃ y : Int, y = x.why := ⟨_, rfl⟩
      have hval : doA x = .agg #[.int .i64 kd, .string P0, .string D0, .int .i64 wy] := by rw [hkd, hP0, hD0, hwy]; rfl
      have hdoc : doC x = [.int .i64 kd, .string P0, .string D0, .int .i64 wy] := by rw [hkd, hP0, hD0, hwy]; rfl
      obtain ⟨g0, g1, g2, g3⟩ := doVs_get hx
      rw [← hkd] at g0
      rw [← hP0] at g1
      rw [← hD0] at g2
      rw [← hwy] at g3
      have k1 := World.block_lt_of_cell? _ _ (hc1 _ _ g0)
      have HC1 := hid2 (show ∀ w2, Below wr.heap.size wr w2 → w2.cell? ⟨b1, o1 + i * 4, none⟩ = some (.int .i64 kd) ∧ w2.cell? ⟨b1, o1 + i * 4 + 1, none⟩ = some (.string P0) ∧ w2.cell? ⟨b1, o1 + i * 4 + 2, none⟩ = some (.string D0) ∧ w2.cell? ⟨b1, o1 + i * 4 + 3, none⟩ = some (.int .i64 wy) from fun w2 hb => by
        have c1 : ∀ j u, (doVs l)[j]? = some u → w2.cell? ⟨b1, o1 + j, none⟩ = some u := fun j u hu => (hb.cell (p := ⟨b1, o1 + j, none⟩) k1).trans (hc1 j u hu)
        exact ⟨c1 _ _ g0, c1 _ _ g1, c1 _ _ g2, c1 _ _ g3⟩)
      have HX := hid2 hx
      have HTK := hid2 htk
      have HFD := hid2 hfx
      have HKD := hid2 hkd
      have HPP := hid2 hP0
      have HDD := hid2 hD0
      have HWY := hid2 hwy
      have HVAL := hid2 hval
      have HDOC := hid2 hdoc
      have HOW := hid2 hown
      have HQI := hid2 hqi
      obtain ⟨gz, hgz⟩ : ∃ g0, g0 = gk := ⟨_, rfl⟩
      have HG0 := hid2 hgz
      clear hx htk hfx hc1 hkd hP0 hD0 hwy hval hdoc g0 g1 g2 g3 k1 hbe hi hq hown hqi hgz
      go_wp2_with fail
      go_loopg [7, 8] m (fun gj hv kv wq => Below wr.heap.size wr wq ∧ ∃ (k : Nat) (had : Bool), k + gj = m ∧ kv = .int .i64 k ∧ hv = .bool had ∧ had = hadD (X.take k) x)
      case atStart => exact ⟨Below.refl _ _, 0, false, by omega, rfl, rfl, by unfold hadD; simp⟩
      case round =>
        obtain ⟨hbq, k, had, hk, rfl, rfl, hh⟩ := hrel
        have HBQ := hid2 hbq
        have HK := hid2 hk
        by_cases hkl : k < m
        · have hki : (k : Int) < m := by omega
          have hk0 : (0 : Int) ≤ k := by omega
          obtain ⟨y, hy⟩ : ∃ y, X[k]? = some y := ⟨_, List.getElem?_eq_getElem (by rw [← HM.out]; exact hkl)⟩
          have hty : X.take (k + 1) = X.take k ++ [y] := by rw [List.take_add_one, hy]; rfl
          have hnx : hadD (X.take (k + 1)) x = (had || (x.kind == 1 && sameD y x)) := by rw [hty, hadD_snoc, ← hh]
          cases had with
          | true =>
            have HNX := hid2 (show true = hadD (X.take (k + 1)) x from by rw [hnx]; rfl)
            clear hbq hk hy hty hnx hh
            go_wp2_with fail
            refine wp_region_grd 20 (by kernel_rfl) (by kernel_rfl) (by kernel_rfl) _ rfl (by kernel_rfl) (VV [some (.bool true), some (.bool true), some (undef), some (undef), some (undef), some (undef), some (undef), some (undef), some (undef), some (undef), some (undef), some (undef), some (undef), some (undef), some (undef), some (undef), some (undef), some (undef), some (undef), some (.bool true)] (fun _ _ _ => False)) (fun w2 => Below wr.heap.size wr w2) (fun a b => Below a.heap.size a b) ((Below.refl _ wr).drew) (fun j v w1 w2 hb hv => VV.keep (fun h => h.elim) hv) ?_ ?_
            · refine of_allOps ⟨?_, ?_, ?_, ?_, ?_, ?_, ?_, ?_, ?_, ?_, ?_, ?_, ?_, ?_, ?_, ?_, ?_, ?_, ?_, ?_, trivial⟩
              · intro T2 w2 hM hN hO hE K hK
                have o7 : T2[7]? = some (.bool true) := hO 7 rfl
                clear hE hO hN
                refine step_plain0 rfl ?_
                go_simp
                exact hK _ _ rfl hM (Below.refl _ _)
              · intro T2 w2 hM hN hO hE K hK
                obtain ⟨v0, h0, e0⟩ := hE ⟨0, .data⟩ (by simp) rfl _ _ rfl rfl
                rw [show v0 = .bool true from e0] at h0
                clear hE hO hN
                refine step_plain0 rfl ?_
                go_simp
                exact hK _ _ rfl hM (Below.refl _ _)
              · intro T2 w2 hM hN hO hE K hK
                obtain ⟨v1, h1, e1⟩ := hE ⟨1, .guard⟩ (by simp) rfl _ _ rfl rfl
                rw [show v1 = .bool true from e1] at h1
                clear hE hO hN
                refine grd_not rfl rfl rfl h1 (by decide) ?_
                exact hK _ _ rfl hM (Below.refl _ _)
              · intro T2 w2 hM hN hO hE K hK
                obtain ⟨v1, h1, e1⟩ := hE ⟨1, .guard⟩ (by simp) rfl _ _ rfl rfl
                rw [show v1 = .bool true from e1] at h1
                clear hE hO hN
                refine grd_not rfl rfl rfl h1 (by decide) ?_
                exact hK _ _ rfl hM (Below.refl _ _)
              · intro T2 w2 hM hN hO hE K hK
                obtain ⟨v1, h1, e1⟩ := hE ⟨1, .guard⟩ (by simp) rfl _ _ rfl rfl
                rw [show v1 = .bool true from e1] at h1
                clear hE hO hN
                refine grd_not rfl rfl rfl h1 (by decide) ?_
                exact hK _ _ rfl hM (Below.refl _ _)
              · intro T2 w2 hM hN hO hE K hK
                obtain ⟨v1, h1, e1⟩ := hE ⟨1, .guard⟩ (by simp) rfl _ _ rfl rfl
                rw [show v1 = .bool true from e1] at h1
                clear hE hO hN
                refine grd_not rfl rfl rfl h1 (by decide) ?_
                exact hK _ _ rfl hM (Below.refl _ _)
              · intro T2 w2 hM hN hO hE K hK
                obtain ⟨v1, h1, e1⟩ := hE ⟨1, .guard⟩ (by simp) rfl _ _ rfl rfl
                rw [show v1 = .bool true from e1] at h1
                clear hE hO hN
                refine grd_not rfl rfl rfl h1 (by decide) ?_
                exact hK _ _ rfl hM (Below.refl _ _)
              · intro T2 w2 hM hN hO hE K hK
                obtain ⟨v1, h1, e1⟩ := hE ⟨1, .guard⟩ (by simp) rfl _ _ rfl rfl
                rw [show v1 = .bool true from e1] at h1
                clear hE hO hN
                refine grd_not rfl rfl rfl h1 (by decide) ?_
                exact hK _ _ rfl hM (Below.refl _ _)
              · intro T2 w2 hM hN hO hE K hK
                obtain ⟨v1, h1, e1⟩ := hE ⟨1, .guard⟩ (by simp) rfl _ _ rfl rfl
                rw [show v1 = .bool true from e1] at h1
                clear hE hO hN
                refine grd_not rfl rfl rfl h1 (by decide) ?_
                exact hK _ _ rfl hM (Below.refl _ _)
              · intro T2 w2 hM hN hO hE K hK
                obtain ⟨v8, h8, e8⟩ := hE ⟨8, .guard⟩ (by simp) rfl _ _ rfl rfl
                rw [show v8 = undef from e8] at h8
                clear hE hO hN
                refine grd_undef rfl rfl rfl h8 ?_
                exact hK _ _ rfl hM (Below.refl _ _)
              · intro T2 w2 hM hN hO hE K hK
                obtain ⟨v8, h8, e8⟩ := hE ⟨8, .guard⟩ (by simp) rfl _ _ rfl rfl
                rw [show v8 = undef from e8] at h8
                clear hE hO hN
                refine grd_undef rfl rfl rfl h8 ?_
                exact hK _ _ rfl hM (Below.refl _ _)
              · intro T2 w2 hM hN hO hE K hK
                obtain ⟨v8, h8, e8⟩ := hE ⟨8, .guard⟩ (by simp) rfl _ _ rfl rfl
                rw [show v8 = undef from e8] at h8
                clear hE hO hN
                refine grd_undef rfl rfl rfl h8 ?_
                exact hK _ _ rfl hM (Below.refl _ _)
              · intro T2 w2 hM hN hO hE K hK
                obtain ⟨v8, h8, e8⟩ := hE ⟨8, .guard⟩ (by simp) rfl _ _ rfl rfl
                rw [show v8 = undef from e8] at h8
                clear hE hO hN
                refine grd_undef rfl rfl rfl h8 ?_
                exact hK _ _ rfl hM (Below.refl _ _)
              · intro T2 w2 hM hN hO hE K hK
                obtain ⟨v8, h8, e8⟩ := hE ⟨8, .guard⟩ (by simp) rfl _ _ rfl rfl
                rw [show v8 = undef from e8] at h8
                clear hE hO hN
                refine grd_undef rfl rfl rfl h8 ?_
                exact hK _ _ rfl hM (Below.refl _ _)
              · intro T2 w2 hM hN hO hE K hK
                obtain ⟨v8, h8, e8⟩ := hE ⟨8, .guard⟩ (by simp) rfl _ _ rfl rfl
                rw [show v8 = undef from e8] at h8
                clear hE hO hN
                refine grd_undef rfl rfl rfl h8 ?_
                exact hK _ _ rfl hM (Below.refl _ _)
              · intro T2 w2 hM hN hO hE K hK
                obtain ⟨v8, h8, e8⟩ := hE ⟨8, .guard⟩ (by simp) rfl _ _ rfl rfl
                rw [show v8 = undef from e8] at h8
                clear hE hO hN
                refine grd_undef rfl rfl rfl h8 ?_
                exact hK _ _ rfl hM (Below.refl _ _)
              · intro T2 w2 hM hN hO hE K hK
                obtain ⟨v8, h8, e8⟩ := hE ⟨8, .guard⟩ (by simp) rfl _ _ rfl rfl
                rw [show v8 = undef from e8] at h8
                clear hE hO hN
                refine grd_undef rfl rfl rfl h8 ?_
                exact hK _ _ rfl hM (Below.refl _ _)
              · intro T2 w2 hM hN hO hE K hK
                obtain ⟨v8, h8, e8⟩ := hE ⟨8, .guard⟩ (by simp) rfl _ _ rfl rfl
                rw [show v8 = undef from e8] at h8
                clear hE hO hN
                refine grd_undef rfl rfl rfl h8 ?_
                exact hK _ _ rfl hM (Below.refl _ _)
              · intro T2 w2 hM hN hO hE K hK
                obtain ⟨v1, h1, e1⟩ := hE ⟨1, .guard⟩ (by simp) rfl _ _ rfl rfl
                rw [show v1 = .bool true from e1] at h1
                clear hE hO hN
                refine grd_not rfl rfl rfl h1 (by decide) ?_
                exact hK _ _ rfl hM (Below.refl _ _)
              · intro T2 w2 hM hN hO hE K hK
                obtain ⟨v1, h1, e1⟩ := hE ⟨1, .data⟩ (by simp) rfl _ _ rfl rfl
                rw [show v1 = .bool true from e1] at h1
                obtain ⟨v18, h18, e18⟩ := hE ⟨18, .data⟩ (by simp) rfl _ _ rfl rfl
                rw [show v18 = undef from e18] at h18
                clear hE hO hN
                refine step_plain0 rfl ?_
                go_simp
                exact hK _ _ rfl hM (Below.refl _ _)
            · intro u w2 hM hF
              have e19 : u 19 = .bool true := hF 19 (by omega)
              clear hF
              simp only [fillAll, Nat.reduceAdd, e19, List.take_succ_cons, List.take_zero, List.drop_succ_cons, List.drop_zero, List.setIfInBounds_toArray, List.set_cons_succ, List.set_cons_zero]
              have HBF := hid2 (HBQ.out.trans (hM.mono HBQ.out.size))
              clear hM
              go_wp2_with fail
              go_roundg (gk - 1)
              case rel => exact ⟨HBF.out, k + 1, true, by have := HK.out; omega, by go_num, rfl, HNX.out⟩
              case measure => have := HK.out; omega
          | false =>
            by_cases hk1 : kd = 1
            · have hfy := HFX.out y (List.mem_of_getElem? hy)
              have hbw := HBE.out.trans (hbq.mono HBE.out.size)
              obtain ⟨b2, o2, rfl, hc2⟩ := (HB.out.below_all hbw).2 (by omega)
              obtain ⟨k2, hk2⟩ : ∃ kd : Int, kd = y.kind := ⟨_, rfl⟩
              obtain ⟨P2, hP2⟩ : ∃ z, z = strB y.path := ⟨_, rfl⟩
              obtain ⟨D2, hD2⟩ : ∃ z, z = strB y.data := ⟨_, rfl⟩
              obtain ⟨wz, hwz⟩ : ∃ z : Int, z = y.why := ⟨_, rfl⟩
              have hval2 : doA y = .agg #[.int .i64 k2, .string P2, .string D2, .int .i64 wz] := by rw [hk2, hP2, hD2, hwz]; rfl
              obtain ⟨f0, f1, f2, f3⟩ := doVs_get hy
              rw [← hk2] at f0
              rw [← hP2] at f1
              rw [← hD2] at f2
              rw [← hwz] at f3
              have l1 := World.block_lt_of_cell? _ _ (hc2 _ _ f0)
              have HC2 := hid2 (show ∀ w2, Below wr.heap.size wr w2 → w2.cell? ⟨b2, o2 + k * 4, none⟩ = some (.int .i64 k2) ∧ w2.cell? ⟨b2, o2 + k * 4 + 1, none⟩ = some (.string P2) ∧ w2.cell? ⟨b2, o2 + k * 4 + 2, none⟩ = some (.string D2) ∧ w2.cell? ⟨b2, o2 + k * 4 + 3, none⟩ = some (.int .i64 wz) from fun w2 hb => by
                have c1 : ∀ j u, (doVs X)[j]? = some u → w2.cell? ⟨b2, o2 + j, none⟩ = some u := fun j u hu => (hb.cell (p := ⟨b2, o2 + j, none⟩) l1).trans (hc2 j u hu)
                exact ⟨c1 _ _ f0, c1 _ _ f1, c1 _ _ f2, c1 _ _ f3⟩)
              obtain ⟨sm, hsm⟩ : ∃ s, s = sameD y x := ⟨_, rfl⟩
              have HEQ := hid2 (fun (w2 : World) => same_ifs y x k2 wz wy P2 P0 D2 D0 hk2 (by have := HKD.out; omega) hP2 HPP.out hD2 HDD.out hwz HWY.out w2)
              rw [← hsm] at HEQ
              have HNX := hid2 (show sm = hadD (X.take (k + 1)) x from by
                have : x.kind = 1 := by have := HKD.out; omega
                rw [hnx, this, hsm]
                rfl)
              subst hk1
              clear hk hy hty hnx hh hfy hbw hc2 hk2 hP2 hD2 hwz hval2 f0 f1 f2 f3 l1 hsm
              go_wp2_with fail
              refine wp_region_grd 20 (by kernel_rfl) (by kernel_rfl) (by kernel_rfl) _ rfl (by kernel_rfl) (VV [some (.bool false), some (.bool false), some (.slice (some ⟨b1, o1, none⟩) n c), some (.int .i64 i), some (.pointer (some ⟨b1, o1 + i * 4, none⟩)), some (.pointer (some ⟨b1, o1 + i * 4, none⟩)), some (.int .i64 1), some (.bool true), some (.bool true), some (.slice (some ⟨b2, o2, none⟩) m d), some (.int .i64 k), some (.pointer (some ⟨b2, o2 + k * 4, none⟩)), some (.agg #[.int .i64 k2, .string P2, .string D2, .int .i64 wz]), some (.slice (some ⟨b1, o1, none⟩) n c), some (.int .i64 i), some (.pointer (some ⟨b1, o1 + i * 4, none⟩)), some (.agg #[.int .i64 1, .string P0, .string D0, .int .i64 wy]), some (.bool sm), some (.bool sm), some (.bool sm)] (fun _ _ _ => False)) (fun w2 => Below wr.heap.size wr w2) (fun a b => Below a.heap.size a b) ((Below.refl _ wr).drew) (fun j v w1 w2 hb hv => VV.keep (fun h => h.elim) hv) ?_ ?_
              · refine of_allOps ⟨?_, ?_, ?_, ?_, ?_, ?_, ?_, ?_, ?_, ?_, ?_, ?_, ?_, ?_, ?_, ?_, ?_, ?_, ?_, ?_, trivial⟩
                · intro T2 w2 hM hN hO hE K hK
                  have o7 : T2[7]? = some (.bool false) := hO 7 rfl
                  clear hE hO hN
                  refine step_plain0 rfl ?_
                  go_simp
                  exact hK _ _ rfl hM (Below.refl _ _)
                · intro T2 w2 hM hN hO hE K hK
                  obtain ⟨v0, h0, e0⟩ := hE ⟨0, .data⟩ (by simp) rfl _ _ rfl rfl
                  rw [show v0 = .bool false from e0] at h0
                  clear hE hO hN
                  refine step_plain0 rfl ?_
                  go_simp
                  exact hK _ _ rfl hM (Below.refl _ _)
                · intro T2 w2 hM hN hO hE K hK
                  have o0 : T2[0]? = some (.slice (some ⟨b1, o1, none⟩) n c) := hO 0 rfl
                  obtain ⟨v1, h1, e1⟩ := hE ⟨1, .guard⟩ (by simp) rfl _ _ rfl rfl
                  rw [show v1 = .bool false from e1] at h1
                  clear hE hO hN
                  refine grd_met rfl rfl rfl h1 ?_
                  go_simp
                  exact hK _ _ rfl hM (Below.refl _ _)
                · intro T2 w2 hM hN hO hE K hK
                  have o6 : T2[6]? = some (.int .i64 i) := hO 6 rfl
                  obtain ⟨v1, h1, e1⟩ := hE ⟨1, .guard⟩ (by simp) rfl _ _ rfl rfl
                  rw [show v1 = .bool false from e1] at h1
                  clear hE hO hN
                  refine grd_met rfl rfl rfl h1 ?_
                  go_simp
                  exact hK _ _ rfl hM (Below.refl _ _)
                · intro T2 w2 hM hN hO hE K hK
                  obtain ⟨v2, h2, e2⟩ := hE ⟨2, .data⟩ (by simp) rfl _ _ rfl rfl
                  rw [show v2 = .slice (some ⟨b1, o1, none⟩) n c from e2] at h2
                  obtain ⟨v3, h3, e3⟩ := hE ⟨3, .data⟩ (by simp) rfl _ _ rfl rfl
                  rw [show v3 = .int .i64 i from e3] at h3
                  obtain ⟨v1, h1, e1⟩ := hE ⟨1, .guard⟩ (by simp) rfl _ _ rfl rfl
                  rw [show v1 = .bool false from e1] at h1
                  clear hE hO hN
                  refine grd_met rfl rfl rfl h1 ?_
                  go_simp
                  exact hK _ _ rfl hM (Below.refl _ _)
                · intro T2 w2 hM hN hO hE K hK
                  obtain ⟨v4, h4, e4⟩ := hE ⟨4, .data⟩ (by simp) rfl _ _ rfl rfl
                  rw [show v4 = .pointer (some ⟨b1, o1 + i * 4, none⟩) from e4] at h4
                  obtain ⟨v1, h1, e1⟩ := hE ⟨1, .guard⟩ (by simp) rfl _ _ rfl rfl
                  rw [show v1 = .bool false from e1] at h1
                  clear hE hO hN
                  refine grd_met rfl rfl rfl h1 ?_
                  go_simp
                  exact hK _ _ rfl hM (Below.refl _ _)
                · intro T2 w2 hM hN hO hE K hK
                  obtain ⟨v5, h5, e5⟩ := hE ⟨5, .data⟩ (by simp) rfl _ _ rfl rfl
                  rw [show v5 = .pointer (some ⟨b1, o1 + i * 4, none⟩) from e5] at h5
                  obtain ⟨v1, h1, e1⟩ := hE ⟨1, .guard⟩ (by simp) rfl _ _ rfl rfl
                  rw [show v1 = .bool false from e1] at h1
                  clear hE hO hN
                  refine grd_met rfl rfl rfl h1 ?_
                  obtain ⟨x0, x1, x2, x3⟩ := HC1.out w2 (HBQ.out.trans (hM.mono HBQ.out.size))
                  go_simp
                  exact hK _ _ rfl hM (Below.refl _ _)
                · intro T2 w2 hM hN hO hE K hK
                  obtain ⟨v6, h6, e6⟩ := hE ⟨6, .data⟩ (by simp) rfl _ _ rfl rfl
                  rw [show v6 = .int .i64 1 from e6] at h6
                  obtain ⟨v1, h1, e1⟩ := hE ⟨1, .guard⟩ (by simp) rfl _ _ rfl rfl
                  rw [show v1 = .bool false from e1] at h1
                  clear hE hO hN
                  refine grd_met rfl rfl rfl h1 ?_
                  go_simp
                  exact hK _ _ rfl hM (Below.refl _ _)
                · intro T2 w2 hM hN hO hE K hK
                  obtain ⟨v7, h7, e7⟩ := hE ⟨7, .data⟩ (by simp) rfl _ _ rfl rfl
                  rw [show v7 = .bool true from e7] at h7
                  obtain ⟨v1, h1, e1⟩ := hE ⟨1, .guard⟩ (by simp) rfl _ _ rfl rfl
                  rw [show v1 = .bool false from e1] at h1
                  clear hE hO hN
                  refine grd_met rfl rfl rfl h1 ?_
                  go_simp
                  exact hK _ _ rfl hM (Below.refl _ _)
                · intro T2 w2 hM hN hO hE K hK
                  have o1 : T2[1]? = some (.slice (some ⟨b2, o2, none⟩) m d) := hO 1 rfl
                  obtain ⟨v8, h8, e8⟩ := hE ⟨8, .guard⟩ (by simp) rfl _ _ rfl rfl
                  rw [show v8 = .bool true from e8] at h8
                  clear hE hO hN
                  refine grd_met rfl rfl rfl h8 ?_
                  go_simp
                  exact hK _ _ rfl hM (Below.refl _ _)
                · intro T2 w2 hM hN hO hE K hK
                  have o8 : T2[8]? = some (.int .i64 k) := hO 8 rfl
                  obtain ⟨v8, h8, e8⟩ := hE ⟨8, .guard⟩ (by simp) rfl _ _ rfl rfl
                  rw [show v8 = .bool true from e8] at h8
                  clear hE hO hN
                  refine grd_met rfl rfl rfl h8 ?_
                  go_simp
                  exact hK _ _ rfl hM (Below.refl _ _)
                · intro T2 w2 hM hN hO hE K hK
                  obtain ⟨v9, h9, e9⟩ := hE ⟨9, .data⟩ (by simp) rfl _ _ rfl rfl
                  rw [show v9 = .slice (some ⟨b2, o2, none⟩) m d from e9] at h9
                  obtain ⟨v10, h10, e10⟩ := hE ⟨10, .data⟩ (by simp) rfl _ _ rfl rfl
                  rw [show v10 = .int .i64 k from e10] at h10
                  obtain ⟨v8, h8, e8⟩ := hE ⟨8, .guard⟩ (by simp) rfl _ _ rfl rfl
                  rw [show v8 = .bool true from e8] at h8
                  clear hE hO hN
                  refine grd_met rfl rfl rfl h8 ?_
                  go_simp
                  exact hK _ _ rfl hM (Below.refl _ _)
                · intro T2 w2 hM hN hO hE K hK
                  obtain ⟨v11, h11, e11⟩ := hE ⟨11, .data⟩ (by simp) rfl _ _ rfl rfl
                  rw [show v11 = .pointer (some ⟨b2, o2 + k * 4, none⟩) from e11] at h11
                  obtain ⟨v8, h8, e8⟩ := hE ⟨8, .guard⟩ (by simp) rfl _ _ rfl rfl
                  rw [show v8 = .bool true from e8] at h8
                  clear hE hO hN
                  refine grd_met rfl rfl rfl h8 ?_
                  obtain ⟨x0, x1, x2, x3⟩ := HC2.out w2 hM
                  go_simp
                  exact hK _ _ rfl hM (Below.refl _ _)
                · intro T2 w2 hM hN hO hE K hK
                  have o0 : T2[0]? = some (.slice (some ⟨b1, o1, none⟩) n c) := hO 0 rfl
                  obtain ⟨v8, h8, e8⟩ := hE ⟨8, .guard⟩ (by simp) rfl _ _ rfl rfl
                  rw [show v8 = .bool true from e8] at h8
                  clear hE hO hN
                  refine grd_met rfl rfl rfl h8 ?_
                  go_simp
                  exact hK _ _ rfl hM (Below.refl _ _)
                · intro T2 w2 hM hN hO hE K hK
                  have o6 : T2[6]? = some (.int .i64 i) := hO 6 rfl
                  obtain ⟨v8, h8, e8⟩ := hE ⟨8, .guard⟩ (by simp) rfl _ _ rfl rfl
                  rw [show v8 = .bool true from e8] at h8
                  clear hE hO hN
                  refine grd_met rfl rfl rfl h8 ?_
                  go_simp
                  exact hK _ _ rfl hM (Below.refl _ _)
                · intro T2 w2 hM hN hO hE K hK
                  obtain ⟨v13, h13, e13⟩ := hE ⟨13, .data⟩ (by simp) rfl _ _ rfl rfl
                  rw [show v13 = .slice (some ⟨b1, o1, none⟩) n c from e13] at h13
                  obtain ⟨v14, h14, e14⟩ := hE ⟨14, .data⟩ (by simp) rfl _ _ rfl rfl
                  rw [show v14 = .int .i64 i from e14] at h14
                  obtain ⟨v8, h8, e8⟩ := hE ⟨8, .guard⟩ (by simp) rfl _ _ rfl rfl
                  rw [show v8 = .bool true from e8] at h8
                  clear hE hO hN
                  refine grd_met rfl rfl rfl h8 ?_
                  go_simp
                  exact hK _ _ rfl hM (Below.refl _ _)
                · intro T2 w2 hM hN hO hE K hK
                  obtain ⟨v15, h15, e15⟩ := hE ⟨15, .data⟩ (by simp) rfl _ _ rfl rfl
                  rw [show v15 = .pointer (some ⟨b1, o1 + i * 4, none⟩) from e15] at h15
                  obtain ⟨v8, h8, e8⟩ := hE ⟨8, .guard⟩ (by simp) rfl _ _ rfl rfl
                  rw [show v8 = .bool true from e8] at h8
                  clear hE hO hN
                  refine grd_met rfl rfl rfl h8 ?_
                  obtain ⟨x0, x1, x2, x3⟩ := HC1.out w2 (HBQ.out.trans (hM.mono HBQ.out.size))
                  go_simp
                  exact hK _ _ rfl hM (Below.refl _ _)
                · intro T2 w2 hM hN hO hE K hK
                  obtain ⟨v12, h12, e12⟩ := hE ⟨12, .data⟩ (by simp) rfl _ _ rfl rfl
                  rw [show v12 = .agg #[.int .i64 k2, .string P2, .string D2, .int .i64 wz] from e12] at h12
                  obtain ⟨v16, h16, e16⟩ := hE ⟨16, .data⟩ (by simp) rfl _ _ rfl rfl
                  rw [show v16 = .agg #[.int .i64 1, .string P0, .string D0, .int .i64 wy] from e16] at h16
                  obtain ⟨v8, h8, e8⟩ := hE ⟨8, .guard⟩ (by simp) rfl _ _ rfl rfl
                  rw [show v8 = .bool true from e8] at h8
                  clear hE hO hN
                  refine grd_met rfl rfl rfl h8 ?_
                  have hq := HEQ.out w2
                  go_simp
                  exact hK _ _ rfl hM (Below.refl _ _)
                · intro T2 w2 hM hN hO hE K hK
                  obtain ⟨v8, h8, e8⟩ := hE ⟨8, .data⟩ (by simp) rfl _ _ rfl rfl
                  rw [show v8 = .bool true from e8] at h8
                  obtain ⟨v17, h17, e17⟩ := hE ⟨17, .data⟩ (by simp) rfl _ _ rfl rfl
                  rw [show v17 = .bool sm from e17] at h17
                  obtain ⟨v1, h1, e1⟩ := hE ⟨1, .guard⟩ (by simp) rfl _ _ rfl rfl
                  rw [show v1 = .bool false from e1] at h1
                  clear hE hO hN
                  refine grd_met rfl rfl rfl h1 ?_
                  go_simp
                  exact hK _ _ rfl hM (Below.refl _ _)
                · intro T2 w2 hM hN hO hE K hK
                  obtain ⟨v1, h1, e1⟩ := hE ⟨1, .data⟩ (by simp) rfl _ _ rfl rfl
                  rw [show v1 = .bool false from e1] at h1
                  obtain ⟨v18, h18, e18⟩ := hE ⟨18, .data⟩ (by simp) rfl _ _ rfl rfl
                  rw [show v18 = .bool sm from e18] at h18
                  clear hE hO hN
                  refine step_plain0 rfl ?_
                  go_simp
                  exact hK _ _ rfl hM (Below.refl _ _)
              · intro u w2 hM hF
                have e19 : u 19 = .bool sm := hF 19 (by omega)
                clear hF
                simp only [fillAll, Nat.reduceAdd, e19, List.take_succ_cons, List.take_zero, List.drop_succ_cons, List.drop_zero, List.setIfInBounds_toArray, List.set_cons_succ, List.set_cons_zero]
                have HBF := hid2 (HBQ.out.trans (hM.mono HBQ.out.size))
                clear hM
                go_wp2_with fail
                go_roundg (gk - 1)
                case rel => exact ⟨HBF.out, k + 1, sm, by have := HK.out; omega, by go_num, rfl, HNX.out⟩
                case measure => have := HK.out; omega
            · have hkb : (kd == 1) = false := by rw [beq_eq_false_iff_ne]; exact hk1
              have HNX := hid2 (show false = hadD (X.take (k + 1)) x from by
                have : (x.kind == 1) = false := by rw [beq_eq_false_iff_ne]; have := HKD.out; omega
                rw [hnx, this]
                rfl)
              clear hbq hk hy hty hnx hh
              go_wp2_with fail
              refine wp_region_grd 20 (by kernel_rfl) (by kernel_rfl) (by kernel_rfl) _ rfl (by kernel_rfl) (VV [some (.bool false), some (.bool false), some (.slice (some ⟨b1, o1, none⟩) n c), some (.int .i64 i), some (.pointer (some ⟨b1, o1 + i * 4, none⟩)), some (.pointer (some ⟨b1, o1 + i * 4, none⟩)), some (.int .i64 kd), some (.bool false), some (.bool false), some (undef), some (undef), some (undef), some (undef), some (undef), some (undef), some (undef), some (undef), some (undef), some (.bool false), some (.bool false)] (fun _ _ _ => False)) (fun w2 => Below wr.heap.size wr w2) (fun a b => Below a.heap.size a b) ((Below.refl _ wr).drew) (fun j v w1 w2 hb hv => VV.keep (fun h => h.elim) hv) ?_ ?_
              · refine of_allOps ⟨?_, ?_, ?_, ?_, ?_, ?_, ?_, ?_, ?_, ?_, ?_, ?_, ?_, ?_, ?_, ?_, ?_, ?_, ?_, ?_, trivial⟩
                · intro T2 w2 hM hN hO hE K hK
                  have o7 : T2[7]? = some (.bool false) := hO 7 rfl
                  clear hE hO hN
                  refine step_plain0 rfl ?_
                  go_simp
                  exact hK _ _ rfl hM (Below.refl _ _)
                · intro T2 w2 hM hN hO hE K hK
                  obtain ⟨v0, h0, e0⟩ := hE ⟨0, .data⟩ (by simp) rfl _ _ rfl rfl
                  rw [show v0 = .bool false from e0] at h0
                  clear hE hO hN
                  refine step_plain0 rfl ?_
                  go_simp
                  exact hK _ _ rfl hM (Below.refl _ _)
                · intro T2 w2 hM hN hO hE K hK
                  have o0 : T2[0]? = some (.slice (some ⟨b1, o1, none⟩) n c) := hO 0 rfl
                  obtain ⟨v1, h1, e1⟩ := hE ⟨1, .guard⟩ (by simp) rfl _ _ rfl rfl
                  rw [show v1 = .bool false from e1] at h1
                  clear hE hO hN
                  refine grd_met rfl rfl rfl h1 ?_
                  go_simp
                  exact hK _ _ rfl hM (Below.refl _ _)
                · intro T2 w2 hM hN hO hE K hK
                  have o6 : T2[6]? = some (.int .i64 i) := hO 6 rfl
                  obtain ⟨v1, h1, e1⟩ := hE ⟨1, .guard⟩ (by simp) rfl _ _ rfl rfl
                  rw [show v1 = .bool false from e1] at h1
                  clear hE hO hN
                  refine grd_met rfl rfl rfl h1 ?_
                  go_simp
                  exact hK _ _ rfl hM (Below.refl _ _)
                · intro T2 w2 hM hN hO hE K hK
                  obtain ⟨v2, h2, e2⟩ := hE ⟨2, .data⟩ (by simp) rfl _ _ rfl rfl
                  rw [show v2 = .slice (some ⟨b1, o1, none⟩) n c from e2] at h2
                  obtain ⟨v3, h3, e3⟩ := hE ⟨3, .data⟩ (by simp) rfl _ _ rfl rfl
                  rw [show v3 = .int .i64 i from e3] at h3
                  obtain ⟨v1, h1, e1⟩ := hE ⟨1, .guard⟩ (by simp) rfl _ _ rfl rfl
                  rw [show v1 = .bool false from e1] at h1
                  clear hE hO hN
                  refine grd_met rfl rfl rfl h1 ?_
                  go_simp
                  exact hK _ _ rfl hM (Below.refl _ _)
                · intro T2 w2 hM hN hO hE K hK
                  obtain ⟨v4, h4, e4⟩ := hE ⟨4, .data⟩ (by simp) rfl _ _ rfl rfl
                  rw [show v4 = .pointer (some ⟨b1, o1 + i * 4, none⟩) from e4] at h4
                  obtain ⟨v1, h1, e1⟩ := hE ⟨1, .guard⟩ (by simp) rfl _ _ rfl rfl
                  rw [show v1 = .bool false from e1] at h1
                  clear hE hO hN
                  refine grd_met rfl rfl rfl h1 ?_
                  go_simp
                  exact hK _ _ rfl hM (Below.refl _ _)
                · intro T2 w2 hM hN hO hE K hK
                  obtain ⟨v5, h5, e5⟩ := hE ⟨5, .data⟩ (by simp) rfl _ _ rfl rfl
                  rw [show v5 = .pointer (some ⟨b1, o1 + i * 4, none⟩) from e5] at h5
                  obtain ⟨v1, h1, e1⟩ := hE ⟨1, .guard⟩ (by simp) rfl _ _ rfl rfl
                  rw [show v1 = .bool false from e1] at h1
                  clear hE hO hN
                  refine grd_met rfl rfl rfl h1 ?_
                  obtain ⟨x0, x1, x2, x3⟩ := HC1.out w2 (HBQ.out.trans (hM.mono HBQ.out.size))
                  go_simp
                  exact hK _ _ rfl hM (Below.refl _ _)
                · intro T2 w2 hM hN hO hE K hK
                  obtain ⟨v6, h6, e6⟩ := hE ⟨6, .data⟩ (by simp) rfl _ _ rfl rfl
                  rw [show v6 = .int .i64 kd from e6] at h6
                  obtain ⟨v1, h1, e1⟩ := hE ⟨1, .guard⟩ (by simp) rfl _ _ rfl rfl
                  rw [show v1 = .bool false from e1] at h1
                  clear hE hO hN
                  refine grd_met rfl rfl rfl h1 ?_
                  go_simp
                  exact hK _ _ rfl hM (Below.refl _ _)
                · intro T2 w2 hM hN hO hE K hK
                  obtain ⟨v7, h7, e7⟩ := hE ⟨7, .data⟩ (by simp) rfl _ _ rfl rfl
                  rw [show v7 = .bool false from e7] at h7
                  obtain ⟨v1, h1, e1⟩ := hE ⟨1, .guard⟩ (by simp) rfl _ _ rfl rfl
                  rw [show v1 = .bool false from e1] at h1
                  clear hE hO hN
                  refine grd_met rfl rfl rfl h1 ?_
                  go_simp
                  exact hK _ _ rfl hM (Below.refl _ _)
                · intro T2 w2 hM hN hO hE K hK
                  obtain ⟨v8, h8, e8⟩ := hE ⟨8, .guard⟩ (by simp) rfl _ _ rfl rfl
                  rw [show v8 = .bool false from e8] at h8
                  clear hE hO hN
                  refine grd_not rfl rfl rfl h8 (by decide) ?_
                  exact hK _ _ rfl hM (Below.refl _ _)
                · intro T2 w2 hM hN hO hE K hK
                  obtain ⟨v8, h8, e8⟩ := hE ⟨8, .guard⟩ (by simp) rfl _ _ rfl rfl
                  rw [show v8 = .bool false from e8] at h8
                  clear hE hO hN
                  refine grd_not rfl rfl rfl h8 (by decide) ?_
                  exact hK _ _ rfl hM (Below.refl _ _)
                · intro T2 w2 hM hN hO hE K hK
                  obtain ⟨v8, h8, e8⟩ := hE ⟨8, .guard⟩ (by simp) rfl _ _ rfl rfl
                  rw [show v8 = .bool false from e8] at h8
                  clear hE hO hN
                  refine grd_not rfl rfl rfl h8 (by decide) ?_
                  exact hK _ _ rfl hM (Below.refl _ _)
                · intro T2 w2 hM hN hO hE K hK
                  obtain ⟨v8, h8, e8⟩ := hE ⟨8, .guard⟩ (by simp) rfl _ _ rfl rfl
                  rw [show v8 = .bool false from e8] at h8
                  clear hE hO hN
                  refine grd_not rfl rfl rfl h8 (by decide) ?_
                  exact hK _ _ rfl hM (Below.refl _ _)
                · intro T2 w2 hM hN hO hE K hK
                  obtain ⟨v8, h8, e8⟩ := hE ⟨8, .guard⟩ (by simp) rfl _ _ rfl rfl
                  rw [show v8 = .bool false from e8] at h8
                  clear hE hO hN
                  refine grd_not rfl rfl rfl h8 (by decide) ?_
                  exact hK _ _ rfl hM (Below.refl _ _)
                · intro T2 w2 hM hN hO hE K hK
                  obtain ⟨v8, h8, e8⟩ := hE ⟨8, .guard⟩ (by simp) rfl _ _ rfl rfl
                  rw [show v8 = .bool false from e8] at h8
                  clear hE hO hN
                  refine grd_not rfl rfl rfl h8 (by decide) ?_
                  exact hK _ _ rfl hM (Below.refl _ _)
                · intro T2 w2 hM hN hO hE K hK
                  obtain ⟨v8, h8, e8⟩ := hE ⟨8, .guard⟩ (by simp) rfl _ _ rfl rfl
                  rw [show v8 = .bool false from e8] at h8
                  clear hE hO hN
                  refine grd_not rfl rfl rfl h8 (by decide) ?_
                  exact hK _ _ rfl hM (Below.refl _ _)
                · intro T2 w2 hM hN hO hE K hK
                  obtain ⟨v8, h8, e8⟩ := hE ⟨8, .guard⟩ (by simp) rfl _ _ rfl rfl
                  rw [show v8 = .bool false from e8] at h8
                  clear hE hO hN
                  refine grd_not rfl rfl rfl h8 (by decide) ?_
                  exact hK _ _ rfl hM (Below.refl _ _)
                · intro T2 w2 hM hN hO hE K hK
                  obtain ⟨v8, h8, e8⟩ := hE ⟨8, .guard⟩ (by simp) rfl _ _ rfl rfl
                  rw [show v8 = .bool false from e8] at h8
                  clear hE hO hN
                  refine grd_not rfl rfl rfl h8 (by decide) ?_
                  exact hK _ _ rfl hM (Below.refl _ _)
                · intro T2 w2 hM hN hO hE K hK
                  obtain ⟨v8, h8, e8⟩ := hE ⟨8, .data⟩ (by simp) rfl _ _ rfl rfl
                  rw [show v8 = .bool false from e8] at h8
                  obtain ⟨v17, h17, e17⟩ := hE ⟨17, .data⟩ (by simp) rfl _ _ rfl rfl
                  rw [show v17 = undef from e17] at h17
                  obtain ⟨v1, h1, e1⟩ := hE ⟨1, .guard⟩ (by simp) rfl _ _ rfl rfl
                  rw [show v1 = .bool false from e1] at h1
                  clear hE hO hN
                  refine grd_met rfl rfl rfl h1 ?_
                  go_simp
                  exact hK _ _ rfl hM (Below.refl _ _)
                · intro T2 w2 hM hN hO hE K hK
                  obtain ⟨v1, h1, e1⟩ := hE ⟨1, .data⟩ (by simp) rfl _ _ rfl rfl
                  rw [show v1 = .bool false from e1] at h1
                  obtain ⟨v18, h18, e18⟩ := hE ⟨18, .data⟩ (by simp) rfl _ _ rfl rfl
                  rw [show v18 = .bool false from e18] at h18
                  clear hE hO hN
                  refine step_plain0 rfl ?_
                  go_simp
                  exact hK _ _ rfl hM (Below.refl _ _)
              · intro u w2 hM hF
                have e19 : u 19 = .bool false := hF 19 (by omega)
                clear hF
                simp only [fillAll, Nat.reduceAdd, e19, List.take_succ_cons, List.take_zero, List.drop_succ_cons, List.drop_zero, List.setIfInBounds_toArray, List.set_cons_succ, List.set_cons_zero]
                have HBF := hid2 (HBQ.out.trans (hM.mono HBQ.out.size))
                clear hM
                go_wp2_with fail
                go_roundg (gk - 1)
                case rel => exact ⟨HBF.out, k + 1, false, by have := HK.out; omega, by go_num, rfl, HNX.out⟩
                case measure => have := HK.out; omega
        · have hki : ¬ (k : Int) < m := by omega
          have hall : had = hadD X x := by rw [hh, List.take_of_length_le (by rw [← HM.out]; omega)]
          have HALL := hid2 hall
          have HBE2 := hid2 (HBE.out.trans (hbq.mono HBE.out.size))
          have hown := HOW.out.below hbq (Nat.le_refl _)
          have hbsz := HBE2.out.size
          cases had with
          | true =>
            have HF2 := hid2 (show (l.take (i + 1)).filter (keepD X) = (l.take i).filter (keepD X) from by
              rw [HTK.out, List.filter_append, List.filter_cons_of_neg (by rw [keepD_eq, ← HALL.out]; decide), List.filter_nil, List.append_nil])
            clear hbq hk hh hall
            go_wp2_with fail
            go_roundg (gz - 1)
            case rel => exact ⟨HBE2.out, i + 1, q, AO, co, by have := HI.out; have := HG0.out; omega, by go_num, rfl, by rw [HF2.out]; exact HQ.out, by rw [HF2.out]; exact hown⟩
            case measure => have := HI.out; have := HG0.out; omega
          | false =>
            have HF2 := hid2 (show (l.take (i + 1)).filter (keepD X) = (l.take i).filter (keepD X) ++ [x] from by
              rw [HTK.out, List.filter_append, List.filter_cons_of_pos (by rw [keepD_eq, ← HALL.out]; rfl), List.filter_nil])
            obtain ⟨y0, y1, y2, y3⟩ := HC1.out wr hbq
            obtain ⟨V, hV⟩ : ∃ V, V = doVs ((l.take i).filter (keepD X)) := ⟨_, rfl⟩
            rw [← hV] at hown
            have HV4 := hid2 (show V ++ [.int .i64 kd, .string P0, .string D0, .int .i64 wy] = doVs ((l.take i).filter (keepD X) ++ [x]) from by rw [hV, ← HDOC.out, doVs_snoc])
            have hone : ∀ u ∈ [Value.int .i64 kd, .string P0, .string D0, .int .i64 wy], u.oneCell' = true := by simp [Value.oneCell']
            have hfew : q ≤ 1000000 := by have := HQI.out; omega
            have HOX := hid2 hown
            clear hbq hk hh hall hV
            go_upto_region 4 with (at_builtin; have _t := hown; go_must ((with_reducible refine wpList_append_lit 35 (.agg #[.int .i64 0, .string ⟨#[]⟩, .string ⟨#[]⟩, .int .i64 0]) 4 48 Tryz.underlying33 zero_doI rfl w.heap.size AO q co V (hown.alloc _) 1 [.int .i64 kd, .string P0, .string D0, .int .i64 wy] (.slice (some ⟨wr.heap.size, 0, none⟩) 1 1) (Src.slice Tryz.underlying33 (Rd.of_lit wr _ _ 4 1 (by decide) rfl)) hone ?_ ?_ ?_ ?_ ?_); (unfold maxLen; omega); omega; (simp; omega); exact ⟨rfl, rfl⟩; intro A3 c3 w3 hown3 hgr3 hbl3; clear hown))
            have hba : Below wr.heap.size wr (wr.alloc (.cells #[.int .i64 kd, .string P0, .string D0, .int .i64 wy] 35)) := (Below.refl _ _).alloc (Nat.le_refl _) _
            have hb3 : Below w.heap.size w w3 := (HBE2.out.trans (hba.mono hbsz)).grown hgr3 (by simp; omega) (fun k e => (HOX.out.block k e).1)
            rw [HV4.out] at hown3
            have HB3 := hid2 hb3
            have HO3 := hid2 hown3
            clear hba hb3 hown3 hgr3 hbl3 y0 y1 y2 y3 _t hone
            go_wp2_with fail
            go_roundg (gz - 1)
            case rel => exact ⟨HB3.out, i + 1, q + 1, A3, c3, by have := HI.out; have := HG0.out; omega, by go_num, rfl, by rw [HF2.out, List.length_append, ← HQ.out]; rfl, by rw [HF2.out]; exact HO3.out⟩
            case measure => have := HI.out; have := HG0.out; omega
    · have hil : ¬ (i : Int) < n := by omega
      have hall : l.take i = l := List.take_of_length_le (by rw [← HN.out]; omega)
      rw [hall] at hq hown
      have HQ2 := hid2 hq
      have HOW := hid2 hown
      clear hbe hi hq hown hall
      go_wp2_with fail
      rw [HPQ.out]
      exact ⟨AO, co, by rw [← HQ2.out], by rw [← HQ2.out]; exact HOW.out, HBE.out⟩
end Go.Proofs.YtnecjdhamohadaaGreatDoor
