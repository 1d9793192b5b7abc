/- BlobsOrder's walk. -/
import Derived.Test.YtegkjmmknjhdiaaBord
namespace Go.Proofs.Ytegkjmmknjhdiaa
open Go.RowKit Go.Maps Go.Sort Go.Lib
/-- two stores, side by side -/
structure OrI (w : World) (p b n : Nat) (M : BTab) (p2 b2 n2 : Nat) (M2 : BTab) (W : World) : Prop where
  st : StoreIs W p b n M (sizeM M)
  st2 : StoreIs W p2 b2 n2 M2 (sizeM M2)
  low : Below w.heap.size w W
  ge : w.heap.size ≤ p ∧ w.heap.size ≤ b ∧ w.heap.size ≤ p2 ∧ w.heap.size ≤ b2
  ne : (p2 ≠ p ∧ p2 ≠ b) ∧ (b2 ≠ p ∧ b2 ≠ b)
section
variable {w W W' : World} {p b n p2 b2 n2 : Nat} {M M2 : BTab}
theorem OrI.ext (h : OrI w p b n M p2 b2 n2 M2 W) (hb : Below W.heap.size W W') : OrI w p b n M p2 b2 n2 M2 W' :=
  ⟨h.st.below hb h.st.lt.1 h.st.lt.2, h.st2.below hb h.st2.lt.1 h.st2.lt.2, h.low.trans (hb.mono h.low.size), h.ge, h.ne⟩
theorem or_put1 (h : OrI w p b n M p2 b2 n2 M2 W) (hn : n ≤ 1000000) (hz : sizeM M ≤ 1000000000) (s : ByteArray) (hs : s.size ≤ 1000000000) :
    Calls Try.prog 30 #[.pointer (some ⟨p, 0, none⟩), .string s] W fun e w' => e = .returned (.agg (u8s (keyT s)).toArray) ∧ OrI w p b (n + 1) (putB M (keyT s) s.data.toList) p2 b2 n2 M2 w' := by
  refine (put_any W p b n M _ h.st hn ⟨sizeM_nonneg _, hz⟩ s hs).mono fun e w' ⟨he, hst, hb⟩ => ⟨he, ?_, h.st2.other hb h.ne.1 h.ne.2, hb.below h.low h.low.size h.ge.1 h.ge.2.1, h.ge, h.ne⟩
  rw [sizeM_putB, toList_length]
  exact hst.mono (by split <;> omega)
theorem or_put2 (h : OrI w p b n M p2 b2 n2 M2 W) (hn : n2 ≤ 1000000) (hz : sizeM M2 ≤ 1000000000) (s : ByteArray) (hs : s.size ≤ 1000000000) :
    Calls Try.prog 30 #[.pointer (some ⟨p2, 0, none⟩), .string s] W fun e w' => e = .returned (.agg (u8s (keyT s)).toArray) ∧ OrI w p b n M p2 b2 (n2 + 1) (putB M2 (keyT s) s.data.toList) w' := by
  refine (put_any W p2 b2 n2 M2 _ h.st2 hn ⟨sizeM_nonneg _, hz⟩ s hs).mono fun e w' ⟨he, hst, hb⟩ => ⟨he, h.st.other hb ⟨fun e => h.ne.1.1 e.symm, fun e => h.ne.2.1 e.symm⟩ ⟨fun e => h.ne.1.2 e.symm, fun e => h.ne.2.2 e.symm⟩, ?_, hb.below h.low h.low.size h.ge.2.2.1 h.ge.2.2.2, h.ge, h.ne⟩
  rw [sizeM_putB, toList_length]
  exact hst.mono (by split <;> omega)
end
theorem sizeM_puts (M : BTab) (xs : List ByteArray) (h : ∀ x ∈ xs, x.size ≤ 300) : sizeM (putsM M xs) ≤ sizeM M + 300 * xs.length := by
  revert h
  refine snoc_ind (P := fun xs => (∀ x ∈ xs, x.size ≤ 300) → sizeM (putsM M xs) ≤ sizeM M + 300 * xs.length) ?_ ?_ xs
  · intro _; simp [putsM]
  · intro xs x ih h
    have ih := ih (fun y hy => h y (List.mem_append_left _ hy))
    have hx := h x (by simp)
    rw [← toList_length] at hx
    rw [putsM_snoc, sizeM_putB, List.length_append]
    simp only [List.length_cons, List.length_nil]
    split <;> omega
def Vd (s1 s2 : ByteArray) (L : List Value) (j : Nat) (v : Value) (w : World) : Prop := match j with
  | 14 => ∃ g, v = .slice (some ⟨g, 0, none⟩) 1 1 ∧ Rd w 1 (some ⟨g, 0, none⟩) 1 [.string s1]
  | 20 => ∃ g, v = .slice (some ⟨g, 0, none⟩) 1 1 ∧ Rd w 1 (some ⟨g, 0, none⟩) 1 [.string s2]
  | _ => L[j]? = some v
theorem Vd.keep {s1 s2 : ByteArray} {L : List Value} {j : Nat} {v : Value} {w w' : World} (h : Vd s1 s2 L j v w) (hb : Below w.heap.size w w') : Vd s1 s2 L j v w' := by
  unfold Vd at h ⊢
  split at h
  · obtain ⟨g, h1, h2⟩ := h
    exact ⟨g, h1, h2.below_all hb⟩
  · obtain ⟨g, h1, h2⟩ := h
    exact ⟨g, h1, h2.below_all hb⟩
  · exact h
/-- the texts so far, none unlike with one digest -/
structure SoFar (ps : List ByteArray) (k : Nat) : Prop where
  small : ∀ i x, i < k → ps[i]? = some x → x.size ≤ 300
  apart : ∀ i j x y, i < k → j < i → ps[i]? = some x → ps[j]? = some y → keyT y = keyT x → y = x
theorem SoFar.all {ps : List ByteArray} (h : SoFar ps ps.length) : NoClash ps := by
  intro x hx y hy e
  obtain ⟨i, hi⟩ := List.getElem?_of_mem hx
  obtain ⟨j, hj⟩ := List.getElem?_of_mem hy
  have hil := (List.getElem?_eq_some_iff.1 hi).1
  have hjl := (List.getElem?_eq_some_iff.1 hj).1
  rcases Nat.lt_trichotomy i j with hlt | rfl | hlt
  · exact h.apart j i y x hjl hlt hj hi e
  · rw [hi] at hj; exact Option.some.inj hj
  · exact (h.apart i j x y hil hlt hi hj e.symm).symm
theorem str_cell {w : World} {A : Option Addr} {ps : List ByteArray} {n : Nat} (hr : Rd w 1 A n (ps.map Value.string)) {k : Nat} {x : ByteArray} (h : ps[k]? = some x) :
    ∃ b o, A = some ⟨b, o, none⟩ ∧ w.cell? ⟨b, o + k, none⟩ = some (.string x) := by
  have hk := (List.getElem?_eq_some_iff.1 h).1
  have hl : ps.length = n := by have := hr.1; simpa using this
  obtain ⟨b, o, rfl, hc⟩ := hr.2 (by omega)
  exact ⟨b, o, rfl, hc k _ (by rw [List.getElem?_map, h]; rfl)⟩
theorem take_snoc {α : Type} {l : List α} {k : Nat} {x : α} (h : l[k]? = some x) : l.take (k + 1) = l.take k ++ [x] := by
  obtain ⟨hk, hx⟩ := List.getElem?_eq_some_iff.1 h
  rw [List.take_succ_eq_append_getElem hk, hx]
set_option maxRecDepth 100000 in
set_option maxHeartbeats 8000000 in
theorem blobsOrder_walk (w : World) (A : Option Addr) (N c : Nat) (ps : List ByteArray) (hr : Rd w 1 A N (ps.map Value.string)) (hmx : N ≤ 8796093022208) (B : Option Addr) (c2 : Nat) (os : List UInt8) (hrB : Rd w 1 B os.length (u8s os)) (hmB : os.length ≤ 140737488355328) :
    Calls Try.prog 6 #[.slice A N c, .slice B os.length c2] w fun e w' => e = .returned (.bool true) ∧ Below w.heap.size w w' := by
  have CAL := hid2 (fun W => alive6_any sorts_dig W)
  have hN : N = ps.length := by have := hr.1; simpa using this.symm
  obtain ⟨Q, hQ⟩ : ∃ Q, Q = os.length := ⟨_, rfl⟩
  rw [← hQ] at hrB hmB ⊢
  have HR := hid2 hr
  have HRB := hid2 hrB
  have HN := hid2 hN
  have HQ := hid2 hQ
  clear hr hrB hN hQ
  by_cases h30 : N ≤ 30
  · have g30 : ((30 : Int) < (N : Int)) = False := eq_false (by omega)
    have g30' : decide ((30 : Int) < (N : Int)) = false := decide_eq_false (by omega)
    by_cases h100 : Q ≤ 100
    · have g100 : ((100 : Int) < (Q : Int)) = False := eq_false (by omega)
      have g100' : decide ((100 : Int) < (Q : Int)) = false := decide_eq_false (by omega)
      go_enter Try.func6, Try.ntmps6
      go_wp2_with (first
        | (go_at_call 21; refine (CAL.out _).mono ?_; rintro e w1 ⟨rfl, hb⟩; have HB1 := hid2 hb; clear hb))
      refine (newblobs_any _).mono ?_
      rintro e w2 ⟨rfl, hst, hb, hsz⟩
      have HS2 := hid2 hst
      have HB2 := hid2 (HB1.out.trans (hb.mono HB1.out.size))
      have HZ2 := hid2 (show w1.heap.size + 2 = w2.heap.size from hsz.symm)
      have HZ1 := hid2 HB1.out.size
      clear hst hb hsz
      obtain ⟨p, hp⟩ : ∃ p, p = w1.heap.size + 1 := ⟨_, rfl⟩
      obtain ⟨b1, hb1⟩ : ∃ b1, b1 = w1.heap.size := ⟨_, rfl⟩
      rw [← hp]
      have HP := hid2 hp
      have HB1E := hid2 hb1
      clear hp hb1
      go_wp2_with fail
      refine (newblobs_any _).mono ?_
      rintro e w3 ⟨rfl, hst, hb, hsz⟩
      obtain ⟨p2, hp2⟩ : ∃ p, p = w2.heap.size + 1 := ⟨_, rfl⟩
      obtain ⟨b2, hb2⟩ : ∃ b1, b1 = w2.heap.size := ⟨_, rfl⟩
      rw [← hp2, ← hb2] at hst
      rw [← hp2]
      have hor : OrI w p b1 0 [] p2 b2 0 [] w3 := by
        have e1 := HP.out
        have e2 := HB1E.out
        have e3 := HZ2.out
        have e4 := HZ1.out
        have hs2 := HS2.out
        rw [← e1, ← e2] at hs2
        exact ⟨hs2.below hb (by omega) (by omega), hst, HB2.out.trans (hb.mono HB2.out.size), by omega, by omega⟩
      have HOR := hid2 hor
      clear hst hb hsz hp2 hb2 hor
      go_wp2_with fail
      go_loopg [7, 8] N (fun gk i x8 wr => ∃ (k n : Nat) (M : BTab), k + gk = N ∧ i = .int .i64 k ∧ M = putsM [] (ps.take k) ∧ SoFar ps k ∧ n ≤ k ∧ OrI w p b1 n M p2 b2 0 [] wr)
      case atStart => exact ⟨0, 0, [], by omega, rfl, rfl, ⟨fun i x h => absurd h (Nat.not_lt_zero _), fun i j x y h => absurd h (Nat.not_lt_zero _)⟩, Nat.le_refl _, HOR.out⟩
      case round =>
        obtain ⟨k, n, M, hk, rfl, hM0, hso, hnk, hoi⟩ := hrel
        have HM0 := hid2 hM0
        have HSO := hid2 hso
        have HOI := hid2 hoi
        clear hM0 hso hoi
        by_cases hlt : k < N
        · have hlt' : (k : Int) < N := by omega
          have hk0 : (0 : Int) ≤ k := by omega
          obtain ⟨s2, hs2⟩ : ∃ x, ps[k]? = some x := ⟨_, List.getElem?_eq_getElem (by rw [← HN.out]; exact hlt)⟩
          obtain ⟨b, o, rfl, _⟩ := str_cell HR.out hs2
          have hc2 : ∀ W, Below w.heap.size w W → W.cell? ⟨b, o + k, none⟩ = some (.string s2) := fun W hW => by
            obtain ⟨b', o', e, hc⟩ := str_cell (HR.out.below_all hW) hs2
            cases e
            exact hc
          have HC2 := hid2 hc2
          have HX2 := hid2 hs2
          have cc0 := hc2 wr HOI.out.low
          clear hc2 hs2 hlt
          by_cases hsz : s2.size ≤ 300
          · have g3 : ((300 : Int) < (s2.size : Int)) = False := eq_false (by omega)
            have hzM : sizeM M ≤ 300 * (k : Int) := by
              rw [HM0.out]
              have := sizeM_puts [] (ps.take k) (fun x hx => by
                obtain ⟨i, hi⟩ := List.getElem?_of_mem hx
                have hil := (List.getElem?_eq_some_iff.1 hi).1
                rw [List.length_take] at hil
                exact HSO.out.small i x (by omega) (by rw [List.getElem?_take, if_pos (by omega)] at hi; exact hi))
              rw [List.length_take, show sizeM ([] : BTab) = 0 from rfl] at this
              omega
            obtain ⟨g0, hg0⟩ : ∃ g0, g0 = gk := ⟨_, rfl⟩
            go_wp2_with fail
            go_loopg [8] k (fun gj j wr => ∃ q : Nat, q + gj = k ∧ j = .int .i64 q ∧ OrI w p b1 n M p2 b2 0 [] wr ∧ ∀ j y, j < q → ps[j]? = some y → keyT y = keyT s2 → y = s2)
            case atStart => exact ⟨0, by omega, rfl, HOI.out, fun j y h => absurd h (Nat.not_lt_zero _)⟩
            case round =>
              obtain ⟨q, hq, rfl, hoi, hap⟩ := hrel
              clear HOI cc0
              have HOI := hid2 hoi
              have HAP := hid2 hap
              clear hoi hap
              by_cases hqk : q < k
              · have hqk' : (q : Int) < k := by omega
                have hq0 : (0 : Int) ≤ q := by omega
                have hqN : (q : Int) < N := by omega
                obtain ⟨s1, hs1⟩ : ∃ x, ps[q]? = some x := ⟨_, List.getElem?_eq_getElem (by rw [← HN.out]; omega)⟩
                have hc1 : ∀ W, Below w.heap.size w W → W.cell? ⟨b, o + q, none⟩ = some (.string s1) := fun W hW => by
                  obtain ⟨b', o', e, hc⟩ := str_cell (HR.out.below_all hW) hs1
                  cases e
                  exact hc
                have HC1 := hid2 hc1
                have HX1 := hid2 hs1
                have hz1 : s1.size ≤ 300 := HSO.out.small q s1 (by omega) hs1
                clear hc1 hs1
                by_cases hne : s1 = s2
                · subst hne
                  have hse : (s1.toList == s1.toList) = true := by simp
                  go_wp2_with fail
                  refine wp_region_grd 24 (by kernel_rfl) (by kernel_rfl) (by kernel_rfl) _ rfl (by kernel_rfl) (fun j v _ => ([(.slice (some ⟨b, o, none⟩) N c), (.int .i64 q), (.pointer (some ⟨b, o + q, none⟩)), (.string s1), (.slice (some ⟨b, o, none⟩) N c), (.int .i64 k), (.pointer (some ⟨b, o + k, none⟩)), (.string s1), (.bool false), (.bool false), (undef), (undef), (undef), (undef), (undef), (undef), (undef), (undef), (undef), (undef), (undef), (undef), (undef), (.bool false)] : List Value)[j]? = some v) (fun w4 => OrI w p b1 n M p2 b2 0 [] w4) (fun a b => Below a.heap.size a b) (HOI.out.ext (below_drewN (Below.refl _ _) 1)) (fun _ _ _ _ hb hv => hv) ?_ ?_
                  · refine of_allOps ⟨?_, ?_, ?_, ?_, ?_, ?_, ?_, ?_, ?_, ?_, ?_, ?_, ?_, ?_, ?_, ?_, ?_, ?_, ?_, ?_, ?_, ?_, ?_, ?_, trivial⟩
                    · intro T2 w2 hM hN hO hE K hK
                      have o0 : T2[0]? = some (.slice (some ⟨b, o, none⟩) N c) := hO 0 rfl
                      clear hE hO hN
                      refine step_plain0 rfl ?_
                      go_simp
                      exact hK _ _ rfl hM (Below.refl _ _)
                    · intro T2 w2 hM hN hO hE K hK
                      have o8 : T2[8]? = some (.int .i64 q) := hO 8 rfl
                      clear hE hO hN
                      refine step_plain0 rfl ?_
                      go_simp
                      exact hK _ _ rfl hM (Below.refl _ _)
                    · intro T2 w2 hM hN hO hE K hK
                      obtain ⟨v0, h0, e0⟩ := hE ⟨0, .data⟩ (by simp) rfl _ _ rfl rfl
                      rw [show v0 = .slice (some ⟨b, o, none⟩) N c from (Option.some.inj e0).symm] at h0
                      obtain ⟨v1, h1, e1⟩ := hE ⟨1, .data⟩ (by simp) rfl _ _ rfl rfl
                      rw [show v1 = .int .i64 q from (Option.some.inj e1).symm] at h1
                      clear hE hO hN
                      refine step_plain0 rfl ?_
                      go_simp
                      exact hK _ _ rfl hM (Below.refl _ _)
                    · intro T2 w2 hM hN hO hE K hK
                      obtain ⟨v2, h2, e2⟩ := hE ⟨2, .data⟩ (by simp) rfl _ _ rfl rfl
                      rw [show v2 = .pointer (some ⟨b, o + q, none⟩) from (Option.some.inj e2).symm] at h2
                      clear hE hO hN
                      refine step_plain0 rfl ?_
                      have cc := HC1.out w2 hM.low
                      go_simp
                      exact hK _ _ rfl hM (Below.refl _ _)
                    · intro T2 w2 hM hN hO hE K hK
                      have o0 : T2[0]? = some (.slice (some ⟨b, o, none⟩) N c) := hO 0 rfl
                      clear hE hO hN
                      refine step_plain0 rfl ?_
                      go_simp
                      exact hK _ _ rfl hM (Below.refl _ _)
                    · intro T2 w2 hM hN hO hE K hK
                      have o7 : T2[7]? = some (.int .i64 k) := hO 7 rfl
                      clear hE hO hN
                      refine step_plain0 rfl ?_
                      go_simp
                      exact hK _ _ rfl hM (Below.refl _ _)
                    · intro T2 w2 hM hN hO hE K hK
                      obtain ⟨v4, h4, e4⟩ := hE ⟨4, .data⟩ (by simp) rfl _ _ rfl rfl
                      rw [show v4 = .slice (some ⟨b, o, none⟩) N c from (Option.some.inj e4).symm] at h4
                      obtain ⟨v5, h5, e5⟩ := hE ⟨5, .data⟩ (by simp) rfl _ _ rfl rfl
                      rw [show v5 = .int .i64 k from (Option.some.inj e5).symm] at h5
                      clear hE hO hN
                      refine step_plain0 rfl ?_
                      go_simp
                      exact hK _ _ rfl hM (Below.refl _ _)
                    · intro T2 w2 hM hN hO hE K hK
                      obtain ⟨v6, h6, e6⟩ := hE ⟨6, .data⟩ (by simp) rfl _ _ rfl rfl
                      rw [show v6 = .pointer (some ⟨b, o + k, none⟩) from (Option.some.inj e6).symm] at h6
                      clear hE hO hN
                      refine step_plain0 rfl ?_
                      have cc := HC2.out w2 hM.low
                      go_simp
                      exact hK _ _ rfl hM (Below.refl _ _)
                    · intro T2 w2 hM hN hO hE K hK
                      obtain ⟨v3, h3, e3⟩ := hE ⟨3, .data⟩ (by simp) rfl _ _ rfl rfl
                      rw [show v3 = .string s1 from (Option.some.inj e3).symm] at h3
                      obtain ⟨v7, h7, e7⟩ := hE ⟨7, .data⟩ (by simp) rfl _ _ rfl rfl
                      rw [show v7 = .string s1 from (Option.some.inj e7).symm] at h7
                      clear hE hO hN
                      refine step_plain0 rfl ?_
                      go_simp
                      exact hK _ _ rfl hM (Below.refl _ _)
                    · intro T2 w2 hM hN hO hE K hK
                      obtain ⟨v8, h8, e8⟩ := hE ⟨8, .data⟩ (by simp) rfl _ _ rfl rfl
                      rw [show v8 = .bool false from (Option.some.inj e8).symm] at h8
                      clear hE hO hN
                      refine step_plain0 rfl ?_
                      go_simp
                      exact hK _ _ rfl hM (Below.refl _ _)
                    · intro T2 w2 hM hN hO hE K hK
                      obtain ⟨v9, h9, e9⟩ := hE ⟨9, .guard⟩ (by simp) rfl _ _ rfl rfl
                      rw [show v9 = .bool false from (Option.some.inj e9).symm] at h9
                      clear hE hO hN
                      refine grd_not rfl rfl rfl h9 (by decide) ?_
                      exact hK _ _ rfl hM (Below.refl _ _)
                    · intro T2 w2 hM hN hO hE K hK
                      obtain ⟨v9, h9, e9⟩ := hE ⟨9, .guard⟩ (by simp) rfl _ _ rfl rfl
                      rw [show v9 = .bool false from (Option.some.inj e9).symm] at h9
                      clear hE hO hN
                      refine grd_not rfl rfl rfl h9 (by decide) ?_
                      exact hK _ _ rfl hM (Below.refl _ _)
                    · intro T2 w2 hM hN hO hE K hK
                      obtain ⟨v9, h9, e9⟩ := hE ⟨9, .guard⟩ (by simp) rfl _ _ rfl rfl
                      rw [show v9 = .bool false from (Option.some.inj e9).symm] at h9
                      clear hE hO hN
                      refine grd_not rfl rfl rfl h9 (by decide) ?_
                      exact hK _ _ rfl hM (Below.refl _ _)
                    · intro T2 w2 hM hN hO hE K hK
                      obtain ⟨v9, h9, e9⟩ := hE ⟨9, .guard⟩ (by simp) rfl _ _ rfl rfl
                      rw [show v9 = .bool false from (Option.some.inj e9).symm] at h9
                      clear hE hO hN
                      refine grd_not rfl rfl rfl h9 (by decide) ?_
                      exact hK _ _ rfl hM (Below.refl _ _)
                    · intro T2 w2 hM hN hO hE K hK
                      obtain ⟨v9, h9, e9⟩ := hE ⟨9, .guard⟩ (by simp) rfl _ _ rfl rfl
                      rw [show v9 = .bool false from (Option.some.inj e9).symm] at h9
                      clear hE hO hN
                      refine grd_not rfl rfl rfl h9 (by decide) ?_
                      exact hK _ _ rfl hM (Below.refl _ _)
                    · intro T2 w2 hM hN hO hE K hK
                      obtain ⟨v9, h9, e9⟩ := hE ⟨9, .guard⟩ (by simp) rfl _ _ rfl rfl
                      rw [show v9 = .bool false from (Option.some.inj e9).symm] at h9
                      clear hE hO hN
                      refine grd_not rfl rfl rfl h9 (by decide) ?_
                      exact hK _ _ rfl hM (Below.refl _ _)
                    · intro T2 w2 hM hN hO hE K hK
                      obtain ⟨v9, h9, e9⟩ := hE ⟨9, .guard⟩ (by simp) rfl _ _ rfl rfl
                      rw [show v9 = .bool false from (Option.some.inj e9).symm] at h9
                      clear hE hO hN
                      refine grd_not rfl rfl rfl h9 (by decide) ?_
                      exact hK _ _ rfl hM (Below.refl _ _)
                    · intro T2 w2 hM hN hO hE K hK
                      obtain ⟨v9, h9, e9⟩ := hE ⟨9, .guard⟩ (by simp) rfl _ _ rfl rfl
                      rw [show v9 = .bool false from (Option.some.inj e9).symm] at h9
                      clear hE hO hN
                      refine grd_not rfl rfl rfl h9 (by decide) ?_
                      exact hK _ _ rfl hM (Below.refl _ _)
                    · intro T2 w2 hM hN hO hE K hK
                      obtain ⟨v9, h9, e9⟩ := hE ⟨9, .guard⟩ (by simp) rfl _ _ rfl rfl
                      rw [show v9 = .bool false from (Option.some.inj e9).symm] at h9
                      clear hE hO hN
                      refine grd_not rfl rfl rfl h9 (by decide) ?_
                      exact hK _ _ rfl hM (Below.refl _ _)
                    · intro T2 w2 hM hN hO hE K hK
                      obtain ⟨v9, h9, e9⟩ := hE ⟨9, .guard⟩ (by simp) rfl _ _ rfl rfl
                      rw [show v9 = .bool false from (Option.some.inj e9).symm] at h9
                      clear hE hO hN
                      refine grd_not rfl rfl rfl h9 (by decide) ?_
                      exact hK _ _ rfl hM (Below.refl _ _)
                    · intro T2 w2 hM hN hO hE K hK
                      obtain ⟨v9, h9, e9⟩ := hE ⟨9, .guard⟩ (by simp) rfl _ _ rfl rfl
                      rw [show v9 = .bool false from (Option.some.inj e9).symm] at h9
                      clear hE hO hN
                      refine grd_not rfl rfl rfl h9 (by decide) ?_
                      exact hK _ _ rfl hM (Below.refl _ _)
                    · intro T2 w2 hM hN hO hE K hK
                      obtain ⟨v9, h9, e9⟩ := hE ⟨9, .guard⟩ (by simp) rfl _ _ rfl rfl
                      rw [show v9 = .bool false from (Option.some.inj e9).symm] at h9
                      clear hE hO hN
                      refine grd_not rfl rfl rfl h9 (by decide) ?_
                      exact hK _ _ rfl hM (Below.refl _ _)
                    · intro T2 w2 hM hN hO hE K hK
                      obtain ⟨v9, h9, e9⟩ := hE ⟨9, .guard⟩ (by simp) rfl _ _ rfl rfl
                      rw [show v9 = .bool false from (Option.some.inj e9).symm] at h9
                      clear hE hO hN
                      refine grd_not rfl rfl rfl h9 (by decide) ?_
                      exact hK _ _ rfl hM (Below.refl _ _)
                    · intro T2 w2 hM hN hO hE K hK
                      obtain ⟨v9, h9, e9⟩ := hE ⟨9, .data⟩ (by simp) rfl _ _ rfl rfl
                      rw [show v9 = .bool false from (Option.some.inj e9).symm] at h9
                      clear hE hO hN
                      refine step_plain0 rfl ?_
                      go_simp
                      exact hK _ _ rfl hM (Below.refl _ _)
                  · intro u w2 hM hF
                    have e23 : u 23 = .bool false := (Option.some.inj (hF 23 (by omega))).symm
                    clear hF
                    simp only [fillAll, Nat.reduceAdd, e23, List.take_succ_cons, List.take_zero, List.drop_succ_cons, List.drop_zero, List.setIfInBounds_toArray, List.set_cons_succ, List.set_cons_zero]
                    have HOM := hid2 hM
                    clear hM
                    go_wp2_with fail
                    go_roundg (gk - 1)
                    case rel => exact ⟨q + 1, by omega, by go_num, HOM.out, fun j y hj hy he => by
                      rcases Nat.lt_succ_iff_lt_or_eq.1 hj with h | rfl
                      · exact HAP.out j y h hy he
                      · rw [HX1.out] at hy
                        exact (Option.some.inj hy).symm⟩
                    case measure => omega
                · have hse : (s1.toList == s2.toList) = false := by rw [ByteArray.toList_eq, ByteArray.toList_eq]; exact beq_eq_false_iff_ne.2 (fun h => hne (bytes_ext h))
                  obtain ⟨X1, hX1⟩ : ∃ X, X = keyT s1 := ⟨_, rfl⟩
                  obtain ⟨X2, hX2⟩ : ∃ X, X = keyT s2 := ⟨_, rfl⟩
                  have heq := run_eq_dig X1 X2 (by rw [hX1]; exact keyT_len _) (by rw [hX2]; exact keyT_len _)
                  obtain ⟨bo, hbo⟩ : ∃ bo, bo = (X1 == X2) := ⟨_, rfl⟩
                  rw [← hbo] at heq
                  have cS1 : ∀ (W : World) (g : Nat), Rd W 1 (some ⟨g, 0, none⟩) 1 [.string s1] → Calls Try.prog 31 #[.slice (some ⟨g, 0, none⟩) 1 1] W fun e w' => e = .returned (.agg (u8s X1).toArray) ∧ Below W.heap.size W w' := fun W g hr => by rw [hX1]; exact sum_one W g s1 (by omega) hr
                  have cS2 : ∀ (W : World) (g : Nat), Rd W 1 (some ⟨g, 0, none⟩) 1 [.string s2] → Calls Try.prog 31 #[.slice (some ⟨g, 0, none⟩) 1 1] W fun e w' => e = .returned (.agg (u8s X2).toArray) ∧ Below W.heap.size W w' := fun W g hr => by rw [hX2]; exact sum_one W g s2 (by omega) hr
                  have HS1 := hid2 cS1
                  have HS2' := hid2 cS2
                  have HNE := hid2 (show bo = false → keyT s1 ≠ keyT s2 from fun h e => by rw [hbo, hX1, hX2, e, beq_self_eq_true] at h; cases h)
                  clear hX1 hX2 cS1 cS2 hne hbo
                  go_wp2_with fail
                  refine wp_region_grd 24 (by kernel_rfl) (by kernel_rfl) (by kernel_rfl) _ rfl (by kernel_rfl) (Vd s1 s2 [(.slice (some ⟨b, o, none⟩) N c), (.int .i64 q), (.pointer (some ⟨b, o + q, none⟩)), (.string s1), (.slice (some ⟨b, o, none⟩) N c), (.int .i64 k), (.pointer (some ⟨b, o + k, none⟩)), (.string s2), (.bool true), (.bool true), (.slice (some ⟨b, o, none⟩) N c), (.int .i64 q), (.pointer (some ⟨b, o + q, none⟩)), (.string s1), undef, (.agg (u8s X1).toArray), (.slice (some ⟨b, o, none⟩) N c), (.int .i64 k), (.pointer (some ⟨b, o + k, none⟩)), (.string s2), undef, (.agg (u8s X2).toArray), (.bool bo), (.bool bo)]) (fun w4 => OrI w p b1 n M p2 b2 0 [] w4) (fun a b => Below a.heap.size a b) (HOI.out.ext (below_drewN (Below.refl _ _) 1)) (fun _ _ _ _ hb hv => hv.keep hb) ?_ ?_
                  · refine of_allOps ⟨?_, ?_, ?_, ?_, ?_, ?_, ?_, ?_, ?_, ?_, ?_, ?_, ?_, ?_, ?_, ?_, ?_, ?_, ?_, ?_, ?_, ?_, ?_, ?_, trivial⟩
                    · intro T2 w2 hM hN hO hE K hK
                      have o0 : T2[0]? = some (.slice (some ⟨b, o, none⟩) N c) := hO 0 rfl
                      clear hE hO hN
                      refine step_plain0 rfl ?_
                      go_simp
                      exact hK _ _ rfl hM (Below.refl _ _)
                    · intro T2 w2 hM hN hO hE K hK
                      have o8 : T2[8]? = some (.int .i64 q) := hO 8 rfl
                      clear hE hO hN
                      refine step_plain0 rfl ?_
                      go_simp
                      exact hK _ _ rfl hM (Below.refl _ _)
                    · intro T2 w2 hM hN hO hE K hK
                      obtain ⟨v0, h0, e0⟩ := hE ⟨0, .data⟩ (by simp) rfl _ _ rfl rfl
                      rw [show v0 = .slice (some ⟨b, o, none⟩) N c from (Option.some.inj e0).symm] at h0
                      obtain ⟨v1, h1, e1⟩ := hE ⟨1, .data⟩ (by simp) rfl _ _ rfl rfl
                      rw [show v1 = .int .i64 q from (Option.some.inj e1).symm] at h1
                      clear hE hO hN
                      refine step_plain0 rfl ?_
                      go_simp
                      exact hK _ _ rfl hM (Below.refl _ _)
                    · intro T2 w2 hM hN hO hE K hK
                      obtain ⟨v2, h2, e2⟩ := hE ⟨2, .data⟩ (by simp) rfl _ _ rfl rfl
                      rw [show v2 = .pointer (some ⟨b, o + q, none⟩) from (Option.some.inj e2).symm] at h2
                      clear hE hO hN
                      refine step_plain0 rfl ?_
                      have cc := HC1.out w2 hM.low
                      go_simp
                      exact hK _ _ rfl hM (Below.refl _ _)
                    · intro T2 w2 hM hN hO hE K hK
                      have o0 : T2[0]? = some (.slice (some ⟨b, o, none⟩) N c) := hO 0 rfl
                      clear hE hO hN
                      refine step_plain0 rfl ?_
                      go_simp
                      exact hK _ _ rfl hM (Below.refl _ _)
                    · intro T2 w2 hM hN hO hE K hK
                      have o7 : T2[7]? = some (.int .i64 k) := hO 7 rfl
                      clear hE hO hN
                      refine step_plain0 rfl ?_
                      go_simp
                      exact hK _ _ rfl hM (Below.refl _ _)
                    · intro T2 w2 hM hN hO hE K hK
                      obtain ⟨v4, h4, e4⟩ := hE ⟨4, .data⟩ (by simp) rfl _ _ rfl rfl
                      rw [show v4 = .slice (some ⟨b, o, none⟩) N c from (Option.some.inj e4).symm] at h4
                      obtain ⟨v5, h5, e5⟩ := hE ⟨5, .data⟩ (by simp) rfl _ _ rfl rfl
                      rw [show v5 = .int .i64 k from (Option.some.inj e5).symm] at h5
                      clear hE hO hN
                      refine step_plain0 rfl ?_
                      go_simp
                      exact hK _ _ rfl hM (Below.refl _ _)
                    · intro T2 w2 hM hN hO hE K hK
                      obtain ⟨v6, h6, e6⟩ := hE ⟨6, .data⟩ (by simp) rfl _ _ rfl rfl
                      rw [show v6 = .pointer (some ⟨b, o + k, none⟩) from (Option.some.inj e6).symm] at h6
                      clear hE hO hN
                      refine step_plain0 rfl ?_
                      have cc := HC2.out w2 hM.low
                      go_simp
                      exact hK _ _ rfl hM (Below.refl _ _)
                    · intro T2 w2 hM hN hO hE K hK
                      obtain ⟨v3, h3, e3⟩ := hE ⟨3, .data⟩ (by simp) rfl _ _ rfl rfl
                      rw [show v3 = .string s1 from (Option.some.inj e3).symm] at h3
                      obtain ⟨v7, h7, e7⟩ := hE ⟨7, .data⟩ (by simp) rfl _ _ rfl rfl
                      rw [show v7 = .string s2 from (Option.some.inj e7).symm] at h7
                      clear hE hO hN
                      refine step_plain0 rfl ?_
                      go_simp
                      exact hK _ _ rfl hM (Below.refl _ _)
                    · intro T2 w2 hM hN hO hE K hK
                      obtain ⟨v8, h8, e8⟩ := hE ⟨8, .data⟩ (by simp) rfl _ _ rfl rfl
                      rw [show v8 = .bool true from (Option.some.inj e8).symm] at h8
                      clear hE hO hN
                      refine step_plain0 rfl ?_
                      go_simp
                      exact hK _ _ rfl hM (Below.refl _ _)
                    · intro T2 w2 hM hN hO hE K hK
                      obtain ⟨v9, h9, e9⟩ := hE ⟨9, .guard⟩ (by simp) rfl _ _ rfl rfl
                      rw [show v9 = .bool true from (Option.some.inj e9).symm] at h9
                      have o0 : T2[0]? = some (.slice (some ⟨b, o, none⟩) N c) := hO 0 rfl
                      clear hE hO hN
                      refine grd_met rfl rfl rfl h9 ?_
                      go_simp
                      exact hK _ _ rfl hM (Below.refl _ _)
                    · intro T2 w2 hM hN hO hE K hK
                      obtain ⟨v9, h9, e9⟩ := hE ⟨9, .guard⟩ (by simp) rfl _ _ rfl rfl
                      rw [show v9 = .bool true from (Option.some.inj e9).symm] at h9
                      have o8 : T2[8]? = some (.int .i64 q) := hO 8 rfl
                      clear hE hO hN
                      refine grd_met rfl rfl rfl h9 ?_
                      go_simp
                      exact hK _ _ rfl hM (Below.refl _ _)
                    · intro T2 w2 hM hN hO hE K hK
                      obtain ⟨v10, h10, e10⟩ := hE ⟨10, .data⟩ (by simp) rfl _ _ rfl rfl
                      rw [show v10 = .slice (some ⟨b, o, none⟩) N c from (Option.some.inj e10).symm] at h10
                      obtain ⟨v11, h11, e11⟩ := hE ⟨11, .data⟩ (by simp) rfl _ _ rfl rfl
                      rw [show v11 = .int .i64 q from (Option.some.inj e11).symm] at h11
                      obtain ⟨v9, h9, e9⟩ := hE ⟨9, .guard⟩ (by simp) rfl _ _ rfl rfl
                      rw [show v9 = .bool true from (Option.some.inj e9).symm] at h9
                      clear hE hO hN
                      refine grd_met rfl rfl rfl h9 ?_
                      go_simp
                      exact hK _ _ rfl hM (Below.refl _ _)
                    · intro T2 w2 hM hN hO hE K hK
                      obtain ⟨v12, h12, e12⟩ := hE ⟨12, .data⟩ (by simp) rfl _ _ rfl rfl
                      rw [show v12 = .pointer (some ⟨b, o + q, none⟩) from (Option.some.inj e12).symm] at h12
                      obtain ⟨v9, h9, e9⟩ := hE ⟨9, .guard⟩ (by simp) rfl _ _ rfl rfl
                      rw [show v9 = .bool true from (Option.some.inj e9).symm] at h9
                      clear hE hO hN
                      refine grd_met rfl rfl rfl h9 ?_
                      have cc := HC1.out w2 hM.low
                      go_simp
                      exact hK _ _ rfl hM (Below.refl _ _)
                    · intro T2 w2 hM hN hO hE K hK
                      obtain ⟨v13, h13, e13⟩ := hE ⟨13, .data⟩ (by simp) rfl _ _ rfl rfl
                      rw [show v13 = .string s1 from (Option.some.inj e13).symm] at h13
                      obtain ⟨v9, h9, e9⟩ := hE ⟨9, .guard⟩ (by simp) rfl _ _ rfl rfl
                      rw [show v9 = .bool true from (Option.some.inj e9).symm] at h9
                      clear hE hO hN
                      refine grd_met rfl rfl rfl h9 ?_
                      go_simp
                      exact hK _ _ ⟨_, rfl, Rd.one _ _ _⟩ (hM.ext ((Below.refl _ _).alloc (Nat.le_refl _) _)) ((Below.refl _ _).alloc (Nat.le_refl _) _)
                    · intro T2 w2 hM hN hO hE K hK
                      obtain ⟨v14, h14, ⟨gg, hg1, hg2⟩⟩ := hE ⟨14, .data⟩ (by simp) rfl _ _ rfl rfl
                      obtain ⟨v9, h9, e9⟩ := hE ⟨9, .guard⟩ (by simp) rfl _ _ rfl rfl
                      rw [show v9 = .bool true from (Option.some.inj e9).symm] at h9
                      clear hE hO hN
                      refine grd_met rfl rfl rfl h9 ?_
                      obtain rfl := hg1
                      go_simp
                      refine (HS1.out w2 gg hg2).mono ?_
                      rintro e w3 ⟨rfl, hb⟩
                      exact hK _ _ rfl (hM.ext hb) hb
                    · intro T2 w2 hM hN hO hE K hK
                      obtain ⟨v9, h9, e9⟩ := hE ⟨9, .guard⟩ (by simp) rfl _ _ rfl rfl
                      rw [show v9 = .bool true from (Option.some.inj e9).symm] at h9
                      have o0 : T2[0]? = some (.slice (some ⟨b, o, none⟩) N c) := hO 0 rfl
                      clear hE hO hN
                      refine grd_met rfl rfl rfl h9 ?_
                      go_simp
                      exact hK _ _ rfl hM (Below.refl _ _)
                    · intro T2 w2 hM hN hO hE K hK
                      obtain ⟨v9, h9, e9⟩ := hE ⟨9, .guard⟩ (by simp) rfl _ _ rfl rfl
                      rw [show v9 = .bool true from (Option.some.inj e9).symm] at h9
                      have o7 : T2[7]? = some (.int .i64 k) := hO 7 rfl
                      clear hE hO hN
                      refine grd_met rfl rfl rfl h9 ?_
                      go_simp
                      exact hK _ _ rfl hM (Below.refl _ _)
                    · intro T2 w2 hM hN hO hE K hK
                      obtain ⟨v16, h16, e16⟩ := hE ⟨16, .data⟩ (by simp) rfl _ _ rfl rfl
                      rw [show v16 = .slice (some ⟨b, o, none⟩) N c from (Option.some.inj e16).symm] at h16
                      obtain ⟨v17, h17, e17⟩ := hE ⟨17, .data⟩ (by simp) rfl _ _ rfl rfl
                      rw [show v17 = .int .i64 k from (Option.some.inj e17).symm] at h17
                      obtain ⟨v9, h9, e9⟩ := hE ⟨9, .guard⟩ (by simp) rfl _ _ rfl rfl
                      rw [show v9 = .bool true from (Option.some.inj e9).symm] at h9
                      clear hE hO hN
                      refine grd_met rfl rfl rfl h9 ?_
                      go_simp
                      exact hK _ _ rfl hM (Below.refl _ _)
                    · intro T2 w2 hM hN hO hE K hK
                      obtain ⟨v18, h18, e18⟩ := hE ⟨18, .data⟩ (by simp) rfl _ _ rfl rfl
                      rw [show v18 = .pointer (some ⟨b, o + k, none⟩) from (Option.some.inj e18).symm] at h18
                      obtain ⟨v9, h9, e9⟩ := hE ⟨9, .guard⟩ (by simp) rfl _ _ rfl rfl
                      rw [show v9 = .bool true from (Option.some.inj e9).symm] at h9
                      clear hE hO hN
                      refine grd_met rfl rfl rfl h9 ?_
                      have cc := HC2.out w2 hM.low
                      go_simp
                      exact hK _ _ rfl hM (Below.refl _ _)
                    · intro T2 w2 hM hN hO hE K hK
                      obtain ⟨v19, h19, e19⟩ := hE ⟨19, .data⟩ (by simp) rfl _ _ rfl rfl
                      rw [show v19 = .string s2 from (Option.some.inj e19).symm] at h19
                      obtain ⟨v9, h9, e9⟩ := hE ⟨9, .guard⟩ (by simp) rfl _ _ rfl rfl
                      rw [show v9 = .bool true from (Option.some.inj e9).symm] at h9
                      clear hE hO hN
                      refine grd_met rfl rfl rfl h9 ?_
                      go_simp
                      exact hK _ _ ⟨_, rfl, Rd.one _ _ _⟩ (hM.ext ((Below.refl _ _).alloc (Nat.le_refl _) _)) ((Below.refl _ _).alloc (Nat.le_refl _) _)
                    · intro T2 w2 hM hN hO hE K hK
                      obtain ⟨v20, h20, ⟨gg, hg1, hg2⟩⟩ := hE ⟨20, .data⟩ (by simp) rfl _ _ rfl rfl
                      obtain ⟨v9, h9, e9⟩ := hE ⟨9, .guard⟩ (by simp) rfl _ _ rfl rfl
                      rw [show v9 = .bool true from (Option.some.inj e9).symm] at h9
                      clear hE hO hN
                      refine grd_met rfl rfl rfl h9 ?_
                      obtain rfl := hg1
                      go_simp
                      refine (HS2'.out w2 gg hg2).mono ?_
                      rintro e w3 ⟨rfl, hb⟩
                      exact hK _ _ rfl (hM.ext hb) hb
                    · intro T2 w2 hM hN hO hE K hK
                      obtain ⟨v15, h15, e15⟩ := hE ⟨15, .data⟩ (by simp) rfl _ _ rfl rfl
                      rw [show v15 = .agg (u8s X1).toArray from (Option.some.inj e15).symm] at h15
                      obtain ⟨v21, h21, e21⟩ := hE ⟨21, .data⟩ (by simp) rfl _ _ rfl rfl
                      rw [show v21 = .agg (u8s X2).toArray from (Option.some.inj e21).symm] at h21
                      obtain ⟨v9, h9, e9⟩ := hE ⟨9, .guard⟩ (by simp) rfl _ _ rfl rfl
                      rw [show v9 = .bool true from (Option.some.inj e9).symm] at h9
                      clear hE hO hN
                      refine grd_met rfl rfl rfl h9 ?_
                      go_simp
                      exact hK _ _ rfl hM (Below.refl _ _)
                    · intro T2 w2 hM hN hO hE K hK
                      obtain ⟨v9, h9, e9⟩ := hE ⟨9, .data⟩ (by simp) rfl _ _ rfl rfl
                      rw [show v9 = .bool true from (Option.some.inj e9).symm] at h9
                      obtain ⟨v22, h22, e22⟩ := hE ⟨22, .data⟩ (by simp) rfl _ _ rfl rfl
                      rw [show v22 = .bool bo from (Option.some.inj e22).symm] at h22
                      clear hE hO hN
                      refine step_plain0 rfl ?_
                      go_simp
                      exact hK _ _ rfl hM (Below.refl _ _)
                  · intro u w2 hM hF
                    have e23 : u 23 = .bool bo := (Option.some.inj (hF 23 (by omega))).symm
                    clear hF
                    simp only [fillAll, Nat.reduceAdd, e23, List.take_succ_cons, List.take_zero, List.drop_succ_cons, List.drop_zero, List.setIfInBounds_toArray, List.set_cons_succ, List.set_cons_zero]
                    have HOM := hid2 hM
                    clear hM
                    cases bo with
                    | true =>
                      go_wp2_with fail
                      go_ret
                      exact ⟨rfl, HOM.out.low⟩
                    | false =>
                      go_wp2_with fail
                      go_roundg (gk - 1)
                      case rel => exact ⟨q + 1, by omega, by go_num, HOM.out, fun j y hj hy he => by
                        rcases Nat.lt_succ_iff_lt_or_eq.1 hj with h | rfl
                        · exact HAP.out j y h hy he
                        · rw [HX1.out] at hy
                          obtain rfl := Option.some.inj hy
                          exact absurd he (HNE.out (by simp))⟩
                      case measure => omega
              · have hqe : q = k := by omega
                have hqk' : ¬ (q : Int) < k := by omega
                have HAP2 := hid2 (show ∀ j y, j < k → ps[j]? = some y → keyT y = keyT s2 → y = s2 from hqe ▸ HAP.out)
                have cc0 := HC2.out wr HOI.out.low
                clear hqe hqk
                go_wp2_with (first
                  | (go_at_call 30; refine (or_put1 HOI.out (by omega) (by omega) s2 (by omega)).mono ?_; rintro e w5 ⟨rfl, hoi⟩; have HOI5 := hid2 hoi; clear hoi))
                go_roundg (g0 - 1)
                case rel => exact ⟨k + 1, n + 1, _, by omega, by go_num, by rw [take_snoc HX2.out, putsM_snoc, ← HM0.out], ⟨fun i x hi hx => by
                    rcases Nat.lt_succ_iff_lt_or_eq.1 hi with h | rfl
                    · exact HSO.out.small i x h hx
                    · rw [HX2.out] at hx
                      obtain rfl := Option.some.inj hx
                      exact hsz, fun i j x y hi hj hx hy he => by
                    rcases Nat.lt_succ_iff_lt_or_eq.1 hi with h | rfl
                    · exact HSO.out.apart i j x y h hj hx hy he
                    · rw [HX2.out] at hx
                      obtain rfl := Option.some.inj hx
                      exact HAP2.out j y hj hy he⟩, by omega, HOI5.out⟩
                case measure => omega
          · have g3 : ((300 : Int) < (s2.size : Int)) = True := eq_true (by omega)
            go_wp2_with fail
            go_ret
            exact ⟨rfl, HOI.out.low⟩
        · have hkN : k = N := by omega
          have hlt' : ¬ (k : Int) < N := by omega
          have hps : ps.take k = ps := by rw [hkN, HN.out, List.take_length]
          have hso : SoFar ps ps.length := by have := HSO.out; rwa [hkN, HN.out] at this
          have HNC := hid2 hso.all
          have HSM := hid2 (show ∀ x ∈ ps, x.size ≤ 300 from fun x hx => by
            obtain ⟨i, hi⟩ := List.getElem?_of_mem hx
            exact hso.small i x (List.getElem?_eq_some_iff.1 hi).1 hi)
          have HMA := hid2 (show M = putsM [] ps from by rw [HM0.out, hps])
          have hnk' : n ≤ N := by omega
          clear hso hps hlt
          by_cases hN0 : N = 0
          · have hNz : ((0 : Int) < (N : Int)) = False := eq_false (by omega)
            have hNz' : decide ((0 : Int) < (N : Int)) = false := decide_eq_false (by omega)
            have hwN : IntKind.i64.wrap ((N : Int) - 1) = -1 := by rw [IntWalk.i64_in _ (by constructor <;> omega)]; omega
            have hps0 : ps = [] := List.eq_nil_of_length_eq_zero (by rw [← HN.out]; exact hN0)
            have hM00 : M = [] := by rw [HMA.out, hps0]; rfl
            have HM00 := hid2 hM00
            have HN0 := hid2 hN0
            clear hps0 hM00
            go_wp2_with fail
            go_loopg [9] Q (fun gk i wr => gk = Q ∧ i = .int .i64 0 ∧ OrI w p b1 n M p2 b2 0 [] wr)
            case atStart => exact ⟨rfl, rfl, HOI.out⟩
            case round =>
              clear HOI
              obtain ⟨hgk, rfl, hoi⟩ := hrel
              have HOI := hid2 hoi
              clear hoi hgk
              by_cases hQ0 : Q = 0
              · have hqz : ((0 : Int) < (Q : Int)) = False := eq_false (by omega)
                have hqz' : ¬ (0 : Int) < (Q : Int) := by omega
                go_wp2_with fail
                go_loopg [10] N (fun gk i wr => i = .int .i64 (-1) ∧ OrI w p b1 n M p2 b2 0 [] wr)
                case atStart => exact ⟨rfl, HOI.out⟩
                case round =>
                  clear HOI
                  obtain ⟨rfl, hoi⟩ := hrel
                  have HOI := hid2 hoi
                  clear hoi
                  have hoi2 : OrI w p b1 n M p2 b2 0 M wr := by have h := HOI.out; rw [HM00.out] at h ⊢; exact h
                  have hKO : KeysOk M := by rw [HM00.out]; intro x h; cases h
                  have cA1 := all_any sorts_dig wr p b1 n M _ hoi2.st (by omega)
                  have cA2 : ∀ W, Below wr.heap.size wr W → Calls Try.prog 34 #[.pointer (some ⟨p2, 0, none⟩)] W fun e w' => ∃ A c, e = .returned (.slice A M.length c) ∧ Own w' W.heap.size 39 32 A M.length c (keysV M) ∧ Below W.heap.size W w' := fun W hW => all_any sorts_dig W p2 b2 0 M _ (hoi2.ext hW).st2 (by omega)
                  have cZ1 : ∀ W, Below wr.heap.size wr W → Calls Try.prog 35 #[.pointer (some ⟨p, 0, none⟩)] W fun e w' => e = .returned (.int .i64 (sizeM M)) ∧ w' = W := fun W hW => size_any W p b1 n M _ (hoi2.ext hW).st
                  have cZ2 : ∀ W, Below wr.heap.size wr W → Calls Try.prog 35 #[.pointer (some ⟨p2, 0, none⟩)] W fun e w' => e = .returned (.int .i64 (sizeM M)) ∧ w' = W := fun W hW => size_any W p2 b2 0 M _ (hoi2.ext hW).st2
                  have hri := hoi2.st.map.rises keyed_dig
                  have hml := hoi2.st.map.length_le
                  have hnB : n ≤ N := hnk'
                  obtain ⟨N3, hN3⟩ : ∃ N3, N3 = M.length := ⟨_, rfl⟩
                  obtain ⟨z, hz⟩ : ∃ z, z = sizeM M := ⟨_, rfl⟩
                  rw [← hN3] at cA1 cA2 hml
                  rw [← hz] at cZ1 cZ2
                  have CA1 := hid2 cA1
                  have CA2 := hid2 cA2
                  have CZ1 := hid2 cZ1
                  have CZ2 := hid2 cZ2
                  have HRI := hid2 hri
                  have HN3 := hid2 hN3
                  have HKO := hid2 hKO
                  have HLOW := hid2 hoi2.low
                  clear hoi2 cA1 cA2 cZ1 cZ2 hri hN3 hz hKO
                  go_wp2_with (first
                    | (go_at_call 34; (first
                        | ((with_reducible refine CA1.out.mono ?_); rintro e w6 ⟨K1, kc1, rfl, ho, hb⟩; have HO1 := hid2 ho; have HB6 := hid2 hb; clear ho hb)
                        | ((with_reducible refine (CA2.out _ HB6.out).mono ?_); rintro e w7 ⟨K2, kc2, rfl, ho, hb⟩; have HO2 := hid2 ho.rd; have HO1' := hid2 (HO1.out.rd.below_all hb); have HB7 := hid2 (HB6.out.trans (hb.mono HB6.out.size)); clear ho hb HO1)))
                    | (go_at_call 35; (first
                        | ((with_reducible refine (CZ1.out _ HB7.out).mono ?_); rintro e w8 ⟨rfl, rfl⟩)
                        | ((with_reducible refine (CZ2.out _ HB7.out).mono ?_); rintro e w8 ⟨rfl, rfl⟩))))
                  go_loopg [13] N3 (fun gk i wr => ∃ k : Nat, k + gk = N3 ∧ i = .int .i64 k ∧ Below w8.heap.size w8 wr)
                  case atStart => exact ⟨0, by omega, rfl, Below.refl _ _⟩
                  case round =>
                    obtain ⟨k, hk, rfl, hb⟩ := hrel
                    have HB8 := hid2 hb
                    clear hb
                    by_cases hlt : k < N3
                    · have hlt' : (k : Int) < N3 := by omega
                      have hk0 : (0 : Int) ≤ k := by omega
                      obtain ⟨x, hx⟩ : ∃ x, M[k]? = some x := ⟨_, List.getElem?_eq_getElem (by rw [← HN3.out]; exact hlt)⟩
                      have hX32 := HKO.out.at_ hx
                      obtain ⟨kb1, ko1, rfl, _⟩ := key_load HKO.out (by rw [← HN3.out]; exact HO1'.out) hx
                      obtain ⟨kb2, ko2, rfl, _⟩ := key_load HKO.out (by rw [← HN3.out]; exact HO2.out) hx
                      obtain ⟨X, hX⟩ : ∃ X, X = x.1 := ⟨_, rfl⟩
                      have hl1 : ∀ W, Below w8.heap.size w8 W → (loadVar 39 ⟨kb1, ko1 + k * 32, none⟩).run Try.prog W = .ok (.agg (u8s X).toArray) W := fun W hW => by
                        obtain ⟨b', o', e, hc⟩ := key_load HKO.out (by rw [← HN3.out]; exact HO1'.out.below_all hW) hx
                        cases e
                        rw [hX]
                        exact hc
                      have hl2 : ∀ W, Below w8.heap.size w8 W → (loadVar 39 ⟨kb2, ko2 + k * 32, none⟩).run Try.prog W = .ok (.agg (u8s X).toArray) W := fun W hW => by
                        obtain ⟨b', o', e, hc⟩ := key_load HKO.out (by rw [← HN3.out]; exact HO2.out.below_all hW) hx
                        cases e
                        rw [hX]
                        exact hc
                      rw [← hX] at hX32
                      have heq : ∀ W, (binOp .neq 39 (.agg (u8s X).toArray) (.agg (u8s X).toArray)).run Try.prog W = .ok (.bool false) W := fun W => (run_neq_dig X X hX32 hX32 W).trans (by rw [beq_self_eq_true]; rfl)
                      have HL1 := hid2 hl1
                      have HL2 := hid2 hl2
                      have HXX := hid2 hX
                      have HX := hid2 hx
                      clear hl1 hl2 hX hx hlt
                      by_cases hz0 : k = 0
                      · have gz : ((0 : Int) < (k : Int)) = False := eq_false (by omega)
                        have gz' : decide ((0 : Int) < (k : Int)) = false := decide_eq_false (by omega)
                        have gzn : decide (0 < k) = false := decide_eq_false (by omega)
                        clear hz0
                        go_wp2_with fail
                        refine wp_region_grd 26 (by kernel_rfl) (by kernel_rfl) (by kernel_rfl) _ rfl (by kernel_rfl) (fun j v _ => ([.slice (some ⟨kb1, ko1, none⟩) N3 kc1, .int .i64 k, .pointer (some ⟨kb1, ko1 + k * 32, none⟩), .agg (u8s X).toArray, .slice (some ⟨kb2, ko2, none⟩) N3 kc2, .int .i64 k, .pointer (some ⟨kb2, ko2 + k * 32, none⟩), .agg (u8s X).toArray, .bool false, .bool false, .int .i64 k, .bool false, .bool false, undef, undef, undef, undef, undef, undef, undef, undef, undef, undef, undef, .bool false, .bool false] : List Value)[j]? = some v) (fun w4 => Below w8.heap.size w8 w4) (fun a b => Below a.heap.size a b) (below_drewN HB8.out 1) (fun _ _ _ _ hb hv => hv) ?_ ?_
                        · refine of_allOps ⟨?_, ?_, ?_, ?_, ?_, ?_, ?_, ?_, ?_, ?_, ?_, ?_, ?_, ?_, ?_, ?_, ?_, ?_, ?_, ?_, ?_, ?_, ?_, ?_, ?_, ?_, trivial⟩
                          · intro T2 w2 hM hN hO hE K hK
                            have o11 : T2[11]? = some (.slice (some ⟨kb1, ko1, none⟩) N3 kc1) := hO 11 rfl
                            clear hE hO hN
                            refine step_plain0 rfl ?_
                            go_simp
                            exact hK _ _ rfl hM (Below.refl _ _)
                          · intro T2 w2 hM hN hO hE K hK
                            have o13 : T2[13]? = some (.int .i64 k) := hO 13 rfl
                            clear hE hO hN
                            refine step_plain0 rfl ?_
                            go_simp
                            exact hK _ _ rfl hM (Below.refl _ _)
                          · intro T2 w2 hM hN hO hE K hK
                            obtain ⟨v0, h0, e0⟩ := hE ⟨0, .data⟩ (by simp) rfl _ _ rfl rfl
                            rw [show v0 = .slice (some ⟨kb1, ko1, none⟩) N3 kc1 from (Option.some.inj e0).symm] at h0
                            obtain ⟨v1, h1, e1⟩ := hE ⟨1, .data⟩ (by simp) rfl _ _ rfl rfl
                            rw [show v1 = .int .i64 k from (Option.some.inj e1).symm] at h1
                            clear hE hO hN
                            refine step_plain0 rfl ?_
                            go_simp
                            exact hK _ _ rfl hM (Below.refl _ _)
                          · intro T2 w2 hM hN hO hE K hK
                            obtain ⟨v2, h2, e2⟩ := hE ⟨2, .data⟩ (by simp) rfl _ _ rfl rfl
                            rw [show v2 = .pointer (some ⟨kb1, ko1 + k * 32, none⟩) from (Option.some.inj e2).symm] at h2
                            clear hE hO hN
                            refine step_plain0 rfl ?_
                            refine wp_load_run 39 (.tmp 134) rfl (HL1.out w2 hM) ?_ ?_
                            · simp [Act.eval, h2]
                            · exact hK _ _ rfl hM (Below.refl _ _)
                          · intro T2 w2 hM hN hO hE K hK
                            have o12 : T2[12]? = some (.slice (some ⟨kb2, ko2, none⟩) N3 kc2) := hO 12 rfl
                            clear hE hO hN
                            refine step_plain0 rfl ?_
                            go_simp
                            exact hK _ _ rfl hM (Below.refl _ _)
                          · intro T2 w2 hM hN hO hE K hK
                            have o13 : T2[13]? = some (.int .i64 k) := hO 13 rfl
                            clear hE hO hN
                            refine step_plain0 rfl ?_
                            go_simp
                            exact hK _ _ rfl hM (Below.refl _ _)
                          · intro T2 w2 hM hN hO hE K hK
                            obtain ⟨v4, h4, e4⟩ := hE ⟨4, .data⟩ (by simp) rfl _ _ rfl rfl
                            rw [show v4 = .slice (some ⟨kb2, ko2, none⟩) N3 kc2 from (Option.some.inj e4).symm] at h4
                            obtain ⟨v5, h5, e5⟩ := hE ⟨5, .data⟩ (by simp) rfl _ _ rfl rfl
                            rw [show v5 = .int .i64 k from (Option.some.inj e5).symm] at h5
                            clear hE hO hN
                            refine step_plain0 rfl ?_
                            go_simp
                            exact hK _ _ rfl hM (Below.refl _ _)
                          · intro T2 w2 hM hN hO hE K hK
                            obtain ⟨v6, h6, e6⟩ := hE ⟨6, .data⟩ (by simp) rfl _ _ rfl rfl
                            rw [show v6 = .pointer (some ⟨kb2, ko2 + k * 32, none⟩) from (Option.some.inj e6).symm] at h6
                            clear hE hO hN
                            refine step_plain0 rfl ?_
                            refine wp_load_run 39 (.tmp 138) rfl (HL2.out w2 hM) ?_ ?_
                            · simp [Act.eval, h6]
                            · exact hK _ _ rfl hM (Below.refl _ _)
                          · intro T2 w2 hM hN hO hE K hK
                            obtain ⟨v3, h3, e3⟩ := hE ⟨3, .data⟩ (by simp) rfl _ _ rfl rfl
                            rw [show v3 = .agg (u8s X).toArray from (Option.some.inj e3).symm] at h3
                            obtain ⟨v7, h7, e7⟩ := hE ⟨7, .data⟩ (by simp) rfl _ _ rfl rfl
                            rw [show v7 = .agg (u8s X).toArray from (Option.some.inj e7).symm] at h7
                            clear hE hO hN
                            refine step_plain0 rfl ?_
                            go_simp
                            exact hK _ _ rfl hM (Below.refl _ _)
                          · intro T2 w2 hM hN hO hE K hK
                            obtain ⟨v8, h8, e8⟩ := hE ⟨8, .data⟩ (by simp) rfl _ _ rfl rfl
                            rw [show v8 = .bool false from (Option.some.inj e8).symm] at h8
                            clear hE hO hN
                            refine step_plain0 rfl ?_
                            go_simp
                            exact hK _ _ rfl hM (Below.refl _ _)
                          · intro T2 w2 hM hN hO hE K hK
                            obtain ⟨v9, h9, e9⟩ := hE ⟨9, .guard⟩ (by simp) rfl _ _ rfl rfl
                            rw [show v9 = .bool false from (Option.some.inj e9).symm] at h9
                            have o13 : T2[13]? = some (.int .i64 k) := hO 13 rfl
                            clear hE hO hN
                            refine grd_met rfl rfl rfl h9 ?_
                            go_simp
                            exact hK _ _ rfl hM (Below.refl _ _)
                          · intro T2 w2 hM hN hO hE K hK
                            obtain ⟨v10, h10, e10⟩ := hE ⟨10, .data⟩ (by simp) rfl _ _ rfl rfl
                            rw [show v10 = .int .i64 k from (Option.some.inj e10).symm] at h10
                            obtain ⟨v9, h9, e9⟩ := hE ⟨9, .guard⟩ (by simp) rfl _ _ rfl rfl
                            rw [show v9 = .bool false from (Option.some.inj e9).symm] at h9
                            clear hE hO hN
                            refine grd_met rfl rfl rfl h9 ?_
                            go_simp
                            exact hK _ _ rfl hM (Below.refl _ _)
                          · intro T2 w2 hM hN hO hE K hK
                            obtain ⟨v11, h11, e11⟩ := hE ⟨11, .data⟩ (by simp) rfl _ _ rfl rfl
                            rw [show v11 = .bool false from (Option.some.inj e11).symm] at h11
                            obtain ⟨v9, h9, e9⟩ := hE ⟨9, .guard⟩ (by simp) rfl _ _ rfl rfl
                            rw [show v9 = .bool false from (Option.some.inj e9).symm] at h9
                            clear hE hO hN
                            refine grd_met rfl rfl rfl h9 ?_
                            go_simp
                            exact hK _ _ rfl hM (Below.refl _ _)
                          · intro T2 w2 hM hN hO hE K hK
                            obtain ⟨v12, h12, e12⟩ := hE ⟨12, .guard⟩ (by simp) rfl _ _ rfl rfl
                            rw [show v12 = .bool false from (Option.some.inj e12).symm] at h12
                            clear hE hO hN
                            refine grd_not rfl rfl rfl h12 (by decide) ?_
                            exact hK _ _ rfl hM (Below.refl _ _)
                          · intro T2 w2 hM hN hO hE K hK
                            obtain ⟨v12, h12, e12⟩ := hE ⟨12, .guard⟩ (by simp) rfl _ _ rfl rfl
                            rw [show v12 = .bool false from (Option.some.inj e12).symm] at h12
                            clear hE hO hN
                            refine grd_not rfl rfl rfl h12 (by decide) ?_
                            exact hK _ _ rfl hM (Below.refl _ _)
                          · intro T2 w2 hM hN hO hE K hK
                            obtain ⟨v12, h12, e12⟩ := hE ⟨12, .guard⟩ (by simp) rfl _ _ rfl rfl
                            rw [show v12 = .bool false from (Option.some.inj e12).symm] at h12
                            clear hE hO hN
                            refine grd_not rfl rfl rfl h12 (by decide) ?_
                            exact hK _ _ rfl hM (Below.refl _ _)
                          · intro T2 w2 hM hN hO hE K hK
                            obtain ⟨v12, h12, e12⟩ := hE ⟨12, .guard⟩ (by simp) rfl _ _ rfl rfl
                            rw [show v12 = .bool false from (Option.some.inj e12).symm] at h12
                            clear hE hO hN
                            refine grd_not rfl rfl rfl h12 (by decide) ?_
                            exact hK _ _ rfl hM (Below.refl _ _)
                          · intro T2 w2 hM hN hO hE K hK
                            obtain ⟨v12, h12, e12⟩ := hE ⟨12, .guard⟩ (by simp) rfl _ _ rfl rfl
                            rw [show v12 = .bool false from (Option.some.inj e12).symm] at h12
                            clear hE hO hN
                            refine grd_not rfl rfl rfl h12 (by decide) ?_
                            exact hK _ _ rfl hM (Below.refl _ _)
                          · intro T2 w2 hM hN hO hE K hK
                            obtain ⟨v12, h12, e12⟩ := hE ⟨12, .guard⟩ (by simp) rfl _ _ rfl rfl
                            rw [show v12 = .bool false from (Option.some.inj e12).symm] at h12
                            clear hE hO hN
                            refine grd_not rfl rfl rfl h12 (by decide) ?_
                            exact hK _ _ rfl hM (Below.refl _ _)
                          · intro T2 w2 hM hN hO hE K hK
                            obtain ⟨v12, h12, e12⟩ := hE ⟨12, .guard⟩ (by simp) rfl _ _ rfl rfl
                            rw [show v12 = .bool false from (Option.some.inj e12).symm] at h12
                            clear hE hO hN
                            refine grd_not rfl rfl rfl h12 (by decide) ?_
                            exact hK _ _ rfl hM (Below.refl _ _)
                          · intro T2 w2 hM hN hO hE K hK
                            obtain ⟨v12, h12, e12⟩ := hE ⟨12, .guard⟩ (by simp) rfl _ _ rfl rfl
                            rw [show v12 = .bool false from (Option.some.inj e12).symm] at h12
                            clear hE hO hN
                            refine grd_not rfl rfl rfl h12 (by decide) ?_
                            exact hK _ _ rfl hM (Below.refl _ _)
                          · intro T2 w2 hM hN hO hE K hK
                            obtain ⟨v12, h12, e12⟩ := hE ⟨12, .guard⟩ (by simp) rfl _ _ rfl rfl
                            rw [show v12 = .bool false from (Option.some.inj e12).symm] at h12
                            clear hE hO hN
                            refine grd_not rfl rfl rfl h12 (by decide) ?_
                            exact hK _ _ rfl hM (Below.refl _ _)
                          · intro T2 w2 hM hN hO hE K hK
                            obtain ⟨v12, h12, e12⟩ := hE ⟨12, .guard⟩ (by simp) rfl _ _ rfl rfl
                            rw [show v12 = .bool false from (Option.some.inj e12).symm] at h12
                            clear hE hO hN
                            refine grd_not rfl rfl rfl h12 (by decide) ?_
                            exact hK _ _ rfl hM (Below.refl _ _)
                          · intro T2 w2 hM hN hO hE K hK
                            obtain ⟨v12, h12, e12⟩ := hE ⟨12, .guard⟩ (by simp) rfl _ _ rfl rfl
                            rw [show v12 = .bool false from (Option.some.inj e12).symm] at h12
                            clear hE hO hN
                            refine grd_not rfl rfl rfl h12 (by decide) ?_
                            exact hK _ _ rfl hM (Below.refl _ _)
                          · intro T2 w2 hM hN hO hE K hK
                            obtain ⟨v12, h12, e12⟩ := hE ⟨12, .data⟩ (by simp) rfl _ _ rfl rfl
                            rw [show v12 = .bool false from (Option.some.inj e12).symm] at h12
                            obtain ⟨v9, h9, e9⟩ := hE ⟨9, .guard⟩ (by simp) rfl _ _ rfl rfl
                            rw [show v9 = .bool false from (Option.some.inj e9).symm] at h9
                            clear hE hO hN
                            refine grd_met rfl rfl rfl h9 ?_
                            go_simp
                            exact hK _ _ rfl hM (Below.refl _ _)
                          · intro T2 w2 hM hN hO hE K hK
                            obtain ⟨v9, h9, e9⟩ := hE ⟨9, .data⟩ (by simp) rfl _ _ rfl rfl
                            rw [show v9 = .bool false from (Option.some.inj e9).symm] at h9
                            obtain ⟨v24, h24, e24⟩ := hE ⟨24, .data⟩ (by simp) rfl _ _ rfl rfl
                            rw [show v24 = .bool false from (Option.some.inj e24).symm] at h24
                            clear hE hO hN
                            refine step_plain0 rfl ?_
                            go_simp
                            exact hK _ _ rfl hM (Below.refl _ _)
                        · intro u w2 hM hF
                          have e25 : u 25 = .bool false := (Option.some.inj (hF 25 (by omega))).symm
                          clear hF
                          simp only [fillAll, Nat.reduceAdd, e25, List.take_succ_cons, List.take_zero, List.drop_succ_cons, List.drop_zero, List.setIfInBounds_toArray, List.set_cons_succ, List.set_cons_zero]
                          have HM8 := hid2 hM
                          clear hM
                          go_wp2_with fail
                          go_roundg (gk - 1)
                          case rel => exact ⟨k + 1, by omega, by go_num, HM8.out⟩
                          case measure => omega
                      · obtain ⟨q, hq⟩ : ∃ q : Nat, q + 1 = k := ⟨k - 1, by omega⟩
                        have gz : ((0 : Int) < (k : Int)) = True := eq_true (by omega)
                        have gz' : decide ((0 : Int) < (k : Int)) = true := decide_eq_true (by omega)
                        have gzn : decide (0 < k) = true := decide_eq_true (by omega)
                        have hkq : (k : Int) - 1 = (q : Int) := by omega
                        have hwk : IntKind.i64.wrap (q : Int) = (q : Int) := IntWalk.i64_in _ (by constructor <;> omega)
                        have hq0 : (0 : Int) ≤ q := by omega
                        have hqN : (q : Int) < N3 := by omega
                        obtain ⟨xp, hxp⟩ : ∃ x, M[q]? = some x := ⟨_, List.getElem?_eq_getElem (by rw [← HN3.out]; omega)⟩
                        have hP32 := HKO.out.at_ hxp
                        obtain ⟨XP, hXP⟩ : ∃ X, X = xp.1 := ⟨_, rfl⟩
                        have hlp : ∀ W, Below w8.heap.size w8 W → (loadVar 39 ⟨kb1, ko1 + q * 32, none⟩).run Try.prog W = .ok (.agg (u8s XP).toArray) W := fun W hW => by
                          obtain ⟨b', o', e, hc⟩ := key_load HKO.out (by rw [← HN3.out]; exact HO1'.out.below_all hW) hxp
                          cases e
                          rw [hXP]
                          exact hc
                        have hlt2 : decide (XP < X) = true := by
                          have hx := HX.out
                          rw [← hq] at hx
                          rw [hXP, HXX.out]
                          exact decide_eq_true (rises_next HRI.out hxp hx)
                        rw [← hXP] at hP32
                        have HLP := hid2 hlp
                        have HLT := hid2 hlt2
                        clear hlp hlt2 hXP hxp hz0 hq
                        go_wp2_with fail
                        refine wp_region_grd 26 (by kernel_rfl) (by kernel_rfl) (by kernel_rfl) _ rfl (by kernel_rfl) (fun j v _ => ([.slice (some ⟨kb1, ko1, none⟩) N3 kc1, .int .i64 k, .pointer (some ⟨kb1, ko1 + k * 32, none⟩), .agg (u8s X).toArray, .slice (some ⟨kb2, ko2, none⟩) N3 kc2, .int .i64 k, .pointer (some ⟨kb2, ko2 + k * 32, none⟩), .agg (u8s X).toArray, .bool false, .bool false, .int .i64 k, .bool true, .bool true, .slice (some ⟨kb1, ko1, none⟩) N3 kc1, .int .i64 k, .int .i64 q, .pointer (some ⟨kb1, ko1 + q * 32, none⟩), .agg (u8s XP).toArray, .slice (some ⟨kb1, ko1, none⟩) N3 kc1, .int .i64 k, .pointer (some ⟨kb1, ko1 + k * 32, none⟩), .agg (u8s X).toArray, .bool true, .bool false, .bool false, .bool false] : List Value)[j]? = some v) (fun w4 => Below w8.heap.size w8 w4) (fun a b => Below a.heap.size a b) (below_drewN HB8.out 1) (fun _ _ _ _ hb hv => hv) ?_ ?_
                        · refine of_allOps ⟨?_, ?_, ?_, ?_, ?_, ?_, ?_, ?_, ?_, ?_, ?_, ?_, ?_, ?_, ?_, ?_, ?_, ?_, ?_, ?_, ?_, ?_, ?_, ?_, ?_, ?_, trivial⟩
                          · intro T2 w2 hM hN hO hE K hK
                            have o11 : T2[11]? = some (.slice (some ⟨kb1, ko1, none⟩) N3 kc1) := hO 11 rfl
                            clear hE hO hN
                            refine step_plain0 rfl ?_
                            go_simp
                            exact hK _ _ rfl hM (Below.refl _ _)
                          · intro T2 w2 hM hN hO hE K hK
                            have o13 : T2[13]? = some (.int .i64 k) := hO 13 rfl
                            clear hE hO hN
                            refine step_plain0 rfl ?_
                            go_simp
                            exact hK _ _ rfl hM (Below.refl _ _)
                          · intro T2 w2 hM hN hO hE K hK
                            obtain ⟨v0, h0, e0⟩ := hE ⟨0, .data⟩ (by simp) rfl _ _ rfl rfl
                            rw [show v0 = .slice (some ⟨kb1, ko1, none⟩) N3 kc1 from (Option.some.inj e0).symm] at h0
                            obtain ⟨v1, h1, e1⟩ := hE ⟨1, .data⟩ (by simp) rfl _ _ rfl rfl
                            rw [show v1 = .int .i64 k from (Option.some.inj e1).symm] at h1
                            clear hE hO hN
                            refine step_plain0 rfl ?_
                            go_simp
                            exact hK _ _ rfl hM (Below.refl _ _)
                          · intro T2 w2 hM hN hO hE K hK
                            obtain ⟨v2, h2, e2⟩ := hE ⟨2, .data⟩ (by simp) rfl _ _ rfl rfl
                            rw [show v2 = .pointer (some ⟨kb1, ko1 + k * 32, none⟩) from (Option.some.inj e2).symm] at h2
                            clear hE hO hN
                            refine step_plain0 rfl ?_
                            refine wp_load_run 39 (.tmp 134) rfl (HL1.out w2 hM) ?_ ?_
                            · simp [Act.eval, h2]
                            · exact hK _ _ rfl hM (Below.refl _ _)
                          · intro T2 w2 hM hN hO hE K hK
                            have o12 : T2[12]? = some (.slice (some ⟨kb2, ko2, none⟩) N3 kc2) := hO 12 rfl
                            clear hE hO hN
                            refine step_plain0 rfl ?_
                            go_simp
                            exact hK _ _ rfl hM (Below.refl _ _)
                          · intro T2 w2 hM hN hO hE K hK
                            have o13 : T2[13]? = some (.int .i64 k) := hO 13 rfl
                            clear hE hO hN
                            refine step_plain0 rfl ?_
                            go_simp
                            exact hK _ _ rfl hM (Below.refl _ _)
                          · intro T2 w2 hM hN hO hE K hK
                            obtain ⟨v4, h4, e4⟩ := hE ⟨4, .data⟩ (by simp) rfl _ _ rfl rfl
                            rw [show v4 = .slice (some ⟨kb2, ko2, none⟩) N3 kc2 from (Option.some.inj e4).symm] at h4
                            obtain ⟨v5, h5, e5⟩ := hE ⟨5, .data⟩ (by simp) rfl _ _ rfl rfl
                            rw [show v5 = .int .i64 k from (Option.some.inj e5).symm] at h5
                            clear hE hO hN
                            refine step_plain0 rfl ?_
                            go_simp
                            exact hK _ _ rfl hM (Below.refl _ _)
                          · intro T2 w2 hM hN hO hE K hK
                            obtain ⟨v6, h6, e6⟩ := hE ⟨6, .data⟩ (by simp) rfl _ _ rfl rfl
                            rw [show v6 = .pointer (some ⟨kb2, ko2 + k * 32, none⟩) from (Option.some.inj e6).symm] at h6
                            clear hE hO hN
                            refine step_plain0 rfl ?_
                            refine wp_load_run 39 (.tmp 138) rfl (HL2.out w2 hM) ?_ ?_
                            · simp [Act.eval, h6]
                            · exact hK _ _ rfl hM (Below.refl _ _)
                          · intro T2 w2 hM hN hO hE K hK
                            obtain ⟨v3, h3, e3⟩ := hE ⟨3, .data⟩ (by simp) rfl _ _ rfl rfl
                            rw [show v3 = .agg (u8s X).toArray from (Option.some.inj e3).symm] at h3
                            obtain ⟨v7, h7, e7⟩ := hE ⟨7, .data⟩ (by simp) rfl _ _ rfl rfl
                            rw [show v7 = .agg (u8s X).toArray from (Option.some.inj e7).symm] at h7
                            clear hE hO hN
                            refine step_plain0 rfl ?_
                            go_simp
                            exact hK _ _ rfl hM (Below.refl _ _)
                          · intro T2 w2 hM hN hO hE K hK
                            obtain ⟨v8, h8, e8⟩ := hE ⟨8, .data⟩ (by simp) rfl _ _ rfl rfl
                            rw [show v8 = .bool false from (Option.some.inj e8).symm] at h8
                            clear hE hO hN
                            refine step_plain0 rfl ?_
                            go_simp
                            exact hK _ _ rfl hM (Below.refl _ _)
                          · intro T2 w2 hM hN hO hE K hK
                            obtain ⟨v9, h9, e9⟩ := hE ⟨9, .guard⟩ (by simp) rfl _ _ rfl rfl
                            rw [show v9 = .bool false from (Option.some.inj e9).symm] at h9
                            have o13 : T2[13]? = some (.int .i64 k) := hO 13 rfl
                            clear hE hO hN
                            refine grd_met rfl rfl rfl h9 ?_
                            go_simp
                            exact hK _ _ rfl hM (Below.refl _ _)
                          · intro T2 w2 hM hN hO hE K hK
                            obtain ⟨v10, h10, e10⟩ := hE ⟨10, .data⟩ (by simp) rfl _ _ rfl rfl
                            rw [show v10 = .int .i64 k from (Option.some.inj e10).symm] at h10
                            obtain ⟨v9, h9, e9⟩ := hE ⟨9, .guard⟩ (by simp) rfl _ _ rfl rfl
                            rw [show v9 = .bool false from (Option.some.inj e9).symm] at h9
                            clear hE hO hN
                            refine grd_met rfl rfl rfl h9 ?_
                            go_simp
                            exact hK _ _ rfl hM (Below.refl _ _)
                          · intro T2 w2 hM hN hO hE K hK
                            obtain ⟨v11, h11, e11⟩ := hE ⟨11, .data⟩ (by simp) rfl _ _ rfl rfl
                            rw [show v11 = .bool true from (Option.some.inj e11).symm] at h11
                            obtain ⟨v9, h9, e9⟩ := hE ⟨9, .guard⟩ (by simp) rfl _ _ rfl rfl
                            rw [show v9 = .bool false from (Option.some.inj e9).symm] at h9
                            clear hE hO hN
                            refine grd_met rfl rfl rfl h9 ?_
                            go_simp
                            exact hK _ _ rfl hM (Below.refl _ _)
                          · intro T2 w2 hM hN hO hE K hK
                            obtain ⟨v12, h12, e12⟩ := hE ⟨12, .guard⟩ (by simp) rfl _ _ rfl rfl
                            rw [show v12 = .bool true from (Option.some.inj e12).symm] at h12
                            have o11 : T2[11]? = some (.slice (some ⟨kb1, ko1, none⟩) N3 kc1) := hO 11 rfl
                            clear hE hO hN
                            refine grd_met rfl rfl rfl h12 ?_
                            go_simp
                            exact hK _ _ rfl hM (Below.refl _ _)
                          · intro T2 w2 hM hN hO hE K hK
                            obtain ⟨v12, h12, e12⟩ := hE ⟨12, .guard⟩ (by simp) rfl _ _ rfl rfl
                            rw [show v12 = .bool true from (Option.some.inj e12).symm] at h12
                            have o13 : T2[13]? = some (.int .i64 k) := hO 13 rfl
                            clear hE hO hN
                            refine grd_met rfl rfl rfl h12 ?_
                            go_simp
                            exact hK _ _ rfl hM (Below.refl _ _)
                          · intro T2 w2 hM hN hO hE K hK
                            obtain ⟨v14, h14, e14⟩ := hE ⟨14, .data⟩ (by simp) rfl _ _ rfl rfl
                            rw [show v14 = .int .i64 k from (Option.some.inj e14).symm] at h14
                            obtain ⟨v12, h12, e12⟩ := hE ⟨12, .guard⟩ (by simp) rfl _ _ rfl rfl
                            rw [show v12 = .bool true from (Option.some.inj e12).symm] at h12
                            clear hE hO hN
                            refine grd_met rfl rfl rfl h12 ?_
                            go_simp
                            exact hK _ _ rfl hM (Below.refl _ _)
                          · intro T2 w2 hM hN hO hE K hK
                            obtain ⟨v13, h13, e13⟩ := hE ⟨13, .data⟩ (by simp) rfl _ _ rfl rfl
                            rw [show v13 = .slice (some ⟨kb1, ko1, none⟩) N3 kc1 from (Option.some.inj e13).symm] at h13
                            obtain ⟨v15, h15, e15⟩ := hE ⟨15, .data⟩ (by simp) rfl _ _ rfl rfl
                            rw [show v15 = .int .i64 q from (Option.some.inj e15).symm] at h15
                            obtain ⟨v12, h12, e12⟩ := hE ⟨12, .guard⟩ (by simp) rfl _ _ rfl rfl
                            rw [show v12 = .bool true from (Option.some.inj e12).symm] at h12
                            clear hE hO hN
                            refine grd_met rfl rfl rfl h12 ?_
                            go_simp
                            exact hK _ _ rfl hM (Below.refl _ _)
                          · intro T2 w2 hM hN hO hE K hK
                            obtain ⟨v16, h16, e16⟩ := hE ⟨16, .data⟩ (by simp) rfl _ _ rfl rfl
                            rw [show v16 = .pointer (some ⟨kb1, ko1 + q * 32, none⟩) from (Option.some.inj e16).symm] at h16
                            obtain ⟨v12, h12, e12⟩ := hE ⟨12, .guard⟩ (by simp) rfl _ _ rfl rfl
                            rw [show v12 = .bool true from (Option.some.inj e12).symm] at h12
                            clear hE hO hN
                            refine grd_met rfl rfl rfl h12 ?_
                            refine wp_load_run 39 (.tmp 148) rfl (HLP.out w2 hM) ?_ ?_
                            · simp [Act.eval, h16]
                            · exact hK _ _ rfl hM (Below.refl _ _)
                          · intro T2 w2 hM hN hO hE K hK
                            obtain ⟨v12, h12, e12⟩ := hE ⟨12, .guard⟩ (by simp) rfl _ _ rfl rfl
                            rw [show v12 = .bool true from (Option.some.inj e12).symm] at h12
                            have o11 : T2[11]? = some (.slice (some ⟨kb1, ko1, none⟩) N3 kc1) := hO 11 rfl
                            clear hE hO hN
                            refine grd_met rfl rfl rfl h12 ?_
                            go_simp
                            exact hK _ _ rfl hM (Below.refl _ _)
                          · intro T2 w2 hM hN hO hE K hK
                            obtain ⟨v12, h12, e12⟩ := hE ⟨12, .guard⟩ (by simp) rfl _ _ rfl rfl
                            rw [show v12 = .bool true from (Option.some.inj e12).symm] at h12
                            have o13 : T2[13]? = some (.int .i64 k) := hO 13 rfl
                            clear hE hO hN
                            refine grd_met rfl rfl rfl h12 ?_
                            go_simp
                            exact hK _ _ rfl hM (Below.refl _ _)
                          · intro T2 w2 hM hN hO hE K hK
                            obtain ⟨v18, h18, e18⟩ := hE ⟨18, .data⟩ (by simp) rfl _ _ rfl rfl
                            rw [show v18 = .slice (some ⟨kb1, ko1, none⟩) N3 kc1 from (Option.some.inj e18).symm] at h18
                            obtain ⟨v19, h19, e19⟩ := hE ⟨19, .data⟩ (by simp) rfl _ _ rfl rfl
                            rw [show v19 = .int .i64 k from (Option.some.inj e19).symm] at h19
                            obtain ⟨v12, h12, e12⟩ := hE ⟨12, .guard⟩ (by simp) rfl _ _ rfl rfl
                            rw [show v12 = .bool true from (Option.some.inj e12).symm] at h12
                            clear hE hO hN
                            refine grd_met rfl rfl rfl h12 ?_
                            go_simp
                            exact hK _ _ rfl hM (Below.refl _ _)
                          · intro T2 w2 hM hN hO hE K hK
                            obtain ⟨v20, h20, e20⟩ := hE ⟨20, .data⟩ (by simp) rfl _ _ rfl rfl
                            rw [show v20 = .pointer (some ⟨kb1, ko1 + k * 32, none⟩) from (Option.some.inj e20).symm] at h20
                            obtain ⟨v12, h12, e12⟩ := hE ⟨12, .guard⟩ (by simp) rfl _ _ rfl rfl
                            rw [show v12 = .bool true from (Option.some.inj e12).symm] at h12
                            clear hE hO hN
                            refine grd_met rfl rfl rfl h12 ?_
                            refine wp_load_run 39 (.tmp 152) rfl (HL1.out w2 hM) ?_ ?_
                            · simp [Act.eval, h20]
                            · exact hK _ _ rfl hM (Below.refl _ _)
                          · intro T2 w2 hM hN hO hE K hK
                            obtain ⟨v17, h17, e17⟩ := hE ⟨17, .data⟩ (by simp) rfl _ _ rfl rfl
                            rw [show v17 = .agg (u8s XP).toArray from (Option.some.inj e17).symm] at h17
                            obtain ⟨v21, h21, e21⟩ := hE ⟨21, .data⟩ (by simp) rfl _ _ rfl rfl
                            rw [show v21 = .agg (u8s X).toArray from (Option.some.inj e21).symm] at h21
                            obtain ⟨v12, h12, e12⟩ := hE ⟨12, .guard⟩ (by simp) rfl _ _ rfl rfl
                            rw [show v12 = .bool true from (Option.some.inj e12).symm] at h12
                            clear hE hO hN
                            refine grd_met rfl rfl rfl h12 ?_
                            go_simp
                            refine (less_any w2 XP X hP32 hX32).mono ?_
                            rintro e w3 ⟨rfl, hb⟩
                            rw [HLT.out]
                            exact hK _ _ rfl (hM.trans (hb.mono hM.size)) hb
                          · intro T2 w2 hM hN hO hE K hK
                            obtain ⟨v22, h22, e22⟩ := hE ⟨22, .data⟩ (by simp) rfl _ _ rfl rfl
                            rw [show v22 = .bool true from (Option.some.inj e22).symm] at h22
                            obtain ⟨v12, h12, e12⟩ := hE ⟨12, .guard⟩ (by simp) rfl _ _ rfl rfl
                            rw [show v12 = .bool true from (Option.some.inj e12).symm] at h12
                            clear hE hO hN
                            refine grd_met rfl rfl rfl h12 ?_
                            go_simp
                            exact hK _ _ rfl hM (Below.refl _ _)
                          · intro T2 w2 hM hN hO hE K hK
                            obtain ⟨v12, h12, e12⟩ := hE ⟨12, .data⟩ (by simp) rfl _ _ rfl rfl
                            rw [show v12 = .bool true from (Option.some.inj e12).symm] at h12
                            obtain ⟨v23, h23, e23⟩ := hE ⟨23, .data⟩ (by simp) rfl _ _ rfl rfl
                            rw [show v23 = .bool false from (Option.some.inj e23).symm] at h23
                            obtain ⟨v9, h9, e9⟩ := hE ⟨9, .guard⟩ (by simp) rfl _ _ rfl rfl
                            rw [show v9 = .bool false from (Option.some.inj e9).symm] at h9
                            clear hE hO hN
                            refine grd_met rfl rfl rfl h9 ?_
                            go_simp
                            exact hK _ _ rfl hM (Below.refl _ _)
                          · intro T2 w2 hM hN hO hE K hK
                            obtain ⟨v9, h9, e9⟩ := hE ⟨9, .data⟩ (by simp) rfl _ _ rfl rfl
                            rw [show v9 = .bool false from (Option.some.inj e9).symm] at h9
                            obtain ⟨v24, h24, e24⟩ := hE ⟨24, .data⟩ (by simp) rfl _ _ rfl rfl
                            rw [show v24 = .bool false from (Option.some.inj e24).symm] at h24
                            clear hE hO hN
                            refine step_plain0 rfl ?_
                            go_simp
                            exact hK _ _ rfl hM (Below.refl _ _)
                        · intro u w2 hM hF
                          have e25 : u 25 = .bool false := (Option.some.inj (hF 25 (by omega))).symm
                          clear hF
                          simp only [fillAll, Nat.reduceAdd, e25, List.take_succ_cons, List.take_zero, List.drop_succ_cons, List.drop_zero, List.setIfInBounds_toArray, List.set_cons_succ, List.set_cons_zero]
                          have HM8 := hid2 hM
                          clear hM
                          go_wp2_with fail
                          go_roundg (gk - 1)
                          case rel => exact ⟨k + 1, by omega, by go_num, HM8.out⟩
                          case measure => omega
                    · have hlt' : ¬ (k : Int) < N3 := by omega
                      clear hlt
                      go_wp2_with fail
                      go_ret
                      exact ⟨rfl, HLOW.out.trans ((HB7.out.trans (HB8.out.mono HB7.out.size)).mono HLOW.out.size)⟩
              · have hqz' : (0 : Int) < (Q : Int) := by omega
                go_wp2_with fail
                go_loopg [10] N (fun gk i wr => i = .int .i64 (-1) ∧ OrI w p b1 n M p2 b2 0 [] wr)
                case atStart => exact ⟨rfl, HOI.out⟩
                case round =>
                  clear HOI
                  obtain ⟨rfl, hoi⟩ := hrel
                  have HOI := hid2 hoi
                  clear hoi
                  have hoi2 : OrI w p b1 n M p2 b2 0 M wr := by have h := HOI.out; rw [HM00.out] at h ⊢; exact h
                  have hKO : KeysOk M := by rw [HM00.out]; intro x h; cases h
                  have cA1 := all_any sorts_dig wr p b1 n M _ hoi2.st (by omega)
                  have cA2 : ∀ W, Below wr.heap.size wr W → Calls Try.prog 34 #[.pointer (some ⟨p2, 0, none⟩)] W fun e w' => ∃ A c, e = .returned (.slice A M.length c) ∧ Own w' W.heap.size 39 32 A M.length c (keysV M) ∧ Below W.heap.size W w' := fun W hW => all_any sorts_dig W p2 b2 0 M _ (hoi2.ext hW).st2 (by omega)
                  have cZ1 : ∀ W, Below wr.heap.size wr W → Calls Try.prog 35 #[.pointer (some ⟨p, 0, none⟩)] W fun e w' => e = .returned (.int .i64 (sizeM M)) ∧ w' = W := fun W hW => size_any W p b1 n M _ (hoi2.ext hW).st
                  have cZ2 : ∀ W, Below wr.heap.size wr W → Calls Try.prog 35 #[.pointer (some ⟨p2, 0, none⟩)] W fun e w' => e = .returned (.int .i64 (sizeM M)) ∧ w' = W := fun W hW => size_any W p2 b2 0 M _ (hoi2.ext hW).st2
                  have hri := hoi2.st.map.rises keyed_dig
                  have hml := hoi2.st.map.length_le
                  have hnB : n ≤ N := hnk'
                  obtain ⟨N3, hN3⟩ : ∃ N3, N3 = M.length := ⟨_, rfl⟩
                  obtain ⟨z, hz⟩ : ∃ z, z = sizeM M := ⟨_, rfl⟩
                  rw [← hN3] at cA1 cA2 hml
                  rw [← hz] at cZ1 cZ2
                  have CA1 := hid2 cA1
                  have CA2 := hid2 cA2
                  have CZ1 := hid2 cZ1
                  have CZ2 := hid2 cZ2
                  have HRI := hid2 hri
                  have HN3 := hid2 hN3
                  have HKO := hid2 hKO
                  have HLOW := hid2 hoi2.low
                  clear hoi2 cA1 cA2 cZ1 cZ2 hri hN3 hz hKO
                  go_wp2_with (first
                    | (go_at_call 34; (first
                        | ((with_reducible refine CA1.out.mono ?_); rintro e w6 ⟨K1, kc1, rfl, ho, hb⟩; have HO1 := hid2 ho; have HB6 := hid2 hb; clear ho hb)
                        | ((with_reducible refine (CA2.out _ HB6.out).mono ?_); rintro e w7 ⟨K2, kc2, rfl, ho, hb⟩; have HO2 := hid2 ho.rd; have HO1' := hid2 (HO1.out.rd.below_all hb); have HB7 := hid2 (HB6.out.trans (hb.mono HB6.out.size)); clear ho hb HO1)))
                    | (go_at_call 35; (first
                        | ((with_reducible refine (CZ1.out _ HB7.out).mono ?_); rintro e w8 ⟨rfl, rfl⟩)
                        | ((with_reducible refine (CZ2.out _ HB7.out).mono ?_); rintro e w8 ⟨rfl, rfl⟩))))
                  go_loopg [13] N3 (fun gk i wr => ∃ k : Nat, k + gk = N3 ∧ i = .int .i64 k ∧ Below w8.heap.size w8 wr)
                  case atStart => exact ⟨0, by omega, rfl, Below.refl _ _⟩
                  case round =>
                    obtain ⟨k, hk, rfl, hb⟩ := hrel
                    have HB8 := hid2 hb
                    clear hb
                    by_cases hlt : k < N3
                    · have hlt' : (k : Int) < N3 := by omega
                      have hk0 : (0 : Int) ≤ k := by omega
                      obtain ⟨x, hx⟩ : ∃ x, M[k]? = some x := ⟨_, List.getElem?_eq_getElem (by rw [← HN3.out]; exact hlt)⟩
                      have hX32 := HKO.out.at_ hx
                      obtain ⟨kb1, ko1, rfl, _⟩ := key_load HKO.out (by rw [← HN3.out]; exact HO1'.out) hx
                      obtain ⟨kb2, ko2, rfl, _⟩ := key_load HKO.out (by rw [← HN3.out]; exact HO2.out) hx
                      obtain ⟨X, hX⟩ : ∃ X, X = x.1 := ⟨_, rfl⟩
                      have hl1 : ∀ W, Below w8.heap.size w8 W → (loadVar 39 ⟨kb1, ko1 + k * 32, none⟩).run Try.prog W = .ok (.agg (u8s X).toArray) W := fun W hW => by
                        obtain ⟨b', o', e, hc⟩ := key_load HKO.out (by rw [← HN3.out]; exact HO1'.out.below_all hW) hx
                        cases e
                        rw [hX]
                        exact hc
                      have hl2 : ∀ W, Below w8.heap.size w8 W → (loadVar 39 ⟨kb2, ko2 + k * 32, none⟩).run Try.prog W = .ok (.agg (u8s X).toArray) W := fun W hW => by
                        obtain ⟨b', o', e, hc⟩ := key_load HKO.out (by rw [← HN3.out]; exact HO2.out.below_all hW) hx
                        cases e
                        rw [hX]
                        exact hc
                      rw [← hX] at hX32
                      have heq : ∀ W, (binOp .neq 39 (.agg (u8s X).toArray) (.agg (u8s X).toArray)).run Try.prog W = .ok (.bool false) W := fun W => (run_neq_dig X X hX32 hX32 W).trans (by rw [beq_self_eq_true]; rfl)
                      have HL1 := hid2 hl1
                      have HL2 := hid2 hl2
                      have HXX := hid2 hX
                      have HX := hid2 hx
                      clear hl1 hl2 hX hx hlt
                      by_cases hz0 : k = 0
                      · have gz : ((0 : Int) < (k : Int)) = False := eq_false (by omega)
                        have gz' : decide ((0 : Int) < (k : Int)) = false := decide_eq_false (by omega)
                        have gzn : decide (0 < k) = false := decide_eq_false (by omega)
                        clear hz0
                        go_wp2_with fail
                        refine wp_region_grd 26 (by kernel_rfl) (by kernel_rfl) (by kernel_rfl) _ rfl (by kernel_rfl) (fun j v _ => ([.slice (some ⟨kb1, ko1, none⟩) N3 kc1, .int .i64 k, .pointer (some ⟨kb1, ko1 + k * 32, none⟩), .agg (u8s X).toArray, .slice (some ⟨kb2, ko2, none⟩) N3 kc2, .int .i64 k, .pointer (some ⟨kb2, ko2 + k * 32, none⟩), .agg (u8s X).toArray, .bool false, .bool false, .int .i64 k, .bool false, .bool false, undef, undef, undef, undef, undef, undef, undef, undef, undef, undef, undef, .bool false, .bool false] : List Value)[j]? = some v) (fun w4 => Below w8.heap.size w8 w4) (fun a b => Below a.heap.size a b) (below_drewN HB8.out 1) (fun _ _ _ _ hb hv => hv) ?_ ?_
                        · refine of_allOps ⟨?_, ?_, ?_, ?_, ?_, ?_, ?_, ?_, ?_, ?_, ?_, ?_, ?_, ?_, ?_, ?_, ?_, ?_, ?_, ?_, ?_, ?_, ?_, ?_, ?_, ?_, trivial⟩
                          · intro T2 w2 hM hN hO hE K hK
                            have o11 : T2[11]? = some (.slice (some ⟨kb1, ko1, none⟩) N3 kc1) := hO 11 rfl
                            clear hE hO hN
                            refine step_plain0 rfl ?_
                            go_simp
                            exact hK _ _ rfl hM (Below.refl _ _)
                          · intro T2 w2 hM hN hO hE K hK
                            have o13 : T2[13]? = some (.int .i64 k) := hO 13 rfl
                            clear hE hO hN
                            refine step_plain0 rfl ?_
                            go_simp
                            exact hK _ _ rfl hM (Below.refl _ _)
                          · intro T2 w2 hM hN hO hE K hK
                            obtain ⟨v0, h0, e0⟩ := hE ⟨0, .data⟩ (by simp) rfl _ _ rfl rfl
                            rw [show v0 = .slice (some ⟨kb1, ko1, none⟩) N3 kc1 from (Option.some.inj e0).symm] at h0
                            obtain ⟨v1, h1, e1⟩ := hE ⟨1, .data⟩ (by simp) rfl _ _ rfl rfl
                            rw [show v1 = .int .i64 k from (Option.some.inj e1).symm] at h1
                            clear hE hO hN
                            refine step_plain0 rfl ?_
                            go_simp
                            exact hK _ _ rfl hM (Below.refl _ _)
                          · intro T2 w2 hM hN hO hE K hK
                            obtain ⟨v2, h2, e2⟩ := hE ⟨2, .data⟩ (by simp) rfl _ _ rfl rfl
                            rw [show v2 = .pointer (some ⟨kb1, ko1 + k * 32, none⟩) from (Option.some.inj e2).symm] at h2
                            clear hE hO hN
                            refine step_plain0 rfl ?_
                            refine wp_load_run 39 (.tmp 134) rfl (HL1.out w2 hM) ?_ ?_
                            · simp [Act.eval, h2]
                            · exact hK _ _ rfl hM (Below.refl _ _)
                          · intro T2 w2 hM hN hO hE K hK
                            have o12 : T2[12]? = some (.slice (some ⟨kb2, ko2, none⟩) N3 kc2) := hO 12 rfl
                            clear hE hO hN
                            refine step_plain0 rfl ?_
                            go_simp
                            exact hK _ _ rfl hM (Below.refl _ _)
                          · intro T2 w2 hM hN hO hE K hK
                            have o13 : T2[13]? = some (.int .i64 k) := hO 13 rfl
                            clear hE hO hN
                            refine step_plain0 rfl ?_
                            go_simp
                            exact hK _ _ rfl hM (Below.refl _ _)
                          · intro T2 w2 hM hN hO hE K hK
                            obtain ⟨v4, h4, e4⟩ := hE ⟨4, .data⟩ (by simp) rfl _ _ rfl rfl
                            rw [show v4 = .slice (some ⟨kb2, ko2, none⟩) N3 kc2 from (Option.some.inj e4).symm] at h4
                            obtain ⟨v5, h5, e5⟩ := hE ⟨5, .data⟩ (by simp) rfl _ _ rfl rfl
                            rw [show v5 = .int .i64 k from (Option.some.inj e5).symm] at h5
                            clear hE hO hN
                            refine step_plain0 rfl ?_
                            go_simp
                            exact hK _ _ rfl hM (Below.refl _ _)
                          · intro T2 w2 hM hN hO hE K hK
                            obtain ⟨v6, h6, e6⟩ := hE ⟨6, .data⟩ (by simp) rfl _ _ rfl rfl
                            rw [show v6 = .pointer (some ⟨kb2, ko2 + k * 32, none⟩) from (Option.some.inj e6).symm] at h6
                            clear hE hO hN
                            refine step_plain0 rfl ?_
                            refine wp_load_run 39 (.tmp 138) rfl (HL2.out w2 hM) ?_ ?_
                            · simp [Act.eval, h6]
                            · exact hK _ _ rfl hM (Below.refl _ _)
                          · intro T2 w2 hM hN hO hE K hK
                            obtain ⟨v3, h3, e3⟩ := hE ⟨3, .data⟩ (by simp) rfl _ _ rfl rfl
                            rw [show v3 = .agg (u8s X).toArray from (Option.some.inj e3).symm] at h3
                            obtain ⟨v7, h7, e7⟩ := hE ⟨7, .data⟩ (by simp) rfl _ _ rfl rfl
                            rw [show v7 = .agg (u8s X).toArray from (Option.some.inj e7).symm] at h7
                            clear hE hO hN
                            refine step_plain0 rfl ?_
                            go_simp
                            exact hK _ _ rfl hM (Below.refl _ _)
                          · intro T2 w2 hM hN hO hE K hK
                            obtain ⟨v8, h8, e8⟩ := hE ⟨8, .data⟩ (by simp) rfl _ _ rfl rfl
                            rw [show v8 = .bool false from (Option.some.inj e8).symm] at h8
                            clear hE hO hN
                            refine step_plain0 rfl ?_
                            go_simp
                            exact hK _ _ rfl hM (Below.refl _ _)
                          · intro T2 w2 hM hN hO hE K hK
                            obtain ⟨v9, h9, e9⟩ := hE ⟨9, .guard⟩ (by simp) rfl _ _ rfl rfl
                            rw [show v9 = .bool false from (Option.some.inj e9).symm] at h9
                            have o13 : T2[13]? = some (.int .i64 k) := hO 13 rfl
                            clear hE hO hN
                            refine grd_met rfl rfl rfl h9 ?_
                            go_simp
                            exact hK _ _ rfl hM (Below.refl _ _)
                          · intro T2 w2 hM hN hO hE K hK
                            obtain ⟨v10, h10, e10⟩ := hE ⟨10, .data⟩ (by simp) rfl _ _ rfl rfl
                            rw [show v10 = .int .i64 k from (Option.some.inj e10).symm] at h10
                            obtain ⟨v9, h9, e9⟩ := hE ⟨9, .guard⟩ (by simp) rfl _ _ rfl rfl
                            rw [show v9 = .bool false from (Option.some.inj e9).symm] at h9
                            clear hE hO hN
                            refine grd_met rfl rfl rfl h9 ?_
                            go_simp
                            exact hK _ _ rfl hM (Below.refl _ _)
                          · intro T2 w2 hM hN hO hE K hK
                            obtain ⟨v11, h11, e11⟩ := hE ⟨11, .data⟩ (by simp) rfl _ _ rfl rfl
                            rw [show v11 = .bool false from (Option.some.inj e11).symm] at h11
                            obtain ⟨v9, h9, e9⟩ := hE ⟨9, .guard⟩ (by simp) rfl _ _ rfl rfl
                            rw [show v9 = .bool false from (Option.some.inj e9).symm] at h9
                            clear hE hO hN
                            refine grd_met rfl rfl rfl h9 ?_
                            go_simp
                            exact hK _ _ rfl hM (Below.refl _ _)
                          · intro T2 w2 hM hN hO hE K hK
                            obtain ⟨v12, h12, e12⟩ := hE ⟨12, .guard⟩ (by simp) rfl _ _ rfl rfl
                            rw [show v12 = .bool false from (Option.some.inj e12).symm] at h12
                            clear hE hO hN
                            refine grd_not rfl rfl rfl h12 (by decide) ?_
                            exact hK _ _ rfl hM (Below.refl _ _)
                          · intro T2 w2 hM hN hO hE K hK
                            obtain ⟨v12, h12, e12⟩ := hE ⟨12, .guard⟩ (by simp) rfl _ _ rfl rfl
                            rw [show v12 = .bool false from (Option.some.inj e12).symm] at h12
                            clear hE hO hN
                            refine grd_not rfl rfl rfl h12 (by decide) ?_
                            exact hK _ _ rfl hM (Below.refl _ _)
                          · intro T2 w2 hM hN hO hE K hK
                            obtain ⟨v12, h12, e12⟩ := hE ⟨12, .guard⟩ (by simp) rfl _ _ rfl rfl
                            rw [show v12 = .bool false from (Option.some.inj e12).symm] at h12
                            clear hE hO hN
                            refine grd_not rfl rfl rfl h12 (by decide) ?_
                            exact hK _ _ rfl hM (Below.refl _ _)
                          · intro T2 w2 hM hN hO hE K hK
                            obtain ⟨v12, h12, e12⟩ := hE ⟨12, .guard⟩ (by simp) rfl _ _ rfl rfl
                            rw [show v12 = .bool false from (Option.some.inj e12).symm] at h12
                            clear hE hO hN
                            refine grd_not rfl rfl rfl h12 (by decide) ?_
                            exact hK _ _ rfl hM (Below.refl _ _)
                          · intro T2 w2 hM hN hO hE K hK
                            obtain ⟨v12, h12, e12⟩ := hE ⟨12, .guard⟩ (by simp) rfl _ _ rfl rfl
                            rw [show v12 = .bool false from (Option.some.inj e12).symm] at h12
                            clear hE hO hN
                            refine grd_not rfl rfl rfl h12 (by decide) ?_
                            exact hK _ _ rfl hM (Below.refl _ _)
                          · intro T2 w2 hM hN hO hE K hK
                            obtain ⟨v12, h12, e12⟩ := hE ⟨12, .guard⟩ (by simp) rfl _ _ rfl rfl
                            rw [show v12 = .bool false from (Option.some.inj e12).symm] at h12
                            clear hE hO hN
                            refine grd_not rfl rfl rfl h12 (by decide) ?_
                            exact hK _ _ rfl hM (Below.refl _ _)
                          · intro T2 w2 hM hN hO hE K hK
                            obtain ⟨v12, h12, e12⟩ := hE ⟨12, .guard⟩ (by simp) rfl _ _ rfl rfl
                            rw [show v12 = .bool false from (Option.some.inj e12).symm] at h12
                            clear hE hO hN
                            refine grd_not rfl rfl rfl h12 (by decide) ?_
                            exact hK _ _ rfl hM (Below.refl _ _)
                          · intro T2 w2 hM hN hO hE K hK
                            obtain ⟨v12, h12, e12⟩ := hE ⟨12, .guard⟩ (by simp) rfl _ _ rfl rfl
                            rw [show v12 = .bool false from (Option.some.inj e12).symm] at h12
                            clear hE hO hN
                            refine grd_not rfl rfl rfl h12 (by decide) ?_
                            exact hK _ _ rfl hM (Below.refl _ _)
                          · intro T2 w2 hM hN hO hE K hK
                            obtain ⟨v12, h12, e12⟩ := hE ⟨12, .guard⟩ (by simp) rfl _ _ rfl rfl
                            rw [show v12 = .bool false from (Option.some.inj e12).symm] at h12
                            clear hE hO hN
                            refine grd_not rfl rfl rfl h12 (by decide) ?_
                            exact hK _ _ rfl hM (Below.refl _ _)
                          · intro T2 w2 hM hN hO hE K hK
                            obtain ⟨v12, h12, e12⟩ := hE ⟨12, .guard⟩ (by simp) rfl _ _ rfl rfl
                            rw [show v12 = .bool false from (Option.some.inj e12).symm] at h12
                            clear hE hO hN
                            refine grd_not rfl rfl rfl h12 (by decide) ?_
                            exact hK _ _ rfl hM (Below.refl _ _)
                          · intro T2 w2 hM hN hO hE K hK
                            obtain ⟨v12, h12, e12⟩ := hE ⟨12, .guard⟩ (by simp) rfl _ _ rfl rfl
                            rw [show v12 = .bool false from (Option.some.inj e12).symm] at h12
                            clear hE hO hN
                            refine grd_not rfl rfl rfl h12 (by decide) ?_
                            exact hK _ _ rfl hM (Below.refl _ _)
                          · intro T2 w2 hM hN hO hE K hK
                            obtain ⟨v12, h12, e12⟩ := hE ⟨12, .data⟩ (by simp) rfl _ _ rfl rfl
                            rw [show v12 = .bool false from (Option.some.inj e12).symm] at h12
                            obtain ⟨v9, h9, e9⟩ := hE ⟨9, .guard⟩ (by simp) rfl _ _ rfl rfl
                            rw [show v9 = .bool false from (Option.some.inj e9).symm] at h9
                            clear hE hO hN
                            refine grd_met rfl rfl rfl h9 ?_
                            go_simp
                            exact hK _ _ rfl hM (Below.refl _ _)
                          · intro T2 w2 hM hN hO hE K hK
                            obtain ⟨v9, h9, e9⟩ := hE ⟨9, .data⟩ (by simp) rfl _ _ rfl rfl
                            rw [show v9 = .bool false from (Option.some.inj e9).symm] at h9
                            obtain ⟨v24, h24, e24⟩ := hE ⟨24, .data⟩ (by simp) rfl _ _ rfl rfl
                            rw [show v24 = .bool false from (Option.some.inj e24).symm] at h24
                            clear hE hO hN
                            refine step_plain0 rfl ?_
                            go_simp
                            exact hK _ _ rfl hM (Below.refl _ _)
                        · intro u w2 hM hF
                          have e25 : u 25 = .bool false := (Option.some.inj (hF 25 (by omega))).symm
                          clear hF
                          simp only [fillAll, Nat.reduceAdd, e25, List.take_succ_cons, List.take_zero, List.drop_succ_cons, List.drop_zero, List.setIfInBounds_toArray, List.set_cons_succ, List.set_cons_zero]
                          have HM8 := hid2 hM
                          clear hM
                          go_wp2_with fail
                          go_roundg (gk - 1)
                          case rel => exact ⟨k + 1, by omega, by go_num, HM8.out⟩
                          case measure => omega
                      · obtain ⟨q, hq⟩ : ∃ q : Nat, q + 1 = k := ⟨k - 1, by omega⟩
                        have gz : ((0 : Int) < (k : Int)) = True := eq_true (by omega)
                        have gz' : decide ((0 : Int) < (k : Int)) = true := decide_eq_true (by omega)
                        have gzn : decide (0 < k) = true := decide_eq_true (by omega)
                        have hkq : (k : Int) - 1 = (q : Int) := by omega
                        have hwk : IntKind.i64.wrap (q : Int) = (q : Int) := IntWalk.i64_in _ (by constructor <;> omega)
                        have hq0 : (0 : Int) ≤ q := by omega
                        have hqN : (q : Int) < N3 := by omega
                        obtain ⟨xp, hxp⟩ : ∃ x, M[q]? = some x := ⟨_, List.getElem?_eq_getElem (by rw [← HN3.out]; omega)⟩
                        have hP32 := HKO.out.at_ hxp
                        obtain ⟨XP, hXP⟩ : ∃ X, X = xp.1 := ⟨_, rfl⟩
                        have hlp : ∀ W, Below w8.heap.size w8 W → (loadVar 39 ⟨kb1, ko1 + q * 32, none⟩).run Try.prog W = .ok (.agg (u8s XP).toArray) W := fun W hW => by
                          obtain ⟨b', o', e, hc⟩ := key_load HKO.out (by rw [← HN3.out]; exact HO1'.out.below_all hW) hxp
                          cases e
                          rw [hXP]
                          exact hc
                        have hlt2 : decide (XP < X) = true := by
                          have hx := HX.out
                          rw [← hq] at hx
                          rw [hXP, HXX.out]
                          exact decide_eq_true (rises_next HRI.out hxp hx)
                        rw [← hXP] at hP32
                        have HLP := hid2 hlp
                        have HLT := hid2 hlt2
                        clear hlp hlt2 hXP hxp hz0 hq
                        go_wp2_with fail
                        refine wp_region_grd 26 (by kernel_rfl) (by kernel_rfl) (by kernel_rfl) _ rfl (by kernel_rfl) (fun j v _ => ([.slice (some ⟨kb1, ko1, none⟩) N3 kc1, .int .i64 k, .pointer (some ⟨kb1, ko1 + k * 32, none⟩), .agg (u8s X).toArray, .slice (some ⟨kb2, ko2, none⟩) N3 kc2, .int .i64 k, .pointer (some ⟨kb2, ko2 + k * 32, none⟩), .agg (u8s X).toArray, .bool false, .bool false, .int .i64 k, .bool true, .bool true, .slice (some ⟨kb1, ko1, none⟩) N3 kc1, .int .i64 k, .int .i64 q, .pointer (some ⟨kb1, ko1 + q * 32, none⟩), .agg (u8s XP).toArray, .slice (some ⟨kb1, ko1, none⟩) N3 kc1, .int .i64 k, .pointer (some ⟨kb1, ko1 + k * 32, none⟩), .agg (u8s X).toArray, .bool true, .bool false, .bool false, .bool false] : List Value)[j]? = some v) (fun w4 => Below w8.heap.size w8 w4) (fun a b => Below a.heap.size a b) (below_drewN HB8.out 1) (fun _ _ _ _ hb hv => hv) ?_ ?_
                        · refine of_allOps ⟨?_, ?_, ?_, ?_, ?_, ?_, ?_, ?_, ?_, ?_, ?_, ?_, ?_, ?_, ?_, ?_, ?_, ?_, ?_, ?_, ?_, ?_, ?_, ?_, ?_, ?_, trivial⟩
                          · intro T2 w2 hM hN hO hE K hK
                            have o11 : T2[11]? = some (.slice (some ⟨kb1, ko1, none⟩) N3 kc1) := hO 11 rfl
                            clear hE hO hN
                            refine step_plain0 rfl ?_
                            go_simp
                            exact hK _ _ rfl hM (Below.refl _ _)
                          · intro T2 w2 hM hN hO hE K hK
                            have o13 : T2[13]? = some (.int .i64 k) := hO 13 rfl
                            clear hE hO hN
                            refine step_plain0 rfl ?_
                            go_simp
                            exact hK _ _ rfl hM (Below.refl _ _)
                          · intro T2 w2 hM hN hO hE K hK
                            obtain ⟨v0, h0, e0⟩ := hE ⟨0, .data⟩ (by simp) rfl _ _ rfl rfl
                            rw [show v0 = .slice (some ⟨kb1, ko1, none⟩) N3 kc1 from (Option.some.inj e0).symm] at h0
                            obtain ⟨v1, h1, e1⟩ := hE ⟨1, .data⟩ (by simp) rfl _ _ rfl rfl
                            rw [show v1 = .int .i64 k from (Option.some.inj e1).symm] at h1
                            clear hE hO hN
                            refine step_plain0 rfl ?_
                            go_simp
                            exact hK _ _ rfl hM (Below.refl _ _)
                          · intro T2 w2 hM hN hO hE K hK
                            obtain ⟨v2, h2, e2⟩ := hE ⟨2, .data⟩ (by simp) rfl _ _ rfl rfl
                            rw [show v2 = .pointer (some ⟨kb1, ko1 + k * 32, none⟩) from (Option.some.inj e2).symm] at h2
                            clear hE hO hN
                            refine step_plain0 rfl ?_
                            refine wp_load_run 39 (.tmp 134) rfl (HL1.out w2 hM) ?_ ?_
                            · simp [Act.eval, h2]
                            · exact hK _ _ rfl hM (Below.refl _ _)
                          · intro T2 w2 hM hN hO hE K hK
                            have o12 : T2[12]? = some (.slice (some ⟨kb2, ko2, none⟩) N3 kc2) := hO 12 rfl
                            clear hE hO hN
                            refine step_plain0 rfl ?_
                            go_simp
                            exact hK _ _ rfl hM (Below.refl _ _)
                          · intro T2 w2 hM hN hO hE K hK
                            have o13 : T2[13]? = some (.int .i64 k) := hO 13 rfl
                            clear hE hO hN
                            refine step_plain0 rfl ?_
                            go_simp
                            exact hK _ _ rfl hM (Below.refl _ _)
                          · intro T2 w2 hM hN hO hE K hK
                            obtain ⟨v4, h4, e4⟩ := hE ⟨4, .data⟩ (by simp) rfl _ _ rfl rfl
                            rw [show v4 = .slice (some ⟨kb2, ko2, none⟩) N3 kc2 from (Option.some.inj e4).symm] at h4
                            obtain ⟨v5, h5, e5⟩ := hE ⟨5, .data⟩ (by simp) rfl _ _ rfl rfl
                            rw [show v5 = .int .i64 k from (Option.some.inj e5).symm] at h5
                            clear hE hO hN
                            refine step_plain0 rfl ?_
                            go_simp
                            exact hK _ _ rfl hM (Below.refl _ _)
                          · intro T2 w2 hM hN hO hE K hK
                            obtain ⟨v6, h6, e6⟩ := hE ⟨6, .data⟩ (by simp) rfl _ _ rfl rfl
                            rw [show v6 = .pointer (some ⟨kb2, ko2 + k * 32, none⟩) from (Option.some.inj e6).symm] at h6
                            clear hE hO hN
                            refine step_plain0 rfl ?_
                            refine wp_load_run 39 (.tmp 138) rfl (HL2.out w2 hM) ?_ ?_
                            · simp [Act.eval, h6]
                            · exact hK _ _ rfl hM (Below.refl _ _)
                          · intro T2 w2 hM hN hO hE K hK
                            obtain ⟨v3, h3, e3⟩ := hE ⟨3, .data⟩ (by simp) rfl _ _ rfl rfl
                            rw [show v3 = .agg (u8s X).toArray from (Option.some.inj e3).symm] at h3
                            obtain ⟨v7, h7, e7⟩ := hE ⟨7, .data⟩ (by simp) rfl _ _ rfl rfl
                            rw [show v7 = .agg (u8s X).toArray from (Option.some.inj e7).symm] at h7
                            clear hE hO hN
                            refine step_plain0 rfl ?_
                            go_simp
                            exact hK _ _ rfl hM (Below.refl _ _)
                          · intro T2 w2 hM hN hO hE K hK
                            obtain ⟨v8, h8, e8⟩ := hE ⟨8, .data⟩ (by simp) rfl _ _ rfl rfl
                            rw [show v8 = .bool false from (Option.some.inj e8).symm] at h8
                            clear hE hO hN
                            refine step_plain0 rfl ?_
                            go_simp
                            exact hK _ _ rfl hM (Below.refl _ _)
                          · intro T2 w2 hM hN hO hE K hK
                            obtain ⟨v9, h9, e9⟩ := hE ⟨9, .guard⟩ (by simp) rfl _ _ rfl rfl
                            rw [show v9 = .bool false from (Option.some.inj e9).symm] at h9
                            have o13 : T2[13]? = some (.int .i64 k) := hO 13 rfl
                            clear hE hO hN
                            refine grd_met rfl rfl rfl h9 ?_
                            go_simp
                            exact hK _ _ rfl hM (Below.refl _ _)
                          · intro T2 w2 hM hN hO hE K hK
                            obtain ⟨v10, h10, e10⟩ := hE ⟨10, .data⟩ (by simp) rfl _ _ rfl rfl
                            rw [show v10 = .int .i64 k from (Option.some.inj e10).symm] at h10
                            obtain ⟨v9, h9, e9⟩ := hE ⟨9, .guard⟩ (by simp) rfl _ _ rfl rfl
                            rw [show v9 = .bool false from (Option.some.inj e9).symm] at h9
                            clear hE hO hN
                            refine grd_met rfl rfl rfl h9 ?_
                            go_simp
                            exact hK _ _ rfl hM (Below.refl _ _)
                          · intro T2 w2 hM hN hO hE K hK
                            obtain ⟨v11, h11, e11⟩ := hE ⟨11, .data⟩ (by simp) rfl _ _ rfl rfl
                            rw [show v11 = .bool true from (Option.some.inj e11).symm] at h11
                            obtain ⟨v9, h9, e9⟩ := hE ⟨9, .guard⟩ (by simp) rfl _ _ rfl rfl
                            rw [show v9 = .bool false from (Option.some.inj e9).symm] at h9
                            clear hE hO hN
                            refine grd_met rfl rfl rfl h9 ?_
                            go_simp
                            exact hK _ _ rfl hM (Below.refl _ _)
                          · intro T2 w2 hM hN hO hE K hK
                            obtain ⟨v12, h12, e12⟩ := hE ⟨12, .guard⟩ (by simp) rfl _ _ rfl rfl
                            rw [show v12 = .bool true from (Option.some.inj e12).symm] at h12
                            have o11 : T2[11]? = some (.slice (some ⟨kb1, ko1, none⟩) N3 kc1) := hO 11 rfl
                            clear hE hO hN
                            refine grd_met rfl rfl rfl h12 ?_
                            go_simp
                            exact hK _ _ rfl hM (Below.refl _ _)
                          · intro T2 w2 hM hN hO hE K hK
                            obtain ⟨v12, h12, e12⟩ := hE ⟨12, .guard⟩ (by simp) rfl _ _ rfl rfl
                            rw [show v12 = .bool true from (Option.some.inj e12).symm] at h12
                            have o13 : T2[13]? = some (.int .i64 k) := hO 13 rfl
                            clear hE hO hN
                            refine grd_met rfl rfl rfl h12 ?_
                            go_simp
                            exact hK _ _ rfl hM (Below.refl _ _)
                          · intro T2 w2 hM hN hO hE K hK
                            obtain ⟨v14, h14, e14⟩ := hE ⟨14, .data⟩ (by simp) rfl _ _ rfl rfl
                            rw [show v14 = .int .i64 k from (Option.some.inj e14).symm] at h14
                            obtain ⟨v12, h12, e12⟩ := hE ⟨12, .guard⟩ (by simp) rfl _ _ rfl rfl
                            rw [show v12 = .bool true from (Option.some.inj e12).symm] at h12
                            clear hE hO hN
                            refine grd_met rfl rfl rfl h12 ?_
                            go_simp
                            exact hK _ _ rfl hM (Below.refl _ _)
                          · intro T2 w2 hM hN hO hE K hK
                            obtain ⟨v13, h13, e13⟩ := hE ⟨13, .data⟩ (by simp) rfl _ _ rfl rfl
                            rw [show v13 = .slice (some ⟨kb1, ko1, none⟩) N3 kc1 from (Option.some.inj e13).symm] at h13
                            obtain ⟨v15, h15, e15⟩ := hE ⟨15, .data⟩ (by simp) rfl _ _ rfl rfl
                            rw [show v15 = .int .i64 q from (Option.some.inj e15).symm] at h15
                            obtain ⟨v12, h12, e12⟩ := hE ⟨12, .guard⟩ (by simp) rfl _ _ rfl rfl
                            rw [show v12 = .bool true from (Option.some.inj e12).symm] at h12
                            clear hE hO hN
                            refine grd_met rfl rfl rfl h12 ?_
                            go_simp
                            exact hK _ _ rfl hM (Below.refl _ _)
                          · intro T2 w2 hM hN hO hE K hK
                            obtain ⟨v16, h16, e16⟩ := hE ⟨16, .data⟩ (by simp) rfl _ _ rfl rfl
                            rw [show v16 = .pointer (some ⟨kb1, ko1 + q * 32, none⟩) from (Option.some.inj e16).symm] at h16
                            obtain ⟨v12, h12, e12⟩ := hE ⟨12, .guard⟩ (by simp) rfl _ _ rfl rfl
                            rw [show v12 = .bool true from (Option.some.inj e12).symm] at h12
                            clear hE hO hN
                            refine grd_met rfl rfl rfl h12 ?_
                            refine wp_load_run 39 (.tmp 148) rfl (HLP.out w2 hM) ?_ ?_
                            · simp [Act.eval, h16]
                            · exact hK _ _ rfl hM (Below.refl _ _)
                          · intro T2 w2 hM hN hO hE K hK
                            obtain ⟨v12, h12, e12⟩ := hE ⟨12, .guard⟩ (by simp) rfl _ _ rfl rfl
                            rw [show v12 = .bool true from (Option.some.inj e12).symm] at h12
                            have o11 : T2[11]? = some (.slice (some ⟨kb1, ko1, none⟩) N3 kc1) := hO 11 rfl
                            clear hE hO hN
                            refine grd_met rfl rfl rfl h12 ?_
                            go_simp
                            exact hK _ _ rfl hM (Below.refl _ _)
                          · intro T2 w2 hM hN hO hE K hK
                            obtain ⟨v12, h12, e12⟩ := hE ⟨12, .guard⟩ (by simp) rfl _ _ rfl rfl
                            rw [show v12 = .bool true from (Option.some.inj e12).symm] at h12
                            have o13 : T2[13]? = some (.int .i64 k) := hO 13 rfl
                            clear hE hO hN
                            refine grd_met rfl rfl rfl h12 ?_
                            go_simp
                            exact hK _ _ rfl hM (Below.refl _ _)
                          · intro T2 w2 hM hN hO hE K hK
                            obtain ⟨v18, h18, e18⟩ := hE ⟨18, .data⟩ (by simp) rfl _ _ rfl rfl
                            rw [show v18 = .slice (some ⟨kb1, ko1, none⟩) N3 kc1 from (Option.some.inj e18).symm] at h18
                            obtain ⟨v19, h19, e19⟩ := hE ⟨19, .data⟩ (by simp) rfl _ _ rfl rfl
                            rw [show v19 = .int .i64 k from (Option.some.inj e19).symm] at h19
                            obtain ⟨v12, h12, e12⟩ := hE ⟨12, .guard⟩ (by simp) rfl _ _ rfl rfl
                            rw [show v12 = .bool true from (Option.some.inj e12).symm] at h12
                            clear hE hO hN
                            refine grd_met rfl rfl rfl h12 ?_
                            go_simp
                            exact hK _ _ rfl hM (Below.refl _ _)
                          · intro T2 w2 hM hN hO hE K hK
                            obtain ⟨v20, h20, e20⟩ := hE ⟨20, .data⟩ (by simp) rfl _ _ rfl rfl
                            rw [show v20 = .pointer (some ⟨kb1, ko1 + k * 32, none⟩) from (Option.some.inj e20).symm] at h20
                            obtain ⟨v12, h12, e12⟩ := hE ⟨12, .guard⟩ (by simp) rfl _ _ rfl rfl
                            rw [show v12 = .bool true from (Option.some.inj e12).symm] at h12
                            clear hE hO hN
                            refine grd_met rfl rfl rfl h12 ?_
                            refine wp_load_run 39 (.tmp 152) rfl (HL1.out w2 hM) ?_ ?_
                            · simp [Act.eval, h20]
                            · exact hK _ _ rfl hM (Below.refl _ _)
                          · intro T2 w2 hM hN hO hE K hK
                            obtain ⟨v17, h17, e17⟩ := hE ⟨17, .data⟩ (by simp) rfl _ _ rfl rfl
                            rw [show v17 = .agg (u8s XP).toArray from (Option.some.inj e17).symm] at h17
                            obtain ⟨v21, h21, e21⟩ := hE ⟨21, .data⟩ (by simp) rfl _ _ rfl rfl
                            rw [show v21 = .agg (u8s X).toArray from (Option.some.inj e21).symm] at h21
                            obtain ⟨v12, h12, e12⟩ := hE ⟨12, .guard⟩ (by simp) rfl _ _ rfl rfl
                            rw [show v12 = .bool true from (Option.some.inj e12).symm] at h12
                            clear hE hO hN
                            refine grd_met rfl rfl rfl h12 ?_
                            go_simp
                            refine (less_any w2 XP X hP32 hX32).mono ?_
                            rintro e w3 ⟨rfl, hb⟩
                            rw [HLT.out]
                            exact hK _ _ rfl (hM.trans (hb.mono hM.size)) hb
                          · intro T2 w2 hM hN hO hE K hK
                            obtain ⟨v22, h22, e22⟩ := hE ⟨22, .data⟩ (by simp) rfl _ _ rfl rfl
                            rw [show v22 = .bool true from (Option.some.inj e22).symm] at h22
                            obtain ⟨v12, h12, e12⟩ := hE ⟨12, .guard⟩ (by simp) rfl _ _ rfl rfl
                            rw [show v12 = .bool true from (Option.some.inj e12).symm] at h12
                            clear hE hO hN
                            refine grd_met rfl rfl rfl h12 ?_
                            go_simp
                            exact hK _ _ rfl hM (Below.refl _ _)
                          · intro T2 w2 hM hN hO hE K hK
                            obtain ⟨v12, h12, e12⟩ := hE ⟨12, .data⟩ (by simp) rfl _ _ rfl rfl
                            rw [show v12 = .bool true from (Option.some.inj e12).symm] at h12
                            obtain ⟨v23, h23, e23⟩ := hE ⟨23, .data⟩ (by simp) rfl _ _ rfl rfl
                            rw [show v23 = .bool false from (Option.some.inj e23).symm] at h23
                            obtain ⟨v9, h9, e9⟩ := hE ⟨9, .guard⟩ (by simp) rfl _ _ rfl rfl
                            rw [show v9 = .bool false from (Option.some.inj e9).symm] at h9
                            clear hE hO hN
                            refine grd_met rfl rfl rfl h9 ?_
                            go_simp
                            exact hK _ _ rfl hM (Below.refl _ _)
                          · intro T2 w2 hM hN hO hE K hK
                            obtain ⟨v9, h9, e9⟩ := hE ⟨9, .data⟩ (by simp) rfl _ _ rfl rfl
                            rw [show v9 = .bool false from (Option.some.inj e9).symm] at h9
                            obtain ⟨v24, h24, e24⟩ := hE ⟨24, .data⟩ (by simp) rfl _ _ rfl rfl
                            rw [show v24 = .bool false from (Option.some.inj e24).symm] at h24
                            clear hE hO hN
                            refine step_plain0 rfl ?_
                            go_simp
                            exact hK _ _ rfl hM (Below.refl _ _)
                        · intro u w2 hM hF
                          have e25 : u 25 = .bool false := (Option.some.inj (hF 25 (by omega))).symm
                          clear hF
                          simp only [fillAll, Nat.reduceAdd, e25, List.take_succ_cons, List.take_zero, List.drop_succ_cons, List.drop_zero, List.setIfInBounds_toArray, List.set_cons_succ, List.set_cons_zero]
                          have HM8 := hid2 hM
                          clear hM
                          go_wp2_with fail
                          go_roundg (gk - 1)
                          case rel => exact ⟨k + 1, by omega, by go_num, HM8.out⟩
                          case measure => omega
                    · have hlt' : ¬ (k : Int) < N3 := by omega
                      clear hlt
                      go_wp2_with fail
                      go_ret
                      exact ⟨rfl, HLOW.out.trans ((HB7.out.trans (HB8.out.mono HB7.out.size)).mono HLOW.out.size)⟩
          · have hNpos : 0 < N := by omega
            go_wp2_with fail
            go_loopg [9] Q (fun gk i wr => ∃ (k n2 : Nat) (xs : List ByteArray) (M2 : BTab), k + gk = Q ∧ i = .int .i64 k ∧ xs.length ≤ k ∧ (∀ x ∈ xs, x ∈ ps) ∧ M2 = putsM [] xs ∧ n2 ≤ k ∧ OrI w p b1 n M p2 b2 n2 M2 wr)
            case atStart => exact ⟨0, 0, [], [], by omega, rfl, Nat.le_refl _, (fun x h => by cases h), rfl, Nat.le_refl _, HOI.out⟩
            case round =>
              clear HOI
              obtain ⟨k, n2, xs, M2, hk, rfl, hxl, hxs, hM2, hn2, hoi⟩ := hrel
              have HXS := hid2 hxs
              have HM2 := hid2 hM2
              have HOI := hid2 hoi
              clear hxs hM2 hoi
              have hz2 : sizeM M2 ≤ 300 * (k : Int) := by
                rw [HM2.out]
                have := sizeM_puts [] xs (fun x hx => HSM.out x (HXS.out x hx))
                rw [show sizeM ([] : BTab) = 0 from rfl] at this
                omega
              by_cases hlt : k < Q
              · have hlt' : (k : Int) < Q := by omega
                have hk0 : (0 : Int) ≤ k := by omega
                have hN0' : (0 : Int) < N := by omega
                obtain ⟨ob, ho⟩ : ∃ x, os[k]? = some x := ⟨_, List.getElem?_eq_getElem (by rw [← HQ.out]; exact hlt)⟩
                obtain ⟨bb, bo, rfl, hcb⟩ := (HRB.out.below_all HOI.out.low).2 (by omega)
                have co : wr.cell? ⟨bb, bo + k, none⟩ = some (.int .u8 ob.toNat) := hcb k _ (by simp [u8s, ho])
                obtain ⟨ov, hov⟩ : ∃ ov : Nat, ov = ob.toNat := ⟨_, rfl⟩
                have hov255 : ov ≤ 255 := by have := UInt8.toNat_lt ob; omega
                rw [← hov] at co
                obtain ⟨r, hr0⟩ : ∃ r : Nat, r = ov % N := ⟨_, rfl⟩
                have hrN : r < N := by rw [hr0]; exact Nat.mod_lt _ (by omega)
                have hrm : ((ov : Int)).tmod (N : Int) = (r : Int) := by rw [hr0, Int.ofNat_tmod]
                have hw1 : IntKind.i64.wrap (ov : Int) = ov := IntWalk.i64_in _ (by constructor <;> omega)
                have hw2 : IntKind.i64.wrap (r : Int) = r := IntWalk.i64_in _ (by constructor <;> omega)
                have hNne : ¬ (N : Int) = 0 := by omega
                have hNm1 : ¬ (N : Int) = -1 := by omega
                have hr0' : (0 : Int) ≤ r := by omega
                have hrN' : (r : Int) < N := by omega
                obtain ⟨y, hy⟩ : ∃ x, ps[r]? = some x := ⟨_, List.getElem?_eq_getElem (by rw [← HN.out]; exact hrN)⟩
                obtain ⟨b, o, rfl, cy⟩ := str_cell (HR.out.below_all HOI.out.low) hy
                have hyp : y ∈ ps := List.mem_of_getElem? hy
                have hys := HSM.out y hyp
                have HYP := hid2 hyp
                clear ho hcb hov hr0 hy hyp hlt
                go_wp2_with (first
                  | (go_at_call 30; refine (or_put2 HOI.out (by omega) (by omega) y (by omega)).mono ?_; rintro e w5 ⟨rfl, hoi⟩; have HOI5 := hid2 hoi; clear hoi))
                go_roundg (gk - 1)
                case rel => exact ⟨k + 1, n2 + 1, xs ++ [y], _, by omega, by go_num, by simp; omega, (fun x hx => by
                  rcases List.mem_append.1 hx with hx | hx
                  · exact HXS.out x hx
                  · obtain rfl := List.mem_singleton.1 hx
                    exact HYP.out), by rw [putsM_snoc, ← HM2.out], by omega, HOI5.out⟩
                case measure => omega
              · have hkQ : k = Q := by omega
                have hlt' : ¬ (k : Int) < Q := by omega
                have hwN : IntKind.i64.wrap ((N : Int) - 1) = (N : Int) - 1 := IntWalk.i64_in _ (by constructor <;> omega)
                clear hlt
                go_wp2_with fail
                go_loopg [10] N (fun gk i wr => ∃ (q n3 : Nat) (iv : Int) (ys : List ByteArray) (M3 : BTab), q + gk = N ∧ i = .int .i64 iv ∧ iv = (N : Int) - 1 - q ∧ ys = xs ++ ps.reverse.take q ∧ M3 = putsM [] ys ∧ n3 ≤ 100 + q ∧ OrI w p b1 n M p2 b2 n3 M3 wr)
                case atStart => exact ⟨0, n2, _, xs, M2, by omega, rfl, by omega, by simp, HM2.out, by omega, HOI.out⟩
                case round =>
                  clear HOI
                  obtain ⟨q, n3, iv, ys, M3, hq, rfl, hiv, hys, hM3, hn3, hoi⟩ := hrel
                  have HYS := hid2 hys
                  have HM3 := hid2 hM3
                  have HOI := hid2 hoi
                  have hysl : ys.length ≤ 100 + q := by rw [hys, List.length_append, List.length_take]; omega
                  have hysm : ∀ x ∈ ys, x ∈ ps := fun x hx => by
                    rw [hys] at hx
                    rcases List.mem_append.1 hx with hx | hx
                    · exact HXS.out x hx
                    · exact List.mem_reverse.1 (List.mem_of_mem_take hx)
                  have hz3 : sizeM M3 ≤ 300 * ((100 + q : Nat) : Int) := by
                    rw [hM3]
                    have := sizeM_puts [] ys (fun x hx => HSM.out x (hysm x hx))
                    rw [show sizeM ([] : BTab) = 0 from rfl] at this
                    omega
                  have HYM := hid2 hysm
                  clear hys hM3 hoi hysm
                  by_cases hlt : q < N
                  · obtain ⟨j, hj⟩ : ∃ j : Nat, j + 1 + q = N := ⟨N - 1 - q, by omega⟩
                    obtain rfl : iv = (j : Int) := by omega
                    have hj0 : (0 : Int) ≤ j := by omega
                    have hjN : (j : Int) < N := by omega
                    have hwj : IntKind.i64.wrap ((j : Int) - 1) = (j : Int) - 1 := IntWalk.i64_in _ (by constructor <;> omega)
                    obtain ⟨y, hy⟩ : ∃ x, ps[j]? = some x := ⟨_, List.getElem?_eq_getElem (by rw [← HN.out]; omega)⟩
                    have hyr : ps.reverse[q]? = some y := by
                      rw [List.getElem?_reverse (by rw [← HN.out]; exact hlt), ← HN.out, show N - 1 - q = j by omega]
                      exact hy
                    obtain ⟨b, o, rfl, cy⟩ := str_cell (HR.out.below_all HOI.out.low) hy
                    have hys := HSM.out y (List.mem_of_getElem? hy)
                    have HYR := hid2 hyr
                    clear hy hyr hlt hiv
                    go_wp2_with (first
                      | (go_at_call 30; refine (or_put2 HOI.out (by omega) (by omega) y (by omega)).mono ?_; rintro e w5 ⟨rfl, hoi⟩; have HOI5 := hid2 hoi; clear hoi))
                    go_roundg (gk - 1)
                    case rel => exact ⟨q + 1, n3 + 1, (j : Int) - 1, ys ++ [y], _, by omega, by first | rfl | go_num, by omega, by rw [take_snoc HYR.out, ← List.append_assoc, ← HYS.out], by rw [putsM_snoc, ← HM3.out], by omega, HOI5.out⟩
                    case measure => omega
                  · have hqN : q = N := by omega
                    obtain rfl : iv = -1 := by omega
                    have hMM : M3 = M := by
                      refine rises_ext (HOI.out.st2.map.rises keyed_dig) (HOI.out.st.map.rises keyed_dig) fun z => ?_
                      rw [HM3.out, HMA.out, mem_puts HNC.out ys HYM.out, mem_puts HNC.out ps (fun x h => h)]
                      constructor
                      · rintro ⟨x, hx, e⟩
                        exact ⟨x, HYM.out x hx, e⟩
                      · rintro ⟨x, hx, e⟩
                        refine ⟨x, ?_, e⟩
                        rw [HYS.out, hqN, HN.out, List.take_of_length_le (by simp)]
                        exact List.mem_append_right _ (List.mem_reverse.2 hx)
                    have hoi2 := HOI.out
                    rw [hMM] at hoi2
                    have hKO : KeysOk M := by rw [HMA.out]; exact keysOk_puts ps
                    have cA1 := all_any sorts_dig wr p b1 n M _ hoi2.st (by omega)
                    have cA2 : ∀ W, Below wr.heap.size wr W → Calls Try.prog 34 #[.pointer (some ⟨p2, 0, none⟩)] W fun e w' => ∃ A c, e = .returned (.slice A M.length c) ∧ Own w' W.heap.size 39 32 A M.length c (keysV M) ∧ Below W.heap.size W w' := fun W hW => all_any sorts_dig W p2 b2 n3 M _ (hoi2.ext hW).st2 (by omega)
                    have cZ1 : ∀ W, Below wr.heap.size wr W → Calls Try.prog 35 #[.pointer (some ⟨p, 0, none⟩)] W fun e w' => e = .returned (.int .i64 (sizeM M)) ∧ w' = W := fun W hW => size_any W p b1 n M _ (hoi2.ext hW).st
                    have cZ2 : ∀ W, Below wr.heap.size wr W → Calls Try.prog 35 #[.pointer (some ⟨p2, 0, none⟩)] W fun e w' => e = .returned (.int .i64 (sizeM M)) ∧ w' = W := fun W hW => size_any W p2 b2 n3 M _ (hoi2.ext hW).st2
                    have hri := hoi2.st.map.rises keyed_dig
                    have hml := hoi2.st.map.length_le
                    have hnB : n ≤ N := hnk'
                    obtain ⟨N3, hN3⟩ : ∃ N3, N3 = M.length := ⟨_, rfl⟩
                    obtain ⟨z, hz⟩ : ∃ z, z = sizeM M := ⟨_, rfl⟩
                    rw [← hN3] at cA1 cA2 hml
                    rw [← hz] at cZ1 cZ2
                    have CA1 := hid2 cA1
                    have CA2 := hid2 cA2
                    have CZ1 := hid2 cZ1
                    have CZ2 := hid2 cZ2
                    have HRI := hid2 hri
                    have HN3 := hid2 hN3
                    have HKO := hid2 hKO
                    have HLOW := hid2 hoi2.low
                    clear hMM hoi2 cA1 cA2 cZ1 cZ2 hri hN3 hz hKO hlt hiv
                    go_wp2_with (first
                      | (go_at_call 34; (first
                          | ((with_reducible refine CA1.out.mono ?_); rintro e w6 ⟨K1, kc1, rfl, ho, hb⟩; have HO1 := hid2 ho; have HB6 := hid2 hb; clear ho hb)
                          | ((with_reducible refine (CA2.out _ HB6.out).mono ?_); rintro e w7 ⟨K2, kc2, rfl, ho, hb⟩; have HO2 := hid2 ho.rd; have HO1' := hid2 (HO1.out.rd.below_all hb); have HB7 := hid2 (HB6.out.trans (hb.mono HB6.out.size)); clear ho hb HO1)))
                      | (go_at_call 35; (first
                          | ((with_reducible refine (CZ1.out _ HB7.out).mono ?_); rintro e w8 ⟨rfl, rfl⟩)
                          | ((with_reducible refine (CZ2.out _ HB7.out).mono ?_); rintro e w8 ⟨rfl, rfl⟩))))
                    go_loopg [13] N3 (fun gk i wr => ∃ k : Nat, k + gk = N3 ∧ i = .int .i64 k ∧ Below w8.heap.size w8 wr)
                    case atStart => exact ⟨0, by omega, rfl, Below.refl _ _⟩
                    case round =>
                      obtain ⟨k, hk, rfl, hb⟩ := hrel
                      have HB8 := hid2 hb
                      clear hb
                      by_cases hlt : k < N3
                      · have hlt' : (k : Int) < N3 := by omega
                        have hk0 : (0 : Int) ≤ k := by omega
                        obtain ⟨x, hx⟩ : ∃ x, M[k]? = some x := ⟨_, List.getElem?_eq_getElem (by rw [← HN3.out]; exact hlt)⟩
                        have hX32 := HKO.out.at_ hx
                        obtain ⟨kb1, ko1, rfl, _⟩ := key_load HKO.out (by rw [← HN3.out]; exact HO1'.out) hx
                        obtain ⟨kb2, ko2, rfl, _⟩ := key_load HKO.out (by rw [← HN3.out]; exact HO2.out) hx
                        obtain ⟨X, hX⟩ : ∃ X, X = x.1 := ⟨_, rfl⟩
                        have hl1 : ∀ W, Below w8.heap.size w8 W → (loadVar 39 ⟨kb1, ko1 + k * 32, none⟩).run Try.prog W = .ok (.agg (u8s X).toArray) W := fun W hW => by
                          obtain ⟨b', o', e, hc⟩ := key_load HKO.out (by rw [← HN3.out]; exact HO1'.out.below_all hW) hx
                          cases e
                          rw [hX]
                          exact hc
                        have hl2 : ∀ W, Below w8.heap.size w8 W → (loadVar 39 ⟨kb2, ko2 + k * 32, none⟩).run Try.prog W = .ok (.agg (u8s X).toArray) W := fun W hW => by
                          obtain ⟨b', o', e, hc⟩ := key_load HKO.out (by rw [← HN3.out]; exact HO2.out.below_all hW) hx
                          cases e
                          rw [hX]
                          exact hc
                        rw [← hX] at hX32
                        have heq : ∀ W, (binOp .neq 39 (.agg (u8s X).toArray) (.agg (u8s X).toArray)).run Try.prog W = .ok (.bool false) W := fun W => (run_neq_dig X X hX32 hX32 W).trans (by rw [beq_self_eq_true]; rfl)
                        have HL1 := hid2 hl1
                        have HL2 := hid2 hl2
                        have HXX := hid2 hX
                        have HX := hid2 hx
                        clear hl1 hl2 hX hx hlt
                        by_cases hz0 : k = 0
                        · have gz : ((0 : Int) < (k : Int)) = False := eq_false (by omega)
                          have gz' : decide ((0 : Int) < (k : Int)) = false := decide_eq_false (by omega)
                          have gzn : decide (0 < k) = false := decide_eq_false (by omega)
                          clear hz0
                          go_wp2_with fail
                          refine wp_region_grd 26 (by kernel_rfl) (by kernel_rfl) (by kernel_rfl) _ rfl (by kernel_rfl) (fun j v _ => ([.slice (some ⟨kb1, ko1, none⟩) N3 kc1, .int .i64 k, .pointer (some ⟨kb1, ko1 + k * 32, none⟩), .agg (u8s X).toArray, .slice (some ⟨kb2, ko2, none⟩) N3 kc2, .int .i64 k, .pointer (some ⟨kb2, ko2 + k * 32, none⟩), .agg (u8s X).toArray, .bool false, .bool false, .int .i64 k, .bool false, .bool false, undef, undef, undef, undef, undef, undef, undef, undef, undef, undef, undef, .bool false, .bool false] : List Value)[j]? = some v) (fun w4 => Below w8.heap.size w8 w4) (fun a b => Below a.heap.size a b) (below_drewN HB8.out 1) (fun _ _ _ _ hb hv => hv) ?_ ?_
                          · refine of_allOps ⟨?_, ?_, ?_, ?_, ?_, ?_, ?_, ?_, ?_, ?_, ?_, ?_, ?_, ?_, ?_, ?_, ?_, ?_, ?_, ?_, ?_, ?_, ?_, ?_, ?_, ?_, trivial⟩
                            · intro T2 w2 hM hN hO hE K hK
                              have o11 : T2[11]? = some (.slice (some ⟨kb1, ko1, none⟩) N3 kc1) := hO 11 rfl
                              clear hE hO hN
                              refine step_plain0 rfl ?_
                              go_simp
                              exact hK _ _ rfl hM (Below.refl _ _)
                            · intro T2 w2 hM hN hO hE K hK
                              have o13 : T2[13]? = some (.int .i64 k) := hO 13 rfl
                              clear hE hO hN
                              refine step_plain0 rfl ?_
                              go_simp
                              exact hK _ _ rfl hM (Below.refl _ _)
                            · intro T2 w2 hM hN hO hE K hK
                              obtain ⟨v0, h0, e0⟩ := hE ⟨0, .data⟩ (by simp) rfl _ _ rfl rfl
                              rw [show v0 = .slice (some ⟨kb1, ko1, none⟩) N3 kc1 from (Option.some.inj e0).symm] at h0
                              obtain ⟨v1, h1, e1⟩ := hE ⟨1, .data⟩ (by simp) rfl _ _ rfl rfl
                              rw [show v1 = .int .i64 k from (Option.some.inj e1).symm] at h1
                              clear hE hO hN
                              refine step_plain0 rfl ?_
                              go_simp
                              exact hK _ _ rfl hM (Below.refl _ _)
                            · intro T2 w2 hM hN hO hE K hK
                              obtain ⟨v2, h2, e2⟩ := hE ⟨2, .data⟩ (by simp) rfl _ _ rfl rfl
                              rw [show v2 = .pointer (some ⟨kb1, ko1 + k * 32, none⟩) from (Option.some.inj e2).symm] at h2
                              clear hE hO hN
                              refine step_plain0 rfl ?_
                              refine wp_load_run 39 (.tmp 134) rfl (HL1.out w2 hM) ?_ ?_
                              · simp [Act.eval, h2]
                              · exact hK _ _ rfl hM (Below.refl _ _)
                            · intro T2 w2 hM hN hO hE K hK
                              have o12 : T2[12]? = some (.slice (some ⟨kb2, ko2, none⟩) N3 kc2) := hO 12 rfl
                              clear hE hO hN
                              refine step_plain0 rfl ?_
                              go_simp
                              exact hK _ _ rfl hM (Below.refl _ _)
                            · intro T2 w2 hM hN hO hE K hK
                              have o13 : T2[13]? = some (.int .i64 k) := hO 13 rfl
                              clear hE hO hN
                              refine step_plain0 rfl ?_
                              go_simp
                              exact hK _ _ rfl hM (Below.refl _ _)
                            · intro T2 w2 hM hN hO hE K hK
                              obtain ⟨v4, h4, e4⟩ := hE ⟨4, .data⟩ (by simp) rfl _ _ rfl rfl
                              rw [show v4 = .slice (some ⟨kb2, ko2, none⟩) N3 kc2 from (Option.some.inj e4).symm] at h4
                              obtain ⟨v5, h5, e5⟩ := hE ⟨5, .data⟩ (by simp) rfl _ _ rfl rfl
                              rw [show v5 = .int .i64 k from (Option.some.inj e5).symm] at h5
                              clear hE hO hN
                              refine step_plain0 rfl ?_
                              go_simp
                              exact hK _ _ rfl hM (Below.refl _ _)
                            · intro T2 w2 hM hN hO hE K hK
                              obtain ⟨v6, h6, e6⟩ := hE ⟨6, .data⟩ (by simp) rfl _ _ rfl rfl
                              rw [show v6 = .pointer (some ⟨kb2, ko2 + k * 32, none⟩) from (Option.some.inj e6).symm] at h6
                              clear hE hO hN
                              refine step_plain0 rfl ?_
                              refine wp_load_run 39 (.tmp 138) rfl (HL2.out w2 hM) ?_ ?_
                              · simp [Act.eval, h6]
                              · exact hK _ _ rfl hM (Below.refl _ _)
                            · intro T2 w2 hM hN hO hE K hK
                              obtain ⟨v3, h3, e3⟩ := hE ⟨3, .data⟩ (by simp) rfl _ _ rfl rfl
                              rw [show v3 = .agg (u8s X).toArray from (Option.some.inj e3).symm] at h3
                              obtain ⟨v7, h7, e7⟩ := hE ⟨7, .data⟩ (by simp) rfl _ _ rfl rfl
                              rw [show v7 = .agg (u8s X).toArray from (Option.some.inj e7).symm] at h7
                              clear hE hO hN
                              refine step_plain0 rfl ?_
                              go_simp
                              exact hK _ _ rfl hM (Below.refl _ _)
                            · intro T2 w2 hM hN hO hE K hK
                              obtain ⟨v8, h8, e8⟩ := hE ⟨8, .data⟩ (by simp) rfl _ _ rfl rfl
                              rw [show v8 = .bool false from (Option.some.inj e8).symm] at h8
                              clear hE hO hN
                              refine step_plain0 rfl ?_
                              go_simp
                              exact hK _ _ rfl hM (Below.refl _ _)
                            · intro T2 w2 hM hN hO hE K hK
                              obtain ⟨v9, h9, e9⟩ := hE ⟨9, .guard⟩ (by simp) rfl _ _ rfl rfl
                              rw [show v9 = .bool false from (Option.some.inj e9).symm] at h9
                              have o13 : T2[13]? = some (.int .i64 k) := hO 13 rfl
                              clear hE hO hN
                              refine grd_met rfl rfl rfl h9 ?_
                              go_simp
                              exact hK _ _ rfl hM (Below.refl _ _)
                            · intro T2 w2 hM hN hO hE K hK
                              obtain ⟨v10, h10, e10⟩ := hE ⟨10, .data⟩ (by simp) rfl _ _ rfl rfl
                              rw [show v10 = .int .i64 k from (Option.some.inj e10).symm] at h10
                              obtain ⟨v9, h9, e9⟩ := hE ⟨9, .guard⟩ (by simp) rfl _ _ rfl rfl
                              rw [show v9 = .bool false from (Option.some.inj e9).symm] at h9
                              clear hE hO hN
                              refine grd_met rfl rfl rfl h9 ?_
                              go_simp
                              exact hK _ _ rfl hM (Below.refl _ _)
                            · intro T2 w2 hM hN hO hE K hK
                              obtain ⟨v11, h11, e11⟩ := hE ⟨11, .data⟩ (by simp) rfl _ _ rfl rfl
                              rw [show v11 = .bool false from (Option.some.inj e11).symm] at h11
                              obtain ⟨v9, h9, e9⟩ := hE ⟨9, .guard⟩ (by simp) rfl _ _ rfl rfl
                              rw [show v9 = .bool false from (Option.some.inj e9).symm] at h9
                              clear hE hO hN
                              refine grd_met rfl rfl rfl h9 ?_
                              go_simp
                              exact hK _ _ rfl hM (Below.refl _ _)
                            · intro T2 w2 hM hN hO hE K hK
                              obtain ⟨v12, h12, e12⟩ := hE ⟨12, .guard⟩ (by simp) rfl _ _ rfl rfl
                              rw [show v12 = .bool false from (Option.some.inj e12).symm] at h12
                              clear hE hO hN
                              refine grd_not rfl rfl rfl h12 (by decide) ?_
                              exact hK _ _ rfl hM (Below.refl _ _)
                            · intro T2 w2 hM hN hO hE K hK
                              obtain ⟨v12, h12, e12⟩ := hE ⟨12, .guard⟩ (by simp) rfl _ _ rfl rfl
                              rw [show v12 = .bool false from (Option.some.inj e12).symm] at h12
                              clear hE hO hN
                              refine grd_not rfl rfl rfl h12 (by decide) ?_
                              exact hK _ _ rfl hM (Below.refl _ _)
                            · intro T2 w2 hM hN hO hE K hK
                              obtain ⟨v12, h12, e12⟩ := hE ⟨12, .guard⟩ (by simp) rfl _ _ rfl rfl
                              rw [show v12 = .bool false from (Option.some.inj e12).symm] at h12
                              clear hE hO hN
                              refine grd_not rfl rfl rfl h12 (by decide) ?_
                              exact hK _ _ rfl hM (Below.refl _ _)
                            · intro T2 w2 hM hN hO hE K hK
                              obtain ⟨v12, h12, e12⟩ := hE ⟨12, .guard⟩ (by simp) rfl _ _ rfl rfl
                              rw [show v12 = .bool false from (Option.some.inj e12).symm] at h12
                              clear hE hO hN
                              refine grd_not rfl rfl rfl h12 (by decide) ?_
                              exact hK _ _ rfl hM (Below.refl _ _)
                            · intro T2 w2 hM hN hO hE K hK
                              obtain ⟨v12, h12, e12⟩ := hE ⟨12, .guard⟩ (by simp) rfl _ _ rfl rfl
                              rw [show v12 = .bool false from (Option.some.inj e12).symm] at h12
                              clear hE hO hN
                              refine grd_not rfl rfl rfl h12 (by decide) ?_
                              exact hK _ _ rfl hM (Below.refl _ _)
                            · intro T2 w2 hM hN hO hE K hK
                              obtain ⟨v12, h12, e12⟩ := hE ⟨12, .guard⟩ (by simp) rfl _ _ rfl rfl
                              rw [show v12 = .bool false from (Option.some.inj e12).symm] at h12
                              clear hE hO hN
                              refine grd_not rfl rfl rfl h12 (by decide) ?_
                              exact hK _ _ rfl hM (Below.refl _ _)
                            · intro T2 w2 hM hN hO hE K hK
                              obtain ⟨v12, h12, e12⟩ := hE ⟨12, .guard⟩ (by simp) rfl _ _ rfl rfl
                              rw [show v12 = .bool false from (Option.some.inj e12).symm] at h12
                              clear hE hO hN
                              refine grd_not rfl rfl rfl h12 (by decide) ?_
                              exact hK _ _ rfl hM (Below.refl _ _)
                            · intro T2 w2 hM hN hO hE K hK
                              obtain ⟨v12, h12, e12⟩ := hE ⟨12, .guard⟩ (by simp) rfl _ _ rfl rfl
                              rw [show v12 = .bool false from (Option.some.inj e12).symm] at h12
                              clear hE hO hN
                              refine grd_not rfl rfl rfl h12 (by decide) ?_
                              exact hK _ _ rfl hM (Below.refl _ _)
                            · intro T2 w2 hM hN hO hE K hK
                              obtain ⟨v12, h12, e12⟩ := hE ⟨12, .guard⟩ (by simp) rfl _ _ rfl rfl
                              rw [show v12 = .bool false from (Option.some.inj e12).symm] at h12
                              clear hE hO hN
                              refine grd_not rfl rfl rfl h12 (by decide) ?_
                              exact hK _ _ rfl hM (Below.refl _ _)
                            · intro T2 w2 hM hN hO hE K hK
                              obtain ⟨v12, h12, e12⟩ := hE ⟨12, .guard⟩ (by simp) rfl _ _ rfl rfl
                              rw [show v12 = .bool false from (Option.some.inj e12).symm] at h12
                              clear hE hO hN
                              refine grd_not rfl rfl rfl h12 (by decide) ?_
                              exact hK _ _ rfl hM (Below.refl _ _)
                            · intro T2 w2 hM hN hO hE K hK
                              obtain ⟨v12, h12, e12⟩ := hE ⟨12, .guard⟩ (by simp) rfl _ _ rfl rfl
                              rw [show v12 = .bool false from (Option.some.inj e12).symm] at h12
                              clear hE hO hN
                              refine grd_not rfl rfl rfl h12 (by decide) ?_
                              exact hK _ _ rfl hM (Below.refl _ _)
                            · intro T2 w2 hM hN hO hE K hK
                              obtain ⟨v12, h12, e12⟩ := hE ⟨12, .data⟩ (by simp) rfl _ _ rfl rfl
                              rw [show v12 = .bool false from (Option.some.inj e12).symm] at h12
                              obtain ⟨v9, h9, e9⟩ := hE ⟨9, .guard⟩ (by simp) rfl _ _ rfl rfl
                              rw [show v9 = .bool false from (Option.some.inj e9).symm] at h9
                              clear hE hO hN
                              refine grd_met rfl rfl rfl h9 ?_
                              go_simp
                              exact hK _ _ rfl hM (Below.refl _ _)
                            · intro T2 w2 hM hN hO hE K hK
                              obtain ⟨v9, h9, e9⟩ := hE ⟨9, .data⟩ (by simp) rfl _ _ rfl rfl
                              rw [show v9 = .bool false from (Option.some.inj e9).symm] at h9
                              obtain ⟨v24, h24, e24⟩ := hE ⟨24, .data⟩ (by simp) rfl _ _ rfl rfl
                              rw [show v24 = .bool false from (Option.some.inj e24).symm] at h24
                              clear hE hO hN
                              refine step_plain0 rfl ?_
                              go_simp
                              exact hK _ _ rfl hM (Below.refl _ _)
                          · intro u w2 hM hF
                            have e25 : u 25 = .bool false := (Option.some.inj (hF 25 (by omega))).symm
                            clear hF
                            simp only [fillAll, Nat.reduceAdd, e25, List.take_succ_cons, List.take_zero, List.drop_succ_cons, List.drop_zero, List.setIfInBounds_toArray, List.set_cons_succ, List.set_cons_zero]
                            have HM8 := hid2 hM
                            clear hM
                            go_wp2_with fail
                            go_roundg (gk - 1)
                            case rel => exact ⟨k + 1, by omega, by go_num, HM8.out⟩
                            case measure => omega
                        · obtain ⟨q, hq⟩ : ∃ q : Nat, q + 1 = k := ⟨k - 1, by omega⟩
                          have gz : ((0 : Int) < (k : Int)) = True := eq_true (by omega)
                          have gz' : decide ((0 : Int) < (k : Int)) = true := decide_eq_true (by omega)
                          have gzn : decide (0 < k) = true := decide_eq_true (by omega)
                          have hkq : (k : Int) - 1 = (q : Int) := by omega
                          have hwk : IntKind.i64.wrap (q : Int) = (q : Int) := IntWalk.i64_in _ (by constructor <;> omega)
                          have hq0 : (0 : Int) ≤ q := by omega
                          have hqN : (q : Int) < N3 := by omega
                          obtain ⟨xp, hxp⟩ : ∃ x, M[q]? = some x := ⟨_, List.getElem?_eq_getElem (by rw [← HN3.out]; omega)⟩
                          have hP32 := HKO.out.at_ hxp
                          obtain ⟨XP, hXP⟩ : ∃ X, X = xp.1 := ⟨_, rfl⟩
                          have hlp : ∀ W, Below w8.heap.size w8 W → (loadVar 39 ⟨kb1, ko1 + q * 32, none⟩).run Try.prog W = .ok (.agg (u8s XP).toArray) W := fun W hW => by
                            obtain ⟨b', o', e, hc⟩ := key_load HKO.out (by rw [← HN3.out]; exact HO1'.out.below_all hW) hxp
                            cases e
                            rw [hXP]
                            exact hc
                          have hlt2 : decide (XP < X) = true := by
                            have hx := HX.out
                            rw [← hq] at hx
                            rw [hXP, HXX.out]
                            exact decide_eq_true (rises_next HRI.out hxp hx)
                          rw [← hXP] at hP32
                          have HLP := hid2 hlp
                          have HLT := hid2 hlt2
                          clear hlp hlt2 hXP hxp hz0 hq
                          go_wp2_with fail
                          refine wp_region_grd 26 (by kernel_rfl) (by kernel_rfl) (by kernel_rfl) _ rfl (by kernel_rfl) (fun j v _ => ([.slice (some ⟨kb1, ko1, none⟩) N3 kc1, .int .i64 k, .pointer (some ⟨kb1, ko1 + k * 32, none⟩), .agg (u8s X).toArray, .slice (some ⟨kb2, ko2, none⟩) N3 kc2, .int .i64 k, .pointer (some ⟨kb2, ko2 + k * 32, none⟩), .agg (u8s X).toArray, .bool false, .bool false, .int .i64 k, .bool true, .bool true, .slice (some ⟨kb1, ko1, none⟩) N3 kc1, .int .i64 k, .int .i64 q, .pointer (some ⟨kb1, ko1 + q * 32, none⟩), .agg (u8s XP).toArray, .slice (some ⟨kb1, ko1, none⟩) N3 kc1, .int .i64 k, .pointer (some ⟨kb1, ko1 + k * 32, none⟩), .agg (u8s X).toArray, .bool true, .bool false, .bool false, .bool false] : List Value)[j]? = some v) (fun w4 => Below w8.heap.size w8 w4) (fun a b => Below a.heap.size a b) (below_drewN HB8.out 1) (fun _ _ _ _ hb hv => hv) ?_ ?_
                          · refine of_allOps ⟨?_, ?_, ?_, ?_, ?_, ?_, ?_, ?_, ?_, ?_, ?_, ?_, ?_, ?_, ?_, ?_, ?_, ?_, ?_, ?_, ?_, ?_, ?_, ?_, ?_, ?_, trivial⟩
                            · intro T2 w2 hM hN hO hE K hK
                              have o11 : T2[11]? = some (.slice (some ⟨kb1, ko1, none⟩) N3 kc1) := hO 11 rfl
                              clear hE hO hN
                              refine step_plain0 rfl ?_
                              go_simp
                              exact hK _ _ rfl hM (Below.refl _ _)
                            · intro T2 w2 hM hN hO hE K hK
                              have o13 : T2[13]? = some (.int .i64 k) := hO 13 rfl
                              clear hE hO hN
                              refine step_plain0 rfl ?_
                              go_simp
                              exact hK _ _ rfl hM (Below.refl _ _)
                            · intro T2 w2 hM hN hO hE K hK
                              obtain ⟨v0, h0, e0⟩ := hE ⟨0, .data⟩ (by simp) rfl _ _ rfl rfl
                              rw [show v0 = .slice (some ⟨kb1, ko1, none⟩) N3 kc1 from (Option.some.inj e0).symm] at h0
                              obtain ⟨v1, h1, e1⟩ := hE ⟨1, .data⟩ (by simp) rfl _ _ rfl rfl
                              rw [show v1 = .int .i64 k from (Option.some.inj e1).symm] at h1
                              clear hE hO hN
                              refine step_plain0 rfl ?_
                              go_simp
                              exact hK _ _ rfl hM (Below.refl _ _)
                            · intro T2 w2 hM hN hO hE K hK
                              obtain ⟨v2, h2, e2⟩ := hE ⟨2, .data⟩ (by simp) rfl _ _ rfl rfl
                              rw [show v2 = .pointer (some ⟨kb1, ko1 + k * 32, none⟩) from (Option.some.inj e2).symm] at h2
                              clear hE hO hN
                              refine step_plain0 rfl ?_
                              refine wp_load_run 39 (.tmp 134) rfl (HL1.out w2 hM) ?_ ?_
                              · simp [Act.eval, h2]
                              · exact hK _ _ rfl hM (Below.refl _ _)
                            · intro T2 w2 hM hN hO hE K hK
                              have o12 : T2[12]? = some (.slice (some ⟨kb2, ko2, none⟩) N3 kc2) := hO 12 rfl
                              clear hE hO hN
                              refine step_plain0 rfl ?_
                              go_simp
                              exact hK _ _ rfl hM (Below.refl _ _)
                            · intro T2 w2 hM hN hO hE K hK
                              have o13 : T2[13]? = some (.int .i64 k) := hO 13 rfl
                              clear hE hO hN
                              refine step_plain0 rfl ?_
                              go_simp
                              exact hK _ _ rfl hM (Below.refl _ _)
                            · intro T2 w2 hM hN hO hE K hK
                              obtain ⟨v4, h4, e4⟩ := hE ⟨4, .data⟩ (by simp) rfl _ _ rfl rfl
                              rw [show v4 = .slice (some ⟨kb2, ko2, none⟩) N3 kc2 from (Option.some.inj e4).symm] at h4
                              obtain ⟨v5, h5, e5⟩ := hE ⟨5, .data⟩ (by simp) rfl _ _ rfl rfl
                              rw [show v5 = .int .i64 k from (Option.some.inj e5).symm] at h5
                              clear hE hO hN
                              refine step_plain0 rfl ?_
                              go_simp
                              exact hK _ _ rfl hM (Below.refl _ _)
                            · intro T2 w2 hM hN hO hE K hK
                              obtain ⟨v6, h6, e6⟩ := hE ⟨6, .data⟩ (by simp) rfl _ _ rfl rfl
                              rw [show v6 = .pointer (some ⟨kb2, ko2 + k * 32, none⟩) from (Option.some.inj e6).symm] at h6
                              clear hE hO hN
                              refine step_plain0 rfl ?_
                              refine wp_load_run 39 (.tmp 138) rfl (HL2.out w2 hM) ?_ ?_
                              · simp [Act.eval, h6]
                              · exact hK _ _ rfl hM (Below.refl _ _)
                            · intro T2 w2 hM hN hO hE K hK
                              obtain ⟨v3, h3, e3⟩ := hE ⟨3, .data⟩ (by simp) rfl _ _ rfl rfl
                              rw [show v3 = .agg (u8s X).toArray from (Option.some.inj e3).symm] at h3
                              obtain ⟨v7, h7, e7⟩ := hE ⟨7, .data⟩ (by simp) rfl _ _ rfl rfl
                              rw [show v7 = .agg (u8s X).toArray from (Option.some.inj e7).symm] at h7
                              clear hE hO hN
                              refine step_plain0 rfl ?_
                              go_simp
                              exact hK _ _ rfl hM (Below.refl _ _)
                            · intro T2 w2 hM hN hO hE K hK
                              obtain ⟨v8, h8, e8⟩ := hE ⟨8, .data⟩ (by simp) rfl _ _ rfl rfl
                              rw [show v8 = .bool false from (Option.some.inj e8).symm] at h8
                              clear hE hO hN
                              refine step_plain0 rfl ?_
                              go_simp
                              exact hK _ _ rfl hM (Below.refl _ _)
                            · intro T2 w2 hM hN hO hE K hK
                              obtain ⟨v9, h9, e9⟩ := hE ⟨9, .guard⟩ (by simp) rfl _ _ rfl rfl
                              rw [show v9 = .bool false from (Option.some.inj e9).symm] at h9
                              have o13 : T2[13]? = some (.int .i64 k) := hO 13 rfl
                              clear hE hO hN
                              refine grd_met rfl rfl rfl h9 ?_
                              go_simp
                              exact hK _ _ rfl hM (Below.refl _ _)
                            · intro T2 w2 hM hN hO hE K hK
                              obtain ⟨v10, h10, e10⟩ := hE ⟨10, .data⟩ (by simp) rfl _ _ rfl rfl
                              rw [show v10 = .int .i64 k from (Option.some.inj e10).symm] at h10
                              obtain ⟨v9, h9, e9⟩ := hE ⟨9, .guard⟩ (by simp) rfl _ _ rfl rfl
                              rw [show v9 = .bool false from (Option.some.inj e9).symm] at h9
                              clear hE hO hN
                              refine grd_met rfl rfl rfl h9 ?_
                              go_simp
                              exact hK _ _ rfl hM (Below.refl _ _)
                            · intro T2 w2 hM hN hO hE K hK
                              obtain ⟨v11, h11, e11⟩ := hE ⟨11, .data⟩ (by simp) rfl _ _ rfl rfl
                              rw [show v11 = .bool true from (Option.some.inj e11).symm] at h11
                              obtain ⟨v9, h9, e9⟩ := hE ⟨9, .guard⟩ (by simp) rfl _ _ rfl rfl
                              rw [show v9 = .bool false from (Option.some.inj e9).symm] at h9
                              clear hE hO hN
                              refine grd_met rfl rfl rfl h9 ?_
                              go_simp
                              exact hK _ _ rfl hM (Below.refl _ _)
                            · intro T2 w2 hM hN hO hE K hK
                              obtain ⟨v12, h12, e12⟩ := hE ⟨12, .guard⟩ (by simp) rfl _ _ rfl rfl
                              rw [show v12 = .bool true from (Option.some.inj e12).symm] at h12
                              have o11 : T2[11]? = some (.slice (some ⟨kb1, ko1, none⟩) N3 kc1) := hO 11 rfl
                              clear hE hO hN
                              refine grd_met rfl rfl rfl h12 ?_
                              go_simp
                              exact hK _ _ rfl hM (Below.refl _ _)
                            · intro T2 w2 hM hN hO hE K hK
                              obtain ⟨v12, h12, e12⟩ := hE ⟨12, .guard⟩ (by simp) rfl _ _ rfl rfl
                              rw [show v12 = .bool true from (Option.some.inj e12).symm] at h12
                              have o13 : T2[13]? = some (.int .i64 k) := hO 13 rfl
                              clear hE hO hN
                              refine grd_met rfl rfl rfl h12 ?_
                              go_simp
                              exact hK _ _ rfl hM (Below.refl _ _)
                            · intro T2 w2 hM hN hO hE K hK
                              obtain ⟨v14, h14, e14⟩ := hE ⟨14, .data⟩ (by simp) rfl _ _ rfl rfl
                              rw [show v14 = .int .i64 k from (Option.some.inj e14).symm] at h14
                              obtain ⟨v12, h12, e12⟩ := hE ⟨12, .guard⟩ (by simp) rfl _ _ rfl rfl
                              rw [show v12 = .bool true from (Option.some.inj e12).symm] at h12
                              clear hE hO hN
                              refine grd_met rfl rfl rfl h12 ?_
                              go_simp
                              exact hK _ _ rfl hM (Below.refl _ _)
                            · intro T2 w2 hM hN hO hE K hK
                              obtain ⟨v13, h13, e13⟩ := hE ⟨13, .data⟩ (by simp) rfl _ _ rfl rfl
                              rw [show v13 = .slice (some ⟨kb1, ko1, none⟩) N3 kc1 from (Option.some.inj e13).symm] at h13
                              obtain ⟨v15, h15, e15⟩ := hE ⟨15, .data⟩ (by simp) rfl _ _ rfl rfl
                              rw [show v15 = .int .i64 q from (Option.some.inj e15).symm] at h15
                              obtain ⟨v12, h12, e12⟩ := hE ⟨12, .guard⟩ (by simp) rfl _ _ rfl rfl
                              rw [show v12 = .bool true from (Option.some.inj e12).symm] at h12
                              clear hE hO hN
                              refine grd_met rfl rfl rfl h12 ?_
                              go_simp
                              exact hK _ _ rfl hM (Below.refl _ _)
                            · intro T2 w2 hM hN hO hE K hK
                              obtain ⟨v16, h16, e16⟩ := hE ⟨16, .data⟩ (by simp) rfl _ _ rfl rfl
                              rw [show v16 = .pointer (some ⟨kb1, ko1 + q * 32, none⟩) from (Option.some.inj e16).symm] at h16
                              obtain ⟨v12, h12, e12⟩ := hE ⟨12, .guard⟩ (by simp) rfl _ _ rfl rfl
                              rw [show v12 = .bool true from (Option.some.inj e12).symm] at h12
                              clear hE hO hN
                              refine grd_met rfl rfl rfl h12 ?_
                              refine wp_load_run 39 (.tmp 148) rfl (HLP.out w2 hM) ?_ ?_
                              · simp [Act.eval, h16]
                              · exact hK _ _ rfl hM (Below.refl _ _)
                            · intro T2 w2 hM hN hO hE K hK
                              obtain ⟨v12, h12, e12⟩ := hE ⟨12, .guard⟩ (by simp) rfl _ _ rfl rfl
                              rw [show v12 = .bool true from (Option.some.inj e12).symm] at h12
                              have o11 : T2[11]? = some (.slice (some ⟨kb1, ko1, none⟩) N3 kc1) := hO 11 rfl
                              clear hE hO hN
                              refine grd_met rfl rfl rfl h12 ?_
                              go_simp
                              exact hK _ _ rfl hM (Below.refl _ _)
                            · intro T2 w2 hM hN hO hE K hK
                              obtain ⟨v12, h12, e12⟩ := hE ⟨12, .guard⟩ (by simp) rfl _ _ rfl rfl
                              rw [show v12 = .bool true from (Option.some.inj e12).symm] at h12
                              have o13 : T2[13]? = some (.int .i64 k) := hO 13 rfl
                              clear hE hO hN
                              refine grd_met rfl rfl rfl h12 ?_
                              go_simp
                              exact hK _ _ rfl hM (Below.refl _ _)
                            · intro T2 w2 hM hN hO hE K hK
                              obtain ⟨v18, h18, e18⟩ := hE ⟨18, .data⟩ (by simp) rfl _ _ rfl rfl
                              rw [show v18 = .slice (some ⟨kb1, ko1, none⟩) N3 kc1 from (Option.some.inj e18).symm] at h18
                              obtain ⟨v19, h19, e19⟩ := hE ⟨19, .data⟩ (by simp) rfl _ _ rfl rfl
                              rw [show v19 = .int .i64 k from (Option.some.inj e19).symm] at h19
                              obtain ⟨v12, h12, e12⟩ := hE ⟨12, .guard⟩ (by simp) rfl _ _ rfl rfl
                              rw [show v12 = .bool true from (Option.some.inj e12).symm] at h12
                              clear hE hO hN
                              refine grd_met rfl rfl rfl h12 ?_
                              go_simp
                              exact hK _ _ rfl hM (Below.refl _ _)
                            · intro T2 w2 hM hN hO hE K hK
                              obtain ⟨v20, h20, e20⟩ := hE ⟨20, .data⟩ (by simp) rfl _ _ rfl rfl
                              rw [show v20 = .pointer (some ⟨kb1, ko1 + k * 32, none⟩) from (Option.some.inj e20).symm] at h20
                              obtain ⟨v12, h12, e12⟩ := hE ⟨12, .guard⟩ (by simp) rfl _ _ rfl rfl
                              rw [show v12 = .bool true from (Option.some.inj e12).symm] at h12
                              clear hE hO hN
                              refine grd_met rfl rfl rfl h12 ?_
                              refine wp_load_run 39 (.tmp 152) rfl (HL1.out w2 hM) ?_ ?_
                              · simp [Act.eval, h20]
                              · exact hK _ _ rfl hM (Below.refl _ _)
                            · intro T2 w2 hM hN hO hE K hK
                              obtain ⟨v17, h17, e17⟩ := hE ⟨17, .data⟩ (by simp) rfl _ _ rfl rfl
                              rw [show v17 = .agg (u8s XP).toArray from (Option.some.inj e17).symm] at h17
                              obtain ⟨v21, h21, e21⟩ := hE ⟨21, .data⟩ (by simp) rfl _ _ rfl rfl
                              rw [show v21 = .agg (u8s X).toArray from (Option.some.inj e21).symm] at h21
                              obtain ⟨v12, h12, e12⟩ := hE ⟨12, .guard⟩ (by simp) rfl _ _ rfl rfl
                              rw [show v12 = .bool true from (Option.some.inj e12).symm] at h12
                              clear hE hO hN
                              refine grd_met rfl rfl rfl h12 ?_
                              go_simp
                              refine (less_any w2 XP X hP32 hX32).mono ?_
                              rintro e w3 ⟨rfl, hb⟩
                              rw [HLT.out]
                              exact hK _ _ rfl (hM.trans (hb.mono hM.size)) hb
                            · intro T2 w2 hM hN hO hE K hK
                              obtain ⟨v22, h22, e22⟩ := hE ⟨22, .data⟩ (by simp) rfl _ _ rfl rfl
                              rw [show v22 = .bool true from (Option.some.inj e22).symm] at h22
                              obtain ⟨v12, h12, e12⟩ := hE ⟨12, .guard⟩ (by simp) rfl _ _ rfl rfl
                              rw [show v12 = .bool true from (Option.some.inj e12).symm] at h12
                              clear hE hO hN
                              refine grd_met rfl rfl rfl h12 ?_
                              go_simp
                              exact hK _ _ rfl hM (Below.refl _ _)
                            · intro T2 w2 hM hN hO hE K hK
                              obtain ⟨v12, h12, e12⟩ := hE ⟨12, .data⟩ (by simp) rfl _ _ rfl rfl
                              rw [show v12 = .bool true from (Option.some.inj e12).symm] at h12
                              obtain ⟨v23, h23, e23⟩ := hE ⟨23, .data⟩ (by simp) rfl _ _ rfl rfl
                              rw [show v23 = .bool false from (Option.some.inj e23).symm] at h23
                              obtain ⟨v9, h9, e9⟩ := hE ⟨9, .guard⟩ (by simp) rfl _ _ rfl rfl
                              rw [show v9 = .bool false from (Option.some.inj e9).symm] at h9
                              clear hE hO hN
                              refine grd_met rfl rfl rfl h9 ?_
                              go_simp
                              exact hK _ _ rfl hM (Below.refl _ _)
                            · intro T2 w2 hM hN hO hE K hK
                              obtain ⟨v9, h9, e9⟩ := hE ⟨9, .data⟩ (by simp) rfl _ _ rfl rfl
                              rw [show v9 = .bool false from (Option.some.inj e9).symm] at h9
                              obtain ⟨v24, h24, e24⟩ := hE ⟨24, .data⟩ (by simp) rfl _ _ rfl rfl
                              rw [show v24 = .bool false from (Option.some.inj e24).symm] at h24
                              clear hE hO hN
                              refine step_plain0 rfl ?_
                              go_simp
                              exact hK _ _ rfl hM (Below.refl _ _)
                          · intro u w2 hM hF
                            have e25 : u 25 = .bool false := (Option.some.inj (hF 25 (by omega))).symm
                            clear hF
                            simp only [fillAll, Nat.reduceAdd, e25, List.take_succ_cons, List.take_zero, List.drop_succ_cons, List.drop_zero, List.setIfInBounds_toArray, List.set_cons_succ, List.set_cons_zero]
                            have HM8 := hid2 hM
                            clear hM
                            go_wp2_with fail
                            go_roundg (gk - 1)
                            case rel => exact ⟨k + 1, by omega, by go_num, HM8.out⟩
                            case measure => omega
                      · have hlt' : ¬ (k : Int) < N3 := by omega
                        clear hlt
                        go_wp2_with fail
                        go_ret
                        exact ⟨rfl, HLOW.out.trans ((HB7.out.trans (HB8.out.mono HB7.out.size)).mono HLOW.out.size)⟩
    · have g100 : ((100 : Int) < (Q : Int)) = True := eq_true (by omega)
      go_enter Try.func6, Try.ntmps6
      go_wp2_with (first
        | (go_at_call 21; refine (CAL.out _).mono ?_; rintro e w1 ⟨rfl, hb⟩; have HB1 := hid2 hb; clear hb))
      go_ret
      exact ⟨rfl, HB1.out⟩
  · have g30 : ((30 : Int) < (N : Int)) = True := eq_true (by omega)
    go_enter Try.func6, Try.ntmps6
    go_wp2_with (first
      | (go_at_call 21; refine (CAL.out _).mono ?_; rintro e w1 ⟨rfl, hb⟩; have HB1 := hid2 hb; clear hb))
    go_ret
    exact ⟨rfl, HB1.out⟩
end Go.Proofs.Ytegkjmmknjhdiaa
