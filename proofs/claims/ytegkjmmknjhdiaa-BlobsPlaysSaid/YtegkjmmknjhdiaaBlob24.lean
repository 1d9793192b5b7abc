/- BlobsPlays' walk. -/
import Derived.Test.YtegkjmmknjhdiaaBlob23
namespace Go.Proofs.Ytegkjmmknjhdiaa
open Go.RowKit Go.Maps Go.Sort Go.Lib
/-- a store and a row, side by side -/
structure PlI (w : World) (p b n : Nat) (M0 : BTab) (A : Option Addr) (M1 : BTab) (W : World) : Prop where
  st : StoreIs W p b n M0 (sizeM M0)
  row : Rd W 33 A M1.length (blobsV M1)
  low : Below w.heap.size w W
  hp : w.heap.size ≤ p
  hb : w.heap.size ≤ b
  na : ∀ q, blockOf A = some q → q ≠ p ∧ q ≠ b ∧ q < W.heap.size
section
variable {w W W' : World} {p b n n' : Nat} {M0 M0' M1 M1' : BTab} {A A' : Option Addr}
theorem PlI.ext (h : PlI w p b n M0 A M1 W) (hb : Below W.heap.size W W') : PlI w p b n M0 A M1 W' :=
  ⟨h.st.below hb h.st.lt.1 h.st.lt.2, h.row.below_all hb, h.low.trans (hb.mono h.low.size), h.hp, h.hb, fun q hq => by
    have := h.na q hq
    have := hb.size
    omega⟩
theorem PlI.but (h : PlI w p b n M0 A M1 W) (hst : StoreIs W' p b n' M0' (sizeM M0')) (hb : But p b W W') : PlI w p b n' M0' A M1 W' :=
  ⟨hst, h.row.keep fun q o u hq hu => hb.cell (q := ⟨q, o, none⟩) hu (h.na q hq).1 (h.na q hq).2.1, hb.below h.low h.low.size h.hp h.hb, h.hp, h.hb, fun q hq => by
    have h1 := h.na q hq
    have := hb.size
    exact ⟨h1.1, h1.2.1, by omega⟩⟩
theorem PlI.rowed (h : PlI w p b n M0 A M1 W) (hb : Below W.heap.size W W') (hr : Rd W' 33 A' M1'.length (blobsV M1')) (ha : blockOf A' = blockOf A ∨ ∀ q, blockOf A' = some q → W.heap.size ≤ q ∧ q < W'.heap.size) : PlI w p b n M0 A' M1' W' :=
  ⟨h.st.below hb h.st.lt.1 h.st.lt.2, hr, h.low.trans (hb.mono h.low.size), h.hp, h.hb, fun q hq => by
    have hs := hb.size
    have hlt := h.st.lt
    rcases ha with e | ha
    · rw [e] at hq
      have := h.na q hq
      omega
    · have := ha q hq
      omega⟩
/-- what stands in one round: besides the two, the act, boxed -/
structure PrI (w : World) (p b n : Nat) (M0 : BTab) (A : Option Addr) (M1 : BTab) (G : Nat) (a : BActE) (W : World) : Prop where
  pl : PlI w p b n M0 A M1 W
  act : ActAt W G a
  gp : G ≠ p
  gb : G ≠ b
theorem PrI.ext {G : Nat} {a : BActE} (h : PrI w p b n M0 A M1 G a W) (hb : Below W.heap.size W W') : PrI w p b n M0 A M1 G a W' := ⟨h.pl.ext hb, h.act.ext hb, h.gp, h.gb⟩
theorem PrI.but {G : Nat} {a : BActE} (h : PrI w p b n M0 A M1 G a W) (hst : StoreIs W' p b n' M0' (sizeM M0')) (hb : But p b W W') : PrI w p b n' M0' A M1 G a W' :=
  ⟨h.pl.but hst hb, (hb.block _ (heap_lt h.act) h.gp h.gb).trans h.act, h.gp, h.gb⟩
/-- Put, once and again -/
theorem pr_put {G : Nat} {a : BActE} (h : PrI w p b n M0 A M1 G a W) (hn : n ≤ 1000000) (hz : sizeM M0 ≤ 1000000000) (s : ByteArray) (hs : s.size ≤ 1000000000) {X : List UInt8} (hX : X = Sha.sum s.data.toList) :
    Calls Try.prog 30 #[.pointer (some ⟨p, 0, none⟩), .string s] W fun e w' => e = .returned (.agg (u8s X).toArray) ∧ PrI w p b (if (getM M0 X).isSome = true then n else n + 1) (putB M0 X s.data.toList) A M1 G a w' ∧ But p b W w' := by
  subst hX
  refine (put_any W p b n M0 _ h.pl.st hn ⟨sizeM_nonneg _, hz⟩ s hs).mono fun e w' ⟨he, hst, hb⟩ => ⟨he, h.but ?_ hb, hb⟩
  rw [sizeM_putB, toList_length]
  exact hst
end
theorem wp_build_of {P : Program} {o : Oper} {a : Act} {w : World} {K : Act → World → Prop} {Q : Exit → Act → World → Prop} (t : TypeId) (parts : Array (Nat × Operand)) (ho : o.op = .build t parts) (cells : Array Value)
    (hf : P.built t (parts.map fun (i, x) => (i, a.eval x)).toList = some cells) (h : K (a.put o.dst (.agg cells)) w) : o.wp P a w K Q :=
  wp_build t parts ho (by rw [hf]; rfl) (by rw [hf]; exact h)
def V14 (P : World → Prop) (p b : Nat) (s : ByteArray) (X : List UInt8) (L : List Value) (j : Nat) (v : Value) (w : World) : Prop := match j with
  | 3 => v = .agg (u8s X).toArray ∧ P w
  | 6 => ∃ g, v = .slice (some ⟨g, 0, none⟩) 1 1 ∧ Rd w 1 (some ⟨g, 0, none⟩) 1 [.string s] ∧ g ≠ p ∧ g ≠ b
  | _ => L[j]? = some v
theorem V14.keep {P : World → Prop} {p b : Nat} {s : ByteArray} {X : List UInt8} {L : List Value} {j : Nat} {v : Value} {w w' : World} (h : V14 P p b s X L j v w) (hb : (P w → P w') ∧ But p b w w') : V14 P p b s X L j v w' := by
  unfold V14 at h ⊢
  split at h
  · exact ⟨h.1, hb.1 h.2⟩
  · obtain ⟨g, h1, h2, h3, h4⟩ := h
    exact ⟨g, h1, h2.keep fun q o u hq hu => by
      have : q = g := by simpa [blockOf] using hq.symm
      subst this
      exact hb.2.cell (q := ⟨q, o, none⟩) hu h3 h4, h3, h4⟩
  · exact h
def V16 (w0 : World) (A : Option Addr) (M : BTab) (s : ByteArray) (L : List Value) (j : Nat) (v : Value) (w : World) : Prop := match j with
  | 3 => ∃ g, v = .slice (some ⟨g, 0, none⟩) 1 1 ∧ Rd w 1 (some ⟨g, 0, none⟩) 1 [.string s]
  | 8 => ∃ A' c', v = .slice A' M.length c' ∧ Rd w 33 A' M.length (blobsV M) ∧ (blockOf A' = blockOf A ∨ ∀ q, blockOf A' = some q → w0.heap.size ≤ q ∧ q < w.heap.size)
  | _ => L[j]? = some v
theorem V16.keep {w0 : World} {A : Option Addr} {M : BTab} {s : ByteArray} {L : List Value} {j : Nat} {v : Value} {w w' : World} (h : V16 w0 A M s L j v w) (hb : Below w.heap.size w w') : V16 w0 A M s L j v w' := by
  unfold V16 at h ⊢
  split at h
  · obtain ⟨g, h1, h2⟩ := h
    exact ⟨g, h1, h2.below_all hb⟩
  · obtain ⟨A', c', h1, h2, h3⟩ := h
    refine ⟨A', c', h1, h2.below_all hb, h3.imp id fun h q hq => ?_⟩
    have := h q hq
    have := hb.size
    omega
  · exact h
set_option maxRecDepth 100000 in
set_option maxHeartbeats 8000000 in
theorem blobsPlays_walk (w : World) (A : Option Addr) (c : Nat) (l : List BActE) (hr : Rd w 35 A l.length (bactsV l)) (hl : l.length ≤ 8796093022208) (hA : ∀ a ∈ l, BActOk a) :
    Calls Try.prog 5 #[.slice A l.length c] w fun e w' => e = .returned (.bool true) ∧ Below w.heap.size w w' := by
  have CAL := hid2 (fun W => alive6_any sorts_dig W)
  have CGR := hid2 (fun W (hW : Below w.heap.size w W) => great6_any W A c l (hr.below_all hW) hl hA)
  have CCL := hid2 (fun W (hW : Below w.heap.size w W) (hs : ∀ a ∈ l, a.data.size ≤ 1000000000) => clash_any W A c l (hr.below_all hW) hl (fun a h => (hA a h).1) hs)
  have HR := hid2 hr
  have HA := hid2 hA
  obtain ⟨N, hN⟩ : ∃ N, N = l.length := ⟨_, rfl⟩
  rw [← hN] at hl CGR CCL ⊢
  have HN := hid2 hN
  clear hr hA hN
  go_enter Try.func5, Try.ntmps5
  go_wp2_with (first
    | (go_at_call 21; refine (CAL.out _).mono ?_; rintro e w1 ⟨rfl, hb⟩; have HB1 := hid2 hb; clear hb))
  refine (CGR.out _ HB1.out).mono ?_
  rintro e w2 ⟨v, rfl, hg, hb⟩
  have HB2 := hid2 (HB1.out.trans (hb.mono HB1.out.size))
  clear hb
  cases v with
  | true =>
    go_wp2_with fail
    go_ret
    exact ⟨rfl, HB2.out⟩
  | false =>
    obtain ⟨hl40, hs300⟩ := hg rfl
    rw [← HN.out] at hl40
    have HS := hid2 hs300
    clear hg hs300
    go_wp2_with fail
    refine (CCL.out _ HB2.out (fun a h => by have := HS.out a h; omega)).mono ?_
    rintro e w3 ⟨v, rfl, hb⟩
    have HB3 := hid2 (HB2.out.trans (hb.mono HB2.out.size))
    clear hb
    cases v with
    | true =>
      go_wp2_with fail
      go_ret
      exact ⟨rfl, HB3.out⟩
    | false =>
      go_wp2_with (first
        | (go_at_call 24; refine (newblobs_any _).mono ?_; rintro e w4 ⟨rfl, hst, hb, hsz⟩
           have hsz1 := HB3.out.size
           obtain ⟨p, hp⟩ : ∃ p, p = w3.heap.size + 1 := ⟨_, rfl⟩
           obtain ⟨b, hbb⟩ : ∃ b, b = w3.heap.size := ⟨_, rfl⟩
           rw [← hp, ← hbb] at hst
           rw [← hp]
           have HPL : Hid2 (PlI w p b 0 [] none [] w4) := hid2 ⟨hst, Rd.none_ _ _ _, HB3.out.trans (hb.mono (by omega)), by omega, by omega, fun q hq => by simp [blockOf] at hq⟩
           clear hb hst hsz hsz1 hp hbb))
      go_loopg [4, 5, 6, 7, 8, 9, 10] N (fun gk r i x6 x7 x8 x9 x10 wr => ∃ (k : Nat) (M : BTab) (A2 : Option Addr) (c2 n N2 : Nat), k + gk = N ∧ i = .int .i64 k ∧ N2 = M.length ∧ r = .slice A2 N2 c2 ∧ PlI w p b n M A2 M wr ∧ KeysOk M ∧ n ≤ k ∧ sizeM M ≤ 300 * (k : Int))
      case atStart => exact ⟨0, [], none, 0, 0, 0, by omega, rfl, rfl, rfl, HPL.out, (fun _ h => by cases h), Nat.le_refl _, by simp [sizeM]⟩
      case round =>
        obtain ⟨k, M, A2, c2, n, N2, hk, rfl, hN2, rfl, hpl, hkeys, hnk, hsz⟩ := hrel
        have HPLR := hid2 hpl
        have HKEYS := hid2 hkeys
        have HN2 := hid2 hN2
        clear hpl hkeys hN2
        by_cases hlt : k < N
        · have hlt' : (k : Int) < N := by omega
          have hk0 : (0 : Int) ≤ k := by omega
          obtain ⟨a, ha⟩ : ∃ a, l[k]? = some a := ⟨_, List.getElem?_eq_getElem (by rw [← HN.out]; exact hlt)⟩
          have hok := HA.out a (List.mem_of_getElem? ha)
          have hs3 := HS.out a (List.mem_of_getElem? ha)
          obtain ⟨ab, ao, rfl, hcA⟩ := bact_cells (fun a h => (HA.out a h).1) (HR.out.below_all HPLR.out.low) ha
          have HLA := hid2 (bact_load hok.1 hcA)
          have hO := hok.1
          obtain ⟨kn, hkn⟩ : ∃ kn : Nat, a.kind = kn := ⟨a.kind.toNat, by have := hok.2.1; omega⟩
          have hkn255 : kn ≤ 255 := by have := hok.2.1; omega
          obtain ⟨Y, hY⟩ : ∃ Y, Y = askD a := ⟨_, rfl⟩
          have hY32 : Y.length = 32 := by rw [hY]; exact askD_len hO
          have cK := fun W => asked_any W a hO (by omega)
          rw [← hY] at cK
          have CK := hid2 cK
          have HSD := hid2 hs3
          have HKN := hid2 hkn
          clear ha hok hcA cK hY hkn hlt
          obtain ⟨G, hG⟩ : ∃ G, G = wr.heap.size := ⟨_, rfl⟩
          obtain ⟨W5, hW5⟩ : ∃ W5, W5 = wr.alloc (.cells (bactV a).toArray 41) := ⟨_, rfl⟩
          have hpr : PrI w p b n M A2 M G a W5 := by
            rw [hW5]
            refine ⟨HPLR.out.ext ((Below.refl _ _).alloc (Nat.le_refl _) _), by rw [hG]; exact heap_alloc_new wr _, ?_, ?_⟩
            · have := HPLR.out.st.lt; omega
            · have := HPLR.out.st.lt; omega
          have hla : (loadVar 41 ⟨G, 0, none⟩).run Try.prog W5 = .ok (.agg (bactV a).toArray) W5 := bact_load hO hpr.act.cells
          have HPR0 := hid2 hpr
          have HLA5 := hid2 hla
          have HW5 := hid2 hW5
          have HG := hid2 hG
          clear hpr hla hW5 hG
          go_wp2_with (first
            | ((with_reducible refine wpList_load_run HLA.out ?_ ?_); exact rfl)
            | ((with_reducible refine wpList_store_act a hO ?_ ?_); exact ⟨rfl, rfl⟩; rw [← HW5.out, ← HG.out])
            | ((with_reducible refine wpList_load_run HLA5.out ?_ ?_); exact rfl)
            | (go_at_call 25; refine (CK.out _).mono ?_; rintro e w6 ⟨rfl, hb⟩; have HPR6 := hid2 (HPR0.out.ext hb); clear hb)
            | ((with_reducible refine wpList_store_fresh Y hY32 ?_ ?_); exact ⟨rfl, rfl⟩
               obtain ⟨H, hH⟩ : ∃ H, H = w6.heap.size := ⟨_, rfl⟩
               obtain ⟨W7, hW7⟩ : ∃ W7, W7 = w6.alloc (.cells (u8s Y).toArray 39) := ⟨_, rfl⟩
               rw [← hW7, ← hH]
               have hpr7 : PrI w p b n M A2 M G a W7 := by rw [hW7]; exact HPR6.out.ext ((Below.refl _ _).alloc (Nat.le_refl _) _)
               have hdg7 : DigAt W7 H Y := by rw [hW7, hH]; exact heap_alloc_new w6 _
               have hH1 : H ≠ p ∧ H ≠ b := by have := HPR6.out.pl.st.lt; omega
               have hck : W7.cell? ⟨G, 0, none⟩ = some (.int .u8 (kn : Int)) := by rw [← HKN.out]; exact hpr7.act.cells 0 _ rfl
               have hri := hpr7.pl.st.map.rises keyed_dig
               have hml := hpr7.pl.st.map.length_le
               have cF := find_any W7 A2 c2 M HKEYS.out hpr7.pl.row (by omega) Y hY32
               rw [← HN2.out] at cF hml
               have hld : (loadVar 39 ⟨H, 0, none⟩).run Try.prog W7 = .ok (.agg (u8s Y).toArray) W7 := run_loadVar_row W7 H 39 39 _ (0, 0) _ hdg7 Try.underlying39 rfl (by rw [List.size_toArray]; exact info_h8' hY32)
               have HPR7 := hid2 hpr7
               have HDG7 := hid2 hdg7
               have HHN := hid2 hH1
               have HRI := hid2 hri
               have HCF := hid2 cF
               have HLD := hid2 hld
               clear hH hW7 hpr7 hdg7 hH1 hri cF hld hO)
            | ((with_reducible refine wpList_load_run HLD.out ?_ ?_); exact rfl))
          refine HCF.out.mono ?_
          rintro e w8 ⟨v, rfl, hf, hb8⟩
          have hpr8 := HPR7.out.ext hb8
          have hdg8 := HDG7.out.ext hb8
          have hld8 : (loadVar 39 ⟨H, 0, none⟩).run Try.prog w8 = .ok (.agg (u8s Y).toArray) w8 := run_loadVar_row w8 H 39 39 _ (0, 0) _ hdg8 Try.underlying39 rfl (by rw [List.size_toArray]; exact info_h8' hY32)
          have hck8 : w8.cell? ⟨G, 0, none⟩ = some (.int .u8 (kn : Int)) := by rw [← HKN.out]; exact hpr8.act.cells 0 _ rfl
          have hfc := find_cases HRI.out hf
          have HPR8 := hid2 hpr8
          have HDG8 := hid2 hdg8
          have HLD8 := hid2 hld8
          have HFC := hid2 hfc
          clear hck hf hb8 hpr8 hdg8 hld8 hfc HCF HLD
          obtain ⟨r, hr0⟩ : ∃ r : Nat, r = kn % 4 := ⟨_, rfl⟩
          have hr4 : r < 4 := by omega
          have hrm : ((kn : Int)).tmod 4 = (r : Int) := by rw [hr0, Int.ofNat_tmod]; rfl
          have hrw : IntKind.u8.wrap (r : Int) = r := by simp [IntKind.wrap, IntKind.bits, IntKind.signed]; omega
          clear hr0
          have cS : ∀ W, PlI w p b n M A2 M W → Calls Try.prog 33 #[.pointer (some ⟨p, 0, none⟩), .slice A2 N2 c2] W fun e w' => e = .returned (.bool true) ∧ Below W.heap.size W w' := fun W h => by
            rw [HN2.out]
            exact same_any W p b n M h.st (by omega) HKEYS.out A2 c2 h.row (by omega)
          have CS := hid2 cS
          clear cS
          have hr2 : r = 2 ∨ r = 3 ∨ (r ≠ 2 ∧ r ≠ 3) := by omega
          rcases hr2 with rfl | rfl | ⟨hn2, hn3⟩
          · rcases HFC.out with ⟨i, d, rfl, hMi, hg⟩ | ⟨rfl, hg⟩
            · have hiN : i < N2 := by rw [HN2.out]; exact (List.getElem?_eq_some_iff.1 hMi).1
              have hiN' : (i : Int) < N2 := by omega
              have hi0 : (0 : Int) ≤ i := by omega
              obtain ⟨rb, ro, rfl, hcell⟩ := blob_cells HKEYS.out HPR8.out.pl.row hMi
              obtain ⟨T, hT⟩ : ∃ T, T = strB d := ⟨_, rfl⟩
              have hct := blob_data (HKEYS.out.at_ hMi) hcell
              simp only at hct
              have cG := get_any w8 p b n M _ HPR8.out.pl.st Y hY32
              rw [hg, Option.getD_some, ← hT] at cG
              rw [← hT] at hct
              have hse : (T.toList == T.toList) = true := by simp
              have CG := hid2 cG
              have HCT := hid2 hct
              clear hMi hg hcell hct cG hT hiN
              go_wp2_with (first
                | ((with_reducible refine wpList_load_run HLD8.out ?_ ?_); exact rfl)
                | (go_at_call 27; refine CG.out.mono ?_; rintro e w9 ⟨rfl, hb⟩; have ct9 : w9.cell? ⟨rb, ro + i * 33 + 32, none⟩ = some (.string T) := (hb.cell (p := ⟨rb, ro + i * 33 + 32, none⟩) (World.block_lt_of_cell? w8 _ HCT.out)).trans HCT.out; have HPL9 := hid2 (HPR8.out.pl.ext hb); clear hb)
                | (go_at_call 33; refine (CS.out _ HPL9.out).mono ?_; rintro e w10 ⟨rfl, hb⟩; have HPL10 := hid2 (HPL9.out.ext hb); clear hb))
              go_roundg (gk - 1)
              case rel => exact ⟨k + 1, M, _, c2, n, N2, by omega, by go_num, HN2.out, rfl, HPL10.out, HKEYS.out, by omega, by omega⟩
              case measure => omega
            · have cG := get_any w8 p b n M _ HPR8.out.pl.st Y hY32
              rw [hg, show strB ((none : Option (List UInt8)).getD []) = ⟨#[]⟩ from rfl, Option.isSome_none] at cG
              have CG := hid2 cG
              clear hg cG
              go_wp2_with (first
                | ((with_reducible refine wpList_load_run HLD8.out ?_ ?_); exact rfl)
                | (go_at_call 27; refine CG.out.mono ?_; rintro e w9 ⟨rfl, hb⟩; have HPL9 := hid2 (HPR8.out.pl.ext hb); clear hb)
                | (go_at_call 33; refine (CS.out _ HPL9.out).mono ?_; rintro e w10 ⟨rfl, hb⟩; have HPL10 := hid2 (HPL9.out.ext hb); clear hb))
              go_roundg (gk - 1)
              case rel => exact ⟨k + 1, M, _, c2, n, N2, by omega, by go_num, HN2.out, rfl, HPL10.out, HKEYS.out, by omega, by omega⟩
              case measure => omega
          · have hfl : ((getM M Y).getD []).length ≤ 1000000000 := by
              rcases HFC.out with ⟨i, d, _, hMi, hg⟩ | ⟨_, hg⟩
              · rw [hg, Option.getD_some]
                have h1 := sizeM_take hMi
                have h2 := sizeM_take_le M (i + 1)
                have h3 := sizeM_nonneg (M.take i)
                simp only at h1
                omega
              · rw [hg]; decide
            obtain ⟨bo, hbo⟩ : ∃ bo, bo = (getM M Y).isSome := ⟨_, rfl⟩
            have hvb : (bo = true ∧ ∃ i : Nat, v = i) ∨ (bo = false ∧ v = -1) := by
              rcases HFC.out with ⟨i, d, e, _, hg⟩ | ⟨e, hg⟩
              · exact .inl ⟨by rw [hbo, hg]; rfl, i, e⟩
              · exact .inr ⟨by rw [hbo, hg]; rfl, e⟩
            have cD : Calls Try.prog 28 #[.pointer (some ⟨p, 0, none⟩), .agg (u8s Y).toArray] w8 fun e w' => e = .returned (.bool bo) ∧ PlI w p b n (delM M Y) A2 M w' ∧ But p b w8 w' := by
              refine (drop_any w8 p b n M _ HPR8.out.pl.st ⟨sizeM_nonneg _, by omega⟩ Y hY32 hfl).mono fun e w' ⟨he, hst, hb⟩ => ⟨by rw [hbo]; exact he, HPR8.out.pl.but ?_ hb, hb⟩
              rw [sizeM_del HRI.out]
              cases hg : getM M Y with
              | none => rw [hg] at hst; simp only [Option.isSome_none, Bool.false_eq_true, if_false] at hst; rw [del_none hg, show sizeM M - (((none : Option (List UInt8)).getD []).length : Int) = sizeM M by simp]; exact hst
              | some d => rw [hg] at hst; simpa only [Option.isSome_some, if_true] using hst
            have cR : ∀ W, PlI w p b n (delM M Y) A2 M W → Calls Try.prog 29 #[.slice A2 N2 c2, .agg (u8s Y).toArray] W fun e w' => ∃ A' c', e = .returned (.slice A' (delM M Y).length c') ∧ PlI w p b n (delM M Y) A' (delM M Y) w' := fun W h => by
              rw [HN2.out]
              refine (refdrop_any W A2 c2 M HKEYS.out h.row (by rw [← HN2.out]; omega) Y hY32).mono fun e w' ⟨A', c', he, hg⟩ => ⟨A', c', he, h.rowed hg.below hg.own.rd (.inr fun q hq => ?_)⟩
              have := hg.own.block q hq
              omega
            obtain ⟨M3, hM3⟩ : ∃ M3, M3 = delM M Y := ⟨_, rfl⟩
            have hk3 : KeysOk M3 := by rw [hM3]; exact HKEYS.out.del Y
            have hz3 : sizeM M3 ≤ sizeM M := by rw [hM3, sizeM_del HRI.out]; omega
            rw [← hM3] at cD cR
            have cS3 : ∀ W A' c', PlI w p b n M3 A' M3 W → Calls Try.prog 33 #[.pointer (some ⟨p, 0, none⟩), .slice A' M3.length c'] W fun e w' => e = .returned (.bool true) ∧ Below W.heap.size W w' := fun W A' c' h => same_any W p b n M3 h.st (by omega) hk3 A' c' h.row (by omega)
            have CD := hid2 cD
            have CR := hid2 cR
            have CS3 := hid2 cS3
            have HK3 := hid2 hk3
            clear hfl hbo cD cR hM3 hk3 cS3
            rcases hvb with ⟨rfl, i, rfl⟩ | ⟨rfl, rfl⟩
            · have hi0 : (0 : Int) ≤ i := by omega
              go_wp2_with (first
                | ((with_reducible refine wpList_load_run HLD8.out ?_ ?_); exact rfl)
                | (go_at_call 28; refine CD.out.mono ?_; rintro e w9 ⟨rfl, hpl9, hbut⟩; have hdg9 := HDG8.out.but hbut HHN.out.1 HHN.out.2; have hld9 : (loadVar 39 ⟨H, 0, none⟩).run Try.prog w9 = .ok (.agg (u8s Y).toArray) w9 := run_loadVar_row w9 H 39 39 _ (0, 0) _ hdg9 Try.underlying39 rfl (by rw [List.size_toArray]; exact info_h8' hY32); have HLD9 := hid2 hld9; have HPL9 := hid2 hpl9; clear hpl9 hbut hdg9 hld9)
                | ((with_reducible refine wpList_load_run HLD9.out ?_ ?_); exact rfl)
                | (go_at_call 29; refine (CR.out _ HPL9.out).mono ?_; rintro e w10 ⟨A3, c3, rfl, hpl⟩; have HPL10 := hid2 hpl; clear hpl)
                | (go_at_call 33; refine (CS3.out _ A3 c3 HPL10.out).mono ?_; rintro e w11 ⟨rfl, hb⟩; have HPL11 := hid2 (HPL10.out.ext hb); clear hb))
              go_roundg (gk - 1)
              case rel => exact ⟨k + 1, M3, A3, c3, n, M3.length, by omega, by go_num, rfl, rfl, HPL11.out, HK3.out, by omega, by omega⟩
              case measure => omega
            · skip
              go_wp2_with (first
                | ((with_reducible refine wpList_load_run HLD8.out ?_ ?_); exact rfl)
                | (go_at_call 28; refine CD.out.mono ?_; rintro e w9 ⟨rfl, hpl9, hbut⟩; have hdg9 := HDG8.out.but hbut HHN.out.1 HHN.out.2; have hld9 : (loadVar 39 ⟨H, 0, none⟩).run Try.prog w9 = .ok (.agg (u8s Y).toArray) w9 := run_loadVar_row w9 H 39 39 _ (0, 0) _ hdg9 Try.underlying39 rfl (by rw [List.size_toArray]; exact info_h8' hY32); have HLD9 := hid2 hld9; have HPL9 := hid2 hpl9; clear hpl9 hbut hdg9 hld9)
                | ((with_reducible refine wpList_load_run HLD9.out ?_ ?_); exact rfl)
                | (go_at_call 29; refine (CR.out _ HPL9.out).mono ?_; rintro e w10 ⟨A3, c3, rfl, hpl⟩; have HPL10 := hid2 hpl; clear hpl)
                | (go_at_call 33; refine (CS3.out _ A3 c3 HPL10.out).mono ?_; rintro e w11 ⟨rfl, hb⟩; have HPL11 := hid2 (HPL10.out.ext hb); clear hb))
              go_roundg (gk - 1)
              case rel => exact ⟨k + 1, M3, A3, c3, n, M3.length, by omega, by go_num, rfl, rfl, HPL11.out, HK3.out, by omega, by omega⟩
              case measure => omega
          · obtain ⟨X, hX⟩ : ∃ X, X = Sha.sum a.data.data.toList := ⟨_, rfl⟩
            have hX32 : X.length = 32 := by rw [hX]; exact sum_len _
            obtain ⟨M', hM'⟩ : ∃ M', M' = putB M X a.data.data.toList := ⟨_, rfl⟩
            obtain ⟨n', hn'⟩ : ∃ n', n' = if (getM M X).isSome = true then n else n + 1 := ⟨_, rfl⟩
            have hnn : n' ≤ n + 1 := by rw [hn']; split <;> omega
            have hsM : sizeM M' ≤ sizeM M + 300 := by
              rw [hM', sizeM_putB]
              have := HSD.out
              rw [← toList_length] at this
              split <;> omega
            have hkM : KeysOk M' := by rw [hM']; exact HKEYS.out.putB hX32 _
            have cP1 : ∀ W, PrI w p b n M A2 M G a W → Calls Try.prog 30 #[.pointer (some ⟨p, 0, none⟩), .string a.data] W fun e w' => e = .returned (.agg (u8s X).toArray) ∧ PrI w p b n' M' A2 M G a w' ∧ But p b W w' := fun W h => by
              rw [hM', hn']
              exact pr_put h (by omega) (by omega) a.data (by have := HSD.out; omega) hX
            have cP2 : ∀ W, PrI w p b n' M' A2 M G a W → Calls Try.prog 30 #[.pointer (some ⟨p, 0, none⟩), .string a.data] W fun e w' => e = .returned (.agg (u8s X).toArray) ∧ PrI w p b n' M' A2 M G a w' ∧ But p b W w' := fun W h => by
              have := pr_put h (by omega) (by omega) a.data (by have := HSD.out; omega) hX
              rw [if_pos (by rw [hM']; exact putB_some _ _ _), show putB M' X a.data.data.toList = M' by rw [hM', putB_again]] at this
              exact this
            have hsum : ∀ (W : World) (g : Nat), Rd W 1 (some ⟨g, 0, none⟩) 1 [.string a.data] → Calls Try.prog 31 #[.slice (some ⟨g, 0, none⟩) 1 1] W fun e w' => e = .returned (.agg (u8s X).toArray) ∧ Below W.heap.size W w' := fun W g hr => by rw [hX]; exact sum_one W g a.data (by have := HSD.out; omega) hr
            have cRP : ∀ W, PrI w p b n' M' A2 M G a W → Calls Try.prog 32 #[.slice A2 N2 c2, .agg (blobV (X, a.data.data.toList)).toArray] W fun e w' => ∃ A' c', e = .returned (.slice A' M'.length c') ∧ Rd w' 33 A' M'.length (blobsV M') ∧ (blockOf A' = blockOf A2 ∨ ∀ q, blockOf A' = some q → W.heap.size ≤ q ∧ q < w'.heap.size) ∧ Below W.heap.size W w' := fun W h => by
              rw [HN2.out, hM']
              exact refput_any W A2 c2 M HKEYS.out h.pl.row (by rw [← HN2.out]; omega) X a.data.data.toList hX32
            have cS3 : ∀ W A' c', PlI w p b n' M' A' M' W → Calls Try.prog 33 #[.pointer (some ⟨p, 0, none⟩), .slice A' M'.length c'] W fun e w' => e = .returned (.bool true) ∧ Below W.heap.size W w' := fun W A' c' h => same_any W p b n' M' h.st (by omega) hkM A' c' h.row (by omega)
            have hbu := built_blob X hX32 a.data.data.toList
            rw [strB_of] at hbu
            have heq : ∀ W, (binOp .neq 39 (.agg (u8s X).toArray) (.agg (u8s X).toArray)).run Try.prog W = .ok (.bool false) W := fun W => (run_neq_dig X X hX32 hX32 W).trans (by rw [beq_self_eq_true]; rfl)
            have h2f : ((r : Int) == 2) = false := by simp; omega
            have h3f : ((r : Int) == 3) = false := by simp; omega
            have h2g : ¬ (r : Int) = 2 := by omega
            have h3g : ¬ (r : Int) = 3 := by omega
            have HPUT1 := hid2 cP1
            have HPUT2 := hid2 cP2
            have HSUM := hid2 hsum
            have HRP := hid2 cRP
            have CS3 := hid2 cS3
            have HBU := hid2 hbu
            have HKM := hid2 hkM
            have HPR := HPR8
            clear hX hM' hn' hkM cP1 cP2 hsum cRP cS3 hbu
            go_wp2_with fail
            refine wp_region_grd 9 (by kernel_rfl) (by kernel_rfl) (by kernel_rfl) _ rfl (by kernel_rfl) (V14 (PrI w p b n' M' A2 M G a) p b a.data X [(.pointer (some ⟨p, 0, none⟩)), (.pointer (some ⟨G, 1, none⟩)), (.string a.data), undef, (.pointer (some ⟨G, 1, none⟩)), (.string a.data), undef, (.agg (u8s X).toArray), (.bool false)]) (fun w4 => PrI w p b n M A2 M G a w4 ∨ PrI w p b n' M' A2 M G a w4) (fun a1 b1 => (PrI w p b n' M' A2 M G a a1 → PrI w p b n' M' A2 M G a b1) ∧ But p b a1 b1) (.inl (HPR.out.ext (below_drewN (Below.refl _ _) 1))) (fun _ _ _ _ hb hv => hv.keep hb) ?_ ?_
            · refine of_allOps ⟨?_, ?_, ?_, ?_, ?_, ?_, ?_, ?_, ?_, trivial⟩
              · intro T2 w2 hM hN hO hE K hK
                have o3 : T2[3]? = some (.pointer (some ⟨p, 0, none⟩)) := hO 3 rfl
                clear hE hO hN
                refine step_plain0 rfl ?_
                go_simp
                exact hK _ _ rfl hM ⟨id, But.refl _ _ _⟩
              · intro T2 w2 hM hN hO hE K hK
                have o6 : T2[6]? = some (.pointer (some ⟨G, 0, none⟩)) := hO 6 rfl
                clear hE hO hN
                refine step_plain0 rfl ?_
                go_simp
                exact hK _ _ rfl hM ⟨id, But.refl _ _ _⟩
              · intro T2 w2 hM hN hO hE K hK
                obtain ⟨v1, h1, e1⟩ := hE ⟨1, .data⟩ (by simp) rfl _ _ rfl rfl
                rw [show v1 = .pointer (some ⟨G, 1, none⟩) from (Option.some.inj e1).symm] at h1
                clear hE hO hN
                refine step_plain0 rfl ?_
                have cc : w2.cell? ⟨G, 1, none⟩ = some (.string a.data) := by rcases hM with hM | hM <;> exact hM.act.cells 1 _ rfl
                go_simp
                exact hK _ _ rfl hM ⟨id, But.refl _ _ _⟩
              · intro T2 w2 hM hN hO hE K hK
                obtain ⟨v0, h0, e0⟩ := hE ⟨0, .data⟩ (by simp) rfl _ _ rfl rfl
                rw [show v0 = .pointer (some ⟨p, 0, none⟩) from (Option.some.inj e0).symm] at h0
                obtain ⟨v2, h2, e2⟩ := hE ⟨2, .data⟩ (by simp) rfl _ _ rfl rfl
                rw [show v2 = .string a.data from (Option.some.inj e2).symm] at h2
                clear hE hO hN
                refine step_plain0 rfl ?_
                go_simp
                rcases hM with hM | hM
                · refine (HPUT1.out w2 hM).mono ?_
                  rintro e w3 ⟨rfl, hq, hb⟩
                  exact hK _ _ ⟨rfl, hq⟩ (.inr hq) ⟨fun _ => hq, hb⟩
                · refine (HPUT2.out w2 hM).mono ?_
                  rintro e w3 ⟨rfl, hq, hb⟩
                  exact hK _ _ ⟨rfl, hq⟩ (.inr hq) ⟨fun _ => hq, hb⟩
              · intro T2 w2 hM hN hO hE K hK
                have o6 : T2[6]? = some (.pointer (some ⟨G, 0, none⟩)) := hO 6 rfl
                clear hE hO hN
                refine step_plain0 rfl ?_
                go_simp
                exact hK _ _ rfl hM ⟨id, But.refl _ _ _⟩
              · intro T2 w2 hM hN hO hE K hK
                obtain ⟨v4, h4, e4⟩ := hE ⟨4, .data⟩ (by simp) rfl _ _ rfl rfl
                rw [show v4 = .pointer (some ⟨G, 1, none⟩) from (Option.some.inj e4).symm] at h4
                clear hE hO hN
                refine step_plain0 rfl ?_
                have cc : w2.cell? ⟨G, 1, none⟩ = some (.string a.data) := by rcases hM with hM | hM <;> exact hM.act.cells 1 _ rfl
                go_simp
                exact hK _ _ rfl hM ⟨id, But.refl _ _ _⟩
              · intro T2 w2 hM hN hO hE K hK
                obtain ⟨v5, h5, e5⟩ := hE ⟨5, .data⟩ (by simp) rfl _ _ rfl rfl
                rw [show v5 = .string a.data from (Option.some.inj e5).symm] at h5
                clear hE hO hN
                refine step_plain0 rfl ?_
                go_simp
                have hpb : w2.heap.size ≠ p ∧ w2.heap.size ≠ b := by rcases hM with hM | hM <;> (have := hM.pl.st.lt; omega)
                exact hK _ _ ⟨_, rfl, Rd.one _ _ _, hpb.1, hpb.2⟩ (hM.imp (·.ext ((Below.refl _ _).alloc (Nat.le_refl _) _)) (·.ext ((Below.refl _ _).alloc (Nat.le_refl _) _))) ⟨(·.ext ((Below.refl _ _).alloc (Nat.le_refl _) _)), But.of_below ((Below.refl _ _).alloc (Nat.le_refl _) _)⟩
              · intro T2 w2 hM hN hO hE K hK
                obtain ⟨v6, h6, ⟨gg, hg1, hg2, hg3, hg4⟩⟩ := hE ⟨6, .data⟩ (by simp) rfl _ _ rfl rfl
                clear hE hO hN
                refine step_plain0 rfl ?_
                obtain rfl := hg1
                go_simp
                refine (HSUM.out w2 gg hg2).mono ?_
                rintro e w3 ⟨rfl, hb⟩
                exact hK _ _ rfl (hM.imp (·.ext hb) (·.ext hb)) ⟨(·.ext hb), But.of_below hb⟩
              · intro T2 w2 hM hN hO hE K hK
                obtain ⟨v3, h3, ⟨hx3, hd3⟩⟩ := hE ⟨3, .data⟩ (by simp) rfl _ _ rfl rfl
                obtain ⟨v7, h7, e7⟩ := hE ⟨7, .data⟩ (by simp) rfl _ _ rfl rfl
                rw [show v7 = .agg (u8s X).toArray from (Option.some.inj e7).symm] at h7
                clear hE hO hN
                refine step_plain0 rfl ?_
                obtain rfl := hx3
                go_simp
                exact hK _ _ rfl hM ⟨id, But.refl _ _ _⟩
            · intro u w2 hM hF
              have e8 : u 8 = .bool false := (Option.some.inj (hF 8 (by omega))).symm
              have hd3 := (hF 3 (by omega)).2
              clear hF
              simp only [fillAll, Nat.reduceAdd, e8, List.take_succ_cons, List.take_zero, List.drop_succ_cons, List.drop_zero, List.setIfInBounds_toArray, List.set_cons_succ, List.set_cons_zero]
              clear hM
              obtain ⟨Wq, hWq⟩ : ∃ Wq, Wq = w2 := ⟨_, rfl⟩
              rw [← hWq] at hd3 ⊢
              clear hWq
              go_wp2_with fail
              refine wp_region_grd 9 (by kernel_rfl) (by kernel_rfl) (by kernel_rfl) _ rfl (by kernel_rfl) (V16 Wq A2 M' a.data [(.slice A2 N2 c2), (.pointer (some ⟨G, 1, none⟩)), (.string a.data), undef, (.agg (u8s X).toArray), (.pointer (some ⟨G, 1, none⟩)), (.string a.data), (.agg (blobV (X, a.data.data.toList)).toArray), undef]) (fun w4 => PrI w p b n' M' A2 M G a w4 ∧ Wq.heap.size ≤ w4.heap.size) (fun a b => Below a.heap.size a b) (⟨hd3.ext (below_drewN (Below.refl _ _) 1), Nat.le_refl _⟩) (fun _ _ _ _ hb hv => hv.keep hb) ?_ ?_
              · refine of_allOps ⟨?_, ?_, ?_, ?_, ?_, ?_, ?_, ?_, ?_, trivial⟩
                · intro T2 w2 hM hN hO hE K hK
                  have o4 : T2[4]? = some (.slice A2 N2 c2) := hO 4 rfl
                  clear hE hO hN
                  refine step_plain0 rfl ?_
                  go_simp
                  exact hK _ _ rfl hM (Below.refl _ _)
                · intro T2 w2 hM hN hO hE K hK
                  have o6 : T2[6]? = some (.pointer (some ⟨G, 0, none⟩)) := hO 6 rfl
                  clear hE hO hN
                  refine step_plain0 rfl ?_
                  go_simp
                  exact hK _ _ rfl hM (Below.refl _ _)
                · intro T2 w2 hM hN hO hE K hK
                  obtain ⟨v1, h1, e1⟩ := hE ⟨1, .data⟩ (by simp) rfl _ _ rfl rfl
                  rw [show v1 = .pointer (some ⟨G, 1, none⟩) from (Option.some.inj e1).symm] at h1
                  clear hE hO hN
                  refine step_plain0 rfl ?_
                  have cc : w2.cell? ⟨G, 1, none⟩ = some (.string a.data) := hM.1.act.cells 1 _ rfl
                  go_simp
                  exact hK _ _ rfl hM (Below.refl _ _)
                · intro T2 w2 hM hN hO hE K hK
                  obtain ⟨v2, h2, e2⟩ := hE ⟨2, .data⟩ (by simp) rfl _ _ rfl rfl
                  rw [show v2 = .string a.data from (Option.some.inj e2).symm] at h2
                  clear hE hO hN
                  refine step_plain0 rfl ?_
                  go_simp
                  exact hK _ _ ⟨_, rfl, Rd.one _ _ _⟩ ⟨hM.1.ext ((Below.refl _ _).alloc (Nat.le_refl _) _), Nat.le_trans hM.2 (by simp)⟩ ((Below.refl _ _).alloc (Nat.le_refl _) _)
                · intro T2 w2 hM hN hO hE K hK
                  obtain ⟨v3, h3, ⟨gg, hg1, hg2⟩⟩ := hE ⟨3, .data⟩ (by simp) rfl _ _ rfl rfl
                  clear hE hO hN
                  refine step_plain0 rfl ?_
                  obtain rfl := hg1
                  go_simp
                  refine (HSUM.out w2 gg hg2).mono ?_
                  rintro e w3 ⟨rfl, hb⟩
                  exact hK _ _ rfl ⟨hM.1.ext hb, Nat.le_trans hM.2 hb.size⟩ hb
                · intro T2 w2 hM hN hO hE K hK
                  have o6 : T2[6]? = some (.pointer (some ⟨G, 0, none⟩)) := hO 6 rfl
                  clear hE hO hN
                  refine step_plain0 rfl ?_
                  go_simp
                  exact hK _ _ rfl hM (Below.refl _ _)
                · intro T2 w2 hM hN hO hE K hK
                  obtain ⟨v5, h5, e5⟩ := hE ⟨5, .data⟩ (by simp) rfl _ _ rfl rfl
                  rw [show v5 = .pointer (some ⟨G, 1, none⟩) from (Option.some.inj e5).symm] at h5
                  clear hE hO hN
                  refine step_plain0 rfl ?_
                  have cc : w2.cell? ⟨G, 1, none⟩ = some (.string a.data) := hM.1.act.cells 1 _ rfl
                  go_simp
                  exact hK _ _ rfl hM (Below.refl _ _)
                · intro T2 w2 hM hN hO hE K hK
                  obtain ⟨v4, h4, e4⟩ := hE ⟨4, .data⟩ (by simp) rfl _ _ rfl rfl
                  rw [show v4 = .agg (u8s X).toArray from (Option.some.inj e4).symm] at h4
                  obtain ⟨v6, h6, e6⟩ := hE ⟨6, .data⟩ (by simp) rfl _ _ rfl rfl
                  rw [show v6 = .string a.data from (Option.some.inj e6).symm] at h6
                  clear hE hO hN
                  refine step_plain0 rfl ?_
                  refine wp_build_of 47 _ rfl (blobV (X, a.data.data.toList)).toArray (by simp [Act.eval, h4, h6, HBU.out]) ?_
                  exact hK _ _ rfl hM (Below.refl _ _)
                · intro T2 w2 hM hN hO hE K hK
                  obtain ⟨v0, h0, e0⟩ := hE ⟨0, .data⟩ (by simp) rfl _ _ rfl rfl
                  rw [show v0 = .slice A2 N2 c2 from (Option.some.inj e0).symm] at h0
                  obtain ⟨v7, h7, e7⟩ := hE ⟨7, .data⟩ (by simp) rfl _ _ rfl rfl
                  rw [show v7 = .agg (blobV (X, a.data.data.toList)).toArray from (Option.some.inj e7).symm] at h7
                  clear hE hO hN
                  refine step_plain0 rfl ?_
                  go_simp
                  refine (HRP.out w2 hM.1).mono ?_
                  rintro e w3 ⟨A', c', rfl, hr3, hA3, hb⟩
                  exact hK _ _ ⟨A', c', rfl, hr3, hA3.imp id (fun h q hq => ⟨Nat.le_trans hM.2 (h q hq).1, (h q hq).2⟩)⟩ ⟨hM.1.ext hb, Nat.le_trans hM.2 hb.size⟩ hb
              · intro u w2 hM hF
                obtain ⟨A3, c3, hv8, hr8, hA8⟩ := hF 8 (by omega)
                clear hF
                simp only [fillAll, Nat.reduceAdd, hv8, List.take_succ_cons, List.take_zero, List.drop_succ_cons, List.drop_zero, List.setIfInBounds_toArray, List.set_cons_succ, List.set_cons_zero]
                have hpl : PlI w p b n' M' A3 M' w2 := ⟨hM.1.pl.st, hr8, hM.1.pl.low, hM.1.pl.hp, hM.1.pl.hb, fun q hq => by
                  have h1 := hM.1.pl.st.lt
                  have h2 := hd3.pl.st.lt
                  rcases hA8 with e | ha
                  · rw [e] at hq
                    exact hM.1.pl.na q hq
                  · have := ha q hq
                    omega⟩
                have HPL8 := hid2 hpl
                clear hpl hM hr8 hA8
                go_wp2_with (first
                  | (go_at_call 33; refine (CS3.out _ A3 c3 HPL8.out).mono ?_; rintro e w11 ⟨rfl, hb⟩; have HPL11 := hid2 (HPL8.out.ext hb); clear hb))
                go_roundg (gk - 1)
                case rel => exact ⟨k + 1, M', A3, c3, n', M'.length, by omega, by go_num, rfl, rfl, HPL11.out, HKM.out, by omega, by omega⟩
                case measure => omega
        · have hlt' : ¬ (k : Int) < N := by omega
          clear hlt
          go_wp2_with fail
          go_ret
          exact ⟨rfl, HPLR.out.low⟩
end Go.Proofs.Ytegkjmmknjhdiaa
