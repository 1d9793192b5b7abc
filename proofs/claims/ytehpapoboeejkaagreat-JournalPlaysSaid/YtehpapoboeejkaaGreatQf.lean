/- The walk of JournalPlays. -/
import Derived.Test.YtehpapoboeejkaaGreatQe
import Derived.Test.YtehpapoboeejkaaGreatRows
import Derived.WalkKit
import Derived.ProofKit
import Derived.OpenShut
import Derived.ChangeMaps5
import Derived.SliceStrings
import Derived.JoinedCond
import Derived.Carry
import Derived.SizedLaws
import Derived.Test.YtehpapoboeejkaaGreatQa
import Derived.Deep.Slices
set_option linter.unusedSimpArgs false
set_option linter.unusedVariables false
namespace Go.Proofs.YtehpapoboeejkaaGreat
open Go.RowKit Go.Maps
set_option maxRecDepth 100000
theorem info_j5 {a b c d e : Value} : (Tryz.prog.info? 33).map (·.size) = some [a, b, c, d, e].length := by kernel_rfl
theorem info_d2 {a b : Value} : (Tryz.prog.info? 30).map (·.size) = some [a, b].length := by kernel_rfl
theorem fit_j5 {a b c d e : Value} {cs : Array Value} (h : cs.size = 5) : 0 + [a, b, c, d, e].length ≤ cs.size := by rw [h]; exact Nat.le_refl 5
theorem one_j5 {A : Option Addr} {n c : Nat} {L : Int} {s : ByteArray} {i b : Bool} : ∀ v ∈ [Value.slice A n c, .int .i64 L, .string s, .bool i, .bool b], v.oneCell' = true := by simp [Value.oneCell']
theorem fit_d2 {a b : Value} {cs : Array Value} (h : cs.size = 5) : 0 + [a, b].length ≤ cs.size := by rw [h]; show 0 + 2 ≤ 5; decide
theorem one_d2 {A : Option Addr} {n c : Nat} {L : Int} : ∀ v ∈ [Value.slice A n c, .int .i64 L], v.oneCell' = true := by simp [Value.oneCell']
theorem JR.keepLow {w W1 V : World} {q5 p b n : Nat} {M : Tab FileE} {left : Int} {jv : Value} {A : Option Addr} {c : Nat} {nm : ByteArray} {is br : Bool} (h : JR w q5 p b n M left jv A c nm is br W1) (hm : Moved W1 V p b jv) {sz m : Nat} {B : Option Addr} {xs : List Value} (hr : Rd w sz B m xs) : Rd V sz B m xs := hr.keep fun g o u hg hu => by
  have hlt := World.block_lt_of_cell? _ _ hu
  have hs := h.below.size
  have hge := h.ge
  rw [← hu]
  refine World.cell?_of_block ((hm.block g (Nat.lt_of_lt_of_le hlt hs) (by have : g < w.heap.size := hlt; omega) (by have : g < w.heap.size := hlt; omega) fun j hj e => ?_).trans (h.below.block g hlt))
  rcases h.jrn with d | ⟨_, j2, d1, _, d2, _⟩
  · rw [hj] at d; cases d.2
  · rw [hj] at d1
    cases d1
    have : g < w.heap.size := hlt
    omega
theorem strV_of (R : List (List UInt8)) : strV R = (R.map strB).map Value.string := by rw [strV, List.map_map]; rfl
theorem fit_of {cs : Array Value} {n : Nat} (vs : List Value) (h : cs.size = n) (hv : 0 + vs.length ≤ n) : 0 + vs.length ≤ cs.size := by rw [h]; exact hv
set_option maxHeartbeats 32000000 in
theorem JournalPlays_walk (w : World) (A0 : Option Addr) (c0 : Nat) (l : List ActJ) (hr : Rd w 6 A0 l.length (ajsV l)) (hl : l.length ≤ 8796093022208) (hA : ∀ a ∈ l, ActAtJ w a) :
    Calls Tryz.prog 3 #[.slice A0 l.length c0] w fun e w' => e = .returned (.bool true) ∧ Below w.heap.size w w' := by
  have hG := great08_any w A0 c0 l hr hl hA
  obtain ⟨N, hN⟩ : ∃ N, N = l.length := ⟨_, rfl⟩
  rw [← hN] at hG ⊢
  have HGR := hid2 hG
  have HR := hid2 hr
  have HAA := hid2 hA
  have HN := hid2 hN
  have hlim : (N : Int) ≤ 8796093022208 := by omega
  clear hG hr hA hN hl
  go_enter Tryz.func3, Tryz.ntmps3
  go_upto_region 3 with (first
    | (go_at_call 4; refine HGR.out.mono ?_; rintro e w1 ⟨gg, rfl, hgg, hb⟩; have HGG := hid2 hgg; have HB1 := hid2 hb; clear hgg hb)
    | (go_at_call 5; refine (jfixed_any _).mono ?_; rintro e w2 ⟨rfl, hb⟩; have HB2 := hid2 (HB1.out.trans (hb.mono HB1.out.size)); clear hb))
  · go_ret
    exact ⟨rfl, HB2.out⟩
  have hgf : gg = false := by assumption
  have HSM := hid2 (HGG.out hgf)
  clear hgf
  go_upto_region 8 with (first
    | (go_at_call 6; refine (new_any _).mono ?_; rintro e w2 ⟨rfl, hd, hb, hz⟩; have HD := hid2 hd; have HB2 := hid2 hb; have HZ := hid2 hz; clear hd hb hz)
    | (go_at_call 7; refine (new07_any _).mono ?_; rintro e w3 ⟨rfl, hb⟩; have HB3 := hid2 hb; clear hb))
  obtain ⟨p, hp⟩ : ∃ p, p = w1.heap.size + 1 := ⟨_, rfl⟩
  obtain ⟨b, hb⟩ : ∃ b, b = w1.heap.size := ⟨_, rfl⟩
  have hd0 := HD.out
  rw [← hp, ← hb] at hd0
  rw [← hp]
  obtain ⟨q5, hq5⟩ : ∃ q, q = w3.heap.size := ⟨_, rfl⟩
  obtain ⟨W0, hW0⟩ : ∃ W, W = w3.alloc (.cells #[.slice none 0 0, .int .i64 (-1), .string ⟨#[]⟩, .bool false, .bool false] 33) := ⟨_, rfl⟩
  have hjr : JR w q5 p b 0 [] (-1) (.pointer none) none 0 ⟨#[]⟩ false false W0 := by
    have h1 := HB1.out.size
    have h2 := HZ.out
    have h3 := HB3.out.size
    have hb3 : Below w.heap.size w w3 := HB1.out.trans ((HB2.out.mono h1).trans (HB3.out.mono (by omega)))
    refine ⟨?_, Rd.none_ _ _ _, by rw [hW0, hq5]; exact World.alloc_heap_new w3 _, by rw [hW0]; exact hb3.alloc hb3.size _, (fun g hg => by cases hg), ⟨by omega, by omega, by omega⟩, ⟨by omega, by omega⟩, .inl ⟨rfl, rfl⟩⟩
    have hl := hd0.lt
    rw [hW0]
    exact (hd0.below HB3.out hl.1 hl.2).below ((Below.refl _ w3).alloc (Nat.le_refl _) _) (by omega) (by omega)
  rw [← hW0, ← hq5]
  have HJ0 := hid2 hjr
  clear hp hb hd0 hq5 hW0 hjr HD
  go_wp2_with fail
  go_loopg [3, 4, 6] N (fun gk dv jx iv wr => ∃ (k p b n : Nat) (M : Tab FileE) (left : Int) (jv : Value) (A : Option Addr) (c : Nat) (nm : ByteArray) (is br : Bool), k + gk = N ∧ dv = .pointer (some ⟨p, 0, none⟩) ∧ jv = jx ∧ iv = .int .i64 k ∧ JR w q5 p b n M left jv A c nm is br wr ∧ Wide (1400 + 112 * k) (3 * k) M ∧ n ≤ 3 * k ∧ LeftOk left ∧ nm.size ≤ 20)
  case atStart => exact ⟨0, p, b, 0, [], -1, .pointer none, none, 0, ⟨#[]⟩, false, false, by omega, rfl, rfl, rfl, HJ0.out, ⟨List.Pairwise.nil, (fun x hx => by cases hx), Nat.zero_le _⟩, Nat.zero_le _, ⟨by omega, by omega⟩, by decide⟩
  case round =>
    obtain ⟨k, p, b, n, M, left, jv, A, c, nm, is, br, hk, rfl, rfl, rfl, hjr, hwd, hnk, hle, hnz⟩ := hrel
    have HJR := hid2 hjr
    have HWD := hid2 hwd
    have HNK := hid2 hnk
    have HLE := hid2 hle
    have HNZ := hid2 hnz
    have HK := hid2 hk
    clear hjr hwd hnk hle hnz hk
    by_cases hlt : k < N
    · have hil : (k : Int) < N := by omega
      have hi0 : (0 : Int) ≤ k := by omega
      have hk20 : k < 20 := by have := HSM.out.2; have := HN.out; omega
      obtain ⟨a, ha⟩ : ∃ a, l[k]? = some a := ⟨_, List.getElem?_eq_getElem (by rw [← HN.out]; exact hlt)⟩
      have hmem := List.mem_of_getElem? ha
      have HAT0 := hid2 (HAA.out a hmem)
      have hat := HAT0.out.below HJR.out.below
      obtain ⟨s1, s2, s3, s4, s5⟩ := HSM.out.1 a hmem
      obtain ⟨b0, o0, hA0, hcell⟩ := aj_cells HR.out ha
      subst hA0
      have hc : ∀ (i : Nat) (v : Value), (ajV a)[i]? = some v → wr.cell? ⟨b0, o0 + (k * 6 + i), none⟩ = some v := fun i v hv => (HJR.out.below.cell (p := ⟨b0, o0 + (k * 6 + i), none⟩) (World.block_lt_of_cell? _ _ (hcell i v hv))).trans (hcell i v hv)
      obtain ⟨K, hK⟩ : ∃ K, K = a.kind := ⟨_, rfl⟩
      obtain ⟨nm0, hnm0⟩ : ∃ s, s = a.name := ⟨_, rfl⟩
      obtain ⟨rec, hrec⟩ : ∃ s, s = a.rec_ := ⟨_, rfl⟩
      obtain ⟨rn, hrn⟩ : ∃ s, s = a.recs.length := ⟨_, rfl⟩
      obtain ⟨pn, hpn⟩ : ∃ s, s = a.picks.length := ⟨_, rfl⟩
      have x0 : wr.cell? ⟨b0, o0 + k * 6, none⟩ = some (.int .i64 K) := by rw [hK]; exact hc 0 _ rfl
      have x1 : wr.cell? ⟨b0, o0 + k * 6 + 1, none⟩ = some (.int .i64 a.n) := hc 1 _ rfl
      have x2 : wr.cell? ⟨b0, o0 + k * 6 + 2, none⟩ = some (.string nm0) := by rw [hnm0]; exact hc 2 _ rfl
      have x3 : wr.cell? ⟨b0, o0 + k * 6 + 3, none⟩ = some (.string rec) := by rw [hrec]; exact hc 3 _ rfl
      have x4 : wr.cell? ⟨b0, o0 + k * 6 + 4, none⟩ = some (.slice a.ra rn a.rc) := by rw [hrn]; exact hc 4 _ rfl
      have x5 : wr.cell? ⟨b0, o0 + k * 6 + 5, none⟩ = some (.slice a.pa pn a.pc) := by rw [hpn]; exact hc 5 _ rfl
      rw [← hnm0] at s1
      rw [← hrec] at s2
      have HAT := hid2 hat
      have HPN := hid2 hpn
      have HRN := hid2 hrn
      have HS3 := hid2 s3
      have HS45 := hid2 (And.intro s4 s5)
      clear hK hnm0 hrec hrn hpn hcell hc hat ha hmem s3 s4 s5
      go_upto_region 15 with fail
      obtain ⟨G, hG⟩ : ∃ G, G = wr.heap.size := ⟨_, rfl⟩
      obtain ⟨W1, hW1⟩ : ∃ W, W = ((wr.alloc (.cells #[.int .i64 K, .int .i64 a.n, .string nm0, .string rec, .slice a.ra rn a.rc, .slice a.pa pn a.pc] 37)).alloc (.cells #[] 9)).alloc (.cells #[] 9) := ⟨_, rfl⟩
      have hbW : Below wr.heap.size wr W1 := by rw [hW1]; exact (((Below.refl _ _).alloc (Nat.le_refl _) _).alloc (by simp) _).alloc (by simp; omega) _
      have hGG : W1.heap[G]? = some (.cells #[.int .i64 K, .int .i64 a.n, .string nm0, .string rec, .slice a.ra rn a.rc, .slice a.pa pn a.pc] 37 (0, 0)) := by
        rw [hW1, hG, Below.heap_alloc _ _ _ (by simp; omega), Below.heap_alloc _ _ _ (by simp)]
        exact World.alloc_heap_new wr _
      rw [← hW1, ← hG]
      have HJ1 := hid2 (HJR.out.later hbW)
      have HG1 := hid2 hGG
      have HGL := hid2 (show wr.heap.size ≤ G from by omega)
      have HGW := hid2 (show G < W1.heap.size from heap_lt hGG)
      have HAT1 := hid2 (HAT.out.below hbW)
      have hgp : G ≠ p ∧ G ≠ b ∧ G ≠ q5 ∧ ∀ j, jv = .pointer (some ⟨j, 0, none⟩) → G ≠ j := by
        have h1 := HJR.out.disk.lt
        have h2 := HJR.out.box_lt
        refine ⟨by omega, by omega, by omega, fun j hj e => ?_⟩
        rcases HJR.out.jrn with d | ⟨_, j2, d1, d2, _⟩
        · rw [hj] at d; cases d.2
        · rw [hj] at d1
          cases d1
          have := d2.lt
          omega
      have HGP := hid2 hgp
      clear x0 x1 x2 x3 x4 x5 hbW hGG hG hW1 hgp
      have y0 : W1.cell? ⟨G, 0, none⟩ = some (.int .i64 K) := cell_of_row W1 G 0 _ _ _ HG1.out
      have y1 : W1.cell? ⟨G, 1, none⟩ = some (.int .i64 a.n) := cell_of_row W1 G 1 _ _ _ HG1.out
      have y2 : W1.cell? ⟨G, 2, none⟩ = some (.string nm0) := cell_of_row W1 G 2 _ _ _ HG1.out
      have y3 : W1.cell? ⟨G, 3, none⟩ = some (.string rec) := cell_of_row W1 G 3 _ _ _ HG1.out
      have y4 : W1.cell? ⟨G, 4, none⟩ = some (.slice a.ra rn a.rc) := cell_of_row W1 G 4 _ _ _ HG1.out
      have y5 : W1.cell? ⟨G, 5, none⟩ = some (.slice a.pa pn a.pc) := cell_of_row W1 G 5 _ _ _ HG1.out
      by_cases hK : K = 0
      · subst hK
        have hPO := popen HJ1.out HWD.out (by omega) (by have := HNK.out; omega) HLE.out nm0 (by omega)
        obtain ⟨n2, hn2⟩ : ∃ n2, n2 = n + 3 := ⟨_, rfl⟩
        rw [← hn2] at hPO
        obtain ⟨OR, hOR⟩ : ∃ r, r = openS M left nm0.data.toList := ⟨_, rfl⟩
        have hfew := open_few HWD.out left nm0.data.toList
        have hwo := HWD.out.opens left (nm := nm0.data.toList) (by rw [toList_length]; omega)
        have hlo := HLE.out.opens (M := M) nm0.data.toList
        rw [← hOR] at hPO hfew hwo hlo
        have hRO := fun (V : World) (h1 : Rd V 3 A M.length (rfsV M)) (h2 : RLow V A) => ropen h1 c h2 HWD.out (by omega) (by omega) HLE.out nm0 (by omega)
        rw [← hOR] at hRO
        obtain ⟨E4, R4, M4, L4⟩ := OR
        simp only at hPO hfew hwo hlo
        obtain ⟨rl, hrl⟩ : ∃ n, n = R4.length := ⟨_, rfl⟩
        obtain ⟨m0, hm0⟩ : ∃ n, n = M.length := ⟨_, rfl⟩
        obtain ⟨m4', hm4'⟩ : ∃ n, n = M4.length := ⟨_, rfl⟩
        obtain ⟨is4, his4⟩ : ∃ i, i = (E4 == 0) := ⟨_, rfl⟩
        obtain ⟨nm4, hnm4⟩ : ∃ i, i = (if E4 = 0 then nm0 else (⟨#[]⟩ : ByteArray)) := ⟨_, rfl⟩
        unfold ROPost at hRO
        simp only at hRO
        rw [← hrl, ← his4, ← hnm4] at hPO
        rw [← hrl, ← his4, ← hnm4, ← hm4', ← hm0] at hRO
        have hnm4z : nm4.size ≤ 20 := by rw [hnm4]; split; exact s1; decide
        have HPO := hid2 hPO
        have HRO := hid2 (fun (V : World) (h1 : Rd V 3 A M.length (rfsV M)) (h2 : RLow V A) => hRO V (by rw [hm0]; exact h1) h2)
        have HRL := hid2 hrl
        have HM0 := hid2 hm0
        have HMM := hid2 hm4'
        have HFW := hid2 hfew
        have HWD4 := hid2 (hwo.mono (show 1400 + 112 * k ≤ 1400 + 112 * (k + 1) by omega) (show 3 * k + 3 ≤ 3 * (k + 1) by omega))
        have HLE4 := hid2 hlo
        have HN4 := hid2 (show n2 ≤ 3 * (k + 1) by have := HNK.out; omega)
        have HNZ4 := hid2 hnm4z
        clear hPO hRO hfew hwo hlo hrl hm0 hm4' his4 hnm4 hnm4z hOR hn2
        go_upto_region 20 with (go_at_call 8; refine HPO.out.mono ?_; rintro e W2 ⟨jv4, A3, c3, rfl, ho, haf⟩; clear y0 y1 y2 y3 y4 y5; have HAF := hid2 haf; have HOW := hid2 ho; clear ho haf)
        have hm2 := HAF.out.moved
        have hg2 : W2.heap[G]? = some (.cells #[.int .i64 0, .int .i64 a.n, .string nm0, .string rec, .slice a.ra rn a.rc, .slice a.pa pn a.pc] 37 (0, 0)) := (hm2.block G HGW.out HGP.out.1 HGP.out.2.1 HGP.out.2.2.2).trans HG1.out
        have hq2 := HJ1.out.box2 hm2
        obtain ⟨hro2, hlo2⟩ := HJ1.out.row2 hm2
        have hz12 := hm2.size
        rw [← HM0.out] at hq2
        have e0 : W2.cell? ⟨q5, 0, none⟩ = some (.slice A m0 c) := cell_of_row W2 q5 0 _ _ _ hq2
        have e1 : W2.cell? ⟨q5, 1, none⟩ = some (.int .i64 left) := cell_of_row W2 q5 1 _ _ _ hq2
        have e2 : W2.cell? ⟨q5, 2, none⟩ = some (.string nm) := cell_of_row W2 q5 2 _ _ _ hq2
        have e3 : W2.cell? ⟨q5, 3, none⟩ = some (.bool is) := cell_of_row W2 q5 3 _ _ _ hq2
        have e4 : W2.cell? ⟨q5, 4, none⟩ = some (.bool br) := cell_of_row W2 q5 4 _ _ _ hq2
        have y0 : W2.cell? ⟨G, 0, none⟩ = some (.int .i64 0) := cell_of_row W2 G 0 _ _ _ hg2
        have y1 : W2.cell? ⟨G, 1, none⟩ = some (.int .i64 a.n) := cell_of_row W2 G 1 _ _ _ hg2
        have y2 : W2.cell? ⟨G, 2, none⟩ = some (.string nm0) := cell_of_row W2 G 2 _ _ _ hg2
        have y3 : W2.cell? ⟨G, 3, none⟩ = some (.string rec) := cell_of_row W2 G 3 _ _ _ hg2
        have y4 : W2.cell? ⟨G, 4, none⟩ = some (.slice a.ra rn a.rc) := cell_of_row W2 G 4 _ _ _ hg2
        have y5 : W2.cell? ⟨G, 5, none⟩ = some (.slice a.pa pn a.pc) := cell_of_row W2 G 5 _ _ _ hg2
        have HQ2 := hid2 hq2
        have HRO2 := hid2 (HRO.out W2 hro2 hlo2)
        clear hro2 hlo2 hg2 hm2
        go_upto_region 36 with (first
          | (go_at_call 9; refine HRO2.out.mono ?_; rintro e W3 ⟨A4, c4, B, cB, rfl, h1, h2, h3, h4, h5⟩; have zz := (h3.block q5 (heap_lt HQ2.out)).trans HQ2.out; have HB3 := hid2 h3; have HR3 := hid2 h1; have HB4 := hid2 h2; have HF3 := hid2 h4; have HBQ := hid2 h5; clear h1 h2 h3 h4 h5 e0 e1 e2 e3 e4 y0 y1 y2 y3 y4 y5)
          | ((with_reducible refine wpList_store_lit q5 0 (.agg #[.slice A4 m4' c4, .int .i64 L4, .string nm4, .bool is4, .bool false]) [.slice A4 m4' c4, .int .i64 L4, .string nm4, .bool is4, .bool false] rfl #[.slice A m0 c, .int .i64 left, .string nm, .bool is, .bool br] 33 zz info_j5 (fit_j5 rfl) one_j5 ?_ ?_); exact ⟨rfl, rfl⟩; rw [show laid #[.slice A m0 c, .int .i64 left, .string nm, .bool is, .bool br] 0 [.slice A4 m4' c4, .int .i64 L4, .string nm4, .bool is4, .bool false] = #[.slice A4 m4' c4, .int .i64 L4, .string nm4, .bool is4, .bool false] from rfl]; clear zz))
        try simp only [Act.put]
        obtain ⟨W4, hW4⟩ : ∃ W4, W4 = W3.setRow q5 #[.slice A4 m4' c4, .int .i64 L4, .string nm4, .bool is4, .bool false] := ⟨_, rfl⟩
        rw [← hW4]
        have HJ4 := hid2 (show JR w q5 p b n2 M4 L4 jv4 A4 c4 nm4 is4 false W4 from by
          rw [hW4, HMM.out]
          exact HJ1.out.step HAF.out.moved HAF.out.disk (.inl ⟨rfl, rfl⟩) HAF.out.jrn HB3.out (by rw [← HMM.out]; exact HR3.out) HF3.out)
        have HSM4 := hid2 (show Calls Tryz.prog 20 #[.slice A3 rl c3, .slice B rl cB] W4 fun e w' => e = .returned (.bool true) ∧ Below W4.heap.size W4 w' from by
          have oth : ∀ g, g ≠ q5 → W4.heap[g]? = W3.heap[g]? := fun g hg => by rw [hW4]; exact setRow_other W3 q5 g _ hg
          have k1 : Rd W4 1 A3 rl (strV R4) := by
            have := HOW.out.rd.below_all HB3.out
            refine (this : Rd W3 1 A3 rl (strV R4)).keep fun g o u hg hu => ?_
            rw [← hu]
            refine World.cell?_of_block (oth g fun e => ?_)
            have h1 := (HOW.out.block g hg).1
            have h2 := HJ1.out.box_lt
            omega
          have k2 : Rd W4 1 B rl (strV R4) := by
            refine (HB4.out : Rd W3 1 B rl (strV R4)).keep fun g o u hg hu => ?_
            rw [← hu]
            refine World.cell?_of_block (oth g fun e => ?_)
            have h1 := HBQ.out g hg
            have h2 := HJ1.out.box_lt
            omega
          rw [strV_of] at k1 k2
          exact same_any W4 A3 B rl c3 cB (R4.map strB) k1 k2 (by have := HFW.out; have := HRL.out; omega))
        have HJV := hid2 (rfl : jv4 = jv4)
        clear hW4 hz12 hq2
        obtain ⟨p4, hp4⟩ : ∃ x, x = p := ⟨_, rfl⟩
        obtain ⟨b4, hb4⟩ : ∃ x, x = b := ⟨_, rfl⟩
        obtain ⟨n4, hn4⟩ : ∃ x, x = n2 := ⟨_, rfl⟩
        obtain ⟨br4, hbr4⟩ : ∃ x, x = false := ⟨_, rfl⟩
        rw [← hp4, ← hb4, ← hn4, ← hbr4] at HJ4
        rw [← hn4] at HN4
        rw [← hp4]
        clear hp4 hb4 hn4 hbr4
        obtain ⟨m4, hm4⟩ : ∃ m, m = M4.length := ⟨_, rfl⟩
        have hbx4 := HJ4.out.box
        rw [← hm4] at hbx4
        have e0 : W4.cell? ⟨q5, 0, none⟩ = some (.slice A4 m4 c4) := cell_of_row W4 q5 0 _ _ _ hbx4
        have e1 : W4.cell? ⟨q5, 1, none⟩ = some (.int .i64 L4) := cell_of_row W4 q5 1 _ _ _ hbx4
        have e2 : W4.cell? ⟨q5, 2, none⟩ = some (.string nm4) := cell_of_row W4 q5 2 _ _ _ hbx4
        have e3 : W4.cell? ⟨q5, 3, none⟩ = some (.bool is4) := cell_of_row W4 q5 3 _ _ _ hbx4
        have e4 : W4.cell? ⟨q5, 4, none⟩ = some (.bool br4) := cell_of_row W4 q5 4 _ _ _ hbx4
        have HSS := hid2 (fun (V : World) (h : JR w q5 p4 b4 n4 M4 L4 jv4 A4 c4 nm4 is4 br4 V) => show Calls Tryz.prog 21 #[.pointer (some ⟨p4, 0, none⟩), .agg #[.slice A4 m4 c4, .int .i64 L4]] V fun e w' => e = .returned (.bool true) ∧ Below V.heap.size V w' from by
          have hw4 := HWD4.out
          have := same08_any V p4 b4 n4 M4 L4 L4 h.disk (by have := HN4.out; omega) A4 c4 h.row (by have := hw4.len; omega) (fun x hx => by have := (hw4.szs x hx).1; omega)
          rw [← hm4] at this
          exact this)
        have HM4 := hid2 hm4
        clear hm4 hbx4
        have hjrn := HJ4.out.jrn
        obtain ⟨iz, hiz⟩ : ∃ i, i = is4 := ⟨_, rfl⟩
        rcases hjrn with ⟨hi4, hj4⟩ | ⟨hi4, j4, hj4, _⟩
        all_goals
          rw [hi4] at e3
          rw [hj4]
          have HI4 := hid2 hi4
          have HJQ := hid2 hj4
          clear hi4 hj4 hiz
          go_wp2_with (first
            | (go_at_call 20; refine (HSM4.out).mono ?_; rintro e W5 ⟨rfl, hb⟩; have HJ5 := hid2 (HJ4.out.later hb); have h5 := (hb.block q5 HJ4.out.box_lt).trans HJ4.out.box; rw [← HM4.out] at h5; clear e0 e1 e2 e3 e4; have e0 : W5.cell? ⟨q5, 0, none⟩ = some (.slice A4 m4 c4) := cell_of_row W5 q5 0 _ _ _ h5; have e1 : W5.cell? ⟨q5, 1, none⟩ = some (.int .i64 L4) := cell_of_row W5 q5 1 _ _ _ h5; have e3 : W5.cell? ⟨q5, 3, none⟩ = some (.bool is4) := cell_of_row W5 q5 3 _ _ _ h5; rw [HI4.out] at e3; clear hb h5)
            | (go_at_call 21; refine (HSS.out W5 HJ5.out).mono ?_; rintro e W6 ⟨rfl, hb⟩; have HJ6 := hid2 (HJ5.out.later hb); clear hb e0 e1 e3))
          go_roundg (gk - 1)
          case rel => exact ⟨k + 1, p4, b4, n4, M4, L4, _, A4, c4, nm4, is4, br4, by have := HK.out; omega, rfl, rfl, by go_num, by rw [← HJQ.out]; exact HJ6.out, HWD4.out, HN4.out, HLE4.out, HNZ4.out⟩
          case measure => have := HK.out; omega
      · by_cases hK1 : K = 1
        · subst hK1
          clear hK
          have hPO := padd HJ1.out HWD.out (by omega) (by have := HNK.out; omega) HLE.out (by have := HNZ.out; omega) rec (by omega)
          obtain ⟨n2, hn2⟩ : ∃ n2, n2 = n + 3 := ⟨_, rfl⟩
          rw [← hn2] at hPO
          obtain ⟨OR, hOR⟩ : ∃ r, r = addS M left nm.data.toList is br (frameL rec.data.toList) := ⟨_, rfl⟩
          have hwo := HWD.out.adds left (nm := nm.data.toList) (by rw [toList_length]; have := HNZ.out; omega) is br rec.data.toList (by rw [toList_length]; omega)
          have hlo := HLE.out.adds (M := M) nm.data.toList is br (frameL rec.data.toList)
          rw [← hOR] at hPO hwo hlo
          have hRO := fun (V : World) (h1 : Rd V 3 A M.length (rfsV M)) (h2 : RLow V A) (hbV : Moved W1 V p b jv) => radd (nm := nm) h1 c h2 HWD.out (by omega) (by omega) HLE.out (by have := HNZ.out; omega) is br rec (by omega)
          rw [← hOR] at hRO
          obtain ⟨E4, M4, L4, br4⟩ := OR
          simp only at hPO hwo hlo
          obtain ⟨m0, hm0⟩ : ∃ n, n = M.length := ⟨_, rfl⟩
          obtain ⟨m4', hm4'⟩ : ∃ n, n = M4.length := ⟨_, rfl⟩
          unfold RefPost at hRO
          simp only at hRO
          rw [← hm4', ← hm0] at hRO
          have HPO := hid2 hPO
          have HRO := hid2 (fun (V : World) (h1 : Rd V 3 A M.length (rfsV M)) (h2 : RLow V A) (hbV : Moved W1 V p b jv) => hRO V (by rw [hm0]; exact h1) h2 hbV)
          have HM0 := hid2 hm0
          have HMM := hid2 hm4'
          have HWD4 := hid2 (hwo.mono (show _ ≤ 1400 + 112 * (k + 1) by omega) (show 3 * k + 3 ≤ 3 * (k + 1) by omega))
          have HLE4 := hid2 hlo
          have HN4 := hid2 (show n2 ≤ 3 * (k + 1) by have := HNK.out; omega)
          clear hPO hRO hwo hlo hm0 hm4' hOR hn2
          go_upto_region 23 with (go_at_call 10; refine HPO.out.mono ?_; rintro e W2 ⟨rfl, haf⟩; clear y0 y1 y2 y3 y4 y5; have HAF := hid2 haf; clear haf)
          have hm2 := HAF.out.moved
          have hg2 : W2.heap[G]? = some (.cells #[.int .i64 1, .int .i64 a.n, .string nm0, .string rec, .slice a.ra rn a.rc, .slice a.pa pn a.pc] 37 (0, 0)) := (hm2.block G HGW.out HGP.out.1 HGP.out.2.1 HGP.out.2.2.2).trans HG1.out
          have hq2 := HJ1.out.box2 hm2
          obtain ⟨hro2, hlo2⟩ := HJ1.out.row2 hm2
          have hz12 := hm2.size
          rw [← HM0.out] at hq2
          have e0 : W2.cell? ⟨q5, 0, none⟩ = some (.slice A m0 c) := cell_of_row W2 q5 0 _ _ _ hq2
          have e1 : W2.cell? ⟨q5, 1, none⟩ = some (.int .i64 left) := cell_of_row W2 q5 1 _ _ _ hq2
          have e2 : W2.cell? ⟨q5, 2, none⟩ = some (.string nm) := cell_of_row W2 q5 2 _ _ _ hq2
          have e3 : W2.cell? ⟨q5, 3, none⟩ = some (.bool is) := cell_of_row W2 q5 3 _ _ _ hq2
          have e4 : W2.cell? ⟨q5, 4, none⟩ = some (.bool br) := cell_of_row W2 q5 4 _ _ _ hq2
          have y0 : W2.cell? ⟨G, 0, none⟩ = some (.int .i64 1) := cell_of_row W2 G 0 _ _ _ hg2
          have y1 : W2.cell? ⟨G, 1, none⟩ = some (.int .i64 a.n) := cell_of_row W2 G 1 _ _ _ hg2
          have y2 : W2.cell? ⟨G, 2, none⟩ = some (.string nm0) := cell_of_row W2 G 2 _ _ _ hg2
          have y3 : W2.cell? ⟨G, 3, none⟩ = some (.string rec) := cell_of_row W2 G 3 _ _ _ hg2
          have y4 : W2.cell? ⟨G, 4, none⟩ = some (.slice a.ra rn a.rc) := cell_of_row W2 G 4 _ _ _ hg2
          have y5 : W2.cell? ⟨G, 5, none⟩ = some (.slice a.pa pn a.pc) := cell_of_row W2 G 5 _ _ _ hg2
          have HQ2 := hid2 hq2
          have HRO2 := hid2 (HRO.out W2 hro2 hlo2 hm2)
          clear hro2 hlo2 hg2 hm2
          go_upto_region 36 with (first
            | (go_at_call 11; refine HRO2.out.mono ?_; rintro e W3 ⟨A4, c4, rfl, h1, h3, h4⟩; have zz := (h3.block q5 (heap_lt HQ2.out)).trans HQ2.out; have HB3 := hid2 h3; have HR3 := hid2 h1; have HF3 := hid2 h4; clear h1 h3 h4 e0 e1 e2 e3 e4 y0 y1 y2 y3 y4 y5)
            | ((with_reducible refine wpList_store_lit q5 0 (.agg #[.slice A4 m4' c4, .int .i64 L4, .string nm, .bool is, .bool br4]) [.slice A4 m4' c4, .int .i64 L4, .string nm, .bool is, .bool br4] rfl #[.slice A m0 c, .int .i64 left, .string nm, .bool is, .bool br] 33 zz info_j5 (fit_j5 rfl) one_j5 ?_ ?_); exact ⟨rfl, rfl⟩; rw [show laid #[.slice A m0 c, .int .i64 left, .string nm, .bool is, .bool br] 0 [.slice A4 m4' c4, .int .i64 L4, .string nm, .bool is, .bool br4] = #[.slice A4 m4' c4, .int .i64 L4, .string nm, .bool is, .bool br4] from rfl]; clear zz))
          try simp only [Act.put]
          obtain ⟨W4, hW4⟩ : ∃ W4, W4 = W3.setRow q5 #[.slice A4 m4' c4, .int .i64 L4, .string nm, .bool is, .bool br4] := ⟨_, rfl⟩
          rw [← hW4]
          have HJ4 := hid2 (show JR w q5 p b n2 M4 L4 jv A4 c4 nm is br4 W4 from by
            rw [hW4, HMM.out]
            exact HJ1.out.step HAF.out.moved HAF.out.disk (.inl ⟨rfl, rfl⟩) HAF.out.jrn HB3.out (by rw [← HMM.out]; exact HR3.out) HF3.out)
          have HSM4 := hid2 (show Calls Tryz.prog 20 #[.slice (some ⟨G + 1, 0, none⟩) 0 0, .slice (some ⟨G + 1 + 1, 0, none⟩) 0 0] W4 fun e w' => e = .returned (.bool true) ∧ Below W4.heap.size W4 w' from same_any W4 _ _ 0 0 0 [] (Rd.none_ _ _ _) (Rd.none_ _ _ _) (by omega))
          obtain ⟨jv4, hjv4⟩ : ∃ x, x = jv := ⟨_, rfl⟩
          have HJV := hid2 hjv4
          clear hW4 hz12 hq2
          obtain ⟨p4, hp4⟩ : ∃ x, x = p := ⟨_, rfl⟩
          obtain ⟨b4, hb4⟩ : ∃ x, x = b := ⟨_, rfl⟩
          obtain ⟨n4, hn4⟩ : ∃ x, x = n2 := ⟨_, rfl⟩
          obtain ⟨nm4, hnm4⟩ : ∃ x, x = nm := ⟨_, rfl⟩
          obtain ⟨is4, his4⟩ : ∃ x, x = is := ⟨_, rfl⟩
          rw [← hp4, ← hb4, ← hn4, ← hnm4, ← his4, ← hjv4] at HJ4
          rw [← hn4] at HN4
          have HNZ4 := hid2 (show nm4.size ≤ 20 from by rw [hnm4]; exact HNZ.out)
          rw [← hp4, ← hjv4]
          clear hp4 hb4 hn4 hnm4 his4 hjv4
          obtain ⟨m4, hm4⟩ : ∃ m, m = M4.length := ⟨_, rfl⟩
          have hbx4 := HJ4.out.box
          rw [← hm4] at hbx4
          have e0 : W4.cell? ⟨q5, 0, none⟩ = some (.slice A4 m4 c4) := cell_of_row W4 q5 0 _ _ _ hbx4
          have e1 : W4.cell? ⟨q5, 1, none⟩ = some (.int .i64 L4) := cell_of_row W4 q5 1 _ _ _ hbx4
          have e2 : W4.cell? ⟨q5, 2, none⟩ = some (.string nm4) := cell_of_row W4 q5 2 _ _ _ hbx4
          have e3 : W4.cell? ⟨q5, 3, none⟩ = some (.bool is4) := cell_of_row W4 q5 3 _ _ _ hbx4
          have e4 : W4.cell? ⟨q5, 4, none⟩ = some (.bool br4) := cell_of_row W4 q5 4 _ _ _ hbx4
          have HSS := hid2 (fun (V : World) (h : JR w q5 p4 b4 n4 M4 L4 jv4 A4 c4 nm4 is4 br4 V) => show Calls Tryz.prog 21 #[.pointer (some ⟨p4, 0, none⟩), .agg #[.slice A4 m4 c4, .int .i64 L4]] V fun e w' => e = .returned (.bool true) ∧ Below V.heap.size V w' from by
            have hw4 := HWD4.out
            have := same08_any V p4 b4 n4 M4 L4 L4 h.disk (by have := HN4.out; omega) A4 c4 h.row (by have := hw4.len; omega) (fun x hx => by have := (hw4.szs x hx).1; omega)
            rw [← hm4] at this
            exact this)
          have HM4 := hid2 hm4
          clear hm4 hbx4
          have hjrn := HJ4.out.jrn
          obtain ⟨iz, hiz⟩ : ∃ i, i = is4 := ⟨_, rfl⟩
          rcases hjrn with ⟨hi4, hj4⟩ | ⟨hi4, j4, hj4, _⟩
          all_goals
            rw [hi4] at e3
            rw [hj4]
            have HI4 := hid2 hi4
            have HJQ := hid2 hj4
            clear hi4 hj4 hiz
            go_wp2_with (first
              | (go_at_call 20; refine (HSM4.out).mono ?_; rintro e W5 ⟨rfl, hb⟩; have HJ5 := hid2 (HJ4.out.later hb); have h5 := (hb.block q5 HJ4.out.box_lt).trans HJ4.out.box; rw [← HM4.out] at h5; clear e0 e1 e2 e3 e4; have e0 : W5.cell? ⟨q5, 0, none⟩ = some (.slice A4 m4 c4) := cell_of_row W5 q5 0 _ _ _ h5; have e1 : W5.cell? ⟨q5, 1, none⟩ = some (.int .i64 L4) := cell_of_row W5 q5 1 _ _ _ h5; have e3 : W5.cell? ⟨q5, 3, none⟩ = some (.bool is4) := cell_of_row W5 q5 3 _ _ _ h5; rw [HI4.out] at e3; clear hb h5)
              | (go_at_call 21; refine (HSS.out W5 HJ5.out).mono ?_; rintro e W6 ⟨rfl, hb⟩; have HJ6 := hid2 (HJ5.out.later hb); clear hb e0 e1 e3))
            go_roundg (gk - 1)
            case rel => exact ⟨k + 1, p4, b4, n4, M4, L4, _, A4, c4, nm4, is4, br4, by have := HK.out; omega, rfl, rfl, by go_num, by rw [← HJQ.out]; exact HJ6.out, HWD4.out, HN4.out, HLE4.out, HNZ4.out⟩
            case measure => have := HK.out; omega
        · by_cases hK2 : K = 2
          · subst hK2
            clear hK hK1
            have hPO := pswap HJ1.out HWD.out (by omega) (by have := HNK.out; omega) HLE.out (by have := HNZ.out; omega) a.ra a.rc a.recs HS45.out.2 HAT1.out.recs HS45.out.1
            obtain ⟨n2, hn2⟩ : ∃ n2, n2 = n + 3 := ⟨_, rfl⟩
            rw [← hn2] at hPO
            obtain ⟨OR, hOR⟩ : ∃ r, r = swapS M left nm.data.toList is br (a.recs.map fun s => s.data.toList) := ⟨_, rfl⟩
            have hwo := HWD.out.swaps left (nm := nm.data.toList) (by rw [toList_length]; have := HNZ.out; omega) is br (rs := a.recs.map fun s => s.data.toList) (by have h1 := framesL_le (rs := a.recs.map fun s => s.data.toList) (fun r hr => (by obtain ⟨x, hx, rfl⟩ := List.mem_map.1 hr; show x.data.toList.length ≤ 100; rw [toList_length]; exact HS45.out.1 x hx)); have h2 := HS45.out.2; rw [List.length_map] at h1; omega)
            have hlo := HLE.out.swaps (M := M) nm.data.toList is br (a.recs.map fun s => s.data.toList)
            rw [← hOR] at hPO hwo hlo
            have hRO := fun (V : World) (h1 : Rd V 3 A M.length (rfsV M)) (h2 : RLow V A) (hbV : Moved W1 V p b jv) => rswap (nm := nm) h1 c h2 HWD.out (by omega) (by omega) (by omega) HLE.out (by have := HNZ.out; omega) is br a.ra a.rc a.recs HS45.out.2 (HJ1.out.keepLow hbV HAT0.out.recs) HS45.out.1
            rw [← hOR] at hRO
            obtain ⟨E4, M4, L4, br4⟩ := OR
            simp only at hPO hwo hlo
            obtain ⟨m0, hm0⟩ : ∃ n, n = M.length := ⟨_, rfl⟩
            obtain ⟨m4', hm4'⟩ : ∃ n, n = M4.length := ⟨_, rfl⟩
            unfold RefPost at hRO
            simp only at hRO
            rw [← hm4', ← hm0] at hRO
            rw [← HRN.out] at hPO hRO
            have HPO := hid2 hPO
            have HRO := hid2 (fun (V : World) (h1 : Rd V 3 A M.length (rfsV M)) (h2 : RLow V A) (hbV : Moved W1 V p b jv) => hRO V (by rw [hm0]; exact h1) h2 hbV)
            have HM0 := hid2 hm0
            have HMM := hid2 hm4'
            have HWD4 := hid2 (hwo.mono (show _ ≤ 1400 + 112 * (k + 1) by omega) (show 3 * k + 3 ≤ 3 * (k + 1) by omega))
            have HLE4 := hid2 hlo
            have HN4 := hid2 (show n2 ≤ 3 * (k + 1) by have := HNK.out; omega)
            clear hPO hRO hwo hlo hm0 hm4' hOR hn2
            go_upto_region 26 with (go_at_call 12; refine HPO.out.mono ?_; rintro e W2 ⟨rfl, haf⟩; clear y0 y1 y2 y3 y4 y5; have HAF := hid2 haf; clear haf)
            have hm2 := HAF.out.moved
            have hg2 : W2.heap[G]? = some (.cells #[.int .i64 2, .int .i64 a.n, .string nm0, .string rec, .slice a.ra rn a.rc, .slice a.pa pn a.pc] 37 (0, 0)) := (hm2.block G HGW.out HGP.out.1 HGP.out.2.1 HGP.out.2.2.2).trans HG1.out
            have hq2 := HJ1.out.box2 hm2
            obtain ⟨hro2, hlo2⟩ := HJ1.out.row2 hm2
            have hz12 := hm2.size
            rw [← HM0.out] at hq2
            have e0 : W2.cell? ⟨q5, 0, none⟩ = some (.slice A m0 c) := cell_of_row W2 q5 0 _ _ _ hq2
            have e1 : W2.cell? ⟨q5, 1, none⟩ = some (.int .i64 left) := cell_of_row W2 q5 1 _ _ _ hq2
            have e2 : W2.cell? ⟨q5, 2, none⟩ = some (.string nm) := cell_of_row W2 q5 2 _ _ _ hq2
            have e3 : W2.cell? ⟨q5, 3, none⟩ = some (.bool is) := cell_of_row W2 q5 3 _ _ _ hq2
            have e4 : W2.cell? ⟨q5, 4, none⟩ = some (.bool br) := cell_of_row W2 q5 4 _ _ _ hq2
            have y0 : W2.cell? ⟨G, 0, none⟩ = some (.int .i64 2) := cell_of_row W2 G 0 _ _ _ hg2
            have y1 : W2.cell? ⟨G, 1, none⟩ = some (.int .i64 a.n) := cell_of_row W2 G 1 _ _ _ hg2
            have y2 : W2.cell? ⟨G, 2, none⟩ = some (.string nm0) := cell_of_row W2 G 2 _ _ _ hg2
            have y3 : W2.cell? ⟨G, 3, none⟩ = some (.string rec) := cell_of_row W2 G 3 _ _ _ hg2
            have y4 : W2.cell? ⟨G, 4, none⟩ = some (.slice a.ra rn a.rc) := cell_of_row W2 G 4 _ _ _ hg2
            have y5 : W2.cell? ⟨G, 5, none⟩ = some (.slice a.pa pn a.pc) := cell_of_row W2 G 5 _ _ _ hg2
            have HQ2 := hid2 hq2
            have HRO2 := hid2 (HRO.out W2 hro2 hlo2 hm2)
            clear hro2 hlo2 hg2 hm2
            go_upto_region 36 with (first
              | (go_at_call 13; refine HRO2.out.mono ?_; rintro e W3 ⟨A4, c4, rfl, h1, h3, h4⟩; have zz := (h3.block q5 (heap_lt HQ2.out)).trans HQ2.out; have HB3 := hid2 h3; have HR3 := hid2 h1; have HF3 := hid2 h4; clear h1 h3 h4 e0 e1 e2 e3 e4 y0 y1 y2 y3 y4 y5)
              | ((with_reducible refine wpList_store_lit q5 0 (.agg #[.slice A4 m4' c4, .int .i64 L4, .string nm, .bool is, .bool br4]) [.slice A4 m4' c4, .int .i64 L4, .string nm, .bool is, .bool br4] rfl #[.slice A m0 c, .int .i64 left, .string nm, .bool is, .bool br] 33 zz info_j5 (fit_j5 rfl) one_j5 ?_ ?_); exact ⟨rfl, rfl⟩; rw [show laid #[.slice A m0 c, .int .i64 left, .string nm, .bool is, .bool br] 0 [.slice A4 m4' c4, .int .i64 L4, .string nm, .bool is, .bool br4] = #[.slice A4 m4' c4, .int .i64 L4, .string nm, .bool is, .bool br4] from rfl]; clear zz))
            try simp only [Act.put]
            obtain ⟨W4, hW4⟩ : ∃ W4, W4 = W3.setRow q5 #[.slice A4 m4' c4, .int .i64 L4, .string nm, .bool is, .bool br4] := ⟨_, rfl⟩
            rw [← hW4]
            have HJ4 := hid2 (show JR w q5 p b n2 M4 L4 jv A4 c4 nm is br4 W4 from by
              rw [hW4, HMM.out]
              exact HJ1.out.step HAF.out.moved HAF.out.disk (.inl ⟨rfl, rfl⟩) HAF.out.jrn HB3.out (by rw [← HMM.out]; exact HR3.out) HF3.out)
            have HSM4 := hid2 (show Calls Tryz.prog 20 #[.slice (some ⟨G + 1, 0, none⟩) 0 0, .slice (some ⟨G + 1 + 1, 0, none⟩) 0 0] W4 fun e w' => e = .returned (.bool true) ∧ Below W4.heap.size W4 w' from same_any W4 _ _ 0 0 0 [] (Rd.none_ _ _ _) (Rd.none_ _ _ _) (by omega))
            obtain ⟨jv4, hjv4⟩ : ∃ x, x = jv := ⟨_, rfl⟩
            have HJV := hid2 hjv4
            clear hW4 hz12 hq2
            obtain ⟨p4, hp4⟩ : ∃ x, x = p := ⟨_, rfl⟩
            obtain ⟨b4, hb4⟩ : ∃ x, x = b := ⟨_, rfl⟩
            obtain ⟨n4, hn4⟩ : ∃ x, x = n2 := ⟨_, rfl⟩
            obtain ⟨nm4, hnm4⟩ : ∃ x, x = nm := ⟨_, rfl⟩
            obtain ⟨is4, his4⟩ : ∃ x, x = is := ⟨_, rfl⟩
            rw [← hp4, ← hb4, ← hn4, ← hnm4, ← his4, ← hjv4] at HJ4
            rw [← hn4] at HN4
            have HNZ4 := hid2 (show nm4.size ≤ 20 from by rw [hnm4]; exact HNZ.out)
            rw [← hp4, ← hjv4]
            clear hp4 hb4 hn4 hnm4 his4 hjv4
            obtain ⟨m4, hm4⟩ : ∃ m, m = M4.length := ⟨_, rfl⟩
            have hbx4 := HJ4.out.box
            rw [← hm4] at hbx4
            have e0 : W4.cell? ⟨q5, 0, none⟩ = some (.slice A4 m4 c4) := cell_of_row W4 q5 0 _ _ _ hbx4
            have e1 : W4.cell? ⟨q5, 1, none⟩ = some (.int .i64 L4) := cell_of_row W4 q5 1 _ _ _ hbx4
            have e2 : W4.cell? ⟨q5, 2, none⟩ = some (.string nm4) := cell_of_row W4 q5 2 _ _ _ hbx4
            have e3 : W4.cell? ⟨q5, 3, none⟩ = some (.bool is4) := cell_of_row W4 q5 3 _ _ _ hbx4
            have e4 : W4.cell? ⟨q5, 4, none⟩ = some (.bool br4) := cell_of_row W4 q5 4 _ _ _ hbx4
            have HSS := hid2 (fun (V : World) (h : JR w q5 p4 b4 n4 M4 L4 jv4 A4 c4 nm4 is4 br4 V) => show Calls Tryz.prog 21 #[.pointer (some ⟨p4, 0, none⟩), .agg #[.slice A4 m4 c4, .int .i64 L4]] V fun e w' => e = .returned (.bool true) ∧ Below V.heap.size V w' from by
              have hw4 := HWD4.out
              have := same08_any V p4 b4 n4 M4 L4 L4 h.disk (by have := HN4.out; omega) A4 c4 h.row (by have := hw4.len; omega) (fun x hx => by have := (hw4.szs x hx).1; omega)
              rw [← hm4] at this
              exact this)
            have HM4 := hid2 hm4
            clear hm4 hbx4
            have hjrn := HJ4.out.jrn
            obtain ⟨iz, hiz⟩ : ∃ i, i = is4 := ⟨_, rfl⟩
            rcases hjrn with ⟨hi4, hj4⟩ | ⟨hi4, j4, hj4, _⟩
            all_goals
              rw [hi4] at e3
              rw [hj4]
              have HI4 := hid2 hi4
              have HJQ := hid2 hj4
              clear hi4 hj4 hiz
              go_wp2_with (first
                | (go_at_call 20; refine (HSM4.out).mono ?_; rintro e W5 ⟨rfl, hb⟩; have HJ5 := hid2 (HJ4.out.later hb); have h5 := (hb.block q5 HJ4.out.box_lt).trans HJ4.out.box; rw [← HM4.out] at h5; clear e0 e1 e2 e3 e4; have e0 : W5.cell? ⟨q5, 0, none⟩ = some (.slice A4 m4 c4) := cell_of_row W5 q5 0 _ _ _ h5; have e1 : W5.cell? ⟨q5, 1, none⟩ = some (.int .i64 L4) := cell_of_row W5 q5 1 _ _ _ h5; have e3 : W5.cell? ⟨q5, 3, none⟩ = some (.bool is4) := cell_of_row W5 q5 3 _ _ _ h5; rw [HI4.out] at e3; clear hb h5)
                | (go_at_call 21; refine (HSS.out W5 HJ5.out).mono ?_; rintro e W6 ⟨rfl, hb⟩; have HJ6 := hid2 (HJ5.out.later hb); clear hb e0 e1 e3))
              go_roundg (gk - 1)
              case rel => exact ⟨k + 1, p4, b4, n4, M4, L4, _, A4, c4, nm4, is4, br4, by have := HK.out; omega, rfl, rfl, by go_num, by rw [← HJQ.out]; exact HJ6.out, HWD4.out, HN4.out, HLE4.out, HNZ4.out⟩
              case measure => have := HK.out; omega
          · by_cases hK3 : K = 3
            · subst hK3
              clear hK hK1 hK2
              have hbud := HAT1.out.n
              obtain ⟨L4, hL4⟩ : ∃ L, L = (if -1 ≤ a.n then a.n else -1) := ⟨_, rfl⟩
              have hLe : (if a.n < 0 then (-1 : Int) else a.n) = L4 := by
                rw [hL4]
                split <;> split <;> omega
              have hle4 : LeftOk L4 := by
                rw [hL4]
                split
                · exact ⟨by omega, hbud.2⟩
                · exact ⟨by omega, by omega⟩
              obtain ⟨m0, hm0⟩ : ∃ n, n = M.length := ⟨_, rfl⟩
              have hPO := budget_any W1 p b n M left a.n HJ1.out.disk
              rw [← hL4] at hPO
              have hRO := fun (V : World) => budget07m_any V A m0 c left a.n
              rw [hLe] at hRO
              have HPO := hid2 hPO
              have HRO := hid2 hRO
              have HM0 := hid2 hm0
              have HWD4 := hid2 (HWD.out.mono (show _ ≤ 1400 + 112 * (k + 1) by omega) (show 3 * k ≤ 3 * (k + 1) by omega))
              have HLE4 := hid2 hle4
              have HN4 := hid2 (show n ≤ 3 * (k + 1) by have := HNK.out; omega)
              have HNZ4 := hid2 HNZ.out
              clear hbud hL4 hLe hle4 hPO hRO hm0
              go_upto_region 29 with (go_at_call 14; refine HPO.out.mono ?_; rintro e W2 ⟨rfl, hd2, hb2, _⟩; clear y0 y1 y2 y3 y4 y5; have HD2 := hid2 hd2; have HAF := hid2 (show Moved W1 W2 p b jv from .of_but hb2); have HBU := hid2 (show ∀ j, JIs W1 j p nm br → W2.heap[j]? = W1.heap[j]? from fun j hj => (let h := hj.ne HJ1.out.disk; hb2.block j hj.lt h.1 h.2)); clear hd2 hb2)
              have hm2 := HAF.out
              have hg2 : W2.heap[G]? = some (.cells #[.int .i64 3, .int .i64 a.n, .string nm0, .string rec, .slice a.ra rn a.rc, .slice a.pa pn a.pc] 37 (0, 0)) := (hm2.block G HGW.out HGP.out.1 HGP.out.2.1 HGP.out.2.2.2).trans HG1.out
              have hq2 := HJ1.out.box2 hm2
              obtain ⟨hro2, hlo2⟩ := HJ1.out.row2 hm2
              have hz12 := hm2.size
              rw [← HM0.out] at hq2
              have e0 : W2.cell? ⟨q5, 0, none⟩ = some (.slice A m0 c) := cell_of_row W2 q5 0 _ _ _ hq2
              have e1 : W2.cell? ⟨q5, 1, none⟩ = some (.int .i64 left) := cell_of_row W2 q5 1 _ _ _ hq2
              have e2 : W2.cell? ⟨q5, 2, none⟩ = some (.string nm) := cell_of_row W2 q5 2 _ _ _ hq2
              have e3 : W2.cell? ⟨q5, 3, none⟩ = some (.bool is) := cell_of_row W2 q5 3 _ _ _ hq2
              have e4 : W2.cell? ⟨q5, 4, none⟩ = some (.bool br) := cell_of_row W2 q5 4 _ _ _ hq2
              have y0 : W2.cell? ⟨G, 0, none⟩ = some (.int .i64 3) := cell_of_row W2 G 0 _ _ _ hg2
              have y1 : W2.cell? ⟨G, 1, none⟩ = some (.int .i64 a.n) := cell_of_row W2 G 1 _ _ _ hg2
              have y2 : W2.cell? ⟨G, 2, none⟩ = some (.string nm0) := cell_of_row W2 G 2 _ _ _ hg2
              have y3 : W2.cell? ⟨G, 3, none⟩ = some (.string rec) := cell_of_row W2 G 3 _ _ _ hg2
              have y4 : W2.cell? ⟨G, 4, none⟩ = some (.slice a.ra rn a.rc) := cell_of_row W2 G 4 _ _ _ hg2
              have y5 : W2.cell? ⟨G, 5, none⟩ = some (.slice a.pa pn a.pc) := cell_of_row W2 G 5 _ _ _ hg2
              have HQ2 := hid2 hq2
              have HRW := hid2 (And.intro hro2 hlo2)
              clear hro2 hlo2 hg2 hm2
              go_upto_region 36 with (first
                | (go_at_call 15; refine (HRO.out W2).mono ?_; rintro e W3 ⟨rfl, h3⟩; have zz := (h3.block q5 (heap_lt HQ2.out)).trans HQ2.out; have HB3 := hid2 h3; clear h3 e0 e1 e2 e3 e4 y0 y1 y2 y3 y4 y5)
                | ((with_reducible refine wpList_store_lit q5 0 (.agg #[.slice A m0 c, .int .i64 L4]) [.slice A m0 c, .int .i64 L4] rfl #[.slice A m0 c, .int .i64 left, .string nm, .bool is, .bool br] 33 zz info_d2 (fit_d2 rfl) one_d2 ?_ ?_); exact ⟨rfl, rfl⟩; rw [show laid #[.slice A m0 c, .int .i64 left, .string nm, .bool is, .bool br] 0 [.slice A m0 c, .int .i64 L4] = #[.slice A m0 c, .int .i64 L4, .string nm, .bool is, .bool br] from rfl]; clear zz))
              try simp only [Act.put]
              obtain ⟨W4, hW4⟩ : ∃ W4, W4 = W3.setRow q5 #[.slice A m0 c, .int .i64 L4, .string nm, .bool is, .bool br] := ⟨_, rfl⟩
              rw [← hW4]
              have HJ4 := hid2 (show JR w q5 p b n M L4 jv A c nm is br W4 from by
                rw [hW4, HM0.out]
                refine HJ1.out.step HAF.out HD2.out (.inl ⟨rfl, rfl⟩) ?_ HB3.out (HRW.out.1.below_all HB3.out) (RFar.refl _ _ _)
                rcases HJ1.out.jrn with d | ⟨d, j, d1, d2, d3, d4, _⟩
                · exact .inl d
                · exact .inr ⟨d, j, d1, d2.keep (HBU.out j d2), d3, .inr rfl⟩)
              clear hW4 hz12 hq2
              have HSM4 := hid2 (show Calls Tryz.prog 20 #[.slice (some ⟨G + 1, 0, none⟩) 0 0, .slice (some ⟨G + 1 + 1, 0, none⟩) 0 0] W4 fun e w' => e = .returned (.bool true) ∧ Below W4.heap.size W4 w' from same_any W4 _ _ 0 0 0 [] (Rd.none_ _ _ _) (Rd.none_ _ _ _) (by omega))
              obtain ⟨M4, hM4⟩ : ∃ x, x = M := ⟨_, rfl⟩
              obtain ⟨A4, hA4⟩ : ∃ x, x = A := ⟨_, rfl⟩
              obtain ⟨c4, hc4⟩ : ∃ x, x = c := ⟨_, rfl⟩
              rw [← hM4, ← hA4, ← hc4] at HJ4
              rw [← hM4] at HWD4
              clear hM4 hA4 hc4
              obtain ⟨jv4, hjv4⟩ : ∃ x, x = jv := ⟨_, rfl⟩
              obtain ⟨p4, hp4⟩ : ∃ x, x = p := ⟨_, rfl⟩
              obtain ⟨b4, hb4⟩ : ∃ x, x = b := ⟨_, rfl⟩
              obtain ⟨n4, hn4⟩ : ∃ x, x = n := ⟨_, rfl⟩
              obtain ⟨nm4, hnm4⟩ : ∃ x, x = nm := ⟨_, rfl⟩
              obtain ⟨is4, his4⟩ : ∃ x, x = is := ⟨_, rfl⟩
              obtain ⟨br4, hbr4⟩ : ∃ x, x = br := ⟨_, rfl⟩
              have HJ4x := hid2 (show JR w q5 p4 b4 n4 M4 L4 jv4 A4 c4 nm4 is4 br4 W4 from by rw [hp4, hb4, hn4, hnm4, his4, hjv4, hbr4]; exact HJ4.out)
              clear HJ4
              have HJ4 := HJ4x
              clear HJ4x
              rw [← hn4] at HN4
              rw [← hnm4] at HNZ4
              rw [← hp4, ← hjv4]
              clear hp4 hb4 hn4 hnm4 his4 hjv4 hbr4
              obtain ⟨m4, hm4⟩ : ∃ m, m = M4.length := ⟨_, rfl⟩
              have hbx4 := HJ4.out.box
              rw [← hm4] at hbx4
              have e0 : W4.cell? ⟨q5, 0, none⟩ = some (.slice A4 m4 c4) := cell_of_row W4 q5 0 _ _ _ hbx4
              have e1 : W4.cell? ⟨q5, 1, none⟩ = some (.int .i64 L4) := cell_of_row W4 q5 1 _ _ _ hbx4
              have e2 : W4.cell? ⟨q5, 2, none⟩ = some (.string nm4) := cell_of_row W4 q5 2 _ _ _ hbx4
              have e3 : W4.cell? ⟨q5, 3, none⟩ = some (.bool is4) := cell_of_row W4 q5 3 _ _ _ hbx4
              have e4 : W4.cell? ⟨q5, 4, none⟩ = some (.bool br4) := cell_of_row W4 q5 4 _ _ _ hbx4
              have HSS := hid2 (fun (V : World) (h : JR w q5 p4 b4 n4 M4 L4 jv4 A4 c4 nm4 is4 br4 V) => show Calls Tryz.prog 21 #[.pointer (some ⟨p4, 0, none⟩), .agg #[.slice A4 m4 c4, .int .i64 L4]] V fun e w' => e = .returned (.bool true) ∧ Below V.heap.size V w' from by
                have hw4 := HWD4.out
                have := same08_any V p4 b4 n4 M4 L4 L4 h.disk (by have := HN4.out; omega) A4 c4 h.row (by have := hw4.len; omega) (fun x hx => by have := (hw4.szs x hx).1; omega)
                rw [← hm4] at this
                exact this)
              have HM4 := hid2 hm4
              clear hm4 hbx4
              have hjrn := HJ4.out.jrn
              obtain ⟨iz, hiz⟩ : ∃ i, i = is4 := ⟨_, rfl⟩
              rcases hjrn with ⟨hi4, hj4⟩ | ⟨hi4, j4, hj4, _⟩
              all_goals
                rw [hi4] at e3
                rw [hj4]
                have HI4 := hid2 hi4
                have HJQ := hid2 hj4
                clear hi4 hj4 hiz
                go_wp2_with (first
                  | (go_at_call 20; refine (HSM4.out).mono ?_; rintro e W5 ⟨rfl, hb⟩; have HJ5 := hid2 (HJ4.out.later hb); have h5 := (hb.block q5 HJ4.out.box_lt).trans HJ4.out.box; rw [← HM4.out] at h5; clear e0 e1 e2 e3 e4; have e0 : W5.cell? ⟨q5, 0, none⟩ = some (.slice A4 m4 c4) := cell_of_row W5 q5 0 _ _ _ h5; have e1 : W5.cell? ⟨q5, 1, none⟩ = some (.int .i64 L4) := cell_of_row W5 q5 1 _ _ _ h5; have e3 : W5.cell? ⟨q5, 3, none⟩ = some (.bool is4) := cell_of_row W5 q5 3 _ _ _ h5; rw [HI4.out] at e3; clear hb h5)
                  | (go_at_call 21; refine (HSS.out W5 HJ5.out).mono ?_; rintro e W6 ⟨rfl, hb⟩; have HJ6 := hid2 (HJ5.out.later hb); clear hb e0 e1 e3))
                go_roundg (gk - 1)
                case rel => exact ⟨k + 1, p4, b4, n4, M4, L4, _, A4, c4, nm4, is4, br4, by have := HK.out; omega, rfl, rfl, by go_num, by rw [← HJQ.out]; exact HJ6.out, HWD4.out, HN4.out, HLE4.out, HNZ4.out⟩
                case measure => have := HK.out; omega
            · by_cases hK4 : K = 4
              · subst hK4
                clear hK hK1 hK2 hK3
                have hrises := HJ1.out.rises
                have hszs : ∀ x ∈ M, x.1.length ≤ 1000000000 ∧ x.2.1.length ≤ 1000000000 ∧ x.2.2 ≤ x.2.1.length := fun x hx => by
                  have h1 := HWD.out.szs x hx
                  exact ⟨by omega, by omega, h1.2.2⟩
                obtain ⟨m0, hm0⟩ : ∃ n, n = M.length := ⟨_, rfl⟩
                obtain ⟨M4, hM4⟩ : ∃ x, x = (crashP M a.picks).1 := ⟨_, rfl⟩
                have hlen4 : M4.length = m0 := by rw [hM4, crash_length, hm0]
                have hPO := crash_any W1 p b n M left HJ1.out.disk (by have := HNK.out; omega) hszs a.pa a.pc a.picks HAT1.out.picks HAT1.out.pc (by have := HS3.out; have := HPN.out; omega)
                have hRO := fun (V : World) (h1 : Rd V 3 A M.length (rfsV M)) (h2 : Rd V 1 a.pa a.picks.length (intV a.picks)) => crash07m_any V A c M left h1 (by have := HWD.out.len; omega) hrises hszs a.pa a.pc a.picks h2 (by have := HS3.out; have := HPN.out; omega)
                unfold CPost at hPO
                unfold RCPost at hRO
                rw [← hM4, ← HPN.out] at hPO hRO
                rw [← hm0] at hPO hRO
                have hwo := HWD.out.crash a.picks
                rw [← hM4] at hwo
                have HPO := hid2 hPO
                have HRO := hid2 hRO
                have HM0 := hid2 hm0
                have HL4 := hid2 hlen4
                have HWD4 := hid2 (hwo.mono (show _ ≤ 1400 + 112 * (k + 1) by omega) (show 3 * k ≤ 3 * (k + 1) by omega))
                have HLE4 := hid2 (show LeftOk (-1) from ⟨by omega, by omega⟩)
                have HN4 := hid2 (show m0 ≤ 3 * (k + 1) by have := HWD.out.len; omega)
                have HNZ4 := hid2 (show (⟨#[]⟩ : ByteArray).size ≤ 20 from by decide)
                clear hrises hszs hPO hRO hm0 hlen4 hwo hM4
                go_upto_region 33 with (go_at_call 16; refine HPO.out.mono ?_; rintro e W2 ⟨p2, b2, rfl, hd2, hp2, hb2, hb⟩; clear y0 y1 y2 y3 y4 y5; have HD2 := hid2 hd2; have HPB := hid2 (And.intro hp2 hb2); have HAF := hid2 (show Moved W1 W2 p b jv from .of_below hb); have HBB := hid2 hb; clear hd2 hp2 hb2 hb)
                have hm2 := HAF.out
                have hg2 : W2.heap[G]? = some (.cells #[.int .i64 4, .int .i64 a.n, .string nm0, .string rec, .slice a.ra rn a.rc, .slice a.pa pn a.pc] 37 (0, 0)) := (hm2.block G HGW.out HGP.out.1 HGP.out.2.1 HGP.out.2.2.2).trans HG1.out
                have hq2 := HJ1.out.box2 hm2
                obtain ⟨hro2, hlo2⟩ := HJ1.out.row2 hm2
                have hz12 := hm2.size
                rw [← HM0.out] at hq2
                have e0 : W2.cell? ⟨q5, 0, none⟩ = some (.slice A m0 c) := cell_of_row W2 q5 0 _ _ _ hq2
                have e1 : W2.cell? ⟨q5, 1, none⟩ = some (.int .i64 left) := cell_of_row W2 q5 1 _ _ _ hq2
                have e2 : W2.cell? ⟨q5, 2, none⟩ = some (.string nm) := cell_of_row W2 q5 2 _ _ _ hq2
                have e3 : W2.cell? ⟨q5, 3, none⟩ = some (.bool is) := cell_of_row W2 q5 3 _ _ _ hq2
                have e4 : W2.cell? ⟨q5, 4, none⟩ = some (.bool br) := cell_of_row W2 q5 4 _ _ _ hq2
                have y0 : W2.cell? ⟨G, 0, none⟩ = some (.int .i64 4) := cell_of_row W2 G 0 _ _ _ hg2
                have y1 : W2.cell? ⟨G, 1, none⟩ = some (.int .i64 a.n) := cell_of_row W2 G 1 _ _ _ hg2
                have y2 : W2.cell? ⟨G, 2, none⟩ = some (.string nm0) := cell_of_row W2 G 2 _ _ _ hg2
                have y3 : W2.cell? ⟨G, 3, none⟩ = some (.string rec) := cell_of_row W2 G 3 _ _ _ hg2
                have y4 : W2.cell? ⟨G, 4, none⟩ = some (.slice a.ra rn a.rc) := cell_of_row W2 G 4 _ _ _ hg2
                have y5 : W2.cell? ⟨G, 5, none⟩ = some (.slice a.pa pn a.pc) := cell_of_row W2 G 5 _ _ _ hg2
                have HQ2 := hid2 hq2
                have HRO2 := hid2 (HRO.out W2 (by rw [← HM0.out] at hro2; exact hro2) (by rw [HPN.out]; exact HAT1.out.picks.below_all HBB.out))
                clear hro2 hlo2 hg2 hm2
                go_upto_region 36 with (first
                  | (go_at_call 17; refine HRO2.out.mono ?_; rintro e W3 ⟨A4, c4, rfl, ho, h3⟩; have zz := (h3.block q5 (heap_lt HQ2.out)).trans HQ2.out; have HB3 := hid2 h3; have HO3 := hid2 ho; clear h3 ho e0 e1 e2 e3 e4 y0 y1 y2 y3 y4 y5)
                  | ((with_reducible refine wpList_store_lit q5 0 (.agg #[.slice A4 m0 c4, .int .i64 (-1), .string ⟨#[]⟩, .bool false, .bool false]) [.slice A4 m0 c4, .int .i64 (-1), .string ⟨#[]⟩, .bool false, .bool false] rfl #[.slice A m0 c, .int .i64 left, .string nm, .bool is, .bool br] 33 zz info_j5 (fit_j5 rfl) one_j5 ?_ ?_); exact ⟨rfl, rfl⟩; rw [show laid #[.slice A m0 c, .int .i64 left, .string nm, .bool is, .bool br] 0 [.slice A4 m0 c4, .int .i64 (-1), .string ⟨#[]⟩, .bool false, .bool false] = #[.slice A4 m0 c4, .int .i64 (-1), .string ⟨#[]⟩, .bool false, .bool false] from rfl]; clear zz))
                try simp only [Act.put]
                obtain ⟨W4, hW4⟩ : ∃ W4, W4 = W3.setRow q5 #[.slice A4 m0 c4, .int .i64 (-1), .string ⟨#[]⟩, .bool false, .bool false] := ⟨_, rfl⟩
                rw [← hW4]
                have HJ4 := hid2 (show JR w q5 p2 b2 m0 M4 (-1) (.pointer none) A4 c4 ⟨#[]⟩ false false W4 from by
                  rw [hW4]
                  have hr3 := HO3.out.rd
                  have hr4 : Rd W3 3 A4 M4.length (rfsV M4) := by rw [HL4.out]; exact hr3
                  have := HJ1.out.step (c2 := c4) (nm2 := ⟨#[]⟩) (is2 := false) (br2 := false) (jv2 := .pointer none) HAF.out HD2.out (.inr HPB.out) (.inl ⟨rfl, rfl⟩) HB3.out hr4 (fun q hq => .inr ⟨(HO3.out.block q hq).1, (HO3.out.block q hq).2.1⟩)
                  rw [HL4.out] at this
                  exact this)
                clear hW4 hz12 hq2
                have HSM4 := hid2 (show Calls Tryz.prog 20 #[.slice (some ⟨G + 1, 0, none⟩) 0 0, .slice (some ⟨G + 1 + 1, 0, none⟩) 0 0] W4 fun e w' => e = .returned (.bool true) ∧ Below W4.heap.size W4 w' from same_any W4 _ _ 0 0 0 [] (Rd.none_ _ _ _) (Rd.none_ _ _ _) (by omega))
                obtain ⟨L4, hL4⟩ : ∃ x : Int, x = -1 := ⟨_, rfl⟩
                rw [← hL4] at HJ4 HLE4
                clear hL4
                obtain ⟨jv4, hjv4⟩ : ∃ x, x = Value.pointer none := ⟨_, rfl⟩
                obtain ⟨p4, hp4⟩ : ∃ x, x = p2 := ⟨_, rfl⟩
                obtain ⟨b4, hb4⟩ : ∃ x, x = b2 := ⟨_, rfl⟩
                obtain ⟨n4, hn4⟩ : ∃ x, x = m0 := ⟨_, rfl⟩
                obtain ⟨nm4, hnm4⟩ : ∃ x, x = (⟨#[]⟩ : ByteArray) := ⟨_, rfl⟩
                obtain ⟨is4, his4⟩ : ∃ x, x = false := ⟨_, rfl⟩
                obtain ⟨br4, hbr4⟩ : ∃ x, x = false := ⟨_, rfl⟩
                have HJ4x := hid2 (show JR w q5 p4 b4 n4 M4 L4 jv4 A4 c4 nm4 is4 br4 W4 from by rw [hp4, hb4, hn4, hnm4, his4, hjv4, hbr4]; exact HJ4.out)
                clear HJ4
                have HJ4 := HJ4x
                clear HJ4x
                rw [← hn4] at HN4
                rw [← hnm4] at HNZ4
                rw [← hp4]
                clear hp4 hb4 hn4 hnm4 hbr4
                obtain ⟨m4, hm4⟩ : ∃ m, m = M4.length := ⟨_, rfl⟩
                have hbx4 := HJ4.out.box
                rw [← hm4] at hbx4
                have e0 : W4.cell? ⟨q5, 0, none⟩ = some (.slice A4 m4 c4) := cell_of_row W4 q5 0 _ _ _ hbx4
                have e1 : W4.cell? ⟨q5, 1, none⟩ = some (.int .i64 L4) := cell_of_row W4 q5 1 _ _ _ hbx4
                have e2 : W4.cell? ⟨q5, 2, none⟩ = some (.string nm4) := cell_of_row W4 q5 2 _ _ _ hbx4
                have e3 : W4.cell? ⟨q5, 3, none⟩ = some (.bool is4) := cell_of_row W4 q5 3 _ _ _ hbx4
                have e4 : W4.cell? ⟨q5, 4, none⟩ = some (.bool br4) := cell_of_row W4 q5 4 _ _ _ hbx4
                have HSS := hid2 (fun (V : World) (h : JR w q5 p4 b4 n4 M4 L4 jv4 A4 c4 nm4 is4 br4 V) => show Calls Tryz.prog 21 #[.pointer (some ⟨p4, 0, none⟩), .agg #[.slice A4 m4 c4, .int .i64 L4]] V fun e w' => e = .returned (.bool true) ∧ Below V.heap.size V w' from by
                  have hw4 := HWD4.out
                  have := same08_any V p4 b4 n4 M4 L4 L4 h.disk (by have := HN4.out; omega) A4 c4 h.row (by have := hw4.len; omega) (fun x hx => by have := (hw4.szs x hx).1; omega)
                  rw [← hm4] at this
                  exact this)
                have HM4 := hid2 hm4
                clear hm4 hbx4
                have hi4 := his4
                have hj4 := hjv4
                rw [hi4] at e3
                have HI4 := hid2 hi4
                have HJQ := hid2 hj4
                clear hi4 hj4 his4 hjv4
                go_wp2_with (first
                  | (go_at_call 20; refine (HSM4.out).mono ?_; rintro e W5 ⟨rfl, hb⟩; have HJ5 := hid2 (HJ4.out.later hb); have h5 := (hb.block q5 HJ4.out.box_lt).trans HJ4.out.box; rw [← HM4.out] at h5; clear e0 e1 e2 e3 e4; have e0 : W5.cell? ⟨q5, 0, none⟩ = some (.slice A4 m4 c4) := cell_of_row W5 q5 0 _ _ _ h5; have e1 : W5.cell? ⟨q5, 1, none⟩ = some (.int .i64 L4) := cell_of_row W5 q5 1 _ _ _ h5; have e3 : W5.cell? ⟨q5, 3, none⟩ = some (.bool is4) := cell_of_row W5 q5 3 _ _ _ h5; rw [HI4.out] at e3; clear hb h5)
                  | (go_at_call 21; refine (HSS.out W5 HJ5.out).mono ?_; rintro e W6 ⟨rfl, hb⟩; have HJ6 := hid2 (HJ5.out.later hb); clear hb e0 e1 e3))
                go_roundg (gk - 1)
                case rel => exact ⟨k + 1, p4, b4, n4, M4, L4, _, A4, c4, nm4, is4, br4, by have := HK.out; omega, rfl, rfl, by go_num, by rw [← HJQ.out]; exact HJ6.out, HWD4.out, HN4.out, HLE4.out, HNZ4.out⟩
                case measure => have := HK.out; omega
              · have hKb0 : (K == 0) = false := by rw [beq_eq_false_iff_ne]; exact hK
                have hKb1 : (K == 1) = false := by rw [beq_eq_false_iff_ne]; exact hK1
                have hKb2 : (K == 2) = false := by rw [beq_eq_false_iff_ne]; exact hK2
                have hKb3 : (K == 3) = false := by rw [beq_eq_false_iff_ne]; exact hK3
                have hKb4 : (K == 4) = false := by rw [beq_eq_false_iff_ne]; exact hK4
                have hrises := HJ1.out.rises
                have hfile := (HWD.out.szs.file nm0.data.toList).1
                have hwo := HWD.out.app left (k := nm0.data.toList) (d := rec.data.toList) (by rw [toList_length]; omega)
                obtain ⟨m0, hm0⟩ : ∃ n, n = M.length := ⟨_, rfl⟩
                obtain ⟨M4, hM4⟩ : ∃ x, x = appM M left nm0.data.toList rec.data.toList := ⟨_, rfl⟩
                obtain ⟨L4, hL4⟩ : ∃ x, x = beginL M left false [strB nm0.data.toList] nm0.data.toList := ⟨_, rfl⟩
                obtain ⟨E4, hE4⟩ : ∃ x, x = beginE M left false [strB nm0.data.toList] nm0.data.toList := ⟨_, rfl⟩
                obtain ⟨m4', hm4'⟩ : ∃ n, n = M4.length := ⟨_, rfl⟩
                have hPO := append_any W1 p b n M left HJ1.out.disk nm0 rec (by omega) (by omega) (by omega) (by have := HNK.out; omega) HLE.out
                have hRO := fun (V : World) (h1 : Rd V 3 A M.length (rfsV M)) => append07m_any V A c M left h1 (by have := HWD.out.len; omega) hrises HLE.out nm0 rec (by omega) (by omega)
                unfold RPost at hRO
                rw [← hM4, ← hL4, ← hE4] at hPO hRO
                rw [← hm4', ← hm0] at hRO
                have hle4 : LeftOk L4 := by rw [hL4]; exact HLE.out.begins _ _ _
                rw [← hM4] at hwo
                have HPO := hid2 hPO
                have HRO := hid2 hRO
                have HM0 := hid2 hm0
                have HMM := hid2 hm4'
                have HWD4 := hid2 (hwo.mono (W' := 1400 + 112 * (k + 1)) (by have := toList_length rec; omega) (show 3 * k + 1 ≤ 3 * (k + 1) by omega))
                have HLE4 := hid2 hle4
                have HN4 := hid2 (show n + 1 ≤ 3 * (k + 1) by have := HNK.out; omega)
                have HNZ4 := hid2 HNZ.out
                clear hrises hfile hwo hm0 hM4 hL4 hE4 hm4' hPO hRO hle4
                go_upto_region 17 with (go_at_call 18; refine HPO.out.mono ?_; rintro e W2 ⟨rfl, hd2, hb2⟩; clear y0 y1 y2 y3 y4 y5; have HD2 := hid2 hd2; have HAF := hid2 (show Moved W1 W2 p b jv from .of_but hb2); have HBU := hid2 (show ∀ j, JIs W1 j p nm br → W2.heap[j]? = W1.heap[j]? from fun j hj => (let h := hj.ne HJ1.out.disk; hb2.block j hj.lt h.1 h.2)); clear hd2 hb2)
                have hm2 := HAF.out
                have hg2 : W2.heap[G]? = some (.cells #[.int .i64 K, .int .i64 a.n, .string nm0, .string rec, .slice a.ra rn a.rc, .slice a.pa pn a.pc] 37 (0, 0)) := (hm2.block G HGW.out HGP.out.1 HGP.out.2.1 HGP.out.2.2.2).trans HG1.out
                have hq2 := HJ1.out.box2 hm2
                obtain ⟨hro2, hlo2⟩ := HJ1.out.row2 hm2
                have hz12 := hm2.size
                rw [← HM0.out] at hq2
                have e0 : W2.cell? ⟨q5, 0, none⟩ = some (.slice A m0 c) := cell_of_row W2 q5 0 _ _ _ hq2
                have e1 : W2.cell? ⟨q5, 1, none⟩ = some (.int .i64 left) := cell_of_row W2 q5 1 _ _ _ hq2
                have e2 : W2.cell? ⟨q5, 2, none⟩ = some (.string nm) := cell_of_row W2 q5 2 _ _ _ hq2
                have e3 : W2.cell? ⟨q5, 3, none⟩ = some (.bool is) := cell_of_row W2 q5 3 _ _ _ hq2
                have e4 : W2.cell? ⟨q5, 4, none⟩ = some (.bool br) := cell_of_row W2 q5 4 _ _ _ hq2
                have y0 : W2.cell? ⟨G, 0, none⟩ = some (.int .i64 K) := cell_of_row W2 G 0 _ _ _ hg2
                have y1 : W2.cell? ⟨G, 1, none⟩ = some (.int .i64 a.n) := cell_of_row W2 G 1 _ _ _ hg2
                have y2 : W2.cell? ⟨G, 2, none⟩ = some (.string nm0) := cell_of_row W2 G 2 _ _ _ hg2
                have y3 : W2.cell? ⟨G, 3, none⟩ = some (.string rec) := cell_of_row W2 G 3 _ _ _ hg2
                have y4 : W2.cell? ⟨G, 4, none⟩ = some (.slice a.ra rn a.rc) := cell_of_row W2 G 4 _ _ _ hg2
                have y5 : W2.cell? ⟨G, 5, none⟩ = some (.slice a.pa pn a.pc) := cell_of_row W2 G 5 _ _ _ hg2
                have HQ2 := hid2 hq2
                have HRO2 := hid2 (HRO.out W2 (by rw [← HM0.out] at hro2; exact hro2))
                clear hro2 hlo2 hg2 hm2
                go_upto_region 36 with (first
                  | (go_at_call 19; refine HRO2.out.mono ?_; rintro e W3 ⟨A4, c4, rfl, h1, h3, h4⟩; have zz := (h3.block q5 (heap_lt HQ2.out)).trans HQ2.out; have HB3 := hid2 h3; have HR3 := hid2 h1; have HF3 := hid2 h4; clear h1 h3 h4 e0 e1 e2 e3 e4 y0 y1 y2 y3 y4 y5)
                  | ((with_reducible refine wpList_store_lit q5 0 (.agg #[.slice A4 m4' c4, .int .i64 L4]) [.slice A4 m4' c4, .int .i64 L4] rfl #[.slice A m0 c, .int .i64 left, .string nm, .bool is, .bool br] 33 zz info_d2 (fit_d2 rfl) one_d2 ?_ ?_); exact ⟨rfl, rfl⟩; rw [show laid #[.slice A m0 c, .int .i64 left, .string nm, .bool is, .bool br] 0 [.slice A4 m4' c4, .int .i64 L4] = #[.slice A4 m4' c4, .int .i64 L4, .string nm, .bool is, .bool br] from rfl]; clear zz))
                try simp only [Act.put]
                obtain ⟨W4, hW4⟩ : ∃ W4, W4 = W3.setRow q5 #[.slice A4 m4' c4, .int .i64 L4, .string nm, .bool is, .bool br] := ⟨_, rfl⟩
                rw [← hW4]
                have HJ4 := hid2 (show JR w q5 p b (n + 1) M4 L4 jv A4 c4 nm is br W4 from by
                  rw [hW4, HMM.out]
                  refine HJ1.out.step HAF.out HD2.out (.inl ⟨rfl, rfl⟩) ?_ HB3.out (by rw [← HMM.out]; exact HR3.out) HF3.out
                  rcases HJ1.out.jrn with d | ⟨d, j, d1, d2, d3, d4, _⟩
                  · exact .inl d
                  · exact .inr ⟨d, j, d1, d2.keep (HBU.out j d2), d3, .inr rfl⟩)
                clear hW4 hz12 hq2
                have HSM4 := hid2 (show Calls Tryz.prog 20 #[.slice (some ⟨G + 1, 0, none⟩) 0 0, .slice (some ⟨G + 1 + 1, 0, none⟩) 0 0] W4 fun e w' => e = .returned (.bool true) ∧ Below W4.heap.size W4 w' from same_any W4 _ _ 0 0 0 [] (Rd.none_ _ _ _) (Rd.none_ _ _ _) (by omega))
                obtain ⟨jv4, hjv4⟩ : ∃ x, x = jv := ⟨_, rfl⟩
                obtain ⟨p4, hp4⟩ : ∃ x, x = p := ⟨_, rfl⟩
                obtain ⟨b4, hb4⟩ : ∃ x, x = b := ⟨_, rfl⟩
                obtain ⟨n4, hn4⟩ : ∃ x, x = (n + 1) := ⟨_, rfl⟩
                obtain ⟨nm4, hnm4⟩ : ∃ x, x = nm := ⟨_, rfl⟩
                obtain ⟨is4, his4⟩ : ∃ x, x = is := ⟨_, rfl⟩
                obtain ⟨br4, hbr4⟩ : ∃ x, x = br := ⟨_, rfl⟩
                have HJ4x := hid2 (show JR w q5 p4 b4 n4 M4 L4 jv4 A4 c4 nm4 is4 br4 W4 from by rw [hp4, hb4, hn4, hnm4, his4, hjv4, hbr4]; exact HJ4.out)
                clear HJ4
                have HJ4 := HJ4x
                clear HJ4x
                rw [← hn4] at HN4
                rw [← hnm4] at HNZ4
                rw [← hp4, ← hjv4]
                clear hp4 hb4 hn4 hnm4 his4 hjv4 hbr4
                obtain ⟨m4, hm4⟩ : ∃ m, m = M4.length := ⟨_, rfl⟩
                have hbx4 := HJ4.out.box
                rw [← hm4] at hbx4
                have e0 : W4.cell? ⟨q5, 0, none⟩ = some (.slice A4 m4 c4) := cell_of_row W4 q5 0 _ _ _ hbx4
                have e1 : W4.cell? ⟨q5, 1, none⟩ = some (.int .i64 L4) := cell_of_row W4 q5 1 _ _ _ hbx4
                have e2 : W4.cell? ⟨q5, 2, none⟩ = some (.string nm4) := cell_of_row W4 q5 2 _ _ _ hbx4
                have e3 : W4.cell? ⟨q5, 3, none⟩ = some (.bool is4) := cell_of_row W4 q5 3 _ _ _ hbx4
                have e4 : W4.cell? ⟨q5, 4, none⟩ = some (.bool br4) := cell_of_row W4 q5 4 _ _ _ hbx4
                have HSS := hid2 (fun (V : World) (h : JR w q5 p4 b4 n4 M4 L4 jv4 A4 c4 nm4 is4 br4 V) => show Calls Tryz.prog 21 #[.pointer (some ⟨p4, 0, none⟩), .agg #[.slice A4 m4 c4, .int .i64 L4]] V fun e w' => e = .returned (.bool true) ∧ Below V.heap.size V w' from by
                  have hw4 := HWD4.out
                  have := same08_any V p4 b4 n4 M4 L4 L4 h.disk (by have := HN4.out; omega) A4 c4 h.row (by have := hw4.len; omega) (fun x hx => by have := (hw4.szs x hx).1; omega)
                  rw [← hm4] at this
                  exact this)
                have HM4 := hid2 hm4
                clear hm4 hbx4
                have hjrn := HJ4.out.jrn
                obtain ⟨iz, hiz⟩ : ∃ i, i = is4 := ⟨_, rfl⟩
                rcases hjrn with ⟨hi4, hj4⟩ | ⟨hi4, j4, hj4, _⟩
                all_goals
                  rw [hi4] at e3
                  rw [hj4]
                  have HI4 := hid2 hi4
                  have HJQ := hid2 hj4
                  clear hi4 hj4 hiz
                  go_wp2_with (first
                    | (go_at_call 20; refine (HSM4.out).mono ?_; rintro e W5 ⟨rfl, hb⟩; have HJ5 := hid2 (HJ4.out.later hb); have h5 := (hb.block q5 HJ4.out.box_lt).trans HJ4.out.box; rw [← HM4.out] at h5; clear e0 e1 e2 e3 e4; have e0 : W5.cell? ⟨q5, 0, none⟩ = some (.slice A4 m4 c4) := cell_of_row W5 q5 0 _ _ _ h5; have e1 : W5.cell? ⟨q5, 1, none⟩ = some (.int .i64 L4) := cell_of_row W5 q5 1 _ _ _ h5; have e3 : W5.cell? ⟨q5, 3, none⟩ = some (.bool is4) := cell_of_row W5 q5 3 _ _ _ h5; rw [HI4.out] at e3; clear hb h5)
                    | (go_at_call 21; refine (HSS.out W5 HJ5.out).mono ?_; rintro e W6 ⟨rfl, hb⟩; have HJ6 := hid2 (HJ5.out.later hb); clear hb e0 e1 e3))
                  go_roundg (gk - 1)
                  case rel => exact ⟨k + 1, p4, b4, n4, M4, L4, _, A4, c4, nm4, is4, br4, by have := HK.out; omega, rfl, rfl, by go_num, by rw [← HJQ.out]; exact HJ6.out, HWD4.out, HN4.out, HLE4.out, HNZ4.out⟩
                  case measure => have := HK.out; omega
    · have hil : ¬ (k : Int) < N := by omega
      go_wp2_with (go_at_call 5; refine (jfixed_any _).mono ?_; rintro e w2 ⟨rfl, hb⟩; have HBF := hid2 (HJR.out.below.trans (hb.mono HJR.out.below.size)); clear hb)
      go_ret
      exact ⟨rfl, HBF.out⟩
end Go.Proofs.YtehpapoboeejkaaGreat
/- How a law's statement is closed: what is kept below the call's own floor reads as it did. -/
namespace Go.Proofs.YtehpapoboeejkaaGreat
open Go.ChangeShapes Go.WideShapes Go.ChangeAt Go.RowKit
variable {H : Type} {enc : TypeId × Value → H} {P : Program}
theorem own_knob : ownKnob Tryz.prog.godebug = none := by kernel_rfl
/-- one bool comes back, all else reads as it did -/
theorem post_law {f : Func} {s : ChangeSpec} {apart fresh handsOn : Bool} {W W' : World} {args : Array Value} {v : Value} {ds gs : List (DataW H)} {before pa pv : List MemPlace}
    (hW : DataW.Whole enc P f.params.toList s.vars apart W args.toList ds gs before)
    (hres : ∀ (b : Nat) (sp : Nat → Bool) (hd : Bool), DataW.TrodAll enc P W' b sp hd f.resultTypes.toList (v.resultList f.resultTypes.size) (s.fn H (ds ++ gs)).results [])
    (hargs : ∀ sp : Nat → Bool, (∀ p ∈ before, sp p.block = true) → DataW.TrodAll enc P W' 0 sp true f.params.toList args.toList (s.fn H (ds ++ gs)).args pa)
    (hvars : ∀ sp : Nat → Bool, (∀ p ∈ before, sp p.block = true) → DataW.TrodVars enc P W' sp s.vars (s.fn H (ds ++ gs)).vars pv)
    (hps : before = pa ++ pv) (hk : W.keptBut W' (· ∈ before)) : s.post enc P f apart fresh handsOn false W args v W' := by
  have hold : ∀ p ∈ before, (fun b => decide (b < W.heap.size)) p.block = true := fun p hp => by simpa using hW.lt p hp
  refine ⟨ds, gs, before, [], pa, pv, hW, hres _ _ _, hargs _ hold, hvars _ hold, World.keptBut_mono (fun p hp => ⟨hp, ?_⟩) hk, fun h => nomatch h⟩
  rw [hps, List.mem_append] at hp
  exact Or.inr hp
/-- arguments read as they did -/
theorem args_stay (hl : laidOutB P = true) {W W' : World} (hb : Below W.heap.size W W') : ∀ (ts : List TypeId) (vs : List Value) (ds : List (DataW H)) (p : List MemPlace), (∀ t ∈ ts, P.readableRec t = true ∧ t < P.types.size) →
    DataW.TrodAll enc P W 0 (fun _ => true) true ts vs ds p → (∀ x ∈ p, x.block < W.heap.size) → DataW.TrodAll enc P W' 0 (fun b => decide (b < W.heap.size)) true ts vs ds p
  | [], [], [], _, _, h, _ => h
  | t :: ts, v :: vs, d :: ds, _, ht, ⟨p, q, h1, h2, rfl⟩, hlt =>
    ⟨p, q, Below.trod hl (ht t (by simp)).1 (ht t (by simp)).2 h1 hb (fun x hx => hlt x (by simp [hx])), args_stay hl hb ts vs ds q (fun t' h' => ht t' (by simp [h'])) h2 (fun x hx => hlt x (by simp [hx])), rfl⟩
  | [], [], _ :: _, _, _, h, _ => h.elim
  | [], _ :: _, _, _, _, h, _ => h.elim
  | _ :: _, [], _, _, _, h, _ => h.elim
  | _ :: _, _ :: _, [], _, _, h, _ => h.elim
/-- a law's end: true came back, and nothing below the call's own floor was touched -/
theorem law_close {f : Func} {s : ChangeSpec} {W W' : World} {args : Array Value} {ds gs : List (DataW H)} {before : List MemPlace} {tb : TypeId}
    (hl : laidOutB P = true) (hts : (f.params.toList.all fun t => P.readableRec t && decide (t < P.types.size)) = true) (hrt : f.resultTypes = #[tb]) (hbool : P.underlying tb = some .bool) (hvs : s.vars = [])
    (hW : DataW.Whole enc P f.params.toList s.vars false W args.toList ds gs before)
    (hfn : s.fn H (ds ++ gs) = { results := [.lit (.bool true)], args := ds }) (hb : Below W.heap.size W W') : s.post enc P f false true false false W args (.bool true) W' := by
  have hlt := hW.lt
  have hW0 := hW
  obtain ⟨p, q, hA, hV, rfl, hfz, hnd⟩ := hW
  rw [hvs] at hV
  obtain ⟨rfl, rfl⟩ := trodVars_none hV
  rw [List.append_nil] at hlt hW0
  refine ⟨ds, [], p, [], p, [], hW0, ?_, ?_, ?_, World.keptBut_mono (fun x hx => ⟨hx, Or.inr (Or.inl hx)⟩) (hb.frame _), fun h => nomatch h⟩
  · rw [hfn, hrt]
    exact trodAll_cons_mk (shut_bool hbool _) trodAll_mk0
  · rw [hfn]
    exact args_stay hl hb _ _ _ _ (fun t ht => by have := List.all_eq_true.1 hts t ht; simpa using this) hA hlt
  · rw [hfn, hvs]
    exact rfl
end Go.Proofs.YtehpapoboeejkaaGreat
/- Rows of a journal's acts as arguments: opened. -/
namespace Go.Proofs.YtehpapoboeejkaaGreat
open Go.ChangeShapes Go.WideShapes Go.ChangeAt Go.RowKit Go.Maps
set_option maxRecDepth 100000
variable {H : Type} {enc : TypeId × Value → H}
theorem open_picks0 {W : World} {sp : Nat → Bool} {m : Nat} {v : Value} {x : DataW H × List MemPlace} (hf : DataW.trod enc Tryz.prog W 0 sp true m 35 [v] = some x) :
    ∃ (A : Option Addr) (c : Nat) (ps : List Int), v = .slice A ps.length c ∧ Rd W 1 A ps.length (intV ps) ∧ ps.length ≤ c ∧ (ps.length = 0 ∨ ∃ pe psp, x.1 = .slice pe psp ∧ pe.length = ps.length) := by
  rcases open_ints Tryz.underlying35 Tryz.underlying3 (by kernel_rfl) hf with ⟨h1, _⟩ | ⟨a, len, cap, r, h1, h2, hlc, h3, hl, h4, hcell, h5⟩
  · exact ⟨none, 0, [], by simpa using h1, Rd.none_ _ _ _, Nat.le_refl _, .inl rfl⟩
  · have hl' : len ≤ r.length := by rw [hl]; split <;> omega
    have ht : (r.take len).length = len := by rw [List.length_take]; omega
    refine ⟨some a, cap, r.take len, by rw [ht]; simpa using h1, ⟨by simp [intV], fun h0 => ?_⟩, by omega, ?_⟩
    rotate_left
    · exact .inr ⟨_, _, congrArg Prod.fst h4, by simp [lits]⟩
    rw [ht] at h0
    obtain ⟨b, o, sp⟩ := a
    have h30 := hcell 0 (by omega)
    cases sp with
    | some x =>
      exfalso
      unfold World.cell? at h30
      split at h30
      · simp [Addr.add] at h30
      · cases h30
    | none =>
      refine ⟨b, o, rfl, fun j u hu => ?_⟩
      have hj : j < len := by
        rcases Nat.lt_or_ge j len with h | h
        · exact h
        · rw [List.getElem?_eq_none (by rw [intV, List.length_map]; omega)] at hu; cases hu
      have h := hcell j (by omega)
      rw [addr_add] at h
      rw [h, ← hu]
      rw [intV, List.getElem?_map, List.getElem?_take, if_pos hj, List.getD_eq_getElem?_getD, List.getElem?_eq_getElem (show j < r.length by omega)]
      rfl
theorem open_recs0 {W : World} {sp : Nat → Bool} {n : Nat} {v : Value} {x : DataW H × List MemPlace} (hf : DataW.trod enc Tryz.prog W 0 sp true n 34 [v] = some x) :
    ∃ (A : Option Addr) (c : Nat) (ps : List ByteArray), v = .slice A ps.length c ∧ Rd W 1 A ps.length (ps.map Value.string) ∧ (ps.length = 0 ∨ ∃ pe psp, x.1 = .slice pe psp ∧ pe.length = ps.length) := by
  have h1 : Tryz.prog.cellsOf 9 = 1 := by kernel_rfl
  rcases Go.Deep.open_slice1 Tryz.underlying34 h1 hf with ⟨h1, _⟩ | ⟨a, len, cap, m, n', V, D, Pl, h1, _, hlc, hcm, hm, hx, hel⟩
  · exact ⟨none, 0, [], by simpa using h1, Rd.none_ _ _ _, .inl rfl⟩
  · have hml : len ≤ m := by rw [hm]; split <;> omega
    have hch : ∀ i, i < len → ∃ s : ByteArray, W.cell? (a.add i) = some (.string s) := fun i hi => by
      obtain ⟨h2, h3⟩ := hel i (by omega)
      obtain ⟨s, e, _, _⟩ := DataW.trod_string Tryz.underlying9 h3
      exact ⟨s, by rw [h2, (List.cons.inj e).1]⟩
    obtain ⟨S, hS⟩ := Go.Deep.choose_lt (α := ByteArray) (p := fun i s => W.cell? (a.add i) = some (.string s)) hch
    have hll : ((List.range len).map S).length = len := by simp
    refine ⟨some a, cap, (List.range len).map S, by rw [hll]; simpa using h1, ⟨by simp, fun h0 => ?_⟩, .inr ⟨_, _, congrArg Prod.fst hx, by simp⟩⟩
    rw [hll] at h0
    obtain ⟨b, o, sp⟩ := a
    have hc0 := hS 0 (by omega)
    cases sp with
    | some x =>
      exfalso
      rw [Addr.add] at hc0
      unfold World.cell? at hc0
      split at hc0
      · simp at hc0
      · simp at hc0
    | none =>
      refine ⟨b, o, rfl, fun j u hu => ?_⟩
      have hj : j < len := by
        have := (List.getElem?_eq_some_iff.1 hu).1
        simpa using this
      have h2 := hS j hj
      rw [addr_add] at h2
      rw [h2, ← hu, List.getElem?_map, List.getElem?_map, List.getElem?_range hj]
      rfl
/-- what an act's datum says of its sizes -/
def ActDJ (a : ActJ) (d : DataW H) : Prop := ∃ x0 x1 x2 x3 xr xp, d = .agg [x0, x1, x2, x3, xr, xp] ∧ (a.recs.length = 0 ∨ ∃ pe psp, xr = .slice pe psp ∧ pe.length = a.recs.length)
/-- an act as it lies -/
def ActPJ (W : World) (a : ActJ) : Prop := Rd W 1 a.ra a.recs.length (a.recs.map Value.string) ∧ Rd W 1 a.pa a.picks.length (intV a.picks) ∧ a.picks.length ≤ a.pc ∧ (-9223372036854775808 ≤ a.n ∧ a.n ≤ 9223372036854775807)
theorem open_actj {W : World} {sp : Nat → Bool} {n : Nat} {cs : List Value} {x : DataW H × List MemPlace} (h : DataW.trod enc Tryz.prog W 0 sp true n 37 cs = some x) : ∃ a : ActJ, cs = ajV a ∧ ActDJ a x.1 ∧ ActPJ W a := by
  obtain ⟨xs, m, rfl, rfl, hlen, hxl, hf⟩ := DataW.trod_struct Tryz.underlying37 h
  have h6 : Tryz.prog.cellsOf 37 = 6 := by kernel_rfl
  have hci : Tryz.prog.cellsOf 3 = 1 := by kernel_rfl
  have hcs : Tryz.prog.cellsOf 9 = 1 := by kernel_rfl
  have hcl : Tryz.prog.cellsOf 35 = 1 := by kernel_rfl
  have hcr : Tryz.prog.cellsOf 34 = 1 := by kernel_rfl
  rw [h6] at hlen
  match cs, hlen, xs, hxl with
  | [v0, v1, v2, v3, v4, v5], _, [x0, x1, x2, x3, x4, x5], _ =>
    have h0 : DataW.trod enc Tryz.prog W 0 sp true m 3 ((List.drop 0 [v0, v1, v2, v3, v4, v5]).take (Tryz.prog.cellsOf 3)) = some x0 := hf 0 _ rfl
    have h1 : DataW.trod enc Tryz.prog W 0 sp true m 3 ((List.drop 1 [v0, v1, v2, v3, v4, v5]).take (Tryz.prog.cellsOf 3)) = some x1 := hf 1 _ rfl
    have h2 : DataW.trod enc Tryz.prog W 0 sp true m 9 ((List.drop 2 [v0, v1, v2, v3, v4, v5]).take (Tryz.prog.cellsOf 9)) = some x2 := hf 2 _ rfl
    have h3 : DataW.trod enc Tryz.prog W 0 sp true m 9 ((List.drop 3 [v0, v1, v2, v3, v4, v5]).take (Tryz.prog.cellsOf 9)) = some x3 := hf 3 _ rfl
    have h4 : DataW.trod enc Tryz.prog W 0 sp true m 34 ((List.drop 4 [v0, v1, v2, v3, v4, v5]).take (Tryz.prog.cellsOf 34)) = some x4 := hf 4 _ rfl
    have h5 : DataW.trod enc Tryz.prog W 0 sp true m 35 ((List.drop 5 [v0, v1, v2, v3, v4, v5]).take (Tryz.prog.cellsOf 35)) = some x5 := hf 5 _ rfl
    rw [hci] at h0 h1
    rw [hcs] at h2 h3
    rw [hcr] at h4
    rw [hcl] at h5
    obtain ⟨n0, e0, r0, _⟩ := DataW.trod_int Tryz.underlying3 (show DataW.trod enc Tryz.prog W 0 sp true m 3 [v0] = some x0 from h0)
    obtain ⟨n1, e1, r1, wf1⟩ := DataW.trod_int Tryz.underlying3 (show DataW.trod enc Tryz.prog W 0 sp true m 3 [v1] = some x1 from h1)
    obtain ⟨s2, e2, r2, _⟩ := DataW.trod_string Tryz.underlying9 (show DataW.trod enc Tryz.prog W 0 sp true m 9 [v2] = some x2 from h2)
    obtain ⟨s3, e3, r3, _⟩ := DataW.trod_string Tryz.underlying9 (show DataW.trod enc Tryz.prog W 0 sp true m 9 [v3] = some x3 from h3)
    obtain ⟨rfl⟩ := e0
    obtain ⟨rfl⟩ := e1
    obtain ⟨rfl⟩ := e2
    obtain ⟨rfl⟩ := e3
    subst r0 r1 r2 r3
    have hn1 : -9223372036854775808 ≤ n1 ∧ n1 ≤ 9223372036854775807 := by simpa [Lit.wf, IntKind.min, IntKind.max, IntKind.signed, IntKind.bits] using wf1
    obtain ⟨ra, rc, rs, rfl, hrd4, hx4⟩ := open_recs0 (show DataW.trod enc Tryz.prog W 0 sp true m 34 [v4] = some x4 from h4)
    obtain ⟨a, c, ps, rfl, hrd, hpc, hx5⟩ := open_picks0 (show DataW.trod enc Tryz.prog W 0 sp true m 35 [v5] = some x5 from h5)
    exact ⟨⟨n0, n1, s2, s3, ra, rc, rs, a, c, ps⟩, rfl, ⟨_, _, _, _, _, _, rfl, hx4⟩, hrd4, hrd, hpc, hn1⟩
instance : Inhabited ActJ := ⟨⟨0, 0, ⟨#[]⟩, ⟨#[]⟩, none, 0, [], none, 0, []⟩⟩
theorem ajsV_at : ∀ (l : List ActJ) (j : Nat) (u : Value), (ajsV l)[j]? = some u → ∃ i a r, l[i]? = some a ∧ (ajV a)[r]? = some u ∧ j = i * 6 + r
  | [], j, u, h => by simp [ajsV] at h
  | x :: r, j, u, h => by
    rw [ajsV, List.flatMap_cons] at h
    rcases Nat.lt_or_ge j 6 with hj | hj
    · rw [List.getElem?_append_left (by simp [ajV]; omega)] at h
      exact ⟨0, x, j, rfl, h, by omega⟩
    · rw [List.getElem?_append_right (by simp [ajV]; omega)] at h
      obtain ⟨i, a, q, h1, h2, h3⟩ := ajsV_at r _ u h
      refine ⟨i + 1, a, q, by simpa using h1, h2, ?_⟩
      have : (ajV x).length = 6 := by simp [ajV]
      omega
theorem open_actsj {W : World} {b0 : Nat} {v : Value} {d : DataW H} {p : List MemPlace} (h : DataW.Trod enc Tryz.prog W 0 (fun _ => true) true 22 v d p) (hval : Value.okWide Tryz.prog W .any b0 22 v) :
    ∃ (A : Option Addr) (c : Nat) (l : List ActJ), v = .slice A l.length c ∧ Rd W 6 A l.length (ajsV l) ∧ (l = [] ∨ ∃ el sp, d = .slice el sp ∧ el.length = l.length ∧ ∀ (i : Nat) (a : ActJ), l[i]? = some a → ∃ x, el[i]? = some x ∧ ActDJ a x) ∧ ∀ a ∈ l, ActPJ W a := by
  obtain ⟨fuel, hf⟩ := h
  have hv : v.cells.toList = [v] := by
    rcases okWide_slice Tryz.underlying22 hval with ⟨A, n, c, rfl⟩
    rfl
  have h6 : Tryz.prog.cellsOf 37 = 6 := by kernel_rfl
  rw [hv] at hf
  rcases Go.Deep.open_slice Tryz.underlying22 hf with ⟨h1, _⟩ | ⟨a, len, cap, m, n, D, Pl, h1, _, hlc, hcm, hm, hx, hel⟩
  · exact ⟨none, 0, [], by simpa using h1, Rd.none_ _ _ _, .inl rfl, fun a ha => absurd ha List.not_mem_nil⟩
  · have hml : len ≤ m := by rw [hm]; split <;> omega
    have hch : ∀ i, i < len → ∃ e : ActJ, W.cells? 0 (a.add (i * 6)) 6 = some (ajV e) ∧ ActDJ e (D i) ∧ ActPJ W e := fun i hi => by
      obtain ⟨cs, hc, ht⟩ := hel i (by omega)
      obtain ⟨e, rfl, he⟩ := open_actj ht
      rw [h6] at hc
      exact ⟨e, hc, he⟩
    obtain ⟨V, hV⟩ := Go.Deep.choose_lt (α := ActJ) (p := fun i e => W.cells? 0 (a.add (i * 6)) 6 = some (ajV e) ∧ ActDJ e (D i) ∧ ActPJ W e) hch
    have hll : ((List.range len).map V).length = len := by simp
    have hget : ∀ i e, ((List.range len).map V)[i]? = some e → i < len ∧ e = V i := fun i e h => by
      rw [List.getElem?_map] at h
      obtain ⟨q, hq, rfl⟩ := Option.map_eq_some_iff.1 h
      obtain ⟨hi, hqi⟩ := List.getElem?_eq_some_iff.1 hq
      rw [List.getElem_range] at hqi
      subst hqi
      exact ⟨by simpa using hi, rfl⟩
    refine ⟨some a, cap, (List.range len).map V, by rw [hll]; simpa using h1, ?_, .inr ⟨_, _, congrArg Prod.fst hx, by simp, fun i e he => ?_⟩, fun e he => ?_⟩
    · refine ⟨by rw [ajsV_length], fun h0 => ?_⟩
      obtain ⟨b, o, sp⟩ := a
      have hc0 := (World.cells?_some (hV 0 (by omega)).1).2.2 0 (by omega)
      cases sp with
      | some x =>
        exfalso
        rw [Addr.add, Addr.add] at hc0
        unfold World.cell? at hc0
        split at hc0
        · simp [ajV] at hc0
        · simp [ajV] at hc0
      | none =>
        refine ⟨b, o, rfl, fun j u hu => ?_⟩
        obtain ⟨i, e, r, h1, h2, rfl⟩ := ajsV_at _ j u hu
        obtain ⟨hi, rfl⟩ := hget i e h1
        have hr6 : r < 6 := by
          have := (List.getElem?_eq_some_iff.1 h2).1
          simpa [ajV] using this
        have := (World.cells?_some (hV i hi).1).2.2 r hr6
        rw [h2, addr_add, addr_add] at this
        rw [← this, Nat.add_assoc]
    · obtain ⟨hi, rfl⟩ := hget i e he
      exact ⟨D i, by rw [List.getElem?_map, List.getElem?_range hi]; rfl, (hV i hi).2.1⟩
    · obtain ⟨i, hi⟩ := List.getElem?_of_mem he
      obtain ⟨hi2, rfl⟩ := hget i e hi
      exact (hV i hi2).2.2
theorem weightsAll_mem2 {P : Program} {e : TypeId} : ∀ {l : List (DataW H)} {d : DataW H}, d ∈ l → ∀ n ∈ d.weights P e, n ∈ DataW.weightsAll P e l
  | d' :: r, d, hd, n, hn => by
    simp only [DataW.weightsAll, List.mem_append]
    rcases List.mem_cons.1 hd with rfl | h
    · exact Or.inl hn
    · exact Or.inr (weightsAll_mem2 h n hn)
theorem ajs_sized {ts : List TypeId} {ds : List (DataW H)} (h : (DataW.weightsEach Tryz.prog ts ds).all (· ≤ reachBytes) = true) {j : Nat} (ht : ts[j]? = some 22) {d : DataW H} (hd : ds[j]? = some d) {l : List ActJ}
    (hl : l = [] ∨ ∃ el sp, d = .slice el sp ∧ el.length = l.length ∧ ∀ (i : Nat) (a : ActJ), l[i]? = some a → ∃ x, el[i]? = some x ∧ ActDJ a x) : l.length ≤ 8796093022208 ∧ ∀ a ∈ l, a.recs.length ≤ 8796093022208 := by
  rcases hl with rfl | ⟨el, sp, rfl, hlen, hx⟩
  · exact ⟨by decide, fun a ha => by cases ha⟩
  have h47 := reachBytes_lt
  have hle := fun n hn => of_decide_eq_true (List.all_eq_true.1 h n (DataW.weights_mem_each ht hd n hn))
  constructor
  · have h16 : Tryz.prog.bytesOf 37 = 96 := by kernel_rfl
    have := sized_slice (P := Tryz.prog) h ht hd Tryz.underlying22
    rw [h16] at this
    omega
  · intro a ha
    obtain ⟨i, hi⟩ := List.getElem?_of_mem ha
    obtain ⟨x, hxe, x0, x1, x2, x3, xr, xp, rfl, hp⟩ := hx i a hi
    rcases hp with h0 | ⟨pe, psp, rfl, hpe⟩
    · omega
    have hall : ∀ n ∈ DataW.weights Tryz.prog 37 (.agg [x0, x1, x2, x3, .slice pe psp, xp]), n ≤ reachBytes := fun n hn => by
      refine hle n ?_
      rw [DataW.weights, show Tryz.prog.underlying 22 = _ from Tryz.underlying22]
      simp only [List.mem_cons, List.mem_append]
      exact .inr (.inl (weightsAll_mem2 (List.mem_of_getElem? hxe) n hn))
    rw [DataW.weights, show Tryz.prog.underlying 37 = _ from Tryz.underlying37] at hall
    have hb : Tryz.prog.bytesOf 9 = 16 := by kernel_rfl
    have hm : (pe.length + psp.length) * 16 ∈ DataW.weights Tryz.prog 34 (.slice pe psp) := by
      rw [DataW.weights, show Tryz.prog.underlying 34 = _ from Tryz.underlying34]
      simp only [List.mem_cons, hb, true_or]
    have := hall _ (DataW.weights_mem_each (j := 4) rfl rfl _ hm)
    omega
end Go.Proofs.YtehpapoboeejkaaGreat
