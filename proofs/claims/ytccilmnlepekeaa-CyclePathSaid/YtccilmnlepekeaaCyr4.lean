/- The walk of the reference's Reach. -/
import Derived.Test.YtccilmnlepekeaaCyr3
namespace Go.Proofs.Ytccilmnlepekeaa
open Go.RowKit
def ReachPost (w : World) (G : List (List Int)) (fr : List Int) (e : Ending) (w' : World) : Prop :=
  ∃ (T : List Bool) (A' : Option Addr) (c' : Nat), RT G (fun k => (k : Int) ∈ fr) T ∧ e = .returned (.slice A' G.length c') ∧ Rd w' 1 A' G.length (boolV T) ∧ Below w.heap.size w w'
/-- the table in its block -/
def RcS (w : World) (gT : Nat) (out : List Bool) (wr : World) : Prop := wr.heap[gT]? = some (.cells (boolV out).toArray 4 (0, 0)) ∧ Below w.heap.size w wr
theorem boolV_put (th : List Bool) (i : Nat) (v : Bool) : (boolV th).set i (.bool v) = boolV (th.set i v) := by simp [boolV, List.map_set]
theorem RcS.cell {w : World} {gT : Nat} {out : List Bool} {wr : World} (h : RcS w gT out wr) {k : Nat} {x : Bool} (hx : out[k]? = some x) : wr.cell? ⟨gT, k, none⟩ = some (.bool x) ∧ wr.frozen? ⟨gT, k, none⟩ = false :=
  ⟨by rw [cell_of_row wr gT k _ _ _ h.1]; simpa using boolV_get hx, frozen_of_row wr gT k _ _ h.1⟩
theorem RcS.set {w : World} {gT : Nat} {out : List Bool} {wr : World} (h : RcS w gT out wr) (hg : w.heap.size ≤ gT) (k : Nat) (v : Bool) : RcS w gT (out.set k v) (wr.setCell ⟨gT, k, none⟩ (.bool v)) :=
  ⟨by rw [row_setCell1 h.1, boolV_put], h.2.setCell hg _⟩
theorem RcS.rd {w : World} {gT N : Nat} {out : List Bool} {wr : World} (h : RcS w gT out wr) (hl : out.length = N) : Rd wr 1 (some ⟨gT, 0, none⟩) N (boolV out) := Box.rd ⟨_, h.1⟩ (by rw [boolV, List.length_map, hl])
set_option maxRecDepth 100000 in
set_option maxHeartbeats 4000000 in
theorem refreach_any (w : World) (A : Option Addr) (c : Nat) (G : List (List Int)) (hg : GRd w A G) (hs : Small G) (AF : Option Addr) (cF : Nat) (fr : List Int) (hfr : Rd w 1 AF fr.length (intV fr)) (hfl : fr.length ≤ 50) :
    Calls Try.prog 18 #[.slice A G.length c, .slice AF fr.length cF] w fun e w' => ReachPost w G fr e w' := by
  have hn := hs.n
  have cO := fun (W : World) (hW : Below w.heap.size w W) (i k : Nat) (hi : i < G.length) (hk : k < G.length) => on_any W A c G (hg.below hW) hs i k hi hk
  have hmb := made_bool w G.length (by omega)
  unfold ReachPost
  have hs0 := Sts.start G fr
  have hss := fun (q i : Nat) (out : List Bool) (h : Sts G fr q out) (hq : fr[q]? = some (i : Int)) (hi : i < G.length) => h.set hq hi
  have hsk := fun (q : Nat) (x : Int) (out : List Bool) (h : Sts G fr q out) (hq : fr[q]? = some x) (hi : x < 0 ∨ (G.length : Int) ≤ x) => h.skip hq hi
  have hsr := fun (out : List Bool) (h : Sts G fr fr.length out) => h.rds
  have hsl := fun (q : Nat) (out : List Bool) (h : Sts G fr q out) => h.len
  have hr0 := fun (O : List Bool) (h : O.length = G.length) => Rnd.start h
  have hrr := fun (O out : List Bool) (i : Nat) (h : Rnd G O out i G.length) => h.row
  have hrn := fun (O out : List Bool) (i k : Nat) (h : Rnd G O out i k) (hi : i < G.length) (hk : k < G.length) (x y : Bool) (hx : out[k]? = some x) (hy : out[i]? = some y) => h.next hi hk x y hx hy
  have hrl := fun (O out : List Bool) (i k : Nat) (h : Rnd G O out i k) => h.len
  have hdn := fun (O out : List Bool) (r : Nat) (h : Rds G (fun k => (k : Int) ∈ fr) O r) (hr : Rnd G O out G.length 0) => h.next hr
  have hdd := fun (out : List Bool) (h : Rds G (fun k => (k : Int) ∈ fr) out G.length) => h.done
  have hdl := fun (out : List Bool) (r : Nat) (h : Rds G (fun k => (k : Int) ∈ fr) out r) => h.len
  obtain ⟨N, hN⟩ : ∃ N, N = G.length := ⟨_, rfl⟩
  obtain ⟨L, hL⟩ : ∃ L, L = fr.length := ⟨_, rfl⟩
  obtain ⟨RD, hRD⟩ : ∃ RD, RD = Rds G (fun k => (k : Int) ∈ fr) := ⟨_, rfl⟩
  obtain ⟨RN, hRN⟩ : ∃ RN, RN = Rnd G := ⟨_, rfl⟩
  obtain ⟨ST, hST⟩ : ∃ ST, ST = Sts G fr := ⟨_, rfl⟩
  rw [← hRD] at hdn hdd hdl hsr
  rw [← hRN] at hr0 hrr hrn hrl hdn
  rw [← hST] at hs0 hss hsk hsr hsl
  rw [← hL] at hfr hfl hsr ⊢
  rw [← hN] at hn cO hmb hs0 hss hsk hsl hr0 hrr hrn hrl hdn hdd hdl ⊢
  obtain ⟨gT, hgT⟩ : ∃ g, g = w.heap.size := ⟨_, rfl⟩
  obtain ⟨W1, hW1⟩ : ∃ W1, W1 = w.alloc (.cells (boolV (List.replicate N false)).toArray 4) := ⟨_, rfl⟩
  have hr1 : RcS w gT (List.replicate N false) W1 := by
    rw [hW1, hgT]
    exact ⟨heap_alloc_new w _, (Below.refl _ w).alloc (Nat.le_refl _) _⟩
  have hge : w.heap.size ≤ gT := by omega
  rw [← hgT] at hmb
  have HCO := hid2 cO
  have HMB := hid2 hmb
  have HS0 := hid2 hs0
  have HSS := hid2 hss
  have HSK := hid2 hsk
  have HSR := hid2 hsr
  have HSL := hid2 hsl
  have HR0 := hid2 hr0
  have HRR := hid2 hrr
  have HRN := hid2 hrn
  have HRL := hid2 hrl
  have HDN := hid2 hdn
  have HDD := hid2 hdd
  have HDL := hid2 hdl
  have HFR := hid2 hfr
  have HL := hid2 hL
  have HW1 := hid2 hW1
  have HR1 := hid2 hr1
  have HGE := hid2 hge
  clear hg hs cO hmb hs0 hss hsk hsr hsl hr0 hrr hrn hrl hdn hdd hdl hfr hL hN hRD hRN hST hgT hW1 hr1 hge
  go_enter Try.func18, Try.ntmps18
  go_wp2_with (first
    | ((with_reducible refine wpList_made HMB.out ?_ ?_); exact ⟨rfl, rfl⟩; rw [← HW1.out]))
  go_loopg [7, 15] L (fun gk x7 qv wr => ∃ (q : Nat) (out : List Bool), q + gk = L ∧ qv = .int .i64 q ∧ ST q out ∧ RcS w gT out wr)
  case atStart => exact ⟨0, _, by omega, rfl, HS0.out, HR1.out⟩
  case round =>
    obtain ⟨q, out, hq, rfl, hst, hrc⟩ := hrel
    have HST := hid2 hst
    have HRC := hid2 hrc
    clear hst hrc
    by_cases hqL : q < L
    · have hqL' : (q : Int) < L := by omega
      have hq0 : (0 : Int) ≤ q := by omega
      obtain ⟨x, hx⟩ : ∃ x, fr[q]? = some x := ⟨_, List.getElem?_eq_getElem (by rw [← HL.out]; exact hqL)⟩
      obtain ⟨b, o, rfl, cx⟩ := int_cell (HFR.out.below_all HRC.out.2) hx
      have HX := hid2 hx
      clear hx hqL
      by_cases hx0 : 0 ≤ x
      · by_cases hxN : x < N
        · obtain ⟨i, rfl⟩ : ∃ i : Nat, x = i := ⟨x.toNat, by omega⟩
          have hiN : i < N := by omega
          have hst := HSS.out q i out HST.out HX.out hiN
          obtain ⟨y, hy⟩ : ∃ y, out[i]? = some y := ⟨_, List.getElem?_eq_getElem (by rw [HSL.out q out HST.out]; exact hiN)⟩
          obtain ⟨cy, fy⟩ := HRC.out.cell hy
          have HST2 := hid2 hst
          have HRC2 := hid2 (HRC.out.set HGE.out i true)
          clear hst hy hiN
          go_wp2_with fail
          go_roundg (gk - 1)
          case rel => exact ⟨q + 1, _, by omega, by go_num, HST2.out, HRC2.out⟩
          case measure => omega
        · have HST2 := hid2 (HSK.out q x out HST.out HX.out (by omega))
          go_wp2_with fail
          go_roundg (gk - 1)
          case rel => exact ⟨q + 1, _, by omega, by go_num, HST2.out, HRC.out⟩
          case measure => omega
      · have HST2 := hid2 (HSK.out q x out HST.out HX.out (by omega))
        go_wp2_with fail
        go_roundg (gk - 1)
        case rel => exact ⟨q + 1, _, by omega, by go_num, HST2.out, HRC.out⟩
        case measure => omega
    · have hqL2 : q = L := by omega
      have hqL' : ¬ (q : Int) < L := by omega
      have HRD := hid2 (HSR.out out (by rw [← hqL2]; exact HST.out))
      clear hqL hqL2 HST
      go_wp2_with fail
      go_loopg [8, 9, 33] N (fun gk x8 x9 rv wr => ∃ (r : Nat) (out : List Bool), r + gk = N ∧ rv = .int .i64 r ∧ RD out r ∧ RcS w gT out wr)
      case atStart => exact ⟨0, _, by omega, rfl, HRD.out, HRC.out⟩
      case round =>
        clear HRD HRC
        clear out
        obtain ⟨r, O, hr, rfl, hrd, hrc⟩ := hrel
        have HRD := hid2 hrd
        have HRC := hid2 hrc
        clear hrd hrc
        by_cases hrN : r < N
        · have hrN' : (r : Int) < N := by omega
          have HRN0 := hid2 (HR0.out O (HDL.out O r HRD.out))
          obtain ⟨g0, hg0⟩ : ∃ g0, g0 = gk := ⟨_, rfl⟩
          clear hrN
          go_wp2_with fail
          go_loopg [8, 9, 37] N (fun gk x8 x9 iv wr => ∃ (i : Nat) (out : List Bool), i + gk = N ∧ iv = .int .i64 i ∧ RN O out i 0 ∧ RcS w gT out wr)
          case atStart => exact ⟨0, _, by omega, rfl, HRN0.out, HRC.out⟩
          case round =>
            clear HRC HRN0
            obtain ⟨i, out, hi, rfl, hrn, hrc⟩ := hrel
            have HRNI := hid2 hrn
            have HRC := hid2 hrc
            clear hrn hrc
            by_cases hiN : i < N
            · have hiN' : (i : Int) < N := by omega
              have hi0 : (0 : Int) ≤ i := by omega
              have HIN := hid2 hiN
              obtain ⟨g1, hg1⟩ : ∃ g1, g1 = gk := ⟨_, rfl⟩
              clear hiN
              go_wp2_with fail
              go_loopg [9, 42] N (fun gk x9 kv wr => ∃ (k : Nat) (out : List Bool), k + gk = N ∧ kv = .int .i64 k ∧ RN O out i k ∧ RcS w gT out wr)
              case atStart => exact ⟨0, _, by omega, rfl, HRNI.out, HRC.out⟩
              case round =>
                clear HRC HRNI
                clear out
                obtain ⟨k, out, hk, rfl, hrn, hrc⟩ := hrel
                have HRNI := hid2 hrn
                have HRC := hid2 hrc
                clear hrn hrc
                by_cases hkN : k < N
                · have hkN' : (k : Int) < N := by omega
                  have hk0 : (0 : Int) ≤ k := by omega
                  have hol := HRL.out O out i k HRNI.out
                  obtain ⟨x, hx⟩ : ∃ x, out[k]? = some x := ⟨_, List.getElem?_eq_getElem (by rw [hol]; exact hkN)⟩
                  obtain ⟨y, hy⟩ : ∃ y, out[i]? = some y := ⟨_, List.getElem?_eq_getElem (by rw [hol]; exact HIN.out)⟩
                  obtain ⟨cx, fx⟩ := HRC.out.cell hx
                  obtain ⟨cy, fy⟩ := HRC.out.cell hy
                  have hC := HCO.out wr HRC.out.2 i k HIN.out hkN
                  have hnx := HRN.out O out i k HRNI.out HIN.out hkN x y hx hy
                  obtain ⟨av, hav⟩ : ∃ av, av = adj G i k := ⟨_, rfl⟩
                  rw [← hav] at hC hnx
                  have HC := hid2 hC
                  have HNX := hid2 hnx
                  have HSET := hid2 (fun v => HRC.out.set HGE.out k v)
                  clear hol hx hy hC hnx hav hkN
                  cases x with
                  | true =>
                    go_wp2_with fail
                    go_roundg (gk - 1)
                    case rel => exact ⟨k + 1, _, by omega, by go_num, HNX.out, HSET.out _⟩
                    case measure => omega
                  | false =>
                    cases y with
                    | false =>
                      go_wp2_with fail
                      go_roundg (gk - 1)
                      case rel => exact ⟨k + 1, _, by omega, by go_num, HNX.out, HSET.out _⟩
                      case measure => omega
                    | true =>
                      go_wp2_with (first | (go_at_call 15; refine HC.out.mono ?_; rintro e w2 ⟨rfl, rfl⟩))
                      go_roundg (gk - 1)
                      case rel => exact ⟨k + 1, _, by omega, by go_num, HNX.out, HSET.out _⟩
                      case measure => omega
                · have hkN2 : k = N := by omega
                  have hkN' : ¬ (k : Int) < N := by omega
                  have HRW := hid2 (HRR.out O out i (by rw [← hkN2]; exact HRNI.out))
                  clear hkN hkN2
                  go_wp2_with fail
                  go_roundg (g1 - 1)
                  case rel => exact ⟨i + 1, _, by omega, by go_num, HRW.out, HRC.out⟩
                  case measure => omega
            · have hiN2 : i = N := by omega
              have hiN' : ¬ (i : Int) < N := by omega
              have HRW := hid2 (HDN.out O out r HRD.out (by rw [← hiN2]; exact HRNI.out))
              clear hiN hiN2
              go_wp2_with fail
              go_roundg (g0 - 1)
              case rel => exact ⟨r + 1, _, by omega, by go_num, HRW.out, HRC.out⟩
              case measure => omega
        · have hrN2 : r = N := by omega
          have hrN' : ¬ (r : Int) < N := by omega
          have HF := hid2 (HDD.out O (by rw [← hrN2]; exact HRD.out))
          have HFL := hid2 (HRC.out.rd (HDL.out O r HRD.out))
          clear hrN hrN2
          go_wp2_with fail
          go_ret
          exact ⟨O, HF.out, _, ⟨_, rfl⟩, HFL.out, HRC.out.2⟩
end Go.Proofs.Ytccilmnlepekeaa
