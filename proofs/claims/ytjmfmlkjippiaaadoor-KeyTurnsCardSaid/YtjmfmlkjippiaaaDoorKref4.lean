/- An action in memory; is it a great one? -/
import Derived.Test.YtjmfmlkjippiaaaDoorKref3
namespace Go.Proofs.YtjmfmlkjippiaaaDoor
open Go.RowKit Go.Shelf
set_option maxRecDepth 100000
def setsV (l : List SetE) : List Value := l.flatMap fun p => [.string (strB p.1), .string (strB p.2)]
theorem setsV_length : ∀ l : List SetE, (setsV l).length = l.length * 2
  | [] => rfl
  | x :: l => by
    have := setsV_length l
    simp only [setsV, List.flatMap_cons, List.length_append, List.length_cons, List.length_nil] at this ⊢
    omega
theorem setsV_get : ∀ {l : List SetE} {k : Nat} {p : SetE}, l[k]? = some p → (setsV l)[k * 2]? = some (.string (strB p.1)) ∧ (setsV l)[k * 2 + 1]? = some (.string (strB p.2))
  | x :: l, 0, p, h => by
    simp only [List.getElem?_cons_zero, Option.some.injEq] at h
    subst h
    simp [setsV]
  | x :: l, k + 1, p, h => by
    have := setsV_get (l := l) (k := k) (p := p) (by simpa using h)
    rw [show (k + 1) * 2 = k * 2 + 2 by omega]
    simpa [setsV] using this
/-- where an action's parts lie -/
structure LayA where
  pk : ByteArray
  nm : ByteArray
  E : Option Addr
  I : Option Addr
  A : Option Addr
  O : Option Addr
  cE : Nat
  cI : Nat
  cA : Nat
  cO : Nat
def actV (L : LayA) (a : ActK) : Array Value := #[.string L.pk, .string L.nm, .string (strB a.tool), .slice L.E a.env.length L.cE, .slice L.I a.ins.length L.cI, .slice L.A a.asks.length L.cA, .slice L.O a.outs.length L.cO]
structure ActAt (w : World) (L : LayA) (a : ActK) : Prop where
  env : Rd w 2 L.E a.env.length (setsV a.env)
  ins : Rd w 1 L.I a.ins.length (strV a.ins)
  asks : Rd w 1 L.A a.asks.length (strV a.asks)
  outs : Rd w 1 L.O a.outs.length (strV a.outs)
  lE : a.env.length ≤ maxLen
  lI : a.ins.length ≤ maxLen
  lA : a.asks.length ≤ maxLen
  lO : a.outs.length ≤ maxLen
theorem ActAt.below {w w' : World} {L : LayA} {a : ActK} (h : ActAt w L a) (hb : Below w.heap.size w w') : ActAt w' L a :=
  ⟨h.env.below_all hb, h.ins.below_all hb, h.asks.below_all hb, h.outs.below_all hb, h.lE, h.lI, h.lA, h.lO⟩
def longE (l : List SetE) : Bool := l.any fun p => decide (100 < p.1.length) || decide (100 < p.2.length)
def greatL (a : ActK) : Bool := decide (20 < a.env.length) || decide (500 < a.tool.length) || wideL a.ins || wideL a.asks || wideL a.outs || longE a.env
theorem great_any (w : World) (L : LayA) (a : ActK) (h : ActAt w L a) :
    Calls Tryd.prog 7 #[.agg (actV L a)] w fun e w' => e = .returned (.bool (greatL a)) ∧ Below w.heap.size w w' := by
  obtain ⟨w1, hw1⟩ : ∃ w1, w1 = w.alloc (.cells (actV L a) 27) := ⟨_, rfl⟩
  have hb1 : Below w.heap.size w w1 := by rw [hw1]; exact (Below.refl _ w).alloc (Nat.le_refl _) _
  have h1 := h.below hb1
  have cI := fun (W : World) (e : W = w1) => wide_any W L.I L.cI a.ins h.lI (by rw [e]; exact h1.ins)
  have cA := fun (W : World) (e : W = w1) => wide_any W L.A L.cA a.asks h.lA (by rw [e]; exact h1.asks)
  have cO := fun (W : World) (e : W = w1) => wide_any W L.O L.cO a.outs h.lO (by rw [e]; exact h1.outs)
  have hE := h1.env
  have hts := strB_size a.tool
  have hlE := h.lE
  have hg : greatL a = (decide (20 < a.env.length) || decide (500 < a.tool.length) || wideL a.ins || wideL a.asks || wideL a.outs || longE a.env) := rfl
  unfold actV at hw1
  unfold actV
  obtain ⟨pk, nm, E, I, A, O, cEE, cII, cAA, cOO⟩ := L
  simp only at cI cA cO hE hw1 ⊢
  obtain ⟨G, hG⟩ : ∃ G, G = greatL a := ⟨_, rfl⟩
  rw [← hG] at hg ⊢
  obtain ⟨gI, hgI⟩ : ∃ g, g = wideL a.ins := ⟨_, rfl⟩
  obtain ⟨gA, hgA⟩ : ∃ g, g = wideL a.asks := ⟨_, rfl⟩
  obtain ⟨gO, hgO⟩ : ∃ g, g = wideL a.outs := ⟨_, rfl⟩
  obtain ⟨T, hT⟩ : ∃ T, T = strB a.tool := ⟨_, rfl⟩
  obtain ⟨nE, hnE⟩ : ∃ n, n = a.env.length := ⟨_, rfl⟩
  obtain ⟨nT, hnT⟩ : ∃ n, n = a.tool.length := ⟨_, rfl⟩
  obtain ⟨nI, hnI⟩ : ∃ n, n = a.ins.length := ⟨_, rfl⟩
  obtain ⟨nA, hnA⟩ : ∃ n, n = a.asks.length := ⟨_, rfl⟩
  obtain ⟨nO, hnO⟩ : ∃ n, n = a.outs.length := ⟨_, rfl⟩
  rw [← hgI] at hg cI
  rw [← hgA] at hg cA
  rw [← hgO] at hg cO
  rw [← hT] at hts hw1 ⊢
  rw [← hnE] at hg hE hlE hw1 ⊢
  rw [← hnT] at hg hts
  rw [← hnI] at cI hw1 ⊢
  rw [← hnA] at cA hw1 ⊢
  rw [← hnO] at cO hw1 ⊢
  have HG := hid2 hg
  have HW := hid2 hw1
  have HB := hid2 hb1
  have HE := hid2 hE
  have HNE := hid2 hnE
  unfold maxLen at hlE
  clear hG hgI hgA hgO hT hnE hnT hnI hnA hnO hg hb1 h1 h hE
  by_cases h1 : 20 < nE
  · have h1i : (20 : Int) < nE := by omega
    go_enter Tryd.func7, Tryd.ntmps7
    go_wp2_with fail
    go_ret
    exact ⟨by rw [HG.out]; simp [h1], by rw [← HW.out]; exact HB.out⟩
  · have h1i : ¬ (20 : Int) < nE := by omega
    by_cases h2 : 500 < nT
    · have h2i : (500 : Int) < nT := by omega
      go_enter Tryd.func7, Tryd.ntmps7
      go_wp2_with fail
      go_ret
      exact ⟨by rw [HG.out]; simp [h2], by rw [← HW.out]; exact HB.out⟩
    · have h2i : ¬ (500 : Int) < nT := by omega
      have hz : (decide (20 < nE) || decide (500 < nT)) = false := by simp [h1, h2]
      rw [hz] at HG
      cases gI with
      | true =>
        go_enter Tryd.func7, Tryd.ntmps7
        go_wp2_with (first
          | (go_at_call 16; refine (cI _ HW.out.symm).mono ?_; rintro e w2 ⟨rfl, rfl⟩; clear cI))
        go_ret
        exact ⟨by rw [HG.out]; rfl, by rw [← HW.out]; exact HB.out⟩
      | false =>
        cases gA with
        | true =>
          go_enter Tryd.func7, Tryd.ntmps7
          go_wp2_with (first
            | (go_at_call 16; refine (cI _ HW.out.symm).mono ?_; rintro e w2 ⟨rfl, rfl⟩; clear cI)
            | (go_at_call 16; refine (cA _ HW.out.symm).mono ?_; rintro e w2 ⟨rfl, rfl⟩; clear cA))
          go_ret
          exact ⟨by rw [HG.out]; rfl, by rw [← HW.out]; exact HB.out⟩
        | false =>
          cases gO with
          | true =>
            go_enter Tryd.func7, Tryd.ntmps7
            go_wp2_with (first
              | (go_at_call 16; refine (cI _ HW.out.symm).mono ?_; rintro e w2 ⟨rfl, rfl⟩; clear cI)
              | (go_at_call 16; refine (cA _ HW.out.symm).mono ?_; rintro e w2 ⟨rfl, rfl⟩; clear cA)
              | (go_at_call 16; refine (cO _ HW.out.symm).mono ?_; rintro e w2 ⟨rfl, rfl⟩; clear cO))
            go_ret
            exact ⟨by rw [HG.out]; rfl, by rw [← HW.out]; exact HB.out⟩
          | false =>
            have HG2 := hid2 (show G = longE a.env by rw [HG.out]; rfl)
            go_enter Tryd.func7, Tryd.ntmps7
            go_wp2_with (first
              | (go_at_call 16; refine (cI _ HW.out.symm).mono ?_; rintro e w2 ⟨rfl, rfl⟩; clear cI)
              | (go_at_call 16; refine (cA _ HW.out.symm).mono ?_; rintro e w2 ⟨rfl, rfl⟩; clear cA)
              | (go_at_call 16; refine (cO _ HW.out.symm).mono ?_; rintro e w2 ⟨rfl, rfl⟩; clear cO))
            rw [← HW.out]
            have hbx : w1.heap[w.heap.size]? = some (.cells #[.string pk, .string nm, .string T, .slice E nE cEE, .slice I nI cII, .slice A nA cAA, .slice O nO cOO] 27 (0, 0)) := by rw [HW.out]; exact World.alloc_heap_new w _
            have hc3 : w1.cell? ⟨w.heap.size, 3, none⟩ = some (.slice E nE cEE) := cell_of_row w1 _ 3 _ _ _ hbx
            clear hbx hw1
            go_loopw [32] (fun i wr => ∃ k : Nat, k ≤ nE ∧ i = .int .i64 k ∧ longE (a.env.take k) = false ∧ wr = w1) (fun i _ => nE - (intOf i).toNat)
            case atStart => exact ⟨0, by omega, rfl, rfl, rfl⟩
            case round =>
              obtain ⟨k, hk, rfl, hlong, rfl⟩ := hrel
              by_cases hlt : k < nE
              · have hkl : (k : Int) < nE := by omega
                have hk0 : (0 : Int) ≤ k := by omega
                obtain ⟨x, hx⟩ : ∃ x, a.env[k]? = some x := ⟨_, List.getElem?_eq_getElem (by rw [← HNE.out]; exact hlt)⟩
                have htk : a.env.take (k + 1) = a.env.take k ++ [x] := by rw [List.take_add_one, hx]; rfl
                obtain ⟨b, o, rfl, hcell⟩ := HE.out.2 (by omega)
                have hcn : wr.cell? ⟨b, o + k * 2, none⟩ = some (.string (strB x.1)) := hcell (k * 2) _ (setsV_get hx).1
                have hcv : wr.cell? ⟨b, o + k * 2 + 1, none⟩ = some (.string (strB x.2)) := hcell (k * 2 + 1) _ (setsV_get hx).2
                have hxn := strB_size x.1
                have hxv := strB_size x.2
                have hmem : x ∈ a.env := List.mem_of_getElem? hx
                have HTK := hid2 htk
                have HMEM := hid2 hmem
                have HLO := hid2 hlong
                obtain ⟨p, v⟩ := x
                simp only at hcn hcv hxn hxv
                clear hx htk hcell hmem hlong
                by_cases hp : 100 < p.length
                · have hpi : (100 : Int) < p.length := by omega
                  go_wp2_with fail
                  go_ret
                  exact ⟨by rw [HG2.out]; exact congrArg _ (congrArg _ (List.any_eq_true.2 ⟨_, HMEM.out, by simp [hp]⟩).symm), HB.out⟩
                · have hpi : ¬ (100 : Int) < p.length := by omega
                  by_cases hv : 100 < v.length
                  · have hvi : (100 : Int) < v.length := by omega
                    go_wp2_with fail
                    go_ret
                    exact ⟨by rw [HG2.out]; exact congrArg _ (congrArg _ (List.any_eq_true.2 ⟨_, HMEM.out, by simp [hv]⟩).symm), HB.out⟩
                  · have hvi : ¬ (100 : Int) < v.length := by omega
                    go_wp2_with fail
                    go_roundw
                    case rel =>
                      refine ⟨k + 1, by omega, by go_num, ?_, by first | rfl | trivial⟩
                      have := HLO.out
                      rw [HTK.out]
                      unfold longE at this ⊢
                      rw [List.any_append, this]
                      simp
                      omega
                    case measure => simp [intOf]; omega
              · have hkn : k = nE := by omega
                have hkl : ¬ (k : Int) < nE := by omega
                have htl : a.env.take k = a.env := by rw [hkn, HNE.out, List.take_length]
                rw [htl] at hlong
                have HLO := hid2 hlong
                clear hlong htl hkn
                go_wp2_with fail
                go_ret
                exact ⟨by rw [HG2.out, HLO.out]; rfl, HB.out⟩
end Go.Proofs.YtjmfmlkjippiaaaDoor
