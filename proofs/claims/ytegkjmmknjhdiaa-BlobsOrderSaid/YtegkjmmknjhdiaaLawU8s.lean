/- A row of bytes as an argument: opened. -/
import Derived.Test.YtegkjmmknjhdiaaLaw0
import Derived.Test.YtegkjmmknjhdiaaBlob4
import Derived.OpenShut
import Derived.SizedLaws
namespace Go.Proofs.Ytegkjmmknjhdiaa
open Go.ChangeShapes Go.WideShapes Go.ChangeAt Go.RowKit Go.Maps
set_option maxRecDepth 100000
variable {H : Type} {enc : TypeId × Value → H}
theorem u8_list2 : ∀ ns : List Int, (∀ n ∈ ns, (Lit.int .u8 n).wf = true) → ∃ l : List UInt8, ns = l.map fun b => (b.toNat : Int)
  | [], _ => ⟨[], rfl⟩
  | n :: ns, h => by
    obtain ⟨b, rfl⟩ := u8_of_wf (h n (List.mem_cons_self ..))
    obtain ⟨l, rfl⟩ := u8_list2 ns (fun w hw => h w (List.mem_cons_of_mem _ hw))
    exact ⟨b :: l, rfl⟩
theorem open_u8s {W : World} {b0 : Nat} {v : Value} {d : DataW H} {p : List MemPlace} (h : DataW.Trod enc Try.prog W 0 (fun _ => true) true 55 v d p) (hval : Value.okWide Try.prog W .any b0 55 v) :
    ∃ (A : Option Addr) (c : Nat) (bs : List UInt8), v = .slice A bs.length c ∧ Rd W 1 A bs.length (u8s bs) ∧ (bs.length = 0 ∨ ∃ el sp, d = .slice el sp ∧ bs.length ≤ el.length) := by
  obtain ⟨fuel, hf⟩ := h
  have hv : v.cells.toList = [v] := by
    rcases okWide_slice Try.underlying55 hval with ⟨A, n, c, rfl⟩
    rfl
  rw [hv] at hf
  rcases open_ints Try.underlying55 Try.underlying5 (by kernel_rfl) hf with ⟨h1, _⟩ | ⟨a, len, cap, r, h1, _, hlc, _, hl, hd, hcell, hwf⟩
  · exact ⟨none, 0, [], by simpa using h1, Rd.none_ _ _ _, .inl rfl⟩
  · have hl' : r.length = cap := by simpa using hl
    obtain ⟨L, hL⟩ := u8_list2 (r.take len) (fun n hn => hwf n (List.mem_of_mem_take hn))
    have hLl : L.length = len := by
      have := congrArg List.length hL
      rw [List.length_take, List.length_map] at this
      omega
    refine ⟨some a, cap, L, by rw [hLl]; simpa using h1, ⟨by rw [u8s_length, Nat.mul_one], fun h0 => ?_⟩, .inr ⟨_, _, congrArg Prod.fst hd, by simp [lits, hLl]; omega⟩⟩
    rw [hLl] at h0
    obtain ⟨b, o, sp⟩ := a
    have h30 := hcell 0 (by omega)
    cases sp with
    | some x =>
      exfalso
      unfold World.cell? at h30
      split at h30
      · simp [Addr.add] at h30
      · cases h30
    | none =>
      refine ⟨b, o, rfl, fun j u hu => ?_⟩
      have hj : j < len := by
        rcases Nat.lt_or_ge j len with h | h
        · exact h
        · rw [List.getElem?_eq_none (by rw [u8s_length]; omega)] at hu; cases hu
      have h := hcell j (by omega)
      rw [addr_add] at h
      rw [h, ← hu]
      have e : (r.take len)[j]? = (L.map fun b => (b.toNat : Int))[j]? := by rw [hL]
      rw [List.getElem?_take, if_pos hj, List.getElem?_map, List.getElem?_eq_getElem (show j < r.length by omega), List.getElem?_eq_getElem (show j < L.length by omega)] at e
      simp only [Option.map_some, Option.some.injEq] at e
      rw [List.getD_eq_getElem?_getD, List.getElem?_eq_getElem (show j < r.length by omega), Option.getD_some, e]
      simp [u8s, show j < L.length by omega]
end Go.Proofs.Ytegkjmmknjhdiaa
