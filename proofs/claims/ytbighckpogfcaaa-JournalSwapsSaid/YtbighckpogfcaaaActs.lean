/- Rows of acts: their cells, and the walk of Great. -/
import Derived.Test.YtbighckpogfcaaaDisk4
namespace Go.Proofs.Ytbighckpogfcaaa
open Go.RowKit Go.Maps
/-- an act -/
structure ActE where
  kind : Int
  n : Int
  name : ByteArray
  to : ByteArray
  data : ByteArray
  pa : Option Addr
  pn : Nat
  pc : Nat
def actV (a : ActE) : List Value := [.int .i64 a.kind, .int .i64 a.n, .string a.name, .string a.to, .string a.data, .slice a.pa a.pn a.pc]
def actsV (l : List ActE) : List Value := l.flatMap actV
theorem actsV_length : ∀ l : List ActE, (actsV l).length = l.length * 6
  | [] => rfl
  | a :: r => by
    have h := actsV_length r
    simp only [actsV, List.flatMap_cons, List.length_append, List.length_cons] at h ⊢
    rw [h]
    simp [actV]
    omega
theorem actsV_get : ∀ (l : List ActE) (k : Nat) (a : ActE) (i : Nat) (v : Value), l[k]? = some a → (actV a)[i]? = some v → (actsV l)[k * 6 + i]? = some v
  | [], k, a, i, v, h, _ => by simp at h
  | x :: r, k, a, i, v, h, hv => by
    have hi : i < 6 := by
      have := (List.getElem?_eq_some_iff.1 hv).1
      simpa [actV] using this
    cases k with
    | zero =>
      obtain rfl := Option.some.inj (show some x = some a by simpa using h)
      rw [actsV, List.flatMap_cons, Nat.zero_mul, Nat.zero_add, List.getElem?_append_left (by simp [actV]; omega)]
      exact hv
    | succ k =>
      have := actsV_get r k a i v (by simpa using h) hv
      rw [actsV, List.flatMap_cons, List.getElem?_append_right (by simp [actV]; omega)]
      rw [show (k + 1) * 6 + i - (actV x).length = k * 6 + i by simp [actV]; omega]
      exact this
/-- sizes of an act's texts -/
def ActOk (a : ActE) : Prop := (a.name.size : Int) ≤ 140737488355328 ∧ (a.to.size : Int) ≤ 140737488355328 ∧ (a.data.size : Int) ≤ 140737488355328 ∧ (a.pn : Int) ≤ 140737488355328
def actW (a : ActE) : Nat := a.name.size + a.to.size + a.data.size + a.pn + 1
def actsW (l : List ActE) : Nat := (l.map actW).sum
theorem actsW_take {l : List ActE} {k : Nat} {a : ActE} (h : l[k]? = some a) : actsW (l.take (k + 1)) = actsW (l.take k) + actW a := by
  obtain ⟨hk, hx⟩ := List.getElem?_eq_some_iff.1 h
  rw [List.take_succ_eq_append_getElem hk, hx, actsW, actsW, List.map_append, List.sum_append]
  simp
theorem act_cells {w : World} {A : Option Addr} {l : List ActE} (hr : Rd w 6 A l.length (actsV l)) {k : Nat} {a : ActE} (h : l[k]? = some a) :
    ∃ b o, A = some ⟨b, o, none⟩ ∧ ∀ i v, (actV a)[i]? = some v → w.cell? ⟨b, o + (k * 6 + i), none⟩ = some v := by
  have hk : k < l.length := (List.getElem?_eq_some_iff.1 h).1
  obtain ⟨b, o, rfl, hc⟩ := hr.2 (by omega)
  exact ⟨b, o, rfl, fun i v hv => hc _ _ (actsV_get l k a i v h hv)⟩
/-- between two rounds of Great -/
structure GInv (w : World) (l : List ActE) (k : Nat) (wr : World) : Prop where
  sum : actsW (l.take k) ≤ 3000
  below : Below w.heap.size w wr
set_option maxRecDepth 100000 in
theorem great_any (w : World) (A : Option Addr) (c : Nat) (l : List ActE) (hr : Rd w 6 A l.length (actsV l)) (hl : l.length ≤ 8796093022208) (hA : ∀ a ∈ l, ActOk a) :
    Calls Try.prog 21 #[.slice A l.length c] w fun e w' => ∃ v : Int, e = .returned (.int .i64 v) ∧ (v = 1 ∨ v = 0 ∧ actsW l ≤ 3000) ∧ Below w.heap.size w w' := by
  have HR := hid2 hr
  have HA := hid2 hA
  obtain ⟨N, hN⟩ : ∃ N, N = l.length := ⟨_, rfl⟩
  rw [← hN] at hl ⊢
  have HN := hid2 hN
  clear hr hA hN
  go_enter Try.func21, Try.ntmps21
  go_wp2_with fail
  go_loopg [3, 8] N (fun gk s i wr => ∃ k : Nat, k + gk = N ∧ i = .int .i64 k ∧ s = .int .i64 (actsW (l.take k) : Nat) ∧ GInv w l k wr)
  case atStart => exact ⟨0, by omega, rfl, rfl, ⟨Nat.zero_le _, Below.refl _ _⟩⟩
  case round =>
    obtain ⟨k, hk, rfl, rfl, hinv⟩ := hrel
    have hHw := hinv.below.size
    by_cases hlt : k < N
    · have hlt' : (k : Int) < N := by omega
      obtain ⟨a, ha⟩ : ∃ a, l[k]? = some a := ⟨_, List.getElem?_eq_getElem (by rw [← HN.out]; exact hlt)⟩
      have hok := HA.out _ (List.mem_of_getElem? ha)
      have hrr := HR.out.below_all hinv.below
      obtain ⟨b, o, rfl, hc⟩ := act_cells hrr ha
      have c0 : wr.cell? ⟨b, o + k * 6, none⟩ = some (.int .i64 a.kind) := hc 0 _ rfl
      have c1 : wr.cell? ⟨b, o + k * 6 + 1, none⟩ = some (.int .i64 a.n) := by rw [Nat.add_assoc]; exact hc 1 _ rfl
      have c2 : wr.cell? ⟨b, o + k * 6 + 2, none⟩ = some (.string a.name) := by rw [Nat.add_assoc]; exact hc 2 _ rfl
      have c3 : wr.cell? ⟨b, o + k * 6 + 3, none⟩ = some (.string a.to) := by rw [Nat.add_assoc]; exact hc 3 _ rfl
      have c4 : wr.cell? ⟨b, o + k * 6 + 4, none⟩ = some (.string a.data) := by rw [Nat.add_assoc]; exact hc 4 _ rfl
      have c5 : wr.cell? ⟨b, o + k * 6 + 5, none⟩ = some (.slice a.pa a.pn a.pc) := by rw [Nat.add_assoc]; exact hc 5 _ rfl
      obtain ⟨s, hs⟩ : ∃ s, s = actsW (l.take k) := ⟨_, rfl⟩
      have hs3 : s ≤ 3000 := by rw [hs]; exact hinv.sum
      rw [← hs]
      obtain ⟨ak, an, nm, to, dt, pa, pn, pc⟩ := a
      obtain ⟨ho1, ho2, ho3, ho4⟩ := hok
      simp only at ho1 ho2 ho3 ho4 c0 c1 c2 c3 c4 c5
      have HINV := hid2 hinv
      have HC := hid2 ha
      have HS := hid2 hs
      have e := actsW_take ha
      rw [← hs] at e
      have e2 : (actsW (l.take (k + 1)) : Int) = s + (nm.size + to.size + dt.size + pn + 1) := by rw [e]; simp only [actW]; omega
      have E2 := hid2 e2
      clear hc hinv hrr ha hs e e2
      go_wp2_with fail
      · go_ret
        exact ⟨1, rfl, .inl rfl, HINV.out.below.alloc hHw _⟩
      · rename_i h3
        go_roundg (gk - 1)
        case rel => exact ⟨k + 1, by omega, by go_num, by rw [E2.out], ⟨by have := E2.out; omega, HINV.out.below.alloc hHw _⟩⟩
        case measure => omega
    · have hkN : k = N := by omega
      have hlt' : ¬ (k : Int) < N := by omega
      have HINV := hid2 hinv
      have HKN := hid2 hkN
      clear hinv hkN hlt
      go_wp2_with fail
      go_ret
      refine ⟨0, rfl, .inr ⟨rfl, ?_⟩, HINV.out.below⟩
      have := HINV.out.sum
      rw [HKN.out, HN.out, List.take_of_length_le (Nat.le_refl _)] at this
      exact this
end Go.Proofs.Ytbighckpogfcaaa
