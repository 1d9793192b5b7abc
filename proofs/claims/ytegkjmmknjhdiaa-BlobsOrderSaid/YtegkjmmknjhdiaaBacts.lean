/- Rows of the blobs' acts: their cells, and the walk of great. -/
import Derived.Test.YtegkjmmknjhdiaaBlob20
namespace Go.Proofs.Ytegkjmmknjhdiaa
open Go.RowKit Go.Maps Go.Sort Go.Lib
/-- an act -/
structure BActE where
  kind : Int
  data : ByteArray
  is : Bool
  other : List UInt8
def bactV (a : BActE) : List Value := [.int .u8 a.kind, .string a.data, .bool a.is] ++ u8s a.other
def bactsV (l : List BActE) : List Value := l.flatMap bactV
/-- an act is well formed -/
def BActOk (a : BActE) : Prop := a.other.length = 32 ∧ (0 ≤ a.kind ∧ a.kind ≤ 255) ∧ (a.data.size : Int) ≤ 140737488355328
theorem bactV_length {a : BActE} (h : a.other.length = 32) : (bactV a).length = 35 := by rw [bactV, List.length_append, u8s_length, h]; rfl
theorem bactsV_length : ∀ {l : List BActE}, (∀ a ∈ l, a.other.length = 32) → (bactsV l).length = l.length * 35
  | [], _ => rfl
  | a :: r, hk => by
    have h := bactsV_length (l := r) (fun y hy => hk y (List.mem_cons_of_mem _ hy))
    have hx := bactV_length (hk a (List.mem_cons_self ..))
    simp only [bactsV, List.flatMap_cons, List.length_append, List.length_cons] at h ⊢
    rw [h, hx]
    omega
theorem bactsV_get : ∀ {l : List BActE} (_ : ∀ a ∈ l, a.other.length = 32) (k : Nat) (a : BActE) (i : Nat) (v : Value), l[k]? = some a → (bactV a)[i]? = some v → (bactsV l)[k * 35 + i]? = some v
  | [], _, k, a, i, v, h, _ => by simp at h
  | y :: r, hk, k, a, i, v, h, hv => by
    have hy := bactV_length (hk y (List.mem_cons_self ..))
    have hx : (bactV a).length = 35 := bactV_length (hk a (List.mem_of_getElem? h))
    have hi : i < 35 := by
      have := (List.getElem?_eq_some_iff.1 hv).1
      omega
    cases k with
    | zero =>
      obtain rfl := Option.some.inj (show some y = some a by simpa using h)
      rw [bactsV, List.flatMap_cons, Nat.zero_mul, Nat.zero_add, List.getElem?_append_left (by omega)]
      exact hv
    | succ k =>
      have := bactsV_get (l := r) (fun z hz => hk z (List.mem_cons_of_mem _ hz)) k a i v (by simpa using h) hv
      rw [bactsV, List.flatMap_cons, List.getElem?_append_right (by omega)]
      rw [show (k + 1) * 35 + i - (bactV y).length = k * 35 + i by omega]
      exact this
theorem bact_cells {w : World} {A : Option Addr} {l : List BActE} (hk : ∀ a ∈ l, a.other.length = 32) (hr : Rd w 35 A l.length (bactsV l)) {k : Nat} {a : BActE} (h : l[k]? = some a) :
    ∃ b o, A = some ⟨b, o, none⟩ ∧ ∀ i v, (bactV a)[i]? = some v → w.cell? ⟨b, o + k * 35 + i, none⟩ = some v := by
  have hl : k < l.length := (List.getElem?_eq_some_iff.1 h).1
  obtain ⟨b, o, rfl, hc⟩ := hr.2 (by omega)
  exact ⟨b, o, rfl, fun i v hv => by rw [Nat.add_assoc]; exact hc _ _ (bactsV_get hk k a i v h hv)⟩
theorem info_bact : (Try.prog.info? 41).map (·.size) = some 35 := by kernel_rfl
theorem bact_load {w : World} {b off : Nat} {a : BActE} (ha : a.other.length = 32) (hc : ∀ i v, (bactV a)[i]? = some v → w.cell? ⟨b, off + i, none⟩ = some v) :
    (loadVar 41 ⟨b, off, none⟩).run Try.prog w = .ok (.agg (bactV a).toArray) w :=
  run_load_cells 41 b off (bactV a) hc _ Try.underlying41 rfl (by rw [bactV_length ha]; exact info_bact)
/-- what great answers -/
def G6Post (w : World) (l : List BActE) (e : Ending) (w' : World) : Prop := ∃ v : Bool, e = .returned (.bool v) ∧ (v = false → l.length ≤ 40 ∧ ∀ a ∈ l, a.data.size ≤ 300) ∧ Below w.heap.size w w'
set_option maxRecDepth 100000 in
theorem great6_any (w : World) (A : Option Addr) (c : Nat) (l : List BActE) (hr : Rd w 35 A l.length (bactsV l)) (hl : l.length ≤ 8796093022208) (hA : ∀ a ∈ l, BActOk a) :
    Calls Try.prog 22 #[.slice A l.length c] w fun e w' => G6Post w l e w' := by
  have HR := hid2 hr
  have HA := hid2 hA
  obtain ⟨N, hN⟩ : ∃ N, N = l.length := ⟨_, rfl⟩
  rw [← hN] at hl ⊢
  have HN := hid2 hN
  clear hr hA hN
  by_cases h40 : N ≤ 40
  · have hgt : ((40 : Int) < (N : Int)) = False := eq_false (by omega)
    go_enter Try.func22, Try.ntmps22
    go_wp2_with fail
    go_loopg [3] N (fun gk i wr => ∃ k : Nat, k + gk = N ∧ i = .int .i64 k ∧ (∀ j a, j < k → l[j]? = some a → a.data.size ≤ 300) ∧ Below w.heap.size w wr)
    case atStart => exact ⟨0, by omega, rfl, fun j a hj => absurd hj (Nat.not_lt_zero _), Below.refl _ _⟩
    case round =>
      obtain ⟨k, hk, rfl, hno, hb⟩ := hrel
      have HNO := hid2 hno
      clear hno
      by_cases hlt : k < N
      · have hlt' : (k : Int) < N := by omega
        have hk0 : (0 : Int) ≤ k := by omega
        obtain ⟨a, ha⟩ : ∃ a, l[k]? = some a := ⟨_, List.getElem?_eq_getElem (by rw [← HN.out]; exact hlt)⟩
        obtain ⟨b, o, rfl, hc⟩ := bact_cells (fun a h => (HA.out a h).1) (HR.out.below_all hb) ha
        have c1 : wr.cell? ⟨b, o + k * 35 + 1, none⟩ = some (.string a.data) := hc 1 _ rfl
        obtain ⟨s, hs⟩ : ∃ s, s = a.data := ⟨_, rfl⟩
        rw [← hs] at c1
        have HC := hid2 ha
        have HS := hid2 hs
        clear hc ha hs hlt
        by_cases h3 : s.size ≤ 300
        · have h3' : ((300 : Int) < (s.size : Int)) = False := eq_false (by omega)
          go_wp2_with fail
          go_roundg (gk - 1)
          case rel =>
            refine ⟨k + 1, by omega, by go_num, fun j y hj hy => ?_, hb⟩
            rcases Nat.lt_succ_iff_lt_or_eq.1 hj with h | rfl
            · exact HNO.out j y h hy
            · rw [HC.out] at hy
              obtain rfl := Option.some.inj hy
              rw [← HS.out]; exact h3
          case measure => omega
        · have h3' : ((300 : Int) < (s.size : Int)) = True := eq_true (by omega)
          go_wp2_with fail
          go_ret
          exact ⟨true, rfl, (fun h => by cases h), hb⟩
      · have hkN : k = N := by omega
        have hlt' : ¬ (k : Int) < N := by omega
        have HKN := hid2 hkN
        clear hkN hlt
        go_wp2_with fail
        go_ret
        refine ⟨false, rfl, fun _ => ⟨by rw [← HN.out]; exact h40, fun a ha => ?_⟩, hb⟩
        obtain ⟨j, hj⟩ := List.getElem?_of_mem ha
        exact HNO.out j a (by have := (List.getElem?_eq_some_iff.1 hj).1; rw [HKN.out, HN.out]; exact this) hj
  · have hgt : ((40 : Int) < (N : Int)) = True := eq_true (by omega)
    go_enter Try.func22, Try.ntmps22
    go_wp2_with fail
    go_ret
    exact ⟨true, rfl, (fun h => by cases h), Below.refl _ _⟩
end Go.Proofs.Ytegkjmmknjhdiaa
