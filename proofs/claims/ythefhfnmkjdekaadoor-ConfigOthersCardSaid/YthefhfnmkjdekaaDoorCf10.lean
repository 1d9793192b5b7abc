/- Settings: the statements' example; rows that are the same; the walks of ConfigChecks and ConfigBack. -/
import Derived.Test.YthefhfnmkjdekaaDoorCf9
import Derived.Laws.StructEq
namespace Go.Proofs.YthefhfnmkjdekaaDoor
open Go.RowKit Go.Shelf Go.Sort
set_option maxRecDepth 100000
theorem run_neq_set (X Y : ByteArray) (w : World) : (binOp .neq 31 (.agg #[.string X, .string Y]) (.agg #[.string X, .string Y])).run Tryd.prog w = .ok (.bool false) w := by
  have u9 := Tryd.underlying9
  have a9 := Tryd.isAgg9
  have z9 := Tryd.sizeOf9
  have hS : Tryd.prog.underlying 31 = some (.struct (Tryd.prog.fieldsOf 31)) := by kernel_rfl
  have hp : Tryd.prog.stoodInHeld 31 = false := by kernel_rfl
  rw [run_neq_struct, show (10000 : Nat) = 9999 + 1 from rfl, run_equalIn_agg w 9999 31 _ _ hS hp]
  simp only [Program.fieldsOf, Tryd.underlying31]
  go_simp
set_option maxHeartbeats 2000000 in
theorem rsame_eq (w : World) (A B : Option Addr) (c d : Nat) (l : List SetE) (hl : l.length ≤ 1000) (hA : Rd w 2 A l.length (setsV l)) (hB : Rd w 2 B l.length (setsV l)) :
    Calls Tryd.prog 12 #[.slice A l.length c, .slice B l.length d] w fun e w' => e = .returned (.bool true) ∧ Below w.heap.size w w' := by
  obtain ⟨n, hn⟩ : ∃ n, n = l.length := ⟨_, rfl⟩
  rw [← hn] at hl hA hB ⊢
  have HA := hid2 hA
  have HB := hid2 hB
  have HN := hid2 hn
  have hq := run_neq_set
  have HQ := hid2 hq
  clear hA hB hn hq
  go_enter Tryd.func12, Tryd.ntmps12
  go_wp2_with fail
  go_loopw [13] (fun i wr => ∃ k : Nat, k ≤ n ∧ i = .int .i64 k ∧ Below w.heap.size w wr) (fun i _ => n - (intOf i).toNat)
  case atStart => exact ⟨0, by omega, rfl, Below.refl _ _⟩
  case round =>
    obtain ⟨k, hk, rfl, hbe⟩ := hrel
    have HBE := hid2 hbe
    by_cases hlt : k < n
    · have hkl : (k : Int) < n := by omega
      have hk0 : (0 : Int) ≤ k := by omega
      obtain ⟨p, hp⟩ : ∃ p, l[k]? = some p := ⟨_, List.getElem?_eq_getElem (by rw [← HN.out]; exact hlt)⟩
      obtain ⟨b, o, rfl, hc0, hc1⟩ := (HA.out.below_all hbe).set_at hp
      obtain ⟨b2, o2, rfl, hd0, hd1⟩ := (HB.out.below_all hbe).set_at hp
      have hq := HQ.out (strB p.1) (strB p.2)
      obtain ⟨X, hX⟩ : ∃ X, X = strB p.1 := ⟨_, rfl⟩
      obtain ⟨Y, hY⟩ : ∃ Y, Y = strB p.2 := ⟨_, rfl⟩
      rw [← hX] at hc0 hd0 hq
      rw [← hY] at hc1 hd1 hq
      clear hX hY hbe hp
      go_wp2_with fail
      go_quiet (fail)
      go_wp2_with fail
      go_roundw
      case rel => exact ⟨k + 1, by omega, by go_num, below_drewN HBE.out _⟩
      case measure => simp [intOf]; omega
    · have hkl : ¬ (k : Int) < n := by omega
      go_wp2_with fail
      go_ret
      exact ⟨rfl, HBE.out⟩
/-! rows in order -/
def Rising (l : List SetE) : Prop := l.Pairwise fun a b => a.1 < b.1
theorem rising_nodup {l : List SetE} (h : Rising l) : (l.map (·.1)).Nodup := by
  rw [List.Nodup, List.pairwise_map]
  exact List.Pairwise.imp (R := fun (a b : SetE) => a.1 < b.1) (S := fun (a b : SetE) => a.1 ≠ b.1) (fun {a b} hab e => less_irrefl b.1 (by rw [e] at hab; exact hab)) h
theorem rising_one {l : List SetE} (h : Rising l) {a b : SetE} (ha : a ∈ l) (hb : b ∈ l) (h1 : ¬ a.1 < b.1) (h2 : ¬ b.1 < a.1) : a = b := by
  obtain ⟨i, hi, rfl⟩ := List.getElem_of_mem ha
  obtain ⟨j, hj, rfl⟩ := List.getElem_of_mem hb
  rcases Nat.lt_trichotomy i j with h' | h' | h'
  · exact absurd (List.pairwise_iff_getElem.1 h i j hi hj h') h1
  · subst h'; rfl
  · exact absurd (List.pairwise_iff_getElem.1 h j i hj hi h') h2
theorem sorted_eq {m l : List SetE} (hp : m.Perm l) (hm : ByName m) (hl : Rising l) : m = l :=
  List.Perm.eq_of_pairwise (le := fun (a b : SetE) => ¬ b.1 < a.1) (fun a b ha hb h1 h2 => rising_one hl (hp.mem_iff.1 ha) hb h2 h1) hm (List.Pairwise.imp (R := fun (a b : SetE) => a.1 < b.1) (S := fun (a b : SetE) => ¬ b.1 < a.1) (fun {a b} hab h => less_irrefl a.1 (List.lt_trans hab h)) hl) hp
theorem checkE_steps {l : List SetE} (h : checkE l = 0) : ∀ j, j < l.length → stepE l j = 0 := by
  have h16 : ¬ 16 < l.length := by have := checkE_len h; omega
  intro j
  induction j using Nat.strongRecOn with
  | _ j ih =>
    intro hj
    cases hs : stepE l j with
    | zero => rfl
    | succ x =>
      have := checkE_at h16 hj (fun i hi => ih i hi (by omega)) (by rw [hs]; simp)
      rw [h, hs] at this
      cases this
theorem checkE_one {l : List SetE} (h : checkE l = 0) : ∀ p ∈ l, oneE p = 0 := fun p hp => by
  obtain ⟨j, hj⟩ := List.getElem?_of_mem hp
  have hs := checkE_steps h j (List.getElem?_eq_some_iff.1 hj).1
  cases j with
  | zero => rwa [stepE_zero hj] at hs
  | succ j =>
    obtain ⟨q, hq⟩ : ∃ q, l[j]? = some q := ⟨_, List.getElem?_eq_getElem (by have := (List.getElem?_eq_some_iff.1 hj).1; omega)⟩
    rw [stepE_succ hq hj] at hs
    split at hs
    · exact hs
    · rename_i hn
      exact Decidable.not_not.1 hn
theorem checkE_rising {l : List SetE} (h : checkE l = 0) : Rising l := by
  have hstep : ∀ j (hj : j + 1 < l.length), l[j].1 < l[j + 1].1 := fun j hj => by
    have hs := checkE_steps h (j + 1) hj
    rw [stepE_succ (List.getElem?_eq_getElem (by omega)) (List.getElem?_eq_getElem hj)] at hs
    split at hs
    · rename_i hn; exact absurd hs hn
    · unfold nextE at hs
      split at hs
      · assumption
      · split at hs <;> cases hs
  rw [Rising, List.pairwise_iff_getElem]
  intro i j hi hj hij
  obtain ⟨d, rfl⟩ : ∃ d, j = i + 1 + d := ⟨j - i - 1, by omega⟩
  induction d with
  | zero => exact hstep i hj
  | succ d ih => exact List.lt_trans (ih (by omega) (by omega)) (hstep (i + 1 + d) hj)
theorem text_ok {l : List SetE} (h : checkE l = 0) : textE l = joinE l := by rw [textE, if_pos h]
theorem short_of {l : List SetE} (h : ∀ p ∈ l, oneE p = 0) : Short l := fun p hp => by
  have := oneE_len (h p hp)
  omega
/-! the example -/
def exA : List SetE := [([111, 115], [108, 105, 110, 117, 120]), ([111, 112, 116], [50])]
def exB : List SetE := [([111, 112, 116], [50]), ([111, 115], [108, 105, 110, 117, 120])]
theorem ex_join : strB (joinE exA) = ⟨#[111, 115, 61, 108, 105, 110, 117, 120, 44, 111, 112, 116, 61, 50]⟩ := by decide +kernel
theorem ex_one : ∀ p ∈ exA, oneE p = 0 := by decide +kernel
theorem ex_nodup : (exA.map (·.1)).Nodup := by decide +kernel
theorem ex_check : checkE exB = 0 := by decide +kernel
theorem ex_text : strB (textE exB) = ⟨#[111, 112, 116, 61, 50, 44, 111, 115, 61, 108, 105, 110, 117, 120]⟩ := by decide +kernel
set_option maxHeartbeats 1000000 in
theorem fixed_any (w : World) (hM : MaxL w) : Calls Tryd.prog 9 #[] w fun e w' => e = .returned (.bool true) ∧ Below w.heap.size w w' := by
  have cr := read_ok w exA (by decide) ex_one ex_nodup hM
  rw [ex_join] at cr
  have CR := hid2 cr
  clear cr hM
  go_enter Tryd.func9, Tryd.ntmps9
  go_wp2_with (first
    | (go_at_call 10; refine CR.out.mono ?_; rintro e w1 ⟨A, c, m, rfl, hr, hp, hm, hb1⟩; obtain rfl : m = exB := sorted_eq (hp.trans (List.Perm.swap _ _ _)) hm (checkE_rising ex_check); have ct := text_any w1 A c exB (by decide) (short_of (checkE_one ex_check)) hr; rw [ex_text] at ct; rw [show exB.length = 2 from rfl] at ct ⊢; have CT := hid2 ct; clear CR hr hp hm ct)
    | (go_at_call 11; refine CT.out.mono ?_; rintro e w2 ⟨rfl, hb2⟩))
  go_ret
  exact ⟨by simp, hb1.trans (hb2.mono hb1.size)⟩
end Go.Proofs.YthefhfnmkjdekaaDoor
