/- A table of settings: plain laws. -/
import Derived.Test.YtjmfmlkjippiaaaDoorDMap
import Derived.Test.YtjmfmlkjippiaaaDoorKpl
namespace Go.Proofs.YtjmfmlkjippiaaaDoor
open Go.RowKit Go.Maps
section
variable {α : Type}
theorem getM_ins_same (k : List UInt8) (a : α) : ∀ M : Tab α, (∀ y ∈ M, y.1 ≠ k) → getM (insM (k, a) M) k = some a
  | [], _ => by simp [insM, getM]
  | y :: r, h => by
    unfold insM
    split
    · simp [getM]
    · have hy : (y.1 == k) = false := by simpa using h y (by simp)
      have := getM_ins_same k a r (fun z hz => h z (List.mem_cons_of_mem _ hz))
      unfold getM at this ⊢
      rw [List.find?_cons, hy]
      exact this
theorem getM_ins_ne (k : List UInt8) (a : α) {k' : List UInt8} (hk : k' ≠ k) : ∀ M : Tab α, getM (insM (k, a) M) k' = getM M k'
  | [] => by
    have : (k == k') = false := by simpa using fun h => hk h.symm
    simp [insM, getM, this]
  | y :: r => by
    have hkk : (k == k') = false := by simpa using fun h => hk h.symm
    unfold insM
    split
    · unfold getM
      rw [List.find?_cons, hkk]
    · have := getM_ins_ne k a hk r
      unfold getM at this ⊢
      rw [List.find?_cons, List.find?_cons]
      split
      · rfl
      · exact this
theorem delM_ne {M : Tab α} {k : List UInt8} : ∀ y ∈ delM M k, y.1 ≠ k := by
  intro y hy
  have := (List.mem_filter.1 hy).2
  simpa using this
theorem getM_put_same (M : Tab α) (k : List UInt8) (a : α) : getM (putM M k a) k = some a := getM_ins_same k a _ delM_ne
theorem getM_del_ne (M : Tab α) {k k' : List UInt8} (hk : k' ≠ k) : getM (delM M k) k' = getM M k' := by
  unfold getM delM
  congr 1
  induction M with
  | nil => rfl
  | cons y r ih =>
    rw [List.filter_cons]
    split
    · rw [List.find?_cons, List.find?_cons, ih]
    · rename_i h
      have hy : y.1 = k := by simpa using h
      have : (y.1 == k') = false := by rw [hy]; simpa using fun h => hk h.symm
      rw [List.find?_cons, this, ih]
theorem getM_put_ne (M : Tab α) {k k' : List UInt8} (a : α) (hk : k' ≠ k) : getM (putM M k a) k' = getM M k' := by
  rw [putM, getM_ins_ne k a hk, getM_del_ne M hk]
end
/-- the table that settings leave, from the row's end on -/
def tabOf (l : List SetE) : Tab Tx := l.foldl (fun M p => putM M p.1 p.2) []
theorem tabOf_snoc (l : List SetE) (p : SetE) : tabOf (l ++ [p]) = putM (tabOf l) p.1 p.2 := by simp [tabOf, List.foldl_append]
theorem tabOf_get (n : Tx) : ∀ l : List SetE, getM (tabOf l.reverse) n = (l.find? fun p => p.1 == n).map (·.2)
  | [] => rfl
  | p :: l => by
    rw [List.reverse_cons, tabOf_snoc, List.find?_cons]
    by_cases h : p.1 = n
    · subst h
      rw [getM_put_same]
      simp
    · rw [getM_put_ne _ _ (fun e => h e.symm), tabOf_get n l, show (p.1 == n) = false by simp [h]]
theorem tabOf_valOf (l : List SetE) (n : Tx) : (getM (tabOf l.reverse) n).getD [] = valOf l n := by rw [tabOf_get]; rfl
theorem getM_isSome {M : Tab Tx} {n : Tx} : (getM M n).isSome = true ↔ n ∈ M.map (·.1) := by
  unfold getM
  rw [Option.isSome_map, List.find?_isSome, List.mem_map]
  constructor
  · rintro ⟨p, hp, he⟩
    exact ⟨p, hp, by simpa using he⟩
  · rintro ⟨p, hp, he⟩
    exact ⟨p, hp, by simpa using he⟩
theorem tabOf_keys {l : List SetE} (h : Rises (tabOf l.reverse)) : (tabOf l.reverse).map (·.1) = setL (l.map (·.1)) := by
  refine IsSet.one (l := l.map (·.1)) ⟨List.pairwise_map.2 (h.imp fun {p q} hpq => (bytesBefore_lt _ _).1 hpq), fun x => ?_⟩ (setL_is _)
  rw [← getM_isSome, tabOf_get, Option.isSome_map, List.find?_isSome, List.mem_map]
  constructor
  · rintro ⟨p, hp, he⟩
    exact ⟨p, hp, by simpa using he⟩
  · rintro ⟨p, hp, he⟩
    exact ⟨p, hp, by simpa using he⟩
theorem txV_inj (a b : Tx) (h : (Value.string (strB a)) = .string (strB b)) : a = b := by
  injection h with h
  rw [← strB_list a, ← strB_list b, h]
end Go.Proofs.YtjmfmlkjippiaaaDoor
