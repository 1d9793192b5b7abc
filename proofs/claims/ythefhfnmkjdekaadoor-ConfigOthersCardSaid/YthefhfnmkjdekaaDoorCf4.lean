/- Settings: why they may not be: Check, in the program and in the document. -/
import Derived.Test.YthefhfnmkjdekaaDoorCf3
import Derived.Shelf.SortM.Plain
import Derived.BigQuiet
namespace Go.Proofs.YthefhfnmkjdekaaDoor
open Go.RowKit
set_option maxRecDepth 100000
def nextE (q p : SetE) : Nat := if q.1 < p.1 then 0 else if q.1 = p.1 then 8 else 2
def stepE (l : List SetE) : Nat → Nat
  | 0 => match l[0]? with
    | none => 0
    | some p => oneE p
  | j + 1 => match l[j]?, l[j + 1]? with
    | some q, some p => if oneE p ≠ 0 then oneE p else nextE q p
    | _, _ => 0
def firstE (l : List SetE) : Nat → Nat → Nat
  | 0, _ => 0
  | f + 1, k => if stepE l k ≠ 0 then stepE l k else firstE l f (k + 1)
def checkE (l : List SetE) : Nat := if 16 < l.length then 6 else firstE l l.length 0
theorem firstE_skip (l : List SetE) : ∀ (k f i : Nat), (∀ j, i ≤ j → j < i + k → stepE l j = 0) → firstE l (f + k) i = firstE l f (i + k)
  | 0, f, i, _ => rfl
  | k + 1, f, i, h => by
    rw [show f + (k + 1) = (f + k) + 1 by omega, firstE, if_neg (by rw [h i (Nat.le_refl _) (by omega)]; simp), firstE_skip l k f (i + 1) (fun j h1 h2 => h j (by omega) (by omega))]
    congr 1
    omega
theorem checkE_at {l : List SetE} (h16 : ¬ 16 < l.length) {k : Nat} (hk : k < l.length) (h : ∀ j, j < k → stepE l j = 0) (hs : stepE l k ≠ 0) : checkE l = stepE l k := by
  rw [checkE, if_neg h16]
  have := firstE_skip l k (l.length - k) 0 (fun j _ h2 => h j (by omega))
  rw [show l.length - k + k = l.length by omega, Nat.zero_add] at this
  rw [this, show l.length - k = (l.length - k - 1) + 1 by omega, firstE, if_pos hs]
theorem checkE_end {l : List SetE} (h16 : ¬ 16 < l.length) (h : ∀ j, j < l.length → stepE l j = 0) : checkE l = 0 := by
  rw [checkE, if_neg h16]
  have := firstE_skip l l.length 0 0 (fun j _ h2 => h j (by omega))
  rw [Nat.zero_add] at this
  rw [this, firstE]
theorem stepE_zero {l : List SetE} {p : SetE} (h : l[0]? = some p) : stepE l 0 = oneE p := by rw [stepE]; simp [h]
theorem stepE_succ {l : List SetE} {j : Nat} {q p : SetE} (hq : l[j]? = some q) (hp : l[j + 1]? = some p) : stepE l (j + 1) = if oneE p ≠ 0 then oneE p else nextE q p := by rw [stepE]; simp [hq, hp]
theorem less_dec (x y : Tx) : Op.bytesLess (strB x).toList (strB y).toList = decide (x < y) := by rw [ByteArray.toList_eq, ByteArray.toList_eq, strB_list, strB_list, bytesLess_eq]
theorem toList_strB (x : Tx) : (strB x).toList = x := by rw [ByteArray.toList_eq, strB_list]
theorem info_set1 : (Tryd.prog.info? 31).map (·.size) = some 2 := by kernel_rfl
theorem stored_row {w : World} {g : Nat} {VX : List Value} {cur : Array Value} {t : TypeId} (hg : w.heap[g]? = some (.cells cur t (0, 0))) (hl : VX.length = cur.size) : (w.setRow g (laid cur 0 VX)).heap[g]? = some (.cells VX.toArray t (0, 0)) := by
  rw [laid_all hl]
  exact setRow_heap w g cur _ t _ hg
/-- a setting's two cells, stored and loaded whole: what the arms ask -/
theorem set_cells (X Y : ByteArray) : (Value.agg #[.string X, .string Y]).cells.toList = [.string X, .string Y] := rfl
theorem set_size (X Y : ByteArray) : (Tryd.prog.info? 31).map (·.size) = some ([.string X, .string Y] : List Value).length := info_set1
theorem set_fit (X Y : ByteArray) : 0 + ([.string X, .string Y] : List Value).length ≤ (#[.string ⟨#[]⟩, .string ⟨#[]⟩] : Array Value).size := Nat.le_refl _
theorem set_one (X Y : ByteArray) : ∀ v ∈ ([.string X, .string Y] : List Value), v.oneCell' = true := by simp [Value.oneCell']
/-- all texts of rows are short -/
def Short (l : List SetE) : Prop := ∀ p ∈ l, p.1.length ≤ 1000000 ∧ p.2.length ≤ 1000000
end Go.Proofs.YthefhfnmkjdekaaDoor
