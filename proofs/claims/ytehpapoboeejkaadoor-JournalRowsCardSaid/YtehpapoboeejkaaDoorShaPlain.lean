/- Plain laws on the words of a block: as they are gathered byte by byte in a row of 64, and stretched in place. -/
import Derived.Test.YtehpapoboeejkaaDoorSha
import Derived.Test.YtehpapoboeejkaaDoorNum
namespace Go.Proofs.YtehpapoboeejkaaDoor.Sha

theorem or4 (a b c d : UInt32) : or32 (shl32 (or32 (shl32 (or32 (shl32 (or32 (shl32 0 8) a) 8) b) 8) c) 8) d = a <<< 24 ||| b <<< 16 ||| c <<< 8 ||| d := by
  simp only [or32, shl32]
  apply UInt32.toBitVec_inj.1
  simp only [UInt32.toBitVec_or, UInt32.toBitVec_shiftLeft]
  have h8 : (8 : UInt32).toBitVec % 32 = 8#32 := rfl
  have h16 : (16 : UInt32).toBitVec % 32 = 16#32 := rfl
  have h24 : (24 : UInt32).toBitVec % 32 = 24#32 := rfl
  simp only [h8, h16, h24, BitVec.shiftLeft_or_distrib, BitVec.shiftLeft_eq', BitVec.toNat_ofNat, ← BitVec.shiftLeft_add]
  show (0#32) <<< _ ||| _ ||| _ ||| _ ||| _ = _
  simp

/-- the row of 64 words behind k bytes -/
def acc (l : List UInt8) : Nat → List UInt32
  | 0 => List.replicate 64 0
  | k + 1 => (acc l k).set (k / 4) (or32 (shl32 ((acc l k).getD (k / 4) 0) 8) (of8 (l.getD k 0)))
theorem acc_length (l : List UInt8) (k : Nat) : (acc l k).length = 64 := by
  induction k with
  | zero => rfl
  | succ k ih => rw [acc, List.length_set, ih]
theorem acc_four (l : List UInt8) (k : Nat) (hk : k < 64) (h0 : (acc l (4 * k)).getD k 0 = 0) : acc l (4 * (k + 1)) = (acc l (4 * k)).set k (wordAt l (4 * k)) := by
  have hl := acc_length l (4 * k)
  have e : 4 * (k + 1) = 4 * k + 1 + 1 + 1 + 1 := by omega
  have d0 : 4 * k / 4 = k := by omega
  have d1 : (4 * k + 1) / 4 = k := by omega
  have d2 : (4 * k + 1 + 1) / 4 = k := by omega
  have d3 : (4 * k + 1 + 1 + 1) / 4 = k := by omega
  rw [e]
  simp only [acc, d0, d1, d2, d3, List.set_set]
  have g : ∀ x : UInt32, ((acc l (4 * k)).set k x).getD k 0 = x := fun x => by
    rw [List.getD_eq_getElem?_getD, List.getElem?_set_self (by omega)]; rfl
  simp only [g, h0, or4, wordAt]
  rfl
theorem acc_words (l : List UInt8) : ∀ k, k ≤ 16 → acc l (4 * k) = ((List.range k).map fun i => wordAt l (4 * i)) ++ List.replicate (64 - k) 0 := by
  intro k
  induction k with
  | zero => intro _; rfl
  | succ k ih =>
    intro hk
    have ih := ih (by omega)
    rw [acc_four l k (by omega), ih, List.range_succ, List.map_append]
    · have e : 64 - k = (64 - (k + 1)) + 1 := by omega
      rw [e, List.replicate_succ, List.set_append_right _ _ (by simp)]
      simp
    · rw [ih, List.getD_eq_getElem?_getD, List.getElem?_append_right (by simp), List.getElem?_replicate]
      split <;> rfl
/-- the row of 64 words with n + 16 of them told -/
def row (l : List UInt8) (n : Nat) : List UInt32 := words l n ++ List.replicate (48 - n) 0
theorem acc_row (l : List UInt8) : acc l 64 = row l 0 := acc_words l 16 (by omega)
theorem words_length (l : List UInt8) (n : Nat) : (words l n).length = n + 16 := by
  induction n with
  | zero => simp [words]
  | succ n ih => simp only [words, List.length_append, ih, List.length_singleton]
theorem row_length (l : List UInt8) (n : Nat) (h : n ≤ 48) : (row l n).length = 64 := by simp only [row, List.length_append, words_length, List.length_replicate]; omega
theorem row_getD (l : List UInt8) (n j : Nat) (h : j < n + 16) : (row l n).getD j 0 = (words l n).getD j 0 := by
  rw [row, List.getD_eq_getElem?_getD, List.getElem?_append_left (by rw [words_length]; exact h), ← List.getD_eq_getElem?_getD]
theorem row_succ (l : List UInt8) (n : Nat) (h : n < 48) : row l (n + 1) = (row l n).set (n + 16) (nextWord (row l n) n) := by
  have e : 48 - n = (48 - (n + 1)) + 1 := by omega
  have hw := words_length l n
  have hn : nextWord (row l n) n = nextWord (words l n) n := by
    simp only [nextWord, row_getD l n n (by omega), row_getD l n (n + 1) (by omega), row_getD l n (n + 9) (by omega), row_getD l n (n + 14) (by omega)]
  rw [hn, row, row, words, e, List.replicate_succ, List.set_append_right _ _ (by omega), hw]
  simp
theorem row_full (l : List UInt8) : row l 48 = words l 48 := by simp [row]
/-! blocks one behind the other -/
theorem blocks_congr (n : Nat) : ∀ (s : S8) (l l' : List UInt8), l.take (64 * n) = l'.take (64 * n) → blocks n s l = blocks n s l' := by
  induction n with
  | zero => intros; rfl
  | succ n ih =>
    intro s l l' h
    have h1 : l.take 64 = l'.take 64 := by
      have := congrArg (List.take 64) h
      rwa [List.take_take, List.take_take, Nat.min_eq_left (by omega)] at this
    have h2 : (l.drop 64).take (64 * n) = (l'.drop 64).take (64 * n) := by
      have := congrArg (List.drop 64) h
      rw [List.drop_take, List.drop_take, show 64 * (n + 1) - 64 = 64 * n by omega] at this
      exact this
    rw [blocks, blocks, h1, ih _ _ _ h2]
theorem blocks_add (m : Nat) : ∀ (n : Nat) (s : S8) (l : List UInt8), blocks (n + m) s l = blocks m (blocks n s l) (l.drop (64 * n))
  | 0, s, l => by simp [blocks]
  | n + 1, s, l => by
    rw [show n + 1 + m = (n + m) + 1 by omega, blocks, blocks, blocks_add m n, List.drop_drop, show 64 + 64 * n = 64 * (n + 1) by omega]
theorem blocks_succ (n : Nat) (s : S8) (l : List UInt8) : blocks (n + 1) s l = block (blocks n s l) ((l.drop (64 * n)).take 64) := by
  rw [blocks_add 1 n, blocks, blocks]
end Go.Proofs.YtehpapoboeejkaaDoor.Sha
