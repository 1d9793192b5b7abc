/- Frames of records, and the front of one more behind them: what is told of them. -/
import Derived.Test.YtehpapoboeejkaaDoorJp4
namespace Go.Proofs.YtehpapoboeejkaaDoor
open Go.RowKit
theorem four_num4 (n : Nat) (h : n ≤ 1048576) (t : List UInt8) : four (num4 n ++ t) = n := by
  simp only [four, num4, List.cons_append, List.nil_append, List.getD_cons_zero, List.getD_cons_succ, UInt8.toNat_ofNat']
  omega
theorem frameL_cat (r t : List UInt8) : frameL r ++ t = num4 r.length ++ ((Sha.sum (num4 r.length ++ r)).take 8 ++ (r ++ t)) := by
  simp [frameL, headL]
theorem firstL_frame (r t : List UInt8) (h : r.length ≤ 1048576) : firstL (frameL r ++ t) = some r := by
  have hf : four (frameL r ++ t) = r.length := by rw [frameL_cat]; exact four_num4 _ h _
  have hd : (frameL r ++ t).drop 12 = r ++ t := by
    rw [frameL, List.append_assoc, List.drop_append_of_le_length (by rw [headL_length]; omega), List.drop_of_length_le (by rw [headL_length]; omega), List.nil_append]
  have ht : (frameL r ++ t).take 12 = headL r := by
    rw [frameL, List.append_assoc, List.take_append_of_le_length (by rw [headL_length]; omega), List.take_of_length_le (by rw [headL_length]; omega)]
  have hr : (r ++ t).take r.length = r := by simp
  unfold firstL
  rw [hf, hd, ht, hr, if_pos]
  refine ⟨?_, h, ?_, rfl⟩ <;> rw [List.length_append, frameL_length] <;> omega
theorem firstL_front (r : List UInt8) (h : r.length ≤ 1048576) (j : Nat) (hj : j < r.length + 12) : firstL ((frameL r).take j) = none := by
  have hl : ((frameL r).take j).length = j := by rw [List.length_take, frameL_length]; omega
  unfold firstL
  rw [if_neg]
  rintro ⟨h1, _, h3, _⟩
  rw [hl] at h1 h3
  have hf : four ((frameL r).take j) = r.length := by
    have e : (frameL r).take j = num4 r.length ++ ((Sha.sum (num4 r.length ++ r)).take 8 ++ r).take (j - 4) := by
      have := frameL_cat r []
      rw [List.append_nil, List.append_nil] at this
      rw [this, List.take_append, num4_length, List.take_of_length_le (by rw [num4_length]; omega)]
    rw [e]
    exact four_num4 _ h _
  omega
/-- frames, one behind the other -/
def framesL : List (List UInt8) → List UInt8
  | [] => []
  | r :: rs => frameL r ++ framesL rs
theorem framesL_append (a b : List (List UInt8)) : framesL (a ++ b) = framesL a ++ framesL b := by
  induction a with
  | nil => rfl
  | cons x a ih => simp [framesL, ih]
theorem framesL_take (rs : List (List UInt8)) (k : Nat) (h : k < rs.length) : framesL (rs.take (k + 1)) = framesL (rs.take k) ++ frameL rs[k] := by
  rw [List.take_succ_eq_append_getElem h, framesL_append]; simp [framesL]
theorem framesL_split (rs : List (List UInt8)) (k : Nat) (h : k < rs.length) : framesL rs = framesL (rs.take k) ++ (frameL rs[k] ++ framesL (rs.drop (k + 1))) := by
  conv => lhs; rw [← List.take_append_drop (k + 1) rs, framesL_append, framesL_take rs k h]
  rw [List.append_assoc]
theorem scanK_frames (rs : List (List UInt8)) (p : List UInt8) (hrs : ∀ r ∈ rs, r.length ≤ 1048576) : ∀ k, k ≤ rs.length → scanK (framesL rs ++ p) k = (rs.take k, (framesL (rs.take k)).length)
  | 0, _ => rfl
  | k + 1, hk => by
    have ih := scanK_frames rs p hrs k (by omega)
    have hf : firstL ((framesL rs ++ p).drop (scanK (framesL rs ++ p) k).2) = some rs[k] := by
      rw [ih]
      show firstL ((framesL rs ++ p).drop (framesL (rs.take k)).length) = _
      rw [framesL_split rs k (by omega), List.append_assoc, List.drop_left, List.append_assoc]
      exact firstL_frame _ _ (hrs _ (List.getElem_mem _))
    rw [scanK_some hf, ih, framesL_take rs k (by omega), List.length_append, frameL_length, List.take_succ_eq_append_getElem (show k < rs.length by omega), Nat.add_comm 12]
theorem scanL_frames (rs : List (List UInt8)) (r : List UInt8) (j : Nat) (hrs : ∀ r ∈ rs, r.length ≤ 1048576) (hr : r.length ≤ 1048576) (hj : j < r.length + 12) : scanL (framesL rs ++ (frameL r).take j) = (rs, (framesL rs).length) := by
  have h := scanK_frames rs ((frameL r).take j) hrs rs.length (Nat.le_refl _)
  rw [List.take_of_length_le (Nat.le_refl _)] at h
  have hn : firstL ((framesL rs ++ (frameL r).take j).drop (scanK (framesL rs ++ (frameL r).take j) rs.length).2) = none := by
    rw [h]
    show firstL ((framesL rs ++ (frameL r).take j).drop (framesL rs).length) = none
    rw [List.drop_left]
    exact firstL_front r hr j hj
  have hle : rs.length ≤ (framesL rs ++ (frameL r).take j).length := by
    have : ∀ l : List (List UInt8), l.length ≤ (framesL l).length := by
      intro l
      induction l with
      | nil => simp
      | cons x l ih => simp only [framesL, List.length_append, List.length_cons, frameL_length]; omega
    have := this rs
    rw [List.length_append]; omega
  rw [scanL_of hn hle, h]
end Go.Proofs.YtehpapoboeejkaaDoor
