/- The walk of JournalSure. -/
import Derived.Test.YtehpapoboeejkaaDoorJo6
import Derived.Test.YtehpapoboeejkaaDoorJp8
namespace Go.Proofs.YtehpapoboeejkaaDoor
open Go.RowKit Go.Maps
abbrev logS : ByteArray := ⟨#[108, 111, 103]⟩
theorem logS_list : logS.data.toList = kLog := rfl
theorem logS_some : logS.toList.isEmpty = false := by
  cases h : logS.toList.isEmpty with
  | false => rfl
  | true =>
    rw [List.isEmpty_iff, ByteArray.toList_eq] at h
    cases h
theorem open_new (w : World) (p b n : Nat) (h : DiskIs w p b n [] (-1)) (hn : n ≤ 800000) :
    Calls Tryd.prog 6 #[.pointer (some ⟨p, 0, none⟩), .string logS] w fun e w' => ∃ (j : Nat) (A : Option Addr) (c : Nat), e = .returned (.tuple #[.pointer (some ⟨j, 0, none⟩), .slice A 0 c, .int .i64 0]) ∧ DiskIs w' p b (n + 3) [] (-1) ∧ But p b w w' ∧ JIs w' j p logS false ∧ w.heap.size ≤ j := by
  refine (open_any w p b n [] (-1) h hn (by omega) logS logS_some (by decide) (by simp)).mono ?_
  rintro e w' ⟨jv, A, c, he, _, hd, hb, hj, _⟩
  obtain ⟨j, rfl, hj2, hjg⟩ := hj rfl
  exact ⟨j, A, c, he, hd, hb, hj2, hjg⟩
/-- between two rounds of JournalSure -/
structure SureAt (w : World) (j p b : Nat) (rs : List (List UInt8)) (k : Nat) (wr : World) : Prop where
  below : Below w.heap.size w wr
  jis : JIs wr j p logS false
  disk : ∃ left, DiskIs wr p b (2 * k + 5) (stT rs k) left ∧ -1 ≤ left ∧ left ≤ 1000
theorem stT_len {rs : List (List UInt8)} (hrs : ∀ r ∈ rs, r.length ≤ 100) (hl : rs.length ≤ 12) (k : Nat) : (framesL (rs.take k)).length ≤ 1344 := by
  have h : ∀ l : List (List UInt8), (∀ r ∈ l, r.length ≤ 100) → (framesL l).length ≤ 112 * l.length := by
    intro l
    induction l with
    | nil => intro _; simp [framesL]
    | cons r l ih =>
      intro hl
      have h1 := ih (fun x hx => hl x (List.mem_cons_of_mem _ hx))
      have h2 := hl r (List.mem_cons_self ..)
      simp only [framesL, List.length_append, frameL_length, List.length_cons]
      omega
  have := h (rs.take k) (fun r hr => hrs r (List.mem_of_mem_take hr))
  rw [List.length_take] at this
  omega
theorem stT_file {rs : List (List UInt8)} (hrs : ∀ r ∈ rs, r.length ≤ 100) (hl : rs.length ≤ 12) (k : Nat) (nm : List UInt8) : (fileOf (stT rs k) nm).1.length ≤ 100000000 := by
  have h := stT_len hrs hl k
  unfold stT
  split
  · exact Nat.zero_le _
  · unfold fileOf getM logT
    simp only [List.find?_cons, List.find?_nil]
    split
    · exact Nat.le_trans h (by decide)
    · exact Nat.zero_le _
theorem logT_all {d : List UInt8} {s B : Nat} (h : d.length ≤ B) : ∀ x ∈ logT d s, x.2.1.length ≤ B := by
  intro x hx
  rw [logT, List.mem_singleton] at hx
  subst hx
  exact h
theorem EndS.all {rs : List (List UInt8)} (hrs : ∀ r ∈ rs, r.length ≤ 100) (hl : rs.length ≤ 12) {k : Nat} {M : Tab FileE} (h : EndS rs k M) : ∀ x ∈ M, x.1.length ≤ 1000000000 ∧ x.2.1.length ≤ 1000000 ∧ x.2.2 ≤ x.2.1.length := by
  have hs := stT_len hrs hl k
  intro x hx
  rcases h with rfl | ⟨r, hr, rfl⟩
  · unfold stT at hx
    split at hx
    · cases hx
    · rw [logT, List.mem_singleton] at hx
      subst hx
      exact ⟨(show (3 : Nat) ≤ 1000000000 by decide), by simp only; omega, Nat.le_refl _⟩
  · have h2 := hrs r (List.mem_of_getElem? hr)
    rw [logT, List.mem_singleton] at hx
    subst hx
    refine ⟨(show (3 : Nat) ≤ 1000000000 by decide), ?_, ?_⟩ <;> simp only [List.length_append, frameL_length] <;> omega
theorem crash_all {M : Tab FileE} (h : ∀ x ∈ M, x.1.length ≤ 1000000000 ∧ x.2.1.length ≤ 1000000 ∧ x.2.2 ≤ x.2.1.length) (ps : List Int) : ∀ x ∈ (crashP M ps).1, x.2.1.length ≤ 1000000 := by
  have key : ∀ (l : Tab FileE) (acc : Tab FileE × List Int), (∀ x ∈ acc.1, x.2.1.length ≤ 1000000) → (∀ x ∈ l, x.2.1.length ≤ 1000000) → ∀ x ∈ (l.foldl (fun acc x => (acc.1 ++ [(crash1 x acc.2).1], (crash1 x acc.2).2)) acc).1, x.2.1.length ≤ 1000000 := by
    intro l
    induction l with
    | nil => intro acc h1 _; exact h1
    | cons y l ih =>
      intro acc h1 h2
      refine ih _ ?_ (fun z hz => h2 z (List.mem_cons_of_mem _ hz))
      intro x hx
      rcases List.mem_append.1 hx with hx | hx
      · exact h1 x hx
      · rw [List.mem_singleton] at hx
        subst hx
        have h3 := h2 y (List.mem_cons_self ..)
        unfold crash1
        split
        · simp only [List.length_take]
          omega
        · exact h3
  exact key M ([], ps) (fun x hx => by cases hx) (fun x hx => (h x hx).2.1)
theorem EndS.len {rs : List (List UInt8)} {k : Nat} {M : Tab FileE} (h : EndS rs k M) : M.length ≤ 800000 := by
  rcases h with rfl | ⟨r, hr, rfl⟩
  · unfold stT
    split
    · exact Nat.zero_le _
    · exact (show 1 ≤ 800000 by decide)
  · exact (show 1 ≤ 800000 by decide)
/-- opened again behind a crash -/
theorem open_sure (w : World) (p b n : Nat) {rs : List (List UInt8)} (hrs : ∀ r ∈ rs, r.length ≤ 100) (hl : rs.length ≤ 12) {k : Nat} (hk : k ≤ rs.length) {M : Tab FileE} (hend : EndS rs k M) (qs : List Int) (h : DiskIs w p b n (crashP M qs).1 (-1)) (hn : n ≤ 800000) :
    Calls Tryd.prog 6 #[.pointer (some ⟨p, 0, none⟩), .string logS] w fun e w' => ∃ (jv : Value) (A : Option Addr) (c m : Nat), e = .returned (.tuple #[jv, .slice A m c, .int .i64 0]) ∧ (k ≤ m ∧ m ≤ k + 1 ∧ m ≤ rs.length) ∧ Rd w' 1 A m (strV (rs.take m)) ∧ But p b w w' := by
  obtain ⟨h0, m, hm1, hm2, hm3, hm4⟩ := sure_open (fun r hr => Nat.le_trans (hrs r hr) (by decide)) hk hend qs
  refine (open_any w p b n _ (-1) h hn (by omega) logS logS_some (by decide) (crash_all (hend.all hrs hl) qs)).mono ?_
  rintro e w' ⟨jv, A, c, he, ho, _, hb, _⟩
  rw [logS_list] at he ho
  rw [h0, hm4] at he
  rw [hm4] at ho
  have hlm : (rs.take m).length = m := by rw [List.length_take]; omega
  rw [hlm] at he ho
  exact ⟨jv, A, c, m, he, ⟨hm1, hm2, hm3⟩, ho.rd, hb⟩
theorem Rd.front {w : World} {A : Option Addr} {n m : Nat} {xs : List Value} (h : Rd w 1 A n xs) (hm : m ≤ n) : Rd w 1 A m (xs.take m) := by
  have := h.take hm
  rwa [Nat.mul_one] at this
end Go.Proofs.YtehpapoboeejkaaDoor
