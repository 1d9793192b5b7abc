/- Paths as plain functions of bytes. -/
import Derived.Test.YtdhmebilloefjaaDoorStr
namespace Go.Proofs.YtdhmebilloefjaaDoor

/-- what stands between strokes -/
def splitL : List UInt8 → List (List UInt8)
  | [] => [[]]
  | c :: l => if c = 47 then [] :: splitL l else (c :: (splitL l).headD []) :: (splitL l).tail
def joinL : List (List UInt8) → List UInt8
  | [] => []
  | [p] => p
  | p :: q :: r => p ++ 47 :: joinL (q :: r)
theorem splitL_ex (l : List UInt8) : ∃ p r, splitL l = p :: r := by
  cases l with
  | nil => exact ⟨_, _, rfl⟩
  | cons c l =>
    unfold splitL
    split
    · exact ⟨_, _, rfl⟩
    · exact ⟨_, _, rfl⟩
theorem splitL_ne (l : List UInt8) : splitL l ≠ [] := by
  obtain ⟨p, r, h⟩ := splitL_ex l
  rw [h]; simp
theorem splitL_stroke (l : List UInt8) : splitL (47 :: l) = [] :: splitL l := by rw [splitL, if_pos rfl]
theorem splitL_other {c : UInt8} {l p : List UInt8} {r : List (List UInt8)} (hc : c ≠ 47) (h : splitL l = p :: r) : splitL (c :: l) = (c :: p) :: r := by
  rw [splitL, if_neg hc, h]; rfl
theorem joinL_head (c : UInt8) (p : List UInt8) (r : List (List UInt8)) : joinL ((c :: p) :: r) = c :: joinL (p :: r) := by
  cases r <;> rfl
theorem joinL_splitL : ∀ l : List UInt8, joinL (splitL l) = l
  | [] => rfl
  | c :: l => by
    have ih := joinL_splitL l
    obtain ⟨p, r, h⟩ := splitL_ex l
    by_cases hc : c = 47
    · subst hc
      rw [splitL_stroke, h]
      show [] ++ 47 :: joinL (p :: r) = _
      rw [← h, ih]; rfl
    · rw [splitL_other hc h, joinL_head, ← h, ih]
theorem splitL_append : ∀ a b : List UInt8, splitL (a ++ 47 :: b) = splitL a ++ splitL b
  | [], b => by rw [List.nil_append, splitL_stroke]; rfl
  | c :: a, b => by
    have ih := splitL_append a b
    by_cases hc : c = 47
    · subst hc
      rw [List.cons_append, splitL_stroke, splitL_stroke, ih]; rfl
    · obtain ⟨p, r, h⟩ := splitL_ex a
      rw [h, List.cons_append] at ih
      rw [List.cons_append, splitL_other hc ih, splitL_other hc h]; rfl
theorem splitL_pure : ∀ {l : List UInt8}, 47 ∉ l → splitL l = [l]
  | [], _ => rfl
  | c :: l, h => by
    have hc : c ≠ 47 := fun e => h (by simp [e])
    exact splitL_other hc (splitL_pure (fun e => h (List.mem_cons_of_mem _ e)))
theorem splitL_mem : ∀ (l : List UInt8) {p : List UInt8}, p ∈ splitL l → 47 ∉ p
  | [], p, h => by rw [splitL, List.mem_singleton] at h; subst h; simp
  | c :: l, p, h => by
    obtain ⟨q, r, hq⟩ := splitL_ex l
    have ih : ∀ {x : List UInt8}, x ∈ splitL l → 47 ∉ x := fun hx => splitL_mem l hx
    by_cases hc : c = 47
    · subst hc
      rw [splitL_stroke, List.mem_cons] at h
      rcases h with rfl | h
      · simp
      · exact ih h
    · rw [splitL_other hc hq, List.mem_cons] at h
      rcases h with rfl | h
      · intro hm
        rcases List.mem_cons.1 hm with e | e
        · exact hc e.symm
        · exact ih (by rw [hq]; simp) e
      · exact ih (by rw [hq]; exact List.mem_cons_of_mem _ h)
/-- a text has no stroke, or a last one -/
theorem last_stroke : ∀ l : List UInt8, 47 ∉ l ∨ ∃ a b, l = a ++ 47 :: b ∧ 47 ∉ b
  | [] => .inl (by simp)
  | c :: l => by
    rcases last_stroke l with h | ⟨a, b, rfl, hb⟩
    · by_cases hc : c = 47
      · exact .inr ⟨[], l, by rw [hc]; rfl, h⟩
      · exact .inl (by simp [h]; exact fun e => hc e.symm)
    · exact .inr ⟨c :: a, b, rfl, hb⟩
theorem splitL_last {a b : List UInt8} (hb : 47 ∉ b) : splitL (a ++ 47 :: b) = splitL a ++ [b] := by rw [splitL_append, splitL_pure hb]
theorem splitL_snoc_stroke (l : List UInt8) : splitL (l ++ [47]) = splitL l ++ [[]] := by rw [splitL_append]; rfl
theorem splitL_snoc (l : List UInt8) {c : UInt8} (hc : c ≠ 47) : ∃ r p, splitL l = r ++ [p] ∧ splitL (l ++ [c]) = r ++ [p ++ [c]] := by
  rcases last_stroke l with h | ⟨a, b, rfl, hb⟩
  · refine ⟨[], l, by rw [splitL_pure h]; rfl, ?_⟩
    rw [splitL_pure (by simp [h]; exact fun e => hc e.symm)]; rfl
  · refine ⟨splitL a, b, splitL_last hb, ?_⟩
    rw [List.append_assoc, List.cons_append, splitL_last (by simp [hb]; exact fun e => hc e.symm)]
theorem splitL_length_le (l : List UInt8) : (splitL l).length ≤ l.length + 1 := by
  induction l with
  | nil => simp [splitL]
  | cons c l ih =>
    obtain ⟨p, r, h⟩ := splitL_ex l
    by_cases hc : c = 47
    · subst hc; rw [splitL_stroke]; simp; omega
    · rw [splitL_other hc h]; rw [h] at ih; simp at ih ⊢; omega
theorem splitL_length_pos (l : List UInt8) : 1 ≤ (splitL l).length := by
  obtain ⟨p, r, h⟩ := splitL_ex l
  rw [h]; simp

/-- may a part have it? -/
def signB (c : UInt8) : Bool := (decide (97 ≤ c.toNat) && decide (c.toNat ≤ 122)) || (decide (65 ≤ c.toNat) && decide (c.toNat ≤ 90)) || (decide (48 ≤ c.toNat) && decide (c.toNat ≤ 57)) || decide (c.toNat = 95) || decide (c.toNat = 46) || decide (c.toNat = 45) || decide (c.toNat = 43)
/-- is a text a part? -/
def partB (p : List UInt8) : Bool := !p.isEmpty && decide (p.length ≤ 64) && !(p == [46]) && !(p == [46, 46]) && p.all signB
/-- is a text a path? -/
def mayB (l : List UInt8) : Bool := (splitL l).all partB && decide ((splitL l).length ≤ 16)
def dirL (l : List UInt8) : List UInt8 := if mayB l = true then joinL (splitL l).dropLast else []
def baseL (l : List UInt8) : List UInt8 := if mayB l = true then (splitL l).getLastD [] else []
/-- from the last dot on, among the first k signs but the first one -/
def extFrom (b : List UInt8) : Nat → List UInt8
  | 0 => []
  | k + 1 => if k = 0 then [] else if b[k]? = some 46 then b.drop k else extFrom b k
def extOf (b : List UInt8) : List UInt8 := extFrom b b.length
def extL (l : List UInt8) : List UInt8 := extOf (baseL l)
/-- a path joined to a directory, or the error's number -/
def pjoin (d s : List UInt8) : List UInt8 × Int :=
  if (!d.isEmpty && !mayB d) || !mayB s then ([], 1) else if d.isEmpty then (s, 0) else if mayB (d ++ 47 :: s) then (d ++ 47 :: s, 0) else ([], 6)
def underB (l d : List UInt8) : Bool := mayB l && (d.isEmpty || (mayB d && (d ++ [47]).isPrefixOf l))

theorem partB_ne {p : List UInt8} (h : partB p = true) : p ≠ [] := by
  rintro rfl; simp [partB] at h
theorem mayB_ne {l : List UInt8} (h : mayB l = true) : l ≠ [] := by
  rintro rfl; simp [mayB, splitL, partB] at h
theorem mayB_append (d s : List UInt8) (hd : mayB d = true) (hs : mayB s = true) : mayB (d ++ 47 :: s) = decide ((splitL d).length + (splitL s).length ≤ 16) := by
  simp only [mayB, Bool.and_eq_true] at hd hs
  rw [mayB, splitL_append, List.all_append, hd.1, hs.1, List.length_append]; rfl
theorem mayB_front {a b : List UInt8} (h : mayB (a ++ 47 :: b) = true) : mayB a = true := by
  simp only [mayB, splitL_append, List.all_append, List.length_append, Bool.and_eq_true, decide_eq_true_eq] at h ⊢
  exact ⟨h.1.1, by omega⟩
theorem mayB_parts {a b : List UInt8} (hb : 47 ∉ b) (h : mayB (a ++ 47 :: b) = true) : partB b = true := by
  simp only [mayB, splitL_last hb, List.all_append, List.length_append, Bool.and_eq_true, decide_eq_true_eq] at h
  simpa using h.1.2
theorem dirL_pure {l : List UInt8} (h : 47 ∉ l) : dirL l = [] := by
  unfold dirL
  split
  · rw [splitL_pure h]; rfl
  · rfl
theorem dirL_last {a b : List UInt8} (hb : 47 ∉ b) (h : mayB (a ++ 47 :: b) = true) : dirL (a ++ 47 :: b) = a := by
  rw [dirL, if_pos h, splitL_last hb, List.dropLast_concat, joinL_splitL]
theorem baseL_pure {l : List UInt8} (h : 47 ∉ l) (hm : mayB l = true) : baseL l = l := by rw [baseL, if_pos hm, splitL_pure h]; rfl
theorem baseL_last {a b : List UInt8} (hb : 47 ∉ b) (h : mayB (a ++ 47 :: b) = true) : baseL (a ++ 47 :: b) = b := by
  rw [baseL, if_pos h, splitL_last hb]; simp
theorem mayB_one {p : List UInt8} (h47 : 47 ∉ p) (h : partB p = true) : mayB p = true := by
  rw [mayB, splitL_pure h47]; simp [h]

/-- a prefix with a stroke behind it, across the last stroke -/
theorem prefix_last {d a b : List UInt8} (hb : 47 ∉ b) : (d ++ [47]).isPrefixOf (a ++ 47 :: b) = (decide (d = a) || (d ++ [47]).isPrefixOf a) := by
  rw [Bool.eq_iff_iff, Bool.or_eq_true, decide_eq_true_eq, List.isPrefixOf_iff_prefix, List.isPrefixOf_iff_prefix]
  constructor
  · rintro ⟨t, ht⟩
    rw [List.append_assoc, List.singleton_append] at ht
    rcases List.append_eq_append_iff.1 ht with ⟨x, h1, h2⟩ | ⟨x, h1, h2⟩
    · cases x with
      | nil => left; simpa using h1.symm
      | cons y x =>
        right
        simp only [List.cons_append, List.cons.injEq] at h2
        refine ⟨x, ?_⟩
        rw [h1, ← h2.1, List.append_assoc]; rfl
    · cases x with
      | nil => left; simpa using h1
      | cons y x =>
        simp only [List.cons_append, List.cons.injEq] at h2
        exact absurd (by rw [h2.2]; simp) hb
  · rintro (rfl | ⟨t, ht⟩)
    · exact ⟨b, by simp⟩
    · exact ⟨t ++ 47 :: b, by rw [← List.append_assoc, ht]⟩
theorem prefix_pure {d l : List UInt8} (h : 47 ∉ l) : (d ++ [47]).isPrefixOf l = false := by
  rw [← Bool.not_eq_true, List.isPrefixOf_iff_prefix]
  rintro ⟨t, ht⟩
  exact h (by rw [← ht]; simp)
/-- a path is under its directory, or under what that one is under -/
theorem underB_step {a b d : List UInt8} (hb : 47 ∉ b) (h : mayB (a ++ 47 :: b) = true) (hd : d ≠ []) : underB (a ++ 47 :: b) d = (decide (a = d) || underB a d) := by
  have ha := mayB_front h
  have he : d.isEmpty = false := by cases d <;> simp_all
  rw [underB, h, he, prefix_last hb, underB, ha, he]
  by_cases hda : d = a
  · subst hda; simp [ha]
  · have hda' : ¬ a = d := fun e => hda e.symm
    simp [hda, hda']
theorem underB_pure {l d : List UInt8} (h : 47 ∉ l) (hd : d ≠ []) : underB l d = false := by
  have he : d.isEmpty = false := by cases d <;> simp_all
  rw [underB, he, prefix_pure h]; simp
theorem underB_nil {l : List UInt8} (h : mayB l = true) : underB l [] = true := by simp [underB, h]
theorem underB_no {l d : List UInt8} (h : mayB l = false) : underB l d = false := by simp [underB, h]
theorem underB_self (l : List UInt8) : underB l l = false := by
  by_cases hm : mayB l = true
  · have hne := mayB_ne hm
    have he : l.isEmpty = false := by cases l <;> simp_all
    rw [underB, he]
    have : (l ++ [47]).isPrefixOf l = false := by
      rw [← Bool.not_eq_true, List.isPrefixOf_iff_prefix]
      intro h
      have := h.length_le
      simp at this
      omega
    rw [this]; simp
  · simp [underB, hm]
/-- what is joined is a path under the directory -/
theorem pjoin_ok {d s : List UInt8} (h : (pjoin d s).2 = 0) : mayB (pjoin d s).1 = true ∧ underB (pjoin d s).1 d = true := by
  revert h
  unfold pjoin
  by_cases h1 : ((!d.isEmpty && !mayB d) || !mayB s) = true
  · rw [if_pos h1]; intro h; cases h
  · rw [if_neg h1]
    simp only [Bool.or_eq_true, Bool.and_eq_true, Bool.not_eq_true', not_or, not_and, Bool.not_eq_false] at h1
    by_cases h2 : d.isEmpty = true
    · rw [if_pos h2]
      have : d = [] := by simpa using h2
      subst this
      exact fun _ => ⟨h1.2, underB_nil h1.2⟩
    · rw [if_neg h2]
      by_cases h3 : mayB (d ++ 47 :: s) = true
      · rw [if_pos h3]
        intro _
        refine ⟨h3, ?_⟩
        rw [underB, h3, h1.1 (by simpa using h2)]
        have : (d ++ [47]).isPrefixOf (d ++ 47 :: s) = true := by rw [List.isPrefixOf_iff_prefix]; exact ⟨s, by simp⟩
        rw [this]; simp
      · rw [if_neg h3]; intro h; cases h
/-- the first two of a path are joined to it again -/
theorem pjoin_back {l : List UInt8} (h : mayB l = true) : pjoin (dirL l) (baseL l) = (l, 0) := by
  rcases last_stroke l with h47 | ⟨a, b, rfl, hb⟩
  · rw [dirL_pure h47, baseL_pure h47 h]
    simp [pjoin, h]
  · rw [dirL_last hb h, baseL_last hb h]
    have ha := mayB_front h
    have hb' := mayB_one hb (mayB_parts hb h)
    have hne := mayB_ne ha
    have he : a.isEmpty = false := by cases a <;> simp_all
    simp [pjoin, h, ha, hb', hne]
theorem noPath {l : List UInt8} (h : mayB l = false) : dirL l = [] ∧ baseL l = [] ∧ extL l = [] := by
  have hb : baseL l = [] := by simp [baseL, h]
  refine ⟨by simp [dirL, h], hb, ?_⟩
  rw [extL, hb]; rfl
/-- the directory's directory, so many times -/
def upL (l : List UInt8) : Nat → List UInt8
  | 0 => l
  | k + 1 => dirL (upL l k)
theorem dirL_parts {l : List UInt8} (h : mayB l = true) (h1 : 2 ≤ (splitL l).length) : mayB (dirL l) = true ∧ (splitL (dirL l)).length + 1 = (splitL l).length := by
  rcases last_stroke l with h47 | ⟨a, b, rfl, hb⟩
  · rw [splitL_pure h47] at h1; simp at h1
  · rw [dirL_last hb h]
    exact ⟨mayB_front h, by rw [splitL_last hb]; simp⟩
theorem dirL_top {l : List UInt8} (h : mayB l = true) (h1 : (splitL l).length ≤ 1) : dirL l = [] := by
  rcases last_stroke l with h47 | ⟨a, b, rfl, hb⟩
  · exact dirL_pure h47
  · rw [splitL_last hb, List.length_append, List.length_singleton] at h1
    have := splitL_length_pos a
    omega
theorem upL_may {l : List UInt8} (h : mayB l = true) : ∀ k, k < (splitL l).length → mayB (upL l k) = true ∧ (splitL (upL l k)).length + k = (splitL l).length
  | 0, _ => ⟨h, rfl⟩
  | k + 1, hk => by
    obtain ⟨h1, h2⟩ := upL_may h k (by omega)
    obtain ⟨h3, h4⟩ := dirL_parts h1 (by omega)
    exact ⟨h3, by show (splitL (dirL (upL l k))).length + (k + 1) = _; omega⟩
theorem upL_end {l : List UInt8} (h : mayB l = true) : upL l (splitL l).length = [] := by
  have hp := splitL_length_pos l
  obtain ⟨k, hk⟩ : ∃ k, (splitL l).length = k + 1 := ⟨(splitL l).length - 1, by omega⟩
  obtain ⟨h1, h2⟩ := upL_may h k (by omega)
  rw [hk]
  exact dirL_top h1 (by omega)
theorem upL_ne {l : List UInt8} (h : mayB l = true) {k : Nat} (hk : k < (splitL l).length) : upL l k ≠ [] := mayB_ne (upL_may h k hk).1
/-- a path is under what is below its directory -/
theorem underB_dir {l d : List UInt8} (h : mayB l = true) (hd : d ≠ []) : underB l d = (decide (dirL l = d) || (decide (dirL l ≠ []) && underB (dirL l) d)) := by
  rcases last_stroke l with h47 | ⟨a, b, rfl, hb⟩
  · have hd' : ¬ [] = d := fun e => hd e.symm
    rw [dirL_pure h47, underB_pure h47 hd]
    simp [hd']
  · have hne := mayB_ne (mayB_front h)
    rw [dirL_last hb h, underB_step hb h hd]
    simp [hne]
/-- was a directory met on the way up, in so many steps? -/
def metB (l d : List UInt8) : Nat → Bool
  | 0 => false
  | k + 1 => metB l d k || decide (upL l (k + 1) = d)
theorem underB_up {l d : List UInt8} (h : mayB l = true) (hd : d ≠ []) : ∀ k, k < (splitL l).length → underB l d = (metB l d k || underB (upL l k) d)
  | 0, _ => by simp [metB, upL]
  | k + 1, hk => by
    have ih := underB_up h hd k (by omega)
    obtain ⟨h1, h2⟩ := upL_may h k (by omega)
    have hn : upL l (k + 1) ≠ [] := upL_ne h hk
    rw [ih, underB_dir h1 hd, metB]
    show (metB l d k || (decide (upL l (k + 1) = d) || (decide (upL l (k + 1) ≠ []) && underB (upL l (k + 1)) d))) = _
    rw [Bool.or_assoc]; simp [hn]
theorem metB_end {l d : List UInt8} (h : mayB l = true) : metB l d (splitL l).length = underB l d := by
  have hp := splitL_length_pos l
  obtain ⟨k, hk⟩ : ∃ k, (splitL l).length = k + 1 := ⟨(splitL l).length - 1, by omega⟩
  obtain ⟨h1, h2⟩ := upL_may h k (by omega)
  have he : upL l (k + 1) = [] := by rw [← hk]; exact upL_end h
  by_cases hd : d = []
  · subst hd
    rw [hk, metB, he, underB_nil h]; simp
  · have htop : dirL (upL l k) = [] := he
    have hd' : ¬ [] = d := fun e => hd e.symm
    rw [underB_up h hd k (by omega), hk, metB, he, underB_dir h1 hd, htop]
    simp [hd']
/-- a path is under each of those -/
theorem underB_met {l : List UInt8} (h : mayB l = true) {k : Nat} (hk : k < (splitL l).length) : underB l (upL l (k + 1)) = true := by
  by_cases hd : upL l (k + 1) = []
  · rw [hd]; exact underB_nil h
  · obtain ⟨h1, h2⟩ := upL_may h k hk
    rw [underB_up h hd k hk, underB_dir h1 hd]
    simp [upL]
end Go.Proofs.YtdhmebilloefjaaDoor
