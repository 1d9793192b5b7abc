/- Texts' beginnings, rows alike, and what a disk's acts leave of a file that was made sure. -/
import Derived.Test.YtbighckpogfcaaaDisk6
import Derived.Test.YtbighckpogfcaaaActs
namespace Go.Proofs.Ytbighckpogfcaaa
open Go.RowKit Go.Maps
theorem prefix_take {p l : List UInt8} (h : p.length ≤ l.length) : p.isPrefixOf l = (l.take p.length == p) := by
  rw [Bool.eq_iff_iff, List.isPrefixOf_iff_prefix, beq_iff_eq]
  constructor
  · rintro ⟨t, rfl⟩; simp
  · intro e; rw [← e]; exact List.take_prefix _ _
theorem prefix_short {p l : List UInt8} (h : ¬ p.length ≤ l.length) : p.isPrefixOf l = false := by
  rw [← Bool.not_eq_true, List.isPrefixOf_iff_prefix]
  exact fun e => h e.length_le
theorem shas_any (w : World) (s p : ByteArray) (hs : s.size ≤ 1000000) (hp : p.size ≤ 1000001) : Calls Try.prog 56 #[.string s, .string p] w fun e w' => e = .returned (.bool (p.data.toList.isPrefixOf s.data.toList)) ∧ w' = w := by
  have hs0 : (s.size : Int) ≤ 1000000 := by omega
  have hp0 : (p.size : Int) ≤ 1000001 := by omega
  by_cases h : p.size ≤ s.size
  · have h1 : (p.size : Int) ≤ s.size := by omega
    have e : p.data.toList.isPrefixOf s.data.toList = ((s.extract 0 p.size).toList == p.toList) := by
      rw [prefix_take (by rw [toList_length, toList_length]; exact h), ByteArray.toList_eq, ByteArray.toList_eq, extract_list, toList_length, List.drop_zero, Nat.sub_zero]
    rw [e]
    obtain ⟨X, hX⟩ : ∃ X, X = s.extract 0 p.size := ⟨_, rfl⟩
    rw [← hX]
    have hX' := hX.symm
    clear e hX
    go_enter Try.func56, Try.ntmps56
    go_wp2_with fail
    go_ret
    exact ⟨by simp, rfl⟩
  · rw [prefix_short (by rw [toList_length, toList_length]; exact h)]
    have h1 : ¬ (p.size : Int) ≤ s.size := by omega
    go_enter Try.func56, Try.ntmps56
    go_wp2_with fail
    go_ret
    exact ⟨rfl, rfl⟩
theorem has_any (w : World) (s p : ByteArray) (v : Bool) (hs : s.size ≤ 1000000) (hp : p.size ≤ 1000001) (hv : p.data.toList.isPrefixOf s.data.toList = v) : Calls Try.prog 23 #[.string s, .string p] w fun e w' => e = .returned (.bool v) ∧ w' = w := by
  have hc := fun w => shas_any w s p hs hp
  rw [hv] at hc
  clear hv
  go_enter Try.func23, Try.ntmps23
  go_wp2_with (go_at_call 56; refine (hc _).mono ?_; rintro e w2 ⟨rfl, rfl⟩)
  go_ret
  exact ⟨rfl, rfl⟩
theorem same01_any (w : World) (A B : Option Addr) (n c c' : Nat) (xs : List ByteArray) (ha : Rd w 1 A n (xs.map Value.string)) (hb : Rd w 1 B n (xs.map Value.string)) (hmx : n ≤ 8796093022208) :
    Calls Try.prog 24 #[.slice A n c, .slice B n c'] w fun e w' => e = .returned (.bool true) ∧ Below w.heap.size w w' := by
  have hn : xs.length = n := by have := ha.1; simpa using this
  have hmx' : (n : Int) ≤ 8796093022208 := by omega
  go_enter Try.func24, Try.ntmps24
  go_wp2_with fail
  go_loopw [13] (fun i wr => ∃ k m : Nat, k ≤ n ∧ i = .int .i64 k ∧ wr = w.drewN m) (fun i _ => n - (intOf i).toNat)
  case atStart => exact ⟨0, 0, by omega, rfl, rfl⟩
  case round =>
    obtain ⟨k, m, hk, rfl, rfl⟩ := hrel
    by_cases hlt : k < n
    · obtain ⟨b1, o1, rfl, hc1⟩ := ha.cell (j := k) (by simpa [hn] using hlt)
      obtain ⟨b2, o2, rfl, hc2⟩ := hb.cell (j := k) (by simpa [hn] using hlt)
      rw [List.getElem_map] at hc1 hc2
      obtain ⟨s, hs⟩ : ∃ s, s = xs[k]'(by omega) := ⟨_, rfl⟩
      rw [← hs] at hc1 hc2
      have hlt' : (k : Int) < n := by omega
      clear hs
      go_wp2_with fail
      go_quiet (fail)
      go_wp2_with fail
      go_roundw
      case rel => exact ⟨k + 1, _, by omega, by go_num, rfl⟩
      case measure => simp [intOf]; omega
    · have hlt' : ¬ (k : Int) < n := by omega
      go_wp2_with fail
      go_ret
      exact ⟨rfl, below_drewN (Below.refl _ _) _⟩

theorem strV_map (l : List (List UInt8)) : strV l = (l.map strB).map Value.string := by simp [strV]
theorem actsW_take_le (l : List ActE) (k : Nat) : actsW (l.take k) ≤ actsW l := by
  have h : actsW l = actsW (l.take k) + actsW (l.drop k) := by
    unfold actsW
    rw [← List.sum_append, ← List.map_append, List.take_append_drop]
  omega
/-- what is said of a disk while acts go by -/
structure PS (name : List UInt8) (W : Nat) (M : Tab FileE) (sure : List UInt8) : Prop where
  all : ∀ x ∈ M, x.1.length ≤ W ∧ x.2.1.length ≤ W ∧ x.2.2 ≤ x.2.1.length
  one : ∀ f, getM M name = some f → sure <+: f.1 ∧ sure.length ≤ f.2
  no : getM M name = none → sure = []
theorem PS.mono {name : List UInt8} {W W' : Nat} {M : Tab FileE} {sure : List UInt8} (h : PS name W M sure) (hW : W ≤ W') : PS name W' M sure :=
  ⟨fun x hx => ⟨Nat.le_trans (h.all x hx).1 hW, Nat.le_trans (h.all x hx).2.1 hW, (h.all x hx).2.2⟩, h.one, h.no⟩
theorem PS.file {name : List UInt8} {W : Nat} {M : Tab FileE} {sure : List UInt8} (h : PS name W M sure) (k : List UInt8) : (fileOf M k).1.length ≤ W ∧ (fileOf M k).2 ≤ (fileOf M k).1.length := by
  unfold fileOf
  cases hg : getM M k with
  | none => exact ⟨Nat.zero_le _, Nat.zero_le _⟩
  | some f => exact ⟨(h.all _ (getM_mem hg)).2.1, (h.all _ (getM_mem hg)).2.2⟩
theorem PS.put {name : List UInt8} {W : Nat} {M : Tab FileE} {sure : List UInt8} (h : PS name W M sure) {k : List UInt8} (hk : k.length ≤ W) {f : FileE} (h1 : f.1.length ≤ W) (h2 : f.2 ≤ f.1.length) {sure' : List UInt8}
    (h3 : k = name → sure' <+: f.1 ∧ sure'.length ≤ f.2) (h4 : k ≠ name → sure' = sure) : PS name W (putM M k f) sure' := by
  refine ⟨fun x hx => ?_, fun g hg => ?_, fun hg => ?_⟩
  · rcases mem_put hx with rfl | hx
    · exact ⟨hk, h1, h2⟩
    · exact h.all x hx
  · by_cases e : k = name
    · subst e
      rw [getM_put_same] at hg
      obtain rfl := Option.some.inj hg
      exact h3 rfl
    · rw [getM_put_ne M f (fun h => e h.symm)] at hg
      rw [h4 e]
      exact h.one g hg
  · by_cases e : k = name
    · subst e
      rw [getM_put_same] at hg
      cases hg
    · rw [getM_put_ne M f (fun h => e h.symm)] at hg
      rw [h4 e]
      exact h.no hg
theorem PS.sure_file {name : List UInt8} {W : Nat} {M : Tab FileE} {sure : List UInt8} (h : PS name W M sure) : sure <+: (fileOf M name).1 ∧ sure.length ≤ (fileOf M name).2 := by
  unfold fileOf
  cases hg : getM M name with
  | none => rw [h.no hg]; exact ⟨List.nil_prefix, Nat.zero_le _⟩
  | some f => exact h.one f hg
theorem PS.app {name : List UInt8} {W W' : Nat} {M : Tab FileE} {sure : List UInt8} (h : PS name W M sure) {k d : List UInt8} (hk : k.length ≤ W') (hd : W + d.length ≤ W') (left : Int) : PS name W' (appM M left k d) sure := by
  have hm : PS name W' M sure := h.mono (by omega)
  unfold appM
  split
  · obtain ⟨f1, f2⟩ := h.file k
    refine hm.put hk (by rw [List.length_append]; omega) (by rw [List.length_append]; simp only; omega) (fun e => ?_) (fun _ => rfl)
    subst e
    exact ⟨h.sure_file.1.trans (List.prefix_append _ _), h.sure_file.2⟩
  · exact hm
theorem PS.sync {name : List UInt8} {W : Nat} {M : Tab FileE} {sure : List UInt8} (h : PS name W M sure) {k : List UInt8} (hk : k.length ≤ W) (left : Int) {sure' : List UInt8} (hs : sure' = sure ∨ k = name ∧ beginE M left true [strB k] k = 0 ∧ sure' = (fileOf M name).1) : PS name W (syncM M left k) sure' := by
  obtain ⟨f1, f2⟩ := h.file k
  unfold syncM
  split
  · refine h.put (f := ((fileOf M k).1, (fileOf M k).1.length)) hk f1 (Nat.le_refl _) (fun e => ?_) (fun e => ?_)
    · subst e
      rcases hs with rfl | ⟨_, _, rfl⟩
      · exact ⟨h.sure_file.1, h.sure_file.1.length_le⟩
      · exact ⟨List.prefix_refl _, Nat.le_refl _⟩
    · rcases hs with rfl | ⟨e2, _⟩
      · rfl
      · exact absurd e2 e
  · rename_i h0
    rcases hs with rfl | ⟨_, e, _⟩
    · exact h
    · exact absurd e h0
theorem PS.rem {name : List UInt8} {W : Nat} {M : Tab FileE} {sure : List UInt8} (h : PS name W M sure) {k : List UInt8} (left : Int) {sure' : List UInt8} (hs : sure' = sure ∧ (k ≠ name ∨ beginE M left true [strB k] k ≠ 0) ∨ k = name ∧ beginE M left true [strB k] k = 0 ∧ sure' = []) : PS name W (remM M left k) sure' := by
  unfold remM
  split
  · rename_i h0
    refine ⟨fun x hx => h.all x (List.mem_filter.1 hx).1, fun f hf => ?_, fun hf => ?_⟩
    · by_cases e : k = name
      · subst e
        rw [getM_del_same] at hf
        cases hf
      · rw [getM_del_ne M (fun h => e h.symm)] at hf
        rcases hs with ⟨rfl, _⟩ | ⟨e2, _⟩
        · exact h.one f hf
        · exact absurd e2 e
    · by_cases e : k = name
      · rcases hs with ⟨_, e2 | e2⟩ | ⟨_, _, rfl⟩
        · exact absurd e e2
        · exact absurd h0 e2
        · rfl
      · rw [getM_del_ne M (fun h => e h.symm)] at hf
        rcases hs with ⟨rfl, _⟩ | ⟨e2, _⟩
        · exact h.no hf
        · exact absurd e2 e
  · rename_i h0
    rcases hs with ⟨rfl, _⟩ | ⟨_, e, _⟩
    · exact h
    · exact absurd e h0
theorem read_sync {M : Tab FileE} {left : Int} {k : List UInt8} (h : beginE M left true [strB k] k = 0) : readV (syncM M left k) k = .tuple #[.string (strB (fileOf M k).1), .int .i64 0] := by
  unfold syncM readV
  rw [if_pos h, getM_put_same]
theorem begin_ok {M : Tab FileE} {k : List UInt8} (hk : k ≠ []) : beginE M (-1) false [strB k] k = 0 := by
  unfold beginE
  rw [if_neg (by simp [strB, hk]), if_neg (by rw [Bool.false_and]; decide), if_neg (by decide)]
theorem begin_left (M : Tab FileE) (there : Bool) (ns : List ByteArray) (k : List UInt8) : beginL M (-1) there ns k = -1 := by
  unfold beginL
  rw [if_neg (by omega)]
/-- what is read at the end -/
theorem PS.end_ {name : List UInt8} {W : Nat} {M : Tab FileE} {sure : List UInt8} (h : PS name W M sure) {data : List UInt8} (hr : Rises (appM M (-1) name data)) (hn : name ≠ []) (ps : List Int) :
    ∃ F G : List UInt8, readV (appM M (-1) name data) name = .tuple #[.string (strB F), .int .i64 0] ∧ readV (crashP (appM M (-1) name data) ps).1 name = .tuple #[.string (strB G), .int .i64 0] ∧ sure.isPrefixOf G = true ∧ G.isPrefixOf F = true ∧ F.length ≤ W + data.length ∧ G.length ≤ W + data.length ∧ sure.length ≤ W := by
  obtain ⟨f1, f2⟩ := h.file name
  obtain ⟨s1, s2⟩ := h.sure_file
  have hE : appM M (-1) name data = putM M name ((fileOf M name).1 ++ data, (fileOf M name).2) := by unfold appM; rw [if_pos (begin_ok hn)]
  rw [hE] at hr ⊢
  have hg := getM_put_same M name ((fileOf M name).1 ++ data, (fileOf M name).2)
  obtain ⟨T, n, hT, hle⟩ := crash_get hr ps hg (by rw [List.length_append]; simp only; omega)
  refine ⟨_, _, by unfold readV; rw [hg], by unfold readV; rw [hT], ?_, ?_, by rw [List.length_append]; omega, by rw [List.length_take, List.length_append]; omega, by have := s1.length_le; omega⟩
  · rw [List.isPrefixOf_iff_prefix]
    simp only at hle
    exact List.prefix_of_prefix_length_le (s1.trans (List.prefix_append _ _)) (List.take_prefix _ _) (by have := s1.length_le; rw [List.length_take, List.length_append]; omega)
  · rw [List.isPrefixOf_iff_prefix]
    exact List.take_prefix _ _
end Go.Proofs.Ytbighckpogfcaaa
