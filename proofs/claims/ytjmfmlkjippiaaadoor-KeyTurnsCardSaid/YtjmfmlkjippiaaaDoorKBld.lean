/- strings.Builder, written by texts: beside what text Sha7 has. -/
import Derived.Test.YtjmfmlkjippiaaaDoorSha7
namespace Go.Proofs.YtjmfmlkjippiaaaDoor
open Go.RowKit
set_option maxRecDepth 100000
theorem BldAt.below {w w' : World} {base g B : Nat} {l : List UInt8} (h : BldAt w base g l) (hb : Below B w w') (hB : w.heap.size ≤ B) : BldAt w' base g l := by
  obtain ⟨hbg, p, A, c, hg, hp, hown⟩ := h
  exact ⟨hbg, p, A, c, (hb.block _ (by have := heap_lt hg; omega)).trans hg, hp, hown.below hb hB⟩
theorem BldAt.lt {w : World} {base g : Nat} {l : List UInt8} (h : BldAt w base g l) : g < w.heap.size := by
  obtain ⟨_, p, A, c, hg, _⟩ := h
  exact heap_lt hg
/-- a builder that nothing was written to -/
def BldNew (w : World) (g : Nat) : Prop := w.heap[g]? = some (.cells #[.pointer none, .slice none 0 0] 60 (0, 0))
theorem BldNew.at_ {w : World} {g base : Nat} (h : BldNew w g) (hb : base ≤ g) : BldAt w base g [] := ⟨hb, _, none, 0, h, .inl rfl, Own.nil _ _ _ _⟩
theorem writeString_any (w : World) (base g : Nat) (l : List UInt8) (h : BldAt w base g l) (s : ByteArray) (hlen : l.length + s.size ≤ 100000000) (hbase : base ≤ w.heap.size) :
    Calls Tryd.prog 30 #[.pointer (some ⟨g, 0, none⟩), .string s] w fun e w' => e = .returned (.tuple #[.int .i64 s.size, .nilIface]) ∧ BldAt w' base g (l ++ s.data.toList) ∧ Below base w w' := by
  obtain ⟨hbg, p, A, c, hg, hp, hown⟩ := h
  have hgl := heap_lt hg
  have hne := hown.ne hg (by decide)
  obtain ⟨n, hn⟩ : ∃ n, n = l.length := ⟨_, rfl⟩
  rw [← hn] at hg hown hlen
  have HN := hid2 hn
  have h63 : n + s.size ≤ maxLen := by unfold maxLen; omega
  clear hn
  go_enter Tryd.func30, Tryd.ntmps30
  go_wp2_with (first
    | (go_at_call 47; refine (copyCheck_any w g _ p hg hp).mono ?_; rintro e w1 ⟨rfl, hg1, hgr1⟩; have hc1 : w1.cell? ⟨g, 1, none⟩ = some (.slice A n c) := cell_of_row w1 g 1 _ _ _ hg1; have hf1 : w1.frozen? ⟨g, 1, none⟩ = false := frozen_of_row w1 g 1 _ _ hg1; have hown1 := hown.grown hgr1 (fun b hb e => hne (hb.trans e)); clear hown)
    | (at_builtin; have _t := hown1; go_must ((with_reducible refine wpList_append_lit 5 (.int .u8 0) 1 1 Tryd.underlying58 info_u8 rfl base A n c (u8s l) hown1 s.size (u8s s.data.toList) (.string s) (Src.str Tryd.underlying9) (u8s_one _) h63 (by omega) (by have := hgr1.size; omega) ?_ ?_); exact ⟨rfl, rfl⟩; intro A3 c3 w3 hown3 hgr3 hbl3; clear hown1; have hg3 := (hgr3.block g (by have := hgr1.size; omega) (fun e => hne e.symm)).trans hg1; have hc3 : w3.cell? ⟨g, 1, none⟩ = some (.slice A n c) := cell_of_row w3 g 1 _ _ _ hg3; have hf3 : w3.frozen? ⟨g, 1, none⟩ = false := frozen_of_row w3 g 1 _ _ hg3)))
  go_ret2
  have hb1 : Below base w w1 := (Below.refl base w).grown hgr1 hbase (fun k e => by injection e with e; omega)
  have hb3 : Below base w w3 := hb1.grown hgr3 (by have := hgr1.size; omega) (fun k e => (_t.block k e).1)
  refine ⟨rfl, ⟨hbg, _, A3, c3, ?_, .inr rfl, ?_⟩, hb3.setCell (p := ⟨g, 1, none⟩) (by exact hbg) _⟩
  · have := heap_set1 _ hg3 (.slice A3 (n + s.size) c3)
    rw [List.length_append, toList_length]
    rw [HN.out] at this ⊢
    exact this
  · have h4 := hown3.setOther (p := ⟨g, 1, none⟩) (hown3.ne hg3 (by decide)) (.slice A3 (n + s.size) c3)
    rw [← u8s_append] at h4
    rw [List.length_append, toList_length]
    rw [HN.out] at h4 ⊢
    exact h4
theorem bstring_new (w : World) (base g : Nat) (h : BldNew w g) :
    Calls Tryd.prog 33 #[.pointer (some ⟨g, 0, none⟩)] w fun e w' => e = .returned (.string ⟨#[]⟩) ∧ Below base w w' := by
  have hgl := heap_lt h
  have hc1 : w.drew.cell? ⟨g, 1, none⟩ = some (.slice none 0 0) := cell_of_row w g 1 _ _ _ h
  have hSD : (Builtin.unsafeSliceData_ #[58] 79 #[.slice none 0 0]).run Tryd.prog w.drew = .ok (.pointer none) w.drew := Lib.run_unsafeSliceData_nil _ _ _ _ _
  have hUS : (Builtin.unsafeString_ #[79, 3] 9 #[.pointer none, .int .i64 0]).run Tryd.prog w.drew = .ok (.string ⟨#[]⟩) w.drew := Lib.run_unsafeString_none _ _ _ _ _
  clear h
  go_enter Tryd.func33, Tryd.ntmps33
  go_wp2
  go_region
  all_goals (go_wp2; go_ret; exact ⟨rfl, (Below.refl base w).drew⟩)
end Go.Proofs.YtjmfmlkjippiaaaDoor
