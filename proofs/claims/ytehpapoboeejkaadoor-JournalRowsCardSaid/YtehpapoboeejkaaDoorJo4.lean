/- A journal's Add: the walk. -/
import Derived.Test.YtehpapoboeejkaaDoorJo3
import Derived.Test.YtehpapoboeejkaaDoorJp1
namespace Go.Proofs.YtehpapoboeejkaaDoor
open Go.RowKit Go.Maps
def addI (W4 : World) (p b n : Nat) (M : Tab FileE) (left : Int) (nm f : List UInt8) (i : Nat) (W : World) : Prop := match i with
  | 0 => Stage W4 p b n M left W
  | 1 => beginE M left false [strB nm] nm = 0 ∧ Stage W4 p b (n + 1) (appM M left nm f) (beginL M left false [strB nm] nm) W
  | _ => (addR M left nm f).1 = 0 ∧ Stage W4 p b (n + 2) (addR M left nm f).2.1 (addR M left nm f).2.2 W
theorem addI_stage {W4 : World} {p b n : Nat} {M : Tab FileE} {left : Int} {nm f : List UInt8} {i : Nat} {W : World} (h : addI W4 p b n M left nm f i W) : But p b W4 W := by
  unfold addI at h
  split at h
  · exact h.but
  · exact h.2.but
  · exact h.2.but
/-- a broken journal -/
theorem add_broken (w : World) (j p : Nat) (nm : ByteArray) (hj : JIs w j p nm true) (s : ByteArray) :
    Calls Tryd.prog 8 #[.pointer (some ⟨j, 0, none⟩), .string s] w fun e w' => e = .returned (.int .i64 19) ∧ Below w.heap.size w w' := by
  have hjl := hj.lt
  have c2 : w.cell? ⟨j, 2, none⟩ = some (.bool true) := hj.box.cells 2
  go_enter Tryd.func8, Tryd.ntmps8
  go_wp2_with fail
  go_ret
  exact ⟨rfl, (Below.refl _ _).alloc (Nat.le_refl _) _⟩
set_option maxRecDepth 100000 in
set_option maxHeartbeats 1000000 in
theorem add_any (w : World) (j p b n : Nat) (nm : ByteArray) (M : Tab FileE) (left : Int) (hj : JIs w j p nm false) (h : DiskIs w p b n M left) (hn : n ≤ 900000) (hle : -1 ≤ left ∧ left ≤ 9223372036854775807) (hz : nm.size ≤ 1000000) (s : ByteArray) (hs : s.size ≤ 1000000) (hf : (fileOf M nm.data.toList).1.length ≤ 100000000) :
    Calls Tryd.prog 8 #[.pointer (some ⟨j, 0, none⟩), .string s] w (WPost w j p b (n + 2) nm false (addR M left nm.data.toList (frameL s.data.toList))) := by
  have hlt := h.lt
  have hjl := hj.lt
  have hne := hj.ne h
  obtain ⟨K, hK⟩ : ∃ K, K = strB (frameL s.data.toList) := ⟨_, rfl⟩
  have hKl : K.data.toList = frameL s.data.toList := by rw [hK, strB_list]
  have hKs : K.size = s.size + 12 := by rw [← toList_length, hKl, frameL_length, toList_length]
  have hfr := fun (W : World) => frame_any W s hs
  rw [← hK] at hfr
  rw [← hKl]
  obtain ⟨g, hg⟩ : ∃ g, g = w.heap.size := ⟨_, rfl⟩
  have hdoes : ∀ (W4 : World) (gb gr : Nat), Box W4 g [.pointer (some ⟨j, 0, none⟩)] → Box W4 gb [.string K] → Box W4 gr [.func (.func 20) #[] #[.pointer (some ⟨g, 0, none⟩), .pointer (some ⟨gb, 0, none⟩)], .func (.func 22) #[] #[.pointer (some ⟨g, 0, none⟩)]] → g ≤ gb → g ≤ gr → Below g w W4 →
      Calls Tryd.prog 14 #[.pointer (some ⟨j, 0, none⟩), .slice (some ⟨gr, 0, none⟩) 2 2] W4 (WPost w j p b (n + 2) nm false (addR M left nm.data.toList K.data.toList)) := by
    intro W4 gb gr x0 x1 x3 hgb hgr hbW
    have hjW : JIs W4 j p nm false := hj.keep (hbW.block j (by omega))
    have hdW : DiskIs W4 p b n M left := h.below hbW (by omega) (by omega)
    have hd' := does_any W4 j (some ⟨gr, 0, none⟩) 2 [⟨20, #[], #[.pointer (some ⟨g, 0, none⟩), .pointer (some ⟨gb, 0, none⟩)]⟩, ⟨22, #[], #[.pointer (some ⟨g, 0, none⟩)]⟩] (by simp) (addI W4 p b n M left nm.data.toList K.data.toList) (fun E W => (addR M left nm.data.toList K.data.toList).1 = E ∧ E ≠ 0 ∧ Stage W4 p b (n + 2) (addR M left nm.data.toList K.data.toList).2.1 (addR M left nm.data.toList K.data.toList).2.2 W) ⟨hdW, But.refl _ _ _⟩ ?_ ?_ ?_ ?_
    · exact hd'.mono fun e w' hh => does_end hjW (by rw [← hg]; exact hbW) (by omega) (by omega) (by omega) hne (fun W hI => hI) (fun E W hX => ⟨hX.1, hX.2.2⟩) hh
    · intro i W hI
      have hb := addI_stage hI
      have hx := x3.butJ hb (by omega) (by omega)
      refine ⟨rfl, fun _ => ⟨_, _, rfl, fun q u hu => ?_⟩⟩
      rw [Nat.zero_add, hx.cells q]
      exact hu
    · intro x hx
      simp only [List.mem_cons, List.not_mem_nil, or_false] at hx
      rcases hx with rfl | rfl
      · exact enters_of Tryd.func20 (by kernel_rfl) rfl
      · exact enters_of Tryd.func22 (by kernel_rfl) rfl
    · intro i x hx W hI
      have hb := addI_stage hI
      have y0 := x0.butJ hb (by omega) (by omega)
      have y1 := x1.butJ hb (by omega) (by omega)
      have hjx : JIs W j p nm false := hjW.keep (hb.block j hjW.lt hne.1 hne.2)
      match i, hx, hI with
      | 0, hx, hI =>
        obtain rfl := Option.some.inj hx
        refine (add1_any W j p b n nm false M left hjx hI.disk (by omega) hle g gb K y0 y1 (by omega) (by omega) (by omega)).mono fun e w' ⟨he, hd2, hb2⟩ => ⟨_, he, ?_⟩
        by_cases h0 : beginE M left false [strB nm.data.toList] nm.data.toList = 0
        · exact .inl ⟨h0, h0, hd2, hb.trans hb2⟩
        · refine .inr ⟨h0, ?_, h0, ?_, ?_⟩ <;> try simp only [addR, if_pos h0]
          · exact hd2.mono (by omega)
          · exact hb.trans hb2
      | 1, hx, hI =>
        obtain rfl := Option.some.inj hx
        refine (add2_any W j p b (n + 1) nm false _ _ hjx hI.2.disk (by omega) (begin_LJ hle _ _ _) g y0 (by omega) (app_len (by rw [toList_length]; omega))).mono fun e w' ⟨he, hd2, hb2⟩ => ⟨_, he, ?_⟩
        have hn1 : ¬ beginE M left false [strB nm.data.toList] nm.data.toList ≠ 0 := fun hh => hh hI.1
        have hst : Stage W4 p b (n + 2) (addR M left nm.data.toList K.data.toList).2.1 (addR M left nm.data.toList K.data.toList).2.2 w' := by
          simp only [addR, if_neg hn1]
          exact ⟨hd2, hb.trans hb2⟩
        have hE : (addR M left nm.data.toList K.data.toList).1 = beginE (appM M left nm.data.toList K.data.toList) (beginL M left false [strB nm.data.toList] nm.data.toList) true [strB nm.data.toList] nm.data.toList := by
          simp only [addR, if_neg hn1]
        rw [← hE]
        by_cases h0 : (addR M left nm.data.toList K.data.toList).1 = 0
        · exact .inl ⟨h0, h0, hst⟩
        · exact .inr ⟨h0, rfl, h0, hst⟩
      | i + 2, hx, _ => simp at hx
    · intro E W hX
      have hb := hX.2.2.but
      exact ⟨_, _, _, (hjW.keep (hb.block j hjW.lt hne.1 hne.2)).box⟩
  have HDOES := hid2 hdoes
  have HG := hid2 hg
  have HFR := hid2 hfr
  have c2 : w.cell? ⟨j, 2, none⟩ = some (.bool false) := hj.box.cells 2
  obtain ⟨W1, hW1⟩ : ∃ W1, W1 = w.alloc (.cells #[.pointer (some ⟨j, 0, none⟩)] 27) := ⟨_, rfl⟩
  have x0 : Box W1 g [.pointer (some ⟨j, 0, none⟩)] := by rw [hW1]; exact Box.new' _ _ _ (by simp [hg])
  have hb1 : Below g w W1 := by rw [hW1, hg]; exact (Below.refl _ _).alloc (Nat.le_refl _) _
  have hz1 : W1.heap.size = g + 1 := by rw [hW1, World.size_alloc, hg]
  have X0 := hid2 x0
  have HB1 := hid2 hb1
  have HW1 := hid2 hW1
  clear hdoes hK hKl hg hj h hf hfr hW1 x0 hb1
  go_enter Tryd.func8, Tryd.ntmps8
  go_wp2_with (go_at_call 13; rw [← HW1.out, ← HG.out]; refine (HFR.out _).mono ?_; rintro e w2 ⟨rfl, hb2⟩; have y0 := X0.out.below_all hb2; have q0 : w2.cell? ⟨g, 0, none⟩ = some (.pointer (some ⟨j, 0, none⟩)) := y0.cells 0; have q1 : (w2.alloc (.cells #[.string K] 9)).cell? ⟨g, 0, none⟩ = some (.pointer (some ⟨j, 0, none⟩)) := (y0.alloc _).cells 0; have Y0 := hid2 y0; have HB2 := hid2 (HB1.out.trans (hb2.mono (show g ≤ W1.heap.size by omega))); have hz2 : g + 1 ≤ w2.heap.size := (by have := hb2.size; omega); clear hb2 y0)
  have hz3 := HB2.out
  refine (HDOES.out _ w2.heap.size (w2.heap.size + 1) ((Y0.out.alloc _).alloc _) ((Box.new' _ _ _ rfl).alloc _) (Box.new' _ _ _ (by simp)) (by omega) (by omega) ((hz3.alloc (by omega) _).alloc (by simp; omega) _)).mono ?_
  rintro e w5 ⟨rfl, hd5, hj5, hb5⟩
  have HD5 := hid2 hd5
  have HJ5 := hid2 hj5
  have HB5 := hid2 hb5
  clear hd5 hj5 hb5 hz3
  go_wp2_with fail
  go_ret
  exact ⟨rfl, HD5.out, HJ5.out, HB5.out⟩
end Go.Proofs.YtehpapoboeejkaaDoor
