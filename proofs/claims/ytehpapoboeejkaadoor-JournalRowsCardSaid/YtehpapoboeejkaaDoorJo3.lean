/- A journal's anew and Add: the walks. -/
import Derived.Test.YtehpapoboeejkaaDoorJo2
namespace Go.Proofs.YtehpapoboeejkaaDoor
open Go.RowKit Go.Maps
theorem Box.butJ {w w' : World} {g p b : Nat} {cs : List Value} (h : Box w g cs) (hb : But p b w w') (h1 : g ≠ p) (h2 : g ≠ b) : Box w' g cs := h.keep (hb.block g h.lt h1 h2)
theorem begin_LJ {M : Tab FileE} {left : Int} (hle : -1 ≤ left ∧ left ≤ 9223372036854775807) (t : Bool) (ns : List ByteArray) (k : List UInt8) : -1 ≤ beginL M left t ns k ∧ beginL M left t ns k ≤ 9223372036854775807 := by
  unfold beginL
  split <;> omega
theorem app_len {M : Tab FileE} {left : Int} {k d : List UInt8} {B : Nat} (h : (fileOf M k).1.length + d.length ≤ B) : (fileOf (appM M left k d) k).1.length ≤ B := by
  unfold appM
  split
  · unfold fileOf
    rw [getM_put_same]
    show ((fileOf M k).1 ++ d).length ≤ B
    rw [List.length_append]
    exact h
  · omega
/-- what anew answers, and leaves -/
def anewR (M : Tab FileE) (left : Int) (o d nm : List UInt8) : Int × Tab FileE × Int :=
  let E1 := beginE M left false [strB o] o
  let T1 := appM M left o d
  let L1 := beginL M left false [strB o] o
  let E2 := beginE T1 L1 true [strB o] o
  let T2 := syncM T1 L1 o
  let L2 := beginL T1 L1 true [strB o] o
  let E3 := beginE T2 L2 true [strB o, strB nm] o
  if E1 ≠ 0 then (E1, T1, L1) else if E2 ≠ 0 then (E2, T2, L2) else (E3, renM T2 L2 o nm, beginL T2 L2 true [strB o, strB nm] o)
/-- what Add answers, and leaves, of a record whose frame is f -/
def addR (M : Tab FileE) (left : Int) (nm f : List UInt8) : Int × Tab FileE × Int :=
  let E1 := beginE M left false [strB nm] nm
  let T1 := appM M left nm f
  let L1 := beginL M left false [strB nm] nm
  if E1 ≠ 0 then (E1, T1, L1) else (beginE T1 L1 true [strB nm] nm, syncM T1 L1 nm, beginL T1 L1 true [strB nm] nm)
/-- what a journal's writing call answers -/
def WPost (w : World) (j p b n : Nat) (nm : ByteArray) (br : Bool) (r : Int × Tab FileE × Int) (e : Ending) (w' : World) : Prop :=
  e = .returned (.int .i64 r.1) ∧ DiskIs w' p b n r.2.1 r.2.2 ∧ JIs w' j p nm (br || decide (r.1 ≠ 0)) ∧ JBut j p b w w'
/-- a stage of some calls -/
structure Stage (W4 : World) (p b n : Nat) (M : Tab FileE) (L : Int) (W : World) : Prop where
  disk : DiskIs W p b n M L
  but : But p b W4 W
theorem does_end {w W4 w' : World} {j p b n : Nat} {nm : ByteArray} {br : Bool} {r : Int × Tab FileE × Int} {e : Ending} {nn : Nat} {I : Nat → World → Prop} {X : Int → World → Prop} (hj : JIs W4 j p nm br) (hw : Below w.heap.size w W4) (_ : j < w.heap.size) (_ : p < w.heap.size) (_ : b < w.heap.size) (hne : j ≠ p ∧ j ≠ b)
    (hI : ∀ W, I nn W → r.1 = 0 ∧ Stage W4 p b n r.2.1 r.2.2 W) (hX : ∀ E W, X E W → r.1 = E ∧ Stage W4 p b n r.2.1 r.2.2 W) (h : DoesPost j nn I X e w') : WPost w j p b n nm br r e w' := by
  obtain ⟨E, rfl, h⟩ := h
  have hjb : ∀ {W : World}, But p b W4 W → JBut j p b w W := fun hb => (JBut.of_below hw).trans (.of_but hb)
  rcases h with ⟨rfl, h⟩ | ⟨h0, W, hx, rfl⟩
  · obtain ⟨h1, hs⟩ := hI _ h
    refine ⟨by rw [h1], hs.disk, ?_, hjb hs.but⟩
    rw [h1]
    simp only [ne_eq, not_true_eq_false, decide_false, Bool.or_false]
    exact hj.keep (hs.but.block j (hj.lt) hne.1 hne.2)
  · obtain ⟨h1, hs⟩ := hX _ _ hx
    have hjW : JIs W j p nm br := hj.keep (hs.but.block j hj.lt hne.1 hne.2)
    refine ⟨by rw [h1], ?_, ?_, (hjb hs.but).trans (JBut.breaks W 2 _)⟩
    · refine hs.disk.same ?_ ?_
      · exact Below.heap_setCell _ _ _ _ (fun e => hne.1 e.symm)
      · exact Below.heap_setCell _ _ _ _ (fun e => hne.2 e.symm)
    · rw [h1, decide_eq_true h0, Bool.or_true]
      exact hjW.breaks
def anewI (W4 : World) (p b n : Nat) (M : Tab FileE) (left : Int) (o d nm : List UInt8) (i : Nat) (W : World) : Prop := match i with
  | 0 => Stage W4 p b n M left W
  | 1 => beginE M left false [strB o] o = 0 ∧ Stage W4 p b (n + 1) (appM M left o d) (beginL M left false [strB o] o) W
  | 2 => beginE M left false [strB o] o = 0 ∧ beginE (appM M left o d) (beginL M left false [strB o] o) true [strB o] o = 0 ∧ Stage W4 p b (n + 2) (syncM (appM M left o d) (beginL M left false [strB o] o) o) (beginL (appM M left o d) (beginL M left false [strB o] o) true [strB o] o) W
  | _ => (anewR M left o d nm).1 = 0 ∧ Stage W4 p b (n + 3) (anewR M left o d nm).2.1 (anewR M left o d nm).2.2 W
theorem Stage.mono {W4 : World} {p b n m : Nat} {M : Tab FileE} {L : Int} {W : World} (h : Stage W4 p b n M L W) (hm : n ≤ m) : Stage W4 p b m M L W := ⟨h.disk.mono hm, h.but⟩
theorem anewI_stage {W4 : World} {p b n : Nat} {M : Tab FileE} {left : Int} {o d nm : List UInt8} {i : Nat} {W : World} (h : anewI W4 p b n M left o d nm i W) : But p b W4 W := by
  unfold anewI at h
  split at h
  · exact h.but
  · exact h.2.but
  · exact h.2.2.but
  · exact h.2.but
set_option maxRecDepth 100000 in
set_option maxHeartbeats 1000000 in
theorem anew_any (w : World) (j p b n : Nat) (nm : ByteArray) (br : Bool) (M : Tab FileE) (left : Int) (hj : JIs w j p nm br) (h : DiskIs w p b n M left) (hn : n ≤ 900000) (hle : -1 ≤ left ∧ left ≤ 9223372036854775807) (hz : nm.size ≤ 1000000) (d : ByteArray) (hd : d.size ≤ 100000000) (hf : (fileOf M (newL nm.data.toList)).1.length ≤ 100000000) :
    Calls Tryd.prog 19 #[.pointer (some ⟨j, 0, none⟩), .string d] w (WPost w j p b (n + 3) nm br (anewR M left (newL nm.data.toList) d.data.toList nm.data.toList)) := by
  have hlt := h.lt
  have hjl := hj.lt
  have hne := hj.ne h
  obtain ⟨K, hK⟩ : ∃ K, K = nm ++ ⟨#[46, 110, 101, 119]⟩ := ⟨_, rfl⟩
  have hKl : K.data.toList = newL nm.data.toList := by rw [hK]; exact new_list nm
  have hKs : K.size = nm.size + 4 := by rw [hK]; exact new_size nm
  have hadd : ¬ (nm.size + 4 > 9223372036854775807) := by omega
  rw [← hKl] at hf ⊢
  obtain ⟨g, hg⟩ : ∃ g, g = w.heap.size := ⟨_, rfl⟩
  obtain ⟨fv1, hfv1⟩ : ∃ x : FnE, x = ⟨34, #[], #[.pointer (some ⟨g, 0, none⟩), .pointer (some ⟨g + 1 + 1, 0, none⟩), .pointer (some ⟨g + 1, 0, none⟩)]⟩ := ⟨_, rfl⟩
  obtain ⟨fv2, hfv2⟩ : ∃ x : FnE, x = ⟨35, #[], #[.pointer (some ⟨g, 0, none⟩), .pointer (some ⟨g + 1 + 1, 0, none⟩)]⟩ := ⟨_, rfl⟩
  obtain ⟨fv3, hfv3⟩ : ∃ x : FnE, x = ⟨36, #[], #[.pointer (some ⟨g, 0, none⟩), .pointer (some ⟨g + 1 + 1, 0, none⟩)]⟩ := ⟨_, rfl⟩
  have hdoes : ∀ W4 : World, Box W4 g [.pointer (some ⟨j, 0, none⟩)] → Box W4 (g + 1) [.string d] → Box W4 (g + 1 + 1) [.string K] → Box W4 (g + 1 + 1 + 1) [fnV fv1, fnV fv2, fnV fv3] → Below g w W4 →
      Calls Tryd.prog 14 #[.pointer (some ⟨j, 0, none⟩), .slice (some ⟨g + 1 + 1 + 1, 0, none⟩) 3 3] W4 (WPost w j p b (n + 3) nm br (anewR M left K.data.toList d.data.toList nm.data.toList)) := by
    intro W4 x0 x1 x2 x3 hbW
    have hjW : JIs W4 j p nm br := hj.keep (hbW.block j (by omega))
    have hdW : DiskIs W4 p b n M left := h.below hbW (by omega) (by omega)
    have hd' := does_any W4 j (some ⟨g + 1 + 1 + 1, 0, none⟩) 3 [fv1, fv2, fv3] (by simp) (anewI W4 p b n M left K.data.toList d.data.toList nm.data.toList) (fun E W => (anewR M left K.data.toList d.data.toList nm.data.toList).1 = E ∧ E ≠ 0 ∧ Stage W4 p b (n + 3) (anewR M left K.data.toList d.data.toList nm.data.toList).2.1 (anewR M left K.data.toList d.data.toList nm.data.toList).2.2 W) ⟨hdW, But.refl _ _ _⟩ ?_ ?_ ?_ ?_
    · exact hd'.mono fun e w' hh => does_end hjW (by rw [← hg]; exact hbW) (by omega) (by omega) (by omega) hne (fun W hI => hI) (fun E W hX => ⟨hX.1, hX.2.2⟩) hh
    · intro i W hI
      have hb := anewI_stage hI
      have hx := x3.butJ hb (by omega) (by omega)
      refine ⟨rfl, fun _ => ⟨_, _, rfl, fun q u hu => ?_⟩⟩
      rw [Nat.zero_add, hx.cells q]
      exact hu
    · intro x hx
      simp only [List.mem_cons, List.not_mem_nil, or_false] at hx
      rcases hx with rfl | rfl | rfl
      · rw [hfv1]; exact enters_of Tryd.func34 (by kernel_rfl) rfl
      · rw [hfv2]; exact enters_of Tryd.func35 (by kernel_rfl) rfl
      · rw [hfv3]; exact enters_of Tryd.func36 (by kernel_rfl) rfl
    · intro i x hx W hI
      have hb := anewI_stage hI
      have y0 := x0.butJ hb (by omega) (by omega)
      have y1 := x1.butJ hb (by omega) (by omega)
      have y2 := x2.butJ hb (by omega) (by omega)
      have hjx : JIs W j p nm br := hjW.keep (hb.block j hjW.lt hne.1 hne.2)
      match i, hx, hI with
      | 0, hx, hI =>
        obtain rfl := Option.some.inj hx
        rw [hfv1]
        refine (anew1_any W j p b n nm br M left hjx hI.disk (by omega) hle g (g + 1 + 1) (g + 1) K d y0 y2 y1 (by omega) (by omega) (by omega)).mono fun e w' ⟨he, hd2, hb2⟩ => ⟨_, he, ?_⟩
        by_cases h0 : beginE M left false [strB K.data.toList] K.data.toList = 0
        · exact .inl ⟨h0, h0, hd2, hb.trans hb2⟩
        · refine .inr ⟨h0, ?_, h0, ?_, ?_⟩ <;> try simp only [anewR, if_pos h0]
          · exact hd2.mono (by omega)
          · exact hb.trans hb2
      | 1, hx, hI =>
        obtain rfl := Option.some.inj hx
        rw [hfv2]
        refine (anew2_any W j p b (n + 1) nm br _ _ hjx hI.2.disk (by omega) (begin_LJ hle _ _ _) g (g + 1 + 1) K y0 y2 (by omega) (app_len (by rw [toList_length]; omega))).mono fun e w' ⟨he, hd2, hb2⟩ => ⟨_, he, ?_⟩
        by_cases h0 : beginE (appM M left K.data.toList d.data.toList) (beginL M left false [strB K.data.toList] K.data.toList) true [strB K.data.toList] K.data.toList = 0
        · exact .inl ⟨h0, hI.1, h0, hd2, hb.trans hb2⟩
        · have hn1 : ¬ beginE M left false [strB K.data.toList] K.data.toList ≠ 0 := fun hh => hh hI.1
          refine .inr ⟨h0, ?_, h0, ?_, ?_⟩ <;> try simp only [anewR, if_neg hn1, if_pos h0]
          · exact hd2.mono (by omega)
          · exact hb.trans hb2
      | 2, hx, hI =>
        obtain rfl := Option.some.inj hx
        rw [hfv3]
        refine (anew3_any W j p b (n + 2) nm br _ _ hjx hI.2.2.disk (by omega) (begin_LJ (begin_LJ hle _ _ _) _ _ _) g (g + 1 + 1) K y0 y2 (by omega) (by omega)).mono fun e w' ⟨he, hd2, hb2⟩ => ⟨_, he, ?_⟩
        have hn1 : ¬ beginE M left false [strB K.data.toList] K.data.toList ≠ 0 := fun hh => hh hI.1
        have hn2 : ¬ beginE (appM M left K.data.toList d.data.toList) (beginL M left false [strB K.data.toList] K.data.toList) true [strB K.data.toList] K.data.toList ≠ 0 := fun hh => hh hI.2.1
        have hst : Stage W4 p b (n + 3) (anewR M left K.data.toList d.data.toList nm.data.toList).2.1 (anewR M left K.data.toList d.data.toList nm.data.toList).2.2 w' := by
          simp only [anewR, if_neg hn1, if_neg hn2]
          exact ⟨hd2, hb.trans hb2⟩
        have hE : (anewR M left K.data.toList d.data.toList nm.data.toList).1 = beginE (syncM (appM M left K.data.toList d.data.toList) (beginL M left false [strB K.data.toList] K.data.toList) K.data.toList) (beginL (appM M left K.data.toList d.data.toList) (beginL M left false [strB K.data.toList] K.data.toList) true [strB K.data.toList] K.data.toList) true [strB K.data.toList, strB nm.data.toList] K.data.toList := by
          simp only [anewR, if_neg hn1, if_neg hn2]
        rw [← hE]
        by_cases h0 : (anewR M left K.data.toList d.data.toList nm.data.toList).1 = 0
        · exact .inl ⟨h0, h0, hst⟩
        · exact .inr ⟨h0, rfl, h0, hst⟩
      | i + 3, hx, _ => simp at hx
    · intro E W hX
      have hb := hX.2.2.but
      exact ⟨_, _, _, (hjW.keep (hb.block j hjW.lt hne.1 hne.2)).box⟩
  have HDOES := hid2 hdoes
  have HK := hid2 hK
  have HG := hid2 hg
  have c1 : w.cell? ⟨j, 1, none⟩ = some (.string nm) := hj.box.cells 1
  have HF1 := hid2 hfv1
  have HF2 := hid2 hfv2
  have HF3 := hid2 hfv3
  have hpb : p < g ∧ b < g := by omega
  obtain ⟨W4, hW4⟩ : ∃ W4, W4 = (((w.alloc (.cells #[.pointer (some ⟨j, 0, none⟩)] 27)).alloc (.cells #[.string d] 9)).alloc (.cells #[.string K] 9)).alloc (.cells #[fnV fv1, fnV fv2, fnV fv3] 48) := ⟨_, rfl⟩
  have x0 : Box W4 g [.pointer (some ⟨j, 0, none⟩)] := by rw [hW4]; exact (((Box.new' _ _ _ (by simp [hg])).alloc _).alloc _).alloc _
  have x1 : Box W4 (g + 1) [.string d] := by rw [hW4]; exact ((Box.new' _ _ _ (by simp [hg])).alloc _).alloc _
  have x2 : Box W4 (g + 1 + 1) [.string K] := by rw [hW4]; exact (Box.new' _ _ _ (by simp [hg])).alloc _
  have x3 : Box W4 (g + 1 + 1 + 1) [fnV fv1, fnV fv2, fnV fv3] := by rw [hW4]; exact Box.new' _ _ _ (by simp [hg])
  have hbW : Below g w W4 := by rw [hW4, hg]; exact ((((Below.refl _ _).alloc (by simp) _).alloc (by simp) _).alloc (by simp; omega) _).alloc (by simp; omega) _
  have HC := hid2 (HDOES.out W4 x0 x1 x2 x3 hbW)
  rw [hfv1, hfv2, hfv3] at hW4
  simp only [fnV] at hW4
  have HW4 := hid2 hW4
  clear hdoes hK hKl hKs hg hj h hf hfv1 hfv2 hfv3 x0 x1 x2 x3 hbW hW4
  go_enter Tryd.func19, Tryd.ntmps19
  go_wp2_with fail
  obtain hg2 := HG.out
  subst hg2
  obtain hK2 := HK.out
  subst hK2
  have hfin := HC.out
  rw [HW4.out] at hfin
  refine hfin.mono ?_
  rintro e w5 ⟨rfl, hd5, hj5, hb5⟩
  have HD5 := hid2 hd5
  have HJ5 := hid2 hj5
  have HB5 := hid2 hb5
  clear hd5 hj5 hb5 hfin HC HW4
  go_wp2_with fail
  go_ret
  exact ⟨rfl, HD5.out, HJ5.out, HB5.out⟩
end Go.Proofs.YtehpapoboeejkaaDoor
