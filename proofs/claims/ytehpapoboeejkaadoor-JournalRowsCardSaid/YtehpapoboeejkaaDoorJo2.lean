/- A journal's tidy, anew and Add. -/
import Derived.Test.YtehpapoboeejkaaDoorJo1
import Derived.Test.YtehpapoboeejkaaDoorDisk4
namespace Go.Proofs.YtehpapoboeejkaaDoor
open Go.RowKit Go.Maps
/-- the other file's name -/
def newL (k : List UInt8) : List UInt8 := k ++ [46, 110, 101, 119]
theorem new_list (s : ByteArray) : (s ++ ⟨#[46, 110, 101, 119]⟩).data.toList = newL s.data.toList := by rw [string_append_toList]; rfl
theorem new_size (s : ByteArray) : (s ++ ⟨#[46, 110, 101, 119]⟩ : ByteArray).size = s.size + 4 := by rw [← toList_length, new_list, newL, List.length_append, toList_length]; rfl
def tidE (M : Tab FileE) (left : Int) (k : List UInt8) : Int := if (getM M k).isSome = true then beginE M left true [strB k] k else 0
def tidM (M : Tab FileE) (left : Int) (k : List UInt8) : Tab FileE := if (getM M k).isSome = true then remM M left k else M
def tidL (M : Tab FileE) (left : Int) (k : List UInt8) : Int := if (getM M k).isSome = true then beginL M left true [strB k] k else left
set_option maxRecDepth 100000 in
theorem tidy_any (w : World) (j p b n : Nat) (nm : ByteArray) (br : Bool) (M : Tab FileE) (left : Int) (hj : JIs w j p nm br) (h : DiskIs w p b n M left) (hn : n ≤ 1000000) (hle : -1 ≤ left ∧ left ≤ 9223372036854775807) (hz : nm.size ≤ 1000000) :
    Calls Tryd.prog 15 #[.pointer (some ⟨j, 0, none⟩)] w fun e w' => e = .returned (.int .i64 (tidE M left (newL nm.data.toList))) ∧ DiskIs w' p b n (tidM M left (newL nm.data.toList)) (tidL M left (newL nm.data.toList)) ∧ But p b w w' := by
  have hlt := h.lt
  obtain ⟨K, hK⟩ : ∃ K, K = nm ++ ⟨#[46, 110, 101, 119]⟩ := ⟨_, rfl⟩
  have hKl : K.data.toList = newL nm.data.toList := by rw [hK]; exact new_list nm
  have hKs : K.size = nm.size + 4 := by rw [hK]; exact new_size nm
  have hadd : ¬ (nm.size + 4 > 9223372036854775807) := by omega
  rw [← hKl]
  unfold tidE tidM tidL
  have c0 : w.cell? ⟨j, 0, none⟩ = some (.pointer (some ⟨p, 0, none⟩)) := hj.box.cells 0
  have c1 : w.cell? ⟨j, 1, none⟩ = some (.string nm) := hj.box.cells 1
  by_cases hs : (getM M K.data.toList).isSome = true
  · rw [if_pos hs, if_pos hs, if_pos hs]
    have ht := there_any w j p b n nm br M left hj h hn K hs.symm
    have hr := fun (W : World) (hb : Below w.heap.size w W) => remove_at W p b n M left (h.below hb hlt.1 hlt.2) K rfl (by rw [toList_length]; omega) hle rfl rfl rfl
    obtain ⟨E, hE⟩ : ∃ E, E = beginE M left true [strB K.data.toList] K.data.toList := ⟨_, rfl⟩
    obtain ⟨L, hL⟩ : ∃ L, L = beginL M left true [strB K.data.toList] K.data.toList := ⟨_, rfl⟩
    obtain ⟨M2, hM2⟩ : ∃ M2, M2 = remM M left K.data.toList := ⟨_, rfl⟩
    rw [← hE, ← hL, ← hM2] at hr ⊢
    have HK := hid2 hK
    have HT := hid2 ht
    have HR := hid2 hr
    have HJ := hid2 hj
    clear hs ht hr hE hL hM2 h hj hK hKl hKs
    go_enter Tryd.func15, Tryd.ntmps15
    go_wp2_with (go_at_call 16; rw [← HK.out]; refine HT.out.mono ?_; rintro e w2 ⟨rfl, hb2⟩; have b2 := HJ.out.box.below_all hb2; have d0 : w2.cell? ⟨j, 0, none⟩ = some (.pointer (some ⟨p, 0, none⟩)) := b2.cells 0; have d1 : w2.cell? ⟨j, 1, none⟩ = some (.string nm) := b2.cells 1; have HB2 := hid2 hb2; clear hb2 b2)
    go_still_tail 9, (by kernel_rfl)
    change wpList _ _ _ _ _ w2.drew
    go_wp2_with (go_at_call 31; rw [← HK.out]; refine (HR.out w2.drew HB2.out.drew).mono ?_; rintro e w3 ⟨rfl, hd3, hb3⟩; have HD3 := hid2 hd3; have HB3 := hid2 hb3; clear hd3 hb3)
    go_ret
    exact ⟨rfl, HD3.out, (But.of_below HB2.out.drew).trans HB3.out⟩
  · rw [if_neg hs, if_neg hs, if_neg hs]
    have hs2 : (getM M K.data.toList).isSome = false := by simpa using hs
    have ht := there_any w j p b n nm br M left hj h hn K hs2.symm
    have HK := hid2 hK
    have HT := hid2 ht
    have HD := hid2 h
    clear hs hs2 ht h hj hK hKl hKs
    go_enter Tryd.func15, Tryd.ntmps15
    go_wp2_with (go_at_call 16; rw [← HK.out]; refine HT.out.mono ?_; rintro e w2 ⟨rfl, hb2⟩; have HB2 := hid2 hb2; clear hb2)
    go_ret
    exact ⟨rfl, HD.out.below HB2.out hlt.1 hlt.2, But.of_below HB2.out⟩
set_option maxRecDepth 100000 in
theorem anew1_any (w : World) (j p b n : Nat) (nm : ByteArray) (br : Bool) (M : Tab FileE) (left : Int) (hj : JIs w j p nm br) (h : DiskIs w p b n M left) (hn : n < 1000000) (hle : -1 ≤ left ∧ left ≤ 9223372036854775807) (gj go gb : Nat) (ob d : ByteArray) (x1 : Box w gj [.pointer (some ⟨j, 0, none⟩)]) (x2 : Box w go [.string ob]) (x3 : Box w gb [.string d]) (ho : ob.size ≤ 1000000000) (hd : d.size ≤ 1000000000) (hf : (fileOf M ob.data.toList).1.length ≤ 1000000000) :
    Calls Tryd.prog 34 #[.pointer (some ⟨gj, 0, none⟩), .pointer (some ⟨go, 0, none⟩), .pointer (some ⟨gb, 0, none⟩)] w fun e w' => e = .returned (.int .i64 (beginE M left false [strB ob.data.toList] ob.data.toList)) ∧ DiskIs w' p b (n + 1) (appM M left ob.data.toList d.data.toList) (beginL M left false [strB ob.data.toList] ob.data.toList) ∧ But p b w w' := by
  have c0 : w.cell? ⟨j, 0, none⟩ = some (.pointer (some ⟨p, 0, none⟩)) := hj.box.cells 0
  have c1 : w.cell? ⟨j, 1, none⟩ = some (.string nm) := hj.box.cells 1
  have kgj : w.cell? ⟨gj, 0, none⟩ = some (.pointer (some ⟨j, 0, none⟩)) := x1.cells 0
  have kgo : w.cell? ⟨go, 0, none⟩ = some (.string ob) := x2.cells 0
  have kgb : w.cell? ⟨gb, 0, none⟩ = some (.string d) := x3.cells 0
  have hlt := h.lt
  have hr := append_at w.drew p b n M left (h.below (Below.refl w.heap.size w).drew hlt.1 hlt.2) ob d rfl rfl (by rw [toList_length]; exact ho) (by rw [toList_length]; exact hd) hf (by omega) hle rfl rfl rfl
  obtain ⟨E, hE⟩ : ∃ E, E = beginE M left false [strB ob.data.toList] ob.data.toList := ⟨_, rfl⟩
  obtain ⟨L, hL⟩ : ∃ L, L = beginL M left false [strB ob.data.toList] ob.data.toList := ⟨_, rfl⟩
  obtain ⟨M2, hM2⟩ : ∃ M2, M2 = appM M left ob.data.toList d.data.toList := ⟨_, rfl⟩
  rw [← hE, ← hL, ← hM2] at hr ⊢
  have HR := hid2 hr
  clear hr hE hL hM2 h hj x1 x2 x3
  go_enter Tryd.func34, Tryd.ntmps34
  go_wp2_with fail
  go_still_tail 6, (by kernel_rfl)
  change wpList _ _ _ _ _ w.drew
  go_wp2_with (go_at_call 21; refine HR.out.mono ?_; rintro e w3 ⟨rfl, hd3, hb3⟩; have HD3 := hid2 hd3; have HB3 := hid2 hb3; clear hd3 hb3)
  go_ret
  exact ⟨rfl, HD3.out, (But.of_below (Below.refl _ _).drew).trans HB3.out⟩
set_option maxRecDepth 100000 in
theorem anew2_any (w : World) (j p b n : Nat) (nm : ByteArray) (br : Bool) (M : Tab FileE) (left : Int) (hj : JIs w j p nm br) (h : DiskIs w p b n M left) (hn : n < 1000000) (hle : -1 ≤ left ∧ left ≤ 9223372036854775807) (gj go : Nat) (ob : ByteArray) (x1 : Box w gj [.pointer (some ⟨j, 0, none⟩)]) (x2 : Box w go [.string ob]) (ho : ob.size ≤ 1000000000) (hf : (fileOf M ob.data.toList).1.length ≤ 1000000000) :
    Calls Tryd.prog 35 #[.pointer (some ⟨gj, 0, none⟩), .pointer (some ⟨go, 0, none⟩)] w fun e w' => e = .returned (.int .i64 (beginE M left true [strB ob.data.toList] ob.data.toList)) ∧ DiskIs w' p b (n + 1) (syncM M left ob.data.toList) (beginL M left true [strB ob.data.toList] ob.data.toList) ∧ But p b w w' := by
  have c0 : w.cell? ⟨j, 0, none⟩ = some (.pointer (some ⟨p, 0, none⟩)) := hj.box.cells 0
  have c1 : w.cell? ⟨j, 1, none⟩ = some (.string nm) := hj.box.cells 1
  have kgj : w.cell? ⟨gj, 0, none⟩ = some (.pointer (some ⟨j, 0, none⟩)) := x1.cells 0
  have kgo : w.cell? ⟨go, 0, none⟩ = some (.string ob) := x2.cells 0
  have hlt := h.lt
  have hr := sync_at w.drew p b n M left (h.below (Below.refl w.heap.size w).drew hlt.1 hlt.2) ob rfl (by rw [toList_length]; exact ho) hf (by omega) hle rfl rfl rfl
  obtain ⟨E, hE⟩ : ∃ E, E = beginE M left true [strB ob.data.toList] ob.data.toList := ⟨_, rfl⟩
  obtain ⟨L, hL⟩ : ∃ L, L = beginL M left true [strB ob.data.toList] ob.data.toList := ⟨_, rfl⟩
  obtain ⟨M2, hM2⟩ : ∃ M2, M2 = syncM M left ob.data.toList := ⟨_, rfl⟩
  rw [← hE, ← hL, ← hM2] at hr ⊢
  have HR := hid2 hr
  clear hr hE hL hM2 h hj x1 x2
  go_enter Tryd.func35, Tryd.ntmps35
  go_wp2_with fail
  go_still_tail 5, (by kernel_rfl)
  change wpList _ _ _ _ _ w.drew
  go_wp2_with (go_at_call 23; refine HR.out.mono ?_; rintro e w3 ⟨rfl, hd3, hb3⟩; have HD3 := hid2 hd3; have HB3 := hid2 hb3; clear hd3 hb3)
  go_ret
  exact ⟨rfl, HD3.out, (But.of_below (Below.refl _ _).drew).trans HB3.out⟩
set_option maxRecDepth 100000 in
theorem anew3_any (w : World) (j p b n : Nat) (nm : ByteArray) (br : Bool) (M : Tab FileE) (left : Int) (hj : JIs w j p nm br) (h : DiskIs w p b n M left) (hn : n < 1000000) (hle : -1 ≤ left ∧ left ≤ 9223372036854775807) (gj go : Nat) (ob : ByteArray) (x1 : Box w gj [.pointer (some ⟨j, 0, none⟩)]) (x2 : Box w go [.string ob]) (ho : ob.size ≤ 1000000000) (hz : nm.size ≤ 1000000000) :
    Calls Tryd.prog 36 #[.pointer (some ⟨gj, 0, none⟩), .pointer (some ⟨go, 0, none⟩)] w fun e w' => e = .returned (.int .i64 (beginE M left true [strB ob.data.toList, strB nm.data.toList] ob.data.toList)) ∧ DiskIs w' p b (n + 1) (renM M left ob.data.toList nm.data.toList) (beginL M left true [strB ob.data.toList, strB nm.data.toList] ob.data.toList) ∧ But p b w w' := by
  have c0 : w.cell? ⟨j, 0, none⟩ = some (.pointer (some ⟨p, 0, none⟩)) := hj.box.cells 0
  have c1 : w.cell? ⟨j, 1, none⟩ = some (.string nm) := hj.box.cells 1
  have kgj : w.cell? ⟨gj, 0, none⟩ = some (.pointer (some ⟨j, 0, none⟩)) := x1.cells 0
  have kgo : w.cell? ⟨go, 0, none⟩ = some (.string ob) := x2.cells 0
  have hlt := h.lt
  have hr := rename_any w.drew p b n M left (h.below (Below.refl w.heap.size w).drew hlt.1 hlt.2) ob nm ho hz (by omega) hle
  obtain ⟨E, hE⟩ : ∃ E, E = beginE M left true [strB ob.data.toList, strB nm.data.toList] ob.data.toList := ⟨_, rfl⟩
  obtain ⟨L, hL⟩ : ∃ L, L = beginL M left true [strB ob.data.toList, strB nm.data.toList] ob.data.toList := ⟨_, rfl⟩
  obtain ⟨M2, hM2⟩ : ∃ M2, M2 = renM M left ob.data.toList nm.data.toList := ⟨_, rfl⟩
  rw [← hE, ← hL, ← hM2] at hr ⊢
  have HR := hid2 hr
  clear hr hE hL hM2 h hj x1 x2
  go_enter Tryd.func36, Tryd.ntmps36
  go_wp2_with fail
  go_still_tail 9, (by kernel_rfl)
  change wpList _ _ _ _ _ w.drew
  go_wp2_with (go_at_call 37; refine HR.out.mono ?_; rintro e w3 ⟨rfl, hd3, hb3⟩; have HD3 := hid2 hd3; have HB3 := hid2 hb3; clear hd3 hb3)
  go_ret
  exact ⟨rfl, HD3.out, (But.of_below (Below.refl _ _).drew).trans HB3.out⟩
set_option maxRecDepth 100000 in
theorem add1_any (w : World) (j p b n : Nat) (nm : ByteArray) (br : Bool) (M : Tab FileE) (left : Int) (hj : JIs w j p nm br) (h : DiskIs w p b n M left) (hn : n < 1000000) (hle : -1 ≤ left ∧ left ≤ 9223372036854775807) (gj gb : Nat) (d : ByteArray) (x1 : Box w gj [.pointer (some ⟨j, 0, none⟩)]) (x3 : Box w gb [.string d]) (hz : nm.size ≤ 1000000000) (hd : d.size ≤ 1000000000) (hf : (fileOf M nm.data.toList).1.length ≤ 1000000000) :
    Calls Tryd.prog 20 #[.pointer (some ⟨gj, 0, none⟩), .pointer (some ⟨gb, 0, none⟩)] w fun e w' => e = .returned (.int .i64 (beginE M left false [strB nm.data.toList] nm.data.toList)) ∧ DiskIs w' p b (n + 1) (appM M left nm.data.toList d.data.toList) (beginL M left false [strB nm.data.toList] nm.data.toList) ∧ But p b w w' := by
  have c0 : w.cell? ⟨j, 0, none⟩ = some (.pointer (some ⟨p, 0, none⟩)) := hj.box.cells 0
  have c1 : w.cell? ⟨j, 1, none⟩ = some (.string nm) := hj.box.cells 1
  have kgj : w.cell? ⟨gj, 0, none⟩ = some (.pointer (some ⟨j, 0, none⟩)) := x1.cells 0
  have kgb : w.cell? ⟨gb, 0, none⟩ = some (.string d) := x3.cells 0
  have hlt := h.lt
  have hr := append_at w.drew p b n M left (h.below (Below.refl w.heap.size w).drew hlt.1 hlt.2) nm d rfl rfl (by rw [toList_length]; exact hz) (by rw [toList_length]; exact hd) hf (by omega) hle rfl rfl rfl
  obtain ⟨E, hE⟩ : ∃ E, E = beginE M left false [strB nm.data.toList] nm.data.toList := ⟨_, rfl⟩
  obtain ⟨L, hL⟩ : ∃ L, L = beginL M left false [strB nm.data.toList] nm.data.toList := ⟨_, rfl⟩
  obtain ⟨M2, hM2⟩ : ∃ M2, M2 = appM M left nm.data.toList d.data.toList := ⟨_, rfl⟩
  rw [← hE, ← hL, ← hM2] at hr ⊢
  have HR := hid2 hr
  clear hr hE hL hM2 h hj x1 x3
  go_enter Tryd.func20, Tryd.ntmps20
  go_wp2_with fail
  go_still_tail 9, (by kernel_rfl)
  change wpList _ _ _ _ _ w.drew
  go_wp2_with (go_at_call 21; refine HR.out.mono ?_; rintro e w3 ⟨rfl, hd3, hb3⟩; have HD3 := hid2 hd3; have HB3 := hid2 hb3; clear hd3 hb3)
  go_ret
  exact ⟨rfl, HD3.out, (But.of_below (Below.refl _ _).drew).trans HB3.out⟩
set_option maxRecDepth 100000 in
theorem add2_any (w : World) (j p b n : Nat) (nm : ByteArray) (br : Bool) (M : Tab FileE) (left : Int) (hj : JIs w j p nm br) (h : DiskIs w p b n M left) (hn : n < 1000000) (hle : -1 ≤ left ∧ left ≤ 9223372036854775807) (gj : Nat) (x1 : Box w gj [.pointer (some ⟨j, 0, none⟩)]) (hz : nm.size ≤ 1000000000) (hf : (fileOf M nm.data.toList).1.length ≤ 1000000000) :
    Calls Tryd.prog 22 #[.pointer (some ⟨gj, 0, none⟩)] w fun e w' => e = .returned (.int .i64 (beginE M left true [strB nm.data.toList] nm.data.toList)) ∧ DiskIs w' p b (n + 1) (syncM M left nm.data.toList) (beginL M left true [strB nm.data.toList] nm.data.toList) ∧ But p b w w' := by
  have c0 : w.cell? ⟨j, 0, none⟩ = some (.pointer (some ⟨p, 0, none⟩)) := hj.box.cells 0
  have c1 : w.cell? ⟨j, 1, none⟩ = some (.string nm) := hj.box.cells 1
  have kgj : w.cell? ⟨gj, 0, none⟩ = some (.pointer (some ⟨j, 0, none⟩)) := x1.cells 0
  have hlt := h.lt
  have hr := sync_at w.drew p b n M left (h.below (Below.refl w.heap.size w).drew hlt.1 hlt.2) nm rfl (by rw [toList_length]; exact hz) hf (by omega) hle rfl rfl rfl
  obtain ⟨E, hE⟩ : ∃ E, E = beginE M left true [strB nm.data.toList] nm.data.toList := ⟨_, rfl⟩
  obtain ⟨L, hL⟩ : ∃ L, L = beginL M left true [strB nm.data.toList] nm.data.toList := ⟨_, rfl⟩
  obtain ⟨M2, hM2⟩ : ∃ M2, M2 = syncM M left nm.data.toList := ⟨_, rfl⟩
  rw [← hE, ← hL, ← hM2] at hr ⊢
  have HR := hid2 hr
  clear hr hE hL hM2 h hj x1
  go_enter Tryd.func22, Tryd.ntmps22
  go_wp2_with fail
  go_still_tail 8, (by kernel_rfl)
  change wpList _ _ _ _ _ w.drew
  go_wp2_with (go_at_call 23; refine HR.out.mono ?_; rintro e w3 ⟨rfl, hd3, hb3⟩; have HD3 := hid2 hd3; have HB3 := hid2 hb3; clear hd3 hb3)
  go_ret
  exact ⟨rfl, HD3.out, (But.of_below (Below.refl _ _).drew).trans HB3.out⟩
end Go.Proofs.YtehpapoboeejkaaDoor
