/- The shelf's contracts on the sorted keys of a map, laid at this dump by the kit's tools, in plain declarations. -/
import Derived.Shelf.SlIter.Nil
import Derived.Shelf.SortM.Plain
import Derived.Shelf.SortM.SortNone
import Derived.Ground.GgzProg
import Derived.Ground.SlgmProg
import Derived.Test.YtehpapoboeejkaaDoorProg
import Derived.Shelf.Abstract
namespace Go.Proofs
open Go.RowKit Go.Maps Go.Sort Go.Shelf
def Tryd.keys42_ren : Go.Shelf.Ren := ⟨fun | 7 => 42 | 10 => 49 | n => n, fun | 23 => 42 | 26 => 9 | 3 => 66 | 28 => 79 | 0 => 0 | 27 => 78 | 33 => 49 | 4 => 4 | n => n, fun | n => n⟩
theorem Tryd.keys42 : Go.Proofs.SlLaysZ.n7 Tryd.prog Tryd.keys42_ren := {
  mixed := by kernel_rfl
  f7 := ⟨Tryd.f42.name, by decide, Tryd.func42.trans (congrArg some (by kernel_rfl))⟩
  f10 := ⟨Tryd.f49.name, by decide, Tryd.func49.trans (congrArg some (by kernel_rfl))⟩
  t0 := Tryd.underlying0
  a0 := Tryd.isAgg0
  z0 := Tryd.sizeOf0
  v0 := Tryd.zeroValue0
  t4 := Tryd.underlying4
  a4 := Tryd.isAgg4
  z4 := Tryd.sizeOf4
  v4 := Tryd.zeroValue4
  t23 := Tryd.underlying42
  a23 := Tryd.isAgg42
  z23 := Tryd.sizeOf42
  v23 := Tryd.zeroValue42
  t26 := Tryd.underlying9
  a26 := Tryd.isAgg9
  z26 := Tryd.sizeOf9
  v26 := Tryd.zeroValue9
  t27 := Tryd.underlying78
  a27 := Tryd.isAgg78
  z27 := Tryd.sizeOf78
  v27 := Tryd.zeroValue78
  t28 := Tryd.underlying79
  a28 := Tryd.isAgg79
  z28 := Tryd.sizeOf79
  v28 := Tryd.zeroValue79
  t33 := Tryd.underlying49
  a33 := Tryd.isAgg49
  z33 := Tryd.sizeOf49
  v33 := Tryd.zeroValue49 }
def Tryd.sorted41_ren : Go.Shelf.Ren := ⟨fun | 6 => 41 | 8 => 47 | 9 => 48 | 11 => 57 | 13 => 59 | 12 => 58 | 23 => 76 | 24 => 63 | 14 => 67 | 15 => 68 | 16 => 69 | 17 => 70 | 18 => 71 | 19 => 72 | 20 => 73 | 21 => 74 | 22 => 75 | 25 => 82 | 26 => 83 | 27 => 84 | 28 => 85 | 29 => 86 | 30 => 87 | 31 => 89 | n => n, fun | 26 => 9 | 28 => 79 | 24 => 28 | 0 => 0 | 3 => 3 | 37 => 81 | 48 => 103 | 50 => 95 | 4 => 4 | 40 => 117 | 39 => 116 | 45 => 122 | 5 => 5 | 9 => 9 | 51 => 130 | 55 => 134 | 57 => 137 | 58 => 138 | 33 => 49 | n => n, fun | n => n⟩
theorem Tryd.sorted41 : Go.Proofs.SlLaysZ.n6 Tryd.prog Tryd.sorted41_ren := {
  mixed := by kernel_rfl
  f6 := ⟨Tryd.f41.name, by decide, Tryd.func41.trans (congrArg some (by kernel_rfl))⟩
  f8 := ⟨Tryd.f47.name, by decide, Tryd.func47.trans (congrArg some (by kernel_rfl))⟩
  f11 := ⟨Tryd.f57.name, by decide, Tryd.func57.trans (congrArg some (by kernel_rfl))⟩
  t0 := Tryd.underlying0
  a0 := Tryd.isAgg0
  z0 := Tryd.sizeOf0
  v0 := Tryd.zeroValue0
  t24 := Tryd.underlying28
  a24 := Tryd.isAgg28
  z24 := Tryd.sizeOf28
  v24 := Tryd.zeroValue28
  t26 := Tryd.underlying9
  a26 := Tryd.isAgg9
  z26 := Tryd.sizeOf9
  v26 := Tryd.zeroValue9
  t28 := Tryd.underlying79
  a28 := Tryd.isAgg79
  z28 := Tryd.sizeOf79
  v28 := Tryd.zeroValue79
  i26 := by kernel_rfl }
def Tryd.sort48_ren : Go.Shelf.Ren := ⟨fun | 6 => 48 | 8 => 59 | 9 => 58 | 19 => 76 | 20 => 63 | 21 => 67 | 22 => 68 | 23 => 69 | 24 => 70 | 25 => 71 | 26 => 72 | 27 => 73 | 28 => 74 | 29 => 75 | 36 => 82 | 31 => 83 | 32 => 84 | 37 => 85 | 38 => 86 | 39 => 87 | 41 => 89 | n => n, fun | 27 => 28 | 29 => 9 | 3 => 3 | 32 => 81 | 26 => 28 | 0 => 0 | 44 => 103 | 46 => 95 | 4 => 4 | 36 => 117 | 35 => 116 | 41 => 122 | 5 => 5 | 9 => 9 | 53 => 130 | 57 => 134 | 63 => 137 | 64 => 138 | n => n, fun | n => n⟩
theorem Tryd.sort48 : Go.Proofs.SlLaysM.n6 Tryd.prog Tryd.sort48_ren := {
  mixed := by kernel_rfl
  f6 := ⟨Tryd.f48.name, by decide, Tryd.func48.trans (congrArg some (by kernel_rfl))⟩
  f8 := Tryd.func59.trans (congrArg some (by kernel_rfl))
  f9 := ⟨Tryd.f58.name, by decide, Tryd.func58.trans (congrArg some (by kernel_rfl))⟩
  f19 := Tryd.func76.trans (congrArg some (by kernel_rfl))
  f20 := Tryd.func63.trans (congrArg some (by kernel_rfl))
  f21 := ⟨Tryd.f67.name, by decide, Tryd.func67.trans (congrArg some (by kernel_rfl))⟩
  f22 := ⟨Tryd.f68.name, by decide, Tryd.func68.trans (congrArg some (by kernel_rfl))⟩
  f23 := ⟨Tryd.f69.name, by decide, Tryd.func69.trans (congrArg some (by kernel_rfl))⟩
  f24 := ⟨Tryd.f70.name, by decide, Tryd.func70.trans (congrArg some (by kernel_rfl))⟩
  f25 := ⟨Tryd.f71.name, by decide, Tryd.func71.trans (congrArg some (by kernel_rfl))⟩
  f26 := ⟨Tryd.f72.name, by decide, Tryd.func72.trans (congrArg some (by kernel_rfl))⟩
  f27 := ⟨Tryd.f73.name, by decide, Tryd.func73.trans (congrArg some (by kernel_rfl))⟩
  f28 := ⟨Tryd.f74.name, by decide, Tryd.func74.trans (congrArg some (by kernel_rfl))⟩
  f29 := ⟨Tryd.f75.name, by decide, Tryd.func75.trans (congrArg some (by kernel_rfl))⟩
  f31 := Tryd.func83.trans (congrArg some (by kernel_rfl))
  f32 := Tryd.func84.trans (congrArg some (by kernel_rfl))
  f36 := ⟨Tryd.f82.name, by decide, Tryd.func82.trans (congrArg some (by kernel_rfl))⟩
  f37 := ⟨Tryd.f85.name, by decide, Tryd.func85.trans (congrArg some (by kernel_rfl))⟩
  f38 := ⟨Tryd.f86.name, by decide, Tryd.func86.trans (congrArg some (by kernel_rfl))⟩
  f39 := ⟨Tryd.f87.name, by decide, Tryd.func87.trans (congrArg some (by kernel_rfl))⟩
  f41 := ⟨Tryd.f89.name, by decide, Tryd.func89.trans (congrArg some (by kernel_rfl))⟩
  t0 := Tryd.underlying0
  a0 := Tryd.isAgg0
  z0 := Tryd.sizeOf0
  v0 := Tryd.zeroValue0
  t3 := Tryd.underlying3
  a3 := Tryd.isAgg3
  z3 := Tryd.sizeOf3
  v3 := Tryd.zeroValue3
  t4 := Tryd.underlying4
  a4 := Tryd.isAgg4
  z4 := Tryd.sizeOf4
  v4 := Tryd.zeroValue4
  t5 := Tryd.underlying5
  a5 := Tryd.isAgg5
  z5 := Tryd.sizeOf5
  v5 := Tryd.zeroValue5
  t9 := Tryd.underlying9
  a9 := Tryd.isAgg9
  z9 := Tryd.sizeOf9
  v9 := Tryd.zeroValue9
  t26 := Tryd.underlying28
  a26 := Tryd.isAgg28
  z26 := Tryd.sizeOf28
  v26 := Tryd.zeroValue28
  t27 := Tryd.underlying28
  a27 := Tryd.isAgg28
  z27 := Tryd.sizeOf28
  v27 := Tryd.zeroValue28
  t29 := Tryd.underlying9
  a29 := Tryd.isAgg9
  z29 := Tryd.sizeOf9
  v29 := Tryd.zeroValue9
  t32 := Tryd.underlying81
  a32 := Tryd.isAgg81
  z32 := Tryd.sizeOf81
  v32 := Tryd.zeroValue81
  t35 := Tryd.underlying116
  a35 := Tryd.isAgg116
  z35 := Tryd.sizeOf116
  v35 := Tryd.zeroValue116
  t36 := Tryd.underlying117
  a36 := Tryd.isAgg117
  z36 := Tryd.sizeOf117
  v36 := Tryd.zeroValue117
  t41 := Tryd.underlying122
  a41 := Tryd.isAgg122
  z41 := Tryd.sizeOf122
  v41 := Tryd.zeroValue122
  t44 := Tryd.underlying103
  a44 := Tryd.isAgg103
  z44 := Tryd.sizeOf103
  v44 := Tryd.zeroValue103
  t46 := Tryd.underlying95
  a46 := Tryd.isAgg95
  z46 := Tryd.sizeOf95
  v46 := Tryd.zeroValue95
  t53 := Tryd.underlying130
  a53 := Tryd.isAgg130
  z53 := Tryd.sizeOf130
  v53 := Tryd.zeroValue130
  t57 := Tryd.underlying134
  a57 := Tryd.isAgg134
  z57 := Tryd.sizeOf134
  v57 := Tryd.zeroValue134
  t63 := Tryd.underlying137
  a63 := Tryd.isAgg137
  z63 := Tryd.sizeOf137
  v63 := Tryd.zeroValue137
  t64 := Tryd.underlying138
  a64 := Tryd.isAgg138
  z64 := Tryd.sizeOf138
  v64 := Tryd.zeroValue138 }
theorem Tryd.sorts41 (m : Nat) : AnyZ.SortsIn Tryd.prog Tryd.sorted41_ren Fence.wide m :=
  ⟨fun blk off cap ss W hH hblk hsz => callsIn_wide.2 (AnyM.slices_Sort_string Tryd.sort48 blk off cap ss W hH hblk hsz),
   fun p cap W => callsIn_wide.2 (AnyM.slices_Sort_string_none Tryd.sort48 p cap W)⟩

theorem Tryd.maps_Keys_42 (mb : Option Nat) (W : World) : CallsIn Fence.wide 5 Tryd.prog 42 #[.map mb] W fun e w' => e = .returned (.func (.func 49) #[] #[.pointer (some ⟨W.heap.size, 0, none⟩)]) ∧ w' = W.alloc (.cells #[.map mb] 42) :=
  AnyZ.keys_in Tryd.keys42 Fence.wide 5 trivial rfl mb W

set_option maxHeartbeats 1000000 in
theorem Tryd.slices_Sorted_keys_41_42 {H : Type} (b nn : Nat) (D0 : DataW H) (R : Value → Option (DataW H × List MemPlace)) (w : World) (hown : w.ownsMap Tryd.prog 9 R b nn D0) (hmax : Maps.size D0 ≤ maxLen) (hbytes : Maps.size D0 * 16 ≤ 140737488355328) :
    CallsIn Fence.wide 5 Tryd.prog 41 #[.func (.func 49) #[] #[.pointer (some ⟨w.heap.size, 0, none⟩)]] (w.alloc (.cells #[.map (some b)] 42)) fun e w' => ∃ (v : Value) (ss : List (List UInt8)), e = .returned v ∧ ss.Perm (strKeys D0) ∧
      w'.ownsRow (w.alloc (.cells #[.map (some b)] 42)).heap.size 9 1 v ss.length ((ss.mergeSort (fun x y => decide (x ≤ y))).map encStr) ∧ (v = .slice none 0 0 ↔ ss = []) ∧ Below (w.alloc (.cells #[.map (some b)] 42)).heap.size (w.alloc (.cells #[.map (some b)] 42)) w' := by
  have hbl := hown.lt
  have hseq : SeqGives Fence.wide 2 Tryd.prog 49 #[.pointer (some ⟨w.heap.size, 0, none⟩)] encStr (fun ss => ss.Perm (strKeys D0)) (Maps.size D0) (w.alloc (.cells #[.map (some b)] 42)) :=
    AnyZ.keys_gives (ρ := Tryd.keys42_ren) { Tryd.keys42 with } Fence.wide _ trivial rfl (by omega) w.heap.size b nn D0 _ (by simp) (by simp) (by
      obtain ⟨es, clock, hb, Ft, hs, hD⟩ := hown
      exact ⟨es, clock, (Below.heap_alloc _ _ b hbl).trans hb, Ft, hs, hD⟩)
  exact AnyZ.sorted_in Tryd.sorted41 Fence.wide 5 trivial trivial trivial trivial rfl (by omega) (Tryd.sorts41 _) (enters_of Tryd.func48 (by kernel_rfl) rfl) 49 #[.pointer (some ⟨w.heap.size, 0, none⟩)] trivial (enters_of Tryd.func49 (by kernel_rfl) rfl) _ _ hmax hbytes _ hseq

set_option maxHeartbeats 1000000 in
theorem Tryd.slices_Sorted_keys_nil_41_42 (w : World) :
    CallsIn Fence.wide 5 Tryd.prog 41 #[.func (.func 49) #[] #[.pointer (some ⟨w.heap.size, 0, none⟩)]] (w.alloc (.cells #[.map none] 42)) fun e w' => ∃ (v : Value) (ss : List (List UInt8)), e = .returned v ∧ ss = [] ∧
      w'.ownsRow (w.alloc (.cells #[.map none] 42)).heap.size 9 1 v ss.length ((ss.mergeSort (fun x y => decide (x ≤ y))).map encStr) ∧ (v = .slice none 0 0 ↔ ss = []) ∧ Below (w.alloc (.cells #[.map none] 42)).heap.size (w.alloc (.cells #[.map none] 42)) w' := by
  have hseq : SeqGives Fence.wide 2 Tryd.prog 49 #[.pointer (some ⟨w.heap.size, 0, none⟩)] encStr (fun ss : List (List UInt8) => ss = []) 0 (w.alloc (.cells #[.map none] 42)) :=
    AnyZ.keys_gives_nil (ρ := Tryd.keys42_ren) { Tryd.keys42 with } Fence.wide _ trivial rfl w.heap.size _ (by simp) (by simp)
  exact AnyZ.sorted_in Tryd.sorted41 Fence.wide 5 trivial trivial trivial trivial rfl (by omega) (Tryd.sorts41 _) (enters_of Tryd.func48 (by kernel_rfl) rfl) 49 #[.pointer (some ⟨w.heap.size, 0, none⟩)] trivial (enters_of Tryd.func49 (by kernel_rfl) rfl) _ 0 (Nat.zero_le _) (by omega) _ hseq

end Go.Proofs
