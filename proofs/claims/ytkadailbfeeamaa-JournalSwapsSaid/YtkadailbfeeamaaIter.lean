/- The shelf's contracts on the sorted keys of a map, laid at this dump by the kit's tools, in plain declarations. -/
import Derived.Shelf.SlIter.Nil
import Derived.Shelf.SortM.Plain
import Derived.Shelf.SortM.SortNone
import Derived.Ground.GgzProg
import Derived.Ground.SlgmProg
import Derived.Test.YtkadailbfeeamaaProg
import Derived.Shelf.Abstract
namespace Go.Proofs
open Go.RowKit Go.Maps Go.Sort Go.Shelf
def Try.keys76_ren : Go.Shelf.Ren := ⟨fun | 7 => 76 | 10 => 83 | n => n, fun | 23 => 89 | 26 => 9 | 3 => 99 | 28 => 116 | 0 => 0 | 27 => 115 | 33 => 43 | 4 => 4 | n => n, fun | n => n⟩
theorem Try.keys76 : Go.Proofs.SlLaysZ.n7 Try.prog Try.keys76_ren := {
  mixed := by kernel_rfl
  f7 := ⟨Try.f76.name, by decide, Try.func76.trans (congrArg some (by kernel_rfl))⟩
  f10 := ⟨Try.f83.name, by decide, Try.func83.trans (congrArg some (by kernel_rfl))⟩
  t0 := Try.underlying0
  a0 := Try.isAgg0
  z0 := Try.sizeOf0
  v0 := Try.zeroValue0
  t4 := Try.underlying4
  a4 := Try.isAgg4
  z4 := Try.sizeOf4
  v4 := Try.zeroValue4
  t23 := Try.underlying89
  a23 := Try.isAgg89
  z23 := Try.sizeOf89
  v23 := Try.zeroValue89
  t26 := Try.underlying9
  a26 := Try.isAgg9
  z26 := Try.sizeOf9
  v26 := Try.zeroValue9
  t27 := Try.underlying115
  a27 := Try.isAgg115
  z27 := Try.sizeOf115
  v27 := Try.zeroValue115
  t28 := Try.underlying116
  a28 := Try.isAgg116
  z28 := Try.sizeOf116
  v28 := Try.zeroValue116
  t33 := Try.underlying43
  a33 := Try.isAgg43
  z33 := Try.sizeOf43
  v33 := Try.zeroValue43 }
def Try.sorted75_ren : Go.Shelf.Ren := ⟨fun | 6 => 75 | 8 => 81 | 9 => 82 | 11 => 84 | 13 => 86 | 12 => 85 | 23 => 96 | 24 => 97 | 14 => 87 | 15 => 88 | 16 => 89 | 17 => 90 | 18 => 91 | 19 => 92 | 20 => 93 | 21 => 94 | 22 => 95 | 25 => 98 | 26 => 99 | 27 => 100 | 28 => 101 | 29 => 102 | 30 => 103 | 31 => 104 | n => n, fun | 26 => 9 | 28 => 116 | 24 => 30 | 0 => 0 | 3 => 3 | 37 => 80 | 48 => 67 | 50 => 74 | 4 => 4 | 40 => 127 | 39 => 126 | 45 => 132 | 5 => 5 | 9 => 9 | 51 => 136 | 55 => 140 | 57 => 142 | 58 => 143 | 33 => 43 | n => n, fun | n => n⟩
theorem Try.sorted75 : Go.Proofs.SlLaysZ.n6 Try.prog Try.sorted75_ren := {
  mixed := by kernel_rfl
  f6 := ⟨Try.f75.name, by decide, Try.func75.trans (congrArg some (by kernel_rfl))⟩
  f8 := ⟨Try.f81.name, by decide, Try.func81.trans (congrArg some (by kernel_rfl))⟩
  f11 := ⟨Try.f84.name, by decide, Try.func84.trans (congrArg some (by kernel_rfl))⟩
  t0 := Try.underlying0
  a0 := Try.isAgg0
  z0 := Try.sizeOf0
  v0 := Try.zeroValue0
  t24 := Try.underlying30
  a24 := Try.isAgg30
  z24 := Try.sizeOf30
  v24 := Try.zeroValue30
  t26 := Try.underlying9
  a26 := Try.isAgg9
  z26 := Try.sizeOf9
  v26 := Try.zeroValue9
  t28 := Try.underlying116
  a28 := Try.isAgg116
  z28 := Try.sizeOf116
  v28 := Try.zeroValue116
  i26 := by kernel_rfl }
def Try.sort82_ren : Go.Shelf.Ren := ⟨fun | 6 => 82 | 8 => 86 | 9 => 85 | 19 => 96 | 20 => 97 | 21 => 87 | 22 => 88 | 23 => 89 | 24 => 90 | 25 => 91 | 26 => 92 | 27 => 93 | 28 => 94 | 29 => 95 | 36 => 98 | 31 => 99 | 32 => 100 | 37 => 101 | 38 => 102 | 39 => 103 | 41 => 104 | n => n, fun | 27 => 30 | 29 => 9 | 3 => 3 | 32 => 80 | 26 => 30 | 0 => 0 | 44 => 67 | 46 => 74 | 4 => 4 | 36 => 127 | 35 => 126 | 41 => 132 | 5 => 5 | 9 => 9 | 53 => 136 | 57 => 140 | 63 => 142 | 64 => 143 | n => n, fun | n => n⟩
theorem Try.sort82 : Go.Proofs.SlLaysM.n6 Try.prog Try.sort82_ren := {
  mixed := by kernel_rfl
  f6 := ⟨Try.f82.name, by decide, Try.func82.trans (congrArg some (by kernel_rfl))⟩
  f8 := Try.func86.trans (congrArg some (by kernel_rfl))
  f9 := ⟨Try.f85.name, by decide, Try.func85.trans (congrArg some (by kernel_rfl))⟩
  f19 := Try.func96.trans (congrArg some (by kernel_rfl))
  f20 := Try.func97.trans (congrArg some (by kernel_rfl))
  f21 := ⟨Try.f87.name, by decide, Try.func87.trans (congrArg some (by kernel_rfl))⟩
  f22 := ⟨Try.f88.name, by decide, Try.func88.trans (congrArg some (by kernel_rfl))⟩
  f23 := ⟨Try.f89.name, by decide, Try.func89.trans (congrArg some (by kernel_rfl))⟩
  f24 := ⟨Try.f90.name, by decide, Try.func90.trans (congrArg some (by kernel_rfl))⟩
  f25 := ⟨Try.f91.name, by decide, Try.func91.trans (congrArg some (by kernel_rfl))⟩
  f26 := ⟨Try.f92.name, by decide, Try.func92.trans (congrArg some (by kernel_rfl))⟩
  f27 := ⟨Try.f93.name, by decide, Try.func93.trans (congrArg some (by kernel_rfl))⟩
  f28 := ⟨Try.f94.name, by decide, Try.func94.trans (congrArg some (by kernel_rfl))⟩
  f29 := ⟨Try.f95.name, by decide, Try.func95.trans (congrArg some (by kernel_rfl))⟩
  f31 := Try.func99.trans (congrArg some (by kernel_rfl))
  f32 := Try.func100.trans (congrArg some (by kernel_rfl))
  f36 := ⟨Try.f98.name, by decide, Try.func98.trans (congrArg some (by kernel_rfl))⟩
  f37 := ⟨Try.f101.name, by decide, Try.func101.trans (congrArg some (by kernel_rfl))⟩
  f38 := ⟨Try.f102.name, by decide, Try.func102.trans (congrArg some (by kernel_rfl))⟩
  f39 := ⟨Try.f103.name, by decide, Try.func103.trans (congrArg some (by kernel_rfl))⟩
  f41 := ⟨Try.f104.name, by decide, Try.func104.trans (congrArg some (by kernel_rfl))⟩
  t0 := Try.underlying0
  a0 := Try.isAgg0
  z0 := Try.sizeOf0
  v0 := Try.zeroValue0
  t3 := Try.underlying3
  a3 := Try.isAgg3
  z3 := Try.sizeOf3
  v3 := Try.zeroValue3
  t4 := Try.underlying4
  a4 := Try.isAgg4
  z4 := Try.sizeOf4
  v4 := Try.zeroValue4
  t5 := Try.underlying5
  a5 := Try.isAgg5
  z5 := Try.sizeOf5
  v5 := Try.zeroValue5
  t9 := Try.underlying9
  a9 := Try.isAgg9
  z9 := Try.sizeOf9
  v9 := Try.zeroValue9
  t26 := Try.underlying30
  a26 := Try.isAgg30
  z26 := Try.sizeOf30
  v26 := Try.zeroValue30
  t27 := Try.underlying30
  a27 := Try.isAgg30
  z27 := Try.sizeOf30
  v27 := Try.zeroValue30
  t29 := Try.underlying9
  a29 := Try.isAgg9
  z29 := Try.sizeOf9
  v29 := Try.zeroValue9
  t32 := Try.underlying80
  a32 := Try.isAgg80
  z32 := Try.sizeOf80
  v32 := Try.zeroValue80
  t35 := Try.underlying126
  a35 := Try.isAgg126
  z35 := Try.sizeOf126
  v35 := Try.zeroValue126
  t36 := Try.underlying127
  a36 := Try.isAgg127
  z36 := Try.sizeOf127
  v36 := Try.zeroValue127
  t41 := Try.underlying132
  a41 := Try.isAgg132
  z41 := Try.sizeOf132
  v41 := Try.zeroValue132
  t44 := Try.underlying67
  a44 := Try.isAgg67
  z44 := Try.sizeOf67
  v44 := Try.zeroValue67
  t46 := Try.underlying74
  a46 := Try.isAgg74
  z46 := Try.sizeOf74
  v46 := Try.zeroValue74
  t53 := Try.underlying136
  a53 := Try.isAgg136
  z53 := Try.sizeOf136
  v53 := Try.zeroValue136
  t57 := Try.underlying140
  a57 := Try.isAgg140
  z57 := Try.sizeOf140
  v57 := Try.zeroValue140
  t63 := Try.underlying142
  a63 := Try.isAgg142
  z63 := Try.sizeOf142
  v63 := Try.zeroValue142
  t64 := Try.underlying143
  a64 := Try.isAgg143
  z64 := Try.sizeOf143
  v64 := Try.zeroValue143 }
theorem Try.sorts75 (m : Nat) : AnyZ.SortsIn Try.prog Try.sorted75_ren Fence.wide m :=
  ⟨fun blk off cap ss W hH hblk hsz => callsIn_wide.2 (AnyM.slices_Sort_string Try.sort82 blk off cap ss W hH hblk hsz),
   fun p cap W => callsIn_wide.2 (AnyM.slices_Sort_string_none Try.sort82 p cap W)⟩

theorem Try.maps_Keys_76 (mb : Option Nat) (W : World) : CallsIn Fence.wide 5 Try.prog 76 #[.map mb] W fun e w' => e = .returned (.func (.func 83) #[] #[.pointer (some ⟨W.heap.size, 0, none⟩)]) ∧ w' = W.alloc (.cells #[.map mb] 89) :=
  AnyZ.keys_in Try.keys76 Fence.wide 5 trivial rfl mb W

set_option maxHeartbeats 1000000 in
theorem Try.slices_Sorted_keys_75_76 {H : Type} (b nn : Nat) (D0 : DataW H) (R : Value → Option (DataW H × List MemPlace)) (w : World) (hown : w.ownsMap Try.prog 9 R b nn D0) (hmax : Maps.size D0 ≤ maxLen) (hbytes : Maps.size D0 * 16 ≤ 140737488355328) :
    CallsIn Fence.wide 5 Try.prog 75 #[.func (.func 83) #[] #[.pointer (some ⟨w.heap.size, 0, none⟩)]] (w.alloc (.cells #[.map (some b)] 89)) fun e w' => ∃ (v : Value) (ss : List (List UInt8)), e = .returned v ∧ ss.Perm (strKeys D0) ∧
      w'.ownsRow (w.alloc (.cells #[.map (some b)] 89)).heap.size 9 1 v ss.length ((ss.mergeSort (fun x y => decide (x ≤ y))).map encStr) ∧ (v = .slice none 0 0 ↔ ss = []) ∧ Below (w.alloc (.cells #[.map (some b)] 89)).heap.size (w.alloc (.cells #[.map (some b)] 89)) w' := by
  have hbl := hown.lt
  have hseq : SeqGives Fence.wide 2 Try.prog 83 #[.pointer (some ⟨w.heap.size, 0, none⟩)] encStr (fun ss => ss.Perm (strKeys D0)) (Maps.size D0) (w.alloc (.cells #[.map (some b)] 89)) :=
    AnyZ.keys_gives (ρ := Try.keys76_ren) { Try.keys76 with } Fence.wide _ trivial rfl (by omega) w.heap.size b nn D0 _ (by simp) (by simp) (by
      obtain ⟨es, clock, hb, Ft, hs, hD⟩ := hown
      exact ⟨es, clock, (Below.heap_alloc _ _ b hbl).trans hb, Ft, hs, hD⟩)
  exact AnyZ.sorted_in Try.sorted75 Fence.wide 5 trivial trivial trivial trivial rfl (by omega) (Try.sorts75 _) (enters_of Try.func82 (by kernel_rfl) rfl) 83 #[.pointer (some ⟨w.heap.size, 0, none⟩)] trivial (enters_of Try.func83 (by kernel_rfl) rfl) _ _ hmax hbytes _ hseq

set_option maxHeartbeats 1000000 in
theorem Try.slices_Sorted_keys_nil_75_76 (w : World) :
    CallsIn Fence.wide 5 Try.prog 75 #[.func (.func 83) #[] #[.pointer (some ⟨w.heap.size, 0, none⟩)]] (w.alloc (.cells #[.map none] 89)) fun e w' => ∃ (v : Value) (ss : List (List UInt8)), e = .returned v ∧ ss = [] ∧
      w'.ownsRow (w.alloc (.cells #[.map none] 89)).heap.size 9 1 v ss.length ((ss.mergeSort (fun x y => decide (x ≤ y))).map encStr) ∧ (v = .slice none 0 0 ↔ ss = []) ∧ Below (w.alloc (.cells #[.map none] 89)).heap.size (w.alloc (.cells #[.map none] 89)) w' := by
  have hseq : SeqGives Fence.wide 2 Try.prog 83 #[.pointer (some ⟨w.heap.size, 0, none⟩)] encStr (fun ss : List (List UInt8) => ss = []) 0 (w.alloc (.cells #[.map none] 89)) :=
    AnyZ.keys_gives_nil (ρ := Try.keys76_ren) { Try.keys76 with } Fence.wide _ trivial rfl w.heap.size _ (by simp) (by simp)
  exact AnyZ.sorted_in Try.sorted75 Fence.wide 5 trivial trivial trivial trivial rfl (by omega) (Try.sorts75 _) (enters_of Try.func82 (by kernel_rfl) rfl) 83 #[.pointer (some ⟨w.heap.size, 0, none⟩)] trivial (enters_of Try.func83 (by kernel_rfl) rfl) _ 0 (Nat.zero_le _) (by omega) _ hseq

end Go.Proofs
