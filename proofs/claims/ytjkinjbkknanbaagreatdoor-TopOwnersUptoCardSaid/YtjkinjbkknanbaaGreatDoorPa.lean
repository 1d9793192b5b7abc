/- Pa -/
import Derived.StillTailTactics
import Derived.Deep.DeepMust
import Derived.Maps.Ext
import Derived.RangeFuncNested
import Derived.RangeFuncBound
import Derived.Lib.SlicesCompact
import Derived.Lib.AppendIntMem
import Derived.Maps.OwnIn
import Derived.Lib.QuoteLoop
import Derived.Shelf.GgClosure.StringsIndexFunc
import Derived.Shelf.RegionOpen
import Derived.Lib.SplitLaws
import Derived.Lib.BytesEntry
import Derived.Lib.Join
import Derived.Lib.FieldsP
import Derived.Lib.MapLaws
import Derived.WideKeyArr2
import Derived.Deep.WholeRow
import Derived.Great.BuildSlice
import Derived.Shelf.SlIter.Collect
import Derived.Deep.RegionHeld3
import Derived.Shelf.SlSortCmp.NoneTotal
import Derived.Shelf.Small.Strs
import Derived.ProofKit
import Derived.OpenShut
import Derived.LaidMore
import Derived.Lay
import Derived.SevenTiedAt
import Derived.Stop.LaidErr
import Derived.Deep.DeepHandedRow
import Derived.Test.YtjkinjbkknanbaaGreatDoorProg
set_option maxRecDepth 100000
set_option maxHeartbeats 8000000
set_option linter.unusedSimpArgs false
set_option linter.unusedVariables false
namespace Go.Proofs.YtjkinjbkknanbaaGreatDoor
open Go.Proofs.Tryz
section
theorem ai {α:Type} (a:α):∃ x,x=a:=⟨_,rfl⟩
theorem om {P:Prop} (h:P:=by omega):P:=h
theorem dc {P:Prop} (h:P:=by decide):P:=h
theorem kr {P:Prop} (h:P:=by first | kernel_rfl | (show _=_;kernel_rfl)):P:=h
theorem sp {P:Prop} (h:P:=by simp):P:=h
abbrev aQm:=@_root_.Nat.le_refl
abbrev aQn:=@_root_.Nat.le_trans
abbrev aQo:=@_root_.Go.cell_of_row
abbrev aQp:=@_root_.List.getElem?_eq_getElem
abbrev aQq:=@_root_.Nat.lt_of_lt_of_le
abbrev aQr:=@_root_.List.mem_of_getElem?
abbrev aQs:=@_root_.List.getElem?_eq_some_iff
abbrev aQt:=@_root_.Go.World.alloc_heap_new
abbrev aQu:=@_root_.Nat.zero_le
abbrev aQv:=@_root_.List.mem_map
abbrev aQw:=@_root_.List.mem_cons
abbrev aQx:=@_root_.Go.bodyPost_ret
abbrev aQy:=@_root_.Go.World.block_lt_of_cell?
abbrev aQz:=@_root_.Go.heap_alloc_new
abbrev aQA:=@_root_.Go.setRow_other
abbrev aQB:=@_root_.Go.setRow_heap
abbrev aQC:=@_root_.List.eq_nil_of_length_eq_zero
abbrev aQD:=@_root_.Nat.lt_or_ge
abbrev aQE:=@_root_.Go.RowKit.Below.heap_setCell
abbrev aQF:=@_root_.Go.frozen_of_row
abbrev aQG:=@_root_.Go.callsIn_wide
abbrev aQH:=@_root_.Nat.eq_zero_or_pos
abbrev aQI:=@_root_.List.mem_append
abbrev aQJ:=@_root_.Ne.symm
abbrev aQK:=@_root_.List.mem_range
abbrev aQL:=@_root_.Nat.le_of_eq
abbrev aQM:=@_root_.Go.wpList_plain
abbrev aQN:=@_root_.Go.RowKit.Below.heap_alloc
abbrev aQO:=@_root_.Go.results_cell_row
abbrev aQP:=@_root_.Nat.mul_le_mul_right
abbrev aQQ:=@_root_.List.mem_cons_of_mem
abbrev aQR:=@_root_.Go.grownBy_putObj'
abbrev aQS:=@_root_.Option.some.inj
abbrev aQT:=@_root_.Go.results_tmp2
abbrev aQU:=@_root_.List.mem_append_left
abbrev aQV:=@_root_.List.all_eq_true
abbrev aQW:=@_root_.Go.World.putObj_heap_other
abbrev aQX:=@_root_.Go.results_tmp
abbrev aQY:=@_root_.List.mem_flatMap
abbrev aQZ:=@_root_.Array.getElem?_eq_some_iff
abbrev aQ0:=@_root_.List.length_filter_le
abbrev aQ1:=@_root_.Go.callsIn_of_wp
abbrev aQ2:=@_root_.List.any_eq_false
abbrev aQ3:=@_root_.Nat.le_of_lt
abbrev aQ4:=@_root_.List.mem_append_right
abbrev aQ5:=@_root_.Go.run_takeDeferred
abbrev aQ6:=@_root_.List.not_lt
abbrev aQ7:=@_root_.List.mem_of_find?_eq_some
abbrev aQ8:=@_root_.List.mem_filter
abbrev aQ9:=@_root_.Go.IntWalk.i64_in
abbrev aRa:=@_root_.Go.World.cell?_of_block
abbrev aRb:=@_root_.List.nodup_nil
abbrev aRc:=@_root_.List.mem_singleton
abbrev aRd:=@_root_.decide_eq_false
abbrev aRe:=@_root_.Go.results_none
abbrev aRf:=@_root_.Go.callsIn_of_wp_marks
abbrev aRg:=@_root_.List.pairwise_cons
abbrev aRh:=@_root_.List.getElem?_of_mem
abbrev aRi:=@_root_.List.take_of_length_le
abbrev aRj:=@_root_.List.take_append_drop
abbrev aRk:=@_root_.Nat.le_add_right
abbrev aRl:=@_root_.Option.isSome_iff_exists
abbrev aRm:=@_root_.Nat.not_lt_zero
abbrev aRn:=@_root_.Go.Lib.run_eql_slice_nil
abbrev aRo:=@_root_.List.getElem?_range
abbrev aRp:=@_root_.Go.Maps.int_keyed
abbrev aRq:=@_root_.List.any_eq_true
abbrev aRr:=@_root_.Go.World.ownsMap.lookup
abbrev aRs:=@_root_.Go.heap_setCell_other
abbrev aRt:=@_root_.List.length_pos_iff
abbrev aRu:=@_root_.List.mem_iff_getElem
abbrev aRv:=@_root_.List.ext_getElem
abbrev aRw:=@_root_.UInt8.toNat_inj
abbrev aRx:=@_root_.Go.run_equalIn_deep
abbrev aRy:=@_root_.List.findIdx?_eq_some_iff_getElem
abbrev aRz:=@_root_.List.mem_of_mem_drop
abbrev aRA:=@_root_.Classical.choose_spec
abbrev aRB:=World
abbrev aRC:=Option Addr
abbrev aRD:=List Value
abbrev aRE:=Exit->Act->World->Prop
abbrev aRF:=Ending->World->Prop
abbrev aRG:=List Nat
abbrev aRH:=List UInt8
abbrev aRI:=Nat->Prop
theorem nq2 {A:Type _} {B:Type _} (a:A) (b:B):∃ a1,a1=a/\∃ b1,b1=b:=⟨_,rfl,_,rfl⟩
theorem nq3 {A:Type _} {B:Type _} {C:Type _} (a:A) (b:B) (c:C):∃ a1,a1=a/\∃ b1,b1=b/\∃ c1,c1=c:=⟨_,rfl,_,rfl,_,rfl⟩
theorem nq4 {A:Type _} {B:Type _} {C:Type _} {D:Type _} (a:A) (b:B) (c:C) (d:D):∃ a1,a1=a/\∃ b1,b1=b/\∃ c1,c1=c/\∃ d1,d1=d:=⟨_,rfl,_,rfl,_,rfl,_,rfl⟩
theorem nq5 {A:Type _} {B:Type _} {C:Type _} {D:Type _} {E:Type _} (a:A) (b:B) (c:C) (d:D) (e:E):∃ a1,a1=a/\∃ b1,b1=b/\∃ c1,c1=c/\∃ d1,d1=d/\∃ e1,e1=e:=⟨_,rfl,_,rfl,_,rfl,_,rfl,_,rfl⟩
theorem nq6 {A:Type _} {B:Type _} {C:Type _} {D:Type _} {E:Type _} {F:Type _} (a:A) (b:B) (c:C) (d:D) (e:E) (f:F):∃ a1,a1=a/\∃ b1,b1=b/\∃ c1,c1=c/\∃ d1,d1=d/\∃ e1,e1=e/\∃ f1,f1=f:=⟨_,rfl,_,rfl,_,rfl,_,rfl,_,rfl,_,rfl⟩
end
end Go.Proofs.YtjkinjbkknanbaaGreatDoor
