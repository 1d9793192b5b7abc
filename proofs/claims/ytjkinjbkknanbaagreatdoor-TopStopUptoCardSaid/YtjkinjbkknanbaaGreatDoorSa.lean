/- Pa -/
import Derived.StillTailTactics
import Derived.Deep.DeepMust
import Derived.Maps.Ext
import Derived.RangeFuncNested
import Derived.RangeFuncBound
import Derived.Lib.SlicesCompact
import Derived.Lib.AppendIntMem
import Derived.Maps.OwnIn
import Derived.Lib.QuoteLoop
import Derived.Shelf.GgClosure.StringsIndexFunc
import Derived.Shelf.RegionOpen
import Derived.Lib.SplitLaws
import Derived.Lib.BytesEntry
import Derived.Lib.Join
import Derived.Lib.FieldsP
import Derived.Lib.MapLaws
import Derived.WideKeyArr2
import Derived.Deep.WholeRow
import Derived.Great.BuildSlice
import Derived.Shelf.SlIter.Collect
import Derived.Deep.RegionHeld3
import Derived.Shelf.SlSortCmp.NoneTotal
import Derived.Shelf.Small.Strs
import Derived.ProofKit
import Derived.OpenShut
import Derived.LaidMore
import Derived.Lay
import Derived.SevenTiedAt
import Derived.Stop.LaidErr
import Derived.Deep.DeepHandedRow
import Derived.Test.YtjkinjbkknanbaaGreatDoorProg
set_option maxRecDepth 100000
set_option maxHeartbeats 8000000
set_option linter.unusedSimpArgs false
set_option linter.unusedVariables false
namespace Go.Proofs.YtjkinjbkknanbaaGreatDoor
open Go.Proofs.Tryz
section
theorem ai {α:Type} (a:α):∃ x,x=a:=⟨_,rfl⟩
theorem om {P:Prop} (h:P:=by omega):P:=h
theorem dc {P:Prop} (h:P:=by decide):P:=h
theorem kr {P:Prop} (h:P:=by first | kernel_rfl | (show _=_;kernel_rfl)):P:=h
theorem sp {P:Prop} (h:P:=by simp):P:=h
abbrev aQF:=@_root_.Nat.le_refl
abbrev aQG:=@_root_.Nat.le_trans
abbrev aQH:=@_root_.Go.cell_of_row
abbrev aQI:=@_root_.List.getElem?_eq_getElem
abbrev aQJ:=@_root_.Nat.lt_of_lt_of_le
abbrev aQK:=@_root_.List.mem_of_getElem?
abbrev aQL:=@_root_.List.getElem?_eq_some_iff
abbrev aQM:=@_root_.Go.World.alloc_heap_new
abbrev aQN:=@_root_.List.mem_cons
abbrev aQO:=@_root_.List.mem_map
abbrev aQP:=@_root_.Go.bodyPost_ret
abbrev aQQ:=@_root_.Nat.zero_le
abbrev aQR:=@_root_.Go.World.block_lt_of_cell?
abbrev aQS:=@_root_.Go.heap_alloc_new
abbrev aQT:=@_root_.Go.setRow_other
abbrev aQU:=@_root_.Go.setRow_heap
abbrev aQV:=@_root_.List.eq_nil_of_length_eq_zero
abbrev aQW:=@_root_.Nat.lt_or_ge
abbrev aQX:=@_root_.Go.RowKit.Below.heap_setCell
abbrev aQY:=@_root_.Go.frozen_of_row
abbrev aQZ:=@_root_.Go.callsIn_wide
abbrev aQ0:=@_root_.Ne.symm
abbrev aQ1:=@_root_.Nat.le_of_eq
abbrev aQ2:=@_root_.Nat.eq_zero_or_pos
abbrev aQ3:=@_root_.List.mem_range
abbrev aQ4:=@_root_.List.mem_append
abbrev aQ5:=@_root_.Go.RowKit.Below.heap_alloc
abbrev aQ6:=@_root_.Go.wpList_plain
abbrev aQ7:=@_root_.Go.results_cell_row
abbrev aQ8:=@_root_.Nat.mul_le_mul_right
abbrev aQ9:=@_root_.List.mem_cons_of_mem
abbrev aRa:=@_root_.Go.grownBy_putObj'
abbrev aRb:=@_root_.Option.some.inj
abbrev aRc:=@_root_.Go.results_tmp2
abbrev aRd:=@_root_.List.mem_append_left
abbrev aRe:=@_root_.List.all_eq_true
abbrev aRf:=@_root_.Go.World.putObj_heap_other
abbrev aRg:=@_root_.Go.results_tmp
abbrev aRh:=@_root_.Array.getElem?_eq_some_iff
abbrev aRi:=@_root_.List.length_filter_le
abbrev aRj:=@_root_.Go.callsIn_of_wp
abbrev aRk:=@_root_.List.any_eq_false
abbrev aRl:=@_root_.List.mem_flatMap
abbrev aRm:=@_root_.Nat.le_of_lt
abbrev aRn:=@_root_.List.mem_append_right
abbrev aRo:=@_root_.decide_eq_false
abbrev aRp:=@_root_.Go.run_takeDeferred
abbrev aRq:=@_root_.List.not_lt
abbrev aRr:=@_root_.List.mem_of_find?_eq_some
abbrev aRs:=@_root_.List.mem_filter
abbrev aRt:=@_root_.Go.IntWalk.i64_in
abbrev aRu:=@_root_.Go.World.cell?_of_block
abbrev aRv:=@_root_.List.nodup_nil
abbrev aRw:=@_root_.List.mem_singleton
abbrev aRx:=@_root_.Go.results_none
abbrev aRy:=@_root_.Go.callsIn_of_wp_marks
abbrev aRz:=@_root_.List.pairwise_cons
abbrev aRA:=@_root_.List.getElem?_of_mem
abbrev aRB:=@_root_.List.take_of_length_le
abbrev aRC:=@_root_.List.take_append_drop
abbrev aRD:=@_root_.Nat.le_add_right
abbrev aRE:=@_root_.Option.isSome_iff_exists
abbrev aRF:=@_root_.Nat.not_lt_zero
abbrev aRG:=@_root_.Go.Lib.run_eql_slice_nil
abbrev aRH:=@_root_.List.getElem?_range
abbrev aRI:=@_root_.Go.Maps.int_keyed
abbrev aRJ:=@_root_.List.any_eq_true
abbrev aRK:=@_root_.Go.World.ownsMap.lookup
abbrev aRL:=@_root_.Go.heap_setCell_other
abbrev aRM:=@_root_.List.length_pos_iff
abbrev aRN:=@_root_.List.mem_iff_getElem
abbrev aRO:=@_root_.List.ext_getElem
abbrev aRP:=@_root_.UInt8.toNat_inj
abbrev aRQ:=@_root_.Go.run_equalIn_deep
abbrev aRR:=@_root_.List.findIdx?_eq_some_iff_getElem
abbrev aRS:=@_root_.Classical.choose_spec
abbrev aRT:=@_root_.List.length_filterMap_le
abbrev aRU:=World
abbrev aRV:=Option Addr
abbrev aRW:=List Value
abbrev aRX:=Exit->Act->World->Prop
abbrev aRY:=Ending->World->Prop
abbrev aRZ:=List Nat
abbrev aR0:=List UInt8
abbrev aR1:=Nat->Prop
theorem nq2 {A:Type _} {B:Type _} (a:A) (b:B):∃ a1,a1=a/\∃ b1,b1=b:=⟨_,rfl,_,rfl⟩
theorem nq3 {A:Type _} {B:Type _} {C:Type _} (a:A) (b:B) (c:C):∃ a1,a1=a/\∃ b1,b1=b/\∃ c1,c1=c:=⟨_,rfl,_,rfl,_,rfl⟩
theorem nq4 {A:Type _} {B:Type _} {C:Type _} {D:Type _} (a:A) (b:B) (c:C) (d:D):∃ a1,a1=a/\∃ b1,b1=b/\∃ c1,c1=c/\∃ d1,d1=d:=⟨_,rfl,_,rfl,_,rfl,_,rfl⟩
theorem nq5 {A:Type _} {B:Type _} {C:Type _} {D:Type _} {E:Type _} (a:A) (b:B) (c:C) (d:D) (e:E):∃ a1,a1=a/\∃ b1,b1=b/\∃ c1,c1=c/\∃ d1,d1=d/\∃ e1,e1=e:=⟨_,rfl,_,rfl,_,rfl,_,rfl,_,rfl⟩
theorem nq6 {A:Type _} {B:Type _} {C:Type _} {D:Type _} {E:Type _} {F:Type _} (a:A) (b:B) (c:C) (d:D) (e:E) (f:F):∃ a1,a1=a/\∃ b1,b1=b/\∃ c1,c1=c/\∃ d1,d1=d/\∃ e1,e1=e/\∃ f1,f1=f:=⟨_,rfl,_,rfl,_,rfl,_,rfl,_,rfl,_,rfl⟩
end
end Go.Proofs.YtjkinjbkknanbaaGreatDoor
