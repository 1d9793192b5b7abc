/- The walks of a path's parts: sign, part, and the document's Part. -/
import Derived.Test.YtnecjdhamohadaaGreatDoorPMf
import Derived.Test.YtnecjdhamohadaaGreatDoorPMa
import Derived.Lib.DecodeNEq
import Derived.Lib.QuoteLoop
import Derived.Lib.IndexLaws
import Derived.Shelf.GgClosure.StringsIndexFunc
import Derived.Lib.OthersKept
import Derived.Lib.TrimU
import Derived.Deep.LoopGhost
import Derived.Test.YtnecjdhamohadaaGreatDoorPMe
set_option linter.unusedSimpArgs false
set_option linter.unusedVariables false
namespace Go.Proofs.YtnecjdhamohadaaGreatDoor
open Go.RowKit
def signN (r:Nat):Bool:=(decide (97≤r) && decide (r≤122)) || (decide (65≤r) && decide (r≤90)) || (decide (48≤r) && decide (r≤57)) || decide (r=95) || decide (r=46) || decide (r=45) || decide (r=43)
theorem signN_byte (c:UInt8):signN c.toNat=signB c:=rfl
theorem signN_big {r:Nat} (h:128≤r):signN r=false:=by
 unfold signN
 simp only [Bool.or_eq_false_iff,Bool.and_eq_false_iff,decide_eq_false_iff_not]
 omega
theorem decodeN_big (n b0 b1 b2 b3:Nat) (h:128≤b0):128≤(Lib.decodeN n b0 b1 b2 b3).1:=by
 unfold Lib.decodeN
 rw [if_neg (by omega)]
 repeat' split
 all_goals simp only
 all_goals omega
theorem idx_sign_from (s:ByteArray):∀ (f pos:Nat),pos≤s.size→s.size≤pos+f →
  decide (0≤Lib.idxFuncFrom (fun r=>!signN r) true s f pos) = !((s.data.toList.drop pos).all signB)
 | 0,pos,h1,h2=>by
  rw [List.drop_of_length_le (by rw [toList_length];omega)]
  rfl
 | f+1,pos,h1,h2=>by
  by_cases hp:pos < s.size
  ·have hpl:pos < s.data.toList.length:=by rw [toList_length];exact hp
   have hget:s.get! pos=s.data.toList[pos]:=by
    have:s.data[pos]! = s.data[pos]'hp:=getElem!_pos s.data pos hp
    show s.data[pos]! = _
    rw [this];simp
   rw [List.drop_eq_getElem_cons hpl,List.all_cons]
   obtain⟨c,hc⟩:∃ c,c=s.data.toList[pos]:=⟨_,rfl⟩
   rw [← hc] at hget ⊢
   unfold Lib.idxFuncFrom
   rw [if_pos hp,Lib.decode_at,hget]
   by_cases h128:c.toNat < 128
   ·rw [show Lib.decodeN (s.size - pos) c.toNat (s.get! (pos+1)).toNat (s.get! (pos+2)).toNat (s.get! (pos+3)).toNat=(c.toNat,1) by simp [Lib.decodeN,h128]]
    have ih:=idx_sign_from s f (pos+1) (by omega) (by omega)
    by_cases hsg:signB c=true
    ·rw [if_neg (by show ¬ ((!signN c.toNat)=true);rw [signN_byte,hsg];simp),hsg,Bool.true_and];exact ih
    ·have hsg':signB c=false:=by simpa using hsg
     rw [if_pos (by show (!signN c.toNat)=true;rw [signN_byte,hsg'];rfl),hsg'];simp
   ·have hb:=signN_big (decodeN_big (s.size - pos) c.toNat (s.get! (pos+1)).toNat (s.get! (pos+2)).toNat (s.get! (pos+3)).toNat (by omega))
    have hs:signB c=false:=by rw [← signN_byte];exact signN_big (by omega)
    rw [hb,hs];simp
  ·rw [Lib.idxFuncFrom_end _ _ _ _ _ hp,List.drop_of_length_le (by rw [toList_length];omega)]
   rfl
theorem idx_sign (s:ByteArray):decide (0≤Lib.idxFunc (fun r=>!signN r) true s) = !(s.data.toList.all signB):=by
 rw [Lib.idxFunc,idx_sign_from s s.size 0 (by omega) (by omega),List.drop_zero]
theorem odd_sign:∀ r:Fin 128,decide (0≤Lib.indexByte [95,46,45,43] (UInt8.ofNat r.val))=(decide (r.val=95) || decide (r.val=46) || decide (r.val=45) || decide (r.val=43)):=by decide +kernel
theorem sign_odd {r:Nat} (h:r < 128) (h1:¬ (97≤r∧r≤122)) (h2:¬ (65≤r∧r≤90)) (h3:¬ (48≤r∧r≤57)):decide (0≤Lib.indexByte [95,46,45,43] (UInt8.ofNat r))=signN r:=by
 rw [odd_sign ⟨r,h⟩]
 have e1:(decide (97≤r) && decide (r≤122))=false:=by simpa using h1
 have e2:(decide (65≤r) && decide (r≤90))=false:=by simpa using h2
 have e3:(decide (48≤r) && decide (r≤57))=false:=by simpa using h3
 unfold signN
 rw [e1,e2,e3];rfl
theorem sign_yes {r:Nat} (h:(97≤r∧r≤122)∨(65≤r∧r≤90)∨(48≤r∧r≤57)):signN r=true:=by
 unfold signN
 simp only [Bool.or_eq_true,Bool.and_eq_true,decide_eq_true_eq]
 omega
set_option maxRecDepth 100000 in
theorem sign_any (w:World) (r:Nat):Calls Tryz.prog 108 #[.int .i32 r] w fun e w'=>e = .returned (.bool (signN r))∧w'=w:=by
 by_cases hy:(97≤r∧r≤122)∨(65≤r∧r≤90)∨(48≤r∧r≤57)
 ·rw [sign_yes hy]
  rcases hy with h | h | h
  all_goals obtain⟨h1,h2⟩:=h
  all_goals have b1:=Int.ofNat_le.2 h1
  all_goals have b2:=Int.ofNat_le.2 h2
  all_goals clear h1 h2
  all_goals go_enter Tryz.func108,Tryz.ntmps108
  all_goals go_wp2_with fail
  all_goals go_ret
  all_goals exact⟨rfl,rfl⟩
 ·by_cases hb:128≤r
  ·rw [signN_big hb]
   have b1:(128:Int)≤r:=by omega
   go_enter Tryz.func108,Tryz.ntmps108
   go_wp2_with fail
   go_ret
   refine⟨?_,rfl⟩
   show Ending.returned (Value.bool _)=Ending.returned (Value.bool false)
   congr 2
   simp only [Bool.or_eq_false_iff,decide_eq_false_iff_not]
   omega
  ·rw [← sign_odd (by omega) (by omega) (by omega) (by omega)]
   have hr:r < 48∨(57 < r∧r < 65)∨(90 < r∧r < 97)∨122 < r:=by omega
   have b0:(r:Int) < 128:=by omega
   clear hy hb
   rcases hr with h | h | h | h
   ·have b1:(r:Int) < 48:=by omega
    clear h
    go_enter Tryz.func108,Tryz.ntmps108
    go_wp2_with (go_at_call 129; refine (byteat_any _ _ _).mono ?_;rintro e w2 ⟨rfl,rfl⟩)
    go_ret
    exact⟨rfl,rfl⟩
   ·have b1:(57:Int) < r:=by omega
    have b2:(r:Int) < 65:=by omega
    clear h
    go_enter Tryz.func108,Tryz.ntmps108
    go_wp2_with (go_at_call 129; refine (byteat_any _ _ _).mono ?_;rintro e w2 ⟨rfl,rfl⟩)
    go_ret
    exact⟨by simp [b1];omega,rfl⟩
   ·have b1:(90:Int) < r:=by omega
    have b2:(r:Int) < 97:=by omega
    clear h
    go_enter Tryz.func108,Tryz.ntmps108
    go_wp2_with (go_at_call 129; refine (byteat_any _ _ _).mono ?_;rintro e w2 ⟨rfl,rfl⟩)
    go_ret
    exact⟨by simp [b1];omega,rfl⟩
   ·have b1:(122:Int) < r:=by omega
    clear h
    go_enter Tryz.func108,Tryz.ntmps108
    go_wp2_with (go_at_call 129; refine (byteat_any _ _ _).mono ?_;rintro e w2 ⟨rfl,rfl⟩)
    go_ret
    exact⟨by simp [b1];omega,rfl⟩
end Go.Proofs.YtnecjdhamohadaaGreatDoor
namespace Go.Proofs.YtnecjdhamohadaaGreatDoor
open Go.RowKit
theorem partclo_any (w:World) (r:Nat):Calls Tryz.prog 107 #[.int .i32 r] w fun e w'=>e = .returned (.bool (!signN r))∧w'=w:=by
 go_enter Tryz.func107,Tryz.ntmps107
 go_wp2_with (go_at_call 108; refine (sign_any _ _).mono ?_;rintro e w2 ⟨rfl,rfl⟩)
 go_ret
 exact⟨rfl,rfl⟩
def badN (r:Nat):Bool:=!signN r
theorem idxfn_any (w:World) (s:ByteArray):Calls Tryz.prog 142 #[.string s,.func (.func 107) #[] #[],.bool true] w fun e w'=>e = .returned (.int .i64 (Lib.idxFunc badN true s))∧Below w.heap.size w w':=by
 go_enter Tryz.func142,Tryz.ntmps142
 go_wp2_with fail
 go_loopg [] s.size (fun gf wx=>∃ pos:Nat,wx.heap[w.heap.size]?=some (.stringIter s pos)∧Below w.heap.size w wx∧Lib.idxFuncFrom badN true s gf pos=Lib.idxFunc badN true s∧s.size≤pos+gf)
 case atStart=>exact⟨0,World.iter_heap w s 0,(Below.refl _ w).alloc (Nat.le_refl _) _,rfl,by omega⟩
 case round =>
  obtain⟨pos,hit,hbw,hleft,hfu⟩:=hrel
  by_cases hps:pos < s.size
  ·obtain⟨g',rfl⟩:∃ g',gk=g'+1:=⟨gk - 1,by omega⟩
   have hnx:∀ ty,(Instr.next (.pointer (some ⟨w.heap.size,0,none⟩)) true ty).run Tryz.prog wr=_:=fun ty=>Lib.run_next_any_at wr w.heap.size s pos ty hit hps
   have hwd:=Lib.width_pos s pos
   obtain⟨R,hR⟩:∃ R,(Utf8.decode s pos).1=R:=⟨_,rfl⟩
   obtain⟨K,hK⟩:∃ K,(Utf8.decode s pos).2=K:=⟨_,rfl⟩
   simp only [Lib.idxFuncFrom,hps,if_true,hR,hK] at hleft
   rw [hR,hK] at hnx
   rw [hK] at hwd
   have hit2:=Lib.iterAt_heap wr w.heap.size s pos (pos+K) hit
   have hbw2:=Lib.below_iterAt hbw (k:=w.heap.size) (Nat.le_refl _) s (pos+K)
   obtain⟨W,hWd⟩:∃ W,wr.iterAt w.heap.size s (pos+K)=W:=⟨_,rfl⟩
   rw [hWd] at hnx hit2 hbw2
   have cS:=partclo_any W R
   rw [show (!signN R)=badN R from rfl] at cS
   cases hsp:badN R <;> rw [hsp] at cS <;> simp only [hsp,if_true,Bool.false_eq_true,if_false] at hleft
   ·have HL:=hid2 hleft
    clear hleft hsp hR hK hWd
    go_wp2_with (go_at_call 107; refine cS.mono ?_;rintro e W' ⟨rfl,rfl⟩)
    go_roundg g'
    case measure=>omega
    case rel=>exact⟨pos+K,hit2,hbw2,HL.out,by omega⟩
   ·have HL:=hid2 hleft
    clear hleft hsp hR hK hWd
    go_wp2_with (go_at_call 107; refine cS.mono ?_;rintro e W' ⟨rfl,rfl⟩)
    go_ret
    exact⟨congrArg (fun z=>Ending.returned (Value.int .i64 z)) HL.out,hbw2⟩
  ·have hnx:∀ ty,(Instr.next (.pointer (some ⟨w.heap.size,0,none⟩)) true ty).run Tryz.prog wr=_:=fun ty=>Lib.run_next_end_at wr w.heap.size s pos ty hit hps
   rw [Lib.idxFuncFrom_end badN true s gk pos hps] at hleft
   have HL:=hid2 hleft
   clear hleft
   go_wp2_with fail
   go_ret
   exact⟨congrArg (fun z=>Ending.returned (Value.int .i64 z)) HL.out,hbw⟩
theorem idxFn_any (w:World) (s:ByteArray):Calls Tryz.prog 128 #[.string s,.func (.func 107) #[] #[]] w fun e w'=>e = .returned (.int .i64 (Lib.idxFunc badN true s))∧Below w.heap.size w w':=by
 go_enter Tryz.func128,Tryz.ntmps128
 go_wp2_with (go_at_call 142; refine (idxfn_any _ _).mono ?_;rintro e w1 ⟨rfl,hb⟩)
 go_ret
 exact⟨rfl,hb⟩
theorem contFn_any (w:World) (s:ByteArray):Calls Tryz.prog 106 #[.string s,.func (.func 107) #[] #[]] w fun e w'=>e = .returned (.bool (!(s.data.toList.all signB)))∧Below w.heap.size w w':=by
 rw [← idx_sign]
 obtain⟨I,hI⟩:∃ I,I=Lib.idxFunc badN true s:=⟨_,rfl⟩
 rw [show Lib.idxFunc (fun r=>!signN r) true s=I from hI.symm]
 have HI:=hid2 hI
 clear hI
 go_enter Tryz.func106,Tryz.ntmps106
 go_wp2_with (go_at_call 128; refine (idxFn_any _ _).mono ?_;rintro e w1 ⟨rfl,hb⟩;rw [← HI.out])
 go_ret
 exact⟨rfl,hb⟩
theorem partB_0 {l:List UInt8} (h:l=[]):partB l=false:=by subst h;rfl
theorem partB_1 {l:List UInt8} (h:l=[46]):partB l=false:=by subst h;decide
theorem partB_2 {l:List UInt8} (h:l=[46,46]):partB l=false:=by subst h;decide
theorem partB_64 {l:List UInt8} (h:¬ l.length≤64):partB l=false:=by simp [partB,h]
theorem partB_all {l:List UInt8} (h0:¬ l=[]) (h1:¬ l=[46]) (h2:¬ l=[46,46]) (h3:l.length≤64):partB l=l.all signB:=by
 have e0:l.isEmpty=false:=by cases l <;> simp_all
 have e1:(l == [46])=false:=by simpa using h1
 have e2:(l == [46,46])=false:=by simpa using h2
 simp [partB,e0,e1,e2,h3]
theorem ret_bool {a b:Bool} (h:a=b):Ending.returned (.bool a)=Ending.returned (.bool b):=by rw [h]
theorem part_any (w:World) (s:ByteArray):Calls Tryz.prog 91 #[.string s] w fun e w'=>e = .returned (.bool (partB s.data.toList))∧Below w.heap.size w w':=by
 have hsz:=hid2 (toList_length s)
 have hl:=hid2 (ByteArray.toList_eq s)
 by_cases h64:s.size≤64
 ·have h64':(s.size:Int)≤64:=by omega
  by_cases h0:s.toList=[]
  ·rw [partB_0 (hl.out ▸ h0)]
   go_enter Tryz.func91,Tryz.ntmps91
   go_wp2_with fail
   go_ret
   exact⟨rfl,Below.refl _ _⟩
  by_cases h1:s.toList=[46]
  ·rw [partB_1 (hl.out ▸ h1)]
   have e1:(s.toList == [46])=true:=by rw [h1];rfl
   have e0:s.toList.isEmpty=false:=by rw [h1];rfl
   clear h0 h1
   go_enter Tryz.func91,Tryz.ntmps91
   go_wp2_with fail
   go_ret
   exact⟨rfl,Below.refl _ _⟩
  by_cases h2:s.toList=[46,46]
  ·rw [partB_2 (hl.out ▸ h2)]
   have e2:(s.toList == [46,46])=true:=by rw [h2];rfl
   have e1:(s.toList == [46])=false:=by rw [h2];rfl
   have e0:s.toList.isEmpty=false:=by rw [h2];rfl
   clear h0 h1 h2
   go_enter Tryz.func91,Tryz.ntmps91
   go_wp2_with fail
   go_ret
   exact⟨rfl,Below.refl _ _⟩
  ·rw [partB_all (hl.out ▸ h0) (hl.out ▸ h1) (hl.out ▸ h2) (by rw [hsz.out];exact h64)]
   have e2:(s.toList == [46,46])=false:=by simpa using h2
   have e1:(s.toList == [46])=false:=by simpa using h1
   have e0:s.toList.isEmpty=false:=by cases h:s.toList <;> simp_all
   clear h0 h1 h2
   obtain⟨b,hb⟩:∃ b,b=s.data.toList.all signB:=⟨_,rfl⟩
   rw [← hb]
   have HB:=hid2 hb
   clear hb
   go_enter Tryz.func91,Tryz.ntmps91
   go_wp2_with (go_at_call 106; refine (contFn_any _ _).mono ?_;rintro e w1 ⟨rfl,hb⟩;rw [← HB.out])
   go_ret
   exact⟨by simp,hb⟩
 ·rw [partB_64 (by rw [hsz.out];exact h64)]
  have h64':(64:Int) < s.size:=by omega
  go_enter Tryz.func91,Tryz.ntmps91
  go_wp2_with fail
  all_goals go_ret
  all_goals exact⟨by simp,Below.refl _ _⟩
end Go.Proofs.YtnecjdhamohadaaGreatDoor
namespace Go.Proofs.YtnecjdhamohadaaGreatDoor
open Go.RowKit
attribute [local go_sem] Oper.semAt_some
set_option maxRecDepth 100000 in
theorem sindex_any (w:World) (s:ByteArray):Calls Tryz.prog 88 #[.string s,.string ⟨#[47]⟩] w fun e w'=>e = .returned (.int .i64 (Lib.indexByte s.data.toList 47))∧w'=w:=by
 by_cases h:s.toList=[47]
 ·have hi:Lib.indexByte s.data.toList 47=0:=by rw [← ByteArray.toList_eq,h];decide
  rw [hi]
  have e1:(s.toList == [47])=true:=by rw [h];rfl
  have e2:([47] == s.toList)=true:=by rw [h];rfl
  clear h hi
  go_enter Tryz.func88,Tryz.ntmps88
  go_wp2_with fail
  go_ret
  exact⟨rfl,rfl⟩
 ·have e1:(s.toList == [47])=false:=by simpa using h
  have e2:([47] == s.toList)=false:=by simpa using fun e=>h e.symm
  clear h
  go_enter Tryz.func88,Tryz.ntmps88
  go_wp2_with (go_at_call 101; refine (sbyte_any _ _ _).mono ?_;rintro e w2 ⟨rfl,rfl⟩)
  all_goals go_ret
  all_goals exact⟨rfl,rfl⟩
theorem index_any (w:World) (s:ByteArray):Calls Tryz.prog 62 #[.string s,.string ⟨#[47]⟩] w fun e w'=>e = .returned (.int .i64 (Lib.indexByte s.data.toList 47))∧w'=w:=by
 go_enter Tryz.func62,Tryz.ntmps62
 go_wp2_with (first | (go_at_call 88; refine (sindex_any _ _).mono ?_;rintro e w2 ⟨rfl,rfl⟩))
 go_ret
 exact⟨rfl,rfl⟩
def splitW (w:World) (s:ByteArray):World:=((w.alloc (.cells #[.string s] 9)).alloc (.cells #[.string ⟨#[47]⟩] 9)).alloc (.cells #[.int .i64 0] 3)
theorem splitseq_any (w:World) (s:ByteArray):Calls Tryz.prog 90 #[.string s,.string ⟨#[47]⟩] w fun e w'=>e = .returned (.func (.func 127) #[] #[.pointer (some ⟨w.heap.size+1,0,none⟩),.pointer (some ⟨w.heap.size,0,none⟩),.pointer (some ⟨w.heap.size+1+1,0,none⟩)])∧w'=splitW w s:=by
 go_enter Tryz.func90,Tryz.ntmps90
 go_wp2
 go_ret
 exact⟨rfl,rfl⟩
theorem wide_fn (f:FuncId):Fence.wide.fn f:=trivial
def leftS (Bs:Nat) (w:World):Nat:=match w.heap[Bs]? with | some (.cells #[.string s] _ _)=>s.size | _=>0
theorem leftS_eq {Bs:Nat} {w:World} {s:ByteArray} {t:TypeId} {fr:Nat × Nat} (h:w.heap[Bs]?=some (.cells #[.string s] t fr)):leftS Bs w=s.size:=by unfold leftS;rw [h];rfl
theorem setCell_row {w:World} {B:Nat} {v u:Value} {t:TypeId} (h:w.heap[B]?=some (.cells #[v] t (0,0))):(w.setCell ⟨B,0,none⟩ u).heap[B]?=some (.cells #[u] t (0,0)):=by
 have:=setCell_eq_setRow w B 0 #[v] t (0,0) u h
 rw [this]
 exact setRow_heap w B _ _ t _ h
theorem setCell_other {w:World} {B k:Nat} (u:Value) (hk:k≠B):(w.setCell ⟨B,0,none⟩ u).heap[k]?=w.heap[k]?:=Below.heap_setCell w ⟨B,0,none⟩ u k hk
theorem cell_of_one' {w:World} {B:Nat} {v:Value} {t:TypeId} (h:w.heap[B]?=some (.cells #[v] t (0,0))):w.cell? ⟨B,0,none⟩=some v:=(cell_of_row w B 0 _ _ _ h).trans rfl
theorem free_of_one' {w:World} {B:Nat} {v:Value} {t:TypeId} (h:w.heap[B]?=some (.cells #[v] t (0,0))):w.frozen? ⟨B,0,none⟩=false:=by simp [World.frozen?,h]
theorem stroke_at (l:List UInt8):(Lib.indexByte l 47 = -1∧47 ∉ l)∨∃ a b,l=a++47 :: b∧47 ∉ a∧Lib.indexByte l 47=a.length:=by
 rcases Int.lt_or_le (Lib.indexByte l 47) 0 with h | h
 ·have h1:Lib.indexByte l 47 = -1:=by have:=Lib.indexByte_ge l 47;omega
  refine .inl ⟨h1,fun hm=>?_⟩
  obtain⟨k,hk⟩:=List.getElem?_of_mem hm
  exact Lib.indexByte_none h1 k hk
 ·obtain⟨k,hk⟩:∃ k:Nat,Lib.indexByte l 47=k:=⟨(Lib.indexByte l 47).toNat,by omega⟩
  obtain⟨h1,h2⟩:=Lib.indexByte_some hk
  have hkl:k < l.length:=(List.getElem?_eq_some_iff.1 h1).1
  refine .inr ⟨l.take k,l.drop (k+1),?_,?_,?_⟩
  ·have:l[k]=47:=by simpa [hkl] using h1
   rw [← this,← List.drop_eq_getElem_cons hkl,List.take_append_drop]
  ·intro hm
   obtain⟨i,hi⟩:=List.getElem?_of_mem hm
   rw [List.getElem?_take] at hi
   split at hi
   ·exact h2 i (by assumption) hi
   ·cases hi
  ·rw [hk,List.length_take];omega
set_option maxHeartbeats 1000000 in
set_option maxRecDepth 100000 in
theorem split_in (n l Bp Bs Bn:Nat) (hn1:1≤n) (s:List UInt8) (hsl:s.length≤1000000) (hne:Bp≠Bs) (hne2:Bn≠Bs) (J Jx:List (List UInt8)→World→Prop)
  (hJ:∀ pre W v,J pre W→J pre (W.setCell ⟨Bs,0,none⟩ v))
  (hY:∀ pre x W,J pre W→YieldAt Fence.wide (n - 1) Tryz.prog l #[.string (strB x)] W fun e W' =>
   (e = .returned (.bool true)∧J (pre++[x]) W'∧(∀ k,k=Bp∨k=Bs∨k=Bn→W'.heap[k]?=W.heap[k]?))∨(e = .returned (.bool false)∧Jx (pre++[x]) W'))
  (W:World) (hp:W.heap[Bp]?=some (.cells #[.string ⟨#[47]⟩] 9 (0,0))) (hs:W.heap[Bs]?=some (.cells #[.string (strB s)] 9 (0,0))) (hn:W.heap[Bn]?=some (.cells #[.int .i64 0] 3 (0,0))) (h0:J [] W) :
  CallsIn Fence.wide n Tryz.prog 127 #[.func (.yield l) #[] #[],.pointer (some ⟨Bp,0,none⟩),.pointer (some ⟨Bs,0,none⟩),.pointer (some ⟨Bn,0,none⟩)] W fun e W' =>
   (∃ v,e = .returned v)∧(J (splitL s) W'∨∃ pre,pre <+: splitL s∧Jx pre W'):=by
 refine callsIn_of_wp Tryz.func127 rfl trivial ?_ rfl
 simp only [Tryz.ntmps127,List.size_toArray,List.length_cons,List.length_nil,Nat.reduceAdd,Nat.reduceSub,Array.replicate_succ,Array.replicate_zero,List.push_toArray,List.append_toArray,List.nil_append,List.cons_append]
 have cp:=cell_of_one' hp
 gi_wp2_with fail
 gi_loopw [] (fun wr=>∃ pre rest,rest.length≤s.length∧splitL s=pre++splitL rest∧wr.heap[Bp]?=some (.cells #[.string ⟨#[47]⟩] 9 (0,0))∧wr.heap[Bs]?=some (.cells #[.string (strB rest)] 9 (0,0))∧wr.heap[Bn]?=some (.cells #[.int .i64 0] 3 (0,0))∧J pre wr) (fun wr=>leftS Bs wr)
 case atStart=>exact⟨[],s,Nat.le_refl _,rfl,hp,hs,hn,h0⟩
 case round =>
  obtain⟨pre,rest,hrl,hpre,hp,hs,hn,hJp⟩:=hrel
  have hmeas:=leftS_eq hs
  have cp:=cell_of_one' hp
  have cs:=cell_of_one' hs
  have cn:=cell_of_one' hn
  have fs:=free_of_one' hs
  have hf:=wide_fn 62
  rcases stroke_at rest with ⟨hi,h47⟩ | ⟨a,b,hrest,ha,hi⟩
  ·have cI:∀ w,CallsIn Fence.wide (n - 1) Tryz.prog 62 #[.string (strB rest),.string ⟨#[47]⟩] w fun e w'=>e = .returned (.int .i64 (-1))∧w'=w:=fun w=>by
    have:=callsIn_wide (n:=n - 1).2 (index_any w (strB rest))
    rw [strB_list,hi] at this
    exact this
   have hsp:=splitL_pure h47
   obtain⟨fn,tmps,assign,body,hy,hR⟩:=hY pre rest wr hJp
   obtain⟨R,hRR⟩:∃ R,R=strB rest:=⟨_,rfl⟩
   rw [← hRR] at cs cI hy
   have HPRE:=hid2 hpre
   have HSP:=hid2 hsp
   clear hi h47 hRR hp hs hn hpre hsp hmeas
   gi_wp2_with (gi_at_call 62; refine (cI _).mono ?_;rintro e w' ⟨rfl,rfl⟩)
   refine hR.mono ?_
   rintro e W3 (⟨rfl,hJ3,_⟩ | ⟨rfl,hJx3⟩)
   ·gi_wp2_with fail
    go_end0
    exact⟨⟨_,rfl⟩,.inl (by rw [HPRE.out,HSP.out];exact hJ3)⟩
   ·gi_wp2_with fail
    go_end0
    exact⟨⟨_,rfl⟩,.inr ⟨pre++[rest],by rw [HPRE.out,HSP.out];exact List.prefix_refl _,hJx3⟩⟩
  ·have cI:∀ w,CallsIn Fence.wide (n - 1) Tryz.prog 62 #[.string (strB rest),.string ⟨#[47]⟩] w fun e w'=>e = .returned (.int .i64 a.length)∧w'=w:=fun w=>by
    have:=callsIn_wide (n:=n - 1).2 (index_any w (strB rest))
    rw [strB_list,hi] at this
    exact this
   have hsp:splitL rest=a :: splitL b:=by rw [hrest,splitL_append,splitL_pure ha];rfl
   obtain⟨fn,tmps,assign,body,hy,hR⟩:=hY pre a wr hJp
   have hsz:(strB rest).size=a.length+1+b.length:=by rw [strB_size,hrest];simp;omega
   have hbig:(strB rest).size≤1000000:=by rw [strB_size];omega
   have hbl:b.length≤s.length:=by rw [strB_size] at hsz;omega
   have hx1:(strB rest).extract 0 a.length=strB a:=strB_eq (by rw [extract_list,strB_list,hrest];simp)
   have hx2:(strB rest).extract (a.length+1) (strB rest).size=strB b:=strB_eq (by rw [hsz,extract_list,strB_list,hrest];simp)
   obtain⟨k,hk⟩:∃ k,k=a.length:=⟨_,rfl⟩
   rw [← hk] at cI hx1 hx2 hsz
   obtain⟨R,hRR⟩:∃ R,R=strB rest:=⟨_,rfl⟩
   rw [← hRR] at cs cI hx1 hx2 hsz hbig hmeas
   obtain⟨Fr,hFr⟩:∃ Fr,Fr=strB a:=⟨_,rfl⟩
   rw [← hFr] at hy hx1
   obtain⟨Nx,hNx⟩:∃ Nx,Nx=strB b:=⟨_,rfl⟩
   rw [← hNx] at hx2
   have hNs:Nx.size=b.length:=by rw [hNx,strB_size]
   have HPRE:=hid2 hpre
   have HSP:=hid2 hsp
   have HNX:=hid2 hNx
   have HRR:=hid2 hRR
   have HP:=hid2 hp
   have HS:=hid2 hs
   have HN:=hid2 hn
   have hkR:(k:Int)≤R.size:=by omega
   have hkR1:(k:Int)+1≤R.size:=by omega
   have HSZ:=hid2 hsz
   have HME:=hid2 hmeas
   have HNS:=hid2 hNs
   clear hi ha hRR hp hs hn hpre hsp hFr hNx hrest hk hsz hmeas hNs
   gi_wp2_with (gi_at_call 62; refine (cI _).mono ?_;rintro e w' ⟨rfl,rfl⟩)
   refine hR.mono ?_
   clear hR hy
   rintro e W3 (⟨rfl,hJ3,hk3⟩ | ⟨rfl,hJx3⟩)
   ·have hp3:=(hk3 Bp (.inl rfl)).trans HP.out
    have hs3:=(hk3 Bs (.inr (.inl rfl))).trans HS.out
    have hn3:=(hk3 Bn (.inr (.inr rfl))).trans HN.out
    rw [← HRR.out] at hs3
    have cp3:=cell_of_one' hp3
    have cs3:=cell_of_one' hs3
    have cn3:=cell_of_one' hn3
    have fs3:=free_of_one' hs3
    have hJ4:=hJ _ _ (.string Nx) hJ3
    have hp4:=(setCell_other (w:=W3) (.string Nx) hne).trans hp3
    have hs4:=setCell_row (u:=.string Nx) hs3
    have hn4:=(setCell_other (w:=W3) (.string Nx) hne2).trans hn3
    have HP4:=hid2 hp4
    have HS4:=hid2 hs4
    have HN4:=hid2 hn4
    clear hk3 hp3 hs3 hn3 hp4 hs4 hn4 cs cp cn fs HP HS HN hJp hJ3
    gi_wp2_with fail
    go_roundw
    case rel =>
     refine⟨pre++[a],b,hbl,?_,HP4.out,?_,HN4.out,hJ4⟩
     ·rw [HPRE.out,HSP.out];simp
     ·rw [← HNX.out];exact HS4.out
    case measure =>
     rw [leftS_eq HS4.out,HNS.out,HME.out,HSZ.out]
     omega
   ·gi_wp2_with fail
    refine bodyPost_ret (results_none rfl _ _ _) rfl ?_
    exact⟨⟨_,rfl⟩,.inr ⟨pre++[a],by rw [HPRE.out,HSP.out];exact⟨splitL b,by simp⟩,hJx3⟩⟩
end Go.Proofs.YtnecjdhamohadaaGreatDoor
namespace Go.Proofs.YtnecjdhamohadaaGreatDoor
open Go.RowKit
attribute [local go_sem] Oper.semAt_some
def MayI (H:Nat) (w:World) (pre:List (List UInt8)) (W:World):Prop :=
 W.heap[H]?=some (.cells #[.bool false] 4 (0,0))∧W.heap[H+1]?=some (.cells #[.int .i64 pre.length] 3 (0,0))∧Below H w W∧H+5+2≤W.heap.size∧pre.all partB=true∧pre.length≤16
def MayX (H:Nat) (w:World) (c:Code) (pre:List (List UInt8)) (W:World):Prop :=
 c = .ret∧W.heap[H]?=some (.cells #[.bool false] 4 (0,0))∧Below H w W∧(pre.all partB && decide (pre.length≤16))=false
theorem mayB_prefix {pre ps:List (List UInt8)} (h:pre <+: ps) (hx:(pre.all partB && decide (pre.length≤16))=false):(ps.all partB && decide (ps.length≤16))=false:=by
 obtain⟨t,rfl⟩:=h
 rw [List.all_append,List.length_append]
 simp only [Bool.and_eq_false_iff,decide_eq_false_iff_not] at hx ⊢
 rcases hx with h | h
 ·exact .inl (.inl h)
 ·exact .inr (by omega)
theorem may_round {H:Nat} {w W w1:World} {pre:List (List UInt8)} {v:Value} (i:MayI H w pre W) (hH:H≤w.heap.size) (hb:Below (W.setCell ⟨H+1,0,none⟩ v).heap.size (W.setCell ⟨H+1,0,none⟩ v) w1) :
  w1.heap[H]?=some (.cells #[.bool false] 4 (0,0))∧w1.heap[H+1]?=some (.cells #[v] 3 (0,0))∧Below H w w1∧H+5+2≤w1.heap.size∧∀ k,k≠H+1→k < H+5+2→w1.heap[k]?=W.heap[k]?:=by
 obtain⟨i0,i1,ib,iz,_,_⟩:=i
 rw [World.size_setCell] at hb
 have hz:=hb.size
 rw [World.size_setCell] at hz
 refine⟨(hb.block _ (by omega)).trans ((setCell_other v (by omega)).trans i0),(hb.block _ (by omega)).trans (setCell_row i1),?_,by omega,fun k hk hlt=>(hb.block _ (by omega)).trans (setCell_other v hk)⟩
 exact (ib.setCell (p:=⟨H+1,0,none⟩) (by show H≤H+1;omega) v).trans (hb.mono (by omega))
set_option maxHeartbeats 1000000 in
set_option maxRecDepth 100000 in
theorem may_any (w:World) (s:ByteArray) (hs:s.size≤1000000):Calls Tryz.prog 65 #[.string s] w fun e w'=>e = .returned (.bool (mayB s.data.toList))∧Below w.heap.size w w':=by
 refine (callsIn_wide (n:=5)).1 ?_
 refine callsIn_of_wp_marks Tryz.func65 rfl trivial ?_ rfl
 simp only [Tryz.ntmps65,List.size_toArray,List.length_cons,List.length_nil,Nat.reduceAdd,Nat.reduceSub,Array.replicate_succ,Array.replicate_zero,List.push_toArray,List.append_toArray,List.nil_append,List.cons_append]
 have hf:=wide_fn 90
 gi_wp2_with (gi_at_call 90; refine (callsIn_wide.2 (splitseq_any _ _)).mono ?_;rintro e w' ⟨rfl,rfl⟩)
 obtain⟨H,hH⟩:∃ H,H=w.heap.size:=⟨_,rfl⟩
 obtain⟨W0,hW0⟩:∃ W0,W0=splitW ((w.alloc (.cells #[.bool false] 4)).alloc (.cells #[.int .i64 0] 3)) s:=⟨_,rfl⟩
 have z0:W0.heap.size=H+5:=by rw [hW0,hH];simp [splitW]
 have b0:Below H w W0:=by
  rw [hW0,hH,splitW]
  exact (((((Below.refl _ _).alloc (Nat.le_refl _) _).alloc (by simp) _).alloc (by simp <;> omega) _).alloc (by simp <;> omega) _).alloc (by simp <;> omega) _
 have r0:W0.heap[H]?=some (.cells #[.bool false] 4 (0,0)):=by
  rw [hW0,hH,splitW,Below.heap_alloc _ _ _ (by simp <;> omega),Below.heap_alloc _ _ _ (by simp <;> omega),Below.heap_alloc _ _ _ (by simp <;> omega),Below.heap_alloc _ _ _ (by simp)]
  exact heap_alloc_new w _
 have r1:W0.heap[H+1]?=some (.cells #[.int .i64 0] 3 (0,0)):=by
  rw [hW0,hH,splitW,Below.heap_alloc _ _ _ (by simp <;> omega),Below.heap_alloc _ _ _ (by simp <;> omega),Below.heap_alloc _ _ _ (by simp)]
  have:=heap_alloc_new (w.alloc (.cells #[.bool false] 4)) (.cells #[.int .i64 0] 3)
  rwa [World.size_alloc] at this
 have r2:W0.heap[H+1+1]?=some (.cells #[.string s] 9 (0,0)):=by
  rw [hW0,hH,splitW,Below.heap_alloc _ _ _ (by simp <;> omega),Below.heap_alloc _ _ _ (by simp)]
  have:=heap_alloc_new ((w.alloc (.cells #[.bool false] 4)).alloc (.cells #[.int .i64 0] 3)) (.cells #[.string s] 9)
  rwa [World.size_alloc,World.size_alloc] at this
 have r3:W0.heap[H+1+1+1]?=some (.cells #[.string ⟨#[47]⟩] 9 (0,0)):=by
  rw [hW0,hH,splitW,Below.heap_alloc _ _ _ (by simp)]
  have:=heap_alloc_new (((w.alloc (.cells #[.bool false] 4)).alloc (.cells #[.int .i64 0] 3)).alloc (.cells #[.string s] 9)) (.cells #[.string ⟨#[47]⟩] 9)
  rwa [World.size_alloc,World.size_alloc,World.size_alloc] at this
 have r4:W0.heap[H+1+1+1+1]?=some (.cells #[.int .i64 0] 3 (0,0)):=by
  rw [hW0,hH,splitW]
  have:=heap_alloc_new ((((w.alloc (.cells #[.bool false] 4)).alloc (.cells #[.int .i64 0] 3)).alloc (.cells #[.string s] 9)).alloc (.cells #[.string ⟨#[47]⟩] 9)) (.cells #[.int .i64 0] 3)
  rwa [World.size_alloc,World.size_alloc,World.size_alloc,World.size_alloc] at this
 rw [← hW0,← hH]
 have HH:=hid2 hH
 clear hW0 hH
 refine wpIn_rangeFunc_c rfl (by omega) (gf:=127) (lb:=#[.pointer (some ⟨H+1+1+1,0,none⟩),.pointer (some ⟨H+1+1,0,none⟩),.pointer (some ⟨H+1+1+1+1,0,none⟩)]) rfl trivial (enters_of Tryz.func127 (by kernel_rfl) rfl)
  (fun x:List UInt8=>Value.string (strB x)) rfl (fun W1 W2=>∃ v,W2=W1.setCell ⟨H+1+1,0,none⟩ v) (fun W W'=>∀ k,k=H+1+1+1∨k=H+1+1∨k=H+1+1+1+1→W'.heap[k]?=W.heap[k]?)
  (fun xs=>xs=splitL s.data.toList) (fun pre=>pre <+: splitL s.data.toList) ?call ?kk (fun A B C h1 h2 k hk=>(h2 k hk).trans (h1 k hk)) (fun W k o hk j hj=>World.putObj_heap_other (by omega))
  (MayI H w) (MayX H w) ?ik ?ip ?xp ?h0
  (fun x=>{ tmps:=#[.string s,undef,.pointer (some ⟨H,0,none⟩),.pointer (some ⟨H+1,0,none⟩),.string (strB x),.string s,.func (.func 127) #[] #[.pointer (some ⟨H+1+1+1,0,none⟩),.pointer (some ⟨H+1+1,0,none⟩),.pointer (some ⟨H+1+1+1+1,0,none⟩)],.string (strB x),undef,undef,undef,undef,undef,undef,undef,undef,undef],defers:=[] }) ?assign ?body ?done ?stop
 case call =>
  intro l J Jx W hbW hJ hY hJ0
  refine (split_in 4 l (H+1+1+1) (H+1+1) (H+1+1+1+1) (by omega) s.data.toList (by rw [toList_length];exact hs) (by omega) (by omega) J Jx (fun pre W v h=>hJ _ _ _ h ⟨v,rfl⟩) hY W ((hbW.block _ (by omega)).trans r3) ?_ ((hbW.block _ (by omega)).trans r4) hJ0).mono ?_
  ·rw [strB_of];exact (hbW.block _ (by omega)).trans r2
  ·rintro e W2 ⟨hv,hJ2 | ⟨pre,hp,hx⟩⟩
   ·exact⟨hv,.inl ⟨_,rfl,hJ2⟩⟩
   ·exact⟨hv,.inr ⟨pre,hp,hx⟩⟩
 case kk =>
  rintro W1 W2 k ⟨v,rfl⟩ hk
  exact setCell_other v (by omega)
 case ik =>
  rintro pre W1 W2 ⟨i0,i1,ib,iz,ia,il⟩ ⟨v,rfl⟩
  exact⟨(setCell_other v (by omega)).trans i0,(setCell_other v (by omega)).trans i1,ib.setCell (p:=⟨H+1+1,0,none⟩) (by show H≤H+1+1;omega) v,by rw [World.size_setCell];exact iz,ia,il⟩
 case ip =>
  rintro pre W k o ⟨i0,i1,ib,iz,ia,il⟩ h1 h2
  exact⟨(World.putObj_heap_other (by omega)).trans i0,(World.putObj_heap_other (by omega)).trans i1,ib.grown (grownBy_putObj' W k o) (by have:=ib.size;have:=HH.out;omega) (fun j e=>by cases e;omega),by rw [World.putObj_size];exact iz,ia,il⟩
 case xp =>
  rintro c pre W k o ⟨i0,i1,ib,ix⟩ h1 h2
  exact⟨i0,(World.putObj_heap_other (by omega)).trans i1,ib.grown (grownBy_putObj' W k o) (by have:=ib.size;have:=HH.out;omega) (fun j e=>by cases e;omega),ix⟩
 case h0 =>
  intro o1 o2
  exact⟨by rw [Below.heap_alloc _ _ _ (by simp <;> omega),Below.heap_alloc _ _ _ (by omega)];exact r0,by rw [Below.heap_alloc _ _ _ (by simp <;> omega),Below.heap_alloc _ _ _ (by omega)];exact r1,(b0.alloc (by omega) _).alloc (by simp <;> omega) _,by simp;omega,rfl,by simp⟩
 case assign =>
  intro l x W K hK
  gi_wp2
  exact hK
 case body =>
  intro l pre x W hi
  have HI:=hid2 hi
  obtain⟨i0,i1,ib,iz,ia,il⟩:=hi
  have c0:=cell_of_one' i0
  have f0:=free_of_one' i0
  have c1:=cell_of_one' i1
  have f1:=free_of_one' i1
  have hlen:(pre.length:Int)≤16:=by omega
  have hf2:=wide_fn 91
  have IA:=hid2 ia
  have IL:=hid2 il
  have I0:=hid2 i0
  have I1:=hid2 i1
  have Z0:=hid2 z0
  clear ia il i0 i1 r0 r1 r2 r3 r4 hs z0
  by_cases h16:pre.length=16
  ·have h16':(16:Int) < (pre.length:Int)+1:=by omega
   have H16:=hid2 h16
   clear h16
   have hr:=may_round (v:=.int .i64 ((pre.length:Int)+1)) HI.out (by rw [HH.out];exact Nat.le_refl _) (Below.refl _ _)
   obtain⟨q0,q1,qb,qz,qk⟩:=hr
   have k0:=cell_of_one' q0
   have k1:=free_of_one' q0
   have Q0:=hid2 q0
   have QK:=hid2 qk
   clear q0 q1 qk c0 f0
   gi_wp2_with fail
   refine⟨⟨?_,?_⟩,rfl,setCell_row Q0.out,qb.setCell (p:=⟨H,0,none⟩) (Nat.le_refl _) _,?_⟩
   ·rw [Z0.out];exact (setCell_other _ (by omega)).trans (QK.out _ (by omega) (by omega))
   ·rw [Z0.out];exact (setCell_other _ (by omega)).trans (QK.out _ (by omega) (by omega))
   ·rw [List.length_append,H16.out];simp
  ·have h16':(pre.length:Int)+1≤16:=by omega
   have H16:=hid2 h16
   clear h16 c0 f0
   by_cases hx:partB x=true
   ·have hpc:∀ w,Calls Tryz.prog 91 #[.string (strB x)] w fun e w'=>e = .returned (.bool true)∧Below w.heap.size w w':=fun w=>by
     have:=part_any w (strB x)
     rw [strB_list,hx] at this
     exact this
    have HX:=hid2 hx
    clear hx
    gi_wp2_with (gi_at_call 91; refine (CallsIn.inRound l (callsIn_wide.2 (hpc _))).mono ?_;rintro e w1 ⟨rfl,hb⟩;have hr:=may_round HI.out (by rw [HH.out];exact Nat.le_refl _) hb;obtain⟨q0,q1,qb,qz,qk⟩:=hr;have Q0:=hid2 q0;have Q1:=hid2 q1;have QK:=hid2 qk;clear q0 q1 qk hb)
    refine⟨⟨?_,?_⟩,fun k hk=>QK.out k (by omega) (by omega),Q0.out,?_,qb,qz,?_,?_⟩
    ·rw [Z0.out];exact QK.out _ (by omega) (by omega)
    ·rw [Z0.out];exact QK.out _ (by omega) (by omega)
    ·rw [Q1.out,List.length_append];simp
    ·rw [List.all_append,IA.out];simp [HX.out]
    ·have:=IL.out;have:=H16.out;rw [List.length_append,List.length_singleton];omega
   ·have hx':partB x=false:=by simpa using hx
    have hpc:∀ w,Calls Tryz.prog 91 #[.string (strB x)] w fun e w'=>e = .returned (.bool false)∧Below w.heap.size w w':=fun w=>by
     have:=part_any w (strB x)
     rw [strB_list,hx'] at this
     exact this
    have HX:=hid2 hx'
    clear hx hx'
    gi_wp2_with (gi_at_call 91; refine (CallsIn.inRound l (callsIn_wide.2 (hpc _))).mono ?_;rintro e w1 ⟨rfl,hb⟩;have hr:=may_round HI.out (by rw [HH.out];exact Nat.le_refl _) hb;obtain⟨q0,q1,qb,qz,qk⟩:=hr;have k0:=cell_of_one' q0;have k1:=free_of_one' q0;have Q0:=hid2 q0;have QK:=hid2 qk;clear q0 q1 qk hb)
    refine⟨⟨?_,?_⟩,rfl,setCell_row Q0.out,qb.setCell (p:=⟨H,0,none⟩) (Nat.le_refl _) _,?_⟩
    ·rw [Z0.out];exact (setCell_other _ (by omega)).trans (QK.out _ (by omega) (by omega))
    ·rw [Z0.out];exact (setCell_other _ (by omega)).trans (QK.out _ (by omega) (by omega))
    ·rw [List.all_append];simp [HX.out]
 case done =>
  rintro xs W rfl ⟨i0,i1,ib,iz,ia,il⟩ hK
  have c0:=cell_of_one' i0
  have f0:=free_of_one' i0
  have I0:=hid2 i0
  have Z0:=hid2 z0
  have HK:=hid2 hK
  have IA:=hid2 ia
  have IL:=hid2 il
  clear i0 i1 ia il hK r0 r1 r2 r3 r4 z0
  gi_wp2_with fail
  have hK2:(W.setCell ⟨H,0,none⟩ (.bool true)).heap[W0.heap.size]?=some (.deferred (some [])):=(setCell_other _ (by rw [Z0.out];omega)).trans HK.out
  have hR2:(W.setCell ⟨H,0,none⟩ (.bool true)).heap[H]?=some (.cells #[.bool true] 4 (0,0)):=setCell_row I0.out
  have ib2:Below H w (W.setCell ⟨H,0,none⟩ (.bool true)):=ib.setCell (p:=⟨H,0,none⟩) (Nat.le_refl _) _
  refine⟨by simp,.inl ⟨_,_,rfl,run_takeDeferred hK2,?_⟩⟩
  have hc5:=cell_of_one' ((World.putObj_heap_other (o:=.deferred none) (show H≠W0.heap.size by rw [Z0.out];omega)).trans hR2)
  refine⟨.bool true,?_,?_,?_⟩
  ·simp [results,Tryz.f65,go_sem,hc5]
  ·rw [mayB,IA.out];simp [IL.out]
  ·rw [← HH.out];exact ib2.grown (grownBy_putObj' _ _ _) (by have:=ib2.size;have:=HH.out;omega) (fun j e=>by cases e;rw [Z0.out];omega)
 case stop =>
  rintro c pre W hpre ⟨rfl,i0,ib,ix⟩ hK
  have I0:=hid2 i0
  have Z0:=hid2 z0
  have HK:=hid2 hK
  have IX:=hid2 ix
  clear i0 ix hK r0 r1 r2 r3 r4 z0
  gi_wp2_with fail
  refine⟨by simp,.inl ⟨_,_,rfl,run_takeDeferred HK.out,?_⟩⟩
  have hc5:=cell_of_one' ((World.putObj_heap_other (o:=.deferred none) (show H≠W0.heap.size by rw [Z0.out];omega)).trans I0.out)
  refine⟨.bool false,?_,?_,?_⟩
  ·simp [results,Tryz.f65,go_sem,hc5]
  ·rw [mayB,mayB_prefix hpre IX.out]
  ·rw [← HH.out];exact ib.grown (grownBy_putObj' _ _ _) (by have:=ib.size;have:=HH.out;omega) (fun j e=>by cases e;rw [Z0.out];omega)
end Go.Proofs.YtnecjdhamohadaaGreatDoor
namespace Go.Proofs.YtnecjdhamohadaaGreatDoor
open Go.RowKit Go.Shelf
set_option maxRecDepth 100000
theorem sclone2_any (w:World) (s:TT) (hl:s.length≤1000000000):Calls Tryz.prog 63 #[.string (strB s)] w fun e w'=>e = .returned (.string (strB s))∧Below w.heap.size w w':=by
 have h:=sclone_any w s hl
 obtain⟨S,hS⟩:∃ S,S=strB s:=⟨_,rfl⟩
 rw [← hS] at h ⊢
 have H:=hid2 h
 clear h hS
 go_enter Tryz.func63,Tryz.ntmps63
 go_wp2_with (go_at_call 89; refine H.out.mono ?_;rintro e w1 ⟨rfl,hb⟩;have HB:=hid2 hb;clear hb)
 go_ret
 exact⟨rfl,HB.out⟩
theorem sindex2_any (w:World) (s t:TT) (hl:s.length≤1000000000) (hM:MaxL w):Calls Tryz.prog 62 #[.string (strB s),.string (strB t)] w fun e w'=>e = .returned (.int .i64 (Lib.index s t))∧w'=w:=by
 obtain⟨m,hm⟩:=hM
 have h:=Any.strings_Index { Tryz.tlIndex with } (strB s) (strB t) m w (by rw [strB_size];omega) hm
 rw [strB_list,strB_list] at h
 exact h
theorem scontains_any (w:World) (s t:TT) (hl:s.length≤1000000000) (hM:MaxL w):Calls Tryz.prog 49 #[.string (strB s),.string (strB t)] w fun e w'=>e = .returned (.bool (hasT s t))∧w'=w:=by
 obtain⟨m,hm⟩:=hM
 have h:=Any.strings_Contains { Tryz.tlContains with } (strB s) (strB t) m w (by rw [strB_size];omega) hm
 rw [strB_list,strB_list] at h
 exact h
def CmdBox (w:World) (base g:Nat) (c:CmdE):Prop:=∃ A cA,w.heap[g]?=some (.cells #[.slice A c.ws.length cA,.string (strB c.rest)] 68 (0,0))∧base≤g∧Own w base 9 1 A c.ws.length cA (strV c.ws)
def ReadM (w:World) (e:Ending) (w':World):Option (Option CmdE)→Prop
 | none=>e = .returned (.tuple #[.pointer none,.bool false])
 | some none=>e = .returned (.tuple #[.pointer none,.bool true])
 | some (some c)=>∃ g,e = .returned (.tuple #[.pointer (some ⟨g,0,none⟩),.bool true])∧CmdBox w' w.heap.size g c
def ReadPost (w:World) (s:TT) (e:Ending) (w':World):Prop:=Below w.heap.size w w'∧ReadM w e w' (readC mayB s)
theorem run_index_txt (s:ByteArray) (i:Nat) (x:Int) (hx:x=i) (h:i < s.size) (w:World):(Instr.index 9 (.string s) (.int .i64 x)).run Tryz.prog w = .ok (.int .u8 (s.data.toList.getD i 0).toNat) w:=by
 subst hx
 rw [run_index_string w 9 s .i64 i Tryz.underlying9,dif_pos ⟨by omega,by omega⟩]
 have e:s[(i:Int).toNat]'(by omega)=s.data.toList.getD i 0:=by
  rw [List.getD_eq_getElem?_getD,List.getElem?_eq_getElem (by rw [Array.length_toList];exact h)]
  simp [ByteArray.getElem_eq_getElem_data]
 rw [e]
theorem takes_two (a:TT):(takesT a).2=true→2≤(takesT a).1:=by
 unfold takesT
 repeat' split
 all_goals simp
theorem text_box {w w1:World} {b o c N:Nat} {L:List Value} {T:ByteArray} {ps:TT} (hb:Below w.heap.size w w1) (ho:Own w1 w.heap.size 9 1 (some ⟨b,o,none⟩) N c L) (hN:0 < N) (hL:L[0]?=some (.string ⟨#[116,101,120,116]⟩)) (hT:T=strB ps) :
  CmdBox (w1.alloc (.cells #[.slice (some ⟨b,o,none⟩) 1 c,.string T] 68)) w.heap.size w1.heap.size ⟨[kText],ps⟩:=by
 subst hT
 refine⟨some ⟨b,o,none⟩,c,heap_alloc_new w1 _,hb.size,?_⟩
 have h1:=ho.take (k:=1) (by omega)
 have h2:L.take (1 * 1)=strV [kText]:=by
  cases L with
  | nil=>cases hL
  | cons x L =>
   injection hL with hL
   subst hL
   rfl
 rw [h2] at h1
 exact h1.alloc _
theorem read_box {w w1:World} {A:Option Addr} {c N:Nat} {L:List Value} {h:TT} {r:List TT} (hb:Below w.heap.size w w1) (ho:Own w1 w.heap.size 9 1 A N c L) (hN:N=r.length+1) (hL:L=strV (h :: r)) :
  CmdBox (w1.alloc (.cells #[.slice A N c,.string ⟨#[]⟩] 68)) w.heap.size w1.heap.size ⟨h :: r,[]⟩:=by
 subst hN hL
 exact⟨A,c,heap_alloc_new w1 _,hb.size,ho.alloc _⟩
set_option maxHeartbeats 2000000 in
theorem read_any (w:World) (s:TT) (hs:s.length≤1000000) (hM:MaxL w):Calls Tryz.prog 37 #[.string (strB s)] w (ReadPost w s):=by
 have cW:=words_any w s (by omega)
 have cI:=fun (W:World) (hb:Below w.heap.size w W)=>sindex2_any W s kText (by omega) (hM.on hb)
 have hwl:=wordsT_len s
 obtain⟨S,hS⟩:∃ S,S=strB s:=⟨_,rfl⟩
 rw [← hS] at cW cI ⊢
 obtain⟨post,hpost⟩:∃ p,p=readC mayB s:=⟨_,rfl⟩
 unfold ReadPost
 rw [← hpost]
 have CI:=hid2 cI
 cases hw:wordsT s with
 | nil =>
  have hr:readC mayB s=some none:=by rw [readC_eq,hw];rfl
  rw [hr] at hpost
  subst hpost
  rw [hw] at cW
  have CW:=hid2 cW
  clear cW cI hM hs hwl hS hw hr
  go_enter Tryz.func37,Tryz.ntmps37
  go_wp2_with (go_at_call 61; refine CW.out.mono ?_;rintro e w1 ⟨A,c,rfl,ho,hb⟩;have HB:=hid2 hb;clear ho hb)
  go_ret2
  exact⟨HB.out,rfl⟩
 | cons a r =>
  obtain⟨pre,pos,hsp,hpre,hpos,hane,hafr⟩:=words_head s hw
  have hal:a.length≤1000000:=(Nat.le_trans (wordsT_mem (s:=s) (x:=a) (by rw [hw];simp)).2.2 hs)
  obtain⟨a0,a1,rfl⟩:∃ a0 a1,a=a0 :: a1:=by cases a with
   | nil=>exact absurd rfl hane
   | cons x y=>exact⟨x,y,rfl⟩
  rw [hw] at cW hwl
  obtain⟨n,hn⟩:∃ n,n=r.length:=⟨_,rfl⟩
  rw [List.length_cons,← hn] at cW hwl
  have hn1:(n:Int)+1≠0:=by omega
  have hn2:(0:Int) < (n:Int)+1:=by omega
  obtain⟨N,hN⟩:∃ N,N=n+1:=⟨_,rfl⟩
  rw [← hN] at cW hwl
  have hN0:(N:Int)≠0:=by omega
  have hN0b:((N:Int) == 0)=false:=by rw [beq_eq_false_iff_ne];omega
  have hN1:(0:Int) < N:=by omega
  have hNl:(N:Int)≤1000001:=by omega
  have hixA:∀ (l:TT) (wx:World),(Instr.index 9 (.string (strB (a0 :: l))) (.int .i64 0)).run Tryz.prog wx = .ok (.int .u8 a0.toNat) wx:=fun l wx=>by
   have:=run_index_txt (strB (a0 :: l)) 0 0 rfl (by rw [strB_size];simp) wx
   rw [strB_list] at this
   exact this
  have hix:=hixA a1
  have htn:=toList_strBT (a0 :: a1)
  obtain⟨A0,hA0⟩:∃ A0,A0=strB (a0 :: a1):=⟨_,rfl⟩
  have hL0:(strV ((a0 :: a1) :: r))[0]?=some (.string A0):=by rw [hA0];rfl
  obtain⟨L,hL⟩:∃ L,L=strV ((a0 :: a1) :: r):=⟨_,rfl⟩
  rw [← hL] at hL0
  rw [← hL] at cW
  rw [← hA0] at hix htn
  have HL0:=hid2 hL0
  have HNP:Hid2 (0 < N):=hid2 (by omega)
  by_cases h35:a0=35
  ·have hr:readC mayB s=some none:=by rw [readC_eq,hw,h35];rfl
   rw [hr] at hpost
   subst hpost
   subst h35
   have CW:=hid2 cW
   clear cW cI hM hs hwl hS hw hr hL hL0 hA0 htn hsp hpre hpos hane hafr hal hn hn1 hn2 hN hixA
   go_enter Tryz.func37,Tryz.ntmps37
   go_wp2_with (go_at_call 61; refine CW.out.mono ?_;rintro e w1 ⟨A,c,rfl,ho,hb⟩;have HB:=hid2 hb;have HO:=hid2 ho;obtain⟨b,o,rfl,hc⟩:=ho.rd.2 HNP.out;have hc0:w1.cell? ⟨b,o,none⟩=some (.string A0):=hc 0 _ HL0.out;clear ho hb hc)
   go_ret2
   exact⟨HB.out,rfl⟩
  ·have hp35:passedW ((a0 :: a1) :: r)=false:=by simp [passedW,h35]
   have h35i:(a0.toNat:Int)≠35:=fun e=>h35 (UInt8.toNat_inj.1 (by have:(35:UInt8).toNat=35:=rfl;omega))
   have h35b:((a0.toNat:Int) == 35)=false:=by rw [beq_eq_false_iff_ne];exact h35i
   obtain⟨k0,hk0⟩:∃ k,k=a0.toNat:=⟨_,rfl⟩
   rw [← hk0] at hix h35i h35b
   by_cases htx:a0 :: a1=kText
   ·have hrc:post=some (some ⟨[kText],behindT s⟩):=by
     rw [hpost,readC_eq,hw,hp35,cond_false,show okW mayB ((a0 :: a1) :: r)=true by rw [htx];simp [okW],cond_true,cmdW,hw]
     simp only
     rw [if_pos htx,htx]
    rw [htx] at hsp hA0 hafr hane
    have hbe:behindT s=pos.drop 1:=by rw [hsp];exact behind_at hpre hpos hane hafr
    have hidx:Lib.index s kText=(pre.length:Int):=by rw [hsp];exact index_text hpre
    have hlen:s.length=pre.length+4+pos.length:=by rw [hsp];simp;omega
    obtain⟨p,hp⟩:∃ p,p=pre.length:=⟨_,rfl⟩
    have hex1:S.extract (p+4) S.size=strB pos:=bytes_ext (by
     rw [extract_list,hS,strB_list,strB_list,strB_size,hlen,hp,hsp,show pre++kText++pos=(pre++kText)++pos from rfl,List.drop_left' (by simp)]
     exact List.take_of_length_le (by omega))
    have hSs:S.size=p+4+pos.length:=by rw [hS,strB_size,hlen,hp]
    have hrc2:post=some (some ⟨[kText],pos.drop 1⟩):=by rw [hrc,hbe]
    rw [hidx,← hp] at cI
    have cK:=fun (W:World)=>sclone2_any W (pos.drop 1) (by rw [List.length_drop];omega)
    have hRs:(strB pos).size=pos.length:=strB_size pos
    have hex2:(strB pos).extract (min 1 pos.length) (strB pos).size=strB (pos.drop 1):=bytes_ext (by
     rw [extract_list,strB_list,strB_list,hRs]
     rcases pos with _ | ⟨x,y⟩
     ·rfl
     ·simp)
    obtain⟨R,hR⟩:∃ R,R=strB pos:=⟨_,rfl⟩
    obtain⟨T,hT⟩:∃ T,T=strB (pos.drop 1):=⟨_,rfl⟩
    obtain⟨q,hq⟩:∃ q,q=pos.length:=⟨_,rfl⟩
    rw [← hR] at hex1 hex2 hRs
    rw [← hT] at hex2 cK
    rw [← hq] at hSs hex2 hRs
    have hA0':A0=⟨#[116,101,120,116]⟩:=hA0
    subst hA0'
    have CI:=hid2 cI
    have CK:=hid2 cK
    have CW:=hid2 cW
    have HTT:=hid2 hT
    have HGO:=hid2 hrc2
    have hlim:(p:Int)+4+q≤1000000:=by omega
    have hSi:(S.size:Int)=(p:Int)+4+q:=by omega
    have hw4:IntKind.i64.wrap ((p:Int)+4)=(p:Int)+4:=IntWalk.i64_in _ (by constructor <;> omega)
    have hp4:¬ (S.size:Int) < (p:Int)+4:=by omega
    have hp0:(0:Int)≤(p:Int)+4:=by omega
    have HX:=hid2 hex2
    clear cW cI hM hs hwl hS hw hL hL0 hA0 htn hsp hpre hpos hane hafr hal hn hn1 hn2 hN hixA hp35 htx h35 hk0 hpost hrc hrc2 hbe hidx hlen hp hR hT hq cK hex2
    have hx1:S.extract (p+4) (p+4+q)=R:=by rw [← hSs];exact hex1
    have hx2:R.extract (min (1:Int) (q:Int)).toNat q=T:=by
     have h:=HX.out
     rw [hRs] at h
     rw [← h]
     congr 1
     omega
    clear hex1
    go_enter Tryz.func37,Tryz.ntmps37
    go_wp2_with (first
     | (go_at_call 61; refine CW.out.mono ?_;rintro e w1 ⟨A,c,rfl,ho,hb⟩;have HB:=hid2 hb;have HO:=hid2 ho;obtain⟨b,o,rfl,hc⟩:=ho.rd.2 HNP.out;have hc0:w1.cell? ⟨b,o,none⟩=some (.string ⟨#[116,101,120,116]⟩):=hc 0 _ HL0.out;have hcap:(1:Int)≤c:=(by have:=ho.2.1;have:=HNP.out;omega);have hcap2:¬ (c:Int) < 1:=(by omega);clear ho hb hc)
     | (go_at_call 62; refine (CI.out _ HB.out).mono ?_;rintro e w2 ⟨rfl,rfl⟩))
    go_region_with (go_at_call 63; refine (CK.out _).mono ?_;rintro e w3 ⟨rfl,hb3⟩)
    all_goals go_wp2
    all_goals go_ret2
    have hbB:=HB.out.drew.trans (hb3.mono HB.out.size)
    refine⟨hbB.alloc hbB.size _,?_⟩
    rw [HGO.out]
    exact⟨_,rfl,text_box hbB (HO.out.drew.below hb3 (Nat.le_refl _)) HNP.out HL0.out HTT.out⟩
   ·have hne:(A0.toList == [116,101,120,116])=false:=by rw [htn,beq_eq_false_iff_ne];exact htx
    have hne2:¬ A0.toList=[116,101,120,116]:=by rw [htn];exact htx
    have cT:=fun (W:World)=>takes_any W (a0 :: a1)
    rw [← hA0] at cT
    have hok:okW mayB ((a0 :: a1) :: r)=(decide ((takesT (a0 :: a1)).1=N) && decide ((takesT (a0 :: a1)).1≠0) && (!(takesT (a0 :: a1)).2 || mayB (r.headD []))):=by
     rw [hN,hn,okW,decide_eq_false htx,Bool.false_or]
    have hrd:post=if okW mayB ((a0 :: a1) :: r)=true then some (some ⟨(a0 :: a1) :: r,[]⟩) else none:=by
     rw [hpost,readC_eq,hw,hp35,cond_false,cmdW,hw]
     simp only
     rw [if_neg htx]
     cases okW mayB ((a0 :: a1) :: r) <;> rfl
    have hb2:(takesT (a0 :: a1)).2=true→2≤(takesT (a0 :: a1)).1:=takes_two (a0 :: a1)
    obtain⟨nT,hnT⟩:∃ nT,nT=(takesT (a0 :: a1)).1:=⟨_,rfl⟩
    obtain⟨bT,hbT⟩:∃ bT,bT=(takesT (a0 :: a1)).2:=⟨_,rfl⟩
    rw [← hnT] at cT hok hb2
    rw [← hbT] at cT hok hb2
    have CT:=hid2 cT
    have CW:=hid2 cW
    have HRD:=hid2 hrd
    have HLL:=hid2 hL
    have HNN:=hid2 (hN.trans (by rw [hn]:n+1=r.length+1))
    by_cases h1:nT=N∧nT≠0
    ·obtain⟨h1a,h1b⟩:=h1
     subst h1a
     have hT1:((nT:Int) == 0)=false:=hN0b
     rw [decide_eq_true rfl,decide_eq_true h1b,Bool.true_and,Bool.true_and] at hok
     cases bT with
     | false =>
      have hgo:post=some (some ⟨(a0 :: a1) :: r,[]⟩):=by rw [hrd,hok];rfl
      have HGO:=hid2 hgo
      clear cW cI hM hs hwl hS hw hL hL0 hA0 htn hsp hpre hpos hane hafr hal hn hn1 hn2 hN hixA hok hrd hb2 hnT hbT cT hp35 htx h35 hk0 hpost hgo h1b
      go_enter Tryz.func37,Tryz.ntmps37
      go_wp2_with (first
       | (go_at_call 61; refine CW.out.mono ?_;rintro e w1 ⟨A,c,rfl,ho,hb⟩;have HB:=hid2 hb;have HO:=hid2 ho;obtain⟨b,o,rfl,hc⟩:=ho.rd.2 HNP.out;have hc0:w1.cell? ⟨b,o,none⟩=some (.string A0):=hc 0 _ HL0.out;clear ho hb hc)
       | (go_at_call 64; refine (CT.out _).mono ?_;rintro e w2 ⟨rfl,rfl⟩))
      go_ret2
      refine⟨HB.out.alloc HB.out.size _,?_⟩
      rw [HGO.out]
      exact⟨_,rfl,read_box HB.out HO.out HNN.out HLL.out⟩
     | true =>
      obtain⟨x1,r1,rfl⟩:∃ x1 r1,r=x1 :: r1:=by
       cases r with
       | nil=>simp at hn;have:=hb2 rfl;omega
       | cons x y=>exact⟨x,y,rfl⟩
      have hx1:x1.length≤1000000:=Nat.le_trans (wordsT_mem (s:=s) (x:=x1) (by rw [hw];simp)).2.2 hs
      have cP:=fun (W:World)=>may_any W (strB x1) (by rw [strB_size];exact hx1)
      rw [strB_list] at cP
      obtain⟨A1,hA1⟩:∃ A1,A1=strB x1:=⟨_,rfl⟩
      have hL1:(strV ((a0 :: a1) :: x1 :: r1))[1]?=some (.string A1):=by rw [hA1];rfl
      rw [← hA1] at cP
      rw [← hL] at hL1
      have HL1:=hid2 hL1
      have hn2':(1:Int) < nT:=by have:=hb2 rfl;omega
      simp only [List.headD_cons,Bool.not_true,Bool.false_or] at hok
      obtain⟨m,hm⟩:∃ m,m=mayB x1:=⟨_,rfl⟩
      rw [← hm] at cP hok
      have CP:=hid2 cP
      cases m with
      | true =>
       have hgo:post=some (some ⟨(a0 :: a1) :: x1 :: r1,[]⟩):=by rw [hrd,hok];rfl
       have HGO:=hid2 hgo
       clear cW cI hM hs hwl hS hw hL hL0 hA0 htn hsp hpre hpos hane hafr hal hn hn1 hn2 hN hixA hok hrd hb2 hnT hbT cT hp35 htx h35 hk0 hpost hgo h1b hL1 hA1 cP hm hx1
       go_enter Tryz.func37,Tryz.ntmps37
       go_wp2_with (first
        | (go_at_call 61; refine CW.out.mono ?_;rintro e w1 ⟨A,c,rfl,ho,hb⟩;have HB:=hid2 hb;have HO:=hid2 ho;obtain⟨b,o,rfl,hc⟩:=ho.rd.2 HNP.out;have hc0:w1.cell? ⟨b,o,none⟩=some (.string A0):=hc 0 _ HL0.out;have hc1:w1.cell? ⟨b,o+1,none⟩=some (.string A1):=hc 1 _ HL1.out;clear ho hb hc)
        | (go_at_call 64; refine (CT.out _).mono ?_;rintro e w2 ⟨rfl,rfl⟩)
        | (go_at_call 65; refine (CP.out _).mono ?_;rintro e w3 ⟨rfl,hb3⟩;have HB3:=hid2 (HB.out.trans (hb3.mono HB.out.size));have HO3:=hid2 (HO.out.below hb3 (Nat.le_refl _));clear hb3))
       go_ret2
       refine⟨HB3.out.alloc HB3.out.size _,?_⟩
       rw [HGO.out]
       exact⟨_,rfl,read_box HB3.out HO3.out HNN.out HLL.out⟩
      | false =>
       have hgo:post=none:=by rw [hrd,hok];rfl
       have HGO:=hid2 hgo
       clear cW cI hM hs hwl hS hw hL hL0 hA0 htn hsp hpre hpos hane hafr hal hn hn1 hn2 hN hixA hok hrd hb2 hnT hbT cT hp35 htx h35 hk0 hpost hgo h1b hL1 hA1 cP hm hx1
       go_enter Tryz.func37,Tryz.ntmps37
       go_wp2_with (first
        | (go_at_call 61; refine CW.out.mono ?_;rintro e w1 ⟨A,c,rfl,ho,hb⟩;have HB:=hid2 hb;have HO:=hid2 ho;obtain⟨b,o,rfl,hc⟩:=ho.rd.2 HNP.out;have hc0:w1.cell? ⟨b,o,none⟩=some (.string A0):=hc 0 _ HL0.out;have hc1:w1.cell? ⟨b,o+1,none⟩=some (.string A1):=hc 1 _ HL1.out;clear ho hb hc)
        | (go_at_call 64; refine (CT.out _).mono ?_;rintro e w2 ⟨rfl,rfl⟩)
        | (go_at_call 65; refine (CP.out _).mono ?_;rintro e w3 ⟨rfl,hb3⟩;have HB3:=hid2 (HB.out.trans (hb3.mono HB.out.size));clear hb3))
       go_ret2
       refine⟨HB3.out,?_⟩
       rw [HGO.out]
       unfold ReadM
       rfl
    ·have hgo:post=none:=by
      rw [hrd,hok]
      rw [not_and] at h1
      by_cases h2:nT=N
      ·have:nT=0:=by have:=h1 h2;omega
       simp [this]
      ·simp [h2]
     have HGO:=hid2 hgo
     clear cI hM hs hwl hS hw hL hL0 hA0 htn hsp hpre hpos hane hafr hal hn hn1 hn2 hN hixA hok hrd hb2 hnT hbT cT hp35 htx h35 hk0 hpost hgo cW
     by_cases h2:nT=N
     ·subst h2
      exact absurd ⟨rfl,by omega⟩ h1
     ·have h2i:(nT:Int)≠N:=by omega
      have h2b:((nT:Int) == N)=false:=by rw [beq_eq_false_iff_ne];omega
      clear h1
      go_enter Tryz.func37,Tryz.ntmps37
      go_wp2_with (first
       | (go_at_call 61; refine CW.out.mono ?_;rintro e w1 ⟨A,c,rfl,ho,hb⟩;have HB:=hid2 hb;have HO:=hid2 ho;obtain⟨b,o,rfl,hc⟩:=ho.rd.2 HNP.out;have hc0:w1.cell? ⟨b,o,none⟩=some (.string A0):=hc 0 _ HL0.out;clear ho hb hc)
       | (go_at_call 64; refine (CT.out _).mono ?_;rintro e w2 ⟨rfl,rfl⟩))
      go_ret2
      refine⟨HB.out,?_⟩
      rw [HGO.out]
      unfold ReadM
      rfl
end Go.Proofs.YtnecjdhamohadaaGreatDoor
