/- The tool's words and lines: contracts of what it leans on, laid at this program. -/
import Derived.Test.YtnecjdhamohadaaGreatDoorToolD
import Derived.Test.YtnecjdhamohadaaGreatDoorPMe
import Derived.Test.YtnecjdhamohadaaGreatDoorPMd
import Derived.Test.YtnecjdhamohadaaGreatDoorPMa
import Derived.Lib.Builder
import Derived.Lib.UnsafeStr
import Derived.Laws.Externs
import Derived.BigRegion
import Derived.BigQuiet
import Derived.RangeFuncNested
import Derived.RangeFuncBound
import Derived.RangeFuncCalls
import Derived.RangeFuncLeaves
import Derived.Shelf.Abstract
import Derived.Shelf.RegionOpen
import Derived.OwnWalkIn
import Derived.TacticsInMore
import Derived.LoopNIn
import Derived.LoopIn
set_option linter.unusedSimpArgs false
set_option linter.unusedVariables false
namespace Go.Proofs.YtnecjdhamohadaaGreatDoor
open Go.RowKit Go.Shelf Go.Sort
set_option maxRecDepth 100000
def MaxL (w:World):Prop:=∃ m,w.cell? ⟨0,0,none⟩=some (.int .i64 m)
theorem MaxL.on {w w':World} (h:MaxL w) (hb:Below w.heap.size w w'):MaxL w':=by
 obtain⟨m,hm⟩:=h
 exact⟨m,(hb.cell (World.block_lt_of_cell? w _ hm)).trans hm⟩
theorem own_of_row {w:World} {base:Nat} {e:TypeId} {sz:Nat} {v:Value} {n:Nat} {xs:List Value} (h:w.ownsRow base e sz v n xs):∃ A c,v = .slice A n c∧Own w base e sz A n c xs:=by
 obtain⟨hl,⟨rfl,rfl⟩ | ⟨g,cap,cur,rfl,hb,hg,hn,hm,hc,hx⟩⟩:=h
 ·have:xs=[]:=List.eq_nil_of_length_eq_zero (by simpa using hl)
  subst this
  exact⟨none,0,rfl,Own.nil _ _ _ _⟩
 ·refine⟨some ⟨g,0,none⟩,cap,rfl,hl,hn,hm,.inr ⟨g,0,cur,(0,0),rfl,hb,hg,.inl rfl,by omega,fun j hj=>?_⟩⟩
  rw [Nat.zero_add,← hx,List.getElem?_take,if_pos hj];simp
theorem blank_any (w:World) (x:Nat):Calls Tryz.prog 87 #[.int .i32 x] w fun e w'=>e = .returned (.bool (isR x))∧Below w.heap.size w w':=by
 have h1:isR x=(decide (x=32) || decide (x=9)):=by
  unfold isR
  rw [Bool.eq_iff_iff]
  simp
 rw [h1]
 go_enter Tryz.func87,Tryz.ntmps87
 go_wp2
 all_goals go_ret
 ·rename_i h
  obtain rfl:x=32:=by omega
  exact⟨rfl,Below.refl _ _⟩
 ·refine⟨?_,Below.refl _ _⟩
  show Ending.returned (Value.bool ((x:Int) == 32 || (x:Int) == 9))=_
  have e1:((x:Int) == 32)=decide (x=32):=by rw [Bool.eq_iff_iff];simp;omega
  have e2:((x:Int) == 9)=decide (x=9):=by rw [Bool.eq_iff_iff];simp;omega
  rw [e1,e2]
theorem blank_pays (w:World):PredGrows Tryz.prog 87 #[] isR w:=fun W x _ _=>blank_any W x
theorem info_span:(Tryz.prog.info? (Tryz.tlFields_ren.t 154)).map (fun i=>(i.zero,i.size,i.bytes))=some (some (.agg #[.int .i64 0,.int .i64 0]),2,16):=by kernel_rfl
theorem info_str9:(Tryz.prog.info? (Tryz.tlFields_ren.t 9)).map (fun i=>(i.zero,i.size,i.bytes))=some (some (.string ⟨#[]⟩),1,16):=by kernel_rfl
theorem fields_any (w:World) (s:TT) (hs:s.length≤1000000000) :
  Calls Tryz.prog 86 #[.string (strB s),.func (.func 87) #[] #[]] w fun e w'=>∃ A c,e = .returned (.slice A (wordsT s).length c)∧Own w' w.heap.size 9 1 A (wordsT s).length c (strV (wordsT s))∧Below w.heap.size w w':=by
 have h:=Any.strings_FieldsFunc_grows Tryz.tlFields 87 #[] (enters_of Tryz.func87 (by kernel_rfl) rfl) isR (strB s) w (by rw [strB_size];omega) (blank_pays w) info_span info_str9
 have hw:=fields_words (strB s)
 rw [strB_list] at hw
 have hl:(Lib.goFieldsP isR (strB s)).length=(wordsT s).length:=by rw [← hw,List.length_map]
 have hv:(Lib.goFieldsP isR (strB s)).map Value.string=strV (wordsT s):=by
  rw [← hw,strV,List.map_map]
  exact List.map_congr_left fun x _=>by simp only [Function.comp_apply,strB_of]
 rw [hl,hv] at h
 refine h.mono ?_
 rintro e w' ⟨A,rfl,_,ho,hb⟩
 obtain⟨A2,c2,e2,ho2⟩:=own_of_row ho
 cases e2
 exact⟨_,_,rfl,ho2,hb⟩
theorem words_any (w:World) (s:TT) (hs:s.length≤1000000000) :
  Calls Tryz.prog 61 #[.string (strB s)] w fun e w'=>∃ A c,e = .returned (.slice A (wordsT s).length c)∧Own w' w.heap.size 9 1 A (wordsT s).length c (strV (wordsT s))∧Below w.heap.size w w':=by
 have h:=fields_any w s hs
 obtain⟨S,hS⟩:∃ S,S=strB s:=⟨_,rfl⟩
 obtain⟨L,hL⟩:∃ L,L=wordsT s:=⟨_,rfl⟩
 rw [← hS,← hL] at h ⊢
 have H:=hid2 h
 clear h hS hL
 go_enter Tryz.func61,Tryz.ntmps61
 go_wp2_with (go_at_call 86; refine H.out.mono ?_;rintro e w1 ⟨A,c,rfl,ho,hb⟩;have HO:=hid2 ho;have HB:=hid2 hb;clear ho hb)
 go_ret
 exact⟨A,c,rfl,HO.out,HB.out⟩
theorem trim_eq (s:TT):Lib.trimSuffix s [10]=if s.getLast?=some 10 then s.dropLast else s:=by
 unfold Lib.trimSuffix Lib.hasSuffix
 rcases List.eq_nil_or_concat s with rfl | ⟨b,x,rfl⟩
 ·rfl
 ·rw [List.concat_eq_append,List.getLast?_concat,List.dropLast_concat]
  have h1:List.isSuffixOf [10] (b++[x])=(10 == x):=by
   simp [List.isSuffixOf,List.isPrefixOf]
  rw [h1]
  by_cases hx:x=10
  ·subst hx
   simp
  ·have:((10:UInt8) == x)=false:=by simpa using Ne.symm hx
   rw [this,if_neg (by simp),if_neg (by simpa using hx)]
theorem split_any (w:World) (s:TT) (hl:s.length≤1000000000) (hM:MaxL w) :
  Calls Tryz.prog 59 #[.string (strB s),.string ⟨#[10]⟩] w fun e w'=>∃ A c,e = .returned (.slice A (segs (· == 10) s).length c)∧Own w' w.heap.size 9 1 A (segs (· == 10) s).length c (strV (segs (· == 10) s))∧Below w.heap.size w w':=by
 obtain⟨m,hm⟩:=hM
 have h:=Any.strings_Split { Tryz.tlSplit with } (by kernel_rfl) (strB s) (strB [10]) m w (by rw [strB_size];omega) hm (by decide)
 obtain⟨h1,h2⟩:=split_join 10 (segs (· == 10) s) (segs_ne _ s) (segs_no_c 10 s)
 rw [join_segs] at h1 h2
 have hp:0 < (segs (· == 10) s).length:=List.length_pos_iff.2 (segs_ne _ s)
 have hlen:=segs_len (· == 10) s
 rw [h1,h2,show (segs (· == 10) s).length - 1+1=(segs (· == 10) s).length by omega] at h
 refine h.mono ?_
 rintro e w' ⟨rfl,rfl⟩
 have e1:((segs (· == 10) s).map strB).map Value.string=strV (segs (· == 10) s):=by rw [strV,List.map_map];rfl
 rw [e1]
 have ho:=Own.lit w (strV (segs (· == 10) s)).toArray 9 1 (segs (· == 10) s).length w.heap.size (Nat.le_refl _) (by unfold maxLen;omega) (by rw [List.size_toArray,strV_length];omega)
 exact⟨_,_,rfl,ho,(Below.refl _ _).alloc (Nat.le_refl _) _⟩
theorem lines_any (w:World) (s:TT) (hl:s.length≤1000000000) (hM:MaxL w) :
  Calls Tryz.prog 36 #[.string (strB s)] w fun e w'=>∃ A c,e = .returned (.slice A (linesT s).length c)∧Own w' w.heap.size 9 1 A (linesT s).length c (strV (linesT s))∧Below w.heap.size w w':=by
 by_cases h0:s=[]
 ·subst h0
  rw [show strB []=⟨#[]⟩ from rfl,linesT_nil]
  go_enter Tryz.func36,Tryz.ntmps36
  go_wp2
  go_ret
  exact⟨none,0,rfl,Own.nil _ _ _ _,Below.refl _ _⟩
 ·obtain⟨t,ht⟩:∃ t,t=if s.getLast?=some 10 then s.dropLast else s:=⟨_,rfl⟩
  have hlt:linesT s=segs (· == 10) t:=by
   rw [linesT,if_neg h0,ht]
   split <;> rfl
  have htl:t.length≤1000000000:=by
   rw [ht]
   split
   ·rw [List.length_dropLast];omega
   ·exact hl
  have c1:=Any.strings_TrimSuffix Tryz.tlTrim (strB s) (strB [10]) w (by rw [strB_size];omega)
  rw [strB_list,strB_list,trim_eq,← ht] at c1
  have c1':Calls Tryz.prog 60 #[.string (strB s),.string ⟨#[10]⟩] w fun e w'=>e = .returned (.string (strB t))∧w'=w:=c1
  have c2:=split_any w t htl hM
  have hne:(strB s).toList.isEmpty=false:=by
   rw [ByteArray.toList_eq,strB_list]
   simpa using h0
  rw [hlt]
  obtain⟨S,hS⟩:∃ S,S=strB s:=⟨_,rfl⟩
  obtain⟨T,hT⟩:∃ T,T=strB t:=⟨_,rfl⟩
  obtain⟨L,hL⟩:∃ L,L=segs (· == 10) t:=⟨_,rfl⟩
  rw [← hS] at c1' hne ⊢
  rw [← hT] at c1' c2
  rw [← hL] at c2 ⊢
  have C1:=hid2 c1'
  have C2:=hid2 c2
  clear c1 c1' c2 hS hT hL hlt ht htl h0 hl hM
  go_enter Tryz.func36,Tryz.ntmps36
  go_wp2_with (first
   | (go_at_call 60; refine C1.out.mono ?_;rintro e w1 ⟨rfl,rfl⟩)
   | (go_at_call 59; refine C2.out.mono ?_;rintro e w2 ⟨A,c,rfl,ho,hb⟩;have HO:=hid2 ho;have HB:=hid2 hb;clear ho hb))
  go_ret
  exact⟨A,c,rfl,HO.out,HB.out⟩
end Go.Proofs.YtnecjdhamohadaaGreatDoor
namespace Go.Proofs.YtnecjdhamohadaaGreatDoor
open Go.RowKit
set_option maxRecDepth 100000
theorem toList_strBT (s:TT):(strB s).toList=s:=by rw [ByteArray.toList_eq,strB_list]
set_option maxHeartbeats 1000000 in
theorem takes_any (w:World) (s:TT):Calls Tryz.prog 64 #[.string (strB s)] w fun e w'=>e = .returned (.tuple #[.int .i64 (takesT s).1,.bool (takesT s).2])∧w'=w:=by
 have htn:=toList_strBT s
 obtain⟨S,hS⟩:∃ S,S=strB s:=⟨_,rfl⟩
 rw [← hS] at htn ⊢
 clear hS
 obtain⟨r,hr⟩:∃ r,r=takesT s:=⟨_,rfl⟩
 have HR:=hid2 hr
 rw [← hr]
 clear hr
 go_enter Tryz.func64,Tryz.ntmps64
 go_wp2
 all_goals go_ret2
 all_goals (rw [HR.out];refine⟨?_,rfl⟩)
 all_goals simp only [beq_iff_eq,beq_eq_false_iff_ne,ne_eq] at *
 all_goals first
  | contradiction
  | (simp [takesT,kRead,kTry,kWrite,kScan,kEnv,kKeep,kNeed,kSort,kUniq,kUpper,kCount,kFail, *];done)
  | skip
end Go.Proofs.YtnecjdhamohadaaGreatDoor
namespace Go.Proofs.YtnecjdhamohadaaGreatDoor
open Go.RowKit
set_option maxRecDepth 100000
theorem grownBy_setCell {w w':World} {g j:Nat} (h:w.grownBy w' (some g)) (v:Value):w.grownBy (w'.setCell ⟨g,j,none⟩ v) (some g) :=
 ⟨h.os,h.tape,h.output,by simpa [World.setCell] using h.size,fun k hk hne=>(heap_setCell_other w' _ k v (fun e=>hne (by rw [e]))).trans (h.block k hk hne)⟩
theorem info_u8:(Tryz.prog.info? 5).map (fun i=>(i.zero,i.size,i.bytes))=some (some (.int .u8 0),1,1):=by kernel_rfl
def BldAt (w:World) (base g:Nat) (l:List UInt8):Prop :=
 base≤g∧∃ p A c,w.heap[g]?=some (.cells #[p,.slice A l.length c] 125 (0,0))∧(p = .pointer none∨p = .pointer (some ⟨g,0,none⟩))∧Own w base 5 1 A l.length c (u8s l)
theorem grownBy_refl (w:World) (r:Option Nat):w.grownBy w r:=⟨rfl,rfl,rfl,Nat.le_refl _,fun _ _ _=>rfl⟩
theorem copyCheck_any (w:World) (g:Nat) (v p:Value) (hg:w.heap[g]?=some (.cells #[p,v] 125 (0,0))) (hp:p = .pointer none∨p = .pointer (some ⟨g,0,none⟩)) :
  Calls Tryz.prog 120 #[.pointer (some ⟨g,0,none⟩)] w fun e w'=>e = .returned (.tuple #[])∧w'.heap[g]?=some (.cells #[.pointer (some ⟨g,0,none⟩),v] 125 (0,0))∧w.grownBy w' (some g):=by
 have hc:w.cell? ⟨g,0,none⟩=some p:=cell_of_row w g 0 _ _ _ hg
 have hfz:w.frozen? ⟨g,0,none⟩=false:=frozen_of_row w g 0 _ _ hg
 have hsh:w.shape? g=some (125,2):=by simp [World.shape?,hg]
 rcases hp with rfl | rfl
 ·go_enter Tryz.func120,Tryz.ntmps120
  go_wp2
  rw [Lib.run_to_unsafe w ⟨g,0,none⟩ Tryz.underlying123 Tryz.underlying164 rfl (by decide) hsh (Nat.zero_lt_succ 1)]
  simp only [Result.andThen]
  rw [Oper.upon_value]
  go_wp2
  rw [run_callFunc_extern Tryz.func136 (by kernel_rfl) (by kernel_rfl) (by kernel_rfl) (e:=Extern.AbiNoEscape.same) (by kernel_rfl)]
  rw [Lib.run_noEscape]
  simp only [Result.andThen]
  rw [Oper.upon_value]
  go_wp2
  rw [Lib.run_from_unsafe w ⟨g,0,none⟩ Tryz.underlying164 Tryz.underlying123 rfl hsh (by kernel_rfl)]
  simp only [Result.andThen]
  rw [Oper.upon_value]
  go_wp2
  go_end0
  exact⟨rfl,by rw [heap_setCell_same w g 0 _ _ _ hg];rfl,grownBy_setCell (grownBy_refl w _) _⟩
 ·go_enter Tryz.func120,Tryz.ntmps120
  go_wp2
  rw [Lib.run_neq_ptr_same w _ Tryz.underlying123 rfl]
  go_wp2
  go_end0
  exact⟨rfl,hg,grownBy_refl w _⟩
theorem heap_set1 {g:Nat} {p v:Value} {w:World} (t:TypeId) (h:w.heap[g]?=some (.cells #[p,v] t (0,0))) (u:Value):(w.setCell ⟨g,1,none⟩ u).heap[g]?=some (.cells #[p,u] t (0,0)):=by
 rw [heap_setCell_same w g 1 _ _ _ h];rfl
theorem liesAt_bytes_at {P:Program} {e:TypeId} (hc:P.cellsOf e=1) (count o n:Nat) (hn:o+n≤count):liesAt P P.depth e count o e n=true:=by
 have hd:P.depth=(2 * (P.types.size+Made.depth)+1)+1:=rfl
 rw [hd]
 simp only [liesAt,Bool.or_eq_true]
 left
 rw [hd]
 simp [rowAt,hc,hn,sameLayout,Nat.mod_one]
theorem run_unsafeString_at {P:Program} (w:World) (pt it ty e:TypeId) (hp:P.underlying pt=some (.pointer e)) (hc:P.cellsOf e=1) (g o cells:Nat) (hsh:w.shape? g=some (e,cells)) (l:List UInt8) (h0:l≠[]) (hn:o+l.length≤cells) (h63:l.length≤9223372036854775807)
  (hcell:∀ j x,l[j]?=some x→w.cell? ((⟨g,o,none⟩:Addr).add j)=some (.int .u8 x.toNat)) :
  (Builtin.unsafeString_ #[pt,it] ty #[.pointer (some ⟨g,o,none⟩),.int .i64 l.length]).run P w = .ok (.string ⟨l.toArray⟩) (w.freeze ⟨g,o,none⟩ l.length):=by
 have hl:l.length≠0:=by simpa using h0
 have hlb:=Lib.run_loadBytes (P:=P) w l ⟨g,o,none⟩ .empty hcell
 have hlies:=liesAt_bytes_at (P:=P) hc (cells / P.cellsOf e) o l.length (by rw [hc];simpa using hn)
 have h63':¬ (9223372036854775807:Int) < (l.length:Int):=by omega
 have hmax:IntKind.i64.max=9223372036854775807:=rfl
 have hneg:¬ (l.length:Int) < 0:=by omega
 show Sem.run P (Bind.bind (asInt (.int .i64 l.length)) _) w=_
 simp [asInt,asIntOf,hmax,h63',hneg,hl,variablesAt,hsh,elemOf,run_underlying hp,hlies,hlb]
theorem bstring_any (w:World) (base g:Nat) (l:List UInt8) (h:BldAt w base g l) (h0:l≠[]) :
  Calls Tryz.prog 96 #[.pointer (some ⟨g,0,none⟩)] w fun e w'=>e = .returned (.string ⟨l.toArray⟩)∧Below base w w':=by
 obtain⟨hbg,p,A,c,hg,hp,hown⟩:=h
 have hgl:=heap_lt hg
 have hc1:w.drew.cell? ⟨g,1,none⟩=some (.slice A l.length c):=cell_of_row w g 1 _ _ _ hg
 have hl0:0 < l.length:=List.length_pos_iff.2 h0
 have hnc:=hown.2.1
 have hcm:=hown.2.2.1
 obtain⟨b,o,cur,fr,rfl,hbb,hcur,hfr,hoc,hcx⟩:=hown.at_ (by omega)
 have hSD:(Builtin.unsafeSliceData_ #[46] 137 #[.slice (some ⟨b,o,none⟩) l.length c]).run Tryz.prog w.drew = .ok (.pointer (some ⟨b,o,none⟩)) w.drew :=
  Lib.run_unsafeSliceData_row _ _ _ _ _ _ (by omega)
 have hUS:(Builtin.unsafeString_ #[137,3] 9 #[.pointer (some ⟨b,o,none⟩),.int .i64 l.length]).run Tryz.prog w.drew = .ok (.string ⟨l.toArray⟩) (w.drew.freeze ⟨b,o,none⟩ l.length):=by
  refine run_unsafeString_at w.drew 137 3 9 5 Tryz.underlying137 (by kernel_rfl) b o cur.size (by have hg':w.drew.heap[b]?=some (.cells cur 5 fr):=hcur;simp [World.shape?,hg']) l h0 (by omega) (by unfold maxLen at hcm;omega) ?_
  intro j x hx
  have hj:j < l.length:=by
   rcases Nat.lt_or_ge j l.length with h | h
   ·exact h
   ·rw [List.getElem?_eq_none h] at hx;cases hx
  rw [addr_add]
  refine (cell_of_row w b (o+j) cur _ _ hcur).trans ?_
  rw [hcx j (by omega),u8s_get l hj,List.getD_eq_getElem?_getD,hx]
  rfl
 have hl63:l.length≤9223372036854775807:=by unfold maxLen at hcm;omega
 clear hcx hfr hoc hcur hown hg hp
 go_enter Tryz.func96,Tryz.ntmps96
 go_wp2
 go_region
 all_goals (go_wp2;go_ret;exact⟨rfl,Lib.below_freeze (Below.drew (Below.refl base w)) (p:=⟨b,o,none⟩) hbb _⟩)
theorem BldAt.below {w w':World} {base g B:Nat} {l:List UInt8} (h:BldAt w base g l) (hb:Below B w w') (hB:w.heap.size≤B):BldAt w' base g l:=by
 obtain⟨hbg,p,A,c,hg,hp,hown⟩:=h
 exact⟨hbg,p,A,c,(hb.block _ (by have:=heap_lt hg;omega)).trans hg,hp,hown.below hb hB⟩
theorem BldAt.lt {w:World} {base g:Nat} {l:List UInt8} (h:BldAt w base g l):g < w.heap.size:=by
 obtain⟨_,p,A,c,hg,_⟩:=h
 exact heap_lt hg
def BldNew (w:World) (g:Nat):Prop:=w.heap[g]?=some (.cells #[.pointer none,.slice none 0 0] 125 (0,0))
theorem BldNew.at_ {w:World} {g base:Nat} (h:BldNew w g) (hb:base≤g):BldAt w base g []:=⟨hb,_,none,0,h,.inl rfl,Own.nil _ _ _ _⟩
theorem writeString_any (w:World) (base g:Nat) (l:List UInt8) (h:BldAt w base g l) (s:ByteArray) (hlen:l.length+s.size≤100000000) (hbase:base≤w.heap.size) :
  Calls Tryz.prog 95 #[.pointer (some ⟨g,0,none⟩),.string s] w fun e w'=>e = .returned (.tuple #[.int .i64 s.size,.nilIface])∧BldAt w' base g (l++s.data.toList)∧Below base w w':=by
 obtain⟨hbg,p,A,c,hg,hp,hown⟩:=h
 have hgl:=heap_lt hg
 have hne:=hown.ne hg (by decide)
 obtain⟨n,hn⟩:∃ n,n=l.length:=⟨_,rfl⟩
 rw [← hn] at hg hown hlen
 have HN:=hid2 hn
 have h63:n+s.size≤maxLen:=by unfold maxLen;omega
 clear hn
 go_enter Tryz.func95,Tryz.ntmps95
 go_wp2_with (first
  | (go_at_call 120; refine (copyCheck_any w g _ p hg hp).mono ?_;rintro e w1 ⟨rfl,hg1,hgr1⟩;have hc1:w1.cell? ⟨g,1,none⟩=some (.slice A n c):=cell_of_row w1 g 1 _ _ _ hg1;have hf1:w1.frozen? ⟨g,1,none⟩=false:=frozen_of_row w1 g 1 _ _ hg1;have hown1:=hown.grown hgr1 (fun b hb e=>hne (hb.trans e));clear hown)
  | (at_builtin;have _t:=hown1;go_must ((with_reducible refine wpList_append_lit 5 (.int .u8 0) 1 1 Tryz.underlying46 info_u8 rfl base A n c (u8s l) hown1 s.size (u8s s.data.toList) (.string s) (Src.str Tryz.underlying9) (u8s_one _) h63 (by omega) (by have:=hgr1.size;omega) ?_ ?_);exact⟨rfl,rfl⟩;intro A3 c3 w3 hown3 hgr3 hbl3;clear hown1;have hg3:=(hgr3.block g (by have:=hgr1.size;omega) (fun e=>hne e.symm)).trans hg1;have hc3:w3.cell? ⟨g,1,none⟩=some (.slice A n c):=cell_of_row w3 g 1 _ _ _ hg3;have hf3:w3.frozen? ⟨g,1,none⟩=false:=frozen_of_row w3 g 1 _ _ hg3)))
 go_ret2
 have hb1:Below base w w1:=(Below.refl base w).grown hgr1 hbase (fun k e=>by injection e with e;omega)
 have hb3:Below base w w3:=hb1.grown hgr3 (by have:=hgr1.size;omega) (fun k e=>(_t.block k e).1)
 refine⟨rfl,⟨hbg,_,A3,c3,?_,.inr rfl,?_⟩,hb3.setCell (p:=⟨g,1,none⟩) (by exact hbg) _⟩
 ·have:=heap_set1 _ hg3 (.slice A3 (n+s.size) c3)
  rw [List.length_append,toList_length]
  rw [HN.out] at this ⊢
  exact this
 ·have h4:=hown3.setOther (p:=⟨g,1,none⟩) (hown3.ne hg3 (by decide)) (.slice A3 (n+s.size) c3)
  rw [← u8s_append] at h4
  rw [List.length_append,toList_length]
  rw [HN.out] at h4 ⊢
  exact h4
theorem bstring_new (w:World) (base g:Nat) (h:BldNew w g) :
  Calls Tryz.prog 96 #[.pointer (some ⟨g,0,none⟩)] w fun e w'=>e = .returned (.string ⟨#[]⟩)∧Below base w w':=by
 have hgl:=heap_lt h
 have hc1:w.drew.cell? ⟨g,1,none⟩=some (.slice none 0 0):=cell_of_row w g 1 _ _ _ h
 have hSD:(Builtin.unsafeSliceData_ #[46] 137 #[.slice none 0 0]).run Tryz.prog w.drew = .ok (.pointer none) w.drew:=Lib.run_unsafeSliceData_nil _ _ _ _ _
 have hUS:(Builtin.unsafeString_ #[137,3] 9 #[.pointer none,.int .i64 0]).run Tryz.prog w.drew = .ok (.string ⟨#[]⟩) w.drew:=Lib.run_unsafeString_none _ _ _ _ _
 clear h
 go_enter Tryz.func96,Tryz.ntmps96
 go_wp2
 go_region
 all_goals (go_wp2;go_ret;exact⟨rfl,(Below.refl base w).drew⟩)
end Go.Proofs.YtnecjdhamohadaaGreatDoor
namespace Go.Proofs.YtnecjdhamohadaaGreatDoor
open Go.RowKit
set_option maxRecDepth 100000
theorem run_copy_str {P:Program} (w:World) (dT sT ty elem:TypeId) (g c:Nat) (cur:Array Value) (t:TypeId) (s:List UInt8)
  (hu:P.underlying dT=some (.slice elem)) (hs:(P.info? elem).map (·.size)=some 1) (hg:w.heap[g]?=some (.cells cur t (0,0))) (hn:cur.size=s.length) :
  (Builtin.copy_ #[dT,sT] ty #[.slice (some ⟨g,0,none⟩) s.length c,.string ⟨s.toArray⟩]).run P w = .ok (goInt s.length) (w.setRow g (u8s s).toArray):=by
 have hl:(u8s s).length=s.length:=u8s_length s
 have hst:=run_storeCells_at P g 0 t (u8s s) 0 cur w hg (by omega) (u8s_one s)
 simp only [Nat.add_zero,Nat.zero_add,List.take_zero,List.nil_append] at hst
 rw [List.drop_of_length_le (by rw [Array.length_toList];omega),List.append_nil] at hst
 cases hq:P.info? elem with
 | none=>simp [hq] at hs
 | some i =>
  have hi:i.size=1:=by simpa [hq] using hs
  have hsz:(⟨s.toArray⟩:ByteArray).size=s.length:=by show s.toArray.size=_;simp
  have hcells:((⟨s.toArray⟩:ByteArray).data.toList.map fun x=>Value.int .u8 (x.toNat:Int))=u8s s:=rfl
  simp [Builtin.copy_,run_underlying hu,Builtin.lenOf,Builtin.firstCells,sizeOf,typeInfo,hq,hi,hsz]
  rw [show (List.map (fun x=>Value.int .u8 (x.toNat:Int)) s)=u8s s from rfl,List.take_of_length_le (by omega),hst]
  rfl
theorem wpList_copy_str {P:Program} {w:World} {s:List UInt8} {ops:Array Oper} {rest:List Oper} {a:Act} {Q:Exit→Act→World→Prop} {dst:Option Tmp} {tt dT sT:TypeId} {d x:Operand} {pos:String} {after:Array Edge}
  (elem:TypeId) (g c n:Nat) (hsn:s.length=n) (cur:Array Value) (t:TypeId)
  (hu:P.underlying dT=some (.slice elem)) (hs:(P.info? elem).map (·.size)=some 1) (hg:w.heap[g]?=some (.cells cur t (0,0))) (hn:cur.size=n)
  (hdx:a.eval d = .slice (some ⟨g,0,none⟩) n c∧a.eval x = .string (strB s))
  (h:wpList P ops Q rest (a.put dst (goInt n)) (w.setRow g (u8s s).toArray)):wpList P ops Q (⟨dst,.call ⟨.builtin .copy,#[d,x],#[dT,sT]⟩,tt,pos,after,none⟩ :: rest) a w:=by
 subst hsn
 refine wpList_plain rfl fun K hK=>?_
 have hrun:=run_copy_str (P:=P) w dT sT tt elem g c cur t s hu hs hg hn
 unfold Oper.wp
 simp [execOp,resolve,invoke,builtin,hdx.1,hdx.2,strB,hrun,Result.andThen]
 exact hK _ _ h
theorem made_row {w:World} {base g n:Nat} {t:TypeId} {xs:List Value} (h:w.ownsRow base t 1 (.slice (some ⟨g,0,none⟩) n n) n xs):∃ cur,w.heap[g]?=some (.cells cur t (0,0))∧cur.size=n:=by
 obtain⟨hl,⟨h1,_⟩ | ⟨g',cap,cur,e,hb,hg,hn,hm,hc,hx⟩⟩:=h
 ·cases h1
 ·cases e
  exact⟨cur,hg,by omega⟩
theorem clone_run {w:World} {g n:Nat} {s:List UInt8} (hg:w.heap[g]?=some (.cells (u8s s).toArray 5 (0,0))) (hn:n=s.length) (h0:s≠[]) (h63:n≤9223372036854775807) :
  (Builtin.unsafeString_ #[137,3] 9 #[.pointer (some ⟨g,0,none⟩),.int .i64 n]).run Tryz.prog w = .ok (.string ⟨s.toArray⟩) (w.freeze ⟨g,0,none⟩ n):=by
 subst hn
 refine run_unsafeString_at w 137 3 9 5 Tryz.underlying137 (by kernel_rfl) g 0 s.length (by simp [World.shape?,hg,u8s_length]) s h0 (by omega) h63 ?_
 intro j x hx
 have hj:j < s.length:=(List.getElem?_eq_some_iff.1 hx).1
 rw [addr_add]
 refine (cell_of_row w g (0+j) _ _ _ hg).trans ?_
 rw [Nat.zero_add,List.getElem?_toArray,u8s_get s hj,List.getD_eq_getElem?_getD,hx]
 rfl
set_option maxHeartbeats 1000000 in
theorem sclone_any (w:World) (s:List UInt8) (hl:s.length≤1000000000) :
  Calls Tryz.prog 89 #[.string (strB s)] w fun e w'=>e = .returned (.string (strB s))∧Below w.heap.size w w':=by
 by_cases h0:s=[]
 ·subst h0
  rw [show strB []=⟨#[]⟩ from rfl]
  go_enter Tryz.func89,Tryz.ntmps89
  go_wp2
  go_ret
  exact⟨rfl,Below.refl _ _⟩
 ·obtain⟨i0,hi,hz0,hz1,hz2⟩:=info_parts info_u8
  have hp:0 < s.length:=List.length_pos_iff.2 h0
  have hss:(strB s).size=s.length:=strB_size s
  obtain⟨n,hn⟩:∃ n,n=s.length:=⟨_,rfl⟩
  have hsi:((strB s).size:Int)=(n:Int):=by omega
  have hn0:(n:Int)≠0:=by omega
  have hnp:(0:Int) < n:=by omega
  have hlim:(n:Int)≤1000000000:=by omega
  obtain⟨S,hS⟩:∃ S,S=strB s:=⟨_,rfl⟩
  rw [← hS] at hsi ⊢
  have HN:=hid2 hn
  have HS:=hid2 hS
  have H0:=hid2 h0
  clear hS hn hss hp h0 hl
  go_enter Tryz.func89,Tryz.ntmps89
  go_wp2_with (first
   | (refine wpList_make_full _ rfl (.tmp 8) (.tmp 8) 46 rfl w.heap.size 5 i0 (.int .u8 0) 1 Tryz.underlying46 hi hz0 hz1 .i64 .i64 _ _ n rfl rfl ?_ ?_ ?_ ?_ (Nat.le_refl _) ?_;(simp [hsi]);(simp [hsi]);(rw [hz2];omega);(unfold maxLen;omega);intro w1 hown hgr;have hrow:=made_row hown;obtain⟨cur,hg1,hc1⟩:=hrow;have hb1:Below w.heap.size w w1:=(Below.refl _ _).grown hgr (Nat.le_refl _) (fun k e=>by cases e);clear hown hgr)
   | ((with_reducible refine wpList_copy_str (s:=s) 5 w.heap.size n n HN.out.symm cur 5 Tryz.underlying46 (by kernel_rfl) hg1 hc1 ?_ ?_);(exact⟨rfl,by rw [← HS.out];rfl⟩);have hg2:=setRow_heap w1 w.heap.size cur (u8s s).toArray 5 (0,0) hg1;have hb2:=below_setRow hb1 (Nat.le_refl _) (u8s s).toArray;have hUS:=clone_run hg2 HN.out H0.out (by omega);obtain⟨w2,hw2⟩:∃ w2,w2=w1.setRow w.heap.size (u8s s).toArray:=⟨_,rfl⟩;rw [← hw2] at hg2 hb2 hUS ⊢;clear hw2 hg1 hb1 hc1))
  all_goals go_ret
  all_goals exact⟨by rw [HS.out];rfl,Lib.below_freeze hb2 (p:=⟨w.heap.size,0,none⟩) (Nat.le_refl _) _⟩
end Go.Proofs.YtnecjdhamohadaaGreatDoor
namespace Go.Proofs.YtnecjdhamohadaaGreatDoor
open Go.RowKit
end Go.Proofs.YtnecjdhamohadaaGreatDoor
namespace Go.Proofs.YtnecjdhamohadaaGreatDoor
open Go.RowKit
variable {F:Fence} {n:Nat} {P:Program}

def roundC {α:Type} (B:Nat) (Kp:World→World→Prop) (I:List α→World→Prop) (Ix:Code→List α→World→Prop) (xs:List α) (W:World):Exit→Act→World→Prop
 | .normal,_,W'=>(W'.heap[B]?=W.heap[B]?∧W'.heap[B+1]?=W.heap[B+1]?)∧Kp W W'∧I xs W'
 | .ret,_,W'=>(W'.heap[B]?=W.heap[B]?∧W'.heap[B+1]?=W.heap[B+1]?)∧Ix .ret xs W'
 | .exit id,_,W'=>(W'.heap[B]?=W.heap[B]?∧W'.heap[B+1]?=W.heap[B+1]?)∧Ix (.exit id) xs W'
 | .goto t,_,W'=>(W'.heap[B]?=W.heap[B]?∧W'.heap[B+1]?=W.heap[B+1]?)∧Ix (.goto t) xs W'
 | .panic _,_,_=>False
 | .outgrown,_,_=>False

theorem wpIn_rangeFunc_c {α:Type} {g:Operand} {ps:Array Tmp} {assign body:Code} {Q:Exit→Act→World→Prop} {a:Act} {w:World}
  (hro:F.round=none) (h1:1≤n) {gf:Nat} {lb:Array Value} (hg:a.eval g = .func (.func gf) #[] lb) (hFg:F.fn gf) (eg:∀ args w,(callFunc gf args).run P w = .ok (.enter gf args) w)
  (enc:α→Value) (hps:ps.size=1) (K Kp:World→World→Prop) (S Sp:List α→Prop)
  (hcall:∀ (l:Nat) (J Jx:List α→World→Prop) (W:World),Below w.heap.size w W→(∀ s W1 W2,J s W1→K W1 W2→J s W2) →
   (∀ pre x W1,J pre W1→YieldAt F (n - 1 - 1) P l #[enc x] W1 fun e W'=>(e = .returned (.bool true)∧J (pre++[x]) W'∧Kp W1 W')∨(e = .returned (.bool false)∧Jx (pre++[x]) W')) →
   J [] W→CallsIn F (n - 1) P gf (#[.func (.yield l) #[] #[]]++lb) W fun e W'=>(∃ v,e = .returned v)∧((∃ xs,S xs∧J xs W')∨(∃ pre,Sp pre∧Jx pre W')))
  (hKk:∀ W1 W2 k,K W1 W2→w.heap.size≤k→W2.heap[k]?=W1.heap[k]?) (hKt:∀ A B C,Kp A B→Kp B C→Kp A C) (hKb:∀ W k o,w.heap.size≤k→Kp W (W.putObj k o))
  (I:List α→World→Prop) (Ix:Code→List α→World→Prop) (hIK:∀ pre W1 W2,I pre W1→K W1 W2→I pre W2)
  (hI:∀ pre W k o,I pre W→w.heap.size≤k→k < w.heap.size+2→I pre (W.putObj k o)) (hIx:∀ c pre W k o,Ix c pre W→w.heap.size≤k→k < w.heap.size+2→Ix c pre (W.putObj k o))
  (h0:∀ o1 o2,I [] ((w.alloc o1).alloc o2)) (a₁:α→Act)
  (hassign:∀ (l:Nat) (x:α) (W:World) (K:Act→World→Prop),K (a₁ x) W →
   assign.wpIn (F.inRound l) (n - 1 - 1) P (Exit.then K (fun _ _ _=>False)) { tmps:=(ps.zip #[enc x]).foldl (fun t (p,v)=>t.setIfInBounds p v) a.tmps,defers:=[] } W)
  (hbody:∀ (l:Nat) (pre:List α) (x:α) (W:World),I pre W→body.wpIn (F.inRound l) (n - 1 - 1) P (roundC w.heap.size Kp I Ix (pre++[x]) W) (a₁ x) W)
  (hdone:∀ (xs:List α) (W:World),S xs→I xs W→W.heap[w.heap.size]?=some (.deferred (some []))→Q .normal { a with defers:={ target:=.collected w.heap.size,args:=#[] } :: a.defers } W)
  (hstop:∀ (c:Code) (pre:List α) (W:World),Sp pre→Ix c pre W→W.heap[w.heap.size]?=some (.deferred (some []))→c.wpIn F n P Q { a with defers:={ target:=.collected w.heap.size,args:=#[] } :: a.defers } W) :
  (Code.rangeFunc g ps assign body).wpIn F n P Q a w:=by
 refine wpIn_rangeFunc ?_
 intro fn hfn
 rw [hro]
 obtain⟨D,hD⟩:∃ D,D=w.heap.size:=⟨_,rfl⟩
 obtain⟨rec,hrec⟩:∃ rec:LoopState→Option Code→Loop,rec=fun st pe=>{ state:=st,pending:=pe,fn,tmps:=a.tmps,params:=ps,assign,body,defers:=w.heap.size }:=⟨_,rfl⟩
 -- the law's own two blocks
 let Bk:LoopState→Option Code→World→Prop:=fun st pe W=>W.heap[D+1]?=some (.loop (rec st pe))∧W.heap[D]?=some (.deferred (some []))
 obtain⟨W1,hW1⟩:∃ W1,(w.alloc (.deferred (some []))).alloc (.loop (rec .ready none))=W1:=⟨_,rfl⟩
 have hB1:Bk .ready none W1:=by
  rw [← hW1]
  refine⟨?_,?_⟩
  ·have:=World.alloc_heap_new (w.alloc (.deferred (some []))) (.loop (rec .ready none))
   rwa [World.size_alloc,← hD] at this
  ·rw [hD];exact (Below.heap_alloc _ _ _ (by simp)).trans (World.alloc_heap_new w _)
 have hb1:Below w.heap.size w W1:=by
  rw [← hW1];exact ((Below.refl _ w).alloc (Nat.le_refl _) _).alloc (by simp) _
 have hI1:I [] W1:=by rw [← hW1];exact h0 _ _
 -- the record is turned, the other block stays
 have turn:∀ {st pe W} (st' pe'),Bk st pe W→Bk st' pe' (W.putObj (D+1) (.loop (rec st' pe'))):=fun st' pe' h =>
  ⟨World.putObj_heap_same (Array.getElem?_eq_some_iff.1 h.1).1,(World.putObj_heap_other (by omega)).trans h.2⟩
 have keep:∀ {st pe W W'},Bk st pe W→(W'.heap[D]?=W.heap[D]?∧W'.heap[D+1]?=W.heap[D+1]?)→Bk st pe W':=fun h k=>⟨k.2.trans h.1,k.1.trans h.2⟩
 refine⟨w.heap.size+1,[{ target:=.collected w.heap.size,args:=#[] }],W1,{ target:=.fn (.func gf) lb,args:=#[.func (.yield (w.heap.size+1)) #[] #[]] },W1,gf,
  #[.func (.yield (w.heap.size+1)) #[] #[]]++lb,W1,?_,?_,?_,?_,fun _=>h1,?_⟩
 ·rw [← hW1,hrec];exact run_enterLoop_outer _ _ _ _ _
 ·simp only [resolve,hg]
  simp [go_sem]
 ·intro f' hf';simp [Target.leads] at hf';subst hf';exact hFg
 ·simp [invoke,go_sem,eg]
 rw [← hD] at hI hIx hKk hKb hbody hdone hstop ⊢
 refine (hcall (D+1) (fun pre W=>I pre W∧Bk .ready none W) (fun pre W=>∃ c,Ix c pre W∧Bk .done (some c) W) W1 hb1 ?_ ?_ ⟨hI1,hB1⟩).mono ?_
 ·rintro s A C ⟨hi,hl,hk⟩ hK
  exact⟨hIK _ _ _ hi hK,(hKk _ _ _ hK (by omega)).trans hl,(hKk _ _ _ hK (by omega)).trans hk⟩
 ·-- one round
  rintro pre x W ⟨hi,hl,hk⟩
  have hy:=run_yield (P:=P) (args:=#[enc x]) hl (by rw [hrec];exact hps.symm)
  rw [hrec] at hy
  refine⟨fn,_,assign,body,hy,roundIn_of_wpIn hfn (hassign _ x W _ ⟨_,run_beginRound hl (by rw [hrec]),?_⟩)⟩
  have hbusy:Bk .busy none (W.putObj (D+1) (.loop (rec .busy none))):=turn .busy none ⟨hl,hk⟩
  rw [show ({ rec .ready none with state:=.busy }:Loop)=rec .busy none by rw [hrec]]
  refine wpIn_mono (hbody _ pre x _ (hI _ _ _ _ hi (by omega) (by omega))) ?_
  have fin:∀ (jump:Option Code) (W3:World),(W3.heap[D]?=(W.putObj (D+1) (.loop (rec .busy none))).heap[D]?∧W3.heap[D+1]?=(W.putObj (D+1) (.loop (rec .busy none))).heap[D+1]?) →
    (Instr.endRound (D+1) jump).run P W3 = .ok (.bool jump.isNone) (W3.putObj (D+1) (.loop (rec (if jump.isNone then .ready else .done) jump)))∧Bk (if jump.isNone then .ready else .done) jump (W3.putObj (D+1) (.loop (rec (if jump.isNone then .ready else .done) jump))):=by
   intro jump W3 hk3
   have h3:=keep hbusy hk3
   have:=run_endRound (P:=P) jump h3.1
   rw [show ({ rec .busy none with state:=if jump.isNone then .ready else .done,pending:=jump }:Loop)=rec (if jump.isNone then .ready else .done) jump by rw [hrec]] at this
   exact⟨this,turn _ _ h3⟩
  rintro e a3 W3 hp
  cases e with
  | normal =>
   obtain⟨hk3,hkp3,hi3⟩:=hp
   obtain⟨hr,hB⟩:=fin none W3 hk3
   exact⟨_,_,hr,.inl ⟨rfl,⟨hI _ _ _ _ hi3 (by omega) (by omega),hB⟩,hKt _ _ _ (hKt _ _ _ (hKb _ _ _ (by omega)) hkp3) (hKb _ _ _ (by omega))⟩⟩
  | ret =>
   obtain⟨hk3,hi3⟩:=hp
   obtain⟨hr,hB⟩:=fin (some .ret) W3 hk3
   exact⟨_,_,hr,.inr ⟨rfl,.ret,hIx _ _ _ _ _ hi3 (by omega) (by omega),hB⟩⟩
  | exit id =>
   obtain⟨hk3,hi3⟩:=hp
   obtain⟨hr,hB⟩:=fin (some (.exit id)) W3 hk3
   exact⟨_,_,hr,.inr ⟨rfl,.exit id,hIx _ _ _ _ _ hi3 (by omega) (by omega),hB⟩⟩
  | goto t =>
   obtain⟨hk3,hi3⟩:=hp
   obtain⟨hr,hB⟩:=fin (some (.goto t)) W3 hk3
   exact⟨_,_,hr,.inr ⟨rfl,.goto t,hIx _ _ _ _ _ hi3 (by omega) (by omega),hB⟩⟩
  | panic ch=>exact hp.elim
  | outgrown=>exact hp.elim
 ·-- behind the iterator
  rintro e W2 ⟨⟨v,rfl⟩,(⟨xs,hS,hi,hl,hk⟩ | ⟨pre,hSp,c,hi,hl,hk⟩)⟩
  ·exact⟨none,_,by have:=run_endLoop (P:=P) hl (by rw [hrec];simp);rw [hrec] at this;exact this,hdone xs _ hS (hI _ _ _ _ hi (by omega) (by omega)) ((World.putObj_heap_other (by omega)).trans hk)⟩
  ·exact⟨some c,_,by have:=run_endLoop (P:=P) hl (by rw [hrec];simp);rw [hrec] at this;exact this,hstop c pre _ hSp (hIx _ _ _ _ _ hi (by omega) (by omega)) ((World.putObj_heap_other (by omega)).trans hk)⟩
end Go.Proofs.YtnecjdhamohadaaGreatDoor
namespace Go.Proofs.YtnecjdhamohadaaGreatDoor

def splitL:List UInt8→List (List UInt8)
 | []=>[[]]
 | c :: l=>if c=47 then [] :: splitL l else (c :: (splitL l).headD []) :: (splitL l).tail
theorem splitL_ex (l:List UInt8):∃ p r,splitL l=p :: r:=by
 cases l with
 | nil=>exact⟨_,_,rfl⟩
 | cons c l =>
  unfold splitL
  split
  ·exact⟨_,_,rfl⟩
  ·exact⟨_,_,rfl⟩
theorem splitL_stroke (l:List UInt8):splitL (47 :: l)=[] :: splitL l:=by rw [splitL,if_pos rfl]
theorem splitL_other {c:UInt8} {l p:List UInt8} {r:List (List UInt8)} (hc:c≠47) (h:splitL l=p :: r):splitL (c :: l)=(c :: p) :: r:=by
 rw [splitL,if_neg hc,h];rfl
theorem splitL_append:∀ a b:List UInt8,splitL (a++47 :: b)=splitL a++splitL b
 | [],b=>by rw [List.nil_append,splitL_stroke];rfl
 | c :: a,b=>by
  have ih:=splitL_append a b
  by_cases hc:c=47
  ·subst hc
   rw [List.cons_append,splitL_stroke,splitL_stroke,ih];rfl
  ·obtain⟨p,r,h⟩:=splitL_ex a
   rw [h,List.cons_append] at ih
   rw [List.cons_append,splitL_other hc ih,splitL_other hc h];rfl
theorem splitL_pure:∀ {l:List UInt8},47 ∉ l→splitL l=[l]
 | [],_=>rfl
 | c :: l,h=>by
  have hc:c≠47:=fun e=>h (by simp [e])
  exact splitL_other hc (splitL_pure (fun e=>h (List.mem_cons_of_mem _ e)))
theorem last_stroke:∀ l:List UInt8,47 ∉ l∨∃ a b,l=a++47 :: b∧47 ∉ b
 | []=>.inl (by simp)
 | c :: l=>by
  rcases last_stroke l with h | ⟨a,b,rfl,hb⟩
  ·by_cases hc:c=47
   ·exact .inr ⟨[],l,by rw [hc];rfl,h⟩
   ·exact .inl (by simp [h];exact fun e=>hc e.symm)
  ·exact .inr ⟨c :: a,b,rfl,hb⟩
theorem splitL_last {a b:List UInt8} (hb:47 ∉ b):splitL (a++47 :: b)=splitL a++[b]:=by rw [splitL_append,splitL_pure hb]
theorem splitL_snoc_stroke (l:List UInt8):splitL (l++[47])=splitL l++[[]]:=by rw [splitL_append];rfl
theorem splitL_snoc (l:List UInt8) {c:UInt8} (hc:c≠47):∃ r p,splitL l=r++[p]∧splitL (l++[c])=r++[p++[c]]:=by
 rcases last_stroke l with h | ⟨a,b,rfl,hb⟩
 ·refine⟨[],l,by rw [splitL_pure h];rfl,?_⟩
  rw [splitL_pure (by simp [h];exact fun e=>hc e.symm)];rfl
 ·refine⟨splitL a,b,splitL_last hb,?_⟩
  rw [List.append_assoc,List.cons_append,splitL_last (by simp [hb];exact fun e=>hc e.symm)]
theorem splitL_length_le (l:List UInt8):(splitL l).length≤l.length+1:=by
 induction l with
 | nil=>simp [splitL]
 | cons c l ih =>
  obtain⟨p,r,h⟩:=splitL_ex l
  by_cases hc:c=47
  ·subst hc;rw [splitL_stroke];simp;omega
  ·rw [splitL_other hc h];rw [h] at ih;simp at ih ⊢;omega
theorem splitL_length_pos (l:List UInt8):1≤(splitL l).length:=by
 obtain⟨p,r,h⟩:=splitL_ex l
 rw [h];simp

def signB (c:UInt8):Bool:=(decide (97≤c.toNat) && decide (c.toNat≤122)) || (decide (65≤c.toNat) && decide (c.toNat≤90)) || (decide (48≤c.toNat) && decide (c.toNat≤57)) || decide (c.toNat=95) || decide (c.toNat=46) || decide (c.toNat=45) || decide (c.toNat=43)
def partB (p:List UInt8):Bool:=!p.isEmpty && decide (p.length≤64) && !(p == [46]) && !(p == [46,46]) && p.all signB
def mayB (l:List UInt8):Bool:=(splitL l).all partB && decide ((splitL l).length≤16)
end Go.Proofs.YtnecjdhamohadaaGreatDoor
