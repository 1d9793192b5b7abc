/- slices.Sort, Compact, DeleteFunc, ContainsFunc at texts, IndexFunc at settings: on what a tool has. -/
import Derived.Test.YtnecjdhamohadaaGreatDoorPMg
import Derived.Test.YtnecjdhamohadaaGreatDoorPMk
set_option linter.unusedSimpArgs false
set_option linter.unusedVariables false
namespace Go.Proofs.YtnecjdhamohadaaGreatDoor
open Go.RowKit Go.Sort Go.Lib Go.Shelf
set_option maxRecDepth 100000
theorem encStr_strB (l:List UInt8):encStr l = .string (strB l):=rfl
theorem strV_encG {l:List (List UInt8)} {j:Nat} {x:List UInt8} (h:l[j]?=some x):(strV l)[j]?=some (encStr x):=by rw [strV,List.getElem?_map,h];rfl
theorem toArrT_bang (ys:List (List UInt8)) {j:Nat} (hj:j < ys.length):ys.toArray[j]! = ys[j]:=by simp [getElem!_pos,hj]
theorem Own.holdsT {w:World} {base b o c:Nat} {t:TypeId} {ys:List (List UInt8)} (h:Own w base t 1 (some ⟨b,o,none⟩) ys.length c (strV ys)):Holds encStr w b o ys.toArray:=by
 intro j hj
 rw [List.size_toArray] at hj
 obtain⟨hl,hn,hm,hc⟩:=h
 rcases hc with ⟨e,_⟩ | ⟨b',o',cur,fr,e,hb,hg,hf,hs,hx⟩
 ·cases e
 cases e
 have hjx:=hx j (by omega)
 rw [strV_encG (List.getElem?_eq_getElem hj)] at hjx
 refine⟨?_,hf.cell hg (by have:=(Array.getElem?_eq_some_iff.1 hjx).1;exact this)⟩
 rw [toArrT_bang ys hj]
 simp [World.cell?,hg,hjx]
theorem heap_putRowT {w:World} {b o n:Nat} {os:Array Obj} {cur:Array Value} {e:TypeId} {fr:Nat × Nat} (d:Array (List UInt8)) (hb:w.heap[b]?=some (.cells cur e fr)) :
  (grow (putRow encStr (Sort.ahead w n) b o d) os).heap[b]?=some (.cells (putCells encStr o d cur) e fr):=by
 have hg:b < w.heap.size:=(Array.getElem?_eq_some_iff.1 hb).1
 rw [heap_grow_old _ _ (by simpa using hg)]
 simp [putRow,mapBlock,Sort.ahead,Array.getElem?_modify,hb,onCells]
theorem grownBy_putRowT {w:World} {b o n:Nat} {os:Array Obj} (d:Array (List UInt8)):w.grownBy (grow (putRow encStr (Sort.ahead w n) b o d) os) (some b):=by
 refine⟨rfl,rfl,rfl,by simp,fun k hk hne=>?_⟩
 rw [heap_grow_old _ _ (by simpa using hk)]
 have:b≠k:=fun e=>hne (by rw [e])
 simp [putRow,mapBlock,Sort.ahead,Array.getElem?_modify,this]
theorem Own.putRowT {w:World} {base b o c n k:Nat} {t:TypeId} {ys:List (List UInt8)} {zs:List (List UInt8)} {os:Array Obj} (h:Own w base t 1 (some ⟨b,o,none⟩) ys.length c (strV ys)) (hk:k≤zs.length) (hz:zs.length=ys.length) :
  Own (grow (Go.Sort.putRow encStr (Sort.ahead w n) b o zs.toArray) os) base t 1 (some ⟨b,o,none⟩) k c (strV (zs.take k)):=by
 obtain⟨hl,hn,hm,hc⟩:=h
 rcases hc with ⟨e,_⟩ | ⟨b',o',cur,fr,e,hb,hg,hf,hs,hx⟩
 ·cases e
 cases e
 refine⟨by rw [strV,List.length_map,List.length_take];omega,by omega,hm,.inr ⟨b,o,_,fr,rfl,hb,heap_putRowT _ hg,by simpa [putCells] using hf,by simpa [putCells] using hs,fun j hj=>?_⟩⟩
 rw [strV_encG (x:=zs[j]) (by rw [List.getElem?_take_of_lt (by omega),List.getElem?_eq_getElem (by omega)])]
 have hcu:o+j < cur.size:=by omega
 simp only [putCells,Array.getElem?_mapIdx,Array.getElem?_eq_getElem hcu,Option.map_some,List.size_toArray]
 rw [if_pos (by omega),show o+j - o=j by omega,toArrT_bang zs (by omega)]
theorem sortT_own (w:World) (base:Nat) (A:Option Addr) (c:Nat) (ys:List (List UInt8)) (h:Own w base 9 1 A ys.length c (strV ys)) (hl:ys.length≤1000000) :
  Calls Tryz.prog 72 #[.slice A ys.length c] w fun e w'=>e = .returned (.tuple #[])∧Own w' base 9 1 A ys.length c (strV (sortT ys))∧w.grownBy w' (blockOf A):=by
 rcases Nat.eq_zero_or_pos ys.length with h0 | h0
 ·obtain rfl:ys=[]:=List.eq_nil_of_length_eq_zero h0
  refine (AnyM.slices_Sort_string_none Tryz.keySort A c w).mono ?_
  rintro e w' ⟨rfl,rfl⟩
  refine⟨rfl,by simpa [sortT] using h,⟨rfl,rfl,rfl,Nat.le_refl _,fun _ _ _=>rfl⟩⟩
 ·obtain⟨b,o,cur,fr,rfl,hb,hg,_⟩:=h.at_ (by have:=h.2.1;omega)
  refine (AnyM.slices_Sort_string Tryz.keySort b o c ys w h.holdsT (heap_lt hg) (by omega)).mono ?_
  rintro e w' ⟨rfl,n,os,rfl⟩
  refine⟨rfl,?_,grownBy_putRowT _⟩
  have hp:=h.putRowT (n:=n) (os:=os) (zs:=sortT ys) (k:=ys.length) (by rw [sortT_length];omega) (sortT_length ys)
  rw [List.take_of_length_le (by rw [sortT_length];omega)] at hp
  exact hp
theorem compactT_own (w:World) (base:Nat) (A:Option Addr) (c:Nat) (ys:List (List UInt8)) (h:Own w base 9 1 A ys.length c (strV ys)) (hl:ys.length≤1000000) :
  Calls Tryz.prog 74 #[.slice A ys.length c] w fun e w'=>e = .returned (.slice A (compact ys).length c)∧Own w' base 9 1 A (compact ys).length c (strV (compact ys))∧w.grownBy w' (blockOf A):=by
 rcases Nat.eq_zero_or_pos ys.length with h0 | h0
 ·obtain rfl:ys=[]:=List.eq_nil_of_length_eq_zero h0
  refine (AnyG.slices_Compact_string_empty Tryz.keyCompact A c w).mono ?_
  rintro e w' ⟨rfl,rfl⟩
  refine⟨rfl,h,⟨rfl,rfl,rfl,Nat.le_refl _,fun _ _ _=>rfl⟩⟩
 ·obtain⟨b,o,cur,fr,rfl,hb,hg,_⟩:=h.at_ (by have:=h.2.1;omega)
  refine (AnyG.slices_Compact_string Tryz.keyCompact b o c ys w h.holdsT (by omega) h.2.1).mono ?_
  rintro e w' ⟨rfl,n,rfl⟩
  refine⟨rfl,?_,?_⟩
  ·have hc:=compactT_len ys
   have hp:=h.putRowT (n:=n) (os:=#[]) (zs:=compact ys++List.replicate (ys.length - (compact ys).length) []) (k:=(compact ys).length) (by simp) (by simp;omega)
   rw [List.take_left,grow_empty] at hp
   exact hp
  ·have:=grownBy_putRowT (w:=w) (b:=b) (o:=o) (n:=n) (os:=#[]) (compact ys++List.replicate (ys.length - (compact ys).length) []).toArray
   rw [grow_empty] at this
   exact this

abbrev BT:={ x:TT // x.length≤1000000 }
instance:Inhabited BT:=⟨⟨[],by simp⟩⟩
def encBT (x:BT):Value:=.string (strB x.1)
theorem asBT:∀ l:List TT,(∀ x∈l,x.length≤1000000)→∃ z:List BT,z.map (·.1)=l
 | [],_=>⟨[],rfl⟩
 | x :: l,h=>by
  obtain⟨z,hz⟩:=asBT l fun y hy=>h y (by simp [hy])
  exact⟨⟨x,h x (by simp)⟩ :: z,by simp [hz]⟩
structure Has (w:World) (g:Nat) (arg:TT):Prop where
 cell:w.cell? ⟨g,0,none⟩=some (.string (strB arg))
 lib:MaxL w
 len:arg.length≤1000000
theorem not_has_any (w:World) (g:Nat) (arg:TT) (h:Has w g arg) (x:TT) (hx:x.length≤1000000):Calls Tryz.prog 77 #[.string (strB x),.pointer (some ⟨g,0,none⟩)] w fun e w'=>e = .returned (.bool (!hasT x arg))∧w'=w:=by
 have cC:=scontains_any w x arg (by omega) h.lib
 have hc:=h.cell
 obtain⟨X,hX⟩:∃ X,X=strB x:=⟨_,rfl⟩
 obtain⟨Y,hY⟩:∃ Y,Y=strB arg:=⟨_,rfl⟩
 obtain⟨r,hr⟩:∃ r,r=hasT x arg:=⟨_,rfl⟩
 rw [← hX,← hY,← hr] at cC
 rw [← hY] at hc
 rw [← hX,← hr]
 clear hX hY hr h
 go_enter Tryz.func77,Tryz.ntmps77
 go_wp2_with (go_at_call 49; refine cC.mono ?_;rintro e w2 ⟨rfl,rfl⟩)
 go_ret
 exact⟨rfl,rfl⟩
theorem has_any (w:World) (g:Nat) (arg:TT) (h:Has w g arg) (x:TT) (hx:x.length≤1000000):Calls Tryz.prog 48 #[.string (strB x),.pointer (some ⟨g,0,none⟩)] w fun e w'=>e = .returned (.bool (hasT x arg))∧w'=w:=by
 have cC:=scontains_any w x arg (by omega) h.lib
 have hc:=h.cell
 obtain⟨X,hX⟩:∃ X,X=strB x:=⟨_,rfl⟩
 obtain⟨Y,hY⟩:∃ Y,Y=strB arg:=⟨_,rfl⟩
 obtain⟨r,hr⟩:∃ r,r=hasT x arg:=⟨_,rfl⟩
 rw [← hX,← hY,← hr] at cC
 rw [← hY] at hc
 rw [← hX,← hr]
 clear hX hY hr h
 go_enter Tryz.func48,Tryz.ntmps48
 go_wp2_with (go_at_call 49; refine cC.mono ?_;rintro e w2 ⟨rfl,rfl⟩)
 go_ret
 exact⟨rfl,rfl⟩
theorem Has.keep {w w':World} {g:Nat} {arg:TT} (h:Has w g arg) (hb:Below w.heap.size w w'):Has w' g arg:=⟨(hb.cell (p:=⟨g,0,none⟩) (World.block_lt_of_cell? _ _ h.cell)).trans h.cell,h.lib.on hb,h.len⟩
theorem Has.grown {w w':World} {g:Nat} {arg:TT} {r:Option Nat} (h:Has w g arg) (hg:w.grownBy w' r) (h1:some g≠r) (h2:some 0 ≠ r):Has w' g arg:=by
 have key:∀ k v,w.cell? ⟨k,0,none⟩=some v→some k≠r→w'.cell? ⟨k,0,none⟩=some v:=fun k v hc hn=>(World.cell?_of_block (hg.block k (World.block_lt_of_cell? _ _ hc) hn)).trans hc
 obtain⟨m,hm⟩:=h.lib
 exact⟨key _ _ h.cell h1,⟨m,key _ _ hm h2⟩,h.len⟩
theorem contains_any (w:World) (base:Nat) (A:Option Addr) (c:Nat) (ys:List TT) (h:Own w base 9 1 A ys.length c (strV ys)) (hl:ys.length≤1000000) (hall:∀ y∈ys,y.length≤1000000) (g:Nat) (arg:TT) (hg:Has w g arg) :
  Calls Tryz.prog 47 #[.slice A ys.length c,.func (.func 48) #[] #[.pointer (some ⟨g,0,none⟩)]] w fun e w'=>e = .returned (.bool (ys.any (hasT · arg)))∧Below w.heap.size w w':=by
 rcases Nat.eq_zero_or_pos ys.length with h0 | h0
 ·obtain rfl:ys=[]:=List.eq_nil_of_length_eq_zero h0
  refine (AnyE.slices_ContainsFunc_empty Tryz.tlHas A c _ w).mono ?_
  rintro e w' ⟨rfl,rfl⟩
  exact⟨rfl,Below.refl _ _⟩
 ·obtain⟨z,hz⟩:=asBT ys hall
  have hzl:z.length=ys.length:=by rw [← hz,List.length_map]
  have hH:=h.rd.2 h0
  obtain⟨b,o,rfl,hcell⟩:=hH
  have hp:PredAt Tryz.prog 48 #[.pointer (some ⟨g,0,none⟩)] encBT (fun x=>hasT x.1 arg) w:=fun W x hb=>by
   refine (has_any W g arg (hg.keep hb) x.1 x.2).mono ?_
   rintro e w' ⟨rfl,rfl⟩
   exact⟨rfl,0,rfl⟩
  refine (AnyE.slices_ContainsFunc Tryz.tlHas encBT (fun x=>hasT x.1 arg) 48 #[.pointer (some ⟨g,0,none⟩)] (enters_of Tryz.func48 (by kernel_rfl) rfl) b o ys.length c z w hp (by omega) (by omega) fun j hj=>?_).mono ?_
  ·rw [getElem!_pos z j hj]
   refine hcell j _ ?_
   rw [← hz,strV,List.map_map,List.getElem?_map,List.getElem?_eq_getElem hj]
   rfl
  ·rintro e w' ⟨rfl,n,rfl⟩
   rw [← hzl,List.take_length,← hz,List.any_map]
   exact⟨rfl,below_drewN (Below.refl _ _) n⟩
theorem zero_strT (w:World):(zeroValue 9).run Tryz.prog w = .ok (encBT default) w:=by rw [Tryz.zeroValue9];rfl
theorem Own.holdsB {w:World} {base b o c:Nat} {t:TypeId} {z:List BT} (h:Own w base t 1 (some ⟨b,o,none⟩) z.length c (strV (z.map (·.1)))):Holds encBT w b o z.toArray:=by
 have h2:=Own.holdsT (ys:=z.map (·.1)) (by rw [List.length_map];exact h)
 intro j hj
 have hj2:j < z.length:=by simpa using hj
 have:=h2 j (by simpa using hj2)
 refine⟨?_,this.2⟩
 rw [this.1]
 simp [getElem!_pos,hj2,encBT,encStr_strB]
theorem delete_any (w:World) (base:Nat) (A:Option Addr) (c:Nat) (ys:List TT) (h:Own w base 9 1 A ys.length c (strV ys)) (hl:ys.length≤1000000) (hall:∀ y∈ys,y.length≤1000000) (g:Nat) (arg:TT) (hg:Has w g arg) (h1:some g≠blockOf A) (h2:some 0 ≠ blockOf A) :
  Calls Tryz.prog 76 #[.slice A ys.length c,.func (.func 77) #[] #[.pointer (some ⟨g,0,none⟩)]] w fun e w'=>e = .returned (.slice A (ys.filter (hasT · arg)).length c)∧Own w' base 9 1 A (ys.filter (hasT · arg)).length c (strV (ys.filter (hasT · arg)))∧w.grownBy w' (blockOf A):=by
 rcases Nat.eq_zero_or_pos ys.length with h0 | h0
 ·obtain rfl:ys=[]:=List.eq_nil_of_length_eq_zero h0
  have cI:=fun (fv:Value)=>AnyE.slices_IndexFunc_empty { Tryz.tlDel with } A c fv w
  go_enter Tryz.func76,Tryz.ntmps76
  go_wp2_with (go_at_call 71; refine (cI _).mono ?_;rintro e w2 ⟨rfl,rfl⟩)
  go_ret
  exact⟨rfl,h,⟨rfl,rfl,rfl,Nat.le_refl _,fun _ _ _=>rfl⟩⟩
 ·obtain⟨z,hz⟩:=asBT ys hall
  have hzl:z.length=ys.length:=by rw [← hz,List.length_map]
  obtain⟨b,o,cur,fr,rfl,hb,hgr,_⟩:=h.at_ (by have:=h.2.1;omega)
  have hp:PredAt Tryz.prog 77 #[.pointer (some ⟨g,0,none⟩)] encBT (fun x=>!hasT x.1 arg) w:=fun W x hb=>by
   refine (not_has_any W g arg (hg.keep hb) x.1 x.2).mono ?_
   rintro e w' ⟨rfl,rfl⟩
   exact⟨rfl,0,rfl⟩
  have hgrow:∀ (n:Nat) (os:Array Obj) (dk:Array BT),w.grownBy (grow (putRow encBT (Sort.ahead w n) b o dk) os) (some b):=fun n os dk=>by
   refine⟨rfl,rfl,rfl,by simp,fun k hk hne=>?_⟩
   rw [heap_grow_old _ _ (by simpa using hk)]
   have:b≠k:=fun e=>hne (by rw [e])
   simp [putRow,mapBlock,Sort.ahead,Array.getElem?_modify,this]
  have hpo:PredOver Tryz.prog 77 #[.pointer (some ⟨g,0,none⟩)] encBT (fun x=>!hasT x.1 arg) b o z.toArray.size w:=fun n os dk x _=>by
   refine (not_has_any _ g arg (hg.grown (hgrow n os dk) h1 h2) x.1 x.2).mono ?_
   rintro e w' ⟨rfl,rfl⟩
   exact⟨rfl,0,rfl⟩
  have hH:Holds encBT w b o z.toArray:=Own.holdsB (base:=base) (c:=c) (t:=9) (by rw [hz,hzl];exact h)
  have hc:=AnyE.slices_DeleteFunc Tryz.tlDel encBT (fun x=>rfl) (fun x=>!hasT x.1 arg) 77 #[.pointer (some ⟨g,0,none⟩)] (enters_of Tryz.func77 (by kernel_rfl) rfl) default zero_strT b o c z.toArray w hp hpo hH (by simp;omega) (by have:=h.2.1;simp;omega)
  rw [List.size_toArray,hzl] at hc
  refine hc.mono ?_
  have hfe:(z.filter fun x=>!!hasT x.1 arg)=z.filter fun x=>hasT x.1 arg:=by congr 1;funext x;rw [Bool.not_not]
  have hfm:(z.filter fun x=>hasT x.1 arg).map (·.1)=ys.filter (hasT · arg):=by rw [← hz,List.filter_map];rfl
  have hfl:(z.filter fun x=>hasT x.1 arg).length=(ys.filter (hasT · arg)).length:=by rw [← hfm,List.length_map]
  have hle:(ys.filter (hasT · arg)).length≤ys.length:=List.length_filter_le _ _
  rintro e w' ⟨rfl,q,rfl⟩
  rw [show z.toArray.toList=z from rfl,hfe,hfl]
  refine⟨rfl,?_,?_⟩
  ·have hput:=h.putRowT (n:=q) (os:=#[]) (zs:=ys.filter (hasT · arg)++List.replicate (ys.length - (ys.filter (hasT · arg)).length) []) (k:=(ys.filter (hasT · arg)).length) (by simp) (by simp;omega)
   rw [List.take_left,grow_empty] at hput
   have he:putRow encBT (Sort.ahead w q) b o ((z.filter fun (x:BT)=>hasT x.1 arg)++List.replicate (ys.length - (ys.filter (hasT · arg)).length) default).toArray=putRow encStr (Sort.ahead w q) b o (ys.filter (hasT · arg)++List.replicate (ys.length - (ys.filter (hasT · arg)).length) []).toArray:=by
    have hmm:((z.filter fun x=>hasT x.1 arg)++List.replicate (ys.length - (ys.filter (hasT · arg)).length) (default:BT)).map (·.1)=ys.filter (hasT · arg)++List.replicate (ys.length - (ys.filter (hasT · arg)).length) []:=by
     rw [List.map_append,hfm,List.map_replicate]
     rfl
    rw [← hmm]
    generalize ((z.filter fun x=>hasT x.1 arg)++List.replicate (ys.length - (ys.filter (hasT · arg)).length) (default:BT))=Z
    unfold putRow
    congr 1
    funext cs
    unfold putCells
    apply Array.ext
    ·simp
    ·intro i h1 h2
     simp only [Array.getElem_mapIdx,List.size_toArray,List.length_map]
     split
     ·rename_i hi
      rw [toArrT_bang _ (by rw [List.length_map];omega)]
      simp [getElem!_pos,show i - o < Z.length by omega,encBT,encStr_strB]
     ·rfl
   rw [he]
   exact hput
  ·have:=hgrow q #[] ((z.filter fun (x:BT)=>hasT x.1 arg)++List.replicate (ys.length - (ys.filter (hasT · arg)).length) default).toArray
   rw [grow_empty] at this
   exact this
end Go.Proofs.YtnecjdhamohadaaGreatDoor
namespace Go.Proofs.YtnecjdhamohadaaGreatDoor
open Go.RowKit Go.Maps Go.Shelf
set_option maxRecDepth 100000
theorem heap_setCell_congr {a b:World} (p:Addr) (u:Value) {k:Nat} (h:b.heap[k]?=a.heap[k]?):(b.setCell p u).heap[k]?=(a.setCell p u).heap[k]?:=by
 by_cases hk:k=p.block
 ·subst hk
  simp only [World.setCell,Array.getElem?_modify,h]
 ·rw [Below.heap_setCell _ _ _ k hk,Below.heap_setCell _ _ _ k hk,h]
theorem below_both {B:Nat} {a b:World} (h:Below B a b) (p:Addr) (u:Value):Below B (a.setCell p u) (b.setCell p u) :=
 ⟨h.os,h.tape,h.output,by simpa [World.setCell] using h.size,fun k hk=>heap_setCell_congr p u (h.block k hk)⟩
theorem BldAt.setCell {w:World} {base g:Nat} {l:List UInt8} (h:BldAt w base g l) {b:Nat} {cs:Array Value} {fr:Nat × Nat} (hb:w.heap[b]?=some (.cells cs 63 fr)) (o:Nat) (u:Value):BldAt (w.setCell ⟨b,o,none⟩ u) base g l:=by
 obtain⟨hbg,p,A,c,hg,hp,hown⟩:=h
 refine⟨hbg,p,A,c,(Below.heap_setCell _ _ _ g ?_).trans hg,hp,hown.setOther (p:=⟨b,o,none⟩) (hown.ne hb (by decide)) u⟩
 rintro rfl
 rw [hg] at hb
 injection hb with hb
 injection hb with _ hb
 cases hb
theorem BldNew.setCell {w:World} {g:Nat} (h:BldNew w g) {b:Nat} {cs:Array Value} {fr:Nat × Nat} (hb:w.heap[b]?=some (.cells cs 63 fr)) (o:Nat) (u:Value):BldNew (w.setCell ⟨b,o,none⟩ u) g:=by
 unfold BldNew at *
 refine (Below.heap_setCell _ _ _ g ?_).trans h
 rintro rfl
 rw [h] at hb
 injection hb with hb
 injection hb with _ hb
 cases hb
theorem wholeT_snoc (l:List TT) (x:TT):wholeT (l++[x])=wholeT l++(x++[10]):=by simp [wholeT]
theorem wholeT_append (l k:List TT):wholeT (l++k)=wholeT l++wholeT k:=by simp [wholeT]
set_option maxHeartbeats 4000000 in
theorem setlines_any (w:World) (L:RLay) (v:Env) (q:Option Nat) (s:PS) (h:RunIs w L v q s) (A:Option Addr) (c:Nat) (l:List TT) (hr:Rd w 1 A l.length (strV l)) (hl:l.length≤1000000) (hw:(wholeT l).length≤1000000) :
  Calls Tryz.prog 73 #[ptrV L.R,.slice A l.length c] w (VPost w L v q (s.setLines l)):=by
 have hB:=h.size
 obtain⟨R,hR⟩:∃ R,R=L.R:=⟨_,rfl⟩
 obtain⟨n,hn⟩:∃ n,n=l.length:=⟨_,rfl⟩
 obtain⟨Pq,hPq⟩:∃ Pq:Ending→World→Prop,Pq=VPost w L v q (s.setLines l):=⟨_,rfl⟩
 rw [ptrV,← hR,← hn,← hPq]
 rw [← hn] at hr hl
 obtain⟨Ar,cr,us,hrun⟩:=h
 have hRlt:R < w.heap.size:=by rw [hR];exact hrun.run.lt
 have hc2:w.cell? ⟨R,2,none⟩=some (.string (strB s.buf)):=by rw [hR];exact (hrun.cell 2).1
 have hf2:w.frozen? ⟨R,2,none⟩=false:=by rw [hR];exact (hrun.cell 2).2
 have h1:=hrun.one (s':={ s with buf:=[] }) (i:=2) (u:=.string ⟨#[]⟩) rfl rfl rfl rfl
 rw [← hR] at h1
 have hrr:∃ cs,w.heap[R]?=some (.cells cs 63 (0,0)):=⟨_,by rw [hR];exact hrun.run⟩
 have hA:=fun (W:World) (hW:Below w.heap.size (w.setCell ⟨R,2,none⟩ (.string ⟨#[]⟩)) W)=>show Calls Tryz.prog 41 #[.pointer (some ⟨R,0,none⟩),.string (strB (wholeT l))] W fun e w2=>e = .returned (.tuple #[])∧Pq (.returned (.tuple #[])) w2 from by
  have hb':Below (w.setCell ⟨R,2,none⟩ (.string ⟨#[]⟩)).heap.size (w.setCell ⟨R,2,none⟩ (.string ⟨#[]⟩)) W:=by rw [World.size_setCell];exact hW
  have h2:=add_any W L v q { s with buf:=[] } ⟨_,_,_,h1.1.below hb'⟩ (by simp) (wholeT l) (by omega)
  rw [ptrV,← hR] at h2
  refine h2.mono fun e w2 k=>⟨k.1,?_⟩
  rw [hPq]
  exact⟨rfl,k.2.1,(h1.2.trans (TBut.of_below hb' (by rw [World.size_setCell];exact hB))).trans k.2.2⟩
 have HA:=hid2 hA
 have HRR:=hid2 hrr
 have HRD:=hid2 hr
 have HN:=hid2 hn
 have HW:=hid2 hw
 have HC2:=hid2 hc2
 have HF2:=hid2 hf2
 obtain⟨w0,hw0⟩:∃ w0,w0=w.alloc (.cells #[.pointer none,.slice none 0 0] 125):=⟨_,rfl⟩
 have hB0:Below w.heap.size w w0:=by rw [hw0];exact (Below.refl _ w).alloc (Nat.le_refl _) _
 have hN0:BldNew w0 w.heap.size:=by rw [hw0];exact heap_alloc_new w _
 have hlim:(n:Int)≤1000000:=by omega
 clear hR hPq hrun hc2 hf2 h1 hA hrr hr hn hw
 go_enter Tryz.func73,Tryz.ntmps73
 go_wp2
 rw [← hw0]
 clear hw0
 go_loopw [9] (fun i wr=>∃ k:Nat,k≤n∧i = .int .i64 k∧BldAt wr w.heap.size w.heap.size (wholeT (l.take k))∧Below w.heap.size w wr∧(k=0→BldNew wr w.heap.size)) (fun i _=>n - (intOf i).toNat)
 case atStart=>exact⟨0,by omega,rfl,hN0.at_ (Nat.le_refl _),hB0,fun _=>hN0⟩
 case round =>
  clear hB0 hN0
  obtain⟨k,hk,rfl,hB,hbe,hz⟩:=hrel
  by_cases hlt:k < n
  ·have hkl:(k:Int) < n:=by omega
   obtain⟨x,hx⟩:∃ x,l[k]?=some x:=⟨_,List.getElem?_eq_getElem (by rw [← HN.out];exact hlt)⟩
   have htk:l.take (k+1)=l.take k++[x]:=by rw [List.take_add_one,hx];rfl
   obtain⟨b,o,rfl,hcell⟩:=(HRD.out.below_all hbe).2 (by omega)
   have hcx:wr.cell? ⟨b,o+k,none⟩=some (.string (strB x)):=hcell k _ (by rw [strV,List.getElem?_map,hx];rfl)
   have hrow:wholeT (l.take (k+1))=wholeT (l.take k)++(x++[10]):=by rw [htk,wholeT_snoc]
   have hle:(wholeT (l.take (k+1))).length≤1000000:=by
    have h:=congrArg (fun z=>(wholeT z).length) (List.take_append_drop (k+1) l)
    simp only [wholeT_append,List.length_append] at h
    have:=HW.out
    omega
   rw [hrow] at hle
   simp only [List.length_append,List.length_cons,List.length_nil] at hle
   have hcat:strB x++⟨#[10]⟩=strB (x++[10]):=strB_append x [10]
   obtain⟨X,hX⟩:∃ X,X=strB x:=⟨_,rfl⟩
   obtain⟨Y,hY⟩:∃ Y,Y=strB (x++[10]):=⟨_,rfl⟩
   have hXs:X.size=x.length:=by rw [hX,strB_size]
   have hYs:Y.size=x.length+1:=by rw [hY,strB_size];simp
   have hYd:Y.data.toList=x++[10]:=by rw [hY];simp [strB]
   rw [← hX] at hcx hcat
   rw [← hY] at hcat
   obtain⟨Wl,hWl⟩:∃ Wl,Wl=wholeT (l.take k):=⟨_,rfl⟩
   rw [← hWl] at hB hle hrow
   have hsz1:¬ (X.size+1 > 9223372036854775807):=by omega
   have HYD:=hid2 hYd
   have HROW:=hid2 hrow
   have HBE:=hid2 hbe
   have hsz:=hbe.size
   have hYl:Wl.length+Y.size≤100000000:=by omega
   clear hz hx htk hcell hle hX hY hXs hYs hYd hrow hWl hbe
   go_wp2_with (go_at_call 95; refine (writeString_any wr w.heap.size w.heap.size Wl hB Y hYl hsz).mono ?_;rintro e w2 ⟨rfl,hB2,hb2⟩;rw [HYD.out,← HROW.out] at hB2;clear hB)
   go_roundw
   case rel=>exact⟨k+1,by omega,by go_num,hB2,HBE.out.trans (hb2.mono (Nat.le_refl _)),fun e=>by omega⟩
   case measure=>simp [intOf];omega
  ·have hkn:k=n:=by omega
   have hkl:¬ (k:Int) < n:=by omega
   have hc2:=(hbe.cell (p:=⟨R,2,none⟩) hRlt).trans HC2.out
   obtain⟨cs,hcs⟩:=HRR.out
   have hrr2:=(hbe.block R hRlt).trans hcs
   have hf2:=frozen_of_row wr R 2 _ _ hrr2
   have hall:l.take k=l:=by rw [hkn,HN.out,List.take_length]
   rw [hall] at hB
   have hbb:=below_both hbe ⟨R,2,none⟩ (.string ⟨#[]⟩)
   have hBB:=hB.setCell hrr2 2 (.string ⟨#[]⟩)
   have hNN:l=[]→BldNew (wr.setCell ⟨R,2,none⟩ (.string ⟨#[]⟩)) w.heap.size:=fun e=>(hz (by rw [hkn,HN.out,e];rfl)).setCell hrr2 2 _
   obtain⟨W6,hW6⟩:∃ W6,W6=wr.setCell ⟨R,2,none⟩ (.string ⟨#[]⟩):=⟨_,rfl⟩
   rw [← hW6] at hbb hBB hNN
   have HW6:=hid2 hW6
   clear hW6
   have hs2:=hB
   by_cases h0:l=[]
   ·have hnew:=hNN h0
    have hw0:strB (wholeT l)=⟨#[]⟩:=by rw [h0];rfl
    rw [hw0] at HA
    have HBB:=hid2 hbb
    clear hkn hall hB hBB hNN hz hbe hs2 h0 hw0
    go_wp2_with (first
     | (go_at_call 96; rw [← HW6.out];refine (bstring_new W6 w.heap.size w.heap.size hnew).mono ?_;rintro e w7 ⟨rfl,hb7⟩)
     | (go_at_call 41; refine (HA.out w7 (HBB.out.trans hb7)).mono ?_;rintro e w8 ⟨rfl,hp⟩;have HP:=hid2 hp;clear hp))
    refine bodyPost_ret (results_none rfl _ _ _) rfl ?_
    exact HP.out
   ·have hne:wholeT l≠[]:=by
     cases l with
     | nil=>exact absurd rfl h0
     | cons a r=>simp [wholeT]
    have hstr:(⟨(wholeT l).toArray⟩:ByteArray)=strB (wholeT l):=rfl
    have HBB:=hid2 hbb
    have HST:=hid2 hstr
    have HB2:=hid2 hBB
    have HNE:=hid2 hne
    obtain⟨Z,hZ⟩:∃ Z,Z=strB (wholeT l):=⟨_,rfl⟩
    rw [← hZ] at HA HST
    clear hkn hall hB hBB hNN hz hbe hs2 h0 hne hstr hbb hZ
    go_wp2_with (first
     | (go_at_call 96; rw [← HW6.out];refine (bstring_any W6 w.heap.size w.heap.size (wholeT l) HB2.out HNE.out).mono ?_;rw [HST.out];rintro e w7 ⟨rfl,hb7⟩)
     | (go_at_call 41; refine (HA.out w7 (HBB.out.trans hb7)).mono ?_;rintro e w8 ⟨rfl,hp⟩;have HP:=hid2 hp;clear hp))
    refine bodyPost_ret (results_none rfl _ _ _) rfl ?_
    exact HP.out
end Go.Proofs.YtnecjdhamohadaaGreatDoor
namespace Go.Proofs.YtnecjdhamohadaaGreatDoor
open Go.RowKit Go.Maps Go.Shelf
set_option maxRecDepth 100000
theorem wholeT_len:∀ l:List TT,(wholeT l).length=(l.map fun x=>x.length+1).sum
 | []=>rfl
 | x :: l=>by
  have:=wholeT_len l
  unfold wholeT at *
  simp [this]
  omega
theorem sum_sub {l k:List TT} (h:l.Sublist k):(l.map fun x=>x.length+1).sum≤(k.map fun x=>x.length+1).sum:=by
 induction h with
 | slnil=>exact Nat.le_refl _
 | cons a _ ih=>simp only [List.map_cons,List.sum_cons];omega
 | cons_cons a _ ih=>simp only [List.map_cons,List.sum_cons];omega
theorem wholeT_sub {l k:List TT} (h:l.Sublist k):(wholeT l).length≤(wholeT k).length:=by
 rw [wholeT_len,wholeT_len]
 exact sum_sub h
theorem compact_sub (l:List TT):(Lib.compact l).Sublist l:=by
 have hl:l=(List.range l.length).map (l.toArray[·]!):=by
  apply List.ext_getElem
  ·simp
  ·intro i h1 h2
   simp [h1]
 unfold Lib.compact Lib.compactUpTo
 conv=>rhs;rw [hl]
 exact List.Sublist.map _ List.filter_sublist
theorem wholeT_sort (l:List TT):(wholeT (sortT l)).length=(wholeT l).length:=by
 rw [wholeT_len,wholeT_len]
 exact ((List.mergeSort_perm l _).map _).sum_nat
theorem wholeT_segs (p:UInt8→Bool):∀ s:TT,(wholeT (segs p s)).length=s.length+1
 | []=>rfl
 | c :: s=>by
  obtain⟨x,r,h1,h2⟩:=segs_cons p c s
  have ih:=wholeT_segs p s
  rw [h1,wholeT_len] at ih
  rw [h2,wholeT_len]
  simp only [List.map_cons,List.sum_cons] at ih
  split <;> simp only [List.map_cons,List.sum_cons,List.length_cons,List.length_nil] <;> omega
theorem wholeT_lines (s:TT):(wholeT (linesT s)).length≤s.length+1:=by
 rw [linesT]
 split
 ·simp [wholeT]
 ·split
  ·rw [wholeT_segs,List.length_dropLast]
   omega
  ·rw [wholeT_segs]
   omega
theorem itoa_fit (w:World) (n:Nat) (hn:n≤1000000000) {B:Nat} (hB:B≤w.heap.size) (hT:Lib.TabBelow Tryz.prog B w "internal/strconv.uint64pow10" .u64 Lib.pow10Tab) :
  Calls Tryz.prog 75 #[.int .i64 n] w fun e w'=>e = .returned (.string (strB (Lib.decDigits n)))∧Below w.heap.size w w':=by
 have hT2:Lib.TabBelow Tryz.prog w.heap.size w "internal/strconv.uint64pow10" .u64 Lib.pow10Tab:=fun w' hb=>hT w' (hb.mono hB)
 refine (Any.strconv_Itoa Tryz.keyItoa n (by omega) (by omega) w hT2.here).mono ?_
 rintro e w' ⟨rfl,k,os,rfl⟩
 exact⟨by rw [Lib.itoa_nonneg];rfl,Lib.below_grow _ _ (Nat.le_refl _) _ _⟩
structure TurnAt (w0 w:World) (L:RLay) (v:Env) (q:Option Nat) (s:PS) (A:Option Addr) (c:Nat) (l:List TT):Prop where
 run:RunIs w0 L v q s
 fit:Fit w0 L s
 below:Below w0.heap.size w0 w
 own:Own w w0.heap.size 9 1 A l.length c (strV l)
 len:l.length≤1000000
 all:∀ x∈l,x.length≤1000000
 whole:(wholeT l).length≤1000000
theorem TurnAt.lines {w0 w:World} {L:RLay} {v:Env} {q:Option Nat} {s:PS} {A:Option Addr} {c:Nat} {l:List TT} (h:TurnAt w0 w L v q s A c l) {w':World} (hb:Below w0.heap.size w0 w') {A':Option Addr} {c':Nat} {k:List TT} {b:Nat} (ho:Own w' b 9 1 A' k.length c' (strV k)) (hk:k.length≤1000000) (hw:(wholeT k).length≤1000000) {R:Nat} (hR:R=L.R) {Pq:Ending→World→Prop} (hP:Pq=VPost w0 L v q (s.setLines k)) :
  Calls Tryz.prog 73 #[.pointer (some ⟨R,0,none⟩),.slice A' k.length c'] w' fun e w2=>e = .returned (.tuple #[])∧Pq (.returned (.tuple #[])) w2:=by
 have h1:=setlines_any w' L v q s (h.run.below hb) A' c' k ho.rd hk hw
 rw [ptrV,← hR] at h1
 refine h1.mono fun e w2 x=>⟨x.1,?_⟩
 rw [hP]
 have:=x.since hb h.run.size
 rw [x.1] at this
 exact this
theorem TurnAt.grown {w0 w:World} {L:RLay} {v:Env} {q:Option Nat} {s:PS} {A:Option Addr} {c:Nat} {l:List TT} (h:TurnAt w0 w L v q s A c l) {w1 w':World} (hb:Below w.heap.size w w1) (hg:w1.grownBy w' (blockOf A)):Below w0.heap.size w0 w':=by
 have h1:Below w0.heap.size w0 w1:=h.below.trans (hb.mono h.below.size)
 exact h1.grown hg h1.size fun k e=>(h.own.block k e).1
set_option maxHeartbeats 4000000 in
theorem turn_sort (w0 w:World) (L:RLay) (v:Env) (q:Option Nat) (s:PS) (A:Option Addr) (c:Nat) (l:List TT) (h:TurnAt w0 w L v q s A c l) (arg:TT) :
  Calls Tryz.prog 50 #[ptrV L.R,.string (strB kSort),.string (strB arg),.slice A l.length c] w (VPost w0 L v q (s.setLines (sortT l))):=by
 obtain⟨R,hR⟩:∃ R,R=L.R:=⟨_,rfl⟩
 obtain⟨Y,hY⟩:∃ Y,Y=strB arg:=⟨_,rfl⟩
 obtain⟨N,hN⟩:∃ N,N=strB kSort:=⟨_,rfl⟩
 obtain⟨n,hn⟩:∃ n,n=l.length:=⟨_,rfl⟩
 obtain⟨Pq,hPq⟩:∃ Pq:Ending→World→Prop,Pq=VPost w0 L v q (s.setLines (sortT l)):=⟨_,rfl⟩
 have htn:N.toList=kSort:=by rw [hN];exact toList_strBT _
 have tkSort:(N.toList == [115,111,114,116])=true:=by rw [htn,beq_iff_eq]
 have ukSort:N.toList=[115,111,114,116]:=htn
 have cS:=fun (W:World) (hb:Below w.heap.size w W)=>sortT_own W w0.heap.size A c l (h.own.below hb (Nat.le_refl _)) h.len
 have cL:=fun (W W':World) (hb:Below w.heap.size w W) (hg:W.grownBy W' (blockOf A)) (ho:Own W' w0.heap.size 9 1 A l.length c (strV (sortT l)))=>h.lines (h.grown hb hg) (k:=sortT l) (A':=A) (c':=c) (b:=w0.heap.size) (by rw [sortT_length];exact ho) (by rw [sortT_length];exact h.len) (by rw [wholeT_sort];exact h.whole) hR hPq
 rw [sortT_length] at cL
 rw [ptrV,← hR,← hY,← hN,← hPq,← hn]
 rw [← hn] at cS cL
 have CS:=hid2 cS
 have CL:=hid2 cL
 clear cS cL h hR hY hN hn hPq htn
 go_enter Tryz.func50,Tryz.ntmps50
 go_wp2_with (first
  | (go_at_call 72; refine (CS.out _ ((Below.refl _ _).alloc (Nat.le_refl _) _)).mono ?_;rintro e w2 ⟨rfl,ho,hg⟩;have HO:=hid2 ho;have HG:=hid2 hg;clear ho hg)
  | (go_at_call 73; refine (CL.out _ w2 ((Below.refl _ _).alloc (Nat.le_refl _) _) HG.out HO.out).mono ?_;rintro e w3 ⟨rfl,hp⟩;have HP:=hid2 hp;clear hp))
 refine bodyPost_ret (results_none rfl _ _ _) rfl ?_
 exact HP.out
set_option maxHeartbeats 4000000 in
theorem turn_uniq (w0 w:World) (L:RLay) (v:Env) (q:Option Nat) (s:PS) (A:Option Addr) (c:Nat) (l:List TT) (h:TurnAt w0 w L v q s A c l) (arg:TT) :
  Calls Tryz.prog 50 #[ptrV L.R,.string (strB kUniq),.string (strB arg),.slice A l.length c] w (VPost w0 L v q (s.setLines (uniqT l))):=by
 obtain⟨R,hR⟩:∃ R,R=L.R:=⟨_,rfl⟩
 obtain⟨Y,hY⟩:∃ Y,Y=strB arg:=⟨_,rfl⟩
 obtain⟨N,hN⟩:∃ N,N=strB kUniq:=⟨_,rfl⟩
 obtain⟨n,hn⟩:∃ n,n=l.length:=⟨_,rfl⟩
 obtain⟨Pq,hPq⟩:∃ Pq:Ending→World→Prop,Pq=VPost w0 L v q (s.setLines (uniqT l)):=⟨_,rfl⟩
 have htn:N.toList=kUniq:=by rw [hN];exact toList_strBT _
 have tkSort:(N.toList == [115,111,114,116])=false:=by rw [htn];decide
 have ukSort:¬ N.toList=[115,111,114,116]:=by rw [htn];decide
 have tkUniq:(N.toList == [117,110,105,113])=true:=by rw [htn,beq_iff_eq]
 have ukUniq:N.toList=[117,110,105,113]:=htn
 have cS:=fun (W:World) (hb:Below w.heap.size w W)=>compactT_own W w0.heap.size A c l (h.own.below hb (Nat.le_refl _)) h.len
 have cL:=fun (W W':World) (hb:Below w.heap.size w W) (hg:W.grownBy W' (blockOf A)) (ho:Own W' w0.heap.size 9 1 A (Lib.compact l).length c (strV (Lib.compact l)))=>h.lines (h.grown hb hg) (k:=uniqT l) (A':=A) (c':=c) (b:=w0.heap.size) ho (by have:=(compact_sub l).length_le;have:=h.len;unfold uniqT;omega) (by have:=wholeT_sub (compact_sub l);have:=h.whole;unfold uniqT;omega) hR hPq
 unfold uniqT at cL
 obtain⟨m,hm⟩:∃ m,m=(Lib.compact l).length:=⟨_,rfl⟩
 rw [ptrV,← hR,← hY,← hN,← hPq,← hn]
 rw [← hn,← hm] at cS
 rw [← hm] at cL
 have CS:=hid2 cS
 have CL:=hid2 cL
 clear cS cL h hR hY hN hn hPq htn hm
 go_enter Tryz.func50,Tryz.ntmps50
 go_wp2_with (first
  | (go_at_call 74; refine (CS.out _ ((Below.refl _ _).alloc (Nat.le_refl _) _)).mono ?_;rintro e w2 ⟨rfl,ho,hg⟩;have HO:=hid2 ho;have HG:=hid2 hg;clear ho hg)
  | (go_at_call 73; refine (CL.out _ w2 ((Below.refl _ _).alloc (Nat.le_refl _) _) HG.out HO.out).mono ?_;rintro e w3 ⟨rfl,hp⟩;have HP:=hid2 hp;clear hp))
 refine bodyPost_ret (results_none rfl _ _ _) rfl ?_
 exact HP.out
set_option maxHeartbeats 4000000 in
theorem turn_keep (w0 w:World) (L:RLay) (v:Env) (q:Option Nat) (s:PS) (A:Option Addr) (c:Nat) (l:List TT) (h:TurnAt w0 w L v q s A c l) (arg:TT) (ha:arg.length≤1000000) :
  Calls Tryz.prog 50 #[ptrV L.R,.string (strB kKeep),.string (strB arg),.slice A l.length c] w (VPost w0 L v q (s.setLines (l.filter (hasT · arg)))):=by
 obtain⟨R,hR⟩:∃ R,R=L.R:=⟨_,rfl⟩
 obtain⟨Y,hY⟩:∃ Y,Y=strB arg:=⟨_,rfl⟩
 obtain⟨N,hN⟩:∃ N,N=strB kKeep:=⟨_,rfl⟩
 obtain⟨n,hn⟩:∃ n,n=l.length:=⟨_,rfl⟩
 obtain⟨Pq,hPq⟩:∃ Pq:Ending→World→Prop,Pq=VPost w0 L v q (s.setLines (l.filter (hasT · arg))):=⟨_,rfl⟩
 have htn:N.toList=kKeep:=by rw [hN];exact toList_strBT _
 have tkSort:(N.toList == [115,111,114,116])=false:=by rw [htn];decide
 have ukSort:¬ N.toList=[115,111,114,116]:=by rw [htn];decide
 have tkUniq:(N.toList == [117,110,105,113])=false:=by rw [htn];decide
 have ukUniq:¬ N.toList=[117,110,105,113]:=by rw [htn];decide
 have tkUpper:(N.toList == [117,112,112,101,114])=false:=by rw [htn];decide
 have ukUpper:¬ N.toList=[117,112,112,101,114]:=by rw [htn];decide
 have tkCount:(N.toList == [99,111,117,110,116])=false:=by rw [htn];decide
 have ukCount:¬ N.toList=[99,111,117,110,116]:=by rw [htn];decide
 have tkKeep:(N.toList == [107,101,101,112])=true:=by rw [htn,beq_iff_eq]
 have ukKeep:N.toList=[107,101,101,112]:=htn
 have hgl:=h.fit.glob
 have hfb:=h.fit.base
 have hne:∀ k,k < w0.heap.size→some k≠blockOf A:=fun k hk e=>by have:=(h.own.block k e.symm).1;omega
 have hwlt:w0.heap.size≤w.heap.size:=h.below.size
 have hneg:some w.heap.size≠blockOf A:=fun e=>by have:=(h.own.block _ e.symm).2.1;omega
 have cS:=fun (W:World) (hb:Below w.heap.size w W) (hc:W.cell? ⟨w.heap.size,0,none⟩=some (.string (strB arg)))=>delete_any W w0.heap.size A c l (h.own.below hb (Nat.le_refl _)) h.len h.all w.heap.size arg ⟨hc,(h.fit.lib.on h.below).on hb,ha⟩ hneg (hne _ (by omega))
 have cL:=fun (W W':World) (hb:Below w.heap.size w W) (hg:W.grownBy W' (blockOf A)) (ho:Own W' w0.heap.size 9 1 A (l.filter (hasT · arg)).length c (strV (l.filter (hasT · arg))))=>h.lines (h.grown hb hg) (k:=l.filter (hasT · arg)) (A':=A) (c':=c) (b:=w0.heap.size) ho (by have:=List.length_filter_le (hasT · arg) l;have:=h.len;omega) (by have:=wholeT_sub (List.filter_sublist (l:=l) (p:=(hasT · arg)));have:=h.whole;omega) hR hPq
 obtain⟨m,hm⟩:∃ m,m=(l.filter (hasT · arg)).length:=⟨_,rfl⟩
 rw [ptrV,← hR,← hY,← hN,← hPq,← hn]
 rw [← hn,← hm] at cS
 rw [← hm] at cL
 rw [← hY] at cS
 have hcell:(w.alloc (.cells #[.string Y] 9)).cell? ⟨w.heap.size,0,none⟩=some (.string Y):=cell_of_row _ _ 0 _ _ _ (World.alloc_heap_new w _)
 have HCE:=hid2 hcell
 have CS:=hid2 cS
 have CL:=hid2 cL
 clear cS cL h hR hY hN hn hPq htn hm hcell hne hneg hgl hfb hwlt ha
 go_enter Tryz.func50,Tryz.ntmps50
 go_wp2_with (first
  | (go_at_call 76; refine (CS.out _ ((Below.refl _ _).alloc (Nat.le_refl _) _) HCE.out).mono ?_;rintro e w2 ⟨rfl,ho,hg⟩;have HO:=hid2 ho;have HG:=hid2 hg;clear ho hg)
  | (go_at_call 73; refine (CL.out _ w2 ((Below.refl _ _).alloc (Nat.le_refl _) _) HG.out HO.out).mono ?_;rintro e w3 ⟨rfl,hp⟩;have HP:=hid2 hp;clear hp))
 refine bodyPost_ret (results_none rfl _ _ _) rfl ?_
 exact HP.out
end Go.Proofs.YtnecjdhamohadaaGreatDoor
namespace Go.Proofs.YtnecjdhamohadaaGreatDoor
open Go.RowKit Go.Maps Go.Shelf
set_option maxRecDepth 100000
theorem TurnAt.store {w0 w:World} {L:RLay} {v:Env} {q:Option Nat} {s:PS} {A:Option Addr} {c:Nat} {l:List TT} (h:TurnAt w0 w L v q s A c l) {W:World} (hb:Below w.heap.size w W) (z:TT):VPost w0 L v q { s with buf:=z } (.returned (.tuple #[])) (W.setCell ⟨L.R,2,none⟩ (.string (strB z))):=by
 have hb0:Below w0.heap.size w0 W:=h.below.trans (hb.mono h.below.size)
 obtain⟨Ar,cr,us,hr⟩:=h.run
 have h1:=(hr.below hb0).one (s':={ s with buf:=z }) (i:=2) (u:=.string (strB z)) rfl rfl rfl rfl
 exact⟨rfl,⟨_,_,_,h1.1⟩,(TBut.of_below hb0 h.run.size).trans h1.2⟩
theorem TurnAt.cells {w0 w:World} {L:RLay} {v:Env} {q:Option Nat} {s:PS} {A:Option Addr} {c:Nat} {l:List TT} (h:TurnAt w0 w L v q s A c l) {W:World} (hb:Below w.heap.size w W):W.cell? ⟨L.R,2,none⟩=some (.string (strB s.buf))∧W.frozen? ⟨L.R,2,none⟩=false:=by
 have hb0:Below w0.heap.size w0 W:=h.below.trans (hb.mono h.below.size)
 obtain⟨Ar,cr,us,hr⟩:=h.run
 exact (hr.below hb0).cell 2
set_option maxHeartbeats 4000000 in
theorem turn_count (w0 w:World) (L:RLay) (v:Env) (q:Option Nat) (s:PS) (A:Option Addr) (c:Nat) (l:List TT) (h:TurnAt w0 w L v q s A c l) (arg:TT) :
  Calls Tryz.prog 50 #[ptrV L.R,.string (strB kCount),.string (strB arg),.slice A l.length c] w (VPost w0 L v q ({ s with buf:=Lib.decDigits l.length++[10] })):=by
 obtain⟨R,hR⟩:∃ R,R=L.R:=⟨_,rfl⟩
 obtain⟨Y,hY⟩:∃ Y,Y=strB arg:=⟨_,rfl⟩
 obtain⟨N,hN⟩:∃ N,N=strB kCount:=⟨_,rfl⟩
 obtain⟨n,hn⟩:∃ n,n=l.length:=⟨_,rfl⟩
 obtain⟨Pq,hPq⟩:∃ Pq:Ending→World→Prop,Pq=VPost w0 L v q ({ s with buf:=Lib.decDigits l.length++[10] }):=⟨_,rfl⟩
 have htn:N.toList=kCount:=by rw [hN];exact toList_strBT _
 have tkSort:(N.toList == [115,111,114,116])=false:=by rw [htn];decide
 have ukSort:¬ N.toList=[115,111,114,116]:=by rw [htn];decide
 have tkUniq:(N.toList == [117,110,105,113])=false:=by rw [htn];decide
 have ukUniq:¬ N.toList=[117,110,105,113]:=by rw [htn];decide
 have tkUpper:(N.toList == [117,112,112,101,114])=false:=by rw [htn];decide
 have ukUpper:¬ N.toList=[117,112,112,101,114]:=by rw [htn];decide
 have tkCount:(N.toList == [99,111,117,110,116])=true:=by rw [htn,beq_iff_eq]
 have ukCount:N.toList=[99,111,117,110,116]:=htn
 have hlen:=h.len
 have hdl:=dec_short l.length (by omega)
 have cI:=fun (W:World) (hb:Below w.heap.size w W)=>itoa_fit W l.length (by omega) (B:=L.B) (Nat.le_trans (Nat.le_trans h.fit.base h.below.size) hb.size) ((h.fit.tabs.on (h.below.mono h.fit.base)).on (hb.mono (Nat.le_trans h.fit.base h.below.size)))
 have cS:=fun (W:World) (hb:Below w.heap.size w W)=>h.store hb (Lib.decDigits l.length++[10])
 have cC:=fun (W:World) (hb:Below w.heap.size w W)=>h.cells hb
 have hcat:strB (Lib.decDigits l.length)++⟨#[10]⟩=strB (Lib.decDigits l.length++[10]):=strB_append _ [10]
 obtain⟨D,hD⟩:∃ D,D=strB (Lib.decDigits l.length):=⟨_,rfl⟩
 obtain⟨Z,hZ⟩:∃ Z,Z=strB (Lib.decDigits l.length++[10]):=⟨_,rfl⟩
 have hDs:D.size≤20:=by rw [hD,strB_size];exact hdl
 have hDi:¬ (D.size+1 > 9223372036854775807):=by omega
 rw [← hD] at cI hcat
 rw [← hZ] at cS hcat
 rw [ptrV,← hR,← hY,← hN,← hPq,← hn]
 rw [← hn] at cI
 rw [← hPq,← hR] at cS
 rw [← hR] at cC
 have CS:=hid2 cS
 have CI:=hid2 cI
 have CC:=hid2 cC
 clear cS cI cC h hR hY hN hn hPq htn hD hZ hlen hdl hDs
 go_enter Tryz.func50,Tryz.ntmps50
 go_wp2_with (first
  | (go_at_call 75; refine (CI.out _ ((Below.refl _ _).alloc (Nat.le_refl _) _)).mono ?_;rintro e w2 ⟨rfl,hb⟩;have hb2:Below w.heap.size w w2:=((Below.refl _ _).alloc (Nat.le_refl _) _).trans (hb.mono (by simp));have HB:=hid2 hb2;obtain⟨hc2,hf2⟩:=CC.out w2 hb2;clear hb hb2))
 refine bodyPost_ret (results_none rfl _ _ _) rfl ?_
 exact CS.out _ HB.out
def upC (c:UInt8):UInt8:=if 97≤c.toNat∧c.toNat≤122 then c - 32 else c
def mixT (k:Nat) (b:TT):TT:=(b.take k).map upC++b.drop k
theorem mixT_zero (b:TT):mixT 0 b=b:=by simp [mixT]
theorem mixT_all {b:TT} {k:Nat} (h:b.length≤k):mixT k b=upT b:=by
 rw [mixT,List.take_of_length_le h,List.drop_of_length_le h,List.append_nil]
 rfl
theorem mixT_step {b:TT} {k:Nat} {x:UInt8} (h:b[k]?=some x):mixT (k+1) b=(mixT k b).set k (upC x):=by
 obtain⟨hk,rfl⟩:=List.getElem?_eq_some_iff.1 h
 have hl:((b.take k).map upC).length=k:=by simp;omega
 rw [mixT,mixT,List.set_append_right _ _ (by omega),hl,Nat.sub_self,List.drop_eq_getElem_cons hk,List.set_cons_zero,List.take_succ_eq_append_getElem hk,List.map_append,List.append_assoc]
 rfl
theorem mixT_at {b:TT} {k:Nat} {x:UInt8} (h:b[k]?=some x):(mixT k b)[k]?=some x:=by
 obtain⟨hk,rfl⟩:=List.getElem?_eq_some_iff.1 h
 have hl:((b.take k).map upC).length=k:=by simp;omega
 rw [mixT,List.getElem?_append_right (by omega),hl,Nat.sub_self,List.drop_eq_getElem_cons hk]
 rfl
theorem u8s_set (l:TT) (k:Nat) (x:UInt8):(u8s l).set k (.int .u8 x.toNat)=u8s (l.set k x):=by
 unfold u8s
 rw [List.map_set]
theorem u8s_at {l:TT} {k:Nat} {x:UInt8} (h:l[k]?=some x):(u8s l)[k]?=some (.int .u8 x.toNat):=by
 rw [u8s,List.getElem?_map,h]
 rfl
theorem tset_same {l:TT} {k:Nat} {x:UInt8} (h:l[k]?=some x):l.set k x=l:=by
 obtain⟨hk,rfl⟩:=List.getElem?_eq_some_iff.1 h
 exact List.set_getElem_self hk
set_option maxHeartbeats 4000000 in
theorem turn_upper (w0 w:World) (L:RLay) (v:Env) (q:Option Nat) (s:PS) (A:Option Addr) (c:Nat) (l:List TT) (h:TurnAt w0 w L v q s A c l) (arg:TT) :
  Calls Tryz.prog 50 #[ptrV L.R,.string (strB kUpper),.string (strB arg),.slice A l.length c] w (VPost w0 L v q ({ s with buf:=upT s.buf })):=by
 obtain⟨R,hR⟩:∃ R,R=L.R:=⟨_,rfl⟩
 obtain⟨Y,hY⟩:∃ Y,Y=strB arg:=⟨_,rfl⟩
 obtain⟨N,hN⟩:∃ N,N=strB kUpper:=⟨_,rfl⟩
 obtain⟨n,hn⟩:∃ n,n=l.length:=⟨_,rfl⟩
 obtain⟨Pq,hPq⟩:∃ Pq:Ending→World→Prop,Pq=VPost w0 L v q ({ s with buf:=upT s.buf }):=⟨_,rfl⟩
 have htn:N.toList=kUpper:=by rw [hN];exact toList_strBT _
 have tkSort:(N.toList == [115,111,114,116])=false:=by rw [htn];decide
 have ukSort:¬ N.toList=[115,111,114,116]:=by rw [htn];decide
 have tkUniq:(N.toList == [117,110,105,113])=false:=by rw [htn];decide
 have ukUniq:¬ N.toList=[117,110,105,113]:=by rw [htn];decide
 have tkUpper:(N.toList == [117,112,112,101,114])=true:=by rw [htn,beq_iff_eq]
 have ukUpper:N.toList=[117,112,112,101,114]:=htn
 have hbl:=h.fit.lim.buf
 have cS:=fun (W:World) (hb:Below w.heap.size w W)=>h.store hb (upT s.buf)
 have cC:=fun (W:World) (hb:Below w.heap.size w W)=>h.cells hb
 obtain⟨bf,hbf⟩:∃ bf,bf=s.buf:=⟨_,rfl⟩
 obtain⟨X,hX⟩:∃ X,X=strB bf:=⟨_,rfl⟩
 obtain⟨Z,hZ⟩:∃ Z,Z=strB (upT bf):=⟨_,rfl⟩
 rw [← hbf] at cS cC hbl
 have hPq2:Pq=VPost w0 L v q { s with buf:=upT bf }:=by rw [hPq,hbf]
 rw [← hX] at cC
 rw [← hZ] at cS
 obtain⟨m,hm⟩:∃ m,m=X.size:=⟨_,rfl⟩
 have hXs:X.size=bf.length:=by rw [hX,strB_size]
 have hXd:X.data.toList=bf:=by rw [hX];simp [strB]
 have hml:m≤65536:=by omega
 rw [ptrV,← hR,← hY,← hN,← hPq,← hn]
 rw [← hPq2,← hR] at cS
 rw [← hR] at cC
 have hc2:=(cC w (Below.refl _ _)).1
 have hmb:m=bf.length:=by omega
 have CS:=hid2 cS
 have CC:=hid2 cC
 have HXD:=hid2 hXd
 have HM:=hid2 hmb
 have HMS:=hid2 hm
 have HZ:=hid2 hZ
 have hXm:X.size≤maxLen:=by unfold maxLen;omega
 have hRl:R < w.heap.size:=World.block_lt_of_cell? _ _ hc2
 clear cS cC h hR hY hN hn hPq hPq2 htn hX hZ hXs hXd hm hbf hbl hmb
 go_enter Tryz.func50,Tryz.ntmps50
 go_wp2_with ((with_reducible refine wpList_to_bytes_lit 5 w.heap.size X Tryz.underlying9 Tryz.underlying46 Tryz.underlying5 ?_ hXm ?_ ?_);(simp);exact rfl;intro A2 c2 w2 ho hb hbk;have HO:=hid2 ho;have hb2:Below w.heap.size w w2:=((Below.refl _ _).alloc (Nat.le_refl _) _).trans (hb.mono (by simp));have HB:=hid2 hb2;clear ho hb hb2 hbk;rw [← HMS.out])
 have ho2:Own w2 w.heap.size 5 1 A2 m c2 (u8s bf):=by
  have:=HO.out
  rw [HXD.out,← HMS.out] at this
  exact this
 have hmi:(m:Int)≤65536:=by omega
 go_loopw [34] (fun i wr=>∃ k:Nat,k≤m∧i = .int .i64 k∧Own wr w.heap.size 5 1 A2 m c2 (u8s (mixT k bf))∧Below w.heap.size w wr) (fun i _=>m - (intOf i).toNat)
 case atStart=>exact⟨0,by omega,rfl,by rw [mixT_zero];exact ho2,HB.out⟩
 case round =>
  obtain⟨k,hk,rfl,ho,hbe⟩:=hrel
  clear ho2
  by_cases hlt:k < m
  ·have hkl:(k:Int) < m:=by omega
   obtain⟨x,hx⟩:∃ x,bf[k]?=some x:=⟨_,List.getElem?_eq_getElem (by rw [← HM.out];exact hlt)⟩
   obtain⟨b,o,u,rfl,hbb,hblt,hu,hcu,hfu,hset⟩:=ho.spot hlt
   rw [u8s_at (mixT_at hx)] at hu
   obtain rfl:=Option.some.inj hu
   have hst:=hset (.int .u8 (upC x).toNat)
   rw [u8s_set,← mixT_step hx] at hst
   have hxl:x.toNat < 256:=x.toNat_lt
   by_cases hup:97≤x.toNat∧x.toNat≤122
   ·have hval:((upC x).toNat:Int)=(x.toNat:Int) - 32:=by
     rw [upC,if_pos hup,UInt8.toNat_sub_of_le _ _ (by rw [UInt8.le_iff_toNat_le];have:(32:UInt8).toNat=32:=rfl;omega)]
     have:(32:UInt8).toNat=32:=rfl
     omega
    have h97:(97:Int)≤x.toNat:=by omega
    have h122:(x.toNat:Int)≤122:=by omega
    have hwr:IntKind.u8.wrap ((x.toNat:Int) - 32)=(x.toNat:Int) - 32:=IntWalk.u8_in _ (by constructor <;> omega)
    rw [hval] at hst
    obtain⟨y,hy⟩:∃ y:Int,y=x.toNat:=⟨_,rfl⟩
    rw [← hy] at hcu hst hwr h97 h122
    have HST:=hid2 hst
    have HBE:=hid2 hbe
    clear hx hu hset hst ho hup hval hy hxl hbe
    go_wp2_with fail
    go_roundw
    case rel=>exact⟨k+1,by omega,by go_num,HST.out,HBE.out.setCell hbb _⟩
    case measure=>simp [intOf];omega
   ·have hsame:upC x=x:=by rw [upC,if_neg hup]
    have hst2:Own wr w.heap.size 5 1 (some ⟨b,o,none⟩) m c2 (u8s (mixT (k+1) bf)):=by rw [mixT_step hx,hsame,tset_same (mixT_at hx)];exact ho
    have HST:=hid2 hst2
    have HBE:=hid2 hbe
    by_cases h97:97≤x.toNat
    ·have h97i:(97:Int)≤x.toNat:=by omega
     have h122:¬ (x.toNat:Int)≤122:=by omega
     obtain⟨y,hy⟩:∃ y:Int,y=x.toNat:=⟨_,rfl⟩
     rw [← hy] at hcu h97i h122
     clear hx hu hset hst ho hup hy hxl hbe hst2 hsame h97
     go_wp2_with fail
     go_roundw
     case rel=>exact⟨k+1,by omega,by go_num,HST.out,HBE.out⟩
     case measure=>simp [intOf];omega
    ·have h97i:¬ (97:Int)≤x.toNat:=by omega
     obtain⟨y,hy⟩:∃ y:Int,y=x.toNat:=⟨_,rfl⟩
     rw [← hy] at hcu h97i
     clear hx hu hset hst ho hup hy hxl hbe hst2 hsame h97
     go_wp2_with fail
     go_roundw
     case rel=>exact⟨k+1,by omega,by go_num,HST.out,HBE.out⟩
     case measure=>simp [intOf];omega
  ·have hkm:k=m:=by omega
   have hkl:¬ (k:Int) < m:=by omega
   rw [mixT_all (by rw [← HM.out];omega)] at ho
   obtain⟨hc3,hf3⟩:=CC.out wr hbe
   have hul:(upT bf).length=m:=by rw [HM.out];simp [upT]
   have hrd:=ho.rd
   have hzz:(⟨(upT bf).toArray⟩:ByteArray)=Z:=HZ.out.symm
   have HBE:=hid2 hbe
   have HRD:=hid2 hrd
   have HZZ:=hid2 hzz
   clear hkm hbe ho hrd hzz
   go_wp2_with ((with_reducible refine wpList_to_string_lit 5 A2 m c2 (upT bf) Tryz.underlying46 Tryz.underlying5 Tryz.underlying9 hul HRD.out ?_ ?_);exact rfl;rw [HZZ.out])
   refine bodyPost_ret (results_none rfl _ _ _) rfl ?_
   exact CS.out _ HBE.out
end Go.Proofs.YtnecjdhamohadaaGreatDoor
