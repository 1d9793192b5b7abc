/- Words for memory: a slice that reads as a list, a slice that the call owns (at whatever offset), one law on append for both kinds of sources. Nothing of the program is named. -/
import Derived.WalkKit
import Derived.Lib.Hide
import Derived.RegionTactic
import Derived.Deep.QuietTactic
import Derived.Laws.IdiomStrings
import Derived.Deep.DeepMust
import Derived.Deep.LoopGhost
import Derived.OwnWalk
import Derived.StillTailTactics
import Derived.BigRegion
import Derived.Outline
import Derived.Laws.Concat
import Derived.Test.YtnecjdhamohadaaGreatDoorChecked
import Derived.Lib.Bytealg
import Derived.Laws.Externs
set_option linter.unusedSimpArgs false
set_option linter.unusedVariables false
namespace Go.Proofs.YtnecjdhamohadaaGreatDoor
open Go.RowKit

theorem addr_add (b o i:Nat):(⟨b,o,none⟩:Addr).add i=⟨b,o+i,none⟩:=by
 unfold Addr.add
 split
 ·subst_vars;rfl
 ·rfl

def Rd (w:World) (sz:Nat) (A:Option Addr) (n:Nat) (xs:List Value):Prop :=
 xs.length=n * sz∧(0 < n→∃ b o,A=some ⟨b,o,none⟩∧∀ j u,xs[j]?=some u→w.cell? ⟨b,o+j,none⟩=some u)

def Free (fr:Nat × Nat) (n:Nat):Prop:=fr=(0,0)∨fr=(n,n+1)
theorem Free.cell {fr:Nat × Nat} {w:World} {b j:Nat} {cur:Array Value} {t:TypeId} (h:Free fr cur.size) (hb:w.heap[b]?=some (.cells cur t fr)) (hj:j < cur.size):w.frozen? ⟨b,j,none⟩=false:=by
 rcases h with rfl | rfl <;> simp [World.frozen?,hb]
 omega
theorem run_storeCells_free (P:Program) (g o:Nat) (t:TypeId) (fr:Nat × Nat):∀ (vs:List Value) (i:Nat) (cur:Array Value) (w:World),Free fr cur.size→w.heap[g]?=some (.cells cur t fr)→o+i+vs.length≤cur.size→(∀ v∈vs,v.oneCell'=true) →
  (storeCells ⟨g,o,none⟩ vs i).run P w = .ok () (w.setRow g (cur.toList.take (o+i)++vs++cur.toList.drop (o+i+vs.length)).toArray)
 | [],i,cur,w,_,hg,_,_=>by
  simp only [storeCells,List.append_nil,List.length_nil,Nat.add_zero,List.take_append_drop,Array.toArray_toList]
  rw [setRow_self w g cur t fr hg]
  rfl
 | v :: rest,i,cur,w,hfr,hg,hl,h1=>by
  have hi:o+i < cur.size:=by simp at hl;omega
  have hcell:w.cell? ⟨g,o+i,none⟩=some cur[o+i]:=by simp [World.cell?,hg,hi]
  have hfro:w.frozen? ⟨g,o+i,none⟩=false:=hfr.cell hg hi
  have hst:(store ((⟨g,o,none⟩:Addr).add i) v).run P w = .ok () (w.setRow g (cur.setIfInBounds (o+i) v)):=by
   rw [addr_add,run_store P w _ v _ (h1 v (by simp)),hcell]
   simp [hfro,setCell_eq_setRow w g (o+i) cur t fr v hg]
  have ih:=run_storeCells_free P g o t fr rest (i+1) (cur.setIfInBounds (o+i) v) (w.setRow g (cur.setIfInBounds (o+i) v)) (by rw [Array.size_setIfInBounds];exact hfr) (setRow_heap w g cur _ t _ hg) (by simp at hl ⊢;omega) (fun x hx=>h1 x (by simp [hx]))
  simp only [storeCells,Sem.run_bind,hst,Result.andThen_ok,ih,setRow_setRow]
  congr 3
  have e:=list_seg_step cur.toList (o+i) v rest (by simp at hl ⊢;omega)
  simpa [Array.toList_setIfInBounds,Nat.add_assoc] using e
def Own (w:World) (base:Nat) (t:TypeId) (sz:Nat) (A:Option Addr) (n c:Nat) (xs:List Value):Prop :=
 xs.length=n * sz∧n≤c∧c≤maxLen∧((A=none∧c=0)∨∃ b o cur fr,A=some ⟨b,o,none⟩∧base≤b∧w.heap[b]?=some (.cells cur t fr)∧Free fr cur.size∧o+c * sz≤cur.size∧∀ j,j < n * sz→cur[o+j]?=xs[j]?)

def blockOf (A:Option Addr):Option Nat:=A.map (·.block)

section
variable {w w':World} {base sz n c:Nat} {t:TypeId} {A:Option Addr} {xs:List Value}

theorem heap_lt {b:Nat} {o:Obj} (h:w.heap[b]?=some o):b < w.heap.size:=by
 rcases Nat.lt_or_ge b w.heap.size with hlt | hge
 ·exact hlt
 ·rw [Array.getElem?_eq_none hge] at h;cases h

theorem Own.at_ (h:Own w base t sz A n c xs) (h0:0 < c):∃ b o cur fr,A=some ⟨b,o,none⟩∧base≤b∧w.heap[b]?=some (.cells cur t fr)∧Free fr cur.size∧o+c * sz≤cur.size∧∀ j,j < n * sz→cur[o+j]?=xs[j]?:=by
 rcases h.2.2.2 with ⟨_,hc⟩ | h
 ·omega
 ·exact h
theorem Own.rd (h:Own w base t sz A n c xs):Rd w sz A n xs:=by
 have hA:=h.at_
 obtain⟨hl,hn,hm,_⟩:=h
 refine⟨hl,fun h0=>?_⟩
 obtain⟨b,o,cur,fr,rfl,_,hb,_,hs,hx⟩:=hA (by omega)
 refine⟨b,o,rfl,fun j u hu=>?_⟩
 have hj:j < xs.length:=by
  rcases Nat.lt_or_ge j xs.length with hlt | hge
  ·exact hlt
  ·rw [List.getElem?_eq_none hge] at hu;cases hu
 rw [cell_of_row w b _ cur t _ hb,hx j (by omega),hu]

theorem Own.nil (w:World) (base:Nat) (t:TypeId) (sz:Nat):Own w base t sz none 0 0 []:=⟨by simp,by simp,by simp,.inl ⟨rfl,rfl⟩⟩
theorem Own.block (h:Own w base t sz A n c xs):∀ b,blockOf A=some b→base≤b∧b < w.heap.size∧∃ cur fr,w.heap[b]?=some (.cells cur t fr):=by
 intro b hb
 rcases h.2.2.2 with ⟨rfl,_⟩ | ⟨b',o,cur,fr,rfl,hbb,hg,_⟩
 ·simp [blockOf] at hb
 ·simp only [blockOf,Option.map_some,Option.some.injEq] at hb
  subst hb
  exact⟨hbb,heap_lt hg,cur,fr,hg⟩
theorem Own.ne {g:Nat} {t':TypeId} {cs:Array Value} {fr:Nat × Nat} (h:Own w base t sz A n c xs) (hg:w.heap[g]?=some (.cells cs t' fr)) (hne:t≠t'):blockOf A≠some g:=by
 intro e
 obtain⟨_,_,cur,_,hc⟩:=h.block g e
 rw [hg] at hc
 injection hc with hc
 injection hc with _ ht
 exact hne ht.symm
theorem Own.keep (h:Own w base t sz A n c xs) (hk:∀ b,blockOf A=some b→base≤b→b < w.heap.size→w'.heap[b]?=w.heap[b]?):Own w' base t sz A n c xs:=by
 obtain⟨hl,hn,hm,hc⟩:=h
 refine⟨hl,hn,hm,?_⟩
 rcases hc with hc | ⟨b,o,cur,fr,rfl,hb,hg,hf,hs,hx⟩
 ·exact .inl hc
 ·exact .inr ⟨b,o,cur,fr,rfl,hb,(hk b rfl hb (heap_lt hg)).trans hg,hf,hs,hx⟩
theorem Own.drewN (h:Own w base t sz A n c xs) (k:Nat):Own (w.drewN k) base t sz A n c xs:=h
theorem Own.drew (h:Own w base t sz A n c xs):Own w.drew base t sz A n c xs:=h
theorem Own.alloc (h:Own w base t sz A n c xs) (o:Obj):Own (w.alloc o) base t sz A n c xs:=h.keep fun _ _ _ hb=>Below.heap_alloc w o _ hb
theorem Own.mono {base':Nat} (h:Own w base t sz A n c xs) (hb:base'≤base):Own w base' t sz A n c xs:=by
 obtain⟨hl,hn,hm,hc⟩:=h
 refine⟨hl,hn,hm,?_⟩
 rcases hc with hc | ⟨b,o,cur,fr,rfl,hb',r⟩
 ·exact .inl hc
 ·exact .inr ⟨b,o,cur,fr,rfl,by omega,r⟩
theorem Own.below {B:Nat} (h:Own w base t sz A n c xs) (hb:Below B w w') (hB:w.heap.size≤B):Own w' base t sz A n c xs:=h.keep fun _ _ _ hlt=>hb.block _ (by omega)
theorem Own.setOther (h:Own w base t sz A n c xs) {p:Addr} (hp:blockOf A≠some p.block) (u:Value):Own (w.setCell p u) base t sz A n c xs :=
 h.keep fun b hb _ _=>Below.heap_setCell w p u b (fun e=>hp (by rw [hb,e]))
theorem Own.grown {row:Option Nat} (h:Own w base t sz A n c xs) (hg:w.grownBy w' row) (hr:∀ b,blockOf A=some b→some b≠row):Own w' base t sz A n c xs :=
 h.keep fun b hb _ hlt=>hg.block b hlt (hr b hb)
theorem Own.drop (h:Own w base t sz A n c xs) {k:Nat} (hk:k≤n):Own w base t sz (if c=k then A else A.map (·.add (k * sz))) (n - k) (c - k) (xs.drop (k * sz)):=by
 obtain⟨hl,hn,hm,hc⟩:=h
 refine⟨by rw [List.length_drop,hl,Nat.sub_mul],by omega,by omega,?_⟩
 rcases hc with ⟨rfl,hc⟩ | ⟨b,o,cur,fr,rfl,hb,hg,hf,hs,hx⟩
 ·exact .inl ⟨by simp,by omega⟩
 ·right
  by_cases hck:c=k
  ·rw [if_pos hck]
   refine⟨b,o,cur,fr,rfl,hb,hg,hf,by rw [hck,Nat.sub_self];omega,fun j hj=>?_⟩
   rw [show n - k=0 by omega] at hj
   omega
  ·rw [if_neg hck]
   refine⟨b,o+k * sz,cur,fr,by simp [addr_add],hb,hg,hf,?_,fun j hj=>?_⟩
   ·rw [Nat.sub_mul]
    have:k * sz≤c * sz:=Nat.mul_le_mul_right _ (by omega)
    omega
   ·have hks:k * sz≤n * sz:=Nat.mul_le_mul_right _ hk
    rw [Nat.sub_mul] at hj
    have:=hx (k * sz+j) (by omega)
    rw [List.getElem?_drop,← this]
    congr 1;omega
theorem Own.take (h:Own w base t sz A n c xs) {k:Nat} (hk:k≤n):Own w base t sz A k c (xs.take (k * sz)):=by
 obtain⟨hl,hn,hm,hc⟩:=h
 have hks:k * sz≤n * sz:=Nat.mul_le_mul_right _ hk
 refine⟨by rw [List.length_take,hl];omega,by omega,hm,?_⟩
 rcases hc with hc | ⟨b,o,cur,fr,rfl,hb,hg,hf,hs,hx⟩
 ·exact .inl hc
 ·refine .inr ⟨b,o,cur,fr,rfl,hb,hg,hf,hs,fun j hj=>?_⟩
  rw [hx j (by omega),List.getElem?_take,if_pos hj]
theorem Own.made (w:World) (cs:Array Value) (t:TypeId) (sz n c:Nat) (base:Nat) (hb:base≤w.heap.size) (hn:n≤c) (hm:c≤maxLen) (hs:cs.size=c * sz) :
  Own (w.alloc (.cells cs t)) base t sz (some ⟨w.heap.size,0,none⟩) n c (cs.toList.take (n * sz)):=by
 have:n * sz≤c * sz:=Nat.mul_le_mul_right _ hn
 refine⟨by rw [List.length_take,Array.length_toList,hs];omega,hn,hm,.inr ⟨w.heap.size,0,cs,(0,0),rfl,hb,heap_alloc_new w _,.inl rfl,by omega,fun j hj=>?_⟩⟩
 rw [List.getElem?_take,if_pos hj,Nat.zero_add]
 simp
theorem Own.lit (w:World) (cs:Array Value) (t:TypeId) (sz n:Nat) (base:Nat) (hb:base≤w.heap.size) (hm:n≤maxLen) (hs:cs.size=n * sz) :
  Own (w.alloc (.cells cs t)) base t sz (some ⟨w.heap.size,0,none⟩) n n cs.toList:=by
 have h:=Own.made w cs t sz n n base hb (Nat.le_refl _) hm hs
 rw [List.take_of_length_le (by simp [hs])] at h
 exact h
theorem Rd.of_lit (w:World) (cs:Array Value) (t:TypeId) (sz n:Nat) (hm:n≤maxLen) (hs:cs.size=n * sz):Rd (w.alloc (.cells cs t)) sz (some ⟨w.heap.size,0,none⟩) n cs.toList :=
 (Own.lit w cs t sz n 0 (Nat.zero_le _) hm hs).rd
theorem Rd.keep (h:Rd w sz A n xs) (hk:∀ b o u,blockOf A=some b→w.cell? ⟨b,o,none⟩=some u→w'.cell? ⟨b,o,none⟩=some u):Rd w' sz A n xs:=by
 obtain⟨hl,hc⟩:=h
 refine⟨hl,fun h0=>?_⟩
 obtain⟨b,o,rfl,hx⟩:=hc h0
 exact⟨b,o,rfl,fun j u hu=>hk b _ _ rfl (hx j u hu)⟩
theorem Rd.alloc (h:Rd w sz A n xs) (o:Obj):Rd (w.alloc o) sz A n xs:=h.keep fun b o' u _ hu=>by
 rw [World.cell?_alloc_lt _ _ _ (World.block_lt_of_cell? w _ hu)];exact hu
theorem Rd.drewN (h:Rd w sz A n xs) (k:Nat):Rd (w.drewN k) sz A n xs:=h
theorem Rd.drew (h:Rd w sz A n xs):Rd w.drew sz A n xs:=h
theorem Rd.below {B:Nat} (h:Rd w sz A n xs) (hb:Below B w w') (hB:∀ b,blockOf A=some b→b < w.heap.size→b < B):Rd w' sz A n xs:=h.keep fun b o' u hbl hu=>by
 rw [hb.cell (p:=⟨b,o',none⟩) (hB b hbl (World.block_lt_of_cell? w _ hu))];exact hu
theorem Rd.below_all (h:Rd w sz A n xs) (hb:Below w.heap.size w w'):Rd w' sz A n xs:=h.below hb fun _ _ h=>h
theorem Rd.none_ (w:World) (sz:Nat) (A:Option Addr):Rd w sz A 0 []:=⟨by simp,fun h=>absurd h (by omega)⟩
theorem Rd.drop (h:Rd w sz A n xs) {k c:Nat} (hk:k≤n) (hc:n≤c):Rd w sz (if c=k then A else A.map (·.add (k * sz))) (n - k) (xs.drop (k * sz)):=by
 obtain⟨hl,hq⟩:=h
 refine⟨by rw [List.length_drop,hl,Nat.sub_mul],fun h0=>?_⟩
 obtain⟨b,o,rfl,hx⟩:=hq (by omega)
 rw [if_neg (by omega)]
 refine⟨b,o+k * sz,by simp [addr_add],fun j u hu=>?_⟩
 rw [Nat.add_assoc]
 exact hx _ u (by rw [← hu,List.getElem?_drop])
theorem Rd.take (h:Rd w sz A n xs) {k:Nat} (hk:k≤n):Rd w sz A k (xs.take (k * sz)):=by
 obtain⟨hl,hq⟩:=h
 have hks:k * sz≤n * sz:=Nat.mul_le_mul_right _ hk
 refine⟨by rw [List.length_take,hl];omega,fun h0=>?_⟩
 obtain⟨b,o,rfl,hx⟩:=hq (by omega)
 refine⟨b,o,rfl,fun j u hu=>hx j u ?_⟩
 rw [List.getElem?_take] at hu
 split at hu
 ·exact hu
 ·cases hu
theorem Rd.cell (h:Rd w sz A n xs) {j:Nat} (hj:j < xs.length):∃ b o,A=some ⟨b,o,none⟩∧w.cell? ⟨b,o+j,none⟩=some xs[j]:=by
 obtain⟨b,o,rfl,hx⟩:=h.2 (Nat.pos_of_ne_zero fun h0=>by have:=h.1;subst h0;omega)
 exact⟨b,o,rfl,hx j _ (List.getElem?_eq_getElem hj)⟩
end

def Src (P:Program) (w:World) (u:TypeId) (sz:Nat) (x:Value) (m:Nat) (news:List Value):Prop :=
 news.length=m * sz∧((∃ e,P.underlying u=some (.slice e))∨P.underlying u=some .string)∧(∀ k,(Builtin.lenOf x).run P (w.drewN k) = .ok m (w.drewN k))∧∀ k,(Builtin.firstCells sz m x).run P (w.drewN k) = .ok news.toArray (w.drewN k)

section
variable {P:Program} {w:World}
theorem Src.slice {sz m c:Nat} {A:Option Addr} {news:List Value} {u e:TypeId} (hu:P.underlying u=some (.slice e)) (h:Rd w sz A m news):Src P w u sz (.slice A m c) m news:=by
 refine⟨h.1,.inl ⟨_,hu⟩,fun k=>by simp [Builtin.lenOf],fun k=>?_⟩
 rcases Nat.eq_zero_or_pos m with h0 | h0
 ·subst h0
  have:news=[]:=List.eq_nil_of_length_eq_zero (by simpa using h.1)
  subst this
  cases A <;> simp [Builtin.firstCells,loadCells,loadCellsFrom]
 ·obtain⟨b,o,rfl,hx⟩:=h.2 h0
  exact run_firstCells_some (P:=P) (w.drewN k) sz m ⟨b,o,none⟩ m c news h.1 (fun j v hv=>by rw [addr_add];exact hx j v hv)
theorem Src.str {s:ByteArray} {u:TypeId} (hu:P.underlying u=some .string):Src P w u 1 (.string s) s.size (s.data.toList.map fun b=>Value.int .u8 b.toNat):=by
 refine⟨by simp,.inr hu,fun k=>by simp [Builtin.lenOf],fun k=>?_⟩
 simp [Builtin.firstCells]
 apply Array.toList_inj.1
 simp

theorem run_append_gen (t u ty e:TypeId) (i:TypeInfo) (z:Value) (sz bytes:Nat) (ht:P.underlying t=some (.slice e)) (hi:P.info? e=some i) (hz:i.zero=some z)
  (hsize:i.size=sz) (hby:i.bytes=bytes) (hzs:z.cells.size=sz)
  {base:Nat} {A:Option Addr} {n c:Nat} {xs:List Value} (hown:Own w base e sz A n c xs)
  {x:Value} {m:Nat} {news:List Value} (hsrc:Src P w u sz x m news) (h1:∀ v∈news,v.oneCell'=true)
  (h63:n+m≤maxLen) (hbytes:(n+m) * bytes≤140737488355328) (hbase:base≤w.heap.size) :
  ∃ A' c' w',(Builtin.append_ #[t,u] ty #[.slice A n c,x]).run P w = .ok (.slice A' (n+m) c') w'∧Own w' base e sz A' (n+m) c' (xs++news)∧w.grownBy w' (blockOf A) ∧
   (blockOf A'=blockOf A∨blockOf A'=some w.heap.size):=by
 subst hsize
 subst hby
 have hsmall:n+m≤9223372036854775807:=by simp only [maxLen] at h63;omega
 obtain⟨hl,hnc,hcm,hc⟩:=hown
 obtain⟨hnl,hd,hlen,hfirst⟩:=hsrc
 have hlen0:=hlen 0
 have hlen':(xs++news).length=(n+m) * i.size:=by rw [List.length_append,hl,hnl,Nat.add_mul]
 by_cases hroom:n+m≤c
 ·-- there is room
  rcases Nat.eq_zero_or_pos c with h0 | h0
  ·subst h0
   obtain rfl:n=0:=by omega
   obtain rfl:m=0:=by omega
   have hx0:xs=[]:=List.eq_nil_of_length_eq_zero (by simpa using hl)
   have hn0:news=[]:=List.eq_nil_of_length_eq_zero (by simpa using hnl)
   subst hx0 hn0
   refine⟨A,0,w,?_,⟨by simp,Nat.le_refl _,hcm,hc⟩,⟨rfl,rfl,rfl,Nat.le_refl _,fun _ _ _=>rfl⟩,.inl rfl⟩
   have hf:=hfirst 0
   simp only [World.drewN_zero] at hf hlen0
   rcases hd with ⟨_,hd⟩ | hd <;> cases A <;> simp [Builtin.append_,run_underlying ht,run_underlying hd,sizeOf,typeInfo,hi,hlen0,hf,storeCells]
  ·obtain⟨b,o,cur,fr,rfl,hb,hg,hfr,hs,hx⟩:=hc.resolve_left (fun e=>by omega)
   have hns:n * i.size+news.length≤c * i.size:=by rw [hnl,← Nat.add_mul];exact Nat.mul_le_mul_right _ hroom
   have hst:=run_storeCells_free P b (o+n * i.size) e fr news 0 cur w hfr hg (by omega) h1
   simp only [Nat.add_zero] at hst
   have hf:=hfirst 0
   simp only [World.drewN_zero] at hf hlen0
   refine⟨some ⟨b,o,none⟩,c,w.setRow b (cur.toList.take (o+n * i.size)++news++cur.toList.drop (o+n * i.size+news.length)).toArray,?_,?_,?_,.inl rfl⟩
   ·rcases hd with ⟨_,hd⟩ | hd <;> simp [Builtin.append_,run_underlying ht,run_underlying hd,sizeOf,typeInfo,hi,hlen0,hf,hroom,addr_add,hst]
   ·refine⟨hlen',hroom,hcm,.inr ⟨b,o,_,fr,rfl,hb,setRow_heap w b cur _ e _ hg,?_,?_,fun j hj=>?_⟩⟩
    ·simp only [List.size_toArray,List.length_append,List.length_take,List.length_drop,Array.length_toList]
     rw [show min (o+n * i.size) cur.size+news.length+(cur.size - (o+n * i.size+news.length))=cur.size by omega]
     exact hfr
    ·simp only [List.size_toArray,List.length_append,List.length_take,List.length_drop,Array.length_toList]
     omega
    ·have hlt:(cur.toList.take (o+n * i.size)).length=o+n * i.size:=by rw [List.length_take,Array.length_toList];omega
     have hnx:n * i.size=xs.length:=hl.symm
     simp only [List.getElem?_toArray]
     rw [List.append_assoc]
     by_cases hjn:j < n * i.size
     ·rw [List.getElem?_append_left (by omega),List.getElem?_append_left (by omega),List.getElem?_take,if_pos (by omega),← hx j hjn]
      simp
     ·rw [Nat.add_mul] at hj
      rw [List.getElem?_append_right (by omega),List.getElem?_append_left (by omega),List.getElem?_append_right (l₁:=xs) (by omega)]
      congr 1
      omega
   ·exact⟨rfl,rfl,rfl,by simp,fun k _ hk=>setRow_other w b k _ (fun e=>hk (by simp [blockOf,e]))⟩
 ·-- a new row
  have hge:=grownCap_ge w (n+m) c e
  have hcm':grownCap w (n+m) c e≤maxLen:=grownCap_le_maxLen w (n+m) c e h63
  have h63':¬ (9223372036854775807 < ((n:Int)+(m:Int))):=by omega
  have h48':¬ (281474976710656 < Builtin.nextslicecap (n+m) c * i.bytes):=by
   have:=growslice_fits (need:=n+m) (old:=c) (by omega) hbytes
   omega
  have hf:=hfirst 1
  have hfo:(Builtin.firstCells i.size n (.slice A n c)).run P (w.drewN 1) = .ok xs.toArray (w.drewN 1):=by
   rcases Nat.eq_zero_or_pos c with h0 | h0
   ·obtain rfl:n=0:=by omega
    have hx0:xs=[]:=List.eq_nil_of_length_eq_zero (by simpa using hl)
    subst hx0
    cases A <;> simp [Builtin.firstCells,loadCells,loadCellsFrom]
   ·obtain⟨b,o,cur,fr,rfl,hb,hg,hfr,hs,hx⟩:=hc.resolve_left (fun e=>by omega)
    refine run_firstCells_some (P:=P) (w.drewN 1) i.size n ⟨b,o,none⟩ n c xs hl (fun j v hv=>?_)
    have hj:j < xs.length:=by
     rcases Nat.lt_or_ge j xs.length with hlt | hge
     ·exact hlt
     ·rw [List.getElem?_eq_none hge] at hv;cases hv
    rw [addr_add]
    show w.cell? _=_
    rw [cell_of_row w b _ cur e _ hg,hx j (by omega),hv]
  have e1:w.drewN 1=w.drew:=rfl
  rw [e1] at hf hfo
  simp only [World.drewN_zero] at hlen0
  refine⟨some ⟨w.heap.size,0,none⟩,grownCap w (n+m) c e,w.drew.alloc (.cells (xs.toArray++news.toArray++Builtin.zeroCells z.cells (grownCap w (n+m) c e - (n+m))) e),?_,?_,?_,.inr rfl⟩
  ·rcases hd with ⟨_,hd⟩ | hd <;> simp [Builtin.append_,run_underlying ht,run_underlying hd,sizeOf,typeInfo,zeroValue,hi,hz,hlen0,hroom,h63',h48',Question.forced,hf,hfo,newRow,grownCap,-List.append_toArray]
  ·have hsz:(xs.toArray++news.toArray++Builtin.zeroCells z.cells (grownCap w (n+m) c e - (n+m))).size=grownCap w (n+m) c e * i.size:=by
    simp only [Array.size_append,List.size_toArray,size_zeroCells,hzs,hl,hnl,← Nat.add_mul]
    congr 1;omega
   have h:=Own.made w.drew (xs.toArray++news.toArray++Builtin.zeroCells z.cells (grownCap w (n+m) c e - (n+m))) e i.size (n+m) _ base hbase hge hcm' hsz
   have ht:(xs.toArray++news.toArray++Builtin.zeroCells z.cells (grownCap w (n+m) c e - (n+m))).toList.take ((n+m) * i.size)=xs++news:=by
    simp only [Array.toList_append]
    rw [← hlen']
    exact List.take_left
   rw [ht] at h
   exact h
  ·exact⟨rfl,rfl,rfl,by simp,fun k hk _=>Below.heap_alloc w.drew _ k hk⟩

theorem wp_append_gen {o:Oper} {a:Act} {K:Act→World→Prop} {Q:Exit→Act→World→Prop} (s x:Operand) (t u:TypeId)
  (ho:o.op = .call { callee:=.builtin .append,args:=#[s,x],argTypes:=#[t,u] })
  (e:TypeId) (z:Value) (sz bytes:Nat) (ht:P.underlying t=some (.slice e)) (hi:(P.info? e).map (fun i=>(i.zero,i.size,i.bytes))=some (some z,sz,bytes)) (hzs:z.cells.size=sz)
  (base:Nat) (A:Option Addr) (n c:Nat) (xs:List Value) (hs:a.eval s = .slice A n c) (hown:Own w base e sz A n c xs)
  (m:Nat) (news:List Value) (v:Value) (hx:a.eval x=v) (hsrc:Src P w u sz v m news) (h1:∀ v∈news,v.oneCell'=true)
  (h63:n+m≤maxLen) (hbytes:(n+m) * bytes≤140737488355328) (hbase:base≤w.heap.size)
  (h:∀ A' c' w',Own w' base e sz A' (n+m) c' (xs++news)→w.grownBy w' (blockOf A)→(blockOf A'=blockOf A∨blockOf A'=some w.heap.size)→K (a.put o.dst (.slice A' (n+m) c')) w'):o.wp P a w K Q:=by
 obtain⟨i,hi0,hz,hsz,hby⟩:=info_parts hi
 obtain⟨A',c',w',hr,h2,h3,h4⟩:=run_append_gen (P:=P) t u o.type e i z sz bytes ht hi0 hz hsz hby hzs hown hsrc h1 h63 hbytes hbase
 unfold Oper.wp execOp
 simp only [ho,resolve,invoke,builtin,Sem.run_bind,Sem.run_pure,Result.andThen_ok,List.map_toArray,List.map_cons,List.map_nil,hs,hx,hr]
 exact h A' c' w' h2 h3 h4
theorem wpList_append_gen {ops:Array Oper} {rest:List Oper} {o:Oper} {a:Act} {Q:Exit→Act→World→Prop} (hgd:o.guard=none) (s x:Operand) (t u:TypeId)
  (ho:o.op = .call { callee:=.builtin .append,args:=#[s,x],argTypes:=#[t,u] })
  (e:TypeId) (z:Value) (sz bytes:Nat) (ht:P.underlying t=some (.slice e)) (hi:(P.info? e).map (fun i=>(i.zero,i.size,i.bytes))=some (some z,sz,bytes)) (hzs:z.cells.size=sz)
  (base:Nat) (A:Option Addr) (n c:Nat) (xs:List Value) (hs:a.eval s = .slice A n c) (hown:Own w base e sz A n c xs)
  (m:Nat) (news:List Value) (v:Value) (hx:a.eval x=v) (hsrc:Src P w u sz v m news) (h1:∀ v∈news,v.oneCell'=true)
  (h63:n+m≤maxLen) (hbytes:(n+m) * bytes≤140737488355328) (hbase:base≤w.heap.size)
  (h:∀ A' c' w',Own w' base e sz A' (n+m) c' (xs++news)→w.grownBy w' (blockOf A)→(blockOf A'=blockOf A∨blockOf A'=some w.heap.size)→wpList P ops Q rest (a.put o.dst (.slice A' (n+m) c')) w'):wpList P ops Q (o :: rest) a w :=
 wpList_plain hgd fun _ hK=>wp_append_gen s x t u ho e z sz bytes ht hi hzs base A n c xs hs hown m news v hx hsrc h1 h63 hbytes hbase fun A' c' w' h2 h3 h4=>hK _ _ (h A' c' w' h2 h3 h4)
end
end Go.Proofs.YtnecjdhamohadaaGreatDoor
namespace Go.Proofs.YtnecjdhamohadaaGreatDoor
open Go.RowKit
section
variable {P:Program} {w:World}

def laid (cur:Array Value) (o:Nat) (vs:List Value):Array Value:=(cur.toList.take o++vs++cur.toList.drop (o+vs.length)).toArray
theorem laid_all {cur:Array Value} {vs:List Value} (h:vs.length=cur.size):laid cur 0 vs=vs.toArray:=by
 simp only [laid,List.take_zero,List.nil_append,Nat.zero_add]
 rw [List.drop_of_length_le (by simp;omega),List.append_nil]

theorem wp_store_at {o:Oper} {a:Act} {K:Act→World→Prop} {Q:Exit→Act→World→Prop} (ty:TypeId) (x v:Operand) (ho:o.op = .store ty x v)
  (g off:Nat) (hx:a.eval x = .pointer (some ⟨g,off,none⟩)) (val:Value) (hv:a.eval v=val) (vs:List Value) (hvs:val.cells.toList=vs) (cur:Array Value) (t:TypeId) (hg:w.heap[g]?=some (.cells cur t (0,0)))
  (hi:(P.info? ty).map (·.size)=some vs.length) (hfit:off+vs.length≤cur.size) (h1:∀ v∈vs,v.oneCell'=true)
  (h:K (a.put o.dst undef) (w.setRow g (laid cur off vs))):o.wp P a w K Q:=by
 have hst:(storeCells ⟨g,off,none⟩ vs).run P w = .ok () (w.setRow g (laid cur off vs)):=by
  have hst:=run_storeCells_at P g off t vs 0 cur w hg (by omega) h1
  simp only [Nat.add_zero] at hst
  exact hst
 cases hq:P.info? ty with
 | none=>simp [hq] at hi
 | some i =>
  have hs:i.size=vs.length:=by simpa [hq] using hi
  have hcs:val.cells.size=vs.length:=by rw [← hvs];simp
  unfold Oper.wp execOp
  simp [ho,hx,hv,Instr.storeAt,Instr.sureAddr,storeVar,sizeOf,typeInfo,hq,hs,hcs,hvs,hst]
  exact h
theorem wpList_store_lit {ops:Array Oper} {rest:List Oper} {a:Act} {Q:Exit→Act→World→Prop} {dst:Option Tmp} {ty tt:TypeId} {x v:Operand} {pos:String} {after:Array Edge}
  (g off:Nat) (val:Value) (vs:List Value) (hvs:val.cells.toList=vs) (cur:Array Value) (t:TypeId) (hg:w.heap[g]?=some (.cells cur t (0,0)))
  (hi:(P.info? ty).map (·.size)=some vs.length) (hfit:off+vs.length≤cur.size) (h1:∀ v∈vs,v.oneCell'=true)
  (hxv:a.eval x = .pointer (some ⟨g,off,none⟩)∧a.eval v=val)
  (h:wpList P ops Q rest (a.put dst undef) (w.setRow g (laid cur off vs))):wpList P ops Q (⟨dst,.store ty x v,tt,pos,after,none⟩ :: rest) a w :=
 wpList_plain rfl fun _ hK=>wp_store_at ty x v rfl g off hxv.1 val hxv.2 vs hvs cur t hg hi hfit h1 (hK _ _ h)
theorem wpList_append_lit {ops:Array Oper} {rest:List Oper} {a:Act} {Q:Exit→Act→World→Prop} {dst:Option Tmp} {tt:TypeId} {s x:Operand} {t u:TypeId} {pos:String} {after:Array Edge}
  (e:TypeId) (z:Value) (sz bytes:Nat) (ht:P.underlying t=some (.slice e)) (hi:(P.info? e).map (fun i=>(i.zero,i.size,i.bytes))=some (some z,sz,bytes)) (hzs:z.cells.size=sz)
  (base:Nat) (A:Option Addr) (n c:Nat) (xs:List Value) (hown:Own w base e sz A n c xs)
  (m:Nat) (news:List Value) (v:Value) (hsrc:Src P w u sz v m news) (h1:∀ v∈news,v.oneCell'=true)
  (h63:n+m≤maxLen) (hbytes:(n+m) * bytes≤140737488355328) (hbase:base≤w.heap.size) (hsx:a.eval s = .slice A n c∧a.eval x=v)
  (h:∀ A' c' w',Own w' base e sz A' (n+m) c' (xs++news)→w.grownBy w' (blockOf A)→(blockOf A'=blockOf A∨blockOf A'=some w.heap.size)→wpList P ops Q rest (a.put dst (.slice A' (n+m) c')) w') :
  wpList P ops Q (⟨dst,.call ⟨.builtin .append,#[s,x],#[t,u]⟩,tt,pos,after,none⟩ :: rest) a w :=
 wpList_append_gen rfl s x t u rfl e z sz bytes ht hi hzs base A n c xs hsx.1 hown m news v hsx.2 hsrc h1 h63 hbytes hbase h
end
def Hid2 (p:Prop):Prop:=Unit→p
theorem hid2 {p:Prop} (h:p):Hid2 p:=fun _=>h
theorem Hid2.out {p:Prop} (h:Hid2 p):p:=h ()
theorem below_setRow {B:Nat} {a w:World} (h:Below B a w) {g:Nat} (hg:B≤g) (cs:Array Value):Below B a (w.setRow g cs) :=
 h.trans ⟨rfl,rfl,rfl,by simp,fun k hk=>setRow_other w g k cs (by omega)⟩
theorem below_drewN {B:Nat} {a w:World} (h:Below B a w) (n:Nat):Below B a (w.drewN n):=⟨h.os,h.tape,h.output,h.size,h.block⟩
end Go.Proofs.YtnecjdhamohadaaGreatDoor
namespace Go.Proofs.YtnecjdhamohadaaGreatDoor
open Go.RowKit

def u8s (l:List UInt8):List Value:=l.map fun b=>.int .u8 b.toNat
theorem u8s_length (l:List UInt8):(u8s l).length=l.length:=by simp [u8s]
theorem u8s_append (l m:List UInt8):u8s (l++m)=u8s l++u8s m:=by simp [u8s]
theorem u8s_get (l:List UInt8) {j:Nat} (h:j < l.length):(u8s l)[j]?=some (.int .u8 (l.getD j 0).toNat):=by
 rw [u8s,List.getElem?_map,List.getElem?_eq_getElem h,List.getD_eq_getElem?_getD,List.getElem?_eq_getElem h];rfl
theorem u8s_one (l:List UInt8):∀ v∈u8s l,v.oneCell'=true:=by
 intro v hv
 obtain⟨x,_,rfl⟩:=List.mem_map.1 hv
 rfl
theorem Rd.one (w:World) (v:Value) (t:TypeId):Rd (w.alloc (.cells #[v] t)) 1 (some ⟨w.heap.size,0,none⟩) 1 [v]:=Rd.of_lit w #[v] t 1 1 (by decide) rfl
theorem toList_length (s:ByteArray):s.data.toList.length=s.size:=by rw [Array.length_toList];rfl

section
variable {P:Program} {w:World}
theorem run_to_bytes (src dst e:TypeId) (base:Nat) (s:ByteArray) (hs:P.underlying src=some .string) (hd:P.underlying dst=some (.slice e)) (he:P.underlying e=some (.int .u8)) (hbase:base≤w.heap.size) (hmax:s.size≤maxLen) :
  ∃ A c w',(convert src dst (.string s)).run P w = .ok (.slice A s.size c) w'∧Own w' base e 1 A s.size c (u8s s.data.toList)∧Below w.heap.size w w'∧blockOf A=some w.heap.size:=by
 have hge:=grownCap_ge w s.size 0 e
 have hle:=grownCap_le_maxLen w s.size 0 e hmax
 have hsz:(bytesRow s (grownCap w s.size 0 e)).size=grownCap w s.size 0 e:=by
  simp only [bytesRow,Array.size_append,Array.size_map,Array.size_replicate]
  have:s.data.size=s.size:=rfl
  omega
 refine⟨_,_,_,run_bytes_of_string w src dst e s hs hd he,⟨by rw [u8s_length,toList_length,Nat.mul_one],hge,hle,.inr ⟨w.heap.size,0,_,_,rfl,hbase,heap_alloc_new w.drew _,.inr rfl,by rw [hsz];omega,fun j hj=>?_⟩⟩,(Below.refl _ _).drew.alloc (Nat.le_refl _) _,rfl⟩
 rw [Nat.zero_add]
 have hj':j < s.data.size:=by have:s.data.size=s.size:=rfl;omega
 rw [bytesRow,Array.getElem?_append_left (by rw [Array.size_map];exact hj'),Array.getElem?_map,u8s,List.getElem?_map]
 simp
theorem wpList_to_bytes_lit {ops:Array Oper} {rest:List Oper} {a:Act} {Q:Exit→Act→World→Prop} {dst:Option Tmp} {src dt tt:TypeId} {x:Operand} {pos:String} {after:Array Edge}
  (e:TypeId) (base:Nat) (s:ByteArray) (hs:P.underlying src=some .string) (hd:P.underlying dt=some (.slice e)) (he:P.underlying e=some (.int .u8)) (hbase:base≤w.heap.size) (hmax:s.size≤maxLen)
  (hx:a.eval x = .string s)
  (h:∀ A c w',Own w' base e 1 A s.size c (u8s s.data.toList)→Below w.heap.size w w'→blockOf A=some w.heap.size→wpList P ops Q rest (a.put dst (.slice A s.size c)) w') :
  wpList P ops Q (⟨dst,.convert src dt x,tt,pos,after,none⟩ :: rest) a w:=by
 refine wpList_plain rfl fun K hK=>?_
 obtain⟨A,c,w',hr,h1,h2,h3⟩:=run_to_bytes (P:=P) (w:=w) src dt e base s hs hd he hbase hmax
 unfold Oper.wp execOp
 simp only [hx,Sem.run_bind,hr,Result.andThen_ok]
 exact hK _ _ (h A c w' h1 h2 h3)
theorem run_to_string (src dst e:TypeId) (A:Option Addr) (c:Nat) (l:List UInt8) (hs:P.underlying src=some (.slice e)) (he:P.underlying e=some (.int .u8)) (hd:P.underlying dst=some .string) (hr:Rd w 1 A l.length (u8s l)) :
  (convert src dst (.slice A l.length c)).run P w = .ok (.string ⟨l.toArray⟩) w:=by
 rcases Nat.eq_zero_or_pos l.length with h0 | h0
 ·have:l=[]:=List.eq_nil_of_length_eq_zero h0
  subst this
  show (convert src dst (.slice A 0 c)).run P w=_
  rw [run_convert_bytes_string w src dst e A 0 c hs he hd]
  cases A <;> simp [Conv.bytesToString,loadCells,loadCellsFrom] <;> rfl
 ·obtain⟨b,o,rfl,hx⟩:=hr.2 h0
  refine run_convert_bytes_back w src dst e ⟨b,o,none⟩ c l hs he hd (fun j hj=>?_)
  rw [addr_add]
  refine hx j _ ?_
  rw [u8s,List.getElem?_map,List.getElem?_eq_getElem hj];rfl
theorem wpList_to_string_lit {ops:Array Oper} {rest:List Oper} {a:Act} {Q:Exit→Act→World→Prop} {dst:Option Tmp} {src dt tt:TypeId} {x:Operand} {pos:String} {after:Array Edge}
  (e:TypeId) (A:Option Addr) (n c:Nat) (l:List UInt8) (hs:P.underlying src=some (.slice e)) (he:P.underlying e=some (.int .u8)) (hd:P.underlying dt=some .string) (hn:l.length=n) (hr:Rd w 1 A n (u8s l))
  (hx:a.eval x = .slice A n c) (h:wpList P ops Q rest (a.put dst (.string ⟨l.toArray⟩)) w) :
  wpList P ops Q (⟨dst,.convert src dt x,tt,pos,after,none⟩ :: rest) a w:=by
 refine wpList_plain rfl fun K hK=>?_
 subst hn
 have hr:=run_to_string (P:=P) (w:=w) src dt e A c l hs he hd hr
 unfold Oper.wp execOp
 simp only [hx,Sem.run_bind,hr,Result.andThen_ok]
 exact hK _ _ h
end
end Go.Proofs.YtnecjdhamohadaaGreatDoor
namespace Go.Proofs.YtnecjdhamohadaaGreatDoor
open Go.RowKit
section
variable {w:World} {base n c:Nat} {t:TypeId} {A:Option Addr} {xs:List Value}
theorem Own.spot (h:Own w base t 1 A n c xs) {j:Nat} (hj:j < n):∃ b o u,A=some ⟨b,o,none⟩∧base≤b∧b < w.heap.size∧xs[j]?=some u∧w.cell? ⟨b,o+j,none⟩=some u∧w.frozen? ⟨b,o+j,none⟩=false ∧
  ∀ v,Own (w.setCell ⟨b,o+j,none⟩ v) base t 1 A n c (xs.set j v):=by
 have hl:=h.1
 have hn:=h.2.1
 have hm:=h.2.2.1
 obtain⟨b,o,cur,fr,rfl,hb,hg,hf,hs,hx⟩:=h.at_ (by omega)
 have hjo:o+j < cur.size:=by omega
 have hjl:j < xs.length:=by omega
 refine⟨b,o,xs[j],rfl,hb,heap_lt hg,List.getElem?_eq_getElem hjl,?_,hf.cell hg hjo,fun v=>?_⟩
 ·rw [cell_of_row w b _ cur t _ hg,hx j (by omega),List.getElem?_eq_getElem]
 ·rw [setCell_eq_setRow w b (o+j) cur t fr v hg]
  refine⟨by rw [List.length_set];exact hl,hn,hm,.inr ⟨b,o,cur.setIfInBounds (o+j) v,fr,rfl,hb,setRow_heap w b cur _ t _ hg,by rw [Array.size_setIfInBounds];exact hf,by rw [Array.size_setIfInBounds];exact hs,fun i hi=>?_⟩⟩
  rw [Array.getElem?_setIfInBounds,List.getElem?_set]
  by_cases hij:j=i
  ·subst hij
   have:j < xs.length:=by omega
   simp [hjo,this]
  ·rw [if_neg (by omega),if_neg hij,hx i (by omega)]
end
end Go.Proofs.YtnecjdhamohadaaGreatDoor
namespace Go.Proofs.YtnecjdhamohadaaGreatDoor
open Go.RowKit
section
variable {P:Program} {w:World}
end
end Go.Proofs.YtnecjdhamohadaaGreatDoor
namespace Go.Proofs.YtnecjdhamohadaaGreatDoor
open Go.RowKit
theorem string_append_toList (a b:ByteArray):(a++b).data.toList=a.data.toList++b.data.toList:=by simp
theorem bytes_ext {a b:ByteArray} (h:a.data.toList=b.data.toList):a=b:=by
 cases a;cases b
 simp only [ByteArray.mk.injEq]
 exact Array.toList_inj.1 h
def strB (l:List UInt8):ByteArray:=⟨l.toArray⟩
theorem strB_list (l:List UInt8):(strB l).data.toList=l:=by simp [strB]
theorem strB_size (l:List UInt8):(strB l).size=l.length:=by show l.toArray.size=_;simp
theorem strB_of (s:ByteArray):strB s.data.toList=s:=by cases s;simp [strB]
theorem strB_eq {s:ByteArray} {l:List UInt8} (h:s.data.toList=l):s=strB l:=by rw [← h,strB_of]
theorem strB_append (a b:List UInt8):strB a++strB b=strB (a++b):=bytes_ext (by rw [string_append_toList,strB_list,strB_list,strB_list])
theorem extract_list (s:ByteArray) (a b:Nat):(s.extract a b).data.toList=(s.data.toList.drop a).take (b - a):=by
 rw [ByteArray.data_extract,Array.toList_extract,List.extract_eq_take_drop]
def strV (l:List (List UInt8)):List Value:=l.map fun r=>.string (strB r)
theorem strV_length (l:List (List UInt8)):(strV l).length=l.length:=by simp [strV]
theorem strV_snoc (l:List (List UInt8)) (r:List UInt8):strV l++[.string (strB r)]=strV (l++[r]):=by simp [strV]
theorem one_str {s:ByteArray}:∀ v∈[Value.string s],v.oneCell'=true:=by simp [Value.oneCell']
theorem info_str:(Tryz.prog.info? 9).map (fun i=>(i.zero,i.size,i.bytes))=some (some (.string ⟨#[]⟩),1,16):=by kernel_rfl
end Go.Proofs.YtnecjdhamohadaaGreatDoor
namespace Go.Proofs.YtnecjdhamohadaaGreatDoor
open Go.RowKit
def Box (w:World) (g:Nat) (cs:List Value):Prop:=∃ t,w.heap[g]?=some (.cells cs.toArray t (0,0))
section
variable {w w':World} {g:Nat} {cs:List Value}
theorem Box.cells (h:Box w g cs) (i:Nat):w.cell? ⟨g,i,none⟩=cs[i]?:=by
 obtain⟨t,h⟩:=h
 rw [cell_of_row w g i _ t _ h]
 simp
theorem Box.lt (h:Box w g cs):g < w.heap.size:=by
 obtain⟨t,h⟩:=h
 exact heap_lt h
theorem Box.keep (h:Box w g cs) (hk:w'.heap[g]?=w.heap[g]?):Box w' g cs:=by
 obtain⟨t,h⟩:=h
 exact⟨t,hk.trans h⟩
theorem Box.below {B:Nat} (h:Box w g cs) (hb:Below B w w') (hg:g < B):Box w' g cs:=h.keep (hb.block _ hg)
theorem Box.below_all (h:Box w g cs) (hb:Below w.heap.size w w'):Box w' g cs:=h.below hb h.lt
theorem Box.alloc (h:Box w g cs) (o:Obj):Box (w.alloc o) g cs:=h.keep (Below.heap_alloc w o _ h.lt)
theorem Box.drew (h:Box w g cs):Box w.drew g cs:=h
theorem Box.drewN (h:Box w g cs) (n:Nat):Box (w.drewN n) g cs:=h
theorem Box.other (h:Box w g cs) {p:Addr} (hp:g≠p.block) (v:Value):Box (w.setCell p v) g cs:=h.keep (Below.heap_setCell w p v g hp)
theorem Box.set (h:Box w g cs) (i:Nat) (v:Value):Box (w.setCell ⟨g,i,none⟩ v) g (cs.set i v):=by
 obtain⟨t,h⟩:=h
 refine⟨t,?_⟩
 rw [setCell_eq_setRow w g i _ t _ _ h,setRow_heap w g _ _ t _ h]
 simp
theorem Box.new (w:World) (cs:List Value) (t:TypeId):Box (w.alloc (.cells cs.toArray t)) w.heap.size cs:=⟨t,heap_alloc_new w _⟩
theorem Box.grown {row:Option Nat} (h:Box w g cs) (hg:w.grownBy w' row) (hr:some g≠row):Box w' g cs:=h.keep (hg.block g h.lt hr)
end
end Go.Proofs.YtnecjdhamohadaaGreatDoor
namespace Go.Proofs.YtnecjdhamohadaaGreatDoor
open Go.RowKit
set_option maxRecDepth 100000
theorem sbyte_any (w:World) (s:ByteArray) (c:Int):Calls Tryz.prog 101 #[.string s,.int .u8 c] w fun e w'=>e = .returned (.int .i64 (Lib.indexByte s.data.toList c.toNat.toUInt8))∧w'=w:=by
 go_enter Tryz.func101,Tryz.ntmps101
 go_wp2
 rw [run_callFunc_extern Tryz.func125 (by kernel_rfl) (by kernel_rfl) (by kernel_rfl) (e:=Extern.BytealgIndexByte.indexByte) (by kernel_rfl),Lib.run_indexByteString]
 simp only [Result.andThen]
 rw [Oper.upon_value]
 go_wp2
 go_ret
 exact⟨rfl,rfl⟩
theorem byteat_any (w:World) (s:ByteArray) (c:Int):Calls Tryz.prog 129 #[.string s,.int .u8 c] w fun e w'=>e = .returned (.int .i64 (Lib.indexByte s.data.toList c.toNat.toUInt8))∧w'=w:=by
 go_enter Tryz.func129,Tryz.ntmps129
 go_wp2_with (first | (go_at_call 101; refine (sbyte_any _ _ _).mono ?_;rintro e w2 ⟨rfl,rfl⟩))
 go_ret
 exact⟨rfl,rfl⟩
end Go.Proofs.YtnecjdhamohadaaGreatDoor
