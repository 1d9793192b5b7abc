/- Pb -/
import Derived.Test.YtjkinjbkknanbaaGreatDoorSa
import Derived.Test.YtjkinjbkknanbaaGreatDoorChecked
set_option maxRecDepth 100000
set_option maxHeartbeats 8000000
set_option linter.unusedSimpArgs false
set_option linter.unusedVariables false
namespace Go.Proofs.YtjkinjbkknanbaaGreatDoor
open Go.Proofs.Tryz
variable {P:Program} {a:Act} {w w' wr af:aRU} {b j g B k m c base K V:Nat} {cur:Array Value} {p:UInt8->Bool} {A:aRV} {s l:aR0} {x:Operand} {Q:aRX} {ops:Array Oper} {rest:List Oper} {F:Nat->Oper->Prop} {L:List UInt32} {v:Value} {dst:Option Tmp} {after:Array Edge}
section
open Go.RowKit
abbrev dU:Value:=Value.int IntKind.u8 0
abbrev jF:Value:=Value.int .u32 0
abbrev Bl (w w2:aRU):Prop:=Below w.heap.size w w2
abbrev CB (f:FuncId) (a:Array Value) (w:aRU) (v:Value):Prop:=Calls Tryz.prog f a w fun e w2=>e = .returned v/\Below w.heap.size w w2
abbrev CR (f:FuncId) (a:Array Value) (w:aRU) (v:Value) (R:World->Prop):Prop:=Calls Tryz.prog f a w fun e w2=>e = .returned v/\R w2
abbrev Sz (t:TypeId) (n:Nat):Prop:=(Tryz.prog.info? t).map (·.size)=some n
abbrev pp (g o:Nat):Value:=.pointer (some ⟨g,o,none⟩)
abbrev ad (g o:Nat):Addr:=⟨g,o,none⟩
theorem qB {fn:Func} {R:aRY} (h:R (.returned (.tuple #[])) w) (hf:fn.results=#[]:=by rfl) (aS:a.defers=[]:=by rfl):bodyPost P fn R .ret a w:=aQP (aRx hf _ _ _) aS h
theorem Dy (b o i:Nat):(⟨b,o,none⟩:Addr).add i=⟨b,o+i,none⟩:=by
 unfold Addr.add;split
 ·subst_vars;rfl
 ·rfl
def Rd (w:aRU) (aO:Nat) (A:aRV) (n:Nat) (xs:aRW):Prop :=
 xs.length=n * aO/\(0 < n->∃ b o,A=some ⟨b,o,none⟩/\∀ j u,xs[j]?=some u->w.cell? (ad b (o+j))=some u)
def YR (aZ:Nat × Nat) (n:Nat):Prop:=aZ=(0,0)\/aZ=(n,n+1)
theorem YR.cell {aZ:Nat × Nat} {t:TypeId} (h:YR aZ cur.size) (ae:w.heap[b]?=some (.cells cur t aZ)) (aC:j < cur.size):w.frozen? ⟨b,j,none⟩=false:=by
 rcases h with rfl | rfl <;> simp [World.frozen?,ae]
 omega
theorem adh (P:Program) (g o:Nat) (t:TypeId) (aZ:Nat × Nat):∀ (vs:aRW) (i:Nat) (cur:Array Value) (w:aRU),YR aZ cur.size->w.heap[g]?=some (.cells cur t aZ)->o+i+vs.length<=cur.size->(∀ v∈vs,v.oneCell'=true) ->
  (storeCells ⟨g,o,none⟩ vs i).run P w = .ok () (w.setRow g (cur.toList.take (o+i)++vs++cur.toList.drop (o+i+vs.length)).toArray)
 | [],i,cur,w,_,av,_,_=>by
  simp only [storeCells,List.append_nil,List.length_nil,Nat.add_zero,List.take_append_drop,Array.toArray_toList];rw [setRow_self w g cur t aZ av];rfl
 | v :: rest,i,cur,w,I,av,hl,h1=>by
  have J:o+i < cur.size:=by simp at hl;omega
  have hcell:w.cell? (ad g (o+i))=some cur[o+i]:=by simp [World.cell?,av,J]
  have M:w.frozen? ⟨g,o+i,none⟩=false:=I.cell av J;have Y:(store ((⟨g,o,none⟩:Addr).add i) v).run P w = .ok () (w.setRow g (cur.setIfInBounds (o+i) v)):=by rw [Dy,run_store P w _ v _ (h1 v sp),hcell];simp [M,setCell_eq_setRow w g (o+i) cur t aZ v av]
  have AA:=adh P g o t aZ rest (i+1) (cur.setIfInBounds (o+i) v) (w.setRow g (cur.setIfInBounds (o+i) v)) (by rw [Array.size_setIfInBounds];exact I) (aQU w g cur _ t _ av) (by simp at hl |-;omega) (fun x ah=>h1 x (by simp [ah]));simp only [storeCells,Sem.run_bind,Y,Result.andThen_ok,AA,setRow_setRow];congr 3;have e:=list_seg_step cur.toList (o+i) v rest (by simp at hl |-;omega);simpa [Array.toList_setIfInBounds,Nat.add_assoc] using e
def Own (w:aRU) (base:Nat) (t:TypeId) (aO:Nat) (A:aRV) (n c:Nat) (xs:aRW):Prop :=
 xs.length=n * aO/\n<=c/\c<=maxLen/\((A=none/\c=0)\/∃ b o cur aZ,A=some ⟨b,o,none⟩/\base<=b/\w.heap[b]?=some (.cells cur t aZ)/\YR aZ cur.size/\o+c * aO<=cur.size/\∀ j,j < n * aO->cur[o+j]?=xs[j]?)
def bM (A:aRV):Option Nat:=A.map (·.block)
section
variable {w w':aRU} {base aO n c:Nat} {t:TypeId} {A:aRV} {xs:aRW}
theorem iw {o:Obj} (h:w.heap[b]?=some o):b < w.heap.size:=by
 rcases aQW b w.heap.size with I | J
 ·exact I
 ·rw [Array.getElem?_eq_none J] at h;cases h
theorem Own.at_ (h:Own w base t aO A n c xs) (aV:0 < c):∃ b o cur aZ,A=some ⟨b,o,none⟩/\base<=b/\w.heap[b]?=some (.cells cur t aZ)/\YR aZ cur.size/\o+c * aO<=cur.size/\∀ j,j < n * aO->cur[o+j]?=xs[j]?:=by
 rcases h.2.2.2 with ⟨_,hc⟩ | h
 ·omega
 ·exact h
theorem Own.rd (h:Own w base t aO A n c xs):Rd w aO A n xs:=by
 have hA:=h.at_;obtain⟨hl,M,hm,_⟩:=h;refine⟨hl,fun Y=>?_⟩;obtain⟨b,o,cur,aZ,rfl,_,ae,_,hs,ah⟩:=hA om;refine⟨b,o,rfl,fun j u hu=>?_⟩;have aC:j < xs.length:=by
  rcases aQW j xs.length with I | J
  ·exact I
  ·rw [List.getElem?_eq_none J] at hu;cases hu
 rw [cell_of_row w b _ cur t _ ae,ah j om,hu]
theorem Own.nil (w:aRU) (base:Nat) (t:TypeId) (aO:Nat):Own w base t aO none 0 0 []:=⟨by simp,by simp,by simp,.inl ⟨rfl,rfl⟩⟩
theorem Own.block (h:Own w base t aO A n c xs):∀ b,bM A=some b->base<=b/\b < w.heap.size/\∃ cur aZ,w.heap[b]?=some (.cells cur t aZ):=by
 intro b ae;rcases h.2.2.2 with ⟨rfl,_⟩ | ⟨b',o,cur,aZ,rfl,I,av,_⟩
 ·simp [bM] at ae
 ·simp only [bM,Option.map_some,Option.some.injEq] at ae;subst ae;exact⟨I,iw av,cur,aZ,av⟩
theorem Own.ne {uX:TypeId} {cs:Array Value} {aZ:Nat × Nat} (h:Own w base t aO A n c xs) (av:w.heap[g]?=some (.cells cs uX aZ)) (bJ:t≠uX):bM A≠some g:=by
 intro e;obtain⟨_,_,cur,_,hc⟩:=h.block g e;rw [av] at hc;injection hc with hc
 injection hc with _ I
 exact bJ I.symm
theorem Own.keep (h:Own w base t aO A n c xs) (hk:∀ b,bM A=some b->base<=b->b < w.heap.size->w'.heap[b]?=w.heap[b]?):Own w' base t aO A n c xs:=by
 obtain⟨hl,I,hm,hc⟩:=h;refine⟨hl,I,hm,?_⟩;rcases hc with hc | ⟨b,o,cur,aZ,rfl,ae,av,hf,hs,ah⟩
 ·exact .inl hc
 ·exact .inr ⟨b,o,cur,aZ,rfl,ae,(hk b rfl ae (iw av)).trans av,hf,hs,ah⟩
theorem Own.drew (h:Own w base t aO A n c xs):Own w.drew base t aO A n c xs:=h
theorem Own.alloc (h:Own w base t aO A n c xs) (o:Obj):Own (w.alloc o) base t aO A n c xs:=h.keep fun _ _ _ ae=>aQ5 w o _ ae
theorem Own.mono {base':Nat} (h:Own w base t aO A n c xs) (ae:base'<=base):Own w base' t aO A n c xs:=by
 obtain⟨hl,I,hm,hc⟩:=h;refine⟨hl,I,hm,?_⟩;rcases hc with hc | ⟨b,o,cur,aZ,rfl,J,r⟩
 ·exact .inl hc
 ·exact .inr ⟨b,o,cur,aZ,rfl,om,r⟩
theorem Own.below (h:Own w base t aO A n c xs) (ae:Below B w w') (bf:w.heap.size<=B):Own w' base t aO A n c xs:=h.keep fun _ _ _ I=>ae.block _ om
theorem Own.setOther (h:Own w base t aO A n c xs) {p:Addr} (aI:bM A≠some p.block) (u:Value):Own (w.setCell p u) base t aO A n c xs :=
 h.keep fun b ae _ _=>aQX w p u b (fun e=>aI (by rw [ae,e]))
theorem Own.grown {row:Option Nat} (h:Own w base t aO A n c xs) (av:w.grownBy w' row) (ax:∀ b,bM A=some b->some b≠row):Own w' base t aO A n c xs :=
 h.keep fun b ae _ I=>av.block b I (ax b ae)
theorem Own.drop (h:Own w base t aO A n c xs) (hk:k<=n):Own w base t aO (if c=k then A else A.map (·.add (k * aO))) (n - k) (c - k) (xs.drop (k * aO)):=by
 obtain⟨hl,J,hm,hc⟩:=h;refine⟨by rw [List.length_drop,hl,Nat.sub_mul],om,om,?_⟩;rcases hc with ⟨rfl,hc⟩ | ⟨b,o,cur,aZ,rfl,ae,av,hf,hs,ah⟩
 ·exact .inl ⟨by simp,om⟩
 ·right;by_cases I:c=k
  ·rw [if_pos I];refine⟨b,o,cur,aZ,rfl,ae,av,hf,by rw [I,Nat.sub_self];omega,fun j aC=>?_⟩;rw [show n - k=0 by omega] at aC;omega
  ·rw [if_neg I];refine⟨b,o+k * aO,cur,aZ,by simp [Dy],ae,av,hf,?_,fun j aC=>?_⟩
   ·rw [Nat.sub_mul];have:k * aO<=c * aO:=aQ8 _ om;omega
   ·have M:k * aO<=n * aO:=aQ8 _ hk;rw [Nat.sub_mul] at aC;have:=ah (k * aO+j) om;rw [List.getElem?_drop,<- this];congr 1;omega
theorem Own.take (h:Own w base t aO A n c xs) (hk:k<=n):Own w base t aO A k c (xs.take (k * aO)):=by
 obtain⟨hl,I,hm,hc⟩:=h;have J:k * aO<=n * aO:=aQ8 _ hk;refine⟨by rw [List.length_take,hl];omega,om,hm,?_⟩;rcases hc with hc | ⟨b,o,cur,aZ,rfl,ae,av,hf,hs,ah⟩
 ·exact .inl hc
 ·refine .inr ⟨b,o,cur,aZ,rfl,ae,av,hf,hs,fun j aC=>?_⟩;rw [ah j om,List.getElem?_take,if_pos aC]
theorem Own.made (w:aRU) (cs:Array Value) (t:TypeId) (aO n c:Nat) (base:Nat) (ae:base<=w.heap.size) (aB:n<=c) (hm:c<=maxLen) (hs:cs.size=c * aO) :
  Own (w.alloc (.cells cs t)) base t aO (some ⟨w.heap.size,0,none⟩) n c (cs.toList.take (n * aO)):=by
 have:n * aO<=c * aO:=aQ8 _ aB;refine⟨by rw [List.length_take,Array.length_toList,hs];omega,aB,hm,.inr ⟨w.heap.size,0,cs,(0,0),rfl,ae,aQS w _,.inl rfl,om,fun j aC=>?_⟩⟩;rw [List.getElem?_take,if_pos aC,Nat.zero_add];simp
theorem Own.lit (w:aRU) (cs:Array Value) (t:TypeId) (aO n:Nat) (base:Nat) (ae:base<=w.heap.size) (hm:n<=maxLen) (hs:cs.size=n * aO) :
  Own (w.alloc (.cells cs t)) base t aO (some ⟨w.heap.size,0,none⟩) n n cs.toList:=by
 have h:=Own.made w cs t aO n n base ae (aQF _) hm hs;rw [List.take_of_length_le (by simp [hs])] at h;exact h
theorem Rd.adi (w:aRU) (cs:Array Value) (t:TypeId) (aO n:Nat) (hm:n<=maxLen) (hs:cs.size=n * aO):Rd (w.alloc (.cells cs t)) aO (some ⟨w.heap.size,0,none⟩) n cs.toList :=
 (Own.lit w cs t aO n 0 (aQQ _) hm hs).rd
theorem Rd.keep (h:Rd w aO A n xs) (hk:∀ b o u,bM A=some b->w.cell? (ad b o)=some u->w'.cell? (ad b o)=some u):Rd w' aO A n xs:=by obtain⟨hl,hc⟩:=h;refine⟨hl,fun I=>?_⟩;obtain⟨b,o,rfl,ah⟩:=hc I;exact⟨b,o,rfl,fun j u hu=>hk b _ _ rfl (ah j u hu)⟩
theorem Rd.alloc (h:Rd w aO A n xs) (o:Obj):Rd (w.alloc o) aO A n xs:=h.keep fun b I u _ hu=>by
 rw [World.cell?_alloc_lt _ _ _ (World.block_lt_of_cell? w _ hu)];exact hu
theorem Rd.below (h:Rd w aO A n xs) (ae:Below B w w') (bf:∀ b,bM A=some b->b < w.heap.size->b < B):Rd w' aO A n xs:=h.keep fun b I u J hu=>by
 rw [ae.cell (p:=ad b I) (bf b J (World.block_lt_of_cell? w _ hu))];exact hu
theorem Rd.gz (h:Rd w aO A n xs) (ae:Bl w w'):Rd w' aO A n xs:=h.below ae fun _ _ h=>h
theorem Rd.none_ (w:aRU) (aO:Nat) (A:aRV):Rd w aO A 0 []:=⟨by simp,fun h=>absurd h om⟩
theorem Rd.cell (h:Rd w aO A n xs) (aC:j < xs.length):∃ b o,A=some ⟨b,o,none⟩/\w.cell? (ad b (o+j))=some xs[j]:=by obtain⟨b,o,rfl,ah⟩:=h.2 (Nat.pos_of_ne_zero fun I=>by have:=h.1;subst I;omega);exact⟨b,o,rfl,ah j _ (aQI aC)⟩
end
def Src (P:Program) (w:aRU) (u:TypeId) (aO:Nat) (x:Value) (m:Nat) (news:aRW):Prop :=
 news.length=m * aO/\((∃ e,P.underlying u=some (.slice e))\/P.underlying u=some .string)/\(∀ k,(Builtin.lenOf x).run P (w.drewN k) = .ok m (w.drewN k))/\∀ k,(Builtin.firstCells aO m x).run P (w.drewN k) = .ok news.toArray (w.drewN k)
section
variable {P:Program} {w:aRU}
theorem Src.slice {aO:Nat} {news:aRW} {u e:TypeId} (hu:P.underlying u=some (.slice e)) (h:Rd w aO A m news):Src P w u aO (.slice A m c) m news:=by
 refine⟨h.1,.inl ⟨_,hu⟩,fun k=>by simp [Builtin.lenOf],fun k=>?_⟩;rcases aQ2 m with I | I
 ·subst I;have:news=[]:=aQV (by simpa using h.1);subst this;cases A <;> simp [Builtin.firstCells,loadCells,loadCellsFrom]
 ·obtain⟨b,o,rfl,ah⟩:=h.2 I;exact run_firstCells_some (P:=P) (w.drewN k) aO m ⟨b,o,none⟩ m c news h.1 (fun j v J=>by rw [Dy];exact ah j v J)
theorem Src.str {s:ByteArray} {u:TypeId} (hu:P.underlying u=some .string):Src P w u 1 (.string s) s.size (s.data.toList.map fun b=>Value.int .u8 b.toNat):=by refine⟨by simp,.inr hu,fun k=>by simp [Builtin.lenOf],fun k=>?_⟩;simp [Builtin.firstCells];apply Array.toList_inj.1;simp
theorem ayz (t u ty e:TypeId) (i:TypeInfo) (z:Value) (aO bytes:Nat) (az:P.underlying t=some (.slice e)) (ay:P.info? e=some i) (dm:i.zero=some z)
  (ahD:i.size=aO) (Og:i.bytes=bytes) (Kv:z.cells.size=aO)
  {n:Nat} {xs:aRW} (bU:Own w base e aO A n c xs)
  {x:Value} {news:aRW} (uZ:Src P w u aO x m news) (h1:∀ v∈news,v.oneCell'=true)
  (uG:n+m<=maxLen) (Kw:(n+m) * bytes<=140737488355328) (sF:base<=w.heap.size) :
  ∃ A' c' w',(Builtin.append_ #[t,u] ty #[.slice A n c,x]).run P w = .ok (.slice A' (n+m) c') w'/\Own w' base e aO A' (n+m) c' (xs++news)/\w.grownBy w' (bM A) /\
   (bM A'=bM A\/bM A'=some w.heap.size):=by
 subst ahD;subst Og;have Ao:n+m<=9223372036854775807:=by simp only [maxLen] at uG;omega
 obtain⟨hl,Ap,AX,hc⟩:=bU;obtain⟨M,I,hlen,AB⟩:=uZ;have J:=hlen 0;have AZ:(xs++news).length=(n+m) * i.size:=by rw [List.length_append,hl,M,Nat.add_mul]
 by_cases Y:n+m<=c
 ·
  rcases aQ2 c with AA | AA
  ·subst AA;obtain rfl:n=0:=om;obtain rfl:m=0:=om;have AP:xs=[]:=aQV (by simpa using hl);have Ae:news=[]:=aQV (by simpa using M);subst AP Ae;refine⟨A,0,w,?_,⟨by simp,aQF _,AX,hc⟩,⟨rfl,rfl,rfl,aQF _,fun _ _ _=>rfl⟩,.inl rfl⟩;have hf:=AB 0;simp only [World.drewN_zero] at hf J;rcases I with ⟨_,I⟩ | I <;> cases A <;> simp [Builtin.append_,run_underlying az,run_underlying I,sizeOf,typeInfo,ay,J,hf,storeCells]
  ·obtain⟨b,o,cur,aZ,rfl,ae,av,AQ,hs,ah⟩:=hc.resolve_left (fun e=>by omega);have Aq:n * i.size+news.length<=c * i.size:=by rw [M,<- Nat.add_mul];exact aQ8 _ Y
   have Aa:=adh P b (o+n * i.size) e aZ news 0 cur w AQ av om h1;simp only [Nat.add_zero] at Aa;have hf:=AB 0;simp only [World.drewN_zero] at hf J;refine⟨some ⟨b,o,none⟩,c,w.setRow b (cur.toList.take (o+n * i.size)++news++cur.toList.drop (o+n * i.size+news.length)).toArray,?_,?_,?_,.inl rfl⟩
   ·rcases I with ⟨_,I⟩ | I <;> simp [Builtin.append_,run_underlying az,run_underlying I,sizeOf,typeInfo,ay,J,hf,Y,Dy,Aa]
   ·refine⟨AZ,Y,AX,.inr ⟨b,o,_,aZ,rfl,ae,aQU w b cur _ e _ av,?_,?_,fun j aC=>?_⟩⟩
    ·simp only [List.size_toArray,List.length_append,List.length_take,List.length_drop,Array.length_toList];rw [show min (o+n * i.size) cur.size+news.length+(cur.size - (o+n * i.size+news.length))=cur.size by omega];exact AQ
    ·simp only [List.size_toArray,List.length_append,List.length_take,List.length_drop,Array.length_toList];omega
    ·have Ac:(cur.toList.take (o+n * i.size)).length=o+n * i.size:=by rw [List.length_take,Array.length_toList];omega
     simp only [List.getElem?_toArray];rw [List.append_assoc];by_cases Af:j < n * i.size
     ·rw [List.getElem?_append_left om,List.getElem?_append_left om,List.getElem?_take,if_pos om,<- ah j Af];simp
     ·rw [Nat.add_mul] at aC;rw [List.getElem?_append_right om,List.getElem?_append_left om,List.getElem?_append_right (l₁:=xs) om];congr 1;omega
   ·exact⟨rfl,rfl,rfl,by simp,fun k _ hk=>aQT w b k _ (fun e=>hk (by simp [bM,e]))⟩
 ·
  have AU:=grownCap_ge w (n+m) c e;have Ag:grownCap w (n+m) c e<=maxLen:=grownCap_le_maxLen w (n+m) c e uG;have Ah:¬ (9223372036854775807 < ((n:Int)+(m:Int))):=om;have Ak:¬ (281474976710656 < Builtin.nextslicecap (n+m) c * i.bytes):=by have:=growslice_fits (need:=n+m) (old:=c) om Kw;omega
  have hf:=AB 1;have Ad:(Builtin.firstCells i.size n (.slice A n c)).run P (w.drewN 1) = .ok xs.toArray (w.drewN 1):=by
   rcases aQ2 c with AA | AA
   ·obtain rfl:n=0:=om;have AP:xs=[]:=aQV (by simpa using hl);subst AP;cases A <;> simp [Builtin.firstCells,loadCells,loadCellsFrom]
   ·obtain⟨b,o,cur,aZ,rfl,ae,av,AQ,hs,ah⟩:=hc.resolve_left (fun e=>by omega);refine run_firstCells_some (P:=P) (w.drewN 1) i.size n ⟨b,o,none⟩ n c xs hl (fun j v AV=>?_);have aC:j < xs.length:=by
     rcases aQW j xs.length with Ac | AU
     ·exact Ac
     ·rw [List.getElem?_eq_none AU] at AV;cases AV
    rw [Dy];show w.cell? _=_;rw [cell_of_row w b _ cur e _ av,ah j om,AV]
  have Al:w.drewN 1=w.drew:=rfl;rw [Al] at hf Ad;simp only [World.drewN_zero] at J;refine⟨some ⟨w.heap.size,0,none⟩,grownCap w (n+m) c e,w.drew.alloc (.cells (xs.toArray++news.toArray++Builtin.zeroCells z.cells (grownCap w (n+m) c e - (n+m))) e),?_,?_,?_,.inr rfl⟩
  ·rcases I with ⟨_,I⟩ | I <;> simp [Builtin.append_,run_underlying az,run_underlying I,sizeOf,typeInfo,zeroValue,ay,dm,J,Y,Ah,Ak,Question.forced,hf,Ad,newRow,grownCap,-List.append_toArray]
  ·have Am:(xs.toArray++news.toArray++Builtin.zeroCells z.cells (grownCap w (n+m) c e - (n+m))).size=grownCap w (n+m) c e * i.size:=by simp only [Array.size_append,List.size_toArray,size_zeroCells,Kv,hl,M,<- Nat.add_mul];congr 1;omega
   have h:=Own.made w.drew (xs.toArray++news.toArray++Builtin.zeroCells z.cells (grownCap w (n+m) c e - (n+m))) e i.size (n+m) _ base sF AU Ag Am;have az:(xs.toArray++news.toArray++Builtin.zeroCells z.cells (grownCap w (n+m) c e - (n+m))).toList.take ((n+m) * i.size)=xs++news:=by simp only [Array.toList_append];rw [<- AZ];exact List.take_left
   rw [az] at h;exact h
  ·exact⟨rfl,rfl,rfl,by simp,fun k hk _=>aQ5 w.drew _ k hk⟩
theorem ayB {o:Oper} {K:Act->World->Prop} (s x:Operand) (t u:TypeId)
  (aG:o.op = .call { callee:=.builtin .append,args:=#[s,x],argTypes:=#[t,u] })
  (e:TypeId) (z:Value) (aO bytes:Nat) (az:P.underlying t=some (.slice e)) (ay:(P.info? e).map (fun i=>(i.zero,i.size,i.bytes))=some (some z,aO,bytes)) (Kv:z.cells.size=aO)
  (base:Nat) (A:aRV) (n c:Nat) (xs:aRW) (hs:a.eval s = .slice A n c) (bU:Own w base e aO A n c xs)
  (m:Nat) (news:aRW) (v:Value) (ah:a.eval x=v) (uZ:Src P w u aO v m news) (h1:∀ v∈news,v.oneCell'=true)
  (uG:n+m<=maxLen) (Kw:(n+m) * bytes<=140737488355328) (sF:base<=w.heap.size)
  (h:∀ A' c' w',Own w' base e aO A' (n+m) c' (xs++news)->w.grownBy w' (bM A)->(bM A'=bM A\/bM A'=some w.heap.size)->K (a.put o.dst (.slice A' (n+m) c')) w'):o.wp P a w K Q:=by
 obtain⟨i,I,J,M,Y⟩:=info_parts ay;obtain⟨A',c',w',AA,AB,AP,AQ⟩:=ayz (P:=P) t u o.type e i z aO bytes az I J M Y Kv bU uZ h1 uG Kw sF;unfold Oper.wp execOp;simp only [aG,resolve,invoke,builtin,Sem.run_bind,Sem.run_pure,Result.andThen_ok,List.map_toArray,List.map_cons,List.map_nil,hs,ah,AA];exact h A' c' w' AB AP AQ
theorem ayC {o:Oper} (ayD:o.guard=none) (s x:Operand) (t u:TypeId)
  (aG:o.op = .call { callee:=.builtin .append,args:=#[s,x],argTypes:=#[t,u] })
  (e:TypeId) (z:Value) (aO bytes:Nat) (az:P.underlying t=some (.slice e)) (ay:(P.info? e).map (fun i=>(i.zero,i.size,i.bytes))=some (some z,aO,bytes)) (Kv:z.cells.size=aO)
  (base:Nat) (A:aRV) (n c:Nat) (xs:aRW) (hs:a.eval s = .slice A n c) (bU:Own w base e aO A n c xs)
  (m:Nat) (news:aRW) (v:Value) (ah:a.eval x=v) (uZ:Src P w u aO v m news) (h1:∀ v∈news,v.oneCell'=true)
  (uG:n+m<=maxLen) (Kw:(n+m) * bytes<=140737488355328) (sF:base<=w.heap.size)
  (h:∀ A' c' w',Own w' base e aO A' (n+m) c' (xs++news)->w.grownBy w' (bM A)->(bM A'=bM A\/bM A'=some w.heap.size)->wpList P ops Q rest (a.put o.dst (.slice A' (n+m) c')) w'):wpList P ops Q (o :: rest) a w :=
 aQ6 ayD fun _ I=>ayB s x t u aG e z aO bytes az ay Kv base A n c xs hs bU m news v ah uZ h1 uG Kw sF fun A' c' w' J M Y=>I _ _ (h A' c' w' J M Y)
end
end
section
open Go.RowKit
section
variable {P:Program} {w:aRU}
def laid (cur:Array Value) (o:Nat) (vs:aRW):Array Value:=(cur.toList.take o++vs++cur.toList.drop (o+vs.length)).toArray
theorem an9 {cur:Array Value} {o:Nat} {vs:aRW} (h:o+vs.length<=cur.size) (j:Nat) :
  (laid cur o vs)[j]?=if j < o then cur[j]? else if j < o+vs.length then vs[j - o]? else cur[j]?:=by
 have I:(cur.toList.take o).length=o:=by rw [List.length_take,Array.length_toList];omega
 simp only [laid,List.getElem?_toArray,List.append_assoc];split
 ·rw [List.getElem?_append_left om,List.getElem?_take,if_pos om];simp
 ·rw [List.getElem?_append_right om,I];split
  ·rw [List.getElem?_append_left om]
  ·rw [List.getElem?_append_right om,List.getElem?_drop,<- Array.getElem?_toList];congr 1;omega
theorem EB {cur:Array Value} {vs:aRW} (h:vs.length=cur.size):laid cur 0 vs=vs.toArray:=by simp only [laid,List.take_zero,List.nil_append,Nat.zero_add];rw [List.drop_of_length_le (by simp;omega),List.append_nil]
theorem aoa {o:Oper} {a:Act} {K:Act->World->Prop} {Q:aRX} (ty:TypeId) (x v:Operand) (aG:o.op = .store ty x v)
  (g off:Nat) (ah:a.eval x = .pointer (some ⟨g,off,none⟩)) (val:Value) (bg:a.eval v=val) (vs:aRW) (oq:val.cells.toList=vs) (cur:Array Value) (t:TypeId) (av:w.heap[g]?=some (.cells cur t (0,0)))
  (ay:(P.info? ty).map (·.size)=some vs.length) (rO:off+vs.length<=cur.size) (h1:∀ v∈vs,v.oneCell'=true)
  (h:K (a.put o.dst undef) (w.setRow g (laid cur off vs))):o.wp P a w K Q:=by
 have I:(storeCells ⟨g,off,none⟩ vs).run P w = .ok () (w.setRow g (laid cur off vs)):=by have I:=run_storeCells_at P g off t vs 0 cur w av om h1;simp only [Nat.add_zero] at I;exact I
 cases J:P.info? ty with
 | none=>simp [J] at ay
 | some i =>
  have hs:i.size=vs.length:=by simpa [J] using ay
  have hcs:val.cells.size=vs.length:=by rw [<- oq];simp
  unfold Oper.wp execOp;simp [aG,ah,bg,Instr.storeAt,Instr.sureAddr,storeVar,sizeOf,typeInfo,J,hs,hcs,oq,I];exact h
theorem yH {ops:Array Oper} {rest:List Oper} {a:Act} {Q:aRX} {dst:Option Tmp} {ty ic:TypeId} {x v:Operand} {pos:String} {after:Array Edge}
  (g off:Nat) (val:Value) (vs:aRW) (oq:val.cells.toList=vs) (cur:Array Value) (t:TypeId) (av:w.heap[g]?=some (.cells cur t (0,0)))
  (ay:(P.info? ty).map (·.size)=some vs.length) (rO:off+vs.length<=cur.size) (h1:∀ v∈vs,v.oneCell'=true)
  (xk:a.eval x = .pointer (some ⟨g,off,none⟩)/\a.eval v=val)
  (h:wpList P ops Q rest (a.put dst undef) (w.setRow g (laid cur off vs))):wpList P ops Q (⟨dst,.store ty x v,ic,pos,after,none⟩ :: rest) a w :=
 aQ6 rfl fun _ I=>aoa ty x v rfl g off xk.1 val xk.2 vs oq cur t av ay rO h1 (I _ _ h)
abbrev Cs (d:TypeDesc):Bool:=match d with | .struct _ | .array _ _=>true | _=>false
theorem ahG {o:Oper} {a:Act} {K:Act->World->Prop} {Q:aRX} (ty:TypeId) (x:Operand) (aG:o.op = .load ty x)
  (g off:Nat) (ah:a.eval x = .pointer (some ⟨g,off,none⟩)) (cur:Array Value) (t:TypeId) (aZ:Nat × Nat) (av:w.heap[g]?=some (.cells cur t aZ)) (vs:aRW)
  (oq:∀ j,j < vs.length->cur[off+j]?=vs[j]?) (d:TypeDesc)
  (hu:P.underlying ty=some d) (aS:Cs d=true) (ay:(P.info? ty).map (·.size)=some vs.length)
  (h:K (a.put o.dst (.agg vs.toArray)) w):o.wp P a w K Q:=by
 unfold Cs at aS;have hl:(loadCells ⟨g,off,none⟩ vs.length).run P w = .ok vs.toArray w :=
  run_loadCells_list (P:=P) w ⟨g,off,none⟩ vs (fun j v I=>by
   have aC:j < vs.length:=by
    rcases aQW j vs.length with M | Y
    ·exact M
    ·rw [List.getElem?_eq_none Y] at I;cases I
   rw [Dy,cell_of_row w g _ cur t aZ av,oq j aC,I]);cases J:P.info? ty with
 | none=>simp [J] at ay
 | some i =>
  have hs:i.size=vs.length:=by simpa [J] using ay
  have AA:(isAgg ty).run P w = .ok true w:=by unfold isAgg;rw [Sem.run_bind,run_underlying hu w];cases d <;> simp_all
  unfold Oper.wp execOp;simp [aG,ah,Instr.loadAt,Instr.sureAddr,loadVar,Sem.run_bind,AA,sizeOf,typeInfo,J,hs,hl];exact h
theorem ayE {a:Act} {K:Act->World->Prop} {Q:aRX} {dst:Option Tmp} {ty ic:TypeId} {x:Operand} {pos:String} {after:Array Edge} {jP:Option (Nat × Bool)}
  (g off:Nat) (cur:Array Value) (t:TypeId) (aZ:Nat × Nat) (av:w.heap[g]?=some (.cells cur t aZ)) (vs:aRW)
  (oq:∀ j,j < vs.length->cur[off+j]?=vs[j]?) (d:TypeDesc) (hu:P.underlying ty=some d) (ay:(P.info? ty).map (·.size)=some vs.length)
  (ah:a.eval x = .pointer (some ⟨g,off,none⟩)/\Cs d=true)
  (h:K (a.put dst (.agg vs.toArray)) w):Oper.wp P ⟨dst,.load ty x,ic,pos,after,jP⟩ a w K Q :=
 ahG ty x rfl g off ah.1 cur t aZ av vs oq d hu ah.2 ay h
theorem QJ {ops:Array Oper} {rest:List Oper} {a:Act} {Q:aRX} {dst:Option Tmp} {ty ic:TypeId} {x:Operand} {pos:String} {after:Array Edge}
  (g off:Nat) (cur:Array Value) (t:TypeId) (aZ:Nat × Nat) (av:w.heap[g]?=some (.cells cur t aZ)) (vs:aRW)
  (oq:∀ j,j < vs.length->cur[off+j]?=vs[j]?) (d:TypeDesc) (hu:P.underlying ty=some d) (ay:(P.info? ty).map (·.size)=some vs.length)
  (ah:a.eval x = .pointer (some ⟨g,off,none⟩)/\Cs d=true)
  (h:wpList P ops Q rest (a.put dst (.agg vs.toArray)) w):wpList P ops Q (⟨dst,.load ty x,ic,pos,after,none⟩ :: rest) a w :=
 aQ6 rfl fun _ I=>ahG ty x rfl g off ah.1 cur t aZ av vs oq d hu ah.2 ay (I _ _ h)
theorem Wq {ops:Array Oper} {rest:List Oper} {a:Act} {Q:aRX} {dst:Option Tmp} {t ic:TypeId} {parts:Array (Nat × Operand)} {pos:String} {after:Array Edge}
  (cells:Array Value) (hf:P.built t (parts.map fun (i,x)=>(i,a.eval x)).toList=some cells)
  (h:wpList P ops Q rest (a.put dst (.agg cells)) w):wpList P ops Q (⟨dst,.build t parts,ic,pos,after,none⟩ :: rest) a w :=
 aQ6 rfl fun _ I=>wp_build t parts rfl (by rw [hf];rfl) (I _ _ (by rw [hf];exact h))
theorem vg {ops:Array Oper} {rest:List Oper} {a:Act} {Q:aRX} {dst:Option Tmp} {ic:TypeId} {s x:Operand} {t u:TypeId} {pos:String} {after:Array Edge}
  (e:TypeId) (z:Value) (aO bytes:Nat) (az:P.underlying t=some (.slice e)) (ay:(P.info? e).map (fun i=>(i.zero,i.size,i.bytes))=some (some z,aO,bytes)) (Kv:z.cells.size=aO)
  (base:Nat) (A:aRV) (n c:Nat) (xs:aRW) (bU:Own w base e aO A n c xs)
  (m:Nat) (news:aRW) (v:Value) (uZ:Src P w u aO v m news) (h1:∀ v∈news,v.oneCell'=true)
  (uG:n+m<=maxLen) (Kw:(n+m) * bytes<=140737488355328) (sF:base<=w.heap.size) (zM:a.eval s = .slice A n c/\a.eval x=v)
  (h:∀ A' c' w',Own w' base e aO A' (n+m) c' (xs++news)->w.grownBy w' (bM A)->(bM A'=bM A\/bM A'=some w.heap.size)->wpList P ops Q rest (a.put dst (.slice A' (n+m) c')) w') :
  wpList P ops Q (⟨dst,.call ⟨.builtin .append,#[s,x],#[t,u]⟩,ic,pos,after,none⟩ :: rest) a w :=
 ayC rfl s x t u rfl e z aO bytes az ay Kv base A n c xs zM.1 bU m news v zM.2 uZ h1 uG Kw sF h
end
theorem aob {P:Program} {f:FuncId} {args:Array Value} {w:aRU} {a n:Nat} {v:Value} (h:Calls P f args (w.drewN (a+n)) fun e w'=>e = .returned v/\w.drewN (a+n)=w') :
  Calls P f args (w.drewN (a+n)) fun e YU=>e = .returned v/\∃ m,YU=w.drewN (a+m):=h.mono fun _ _ ⟨he,hw⟩=>⟨he,n,hw.symm⟩
theorem ayF {w:aRU} {g:Nat} {o:Option Obj} (n:Nat) (h:w.heap[g]?=o):(w.drewN n).heap[g]?=o:=h
def AJ (p:Prop):Prop:=Unit->p
theorem aa {p:Prop} (h:p):AJ p:=fun _=>h
theorem AJ.o {p:Prop} (h:AJ p):p:=h ()
theorem jr {P:Program} {f:FuncId} {args:Array Value} {w:aRU} {v:Ending} {A:World->Prop} {Q:aRY} (h:Calls P f args w fun e w'=>e=v/\A w') (k:∀ w',AJ (A w')->Q v w'):Calls P f args w Q:=h.mono fun e w' ⟨h1,I⟩=>by rw [h1];exact k w' (aa I)
theorem GY {P:Program} {f:FuncId} {args:Array Value} {w:aRU} {v:Ending} {A B:World->Prop} {Q:aRY} (h:Calls P f args w fun e w'=>e=v/\A w'/\B w') (k:∀ w',AJ (A w')->AJ (B w')->Q v w'):Calls P f args w Q:=h.mono fun e w' ⟨h1,I,J⟩=>by rw [h1];exact k w' (aa I) (aa J)
theorem gQ {w w1:aRU} {o:Obj} (h:w1=w.alloc o):Bl w w1:=by rw [h];exact (Below.refl _ _).alloc (aQF _) _
theorem aoc {α:Sort _} {A Q:α->Prop} (h:∀ x,AJ (A x)->Q x):∀ x,A x->Q x:=fun x a=>h x (aa a)
theorem zN {α:Sort _} {A B Q:α->Prop} (h:∀ x,AJ (A x)->AJ (B x)->Q x):∀ x,A x->B x->Q x:=fun x a b=>h x (aa a) (aa b)
theorem aU {a b c:aRU} (h:Bl a b) (k:Bl b c):Bl a c:=h.trans (k.mono h.size)
theorem gq {p q:Prop} (h:¬p:=by decide):p->q:=fun e=>absurd e h
theorem iD {w:aRU} {o:Obj}:Bl w (w.alloc o):=(Below.refl _ _).alloc (aQF _) _
theorem mV {P:Prop} (h:P:=by (unfold maxLen;omega)):P:=h
theorem qK (l:aRW):(Value.agg l.toArray).cells.toList=l:=by simp [Value.cells]
theorem YV (l:aRW) (j:Nat):l.toArray[0+j]?=l[j]?:=by rw [Nat.zero_add,List.getElem?_toArray]
theorem Kz {B:Nat} {a w:aRU} (h:Below B a w) {g:Nat} (av:B<=g) (cs:Array Value):Below B a (w.setRow g cs) :=
 h.trans ⟨rfl,rfl,rfl,by simp,fun k hk=>aQT w g k cs om⟩
theorem below_drewN {B:Nat} {a w:aRU} (h:Below B a w) (n:Nat):Below B a (w.drewN n):=⟨h.os,h.tape,h.output,h.size,h.block⟩
theorem hq3 {a b c:Prop} (a1:a) (b1:b) (c1:c):AJ a/\AJ b/\AJ c:=⟨aa a1,aa b1,aa c1⟩
theorem hq4 {a b c d:Prop} (a1:a) (b1:b) (c1:c) (d1:d):AJ a/\AJ b/\AJ c/\AJ d:=⟨aa a1,aa b1,aa c1,aa d1⟩
theorem hq5 {a b c d e:Prop} (a1:a) (b1:b) (c1:c) (d1:d) (e1:e):AJ a/\AJ b/\AJ c/\AJ d/\AJ e:=⟨aa a1,aa b1,aa c1,aa d1,aa e1⟩
theorem hq6 {a b c d e f:Prop} (a1:a) (b1:b) (c1:c) (d1:d) (e1:e) (f1:f):AJ a/\AJ b/\AJ c/\AJ d/\AJ e/\AJ f:=⟨aa a1,aa b1,aa c1,aa d1,aa e1,aa f1⟩
theorem hq7 {a b c d e f g:Prop} (a1:a) (b1:b) (c1:c) (d1:d) (e1:e) (f1:f) (g1:g):AJ a/\AJ b/\AJ c/\AJ d/\AJ e/\AJ f/\AJ g:=⟨aa a1,aa b1,aa c1,aa d1,aa e1,aa f1,aa g1⟩
theorem hq8 {a b c d e f g h:Prop} (a1:a) (b1:b) (c1:c) (d1:d) (e1:e) (f1:f) (g1:g) (h1:h):AJ a/\AJ b/\AJ c/\AJ d/\AJ e/\AJ f/\AJ g/\AJ h:=⟨aa a1,aa b1,aa c1,aa d1,aa e1,aa f1,aa g1,aa h1⟩
theorem hq9 {a b c d e f g h i:Prop} (a1:a) (b1:b) (c1:c) (d1:d) (e1:e) (f1:f) (g1:g) (h1:h) (i1:i):AJ a/\AJ b/\AJ c/\AJ d/\AJ e/\AJ f/\AJ g/\AJ h/\AJ i:=⟨aa a1,aa b1,aa c1,aa d1,aa e1,aa f1,aa g1,aa h1,aa i1⟩
theorem hq10 {a b c d e f g h i j:Prop} (a1:a) (b1:b) (c1:c) (d1:d) (e1:e) (f1:f) (g1:g) (h1:h) (i1:i) (j1:j):AJ a/\AJ b/\AJ c/\AJ d/\AJ e/\AJ f/\AJ g/\AJ h/\AJ i/\AJ j:=⟨aa a1,aa b1,aa c1,aa d1,aa e1,aa f1,aa g1,aa h1,aa i1,aa j1⟩
theorem hq11 {a b c d e f g h i j k:Prop} (a1:a) (b1:b) (c1:c) (d1:d) (e1:e) (f1:f) (g1:g) (h1:h) (i1:i) (j1:j) (k1:k):AJ a/\AJ b/\AJ c/\AJ d/\AJ e/\AJ f/\AJ g/\AJ h/\AJ i/\AJ j/\AJ k:=⟨aa a1,aa b1,aa c1,aa d1,aa e1,aa f1,aa g1,aa h1,aa i1,aa j1,aa k1⟩
theorem hq12 {a b c d e f g h i j k l:Prop} (a1:a) (b1:b) (c1:c) (d1:d) (e1:e) (f1:f) (g1:g) (h1:h) (i1:i) (j1:j) (k1:k) (l1:l):AJ a/\AJ b/\AJ c/\AJ d/\AJ e/\AJ f/\AJ g/\AJ h/\AJ i/\AJ j/\AJ k/\AJ l:=⟨aa a1,aa b1,aa c1,aa d1,aa e1,aa f1,aa g1,aa h1,aa i1,aa j1,aa k1,aa l1⟩
theorem hq13 {a b c d e f g h i j k l m:Prop} (a1:a) (b1:b) (c1:c) (d1:d) (e1:e) (f1:f) (g1:g) (h1:h) (i1:i) (j1:j) (k1:k) (l1:l) (m1:m):AJ a/\AJ b/\AJ c/\AJ d/\AJ e/\AJ f/\AJ g/\AJ h/\AJ i/\AJ j/\AJ k/\AJ l/\AJ m:=⟨aa a1,aa b1,aa c1,aa d1,aa e1,aa f1,aa g1,aa h1,aa i1,aa j1,aa k1,aa l1,aa m1⟩
theorem hq14 {a b c d e f g h i j k l m n:Prop} (a1:a) (b1:b) (c1:c) (d1:d) (e1:e) (f1:f) (g1:g) (h1:h) (i1:i) (j1:j) (k1:k) (l1:l) (m1:m) (n1:n):AJ a/\AJ b/\AJ c/\AJ d/\AJ e/\AJ f/\AJ g/\AJ h/\AJ i/\AJ j/\AJ k/\AJ l/\AJ m/\AJ n:=⟨aa a1,aa b1,aa c1,aa d1,aa e1,aa f1,aa g1,aa h1,aa i1,aa j1,aa k1,aa l1,aa m1,aa n1⟩
theorem hq15 {a b c d e f g h i j k l m n o:Prop} (a1:a) (b1:b) (c1:c) (d1:d) (e1:e) (f1:f) (g1:g) (h1:h) (i1:i) (j1:j) (k1:k) (l1:l) (m1:m) (n1:n) (o1:o):AJ a/\AJ b/\AJ c/\AJ d/\AJ e/\AJ f/\AJ g/\AJ h/\AJ i/\AJ j/\AJ k/\AJ l/\AJ m/\AJ n/\AJ o:=⟨aa a1,aa b1,aa c1,aa d1,aa e1,aa f1,aa g1,aa h1,aa i1,aa j1,aa k1,aa l1,aa m1,aa n1,aa o1⟩
theorem hq16 {a b c d e f g h i j k l m n o p:Prop} (a1:a) (b1:b) (c1:c) (d1:d) (e1:e) (f1:f) (g1:g) (h1:h) (i1:i) (j1:j) (k1:k) (l1:l) (m1:m) (n1:n) (o1:o) (p1:p):AJ a/\AJ b/\AJ c/\AJ d/\AJ e/\AJ f/\AJ g/\AJ h/\AJ i/\AJ j/\AJ k/\AJ l/\AJ m/\AJ n/\AJ o/\AJ p:=⟨aa a1,aa b1,aa c1,aa d1,aa e1,aa f1,aa g1,aa h1,aa i1,aa j1,aa k1,aa l1,aa m1,aa n1,aa o1,aa p1⟩
end
section
open Go.RowKit
def oH (T:Array Value):List Oper->(Nat->Value)->Nat->Array Value
 | [],_,_=>T
 | o :: r,u,k=>oH (match o.dst with | some d=>T.setIfInBounds d (u k) | none=>T) r u (k+1)
def adj (d:Tmp) (r:List Oper):Bool:=r.any fun o=>o.dst == some d
def KC:List Oper->Bool
 | []=>true
 | o :: r=>(match o.dst with | some d=>!adj d r | none=>true) && KC r
def o5 {α:Type} (u:Nat->α) (i:Nat) (v:α):Nat->α:=fun j=>if j=i then v else u j
theorem ayG (l:List Oper):∀ (T:Array Value) (u:Nat->Value) (k:Nat) (d:Tmp) (v:Value),adj d l=false ->
  oH (T.setIfInBounds d v) l u k=(oH T l u k).setIfInBounds d v:=by
 induction l with
 | nil=>intros;rfl
 | cons o r J =>
  intro T u k d v h;simp only [adj,List.any_cons,Bool.or_eq_false_iff] at h;cases I:o.dst with
  | none=>simp only [oH,I];exact J T u (k+1) d v h.2
  | some M =>
   have Y:M≠d:=fun e=>by have:=h.1;rw [I,e] at this;simp at this
   simp only [oH,I];rw [<- J _ u (k+1) d v h.2,Array.setIfInBounds_comm _ _ Y]
theorem aoe (l:List Oper):∀ (T:Array Value) (u Mq:Nat->Value) (k:Nat),(∀ j,k<=j->u j=Mq j)->oH T l u k=oH T l Mq k:=by
 induction l with
 | nil=>intros;rfl
 | cons o r I =>
  intro T u Mq k h;simp only [oH,h k (Nat.le_refl _)];exact I _ u Mq (k+1) (fun j aC=>h j om)
theorem ayH (l:List Oper):∀ (T:Array Value) (u:Nat->Value) (k i:Nat) (o:Oper) (v:Value),KC l=true->l[i]?=some o ->
  (match o.dst with | some d=>(oH T l u k).setIfInBounds d v | none=>oH T l u k)=oH T l (o5 u (k+i) v) k:=by
 induction l with
 | nil=>intro T u k i o v _ h;simp at h
 | cons M r Y =>
  intro T u k i o v I h;simp only [KC,Bool.and_eq_true] at I;cases i with
  | zero =>
   simp only [List.getElem?_cons_zero,Option.some.injEq] at h;subst h;have hc:∀ T,oH T r (o5 u (k+0) v) (k+1)=oH T r u (k+1):=fun T=>aoe r T _ _ _ (fun j aC=>by simp only [o5];rw [if_neg om]);cases J:M.dst with
   | none=>simp only [oH,J,hc]
   | some d =>
    have h1:adj d r=false:=by have:=I.1;rw [J] at this;simpa using this
    simp only [oH,J,hc];rw [<- ayG r _ _ _ _ _ h1];simp [o5]
  | succ i =>
   simp only [List.getElem?_cons_succ] at h;have:=Y (match M.dst with | some d=>T.setIfInBounds d (u k) | none=>T) u (k+1) i o v I.2 h;have e:k+1+i=k+(i+1):=om;rw [e] at this;simp only [oH];rw [this];have hk:o5 u (k+(i+1)) v k=u k:=by simp only [o5];rw [if_neg om]
   rw [hk]
theorem ayI (l:List Oper):∀ (T:Array Value) (k:Nat),KC l=true->∃ u,oH T l u k=T:=by
 induction l with
 | nil=>intro T k _;exact⟨fun _=>undef,rfl⟩
 | cons o r M =>
  intro T k I;simp only [KC,Bool.and_eq_true] at I;obtain⟨u,hu⟩:=M T (k+1) I.2;cases J:o.dst with
  | none=>exact⟨u,by simp only [oH,J];exact hu⟩
  | some d =>
   refine⟨o5 u k (T.getD d undef),?_⟩;simp only [oH,J];have Y:o5 u k (T.getD d undef) k=T.getD d undef:=by simp [o5]
   have AA:T.setIfInBounds d (T.getD d undef)=T:=by
    apply Array.ext
    ·simp
    ·intro i h1 AB;rw [Array.getElem_setIfInBounds];split
     ·subst_vars;simp [AB]
     ·rfl
   rw [Y,AA,aoe r T _ u (k+1) (fun j aC=>by simp only [o5];rw [if_neg om])];exact hu
def FL (F:Nat->Oper->Prop):List Oper->Nat->Prop
 | [],_=>True
 | o :: r,k=>F k o/\FL F r (k+1)
theorem FL.get:∀ (l:List Oper) (k:Nat),FL F l k->∀ i o,l[i]?=some o->F (k+i) o
 | [],_,_,i,o,h=>by simp at h
 | J :: r,k,I,0,o,h=>by
  simp only [List.getElem?_cons_zero,Option.some.injEq] at h;subst h;exact I.1
 | J :: r,k,I,i+1,o,h=>by
  simp only [List.getElem?_cons_succ] at h;have:=FL.get r (k+1) I.2 i o h;rw [show k+(i+1)=k+1+i by omega];exact this
theorem FL.imp {G:Nat->Oper->Prop}:∀ {l:List Oper} {k:Nat},FL F l k->(∀ i o,F i o->G i o)->FL G l k
 | [],_,_,_=>trivial
 | _ :: _,_,h,I=>⟨I _ _ h.1,h.2.imp I⟩
theorem aof {l:List Oper} {n:Nat} (h:FL F (l.take n) 0):∀ i o,i < n->l[i]?=some o->F i o:=fun i o I J=>by
 have:=FL.get (l.take n) 0 h i o (by rw [List.getElem?_take,if_pos I];exact J);rwa [Nat.zero_add] at this
def ayJ (ops:Array Oper) (n:Nat):Bool:=(List.range n).all fun j=>((ops[j]?).map fun o=>o.after.all fun e=>!Region.binds .any e || decide (e.on < j)).getD true
def TH (ops:Array Oper) (n:Nat):Bool :=
 ayJ ops n && (decide (n=ops.size) || (decide (n < ops.size) && Region.sinkB .any ops n && Region.chainB .any ops n && Region.seqB .any ops (ops.size - n) n ((Array.range ops.size).map fun j=>decide (j < n))))
def Ws (l:List Oper) (j i:Nat):Bool:=match l[j]? with
 | some o=>o.after.any fun e=>Region.binds .any e && e.on == i
 | none=>false
def adk (l:List Oper):List Nat->Bool
 | a :: b :: r=>Ws l a b && adk l (b :: r)
 | _=>true
theorem aog {l:List Oper} {L:Nat->Bool} (jH:∀ j k,L j=true->Ws l j k=true->L k=true):∀ (r:aRZ) (a:Nat),adk l (a :: r)=true->L a=true->∀ x∈a :: r,L x=true
 | [],a,_,h,x,ah=>by
  have:x=a:=by simpa using ah
  rw [this];exact h
 | b :: r,a,aI,h,x,ah=>by
  rw [adk,Bool.and_eq_true] at aI;rcases aQN.1 ah with e | e
  ·rw [e];exact h
  ·exact aog jH r b aI.2 (jH a b h aI.1) x e
theorem adl {l:List Oper} {L:Nat->Bool} (jH:∀ j k,L j=true->Ws l j k=true->L k=true) {i:Nat} (ay:L i=false) (j:Nat) (r:aRZ) (aI:adk l (j :: r)=true) (ah:i∈j :: r):L j=false:=by
 cases h:L j with
 | false=>rfl
 | true =>
  have:=aog jH r j aI h i ah;rw [ay] at this;cases this
section
variable {P:Program} {Q:aRX} {w:aRU} {l:List Oper} {T:Array Value} {D:List Deferred} {V:Nat->Value->World->Prop} {Ext:World->World->Prop}
theorem aoh {M:(Nat->Bool)->(Nat->Value)->World->Prop} (n:Nat)
  (bf:TH l.toArray n=true) (aS:KC (l.take n)=true) (uf:∀ u,M (fun _=>false) u w.drew) (ed:∀ j v w w',Ext w w'->V j v w->V j v w')
  (jI:∀ i o,i < n->l[i]?=some o->∀ (u:Nat->Value) (w:aRU) (L:Nat->Bool),M L u w->L i=false->(∀ j k,L j=true->Ws l j k=true->L k=true)->(∀ j,j < n->L j=true->V j (u j) w) ->
   (∀ e∈o.after,Region.binds .any e=true->e.on < n/\L e.on=true/\V e.on (u e.on) w) ->
   ∀ K:Act->World->Prop,(∀ v w',V i v w'->M (o5 L i true) (o5 u i v) w'->Ext w w'->K ((⟨oH T (l.take n) u 0,D⟩:Act).put o.dst v) w') ->
   if Region.wanted o (yielded l.toArray (oH T (l.take n) u 0))=true then Oper.wp P o ⟨oH T (l.take n) u 0,D⟩ w K Q else K ((⟨oH T (l.take n) u 0,D⟩:Act).put o.dst undef) w)
  (KD:∀ (u:Nat->Value) (w:aRU),M (fun j=>decide (j < n)) u w->(∀ j,j < n->V j (u j) w)->wpList P l.toArray Q (l.drop n) ⟨oH T (l.take n) u 0,D⟩ w) :
  wpAny P .any l.toArray Q l.toArray.size (Array.replicate l.toArray.size false) ⟨T,D⟩ w.drew:=by
 simp only [TH,Bool.and_eq_true,Bool.or_eq_true,decide_eq_true_eq] at bf;obtain⟨Aa,bf⟩:=bf;have AQ:l.toArray.size=l.length:=by simp
 have C8:n<=l.length:=by rcases bf with h | h <;> omega
 have key:∀ (f:Nat) (listed:Array Bool) (u:Nat->Value) (w:aRU),HeadInv .any l.toArray n listed ->
   ((List.range n).filter fun j=>!listed.getD j true).length=f->M (fun j=>listed.getD j false) u w->(∀ j,j < n->listed.getD j false=true->V j (u j) w) ->
   wpAny P .any l.toArray Q (f+(l.length - n)) listed ⟨oH T (l.take n) u 0,D⟩ w:=by
  intro f;induction f with
  | zero =>
   intro listed u w inv hf AX AU;have Y:∀ j,j < n->listed.getD j false=true:=by
    intro j aC;have:(List.range n).filter (fun j=>!listed.getD j true)=[]:=aQV hf;have h1:=List.filter_eq_nil_iff.1 this j (aQ3.2 aC);have Av:j < listed.size:=by rw [inv.size,AQ];omega
    simp only [Bool.not_eq_true',Bool.not_eq_false] at h1;simp [Av] at h1 |-;exact h1
   have Az:listed=(Array.range l.toArray.size).map fun j=>decide (j < n):=by
    apply Array.ext
    ·simp [inv.size]
    ·intro j h1 Ak;rw [Array.getElem_map,Array.getElem_range];by_cases AA:j < n
     ·have:=Y j AA;simp only [AA,decide_true];simpa [h1] using this
     ·have BB:j < l.toArray.size:=by rw [<- inv.size];exact h1
      have:=inv.tail j om BB;simp only [AA,decide_false];simpa [h1] using this
   have BC:(fun j=>listed.getD j false)=fun j=>decide (j < n):=by
    funext j;by_cases AA:j < n
    ·rw [Y j AA,decide_eq_true AA]
    ·rw [decide_eq_false AA];rcases aQW j l.toArray.size with h | h
     ·exact getD_both (inv.tail j om h)
     ·have:listed.size<=j:=by rw [inv.size];exact h
      simp [Array.getElem?_eq_none this]
   rw [BC] at AX;have Ac:=KD u w AX (fun j aC=>AU j aC (Y j aC));rw [Nat.zero_add];rcases bf with bf | bf
   ·have Ad:l.length - n=0:=om;rw [Ad];rw [List.drop_of_length_le om] at Ac;refine⟨?_,Ac⟩;rcases BD:Region.ready .any l.toArray listed with _ | ⟨i,r⟩
    ·rfl
    ·have I:i∈Region.ready .any l.toArray listed:=by rw [BD];simp
     obtain⟨h1,o,AP,_⟩:=mem_ready.1 I;have CF:i < l.toArray.size:=(aRh.1 AP).1;have:=Y i om;rw [getD_both h1] at this;cases this
   ·have Al:(l.drop n).length=l.length - n:=by simp
    have Am:=bf.2;rw [<- Az,AQ,<- Al] at Am;have:=wpAny_of_seq (P:=P) (md:=.any) (ops:=l.toArray) (Q':=Q) (l.drop n) n listed ⟨oH T (l.take n) u 0,D⟩ w (fun j=>by simp [List.getElem?_drop]) Am Ac;rw [Al] at this;exact this
  | succ f BF =>
   intro listed u w inv hf AX AU;rw [show f+1+(l.length - n)=(f+(l.length - n))+1 by omega];have hex:∃ i,i < n/\listed.getD i true=false:=by
    rcases AZ:(List.range n).filter (fun j=>!listed.getD j true) with _ | ⟨i,r⟩
    ·rw [AZ] at hf;simp at hf
    ·have I:i∈(List.range n).filter (fun j=>!listed.getD j true):=by rw [AZ];simp
     rw [List.mem_filter,List.mem_range] at I;exact⟨i,I.1,by simpa using I.2⟩
   refine⟨fun Ad=>?_,fun i I=>?_⟩
   ·exfalso;have BG:∀ m i,i<=m->i < n->listed.getD i true=false->∃ j,j∈Region.ready .any l.toArray listed:=by
     intro m;induction m with
     | zero =>
      intro i I fQ J;obtain rfl:i=0:=om;have AV:0 < l.length:=om;refine⟨0,mem_ready.2 ⟨J,l[0],by simp [AV],fun e he ae=>?_⟩⟩;have h1:=aRe.1 Aa 0 (aQ3.2 fQ);rw [show l.toArray[0]?=some l[0] by simp [AV]] at h1;simp only [Option.map_some,Option.getD_some,Array.all_eq_true',Bool.or_eq_true,Bool.not_eq_true',decide_eq_true_eq] at h1;have:=(h1 e he).resolve_left (by rw [ae];decide);omega
     | succ m BH =>
      intro i I fQ J;by_cases Ao:∃ j,j < i/\listed.getD j true=false
      ·obtain⟨j,aC,BK⟩:=Ao;exact BH j om om BK
      ·have AV:i < l.length:=om;refine⟨i,mem_ready.2 ⟨J,l[i],by simp [AV],fun e he ae=>?_⟩⟩;have h1:=aRe.1 Aa i (aQ3.2 fQ);rw [show l.toArray[i]?=some l[i] by simp [AV]] at h1;simp only [Option.map_some,Option.getD_some,Array.all_eq_true',Bool.or_eq_true,Bool.not_eq_true',decide_eq_true_eq] at h1;have BL:=(h1 e he).resolve_left (by rw [ae];decide);have BN:e.on < listed.size:=by rw [inv.size,AQ];omega
       cases AZ:listed.getD e.on false with
       | true=>rfl
       | false=>exact absurd ⟨e.on,BL,getD_in BN AZ⟩ Ao
    obtain⟨i,fQ,J⟩:=hex;obtain⟨j,aC⟩:=BG i i (aQF _) fQ J;rw [Ad] at aC;cases aC
   ·obtain⟨J,o,AP,Y⟩:=mem_ready.1 I;have fQ:i < n:=by
     rcases bf with bf | bf
     ·have:=(aRh.1 AP).1;omega
     ·rcases aQW i n with h | h
      ·exact h
      ·obtain⟨k,hk,BO⟩:=hex;exact absurd I (tail_waits bf.1.1.2 bf.1.2 bf.1.1.1 inv _ k rfl hk BO i h)
    have Ap:l[i]?=some o:=by simpa using AP
    have BP:∀ e∈o.after,Region.binds .any e=true->e.on < n/\listed.getD e.on false=true/\V e.on (u e.on) w:=fun e he ae=>by
     have h1:=aRe.1 Aa i (aQ3.2 fQ);rw [AP] at h1;simp only [Option.map_some,Option.getD_some,Array.all_eq_true',Bool.or_eq_true,Bool.not_eq_true',decide_eq_true_eq] at h1;have:=(h1 e he).resolve_left (by rw [ae];decide);exact⟨om,Y e he ae,AU e.on om (Y e he ae)⟩
    refine wpOp_step AP fun K BR=>?_;have BS:=jI i o fQ Ap u w _ AX (getD_both J) (fun j k aC he=>by
     unfold Ws at he;cases Ae:l[j]? with
     | none=>rw [Ae] at he;cases he
     | some Aq =>
      rw [Ae] at he;simp only at he;rw [Array.any_eq_true'] at he;obtain⟨e,BU,Af⟩:=he;rw [Bool.and_eq_true,beq_iff_eq] at Af;have:=inv.closed j Aq (by simpa using Ae) aC e BU Af.1;rw [Af.2] at this;exact this) AU BP;refine BS K (fun v w' BX BZ Bb=>BR _ _ ?_);have Bc:(⟨oH T (l.take n) u 0,D⟩:Act).put o.dst v=⟨oH T (l.take n) (o5 u i v) 0,D⟩:=by
     have:=ayH (l.take n) T u 0 i o v aS (by rw [List.getElem?_take,if_pos fQ];exact Ap);rw [Nat.zero_add] at this;rw [<- this];cases o.dst <;> rfl
    rw [Bc];refine BF (listed.setIfInBounds i true) (o5 u i v) w' (inv.set I fQ) ?_ ?_ ?_
    ·have Ag:i < listed.size:=by rw [inv.size,AQ];omega
     have Be:∀ (r:aRZ),r.Nodup->i∈r->(r.filter fun j=>!listed.getD j true).length=(r.filter fun j=>!(listed.setIfInBounds i true).getD j true).length+1:=by
      intro r;induction r with
      | nil=>intro _ h;cases h
      | cons x r Bf =>
       intro Ah Bg;rw [List.nodup_cons] at Ah;by_cases ah:x=i
       ·subst ah;have Ak:(listed.setIfInBounds x true).getD x true=true:=by simp [Ag]
        have Bh:∀ (r':aRZ),x ∉ r'->(r'.filter fun j=>!listed.getD j true)=(r'.filter fun j=>!(listed.setIfInBounds x true).getD j true):=by intro r' Bi;refine List.filter_congr fun j aC=>?_;rw [getD_set_ne true (show x≠j from fun e=>Bi (by rw [e];exact aC))]
        rw [List.filter_cons,List.filter_cons,J,Ak];simp only [Bool.not_false,if_true,Bool.not_true,Bool.false_eq_true,if_false,List.length_cons];rw [Bh r Ah.1]
       ·have Bj:i∈r:=by
         rcases aQN.1 Bg with h | h
         ·exact absurd h.symm ah
         ·exact h
        have:=Bf Ah.2 Bj;rw [List.filter_cons,List.filter_cons,getD_set_ne true (fun e=>ah e.symm)];split
        ·simp only [List.length_cons];omega
        ·exact this
     have:=Be (List.range n) List.nodup_range (aQ3.2 fQ);omega
    ·have Ag:i < listed.size:=by rw [inv.size,AQ];omega
     have Bn:(fun j=>(listed.setIfInBounds i true).getD j false)=o5 (fun j=>listed.getD j false) i true:=by
      funext j;by_cases AB:j=i
      ·subst AB;simp [o5,Ag]
      ·rw [getD_set_ne false (Ne.symm AB)];simp [o5,AB]
     rw [Bn];exact BZ
    ·intro j aC hl;by_cases AB:j=i
     ·subst AB;simp only [o5,if_true];exact BX
     ·rw [getD_set_ne false (Ne.symm AB)] at hl;have h1:=ed j (u j) w w' Bb (AU j aC hl);simp only [o5,AB,if_false];exact h1
 obtain⟨u,hu⟩:=ayI (l.take n) T 0 aS;have Bp:HeadInv .any l.toArray n (Array.replicate l.toArray.size false) :=
  ⟨by simp,fun j Aq _ hl=>(by rw [getD_replicate_false] at hl;cases hl),fun t _ Bq=>getD_in (by simpa using Bq) (getD_replicate_false _ _)⟩;have Br:((List.range n).filter fun j=>!(Array.replicate l.toArray.size false).getD j true).length=n:=by
  rw [List.filter_eq_self.2]
  ·simp
  ·intro j aC;have:=aQ3.1 aC;rw [getD_in (by simp;omega) (getD_replicate_false _ _)];rfl
 have:=key n (Array.replicate l.toArray.size false) u w.drew Bp Br (by have Bt:(fun j=>(Array.replicate l.toArray.size false).getD j false)=fun _=>false:=(by funext j;exact getD_replicate_false _ _);rw [Bt];exact uf u) (fun j _ hl=>by rw [getD_replicate_false] at hl;cases hl);rw [hu,show n+(l.length - n)=l.toArray.size by omega] at this;exact this
theorem mg {T:Array Value} {D:List Deferred} {o:Oper} {K:Act->World->Prop} {E:Prop} (av:o.guard=none)
  (h:Oper.wp P o ⟨T,D⟩ w K Q):if Region.wanted o (yielded ops T)=true then Oper.wp P o ⟨T,D⟩ w K Q else E:=by
 rw [if_pos (by simp [Region.wanted,av])];exact h
def Mr (V:Nat->Value->World->Prop) (u:Nat->Value) (w:aRU):Nat->Nat->Prop
 | 0,_=>True
 | n+1,k=>V k (u k) w/\Mr V u w n (k+1)
theorem Mr.of {u:Nat->Value}:∀ {n k:Nat},(∀ j,k<=j->j < k+n->V j (u j) w)->Mr V u w n k
 | 0,_,_=>trivial
 | n+1,k,h=>⟨h k (aQF _) om,Mr.of fun j h1 I=>h j om om⟩
theorem Mr.at {u:Nat->Value}:∀ {n k:Nat},Mr V u w n k->∀ j,k<=j->j < k+n->V j (u j) w
 | 0,_,_,j,h1,I=>om
 | n+1,k,h,j,h1,I=>by
  by_cases e:j=k
  ·rw [e];exact h.1
  ·exact h.2.at j om om
theorem aol (l:List Oper):∀ (T:Array Value) (u Mq:Nat->Value) (k:Nat),(∀ j,k<=j->j < k+l.length->u j=Mq j)->oH T l u k=oH T l Mq k:=by
 induction l with
 | nil=>intros;rfl
 | cons o r I =>
  intro T u Mq k h;simp only [oH,h k (Nat.le_refl _) (by simp only [List.length_cons];omega)];exact I _ u Mq (k+1) (fun j aC J=>h j om (by simp only [List.length_cons];omega))
def iX (zi:List (Option Value)) (X:Nat->Value->World->Prop) (j:Nat) (v:Value) (w:aRU):Prop :=
 match zi.getD j none with
 | some u=>v=u
 | none=>X j v w
theorem iX.keep {zi:List (Option Value)} {X:Nat->Value->World->Prop} (aX:X j v w->X j v w') (h:iX zi X j v w):iX zi X j v w':=by
 unfold iX at *;split at h
 ·exact h
 ·exact aX h
section
variable {id:Nat} {n:Nat} {ED:(Nat->Value)->Array Value} {TK:Array Value} {r:List Oper}
theorem TL (n:Nat) (V:Nat->Value->World->Prop) (M:(Nat->Bool)->(Nat->Value)->World->Prop) (Ext:World->World->Prop) (uf:∀ u,M (fun _=>false) u w.drew) (ed:∀ j v w w',Ext w w'->V j v w->V j v w')
  (KD:∀ (u:Nat->Value) (w:aRU),M (fun j=>decide (j < n)) u w->Mr V u w n 0->wpList P l.toArray Q r ⟨ED u,D⟩ w)
  (bY:∀ u,oH T (l.take n) u 0=ED u:=by (intro u;simp only [oH,List.take_succ_cons,List.take_zero,List.setIfInBounds_toArray,List.set_cons_succ,List.set_cons_zero,Nat.reduceAdd];exact rfl))
  (ax:l.drop n=r:=by (simp only [List.drop_succ_cons,List.drop_zero,List.drop_nil];exact rfl))
  (hm:P.follows .mixedOrders=true:=by kernel_rfl) (bf:TH l.toArray n=true:=by kernel_rfl) (aS:KC (l.take n)=true:=by kernel_rfl)
  (jI:FL (fun i o=>∀ (eQ:Array Value) (u:Nat->Value) (w:aRU) (L:Nat->Bool),M L u w->L i=false->(∀ j k,L j=true->Ws l j k=true->L k=true)->(∀ d:Nat,eQ[d]?=(ED u)[d]?)->(∀ e∈o.after,Region.binds .any e=true->L e.on=true/\V e.on (u e.on) w) ->
   ∀ K:Act->World->Prop,(∀ v w',V i v w'->M (o5 L i true) (o5 u i v) w'->Ext w w'->K ((⟨eQ,D⟩:Act).put o.dst v) w') ->
   if Region.wanted o (yielded l.toArray eQ)=true then Oper.wp P o ⟨eQ,D⟩ w K Q else K ((⟨eQ,D⟩:Act).put o.dst undef) w) (l.take n) 0) :
  (Code.region id l.toArray true).wp P Q ⟨T,D⟩ w:=by
 refine wp_region_any hm (aoh (V:=V) (M:=M) n bf aS uf ed (fun i o J Y u w L h1 I AA _ AB=>?_) fun u w h1 I=>?_)
 ·rw [bY];exact aof jI i o J Y _ u w L h1 I AA (fun _=>rfl) fun e he ae=>(AB e he ae).2
 ·rw [bY,ax];exact KD u w h1 (Mr.of fun j _ h=>I j om)
theorem bV (n:Nat) (V:Nat->Value->World->Prop) (M:World->Prop) (Ext:World->World->Prop) (uf:M w.drew) (ed:∀ j v w w',Ext w w'->V j v w->V j v w')
  (KD:∀ (u:Nat->Value) (w:aRU),M w->Mr V u w n 0->wpList P l.toArray Q r ⟨ED u,D⟩ w)
  (bY:∀ u,oH T (l.take n) u 0=ED u:=by (intro u;simp only [oH,List.take_succ_cons,List.take_zero,List.setIfInBounds_toArray,List.set_cons_succ,List.set_cons_zero,Nat.reduceAdd];exact rfl))
  (ax:l.drop n=r:=by (simp only [List.drop_succ_cons,List.drop_zero,List.drop_nil];exact rfl))
  (bf:TH l.toArray n=true:=by kernel_rfl) (aS:KC (l.take n)=true:=by kernel_rfl)
  (jI:FL (fun i o=>∀ (eQ:Array Value) (u:Nat->Value) (w:aRU),M w->(∀ d:Nat,eQ[d]?=(ED u)[d]?)->(∀ e∈o.after,Region.binds .any e=true->V e.on (u e.on) w) ->
   ∀ K:Act->World->Prop,(∀ v w',V i v w'->M w'->Ext w w'->K ((⟨eQ,D⟩:Act).put o.dst v) w') ->
   if Region.wanted o (yielded l.toArray eQ)=true then Oper.wp P o ⟨eQ,D⟩ w K Q else K ((⟨eQ,D⟩:Act).put o.dst undef) w) (l.take n) 0):wpAny P .any l.toArray Q l.toArray.size (Array.replicate l.toArray.size false) ⟨T,D⟩ w.drew:=by
 refine aoh (V:=V) (M:=fun _ _=>M) n bf aS (fun _=>uf) ed (fun i o J Y u w L h1 _ _ _ AA K I=>?_) fun u w h1 AB=>?_
 ·rw [bY] at I |-;exact aof jI i o J Y _ u w h1 (fun _=>rfl) (fun e he ae=>(AA e he ae).2.2) K I
 ·rw [bY,ax];exact KD u w h1 (Mr.of fun j _ h=>AB j om)
theorem nH {id:Nat} {l:List Oper} {T:Array Value} {D:List Deferred} (h:wpAny prog .any l.toArray Q l.toArray.size (Array.replicate l.toArray.size false) ⟨T,D⟩ w.drew):(Code.region id l.toArray true).wp prog Q ⟨T,D⟩ w:=wp_region_any kr h
theorem rx {A:Prop} (h:A:=by (
   intro eQ u af aj aL bz K aR;try simp [iX,Region.binds] at bz
   first | refine mg rfl ?_ | simp [Region.wanted,yielded,aL,bz] | simp [Region.wanted,yielded] | skip
   try have ah:=kR.o af aj
   first | (go_simp;first | exact aR _ _ rfl aj | exact aR _ _ rfl aj (Below.refl _ _) | exact aR _ _ rfl aj (o6.refl _) | exact aR _ _ rfl aj trivial | exact aR _ _ rfl aj (.inl (Below.refl _ _)) | exact aR _ _ rfl aj (.below aj (Below.refl _ _))) | exact aR _ _ rfl aj | exact aR _ _ rfl aj (Below.refl _ _) | exact aR _ _ rfl aj (o6.refl _) | exact aR _ _ rfl aj trivial | exact aR _ _ rfl aj (.below aj (Below.refl _ _)) | (go_simp;refine (FM.o af aj).mono ?_;rintro e aD ⟨rfl,ae⟩;exact aR _ _ rfl ae))):A:=h
theorem rs {A Q:Prop} (k:Q) (h:AJ Q->A:=by (
   intro gL eQ u af aj aL bz K aR;try simp [iX,Region.binds] at bz
   first | refine mg rfl ?_ | simp [Region.wanted,yielded,aL,bz] | simp [Region.wanted,yielded] | skip
   revert bz;intro bz;revert eQ u af aj aL K aR bz;exact gL.o)):A:=h (aa k)
theorem qL (n:Nat) (zi:aRW) (M:World->Prop) (uf:M w.drew)
  (KD:∀ af,M af->wpList P l.toArray Q r ⟨TK,D⟩ af)
  (bY:∀ u,oH T (l.take n) u 0=ED u:=by (intro u;simp only [oH,List.take_succ_cons,List.take_zero,List.setIfInBounds_toArray,List.set_cons_succ,List.set_cons_zero,Nat.reduceAdd];exact rfl))
  (Y0:ED (fun j=>zi.getD j undef)=TK:=by (simp only [List.getD_cons_zero,List.getD_cons_succ];exact rfl))
  (ax:l.drop n=r:=by (simp only [List.drop_succ_cons,List.drop_zero,List.drop_nil];exact rfl))
  (hm:P.follows .mixedOrders=true:=by kernel_rfl) (bf:TH l.toArray n=true:=by kernel_rfl) (aS:KC (l.take n)=true:=by kernel_rfl)
  (jI:FL (fun i o=>∀ (eQ:Array Value) (u:Nat->Value) (af:aRU),M af->(∀ d:Nat,eQ[d]?=(ED u)[d]?)->(∀ e∈o.after,Region.binds .any e=true->u e.on=zi.getD e.on undef) ->
   ∀ K:Act->World->Prop,(∀ v w',v=zi.getD i undef->M w'->K ((⟨eQ,D⟩:Act).put o.dst v) w') ->
   if Region.wanted o (yielded l.toArray eQ)=true then Oper.wp P o ⟨eQ,D⟩ af K Q else K ((⟨eQ,D⟩:Act).put o.dst undef) af) (l.take n) 0:=by (
    repeat' (first | exact trivial | apply And.intro)
    all_goals exact rx)) :
  (Code.region id l.toArray true).wp P Q ⟨T,D⟩ w:=by
 refine wp_region_any hm (bV n (fun j v _=>v=zi.getD j undef) M (fun _ _=>True) uf (fun j v w1 af _ J=>J) (fun u af h1 I=>?_) bY ax bf aS ?_)
 ·rw [<- bY,aol _ _ _ _ _ fun j _ aC=>I.at j om (by rw [List.length_take] at aC;omega),bY,Y0];exact KD af h1
 ·exact jI.imp fun i o h eQ u af h1 I Y K aR=>h eQ u af h1 I Y K fun v w' AA AB=>aR v w' AA AB trivial
theorem KE (n:Nat) (zi:aRW)
  (KD:∀ af,Bl w af->wpList P l.toArray Q r ⟨TK,D⟩ af)
  (bY:∀ u,oH T (l.take n) u 0=ED u:=by (intro u;simp only [oH,List.take_succ_cons,List.take_zero,List.setIfInBounds_toArray,List.set_cons_succ,List.set_cons_zero,Nat.reduceAdd];exact rfl))
  (Y0:ED (fun j=>zi.getD j undef)=TK:=by (simp only [List.getD_cons_zero,List.getD_cons_succ];exact rfl))
  (ax:l.drop n=r:=by (simp only [List.drop_succ_cons,List.drop_zero,List.drop_nil];exact rfl))
  (hm:P.follows .mixedOrders=true:=by kernel_rfl) (bf:TH l.toArray n=true:=by kernel_rfl) (aS:KC (l.take n)=true:=by kernel_rfl)
  (jI:FL (fun i o=>∀ (eQ:Array Value) (u:Nat->Value) (af:aRU),Bl w af->(∀ d:Nat,eQ[d]?=(ED u)[d]?)->(∀ e∈o.after,Region.binds .any e=true->u e.on=zi.getD e.on undef) ->
   ∀ K:Act->World->Prop,(∀ v w',v=zi.getD i undef->Bl w w'->K ((⟨eQ,D⟩:Act).put o.dst v) w') ->
   if Region.wanted o (yielded l.toArray eQ)=true then Oper.wp P o ⟨eQ,D⟩ af K Q else K ((⟨eQ,D⟩:Act).put o.dst undef) af) (l.take n) 0:=by (
    repeat' (first | exact trivial | apply And.intro)
    all_goals exact rx)) :
  (Code.region id l.toArray true).wp P Q ⟨T,D⟩ w:=qL n zi (Bl w) (Below.refl _ _).drew KD bY Y0 ax hm bf aS jI
theorem nz {G:Prop} {TK:(Nat->Value)->Array Value} (wK:wpAny P .any l.toArray Q l.toArray.size (Array.replicate l.toArray.size false) ⟨T,D⟩ w.drew->G) (n:Nat) (zi:List (Option Value)) (X:Nat->Value->World->Prop) (M:World->Prop) (Ext:World->World->Prop) (uf:M w.drew) (aX:∀ j v w w',Ext w w'->X j v w->X j v w')
  (KD:∀ (u:Nat->Value) (af:aRU),M af->(∀ j,j < n->iX zi X j (u j) af)->wpList P l.toArray Q r ⟨TK u,D⟩ af)
  (bY:∀ u,oH T (l.take n) u 0=ED u:=by (intro u;simp only [oH,List.take_succ_cons,List.take_zero,List.setIfInBounds_toArray,List.set_cons_succ,List.set_cons_zero,Nat.reduceAdd];exact rfl))
  (Y0:∀ u,ED (fun j=>(zi.getD j none).getD (u j))=TK u:=by (intro u;simp only [List.getD_cons_zero,List.getD_cons_succ,Option.getD_some,Option.getD_none];exact rfl))
  (ax:l.drop n=r:=by (simp only [List.drop_succ_cons,List.drop_zero,List.drop_nil];exact rfl))
  (bf:TH l.toArray n=true:=by kernel_rfl) (aS:KC (l.take n)=true:=by kernel_rfl)
  (jI:FL (fun i o=>∀ (eQ:Array Value) (u:Nat->Value) (w:aRU),M w->(∀ d:Nat,eQ[d]?=(ED u)[d]?)->(∀ e∈o.after,Region.binds .any e=true->iX zi X e.on (u e.on) w) ->
   ∀ K:Act->World->Prop,(∀ v w',iX zi X i v w'->M w'->Ext w w'->K ((⟨eQ,D⟩:Act).put o.dst v) w') ->
   if Region.wanted o (yielded l.toArray eQ)=true then Oper.wp P o ⟨eQ,D⟩ w K Q else K ((⟨eQ,D⟩:Act).put o.dst undef) w) (l.take n) 0):G:=by
 refine wK (bV n (iX zi X) M Ext uf (fun j v w1 af he J=>J.keep (aX j v w1 af he)) (fun u af h1 I=>?_) bY ax bf aS jI);have Y:=fun j (_:0<=j) (aC:j < 0+(l.take n).length)=>show u j=(zi.getD j none).getD (u j) from by
  have h:=I.at j om (by rw [List.length_take] at aC;omega);unfold iX at h;split at h
  ·rename_i e;rw [e];exact h
  ·rename_i e;rw [e];rfl
 rw [<- bY,aol _ _ _ _ _ Y,bY,Y0];exact KD u af h1 fun j aC=>I.at j om om
end
end
end
section
open Go.RowKit
def bQ (l:aR0):List Value:=l.map fun b=>.int .u8 b.toNat
theorem xn (l:aR0):(bQ l).length=l.length:=by simp [bQ]
theorem ahN (l m:aR0):bQ (l++m)=bQ l++bQ m:=by simp [bQ]
theorem aom (l:aR0) (k:Nat):bQ (l.drop k)=(bQ l).drop k:=by simp [bQ,List.map_drop]
theorem TM (l:aR0) (h:j < l.length):(bQ l)[j]?=some (.int .u8 (l.getD j 0).toNat):=by rw [bQ,List.getElem?_map,List.getElem?_eq_getElem h,List.getD_eq_getElem?_getD,List.getElem?_eq_getElem h];rfl
theorem GZ (l:aR0):∀ v∈bQ l,v.oneCell'=true:=by intro v I;obtain⟨x,_,rfl⟩:=aQO.1 I;rfl
theorem aon (l:aR0) (b:UInt8):bQ l++[.int .u8 b.toNat]=bQ (l++[b]):=by simp [bQ]
theorem Rd.one (w:aRU) (v:Value) (t:TypeId):Rd (w.alloc (.cells #[v] t)) 1 (some ⟨w.heap.size,0,none⟩) 1 [v]:=Rd.adi w #[v] t 1 1 dc rfl
theorem ado {k:IntKind} {x:Int}:∀ v∈[Value.int k x],v.oneCell'=true:=by simp [Value.oneCell']
theorem wL (s:ByteArray):s.data.toList.length=s.size:=by rw [Array.length_toList];rfl
theorem aoo {W:aRU} (M:World->Prop) (h:M W) (k:∀ w1,M w1->wpList P ops Q rest a w1):wpList P ops Q rest a W:=k W h
section
variable {P:Program} {w:aRU}
theorem ayV (src dst e:TypeId) (base:Nat) (s:ByteArray) (hs:P.underlying src=some .string) (aS:P.underlying dst=some (.slice e)) (he:P.underlying e=some (.int .u8)) (sF:base<=w.heap.size) (Y1:s.size<=maxLen) :
  ∃ A c w',(convert src dst (.string s)).run P w = .ok (.slice A s.size c) w'/\Own w' base e 1 A s.size c (bQ s.data.toList)/\Bl w w'/\bM A=some w.heap.size:=by
 have I:=grownCap_ge w s.size 0 e;have hle:=grownCap_le_maxLen w s.size 0 e Y1;have J:(bytesRow s (grownCap w s.size 0 e)).size=grownCap w s.size 0 e:=by simp only [bytesRow,Array.size_append,Array.size_map,Array.size_replicate];have:s.data.size=s.size:=rfl;omega
 refine⟨_,_,_,run_bytes_of_string w src dst e s hs aS he,⟨by rw [xn,wL,Nat.mul_one],I,hle,.inr ⟨w.heap.size,0,_,_,rfl,sF,aQS w.drew _,.inr rfl,by rw [J];omega,fun j aC=>?_⟩⟩,(Below.refl _ _).drew.alloc (aQF _) _,rfl⟩;rw [Nat.zero_add];have M:j < s.data.size:=by have:s.data.size=s.size:=rfl;omega
 rw [bytesRow,Array.getElem?_append_left (by rw [Array.size_map];exact M),Array.getElem?_map,bQ,List.getElem?_map];simp
theorem aop {src TN ic:TypeId} {pos:String}
  (e:TypeId) (base:Nat) (s:ByteArray) (hs:P.underlying src=some .string) (aS:P.underlying TN=some (.slice e)) (he:P.underlying e=some (.int .u8)) (sF:base<=w.heap.size) (Y1:s.size<=maxLen)
  (ah:a.eval x = .string s)
  (h:∀ A c w',Own w' base e 1 A s.size c (bQ s.data.toList)->Bl w w'->bM A=some w.heap.size->wpList P ops Q rest (a.put dst (.slice A s.size c)) w') :
  wpList P ops Q (⟨dst,.convert src TN x,ic,pos,after,none⟩ :: rest) a w:=by
 refine aQ6 rfl fun K I=>?_;obtain⟨A,c,w',J,h1,M,Y⟩:=ayV (P:=P) (w:=w) src TN e base s hs aS he sF Y1;unfold Oper.wp execOp;simp only [ah,Sem.run_bind,J,Result.andThen_ok];exact I _ _ (h A c w' h1 M Y)
theorem ayW (src dst e:TypeId) (A:aRV) (c:Nat) (l:aR0) (hs:P.underlying src=some (.slice e)) (he:P.underlying e=some (.int .u8)) (aS:P.underlying dst=some .string) (ax:Rd w 1 A l.length (bQ l)) :
  (convert src dst (.slice A l.length c)).run P w = .ok (.string ⟨l.toArray⟩) w:=by
 rcases aQ2 l.length with I | I
 ·have:l=[]:=aQV I;subst this;show (convert src dst (.slice A 0 c)).run P w=_;rw [run_convert_bytes_string w src dst e A 0 c hs he aS];cases A <;> simp [Conv.bytesToString,loadCells,loadCellsFrom] <;> rfl
 ·obtain⟨b,o,rfl,ah⟩:=ax.2 I;refine run_convert_bytes_back w src dst e ⟨b,o,none⟩ c l hs he aS (fun j aC=>?_);rw [Dy];refine ah j _ ?_;rw [bQ,List.getElem?_map,List.getElem?_eq_getElem aC];rfl
theorem adp {src TN ic:TypeId} {pos:String}
  (e:TypeId) (A:aRV) (n c:Nat) (l:aR0) (hs:P.underlying src=some (.slice e)) (he:P.underlying e=some (.int .u8)) (aS:P.underlying TN=some .string) (aB:l.length=n) (ax:Rd w 1 A n (bQ l))
  (ah:a.eval x = .slice A n c) (h:wpList P ops Q rest (a.put dst (.string ⟨l.toArray⟩)) w) :
  wpList P ops Q (⟨dst,.convert src TN x,ic,pos,after,none⟩ :: rest) a w:=by
 refine aQ6 rfl fun K I=>?_;subst aB;have ax:=ayW (P:=P) (w:=w) src TN e A c l hs he aS ax;unfold Oper.wp execOp;simp only [ah,Sem.run_bind,ax,Result.andThen_ok];exact I _ _ h
end
end
section
open Go.RowKit
theorem adq (a b:ByteArray):(a++b).data.toList=a.data.toList++b.data.toList:=by simp
theorem Y2 {a b:ByteArray} (h:a.data.toList=b.data.toList):a=b:=by cases a;cases b;simp only [ByteArray.mk.injEq];exact Array.toList_inj.1 h
def aA (l:aR0):ByteArray:=⟨l.toArray⟩
theorem gZ (l:aR0):(aA l).data.toList=l:=by simp [aA]
theorem iP (l:aR0):(aA l).size=l.length:=by show l.toArray.size=_;simp
theorem Y3 (s:ByteArray):aA s.data.toList=s:=by cases s;simp [aA]
theorem aoq {s:ByteArray} (h:s.data.toList=l):s=aA l:=by rw [<- h,Y3]
theorem Y4 (a b:aR0):aA a++aA b=aA (a++b):=Y2 (by rw [adq,gZ,gZ,gZ])
theorem Oj (s:ByteArray) (a b:Nat):(s.extract a b).data.toList=(s.data.toList.drop a).take (b - a):=by rw [ByteArray.data_extract,Array.toList_extract,List.extract_eq_take_drop]
def cB (l:List (List UInt8)):List Value:=l.map fun r=>.string (aA r)
theorem aor (l:List (List UInt8)):(cB l).length=l.length:=by simp [cB]
theorem aos (l:List (List UInt8)) (r:aR0):cB l++[.string (aA r)]=cB (l++[r]):=by simp [cB]
theorem ayX {s:ByteArray}:∀ v∈[Value.string s],v.oneCell'=true:=by simp [Value.oneCell']
theorem ahO:(prog.info? 9).map (fun i=>(i.zero,i.size,i.bytes))=some (some (.string ⟨#[]⟩),1,16):=kr
end
section
def vk:List UInt8->List (List UInt8)
 | []=>[[]]
 | c :: l=>if c=47 then [] :: vk l else (c :: (vk l).headD []) :: (vk l).tail
theorem ayY (l:aR0):∃ p r,vk l=p :: r:=by
 cases l with
 | nil=>exact⟨_,_,rfl⟩
 | cons c l =>
  unfold vk;split
  ·exact⟨_,_,rfl⟩
  ·exact⟨_,_,rfl⟩
theorem ahP (l:aR0):vk (47 :: l)=[] :: vk l:=by rw [vk,if_pos rfl]
theorem ahQ {c:UInt8} {p:aR0} {r:List (List UInt8)} (hc:c≠47) (h:vk l=p :: r):vk (c :: l)=(c :: p) :: r:=by rw [vk,if_neg hc,h];rfl
theorem aot:∀ a b:List UInt8,vk (a++47 :: b)=vk a++vk b
 | [],b=>by rw [List.nil_append,ahP];rfl
 | c :: a,b=>by
  have I:=aot a b;by_cases hc:c=47
  ·subst hc;rw [List.cons_append,ahP,ahP,I];rfl
  ·obtain⟨p,r,h⟩:=ayY a;rw [h,List.cons_append] at I;rw [List.cons_append,ahQ hc I,ahQ hc h];rfl
theorem ahR:∀ {l:aR0},47 ∉ l->vk l=[l]
 | [],_=>rfl
 | c :: l,h=>by
  have hc:c≠47:=fun e=>h (by simp [e]);exact ahQ hc (ahR (fun e=>h (aQ9 _ e)))
def Ms (c:UInt8):Bool:=(decide (97<=c.toNat) && decide (c.toNat<=122)) || (decide (65<=c.toNat) && decide (c.toNat<=90)) || (decide (48<=c.toNat) && decide (c.toNat<=57)) || decide (c.toNat=95) || decide (c.toNat=46) || decide (c.toNat=45) || decide (c.toNat=43)
def DC (p:aR0):Bool:=!p.isEmpty && decide (p.length<=64) && !(p == [46]) && !(p == [46,46]) && p.all Ms
def eB (l:aR0):Bool:=(vk l).all DC && decide ((vk l).length<=16)
def yI (l d:aR0):Bool:=eB l && (d.isEmpty || (eB d && (d++[47]).isPrefixOf l))
theorem ayZ (h:eB l=true):yI l []=true:=by simp [yI,h]
theorem ay0 {d:aR0} (h:eB l=false):yI l d=false:=by simp [yI,h]
abbrev ak:=List UInt8
def jl (p:UInt8->Bool):ak->List ak
 | []=>[[]]
 | c :: s=>if p c then [] :: jl p s else match jl p s with
  | []=>[[c]]
  | x :: r=>(c :: x) :: r
def qC (c:UInt8):Bool:=c == 32 || c == 9
def nS (s:ak):List ak:=(jl qC s).filter fun x=>!x.isEmpty
def jQ (s:ak):List ak:=if s=[] then [] else if s.getLast?=some 10 then jl (· == 10) s.dropLast else jl (· == 10) s
theorem Y5 (p:UInt8->Bool):∀ s:ak,jl p s≠[]
 | []=>by simp [jl]
 | c :: s=>by
  rw [jl];split
  ·simp
  ·split <;> simp
theorem Wu (p:UInt8->Bool) (c:UInt8) (s:ak):∃ x r,jl p s=x :: r/\jl p (c :: s)=if p c then [] :: x :: r else (c :: x) :: r:=by
 cases h:jl p s with
 | nil=>exact absurd h (Y5 p s)
 | cons x r =>
  refine⟨x,r,rfl,?_⟩;rw [jl,h]
theorem aou:∀ {s:ak},(∀ c∈s,p c=false)->jl p s=[s]
 | [],_=>rfl
 | c :: s,h=>by
  have h1:=h c sp;have I:=aou (s:=s) fun d J=>h d (by simp [J]);rw [jl,h1,I];rfl
theorem aov {c:UInt8} (hc:p c=true) (b:ak):∀ {a:ak},(∀ d∈a,p d=false)->jl p (a++c :: b)=a :: jl p b
 | [],_=>by rw [List.nil_append,jl,hc];rfl
 | d :: a,h=>by
  have h1:=h d sp;have I:=aov hc b (a:=a) fun e he=>h e (by simp [he]);rw [List.cons_append,jl,h1,I];rfl
theorem Y6:∀ {s:ak} {x:ak},x∈jl p s->∀ c∈x,p c=false
 | [],x,h,c,hc=>by
  rw [jl,List.mem_singleton] at h;subst h;cases hc
 | d :: s,x,h,c,hc=>by
  obtain⟨y,r,h1,I⟩:=Wu p d s;rw [I] at h;split at h
  ·rcases aQN.1 h with rfl | h
   ·cases hc
   ·exact Y6 (s:=s) (by rw [h1];exact h) c hc
  ·rename_i J;rcases aQN.1 h with rfl | h
   ·rcases aQN.1 hc with rfl | hc
    ·simpa using J
    ·exact Y6 (s:=s) (x:=y) (by rw [h1];simp) c hc
   ·exact Y6 (s:=s) (by rw [h1];simp [h]) c hc
theorem TP (p:UInt8->Bool):∀ s:ak,(jl p s).length<=s.length+1
 | []=>by simp [jl]
 | c :: s=>by
  obtain⟨y,r,h1,J⟩:=Wu p c s;have I:=TP p s;rw [h1] at I;rw [J];split <;> simp at I |- <;> omega
theorem Y7 (p:UInt8->Bool):∀ {s x:ak},x∈jl p s->x.length<=s.length
 | [],x,h=>by
  rw [jl,List.mem_singleton] at h;subst h;simp
 | c :: s,x,h=>by
  obtain⟨y,r,h1,J⟩:=Wu p c s;rw [J] at h;have I:∀ z∈y :: r,z.length<=s.length:=fun z M=>Y7 p (by rw [h1];exact M);split at h
  ·rcases aQN.1 h with rfl | h
   ·simp
   ·have:=I x h;simp;omega
  ·rcases aQN.1 h with rfl | h
   ·have:=I y sp;simp;omega
   ·have:=I x (by simp [h]);simp;omega
theorem ay1:jQ []=[]:=rfl
theorem QM (s:ak):(jQ s).length<=s.length+1:=by
 rw [jQ];split
 ·simp
 ·split
  ·have:=TP (· == 10) s.dropLast;rw [List.length_dropLast] at this;omega
  ·exact TP _ s
theorem TQ {s x:ak} (h:x∈jQ s):x.length<=s.length:=by
 rw [jQ] at h;split at h
 ·cases h
 ·split at h
  ·have:=Y7 _ h;rw [List.length_dropLast] at this;omega
  ·exact Y7 _ h
theorem ay2:nS []=[]:=rfl
theorem aow {c:UInt8} (h:qC c=true) (s:ak):nS (c :: s)=nS s:=by rw [nS,nS,jl,h];rfl
theorem aox {a:ak} (aV:a≠[]) (h:∀ c∈a,qC c=false):nS a=[a]:=by rw [nS,aou h];simp [aV]
theorem aoy {a:ak} (aV:a≠[]) (h:∀ c∈a,qC c=false) {c:UInt8} (hc:qC c=true) (b:ak):nS (a++c :: b)=a :: nS b:=by rw [nS,aov hc b h,List.filter_cons];simp [aV,nS]
theorem Y8 {s x:ak} (h:x∈nS s):x≠[]/\(∀ c∈x,qC c=false)/\x.length<=s.length:=by rw [nS,List.mem_filter] at h;exact⟨by simpa using h.2,Y6 h.1,Y7 _ h.1⟩
theorem aoz (s:ak):(nS s).length<=s.length+1:=aQG (aRi _ _) (TP _ s)
def adr (c:UInt8):Bool:=eB [97,c,97] && !(c == 47)
def KF (s:aR0) (k:Nat) (c:UInt8):Bool:=(!adr c && !(c == 63) && !(c == 42)) || ([42,42]:aR0).isPrefixOf (s.drop k)
def QN (s:aR0) (n:Nat):Bool:=(List.range n).any fun k=>KF s k (s.getD k 0)
def Y9 (s:aR0):Bool:=decide (1<=s.length) && decide (s.length<=64) && !(s == [46]) && !(s == [46,46])
def EE (s:aR0):Bool:=if s=[42,42] then true else if QN s s.length=true then false else Y9 s
def G5 (s:aR0):Bool:=decide ((jl (· == 47) s).length<=16) && !((jl (· == 47) s).any fun x=>!EE x)
theorem ay3 (s:aR0) (k:Nat):QN s (k+1)=(QN s k || KF s k (s.getD k 0)):=by unfold QN;rw [List.range_succ,List.any_append];simp
theorem ay4 (hk:k < s.length) (h:KF s k (s.getD k 0)=true):QN s s.length=true:=by unfold QN;exact aRJ.2 ⟨k,by simpa using hk,h⟩
theorem ay5 (h:s=[42,42]):EE s=true:=by rw [EE,if_pos h]
theorem ads (h:s≠[42,42]) (hk:k < s.length) (ae:KF s k (s.getD k 0)=true):EE s=false:=by rw [EE,if_neg h,if_pos (ay4 hk ae)]
theorem ay6 (h:s≠[42,42]) (ae:QN s s.length=false):EE s=Y9 s:=by rw [EE,if_neg h,ae];rfl
end
section
open Go.RowKit
section
variable {w:aRU} {base n c:Nat} {t:TypeId} {A:aRV} {xs:aRW}
theorem Own.spot (h:Own w base t 1 A n c xs) (aC:j < n):∃ b o u,A=some ⟨b,o,none⟩/\base<=b/\b < w.heap.size/\xs[j]?=some u/\w.cell? (ad b (o+j))=some u/\w.frozen? ⟨b,o+j,none⟩=false /\
  ∀ v,Own (w.setCell ⟨b,o+j,none⟩ v) base t 1 A n c (xs.set j v):=by
 have hl:=h.1;have M:=h.2.1;have hm:=h.2.2.1;obtain⟨b,o,cur,aZ,rfl,ae,av,hf,hs,ah⟩:=h.at_ om;have I:o+j < cur.size:=om;have Y:j < xs.length:=om;refine⟨b,o,xs[j],rfl,ae,iw av,aQI Y,?_,hf.cell av I,fun v=>?_⟩
 ·rw [cell_of_row w b _ cur t _ av,ah j om,List.getElem?_eq_getElem]
 ·rw [setCell_eq_setRow w b (o+j) cur t aZ v av];refine⟨by rw [List.length_set];exact hl,M,hm,.inr ⟨b,o,cur.setIfInBounds (o+j) v,aZ,rfl,ae,aQU w b cur _ t _ av,by rw [Array.size_setIfInBounds];exact hf,by rw [Array.size_setIfInBounds];exact hs,fun i AA=>?_⟩⟩;rw [Array.getElem?_setIfInBounds,List.getElem?_set];by_cases J:j=i
  ·subst J;have:j < xs.length:=om;simp [I,this]
  ·rw [if_neg om,if_neg J,ah i om]
end
end
section
open Go.ChangeMaps Go.MapKept Go.Maps Go.RowKit Go.WideAt Go.WideMaps
section
variable {α:Type} {enc:α->Value}
open Classical in
noncomputable def Ol (enc:α->Value) (v:Value):Option (DataW α × List MemPlace):=if h:∃ a,v=enc a then some (.held (Classical.choose h),[]) else none
theorem KG (vo:∀ a b,enc a=enc b->a=b) (a:α):Ol enc (enc a)=some (.held a,[]):=by have h:∃ b,enc a=enc b:=⟨a,rfl⟩;unfold Ol;rw [dif_pos h,<- vo _ _ (Classical.choose_spec h)]
theorem TR {d:DataW α} {ps:List MemPlace} (h:Ol enc v=some (d,ps)):∃ a,v=enc a/\d = .held a:=by
 unfold Ol at h;split at h
 ·rename_i ah;simp only [Option.some.injEq,Prod.mk.injEq] at h;exact⟨_,aRS ah,h.1.symm⟩
 ·cases h
abbrev fA (α:Type):=List (List UInt8 × α)
def mapD (M:fA α):DataW α:=.map (M.map fun p=>(.string p.1,.held p.2))
def getM (M:fA α) (k:aR0):Option α:=(M.find? (fun p=>p.1 == k)).map (·.2)
def zk (x:List UInt8 × α):fA α->fA α
 | []=>[x]
 | y :: r=>if bytesBefore x.1 y.1 then x :: y :: r else y :: zk x r
def I5 (M:fA α) (k:aR0):fA α:=M.filter fun p=>!(p.1 == k)
def oI (M:fA α) (k:aR0) (a:α):fA α:=zk (k,a) (I5 M k)
def G6 (M:fA α):Prop:=M.Pairwise fun p q=>bytesBefore p.1 q.1=true
theorem aoB (x:List UInt8 × α):∀ M:fA α,DataW.insert (.string x.1,.held x.2) (M.map fun p=>((.string p.1:Lit),(.held p.2:DataW α)))=(zk x M).map fun p=>(.string p.1,.held p.2)
 | []=>rfl
 | y :: r=>by
  have I:=aoB x r;rw [List.map_cons];unfold DataW.insert zk;by_cases h:bytesBefore x.1 y.1=true
  ·rw [if_pos (show (Lit.string x.1).before (Lit.string y.1)=true from h),if_pos h];rfl
  ·rw [if_neg (show ¬ (Lit.string x.1).before (Lit.string y.1)=true from h),if_neg h,List.map_cons,I]
theorem ay7 (M:fA α) (k:aR0):((M.map fun p=>((.string p.1:Lit),(.held p.2:DataW α))).filter fun p=>!p.1.sameKey (.string k))=(I5 M k).map fun p=>(.string p.1,.held p.2):=by unfold I5;rw [List.filter_map];rfl
theorem ahS (M:fA α) (k:aR0) (a:α):(mapD M).put (.string k) (.held a)=mapD (oI M k a):=by show DataW.map _=DataW.map _;rw [ay7];exact congrArg _ (aoB (k,a) _)
theorem ahT (k:aR0):∀ M:fA α,(M.map fun p=>((.string p.1:Lit),(.held p.2:DataW α))).find? (fun p=>p.1.sameKey (.string k))=(M.find? (fun p=>p.1 == k)).map fun p=>(.string p.1,.held p.2)
 | []=>rfl
 | y :: r=>by
  have I:=ahT k r;simp only [List.map_cons,List.find?_cons,Lit.sameKey];cases h:(y.1 == k)
  ·exact I
  ·rfl
theorem aoC {β:Type} (f:β->Bool):∀ l:List β,l.any f=(l.find? f).isSome
 | []=>rfl
 | x :: r=>by
  rw [List.any_cons,List.find?_cons,aoC f r];cases f x <;> rfl
theorem aoD (M:fA α) (k:aR0):has (mapD M) (.string k)=(getM M k).isSome:=by show List.any _ _=_;rw [aoC,ahT,getM,Option.isSome_map,Option.isSome_map]
theorem Za (M:fA α) (k:aR0) (z:DataW α):(mapD M).atKey (.string k) z=match getM M k with | some a=>.held a | none=>z:=by unfold DataW.atKey mapD getM;simp only [ahT];cases M.find? (fun p=>p.1 == k) <;> rfl
theorem TS (M:fA α):size (mapD M)=M.length:=by show List.length _=_;simp
theorem aoE (M:fA α):strKeys (mapD M)=M.map (·.1):=by show List.map _ _=_;rw [List.map_map];rfl
def eU (w:aRU) (P:Program) (k:TypeId) (enc:α->Value) (b n:Nat) (M:fA α):Prop:=w.ownsMap P k (Ol enc) b n (mapD M)
variable {w w':aRU} {P:Program} {k:TypeId} {b n:Nat} {M:fA α}
theorem eU.AL (h:eU w P k enc b n M) (K:Keyed P k):G6 M:=by
 obtain⟨es,he,aI,_⟩:=World.ownsMap.canon h K;unfold mapD at he;injection he with he
 subst he;rw [List.pairwise_map] at aI;exact aI
theorem eU.made (w:aRU) (P:Program) (k:TypeId) (enc:α->Value):eU (w.alloc (.map #[] 0)) P k enc w.heap.size 0 ([]:fA α):=World.ownsMap_made w P k _
theorem eU.lt (h:eU w P k enc b n M):b < w.heap.size:=World.ownsMap.lt h
theorem eU.keep (h:eU w P k enc b n M) (ae:w'.heap[b]?=w.heap[b]?):eU w' P k enc b n M:=by obtain⟨es,clock,I,F,hs,J⟩:=h;exact⟨es,clock,ae.trans I,F,hs,J⟩
theorem eU.alloc (h:eU w P k enc b n M) (o:Obj):eU (w.alloc o) P k enc b n M:=h.keep (aQ5 w o _ h.lt)
theorem eU.below (h:eU w P k enc b n M) (ae:Below B w w') (bf:b < B):eU w' P k enc b n M:=h.keep (ae.block _ bf)
theorem eU.setCell (h:eU w P k enc b n M) (p:Addr) (v:Value) (bJ:b≠p.block):eU (w.setCell p v) P k enc b n M:=h.keep (aQX w p v b bJ)
end
section
variable {α:Type} {enc:α->Value} {w:aRU} {P:Program} {k t e:TypeId} {b n:Nat} {M:fA α}
theorem eU.look_ok (h:eU w P k enc b n M) (vo:∀ a b,enc a=enc b->a=b) (hk:P.underlying k=some .string) (az:P.underlying t=some (.map k e)) (z0:α) (dm:(zeroValue e).run P w = .ok (enc z0) w) (s:ByteArray) (hs:s.size<=maxLen) :
  (Instr.lookup t (.map (some b)) (.string s) true).run P w = .ok (.tuple #[enc ((getM M s.data.toList).getD z0),.bool (getM M s.data.toList).isSome]) w:=by
 obtain⟨v,ps,J,Y⟩:=World.ownsMap.look_ok h (string_keyed hk) az dm (KG vo z0) (keyOf_string_mk hk hs);rw [aoD] at J;rw [Za] at Y;obtain⟨a,rfl,I⟩:=TR Y;rw [J];cases av:getM M s.data.toList with
 | none=>rw [av] at I;injection I with I;subst I;rfl
 | some x=>rw [av] at I;injection I with I;subst I;rfl
theorem eU.look (h:eU w P k enc b n M) (vo:∀ a b,enc a=enc b->a=b) (hk:P.underlying k=some .string) (az:P.underlying t=some (.map k e)) (z0:α) (dm:(zeroValue e).run P w = .ok (enc z0) w) (s:ByteArray) (hs:s.size<=maxLen) :
  (Instr.lookup t (.map (some b)) (.string s) false).run P w = .ok (enc ((getM M s.data.toList).getD z0)) w:=by
 obtain⟨v,ps,Y,J⟩:=aRK h (string_keyed hk) az dm (KG vo z0) (keyOf_string_mk hk hs);rw [Za] at J;obtain⟨a,rfl,I⟩:=TR J;rw [Y];cases av:getM M s.data.toList with
 | none=>rw [av] at I;injection I with I;subst I;rfl
 | some x=>rw [av] at I;injection I with I;subst I;rfl
def fV (b:Nat) (w w':aRU):Prop:=w'.os=w.os/\w'.tape=w.tape/\w'.output=w.output/\w'.heap.size=w.heap.size/\∀ k,k≠b->w'.heap[k]?=w.heap[k]?
theorem adt (h:w.mapTurned w' b):fV b w w':=by obtain⟨es,clock,I,J,ae,rfl⟩:=h;exact⟨rfl,rfl,rfl,by simp [setBlock],fun k hk=>heap_setBlock_other ae _ hk⟩
theorem eU.update (h:eU w P k enc b n M) (vo:∀ a b,enc a=enc b->a=b) (hk:P.underlying k=some .string) (az:P.underlying t=some (.map k e)) (aB:n < maxLen) (s:ByteArray) (hs:s.size<=maxLen) (a:α) :
  ∃ w',(Instr.mapUpdate t (.map (some b)) (.string s) (enc a)).run P w = .ok () w'/\eU w' P k enc b (n+1) (oI M s.data.toList a)/\fV b w w':=by
 obtain⟨w',I,h1,J⟩:=World.ownsMap.store h (string_keyed hk) az aB (keyOf_string_mk hk hs) (KG vo a);rw [ahS] at h1;exact⟨w',I,h1,adt J⟩
theorem Zb {ic:TypeId} {m v:Operand} {pos:String}
  (h:eU w P k enc b n M) (vo:∀ a b,enc a=enc b->a=b) (hk:P.underlying k=some .string) (az:P.underlying t=some (.map k e)) (aB:n < maxLen) (s:ByteArray) (hs:s.size<=maxLen) (y:α)
  (ah:a.eval m = .map (some b)/\a.eval x = .string s/\a.eval v=enc y)
  (aR:∀ w',eU w' P k enc b (n+1) (oI M s.data.toList y)->fV b w w'->wpList P ops Q rest (a.put dst undef) w') :
  wpList P ops Q (⟨dst,.mapUpdate t m x v,ic,pos,after,none⟩ :: rest) a w:=by
 refine aQ6 rfl fun AA hK'=>?_;obtain⟨w',I,J,Y⟩:=h.update vo hk az aB s hs y;unfold Oper.wp;simp [execOp,ah.1,ah.2.1,ah.2.2,I,Result.andThen];exact hK' _ _ (aR w' J Y)
end
theorem Om:∀ a b:List UInt8,bytesBefore a b=true ↔ a < b
 | [],[]=>by simp [bytesBefore]
 | [],_ :: _=>by simp [bytesBefore]
 | _ :: _,[]=>by simp [bytesBefore]
 | a :: r,b :: s=>by
  have I:=Om r s;rw [List.cons_lt_cons_iff,<- I];simp [bytesBefore]
theorem aoG {α:Type} {M:fA α} (h:G6 M) {Cu:List (List UInt8)} (aI:Cu.Perm (M.map (·.1))):Cu.mergeSort (fun x y=>decide (x<=y))=M.map (·.1):=by rw [mergeSort_of_perm aI];refine List.mergeSort_of_pairwise (List.pairwise_map.2 (h.imp fun {p q} I=>?_));exact decide_eq_true (List.le_of_lt ((Om _ _).1 I))
end
section
theorem ay8 (n:Int) (aV:0<=n) (h1:n<=31):bits BinOp.and IntKind.u64 n 31=n:=by
 obtain⟨k,rfl⟩:=Int.eq_ofNat_of_zero_le aV;have h:∀ k:Fin 32,bits BinOp.and IntKind.u64 (k.val:Int) 31=k.val:=by decide +kernel
 exact h ⟨k,om⟩
theorem ofInt_u32 (x:UInt32):BitVec.ofInt IntKind.u32.bits (x.toNat:Int)=x.toBitVec:=by
 show BitVec.ofInt 32 _=_;apply BitVec.eq_of_toNat_eq;rw [BitVec.toNat_ofInt];have h:=x.toNat_lt;have:((x.toNat:Int) % ((2 ^ 32:Nat):Int)).toNat=x.toNat:=by rw [Int.emod_eq_of_lt om (by simp;omega)];omega
 rw [this];rfl
theorem ahU (n:Nat) (h:n < 4294967296):IntKind.u32.wrap (n:Int)=n:=IntWalk.u32_in _ om
theorem aoH (x y:UInt32):bits BinOp.xor IntKind.u32 (x.toNat:Int) (y.toNat:Int)=((x ^^^ y).toNat:Int):=by unfold bits;simp only [ofInt_u32];exact ahU _ (x ^^^ y).toNat_lt
theorem ay9 (x y:UInt32):bits BinOp.and IntKind.u32 (x.toNat:Int) (y.toNat:Int)=((x &&& y).toNat:Int):=by unfold bits;simp only [ofInt_u32];exact ahU _ (x &&& y).toNat_lt
theorem aoI (x y:UInt32):bits BinOp.or IntKind.u32 (x.toNat:Int) (y.toNat:Int)=((x ||| y).toNat:Int):=by unfold bits;simp only [ofInt_u32];exact ahU _ (x ||| y).toNat_lt
theorem aza (x y:UInt32):((x.toNat:Int)+y.toNat) % 4294967296=((x+y).toNat:Int):=by rw [UInt32.toNat_add];omega
theorem aoJ (x:UInt32) (n:Nat) (h:n < 32):(x.toNat:Int) * 2 ^ n % 4294967296=((x <<< UInt32.ofNat n).toNat:Int):=by rw [UInt32.toNat_shiftLeft,UInt32.toNat_ofNat_of_lt' (by show n < 4294967296;omega),Nat.mod_eq_of_lt h,Nat.shiftLeft_eq];simp
theorem ahV (x:UInt32) (n:Nat) (h:n < 32):(x.toNat:Int) / 2 ^ n=((x >>> UInt32.ofNat n).toNat:Int):=by rw [UInt32.toNat_shiftRight,UInt32.toNat_ofNat_of_lt' (by show n < 4294967296;omega),Nat.mod_eq_of_lt h,Nat.shiftRight_eq_div_pow];simp
def aoK (x y:UInt32):UInt32:=x+y
def azb (x y:UInt32):UInt32:=x ^^^ y
def azc (x y:UInt32):UInt32:=x &&& y
def TT (x y:UInt32):UInt32:=x ||| y
def aoL (x:UInt32):UInt32 := ~~~x
def TU (x:UInt32) (n:UInt32):UInt32:=x <<< n
def aoM (x:UInt32) (n:UInt32):UInt32:=x >>> n
def ahW (x:UInt8):UInt32:=x.toUInt32
theorem aoN (x y:UInt32):((x.toNat:Int)+y.toNat) % 4294967296=((aoK x y).toNat:Int):=aza x y
theorem aoO (x y:UInt32):bits BinOp.xor IntKind.u32 (x.toNat:Int) (y.toNat:Int)=((azb x y).toNat:Int):=aoH x y
theorem azd (x y:UInt32):bits BinOp.and IntKind.u32 (x.toNat:Int) (y.toNat:Int)=((azc x y).toNat:Int):=ay9 x y
theorem aoP (x y:UInt32):bits BinOp.or IntKind.u32 (x.toNat:Int) (y.toNat:Int)=((TT x y).toNat:Int):=aoI x y
theorem aze (x:UInt32):bits BinOp.xor IntKind.u32 4294967295 (x.toNat:Int)=((aoL x).toNat:Int):=by
 have h:(4294967295:Int)=((4294967295:UInt32).toNat:Int):=rfl;rw [h,aoH,aoL];have e:(4294967295:UInt32) ^^^ x = ~~~x:=by apply UInt32.toBitVec_inj.1;simp only [UInt32.toBitVec_xor,UInt32.toBitVec_not];exact BitVec.allOnes_xor
 rw [e]
theorem aOu:IntKind.u32.signed=false:=rfl
theorem azf:IntKind.u32.max=4294967295:=dc
theorem aoQ (x:UInt32):(x.toNat:Int) * 256 % 4294967296=((TU x 8).toNat:Int):=aoJ x 8 om
theorem azg (x:UInt32):(x.toNat:Int) / 8=((aoM x 3).toNat:Int):=ahV x 3 om
theorem azh (x:UInt32):(x.toNat:Int) / 1024=((aoM x 10).toNat:Int):=ahV x 10 om
theorem aoR (b:UInt8):(b.toNat:Int) % 4294967296=((ahW b).toNat:Int):=by have:=b.toNat_lt;rw [ahW,UInt8.toNat_toUInt32];omega
end
namespace bP
def I6 (x:UInt32) (n:UInt32):UInt32:=x >>> n ||| x <<< (32 - n)
def azi (x:UInt32):UInt32:=I6 x 7 ^^^ I6 x 18 ^^^ x >>> 3
def azj (x:UInt32):UInt32:=I6 x 17 ^^^ I6 x 19 ^^^ x >>> 10
def azk (x:UInt32):UInt32:=I6 x 2 ^^^ I6 x 13 ^^^ I6 x 22
def azl (x:UInt32):UInt32:=I6 x 6 ^^^ I6 x 11 ^^^ I6 x 25
def ks:List UInt32:=[
 0x428a2f98,0x71374491,0xb5c0fbcf,0xe9b5dba5,0x3956c25b,0x59f111f1,0x923f82a4,0xab1c5ed5,
 0xd807aa98,0x12835b01,0x243185be,0x550c7dc3,0x72be5d74,0x80deb1fe,0x9bdc06a7,0xc19bf174,
 0xe49b69c1,0xefbe4786,0x0fc19dc6,0x240ca1cc,0x2de92c6f,0x4a7484aa,0x5cb0a9dc,0x76f988da,
 0x983e5152,0xa831c66d,0xb00327c8,0xbf597fc7,0xc6e00bf3,0xd5a79147,0x06ca6351,0x14292967,
 0x27b70a85,0x2e1b2138,0x4d2c6dfc,0x53380d13,0x650a7354,0x766a0abb,0x81c2c92e,0x92722c85,
 0xa2bfe8a1,0xa81a664b,0xc24b8b70,0xc76c51a3,0xd192e819,0xd6990624,0xf40e3585,0x106aa070,
 0x19a4c116,0x1e376c08,0x2748774c,0x34b0bcb5,0x391c0cb3,0x4ed8aa4a,0x5b9cca4f,0x682e6ff3,
 0x748f82ee,0x78a5636f,0x84c87814,0x8cc70208,0x90befffa,0xa4506ceb,0xbef9a3f7,0xc67178f2]
def adu (b:aR0) (j:Nat):UInt32 :=
 (b.getD j 0).toUInt32 <<< 24 ||| (b.getD (j+1) 0).toUInt32 <<< 16 ||| (b.getD (j+2) 0).toUInt32 <<< 8 ||| (b.getD (j+3) 0).toUInt32
def Zd (w:List UInt32) (n:Nat):UInt32 :=
 w.getD n 0+azi (w.getD (n+1) 0)+w.getD (n+9) 0+azj (w.getD (n+14) 0)
def words (b:aR0):Nat->List UInt32
 | 0=>(List.range 16).map fun i=>adu b (4 * i)
 | n+1=>words b n++[Zd (words b n) n]
structure kX where
 a:UInt32
 b:UInt32
 c:UInt32
 d:UInt32
 e:UInt32
 f:UInt32
 g:UInt32
 h:UInt32
def kX.list (s:kX):List UInt32:=[s.a,s.b,s.c,s.d,s.e,s.f,s.g,s.h]
def start:kX:=⟨0x6a09e667,0xbb67ae85,0x3c6ef372,0xa54ff53a,0x510e527f,0x9b05688c,0x1f83d9ab,0x5be0cd19⟩
def one (s:kX) (k w:UInt32):UInt32:=s.h+azl s.e+(s.e &&& s.f ^^^ ~~~s.e &&& s.g)+k+w
def two (s:kX):UInt32:=azk s.a+(s.a &&& s.b ^^^ s.a &&& s.c ^^^ s.b &&& s.c)
def step (s:kX) (k w:UInt32):kX:=⟨one s k w+two s,s.a,s.b,s.c,s.d+one s k w,s.e,s.f,s.g⟩
def turns (w:List UInt32) (s:kX):Nat->kX
 | 0=>s
 | n+1=>step (turns w s n) (ks.getD n 0) (w.getD n 0)
def kX.plus (s t:kX):kX:=⟨s.a+t.a,s.b+t.b,s.c+t.c,s.d+t.d,s.e+t.e,s.f+t.f,s.g+t.g,s.h+t.h⟩
def block (s:kX) (b:aR0):kX:=s.plus (turns (words b 48) s 64)
def blocks:Nat->kX->List UInt8->kX
 | 0,s,_=>s
 | n+1,s,l=>blocks n (block s (l.take 64)) (l.drop 64)
def eight (n:Nat):List UInt8:=(List.range 8).map fun i=>UInt8.ofNat (n / 2 ^ (56 - 8 * i) % 256)
def tail (n:Nat):List UInt8:=128 :: (List.replicate ((119 - n % 64) % 64) 0++eight (8 * n))
def byteOf (s:kX) (i:Nat):UInt8:=((s.list.getD (i / 4) 0) >>> (UInt32.ofNat (24 - 8 * (i % 4)))).toUInt8
def out (s:kX):List UInt8:=(List.range 32).map (byteOf s)
def whole (l:aR0):List UInt8:=l++tail l.length
def sum (l:aR0):List UInt8:=out (blocks ((whole l).length / 64) start (whole l))
end bP
section
open Go.RowKit
def ahX (x:UInt32) (n:Int):UInt32:=bP.I6 x (UInt32.ofNat n.toNat)
theorem azm (x:UInt32) (n:Int) (aV:1<=n) (h1:n<=31) :
  bits BinOp.or IntKind.u32 (↑x.toNat * 2 ^ (32 - n).toNat % 4294967296) (↑x.toNat / 2 ^ n.toNat)=((ahX x n).toNat:Int):=by
 obtain⟨k,rfl⟩:=Int.eq_ofNat_of_zero_le (show 0<=n by omega);have e:(32 - (k:Int)).toNat=32 - k:=om;rw [e,Int.toNat_natCast,aoJ x (32 - k) om,ahV x k om,aoI];have I:UInt32.ofNat (32 - k)=32 - UInt32.ofNat k:=by
  apply UInt32.toNat_inj.1;rw [UInt32.toNat_sub_of_le]
  ·simp;omega
  ·rw [UInt32.le_iff_toNat_le];simp;omega
 rw [I,ahX,bP.I6,Int.toNat_natCast,UInt32.or_comm]
theorem azn {k:IntKind} {a b:Int} (h:a=b):Ending.returned (.int k a) = .returned (.int k b):=by rw [h]
theorem ahY (x:UInt32) (n:Int) (w:aRU) (aV:1<=n) (h1:n<=31) :
  Calls prog 138 #[.int .u32 x.toNat,.int .i64 n] w fun e w'=>e = .returned (.int .u32 (ahX x n).toNat)/\w=w':=by
 have ae:=ay8 (32 - n) om om;go_enter func138,ntmps138;go_wp2;have e:(32 - (32 - n))=n:=om;go_ret;refine⟨azn ?_,rfl⟩;rw [<- azm x n aV h1];simp [e]
section
attribute [local go_sem] aoP aoR aoQ
end
def azo (x:UInt32):Value:=.int .u32 x.toNat
def fB (l:List UInt32):List Value:=l.map azo
theorem aoS:fB bP.start.list=[.int .u32 1779033703,.int .u32 3144134277,.int .u32 1013904242,.int .u32 2773480762,.int .u32 1359893119,.int .u32 2600822924,.int .u32 528734635,.int .u32 1541459225]:=rfl
theorem azp (w:aRU):CB 80 #[] w (.agg (fB bP.start.list).toArray):=by go_enter func80,ntmps80;go_wp2;exact aQP (v:=.agg (fB bP.start.list).toArray) (by rw [aoS];simp [results,Tryz.results80,go_sem]) rfl ⟨rfl,iD⟩
end
namespace bP
theorem azq (a b c d:UInt32):TT (TU (TT (TU (TT (TU (TT (TU 0 8) a) 8) b) 8) c) 8) d=a <<< 24 ||| b <<< 16 ||| c <<< 8 ||| d:=by
 simp only [TT,TU];apply UInt32.toBitVec_inj.1;simp only [UInt32.toBitVec_or,UInt32.toBitVec_shiftLeft];have I:(8:UInt32).toBitVec % 32=8#32:=rfl;have J:(16:UInt32).toBitVec % 32=16#32:=rfl;have M:(24:UInt32).toBitVec % 32=24#32:=rfl;simp only [I,J,M,BitVec.shiftLeft_or_distrib,BitVec.shiftLeft_eq',BitVec.toNat_ofNat,<- BitVec.shiftLeft_add];show (0#32) <<< _ ||| _ ||| _ ||| _ ||| _=_
 simp
def acc (l:aR0):Nat->List UInt32
 | 0=>List.replicate 64 0
 | k+1=>(acc l k).set (k / 4) (TT (TU ((acc l k).getD (k / 4) 0) 8) (ahW (l.getD k 0)))
theorem aoT (l:aR0) (k:Nat):(acc l k).length=64:=by
 induction k with
 | zero=>rfl
 | succ k I=>rw [acc,List.length_set,I]
theorem azs (l:aR0) (k:Nat) (hk:k < 64) (aV:(acc l (4 * k)).getD k 0=0):acc l (4 * (k+1))=(acc l (4 * k)).set k (adu l (4 * k)):=by
 have hl:=aoT l (4 * k);have e:4 * (k+1)=4 * k+1+1+1+1:=om;have d0:4 * k / 4=k:=om;have d1:(4 * k+1) / 4=k:=om;have d2:(4 * k+1+1) / 4=k:=om;have d3:(4 * k+1+1+1) / 4=k:=om;rw [e];simp only [acc,d0,d1,d2,d3,List.set_set];have g:∀ x:UInt32,((acc l (4 * k)).set k x).getD k 0=x:=fun x=>by
  rw [List.getD_eq_getElem?_getD,List.getElem?_set_self om];rfl
 simp only [g,aV,azq,adu];rfl
theorem azt (l:aR0):∀ k,k<=16->acc l (4 * k)=((List.range k).map fun i=>adu l (4 * i))++List.replicate (64 - k) 0:=by
 intro k;induction k with
 | zero=>intro _;rfl
 | succ k I =>
  intro hk;have I:=I om;rw [azs l k om,I,List.range_succ,List.map_append]
  ·have e:64 - k=(64 - (k+1))+1:=om;rw [e,List.replicate_succ,List.set_append_right _ _ sp];simp
  ·rw [I,List.getD_eq_getElem?_getD,List.getElem?_append_right sp,List.getElem?_replicate];split <;> rfl
def row (l:aR0) (n:Nat):List UInt32:=words l n++List.replicate (48 - n) 0
theorem azu (l:aR0):acc l 64=row l 0:=azt l 16 om
theorem KH (l:aR0) (n:Nat):(words l n).length=n+16:=by
 induction n with
 | zero=>simp [words]
 | succ n I=>simp only [words,List.length_append,I,List.length_singleton]
theorem azv (l:aR0) (n:Nat) (h:n<=48):(row l n).length=64:=by simp only [row,List.length_append,KH,List.length_replicate];omega
theorem adv (l:aR0) (n j:Nat) (h:j < n+16):(row l n).getD j 0=(words l n).getD j 0:=by rw [row,List.getD_eq_getElem?_getD,List.getElem?_append_left (by rw [KH];exact h),<- List.getD_eq_getElem?_getD]
theorem azw (l:aR0) (n:Nat) (h:n < 48):row l (n+1)=(row l n).set (n+16) (Zd (row l n) n):=by
 have e:48 - n=(48 - (n+1))+1:=om;have hw:=KH l n;have I:Zd (row l n) n=Zd (words l n) n:=by simp only [Zd,adv l n n om,adv l n (n+1) om,adv l n (n+9) om,adv l n (n+14) om]
 rw [I,row,row,words,e,List.replicate_succ,List.set_append_right _ _ om,hw];simp
theorem azx (l:aR0):row l 48=words l 48:=by simp [row]
theorem aoU (n:Nat):∀ (s:kX) (l l':aR0),l.take (64 * n)=l'.take (64 * n)->blocks n s l=blocks n s l':=by
 induction n with
 | zero=>intros;rfl
 | succ n I =>
  intro s l l' h;have h1:l.take 64=l'.take 64:=by have:=congrArg (List.take 64) h;rwa [List.take_take,List.take_take,Nat.min_eq_left om] at this
  have J:(l.drop 64).take (64 * n)=(l'.drop 64).take (64 * n):=by have:=congrArg (List.drop 64) h;rw [List.drop_take,List.drop_take,show 64 * (n+1) - 64=64 * n by omega] at this;exact this
  rw [blocks,blocks,h1,I _ _ _ J]
theorem adw (m:Nat):∀ (n:Nat) (s:kX) (l:aR0),blocks (n+m) s l=blocks m (blocks n s l) (l.drop (64 * n))
 | 0,s,l=>by simp [blocks]
 | n+1,s,l=>by
  rw [show n+1+m=(n+m)+1 by omega,blocks,blocks,adw m n,List.drop_drop,show 64+64 * n=64 * (n+1) by omega]
theorem aoV (n:Nat) (s:kX) (l:aR0):blocks (n+1) s l=block (blocks n s l) ((l.drop (64 * n)).take 64):=by rw [adw 1 n,blocks,blocks]
end bP
section
open Go.RowKit
theorem ahZ (l:List UInt32) (h:j < l.length):(fB l)[j]?=some (.int .u32 (l.getD j 0).toNat):=by rw [fB,List.getElem?_map,List.getElem?_eq_getElem h,List.getD_eq_getElem?_getD,List.getElem?_eq_getElem h];rfl
theorem azy (l:List UInt32) (j:Nat) (x:UInt32):(fB l).toArray.setIfInBounds j (.int .u32 x.toNat)=(fB (l.set j x)).toArray:=by rw [fB,fB,List.map_set,List.setIfInBounds_toArray];rfl
theorem G7 (l:List UInt32):(fB l).length=l.length:=by simp [fB]
theorem Ww (l:List UInt32):∀ v∈fB l,v.oneCell'=true:=by intro v I;obtain⟨x,_,rfl⟩:=aQO.1 I;rfl
theorem azz:Sz 237 64:=kr
theorem ah0 {l:List UInt32} (h:l.length=64):(prog.info? 237).map (·.size)=some (fB l).length:=by rw [G7,h];exact azz
theorem azA {l m:List UInt32} (h:l.length=m.length):0+(fB l).length<=(fB m).toArray.size:=by rw [List.size_toArray,G7,G7,h];omega
theorem aoW (T E n:TypeId) (bY:P.underlying T=some (.array n E)) (bz:P.underlying E=some (.int .u32)) (bL:(P.info? E).map (·.size)=some 1) (l:List UInt32) (k:Nat) (hk:k < l.length) (aB:l.length=n) (w:aRU) :
  (Instr.index T (.agg (fB l).toArray) (.int .i64 k)).run P w = .ok (.int .u32 (l.getD k 0).toNat) w:=by
 cases I:P.info? E with
 | none=>simp [I] at bL
 | some i =>
  have hs:i.size=1:=by simpa [I] using bL
  have hc:=ahZ l hk;simp [Instr.index,asIntOf,run_underlying bY,sizeOf,typeInfo,I,hs,part,isAgg,run_underlying bz];rw [hc];simp;intro h;omega
def Words (w:aRU) (g:Nat) (t:TypeId) (l:List UInt32):Prop:=w.heap[g]?=some (.cells (fB l).toArray t (0,0))
section
variable {w w':aRU} {g:Nat} {t:TypeId} {l:List UInt32}
theorem Words.cell (h:Words w g t l) (aC:j < l.length):w.cell? (ad g j)=some (.int .u32 (l.getD j 0).toNat):=by rw [cell_of_row w g j _ t _ h,List.getElem?_toArray,ahZ l aC]
theorem Words.frozen (h:Words w g t l) (j:Nat):w.frozen? ⟨g,j,none⟩=false:=aQY w g j _ t h
theorem Words.set (h:Words w g t l) (j:Nat) (x:UInt32):Words (w.setCell ⟨g,j,none⟩ (.int .u32 x.toNat)) g t (l.set j x):=by unfold Words;rw [heap_setCell_same w g j _ t _ h,azy]
theorem Words.lt (h:Words w g t l):g < w.heap.size:=iw h
end
def KI (w wr:aRU) (L:List UInt32):Prop :=
 Words wr w.heap.size 237 (List.replicate 64 0)/\Words wr (w.heap.size+1) 237 L/\Bl w wr
theorem KI.start (w:aRU):KI w ((w.alloc (.cells (fB (List.replicate 64 0)).toArray 237)).alloc (.cells (fB (List.replicate 64 0)).toArray 237)) (List.replicate 64 0) :=
 ⟨heap_alloc2_old w _ _,heap_alloc2_new w _ _,iD.alloc sp _⟩
theorem KI.set (h:KI w wr L) (j:Nat) (x:UInt32):KI w (wr.setCell ⟨w.heap.size+1,j,none⟩ (.int .u32 x.toNat)) (L.set j x) :=
 ⟨(aRL wr _ _ _ sp).trans h.1,h.2.1.set j x,h.2.2.setCell sp _⟩
theorem KI.drewN (h:KI w wr L) (n:Nat):KI w (wr.drewN n) L:=⟨h.1,h.2.1,below_drewN h.2.2 n⟩
section
attribute [local go_sem] aoP aoR aoQ aoN aoO azg azh
theorem azB (b o c:Nat) (l:aR0) (w:aRU) (ae:b < w.heap.size) (hc:∀ j,j < 64->w.cell? (ad b (o+j))=some (.int .u8 (l.getD j 0).toNat)) :
  CB 137 #[.slice (some ⟨b,o,none⟩) 64 c] w (.agg (fB (bP.words l 48)).toArray):=by
 have Y:=Lib.hid hc;clear hc;go_enter func137,ntmps137;go_wp2;go_loopw [13] (fun i wr=>∃ k:Nat,k<=64/\i = .int .i64 k/\KI w wr (bP.acc l k)) (fun i _=>64 - (intOf i).toNat);case atStart=>exact⟨0,om,rfl,KI.start w⟩
 case round =>
  obtain⟨k,hk,rfl,I⟩:=hrel;by_cases J:k < 64
  ·have hcell:=(I.2.2.cell (p:=ad b (o+k)) ae).trans (Y.out k J);have hw:=I.2.1.cell (j:=k / 4) (by rw [bP.aoT];omega);have hf:=I.2.1.frozen (k / 4);go_wp2;go_roundw;case rel=>exact⟨k+1,om,by go_num,I.set (k / 4) _⟩
   case measure=>simp [intOf];omega
  ·have AA:Hid (k=64):=by exact (by omega:k=64)
   rw [AA.out,bP.azu] at I;go_wp2;go_loopw [6] (fun i wr=>∃ n:Nat,n<=48/\i = .int .i64 ((n:Int)+16)/\KI w wr (bP.row l n)) (fun i _=>64 - (intOf i).toNat);case atStart=>exact⟨0,om,rfl,I⟩
   case round =>
    clear I;obtain⟨n,AV,rfl,I⟩:=hrel;by_cases J:n < 48
    ·have hl:=bP.azv l n om;have AX:=I.2.1.cell (j:=n) om;have c1:=I.2.1.cell (j:=n+1) om;have c9:=I.2.1.cell (j:=n+9) om;have AZ:=I.2.1.cell (j:=n+14) om;have Aa:=I.2.1.cell (j:=n+16) om;have hf:=I.2.1.frozen (n+16);clear hl;have Ac:(n:Int)+16 < 64:=om;go_wp2;go_quiet (fail);go_wp2_with (go_at_call 138; refine (ahY _ _ _ om om).mono ?_;rintro e w' ⟨rfl,rfl⟩);go_region;go_wp2;go_roundw;case rel=>exact⟨n+1,om,by go_num,by rw [bP.azw l n J];exact (I.drewN _).set _ _⟩
     case measure=>simp [intOf];omega
    ·have AB:Hid (n=48):=by exact (by omega:n=48)
     rw [AB.out,bP.azx] at I;have h1:=Lib.hid (show wr.heap[w.heap.size]?=some (.cells (fB (List.replicate 64 0)).toArray _ (0,0)) from I.1);have AP:=Lib.hid (show wr.heap[w.heap.size+1]?=some (.cells (fB (bP.words l 48)).toArray _ (0,0)) from I.2.1);have AQ:=Lib.hid I.2.2;clear I;go_wp2_with (first|(with_reducible refine QJ (w.heap.size+1) 0 _ _ _ AP.out (fB (bP.words l 48)) (fun j _=>YV _ j) _ underlying237 (ah0 (bP.KH l 48)) ?_ ?_;exact⟨rfl,rfl⟩)|(with_reducible refine yH w.heap.size 0 (.agg (fB (bP.words l 48)).toArray) (fB (bP.words l 48)) (qK _) _ _ h1.out (ah0 (bP.KH l 48)) (azA ((bP.KH l 48).trans List.length_replicate.symm)) (Ww _) ?_ ?_;exact⟨rfl,rfl⟩));have M:=aQU wr w.heap.size _ (laid (fB (List.replicate 64 0)).toArray 0 (fB (bP.words l 48))) _ _ h1.out;rw [EB (by rw [G7,bP.KH,List.size_toArray,G7,List.length_replicate])] at M;have AU:=Lib.hid M;clear M;refine aQP (v:=.agg (fB (bP.words l 48)).toArray) ?_ rfl ⟨rfl,Kz AQ.out (aQF _) _⟩;rw [EB (by rw [G7,bP.KH,List.size_toArray,G7,List.length_replicate])];exact aQ7 rfl _ _ w.heap.size 237 _ (0,0) _ rfl AU.out underlying237 rfl (by rw [List.size_toArray];exact ah0 (bP.KH l 48))
end
end
section
open Go.RowKit
theorem aoY:(prog.info? 237).map (·.size)=some (fB bP.ks).length:=kr
theorem azC:0+(fB bP.ks).length<=(Array.size #[jF,jF,jF,jF,jF,jF,jF,jF,jF,jF,jF,jF,jF,jF,jF,jF,jF,jF,jF,jF,jF,jF,jF,jF,jF,jF,jF,jF,jF,jF,jF,jF,jF,jF,jF,jF,jF,jF,jF,jF,jF,jF,jF,jF,jF,jF,jF,jF,jF,jF,jF,jF,jF,jF,jF,jF,jF,jF,jF,jF,jF,jF,jF,jF]):=dc
theorem azD (w:aRU):CB 136 #[] w (.agg (fB bP.ks).toArray):=by go_enter func136,ntmps136;go_wp2_with (first|(with_reducible refine Wq (fB bP.ks).toArray ?_ ?_;exact kr)|(with_reducible refine yH w.heap.size 0 (.agg (fB bP.ks).toArray) (fB bP.ks) (qK _) _ _ (aQS w _) aoY azC (Ww _) ?_ ?_;exact⟨rfl,rfl⟩));refine aQP (v:=.agg (fB bP.ks).toArray) (aQ7 rfl _ _ w.heap.size 237 _ (0,0) _ rfl (aQU _ _ _ _ _ _ (aQS w _)) underlying237 rfl kr) rfl ⟨rfl,Kz iD (aQF _) _⟩
end
section
open Go.RowKit
theorem aoZ:Sz 164 1:=kr
attribute [local go_sem] aoN aoO azd aze aOu azf
theorem azE:Sz 166 8:=kr
theorem Wx (s:bP.kX):(prog.info? 166).map (·.size)=some (fB s.list).length:=azE
theorem azF:0+(fB bP.ks).length<=(fB (List.replicate 64 0)).toArray.size:=dc
theorem ao0 (s:bP.kX):0+(fB s.list).length<=(fB (List.replicate 8 0)).toArray.size:=aQF 8
theorem azG (s s':bP.kX):0+(fB s.list).length<=(fB s'.list).toArray.size:=aQF 8
def adx (B g:Nat) (s:bP.kX):Nat->Value->World->Prop
 | 0,v,_=>v = .pointer (some ⟨g,0,none⟩)
 | 1,v,_=>v = .pointer (some ⟨g,0,none⟩)
 | 2,v,_=>v = .agg (fB s.list).toArray
 | 3,v,_=>v = .agg (fB bP.ks).toArray
 | 4,v,w=>∃ b,v = .pointer (some ⟨b,0,none⟩)/\B<=b/\Words w b 166 (List.replicate 8 0)
 | 5,v,w=>∃ b,v = .pointer (some ⟨b,0,none⟩)/\B<=b/\Words w b 237 (List.replicate 64 0)
 | _,_,_=>True
theorem adx.mono {s:bP.kX}:∀ (j:Nat) (v:Value) (w w':aRU),Bl w w'->adx B g s j v w->adx B g s j v w'
 | 0,_,_,_,_,h=>h
 | 1,_,_,_,_,h=>h
 | 2,_,_,_,_,h=>h
 | 3,_,_,_,_,h=>h
 | 4,_,_,_,ae,⟨b,h1,J,I⟩=>⟨b,h1,J,(ae.block b I.lt).trans I⟩
 | 5,_,_,_,ae,⟨b,h1,J,I⟩=>⟨b,h1,J,(ae.block b I.lt).trans I⟩
 | _+6,_,_,_,_,_=>trivial
theorem azH {x:UInt32} (hk:k < L.length):(laid cur 0 (fB L)).setIfInBounds k (.int .u32 x.toNat)=laid cur 0 (fB (L.set k x)):=by simp only [laid,List.take_zero,List.nil_append,Nat.zero_add,List.setIfInBounds_toArray,G7,List.length_set];rw [List.set_append_left _ _ (by rw [G7];exact hk)];congr 2;rw [fB,fB,List.map_set];rfl
theorem azI {vs:aRW} (hl:vs.length<=cur.size) (h:∀ j,j < vs.length->cur[j]?=vs[j]?):laid cur 0 vs=cur:=by
 apply Array.ext_getElem?;intro j;rw [an9 om,if_neg om,Nat.zero_add,Nat.sub_zero];split
 ·rename_i aC;exact (h j aC).symm
 ·rfl
def mix (s S:bP.kX) (k:Nat):List UInt32:=(s.plus S).list.take k++s.list.drop k
theorem azJ (s S:bP.kX) (k:Nat) (h:k<=8):(mix s S k).length=8:=by have h1:(s.plus S).list.length=8:=rfl;have I:s.list.length=8:=rfl;simp only [mix,List.length_append,List.length_take,List.length_drop];omega
theorem azK (s S:bP.kX) (k:Nat) (h:k < 8):(mix s S k).set k (aoK ((mix s S k).getD k 0) (S.list.getD k 0))=mix s S (k+1):=by have:k=0\/k=1\/k=2\/k=3\/k=4\/k=5\/k=6\/k=7:=om;rcases this with rfl | rfl | rfl | rfl | rfl | rfl | rfl | rfl <;> rfl
theorem azL (hk:k < L.length) (hl:L.length<=cur.size):(laid cur 0 (fB L))[k]?=some (.int .u32 (L.getD k 0).toNat):=by rw [an9 (by rw [G7];omega),if_neg om,if_pos (by rw [G7];omega),Nat.sub_zero,ahZ L hk]
theorem ao1 (h:w.grownBy w' (some g)) (v:Value):w.grownBy (w'.setCell ⟨g,j,none⟩ v) (some g) :=
 ⟨h.os,h.tape,h.output,by simpa [World.setCell] using h.size,fun k hk I=>(aRL w' _ k v (fun e=>I (by rw [e]))).trans (h.block k hk I)⟩
theorem azM {r:Option Nat} (h:w.grownBy w' r) (n:Nat):w.grownBy (w'.drewN n) r:=⟨h.os,h.tape,h.output,h.size,h.block⟩
structure DD (w af:aRU) (V K:Nat) (L:List UInt32):Prop where
 v:Words af V 166 L
 k:Words af K 237 bP.ks
 below:Bl w af
 ady:w.heap.size<=V
 ah1:w.heap.size<=K
theorem DD.ne (h:DD w af V K L):K≠V:=by
 rintro rfl;have h1:=h.v;have I:=h.k;unfold Words at h1 I;rw [h1] at I;injection I with I
 injection I with _ J
 exact absurd J dc
theorem DD.drewN (h:DD w af V K L) (n:Nat):DD w (af.drewN n) V K L:=⟨h.v,h.k,below_drewN h.below n,h.ady,h.ah1⟩
theorem DD.set {QO:List UInt32} (h:DD w af V K L) (hl:QO.length=L.length):DD w (af.setRow V (laid (fB L).toArray 0 (fB QO))) V K QO:=by have e:laid (fB L).toArray 0 (fB QO)=(fB QO).toArray:=EB (by rw [G7,List.size_toArray,G7,hl]);rw [e];exact⟨aQU _ _ _ _ _ _ h.v,(aQT _ _ _ _ h.ne).trans h.k,Kz h.below h.ady _,h.ady,h.ah1⟩
theorem DD.ext {aD:aRU} (h:DD w af V K L) (ae:Bl af aD):DD w aD V K L :=
 ⟨(ae.block _ h.v.lt).trans h.v,(ae.block _ h.k.lt).trans h.k,h.below.trans (ae.mono h.below.size),h.ady,h.ah1⟩
theorem DD.start {w1:aRU} {s:bP.kX} (ed:Words w1 V 166 (List.replicate 8 0)) (aR:Words w1 K 237 (List.replicate 64 0)) (ae:Bl w w1) (v:w.heap.size<=V) (k:w.heap.size<=K) :
  DD w ((w1.setRow V (laid (fB (List.replicate 8 0)).toArray 0 (fB s.list))).setRow K (laid (fB (List.replicate 64 0)).toArray 0 (fB bP.ks))) V K s.list:=by
 have I:K≠V:=by
  rintro rfl;unfold Words at ed aR;rw [ed] at aR;injection aR with aR
  injection aR with _ J
  exact absurd J dc
 have M:laid (fB (List.replicate 8 0)).toArray 0 (fB s.list)=(fB s.list).toArray:=EB rfl;have Y:laid (fB (List.replicate 64 0)).toArray 0 (fB bP.ks)=(fB bP.ks).toArray:=EB dc;rw [M,Y];have h1:=aQU w1 V _ (fB s.list).toArray _ _ ed;have AA:=(aQT w1 V K (fB s.list).toArray I).trans aR;exact⟨(aQT _ _ _ _ I.symm).trans h1,aQU _ _ _ _ _ _ AA,Kz (Kz ae v _) k _,v,k⟩
theorem ao2 (g:Nat) (cur:Array Value) (t:TypeId) (s:bP.kX) (w:aRU) (av:w.heap[g]?=some (.cells cur t (0,0)))
  (gF:8<=cur.size) (hs:∀ j,j < (fB s.list).length->cur[j]?=(fB s.list)[j]?) (b o c:Nat) (l:aR0) (ae:b < w.heap.size) (hc:∀ j,j < 64->w.cell? (ad b (o+j))=some (.int .u8 (l.getD j 0).toNat)) :
  CR 81 #[pp g 0,.slice (some ⟨b,o,none⟩) 64 c] w (.tuple #[]) fun w'=>w'.heap[g]?=some (.cells (laid cur 0 (fB (bP.block s l).list)) t (0,0))/\w.grownBy w' (some g):=by
 have AB:=aa av;have BF:=aa hc;clear av hc;go_enter func81,ntmps81;go_wp2;refine nH (bV 6 (adx w.heap.size g s) (Bl w) (fun w w'=>Bl w w') (Below.refl _ _).drew (fun j v w1 af he BG=>BG.mono _ _ _ _ he) ?_ (jI:=⟨rx,?_,?_,?_,?_,?_,trivial⟩))
 ·intro u w1 aj BH;obtain⟨_,_,AQ,AU,⟨V,ed,BK,AV⟩,⟨K,Al,BL,AX⟩,_⟩:=BH;change u 2=_ at AQ;change u 3=_ at AU;simp only [AQ,AU,ed,Al];have Y:=DD.start (s:=s) AV AX aj BK BL;have Am:=aa (show w1.heap[V]?=some (.cells (fB (List.replicate 8 0)).toArray 166 (0,0)) from AV);have Ao:=aa ((aQT w1 V K (laid (fB (List.replicate 8 0)).toArray 0 (fB s.list)) (DD.ne Y)).trans AX);clear AQ AU ed Al AV AX;with_reducible refine yH V 0 (.agg (fB s.list).toArray) (fB s.list) (qK _) _ _ Am.o (Wx s) (ao0 s) (Ww _) ?_ ?_
  ·exact⟨rfl,rfl⟩
  with_reducible refine yH K 0 (.agg (fB bP.ks).toArray) (fB bP.ks) (qK _) _ _ Ao.o aoY azF (Ww _) ?_ ?_
  ·exact⟨rfl,rfl⟩
  obtain⟨af,Ap⟩:=ai ((w1.setRow V (laid (fB (List.replicate 8 0)).toArray 0 (fB s.list))).setRow K (laid (fB (List.replicate 64 0)).toArray 0 (fB bP.ks)));rw [<- Ap] at Y |-;clear Ap Am Ao aj;go_wp2_with fail;refine (azB b o c l _ (aQJ ae Y.below.size) (fun j aC=>(Y.below.cell (p:=ad b (o+j)) ae).trans (BF.o j aC))).mono ?_;rintro e aD ⟨rfl,Aq⟩;have Av:=Y.ext Aq;clear Y Aq af;obtain⟨W,AZ⟩:=ai (bP.words l 48);rw [<- AZ];have Aa:=aa AZ;clear AZ;go_wp2_with fail;go_loopw [20] (fun i wr=>∃ k:Nat,k<=64/\i = .int .i64 k/\DD w wr V K (bP.turns W s k).list) (fun i _=>64 - (intOf i).toNat);case atStart=>exact⟨0,om,rfl,Av⟩
  case round =>
   obtain⟨k,hk,rfl,aj⟩:=hrel;by_cases AA:k < 64
   ·have Ac:=fun Ad=>aoW (P:=prog) 237 164 64 underlying237 underlying164 aoZ W k (by rw [Aa.o,bP.KH];exact AA) (by rw [Aa.o,bP.KH]) Ad;obtain⟨S,I⟩:=ai (bP.turns W s k);rw [<- I] at aj;have Ae:=aa I;clear I;have Bb:wr.cell? (ad V 0)=some (.int .u32 S.a.toNat):=aj.v.cell (j:=0) (show 0 < 8 by decide);have c1:wr.cell? (ad V 1)=some (.int .u32 S.b.toNat):=aj.v.cell (j:=1) (show 1 < 8 by decide);have c2:wr.cell? (ad V 2)=some (.int .u32 S.c.toNat):=aj.v.cell (j:=2) (show 2 < 8 by decide);have bH:wr.cell? (ad V 3)=some (.int .u32 S.d.toNat):=aj.v.cell (j:=3) (show 3 < 8 by decide);have ou:wr.cell? (ad V 4)=some (.int .u32 S.e.toNat):=aj.v.cell (j:=4) (show 4 < 8 by decide);have Bc:wr.cell? (ad V 5)=some (.int .u32 S.f.toNat):=aj.v.cell (j:=5) (show 5 < 8 by decide);have Be:wr.cell? (ad V 6)=some (.int .u32 S.g.toNat):=aj.v.cell (j:=6) (show 6 < 8 by decide);have Bf:wr.cell? (ad V 7)=some (.int .u32 S.h.toNat):=aj.v.cell (j:=7) (show 7 < 8 by decide);have BN:wr.cell? (ad K k)=some (.int .u32 (bP.ks.getD k 0).toNat):=aj.k.cell (by exact AA);obtain⟨gL,Af,kE,Ag⟩:=nq2 (bP.ks.getD k 0) (W.getD k 0);rw [<- Af] at BN;simp only [<- Ag] at Ac;have BO:=aa Af;have BP:=aa Ag;clear Af Ag;go_wp2_with fail;go_quiet (fail);go_wp2_with fail;go_quiet ((go_at_call 138; exact aob (ahY _ _ _ om om)));go_wp2_with fail;go_quiet ((go_at_call 138; exact aob (ahY _ _ _ om om)));have Ah:=aa (show wr.heap[V]?=some (.cells (fB S.list).toArray 166 (0,0)) from aj.v);go_wp2_with (first | (with_reducible refine yH V 0 (.agg (fB (bP.step S gL kE).list).toArray) (fB (bP.step S gL kE).list) (qK _) _ _ (ayF _ Ah.o) (Wx _) (azG _ _) (Ww _) ?_ ?_;exact⟨rfl,rfl⟩));go_roundw;case rel=>exact⟨k+1,om,by go_num,by rw [bP.turns,<- Ae.o,<- BO.o,<- BP.o];exact (aj.drewN _).set rfl⟩
    case measure=>simp [intOf];omega
   ·have BR:=aa (show k=64 by omega);rw [BR.o] at aj;obtain⟨S,I⟩:=ai (bP.turns W s 64);rw [<- I] at aj;have Ae:=aa I;clear I;have Ah:=aa (show wr.heap[V]?=some (.cells (fB S.list).toArray 166 (0,0)) from aj.v);have hw:w.grownBy wr (some g):=⟨aj.below.os,aj.below.tape,aj.below.output,aj.below.size,fun i BS _=>aj.below.block i BS⟩;have Az:wr.heap[g]?=some (.cells cur t (0,0)):=(aj.below.block g (iw AB.o)).trans AB.o;have BB:=aa Az;clear aj Az Av;go_wp2_with (first | (with_reducible refine QJ V 0 _ _ _ Ah.o (fB S.list) (fun j _=>YV _ j) _ underlying166 (Wx _) ?_ ?_;exact⟨rfl,rfl⟩));go_loopw [100] (fun i wr=>∃ k:Nat,k<=8/\i = .int .i64 k/\wr.heap[g]?=some (.cells (laid cur 0 (fB (mix s S k))) t (0,0))/\w.grownBy wr (some g)) (fun i _=>8 - (intOf i).toNat);case atStart=>exact⟨0,om,rfl,by rw [show laid cur 0 (fB (mix s S 0))=cur from azI gF hs];exact BB.o,hw⟩
    case round =>
     clear hw BB;obtain⟨k,hk,rfl,J,hw⟩:=hrel;by_cases AA:k < 8
     ·have BC:=azJ s S k om;have Ac:=fun Ad=>aoW (P:=prog) 166 164 8 underlying166 underlying164 aoZ S.list k AA rfl Ad;have hcell:=(aQH wr g k _ t _ J).trans (azL om om);have hf:=aQY wr g k _ t J;have Ak:=aa J;have AP:=azK s S k AA;obtain⟨a,BD,d,aS⟩:=nq2 ((mix s S k).getD k 0) (S.list.getD k 0);rw [<- BD] at hcell AP;rw [<- aS] at AP;simp only [<- aS] at Ac;have BU:=aa AP;have BX:=aa BC;clear AP BD aS J BC;go_wp2;go_region;go_wp2;go_roundw;case rel =>
       refine⟨k+1,om,by go_num,?_,azM (ao1 hw _) 1⟩;refine (heap_setCell_same wr g k _ t _ Ak.o).trans ?_;rw [azH (by have:=BX.o;omega),BU.o]
      case measure=>simp [intOf];omega
     ·have BZ:=aa (show k=8 by omega);rw [BZ.o] at J;have Ak:=aa J;clear J;go_wp2;go_end0;exact⟨rfl,by rw [Ak.o,show mix s S 8=(bP.block s l).list from by rw [bP.block,<- Aa.o,<- Ae.o];rfl],hw⟩
 ·intro eQ u af aj aL bz K aR;have Bg:u 0=_:=bz ⟨0,.data⟩ sp rfl;refine mg rfl ?_;go_simp;exact aR _ _ rfl aj (Below.refl _ _)
 ·intro eQ u af aj aL bz K aR;have h1:u 1=_:=bz ⟨1,.data⟩ sp rfl;refine mg rfl ?_;with_reducible refine ayE g 0 cur t _ ((aj.block g (iw AB.o)).trans AB.o) (fB s.list) (fun j aC=>by rw [Nat.zero_add];exact hs j aC) _ underlying166 (Wx s) ?_ ?_
  ·exact⟨by simp [Act.eval,aL,h1],rfl⟩
  exact aR _ _ rfl aj (Below.refl _ _)
 ·intro eQ u af aj aL bz K aR;refine mg rfl ?_;go_simp;refine (azD _).mono ?_;rintro e af ⟨rfl,ae⟩;exact aR _ _ rfl (aU aj ae) ae
 all_goals intro eQ u af aj aL bz K aR
 all_goals refine mg rfl ?_
 all_goals go_simp
 all_goals exact aR _ _ ⟨_,rfl,aj.size,aQS af _⟩ (aj.alloc aj.size _) iD
end
section
open Go.RowKit
def FN (S:bP.kX) (A:aRV) (n c N:Nat):Array Value:=(fB S.list++[Value.slice A n c,Value.int .u64 N]).toArray
def azR (w:aRU) (base g:Nat) (l:aR0) (q:Nat):Prop :=
 64 * q<=l.length/\base<=g/\∃ A c,w.heap[g]?=some (.cells (FN (bP.blocks q bP.start l) A (l.length - 64 * q) c l.length) 170 (0,0)) /\
  Own w base 5 1 A (l.length - 64 * q) c (bQ (l.drop (64 * q)))
def Oo (w:aRU) (base g:Nat) (l:aR0):Prop:=azR w base g l (l.length / 64)
def azS (w:aRU) (e:Ending) (w':aRU):Prop:=∃ g,e = .returned (pp g 0)/\Oo w' w.heap.size g []/\Bl w w'
theorem azT (w:aRU):Calls prog 55 #[] w (azS w):=by go_enter func55,ntmps55;go_wp2_with (first|(go_at_call 80; refine (azp _).mono ?_;rintro e w1 ⟨rfl,ae⟩;rw [aoS]));go_ret;exact⟨_,rfl,⟨by simp,ae.size,none,0,aQS w1 _,Own.nil _ _ _ _⟩,ae.alloc ae.size _⟩
theorem azU (S S':bP.kX) (A:aRV) (n c N:Nat):laid (FN S A n c N) 0 (fB S'.list)=FN S' A n c N:=rfl
theorem ao4 (S:bP.kX) (A A':aRV) (n c N zn c':Nat):(FN S A n c N).setIfInBounds 8 (.slice A' zn c')=FN S A' zn c' N:=rfl
theorem azV (S:bP.kX) (A:aRV) (n c N ao5:Nat):(FN S A n c N).setIfInBounds 9 (.int .u64 (ao5:Nat))=FN S A n c ao5:=rfl
theorem QP:(prog.info? 5).map (fun i=>(i.zero,i.size,i.bytes))=some (some (.int .u8 0),1,1):=kr
def Oq (w:aRU) (base g:Nat) (S:bP.kX) (D:aR0) (N q:Nat) (w':aRU):Prop :=
 64 * q<=D.length/\Below base w w'/\w.heap.size<=w'.heap.size/\∃ A c,w'.heap[g]?=some (.cells (FN (bP.blocks q S D) A (D.length - 64 * q) c N) 170 (0,0)) /\
  Own w' base 5 1 A (D.length - 64 * q) c (bQ (D.drop (64 * q)))
theorem ao6 (S:bP.kX) (A:aRV) (n c N:Nat) (aC:j < (fB S.list).length):(FN S A n c N)[j]?=(fB S.list)[j]?:=by rw [FN,List.getElem?_toArray,List.getElem?_append_left aC]
theorem size_setCell (w:aRU) (a:Addr) (v:Value):(w.setCell a v).heap.size=w.heap.size:=by simp [World.setCell]
theorem Oq.start {w1:aRU} {c' n N:Nat} {S:bP.kX} {D:aR0} {A':aRV} (kS:base<=g) (av:w1.heap[g]?=some (.cells (FN S A n c N) 170 (0,0)))
  (bU:Own w1 base 5 1 A' m c' (bQ D)) (hm:m=D.length) (ae:Below base w w1):Oq w base g S D N 0 (w1.setCell ⟨g,8,none⟩ (.slice A' m c')):=by
 subst hm;refine⟨om,ae.setCell (by exact kS) _,by rw [size_setCell];exact ae.size,A',c',?_,?_⟩
 ·rw [heap_setCell_same w1 g 8 _ _ _ av,ao4];rfl
 ·exact bU.setOther (p:=ad g 8) (bU.ne av dc) _
theorem Oq.round {q N o:Nat} {S:bP.kX} {D:aR0} (kS:base<=g) (aJ:64 * (q+1)<=D.length) (gI:Below base w wr) (sF:base<=wr.heap.size)
  (bU:Own wr base 5 1 (some ⟨b,o,none⟩) (D.length - 64 * q) c (bQ (D.drop (64 * q)))) (bJ:b≠g)
  (lL:af.heap[g]?=some (.cells (FN (bP.block (bP.blocks q S D) ((D.drop (64 * q)).take 64)) (some ⟨b,o,none⟩) (D.length - 64 * q) c N) 170 (0,0))) (iR:wr.grownBy af (some g))
  (hA:A=if c=64 then some ⟨b,o,none⟩ else (some (⟨b,o,none⟩:Addr)).map (·.add (64 * 1))) :
  Oq w base g S D N (q+1) (af.setCell ⟨g,8,none⟩ (.slice A (D.length - 64 * q - 64) (c - 64))):=by
 have I:Below base w af:=gI.grown iR sF (fun k e=>by injection e with e;omega);have h1:=(bU.grown iR (fun b' J e=>by simp [bM] at J;injection e with e;omega)).drop (k:=64) om;rw [<- hA,Nat.mul_one,<- aom,List.drop_drop,show D.length - 64 * q - 64=D.length - 64 * (q+1) by omega,show 64 * q+64=64 * (q+1) by omega] at h1;rw [show D.length - 64 * q - 64=D.length - 64 * (q+1) by omega];refine⟨aJ,I.setCell (by exact kS) _,by rw [size_setCell];exact I.size,A,c - 64,?_,h1.setOther (p:=ad g 8) (h1.ne lL dc) _⟩;rw [heap_setCell_same af g 8 _ _ _ lL,ao4,bP.aoV]
theorem azW (w:aRU) (base g:Nat) (S:bP.kX) (d:aR0) (N:Nat) (A:aRV) (c:Nat) (s:ByteArray) (D:aR0) (jy:D=d++s.data.toList) (kS:base<=g) (sF:base<=w.heap.size)
  (av:w.heap[g]?=some (.cells (FN S A d.length c N) 170 (0,0))) (bU:Own w base 5 1 A d.length c (bQ d)) (eX:N+s.size<=140737488355328) (aS:d.length+s.size<=140737488355328) :
  Calls prog 56 #[pp g 0,.string s] w fun e w'=>e = .returned (.tuple #[])/\Oq w base g S D (N+s.size) (D.length / 64) w':=by
 have AP:w.cell? (ad g 8)=some (.slice A d.length c):=aQH w g 8 _ _ _ av;have BR:w.cell? (ad g 9)=some (.int .u64 N):=aQH w g 9 _ _ _ av;have BS:w.frozen? ⟨g,9,none⟩=false:=aQY w g 9 _ _ av;have BU:=iw av;have AX:(w.setCell ⟨g,9,none⟩ (.int .u64 ((N:Int)+s.size))).heap[g]?=some (.cells (FN S A d.length c (N+s.size)) 170 (0,0)):=by rw [heap_setCell_same w g 9 _ _ _ av,show (N:Int)+s.size=((N+s.size:Nat):Int) by omega,azV]
 obtain⟨n,AZ⟩:=ai d.length;rw [<- AZ] at AP bU aS AX;have Ag:n+s.size=D.length:=by rw [AZ,jy,List.length_append,Array.length_toList];rfl
 have hu:bQ d++bQ s.data.toList=bQ D:=by rw [jy,ahN]
 have Aa:=bU.ne av dc;have h1:Own (w.setCell ⟨g,9,none⟩ (.int .u64 ((N:Int)+s.size))) base 5 1 A n c (bQ d):=bU.setOther Aa _;have Ah:(w.setCell ⟨g,9,none⟩ (.int .u64 ((N:Int)+s.size))).heap.size=w.heap.size:=size_setCell _ _ _;have Ak:=aa bU.block;obtain⟨Al,H1,AU,Am,Ao,Ap⟩:=hq6 AX h1 Ah Ag hu Aa;clear AZ AX av h1 Ah bU Ag hu jy Aa;have Aq:n+s.size<=maxLen:=by unfold maxLen;omega
 go_enter func56,ntmps56;go_wp2_with (first|(at_builtin;go_must ((with_reducible refine vg 5 (.int .u8 0) 1 1 underlying48 QP rfl base A n c (bQ d) H1.o s.size (bQ s.data.toList) (.string s) (Src.str underlying9) (GZ _) Aq om (by rw [AU.o];exact sF) ?_ ?_);exact⟨rfl,rfl⟩;intro A' c' w1 Ac I Ad;have J:=(I.block g (by rw [AU.o];exact BU) (fun e=>Ap.o e.symm)).trans Al.o;have Av:w1.cell? (ad g 8)=some (.slice A n c):=aQH w1 g 8 _ _ _ J;have Az:=aQY w1 g 8 _ _ J;have AV:=aa J;clear J)));have BB:Below base w w1:=((Below.refl base w).setCell (p:=ad g 9) (by exact kS) (.int .u64 ((N:Int)+s.size))).grown I (by rw [AU.o];exact sF) (fun k e=>(Ak.o k e).1);rw [Ao.o] at Ac;have AQ:=Oq.start kS AV.o Ac Am.o BB;clear Ac I Ad Av Az BB H1 Al AU AV Am AP BR BS Aq Ak Ao Ap;go_loopg [] (D.length / 64) (fun gk wr=>∃ q,q+gk=D.length / 64/\Oq w base g S D (N+s.size) q wr);case atStart=>exact⟨0,om,AQ⟩
 case round =>
  clear AQ;obtain⟨q,Bi,BC,BD,BX,BF,M,Y,AA⟩:=hrel;have BG:=AA.2.1;by_cases BH:64<=D.length - 64 * q
  ·obtain⟨b,o,cur,aZ,rfl,Bj,Ae,_,BZ,BK⟩:=AA.at_ om;have BL:∀ j,j < 64->wr.cell? (ad b (o+j))=some (.int .u8 (((D.drop (64 * q)).take 64).getD j 0).toNat):=by intro j aC;rw [cell_of_row wr b _ cur _ _ Ae,BK j om,TM _ (by rw [List.length_drop];omega),List.getD_eq_getElem?_getD,List.getD_eq_getElem?_getD,List.getElem?_take,if_pos aC]
   have Bb:b≠g:=fun e=>AA.ne Y dc (by rw [bM,e];rfl);obtain⟨Bc,Be,Bf⟩:=hq3 Y AA BL;have Ad:=iw Ae;obtain⟨m,hm⟩:=ai (D.length - 64 * q);have AP:wr.cell? (ad g 8)=some (.slice (some ⟨b,o,none⟩) m M):=by rw [hm];exact aQH wr g 8 _ _ _ Y
   have AB:=aa hm;rw [<- hm] at BH BG;clear hm Y AA BL Ae BZ BK BC;have Bn:(64:Int)<=m:=om;have Bp:(64:Int)<=M:=om;go_wp2_with fail;go_still_tail 8,kr;go_wp2_with fail;refine (ao2 g _ _ (bP.blocks q S D) wr.drew Bc.o (by decide:8<=10) (fun j aC=>ao6 _ _ _ _ _ aC) b o M ((D.drop (64 * q)).take 64) Ad Bf.o).mono ?_;rintro e af ⟨rfl,J,I⟩;rw [azU] at J;have Av:af.cell? (ad g 8)=some (.slice (some ⟨b,o,none⟩) m M):=by rw [AB.o];exact aQH af g 8 _ _ _ J
   have Az:=aQY af g 8 _ _ J;have AV:=aa J;clear J AP;have Bg:wr.grownBy af (some g):=⟨I.os,I.tape,I.output,I.size,I.block⟩;have Af:=fun (A:aRV) hA=>Oq.round (A:=A) kS (by have:=AB.o;omega) BD om Be.o Bb AV.o Bg hA;rw [<- AB.o] at Af;have BN:=aa Af;clear Af I;by_cases BO:M=64
   ·subst BO;go_wp2;go_roundg (gk - 1);case rel=>exact⟨q+1,by have:=AB.o;omega,by have BP:=BN.o (some ⟨b,o,none⟩) sp;rw [show m - 64=0 by omega] at BP;exact BP⟩
    case measure=>have:=AB.o;omega
   ·go_wp2;go_roundg (gk - 1);case rel=>exact⟨q+1,by have:=AB.o;omega,BN.o _ (by rw [if_neg BO];simp [Dy])⟩
    case measure=>have:=AB.o;omega
  ·have AQ:Oq w base g S D (N+s.size) (D.length / 64) wr:=by rw [show D.length / 64=q by omega];exact⟨BC,BD,BX,BF,M,Y,AA⟩
   obtain⟨m,hm⟩:=ai (D.length - 64 * q);have AP:wr.cell? (ad g 8)=some (.slice BF m M):=by rw [hm];exact aQH wr g 8 _ _ _ Y
   rw [<- hm] at BH;have Bh:=aa AQ;clear AQ hm Y AA BG;go_wp2;go_end0;exact⟨rfl,Bh.o⟩
theorem az0 (w:aRU) (base g:Nat) (l:aR0) (s:ByteArray) (h:Oo w base g l) (hlen:l.length+s.size<=140737488355328) (sF:base<=w.heap.size) :
  CR 56 #[pp g 0,.string s] w (.tuple #[]) fun w'=>Oo w' base g (l++s.data.toList)/\Below base w w'/\w.heap.size<=w'.heap.size:=by
 obtain⟨AZ,J,A,c,av,M⟩:=h;have Y:(l.drop (64 * (l.length / 64))).length=l.length - 64 * (l.length / 64):=List.length_drop;rw [<- Y] at av M;have AA:s.data.toList.length=s.size:=by rw [Array.length_toList];rfl
 refine (azW w base g _ _ l.length A c s _ rfl J sF av M hlen om).mono ?_;rintro e w' ⟨rfl,Aa,AQ,AU,A',c',AV,AX⟩;have I:(l.drop (64 * (l.length / 64))++s.data.toList).length=l.length - 64 * (l.length / 64)+s.size:=by rw [List.length_append,Y,AA]
 have hl:(l++s.data.toList).length=l.length+s.size:=by rw [List.length_append,AA]
 have AB:(l++s.data.toList).length / 64=l.length / 64+(l.drop (64 * (l.length / 64))++s.data.toList).length / 64:=by rw [I,hl];omega
 have AP:(l++s.data.toList).drop (64 * (l.length / 64))=l.drop (64 * (l.length / 64))++s.data.toList:=by rw [List.drop_append_of_le_length om]
 refine⟨rfl,⟨om,J,A',c',?_,?_⟩,AQ,AU⟩
 ·rw [AB,bP.adw,AP,bP.aoU (l.length / 64) bP.start (l++s.data.toList) l (by rw [List.take_append_of_le_length om]),hl];rw [show l.length+s.size - 64 * (l.length / 64+(l.drop (64 * (l.length / 64))++s.data.toList).length / 64)=(l.drop (64 * (l.length / 64))++s.data.toList).length - 64 * ((l.drop (64 * (l.length / 64))++s.data.toList).length / 64) by rw [I];omega];exact AV
 ·rw [AB,hl,show 64 * (l.length / 64+(l.drop (64 * (l.length / 64))++s.data.toList).length / 64)=64 * (l.length / 64)+64 * ((l.drop (64 * (l.length / 64))++s.data.toList).length / 64) by omega,<- List.drop_drop,AP,
   show l.length+s.size - (64 * (l.length / 64)+64 * ((l.drop (64 * (l.length / 64))++s.data.toList).length / 64))=(l.drop (64 * (l.length / 64))++s.data.toList).length - 64 * ((l.drop (64 * (l.length / 64))++s.data.toList).length / 64) by rw [I];omega];exact AX
end
namespace bP
theorem az1 (n:Nat):(eight n).length=8:=by simp [eight]
theorem az2 (n:Nat):(tail n).length=1+(119 - n % 64) % 64+8:=by simp only [tail,List.length_cons,List.length_append,List.length_replicate,az1];omega
theorem az3 (l d:aR0) (S:kX) (U:aR0) (N z q:Nat) (eX:N=l.length) (aS:d=l.drop (64 * (l.length / 64))) (bL:S=blocks (l.length / 64) start l) (dm:z=(119 - N % 64) % 64)
  (iE:U=d++128 :: (List.replicate z 0++eight (8 * N))) (aJ:q=U.length):out (blocks (q / 64) S U)=sum l:=by
 have I:U=(whole l).drop (64 * (l.length / 64)):=by rw [whole,List.drop_append_of_le_length om,<- aS,iE,dm,eX];rfl
 have J:(whole l).length=l.length+(1+(119 - l.length % 64) % 64+8):=by rw [whole,List.length_append,az2]
 have M:q=(whole l).length - 64 * (l.length / 64):=by rw [aJ,I,List.length_drop]
 have he:(whole l).length / 64=l.length / 64+q / 64:=om;rw [sum,he,adw,<- I,bL];congr 2;exact aoU _ _ _ _ (by rw [whole,List.take_append_of_le_length om])
end bP
section
open Go.RowKit
theorem az4:Sz 59 32:=kr
structure xO (w wr:aRU) (L:List UInt32):Prop where
 res:wr.heap[w.heap.size]?=some (.cells (bQ (List.replicate 32 0)).toArray 59 (0,0))
 st:Words wr (w.heap.size+1) 166 L
 below:Bl w wr
theorem xO.size {w wr:aRU} {L:List UInt32} (h:xO w wr L):w.heap.size+2<=wr.heap.size:=by have:=h.st.lt;omega
theorem xO.ext {w wr af:aRU} {L:List UInt32} (h:xO w wr L) (ae:Below (w.heap.size+2) wr af):xO w af L :=
 ⟨(ae.block _ om).trans h.res,(ae.block _ om).trans h.st,h.below.trans (ae.mono om)⟩
theorem xO.grown {w wr af:aRU} {L:List UInt32} {row:Option Nat} (h:xO w wr L) (av:wr.grownBy af row) (ax:∀ k,row=some k->w.heap.size+2<=k):xO w af L:=by have hs:=h.size;refine h.ext ⟨av.os,av.tape,av.output,av.size,fun k hk=>av.block k om (fun e=>?_)⟩;have:=ax k e.symm;omega
theorem xO.alloc {w wr:aRU} {L:List UInt32} (h:xO w wr L) (o:Obj):xO w (wr.alloc o) L:=h.ext ((Below.refl _ _).alloc h.size o)
theorem xO.start (w:aRU) (S:bP.kX):xO w (((w.alloc (.cells (bQ (List.replicate 32 0)).toArray 59)).alloc (.cells (fB (List.replicate 8 0)).toArray 166)).setRow (w.heap.size+1) (laid (fB (List.replicate 8 0)).toArray 0 (fB S.list))) S.list:=by have e:laid (fB (List.replicate 8 0)).toArray 0 (fB S.list)=(fB S.list).toArray:=EB rfl;rw [e];exact⟨(aQT _ _ _ _ om).trans (heap_alloc2_old w _ _),aQU _ _ _ _ _ _ (heap_alloc2_new w _ _),Kz (iD.alloc sp _) om _⟩
def Ov (w wr:aRU) (S:bP.kX) (T:aR0) (v:Value):Prop :=
 xO w wr S.list/\∃ A c,v = .slice A T.length c/\Own wr (w.heap.size+2) 5 1 A T.length c (bQ T)
theorem Ov.push {w wr af:aRU} {S:bP.kX} {T:aR0} {A A':aRV} {n c c':Nat} {o:Obj} {b:UInt8} {x:Int} (aB:n=T.length) (vW:xO w wr S.list) (bU:Own wr (w.heap.size+2) 5 1 A n c (bQ T))
  (iR:(wr.alloc o).grownBy af (bM A)) (zq:Own af (w.heap.size+2) 5 1 A' (n+1) c' (bQ T++[.int .u8 x])) (ah:x=b.toNat):Ov w af S (T++[b]) (.slice A' (n+1) c'):=by
 subst ah aB;rw [aon] at zq;refine⟨(vW.alloc o).grown iR (fun k e=>(bU.block k e).1),A',c',by rw [List.length_append];rfl,?_⟩;rw [List.length_append];exact zq
theorem az5 (d:aR0) (k:Nat):d++128 :: List.replicate (k+1) 0=(d++128 :: List.replicate k 0)++[0]:=by rw [List.replicate_succ',List.append_assoc];rfl
def adB (N j:Nat):UInt8:=UInt8.ofNat (8 * N / 2 ^ (56 - 8 * j) % 256)
theorem az6 (N j:Nat) (h:j < 8):(bP.eight (8 * N)).take (j+1)=(bP.eight (8 * N)).take j++[adB N j]:=by
 have hl:(bP.eight (8 * N)).length=8:=by simp [bP.eight]
 rw [List.take_succ_eq_append_getElem om];congr 2;simp [bP.eight,adB]
theorem az7 (N j:Nat):(8 * (N:Int)) / 2 ^ (56 - 8 * j) % 256=((adB N j).toNat:Int):=by
 rw [adB,UInt8.toNat_ofNat'];have:((8 * N / 2 ^ (56 - 8 * j) % 256 % 2 ^ 8:Nat):Int)=((8 * N / 2 ^ (56 - 8 * j) % 256:Nat):Int):=by rw [Nat.mod_eq_of_lt (Nat.mod_lt _ dc)]
 rw [this];simp
theorem xO.take {w wr af:aRU} {S S':bP.kX} (h:xO w wr S.list) (av:af.heap[w.heap.size+1]?=some (.cells (laid (fB S.list).toArray 0 (fB S'.list)) 166 (0,0))) (iR:wr.grownBy af (some (w.heap.size+1))):xO w af S'.list:=by have hs:=h.size;rw [show laid (fB S.list).toArray 0 (fB S'.list)=(fB S'.list).toArray from EB rfl] at av;exact⟨(iR.block _ om sp).trans h.res,av,h.below.grown iR om (fun k e=>by injection e with e;omega)⟩
theorem apd (n:Nat):(bP.eight n).length=8:=by simp [bP.eight]
def AO (F:bP.kX) (k:Nat):List UInt8:=(bP.out F).take k++List.replicate (32 - k) 0
theorem Uc (F:bP.kX):(bP.out F).length=32:=by simp [bP.out]
theorem az8 (F:bP.kX) (k:Nat) (h:k<=32):(AO F k).length=32:=by rw [AO,List.length_append,List.length_take,Uc,List.length_replicate];omega
theorem az9 (F:bP.kX) (k:Nat) (h:k < 32):(AO F k).set k (bP.byteOf F k)=AO F (k+1):=by
 have e:(bP.out F)[k]'(by rw [Uc];omega)=bP.byteOf F k:=by simp [bP.out]
 have hl:((bP.out F).take k).length=k:=by rw [List.length_take,Uc];omega
 rw [AO,AO,List.set_append_right _ _ om,hl,Nat.sub_self,List.take_succ_eq_append_getElem (by rw [Uc];omega),e,show 32 - k=(32 - (k+1))+1 by omega,List.replicate_succ,List.append_assoc];rfl
theorem aAa (F:bP.kX):AO F 32=bP.out F:=by rw [AO,List.take_of_length_le (by rw [Uc];omega)];simp
theorem aAb (l:aR0) (j:Nat) (b:UInt8):(bQ l).toArray.setIfInBounds j (.int .u8 b.toNat)=(bQ (l.set j b)).toArray:=by simp [bQ,List.map_set]
structure KM (w wr:aRU) (F:bP.kX) (G k:Nat):Prop where
 mem:xO w wr F.list
 adC:wr.heap[G]?=some (.cells (bQ (AO F k)).toArray 59 (0,0))
 ge:w.heap.size+2<=G
theorem KM.word {w wr:aRU} {F:bP.kX} {G k:Nat} (h:KM w wr F G k) (j:Nat) (aC:j < 32):wr.cell? ⟨w.heap.size+1,j / 4,none⟩=some (.int .u32 (F.list.getD (j / 4) 0).toNat) :=
 h.mem.st.cell (by have:F.list.length=8:=rfl;omega)
theorem KM.frozen {w wr:aRU} {F:bP.kX} {G k:Nat} (h:KM w wr F G k) (j:Nat):wr.frozen? ⟨G,j,none⟩=false:=aQY wr G j _ _ h.adC
theorem KM.target {w wr:aRU} {F:bP.kX} {G k:Nat} (h:KM w wr F G k) (j:Nat) (aC:j < 32):wr.cell? (ad G j)=some (.int .u8 ((AO F k).getD j 0).toNat):=by
 have hk:(AO F k).length >= 32:=by rw [AO,List.length_append,List.length_take,Uc,List.length_replicate];omega
 exact aQH wr G j _ _ _ h.adC |>.trans (by rw [List.getElem?_toArray];exact TM _ om)
theorem zt {l:aR0} (h:l.length=32):(prog.info? 59).map (·.size)=some (bQ l).length:=by rw [xn,h];exact az4
theorem Wz {l:aR0} (h:l.length=32):0+(bQ l).length<=(bQ (List.replicate 32 0)).toArray.size:=by rw [xn,h];exact aQF 32
theorem KM.set {w wr:aRU} {F:bP.kX} {G k:Nat} (h:KM w wr F G k) (hk:k < 32) (v:Int) (bg:v=(bP.byteOf F k).toNat):KM w (wr.setCell ⟨G,k,none⟩ (.int .u8 v)) F G (k+1):=by
 subst bg;have I:=h.ge;refine⟨⟨?_,?_,?_⟩,?_,h.ge⟩
 ·exact (aRL wr _ _ _ (by simp;omega)).trans h.mem.res
 ·exact (aRL wr _ _ _ (by simp;omega)).trans h.mem.st
 ·exact h.mem.below.setCell (by simp;omega) _
 ·rw [heap_setCell_same wr G k _ _ _ h.adC,aAb,az9 F k hk]
theorem aAc (F:bP.kX) (k:Nat):(((F.list.getD (k / 4) 0).toNat:Int) / 2 ^ (24 - 8 * (k % 4))) % 256=((bP.byteOf F k).toNat:Int):=by
 have h1:∀ (x:UInt32) (m:Nat),m < 4->((x >>> (UInt32.ofNat (24 - 8 * m))).toUInt8).toNat=x.toNat / 2 ^ (24 - 8 * m) % 256:=by
  intro x m hm;rw [UInt32.toNat_toUInt8,UInt32.toNat_shiftRight,Nat.shiftRight_eq_div_pow];have:(UInt32.ofNat (24 - 8 * m)).toNat % 32=24 - 8 * m:=by rw [UInt32.toNat_ofNat'];omega
  rw [this]
 rw [bP.byteOf,h1 _ _ (Nat.mod_lt _ dc)];simp
theorem aAd (w:aRU) (base g:Nat) (l:aR0) (h:Oo w base g l) (hlen:l.length<=70368744177664) :
  CB 57 #[pp g 0] w (.agg (bQ (bP.sum l)).toArray):=by
 obtain⟨AP,E5,A,c,av,I⟩:=h;have Am:=iw av;obtain⟨m,hm⟩:=ai (l.length - 64 * (l.length / 64));obtain⟨d,AA⟩:=ai (l.drop (64 * (l.length / 64)));obtain⟨S,Ao,N,Ae⟩:=nq2 (bP.blocks (l.length / 64) bP.start l) l.length;rw [<- hm,<- Ao,<- Ae] at av;rw [<- hm,<- AA] at I;have AZ:d.length=m:=by rw [AA,hm,List.length_drop]
 have E8:m < 64:=om;rw [<- Ae] at hlen;obtain⟨Ap,Cj,Ck,Cm,BU,Co,BX⟩:=hq7 av I AA Ao Ae hm AZ;have BZ:(⟨d.toArray⟩:ByteArray).size=m:=AZ;have Cr:=aa (show (⟨d.toArray⟩:ByteArray).size<=maxLen by rw [BZ];unfold maxLen;omega);have Ct:=aa (show d.length+1<=maxLen by rw [AZ];unfold maxLen;omega);have Cu:=aa (show (d.length+1) * 1<=140737488355328 by rw [AZ];omega);clear av I AA Ao Ae hm AZ AP BZ;go_enter func57,ntmps57;go_wp2_with (first|((with_reducible refine QJ g 0 _ _ _ ((aQ5 _ _ _ Am).trans Ap.o) (fB S.list) (fun j aC=>by rw [Nat.zero_add];exact ao6 _ _ _ _ _ aC) _ underlying166 (Wx S) ?_ ?_);exact⟨rfl,rfl⟩;trace "load")|((with_reducible refine yH (w.heap.size+1) 0 (.agg (fB S.list).toArray) (fB S.list) (qK _) (fB (List.replicate 8 0)).toArray 166 ?_ (Wx S) (ao0 S) (Ww _) ?_ ?_);exact heap_alloc2_new w _ _;exact⟨rfl,rfl⟩;refine aoo (fun x=>xO w x S.list) (xO.start w S) ?_;intro w1 J;have Cv:w1.cell? (ad g 8)=some (.slice A m c):=(J.below.cell (p:=ad g 8) Am).trans (aQH w g 8 _ _ _ Ap.o);have Bb:=J.below;have AB:=J.size)|((with_reducible refine adp 5 A m c d underlying48 underlying5 underlying9 BX.o (Cj.o.rd.gz Bb) ?_ ?_);exact rfl)|((with_reducible refine aop 5 (w.heap.size+2) ⟨d.toArray⟩ underlying9 underlying48 underlying5 AB Cr.o ?_ ?_);exact rfl;intro il c2 af Bc Aq D8;have Av:Own af (w.heap.size+2) 5 1 il d.length c2 (bQ d):=Bc;clear Bc)|(at_builtin;have _t:=Av;go_must ((with_reducible refine vg 5 (.int .u8 0) 1 1 underlying48 QP rfl (w.heap.size+2) il d.length c2 (bQ d) (Av.alloc _) 1 [.int .u8 128] (.slice (some ⟨af.heap.size,0,none⟩) 1 1) (Src.slice underlying48 (Rd.one af _ _)) ado Ct.o Cu.o ?_ ?_ ?_);(simp;have:=Aq.size;omega);exact⟨rfl,rfl⟩;intro dh bH aD AQ AU Az;clear Av)));have Be:=Aq.mono (B':=w.heap.size+2) AB;have Bf:Ov w aD S (d++[128]) (.slice dh (d.length+1) bH):=Ov.push rfl (J.ext Be) _t AU AQ rfl;clear J Aq D8 AU Az AQ Be _t Bb AB Cv;obtain⟨z,Bg⟩:=ai ((119 - N % 64) % 64);have DF:m=N % 64:=by rw [Co.o,BU.o];omega
 have Bh:(m+1+z) % 64=56:=om;have Bi:∀ k,k < z->(m+1+k) % 64≠56:=by intro k hk;omega
 have E9:z < 64:=om;obtain⟨DI,Bj,DJ⟩:=hq3 Bg Bh Bi;clear Bg Bh Bi DF;go_loopg [4] z (fun gk v wr=>∃ k,k+gk=z/\Ov w wr S (d++128 :: List.replicate k 0) v);case atStart=>exact⟨0,om,Bf⟩
 case round =>
  clear Bf;obtain⟨k,hk,J,BB,BC,rfl,I⟩:=hrel;have Aa:(d++128 :: List.replicate k 0).length=m+1+k:=by rw [List.length_append,BX.o,List.length_cons,List.length_replicate];omega
  obtain⟨T,BD⟩:=ai (d++128 :: List.replicate k 0);rw [<- BD] at Aa I |-;obtain⟨n,BF⟩:=ai T.length;rw [<- BF] at Aa I |-;obtain⟨Bn,BG,Ac⟩:=hq3 BD Aa BF;clear BD BF;have AB:=J.size;by_cases Bp:k < z
  ·have DN:((n:Int) % 64 != 56)=true:=by have:=DJ.o k Bp;rw [bne_iff_ne];omega
   clear Aa;go_wp2_with (first|(at_builtin;have _t:=I;go_must ((with_reducible refine vg 5 (.int .u8 0) 1 1 underlying48 QP rfl (w.heap.size+2) BB n BC (bQ T) (I.alloc _) 1 [.int .u8 0] (.slice (some ⟨wr.heap.size,0,none⟩) 1 1) (Src.slice underlying48 (Rd.one wr _ _)) ado ?_ ?_ ?_ ?_ ?_);(have:=BG.o;unfold maxLen;omega);(have:=BG.o;omega);(simp;omega);exact⟨rfl,rfl⟩;intro dh bH aD AQ AU Az;clear I)));go_roundg (gk - 1);case rel=>exact⟨k+1,om,by rw [az5,<- Bn.o];exact Ov.push Ac.o J _t AU AQ rfl⟩
   case measure=>omega
  ·have Bq:k=z:=om;have DN:((n:Int) % 64 != 56)=false:=by have:=Bj.o;rw [bne_eq_false_iff_eq];omega
   have Br:=aa Bq;have EA:n<=130:=om;clear Aa Bq Bp hk;have Af:∀ Ad,xO w Ad S.list->Ad.cell? (ad g 9)=some (.int .u64 N):=fun Ad h=>(h.below.cell (p:=ad g 9) Am).trans (aQH w g 9 _ _ _ Ap.o);have DR:=aa Af;clear Af;go_wp2;have Bt:Ov w wr S (T++(bP.eight (8 * N)).take 0) (.slice BB n BC):=by rw [List.take_zero,List.append_nil,Ac.o];rw [Ac.o] at I;exact⟨J,BB,BC,rfl,I⟩
   clear J I AB;go_loopg [4,5] 8 (fun gk v i wr=>∃ j,j+gk=8/\i = .int .i64 (56 - 8 * (j:Int))/\Ov w wr S (T++(bP.eight (8 * N)).take j) v);case atStart=>exact⟨0,om,rfl,Bt⟩
   case round =>
    clear Bt;obtain⟨j,aC,rfl,J,C8,CF,rfl,I⟩:=hrel;obtain⟨U,Ag⟩:=ai (T++(bP.eight (8 * N)).take j);rw [<- Ag] at I |-;obtain⟨q,AP⟩:=ai U.length;rw [<- AP] at I |-;have EC:q<=n+8:=by rw [AP,Ag,List.length_append,Ac.o,List.length_take];omega
    have CG:=aa Ag;have Ah:=aa AP;clear Ag AP;have AB:=J.size;have Af:=DR.o wr J;by_cases CJ:j < 8
    ·have EF:(0:Int)<=56 - 8 * (j:Int):=om;go_wp2_with (first|(at_builtin;have _t:=I;go_must ((with_reducible refine vg 5 (.int .u8 0) 1 1 underlying48 QP rfl (w.heap.size+2) C8 q CF (bQ U) (I.alloc _) 1 [_] (.slice (some ⟨wr.heap.size,0,none⟩) 1 1) (Src.slice underlying48 (Rd.one wr _ _)) ado ?_ ?_ ?_ ?_ ?_);exact mV;omega;(simp;omega);exact⟨rfl,rfl⟩;intro dh bH aD AQ AU Az;clear I)));go_roundg (gk - 1);case rel=>exact⟨j+1,om,by go_num,by rw [az6 N j CJ,<- List.append_assoc,<- CG.o];exact Ov.push Ah.o J _t AU AQ (az7 N j)⟩
     case measure=>omega
    ·have EG:(56 - 8 * (j:Int)) < 0:=om;have CK:j=8:=om;have BH:U=T++bP.eight (8 * N):=by rw [CG.o,CK,List.take_of_length_le (by rw [apd];omega)]
     have DT:q=n+8:=by rw [Ah.o,BH,List.length_append,apd,Ac.o]
     have CL:q % 64=0:=by have h1:=BG.o;have BK:=Bj.o;have EH:=Br.o;omega
     have DU:=aa BH;have Db:=aa CL;clear BH CK DT CL Af CJ aC;go_wp2;go_loopg [4] (q / 64) (fun gk v wr=>∃ p,p+gk=q / 64/\xO w wr (bP.blocks p S U).list/\∃ A c,v = .slice A (q - 64 * p) c/\Own wr (w.heap.size+2) 5 1 A (q - 64 * p) c (bQ (U.drop (64 * p))));case atStart=>exact⟨0,om,J,C8,CF,rfl,I⟩
     case round =>
      clear J I AB;obtain⟨p,aI,J,EJ,Ak,rfl,I⟩:=hrel;have AB:=J.size;have BL:=I.2.1;by_cases Dc:p < q / 64
      ·obtain⟨b,o,cur,aZ,rfl,EK,BN,_,De,CQ⟩:=I.at_ om;have Dg:=Ah.o;have CS:∀ j,j < 64->wr.cell? (ad b (o+j))=some (.int .u8 (((U.drop (64 * p)).take 64).getD j 0).toNat):=by intro j aC;rw [cell_of_row wr b _ cur _ _ BN,CQ j om,TM _ (by rw [List.length_drop];omega),List.getD_eq_getElem?_getD,List.getD_eq_getElem?_getD,List.getElem?_take,if_pos aC]
       have Dh:=iw BN;have CU:wr.heap[w.heap.size+1]?=some (.cells (fB (bP.blocks p S U).list).toArray 166 (0,0)):=J.st;have EL:b≠w.heap.size+1:=om;obtain⟨r,Y⟩:=ai (q - 64 * p);have EM:64<=r:=om;have EN:(64:Int)<=r:=om;rw [<- Y] at I BL |-;have EO:(64:Int)<=Ak:=om;obtain⟨AV,Di,Dj,Dk,Dp⟩:=hq5 Y CS CU I J;clear Y CS CU I J BN De CQ Dg;go_wp2_with fail;refine (ao2 (w.heap.size+1) _ _ (bP.blocks p S U) wr Dj.o (by decide:8<=8) (fun j _=>by rw [List.getElem?_toArray]) b o Ak ((U.drop (64 * p)).take 64) Dh Di.o).mono ?_;rintro e af ⟨rfl,CV,BO⟩;have BP:=xO.take (S:=bP.blocks p S U) (S':=bP.block (bP.blocks p S U) ((U.drop (64 * p)).take 64)) Dp.o CV BO;rw [<- bP.aoV] at BP;have AA:=(Dk.o.grown BO (fun b' Dq e=>by simp [bM] at Dq;injection e with e;omega)).drop (k:=64) om;rw [Nat.mul_one,<- aom,List.drop_drop,show 64 * p+64=64 * (p+1) by omega] at AA;have CW:=aa BP;have CX:=aa AA;clear CV BO BP AA;by_cases CY:Ak=64
       ·subst CY;go_wp2;go_roundg (gk - 1);case rel =>
         refine⟨p+1,om,CW.o,some ⟨b,o,none⟩,0,by rw [show q - 64 * (p+1)=0 by have:=AV.o;omega],?_⟩;have Al:=CX.o;rw [show q - 64 * (p+1)=r - 64 by have:=AV.o;omega];simpa using Al
        case measure=>omega
       ·go_wp2;go_roundg (gk - 1);case rel =>
         refine⟨p+1,om,CW.o,some ⟨b,o+64,none⟩,Ak - 64,by rw [show q - 64 * (p+1)=r - 64 by have:=AV.o;omega],?_⟩;have Al:=CX.o;rw [if_neg CY] at Al;rw [show q - 64 * (p+1)=r - 64 by have:=AV.o;omega];simpa [Dy] using Al
        case measure=>omega
      ·have CZ:p=q / 64:=om;have Dr:=aa CZ;obtain⟨r,Y⟩:=ai (q - 64 * p);have ES:¬ (0:Int) < r:=by have:=Db.o;omega
       rw [<- Y] at I BL |-;obtain⟨F,BR⟩:=ai (bP.blocks p S U);rw [<- BR] at J;have Dt:=aa BR;clear BR Y I BL Dc aI CZ;go_wp2;have Ca:(wr.alloc (.cells (bQ (List.replicate 32 0)).toArray 59)).heap[wr.heap.size]?=some (.cells (bQ (AO F 0)).toArray 59 (0,0)):=aQS wr _;have Cc:=J.alloc (.cells (bQ (List.replicate 32 0)).toArray 59);have M:KM w (wr.alloc (.cells (bQ (List.replicate 32 0)).toArray 59)) F wr.heap.size 0:=⟨Cc,Ca,by have:=J.size;omega⟩;have Du:∃ G,G=wr.heap.size:=⟨_,rfl⟩;clear Ca Cc J;obtain⟨G,Ce⟩:=Du;rw [<- Ce] at M |-;clear Ce;go_loopw [54] (fun i Ad=>∃ k:Nat,k<=32/\i = .int .i64 k/\KM w Ad F G k) (fun i _=>32 - (intOf i).toNat);case atStart=>exact⟨0,om,rfl,M⟩
       case round =>
        clear M;obtain⟨k,hk,rfl,M⟩:=hrel;by_cases BS:k < 32
        ·have hcell:=M.word k BS;have ET:=M.frozen k;have EU:=M.target k BS;have EX:(0:Int)<=24 - 8 * ((k:Int) % 4):=om;have Dv:=aa M;clear M;go_wp2;go_roundw;case rel=>exact⟨k+1,om,by go_num,Dv.o.set BS _ (by rw [<- aAc,List.getD_eq_getElem?_getD])⟩
         case measure=>simp [intOf];omega
        ·have Cf:k=32:=om;have Dw:=aa Cf;have h1:=aa M.adC;have BK:=aa M.mem.res;have ae:=aa M.mem.below;have Cg:=az8 F k om;have AX:=aa Cg;clear Cf hk M Cg;go_wp2_with (first|((with_reducible refine QJ G 0 _ _ _ h1.o (bQ (AO F k)) (fun j _=>YV _ j) _ underlying59 (zt AX.o) ?_ ?_);exact⟨rfl,rfl⟩)|((with_reducible refine yH w.heap.size 0 (.agg (bQ (AO F k)).toArray) (bQ (AO F k)) (qK _) _ _ BK.o (zt AX.o) (Wz AX.o) (GZ _) ?_ ?_);exact⟨rfl,rfl⟩));have Y:=aQU wr w.heap.size _ (laid (bQ (List.replicate 32 0)).toArray 0 (bQ (AO F k))) _ _ BK.o;rw [EB (by rw [xn,AX.o,List.size_toArray,xn,List.length_replicate])] at Y;have AV:=aa Y;clear Y;have Dz:AO F k=bP.sum l:=by rw [Dw.o,aAa,Dt.o,Dr.o];refine bP.az3 l d S U N z q BU.o Ck.o Cm.o DI.o ?_ Ah.o;rw [DU.o,Bn.o,Br.o,List.append_assoc,List.cons_append]
         rw [<- Dz];refine aQP (v:=.agg (bQ (AO F k)).toArray) ?_ rfl ⟨rfl,Kz ae.o (aQF _) _⟩;rw [EB (by rw [xn,AX.o,List.size_toArray,xn,List.length_replicate])];exact aQ7 rfl _ _ w.heap.size 59 _ (0,0) _ rfl AV.o underlying59 rfl (by rw [List.size_toArray];exact zt AX.o)
end
section
open Go.RowKit
theorem yK (l:aR0):(bP.sum l).length=32:=Uc _
structure uI (w wr:aRU):Prop where
 row:wr.heap[w.heap.size]?=some (.cells (bQ (List.replicate 32 0)).toArray 59 (0,0))
 below:Bl w wr
theorem uI.size (h:uI w wr):w.heap.size+1<=wr.heap.size:=by have:=iw h.row;omega
theorem uI.start (w:aRU):uI w (w.alloc (.cells (bQ (List.replicate 32 0)).toArray 59)):=⟨aQS w _,iD⟩
theorem uI.ext (h:uI w wr) (ae:Bl wr af):uI w af :=
 ⟨(ae.block _ (by have:=h.size;omega)).trans h.row,h.below.trans (ae.mono (by have:=h.size;omega))⟩
theorem uI.aAn (h:uI w wr) (ae:Below (w.heap.size+1) wr af):uI w af :=
 ⟨(ae.block _ om).trans h.row,h.below.trans (ae.mono om)⟩
theorem uI.aic (h:uI w wr) (L:aR0):Bl w (wr.setRow w.heap.size (laid (bQ (List.replicate 32 0)).toArray 0 (bQ L))):=Kz h.below (aQF _) _
theorem uI.wrote (h:uI w wr) (L:aR0) (gY:L.length=32) :
  (wr.setRow w.heap.size (laid (bQ (List.replicate 32 0)).toArray 0 (bQ L))).heap[w.heap.size]?=some (.cells (bQ L).toArray 59 (0,0)):=by
 have I:=aQU wr w.heap.size _ (laid (bQ (List.replicate 32 0)).toArray 0 (bQ L)) _ _ h.row;rw [EB (by rw [xn,gY,List.size_toArray,xn,List.length_replicate])] at I |-;exact I
def flat:List ByteArray->List UInt8
 | []=>[]
 | p :: ps=>p.data.toList++flat ps
theorem apu (a b:List ByteArray):flat (a++b)=flat a++flat b:=by
 induction a with
 | nil=>rfl
 | cons x a I=>simp [flat,I,List.append_assoc]
theorem apv (ps:List ByteArray) (k:Nat) (h:k < ps.length):flat (ps.take (k+1))=flat (ps.take k)++ps[k].data.toList:=by rw [List.take_succ_eq_append_getElem h,apu];simp [flat]
theorem aAo (ps:List ByteArray) (k:Nat):(flat (ps.take k)).length<=(flat ps).length:=by
 conv=>rhs;rw [<- List.take_append_drop k ps,apu,List.length_append]
 omega
theorem Oo.le {Mt:Nat} (h:Oo w base g l) (ae:Mt<=base):Oo w Mt g l:=by obtain⟨h1,M,A,c,I,J⟩:=h;exact⟨h1,om,A,c,I,J.mono ae⟩
theorem aid (w:aRU) (A:aRV) (n c:Nat) (ps:List ByteArray) (ax:Rd w 1 A n (ps.map Value.string)) (aAp:n<=maxLen) (hlen:(flat ps).length<=70368744177664) :
  CB 33 #[.slice A n c] w (.agg (bQ (bP.sum (flat ps))).toArray):=by
 have AV:ps.length=n:=by have:=ax.1;simpa using this
 have Ad:(n:Int)<=9223372036854775807:=by unfold maxLen at aAp;omega
 have AB:=aa hlen;clear hlen;go_enter func33,ntmps33;have AP:=uI.start w;go_wp2_with (first|(go_at_call 55; refine (azT _).mono ?_;rintro e w1 ⟨g,rfl,hA,ae⟩;have I:=AP.ext ae;have M:w.heap.size+1<=(World.heap w1).size:=I.size;clear AP)|fail);have J:Oo w1 (w.heap.size+1) g (flat (ps.take 0)):=hA.le sp;clear hA ae;go_loopw [9] (fun i wr=>∃ k:Nat,k<=n/\i = .int .i64 k/\uI w wr/\Oo wr (w.heap.size+1) g (flat (ps.take k))) (fun i _=>n - (intOf i).toNat);case atStart=>exact⟨0,om,rfl,I,J⟩
 case round =>
  clear I J M;obtain⟨k,hk,rfl,I,hA⟩:=hrel;have M:=I.size;by_cases AX:k < n
  ·obtain⟨b,o,rfl,hcell⟩:=(ax.gz I.below).cell (j:=k) (by simpa [AV] using AX);have AQ:k < ps.length:=om;rw [List.getElem_map] at hcell;have AZ:(flat (ps.take k)).length+ps[k].size<=140737488355328:=by have h1:=aAo ps (k+1);have Ae:=AB.o;rw [apv ps k AQ,List.length_append,wL] at h1;omega
   have Aa:(k:Int) < n:=om;go_wp2_with (first|(go_at_call 56; refine (az0 _ (w.heap.size+1) g _ _ hA AZ M).mono ?_;rintro e af ⟨rfl,Ac,Y,Af⟩)|fail);go_roundw;case rel=>exact⟨k+1,om,by go_num,I.aAn Y,by rw [apv ps k AQ];exact Ac⟩
   case measure=>simp [intOf];omega
  ·have Ag:k=n:=om;have AU:flat (ps.take k)=flat ps:=by rw [List.take_of_length_le om]
   have Aa:¬ (k:Int) < n:=om;have J:=hA;rw [AU] at J;clear AU hA;go_wp2_with (first|(go_at_call 57; refine (aAd _ _ g _ J AB.o).mono ?_;rintro e af ⟨rfl,Y⟩;have AA:=I.ext Y;clear I)|((with_reducible refine yH _ 0 (.agg (bQ (bP.sum (flat ps))).toArray) (bQ (bP.sum (flat ps))) (qK _) _ _ (uI.row AA) (zt (yK (flat ps))) (Wz (yK (flat ps))) (GZ _) ?_ ?_);exact⟨rfl,rfl⟩));exact aQP (v:=.agg (bQ (bP.sum (flat ps))).toArray) (aQ7 rfl _ _ _ 59 _ (0,0) _ rfl (uI.wrote AA _ (yK (flat ps))) underlying59 rfl (by rw [List.size_toArray];exact zt (yK (flat ps)))) rfl ⟨rfl,uI.aic AA _⟩
def DK (w:aRU) (base g:Nat) (l:aR0):Prop :=
 base<=g/\∃ p A c,w.heap[g]?=some (.cells #[p,.slice A l.length c] 198 (0,0))/\(p = .pointer none\/p = .pointer (some ⟨g,0,none⟩))/\Own w base 5 1 A l.length c (bQ l)
theorem apw (w:aRU) (r:Option Nat):w.grownBy w r:=⟨rfl,rfl,rfl,aQF _,fun _ _ _=>rfl⟩
theorem aie (w:aRU) (g:Nat) (v p:Value) (av:w.heap[g]?=some (.cells #[p,v] 198 (0,0))) (aI:p = .pointer none\/p = .pointer (some ⟨g,0,none⟩)) :
  CR 153 #[pp g 0] w (.tuple #[]) fun w'=>w'.heap[g]?=some (.cells #[pp g 0,v] 198 (0,0))/\w.grownBy w' (some g):=by
 have hc:w.cell? (ad g 0)=some p:=aQH w g 0 _ _ _ av;have J:w.frozen? ⟨g,0,none⟩=false:=aQY w g 0 _ _ av;have I:w.shape? g=some (198,2):=by simp [World.shape?,av]
 rcases aI with rfl | rfl
 ·go_enter func153,ntmps153;go_wp2;rw [Lib.run_to_unsafe w ⟨g,0,none⟩ underlying196 underlying304 rfl dc I (Nat.zero_lt_succ 1)];simp only [Result.andThen];rw [Oper.upon_value];go_wp2;rw [run_callFunc_extern func200 kr kr kr (e:=Extern.AbiNoEscape.same) kr];rw [Lib.run_noEscape];simp only [Result.andThen];rw [Oper.upon_value];go_wp2;rw [Lib.run_from_unsafe w ⟨g,0,none⟩ underlying304 underlying196 rfl I kr];simp only [Result.andThen];rw [Oper.upon_value];go_wp2;go_end0;exact⟨rfl,by rw [heap_setCell_same w g 0 _ _ _ av];rfl,ao1 (apw w _) _⟩
 ·go_enter func153,ntmps153;go_wp2;rw [Lib.run_neq_ptr_same w _ underlying196 rfl];go_wp2;go_end0;exact⟨rfl,av,apw w _⟩
theorem aif {p:Value} (t:TypeId) (h:w.heap[g]?=some (.cells #[p,v] t (0,0))) (u:Value):(w.setCell ⟨g,1,none⟩ u).heap[g]?=some (.cells #[p,u] t (0,0)):=by rw [heap_setCell_same w g 1 _ _ _ h];rfl
theorem aAq (w:aRU) (base g:Nat) (l:aR0) (h:DK w base g l) (b:UInt8) (hlen:l.length+1<=140737488355328) (sF:base<=w.heap.size) :
  Calls prog 103 #[pp g 0,.int .u8 b.toNat] w fun e w'=>e = .returned .nilIface/\DK w' base g (l++[b])/\Below base w w':=by
 obtain⟨AQ,p,A,c,av,aI,J⟩:=h;have Ad:=iw av;have AU:=J.ne av dc;obtain⟨n,AA⟩:=ai l.length;rw [<- AA] at av J hlen;have AV:=aa AA;clear AA;go_enter func103,ntmps103;go_wp2_with (first|(go_at_call 153; refine (aie w g _ p av aI).mono ?_;rintro e w1 ⟨rfl,M,I⟩;have Ae:w1.cell? (ad g 1)=some (.slice A n c):=aQH w1 g 1 _ _ _ M;have Af:w1.frozen? ⟨g,1,none⟩=false:=aQY w1 g 1 _ _ M;have AB:=J.grown I (fun b ae e=>AU (ae.trans e));clear J)|(at_builtin;have _t:=AB;go_must ((with_reducible refine vg 5 (.int .u8 0) 1 1 underlying48 QP rfl base A n c (bQ l) (AB.alloc _) 1 [.int .u8 b.toNat] (.slice (some ⟨w1.heap.size,0,none⟩) 1 1) (Src.slice underlying48 (Rd.one w1 _ _)) ado ?_ ?_ ?_ ?_ ?_);exact mV;omega;(simp;have:=I.size;omega);exact⟨rfl,rfl⟩;intro dh bH aD AX AZ Ag;clear AB;have Y:=(AZ.block g (by simp;have:=I.size;omega) (fun e=>AU e.symm)).trans ((aQ5 w1 _ g (iw M)).trans M);have Ah:aD.cell? (ad g 1)=some (.slice A n c):=aQH aD g 1 _ _ _ Y;have Ak:aD.frozen? ⟨g,1,none⟩=false:=aQY aD g 1 _ _ Y)));go_ret;have Aa:Below base w w1:=(Below.refl base w).grown I sF (fun k e=>by injection e with e;omega);have Ac:Below base w aD:=(Aa.alloc (by have:=I.size;omega) _).grown AZ (by simp;have:=I.size;omega) (fun k e=>(_t.block k e).1)
 ·refine⟨rfl,⟨AQ,_,dh,bH,?_,.inr rfl,?_⟩,Ac.setCell (p:=ad g 1) (by exact AQ) _⟩
  ·have:=aif _ Y (.slice dh (n+1) bH);rw [List.length_append];rw [AV.o] at this |-;exact this
  ·have AP:=AX.setOther (p:=ad g 1) (AX.ne Y dc) (.slice dh (n+1) bH);rw [aon] at AP;rw [List.length_append];rw [AV.o] at AP |-;exact AP
theorem aAr {e:TypeId} (hc:P.cellsOf e=1) (count o n:Nat) (aB:o+n<=count):liesAt P P.depth e count o e n=true:=by have I:P.depth=(2 * (P.types.size+Made.depth)+1)+1:=rfl;rw [I];simp only [liesAt,Bool.or_eq_true];left;rw [I];simp [rowAt,hc,aB,sameLayout,Nat.mod_one]
theorem apx (w:aRU) (pt it ty e:TypeId) (aI:P.underlying pt=some (.pointer e)) (hc:P.cellsOf e=1) (g o cells:Nat) (WC:w.shape? g=some (e,cells)) (l:aR0) (aV:l≠[]) (aB:o+l.length<=cells) (uG:l.length<=9223372036854775807)
  (hcell:∀ j x,l[j]?=some x->w.cell? ((⟨g,o,none⟩:Addr).add j)=some (.int .u8 x.toNat)) :
  (Builtin.unsafeString_ #[pt,it] ty #[pp g o,.int .i64 l.length]).run P w = .ok (.string ⟨l.toArray⟩) (w.freeze ⟨g,o,none⟩ l.length):=by
 have hl:l.length≠0:=by simpa using aV
 have I:=Lib.run_loadBytes (P:=P) w l ⟨g,o,none⟩ .empty hcell;have J:=aAr (P:=P) hc (cells / P.cellsOf e) o l.length (by rw [hc];simpa using aB);have M:¬ (9223372036854775807:Int) < (l.length:Int):=om;have Y:IntKind.i64.max=9223372036854775807:=rfl;have AA:¬ (l.length:Int) < 0:=om;show Sem.run P (Bind.bind (asInt (.int .i64 l.length)) _) w=_;simp [asInt,asIntOf,Y,M,AA,hl,variablesAt,WC,elemOf,run_underlying aI,J,I]
theorem apy (w:aRU) (base g:Nat) (l:aR0) (h:DK w base g l) (aV:l≠[]) :
  Calls prog 104 #[pp g 0] w fun e w'=>e = .returned (.string ⟨l.toArray⟩)/\Below base w w':=by
 obtain⟨AU,p,A,c,av,aI,I⟩:=h;have AV:w.drew.cell? (ad g 1)=some (.slice A l.length c):=aQH w g 1 _ _ _ av;have AX:0 < l.length:=aRM.2 aV;have AZ:=I.2.1;have Y:=I.2.2.1;obtain⟨b,o,cur,aZ,rfl,AA,J,AB,AP,M⟩:=I.at_ om;have Aa:(Builtin.unsafeSliceData_ #[48] 256 #[.slice (some ⟨b,o,none⟩) l.length c]).run prog w.drew = .ok (pp b o) w.drew :=
  Lib.run_unsafeSliceData_row _ _ _ _ _ _ om;have Ac:(Builtin.unsafeString_ #[256,3] 9 #[pp b o,.int .i64 l.length]).run prog w.drew = .ok (.string ⟨l.toArray⟩) (w.drew.freeze ⟨b,o,none⟩ l.length):=by
  refine apx w.drew 256 3 9 5 underlying256 kr b o cur.size (by have AQ:w.drew.heap[b]?=some (.cells cur 5 aZ):=J;simp [World.shape?,AQ]) l aV om (by unfold maxLen at Y;omega) ?_;intro j x ah;have aC:j < l.length:=by
   rcases aQW j l.length with h | h
   ·exact h
   ·rw [List.getElem?_eq_none h] at ah;cases ah
  rw [Dy];refine (aQH w b (o+j) cur _ _ J).trans ?_;rw [M j om,TM l aC,List.getD_eq_getElem?_getD,ah];rfl
 clear M AB AP J I av aI;go_enter func104,ntmps104;go_wp2;go_region;all_goals (go_wp2;go_ret;exact⟨rfl,Lib.below_freeze (Below.drew (Below.refl base w)) (p:=ad b o) AA _⟩)
theorem DK.below (h:DK w base g l) (ae:Below B w w') (bf:w.heap.size<=B):DK w' base g l:=by obtain⟨I,p,A,c,av,aI,J⟩:=h;exact⟨I,p,A,c,(ae.block _ (by have:=iw av;omega)).trans av,aI,J.below ae bf⟩
def I8 (w:aRU) (g:Nat):Prop:=w.heap[g]?=some (.cells #[.pointer none,.slice none 0 0] 198 (0,0))
theorem I8.at_ (h:I8 w g) (ae:base<=g):DK w base g []:=⟨ae,_,none,0,h,.inl rfl,Own.nil _ _ _ _⟩
theorem apz (w:aRU) (base g:Nat) (h:I8 w g) :
  Calls prog 104 #[pp g 0] w fun e w'=>e = .returned (.string ⟨#[]⟩)/\Below base w w':=by
 have I:w.drew.cell? (ad g 1)=some (.slice none 0 0):=aQH w g 1 _ _ _ h;have J:(Builtin.unsafeSliceData_ #[48] 256 #[.slice none 0 0]).run prog w.drew = .ok (.pointer none) w.drew:=Lib.run_unsafeSliceData_nil _ _ _ _ _;have M:(Builtin.unsafeString_ #[256,3] 9 #[.pointer none,.int .i64 0]).run prog w.drew = .ok (.string ⟨#[]⟩) w.drew:=Lib.run_unsafeString_none _ _ _ _ _;clear h;go_enter func104,ntmps104;go_wp2;go_region;all_goals (go_wp2;go_ret;exact⟨rfl,(Below.refl base w).drew⟩)
end
section
open Go.RowKit Go.Shelf
attribute [local go_sem] Oper.semAt_some
theorem WG (f:FuncId):Fence.wide.fn f:=trivial
def KP (x:aR0):Value:=.string (aA x)
theorem aAu {l:List (List UInt8)} {x:aR0} (h:l[j]?=some x):(cB l)[j]?=some (KP x):=by rw [cB,List.getElem?_map,h];rfl
theorem aAv (n:Nat) (aB:1<=n) (l jq n0:Nat) (A:aRV) (cap:Nat) (zs:List (List UInt8)) (EH:zs.length<=1000000000) (bu vX:List (List UInt8)->World->Prop)
  (gp:∀ pre x W,bu pre W->pre.length < zs.length->YieldAt Fence.wide (n - 1) prog l #[KP x] W fun e W'=>(e = .returned (.bool true)/\bu (pre++[x]) W'/\Below n0 W W')\/(e = .returned (.bool false)/\vX (pre++[x]) W'))
  (W:aRU) (vY:W.cell? (ad jq 0)=some (.slice A zs.length cap)) (ax:∀ W',Below n0 W W'->Rd W' 1 A zs.length (cB zs)) (aV:bu [] W) :
  CallsIn Fence.wide n prog 76 #[.func (.yield l) #[] #[],pp jq 0] W fun e W'=>(∃ v,e = .returned v)/\((∃ ys,ys=zs/\bu ys W')\/(∃ pre,pre <+: zs/\vX pre W')):=by
 have AQ:=WG 76;obtain⟨len,hlen⟩:=ai zs.length;rw [<- hlen] at EH gp vY ax;refine aRj func76 rfl AQ ?_ rfl;simp only [ntmps76,List.size_toArray,List.length_cons,List.length_nil,Nat.reduceAdd,Nat.reduceSub,Array.replicate_succ,Array.replicate_zero,List.push_toArray,List.append_toArray,List.nil_append,List.cons_append]
 gi_wp2
 gi_loopw [7] (fun i wr=>∃ k:Nat,k<=len/\i = .int .i64 k/\bu (zs.take k) wr/\Below n0 W wr) (fun i _=>len - (intOf i).toNat)
 case atStart=>exact⟨0,aQQ _,rfl,aV,Below.refl _ _⟩
 case round =>
  obtain⟨k,hk,rfl,I,M⟩:=hrel;by_cases Ac:k < len
  ·obtain⟨x,ah⟩:∃ x,zs[k]?=some x:=⟨_,aQI om⟩;have Y:zs.take (k+1)=zs.take k++[x]:=by rw [List.take_add_one,ah];rfl
   obtain⟨b,o,rfl,hcell⟩:=(ax wr M).2 om;have AU:=hcell k _ (aAu ah);unfold KP at AU;have AA:=gp _ x wr I (by rw [List.length_take];omega);unfold KP at AA;obtain⟨fn,tmps,assign,body,hy,AV⟩:=AA;have Ad:(0:Int)<=k:=om;have AB:=aa Y;clear ah Y hcell
   gi_wp2
   refine AV.mono ?_;rintro e Ae (⟨rfl,AX,AZ⟩ | ⟨rfl,Aa⟩)
   ·gi_wp2
    go_roundw;case rel=>exact⟨k+1,om,by simp,by rw [AB.o];exact AX,M.trans AZ⟩
    case measure=>simp [intOf];omega
   ·gi_wp2
    refine qB ?_;exact⟨⟨_,rfl⟩,.inr ⟨_,by rw [<- AB.o];exact List.take_prefix _ _,Aa⟩⟩
  ·obtain rfl:k=len:=om;have AP:bu zs wr:=by rw [hlen,List.take_length] at I;exact I
   gi_wp2
   go_end0;exact⟨⟨_,rfl⟩,.inl (by first | exact AP | exact⟨_,rfl,AP⟩)⟩
theorem aAw (n:Nat) (a:aRV) (len cap:Nat) (w:aRU) :
  CallsIn Fence.wide n prog 48 #[.slice a len cap] w fun e w'=>e = .returned (.func (.func 76) #[] #[pp w.heap.size 0])/\w'=w.alloc (.cells #[.slice a len cap] 24):=by
 refine aRj func48 rfl trivial ?_ rfl;simp only [ntmps48,List.size_toArray,List.length_cons,List.length_nil,Nat.reduceAdd,Nat.reduceSub,Array.replicate_succ,Array.replicate_zero,List.push_toArray,List.append_toArray,List.nil_append,List.cons_append]
 gi_wp2
 go_ret;exact⟨rfl,rfl⟩
theorem aAx (n:Nat) (aB:1<=n) (jq n0:Nat) (A:aRV) (cap:Nat) (zs:List (List UInt8)) (EH:zs.length<=1000000000) (w:aRU) (vY:jq < w.heap.size) (EA:n0<=w.heap.size)
  (hc:w.cell? (ad jq 0)=some (.slice A zs.length cap)) (ax:∀ W',Below n0 w W'->Rd W' 1 A zs.length (cB zs)) :
  SeqStopsK Fence.wide n prog 76 #[pp jq 0] (fun x:List UInt8=>#[KP x]) (Below n0) (fun ys=>ys=zs) (fun pre=>pre <+: zs) zs.length w:=fun l bu M W I _ _ Y AA=>by
 refine (aAv n aB l jq n0 A cap zs EH bu M Y W ((I.cell (p:=ad jq 0) vY).trans hc) (fun W' AB=>ax W' ((I.mono EA).trans AB)) AA).mono ?_;rintro e W' ⟨he,⟨ys,rfl,aC⟩ | ⟨pre,aI,aC⟩⟩
 ·exact⟨he,.inl ⟨_,rfl,aC⟩⟩
 ·exact⟨he,.inr ⟨pre,aI,aC⟩⟩
end
end Go.Proofs.YtjkinjbkknanbaaGreatDoor
