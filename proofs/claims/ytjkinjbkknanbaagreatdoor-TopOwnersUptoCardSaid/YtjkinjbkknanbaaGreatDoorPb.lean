/- Pb -/
import Derived.Test.YtjkinjbkknanbaaGreatDoorPa
import Derived.Test.YtjkinjbkknanbaaGreatDoorChecked
set_option maxRecDepth 100000
set_option maxHeartbeats 8000000
set_option linter.unusedSimpArgs false
set_option linter.unusedVariables false
namespace Go.Proofs.YtjkinjbkknanbaaGreatDoor
open Go.Proofs.Tryz
variable {P:Program}
variable {a:Act}
variable {w w' wr af:aRB}
variable {b j g B k m c base K V:Nat}
variable {cur:Array Value}
variable {p:UInt8->Bool}
variable {A:aRC}
variable {s l:aRH}
variable {x:Operand}
variable {Q:aRE}
variable {ops:Array Oper}
variable {rest:List Oper}
variable {F:Nat->Oper->Prop}
variable {L:List UInt32}
variable {v:Value}
variable {dst:Option Tmp}
variable {after:Array Edge}
section
open Go.RowKit
abbrev dS:Value:=Value.int IntKind.u8 0
abbrev jH:Value:=Value.int .u32 0
abbrev Bl (w w2:aRB):Prop:=Below w.heap.size w w2
abbrev CB (f:FuncId) (a:Array Value) (w:aRB) (v:Value):Prop:=Calls Tryz.prog f a w fun e w2=>e = .returned v/\Below w.heap.size w w2
abbrev CR (f:FuncId) (a:Array Value) (w:aRB) (v:Value) (R:World->Prop):Prop:=Calls Tryz.prog f a w fun e w2=>e = .returned v/\R w2
abbrev Sz (t:TypeId) (n:Nat):Prop:=(Tryz.prog.info? t).map (·.size)=some n
abbrev pp (g o:Nat):Value:=.pointer (some ⟨g,o,none⟩)
abbrev ad (g o:Nat):Addr:=⟨g,o,none⟩
theorem qm {fn:Func} {R:aRF} (h:R (.returned (.tuple #[])) w) (hf:fn.results=#[]:=by rfl) (aT:a.defers=[]:=by rfl):bodyPost P fn R .ret a w:=aQx (aRe hf _ _ _) aT h
theorem DI (b o i:Nat):(⟨b,o,none⟩:Addr).add i=⟨b,o+i,none⟩:=by
 unfold Addr.add;split
 ·subst_vars;rfl
 ·rfl
def Rd (w:aRB) (aO:Nat) (A:aRC) (n:Nat) (xs:aRD):Prop :=
 xs.length=n * aO/\(0 < n->∃ b o,A=some ⟨b,o,none⟩/\∀ j u,xs[j]?=some u->w.cell? (ad b (o+j))=some u)
def Yu (bf:Nat × Nat) (n:Nat):Prop:=bf=(0,0)\/bf=(n,n+1)
theorem Yu.cell {bf:Nat × Nat} {t:TypeId} (h:Yu bf cur.size) (ae:w.heap[b]?=some (.cells cur t bf)) (aD:j < cur.size):w.frozen? ⟨b,j,none⟩=false:=by
 rcases h with rfl | rfl <;> simp [World.frozen?,ae]
 omega
theorem Yv (P:Program) (g o:Nat) (t:TypeId) (bf:Nat × Nat):∀ (vs:aRD) (i:Nat) (cur:Array Value) (w:aRB),Yu bf cur.size->w.heap[g]?=some (.cells cur t bf)->o+i+vs.length<=cur.size->(∀ v∈vs,v.oneCell'=true) ->
  (storeCells ⟨g,o,none⟩ vs i).run P w = .ok () (w.setRow g (cur.toList.take (o+i)++vs++cur.toList.drop (o+i+vs.length)).toArray)
 | [],i,cur,w,_,ax,_,_=>by
  simp only [storeCells,List.append_nil,List.length_nil,Nat.add_zero,List.take_append_drop,Array.toArray_toList];rw [setRow_self w g cur t bf ax];rfl
 | v :: rest,i,cur,w,I,ax,hl,h1=>by
  have J:o+i < cur.size:=by simp at hl;omega
  have hcell:w.cell? (ad g (o+i))=some cur[o+i]:=by simp [World.cell?,ax,J]
  have M:w.frozen? ⟨g,o+i,none⟩=false:=I.cell ax J;have Y:(store ((⟨g,o,none⟩:Addr).add i) v).run P w = .ok () (w.setRow g (cur.setIfInBounds (o+i) v)):=by rw [DI,run_store P w _ v _ (h1 v sp),hcell];simp [M,setCell_eq_setRow w g (o+i) cur t bf v ax]
  have A7:=Yv P g o t bf rest (i+1) (cur.setIfInBounds (o+i) v) (w.setRow g (cur.setIfInBounds (o+i) v)) (by rw [Array.size_setIfInBounds];exact I) (aQB w g cur _ t _ ax) (by simp at hl |-;omega) (fun x ah=>h1 x (by simp [ah]));simp only [storeCells,Sem.run_bind,Y,Result.andThen_ok,A7,setRow_setRow];congr 3;have e:=list_seg_step cur.toList (o+i) v rest (by simp at hl |-;omega);simpa [Array.toList_setIfInBounds,Nat.add_assoc] using e
def Own (w:aRB) (base:Nat) (t:TypeId) (aO:Nat) (A:aRC) (n c:Nat) (xs:aRD):Prop :=
 xs.length=n * aO/\n<=c/\c<=maxLen/\((A=none/\c=0)\/∃ b o cur bf,A=some ⟨b,o,none⟩/\base<=b/\w.heap[b]?=some (.cells cur t bf)/\Yu bf cur.size/\o+c * aO<=cur.size/\∀ j,j < n * aO->cur[o+j]?=xs[j]?)
def bV (A:aRC):Option Nat:=A.map (·.block)
section
variable {w w':aRB} {base aO n c:Nat} {t:TypeId} {A:aRC} {xs:aRD}
theorem ic {o:Obj} (h:w.heap[b]?=some o):b < w.heap.size:=by
 rcases aQD b w.heap.size with I | J
 ·exact I
 ·rw [Array.getElem?_eq_none J] at h;cases h
theorem Own.at_ (h:Own w base t aO A n c xs) (aX:0 < c):∃ b o cur bf,A=some ⟨b,o,none⟩/\base<=b/\w.heap[b]?=some (.cells cur t bf)/\Yu bf cur.size/\o+c * aO<=cur.size/\∀ j,j < n * aO->cur[o+j]?=xs[j]?:=by
 rcases h.2.2.2 with ⟨_,hc⟩ | h
 ·omega
 ·exact h
theorem Own.rd (h:Own w base t aO A n c xs):Rd w aO A n xs:=by
 have hA:=h.at_;obtain⟨hl,M,hm,_⟩:=h;refine⟨hl,fun Y=>?_⟩;obtain⟨b,o,cur,bf,rfl,_,ae,_,hs,ah⟩:=hA om;refine⟨b,o,rfl,fun j u hu=>?_⟩;have aD:j < xs.length:=by
  rcases aQD j xs.length with I | J
  ·exact I
  ·rw [List.getElem?_eq_none J] at hu;cases hu
 rw [cell_of_row w b _ cur t _ ae,ah j om,hu]
theorem Own.nil (w:aRB) (base:Nat) (t:TypeId) (aO:Nat):Own w base t aO none 0 0 []:=⟨by simp,by simp,by simp,.inl ⟨rfl,rfl⟩⟩
theorem Own.block (h:Own w base t aO A n c xs):∀ b,bV A=some b->base<=b/\b < w.heap.size/\∃ cur bf,w.heap[b]?=some (.cells cur t bf):=by
 intro b ae;rcases h.2.2.2 with ⟨rfl,_⟩ | ⟨b',o,cur,bf,rfl,I,ax,_⟩
 ·simp [bV] at ae
 ·simp only [bV,Option.map_some,Option.some.injEq] at ae;subst ae;exact⟨I,ic ax,cur,bf,ax⟩
theorem Own.ne {uX:TypeId} {cs:Array Value} {bf:Nat × Nat} (h:Own w base t aO A n c xs) (ax:w.heap[g]?=some (.cells cs uX bf)) (bJ:t≠uX):bV A≠some g:=by
 intro e;obtain⟨_,_,cur,_,hc⟩:=h.block g e;rw [ax] at hc;injection hc with hc
 injection hc with _ I
 exact bJ I.symm
theorem Own.keep (h:Own w base t aO A n c xs) (hk:∀ b,bV A=some b->base<=b->b < w.heap.size->w'.heap[b]?=w.heap[b]?):Own w' base t aO A n c xs:=by
 obtain⟨hl,I,hm,hc⟩:=h;refine⟨hl,I,hm,?_⟩;rcases hc with hc | ⟨b,o,cur,bf,rfl,ae,ax,hf,hs,ah⟩
 ·exact .inl hc
 ·exact .inr ⟨b,o,cur,bf,rfl,ae,(hk b rfl ae (ic ax)).trans ax,hf,hs,ah⟩
theorem Own.drew (h:Own w base t aO A n c xs):Own w.drew base t aO A n c xs:=h
theorem Own.alloc (h:Own w base t aO A n c xs) (o:Obj):Own (w.alloc o) base t aO A n c xs:=h.keep fun _ _ _ ae=>aQN w o _ ae
theorem Own.mono {base':Nat} (h:Own w base t aO A n c xs) (ae:base'<=base):Own w base' t aO A n c xs:=by
 obtain⟨hl,I,hm,hc⟩:=h;refine⟨hl,I,hm,?_⟩;rcases hc with hc | ⟨b,o,cur,bf,rfl,J,r⟩
 ·exact .inl hc
 ·exact .inr ⟨b,o,cur,bf,rfl,om,r⟩
theorem Own.below (h:Own w base t aO A n c xs) (ae:Below B w w') (bg:w.heap.size<=B):Own w' base t aO A n c xs:=h.keep fun _ _ _ I=>ae.block _ om
theorem Own.setOther (h:Own w base t aO A n c xs) {p:Addr} (aL:bV A≠some p.block) (u:Value):Own (w.setCell p u) base t aO A n c xs :=
 h.keep fun b ae _ _=>aQE w p u b (fun e=>aL (by rw [ae,e]))
theorem Own.grown {row:Option Nat} (h:Own w base t aO A n c xs) (ax:w.grownBy w' row) (av:∀ b,bV A=some b->some b≠row):Own w' base t aO A n c xs :=
 h.keep fun b ae _ I=>ax.block b I (av b ae)
theorem Own.drop (h:Own w base t aO A n c xs) (hk:k<=n):Own w base t aO (if c=k then A else A.map (·.add (k * aO))) (n - k) (c - k) (xs.drop (k * aO)):=by
 obtain⟨hl,J,hm,hc⟩:=h;refine⟨by rw [List.length_drop,hl,Nat.sub_mul],om,om,?_⟩;rcases hc with ⟨rfl,hc⟩ | ⟨b,o,cur,bf,rfl,ae,ax,hf,hs,ah⟩
 ·exact .inl ⟨by simp,om⟩
 ·right;by_cases I:c=k
  ·rw [if_pos I];refine⟨b,o,cur,bf,rfl,ae,ax,hf,by rw [I,Nat.sub_self];omega,fun j aD=>?_⟩;rw [show n - k=0 by omega] at aD;omega
  ·rw [if_neg I];refine⟨b,o+k * aO,cur,bf,by simp [DI],ae,ax,hf,?_,fun j aD=>?_⟩
   ·rw [Nat.sub_mul];have:k * aO<=c * aO:=aQP _ om;omega
   ·have M:k * aO<=n * aO:=aQP _ hk;rw [Nat.sub_mul] at aD;have:=ah (k * aO+j) om;rw [List.getElem?_drop,<- this];congr 1;omega
theorem Own.take (h:Own w base t aO A n c xs) (hk:k<=n):Own w base t aO A k c (xs.take (k * aO)):=by
 obtain⟨hl,I,hm,hc⟩:=h;have J:k * aO<=n * aO:=aQP _ hk;refine⟨by rw [List.length_take,hl];omega,om,hm,?_⟩;rcases hc with hc | ⟨b,o,cur,bf,rfl,ae,ax,hf,hs,ah⟩
 ·exact .inl hc
 ·refine .inr ⟨b,o,cur,bf,rfl,ae,ax,hf,hs,fun j aD=>?_⟩;rw [ah j om,List.getElem?_take,if_pos aD]
theorem Own.made (w:aRB) (cs:Array Value) (t:TypeId) (aO n c:Nat) (base:Nat) (ae:base<=w.heap.size) (aB:n<=c) (hm:c<=maxLen) (hs:cs.size=c * aO) :
  Own (w.alloc (.cells cs t)) base t aO (some ⟨w.heap.size,0,none⟩) n c (cs.toList.take (n * aO)):=by
 have:n * aO<=c * aO:=aQP _ aB;refine⟨by rw [List.length_take,Array.length_toList,hs];omega,aB,hm,.inr ⟨w.heap.size,0,cs,(0,0),rfl,ae,aQz w _,.inl rfl,om,fun j aD=>?_⟩⟩;rw [List.getElem?_take,if_pos aD,Nat.zero_add];simp
theorem Own.lit (w:aRB) (cs:Array Value) (t:TypeId) (aO n:Nat) (base:Nat) (ae:base<=w.heap.size) (hm:n<=maxLen) (hs:cs.size=n * aO) :
  Own (w.alloc (.cells cs t)) base t aO (some ⟨w.heap.size,0,none⟩) n n cs.toList:=by
 have h:=Own.made w cs t aO n n base ae (aQm _) hm hs;rw [List.take_of_length_le (by simp [hs])] at h;exact h
theorem Rd.acH (w:aRB) (cs:Array Value) (t:TypeId) (aO n:Nat) (hm:n<=maxLen) (hs:cs.size=n * aO):Rd (w.alloc (.cells cs t)) aO (some ⟨w.heap.size,0,none⟩) n cs.toList :=
 (Own.lit w cs t aO n 0 (aQu _) hm hs).rd
theorem Rd.keep (h:Rd w aO A n xs) (hk:∀ b o u,bV A=some b->w.cell? (ad b o)=some u->w'.cell? (ad b o)=some u):Rd w' aO A n xs:=by obtain⟨hl,hc⟩:=h;refine⟨hl,fun I=>?_⟩;obtain⟨b,o,rfl,ah⟩:=hc I;exact⟨b,o,rfl,fun j u hu=>hk b _ _ rfl (ah j u hu)⟩
theorem Rd.alloc (h:Rd w aO A n xs) (o:Obj):Rd (w.alloc o) aO A n xs:=h.keep fun b I u _ hu=>by
 rw [World.cell?_alloc_lt _ _ _ (World.block_lt_of_cell? w _ hu)];exact hu
theorem Rd.below (h:Rd w aO A n xs) (ae:Below B w w') (bg:∀ b,bV A=some b->b < w.heap.size->b < B):Rd w' aO A n xs:=h.keep fun b I u J hu=>by
 rw [ae.cell (p:=ad b I) (bg b J (World.block_lt_of_cell? w _ hu))];exact hu
theorem Rd.gp (h:Rd w aO A n xs) (ae:Bl w w'):Rd w' aO A n xs:=h.below ae fun _ _ h=>h
theorem Rd.none_ (w:aRB) (aO:Nat) (A:aRC):Rd w aO A 0 []:=⟨by simp,fun h=>absurd h om⟩
theorem Rd.cell (h:Rd w aO A n xs) (aD:j < xs.length):∃ b o,A=some ⟨b,o,none⟩/\w.cell? (ad b (o+j))=some xs[j]:=by obtain⟨b,o,rfl,ah⟩:=h.2 (Nat.pos_of_ne_zero fun I=>by have:=h.1;subst I;omega);exact⟨b,o,rfl,ah j _ (aQp aD)⟩
end
def Src (P:Program) (w:aRB) (u:TypeId) (aO:Nat) (x:Value) (m:Nat) (news:aRD):Prop :=
 news.length=m * aO/\((∃ e,P.underlying u=some (.slice e))\/P.underlying u=some .string)/\(∀ k,(Builtin.lenOf x).run P (w.drewN k) = .ok m (w.drewN k))/\∀ k,(Builtin.firstCells aO m x).run P (w.drewN k) = .ok news.toArray (w.drewN k)
section
variable {P:Program} {w:aRB}
theorem Src.slice {aO:Nat} {news:aRD} {u e:TypeId} (hu:P.underlying u=some (.slice e)) (h:Rd w aO A m news):Src P w u aO (.slice A m c) m news:=by
 refine⟨h.1,.inl ⟨_,hu⟩,fun k=>by simp [Builtin.lenOf],fun k=>?_⟩;rcases aQH m with I | I
 ·subst I;have:news=[]:=aQC (by simpa using h.1);subst this;cases A <;> simp [Builtin.firstCells,loadCells,loadCellsFrom]
 ·obtain⟨b,o,rfl,ah⟩:=h.2 I;exact run_firstCells_some (P:=P) (w.drewN k) aO m ⟨b,o,none⟩ m c news h.1 (fun j v J=>by rw [DI];exact ah j v J)
theorem Src.str {s:ByteArray} {u:TypeId} (hu:P.underlying u=some .string):Src P w u 1 (.string s) s.size (s.data.toList.map fun b=>Value.int .u8 b.toNat):=by refine⟨by simp,.inr hu,fun k=>by simp [Builtin.lenOf],fun k=>?_⟩;simp [Builtin.firstCells];apply Array.toList_inj.1;simp
theorem ayn (t u ty e:TypeId) (i:TypeInfo) (z:Value) (aO bytes:Nat) (aA:P.underlying t=some (.slice e)) (ay:P.info? e=some i) (dB:i.zero=some z)
  (ag3:i.size=aO) (Oa:i.bytes=bytes) (Kb:z.cells.size=aO)
  {n:Nat} {xs:aRD} (bU:Own w base e aO A n c xs)
  {x:Value} {news:aRD} (uY:Src P w u aO x m news) (h1:∀ v∈news,v.oneCell'=true)
  (uG:n+m<=maxLen) (Kc:(n+m) * bytes<=140737488355328) (sj:base<=w.heap.size) :
  ∃ A' c' w',(Builtin.append_ #[t,u] ty #[.slice A n c,x]).run P w = .ok (.slice A' (n+m) c') w'/\Own w' base e aO A' (n+m) c' (xs++news)/\w.grownBy w' (bV A) /\
   (bV A'=bV A\/bV A'=some w.heap.size):=by
 subst ag3;subst Oa;have Al:n+m<=9223372036854775807:=by simp only [maxLen] at uG;omega
 obtain⟨hl,Am,AP,hc⟩:=bU;obtain⟨M,I,hlen,AA⟩:=uY;have J:=hlen 0;have AV:(xs++news).length=(n+m) * i.size:=by rw [List.length_append,hl,M,Nat.add_mul]
 by_cases Y:n+m<=c
 ·
  rcases aQH c with A7 | A7
  ·subst A7;obtain rfl:n=0:=om;obtain rfl:m=0:=om;have AB:xs=[]:=aQC (by simpa using hl);have Ad:news=[]:=aQC (by simpa using M);subst AB Ad;refine⟨A,0,w,?_,⟨by simp,aQm _,AP,hc⟩,⟨rfl,rfl,rfl,aQm _,fun _ _ _=>rfl⟩,.inl rfl⟩;have hf:=AA 0;simp only [World.drewN_zero] at hf J;rcases I with ⟨_,I⟩ | I <;> cases A <;> simp [Builtin.append_,run_underlying aA,run_underlying I,sizeOf,typeInfo,ay,J,hf,storeCells]
  ·obtain⟨b,o,cur,bf,rfl,ae,ax,AJ,hs,ah⟩:=hc.resolve_left (fun e=>by omega);have Ao:n * i.size+news.length<=c * i.size:=by rw [M,<- Nat.add_mul];exact aQP _ Y
   have AZ:=Yv P b (o+n * i.size) e bf news 0 cur w AJ ax om h1;simp only [Nat.add_zero] at AZ;have hf:=AA 0;simp only [World.drewN_zero] at hf J;refine⟨some ⟨b,o,none⟩,c,w.setRow b (cur.toList.take (o+n * i.size)++news++cur.toList.drop (o+n * i.size+news.length)).toArray,?_,?_,?_,.inl rfl⟩
   ·rcases I with ⟨_,I⟩ | I <;> simp [Builtin.append_,run_underlying aA,run_underlying I,sizeOf,typeInfo,ay,J,hf,Y,DI,AZ]
   ·refine⟨AV,Y,AP,.inr ⟨b,o,_,bf,rfl,ae,aQB w b cur _ e _ ax,?_,?_,fun j aD=>?_⟩⟩
    ·simp only [List.size_toArray,List.length_append,List.length_take,List.length_drop,Array.length_toList];rw [show min (o+n * i.size) cur.size+news.length+(cur.size - (o+n * i.size+news.length))=cur.size by omega];exact AJ
    ·simp only [List.size_toArray,List.length_append,List.length_take,List.length_drop,Array.length_toList];omega
    ·have Aa:(cur.toList.take (o+n * i.size)).length=o+n * i.size:=by rw [List.length_take,Array.length_toList];omega
     simp only [List.getElem?_toArray];rw [List.append_assoc];by_cases Ae:j < n * i.size
     ·rw [List.getElem?_append_left om,List.getElem?_append_left om,List.getElem?_take,if_pos om,<- ah j Ae];simp
     ·rw [Nat.add_mul] at aD;rw [List.getElem?_append_right om,List.getElem?_append_left om,List.getElem?_append_right (l₁:=xs) om];congr 1;omega
   ·exact⟨rfl,rfl,rfl,by simp,fun k _ hk=>aQA w b k _ (fun e=>hk (by simp [bV,e]))⟩
 ·
  have AL:=grownCap_ge w (n+m) c e;have Af:grownCap w (n+m) c e<=maxLen:=grownCap_le_maxLen w (n+m) c e uG;have Ag:¬ (9223372036854775807 < ((n:Int)+(m:Int))):=om;have Ah:¬ (281474976710656 < Builtin.nextslicecap (n+m) c * i.bytes):=by have:=growslice_fits (need:=n+m) (old:=c) om Kc;omega
  have hf:=AA 1;have Ab:(Builtin.firstCells i.size n (.slice A n c)).run P (w.drewN 1) = .ok xs.toArray (w.drewN 1):=by
   rcases aQH c with A7 | A7
   ·obtain rfl:n=0:=om;have AB:xs=[]:=aQC (by simpa using hl);subst AB;cases A <;> simp [Builtin.firstCells,loadCells,loadCellsFrom]
   ·obtain⟨b,o,cur,bf,rfl,ae,ax,AJ,hs,ah⟩:=hc.resolve_left (fun e=>by omega);refine run_firstCells_some (P:=P) (w.drewN 1) i.size n ⟨b,o,none⟩ n c xs hl (fun j v AO=>?_);have aD:j < xs.length:=by
     rcases aQD j xs.length with Aa | AL
     ·exact Aa
     ·rw [List.getElem?_eq_none AL] at AO;cases AO
    rw [DI];show w.cell? _=_;rw [cell_of_row w b _ cur e _ ax,ah j om,AO]
  have Ai:w.drewN 1=w.drew:=rfl;rw [Ai] at hf Ab;simp only [World.drewN_zero] at J;refine⟨some ⟨w.heap.size,0,none⟩,grownCap w (n+m) c e,w.drew.alloc (.cells (xs.toArray++news.toArray++Builtin.zeroCells z.cells (grownCap w (n+m) c e - (n+m))) e),?_,?_,?_,.inr rfl⟩
  ·rcases I with ⟨_,I⟩ | I <;> simp [Builtin.append_,run_underlying aA,run_underlying I,sizeOf,typeInfo,zeroValue,ay,dB,J,Y,Ag,Ah,Question.forced,hf,Ab,newRow,grownCap,-List.append_toArray]
  ·have Ak:(xs.toArray++news.toArray++Builtin.zeroCells z.cells (grownCap w (n+m) c e - (n+m))).size=grownCap w (n+m) c e * i.size:=by simp only [Array.size_append,List.size_toArray,size_zeroCells,Kb,hl,M,<- Nat.add_mul];congr 1;omega
   have h:=Own.made w.drew (xs.toArray++news.toArray++Builtin.zeroCells z.cells (grownCap w (n+m) c e - (n+m))) e i.size (n+m) _ base sj AL Af Ak;have aA:(xs.toArray++news.toArray++Builtin.zeroCells z.cells (grownCap w (n+m) c e - (n+m))).toList.take ((n+m) * i.size)=xs++news:=by simp only [Array.toList_append];rw [<- AV];exact List.take_left
   rw [aA] at h;exact h
  ·exact⟨rfl,rfl,rfl,by simp,fun k hk _=>aQN w.drew _ k hk⟩
theorem ayp {o:Oper} {K:Act->World->Prop} (s x:Operand) (t u:TypeId)
  (aG:o.op = .call { callee:=.builtin .append,args:=#[s,x],argTypes:=#[t,u] })
  (e:TypeId) (z:Value) (aO bytes:Nat) (aA:P.underlying t=some (.slice e)) (ay:(P.info? e).map (fun i=>(i.zero,i.size,i.bytes))=some (some z,aO,bytes)) (Kb:z.cells.size=aO)
  (base:Nat) (A:aRC) (n c:Nat) (xs:aRD) (hs:a.eval s = .slice A n c) (bU:Own w base e aO A n c xs)
  (m:Nat) (news:aRD) (v:Value) (ah:a.eval x=v) (uY:Src P w u aO v m news) (h1:∀ v∈news,v.oneCell'=true)
  (uG:n+m<=maxLen) (Kc:(n+m) * bytes<=140737488355328) (sj:base<=w.heap.size)
  (h:∀ A' c' w',Own w' base e aO A' (n+m) c' (xs++news)->w.grownBy w' (bV A)->(bV A'=bV A\/bV A'=some w.heap.size)->K (a.put o.dst (.slice A' (n+m) c')) w'):o.wp P a w K Q:=by
 obtain⟨i,I,J,M,Y⟩:=info_parts ay;obtain⟨A',c',w',A7,AA,AB,AJ⟩:=ayn (P:=P) t u o.type e i z aO bytes aA I J M Y Kb bU uY h1 uG Kc sj;unfold Oper.wp execOp;simp only [aG,resolve,invoke,builtin,Sem.run_bind,Sem.run_pure,Result.andThen_ok,List.map_toArray,List.map_cons,List.map_nil,hs,ah,A7];exact h A' c' w' AA AB AJ
theorem ayq {o:Oper} (ayr:o.guard=none) (s x:Operand) (t u:TypeId)
  (aG:o.op = .call { callee:=.builtin .append,args:=#[s,x],argTypes:=#[t,u] })
  (e:TypeId) (z:Value) (aO bytes:Nat) (aA:P.underlying t=some (.slice e)) (ay:(P.info? e).map (fun i=>(i.zero,i.size,i.bytes))=some (some z,aO,bytes)) (Kb:z.cells.size=aO)
  (base:Nat) (A:aRC) (n c:Nat) (xs:aRD) (hs:a.eval s = .slice A n c) (bU:Own w base e aO A n c xs)
  (m:Nat) (news:aRD) (v:Value) (ah:a.eval x=v) (uY:Src P w u aO v m news) (h1:∀ v∈news,v.oneCell'=true)
  (uG:n+m<=maxLen) (Kc:(n+m) * bytes<=140737488355328) (sj:base<=w.heap.size)
  (h:∀ A' c' w',Own w' base e aO A' (n+m) c' (xs++news)->w.grownBy w' (bV A)->(bV A'=bV A\/bV A'=some w.heap.size)->wpList P ops Q rest (a.put o.dst (.slice A' (n+m) c')) w'):wpList P ops Q (o :: rest) a w :=
 aQM ayr fun _ I=>ayp s x t u aG e z aO bytes aA ay Kb base A n c xs hs bU m news v ah uY h1 uG Kc sj fun A' c' w' J M Y=>I _ _ (h A' c' w' J M Y)
end
end
section
open Go.RowKit
section
variable {P:Program} {w:aRB}
def laid (cur:Array Value) (o:Nat) (vs:aRD):Array Value:=(cur.toList.take o++vs++cur.toList.drop (o+vs.length)).toArray
theorem an2 {cur:Array Value} {o:Nat} {vs:aRD} (h:o+vs.length<=cur.size) (j:Nat) :
  (laid cur o vs)[j]?=if j < o then cur[j]? else if j < o+vs.length then vs[j - o]? else cur[j]?:=by
 have I:(cur.toList.take o).length=o:=by rw [List.length_take,Array.length_toList];omega
 simp only [laid,List.getElem?_toArray,List.append_assoc];split
 ·rw [List.getElem?_append_left om,List.getElem?_take,if_pos om];simp
 ·rw [List.getElem?_append_right om,I];split
  ·rw [List.getElem?_append_left om]
  ·rw [List.getElem?_append_right om,List.getElem?_drop,<- Array.getElem?_toList];congr 1;omega
theorem EC {cur:Array Value} {vs:aRD} (h:vs.length=cur.size):laid cur 0 vs=vs.toArray:=by simp only [laid,List.take_zero,List.nil_append,Nat.zero_add];rw [List.drop_of_length_le (by simp;omega),List.append_nil]
theorem an3 {o:Oper} {a:Act} {K:Act->World->Prop} {Q:aRE} (ty:TypeId) (x v:Operand) (aG:o.op = .store ty x v)
  (g off:Nat) (ah:a.eval x = .pointer (some ⟨g,off,none⟩)) (val:Value) (aZ:a.eval v=val) (vs:aRD) (nD:val.cells.toList=vs) (cur:Array Value) (t:TypeId) (ax:w.heap[g]?=some (.cells cur t (0,0)))
  (ay:(P.info? ty).map (·.size)=some vs.length) (tQ:off+vs.length<=cur.size) (h1:∀ v∈vs,v.oneCell'=true)
  (h:K (a.put o.dst undef) (w.setRow g (laid cur off vs))):o.wp P a w K Q:=by
 have I:(storeCells ⟨g,off,none⟩ vs).run P w = .ok () (w.setRow g (laid cur off vs)):=by have I:=run_storeCells_at P g off t vs 0 cur w ax om h1;simp only [Nat.add_zero] at I;exact I
 cases J:P.info? ty with
 | none=>simp [J] at ay
 | some i =>
  have hs:i.size=vs.length:=by simpa [J] using ay
  have hcs:val.cells.size=vs.length:=by rw [<- nD];simp
  unfold Oper.wp execOp;simp [aG,ah,aZ,Instr.storeAt,Instr.sureAddr,storeVar,sizeOf,typeInfo,J,hs,hcs,nD,I];exact h
theorem yz {ops:Array Oper} {rest:List Oper} {a:Act} {Q:aRE} {dst:Option Tmp} {ty gP:TypeId} {x v:Operand} {pos:String} {after:Array Edge}
  (g off:Nat) (val:Value) (vs:aRD) (nD:val.cells.toList=vs) (cur:Array Value) (t:TypeId) (ax:w.heap[g]?=some (.cells cur t (0,0)))
  (ay:(P.info? ty).map (·.size)=some vs.length) (tQ:off+vs.length<=cur.size) (h1:∀ v∈vs,v.oneCell'=true)
  (uZ:a.eval x = .pointer (some ⟨g,off,none⟩)/\a.eval v=val)
  (h:wpList P ops Q rest (a.put dst undef) (w.setRow g (laid cur off vs))):wpList P ops Q (⟨dst,.store ty x v,gP,pos,after,none⟩ :: rest) a w :=
 aQM rfl fun _ I=>an3 ty x v rfl g off uZ.1 val uZ.2 vs nD cur t ax ay tQ h1 (I _ _ h)
abbrev CF (d:TypeDesc):Bool:=match d with | .struct _ | .array _ _=>true | _=>false
theorem ag6 {o:Oper} {a:Act} {K:Act->World->Prop} {Q:aRE} (ty:TypeId) (x:Operand) (aG:o.op = .load ty x)
  (g off:Nat) (ah:a.eval x = .pointer (some ⟨g,off,none⟩)) (cur:Array Value) (t:TypeId) (bf:Nat × Nat) (ax:w.heap[g]?=some (.cells cur t bf)) (vs:aRD)
  (nD:∀ j,j < vs.length->cur[off+j]?=vs[j]?) (d:TypeDesc)
  (hu:P.underlying ty=some d) (aT:CF d=true) (ay:(P.info? ty).map (·.size)=some vs.length)
  (h:K (a.put o.dst (.agg vs.toArray)) w):o.wp P a w K Q:=by
 unfold CF at aT;have hl:(loadCells ⟨g,off,none⟩ vs.length).run P w = .ok vs.toArray w :=
  run_loadCells_list (P:=P) w ⟨g,off,none⟩ vs (fun j v I=>by
   have aD:j < vs.length:=by
    rcases aQD j vs.length with M | Y
    ·exact M
    ·rw [List.getElem?_eq_none Y] at I;cases I
   rw [DI,cell_of_row w g _ cur t bf ax,nD j aD,I])
 cases J:P.info? ty with
 | none=>simp [J] at ay
 | some i =>
  have hs:i.size=vs.length:=by simpa [J] using ay
  have A7:(isAgg ty).run P w = .ok true w:=by unfold isAgg;rw [Sem.run_bind,run_underlying hu w];cases d <;> simp_all
  unfold Oper.wp execOp;simp [aG,ah,Instr.loadAt,Instr.sureAddr,loadVar,Sem.run_bind,A7,sizeOf,typeInfo,J,hs,hl];exact h
theorem ays {a:Act} {K:Act->World->Prop} {Q:aRE} {dst:Option Tmp} {ty gP:TypeId} {x:Operand} {pos:String} {after:Array Edge} {jO:Option (Nat × Bool)}
  (g off:Nat) (cur:Array Value) (t:TypeId) (bf:Nat × Nat) (ax:w.heap[g]?=some (.cells cur t bf)) (vs:aRD)
  (nD:∀ j,j < vs.length->cur[off+j]?=vs[j]?) (d:TypeDesc) (hu:P.underlying ty=some d) (ay:(P.info? ty).map (·.size)=some vs.length)
  (ah:a.eval x = .pointer (some ⟨g,off,none⟩)/\CF d=true)
  (h:K (a.put dst (.agg vs.toArray)) w):Oper.wp P ⟨dst,.load ty x,gP,pos,after,jO⟩ a w K Q :=
 ag6 ty x rfl g off ah.1 cur t bf ax vs nD d hu ah.2 ay h
theorem QE {ops:Array Oper} {rest:List Oper} {a:Act} {Q:aRE} {dst:Option Tmp} {ty gP:TypeId} {x:Operand} {pos:String} {after:Array Edge}
  (g off:Nat) (cur:Array Value) (t:TypeId) (bf:Nat × Nat) (ax:w.heap[g]?=some (.cells cur t bf)) (vs:aRD)
  (nD:∀ j,j < vs.length->cur[off+j]?=vs[j]?) (d:TypeDesc) (hu:P.underlying ty=some d) (ay:(P.info? ty).map (·.size)=some vs.length)
  (ah:a.eval x = .pointer (some ⟨g,off,none⟩)/\CF d=true)
  (h:wpList P ops Q rest (a.put dst (.agg vs.toArray)) w):wpList P ops Q (⟨dst,.load ty x,gP,pos,after,none⟩ :: rest) a w :=
 aQM rfl fun _ I=>ag6 ty x rfl g off ah.1 cur t bf ax vs nD d hu ah.2 ay (I _ _ h)
theorem VR {ops:Array Oper} {rest:List Oper} {a:Act} {Q:aRE} {dst:Option Tmp} {t gP:TypeId} {parts:Array (Nat × Operand)} {pos:String} {after:Array Edge}
  (cells:Array Value) (hf:P.built t (parts.map fun (i,x)=>(i,a.eval x)).toList=some cells)
  (h:wpList P ops Q rest (a.put dst (.agg cells)) w):wpList P ops Q (⟨dst,.build t parts,gP,pos,after,none⟩ :: rest) a w :=
 aQM rfl fun _ I=>wp_build t parts rfl (by rw [hf];rfl) (I _ _ (by rw [hf];exact h))
theorem ve {ops:Array Oper} {rest:List Oper} {a:Act} {Q:aRE} {dst:Option Tmp} {gP:TypeId} {s x:Operand} {t u:TypeId} {pos:String} {after:Array Edge}
  (e:TypeId) (z:Value) (aO bytes:Nat) (aA:P.underlying t=some (.slice e)) (ay:(P.info? e).map (fun i=>(i.zero,i.size,i.bytes))=some (some z,aO,bytes)) (Kb:z.cells.size=aO)
  (base:Nat) (A:aRC) (n c:Nat) (xs:aRD) (bU:Own w base e aO A n c xs)
  (m:Nat) (news:aRD) (v:Value) (uY:Src P w u aO v m news) (h1:∀ v∈news,v.oneCell'=true)
  (uG:n+m<=maxLen) (Kc:(n+m) * bytes<=140737488355328) (sj:base<=w.heap.size) (zQ:a.eval s = .slice A n c/\a.eval x=v)
  (h:∀ A' c' w',Own w' base e aO A' (n+m) c' (xs++news)->w.grownBy w' (bV A)->(bV A'=bV A\/bV A'=some w.heap.size)->wpList P ops Q rest (a.put dst (.slice A' (n+m) c')) w') :
  wpList P ops Q (⟨dst,.call ⟨.builtin .append,#[s,x],#[t,u]⟩,gP,pos,after,none⟩ :: rest) a w :=
 ayq rfl s x t u rfl e z aO bytes aA ay Kb base A n c xs zQ.1 bU m news v zQ.2 uY h1 uG Kc sj h
end
theorem an4 {P:Program} {f:FuncId} {args:Array Value} {w:aRB} {a n:Nat} {v:Value} (h:Calls P f args (w.drewN (a+n)) fun e w'=>e = .returned v/\w.drewN (a+n)=w') :
  Calls P f args (w.drewN (a+n)) fun e Yy=>e = .returned v/\∃ m,Yy=w.drewN (a+m):=h.mono fun _ _ ⟨he,hw⟩=>⟨he,n,hw.symm⟩
theorem ayt {w:aRB} {g:Nat} {o:Option Obj} (n:Nat) (h:w.heap[g]?=o):(w.drewN n).heap[g]?=o:=h
def y8 (p:Prop):Prop:=Unit->p
theorem aa {p:Prop} (h:p):y8 p:=fun _=>h
theorem y8.out {p:Prop} (h:y8 p):p:=h ()
theorem y8.o {p:Prop} (h:y8 p):p:=h ()
theorem jw {P:Program} {f:FuncId} {args:Array Value} {w:aRB} {v:Ending} {A:World->Prop} {Q:aRF} (h:Calls P f args w fun e w'=>e=v/\A w') (k:∀ w',y8 (A w')->Q v w'):Calls P f args w Q:=h.mono fun e w' ⟨h1,I⟩=>by rw [h1];exact k w' (aa I)
theorem CG {P:Program} {f:FuncId} {args:Array Value} {w:aRB} {v:Ending} {A B:World->Prop} {Q:aRF} (h:Calls P f args w fun e w'=>e=v/\A w'/\B w') (k:∀ w',y8 (A w')->y8 (B w')->Q v w'):Calls P f args w Q:=h.mono fun e w' ⟨h1,I,J⟩=>by rw [h1];exact k w' (aa I) (aa J)
theorem gQ {w w1:aRB} {o:Obj} (h:w1=w.alloc o):Bl w w1:=by rw [h];exact (Below.refl _ _).alloc (aQm _) _
theorem an5 {α:Sort _} {A Q:α->Prop} (h:∀ x,y8 (A x)->Q x):∀ x,A x->Q x:=fun x a=>h x (aa a)
theorem zR {α:Sort _} {A B Q:α->Prop} (h:∀ x,y8 (A x)->y8 (B x)->Q x):∀ x,A x->B x->Q x:=fun x a b=>h x (aa a) (aa b)
theorem aR {a b c:aRB} (h:Bl a b) (k:Bl b c):Bl a c:=h.trans (k.mono h.size)
theorem fT {p q:Prop} (h:¬p:=by decide):p->q:=fun e=>absurd e h
theorem gK {w:aRB} {o:Obj}:Bl w (w.alloc o):=(Below.refl _ _).alloc (aQm _) _
theorem mO {P:Prop} (h:P:=by (unfold maxLen;omega)):P:=h
theorem qD (l:aRD):(Value.agg l.toArray).cells.toList=l:=by simp [Value.cells]
theorem Yz (l:aRD) (j:Nat):l.toArray[0+j]?=l[j]?:=by rw [Nat.zero_add,List.getElem?_toArray]
theorem Kg {B:Nat} {a w:aRB} (h:Below B a w) {g:Nat} (ax:B<=g) (cs:Array Value):Below B a (w.setRow g cs) :=
 h.trans ⟨rfl,rfl,rfl,by simp,fun k hk=>aQA w g k cs om⟩
theorem below_drewN {B:Nat} {a w:aRB} (h:Below B a w) (n:Nat):Below B a (w.drewN n):=⟨h.os,h.tape,h.output,h.size,h.block⟩
theorem hq3 {a b c:Prop} (a1:a) (b1:b) (c1:c):y8 a/\y8 b/\y8 c:=⟨aa a1,aa b1,aa c1⟩
theorem hq4 {a b c d:Prop} (a1:a) (b1:b) (c1:c) (d1:d):y8 a/\y8 b/\y8 c/\y8 d:=⟨aa a1,aa b1,aa c1,aa d1⟩
theorem hq5 {a b c d e:Prop} (a1:a) (b1:b) (c1:c) (d1:d) (e1:e):y8 a/\y8 b/\y8 c/\y8 d/\y8 e:=⟨aa a1,aa b1,aa c1,aa d1,aa e1⟩
theorem hq6 {a b c d e f:Prop} (a1:a) (b1:b) (c1:c) (d1:d) (e1:e) (f1:f):y8 a/\y8 b/\y8 c/\y8 d/\y8 e/\y8 f:=⟨aa a1,aa b1,aa c1,aa d1,aa e1,aa f1⟩
theorem hq7 {a b c d e f g:Prop} (a1:a) (b1:b) (c1:c) (d1:d) (e1:e) (f1:f) (g1:g):y8 a/\y8 b/\y8 c/\y8 d/\y8 e/\y8 f/\y8 g:=⟨aa a1,aa b1,aa c1,aa d1,aa e1,aa f1,aa g1⟩
theorem hq8 {a b c d e f g h:Prop} (a1:a) (b1:b) (c1:c) (d1:d) (e1:e) (f1:f) (g1:g) (h1:h):y8 a/\y8 b/\y8 c/\y8 d/\y8 e/\y8 f/\y8 g/\y8 h:=⟨aa a1,aa b1,aa c1,aa d1,aa e1,aa f1,aa g1,aa h1⟩
theorem hq9 {a b c d e f g h i:Prop} (a1:a) (b1:b) (c1:c) (d1:d) (e1:e) (f1:f) (g1:g) (h1:h) (i1:i):y8 a/\y8 b/\y8 c/\y8 d/\y8 e/\y8 f/\y8 g/\y8 h/\y8 i:=⟨aa a1,aa b1,aa c1,aa d1,aa e1,aa f1,aa g1,aa h1,aa i1⟩
theorem hq10 {a b c d e f g h i j:Prop} (a1:a) (b1:b) (c1:c) (d1:d) (e1:e) (f1:f) (g1:g) (h1:h) (i1:i) (j1:j):y8 a/\y8 b/\y8 c/\y8 d/\y8 e/\y8 f/\y8 g/\y8 h/\y8 i/\y8 j:=⟨aa a1,aa b1,aa c1,aa d1,aa e1,aa f1,aa g1,aa h1,aa i1,aa j1⟩
theorem hq11 {a b c d e f g h i j k:Prop} (a1:a) (b1:b) (c1:c) (d1:d) (e1:e) (f1:f) (g1:g) (h1:h) (i1:i) (j1:j) (k1:k):y8 a/\y8 b/\y8 c/\y8 d/\y8 e/\y8 f/\y8 g/\y8 h/\y8 i/\y8 j/\y8 k:=⟨aa a1,aa b1,aa c1,aa d1,aa e1,aa f1,aa g1,aa h1,aa i1,aa j1,aa k1⟩
theorem hq12 {a b c d e f g h i j k l:Prop} (a1:a) (b1:b) (c1:c) (d1:d) (e1:e) (f1:f) (g1:g) (h1:h) (i1:i) (j1:j) (k1:k) (l1:l):y8 a/\y8 b/\y8 c/\y8 d/\y8 e/\y8 f/\y8 g/\y8 h/\y8 i/\y8 j/\y8 k/\y8 l:=⟨aa a1,aa b1,aa c1,aa d1,aa e1,aa f1,aa g1,aa h1,aa i1,aa j1,aa k1,aa l1⟩
theorem hq13 {a b c d e f g h i j k l m:Prop} (a1:a) (b1:b) (c1:c) (d1:d) (e1:e) (f1:f) (g1:g) (h1:h) (i1:i) (j1:j) (k1:k) (l1:l) (m1:m):y8 a/\y8 b/\y8 c/\y8 d/\y8 e/\y8 f/\y8 g/\y8 h/\y8 i/\y8 j/\y8 k/\y8 l/\y8 m:=⟨aa a1,aa b1,aa c1,aa d1,aa e1,aa f1,aa g1,aa h1,aa i1,aa j1,aa k1,aa l1,aa m1⟩
theorem hq14 {a b c d e f g h i j k l m n:Prop} (a1:a) (b1:b) (c1:c) (d1:d) (e1:e) (f1:f) (g1:g) (h1:h) (i1:i) (j1:j) (k1:k) (l1:l) (m1:m) (n1:n):y8 a/\y8 b/\y8 c/\y8 d/\y8 e/\y8 f/\y8 g/\y8 h/\y8 i/\y8 j/\y8 k/\y8 l/\y8 m/\y8 n:=⟨aa a1,aa b1,aa c1,aa d1,aa e1,aa f1,aa g1,aa h1,aa i1,aa j1,aa k1,aa l1,aa m1,aa n1⟩
theorem hq15 {a b c d e f g h i j k l m n o:Prop} (a1:a) (b1:b) (c1:c) (d1:d) (e1:e) (f1:f) (g1:g) (h1:h) (i1:i) (j1:j) (k1:k) (l1:l) (m1:m) (n1:n) (o1:o):y8 a/\y8 b/\y8 c/\y8 d/\y8 e/\y8 f/\y8 g/\y8 h/\y8 i/\y8 j/\y8 k/\y8 l/\y8 m/\y8 n/\y8 o:=⟨aa a1,aa b1,aa c1,aa d1,aa e1,aa f1,aa g1,aa h1,aa i1,aa j1,aa k1,aa l1,aa m1,aa n1,aa o1⟩
theorem hq16 {a b c d e f g h i j k l m n o p:Prop} (a1:a) (b1:b) (c1:c) (d1:d) (e1:e) (f1:f) (g1:g) (h1:h) (i1:i) (j1:j) (k1:k) (l1:l) (m1:m) (n1:n) (o1:o) (p1:p):y8 a/\y8 b/\y8 c/\y8 d/\y8 e/\y8 f/\y8 g/\y8 h/\y8 i/\y8 j/\y8 k/\y8 l/\y8 m/\y8 n/\y8 o/\y8 p:=⟨aa a1,aa b1,aa c1,aa d1,aa e1,aa f1,aa g1,aa h1,aa i1,aa j1,aa k1,aa l1,aa m1,aa n1,aa o1,aa p1⟩
end
section
open Go.RowKit
def ow (T:Array Value):List Oper->(Nat->Value)->Nat->Array Value
 | [],_,_=>T
 | o :: r,u,k=>ow (match o.dst with | some d=>T.setIfInBounds d (u k) | none=>T) r u (k+1)
def acI (d:Tmp) (r:List Oper):Bool:=r.any fun o=>o.dst == some d
def Kh:List Oper->Bool
 | []=>true
 | o :: r=>(match o.dst with | some d=>!acI d r | none=>true) && Kh r
def oM {α:Type} (u:Nat->α) (i:Nat) (v:α):Nat->α:=fun j=>if j=i then v else u j
theorem ayu (l:List Oper):∀ (T:Array Value) (u:Nat->Value) (k:Nat) (d:Tmp) (v:Value),acI d l=false ->
  ow (T.setIfInBounds d v) l u k=(ow T l u k).setIfInBounds d v:=by
 induction l with
 | nil=>intros;rfl
 | cons o r J =>
  intro T u k d v h;simp only [acI,List.any_cons,Bool.or_eq_false_iff] at h;cases I:o.dst with
  | none=>simp only [ow,I];exact J T u (k+1) d v h.2
  | some M =>
   have Y:M≠d:=fun e=>by have:=h.1;rw [I,e] at this;simp at this
   simp only [ow,I];rw [<- J _ u (k+1) d v h.2,Array.setIfInBounds_comm _ _ Y]
theorem an7 (l:List Oper):∀ (T:Array Value) (u Mh:Nat->Value) (k:Nat),(∀ j,k<=j->u j=Mh j)->ow T l u k=ow T l Mh k:=by
 induction l with
 | nil=>intros;rfl
 | cons o r I =>
  intro T u Mh k h;simp only [ow,h k (Nat.le_refl _)];exact I _ u Mh (k+1) (fun j aD=>h j om)
theorem ayv (l:List Oper):∀ (T:Array Value) (u:Nat->Value) (k i:Nat) (o:Oper) (v:Value),Kh l=true->l[i]?=some o ->
  (match o.dst with | some d=>(ow T l u k).setIfInBounds d v | none=>ow T l u k)=ow T l (oM u (k+i) v) k:=by
 induction l with
 | nil=>intro T u k i o v _ h;simp at h
 | cons M r Y =>
  intro T u k i o v I h;simp only [Kh,Bool.and_eq_true] at I;cases i with
  | zero =>
   simp only [List.getElem?_cons_zero,Option.some.injEq] at h;subst h;have hc:∀ T,ow T r (oM u (k+0) v) (k+1)=ow T r u (k+1):=fun T=>an7 r T _ _ _ (fun j aD=>by simp only [oM];rw [if_neg om]);cases J:M.dst with
   | none=>simp only [ow,J,hc]
   | some d =>
    have h1:acI d r=false:=by have:=I.1;rw [J] at this;simpa using this
    simp only [ow,J,hc];rw [<- ayu r _ _ _ _ _ h1];simp [oM]
  | succ i =>
   simp only [List.getElem?_cons_succ] at h;have:=Y (match M.dst with | some d=>T.setIfInBounds d (u k) | none=>T) u (k+1) i o v I.2 h;have e:k+1+i=k+(i+1):=om;rw [e] at this;simp only [ow];rw [this];have hk:oM u (k+(i+1)) v k=u k:=by simp only [oM];rw [if_neg om]
   rw [hk]
theorem ayw (l:List Oper):∀ (T:Array Value) (k:Nat),Kh l=true->∃ u,ow T l u k=T:=by
 induction l with
 | nil=>intro T k _;exact⟨fun _=>undef,rfl⟩
 | cons o r M =>
  intro T k I;simp only [Kh,Bool.and_eq_true] at I;obtain⟨u,hu⟩:=M T (k+1) I.2;cases J:o.dst with
  | none=>exact⟨u,by simp only [ow,J];exact hu⟩
  | some d =>
   refine⟨oM u k (T.getD d undef),?_⟩;simp only [ow,J];have Y:oM u k (T.getD d undef) k=T.getD d undef:=by simp [oM]
   have A7:T.setIfInBounds d (T.getD d undef)=T:=by
    apply Array.ext
    ·simp
    ·intro i h1 AA;rw [Array.getElem_setIfInBounds];split
     ·subst_vars;simp [AA]
     ·rfl
   rw [Y,A7,an7 r T _ u (k+1) (fun j aD=>by simp only [oM];rw [if_neg om])];exact hu
def FK (F:Nat->Oper->Prop):List Oper->Nat->Prop
 | [],_=>True
 | o :: r,k=>F k o/\FK F r (k+1)
theorem FK.get:∀ (l:List Oper) (k:Nat),FK F l k->∀ i o,l[i]?=some o->F (k+i) o
 | [],_,_,i,o,h=>by simp at h
 | J :: r,k,I,0,o,h=>by
  simp only [List.getElem?_cons_zero,Option.some.injEq] at h;subst h;exact I.1
 | J :: r,k,I,i+1,o,h=>by
  simp only [List.getElem?_cons_succ] at h;have:=FK.get r (k+1) I.2 i o h;rw [show k+(i+1)=k+1+i by omega];exact this
theorem FK.imp {G:Nat->Oper->Prop}:∀ {l:List Oper} {k:Nat},FK F l k->(∀ i o,F i o->G i o)->FK G l k
 | [],_,_,_=>trivial
 | _ :: _,_,h,I=>⟨I _ _ h.1,h.2.imp I⟩
theorem an8 {l:List Oper} {n:Nat} (h:FK F (l.take n) 0):∀ i o,i < n->l[i]?=some o->F i o:=fun i o I J=>by
 have:=FK.get (l.take n) 0 h i o (by rw [List.getElem?_take,if_pos I];exact J);rwa [Nat.zero_add] at this
def ayx (ops:Array Oper) (n:Nat):Bool:=(List.range n).all fun j=>((ops[j]?).map fun o=>o.after.all fun e=>!Region.binds .any e || decide (e.on < j)).getD true
def Tk (ops:Array Oper) (n:Nat):Bool :=
 ayx ops n && (decide (n=ops.size) || (decide (n < ops.size) && Region.sinkB .any ops n && Region.chainB .any ops n && Region.seqB .any ops (ops.size - n) n ((Array.range ops.size).map fun j=>decide (j < n))))
def VS (l:List Oper) (j i:Nat):Bool:=match l[j]? with
 | some o=>o.after.any fun e=>Region.binds .any e && e.on == i
 | none=>false
def acJ (l:List Oper):List Nat->Bool
 | a :: b :: r=>VS l a b && acJ l (b :: r)
 | _=>true
theorem an9 {l:List Oper} {L:Nat->Bool} (jB:∀ j k,L j=true->VS l j k=true->L k=true):∀ (r:aRG) (a:Nat),acJ l (a :: r)=true->L a=true->∀ x∈a :: r,L x=true
 | [],a,_,h,x,ah=>by
  have:x=a:=by simpa using ah
  rw [this];exact h
 | b :: r,a,aL,h,x,ah=>by
  rw [acJ,Bool.and_eq_true] at aL;rcases aQw.1 ah with e | e
  ·rw [e];exact h
  ·exact an9 jB r b aL.2 (jB a b h aL.1) x e
theorem acK {l:List Oper} {L:Nat->Bool} (jB:∀ j k,L j=true->VS l j k=true->L k=true) {i:Nat} (ay:L i=false) (j:Nat) (r:aRG) (aL:acJ l (j :: r)=true) (ah:i∈j :: r):L j=false:=by
 cases h:L j with
 | false=>rfl
 | true =>
  have:=an9 jB r j aL h i ah;rw [ay] at this;cases this
section
variable {P:Program} {Q:aRE} {w:aRB} {l:List Oper} {T:Array Value} {D:List Deferred} {V:Nat->Value->World->Prop} {Ext:World->World->Prop}
theorem aoa {M:(Nat->Bool)->(Nat->Value)->World->Prop} (n:Nat)
  (bg:Tk l.toArray n=true) (aT:Kh (l.take n)=true) (tT:∀ u,M (fun _=>false) u w.drew) (eD:∀ j v w w',Ext w w'->V j v w->V j v w')
  (jJ:∀ i o,i < n->l[i]?=some o->∀ (u:Nat->Value) (w:aRB) (L:Nat->Bool),M L u w->L i=false->(∀ j k,L j=true->VS l j k=true->L k=true)->(∀ j,j < n->L j=true->V j (u j) w) ->
   (∀ e∈o.after,Region.binds .any e=true->e.on < n/\L e.on=true/\V e.on (u e.on) w) ->
   ∀ K:Act->World->Prop,(∀ v w',V i v w'->M (oM L i true) (oM u i v) w'->Ext w w'->K ((⟨ow T (l.take n) u 0,D⟩:Act).put o.dst v) w') ->
   if Region.wanted o (yielded l.toArray (ow T (l.take n) u 0))=true then Oper.wp P o ⟨ow T (l.take n) u 0,D⟩ w K Q else K ((⟨ow T (l.take n) u 0,D⟩:Act).put o.dst undef) w)
  (Ki:∀ (u:Nat->Value) (w:aRB),M (fun j=>decide (j < n)) u w->(∀ j,j < n->V j (u j) w)->wpList P l.toArray Q (l.drop n) ⟨ow T (l.take n) u 0,D⟩ w) :
  wpAny P .any l.toArray Q l.toArray.size (Array.replicate l.toArray.size false) ⟨T,D⟩ w.drew:=by
 simp only [Tk,Bool.and_eq_true,Bool.or_eq_true,decide_eq_true_eq] at bg;obtain⟨AZ,bg⟩:=bg;have AJ:l.toArray.size=l.length:=by simp
 have Bv:n<=l.length:=by rcases bg with h | h <;> omega
 have key:∀ (f:Nat) (listed:Array Bool) (u:Nat->Value) (w:aRB),HeadInv .any l.toArray n listed ->
   ((List.range n).filter fun j=>!listed.getD j true).length=f->M (fun j=>listed.getD j false) u w->(∀ j,j < n->listed.getD j false=true->V j (u j) w) ->
   wpAny P .any l.toArray Q (f+(l.length - n)) listed ⟨ow T (l.take n) u 0,D⟩ w:=by
  intro f;induction f with
  | zero =>
   intro listed u w inv hf AP AL;have Y:∀ j,j < n->listed.getD j false=true:=by
    intro j aD;have:(List.range n).filter (fun j=>!listed.getD j true)=[]:=aQC hf;have h1:=List.filter_eq_nil_iff.1 this j (aQK.2 aD);have Ap:j < listed.size:=by rw [inv.size,AJ];omega
    simp only [Bool.not_eq_true',Bool.not_eq_false] at h1;simp [Ap] at h1 |-;exact h1
   have Aq:listed=(Array.range l.toArray.size).map fun j=>decide (j < n):=by
    apply Array.ext
    ·simp [inv.size]
    ·intro j h1 Ah;rw [Array.getElem_map,Array.getElem_range];by_cases A7:j < n
     ·have:=Y j A7;simp only [A7,decide_true];simpa [h1] using this
     ·have Au:j < l.toArray.size:=by rw [<- inv.size];exact h1
      have:=inv.tail j om Au;simp only [A7,decide_false];simpa [h1] using this
   have Aw:(fun j=>listed.getD j false)=fun j=>decide (j < n):=by
    funext j;by_cases A7:j < n
    ·rw [Y j A7,decide_eq_true A7]
    ·rw [decide_eq_false A7];rcases aQD j l.toArray.size with h | h
     ·exact getD_both (inv.tail j om h)
     ·have:listed.size<=j:=by rw [inv.size];exact h
      simp [Array.getElem?_eq_none this]
   rw [Aw] at AP;have Aa:=Ki u w AP (fun j aD=>AL j aD (Y j aD));rw [Nat.zero_add];rcases bg with bg | bg
   ·have Ab:l.length - n=0:=om;rw [Ab];rw [List.drop_of_length_le om] at Aa;refine⟨?_,Aa⟩;rcases Ay:Region.ready .any l.toArray listed with _ | ⟨i,r⟩
    ·rfl
    ·have I:i∈Region.ready .any l.toArray listed:=by rw [Ay];simp
     obtain⟨h1,o,AB,_⟩:=mem_ready.1 I;have Bw:i < l.toArray.size:=(aQZ.1 AB).1;have:=Y i om;rw [getD_both h1] at this;cases this
   ·have Ai:(l.drop n).length=l.length - n:=by simp
    have Ak:=bg.2;rw [<- Aq,AJ,<- Ai] at Ak;have:=wpAny_of_seq (P:=P) (md:=.any) (ops:=l.toArray) (Q':=Q) (l.drop n) n listed ⟨ow T (l.take n) u 0,D⟩ w (fun j=>by simp [List.getElem?_drop]) Ak Aa;rw [Ai] at this;exact this
  | succ f Az =>
   intro listed u w inv hf AP AL;rw [show f+1+(l.length - n)=(f+(l.length - n))+1 by omega];have hex:∃ i,i < n/\listed.getD i true=false:=by
    rcases AV:(List.range n).filter (fun j=>!listed.getD j true) with _ | ⟨i,r⟩
    ·rw [AV] at hf;simp at hf
    ·have I:i∈(List.range n).filter (fun j=>!listed.getD j true):=by rw [AV];simp
     rw [List.mem_filter,List.mem_range] at I;exact⟨i,I.1,by simpa using I.2⟩
   refine⟨fun Ab=>?_,fun i I=>?_⟩
   ·exfalso;have BA:∀ m i,i<=m->i < n->listed.getD i true=false->∃ j,j∈Region.ready .any l.toArray listed:=by
     intro m;induction m with
     | zero =>
      intro i I fC J;obtain rfl:i=0:=om;have AO:0 < l.length:=om;refine⟨0,mem_ready.2 ⟨J,l[0],by simp [AO],fun e he ae=>?_⟩⟩;have h1:=aQV.1 AZ 0 (aQK.2 fC);rw [show l.toArray[0]?=some l[0] by simp [AO]] at h1;simp only [Option.map_some,Option.getD_some,Array.all_eq_true',Bool.or_eq_true,Bool.not_eq_true',decide_eq_true_eq] at h1;have:=(h1 e he).resolve_left (by rw [ae];decide);omega
     | succ m BF =>
      intro i I fC J;by_cases Al:∃ j,j < i/\listed.getD j true=false
      ·obtain⟨j,aD,BG⟩:=Al;exact BF j om om BG
      ·have AO:i < l.length:=om;refine⟨i,mem_ready.2 ⟨J,l[i],by simp [AO],fun e he ae=>?_⟩⟩;have h1:=aQV.1 AZ i (aQK.2 fC);rw [show l.toArray[i]?=some l[i] by simp [AO]] at h1;simp only [Option.map_some,Option.getD_some,Array.all_eq_true',Bool.or_eq_true,Bool.not_eq_true',decide_eq_true_eq] at h1;have BH:=(h1 e he).resolve_left (by rw [ae];decide);have BI:e.on < listed.size:=by rw [inv.size,AJ];omega
       cases AV:listed.getD e.on false with
       | true=>rfl
       | false=>exact absurd ⟨e.on,BH,getD_in BI AV⟩ Al
    obtain⟨i,fC,J⟩:=hex;obtain⟨j,aD⟩:=BA i i (aQm _) fC J;rw [Ab] at aD;cases aD
   ·obtain⟨J,o,AB,Y⟩:=mem_ready.1 I;have fC:i < n:=by
     rcases bg with bg | bg
     ·have:=(aQZ.1 AB).1;omega
     ·rcases aQD i n with h | h
      ·exact h
      ·obtain⟨k,hk,BJ⟩:=hex;exact absurd I (tail_waits bg.1.1.2 bg.1.2 bg.1.1.1 inv _ k rfl hk BJ i h)
    have Am:l[i]?=some o:=by simpa using AB
    have BK:∀ e∈o.after,Region.binds .any e=true->e.on < n/\listed.getD e.on false=true/\V e.on (u e.on) w:=fun e he ae=>by
     have h1:=aQV.1 AZ i (aQK.2 fC);rw [AB] at h1;simp only [Option.map_some,Option.getD_some,Array.all_eq_true',Bool.or_eq_true,Bool.not_eq_true',decide_eq_true_eq] at h1;have:=(h1 e he).resolve_left (by rw [ae];decide);exact⟨om,Y e he ae,AL e.on om (Y e he ae)⟩
    refine wpOp_step AB fun K BL=>?_;have BM:=jJ i o fC Am u w _ AP (getD_both J) (fun j k aD he=>by
     unfold VS at he;cases Ad:l[j]? with
     | none=>rw [Ad] at he;cases he
     | some Ao =>
      rw [Ad] at he;simp only at he;rw [Array.any_eq_true'] at he;obtain⟨e,BO,Ae⟩:=he;rw [Bool.and_eq_true,beq_iff_eq] at Ae;have:=inv.closed j Ao (by simpa using Ad) aD e BO Ae.1;rw [Ae.2] at this;exact this) AL BK
    refine BM K (fun v w' BP BQ BX=>BL _ _ ?_);have Bb:(⟨ow T (l.take n) u 0,D⟩:Act).put o.dst v=⟨ow T (l.take n) (oM u i v) 0,D⟩:=by have:=ayv (l.take n) T u 0 i o v aT (by rw [List.getElem?_take,if_pos fC];exact Am);rw [Nat.zero_add] at this;rw [<- this];cases o.dst <;> rfl
    rw [Bb];refine Az (listed.setIfInBounds i true) (oM u i v) w' (inv.set I fC) ?_ ?_ ?_
    ·have Af:i < listed.size:=by rw [inv.size,AJ];omega
     have Bc:∀ (r:aRG),r.Nodup->i∈r->(r.filter fun j=>!listed.getD j true).length=(r.filter fun j=>!(listed.setIfInBounds i true).getD j true).length+1:=by
      intro r;induction r with
      | nil=>intro _ h;cases h
      | cons x r Bd =>
       intro Ag Bf;rw [List.nodup_cons] at Ag;by_cases ah:x=i
       ·subst ah;have Ah:(listed.setIfInBounds x true).getD x true=true:=by simp [Af]
        have Bi:∀ (r':aRG),x ∉ r'->(r'.filter fun j=>!listed.getD j true)=(r'.filter fun j=>!(listed.setIfInBounds x true).getD j true):=by intro r' Bn;refine List.filter_congr fun j aD=>?_;rw [getD_set_ne true (show x≠j from fun e=>Bn (by rw [e];exact aD))]
        rw [List.filter_cons,List.filter_cons,J,Ah];simp only [Bool.not_false,if_true,Bool.not_true,Bool.false_eq_true,if_false,List.length_cons];rw [Bi r Ag.1]
       ·have Bo:i∈r:=by
         rcases aQw.1 Bf with h | h
         ·exact absurd h.symm ah
         ·exact h
        have:=Bd Ag.2 Bo;rw [List.filter_cons,List.filter_cons,getD_set_ne true (fun e=>ah e.symm)];split
        ·simp only [List.length_cons];omega
        ·exact this
     have:=Bc (List.range n) List.nodup_range (aQK.2 fC);omega
    ·have Af:i < listed.size:=by rw [inv.size,AJ];omega
     have Bp:(fun j=>(listed.setIfInBounds i true).getD j false)=oM (fun j=>listed.getD j false) i true:=by
      funext j;by_cases AA:j=i
      ·subst AA;simp [oM,Af]
      ·rw [getD_set_ne false (Ne.symm AA)];simp [oM,AA]
     rw [Bp];exact BQ
    ·intro j aD hl;by_cases AA:j=i
     ·subst AA;simp only [oM,if_true];exact BP
     ·rw [getD_set_ne false (Ne.symm AA)] at hl;have h1:=eD j (u j) w w' BX (AL j aD hl);simp only [oM,AA,if_false];exact h1
 obtain⟨u,hu⟩:=ayw (l.take n) T 0 aT;have Bq:HeadInv .any l.toArray n (Array.replicate l.toArray.size false) :=
  ⟨by simp,fun j Ao _ hl=>(by rw [getD_replicate_false] at hl;cases hl),fun t _ Br=>getD_in (by simpa using Br) (getD_replicate_false _ _)⟩
 have Bt:((List.range n).filter fun j=>!(Array.replicate l.toArray.size false).getD j true).length=n:=by
  rw [List.filter_eq_self.2]
  ·simp
  ·intro j aD;have:=aQK.1 aD;rw [getD_in (by simp;omega) (getD_replicate_false _ _)];rfl
 have:=key n (Array.replicate l.toArray.size false) u w.drew Bq Bt (by have Bu:(fun j=>(Array.replicate l.toArray.size false).getD j false)=fun _=>false:=(by funext j;exact getD_replicate_false _ _);rw [Bu];exact tT u) (fun j _ hl=>by rw [getD_replicate_false] at hl;cases hl);rw [hu,show n+(l.length - n)=l.toArray.size by omega] at this;exact this
theorem mf {T:Array Value} {D:List Deferred} {o:Oper} {K:Act->World->Prop} {E:Prop} (ax:o.guard=none)
  (h:Oper.wp P o ⟨T,D⟩ w K Q):if Region.wanted o (yielded ops T)=true then Oper.wp P o ⟨T,D⟩ w K Q else E:=by
 rw [if_pos (by simp [Region.wanted,ax])];exact h
def Mi (V:Nat->Value->World->Prop) (u:Nat->Value) (w:aRB):Nat->Nat->Prop
 | 0,_=>True
 | n+1,k=>V k (u k) w/\Mi V u w n (k+1)
theorem Mi.of {u:Nat->Value}:∀ {n k:Nat},(∀ j,k<=j->j < k+n->V j (u j) w)->Mi V u w n k
 | 0,_,_=>trivial
 | n+1,k,h=>⟨h k (aQm _) om,Mi.of fun j h1 I=>h j om om⟩
theorem Mi.at {u:Nat->Value}:∀ {n k:Nat},Mi V u w n k->∀ j,k<=j->j < k+n->V j (u j) w
 | 0,_,_,j,h1,I=>om
 | n+1,k,h,j,h1,I=>by
  by_cases e:j=k
  ·rw [e];exact h.1
  ·exact h.2.at j om om
theorem aoe (l:List Oper):∀ (T:Array Value) (u Mh:Nat->Value) (k:Nat),(∀ j,k<=j->j < k+l.length->u j=Mh j)->ow T l u k=ow T l Mh k:=by
 induction l with
 | nil=>intros;rfl
 | cons o r I =>
  intro T u Mh k h;simp only [ow,h k (Nat.le_refl _) (by simp only [List.length_cons];omega)];exact I _ u Mh (k+1) (fun j aD J=>h j om (by simp only [List.length_cons];omega))
def iY (za:List (Option Value)) (X:Nat->Value->World->Prop) (j:Nat) (v:Value) (w:aRB):Prop :=
 match za.getD j none with
 | some u=>v=u
 | none=>X j v w
theorem iY.keep {za:List (Option Value)} {X:Nat->Value->World->Prop} (aY:X j v w->X j v w') (h:iY za X j v w):iY za X j v w':=by
 unfold iY at *;split at h
 ·exact h
 ·exact aY h
section
variable {id:Nat} {n:Nat} {EE:(Nat->Value)->Array Value} {Tp:Array Value} {r:List Oper}
theorem Tq (n:Nat) (V:Nat->Value->World->Prop) (M:(Nat->Bool)->(Nat->Value)->World->Prop) (Ext:World->World->Prop) (tT:∀ u,M (fun _=>false) u w.drew) (eD:∀ j v w w',Ext w w'->V j v w->V j v w')
  (Ki:∀ (u:Nat->Value) (w:aRB),M (fun j=>decide (j < n)) u w->Mi V u w n 0->wpList P l.toArray Q r ⟨EE u,D⟩ w)
  (bY:∀ u,ow T (l.take n) u 0=EE u:=by (intro u;simp only [ow,List.take_succ_cons,List.take_zero,List.setIfInBounds_toArray,List.set_cons_succ,List.set_cons_zero,Nat.reduceAdd];exact rfl))
  (av:l.drop n=r:=by (simp only [List.drop_succ_cons,List.drop_zero,List.drop_nil];exact rfl))
  (hm:P.follows .mixedOrders=true:=by kernel_rfl) (bg:Tk l.toArray n=true:=by kernel_rfl) (aT:Kh (l.take n)=true:=by kernel_rfl)
  (jJ:FK (fun i o=>∀ (eH:Array Value) (u:Nat->Value) (w:aRB) (L:Nat->Bool),M L u w->L i=false->(∀ j k,L j=true->VS l j k=true->L k=true)->(∀ d:Nat,eH[d]?=(EE u)[d]?)->(∀ e∈o.after,Region.binds .any e=true->L e.on=true/\V e.on (u e.on) w) ->
   ∀ K:Act->World->Prop,(∀ v w',V i v w'->M (oM L i true) (oM u i v) w'->Ext w w'->K ((⟨eH,D⟩:Act).put o.dst v) w') ->
   if Region.wanted o (yielded l.toArray eH)=true then Oper.wp P o ⟨eH,D⟩ w K Q else K ((⟨eH,D⟩:Act).put o.dst undef) w) (l.take n) 0) :
  (Code.region id l.toArray true).wp P Q ⟨T,D⟩ w:=by
 refine wp_region_any hm (aoa (V:=V) (M:=M) n bg aT tT eD (fun i o J Y u w L h1 I A7 _ AA=>?_) fun u w h1 I=>?_)
 ·rw [bY];exact an8 jJ i o J Y _ u w L h1 I A7 (fun _=>rfl) fun e he ae=>(AA e he ae).2
 ·rw [bY,av];exact Ki u w h1 (Mi.of fun j _ h=>I j om)
theorem cZ (n:Nat) (V:Nat->Value->World->Prop) (M:World->Prop) (Ext:World->World->Prop) (tT:M w.drew) (eD:∀ j v w w',Ext w w'->V j v w->V j v w')
  (Ki:∀ (u:Nat->Value) (w:aRB),M w->Mi V u w n 0->wpList P l.toArray Q r ⟨EE u,D⟩ w)
  (bY:∀ u,ow T (l.take n) u 0=EE u:=by (intro u;simp only [ow,List.take_succ_cons,List.take_zero,List.setIfInBounds_toArray,List.set_cons_succ,List.set_cons_zero,Nat.reduceAdd];exact rfl))
  (av:l.drop n=r:=by (simp only [List.drop_succ_cons,List.drop_zero,List.drop_nil];exact rfl))
  (bg:Tk l.toArray n=true:=by kernel_rfl) (aT:Kh (l.take n)=true:=by kernel_rfl)
  (jJ:FK (fun i o=>∀ (eH:Array Value) (u:Nat->Value) (w:aRB),M w->(∀ d:Nat,eH[d]?=(EE u)[d]?)->(∀ e∈o.after,Region.binds .any e=true->V e.on (u e.on) w) ->
   ∀ K:Act->World->Prop,(∀ v w',V i v w'->M w'->Ext w w'->K ((⟨eH,D⟩:Act).put o.dst v) w') ->
   if Region.wanted o (yielded l.toArray eH)=true then Oper.wp P o ⟨eH,D⟩ w K Q else K ((⟨eH,D⟩:Act).put o.dst undef) w) (l.take n) 0):wpAny P .any l.toArray Q l.toArray.size (Array.replicate l.toArray.size false) ⟨T,D⟩ w.drew:=by
 refine aoa (V:=V) (M:=fun _ _=>M) n bg aT (fun _=>tT) eD (fun i o J Y u w L h1 _ _ _ A7 K I=>?_) fun u w h1 AA=>?_
 ·rw [bY] at I |-;exact an8 jJ i o J Y _ u w h1 (fun _=>rfl) (fun e he ae=>(A7 e he ae).2.2) K I
 ·rw [bY,av];exact Ki u w h1 (Mi.of fun j _ h=>AA j om)
theorem nE {id:Nat} {l:List Oper} {T:Array Value} {D:List Deferred} (h:wpAny prog .any l.toArray Q l.toArray.size (Array.replicate l.toArray.size false) ⟨T,D⟩ w.drew):(Code.region id l.toArray true).wp prog Q ⟨T,D⟩ w:=wp_region_any kr h
theorem rx {A:Prop} (h:A:=by (
   intro eH u af aj aK bz K aS;try simp [iY,Region.binds] at bz
   first | refine mf rfl ?_ | simp [Region.wanted,yielded,aK,bz] | simp [Region.wanted,yielded] | skip
   try have ah:=kE.o af aj
   first | (go_simp;first | exact aS _ _ rfl aj | exact aS _ _ rfl aj (Below.refl _ _) | exact aS _ _ rfl aj (oN.refl _) | exact aS _ _ rfl aj trivial | exact aS _ _ rfl aj (.inl (Below.refl _ _)) | exact aS _ _ rfl aj (.below aj (Below.refl _ _))) | exact aS _ _ rfl aj | exact aS _ _ rfl aj (Below.refl _ _) | exact aS _ _ rfl aj (oN.refl _) | exact aS _ _ rfl aj trivial | exact aS _ _ rfl aj (.below aj (Below.refl _ _)) | (go_simp;refine (FL.o af aj).mono ?_;rintro e aC ⟨rfl,ae⟩;exact aS _ _ rfl ae))):A:=h
theorem rs {A Q:Prop} (k:Q) (h:y8 Q->A:=by (
   intro gW eH u af aj aK bz K aS;try simp [iY,Region.binds] at bz
   first | refine mf rfl ?_ | simp [Region.wanted,yielded,aK,bz] | simp [Region.wanted,yielded] | skip
   revert bz;intro bz;revert eH u af aj aK K aS bz;exact gW.o)):A:=h (aa k)
theorem qE (n:Nat) (za:aRD) (M:World->Prop) (tT:M w.drew)
  (Ki:∀ af,M af->wpList P l.toArray Q r ⟨Tp,D⟩ af)
  (bY:∀ u,ow T (l.take n) u 0=EE u:=by (intro u;simp only [ow,List.take_succ_cons,List.take_zero,List.setIfInBounds_toArray,List.set_cons_succ,List.set_cons_zero,Nat.reduceAdd];exact rfl))
  (YD:EE (fun j=>za.getD j undef)=Tp:=by (simp only [List.getD_cons_zero,List.getD_cons_succ];exact rfl))
  (av:l.drop n=r:=by (simp only [List.drop_succ_cons,List.drop_zero,List.drop_nil];exact rfl))
  (hm:P.follows .mixedOrders=true:=by kernel_rfl) (bg:Tk l.toArray n=true:=by kernel_rfl) (aT:Kh (l.take n)=true:=by kernel_rfl)
  (jJ:FK (fun i o=>∀ (eH:Array Value) (u:Nat->Value) (af:aRB),M af->(∀ d:Nat,eH[d]?=(EE u)[d]?)->(∀ e∈o.after,Region.binds .any e=true->u e.on=za.getD e.on undef) ->
   ∀ K:Act->World->Prop,(∀ v w',v=za.getD i undef->M w'->K ((⟨eH,D⟩:Act).put o.dst v) w') ->
   if Region.wanted o (yielded l.toArray eH)=true then Oper.wp P o ⟨eH,D⟩ af K Q else K ((⟨eH,D⟩:Act).put o.dst undef) af) (l.take n) 0:=by (
    repeat' (first | exact trivial | apply And.intro)
    all_goals exact rx)) :
  (Code.region id l.toArray true).wp P Q ⟨T,D⟩ w:=by
 refine wp_region_any hm (cZ n (fun j v _=>v=za.getD j undef) M (fun _ _=>True) tT (fun j v w1 af _ J=>J) (fun u af h1 I=>?_) bY av bg aT ?_)
 ·rw [<- bY,aoe _ _ _ _ _ fun j _ aD=>I.at j om (by rw [List.length_take] at aD;omega),bY,YD];exact Ki af h1
 ·exact jJ.imp fun i o h eH u af h1 I Y K aS=>h eH u af h1 I Y K fun v w' A7 AA=>aS v w' A7 AA trivial
theorem Kj (n:Nat) (za:aRD)
  (Ki:∀ af,Bl w af->wpList P l.toArray Q r ⟨Tp,D⟩ af)
  (bY:∀ u,ow T (l.take n) u 0=EE u:=by (intro u;simp only [ow,List.take_succ_cons,List.take_zero,List.setIfInBounds_toArray,List.set_cons_succ,List.set_cons_zero,Nat.reduceAdd];exact rfl))
  (YD:EE (fun j=>za.getD j undef)=Tp:=by (simp only [List.getD_cons_zero,List.getD_cons_succ];exact rfl))
  (av:l.drop n=r:=by (simp only [List.drop_succ_cons,List.drop_zero,List.drop_nil];exact rfl))
  (hm:P.follows .mixedOrders=true:=by kernel_rfl) (bg:Tk l.toArray n=true:=by kernel_rfl) (aT:Kh (l.take n)=true:=by kernel_rfl)
  (jJ:FK (fun i o=>∀ (eH:Array Value) (u:Nat->Value) (af:aRB),Bl w af->(∀ d:Nat,eH[d]?=(EE u)[d]?)->(∀ e∈o.after,Region.binds .any e=true->u e.on=za.getD e.on undef) ->
   ∀ K:Act->World->Prop,(∀ v w',v=za.getD i undef->Bl w w'->K ((⟨eH,D⟩:Act).put o.dst v) w') ->
   if Region.wanted o (yielded l.toArray eH)=true then Oper.wp P o ⟨eH,D⟩ af K Q else K ((⟨eH,D⟩:Act).put o.dst undef) af) (l.take n) 0:=by (
    repeat' (first | exact trivial | apply And.intro)
    all_goals exact rx)) :
  (Code.region id l.toArray true).wp P Q ⟨T,D⟩ w:=qE n za (Bl w) (Below.refl _ _).drew Ki bY YD av hm bg aT jJ
theorem ng {G:Prop} {Tp:(Nat->Value)->Array Value} (wF:wpAny P .any l.toArray Q l.toArray.size (Array.replicate l.toArray.size false) ⟨T,D⟩ w.drew->G) (n:Nat) (za:List (Option Value)) (X:Nat->Value->World->Prop) (M:World->Prop) (Ext:World->World->Prop) (tT:M w.drew) (aY:∀ j v w w',Ext w w'->X j v w->X j v w')
  (Ki:∀ (u:Nat->Value) (af:aRB),M af->(∀ j,j < n->iY za X j (u j) af)->wpList P l.toArray Q r ⟨Tp u,D⟩ af)
  (bY:∀ u,ow T (l.take n) u 0=EE u:=by (intro u;simp only [ow,List.take_succ_cons,List.take_zero,List.setIfInBounds_toArray,List.set_cons_succ,List.set_cons_zero,Nat.reduceAdd];exact rfl))
  (YD:∀ u,EE (fun j=>(za.getD j none).getD (u j))=Tp u:=by (intro u;simp only [List.getD_cons_zero,List.getD_cons_succ,Option.getD_some,Option.getD_none];exact rfl))
  (av:l.drop n=r:=by (simp only [List.drop_succ_cons,List.drop_zero,List.drop_nil];exact rfl))
  (bg:Tk l.toArray n=true:=by kernel_rfl) (aT:Kh (l.take n)=true:=by kernel_rfl)
  (jJ:FK (fun i o=>∀ (eH:Array Value) (u:Nat->Value) (w:aRB),M w->(∀ d:Nat,eH[d]?=(EE u)[d]?)->(∀ e∈o.after,Region.binds .any e=true->iY za X e.on (u e.on) w) ->
   ∀ K:Act->World->Prop,(∀ v w',iY za X i v w'->M w'->Ext w w'->K ((⟨eH,D⟩:Act).put o.dst v) w') ->
   if Region.wanted o (yielded l.toArray eH)=true then Oper.wp P o ⟨eH,D⟩ w K Q else K ((⟨eH,D⟩:Act).put o.dst undef) w) (l.take n) 0):G:=by
 refine wF (cZ n (iY za X) M Ext tT (fun j v w1 af he J=>J.keep (aY j v w1 af he)) (fun u af h1 I=>?_) bY av bg aT jJ);have Y:=fun j (_:0<=j) (aD:j < 0+(l.take n).length)=>show u j=(za.getD j none).getD (u j) from by
  have h:=I.at j om (by rw [List.length_take] at aD;omega);unfold iY at h;split at h
  ·rename_i e;rw [e];exact h
  ·rename_i e;rw [e];rfl
 rw [<- bY,aoe _ _ _ _ _ Y,bY,YD];exact Ki u af h1 fun j aD=>I.at j om om
end
end
end
section
open Go.RowKit
def bO (l:aRH):List Value:=l.map fun b=>.int .u8 b.toNat
theorem xf (l:aRH):(bO l).length=l.length:=by simp [bO]
theorem ahe (l m:aRH):bO (l++m)=bO l++bO m:=by simp [bO]
theorem aof (l:aRH) (k:Nat):bO (l.drop k)=(bO l).drop k:=by simp [bO,List.map_drop]
theorem Tt (l:aRH) (h:j < l.length):(bO l)[j]?=some (.int .u8 (l.getD j 0).toNat):=by rw [bO,List.getElem?_map,List.getElem?_eq_getElem h,List.getD_eq_getElem?_getD,List.getElem?_eq_getElem h];rfl
theorem G8 (l:aRH):∀ v∈bO l,v.oneCell'=true:=by intro v I;obtain⟨x,_,rfl⟩:=aQv.1 I;rfl
theorem aog (l:aRH) (b:UInt8):bO l++[.int .u8 b.toNat]=bO (l++[b]):=by simp [bO]
theorem Rd.one (w:aRB) (v:Value) (t:TypeId):Rd (w.alloc (.cells #[v] t)) 1 (some ⟨w.heap.size,0,none⟩) 1 [v]:=Rd.acH w #[v] t 1 1 dc rfl
theorem acN {k:IntKind} {x:Int}:∀ v∈[Value.int k x],v.oneCell'=true:=by simp [Value.oneCell']
theorem wG (s:ByteArray):s.data.toList.length=s.size:=by rw [Array.length_toList];rfl
theorem aoh {W:aRB} (M:World->Prop) (h:M W) (k:∀ w1,M w1->wpList P ops Q rest a w1):wpList P ops Q rest a W:=k W h
section
variable {P:Program} {w:aRB}
theorem ayJ (src dst e:TypeId) (base:Nat) (s:ByteArray) (hs:P.underlying src=some .string) (aT:P.underlying dst=some (.slice e)) (he:P.underlying e=some (.int .u8)) (sj:base<=w.heap.size) (YE:s.size<=maxLen) :
  ∃ A c w',(convert src dst (.string s)).run P w = .ok (.slice A s.size c) w'/\Own w' base e 1 A s.size c (bO s.data.toList)/\Bl w w'/\bV A=some w.heap.size:=by
 have I:=grownCap_ge w s.size 0 e;have hle:=grownCap_le_maxLen w s.size 0 e YE;have J:(bytesRow s (grownCap w s.size 0 e)).size=grownCap w s.size 0 e:=by simp only [bytesRow,Array.size_append,Array.size_map,Array.size_replicate];have:s.data.size=s.size:=rfl;omega
 refine⟨_,_,_,run_bytes_of_string w src dst e s hs aT he,⟨by rw [xf,wG,Nat.mul_one],I,hle,.inr ⟨w.heap.size,0,_,_,rfl,sj,aQz w.drew _,.inr rfl,by rw [J];omega,fun j aD=>?_⟩⟩,(Below.refl _ _).drew.alloc (aQm _) _,rfl⟩;rw [Nat.zero_add];have M:j < s.data.size:=by have:s.data.size=s.size:=rfl;omega
 rw [bytesRow,Array.getElem?_append_left (by rw [Array.size_map];exact M),Array.getElem?_map,bO,List.getElem?_map];simp
theorem aoi {src Tu gP:TypeId} {pos:String}
  (e:TypeId) (base:Nat) (s:ByteArray) (hs:P.underlying src=some .string) (aT:P.underlying Tu=some (.slice e)) (he:P.underlying e=some (.int .u8)) (sj:base<=w.heap.size) (YE:s.size<=maxLen)
  (ah:a.eval x = .string s)
  (h:∀ A c w',Own w' base e 1 A s.size c (bO s.data.toList)->Bl w w'->bV A=some w.heap.size->wpList P ops Q rest (a.put dst (.slice A s.size c)) w') :
  wpList P ops Q (⟨dst,.convert src Tu x,gP,pos,after,none⟩ :: rest) a w:=by
 refine aQM rfl fun K I=>?_;obtain⟨A,c,w',J,h1,M,Y⟩:=ayJ (P:=P) (w:=w) src Tu e base s hs aT he sj YE;unfold Oper.wp execOp;simp only [ah,Sem.run_bind,J,Result.andThen_ok];exact I _ _ (h A c w' h1 M Y)
theorem ayK (src dst e:TypeId) (A:aRC) (c:Nat) (l:aRH) (hs:P.underlying src=some (.slice e)) (he:P.underlying e=some (.int .u8)) (aT:P.underlying dst=some .string) (av:Rd w 1 A l.length (bO l)) :
  (convert src dst (.slice A l.length c)).run P w = .ok (.string ⟨l.toArray⟩) w:=by
 rcases aQH l.length with I | I
 ·have:l=[]:=aQC I;subst this;show (convert src dst (.slice A 0 c)).run P w=_;rw [run_convert_bytes_string w src dst e A 0 c hs he aT];cases A <;> simp [Conv.bytesToString,loadCells,loadCellsFrom] <;> rfl
 ·obtain⟨b,o,rfl,ah⟩:=av.2 I;refine run_convert_bytes_back w src dst e ⟨b,o,none⟩ c l hs he aT (fun j aD=>?_);rw [DI];refine ah j _ ?_;rw [bO,List.getElem?_map,List.getElem?_eq_getElem aD];rfl
theorem acO {src Tu gP:TypeId} {pos:String}
  (e:TypeId) (A:aRC) (n c:Nat) (l:aRH) (hs:P.underlying src=some (.slice e)) (he:P.underlying e=some (.int .u8)) (aT:P.underlying Tu=some .string) (aB:l.length=n) (av:Rd w 1 A n (bO l))
  (ah:a.eval x = .slice A n c) (h:wpList P ops Q rest (a.put dst (.string ⟨l.toArray⟩)) w) :
  wpList P ops Q (⟨dst,.convert src Tu x,gP,pos,after,none⟩ :: rest) a w:=by
 refine aQM rfl fun K I=>?_;subst aB;have av:=ayK (P:=P) (w:=w) src Tu e A c l hs he aT av;unfold Oper.wp execOp;simp only [ah,Sem.run_bind,av,Result.andThen_ok];exact I _ _ h
end
end
section
open Go.RowKit
theorem acP (a b:ByteArray):(a++b).data.toList=a.data.toList++b.data.toList:=by simp
theorem YF {a b:ByteArray} (h:a.data.toList=b.data.toList):a=b:=by cases a;cases b;simp only [ByteArray.mk.injEq];exact Array.toList_inj.1 h
def az (l:aRH):ByteArray:=⟨l.toArray⟩
theorem gU (l:aRH):(az l).data.toList=l:=by simp [az]
theorem iM (l:aRH):(az l).size=l.length:=by show l.toArray.size=_;simp
theorem YG (s:ByteArray):az s.data.toList=s:=by cases s;simp [az]
theorem aoj {s:ByteArray} (h:s.data.toList=l):s=az l:=by rw [<- h,YG]
theorem YH (a b:aRH):az a++az b=az (a++b):=YF (by rw [acP,gU,gU,gU])
theorem Od (s:ByteArray) (a b:Nat):(s.extract a b).data.toList=(s.data.toList.drop a).take (b - a):=by rw [ByteArray.data_extract,Array.toList_extract,List.extract_eq_take_drop]
def cu (l:List (List UInt8)):List Value:=l.map fun r=>.string (az r)
theorem aok (l:List (List UInt8)):(cu l).length=l.length:=by simp [cu]
theorem aol (l:List (List UInt8)) (r:aRH):cu l++[.string (az r)]=cu (l++[r]):=by simp [cu]
theorem ayL {s:ByteArray}:∀ v∈[Value.string s],v.oneCell'=true:=by simp [Value.oneCell']
theorem ahf:(prog.info? 9).map (fun i=>(i.zero,i.size,i.bytes))=some (some (.string ⟨#[]⟩),1,16):=kr
end
section
def vg:List UInt8->List (List UInt8)
 | []=>[[]]
 | c :: l=>if c=47 then [] :: vg l else (c :: (vg l).headD []) :: (vg l).tail
theorem ayM (l:aRH):∃ p r,vg l=p :: r:=by
 cases l with
 | nil=>exact⟨_,_,rfl⟩
 | cons c l =>
  unfold vg;split
  ·exact⟨_,_,rfl⟩
  ·exact⟨_,_,rfl⟩
theorem ahg (l:aRH):vg (47 :: l)=[] :: vg l:=by rw [vg,if_pos rfl]
theorem ahh {c:UInt8} {p:aRH} {r:List (List UInt8)} (hc:c≠47) (h:vg l=p :: r):vg (c :: l)=(c :: p) :: r:=by rw [vg,if_neg hc,h];rfl
theorem aom:∀ a b:List UInt8,vg (a++47 :: b)=vg a++vg b
 | [],b=>by rw [List.nil_append,ahg];rfl
 | c :: a,b=>by
  have I:=aom a b;by_cases hc:c=47
  ·subst hc;rw [List.cons_append,ahg,ahg,I];rfl
  ·obtain⟨p,r,h⟩:=ayM a;rw [h,List.cons_append] at I;rw [List.cons_append,ahh hc I,ahh hc h];rfl
theorem ahi:∀ {l:aRH},47 ∉ l->vg l=[l]
 | [],_=>rfl
 | c :: l,h=>by
  have hc:c≠47:=fun e=>h (by simp [e]);exact ahh hc (ahi (fun e=>h (aQQ _ e)))
def Mj (c:UInt8):Bool:=(decide (97<=c.toNat) && decide (c.toNat<=122)) || (decide (65<=c.toNat) && decide (c.toNat<=90)) || (decide (48<=c.toNat) && decide (c.toNat<=57)) || decide (c.toNat=95) || decide (c.toNat=46) || decide (c.toNat=45) || decide (c.toNat=43)
def DJ (p:aRH):Bool:=!p.isEmpty && decide (p.length<=64) && !(p == [46]) && !(p == [46,46]) && p.all Mj
def eF (l:aRH):Bool:=(vg l).all DJ && decide ((vg l).length<=16)
def yA (l d:aRH):Bool:=eF l && (d.isEmpty || (eF d && (d++[47]).isPrefixOf l))
theorem ayN (h:eF l=true):yA l []=true:=by simp [yA,h]
theorem ayO {d:aRH} (h:eF l=false):yA l d=false:=by simp [yA,h]
abbrev ak:=List UInt8
def jg (p:UInt8->Bool):ak->List ak
 | []=>[[]]
 | c :: s=>if p c then [] :: jg p s else match jg p s with
  | []=>[[c]]
  | x :: r=>(c :: x) :: r
def qo (c:UInt8):Bool:=c == 32 || c == 9
def nR (s:ak):List ak:=(jg qo s).filter fun x=>!x.isEmpty
def jP (s:ak):List ak:=if s=[] then [] else if s.getLast?=some 10 then jg (· == 10) s.dropLast else jg (· == 10) s
theorem YI (p:UInt8->Bool):∀ s:ak,jg p s≠[]
 | []=>by simp [jg]
 | c :: s=>by
  rw [jg];split
  ·simp
  ·split <;> simp
theorem VU (p:UInt8->Bool) (c:UInt8) (s:ak):∃ x r,jg p s=x :: r/\jg p (c :: s)=if p c then [] :: x :: r else (c :: x) :: r:=by
 cases h:jg p s with
 | nil=>exact absurd h (YI p s)
 | cons x r =>
  refine⟨x,r,rfl,?_⟩;rw [jg,h]
theorem aon:∀ {s:ak},(∀ c∈s,p c=false)->jg p s=[s]
 | [],_=>rfl
 | c :: s,h=>by
  have h1:=h c sp;have I:=aon (s:=s) fun d J=>h d (by simp [J]);rw [jg,h1,I];rfl
theorem aoo {c:UInt8} (hc:p c=true) (b:ak):∀ {a:ak},(∀ d∈a,p d=false)->jg p (a++c :: b)=a :: jg p b
 | [],_=>by rw [List.nil_append,jg,hc];rfl
 | d :: a,h=>by
  have h1:=h d sp;have I:=aoo hc b (a:=a) fun e he=>h e (by simp [he]);rw [List.cons_append,jg,h1,I];rfl
theorem YJ:∀ {s:ak} {x:ak},x∈jg p s->∀ c∈x,p c=false
 | [],x,h,c,hc=>by
  rw [jg,List.mem_singleton] at h;subst h;cases hc
 | d :: s,x,h,c,hc=>by
  obtain⟨y,r,h1,I⟩:=VU p d s;rw [I] at h;split at h
  ·rcases aQw.1 h with rfl | h
   ·cases hc
   ·exact YJ (s:=s) (by rw [h1];exact h) c hc
  ·rename_i J;rcases aQw.1 h with rfl | h
   ·rcases aQw.1 hc with rfl | hc
    ·simpa using J
    ·exact YJ (s:=s) (x:=y) (by rw [h1];simp) c hc
   ·exact YJ (s:=s) (by rw [h1];simp [h]) c hc
theorem Tv (p:UInt8->Bool):∀ s:ak,(jg p s).length<=s.length+1
 | []=>by simp [jg]
 | c :: s=>by
  obtain⟨y,r,h1,J⟩:=VU p c s;have I:=Tv p s;rw [h1] at I;rw [J];split <;> simp at I |- <;> omega
theorem YK (p:UInt8->Bool):∀ {s x:ak},x∈jg p s->x.length<=s.length
 | [],x,h=>by
  rw [jg,List.mem_singleton] at h;subst h;simp
 | c :: s,x,h=>by
  obtain⟨y,r,h1,J⟩:=VU p c s;rw [J] at h;have I:∀ z∈y :: r,z.length<=s.length:=fun z M=>YK p (by rw [h1];exact M);split at h
  ·rcases aQw.1 h with rfl | h
   ·simp
   ·have:=I x h;simp;omega
  ·rcases aQw.1 h with rfl | h
   ·have:=I y sp;simp;omega
   ·have:=I x (by simp [h]);simp;omega
theorem ayP:jP []=[]:=rfl
theorem QH (s:ak):(jP s).length<=s.length+1:=by
 rw [jP];split
 ·simp
 ·split
  ·have:=Tv (· == 10) s.dropLast;rw [List.length_dropLast] at this;omega
  ·exact Tv _ s
theorem Tw {s x:ak} (h:x∈jP s):x.length<=s.length:=by
 rw [jP] at h;split at h
 ·cases h
 ·split at h
  ·have:=YK _ h;rw [List.length_dropLast] at this;omega
  ·exact YK _ h
theorem ayQ:nR []=[]:=rfl
theorem aop {c:UInt8} (h:qo c=true) (s:ak):nR (c :: s)=nR s:=by rw [nR,nR,jg,h];rfl
theorem aoq {a:ak} (aX:a≠[]) (h:∀ c∈a,qo c=false):nR a=[a]:=by rw [nR,aon h];simp [aX]
theorem aor {a:ak} (aX:a≠[]) (h:∀ c∈a,qo c=false) {c:UInt8} (hc:qo c=true) (b:ak):nR (a++c :: b)=a :: nR b:=by rw [nR,aoo hc b h,List.filter_cons];simp [aX,nR]
theorem YL {s x:ak} (h:x∈nR s):x≠[]/\(∀ c∈x,qo c=false)/\x.length<=s.length:=by rw [nR,List.mem_filter] at h;exact⟨by simpa using h.2,YJ h.1,YK _ h.1⟩
theorem aos (s:ak):(nR s).length<=s.length+1:=aQn (aQ0 _ _) (Tv _ s)
def acQ (c:UInt8):Bool:=eF [97,c,97] && !(c == 47)
def Kk (s:aRH) (k:Nat) (c:UInt8):Bool:=(!acQ c && !(c == 63) && !(c == 42)) || ([42,42]:aRH).isPrefixOf (s.drop k)
def QI (s:aRH) (n:Nat):Bool:=(List.range n).any fun k=>Kk s k (s.getD k 0)
def YM (s:aRH):Bool:=decide (1<=s.length) && decide (s.length<=64) && !(s == [46]) && !(s == [46,46])
def EF (s:aRH):Bool:=if s=[42,42] then true else if QI s s.length=true then false else YM s
def G9 (s:aRH):Bool:=decide ((jg (· == 47) s).length<=16) && !((jg (· == 47) s).any fun x=>!EF x)
theorem ayR (s:aRH) (k:Nat):QI s (k+1)=(QI s k || Kk s k (s.getD k 0)):=by unfold QI;rw [List.range_succ,List.any_append];simp
theorem ayS (hk:k < s.length) (h:Kk s k (s.getD k 0)=true):QI s s.length=true:=by unfold QI;exact aRq.2 ⟨k,by simpa using hk,h⟩
theorem ayT (h:s=[42,42]):EF s=true:=by rw [EF,if_pos h]
theorem acR (h:s≠[42,42]) (hk:k < s.length) (ae:Kk s k (s.getD k 0)=true):EF s=false:=by rw [EF,if_neg h,if_pos (ayS hk ae)]
theorem ayU (h:s≠[42,42]) (ae:QI s s.length=false):EF s=YM s:=by rw [EF,if_neg h,ae];rfl
end
section
open Go.RowKit
section
variable {w:aRB} {base n c:Nat} {t:TypeId} {A:aRC} {xs:aRD}
theorem Own.spot (h:Own w base t 1 A n c xs) (aD:j < n):∃ b o u,A=some ⟨b,o,none⟩/\base<=b/\b < w.heap.size/\xs[j]?=some u/\w.cell? (ad b (o+j))=some u/\w.frozen? ⟨b,o+j,none⟩=false /\
  ∀ v,Own (w.setCell ⟨b,o+j,none⟩ v) base t 1 A n c (xs.set j v):=by
 have hl:=h.1;have M:=h.2.1;have hm:=h.2.2.1;obtain⟨b,o,cur,bf,rfl,ae,ax,hf,hs,ah⟩:=h.at_ om;have I:o+j < cur.size:=om;have Y:j < xs.length:=om;refine⟨b,o,xs[j],rfl,ae,ic ax,aQp Y,?_,hf.cell ax I,fun v=>?_⟩
 ·rw [cell_of_row w b _ cur t _ ax,ah j om,List.getElem?_eq_getElem]
 ·rw [setCell_eq_setRow w b (o+j) cur t bf v ax];refine⟨by rw [List.length_set];exact hl,M,hm,.inr ⟨b,o,cur.setIfInBounds (o+j) v,bf,rfl,ae,aQB w b cur _ t _ ax,by rw [Array.size_setIfInBounds];exact hf,by rw [Array.size_setIfInBounds];exact hs,fun i A7=>?_⟩⟩;rw [Array.getElem?_setIfInBounds,List.getElem?_set];by_cases J:j=i
  ·subst J;have:j < xs.length:=om;simp [I,this]
  ·rw [if_neg om,if_neg J,ah i om]
end
end
section
open Go.ChangeMaps Go.MapKept Go.Maps Go.RowKit Go.WideAt Go.WideMaps
section
variable {α:Type} {enc:α->Value}
open Classical in
noncomputable def Oe (enc:α->Value) (v:Value):Option (DataW α × List MemPlace):=if h:∃ a,v=enc a then some (.held (Classical.choose h),[]) else none
theorem Kl (wH:∀ a b,enc a=enc b->a=b) (a:α):Oe enc (enc a)=some (.held a,[]):=by have h:∃ b,enc a=enc b:=⟨a,rfl⟩;unfold Oe;rw [dif_pos h,<- wH _ _ (Classical.choose_spec h)]
theorem Tx {d:DataW α} {ps:List MemPlace} (h:Oe enc v=some (d,ps)):∃ a,v=enc a/\d = .held a:=by
 unfold Oe at h;split at h
 ·rename_i ah;simp only [Option.some.injEq,Prod.mk.injEq] at h;exact⟨_,aRA ah,h.1.symm⟩
 ·cases h
abbrev fu (α:Type):=List (List UInt8 × α)
def mapD (M:fu α):DataW α:=.map (M.map fun p=>(.string p.1,.held p.2))
def getM (M:fu α) (k:aRH):Option α:=(M.find? (fun p=>p.1 == k)).map (·.2)
def zb (x:List UInt8 × α):fu α->fu α
 | []=>[x]
 | y :: r=>if bytesBefore x.1 y.1 then x :: y :: r else y :: zb x r
def I4 (M:fu α) (k:aRH):fu α:=M.filter fun p=>!(p.1 == k)
def oz (M:fu α) (k:aRH) (a:α):fu α:=zb (k,a) (I4 M k)
def Ha (M:fu α):Prop:=M.Pairwise fun p q=>bytesBefore p.1 q.1=true
theorem aou (x:List UInt8 × α):∀ M:fu α,DataW.insert (.string x.1,.held x.2) (M.map fun p=>((.string p.1:Lit),(.held p.2:DataW α)))=(zb x M).map fun p=>(.string p.1,.held p.2)
 | []=>rfl
 | y :: r=>by
  have I:=aou x r;rw [List.map_cons];unfold DataW.insert zb;by_cases h:bytesBefore x.1 y.1=true
  ·rw [if_pos (show (Lit.string x.1).before (Lit.string y.1)=true from h),if_pos h];rfl
  ·rw [if_neg (show ¬ (Lit.string x.1).before (Lit.string y.1)=true from h),if_neg h,List.map_cons,I]
theorem ayV (M:fu α) (k:aRH):((M.map fun p=>((.string p.1:Lit),(.held p.2:DataW α))).filter fun p=>!p.1.sameKey (.string k))=(I4 M k).map fun p=>(.string p.1,.held p.2):=by unfold I4;rw [List.filter_map];rfl
theorem ahj (M:fu α) (k:aRH) (a:α):(mapD M).put (.string k) (.held a)=mapD (oz M k a):=by show DataW.map _=DataW.map _;rw [ayV];exact congrArg _ (aou (k,a) _)
theorem ahk (k:aRH):∀ M:fu α,(M.map fun p=>((.string p.1:Lit),(.held p.2:DataW α))).find? (fun p=>p.1.sameKey (.string k))=(M.find? (fun p=>p.1 == k)).map fun p=>(.string p.1,.held p.2)
 | []=>rfl
 | y :: r=>by
  have I:=ahk k r;simp only [List.map_cons,List.find?_cons,Lit.sameKey];cases h:(y.1 == k)
  ·exact I
  ·rfl
theorem aov {β:Type} (f:β->Bool):∀ l:List β,l.any f=(l.find? f).isSome
 | []=>rfl
 | x :: r=>by
  rw [List.any_cons,List.find?_cons,aov f r];cases f x <;> rfl
theorem aow (M:fu α) (k:aRH):has (mapD M) (.string k)=(getM M k).isSome:=by show List.any _ _=_;rw [aov,ahk,getM,Option.isSome_map,Option.isSome_map]
theorem YN (M:fu α) (k:aRH) (z:DataW α):(mapD M).atKey (.string k) z=match getM M k with | some a=>.held a | none=>z:=by unfold DataW.atKey mapD getM;simp only [ahk];cases M.find? (fun p=>p.1 == k) <;> rfl
theorem Ty (M:fu α):size (mapD M)=M.length:=by show List.length _=_;simp
theorem aox (M:fu α):strKeys (mapD M)=M.map (·.1):=by show List.map _ _=_;rw [List.map_map];rfl
def eQ (w:aRB) (P:Program) (k:TypeId) (enc:α->Value) (b n:Nat) (M:fu α):Prop:=w.ownsMap P k (Oe enc) b n (mapD M)
variable {w w':aRB} {P:Program} {k:TypeId} {b n:Nat} {M:fu α}
theorem eQ.A8 (h:eQ w P k enc b n M) (K:Keyed P k):Ha M:=by
 obtain⟨es,he,aL,_⟩:=World.ownsMap.canon h K;unfold mapD at he;injection he with he
 subst he;rw [List.pairwise_map] at aL;exact aL
theorem eQ.made (w:aRB) (P:Program) (k:TypeId) (enc:α->Value):eQ (w.alloc (.map #[] 0)) P k enc w.heap.size 0 ([]:fu α):=World.ownsMap_made w P k _
theorem eQ.lt (h:eQ w P k enc b n M):b < w.heap.size:=World.ownsMap.lt h
theorem eQ.keep (h:eQ w P k enc b n M) (ae:w'.heap[b]?=w.heap[b]?):eQ w' P k enc b n M:=by obtain⟨es,clock,I,F,hs,J⟩:=h;exact⟨es,clock,ae.trans I,F,hs,J⟩
theorem eQ.alloc (h:eQ w P k enc b n M) (o:Obj):eQ (w.alloc o) P k enc b n M:=h.keep (aQN w o _ h.lt)
theorem eQ.below (h:eQ w P k enc b n M) (ae:Below B w w') (bg:b < B):eQ w' P k enc b n M:=h.keep (ae.block _ bg)
theorem eQ.setCell (h:eQ w P k enc b n M) (p:Addr) (v:Value) (bJ:b≠p.block):eQ (w.setCell p v) P k enc b n M:=h.keep (aQE w p v b bJ)
end
section
variable {α:Type} {enc:α->Value} {w:aRB} {P:Program} {k t e:TypeId} {b n:Nat} {M:fu α}
theorem eQ.look_ok (h:eQ w P k enc b n M) (wH:∀ a b,enc a=enc b->a=b) (hk:P.underlying k=some .string) (aA:P.underlying t=some (.map k e)) (z0:α) (dB:(zeroValue e).run P w = .ok (enc z0) w) (s:ByteArray) (hs:s.size<=maxLen) :
  (Instr.lookup t (.map (some b)) (.string s) true).run P w = .ok (.tuple #[enc ((getM M s.data.toList).getD z0),.bool (getM M s.data.toList).isSome]) w:=by
 obtain⟨v,ps,J,Y⟩:=World.ownsMap.look_ok h (string_keyed hk) aA dB (Kl wH z0) (keyOf_string_mk hk hs);rw [aow] at J;rw [YN] at Y;obtain⟨a,rfl,I⟩:=Tx Y;rw [J];cases ax:getM M s.data.toList with
 | none=>rw [ax] at I;injection I with I;subst I;rfl
 | some x=>rw [ax] at I;injection I with I;subst I;rfl
theorem eQ.look (h:eQ w P k enc b n M) (wH:∀ a b,enc a=enc b->a=b) (hk:P.underlying k=some .string) (aA:P.underlying t=some (.map k e)) (z0:α) (dB:(zeroValue e).run P w = .ok (enc z0) w) (s:ByteArray) (hs:s.size<=maxLen) :
  (Instr.lookup t (.map (some b)) (.string s) false).run P w = .ok (enc ((getM M s.data.toList).getD z0)) w:=by
 obtain⟨v,ps,Y,J⟩:=aRr h (string_keyed hk) aA dB (Kl wH z0) (keyOf_string_mk hk hs);rw [YN] at J;obtain⟨a,rfl,I⟩:=Tx J;rw [Y];cases ax:getM M s.data.toList with
 | none=>rw [ax] at I;injection I with I;subst I;rfl
 | some x=>rw [ax] at I;injection I with I;subst I;rfl
def fU (b:Nat) (w w':aRB):Prop:=w'.os=w.os/\w'.tape=w.tape/\w'.output=w.output/\w'.heap.size=w.heap.size/\∀ k,k≠b->w'.heap[k]?=w.heap[k]?
theorem acS (h:w.mapTurned w' b):fU b w w':=by obtain⟨es,clock,I,J,ae,rfl⟩:=h;exact⟨rfl,rfl,rfl,by simp [setBlock],fun k hk=>heap_setBlock_other ae _ hk⟩
theorem eQ.update (h:eQ w P k enc b n M) (wH:∀ a b,enc a=enc b->a=b) (hk:P.underlying k=some .string) (aA:P.underlying t=some (.map k e)) (aB:n < maxLen) (s:ByteArray) (hs:s.size<=maxLen) (a:α) :
  ∃ w',(Instr.mapUpdate t (.map (some b)) (.string s) (enc a)).run P w = .ok () w'/\eQ w' P k enc b (n+1) (oz M s.data.toList a)/\fU b w w':=by
 obtain⟨w',I,h1,J⟩:=World.ownsMap.store h (string_keyed hk) aA aB (keyOf_string_mk hk hs) (Kl wH a);rw [ahj] at h1;exact⟨w',I,h1,acS J⟩
theorem YO {gP:TypeId} {m v:Operand} {pos:String}
  (h:eQ w P k enc b n M) (wH:∀ a b,enc a=enc b->a=b) (hk:P.underlying k=some .string) (aA:P.underlying t=some (.map k e)) (aB:n < maxLen) (s:ByteArray) (hs:s.size<=maxLen) (y:α)
  (ah:a.eval m = .map (some b)/\a.eval x = .string s/\a.eval v=enc y)
  (aS:∀ w',eQ w' P k enc b (n+1) (oz M s.data.toList y)->fU b w w'->wpList P ops Q rest (a.put dst undef) w') :
  wpList P ops Q (⟨dst,.mapUpdate t m x v,gP,pos,after,none⟩ :: rest) a w:=by
 refine aQM rfl fun A7 hK'=>?_;obtain⟨w',I,J,Y⟩:=h.update wH hk aA aB s hs y;unfold Oper.wp;simp [execOp,ah.1,ah.2.1,ah.2.2,I,Result.andThen];exact hK' _ _ (aS w' J Y)
end
theorem Og:∀ a b:List UInt8,bytesBefore a b=true ↔ a < b
 | [],[]=>by simp [bytesBefore]
 | [],_ :: _=>by simp [bytesBefore]
 | _ :: _,[]=>by simp [bytesBefore]
 | a :: r,b :: s=>by
  have I:=Og r s;rw [List.cons_lt_cons_iff,<- I];simp [bytesBefore]
theorem aoz {α:Type} {M:fu α} (h:Ha M) {CK:List (List UInt8)} (aL:CK.Perm (M.map (·.1))):CK.mergeSort (fun x y=>decide (x<=y))=M.map (·.1):=by rw [mergeSort_of_perm aL];refine List.mergeSort_of_pairwise (List.pairwise_map.2 (h.imp fun {p q} I=>?_));exact decide_eq_true (List.le_of_lt ((Og _ _).1 I))
end
section
theorem ayW (n:Int) (aX:0<=n) (h1:n<=31):bits BinOp.and IntKind.u64 n 31=n:=by
 obtain⟨k,rfl⟩:=Int.eq_ofNat_of_zero_le aX;have h:∀ k:Fin 32,bits BinOp.and IntKind.u64 (k.val:Int) 31=k.val:=by decide +kernel
 exact h ⟨k,om⟩
theorem ofInt_u32 (x:UInt32):BitVec.ofInt IntKind.u32.bits (x.toNat:Int)=x.toBitVec:=by
 show BitVec.ofInt 32 _=_;apply BitVec.eq_of_toNat_eq;rw [BitVec.toNat_ofInt];have h:=x.toNat_lt;have:((x.toNat:Int) % ((2 ^ 32:Nat):Int)).toNat=x.toNat:=by rw [Int.emod_eq_of_lt om (by simp;omega)];omega
 rw [this];rfl
theorem ahl (n:Nat) (h:n < 4294967296):IntKind.u32.wrap (n:Int)=n:=IntWalk.u32_in _ om
theorem aoA (x y:UInt32):bits BinOp.xor IntKind.u32 (x.toNat:Int) (y.toNat:Int)=((x ^^^ y).toNat:Int):=by unfold bits;simp only [ofInt_u32];exact ahl _ (x ^^^ y).toNat_lt
theorem ayX (x y:UInt32):bits BinOp.and IntKind.u32 (x.toNat:Int) (y.toNat:Int)=((x &&& y).toNat:Int):=by unfold bits;simp only [ofInt_u32];exact ahl _ (x &&& y).toNat_lt
theorem aoB (x y:UInt32):bits BinOp.or IntKind.u32 (x.toNat:Int) (y.toNat:Int)=((x ||| y).toNat:Int):=by unfold bits;simp only [ofInt_u32];exact ahl _ (x ||| y).toNat_lt
theorem ayY (x y:UInt32):((x.toNat:Int)+y.toNat) % 4294967296=((x+y).toNat:Int):=by rw [UInt32.toNat_add];omega
theorem aoC (x:UInt32) (n:Nat) (h:n < 32):(x.toNat:Int) * 2 ^ n % 4294967296=((x <<< UInt32.ofNat n).toNat:Int):=by rw [UInt32.toNat_shiftLeft,UInt32.toNat_ofNat_of_lt' (by show n < 4294967296;omega),Nat.mod_eq_of_lt h,Nat.shiftLeft_eq];simp
theorem ahm (x:UInt32) (n:Nat) (h:n < 32):(x.toNat:Int) / 2 ^ n=((x >>> UInt32.ofNat n).toNat:Int):=by rw [UInt32.toNat_shiftRight,UInt32.toNat_ofNat_of_lt' (by show n < 4294967296;omega),Nat.mod_eq_of_lt h,Nat.shiftRight_eq_div_pow];simp
def aoD (x y:UInt32):UInt32:=x+y
def ayZ (x y:UInt32):UInt32:=x ^^^ y
def ay0 (x y:UInt32):UInt32:=x &&& y
def Tz (x y:UInt32):UInt32:=x ||| y
def aoE (x:UInt32):UInt32 := ~~~x
def TA (x:UInt32) (n:UInt32):UInt32:=x <<< n
def aoF (x:UInt32) (n:UInt32):UInt32:=x >>> n
def ahn (x:UInt8):UInt32:=x.toUInt32
theorem aoG (x y:UInt32):((x.toNat:Int)+y.toNat) % 4294967296=((aoD x y).toNat:Int):=ayY x y
theorem aoH (x y:UInt32):bits BinOp.xor IntKind.u32 (x.toNat:Int) (y.toNat:Int)=((ayZ x y).toNat:Int):=aoA x y
theorem ay1 (x y:UInt32):bits BinOp.and IntKind.u32 (x.toNat:Int) (y.toNat:Int)=((ay0 x y).toNat:Int):=ayX x y
theorem aoI (x y:UInt32):bits BinOp.or IntKind.u32 (x.toNat:Int) (y.toNat:Int)=((Tz x y).toNat:Int):=aoB x y
theorem ay2 (x:UInt32):bits BinOp.xor IntKind.u32 4294967295 (x.toNat:Int)=((aoE x).toNat:Int):=by
 have h:(4294967295:Int)=((4294967295:UInt32).toNat:Int):=rfl;rw [h,aoA,aoE];have e:(4294967295:UInt32) ^^^ x = ~~~x:=by apply UInt32.toBitVec_inj.1;simp only [UInt32.toBitVec_xor,UInt32.toBitVec_not];exact BitVec.allOnes_xor
 rw [e]
theorem ay3:IntKind.u32.signed=false:=rfl
theorem ay4:IntKind.u32.max=4294967295:=dc
theorem aoJ (x:UInt32):(x.toNat:Int) * 256 % 4294967296=((TA x 8).toNat:Int):=aoC x 8 om
theorem ay5 (x:UInt32):(x.toNat:Int) / 8=((aoF x 3).toNat:Int):=ahm x 3 om
theorem ay6 (x:UInt32):(x.toNat:Int) / 1024=((aoF x 10).toNat:Int):=ahm x 10 om
theorem aoK (b:UInt8):(b.toNat:Int) % 4294967296=((ahn b).toNat:Int):=by have:=b.toNat_lt;rw [ahn,UInt8.toNat_toUInt32];omega
end
namespace bN
def I5 (x:UInt32) (n:UInt32):UInt32:=x >>> n ||| x <<< (32 - n)
def ay7 (x:UInt32):UInt32:=I5 x 7 ^^^ I5 x 18 ^^^ x >>> 3
def ay8 (x:UInt32):UInt32:=I5 x 17 ^^^ I5 x 19 ^^^ x >>> 10
def ay9 (x:UInt32):UInt32:=I5 x 2 ^^^ I5 x 13 ^^^ I5 x 22
def aza (x:UInt32):UInt32:=I5 x 6 ^^^ I5 x 11 ^^^ I5 x 25
def ks:List UInt32:=[
 0x428a2f98,0x71374491,0xb5c0fbcf,0xe9b5dba5,0x3956c25b,0x59f111f1,0x923f82a4,0xab1c5ed5,
 0xd807aa98,0x12835b01,0x243185be,0x550c7dc3,0x72be5d74,0x80deb1fe,0x9bdc06a7,0xc19bf174,
 0xe49b69c1,0xefbe4786,0x0fc19dc6,0x240ca1cc,0x2de92c6f,0x4a7484aa,0x5cb0a9dc,0x76f988da,
 0x983e5152,0xa831c66d,0xb00327c8,0xbf597fc7,0xc6e00bf3,0xd5a79147,0x06ca6351,0x14292967,
 0x27b70a85,0x2e1b2138,0x4d2c6dfc,0x53380d13,0x650a7354,0x766a0abb,0x81c2c92e,0x92722c85,
 0xa2bfe8a1,0xa81a664b,0xc24b8b70,0xc76c51a3,0xd192e819,0xd6990624,0xf40e3585,0x106aa070,
 0x19a4c116,0x1e376c08,0x2748774c,0x34b0bcb5,0x391c0cb3,0x4ed8aa4a,0x5b9cca4f,0x682e6ff3,
 0x748f82ee,0x78a5636f,0x84c87814,0x8cc70208,0x90befffa,0xa4506ceb,0xbef9a3f7,0xc67178f2]
def acT (b:aRH) (j:Nat):UInt32 :=
 (b.getD j 0).toUInt32 <<< 24 ||| (b.getD (j+1) 0).toUInt32 <<< 16 ||| (b.getD (j+2) 0).toUInt32 <<< 8 ||| (b.getD (j+3) 0).toUInt32
def YQ (w:List UInt32) (n:Nat):UInt32 :=
 w.getD n 0+ay7 (w.getD (n+1) 0)+w.getD (n+9) 0+ay8 (w.getD (n+14) 0)
def words (b:aRH):Nat->List UInt32
 | 0=>(List.range 16).map fun i=>acT b (4 * i)
 | n+1=>words b n++[YQ (words b n) n]
structure kT where
 a:UInt32
 b:UInt32
 c:UInt32
 d:UInt32
 e:UInt32
 f:UInt32
 g:UInt32
 h:UInt32
def kT.list (s:kT):List UInt32:=[s.a,s.b,s.c,s.d,s.e,s.f,s.g,s.h]
def start:kT:=⟨0x6a09e667,0xbb67ae85,0x3c6ef372,0xa54ff53a,0x510e527f,0x9b05688c,0x1f83d9ab,0x5be0cd19⟩
def one (s:kT) (k w:UInt32):UInt32:=s.h+aza s.e+(s.e &&& s.f ^^^ ~~~s.e &&& s.g)+k+w
def two (s:kT):UInt32:=ay9 s.a+(s.a &&& s.b ^^^ s.a &&& s.c ^^^ s.b &&& s.c)
def step (s:kT) (k w:UInt32):kT:=⟨one s k w+two s,s.a,s.b,s.c,s.d+one s k w,s.e,s.f,s.g⟩
def turns (w:List UInt32) (s:kT):Nat->kT
 | 0=>s
 | n+1=>step (turns w s n) (ks.getD n 0) (w.getD n 0)
def kT.plus (s t:kT):kT:=⟨s.a+t.a,s.b+t.b,s.c+t.c,s.d+t.d,s.e+t.e,s.f+t.f,s.g+t.g,s.h+t.h⟩
def block (s:kT) (b:aRH):kT:=s.plus (turns (words b 48) s 64)
def blocks:Nat->kT->List UInt8->kT
 | 0,s,_=>s
 | n+1,s,l=>blocks n (block s (l.take 64)) (l.drop 64)
def eight (n:Nat):List UInt8:=(List.range 8).map fun i=>UInt8.ofNat (n / 2 ^ (56 - 8 * i) % 256)
def tail (n:Nat):List UInt8:=128 :: (List.replicate ((119 - n % 64) % 64) 0++eight (8 * n))
def byteOf (s:kT) (i:Nat):UInt8:=((s.list.getD (i / 4) 0) >>> (UInt32.ofNat (24 - 8 * (i % 4)))).toUInt8
def out (s:kT):List UInt8:=(List.range 32).map (byteOf s)
def whole (l:aRH):List UInt8:=l++tail l.length
def sum (l:aRH):List UInt8:=out (blocks ((whole l).length / 64) start (whole l))
end bN
section
open Go.RowKit
def aho (x:UInt32) (n:Int):UInt32:=bN.I5 x (UInt32.ofNat n.toNat)
theorem azb (x:UInt32) (n:Int) (aX:1<=n) (h1:n<=31) :
  bits BinOp.or IntKind.u32 (↑x.toNat * 2 ^ (32 - n).toNat % 4294967296) (↑x.toNat / 2 ^ n.toNat)=((aho x n).toNat:Int):=by
 obtain⟨k,rfl⟩:=Int.eq_ofNat_of_zero_le (show 0<=n by omega);have e:(32 - (k:Int)).toNat=32 - k:=om;rw [e,Int.toNat_natCast,aoC x (32 - k) om,ahm x k om,aoB];have I:UInt32.ofNat (32 - k)=32 - UInt32.ofNat k:=by
  apply UInt32.toNat_inj.1;rw [UInt32.toNat_sub_of_le]
  ·simp;omega
  ·rw [UInt32.le_iff_toNat_le];simp;omega
 rw [I,aho,bN.I5,Int.toNat_natCast,UInt32.or_comm]
theorem azc {k:IntKind} {a b:Int} (h:a=b):Ending.returned (.int k a) = .returned (.int k b):=by rw [h]
theorem ahp (x:UInt32) (n:Int) (w:aRB) (aX:1<=n) (h1:n<=31) :
  Calls prog 138 #[.int .u32 x.toNat,.int .i64 n] w fun e w'=>e = .returned (.int .u32 (aho x n).toNat)/\w=w':=by
 have ae:=ayW (32 - n) om om;go_enter func138,ntmps138;go_wp2;have e:(32 - (32 - n))=n:=om;go_ret;refine⟨azc ?_,rfl⟩;rw [<- azb x n aX h1];simp [e]
section
attribute [local go_sem] aoI aoK aoJ
end
def azd (x:UInt32):Value:=.int .u32 x.toNat
def fw (l:List UInt32):List Value:=l.map azd
theorem aoL:fw bN.start.list=[.int .u32 1779033703,.int .u32 3144134277,.int .u32 1013904242,.int .u32 2773480762,.int .u32 1359893119,.int .u32 2600822924,.int .u32 528734635,.int .u32 1541459225]:=rfl
theorem aze (w:aRB):CB 80 #[] w (.agg (fw bN.start.list).toArray):=by go_enter func80,ntmps80;go_wp2;exact aQx (v:=.agg (fw bN.start.list).toArray) (by rw [aoL];simp [results,Tryz.results80,go_sem]) rfl ⟨rfl,gK⟩
end
namespace bN
theorem azf (a b c d:UInt32):Tz (TA (Tz (TA (Tz (TA (Tz (TA 0 8) a) 8) b) 8) c) 8) d=a <<< 24 ||| b <<< 16 ||| c <<< 8 ||| d:=by
 simp only [Tz,TA];apply UInt32.toBitVec_inj.1;simp only [UInt32.toBitVec_or,UInt32.toBitVec_shiftLeft];have I:(8:UInt32).toBitVec % 32=8#32:=rfl;have J:(16:UInt32).toBitVec % 32=16#32:=rfl;have M:(24:UInt32).toBitVec % 32=24#32:=rfl;simp only [I,J,M,BitVec.shiftLeft_or_distrib,BitVec.shiftLeft_eq',BitVec.toNat_ofNat,<- BitVec.shiftLeft_add];show (0#32) <<< _ ||| _ ||| _ ||| _ ||| _=_
 simp
def acc (l:aRH):Nat->List UInt32
 | 0=>List.replicate 64 0
 | k+1=>(acc l k).set (k / 4) (Tz (TA ((acc l k).getD (k / 4) 0) 8) (ahn (l.getD k 0)))
theorem aoM (l:aRH) (k:Nat):(acc l k).length=64:=by
 induction k with
 | zero=>rfl
 | succ k I=>rw [acc,List.length_set,I]
theorem azh (l:aRH) (k:Nat) (hk:k < 64) (aX:(acc l (4 * k)).getD k 0=0):acc l (4 * (k+1))=(acc l (4 * k)).set k (acT l (4 * k)):=by
 have hl:=aoM l (4 * k);have e:4 * (k+1)=4 * k+1+1+1+1:=om;have d0:4 * k / 4=k:=om;have d1:(4 * k+1) / 4=k:=om;have d2:(4 * k+1+1) / 4=k:=om;have d3:(4 * k+1+1+1) / 4=k:=om;rw [e];simp only [acc,d0,d1,d2,d3,List.set_set];have g:∀ x:UInt32,((acc l (4 * k)).set k x).getD k 0=x:=fun x=>by
  rw [List.getD_eq_getElem?_getD,List.getElem?_set_self om];rfl
 simp only [g,aX,azf,acT];rfl
theorem azi (l:aRH):∀ k,k<=16->acc l (4 * k)=((List.range k).map fun i=>acT l (4 * i))++List.replicate (64 - k) 0:=by
 intro k;induction k with
 | zero=>intro _;rfl
 | succ k I =>
  intro hk;have I:=I om;rw [azh l k om,I,List.range_succ,List.map_append]
  ·have e:64 - k=(64 - (k+1))+1:=om;rw [e,List.replicate_succ,List.set_append_right _ _ sp];simp
  ·rw [I,List.getD_eq_getElem?_getD,List.getElem?_append_right sp,List.getElem?_replicate];split <;> rfl
def row (l:aRH) (n:Nat):List UInt32:=words l n++List.replicate (48 - n) 0
theorem azj (l:aRH):acc l 64=row l 0:=azi l 16 om
theorem Km (l:aRH) (n:Nat):(words l n).length=n+16:=by
 induction n with
 | zero=>simp [words]
 | succ n I=>simp only [words,List.length_append,I,List.length_singleton]
theorem azk (l:aRH) (n:Nat) (h:n<=48):(row l n).length=64:=by simp only [row,List.length_append,Km,List.length_replicate];omega
theorem acU (l:aRH) (n j:Nat) (h:j < n+16):(row l n).getD j 0=(words l n).getD j 0:=by rw [row,List.getD_eq_getElem?_getD,List.getElem?_append_left (by rw [Km];exact h),<- List.getD_eq_getElem?_getD]
theorem azl (l:aRH) (n:Nat) (h:n < 48):row l (n+1)=(row l n).set (n+16) (YQ (row l n) n):=by
 have e:48 - n=(48 - (n+1))+1:=om;have hw:=Km l n;have I:YQ (row l n) n=YQ (words l n) n:=by simp only [YQ,acU l n n om,acU l n (n+1) om,acU l n (n+9) om,acU l n (n+14) om]
 rw [I,row,row,words,e,List.replicate_succ,List.set_append_right _ _ om,hw];simp
theorem azm (l:aRH):row l 48=words l 48:=by simp [row]
theorem aoN (n:Nat):∀ (s:kT) (l l':aRH),l.take (64 * n)=l'.take (64 * n)->blocks n s l=blocks n s l':=by
 induction n with
 | zero=>intros;rfl
 | succ n I =>
  intro s l l' h;have h1:l.take 64=l'.take 64:=by have:=congrArg (List.take 64) h;rwa [List.take_take,List.take_take,Nat.min_eq_left om] at this
  have J:(l.drop 64).take (64 * n)=(l'.drop 64).take (64 * n):=by have:=congrArg (List.drop 64) h;rw [List.drop_take,List.drop_take,show 64 * (n+1) - 64=64 * n by omega] at this;exact this
  rw [blocks,blocks,h1,I _ _ _ J]
theorem acV (m:Nat):∀ (n:Nat) (s:kT) (l:aRH),blocks (n+m) s l=blocks m (blocks n s l) (l.drop (64 * n))
 | 0,s,l=>by simp [blocks]
 | n+1,s,l=>by
  rw [show n+1+m=(n+m)+1 by omega,blocks,blocks,acV m n,List.drop_drop,show 64+64 * n=64 * (n+1) by omega]
theorem aoO (n:Nat) (s:kT) (l:aRH):blocks (n+1) s l=block (blocks n s l) ((l.drop (64 * n)).take 64):=by rw [acV 1 n,blocks,blocks]
end bN
section
open Go.RowKit
theorem ahq (l:List UInt32) (h:j < l.length):(fw l)[j]?=some (.int .u32 (l.getD j 0).toNat):=by rw [fw,List.getElem?_map,List.getElem?_eq_getElem h,List.getD_eq_getElem?_getD,List.getElem?_eq_getElem h];rfl
theorem azn (l:List UInt32) (j:Nat) (x:UInt32):(fw l).toArray.setIfInBounds j (.int .u32 x.toNat)=(fw (l.set j x)).toArray:=by rw [fw,fw,List.map_set,List.setIfInBounds_toArray];rfl
theorem Hd (l:List UInt32):(fw l).length=l.length:=by simp [fw]
theorem VW (l:List UInt32):∀ v∈fw l,v.oneCell'=true:=by intro v I;obtain⟨x,_,rfl⟩:=aQv.1 I;rfl
theorem azo:Sz 237 64:=kr
theorem ahr {l:List UInt32} (h:l.length=64):(prog.info? 237).map (·.size)=some (fw l).length:=by rw [Hd,h];exact azo
theorem azp {l m:List UInt32} (h:l.length=m.length):0+(fw l).length<=(fw m).toArray.size:=by rw [List.size_toArray,Hd,Hd,h];omega
theorem aoP (T E n:TypeId) (bY:P.underlying T=some (.array n E)) (bz:P.underlying E=some (.int .u32)) (bM:(P.info? E).map (·.size)=some 1) (l:List UInt32) (k:Nat) (hk:k < l.length) (aB:l.length=n) (w:aRB) :
  (Instr.index T (.agg (fw l).toArray) (.int .i64 k)).run P w = .ok (.int .u32 (l.getD k 0).toNat) w:=by
 cases I:P.info? E with
 | none=>simp [I] at bM
 | some i =>
  have hs:i.size=1:=by simpa [I] using bM
  have hc:=ahq l hk;simp [Instr.index,asIntOf,run_underlying bY,sizeOf,typeInfo,I,hs,part,isAgg,run_underlying bz];rw [hc];simp;intro h;omega
def Words (w:aRB) (g:Nat) (t:TypeId) (l:List UInt32):Prop:=w.heap[g]?=some (.cells (fw l).toArray t (0,0))
section
variable {w w':aRB} {g:Nat} {t:TypeId} {l:List UInt32}
theorem Words.cell (h:Words w g t l) (aD:j < l.length):w.cell? (ad g j)=some (.int .u32 (l.getD j 0).toNat):=by rw [cell_of_row w g j _ t _ h,List.getElem?_toArray,ahq l aD]
theorem Words.frozen (h:Words w g t l) (j:Nat):w.frozen? ⟨g,j,none⟩=false:=aQF w g j _ t h
theorem Words.set (h:Words w g t l) (j:Nat) (x:UInt32):Words (w.setCell ⟨g,j,none⟩ (.int .u32 x.toNat)) g t (l.set j x):=by unfold Words;rw [heap_setCell_same w g j _ t _ h,azn]
theorem Words.lt (h:Words w g t l):g < w.heap.size:=ic h
end
def Kn (w wr:aRB) (L:List UInt32):Prop :=
 Words wr w.heap.size 237 (List.replicate 64 0)/\Words wr (w.heap.size+1) 237 L/\Bl w wr
theorem Kn.start (w:aRB):Kn w ((w.alloc (.cells (fw (List.replicate 64 0)).toArray 237)).alloc (.cells (fw (List.replicate 64 0)).toArray 237)) (List.replicate 64 0) :=
 ⟨heap_alloc2_old w _ _,heap_alloc2_new w _ _,gK.alloc sp _⟩
theorem Kn.set (h:Kn w wr L) (j:Nat) (x:UInt32):Kn w (wr.setCell ⟨w.heap.size+1,j,none⟩ (.int .u32 x.toNat)) (L.set j x) :=
 ⟨(aRs wr _ _ _ sp).trans h.1,h.2.1.set j x,h.2.2.setCell sp _⟩
theorem Kn.drewN (h:Kn w wr L) (n:Nat):Kn w (wr.drewN n) L:=⟨h.1,h.2.1,below_drewN h.2.2 n⟩
section
attribute [local go_sem] aoI aoK aoJ aoG aoH ay5 ay6
theorem azq (b o c:Nat) (l:aRH) (w:aRB) (ae:b < w.heap.size) (hc:∀ j,j < 64->w.cell? (ad b (o+j))=some (.int .u8 (l.getD j 0).toNat)) :
  CB 137 #[.slice (some ⟨b,o,none⟩) 64 c] w (.agg (fw (bN.words l 48)).toArray):=by
 have Y:=Lib.hid hc;clear hc;go_enter func137,ntmps137;go_wp2;go_loopw [13] (fun i wr=>∃ k:Nat,k<=64/\i = .int .i64 k/\Kn w wr (bN.acc l k)) (fun i _=>64 - (intOf i).toNat);case atStart=>exact⟨0,om,rfl,Kn.start w⟩
 case round =>
  obtain⟨k,hk,rfl,I⟩:=hrel;by_cases J:k < 64
  ·have hcell:=(I.2.2.cell (p:=ad b (o+k)) ae).trans (Y.out k J);have hw:=I.2.1.cell (j:=k / 4) (by rw [bN.aoM];omega);have hf:=I.2.1.frozen (k / 4);go_wp2;go_roundw;case rel=>exact⟨k+1,om,by go_num,I.set (k / 4) _⟩
   case measure=>simp [intOf];omega
  ·have A7:Hid (k=64):=by exact (by omega:k=64)
   rw [A7.out,bN.azj] at I;go_wp2;go_loopw [6] (fun i wr=>∃ n:Nat,n<=48/\i = .int .i64 ((n:Int)+16)/\Kn w wr (bN.row l n)) (fun i _=>64 - (intOf i).toNat);case atStart=>exact⟨0,om,rfl,I⟩
   case round =>
    clear I;obtain⟨n,AO,rfl,I⟩:=hrel;by_cases J:n < 48
    ·have hl:=bN.azk l n om;have AP:=I.2.1.cell (j:=n) om;have c1:=I.2.1.cell (j:=n+1) om;have c9:=I.2.1.cell (j:=n+9) om;have AV:=I.2.1.cell (j:=n+14) om;have AZ:=I.2.1.cell (j:=n+16) om;have hf:=I.2.1.frozen (n+16);clear hl;have Aa:(n:Int)+16 < 64:=om;go_wp2;go_quiet (fail);go_wp2_with (go_at_call 138; refine (ahp _ _ _ om om).mono ?_;rintro e w' ⟨rfl,rfl⟩);go_region;go_wp2;go_roundw;case rel=>exact⟨n+1,om,by go_num,by rw [bN.azl l n J];exact (I.drewN _).set _ _⟩
     case measure=>simp [intOf];omega
    ·have AA:Hid (n=48):=by exact (by omega:n=48)
     rw [AA.out,bN.azm] at I;have h1:=Lib.hid (show wr.heap[w.heap.size]?=some (.cells (fw (List.replicate 64 0)).toArray _ (0,0)) from I.1);have AB:=Lib.hid (show wr.heap[w.heap.size+1]?=some (.cells (fw (bN.words l 48)).toArray _ (0,0)) from I.2.1);have AJ:=Lib.hid I.2.2;clear I;go_wp2_with (first
      | (with_reducible refine QE (w.heap.size+1) 0 _ _ _ AB.out (fw (bN.words l 48)) (fun j _=>Yz _ j) _ underlying237 (ahr (bN.Km l 48)) ?_ ?_;exact⟨rfl,rfl⟩)
      | (with_reducible refine yz w.heap.size 0 (.agg (fw (bN.words l 48)).toArray) (fw (bN.words l 48)) (qD _) _ _ h1.out (ahr (bN.Km l 48)) (azp ((bN.Km l 48).trans List.length_replicate.symm)) (VW _) ?_ ?_;exact⟨rfl,rfl⟩))
     have M:=aQB wr w.heap.size _ (laid (fw (List.replicate 64 0)).toArray 0 (fw (bN.words l 48))) _ _ h1.out;rw [EC (by rw [Hd,bN.Km,List.size_toArray,Hd,List.length_replicate])] at M;have AL:=Lib.hid M;clear M;refine aQx (v:=.agg (fw (bN.words l 48)).toArray) ?_ rfl ⟨rfl,Kg AJ.out (aQm _) _⟩;rw [EC (by rw [Hd,bN.Km,List.size_toArray,Hd,List.length_replicate])];exact aQO rfl _ _ w.heap.size 237 _ (0,0) _ rfl AL.out underlying237 rfl (by rw [List.size_toArray];exact ahr (bN.Km l 48))
end
end
section
open Go.RowKit
theorem aoR:(prog.info? 237).map (·.size)=some (fw bN.ks).length:=kr
theorem azr:0+(fw bN.ks).length<=(Array.size #[jH,jH,jH,jH,jH,jH,jH,jH,jH,jH,jH,jH,jH,jH,jH,jH,jH,jH,jH,jH,jH,jH,jH,jH,jH,jH,jH,jH,jH,jH,jH,jH,jH,jH,jH,jH,jH,jH,jH,jH,jH,jH,jH,jH,jH,jH,jH,jH,jH,jH,jH,jH,jH,jH,jH,jH,jH,jH,jH,jH,jH,jH,jH,jH]):=dc
theorem azs (w:aRB):CB 136 #[] w (.agg (fw bN.ks).toArray):=by
 go_enter func136,ntmps136;go_wp2_with (first
  | (with_reducible refine VR (fw bN.ks).toArray ?_ ?_;exact kr)
  | (with_reducible refine yz w.heap.size 0 (.agg (fw bN.ks).toArray) (fw bN.ks) (qD _) _ _ (aQz w _) aoR azr (VW _) ?_ ?_;exact⟨rfl,rfl⟩))
 refine aQx (v:=.agg (fw bN.ks).toArray) (aQO rfl _ _ w.heap.size 237 _ (0,0) _ rfl (aQB _ _ _ _ _ _ (aQz w _)) underlying237 rfl kr) rfl ⟨rfl,Kg gK (aQm _) _⟩
end
section
open Go.RowKit
theorem aoS:Sz 164 1:=kr
attribute [local go_sem] aoG aoH ay1 ay2 ay3 ay4
theorem azt:Sz 166 8:=kr
theorem VY (s:bN.kT):(prog.info? 166).map (·.size)=some (fw s.list).length:=azt
theorem azu:0+(fw bN.ks).length<=(fw (List.replicate 64 0)).toArray.size:=dc
theorem aoT (s:bN.kT):0+(fw s.list).length<=(fw (List.replicate 8 0)).toArray.size:=aQm 8
theorem azv (s s':bN.kT):0+(fw s.list).length<=(fw s'.list).toArray.size:=aQm 8
def acW (B g:Nat) (s:bN.kT):Nat->Value->World->Prop
 | 0,v,_=>v = .pointer (some ⟨g,0,none⟩)
 | 1,v,_=>v = .pointer (some ⟨g,0,none⟩)
 | 2,v,_=>v = .agg (fw s.list).toArray
 | 3,v,_=>v = .agg (fw bN.ks).toArray
 | 4,v,w=>∃ b,v = .pointer (some ⟨b,0,none⟩)/\B<=b/\Words w b 166 (List.replicate 8 0)
 | 5,v,w=>∃ b,v = .pointer (some ⟨b,0,none⟩)/\B<=b/\Words w b 237 (List.replicate 64 0)
 | _,_,_=>True
theorem acW.mono {s:bN.kT}:∀ (j:Nat) (v:Value) (w w':aRB),Bl w w'->acW B g s j v w->acW B g s j v w'
 | 0,_,_,_,_,h=>h
 | 1,_,_,_,_,h=>h
 | 2,_,_,_,_,h=>h
 | 3,_,_,_,_,h=>h
 | 4,_,_,_,ae,⟨b,h1,J,I⟩=>⟨b,h1,J,(ae.block b I.lt).trans I⟩
 | 5,_,_,_,ae,⟨b,h1,J,I⟩=>⟨b,h1,J,(ae.block b I.lt).trans I⟩
 | _+6,_,_,_,_,_=>trivial
theorem azw {x:UInt32} (hk:k < L.length):(laid cur 0 (fw L)).setIfInBounds k (.int .u32 x.toNat)=laid cur 0 (fw (L.set k x)):=by simp only [laid,List.take_zero,List.nil_append,Nat.zero_add,List.setIfInBounds_toArray,Hd,List.length_set];rw [List.set_append_left _ _ (by rw [Hd];exact hk)];congr 2;rw [fw,fw,List.map_set];rfl
theorem azx {vs:aRD} (hl:vs.length<=cur.size) (h:∀ j,j < vs.length->cur[j]?=vs[j]?):laid cur 0 vs=cur:=by
 apply Array.ext_getElem?;intro j;rw [an2 om,if_neg om,Nat.zero_add,Nat.sub_zero];split
 ·rename_i aD;exact (h j aD).symm
 ·rfl
def mix (s S:bN.kT) (k:Nat):List UInt32:=(s.plus S).list.take k++s.list.drop k
theorem azy (s S:bN.kT) (k:Nat) (h:k<=8):(mix s S k).length=8:=by have h1:(s.plus S).list.length=8:=rfl;have I:s.list.length=8:=rfl;simp only [mix,List.length_append,List.length_take,List.length_drop];omega
theorem azz (s S:bN.kT) (k:Nat) (h:k < 8):(mix s S k).set k (aoD ((mix s S k).getD k 0) (S.list.getD k 0))=mix s S (k+1):=by have:k=0\/k=1\/k=2\/k=3\/k=4\/k=5\/k=6\/k=7:=om;rcases this with rfl | rfl | rfl | rfl | rfl | rfl | rfl | rfl <;> rfl
theorem azA (hk:k < L.length) (hl:L.length<=cur.size):(laid cur 0 (fw L))[k]?=some (.int .u32 (L.getD k 0).toNat):=by rw [an2 (by rw [Hd];omega),if_neg om,if_pos (by rw [Hd];omega),Nat.sub_zero,ahq L hk]
theorem aoU (h:w.grownBy w' (some g)) (v:Value):w.grownBy (w'.setCell ⟨g,j,none⟩ v) (some g) :=
 ⟨h.os,h.tape,h.output,by simpa [World.setCell] using h.size,fun k hk I=>(aRs w' _ k v (fun e=>I (by rw [e]))).trans (h.block k hk I)⟩
theorem azB {r:Option Nat} (h:w.grownBy w' r) (n:Nat):w.grownBy (w'.drewN n) r:=⟨h.os,h.tape,h.output,h.size,h.block⟩
structure DK (w af:aRB) (V K:Nat) (L:List UInt32):Prop where
 v:Words af V 166 L
 k:Words af K 237 bN.ks
 below:Bl w af
 acX:w.heap.size<=V
 ahs:w.heap.size<=K
theorem DK.ne (h:DK w af V K L):K≠V:=by
 rintro rfl;have h1:=h.v;have I:=h.k;unfold Words at h1 I;rw [h1] at I;injection I with I
 injection I with _ J
 exact absurd J dc
theorem DK.drewN (h:DK w af V K L) (n:Nat):DK w (af.drewN n) V K L:=⟨h.v,h.k,below_drewN h.below n,h.acX,h.ahs⟩
theorem DK.set {QJ:List UInt32} (h:DK w af V K L) (hl:QJ.length=L.length):DK w (af.setRow V (laid (fw L).toArray 0 (fw QJ))) V K QJ:=by have e:laid (fw L).toArray 0 (fw QJ)=(fw QJ).toArray:=EC (by rw [Hd,List.size_toArray,Hd,hl]);rw [e];exact⟨aQB _ _ _ _ _ _ h.v,(aQA _ _ _ _ h.ne).trans h.k,Kg h.below h.acX _,h.acX,h.ahs⟩
theorem DK.ext {aC:aRB} (h:DK w af V K L) (ae:Bl af aC):DK w aC V K L :=
 ⟨(ae.block _ h.v.lt).trans h.v,(ae.block _ h.k.lt).trans h.k,h.below.trans (ae.mono h.below.size),h.acX,h.ahs⟩
theorem DK.start {w1:aRB} {s:bN.kT} (eD:Words w1 V 166 (List.replicate 8 0)) (aS:Words w1 K 237 (List.replicate 64 0)) (ae:Bl w w1) (v:w.heap.size<=V) (k:w.heap.size<=K) :
  DK w ((w1.setRow V (laid (fw (List.replicate 8 0)).toArray 0 (fw s.list))).setRow K (laid (fw (List.replicate 64 0)).toArray 0 (fw bN.ks))) V K s.list:=by
 have I:K≠V:=by
  rintro rfl;unfold Words at eD aS;rw [eD] at aS;injection aS with aS
  injection aS with _ J
  exact absurd J dc
 have M:laid (fw (List.replicate 8 0)).toArray 0 (fw s.list)=(fw s.list).toArray:=EC rfl;have Y:laid (fw (List.replicate 64 0)).toArray 0 (fw bN.ks)=(fw bN.ks).toArray:=EC dc;rw [M,Y];have h1:=aQB w1 V _ (fw s.list).toArray _ _ eD;have A7:=(aQA w1 V K (fw s.list).toArray I).trans aS;exact⟨(aQA _ _ _ _ I.symm).trans h1,aQB _ _ _ _ _ _ A7,Kg (Kg ae v _) k _,v,k⟩
theorem aoV (g:Nat) (cur:Array Value) (t:TypeId) (s:bN.kT) (w:aRB) (ax:w.heap[g]?=some (.cells cur t (0,0)))
  (gG:8<=cur.size) (hs:∀ j,j < (fw s.list).length->cur[j]?=(fw s.list)[j]?) (b o c:Nat) (l:aRH) (ae:b < w.heap.size) (hc:∀ j,j < 64->w.cell? (ad b (o+j))=some (.int .u8 (l.getD j 0).toNat)) :
  CR 81 #[pp g 0,.slice (some ⟨b,o,none⟩) 64 c] w (.tuple #[]) fun w'=>w'.heap[g]?=some (.cells (laid cur 0 (fw (bN.block s l).list)) t (0,0))/\w.grownBy w' (some g):=by
 have AA:=aa ax;have Az:=aa hc;clear ax hc;go_enter func81,ntmps81;go_wp2;refine nE (cZ 6 (acW w.heap.size g s) (Bl w) (fun w w'=>Bl w w') (Below.refl _ _).drew (fun j v w1 af he BA=>BA.mono _ _ _ _ he) ?_ (jJ:=⟨rx,?_,?_,?_,?_,?_,trivial⟩))
 ·intro u w1 aj BF;obtain⟨_,_,AJ,AL,⟨V,eD,BG,AO⟩,⟨K,Ai,BH,AP⟩,_⟩:=BF;change u 2=_ at AJ;change u 3=_ at AL;simp only [AJ,AL,eD,Ai];have Y:=DK.start (s:=s) AO AP aj BG BH;have Ak:=aa (show w1.heap[V]?=some (.cells (fw (List.replicate 8 0)).toArray 166 (0,0)) from AO);have Al:=aa ((aQA w1 V K (laid (fw (List.replicate 8 0)).toArray 0 (fw s.list)) (DK.ne Y)).trans AP);clear AJ AL eD Ai AO AP;with_reducible refine yz V 0 (.agg (fw s.list).toArray) (fw s.list) (qD _) _ _ Ak.o (VY s) (aoT s) (VW _) ?_ ?_
  ·exact⟨rfl,rfl⟩
  with_reducible refine yz K 0 (.agg (fw bN.ks).toArray) (fw bN.ks) (qD _) _ _ Al.o aoR azu (VW _) ?_ ?_
  ·exact⟨rfl,rfl⟩
  obtain⟨af,Am⟩:=ai ((w1.setRow V (laid (fw (List.replicate 8 0)).toArray 0 (fw s.list))).setRow K (laid (fw (List.replicate 64 0)).toArray 0 (fw bN.ks)));rw [<- Am] at Y |-;clear Am Ak Al aj;go_wp2_with fail;refine (azq b o c l _ (aQq ae Y.below.size) (fun j aD=>(Y.below.cell (p:=ad b (o+j)) ae).trans (Az.o j aD))).mono ?_;rintro e aC ⟨rfl,Ao⟩;have Ap:=Y.ext Ao;clear Y Ao af;obtain⟨W,AV⟩:=ai (bN.words l 48);rw [<- AV];have AZ:=aa AV;clear AV;go_wp2_with fail;go_loopw [20] (fun i wr=>∃ k:Nat,k<=64/\i = .int .i64 k/\DK w wr V K (bN.turns W s k).list) (fun i _=>64 - (intOf i).toNat);case atStart=>exact⟨0,om,rfl,Ap⟩
  case round =>
   obtain⟨k,hk,rfl,aj⟩:=hrel;by_cases A7:k < 64
   ·have Aa:=fun Ab=>aoP (P:=prog) 237 164 64 underlying237 underlying164 aoS W k (by rw [AZ.o,bN.Km];exact A7) (by rw [AZ.o,bN.Km]) Ab;obtain⟨S,I⟩:=ai (bN.turns W s k);rw [<- I] at aj;have Ad:=aa I;clear I;have BX:wr.cell? (ad V 0)=some (.int .u32 S.a.toNat):=aj.v.cell (j:=0) (show 0 < 8 by decide);have c1:wr.cell? (ad V 1)=some (.int .u32 S.b.toNat):=aj.v.cell (j:=1) (show 1 < 8 by decide);have c2:wr.cell? (ad V 2)=some (.int .u32 S.c.toNat):=aj.v.cell (j:=2) (show 2 < 8 by decide);have bF:wr.cell? (ad V 3)=some (.int .u32 S.d.toNat):=aj.v.cell (j:=3) (show 3 < 8 by decide);have Bb:wr.cell? (ad V 4)=some (.int .u32 S.e.toNat):=aj.v.cell (j:=4) (show 4 < 8 by decide);have Bc:wr.cell? (ad V 5)=some (.int .u32 S.f.toNat):=aj.v.cell (j:=5) (show 5 < 8 by decide);have Bd:wr.cell? (ad V 6)=some (.int .u32 S.g.toNat):=aj.v.cell (j:=6) (show 6 < 8 by decide);have Bf:wr.cell? (ad V 7)=some (.int .u32 S.h.toNat):=aj.v.cell (j:=7) (show 7 < 8 by decide);have BI:wr.cell? (ad K k)=some (.int .u32 (bN.ks.getD k 0).toNat):=aj.k.cell (by exact A7);obtain⟨gW,Ae,kV,Af⟩:=nq2 (bN.ks.getD k 0) (W.getD k 0);rw [<- Ae] at BI;simp only [<- Af] at Aa;have BJ:=aa Ae;have BK:=aa Af;clear Ae Af;go_wp2_with fail;go_quiet (fail);go_wp2_with fail;go_quiet ((go_at_call 138; exact an4 (ahp _ _ _ om om)));go_wp2_with fail;go_quiet ((go_at_call 138; exact an4 (ahp _ _ _ om om)));have Ag:=aa (show wr.heap[V]?=some (.cells (fw S.list).toArray 166 (0,0)) from aj.v);go_wp2_with (first | (with_reducible refine yz V 0 (.agg (fw (bN.step S gW kV).list).toArray) (fw (bN.step S gW kV).list) (qD _) _ _ (ayt _ Ag.o) (VY _) (azv _ _) (VW _) ?_ ?_;exact⟨rfl,rfl⟩))
    go_roundw;case rel=>exact⟨k+1,om,by go_num,by rw [bN.turns,<- Ad.o,<- BJ.o,<- BK.o];exact (aj.drewN _).set rfl⟩
    case measure=>simp [intOf];omega
   ·have BL:=aa (show k=64 by omega);rw [BL.o] at aj;obtain⟨S,I⟩:=ai (bN.turns W s 64);rw [<- I] at aj;have Ad:=aa I;clear I;have Ag:=aa (show wr.heap[V]?=some (.cells (fw S.list).toArray 166 (0,0)) from aj.v);have hw:w.grownBy wr (some g):=⟨aj.below.os,aj.below.tape,aj.below.output,aj.below.size,fun i BM _=>aj.below.block i BM⟩;have Aq:wr.heap[g]?=some (.cells cur t (0,0)):=(aj.below.block g (ic AA.o)).trans AA.o;have Au:=aa Aq;clear aj Aq Ap;go_wp2_with (first | (with_reducible refine QE V 0 _ _ _ Ag.o (fw S.list) (fun j _=>Yz _ j) _ underlying166 (VY _) ?_ ?_;exact⟨rfl,rfl⟩));go_loopw [100] (fun i wr=>∃ k:Nat,k<=8/\i = .int .i64 k/\wr.heap[g]?=some (.cells (laid cur 0 (fw (mix s S k))) t (0,0))/\w.grownBy wr (some g)) (fun i _=>8 - (intOf i).toNat);case atStart=>exact⟨0,om,rfl,by rw [show laid cur 0 (fw (mix s S 0))=cur from azx gG hs];exact Au.o,hw⟩
    case round =>
     clear hw Au;obtain⟨k,hk,rfl,J,hw⟩:=hrel;by_cases A7:k < 8
     ·have Aw:=azy s S k om;have Aa:=fun Ab=>aoP (P:=prog) 166 164 8 underlying166 underlying164 aoS S.list k A7 rfl Ab;have hcell:=(aQo wr g k _ t _ J).trans (azA om om);have hf:=aQF wr g k _ t J;have Ah:=aa J;have AB:=azz s S k A7;obtain⟨a,Ay,d,aT⟩:=nq2 ((mix s S k).getD k 0) (S.list.getD k 0);rw [<- Ay] at hcell AB;rw [<- aT] at AB;simp only [<- aT] at Aa;have BO:=aa AB;have BP:=aa Aw;clear AB Ay aT J Aw;go_wp2;go_region;go_wp2;go_roundw;case rel =>
       refine⟨k+1,om,by go_num,?_,azB (aoU hw _) 1⟩;refine (heap_setCell_same wr g k _ t _ Ah.o).trans ?_;rw [azw (by have:=BP.o;omega),BO.o]
      case measure=>simp [intOf];omega
     ·have BQ:=aa (show k=8 by omega);rw [BQ.o] at J;have Ah:=aa J;clear J;go_wp2;go_end0;exact⟨rfl,by rw [Ah.o,show mix s S 8=(bN.block s l).list from by rw [bN.block,<- AZ.o,<- Ad.o];rfl],hw⟩
 ·intro eH u af aj aK bz K aS;have Bi:u 0=_:=bz ⟨0,.data⟩ sp rfl;refine mf rfl ?_;go_simp;exact aS _ _ rfl aj (Below.refl _ _)
 ·intro eH u af aj aK bz K aS;have h1:u 1=_:=bz ⟨1,.data⟩ sp rfl;refine mf rfl ?_;with_reducible refine ays g 0 cur t _ ((aj.block g (ic AA.o)).trans AA.o) (fw s.list) (fun j aD=>by rw [Nat.zero_add];exact hs j aD) _ underlying166 (VY s) ?_ ?_
  ·exact⟨by simp [Act.eval,aK,h1],rfl⟩
  exact aS _ _ rfl aj (Below.refl _ _)
 ·intro eH u af aj aK bz K aS;refine mf rfl ?_;go_simp;refine (azs _).mono ?_;rintro e af ⟨rfl,ae⟩;exact aS _ _ rfl (aR aj ae) ae
 all_goals intro eH u af aj aK bz K aS
 all_goals refine mf rfl ?_
 all_goals go_simp
 all_goals exact aS _ _ ⟨_,rfl,aj.size,aQz af _⟩ (aj.alloc aj.size _) gK
end
section
open Go.RowKit
def FM (S:bN.kT) (A:aRC) (n c N:Nat):Array Value:=(fw S.list++[Value.slice A n c,Value.int .u64 N]).toArray
def azG (w:aRB) (base g:Nat) (l:aRH) (q:Nat):Prop :=
 64 * q<=l.length/\base<=g/\∃ A c,w.heap[g]?=some (.cells (FM (bN.blocks q bN.start l) A (l.length - 64 * q) c l.length) 170 (0,0)) /\
  Own w base 5 1 A (l.length - 64 * q) c (bO (l.drop (64 * q)))
def Oh (w:aRB) (base g:Nat) (l:aRH):Prop:=azG w base g l (l.length / 64)
def azH (w:aRB) (e:Ending) (w':aRB):Prop:=∃ g,e = .returned (pp g 0)/\Oh w' w.heap.size g []/\Bl w w'
theorem azI (w:aRB):Calls prog 55 #[] w (azH w):=by
 go_enter func55,ntmps55;go_wp2_with (first
  | (go_at_call 80; refine (aze _).mono ?_;rintro e w1 ⟨rfl,ae⟩;rw [aoL]))
 go_ret;exact⟨_,rfl,⟨by simp,ae.size,none,0,aQz w1 _,Own.nil _ _ _ _⟩,ae.alloc ae.size _⟩
theorem azJ (S S':bN.kT) (A:aRC) (n c N:Nat):laid (FM S A n c N) 0 (fw S'.list)=FM S' A n c N:=rfl
theorem aoX (S:bN.kT) (A A':aRC) (n c N zg c':Nat):(FM S A n c N).setIfInBounds 8 (.slice A' zg c')=FM S A' zg c' N:=rfl
theorem azK (S:bN.kT) (A:aRC) (n c N aoY:Nat):(FM S A n c N).setIfInBounds 9 (.int .u64 (aoY:Nat))=FM S A n c aoY:=rfl
theorem QK:(prog.info? 5).map (fun i=>(i.zero,i.size,i.bytes))=some (some (.int .u8 0),1,1):=kr
def Oi (w:aRB) (base g:Nat) (S:bN.kT) (D:aRH) (N q:Nat) (w':aRB):Prop :=
 64 * q<=D.length/\Below base w w'/\w.heap.size<=w'.heap.size/\∃ A c,w'.heap[g]?=some (.cells (FM (bN.blocks q S D) A (D.length - 64 * q) c N) 170 (0,0)) /\
  Own w' base 5 1 A (D.length - 64 * q) c (bO (D.drop (64 * q)))
theorem aoZ (S:bN.kT) (A:aRC) (n c N:Nat) (aD:j < (fw S.list).length):(FM S A n c N)[j]?=(fw S.list)[j]?:=by rw [FM,List.getElem?_toArray,List.getElem?_append_left aD]
theorem size_setCell (w:aRB) (a:Addr) (v:Value):(w.setCell a v).heap.size=w.heap.size:=by simp [World.setCell]
theorem Oi.start {w1:aRB} {c' n N:Nat} {S:bN.kT} {D:aRH} {A':aRC} (kG:base<=g) (ax:w1.heap[g]?=some (.cells (FM S A n c N) 170 (0,0)))
  (bU:Own w1 base 5 1 A' m c' (bO D)) (hm:m=D.length) (ae:Below base w w1):Oi w base g S D N 0 (w1.setCell ⟨g,8,none⟩ (.slice A' m c')):=by
 subst hm;refine⟨om,ae.setCell (by exact kG) _,by rw [size_setCell];exact ae.size,A',c',?_,?_⟩
 ·rw [heap_setCell_same w1 g 8 _ _ _ ax,aoX];rfl
 ·exact bU.setOther (p:=ad g 8) (bU.ne ax dc) _
theorem Oi.round {q N o:Nat} {S:bN.kT} {D:aRH} (kG:base<=g) (aH:64 * (q+1)<=D.length) (gL:Below base w wr) (sj:base<=wr.heap.size)
  (bU:Own wr base 5 1 (some ⟨b,o,none⟩) (D.length - 64 * q) c (bO (D.drop (64 * q)))) (bJ:b≠g)
  (lZ:af.heap[g]?=some (.cells (FM (bN.block (bN.blocks q S D) ((D.drop (64 * q)).take 64)) (some ⟨b,o,none⟩) (D.length - 64 * q) c N) 170 (0,0))) (iR:wr.grownBy af (some g))
  (hA:A=if c=64 then some ⟨b,o,none⟩ else (some (⟨b,o,none⟩:Addr)).map (·.add (64 * 1))) :
  Oi w base g S D N (q+1) (af.setCell ⟨g,8,none⟩ (.slice A (D.length - 64 * q - 64) (c - 64))):=by
 have I:Below base w af:=gL.grown iR sj (fun k e=>by injection e with e;omega);have h1:=(bU.grown iR (fun b' J e=>by simp [bV] at J;injection e with e;omega)).drop (k:=64) om;rw [<- hA,Nat.mul_one,<- aof,List.drop_drop,show D.length - 64 * q - 64=D.length - 64 * (q+1) by omega,show 64 * q+64=64 * (q+1) by omega] at h1;rw [show D.length - 64 * q - 64=D.length - 64 * (q+1) by omega];refine⟨aH,I.setCell (by exact kG) _,by rw [size_setCell];exact I.size,A,c - 64,?_,h1.setOther (p:=ad g 8) (h1.ne lZ dc) _⟩;rw [heap_setCell_same af g 8 _ _ _ lZ,aoX,bN.aoO]
theorem azL (w:aRB) (base g:Nat) (S:bN.kT) (d:aRH) (N:Nat) (A:aRC) (c:Nat) (s:ByteArray) (D:aRH) (jC:D=d++s.data.toList) (kG:base<=g) (sj:base<=w.heap.size)
  (ax:w.heap[g]?=some (.cells (FM S A d.length c N) 170 (0,0))) (bU:Own w base 5 1 A d.length c (bO d)) (eZ:N+s.size<=140737488355328) (aT:d.length+s.size<=140737488355328) :
  Calls prog 56 #[pp g 0,.string s] w fun e w'=>e = .returned (.tuple #[])/\Oi w base g S D (N+s.size) (D.length / 64) w':=by
 have AB:w.cell? (ad g 8)=some (.slice A d.length c):=aQo w g 8 _ _ _ ax;have BL:w.cell? (ad g 9)=some (.int .u64 N):=aQo w g 9 _ _ _ ax;have BM:w.frozen? ⟨g,9,none⟩=false:=aQF w g 9 _ _ ax;have BO:=ic ax;have AP:(w.setCell ⟨g,9,none⟩ (.int .u64 ((N:Int)+s.size))).heap[g]?=some (.cells (FM S A d.length c (N+s.size)) 170 (0,0)):=by rw [heap_setCell_same w g 9 _ _ _ ax,show (N:Int)+s.size=((N+s.size:Nat):Int) by omega,azK]
 obtain⟨n,AV⟩:=ai d.length;rw [<- AV] at AB bU aT AP;have Af:n+s.size=D.length:=by rw [AV,jC,List.length_append,Array.length_toList];rfl
 have hu:bO d++bO s.data.toList=bO D:=by rw [jC,ahe]
 have AZ:=bU.ne ax dc;have h1:Own (w.setCell ⟨g,9,none⟩ (.int .u64 ((N:Int)+s.size))) base 5 1 A n c (bO d):=bU.setOther AZ _;have Ag:(w.setCell ⟨g,9,none⟩ (.int .u64 ((N:Int)+s.size))).heap.size=w.heap.size:=size_setCell _ _ _;have Ah:=aa bU.block;obtain⟨Ai,H1,AL,Ak,Al,Am⟩:=hq6 AP h1 Ag Af hu AZ;clear AV AP ax h1 Ag bU Af hu jC AZ;have Ao:n+s.size<=maxLen:=by unfold maxLen;omega
 go_enter func56,ntmps56;go_wp2_with (first
  | (at_builtin;go_must ((with_reducible refine ve 5 (.int .u8 0) 1 1 underlying48 QK rfl base A n c (bO d) H1.o s.size (bO s.data.toList) (.string s) (Src.str underlying9) (G8 _) Ao om (by rw [AL.o];exact sj) ?_ ?_);exact⟨rfl,rfl⟩;intro A' c' w1 Aa I Ab;have J:=(I.block g (by rw [AL.o];exact BO) (fun e=>Am.o e.symm)).trans Ai.o;have Ap:w1.cell? (ad g 8)=some (.slice A n c):=aQo w1 g 8 _ _ _ J;have Aq:=aQF w1 g 8 _ _ J;have AO:=aa J;clear J)))
 have Au:Below base w w1:=((Below.refl base w).setCell (p:=ad g 9) (by exact kG) (.int .u64 ((N:Int)+s.size))).grown I (by rw [AL.o];exact sj) (fun k e=>(Ah.o k e).1);rw [Al.o] at Aa;have AJ:=Oi.start kG AO.o Aa Ak.o Au;clear Aa I Ab Ap Aq Au H1 Ai AL AO Ak AB BL BM Ao Ah Al Am;go_loopg [] (D.length / 64) (fun gk wr=>∃ q,q+gk=D.length / 64/\Oi w base g S D (N+s.size) q wr);case atStart=>exact⟨0,om,AJ⟩
 case round =>
  clear AJ;obtain⟨q,Bn,Aw,Ay,BP,Az,M,Y,A7⟩:=hrel;have BA:=A7.2.1;by_cases BF:64<=D.length - 64 * q
  ·obtain⟨b,o,cur,bf,rfl,Bo,Ad,_,BQ,BG⟩:=A7.at_ om;have BH:∀ j,j < 64->wr.cell? (ad b (o+j))=some (.int .u8 (((D.drop (64 * q)).take 64).getD j 0).toNat):=by intro j aD;rw [cell_of_row wr b _ cur _ _ Ad,BG j om,Tt _ (by rw [List.length_drop];omega),List.getD_eq_getElem?_getD,List.getD_eq_getElem?_getD,List.getElem?_take,if_pos aD]
   have BX:b≠g:=fun e=>A7.ne Y dc (by rw [bV,e];rfl);obtain⟨Bb,Bc,Bd⟩:=hq3 Y A7 BH;have Ab:=ic Ad;obtain⟨m,hm⟩:=ai (D.length - 64 * q);have AB:wr.cell? (ad g 8)=some (.slice (some ⟨b,o,none⟩) m M):=by rw [hm];exact aQo wr g 8 _ _ _ Y
   have AA:=aa hm;rw [<- hm] at BF BA;clear hm Y A7 BH Ad BQ BG Aw;have Bp:(64:Int)<=m:=om;have Bq:(64:Int)<=M:=om;go_wp2_with fail;go_still_tail 8,kr;go_wp2_with fail;refine (aoV g _ _ (bN.blocks q S D) wr.drew Bb.o (by decide:8<=10) (fun j aD=>aoZ _ _ _ _ _ aD) b o M ((D.drop (64 * q)).take 64) Ab Bd.o).mono ?_;rintro e af ⟨rfl,J,I⟩;rw [azJ] at J;have Ap:af.cell? (ad g 8)=some (.slice (some ⟨b,o,none⟩) m M):=by rw [AA.o];exact aQo af g 8 _ _ _ J
   have Aq:=aQF af g 8 _ _ J;have AO:=aa J;clear J AB;have Bf:wr.grownBy af (some g):=⟨I.os,I.tape,I.output,I.size,I.block⟩;have Ae:=fun (A:aRC) hA=>Oi.round (A:=A) kG (by have:=AA.o;omega) Ay om Bc.o BX AO.o Bf hA;rw [<- AA.o] at Ae;have BI:=aa Ae;clear Ae I;by_cases BJ:M=64
   ·subst BJ;go_wp2;go_roundg (gk - 1);case rel=>exact⟨q+1,by have:=AA.o;omega,by have BK:=BI.o (some ⟨b,o,none⟩) sp;rw [show m - 64=0 by omega] at BK;exact BK⟩
    case measure=>have:=AA.o;omega
   ·go_wp2;go_roundg (gk - 1);case rel=>exact⟨q+1,by have:=AA.o;omega,BI.o _ (by rw [if_neg BJ];simp [DI])⟩
    case measure=>have:=AA.o;omega
  ·have AJ:Oi w base g S D (N+s.size) (D.length / 64) wr:=by rw [show D.length / 64=q by omega];exact⟨Aw,Ay,BP,Az,M,Y,A7⟩
   obtain⟨m,hm⟩:=ai (D.length - 64 * q);have AB:wr.cell? (ad g 8)=some (.slice Az m M):=by rw [hm];exact aQo wr g 8 _ _ _ Y
   rw [<- hm] at BF;have Bi:=aa AJ;clear AJ hm Y A7 BA;go_wp2;go_end0;exact⟨rfl,Bi.o⟩
theorem azP (w:aRB) (base g:Nat) (l:aRH) (s:ByteArray) (h:Oh w base g l) (hlen:l.length+s.size<=140737488355328) (sj:base<=w.heap.size) :
  CR 56 #[pp g 0,.string s] w (.tuple #[]) fun w'=>Oh w' base g (l++s.data.toList)/\Below base w w'/\w.heap.size<=w'.heap.size:=by
 obtain⟨AV,J,A,c,ax,M⟩:=h;have Y:(l.drop (64 * (l.length / 64))).length=l.length - 64 * (l.length / 64):=List.length_drop;rw [<- Y] at ax M;have A7:s.data.toList.length=s.size:=by rw [Array.length_toList];rfl
 refine (azL w base g _ _ l.length A c s _ rfl J sj ax M hlen om).mono ?_;rintro e w' ⟨rfl,AZ,AJ,AL,A',c',AO,AP⟩;have I:(l.drop (64 * (l.length / 64))++s.data.toList).length=l.length - 64 * (l.length / 64)+s.size:=by rw [List.length_append,Y,A7]
 have hl:(l++s.data.toList).length=l.length+s.size:=by rw [List.length_append,A7]
 have AA:(l++s.data.toList).length / 64=l.length / 64+(l.drop (64 * (l.length / 64))++s.data.toList).length / 64:=by rw [I,hl];omega
 have AB:(l++s.data.toList).drop (64 * (l.length / 64))=l.drop (64 * (l.length / 64))++s.data.toList:=by rw [List.drop_append_of_le_length om]
 refine⟨rfl,⟨om,J,A',c',?_,?_⟩,AJ,AL⟩
 ·rw [AA,bN.acV,AB,bN.aoN (l.length / 64) bN.start (l++s.data.toList) l (by rw [List.take_append_of_le_length om]),hl];rw [show l.length+s.size - 64 * (l.length / 64+(l.drop (64 * (l.length / 64))++s.data.toList).length / 64)=(l.drop (64 * (l.length / 64))++s.data.toList).length - 64 * ((l.drop (64 * (l.length / 64))++s.data.toList).length / 64) by rw [I];omega];exact AO
 ·rw [AA,hl,show 64 * (l.length / 64+(l.drop (64 * (l.length / 64))++s.data.toList).length / 64)=64 * (l.length / 64)+64 * ((l.drop (64 * (l.length / 64))++s.data.toList).length / 64) by omega,<- List.drop_drop,AB,
   show l.length+s.size - (64 * (l.length / 64)+64 * ((l.drop (64 * (l.length / 64))++s.data.toList).length / 64))=(l.drop (64 * (l.length / 64))++s.data.toList).length - 64 * ((l.drop (64 * (l.length / 64))++s.data.toList).length / 64) by rw [I];omega]
  exact AP
end
namespace bN
theorem azQ (n:Nat):(eight n).length=8:=by simp [eight]
theorem azR (n:Nat):(tail n).length=1+(119 - n % 64) % 64+8:=by simp only [tail,List.length_cons,List.length_append,List.length_replicate,azQ];omega
theorem azS (l d:aRH) (S:kT) (U:aRH) (N z q:Nat) (eZ:N=l.length) (aT:d=l.drop (64 * (l.length / 64))) (bM:S=blocks (l.length / 64) start l) (dB:z=(119 - N % 64) % 64)
  (ik:U=d++128 :: (List.replicate z 0++eight (8 * N))) (aH:q=U.length):out (blocks (q / 64) S U)=sum l:=by
 have I:U=(whole l).drop (64 * (l.length / 64)):=by rw [whole,List.drop_append_of_le_length om,<- aT,ik,dB,eZ];rfl
 have J:(whole l).length=l.length+(1+(119 - l.length % 64) % 64+8):=by rw [whole,List.length_append,azR]
 have M:q=(whole l).length - 64 * (l.length / 64):=by rw [aH,I,List.length_drop]
 have he:(whole l).length / 64=l.length / 64+q / 64:=om;rw [sum,he,acV,<- I,bM];congr 2;exact aoN _ _ _ _ (by rw [whole,List.take_append_of_le_length om])
end bN
section
open Go.RowKit
theorem azT:Sz 59 32:=kr
structure xJ (w wr:aRB) (L:List UInt32):Prop where
 res:wr.heap[w.heap.size]?=some (.cells (bO (List.replicate 32 0)).toArray 59 (0,0))
 st:Words wr (w.heap.size+1) 166 L
 below:Bl w wr
theorem xJ.size {w wr:aRB} {L:List UInt32} (h:xJ w wr L):w.heap.size+2<=wr.heap.size:=by have:=h.st.lt;omega
theorem xJ.ext {w wr af:aRB} {L:List UInt32} (h:xJ w wr L) (ae:Below (w.heap.size+2) wr af):xJ w af L :=
 ⟨(ae.block _ om).trans h.res,(ae.block _ om).trans h.st,h.below.trans (ae.mono om)⟩
theorem xJ.grown {w wr af:aRB} {L:List UInt32} {row:Option Nat} (h:xJ w wr L) (ax:wr.grownBy af row) (av:∀ k,row=some k->w.heap.size+2<=k):xJ w af L:=by have hs:=h.size;refine h.ext ⟨ax.os,ax.tape,ax.output,ax.size,fun k hk=>ax.block k om (fun e=>?_)⟩;have:=av k e.symm;omega
theorem xJ.alloc {w wr:aRB} {L:List UInt32} (h:xJ w wr L) (o:Obj):xJ w (wr.alloc o) L:=h.ext ((Below.refl _ _).alloc h.size o)
theorem xJ.start (w:aRB) (S:bN.kT):xJ w (((w.alloc (.cells (bO (List.replicate 32 0)).toArray 59)).alloc (.cells (fw (List.replicate 8 0)).toArray 166)).setRow (w.heap.size+1) (laid (fw (List.replicate 8 0)).toArray 0 (fw S.list))) S.list:=by have e:laid (fw (List.replicate 8 0)).toArray 0 (fw S.list)=(fw S.list).toArray:=EC rfl;rw [e];exact⟨(aQA _ _ _ _ om).trans (heap_alloc2_old w _ _),aQB _ _ _ _ _ _ (heap_alloc2_new w _ _),Kg (gK.alloc sp _) om _⟩
def Om (w wr:aRB) (S:bN.kT) (T:aRH) (v:Value):Prop :=
 xJ w wr S.list/\∃ A c,v = .slice A T.length c/\Own wr (w.heap.size+2) 5 1 A T.length c (bO T)
theorem Om.push {w wr af:aRB} {S:bN.kT} {T:aRH} {A A':aRC} {n c c':Nat} {o:Obj} {b:UInt8} {x:Int} (aB:n=T.length) (vR:xJ w wr S.list) (bU:Own wr (w.heap.size+2) 5 1 A n c (bO T))
  (iR:(wr.alloc o).grownBy af (bV A)) (zi:Own af (w.heap.size+2) 5 1 A' (n+1) c' (bO T++[.int .u8 x])) (ah:x=b.toNat):Om w af S (T++[b]) (.slice A' (n+1) c'):=by
 subst ah aB;rw [aog] at zi;refine⟨(vR.alloc o).grown iR (fun k e=>(bU.block k e).1),A',c',by rw [List.length_append];rfl,?_⟩;rw [List.length_append];exact zi
theorem azU (d:aRH) (k:Nat):d++128 :: List.replicate (k+1) 0=(d++128 :: List.replicate k 0)++[0]:=by rw [List.replicate_succ',List.append_assoc];rfl
def ac0 (N j:Nat):UInt8:=UInt8.ofNat (8 * N / 2 ^ (56 - 8 * j) % 256)
theorem azV (N j:Nat) (h:j < 8):(bN.eight (8 * N)).take (j+1)=(bN.eight (8 * N)).take j++[ac0 N j]:=by
 have hl:(bN.eight (8 * N)).length=8:=by simp [bN.eight]
 rw [List.take_succ_eq_append_getElem om];congr 2;simp [bN.eight,ac0]
theorem azW (N j:Nat):(8 * (N:Int)) / 2 ^ (56 - 8 * j) % 256=((ac0 N j).toNat:Int):=by
 rw [ac0,UInt8.toNat_ofNat'];have:((8 * N / 2 ^ (56 - 8 * j) % 256 % 2 ^ 8:Nat):Int)=((8 * N / 2 ^ (56 - 8 * j) % 256:Nat):Int):=by rw [Nat.mod_eq_of_lt (Nat.mod_lt _ dc)]
 rw [this];simp
theorem xJ.take {w wr af:aRB} {S S':bN.kT} (h:xJ w wr S.list) (ax:af.heap[w.heap.size+1]?=some (.cells (laid (fw S.list).toArray 0 (fw S'.list)) 166 (0,0))) (iR:wr.grownBy af (some (w.heap.size+1))):xJ w af S'.list:=by have hs:=h.size;rw [show laid (fw S.list).toArray 0 (fw S'.list)=(fw S'.list).toArray from EC rfl] at ax;exact⟨(iR.block _ om sp).trans h.res,ax,h.below.grown iR om (fun k e=>by injection e with e;omega)⟩
theorem ao6 (n:Nat):(bN.eight n).length=8:=by simp [bN.eight]
def Ba (F:bN.kT) (k:Nat):List UInt8:=(bN.out F).take k++List.replicate (32 - k) 0
theorem TI (F:bN.kT):(bN.out F).length=32:=by simp [bN.out]
theorem azX (F:bN.kT) (k:Nat) (h:k<=32):(Ba F k).length=32:=by rw [Ba,List.length_append,List.length_take,TI,List.length_replicate];omega
theorem azY (F:bN.kT) (k:Nat) (h:k < 32):(Ba F k).set k (bN.byteOf F k)=Ba F (k+1):=by
 have e:(bN.out F)[k]'(by rw [TI];omega)=bN.byteOf F k:=by simp [bN.out]
 have hl:((bN.out F).take k).length=k:=by rw [List.length_take,TI];omega
 rw [Ba,Ba,List.set_append_right _ _ om,hl,Nat.sub_self,List.take_succ_eq_append_getElem (by rw [TI];omega),e,show 32 - k=(32 - (k+1))+1 by omega,List.replicate_succ,List.append_assoc];rfl
theorem azZ (F:bN.kT):Ba F 32=bN.out F:=by rw [Ba,List.take_of_length_le (by rw [TI];omega)];simp
theorem az0 (l:aRH) (j:Nat) (b:UInt8):(bO l).toArray.setIfInBounds j (.int .u8 b.toNat)=(bO (l.set j b)).toArray:=by simp [bO,List.map_set]
structure Kr (w wr:aRB) (F:bN.kT) (G k:Nat):Prop where
 mem:xJ w wr F.list
 ac1:wr.heap[G]?=some (.cells (bO (Ba F k)).toArray 59 (0,0))
 ge:w.heap.size+2<=G
theorem Kr.word {w wr:aRB} {F:bN.kT} {G k:Nat} (h:Kr w wr F G k) (j:Nat) (aD:j < 32):wr.cell? ⟨w.heap.size+1,j / 4,none⟩=some (.int .u32 (F.list.getD (j / 4) 0).toNat) :=
 h.mem.st.cell (by have:F.list.length=8:=rfl;omega)
theorem Kr.frozen {w wr:aRB} {F:bN.kT} {G k:Nat} (h:Kr w wr F G k) (j:Nat):wr.frozen? ⟨G,j,none⟩=false:=aQF wr G j _ _ h.ac1
theorem Kr.target {w wr:aRB} {F:bN.kT} {G k:Nat} (h:Kr w wr F G k) (j:Nat) (aD:j < 32):wr.cell? (ad G j)=some (.int .u8 ((Ba F k).getD j 0).toNat):=by
 have hk:(Ba F k).length >= 32:=by rw [Ba,List.length_append,List.length_take,TI,List.length_replicate];omega
 exact aQo wr G j _ _ _ h.ac1 |>.trans (by rw [List.getElem?_toArray];exact Tt _ om)
theorem zk {l:aRH} (h:l.length=32):(prog.info? 59).map (·.size)=some (bO l).length:=by rw [xf,h];exact azT
theorem V3 {l:aRH} (h:l.length=32):0+(bO l).length<=(bO (List.replicate 32 0)).toArray.size:=by rw [xf,h];exact aQm 32
theorem Kr.set {w wr:aRB} {F:bN.kT} {G k:Nat} (h:Kr w wr F G k) (hk:k < 32) (v:Int) (aZ:v=(bN.byteOf F k).toNat):Kr w (wr.setCell ⟨G,k,none⟩ (.int .u8 v)) F G (k+1):=by
 subst aZ;have I:=h.ge;refine⟨⟨?_,?_,?_⟩,?_,h.ge⟩
 ·exact (aRs wr _ _ _ (by simp;omega)).trans h.mem.res
 ·exact (aRs wr _ _ _ (by simp;omega)).trans h.mem.st
 ·exact h.mem.below.setCell (by simp;omega) _
 ·rw [heap_setCell_same wr G k _ _ _ h.ac1,az0,azY F k hk]
theorem az1 (F:bN.kT) (k:Nat):(((F.list.getD (k / 4) 0).toNat:Int) / 2 ^ (24 - 8 * (k % 4))) % 256=((bN.byteOf F k).toNat:Int):=by
 have h1:∀ (x:UInt32) (m:Nat),m < 4->((x >>> (UInt32.ofNat (24 - 8 * m))).toUInt8).toNat=x.toNat / 2 ^ (24 - 8 * m) % 256:=by
  intro x m hm;rw [UInt32.toNat_toUInt8,UInt32.toNat_shiftRight,Nat.shiftRight_eq_div_pow];have:(UInt32.ofNat (24 - 8 * m)).toNat % 32=24 - 8 * m:=by rw [UInt32.toNat_ofNat'];omega
  rw [this]
 rw [bN.byteOf,h1 _ _ (Nat.mod_lt _ dc)];simp
theorem az2 (w:aRB) (base g:Nat) (l:aRH) (h:Oh w base g l) (hlen:l.length<=70368744177664) :
  CB 57 #[pp g 0] w (.agg (bO (bN.sum l)).toArray):=by
 obtain⟨AB,Dx,A,c,ax,I⟩:=h;have Ak:=ic ax;obtain⟨m,hm⟩:=ai (l.length - 64 * (l.length / 64));obtain⟨d,A7⟩:=ai (l.drop (64 * (l.length / 64)));obtain⟨S,Al,N,Ad⟩:=nq2 (bN.blocks (l.length / 64) bN.start l) l.length;rw [<- hm,<- Al,<- Ad] at ax;rw [<- hm,<- A7] at I;have AV:d.length=m:=by rw [A7,hm,List.length_drop]
 have Dy:m < 64:=om;rw [<- Ad] at hlen;obtain⟨Am,Ck,Cm,Cn,BO,Co,BP⟩:=hq7 ax I A7 Al Ad hm AV;have BQ:(⟨d.toArray⟩:ByteArray).size=m:=AV;have Cs:=aa (show (⟨d.toArray⟩:ByteArray).size<=maxLen by rw [BQ];unfold maxLen;omega);have Ct:=aa (show d.length+1<=maxLen by rw [AV];unfold maxLen;omega);have Cv:=aa (show (d.length+1) * 1<=140737488355328 by rw [AV];omega);clear ax I A7 Al Ad hm AV AB BQ;go_enter func57,ntmps57;go_wp2_with (first
  | ((with_reducible refine QE g 0 _ _ _ ((aQN _ _ _ Ak).trans Am.o) (fw S.list) (fun j aD=>by rw [Nat.zero_add];exact aoZ _ _ _ _ _ aD) _ underlying166 (VY S) ?_ ?_);exact⟨rfl,rfl⟩;trace "load")
  | ((with_reducible refine yz (w.heap.size+1) 0 (.agg (fw S.list).toArray) (fw S.list) (qD _) (fw (List.replicate 8 0)).toArray 166 ?_ (VY S) (aoT S) (VW _) ?_ ?_);exact heap_alloc2_new w _ _;exact⟨rfl,rfl⟩;refine aoh (fun x=>xJ w x S.list) (xJ.start w S) ?_;intro w1 J;have Cw:w1.cell? (ad g 8)=some (.slice A m c):=(J.below.cell (p:=ad g 8) Ak).trans (aQo w g 8 _ _ _ Am.o);have BX:=J.below;have AA:=J.size)
  | ((with_reducible refine acO 5 A m c d underlying48 underlying5 underlying9 BP.o (Ck.o.rd.gp BX) ?_ ?_);exact rfl)
  | ((with_reducible refine aoi 5 (w.heap.size+2) ⟨d.toArray⟩ underlying9 underlying48 underlying5 AA Cs.o ?_ ?_);exact rfl;intro iD c2 af Bb Ao Cz;have Ap:Own af (w.heap.size+2) 5 1 iD d.length c2 (bO d):=Bb;clear Bb)
  | (at_builtin;have _t:=Ap;go_must ((with_reducible refine ve 5 (.int .u8 0) 1 1 underlying48 QK rfl (w.heap.size+2) iD d.length c2 (bO d) (Ap.alloc _) 1 [.int .u8 128] (.slice (some ⟨af.heap.size,0,none⟩) 1 1) (Src.slice underlying48 (Rd.one af _ _)) acN Ct.o Cv.o ?_ ?_ ?_);(simp;have:=Ao.size;omega);exact⟨rfl,rfl⟩;intro cO bF aC AJ AL Aq;clear Ap)))
 have Bc:=Ao.mono (B':=w.heap.size+2) AA;have Bd:Om w aC S (d++[128]) (.slice cO (d.length+1) bF):=Om.push rfl (J.ext Bc) _t AL AJ rfl;clear J Ao Cz AL Aq AJ Bc _t BX AA Cw;obtain⟨z,Bf⟩:=ai ((119 - N % 64) % 64);have DD:m=N % 64:=by rw [Co.o,BO.o];omega
 have Bi:(m+1+z) % 64=56:=om;have Bn:∀ k,k < z->(m+1+k) % 64≠56:=by intro k hk;omega
 have Dz:z < 64:=om;obtain⟨DF,Bo,DL⟩:=hq3 Bf Bi Bn;clear Bf Bi Bn DD;go_loopg [4] z (fun gk v wr=>∃ k,k+gk=z/\Om w wr S (d++128 :: List.replicate k 0) v);case atStart=>exact⟨0,om,Bd⟩
 case round =>
  clear Bd;obtain⟨k,hk,J,Au,Aw,rfl,I⟩:=hrel;have AZ:(d++128 :: List.replicate k 0).length=m+1+k:=by rw [List.length_append,BP.o,List.length_cons,List.length_replicate];omega
  obtain⟨T,Ay⟩:=ai (d++128 :: List.replicate k 0);rw [<- Ay] at AZ I |-;obtain⟨n,Az⟩:=ai T.length;rw [<- Az] at AZ I |-;obtain⟨Bp,BA,Aa⟩:=hq3 Ay AZ Az;clear Ay Az;have AA:=J.size;by_cases Bq:k < z
  ·have DN:((n:Int) % 64 != 56)=true:=by have:=DL.o k Bq;rw [bne_iff_ne];omega
   clear AZ;go_wp2_with (first
    | (at_builtin;have _t:=I;go_must ((with_reducible refine ve 5 (.int .u8 0) 1 1 underlying48 QK rfl (w.heap.size+2) Au n Aw (bO T) (I.alloc _) 1 [.int .u8 0] (.slice (some ⟨wr.heap.size,0,none⟩) 1 1) (Src.slice underlying48 (Rd.one wr _ _)) acN ?_ ?_ ?_ ?_ ?_);(have:=BA.o;unfold maxLen;omega);(have:=BA.o;omega);(simp;omega);exact⟨rfl,rfl⟩;intro cO bF aC AJ AL Aq;clear I)))
   go_roundg (gk - 1);case rel=>exact⟨k+1,om,by rw [azU,<- Bp.o];exact Om.push Aa.o J _t AL AJ rfl⟩
   case measure=>omega
  ·have Br:k=z:=om;have DN:((n:Int) % 64 != 56)=false:=by have:=Bo.o;rw [bne_eq_false_iff_eq];omega
   have Bt:=aa Br;have E8:n<=130:=om;clear AZ Br Bq hk;have Ae:∀ Ab,xJ w Ab S.list->Ab.cell? (ad g 9)=some (.int .u64 N):=fun Ab h=>(h.below.cell (p:=ad g 9) Ak).trans (aQo w g 9 _ _ _ Am.o);have DR:=aa Ae;clear Ae;go_wp2;have Bu:Om w wr S (T++(bN.eight (8 * N)).take 0) (.slice Au n Aw):=by rw [List.take_zero,List.append_nil,Aa.o];rw [Aa.o] at I;exact⟨J,Au,Aw,rfl,I⟩
   clear J I AA;go_loopg [4,5] 8 (fun gk v i wr=>∃ j,j+gk=8/\i = .int .i64 (56 - 8 * (j:Int))/\Om w wr S (T++(bN.eight (8 * N)).take j) v);case atStart=>exact⟨0,om,rfl,Bu⟩
   case round =>
    clear Bu;obtain⟨j,aD,rfl,J,Bv,Bw,rfl,I⟩:=hrel;obtain⟨U,Af⟩:=ai (T++(bN.eight (8 * N)).take j);rw [<- Af] at I |-;obtain⟨q,AB⟩:=ai U.length;rw [<- AB] at I |-;have E9:q<=n+8:=by rw [AB,Af,List.length_append,Aa.o,List.length_take];omega
    have C8:=aa Af;have Ag:=aa AB;clear Af AB;have AA:=J.size;have Ae:=DR.o wr J;by_cases C9:j < 8
    ·have EB:(0:Int)<=56 - 8 * (j:Int):=om;go_wp2_with (first
      | (at_builtin;have _t:=I;go_must ((with_reducible refine ve 5 (.int .u8 0) 1 1 underlying48 QK rfl (w.heap.size+2) Bv q Bw (bO U) (I.alloc _) 1 [_] (.slice (some ⟨wr.heap.size,0,none⟩) 1 1) (Src.slice underlying48 (Rd.one wr _ _)) acN ?_ ?_ ?_ ?_ ?_);exact mO;omega;(simp;omega);exact⟨rfl,rfl⟩;intro cO bF aC AJ AL Aq;clear I)))
     go_roundg (gk - 1);case rel=>exact⟨j+1,om,by go_num,by rw [azV N j C9,<- List.append_assoc,<- C8.o];exact Om.push Ag.o J _t AL AJ (azW N j)⟩
     case measure=>omega
    ·have ED:(56 - 8 * (j:Int)) < 0:=om;have CE:j=8:=om;have BF:U=T++bN.eight (8 * N):=by rw [C8.o,CE,List.take_of_length_le (by rw [ao6];omega)]
     have DW:q=n+8:=by rw [Ag.o,BF,List.length_append,ao6,Aa.o]
     have CJ:q % 64=0:=by have h1:=BA.o;have BG:=Bo.o;have EG:=Bt.o;omega
     have DX:=aa BF;have DY:=aa CJ;clear BF CE DW CJ Ae C9 aD;go_wp2;go_loopg [4] (q / 64) (fun gk v wr=>∃ p,p+gk=q / 64/\xJ w wr (bN.blocks p S U).list/\∃ A c,v = .slice A (q - 64 * p) c/\Own wr (w.heap.size+2) 5 1 A (q - 64 * p) c (bO (U.drop (64 * p))));case atStart=>exact⟨0,om,J,Bv,Bw,rfl,I⟩
     case round =>
      clear J I AA;obtain⟨p,aL,J,EH,Ah,rfl,I⟩:=hrel;have AA:=J.size;have BH:=I.2.1;by_cases DZ:p < q / 64
      ·obtain⟨b,o,cur,bf,rfl,EI,BI,_,Da,CK⟩:=I.at_ om;have Db:=Ag.o;have CL:∀ j,j < 64->wr.cell? (ad b (o+j))=some (.int .u8 (((U.drop (64 * p)).take 64).getD j 0).toNat):=by intro j aD;rw [cell_of_row wr b _ cur _ _ BI,CK j om,Tt _ (by rw [List.length_drop];omega),List.getD_eq_getElem?_getD,List.getD_eq_getElem?_getD,List.getElem?_take,if_pos aD]
       have Dc:=ic BI;have CS:wr.heap[w.heap.size+1]?=some (.cells (fw (bN.blocks p S U).list).toArray 166 (0,0)):=J.st;have EK:b≠w.heap.size+1:=om;obtain⟨r,Y⟩:=ai (q - 64 * p);have EL:64<=r:=om;have EM:(64:Int)<=r:=om;rw [<- Y] at I BH |-;have EO:(64:Int)<=Ah:=om;obtain⟨AO,De,Df,Dg,Dh⟩:=hq5 Y CL CS I J;clear Y CL CS I J BI Da CK Db;go_wp2_with fail;refine (aoV (w.heap.size+1) _ _ (bN.blocks p S U) wr Df.o (by decide:8<=8) (fun j _=>by rw [List.getElem?_toArray]) b o Ah ((U.drop (64 * p)).take 64) Dc De.o).mono ?_;rintro e af ⟨rfl,CU,BJ⟩;have BK:=xJ.take (S:=bN.blocks p S U) (S':=bN.block (bN.blocks p S U) ((U.drop (64 * p)).take 64)) Dh.o CU BJ;rw [<- bN.aoO] at BK;have A7:=(Dg.o.grown BJ (fun b' Dk e=>by simp [bV] at Dk;injection e with e;omega)).drop (k:=64) om;rw [Nat.mul_one,<- aof,List.drop_drop,show 64 * p+64=64 * (p+1) by omega] at A7;have CV:=aa BK;have CW:=aa A7;clear CU BJ BK A7;by_cases CZ:Ah=64
       ·subst CZ;go_wp2;go_roundg (gk - 1);case rel =>
         refine⟨p+1,om,CV.o,some ⟨b,o,none⟩,0,by rw [show q - 64 * (p+1)=0 by have:=AO.o;omega],?_⟩;have Ai:=CW.o;rw [show q - 64 * (p+1)=r - 64 by have:=AO.o;omega];simpa using Ai
        case measure=>omega
       ·go_wp2;go_roundg (gk - 1);case rel =>
         refine⟨p+1,om,CV.o,some ⟨b,o+64,none⟩,Ah - 64,by rw [show q - 64 * (p+1)=r - 64 by have:=AO.o;omega],?_⟩;have Ai:=CW.o;rw [if_neg CZ] at Ai;rw [show q - 64 * (p+1)=r - 64 by have:=AO.o;omega];simpa [DI] using Ai
        case measure=>omega
      ·have Ca:p=q / 64:=om;have Dl:=aa Ca;obtain⟨r,Y⟩:=ai (q - 64 * p);have EP:¬ (0:Int) < r:=by have:=DY.o;omega
       rw [<- Y] at I BH |-;obtain⟨F,BL⟩:=ai (bN.blocks p S U);rw [<- BL] at J;have Dm:=aa BL;clear BL Y I BH DZ aL Ca;go_wp2;have Cb:(wr.alloc (.cells (bO (List.replicate 32 0)).toArray 59)).heap[wr.heap.size]?=some (.cells (bO (Ba F 0)).toArray 59 (0,0)):=aQz wr _;have Ce:=J.alloc (.cells (bO (List.replicate 32 0)).toArray 59);have M:Kr w (wr.alloc (.cells (bO (List.replicate 32 0)).toArray 59)) F wr.heap.size 0:=⟨Ce,Cb,by have:=J.size;omega⟩;have Dp:∃ G,G=wr.heap.size:=⟨_,rfl⟩;clear Cb Ce J;obtain⟨G,Cf⟩:=Dp;rw [<- Cf] at M |-;clear Cf;go_loopw [54] (fun i Ab=>∃ k:Nat,k<=32/\i = .int .i64 k/\Kr w Ab F G k) (fun i _=>32 - (intOf i).toNat);case atStart=>exact⟨0,om,rfl,M⟩
       case round =>
        clear M;obtain⟨k,hk,rfl,M⟩:=hrel;by_cases BM:k < 32
        ·have hcell:=M.word k BM;have ER:=M.frozen k;have EU:=M.target k BM;have EW:(0:Int)<=24 - 8 * ((k:Int) % 4):=om;have Dq:=aa M;clear M;go_wp2;go_roundw;case rel=>exact⟨k+1,om,by go_num,Dq.o.set BM _ (by rw [<- az1,List.getD_eq_getElem?_getD])⟩
         case measure=>simp [intOf];omega
        ·have Cg:k=32:=om;have Dr:=aa Cg;have h1:=aa M.ac1;have BG:=aa M.mem.res;have ae:=aa M.mem.below;have Ci:=azX F k om;have AP:=aa Ci;clear Cg hk M Ci;go_wp2_with (first
          | ((with_reducible refine QE G 0 _ _ _ h1.o (bO (Ba F k)) (fun j _=>Yz _ j) _ underlying59 (zk AP.o) ?_ ?_);exact⟨rfl,rfl⟩)
          | ((with_reducible refine yz w.heap.size 0 (.agg (bO (Ba F k)).toArray) (bO (Ba F k)) (qD _) _ _ BG.o (zk AP.o) (V3 AP.o) (G8 _) ?_ ?_);exact⟨rfl,rfl⟩))
         have Y:=aQB wr w.heap.size _ (laid (bO (List.replicate 32 0)).toArray 0 (bO (Ba F k))) _ _ BG.o;rw [EC (by rw [xf,AP.o,List.size_toArray,xf,List.length_replicate])] at Y;have AO:=aa Y;clear Y;have Dt:Ba F k=bN.sum l:=by rw [Dr.o,azZ,Dm.o,Dl.o];refine bN.azS l d S U N z q BO.o Cm.o Cn.o DF.o ?_ Ag.o;rw [DX.o,Bp.o,Bt.o,List.append_assoc,List.cons_append]
         rw [<- Dt];refine aQx (v:=.agg (bO (Ba F k)).toArray) ?_ rfl ⟨rfl,Kg ae.o (aQm _) _⟩;rw [EC (by rw [xf,AP.o,List.size_toArray,xf,List.length_replicate])];exact aQO rfl _ _ w.heap.size 59 _ (0,0) _ rfl AO.o underlying59 rfl (by rw [List.size_toArray];exact zk AP.o)
end
section
open Go.RowKit
theorem yB (l:aRH):(bN.sum l).length=32:=TI _
structure uH (w wr:aRB):Prop where
 row:wr.heap[w.heap.size]?=some (.cells (bO (List.replicate 32 0)).toArray 59 (0,0))
 below:Bl w wr
theorem uH.size (h:uH w wr):w.heap.size+1<=wr.heap.size:=by have:=ic h.row;omega
theorem uH.start (w:aRB):uH w (w.alloc (.cells (bO (List.replicate 32 0)).toArray 59)):=⟨aQz w _,gK⟩
theorem uH.ext (h:uH w wr) (ae:Bl wr af):uH w af :=
 ⟨(ae.block _ (by have:=h.size;omega)).trans h.row,h.below.trans (ae.mono (by have:=h.size;omega))⟩
theorem uH.aAc (h:uH w wr) (ae:Below (w.heap.size+1) wr af):uH w af :=
 ⟨(ae.block _ om).trans h.row,h.below.trans (ae.mono om)⟩
theorem uH.ahE (h:uH w wr) (L:aRH):Bl w (wr.setRow w.heap.size (laid (bO (List.replicate 32 0)).toArray 0 (bO L))):=Kg h.below (aQm _) _
theorem uH.wrote (h:uH w wr) (L:aRH) (gY:L.length=32) :
  (wr.setRow w.heap.size (laid (bO (List.replicate 32 0)).toArray 0 (bO L))).heap[w.heap.size]?=some (.cells (bO L).toArray 59 (0,0)):=by
 have I:=aQB wr w.heap.size _ (laid (bO (List.replicate 32 0)).toArray 0 (bO L)) _ _ h.row;rw [EC (by rw [xf,gY,List.size_toArray,xf,List.length_replicate])] at I |-;exact I
def flat:List ByteArray->List UInt8
 | []=>[]
 | p :: ps=>p.data.toList++flat ps
theorem apm (a b:List ByteArray):flat (a++b)=flat a++flat b:=by
 induction a with
 | nil=>rfl
 | cons x a I=>simp [flat,I,List.append_assoc]
theorem apn (ps:List ByteArray) (k:Nat) (h:k < ps.length):flat (ps.take (k+1))=flat (ps.take k)++ps[k].data.toList:=by rw [List.take_succ_eq_append_getElem h,apm];simp [flat]
theorem aAd (ps:List ByteArray) (k:Nat):(flat (ps.take k)).length<=(flat ps).length:=by
 conv=>rhs;rw [<- List.take_append_drop k ps,apm,List.length_append]
 omega
theorem Oh.le {Mk:Nat} (h:Oh w base g l) (ae:Mk<=base):Oh w Mk g l:=by obtain⟨h1,M,A,c,I,J⟩:=h;exact⟨h1,om,A,c,I,J.mono ae⟩
theorem ahF (w:aRB) (A:aRC) (n c:Nat) (ps:List ByteArray) (av:Rd w 1 A n (ps.map Value.string)) (aAe:n<=maxLen) (hlen:(flat ps).length<=70368744177664) :
  CB 33 #[.slice A n c] w (.agg (bO (bN.sum (flat ps))).toArray):=by
 have AO:ps.length=n:=by have:=av.1;simpa using this
 have Ab:(n:Int)<=9223372036854775807:=by unfold maxLen at aAe;omega
 have AA:=aa hlen;clear hlen;go_enter func33,ntmps33;have AB:=uH.start w;go_wp2_with (first
  | (go_at_call 55; refine (azI _).mono ?_;rintro e w1 ⟨g,rfl,hA,ae⟩;have I:=AB.ext ae;have M:w.heap.size+1<=(World.heap w1).size:=I.size;clear AB)
  | fail)
 have J:Oh w1 (w.heap.size+1) g (flat (ps.take 0)):=hA.le sp;clear hA ae;go_loopw [9] (fun i wr=>∃ k:Nat,k<=n/\i = .int .i64 k/\uH w wr/\Oh wr (w.heap.size+1) g (flat (ps.take k))) (fun i _=>n - (intOf i).toNat);case atStart=>exact⟨0,om,rfl,I,J⟩
 case round =>
  clear I J M;obtain⟨k,hk,rfl,I,hA⟩:=hrel;have M:=I.size;by_cases AP:k < n
  ·obtain⟨b,o,rfl,hcell⟩:=(av.gp I.below).cell (j:=k) (by simpa [AO] using AP);have AJ:k < ps.length:=om;rw [List.getElem_map] at hcell;have AV:(flat (ps.take k)).length+ps[k].size<=140737488355328:=by have h1:=aAd ps (k+1);have Ad:=AA.o;rw [apn ps k AJ,List.length_append,wG] at h1;omega
   have AZ:(k:Int) < n:=om;go_wp2_with (first
    | (go_at_call 56; refine (azP _ (w.heap.size+1) g _ _ hA AV M).mono ?_;rintro e af ⟨rfl,Aa,Y,Ae⟩)
    | fail)
   go_roundw;case rel=>exact⟨k+1,om,by go_num,I.aAc Y,by rw [apn ps k AJ];exact Aa⟩
   case measure=>simp [intOf];omega
  ·have Af:k=n:=om;have AL:flat (ps.take k)=flat ps:=by rw [List.take_of_length_le om]
   have AZ:¬ (k:Int) < n:=om;have J:=hA;rw [AL] at J;clear AL hA;go_wp2_with (first
    | (go_at_call 57; refine (az2 _ _ g _ J AA.o).mono ?_;rintro e af ⟨rfl,Y⟩;have A7:=I.ext Y;clear I)
    | ((with_reducible refine yz _ 0 (.agg (bO (bN.sum (flat ps))).toArray) (bO (bN.sum (flat ps))) (qD _) _ _ (uH.row A7) (zk (yB (flat ps))) (V3 (yB (flat ps))) (G8 _) ?_ ?_);exact⟨rfl,rfl⟩))
   exact aQx (v:=.agg (bO (bN.sum (flat ps))).toArray) (aQO rfl _ _ _ 59 _ (0,0) _ rfl (uH.wrote A7 _ (yB (flat ps))) underlying59 rfl (by rw [List.size_toArray];exact zk (yB (flat ps)))) rfl ⟨rfl,uH.ahE A7 _⟩
def DT (w:aRB) (base g:Nat) (l:aRH):Prop :=
 base<=g/\∃ p A c,w.heap[g]?=some (.cells #[p,.slice A l.length c] 198 (0,0))/\(p = .pointer none\/p = .pointer (some ⟨g,0,none⟩))/\Own w base 5 1 A l.length c (bO l)
theorem apo (w:aRB) (r:Option Nat):w.grownBy w r:=⟨rfl,rfl,rfl,aQm _,fun _ _ _=>rfl⟩
theorem ahG (w:aRB) (g:Nat) (v p:Value) (ax:w.heap[g]?=some (.cells #[p,v] 198 (0,0))) (aL:p = .pointer none\/p = .pointer (some ⟨g,0,none⟩)) :
  CR 153 #[pp g 0] w (.tuple #[]) fun w'=>w'.heap[g]?=some (.cells #[pp g 0,v] 198 (0,0))/\w.grownBy w' (some g):=by
 have hc:w.cell? (ad g 0)=some p:=aQo w g 0 _ _ _ ax;have J:w.frozen? ⟨g,0,none⟩=false:=aQF w g 0 _ _ ax;have I:w.shape? g=some (198,2):=by simp [World.shape?,ax]
 rcases aL with rfl | rfl
 ·go_enter func153,ntmps153;go_wp2;rw [Lib.run_to_unsafe w ⟨g,0,none⟩ underlying196 underlying304 rfl dc I (Nat.zero_lt_succ 1)];simp only [Result.andThen];rw [Oper.upon_value];go_wp2;rw [run_callFunc_extern func200 kr kr kr (e:=Extern.AbiNoEscape.same) kr];rw [Lib.run_noEscape];simp only [Result.andThen];rw [Oper.upon_value];go_wp2;rw [Lib.run_from_unsafe w ⟨g,0,none⟩ underlying304 underlying196 rfl I kr];simp only [Result.andThen];rw [Oper.upon_value];go_wp2;go_end0;exact⟨rfl,by rw [heap_setCell_same w g 0 _ _ _ ax];rfl,aoU (apo w _) _⟩
 ·go_enter func153,ntmps153;go_wp2;rw [Lib.run_neq_ptr_same w _ underlying196 rfl];go_wp2;go_end0;exact⟨rfl,ax,apo w _⟩
theorem ahH {p:Value} (t:TypeId) (h:w.heap[g]?=some (.cells #[p,v] t (0,0))) (u:Value):(w.setCell ⟨g,1,none⟩ u).heap[g]?=some (.cells #[p,u] t (0,0)):=by rw [heap_setCell_same w g 1 _ _ _ h];rfl
theorem aAf (w:aRB) (base g:Nat) (l:aRH) (h:DT w base g l) (b:UInt8) (hlen:l.length+1<=140737488355328) (sj:base<=w.heap.size) :
  Calls prog 103 #[pp g 0,.int .u8 b.toNat] w fun e w'=>e = .returned .nilIface/\DT w' base g (l++[b])/\Below base w w':=by
 obtain⟨AJ,p,A,c,ax,aL,J⟩:=h;have Ab:=ic ax;have AL:=J.ne ax dc;obtain⟨n,A7⟩:=ai l.length;rw [<- A7] at ax J hlen;have AO:=aa A7;clear A7;go_enter func103,ntmps103;go_wp2_with (first
  | (go_at_call 153; refine (ahG w g _ p ax aL).mono ?_;rintro e w1 ⟨rfl,M,I⟩;have Ad:w1.cell? (ad g 1)=some (.slice A n c):=aQo w1 g 1 _ _ _ M;have Ae:w1.frozen? ⟨g,1,none⟩=false:=aQF w1 g 1 _ _ M;have AA:=J.grown I (fun b ae e=>AL (ae.trans e));clear J)
  | (at_builtin;have _t:=AA;go_must ((with_reducible refine ve 5 (.int .u8 0) 1 1 underlying48 QK rfl base A n c (bO l) (AA.alloc _) 1 [.int .u8 b.toNat] (.slice (some ⟨w1.heap.size,0,none⟩) 1 1) (Src.slice underlying48 (Rd.one w1 _ _)) acN ?_ ?_ ?_ ?_ ?_);exact mO;omega;(simp;have:=I.size;omega);exact⟨rfl,rfl⟩;intro cO bF aC AP AV Af;clear AA;have Y:=(AV.block g (by simp;have:=I.size;omega) (fun e=>AL e.symm)).trans ((aQN w1 _ g (ic M)).trans M);have Ag:aC.cell? (ad g 1)=some (.slice A n c):=aQo aC g 1 _ _ _ Y;have Ah:aC.frozen? ⟨g,1,none⟩=false:=aQF aC g 1 _ _ Y)))
 go_ret;have AZ:Below base w w1:=(Below.refl base w).grown I sj (fun k e=>by injection e with e;omega);have Aa:Below base w aC:=(AZ.alloc (by have:=I.size;omega) _).grown AV (by simp;have:=I.size;omega) (fun k e=>(_t.block k e).1)
 ·refine⟨rfl,⟨AJ,_,cO,bF,?_,.inr rfl,?_⟩,Aa.setCell (p:=ad g 1) (by exact AJ) _⟩
  ·have:=ahH _ Y (.slice cO (n+1) bF);rw [List.length_append];rw [AO.o] at this |-;exact this
  ·have AB:=AP.setOther (p:=ad g 1) (AP.ne Y dc) (.slice cO (n+1) bF);rw [aog] at AB;rw [List.length_append];rw [AO.o] at AB |-;exact AB
theorem aAg {e:TypeId} (hc:P.cellsOf e=1) (count o n:Nat) (aB:o+n<=count):liesAt P P.depth e count o e n=true:=by have I:P.depth=(2 * (P.types.size+Made.depth)+1)+1:=rfl;rw [I];simp only [liesAt,Bool.or_eq_true];left;rw [I];simp [rowAt,hc,aB,sameLayout,Nat.mod_one]
theorem apq (w:aRB) (pt it ty e:TypeId) (aL:P.underlying pt=some (.pointer e)) (hc:P.cellsOf e=1) (g o cells:Nat) (V6:w.shape? g=some (e,cells)) (l:aRH) (aX:l≠[]) (aB:o+l.length<=cells) (uG:l.length<=9223372036854775807)
  (hcell:∀ j x,l[j]?=some x->w.cell? ((⟨g,o,none⟩:Addr).add j)=some (.int .u8 x.toNat)) :
  (Builtin.unsafeString_ #[pt,it] ty #[pp g o,.int .i64 l.length]).run P w = .ok (.string ⟨l.toArray⟩) (w.freeze ⟨g,o,none⟩ l.length):=by
 have hl:l.length≠0:=by simpa using aX
 have I:=Lib.run_loadBytes (P:=P) w l ⟨g,o,none⟩ .empty hcell;have J:=aAg (P:=P) hc (cells / P.cellsOf e) o l.length (by rw [hc];simpa using aB);have M:¬ (9223372036854775807:Int) < (l.length:Int):=om;have Y:IntKind.i64.max=9223372036854775807:=rfl;have A7:¬ (l.length:Int) < 0:=om;show Sem.run P (Bind.bind (asInt (.int .i64 l.length)) _) w=_;simp [asInt,asIntOf,Y,M,A7,hl,variablesAt,V6,elemOf,run_underlying aL,J,I]
theorem apr (w:aRB) (base g:Nat) (l:aRH) (h:DT w base g l) (aX:l≠[]) :
  Calls prog 104 #[pp g 0] w fun e w'=>e = .returned (.string ⟨l.toArray⟩)/\Below base w w':=by
 obtain⟨AL,p,A,c,ax,aL,I⟩:=h;have AO:w.drew.cell? (ad g 1)=some (.slice A l.length c):=aQo w g 1 _ _ _ ax;have AP:0 < l.length:=aRt.2 aX;have AV:=I.2.1;have Y:=I.2.2.1;obtain⟨b,o,cur,bf,rfl,A7,J,AA,AB,M⟩:=I.at_ om;have AZ:(Builtin.unsafeSliceData_ #[48] 256 #[.slice (some ⟨b,o,none⟩) l.length c]).run prog w.drew = .ok (pp b o) w.drew :=
  Lib.run_unsafeSliceData_row _ _ _ _ _ _ om
 have Aa:(Builtin.unsafeString_ #[256,3] 9 #[pp b o,.int .i64 l.length]).run prog w.drew = .ok (.string ⟨l.toArray⟩) (w.drew.freeze ⟨b,o,none⟩ l.length):=by
  refine apq w.drew 256 3 9 5 underlying256 kr b o cur.size (by have AJ:w.drew.heap[b]?=some (.cells cur 5 bf):=J;simp [World.shape?,AJ]) l aX om (by unfold maxLen at Y;omega) ?_;intro j x ah;have aD:j < l.length:=by
   rcases aQD j l.length with h | h
   ·exact h
   ·rw [List.getElem?_eq_none h] at ah;cases ah
  rw [DI];refine (aQo w b (o+j) cur _ _ J).trans ?_;rw [M j om,Tt l aD,List.getD_eq_getElem?_getD,ah];rfl
 clear M AA AB J I ax aL;go_enter func104,ntmps104;go_wp2;go_region;all_goals (go_wp2;go_ret;exact⟨rfl,Lib.below_freeze (Below.drew (Below.refl base w)) (p:=ad b o) A7 _⟩)
theorem DT.below (h:DT w base g l) (ae:Below B w w') (bg:w.heap.size<=B):DT w' base g l:=by obtain⟨I,p,A,c,ax,aL,J⟩:=h;exact⟨I,p,A,c,(ae.block _ (by have:=ic ax;omega)).trans ax,aL,J.below ae bg⟩
def I7 (w:aRB) (g:Nat):Prop:=w.heap[g]?=some (.cells #[.pointer none,.slice none 0 0] 198 (0,0))
theorem I7.at_ (h:I7 w g) (ae:base<=g):DT w base g []:=⟨ae,_,none,0,h,.inl rfl,Own.nil _ _ _ _⟩
theorem aps (w:aRB) (base g:Nat) (h:I7 w g) :
  Calls prog 104 #[pp g 0] w fun e w'=>e = .returned (.string ⟨#[]⟩)/\Below base w w':=by
 have I:w.drew.cell? (ad g 1)=some (.slice none 0 0):=aQo w g 1 _ _ _ h;have J:(Builtin.unsafeSliceData_ #[48] 256 #[.slice none 0 0]).run prog w.drew = .ok (.pointer none) w.drew:=Lib.run_unsafeSliceData_nil _ _ _ _ _;have M:(Builtin.unsafeString_ #[256,3] 9 #[.pointer none,.int .i64 0]).run prog w.drew = .ok (.string ⟨#[]⟩) w.drew:=Lib.run_unsafeString_none _ _ _ _ _;clear h;go_enter func104,ntmps104;go_wp2;go_region;all_goals (go_wp2;go_ret;exact⟨rfl,(Below.refl base w).drew⟩)
end
section
open Go.RowKit Go.Shelf
attribute [local go_sem] Oper.semAt_some
theorem V8 (f:FuncId):Fence.wide.fn f:=trivial
def Ku (x:aRH):Value:=.string (az x)
theorem aAj {l:List (List UInt8)} {x:aRH} (h:l[j]?=some x):(cu l)[j]?=some (Ku x):=by rw [cu,List.getElem?_map,h];rfl
theorem aAk (n:Nat) (aB:1<=n) (l ji n0:Nat) (A:aRC) (cap:Nat) (zs:List (List UInt8)) (EI:zs.length<=1000000000) (bu vS:List (List UInt8)->World->Prop)
  (fM:∀ pre x W,bu pre W->pre.length < zs.length->YieldAt Fence.wide (n - 1) prog l #[Ku x] W fun e W'=>(e = .returned (.bool true)/\bu (pre++[x]) W'/\Below n0 W W')\/(e = .returned (.bool false)/\vS (pre++[x]) W'))
  (W:aRB) (vT:W.cell? (ad ji 0)=some (.slice A zs.length cap)) (av:∀ W',Below n0 W W'->Rd W' 1 A zs.length (cu zs)) (aX:bu [] W) :
  CallsIn Fence.wide n prog 76 #[.func (.yield l) #[] #[],pp ji 0] W fun e W'=>(∃ v,e = .returned v)/\((∃ ys,ys=zs/\bu ys W')\/(∃ pre,pre <+: zs/\vS pre W')):=by
 have AJ:=V8 76;obtain⟨len,hlen⟩:=ai zs.length;rw [<- hlen] at EI fM vT av;refine aQ1 func76 rfl AJ ?_ rfl;simp only [ntmps76,List.size_toArray,List.length_cons,List.length_nil,Nat.reduceAdd,Nat.reduceSub,Array.replicate_succ,Array.replicate_zero,List.push_toArray,List.append_toArray,List.nil_append,List.cons_append]
 gi_wp2
 gi_loopw [7] (fun i wr=>∃ k:Nat,k<=len/\i = .int .i64 k/\bu (zs.take k) wr/\Below n0 W wr) (fun i _=>len - (intOf i).toNat)
 case atStart=>exact⟨0,aQu _,rfl,aX,Below.refl _ _⟩
 case round =>
  obtain⟨k,hk,rfl,I,M⟩:=hrel;by_cases Aa:k < len
  ·obtain⟨x,ah⟩:∃ x,zs[k]?=some x:=⟨_,aQp om⟩;have Y:zs.take (k+1)=zs.take k++[x]:=by rw [List.take_add_one,ah];rfl
   obtain⟨b,o,rfl,hcell⟩:=(av wr M).2 om;have AL:=hcell k _ (aAj ah);unfold Ku at AL;have A7:=fM _ x wr I (by rw [List.length_take];omega);unfold Ku at A7;obtain⟨fn,tmps,assign,body,hy,AO⟩:=A7;have Ab:(0:Int)<=k:=om;have AA:=aa Y;clear ah Y hcell
   gi_wp2
   refine AO.mono ?_;rintro e Ad (⟨rfl,AP,AV⟩ | ⟨rfl,AZ⟩)
   ·gi_wp2
    go_roundw;case rel=>exact⟨k+1,om,by simp,by rw [AA.o];exact AP,M.trans AV⟩
    case measure=>simp [intOf];omega
   ·gi_wp2
    refine qm ?_;exact⟨⟨_,rfl⟩,.inr ⟨_,by rw [<- AA.o];exact List.take_prefix _ _,AZ⟩⟩
  ·obtain rfl:k=len:=om;have AB:bu zs wr:=by rw [hlen,List.take_length] at I;exact I
   gi_wp2
   go_end0;exact⟨⟨_,rfl⟩,.inl (by first | exact AB | exact⟨_,rfl,AB⟩)⟩
theorem aAl (n:Nat) (a:aRC) (len cap:Nat) (w:aRB) :
  CallsIn Fence.wide n prog 48 #[.slice a len cap] w fun e w'=>e = .returned (.func (.func 76) #[] #[pp w.heap.size 0])/\w'=w.alloc (.cells #[.slice a len cap] 24):=by
 refine aQ1 func48 rfl trivial ?_ rfl;simp only [ntmps48,List.size_toArray,List.length_cons,List.length_nil,Nat.reduceAdd,Nat.reduceSub,Array.replicate_succ,Array.replicate_zero,List.push_toArray,List.append_toArray,List.nil_append,List.cons_append]
 gi_wp2
 go_ret;exact⟨rfl,rfl⟩
theorem aAm (n:Nat) (aB:1<=n) (ji n0:Nat) (A:aRC) (cap:Nat) (zs:List (List UInt8)) (EI:zs.length<=1000000000) (w:aRB) (vT:ji < w.heap.size) (CE:n0<=w.heap.size)
  (hc:w.cell? (ad ji 0)=some (.slice A zs.length cap)) (av:∀ W',Below n0 w W'->Rd W' 1 A zs.length (cu zs)) :
  SeqStopsK Fence.wide n prog 76 #[pp ji 0] (fun x:List UInt8=>#[Ku x]) (Below n0) (fun ys=>ys=zs) (fun pre=>pre <+: zs) zs.length w:=fun l bu M W I _ _ Y A7=>by
 refine (aAk n aB l ji n0 A cap zs EI bu M Y W ((I.cell (p:=ad ji 0) vT).trans hc) (fun W' AA=>av W' ((I.mono CE).trans AA)) A7).mono ?_;rintro e W' ⟨he,⟨ys,rfl,aD⟩ | ⟨pre,aL,aD⟩⟩
 ·exact⟨he,.inl ⟨_,rfl,aD⟩⟩
 ·exact⟨he,.inr ⟨pre,aL,aD⟩⟩
end
end Go.Proofs.YtjkinjbkknanbaaGreatDoor
