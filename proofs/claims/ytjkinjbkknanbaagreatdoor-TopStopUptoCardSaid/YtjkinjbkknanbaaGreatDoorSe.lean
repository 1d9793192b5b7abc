/- Pe -/
import Derived.Test.YtjkinjbkknanbaaGreatDoorSd
set_option maxRecDepth 100000
set_option maxHeartbeats 8000000
set_option linter.unusedSimpArgs false
set_option linter.unusedVariables false
namespace Go.Proofs.YtjkinjbkknanbaaGreatDoor
open Go.Proofs.Tryz
variable {i j base b c k g B aO m R n0:Nat} {us xs V:aRW} {q:Option Nat} {l:List ak} {w w' w1 af W dI W':aRU} {t:TypeId} {x:UInt8} {cs args:Array Value} {aZ:Nat × Nat} {A:aRV} {s:aK} {u:Value} {th:rQ} {α:Type} {P:Program} {f:FuncId} {v:Env} {a:ak} {K:Act->World->Prop} {Q:aRX} {N:ByteArray}
section
structure bE where
 begun:Nat->Bool
 got:Nat->Option iU
 dY:List Nat
 bF:Nat->Bool
 has:ak->Bool
def xD (w:o9) (σ:bE) (i:Nat):Prop:=σ.bF i=true/\∀ f∈(bG w i).outs,σ.has f.2=true
def arK (w:o9):List Nat->Prop
 | []=>True
 | u :: us=>(∀ x∈us,xS w x u)/\arK w us
structure wu (w:o9) (dN:aR1) (kZ:bE) (U:aRZ) (σ:bE):Prop where
 right:∀ i o,σ.got i=some o->o=bG w i/\σ.begun i=true
 under:∀ i,i∈U ↔ σ.begun i=true/\σ.got i=none
 reach:∀ i,σ.begun i=true->yT w dN i
 closed:∀ i,σ.got i≠none->∀ j,ym w i j->σ.begun j=true
 dY:∀ i∈σ.dY,σ.begun i=true/\(¬ xD w kZ i\/(bG w i).kind≠1)
 bF:∀ i,σ.bF i=true->(bG w i).kind=1
 F7:∀ i,σ.got i≠none->(bG w i).kind=1->xD w σ i
 Ry:∀ i,kZ.bF i=true->σ.bF i=true
 aau:∀ x,kZ.has x=true->σ.has x=true
 chain:arK w U
variable {w:o9} {dN:aR1} {kZ σ:bE} {U:aRZ}
theorem xD.mono {σ':bE} (h:xD w σ i) (aS:∀ i,σ.bF i=true->σ'.bF i=true) (dR:∀ x,σ.has x=true->σ'.has x=true):xD w σ' i:=⟨aS _ h.1,fun f hf=>dR _ (h.2 f hf)⟩
theorem wu.start (ae:∀ i,kZ.begun i=false) (ax:∀ i,kZ.got i=none) (aB:kZ.dY=[]) (aS:∀ i,kZ.bF i=true->(bG w i).kind=1):wu w dN kZ [] kZ :=
 ⟨fun i o h=>(by rw [ax] at h;cases h),fun i=>(by simp [ae]),fun i h=>(by rw [ae] at h;cases h),fun i h=>absurd (ax i) h,fun i h=>(by rw [aB] at h;simp at h),aS,fun i h=>absurd (ax i) h,fun _ h=>h,fun _ h=>h,trivial⟩
def bE.push (σ:bE) (i:Nat):bE:={ σ with begun:=fun j=>j == i || σ.begun j }
theorem wu.push (h:wu w dN kZ U σ) (ay:σ.begun i=false) (ax:yT w dN i) (hc:∀ x∈U,xS w x i):wu w dN kZ (i :: U) (σ.push i):=by
 have M:σ.got i=none:=by
  cases e:σ.got i with
  | none=>rfl
  | some o=>have:=(h.right i o e).2;rw [ay] at this;cases this
 have hm:∀ j,σ.begun j=true->(σ.push i).begun j=true:=fun j aC=>by simp [bE.push,aC]
 refine⟨fun j o J=>⟨(h.right j o J).1,hm j (h.right j o J).2⟩,fun j=>?_,fun j aC=>?_,fun j aC k hk=>hm k (h.closed j aC k hk),fun j aC=>⟨hm j (h.dY j aC).1,(h.dY j aC).2⟩,h.bF,h.F7,h.Ry,h.aau,hc,h.chain⟩
 ·by_cases I:j=i
  ·subst I;simp [bE.push,M]
  ·have:=h.under j;simp [bE.push,I,this]
 ·by_cases I:j=i
  ·rw [I];exact ax
  ·exact h.reach j (by simpa [bE.push,I] using aC)
theorem wu.ring (h:wu w dN kZ U σ) (hf:HV w) {us:aRZ} (iE:U=i :: us) (hw:ym w i j) (aC:j∈U) {p:ak} (aI:w.jK p=some j):fD w p = .stuck:=by
 have I:xS w j j:=by
  rw [iE] at aC;rcases aQN.1 aC with e | e
  ·subst e;exact .one hw
  ·have:=h.chain;rw [iE] at this;exact (this.1 j e).snoc hw
 rw [aqR aI,aCM hf I]
theorem wu.arL (h:wu w dN kZ U σ) {us:aRZ} (iE:U=i :: us) (hw:ym w i j):∀ x∈U,xS w x j:=by
 intro x ah;rw [iE] at ah;rcases aQN.1 ah with e | e
 ·subst e;exact .one hw
 ·have:=h.chain;rw [iE] at this;exact (this.1 x e).snoc hw
theorem pg.same {s:(w.act i).S} {rs:List kU} (h:pg w i s rs):∀ {s':(w.act i).S} {Ng:List kU},pg w i s' Ng->rs.length=Ng.length->s=s'/\rs=Ng:=by
 induction h with
 | start =>
  intro s' Ng I hl;cases I with
  | start=>exact⟨rfl,rfl⟩
  | step h1 J M=>simp at hl
 | @step s rs p k h aI hk Y =>
  intro s' Ng I hl;cases I with
  | start=>simp at hl
  | @step s1 AP AQ AU h1 J M =>
   obtain⟨AA,AB⟩:=Y h1 (by simpa using hl);subst AA AB;rw [aI] at J;cases J;rw [hk] at M;cases M;exact⟨rfl,rfl⟩
def UM (w:o9) (i:Nat) (s:(w.act i).S):Prop:=∀ p k,(w.act i).asks s=some p->fD w p ≠ .known k
theorem pg.last {s:(w.act i).S} {rs:List kU} (h:pg w i s rs) (hs:UM w i s) {s':(w.act i).S} {Ng:List kU} (mZ:pg w i s' Ng):Ng.length<=rs.length:=by
 induction mZ with
 | start=>simp
 | @step s1 I p k h1 aI hk M =>
  rcases aQW I.length rs.length with Y | AA
  ·simp;omega
  ·obtain⟨J,_⟩:=h.same h1 om;subst J;exact absurd hk (hs p k aI)
def xW (w:o9) (σ:bE) (i q:Nat):Prop:=∀ s rs p j,pg w i s rs->rs.length < q->(w.act i).asks s=some p->w.jK p=some j->σ.begun j=true
theorem xW.zero:xW w σ i 0:=fun _ _ _ _ _ h=>absurd h (aRF _)
theorem xW.mono {σ':bE} {q:Nat} (h:xW w σ i q) (ae:∀ j,σ.begun j=true->σ'.begun j=true):xW w σ' i q:=fun s rs p j h1 I J M=>ae j (h s rs p j h1 I J M)
theorem xW.closed {s:(w.act i).S} {rs:List kU} (h:xW w σ i (rs.length+1)) (aI:pg w i s rs) (hs:UM w i s):∀ j,ym w i j->σ.begun j=true:=by rintro j ⟨s',I,J,h1,M,Y⟩;have:=aI.last hs h1;exact h s' I J j h1 om M Y
def bE.put (σ:bE) (i:Nat) (o:iU):bE:={ σ with got:=fun j=>if j=i then some o else σ.got j }
theorem wu.put {us:aRZ} (h:wu w dN kZ (i :: us) σ) (aB:i ∉ us) (hc:∀ j,ym w i j->σ.begun j=true) (av:(bG w i).kind=1->xD w σ i):wu w dN kZ us (σ.put i (bG w i)):=by
 have ae:=((h.under i).1 sp).1;refine⟨fun j o I=>?_,fun j=>?_,h.reach,fun j aC=>?_,h.dY,h.bF,fun j aC hk=>?_,h.Ry,h.aau,h.chain.2⟩
 ·by_cases e:j=i
  ·subst e;simp [bE.put] at I;exact⟨I.symm,ae⟩
  ·exact h.right j o (by simpa [bE.put,e] using I)
 ·by_cases e:j=i
  ·subst e;simp [bE.put,aB]
  ·have:=h.under j;simp [e] at this;simp [bE.put,e,this]
 ·by_cases e:j=i
  ·subst e;exact hc
  ·exact h.closed j (by simpa [bE.put,e] using aC)
 ·by_cases e:j=i
  ·subst e;exact av hk
  ·exact h.F7 j (by simpa [bE.put,e] using aC) hk
def bE.runs (σ:bE) (i:Nat):bE:={ σ with dY:=σ.dY++[i] }
theorem wu.runs (h:wu w dN kZ U σ) (ay:σ.begun i=true) (av:¬ xD w kZ i\/(bG w i).kind≠1):wu w dN kZ U (σ.runs i) :=
 ⟨h.right,h.under,h.reach,h.closed,fun j aC=>by
  rcases aQ4.1 aC with aC | aC
  ·exact h.dY j aC
  ·rw [List.mem_singleton.1 aC];exact⟨ay,av⟩,h.bF,h.F7,h.Ry,h.aau,h.chain⟩
def bE.keep (σ:bE) (i:Nat) (l:List (ak × ak)):bE:={ σ with bF:=fun j=>j == i || σ.bF j,has:=fun x=>l.any (fun f=>f.2 == x) || σ.has x }
theorem wu.keep {l:List (ak × ak)} (h:wu w dN kZ U σ) (hk:(bG w i).kind=1):wu w dN kZ U (σ.keep i l):=by
 have I:∀ j,σ.bF j=true->(σ.keep i l).bF j=true:=fun j aC=>by simp [bE.keep,aC]
 have J:∀ x,σ.has x=true->(σ.keep i l).has x=true:=fun x ah=>by simp [bE.keep,ah]
 refine⟨h.right,h.under,h.reach,h.closed,h.dY,fun j aC=>?_,fun j aC hk=>(h.F7 j aC hk).mono I J,fun j aC=>I j (h.Ry j aC),fun x ah=>J x (h.aau x ah),h.chain⟩;by_cases e:j=i
 ·rw [e];exact hk
 ·exact h.bF j (by simpa [bE.keep,e] using aC)
theorem ajV:xD w (σ.keep i (bG w i).outs) i:=⟨by simp [bE.keep],fun f hf=>by simp only [bE.keep,Bool.or_eq_true,List.any_eq_true];exact .inl ⟨f,hf,by simp⟩⟩
theorem wu.built (h:wu w dN kZ [] σ) {keep:Prop} (hw:keep->∀ i,dN i->σ.begun i=true):C9 w dN keep (xD w kZ) (xD w σ) σ.got σ.dY:=by
 have ae:∀ i,σ.begun i=true->σ.got i≠none:=fun i I M=>by
  have:=(h.under i).2 ⟨I,M⟩;simp at this
 refine⟨fun i o J=>(h.right i o J).1,fun i o J=>h.reach i (h.right i o J).2,fun hk i Y=>ae i (Y.least (P:=fun i=>σ.begun i=true) (hw hk) fun i j I aC=>h.closed i (ae i I) j aC),fun i I=>⟨ae i (h.dY i I).1,(h.dY i I).2⟩,fun i o J hk=>?_,fun i I=>I.mono h.Ry h.aau⟩;obtain⟨e,_⟩:=h.right i o J;subst e;exact h.F7 i (by rw [J];simp) hk
end
section
open Go.Lib Go.RowKit Go.Shelf Go.Sort
theorem aEs (l:aR0):encStr l = .string (aA l):=rfl
theorem Own.ajW {o:Nat} {ys:List (List UInt8)} (h:Own w base t 1 (some ⟨b,o,none⟩) ys.length c (cB ys)):Holds encStr w b o ys.toArray:=by
 intro j aC;rw [List.size_toArray] at aC;obtain⟨hl,J,hm,hc⟩:=h;rcases hc with ⟨e,_⟩ | ⟨b',M,cur,aZ,e,ae,av,hf,hs,ah⟩
 ·cases e
 cases e;have I:=ah j om;rw [Zq (List.getElem?_eq_getElem aC)] at I;refine⟨?_,hf.cell av (by have:=(aRh.1 I).1;exact this)⟩;rw [Zr ys aC];simp [World.cell?,av,I]
theorem Own.ajX {o n:Nat} {ys:List (List UInt8)} {zs:List (List UInt8)} {os:Array Obj} (h:Own w base t 1 (some ⟨b,o,none⟩) ys.length c (cB ys)) (hk:k<=zs.length) (dm:zs.length=ys.length) :
  Own (grow (Go.Sort.putRow encStr (Sort.ahead w n) b o zs.toArray) os) base t 1 (some ⟨b,o,none⟩) k c (cB (zs.take k)):=by
 obtain⟨hl,J,hm,hc⟩:=h;rcases hc with ⟨e,_⟩ | ⟨b',M,cur,aZ,e,ae,av,hf,hs,ah⟩
 ·cases e
 cases e;refine⟨by rw [cB,List.length_map,List.length_take];omega,om,hm,.inr ⟨b,o,_,aZ,rfl,ae,apJ _ av,by simpa [putCells] using hf,by simpa [putCells] using hs,fun j aC=>?_⟩⟩;rw [Zq (x:=zs[j]) (by rw [List.getElem?_take_of_lt om,List.getElem?_eq_getElem om])];have I:o+j < cur.size:=om;simp only [putCells,Array.getElem?_mapIdx,Array.getElem?_eq_getElem I,Option.map_some,List.size_toArray];rw [if_pos om,show o+j - o=j by omega,Zr zs om]
theorem aEm (w:aRU) (base:Nat) (A:aRV) (c:Nat) (ys:List (List UInt8)) (h:Own w base 9 1 A ys.length c (cB ys)) (hl:ys.length<=1000000) :
  CR 36 #[.slice A ys.length c] w (.tuple #[]) fun w'=>Own w' base 9 1 A ys.length c (cB (qi ys))/\w.grownBy w' (bM A):=by
 rcases aQ2 ys.length with I | I
 ·obtain rfl:ys=[]:=aQV I;refine (AnyM.slices_Sort_string_none Tryz.keySort A c w).mono ?_;rintro e w' ⟨rfl,rfl⟩;refine⟨rfl,by simpa [qi] using h,⟨rfl,rfl,rfl,aQF _,fun _ _ _=>rfl⟩⟩
 ·obtain⟨b,o,cur,aZ,rfl,ae,av,_⟩:=h.at_ (by have:=h.2.1;omega);refine (AnyM.slices_Sort_string Tryz.keySort b o c ys w h.ajW (iw av) om).mono ?_;rintro e w' ⟨rfl,n,os,rfl⟩;refine⟨rfl,?_,Zt _⟩;have aI:=h.ajX (n:=n) (os:=os) (zs:=qi ys) (k:=ys.length) (by rw [Cw];omega) (Cw ys);rw [List.take_of_length_le (by rw [Cw];omega)] at aI;exact aI
theorem aEn (w:aRU) (base:Nat) (A:aRV) (c:Nat) (ys:List (List UInt8)) (h:Own w base 9 1 A ys.length c (cB ys)) (hl:ys.length<=1000000) :
  CR 37 #[.slice A ys.length c] w (.slice A (compact ys).length c) fun w'=>Own w' base 9 1 A (compact ys).length c (cB (compact ys))/\w.grownBy w' (bM A):=by
 rcases aQ2 ys.length with I | I
 ·obtain rfl:ys=[]:=aQV I;refine (AnyG.slices_Compact_string_empty Tryz.keyCompact A c w).mono ?_;rintro e w' ⟨rfl,rfl⟩;refine⟨rfl,h,⟨rfl,rfl,rfl,aQF _,fun _ _ _=>rfl⟩⟩
 ·obtain⟨b,o,cur,aZ,rfl,ae,av,_⟩:=h.at_ (by have:=h.2.1;omega);refine (AnyG.slices_Compact_string Tryz.keyCompact b o c ys w h.ajW om h.2.1).mono ?_;rintro e w' ⟨rfl,n,rfl⟩;refine⟨rfl,?_,?_⟩
  ·have hc:=aim ys;have aI:=h.ajX (n:=n) (os:=#[]) (zs:=compact ys++List.replicate (ys.length - (compact ys).length) []) (k:=(compact ys).length) sp (by simp;omega);rw [List.take_left,grow_empty] at aI;exact aI
  ·have:=Zt (w:=w) (b:=b) (o:=o) (n:=n) (os:=#[]) (compact ys++List.replicate (ys.length - (compact ys).length) []).toArray;rw [grow_empty] at this;exact this
abbrev Pk:={ x:ak // x.length<=1000000 }
instance:Inhabited Pk:=⟨⟨[],by simp⟩⟩
def Jz (x:Pk):Value:=.string (aA x.1)
theorem ajY:∀ l:List ak,(∀ x∈l,x.length<=1000000)->∃ z:List Pk,z.map (·.1)=l
 | [],_=>⟨[],rfl⟩
 | x :: l,h=>by
  obtain⟨z,I⟩:=ajY l fun y hy=>h y (by simp [hy]);exact⟨⟨x,h x sp⟩ :: z,by simp [I]⟩
structure Has (w:aRU) (g:Nat) (arg:ak):Prop where
 cell:w.cell? (ad g 0)=some (.string (aA arg))
 vL:qQ w
 len:arg.length<=1000000
theorem arM (w:aRU) (g:Nat) (arg:ak) (h:Has w g arg) (x:ak) (ah:x.length<=1000000):Calls prog 254 #[.string (aA x),pp g 0] w fun e w'=>e = .returned (.bool (!mQ x arg))/\w'=w:=by have AA:=aq8 w x arg om h.vL;have hc:=h.cell;obtain⟨X,I,Y,J,r,M⟩:=nq3 (aA x) (aA arg) (mQ x arg);rw [<- I,<- J,<- M] at AA;rw [<- J] at hc;rw [<- I,<- M];clear I J M h;go_enter func254,ntmps254;go_wp2_with (go_at_call 228; refine AA.mono ?_;rintro e af ⟨rfl,rfl⟩);go_ret;exact⟨rfl,rfl⟩
theorem aEo (w:aRU) (g:Nat) (arg:ak) (h:Has w g arg) (x:ak) (ah:x.length<=1000000):Calls prog 227 #[.string (aA x),pp g 0] w fun e w'=>e = .returned (.bool (mQ x arg))/\w'=w:=by have AA:=aq8 w x arg om h.vL;have hc:=h.cell;obtain⟨X,I,Y,J,r,M⟩:=nq3 (aA x) (aA arg) (mQ x arg);rw [<- I,<- J,<- M] at AA;rw [<- J] at hc;rw [<- I,<- M];clear I J M h;go_enter func227,ntmps227;go_wp2_with (go_at_call 228; refine AA.mono ?_;rintro e af ⟨rfl,rfl⟩);go_ret;exact⟨rfl,rfl⟩
theorem Has.keep {arg:ak} (h:Has w g arg) (ae:Bl w w'):Has w' g arg:=⟨(ae.cell (p:=ad g 0) (aQR _ _ h.cell)).trans h.cell,h.vL.on ae,h.len⟩
theorem Has.grown {arg:ak} {r:Option Nat} (h:Has w g arg) (av:w.grownBy w' r) (h1:some g≠r) (ag:some 0 ≠ r):Has w' g arg:=by have key:∀ k v,w.cell? (ad k 0)=some v->some k≠r->w'.cell? (ad k 0)=some v:=fun k v hc I=>(aRu (av.block k (aQR _ _ hc) I)).trans hc;obtain⟨m,hm⟩:=h.vL;exact⟨key _ _ h.cell h1,⟨m,key _ _ hm ag⟩,h.len⟩
theorem aEp (w:aRU) (base:Nat) (A:aRV) (c:Nat) (ys:List ak) (h:Own w base 9 1 A ys.length c (cB ys)) (hl:ys.length<=1000000) (lU:∀ y∈ys,y.length<=1000000) (g:Nat) (arg:ak) (av:Has w g arg) :
  CB 111 #[.slice A ys.length c,.func (.func 227) #[] #[pp g 0]] w (.bool (ys.any (mQ · arg))):=by
 rcases aQ2 ys.length with I | I
 ·obtain rfl:ys=[]:=aQV I;refine (AnyE.slices_ContainsFunc_empty Tryz.tlHas A c _ w).mono ?_;rintro e w' ⟨rfl,rfl⟩;exact⟨rfl,Below.refl _ _⟩
 ·obtain⟨z,J⟩:=ajY ys lU;have M:z.length=ys.length:=by rw [<- J,List.length_map]
  have hH:=h.rd.2 I;obtain⟨b,o,rfl,hcell⟩:=hH;have aI:PredAt prog 227 #[pp g 0] Jz (fun x=>mQ x.1 arg) w:=fun W x ae=>by
   refine (aEo W g arg (av.keep ae) x.1 x.2).mono ?_;rintro e w' ⟨rfl,rfl⟩;exact⟨rfl,0,rfl⟩
  refine (AnyE.slices_ContainsFunc Tryz.tlHas Jz (fun x=>mQ x.1 arg) 227 #[pp g 0] (enters_of func227 kr rfl) b o ys.length c z w aI om om fun j aC=>?_).mono ?_
  ·rw [getElem!_pos z j aC];refine hcell j _ ?_;rw [<- J,cB,List.map_map,List.getElem?_map,List.getElem?_eq_getElem aC];rfl
  ·rintro e w' ⟨rfl,n,rfl⟩;rw [<- M,List.take_length,<- J,List.any_map];exact⟨rfl,below_drewN (Below.refl _ _) n⟩
theorem aEq (w:aRU):(zeroValue 9).run prog w = .ok (Jz default) w:=by rw [zeroValue9];rfl
theorem Own.aEr {o:Nat} {z:List Pk} (h:Own w base t 1 (some ⟨b,o,none⟩) z.length c (cB (z.map (·.1)))):Holds Jz w b o z.toArray:=by
 have J:=Own.ajW (ys:=z.map (·.1)) (by rw [List.length_map];exact h);intro j aC;have I:j < z.length:=by simpa using aC
 have:=J j (by simpa using I);refine⟨?_,this.2⟩;rw [this.1];simp [getElem!_pos,I,Jz,aEs]
theorem aEt (w:aRU) (base:Nat) (A:aRV) (c:Nat) (ys:List ak) (h:Own w base 9 1 A ys.length c (cB ys)) (hl:ys.length<=1000000) (lU:∀ y∈ys,y.length<=1000000) (g:Nat) (arg:ak) (av:Has w g arg) (h1:some g≠bM A) (ag:some 0 ≠ bM A) :
  CR 253 #[.slice A ys.length c,.func (.func 254) #[] #[pp g 0]] w (.slice A (ys.filter (mQ · arg)).length c) fun w'=>Own w' base 9 1 A (ys.filter (mQ · arg)).length c (cB (ys.filter (mQ · arg)))/\w.grownBy w' (bM A):=by
 rcases aQ2 ys.length with M | M
 ·obtain rfl:ys=[]:=aQV M;have j6:=fun (AQ:Value)=>AnyE.slices_IndexFunc_empty { Tryz.tlDel with } A c AQ w;go_enter func253,ntmps253;go_wp2_with (go_at_call 160; refine (j6 _).mono ?_;rintro e af ⟨rfl,rfl⟩);go_ret;exact⟨rfl,h,⟨rfl,rfl,rfl,aQF _,fun _ _ _=>rfl⟩⟩
 ·obtain⟨z,J⟩:=ajY ys lU;have Y:z.length=ys.length:=by rw [<- J,List.length_map]
  obtain⟨b,o,cur,aZ,rfl,ae,Ac,_⟩:=h.at_ (by have:=h.2.1;omega);have aI:PredAt prog 254 #[pp g 0] Jz (fun x=>!mQ x.1 arg) w:=fun W x ae=>by
   refine (arM W g arg (av.keep ae) x.1 x.2).mono ?_;rintro e w' ⟨rfl,rfl⟩;exact⟨rfl,0,rfl⟩
  have AA:∀ (n:Nat) (os:Array Obj) (I:Array Pk),w.grownBy (grow (putRow Jz (Sort.ahead w n) b o I) os) (some b):=fun n os I=>by
   refine⟨rfl,rfl,rfl,by simp,fun k hk AU=>?_⟩;rw [heap_grow_old _ _ (by simpa using hk)];have:b≠k:=fun e=>AU (by rw [e]);simp [putRow,mapBlock,Sort.ahead,Array.getElem?_modify,this]
  have AV:PredOver prog 254 #[pp g 0] Jz (fun x=>!mQ x.1 arg) b o z.toArray.size w:=fun n os I x _=>by
   refine (arM _ g arg (av.grown (AA n os I) h1 ag) x.1 x.2).mono ?_;rintro e w' ⟨rfl,rfl⟩;exact⟨rfl,0,rfl⟩
  have hH:Holds Jz w b o z.toArray:=Own.aEr (base:=base) (c:=c) (t:=9) (by rw [J,Y];exact h);have hc:=AnyE.slices_DeleteFunc Tryz.tlDel Jz (fun x=>rfl) (fun x=>!mQ x.1 arg) 254 #[pp g 0] (enters_of func254 kr rfl) default aEq b o c z.toArray w aI AV hH (by simp;omega) (by have:=h.2.1;simp;omega);rw [List.size_toArray,Y] at hc;refine hc.mono ?_;have AX:(z.filter fun x=>!!mQ x.1 arg)=z.filter fun x=>mQ x.1 arg:=by congr 1;funext x;rw [Bool.not_not]
  have AB:(z.filter fun x=>mQ x.1 arg).map (·.1)=ys.filter (mQ · arg):=by rw [<- J,List.filter_map];rfl
  have AZ:(z.filter fun x=>mQ x.1 arg).length=(ys.filter (mQ · arg)).length:=by rw [<- AB,List.length_map]
  have hle:(ys.filter (mQ · arg)).length<=ys.length:=aRi _ _;rintro e w' ⟨rfl,q,rfl⟩;rw [show z.toArray.toList=z from rfl,AX,AZ];refine⟨rfl,?_,?_⟩
  ·have AP:=h.ajX (n:=q) (os:=#[]) (zs:=ys.filter (mQ · arg)++List.replicate (ys.length - (ys.filter (mQ · arg)).length) []) (k:=(ys.filter (mQ · arg)).length) sp (by simp;omega);rw [List.take_left,grow_empty] at AP;have he:putRow Jz (Sort.ahead w q) b o ((z.filter fun (x:Pk)=>mQ x.1 arg)++List.replicate (ys.length - (ys.filter (mQ · arg)).length) default).toArray=putRow encStr (Sort.ahead w q) b o (ys.filter (mQ · arg)++List.replicate (ys.length - (ys.filter (mQ · arg)).length) []).toArray:=by
    have Aa:((z.filter fun x=>mQ x.1 arg)++List.replicate (ys.length - (ys.filter (mQ · arg)).length) (default:Pk)).map (·.1)=ys.filter (mQ · arg)++List.replicate (ys.length - (ys.filter (mQ · arg)).length) []:=by rw [List.map_append,AB,List.map_replicate];rfl
    rw [<- Aa];generalize ((z.filter fun x=>mQ x.1 arg)++List.replicate (ys.length - (ys.filter (mQ · arg)).length) (default:Pk))=Z;unfold putRow;congr 1;funext cs;unfold putCells;apply Array.ext
    ·simp
    ·intro i h1 ag;simp only [Array.getElem_mapIdx,List.size_toArray,List.length_map];split
     ·rename_i Ad;rw [Zr _ (by rw [List.length_map];omega)];simp [getElem!_pos,show i - o < Z.length by omega,Jz,aEs]
     ·rfl
   rw [he];exact AP
  ·have:=AA q #[] ((z.filter fun (x:Pk)=>mQ x.1 arg)++List.replicate (ys.length - (ys.filter (mQ · arg)).length) default).toArray;rw [grow_empty] at this;exact this
end
section
open Go.Maps Go.RowKit
class dS where
 E:Nat->Prop
structure dz [dS] (B:Nat) (w w':aRU):Prop where
 os:w'.os=w.os
 tape:w'.tape=w.tape
 output:w'.output=w.output
 size:w.heap.size<=w'.heap.size
 low:∀ k,k < B->w'.heap[k]?=w.heap[k]?
 cells:∀ (k:Nat) (cs:Array Value) (t:TypeId) (aZ:Nat × Nat),w.heap[k]?=some (.cells cs t aZ)->t ≠ 295 -> t ≠ 1 -> w'.heap[k]?=w.heap[k]?
 maps:∀ (k:Nat) (o:Obj),w.heap[k]?=some o->o.isCells=false->dS.E k->w'.heap[k]?=w.heap[k]?
theorem dz.refl [dS] (B:Nat) (w:aRU):dz B w w:=⟨rfl,rfl,rfl,aQF _,fun _ _=>rfl,fun _ _ _ _ _ _ _=>rfl,fun _ _ _ _ _=>rfl⟩
theorem dz.trans [dS] {x y z:aRU} (h:dz B x y) (k:dz B y z):dz B x z :=
 ⟨k.os.trans h.os,k.tape.trans h.tape,k.output.trans h.output,aQG h.size k.size,fun j aC=>(k.low j aC).trans (h.low j aC),fun j cs t aZ aC h1 I=>(k.cells j cs t aZ ((h.cells j cs t aZ aC h1 I).trans aC) h1 I).trans (h.cells j cs t aZ aC h1 I),fun j o aC hc he=>(k.maps j o ((h.maps j o aC hc he).trans aC) hc he).trans (h.maps j o aC hc he)⟩
theorem dz.gN [dS] (h:Bl w w') (bf:B<=w.heap.size):dz B w w':=⟨h.os,h.tape,h.output,h.size,fun k hk=>h.block k om,fun k cs t aZ hk _ _=>h.block k (iw hk),fun k o hk _ _=>h.block k (iw hk)⟩
theorem dz.below [dS] (h:dz B w w'):Below B w w':=⟨h.os,h.tape,h.output,h.size,h.low⟩
theorem dz.setCell [dS] (h:dz B w w') (av:w'.heap[g]?=some (.cells cs t aZ)) (az:t = 295 \/ t = 1) (bf:B<=g) (o:Nat) (v:Value):dz B w (w'.setCell ⟨g,o,none⟩ v):=by
 refine h.trans ⟨rfl,rfl,rfl,by rw [World.size_setCell];exact aQF _,fun k hk=>aQX _ _ _ k (by show k≠g;omega),fun k zB J M hk h1 I=>aQX _ _ _ k ?_,fun k Y hk hc _=>aQX _ _ _ k (by show k≠g;rintro rfl;rw [av] at hk;cases hk;cases hc)⟩;show k≠g;rintro rfl;rw [av] at hk;injection hk with hk
 injection hk with _ hk
 subst hk;rcases az with rfl | rfl
 ·exact h1 rfl
 ·exact I rfl
theorem dz.alloc [dS] (h:dz B w w') (bf:B<=w'.heap.size) (o:Obj):dz B w (w'.alloc o):=h.trans (.gN ((Below.refl _ _).alloc (aQF _) o) bf)
theorem dz.drew [dS] (h:dz B w w'):dz B w w'.drew:=⟨h.os,h.tape,h.output,h.size,h.low,h.cells,h.maps⟩
def eT (w:aRU) (g:Nat) (cs:Array Value) (t:TypeId):Prop:=w.heap[g]?=some (.cells cs t (0,0))
theorem eT.keep [dS] (h:eT w g cs t) (ae:dz B w w') (h1:t ≠ 295) (ag:t ≠ 1):eT w' g cs t:=(ae.cells g cs t _ h h1 ag).trans h
theorem eT.lt (h:eT w g cs t):g < w.heap.size:=iw h
theorem Own.uR [dS] {n:Nat} (h:Own w base t aO A n c xs) (ae:dz B w w') (h1:t ≠ 295) (ag:t ≠ 1):Own w' base t aO A n c xs:=h.keep fun b I _ _=>by
 obtain⟨_,_,cur,aZ,hc⟩:=h.block b I;exact ae.cells b cur t aZ hc h1 ag
def yU (w:aRU) (g R:Nat):Prop:=eT w g #[pp R 0] 247
def Lj (w:aRU) (g:Nat) (s:ak):Prop:=eT w g #[.string (aA s)] 9
def EP (w:aRU) (g:Nat) (q:Option Nat):Prop:=∃ m,q=some m/\eT w g #[.map (some m)] 147
def fG (g:Nat):Value:=.pointer (some ⟨g,0,none⟩)
def aEx (R:Nat):Value:=.func (.func 221) #[fG R] #[]
inductive Bd | add | scan (w:ak)
def Da (w:aRU) (R:Nat) (q:Option Nat) (u:Value):Bd->Prop
 | .add=>u=aEx R
 | .scan x=>∃ g1 g2 g3,u = .func (.func 249) #[] #[fG g1,fG g2,fG g3]/\yU w g1 R/\Lj w g2 x/\EP w g3 q
def wy (w:aRU) (R:Nat) (q:Option Nat) (u:Value) (d:Bd):Prop:=∃ g1 g2 v,u = .func (.func 248) #[] #[fG g1,fG g2]/\yU w g1 R/\eT w g2 #[v] 138 /\ Da w R q v d
def yV (w:aRU) (R:Nat) (q:Option Nat) (u:Value):rQ->Prop
 | .add=>wy w R q u .add
 | .DV=>∃ g1,u = .func (.func 222) #[] #[fG g1]/\yU w g1 R
 | .scan x=>wy w R q u (.scan x)
def aaw (w:aRU) (R g:Nat) (c:sK):Prop:=∃ A eY,eT w g #[.slice A c.ws.length eY,.string (aA c.rest)] 300 /\ Own w 0 9 1 A c.ws.length eY (cB c.ws)/\∀ b,bM A=some b->b < R
def ER (w:aRU) (R:Nat) (q:Option Nat) (u:Value):iT->Prop
 | .cmd c=>∃ g1 g2,u = .func (.func 191) #[] #[fG g1,fG g2]/\yU w g1 R/\aaw w R g2 c
 | .tK p th=>∃ g1 g2 g3 v,u = .func (.func 247) #[] #[fG g1,fG g2,fG g3]/\eT w g1 #[v] 322 /\ yV w R q v th/\yU w g2 R/\Lj w g3 p
 | .line x y=>∃ g1 g2 g3 g4,u = .func (.func 251) #[] #[fG g1,fG g2,fG g3,fG g4]/\Lj w g1 x/\Lj w g2 y/\yU w g3 R/\EP w g4 q
section
variable {B:Nat} {w w':aRU} {R:Nat} {q:Option Nat}
theorem yU.keep [dS] (h:yU w g R) (ae:dz B w w'):yU w' g R:=eT.keep h ae dc dc
theorem Lj.keep [dS] {s:ak} (h:Lj w g s) (ae:dz B w w'):Lj w' g s:=eT.keep h ae dc dc
theorem EP.keep [dS] (h:EP w g q) (ae:dz B w w'):EP w' g q:=by obtain⟨m,h1,I⟩:=h;exact⟨m,h1,eT.keep I ae dc dc⟩
theorem Da.keep [dS] {d:Bd} (h:Da w R q u d) (ae:dz B w w'):Da w' R q u d:=by
 cases d with
 | add=>exact h
 | scan x =>
  obtain⟨g1,g2,g3,e,h1,I,J⟩:=h;exact⟨g1,g2,g3,e,h1.keep ae,I.keep ae,J.keep ae⟩
theorem wy.keep [dS] {d:Bd} (h:wy w R q u d) (ae:dz B w w'):wy w' R q u d:=by obtain⟨g1,g2,v,e,h1,I,J⟩:=h;exact⟨g1,g2,v,e,h1.keep ae,eT.keep I ae dc dc,J.keep ae⟩
theorem yV.keep [dS] (h:yV w R q u th) (ae:dz B w w'):yV w' R q u th:=by
 cases th with
 | add=>exact wy.keep h ae
 | DV =>
  obtain⟨g1,e,h1⟩:=h;exact⟨g1,e,h1.keep ae⟩
 | scan x=>exact wy.keep h ae
theorem aaw.keep [dS] {c:sK} (h:aaw w R g c) (ae:dz B w w'):aaw w' R g c:=by obtain⟨A,eY,h1,I,J⟩:=h;exact⟨A,eY,eT.keep h1 ae dc dc,I.uR ae dc dc,J⟩
theorem ER.keep [dS] {t:iT} (h:ER w R q u t) (ae:dz B w w'):ER w' R q u t:=by
 cases t with
 | cmd c =>
  obtain⟨g1,g2,e,h1,I⟩:=h;exact⟨g1,g2,e,h1.keep ae,I.keep ae⟩
 | tK p th =>
  obtain⟨g1,g2,g3,v,e,h1,I,J,M⟩:=h;exact⟨g1,g2,g3,v,e,eT.keep h1 ae dc dc,I.keep ae,J.keep ae,M.keep ae⟩
 | line x y =>
  obtain⟨g1,g2,g3,g4,e,h1,I,J,M⟩:=h;exact⟨g1,g2,g3,g4,e,h1.keep ae,I.keep ae,J.keep ae,M.keep ae⟩
end
def xE (k:dB):Value:=.agg #[.string (aA k.path),.bool k.is,.string (aA k.data)]
def Ib (b:Bool):Value:=.bool b
def qU (k:dB):dB:=if k.is=true then ⟨[],true,k.data⟩ else Re
def BQ (l:List (ak × ak)):List Value:=l.flatMap fun p=>[.string (aA p.1),.string (aA p.2)]
def uw (A:aRV) (n c:Nat) (mo:aRV) (Ab nk:Nat) (buf:ak) (m:Nat) (asks:ak) (waits:Bool) (d:pM):Array Value :=
 #[.slice A n c,.slice mo Ab nk,.string (aA buf),.map (some m),.string (aA asks),.bool waits,.int .i64 d.kind,.string (aA d.path),.string (aA d.data),.int .i64 d.why]
structure iV where
 B:Nat
 R:Nat
 m:Nat
 mo:Option Addr
 nk:Nat
def rQ.Ic:rQ->Bool
 | .scan _=>false
 | _=>true
def iT.Ic:iT->Bool
 | .cmd _=>true
 | .tK _ th=>th.Ic
 | .line _ _=>false
structure aeC [dS] (w:aRU) (m:Nat) (q:Option Nat):Prop where
 map:¬ dS.E m
 seen:∀ g,q=some g->¬ dS.E g
 old:∀ k,dS.E k->k < w.heap.size
theorem aeC.size [dS] (h:aeC w m q) (hs:w.heap.size<=w'.heap.size):aeC w' m q:=⟨h.map,h.seen,fun k hk=>aQJ (h.old k hk) hs⟩
structure nV [dS] (w:aRU) (L:iV) (v:Env) (q:Option Nat) (s:aK) (A:aRV) (c:Nat) (us:aRW):Prop where
 run:eT w L.R (uw A s.todo.length c L.mo v.env.length L.nk s.buf L.m s.asks s.waits s.over) 295
 base:L.B<=L.R
 row:Own w L.B 1 1 A s.todo.length c us.reverse
 tasks:∀ (i:Nat) (t:iT),s.todo[i]?=some t->∃ u,us[i]?=some u/\ER w L.R q u t
 env:Own w L.B 194 2 L.mo v.env.length L.nk (BQ v.env)
 known:L.B<=L.m/\∃ (M:fA dB),eU w prog 9 xE L.m s.known.length M/\M.length=s.known.length/\∀ p,(getM M p).map qU=tL s.known p
 seen:(∀ t∈s.todo,t.Ic=true)\/∃ (g:Nat) (M:fA Bool),q=some g/\L.B<=g/\g≠L.m/\eU w prog 9 Ib g s.seen.length M/\∀ p,getM M p=if p∈s.seen then some true else none
 free:aeC w L.m q
def jL [dS] (w:aRU) (L:iV) (v:Env) (q:Option Nat) (s:aK):Prop:=∃ A c us,nV w L v q s A c us
end
section
open Go.Maps Go.RowKit
theorem eU.isMap {enc:α->Value} {k:TypeId} {n:Nat} {M:fA α} (h:eU w P k enc b n M):w.heap[b]?≠some (.cells cs t aZ):=by obtain⟨es,clock,ae,_⟩:=h;rw [ae];intro e;cases e
section
variable {w w':aRU} {L:iV} {v:Env} {q:Option Nat} {s:aK} {A:aRV} {c:Nat} {us:aRW}
theorem nV.count [dS] (h:nV w L v q s A c us):us.length=s.todo.length:=by have:=h.row.1;rw [List.length_reverse] at this;omega
theorem nV.cells [dS] (h:nV w L v q s A c us) {s':aK} (aL:eT w' L.R (uw A s'.todo.length c L.mo v.env.length L.nk s'.buf L.m s'.asks s'.waits s'.over) 295) (hk:∀ k,k≠L.R->w'.heap[k]?=w.heap[k]?) (ae:dz L.B w w')
  (bD:s'.todo=s.todo) (bB:s'.known=s.known) (fq:s'.seen=s.seen):nV w' L v q s' A c us:=by
 refine⟨aL,h.base,?_,?_,h.env.uR ae dc dc,?_,?_,h.free.size ae.size⟩
 ·rw [bD];refine h.row.keep fun b AP _ _=>hk b ?_;rintro rfl;exact h.row.ne h.run dc AP
 ·intro i t AB;rw [bD] at AB;obtain⟨u,h1,J⟩:=h.tasks i t AB;exact⟨u,h1,J.keep ae⟩
 ·obtain⟨h1,M,J,AA,Y⟩:=h.known;refine⟨h1,M,?_,by rw [bB];exact AA,by rw [bB];exact Y⟩;rw [bB];refine J.keep (hk _ fun e=>?_);have I:=h.run;unfold eT at I;rw [<- e] at I;exact J.isMap I
 ·rw [bD];rcases h.seen with h1 | ⟨g,M,h1,J,AA,Y,AQ⟩
  ·exact .inl h1
  ·refine .inr ⟨g,M,h1,J,AA,?_,by rw [fq];exact AQ⟩;rw [fq];refine Y.keep (hk _ fun e=>?_);have I:=h.run;unfold eT at I;rw [<- e] at I;exact Y.isMap I
theorem nV.below [dS] (h:nV w L v q s A c us) (ae:Bl w w'):nV w' L v q s A c us:=by
 have AB:L.B<=w.heap.size:=aQG h.base (aRm h.run.lt);have Y:=dz.gN ae AB;refine⟨(ae.block _ h.run.lt).trans h.run,h.base,h.row.below ae (aQF _),fun i t AP=>?_,h.env.uR Y dc dc,?_,?_,h.free.size ae.size⟩
 ·obtain⟨u,h1,I⟩:=h.tasks i t AP;exact⟨u,h1,I.keep Y⟩
 ·obtain⟨h1,M,I,J⟩:=h.known;exact⟨h1,M,I.below ae I.lt,J⟩
 ·rcases h.seen with h1 | ⟨g,M,h1,I,J,AA,AQ⟩
  ·exact .inl h1
  ·exact .inr ⟨g,M,h1,I,J,AA.below ae AA.lt,AQ⟩
theorem jL.below [dS] (h:jL w L v q s) (ae:Bl w w'):jL w' L v q s:=by obtain⟨A,c,us,h⟩:=h;exact⟨A,c,us,h.below ae⟩
theorem nV.size [dS] (h:nV w L v q s A c us):L.B<=w.heap.size:=aQG h.base (aRm h.run.lt)
theorem jL.size [dS] (h:jL w L v q s):L.B<=w.heap.size:=by obtain⟨A,c,us,h⟩:=h;exact h.size
end
theorem dz.setRow [dS] (h:dz B w w') (av:w'.heap[g]?=some (.cells cs t aZ)) (az:t = 295 \/ t = 1) (bf:B<=g) (zB:Array Value):dz B w (w'.setRow g zB):=by
 refine h.trans ⟨rfl,rfl,rfl,by simp [World.setRow],fun k hk=>aQT w' g k zB om,fun k c' J M hk h1 I=>aQT w' g k zB ?_,fun k Y hk hc _=>aQT w' g k zB (by rintro rfl;rw [av] at hk;cases hk;cases hc)⟩;rintro rfl;rw [av] at hk;injection hk with hk
 injection hk with _ hk
 subst hk;rcases az with rfl | rfl
 ·exact h1 rfl
 ·exact I rfl
def jM [dS] (w:aRU) (L:iV) (v:Env) (q:Option Nat) (s:aK) (e:Ending) (w':aRU):Prop:=e = .returned (.tuple #[])/\jL w' L v q s/\dz L.B w w'
theorem aEy [dS] {L:iV} (h:Calls prog f args w (jM w L v q s)):Calls prog f args w fun e w'=>e = .returned (.tuple #[])/\jM w L v q s (.returned (.tuple #[])) w' :=
 h.mono fun _ _ k=>⟨k.1,rfl,k.2⟩
theorem aeD {k y:Int} {a b:ByteArray}:∀ v∈[Value.int .i64 k,.string a,.string b,.int .i64 y],v.oneCell'=true:=by simp [Value.oneCell']
theorem aeE (k y:Int) (a b:ByteArray):(Value.agg #[.int .i64 k,.string a,.string b,.int .i64 y]).cells.toList=[Value.int .i64 k,.string a,.string b,.int .i64 y]:=rfl
theorem aeF (k y:Int) (a b:ByteArray):(prog.info? 293).map (·.size)=some [Value.int .i64 k,.string a,.string b,.int .i64 y].length:=kr
theorem Xq [dS] (w:aRU) (L:iV) (v:Env) (q:Option Nat) (s:aK) (h:jL w L v q s) (y:Nat):Calls prog 226 #[fG L.R,.int .i64 y] w (jM w L v q (s.fail y)):=by
 obtain⟨A,c,us,h⟩:=h;have I:=h.run;unfold eT at I;have J:∀ w',w'=w.setRow L.R (uw A s.todo.length c L.mo v.env.length L.nk s.buf L.m s.asks s.waits ⟨4,[],[],y⟩)->jM w L v q (s.fail y) (.returned (.tuple #[])) w':=by rintro w' rfl;have ae:=dz.setRow (dz.refl L.B w) h.run (.inl rfl) h.base (uw A s.todo.length c L.mo v.env.length L.nk s.buf L.m s.asks s.waits ⟨4,[],[],y⟩);exact⟨rfl,⟨A,c,us,h.cells (s':=s.fail y) (aQU w L.R _ _ _ _ h.run) (fun k hk=>aQT w L.R k _ hk) ae rfl rfl rfl⟩,ae⟩
 obtain⟨R,Y⟩:=ai L.R;rw [fG,<- Y];rw [<- Y] at I J;obtain⟨AV,AA⟩:=ai (jM w L v q (s.fail y));rw [<- AA] at J |-;have AB:=aa J;obtain⟨cur,M⟩:=ai (uw A s.todo.length c L.mo v.env.length L.nk s.buf L.m s.asks s.waits s.over);have AQ:cur.size=10:=by rw [M];rfl
 have AP:laid cur 6 [.int .i64 4,.string ⟨#[]⟩,.string ⟨#[]⟩,.int .i64 y]=uw A s.todo.length c L.mo v.env.length L.nk s.buf L.m s.asks s.waits ⟨4,[],[],y⟩:=by rw [M];rfl
 rw [<- M] at I;rw [<- AP] at AB;clear h Y AA J M AP;go_enter func226,ntmps226;have AU:6+[Value.int .i64 4,.string ⟨#[]⟩,.string ⟨#[]⟩,.int .i64 y].length<=cur.size:=by rw [AQ];simp
 go_wp2_with ((with_reducible refine yH R 6 (.agg #[.int .i64 4,.string ⟨#[]⟩,.string ⟨#[]⟩,.int .i64 y]) [.int .i64 4,.string ⟨#[]⟩,.string ⟨#[]⟩,.int .i64 y] (aeE _ _ _ _) cur 295 I (aeF _ _ _ _) AU aeD ?_ ?_);exact⟨rfl,rfl⟩);refine qB ?_;exact AB.o _ rfl
theorem nV.one [dS] {L:iV} {s':aK} (h:nV w L v q s A c us)
  (hc:(uw A s.todo.length c L.mo v.env.length L.nk s.buf L.m s.asks s.waits s.over).setIfInBounds i u=uw A s'.todo.length c L.mo v.env.length L.nk s'.buf L.m s'.asks s'.waits s'.over)
  (bD:s'.todo=s.todo) (bB:s'.known=s.known) (fq:s'.seen=s.seen):nV (w.setCell ⟨L.R,i,none⟩ u) L v q s' A c us/\dz L.B w (w.setCell ⟨L.R,i,none⟩ u):=by
 have I:=h.run;unfold eT at I;have ae:=dz.setCell (dz.refl L.B w) h.run (.inl rfl) h.base i u;refine⟨h.cells ?_ (fun k hk=>aQX _ _ _ k hk) ae bD bB fq,ae⟩;unfold eT;rw [setCell_eq_setRow w L.R i _ _ _ _ I,setRow_heap w L.R _ _ _ _ I,hc]
theorem nV.cell [dS] {L:iV} (h:nV w L v q s A c us) (i:Nat):w.cell? (ad L.R i)=(uw A s.todo.length c L.mo v.env.length L.nk s.buf L.m s.asks s.waits s.over)[i]?/\w.frozen? ⟨L.R,i,none⟩=false :=
 ⟨aQH w L.R i _ _ _ h.run,aQY w L.R i _ _ h.run⟩
theorem Xr [dS] (w:aRU) (L:iV) (v:Env) (q:Option Nat) (s:aK) (h:jL w L v q s) (ae:s.buf.length<=65536) (t:ak) (az:t.length<=1000000000):Calls prog 221 #[fG L.R,.string (aA t)] w (jM w L v q (s.add t)):=by
 have AB:=aEy (Xq w L v q s h 6);obtain⟨A,c,us,h⟩:=h;have hc:=(h.cell 2).1;have hf:=(h.cell 2).2;have AP:w.cell? (ad L.R 2)=some (.string (aA s.buf)):=hc;have AQ:(aA s.buf).size=s.buf.length:=iP _;have AU:(aA t).size=t.length:=iP _;have AZ:aA s.buf++aA t=aA (s.buf++t):=Y4 _ _;have I:¬ 65536 < s.buf.length+t.length->jM w L v q (s.add t) (.returned (.tuple #[])) (w.setCell ⟨L.R,2,none⟩ (.string (aA s.buf++aA t))):=fun Ae=>by
  have Ac:=h.one (s':={ s with buf:=s.buf++t }) (i:=2) (u:=.string (aA (s.buf++t))) rfl rfl rfl rfl;rw [AZ,aK.add,if_neg Ae];exact⟨rfl,⟨A,c,us,Ac.1⟩,Ac.2⟩
 have Aa:65536 < s.buf.length+t.length->s.add t=s.fail 6:=fun hy=>by rw [aK.add,if_pos hy]
 obtain⟨Af,AV⟩:=ai (jM w L v q (s.add t));rw [<- AV] at I |-;by_cases AX:65536 < s.buf.length+t.length
 ·have Ad:Af=jM w L v q (s.fail 6):=by rw [AV,Aa AX]
  rw [<- Ad] at AB;obtain⟨R,J⟩:=ai L.R;rw [fG,<- J] at AB |-;rw [<- J] at AP hf;obtain⟨X,M,Y,AA⟩:=nq2 (aA s.buf) (aA t);rw [<- M] at AP AQ;rw [<- AA] at AU |-;have Ag:IntKind.i64.wrap ((X.size:Int)+Y.size)=(X.size:Int)+Y.size:=aRt _ (by constructor <;> omega);have Ah:(65536:Int) < (X.size:Int)+Y.size:=om;have Ak:=aa AB;clear AB h hc AZ I Aa AV Ad J M AA AQ AU AX;go_enter func221,ntmps221;go_wp2_with (go_at_call 226; refine jr Ak.o ?_;intro w1 Al);refine qB ?_;exact Al.o
 ·have I:=I AX;obtain⟨R,J⟩:=ai L.R;rw [fG,<- J];rw [<- J] at AP hf I;obtain⟨X,M,Y,AA⟩:=nq2 (aA s.buf) (aA t);rw [<- M] at AP AQ;rw [<- AA] at AU |-;rw [<- M,<- AA] at I;have Ag:IntKind.i64.wrap ((X.size:Int)+Y.size)=(X.size:Int)+Y.size:=aRt _ (by constructor <;> omega);have Ah:¬ (65536:Int) < (X.size:Int)+Y.size:=om;have Ap:¬ (X.size+Y.size > 9223372036854775807):=om;obtain⟨Z,Am⟩:∃ Z,X++Y=Z:=⟨_,rfl⟩;rw [Am] at I;have Ao:=aa I;clear AB h hc AZ I Aa AV J M AA AQ AU AX;go_enter func221,ntmps221;go_wp2_with fail;refine qB ?_;exact Ao.o
end
section
open Go.Maps Go.RowKit
def Pm (w:aRU) (u a:Value) (P:aRY):Prop:=∃ (f:Nat) (mU iI:Array Value),u = .func (.func f) mU iI/\Enters prog f/\Calls prog f (mU++#[a]++iI) w P
def aK.data (s:aK) (d:Bd) (t:ak):aK:=match d with
 | .add=>s.add t
 | .scan w=>{ s with todo:=(jQ t).map (iT.line · w)++s.todo }
theorem aK.arP (s:aK) (th:rQ) (k:dB):s.nL th (qU k)=s.nL th k:=by
 unfold qU;by_cases hk:k.is=true
 ·rw [if_pos hk];cases th <;> simp [aK.nL,hk]
 ·rw [if_neg hk];have:k.is=false:=by simpa using hk
  cases th <;> simp [aK.nL,this,Re]
theorem jM.since [dS] {L:iV} {e:Ending} (h:jM w1 L v q s e af) (ae:Bl w w1) (bf:L.B<=w.heap.size):jM w L v q s e af:=⟨h.1,h.2.1,(dz.gN ae bf).trans h.2.2⟩
theorem jM.plain [dS] {L:iV} (h:jL w L v q s) (ae:Bl w w1):jM w L v q s (.returned (.tuple #[])) w1:=⟨rfl,h.below ae,dz.gN ae h.size⟩
theorem yU.cell (h:yU w g R):w.cell? (ad g 0)=some (pp R 0):=aQH w g 0 _ _ _ h
theorem eT.cell (h:eT w g cs t) (i:Nat):w.cell? (ad g i)=cs[i]?:=aQH w g i _ _ _ h
theorem eT.below (h:eT w g cs t) (ae:Bl w w'):eT w' g cs t:=(ae.block _ h.lt).trans h
theorem aEA [dS] (w:aRU) (L:iV) (v:Env) (q:Option Nat) (s:aK) (h:jL w L v q s) (g:Nat) (av:yU w g L.R) (ae:s.buf.length<=65536) (k:dB) (hk:k.is=true->k.data.length<=1000000000):Calls prog 222 #[xE k,fG g] w (jM w L v q (s.nL .DV k)):=by
 have hA:=fun (I:k.is=true) (W:aRU) (J:Bl w W)=>Xr W L v q s (h.below J) ae k.data (hk I);have AX:=h.size;have hc:=fun W (J:Bl w W)=>yU.cell (eT.below av J);have Ad:=av.lt;obtain⟨R,AP⟩:=ai L.R;rw [<- AP] at hA hc;obtain⟨X,AA,Y,AB⟩:=nq2 (aA k.data) (aA k.path);have Ae:=hc w (Below.refl _ _);rw [fG] at hA;rw [fG];rw [<- AA] at hA;cases I:k.is with
 | true =>
  have hA:=hA I;have he:s.nL .DV k=s.add k.data:=by rw [aK.nL,if_pos I]
  rw [he,xE,I,<- AA,<- AB];obtain⟨AU,M⟩:=ai (jM w L v q (s.add k.data));have AV:∀ (W:aRU),Bl w W->Calls prog 221 #[pp R 0,.string X] W fun e af=>e = .returned (.tuple #[])/\AU (.returned (.tuple #[])) af:=fun W J=>(hA W J).mono fun e af k=>⟨k.1,by rw [M];have:=k.since J AX;rw [k.1] at this;exact this⟩;rw [<- M];have AZ:=aa AV;clear hA AV M AA AB I he h hk hc AP ae av;go_enter func222,ntmps222;go_wp2_with (go_at_call 221; refine jr (AZ.o _ iD) ?_;intro w1 Aa);refine qB ?_;exact Aa.o
 | false =>
  have he:s.nL .DV k=s:=by rw [aK.nL,I];rfl
  rw [he,xE,I,<- AA,<- AB];have AQ:=fun W (J:Bl w W)=>jM.plain h J;obtain⟨AU,M⟩:=ai (jM w L v q s);rw [<- M] at AQ |-;have Ac:=aa AQ;clear hA M AA AB I he h hk hc AP ae av AQ;go_enter func222,ntmps222;go_wp2_with fail;refine qB ?_;exact Ac.o _ iD
def Xt:Bd->rQ
 | .add=>.add
 | .scan x=>.scan x
theorem aEB (s:aK) (d:Bd) (k:dB) (ay:k.is=true):s.nL (Xt d) k=s.data d k.data:=by cases d <;> simp [aK.nL,Xt,aK.data,ay]
theorem aEC (s:aK) (d:Bd) (k:dB) (ay:k.is=false):s.nL (Xt d) k=s.fail 10:=by cases d <;> simp [aK.nL,Xt,ay]
theorem aED [dS] (w:aRU) (L:iV) (v:Env) (q:Option Nat) (s:aK) (h:jL w L v q s) (d:Bd) (g1 g2:Nat) (u:Value) (h1:yU w g1 L.R) (ag:eT w g2 #[u] 138) (k:dB)
  (aS:k.is=true->∀ W,Bl w W->Pm W u (.string (aA k.data)) (jM W L v q (s.data d k.data))) :
  Calls prog 248 #[xE k,fG g1,fG g2] w (jM w L v q (s.nL (Xt d) k)):=by
 have AV:=h.size;have Af:=h1.lt;have Ag:=ag.lt;have c1:=yU.cell h1;have c2:w.cell? (ad g2 0)=some u:=ag.cell 0;obtain⟨X,AA,Y,AB⟩:=nq2 (aA k.data) (aA k.path);rw [fG,fG];cases J:k.is with
 | true =>
  rw [aEB s d k J,xE,J,<- AA,<- AB];obtain⟨AP,M⟩:=ai (jM w L v q (s.data d k.data));have I:Bl w (w.alloc (.cells #[.string Y,.bool true,.string X] 80)):=iD;obtain⟨f,mU,iI,rfl,AX,AQ⟩:=aS J _ I;rw [<- AA] at AQ;have Ah:∀ (args:Array Value) (w:aRU),(callFunc f args).run prog w = .ok (.enter f args) w:=AX;have AZ:=AQ.mono (R':=fun e af=>e = .returned (.tuple #[])/\AP (.returned (.tuple #[])) af) fun e af k=>⟨k.1,by rw [M];have:=k.since I AV;rw [k.1] at this;exact this⟩;rw [<- M];have Ad:=aa AZ;clear AQ AZ M AA AB J h AX aS h1 ag I;go_enter func248,ntmps248;go_wp2_with fail;refine jr Ad.o ?_;intro w1 AU;go_wp2_with fail;refine qB ?_;exact AU.o
 | false =>
  rw [aEC s d k J,xE,J,<- AA,<- AB];have hA:=fun W (I:Bl w W)=>Xq W L v q s (h.below I) 10;obtain⟨R,Aa⟩:=ai L.R;rw [<- Aa] at hA c1;rw [fG] at hA;obtain⟨AP,M⟩:=ai (jM w L v q (s.fail 10));have Ac:∀ (W:aRU),Bl w W->Calls prog 226 #[pp R 0,.int .i64 10] W fun e af=>e = .returned (.tuple #[])/\AP (.returned (.tuple #[])) af:=fun W I=>(hA W I).mono fun e af k=>⟨k.1,by rw [M];have:=k.since I AV;rw [k.1] at this;exact this⟩;rw [<- M];have Ae:=aa Ac;clear hA Ac M AA AB J h Aa aS h1 ag;go_enter func248,ntmps248;go_wp2_with (go_at_call 226; refine jr (Ae.o _ iD) ?_;intro w1 AU);refine qB ?_;exact AU.o
theorem arQ [dS] (w:aRU) (R:Nat) (q:Option Nat) (u:Value) (d:Bd) (aS:Da w R q u d):Calls prog 220 #[fG R,u] w fun e w'=>(∃ u2,e = .returned u2/\wy w' R q u2 d)/\Bl w w':=by
 have hA:Below w.heap.size w ((w.alloc (.cells #[pp R 0] 247)).alloc (.cells #[u] 138)):=(iD).alloc (by rw [World.size_alloc];omega) _;have M:wy ((w.alloc (.cells #[pp R 0] 247)).alloc (.cells #[u] 138)) R q (.func (.func 248) #[] #[pp w.heap.size 0,pp (w.heap.size+1) 0]) d:=by
  refine⟨w.heap.size,w.heap.size+1,u,rfl,?_,?_,?_⟩
  ·exact (aQ5 _ _ _ (by rw [World.size_alloc];omega)).trans (aQS w _)
  ·have:=aQS (w.alloc (.cells #[pp R 0] 247)) (.cells #[u] 138);rw [World.size_alloc] at this;exact this
  ·exact Da.keep (B:=0) aS (dz.gN hA (aQQ _))
 obtain⟨f,mU,iI,rfl⟩:∃ f mU iI,u = .func f mU iI:=by
  cases d with
  | add=>exact⟨_,_,_,aS⟩
  | scan x =>
   obtain⟨a,b,c,e,_⟩:=aS;exact⟨_,_,_,e⟩
 rw [fG];obtain⟨I,J⟩:∃ I:Value->World->Prop,I=fun u2 w'=>wy w' R q u2 d/\Bl w w':=⟨_,rfl⟩;have Y:AJ (I _ _):=aa (by rw [J];exact⟨M,hA⟩);refine Calls.mono (R:=fun e w'=>∃ u2,e = .returned u2/\I u2 w') ?_ fun e w' k=>by rw [J] at k;obtain⟨u2,AA,AB,AP⟩:=k;exact⟨⟨u2,AA,AB⟩,AP⟩
 clear hA M J aS;go_enter func220,ntmps220;go_wp2_with fail;go_ret;exact⟨_,rfl,Y.o⟩
end
section
open Go
section
variable {P:Program} {JC n:Nat}
theorem aEE (P:Program) (m:Machine) (l:Nat):m.fenced P (Fence.wide.inRound l):=fenced_wide P m
theorem aEF {R:aRY} (h:Calls P f args w R):CallsIn (Fence.wide.inRound JC) n P f args w R:=(aQZ (n:=n)).2 h
theorem aEG {row:String} {R:Value->World->Prop} (h:Rows P row args w R):RowsIn (Fence.wide.inRound JC) n P row args w R:=fun c cs _=>by
 obtain⟨v,w',r,s⟩:=h c cs;exact⟨v,w',r,(StepsIn.of_steps s).mono fun m _=>aEE P m JC⟩
theorem Oper.aEH {o:Oper} {a:Act} (aG:∀ c,o.op ≠ .defer c) (h:o.wp P a w K Q):o.wpIn (Fence.wide.inRound JC) n P a w K Q:=by
 refine⟨fun _ _=>trivial,?_⟩;rw [Oper.semAt_eq _ _ _ aG];unfold Oper.wp at h;generalize (execOp a.eval o).run P w=r at *;cases r with
 | ok x w' =>
  cases x <;> simp only [Oper.upon,Oper.uponIn] at h |- <;>
   first|exact h|exact⟨fun e=>(by cases e),aEF h⟩|exact⟨fun e=>(by cases e),aEG h⟩
 | halt x w'=>cases x <;> simp only [Oper.upon,Oper.uponIn] at h |- <;> exact h
def Rz (Q:aRX):Exit->Act->World->Prop
 | .outgrown,_,_=>False
 | e,a,w=>Q e a w
theorem Rz.imp:∀ (e:Exit) (a:Act) (w:aRU),Rz Q e a w->Q e a w:=fun e a w h=>by
 cases e <;> first | exact h | exact (h:False).elim
theorem Rz.lets:¬ LetsOut (Rz Q):=by rintro⟨a,w,h⟩;exact h
theorem aeH {ops:Array Oper} {md:Region.Mode} (aS:∀ (i:Nat) (o:Oper) c,ops[i]?=some o->o.op ≠ .defer c) (hl:¬ LetsOut Q):∀ (fuel:Nat) (listed:Array Bool) (a:Act) (w:aRU),wpAny P md ops Q fuel listed a w->wpAnyIn (Fence.wide.inRound JC) n P md ops Q fuel listed a w
 | 0,_,_,_,h=>h
 | fuel+1,listed,a,w,h=>by
  refine⟨h.1,fun i M=>?_⟩;have I:=h.2 i M;unfold wpOp at I;unfold wpOpIn;cases J:ops[i]? with
  | none =>
   simp only [J] at I |-;exact aeH aS hl fuel _ a w I
  | some o =>
   simp only [J] at I |-;by_cases hw:Region.wanted o (yielded ops a.tmps)=true
   ·rw [if_pos hw] at I;rw [if_pos hw];rcases I with I | I
    ·exact Oper.wpIn_mono (fun a w k=>aeH aS hl fuel _ a w k) (Oper.aEH (aS i o · J) I)
    ·exact absurd I.2 hl
   ·rw [if_neg hw] at I;rw [if_neg hw];exact⟨fun _ _=>trivial,aeH aS hl fuel _ _ w I⟩
theorem arR {id:Nat} {l:List Oper} {T:Array Value} {D:List Deferred} (h:wpAny prog .any l.toArray (Rz Q) l.toArray.size (Array.replicate l.toArray.size false) ⟨T,D⟩ w.drew) (aEI:(l.all fun o=>match o.op with | .defer _=>false | _=>true)=true:=by kernel_rfl) :
  (Code.region id l.toArray true).wpIn (Fence.wide.inRound JC) n prog Q ⟨T,D⟩ w:=by
 refine wpIn_mono (Q:=Rz Q) (wpIn_region_any kr (aeH (fun i o c I hc=>?_) Rz.lets _ _ _ _ h)) Rz.imp;have h1:=aRe.1 aEI o (aQK (by simpa using I));rw [hc] at h1;cases h1
end
end
section
open Go.RowKit
section
variable {P:Program} {w:aRU}
theorem arS (t u ty e:TypeId) (i:TypeInfo) (z:Value) (aO bytes:Nat) (az:P.underlying t=some (.slice e)) (ay:P.info? e=some i) (dm:i.zero=some z)
  (ahD:i.size=aO) (Og:i.bytes=bytes) (Kv:z.cells.size=aO)
  {n:Nat} (bU:Own w base e aO A n c xs)
  {x:Value} {news:aRW} (uZ:Src P w u aO x m news) (h1:∀ v∈news,v.oneCell'=true)
  (uG:n+m<=maxLen) (Kw:(n+m) * bytes<=140737488355328) (sF:base<=w.heap.size) :
  ∃ A' c' w',(Builtin.append_ #[t,u] ty #[.slice A n c,x]).run P w = .ok (.slice A' (n+m) c') w'/\Own w' base e aO A' (n+m) c' (xs++news)/\w.grownBy w' (bM A) /\
   ((A'=A/\c'=c)\/(bM A'=some w.heap.size/\Bl w w')):=by
 subst ahD;subst Og;have Ao:n+m<=9223372036854775807:=by simp only [maxLen] at uG;omega
 obtain⟨hl,Ap,AX,hc⟩:=bU;obtain⟨M,I,hlen,AB⟩:=uZ;have J:=hlen 0;have AZ:(xs++news).length=(n+m) * i.size:=by rw [List.length_append,hl,M,Nat.add_mul]
 by_cases Y:n+m<=c
 ·
  rcases aQ2 c with AA | AA
  ·subst AA;obtain rfl:n=0:=om;obtain rfl:m=0:=om;have AP:xs=[]:=aQV (by simpa using hl);have Ae:news=[]:=aQV (by simpa using M);subst AP Ae;refine⟨A,0,w,?_,⟨by simp,aQF _,AX,hc⟩,⟨rfl,rfl,rfl,aQF _,fun _ _ _=>rfl⟩,.inl ⟨rfl,rfl⟩⟩;have hf:=AB 0;simp only [World.drewN_zero] at hf J;rcases I with ⟨_,I⟩ | I <;> cases A <;> simp [Builtin.append_,run_underlying az,run_underlying I,sizeOf,typeInfo,ay,J,hf,storeCells]
  ·obtain⟨b,o,cur,aZ,rfl,ae,av,AQ,hs,ah⟩:=hc.resolve_left (fun e=>by omega);have Aq:n * i.size+news.length<=c * i.size:=by rw [M,<- Nat.add_mul];exact aQ8 _ Y
   have Aa:=adh P b (o+n * i.size) e aZ news 0 cur w AQ av om h1;simp only [Nat.add_zero] at Aa;have hf:=AB 0;simp only [World.drewN_zero] at hf J;refine⟨some ⟨b,o,none⟩,c,w.setRow b (cur.toList.take (o+n * i.size)++news++cur.toList.drop (o+n * i.size+news.length)).toArray,?_,?_,?_,.inl ⟨rfl,rfl⟩⟩
   ·rcases I with ⟨_,I⟩ | I <;> simp [Builtin.append_,run_underlying az,run_underlying I,sizeOf,typeInfo,ay,J,hf,Y,Dy,Aa]
   ·refine⟨AZ,Y,AX,.inr ⟨b,o,_,aZ,rfl,ae,aQU w b cur _ e _ av,?_,?_,fun j aC=>?_⟩⟩
    ·simp only [List.size_toArray,List.length_append,List.length_take,List.length_drop,Array.length_toList];rw [show min (o+n * i.size) cur.size+news.length+(cur.size - (o+n * i.size+news.length))=cur.size by omega];exact AQ
    ·simp only [List.size_toArray,List.length_append,List.length_take,List.length_drop,Array.length_toList];omega
    ·have Ac:(cur.toList.take (o+n * i.size)).length=o+n * i.size:=by rw [List.length_take,Array.length_toList];omega
     simp only [List.getElem?_toArray];rw [List.append_assoc];by_cases Af:j < n * i.size
     ·rw [List.getElem?_append_left om,List.getElem?_append_left om,List.getElem?_take,if_pos om,<- ah j Af];simp
     ·rw [Nat.add_mul] at aC;rw [List.getElem?_append_right om,List.getElem?_append_left om,List.getElem?_append_right (l₁:=xs) om];congr 1;omega
   ·exact⟨rfl,rfl,rfl,by simp,fun k _ hk=>aQT w b k _ (fun e=>hk (by simp [bM,e]))⟩
 ·
  have AU:=grownCap_ge w (n+m) c e;have Ag:grownCap w (n+m) c e<=maxLen:=grownCap_le_maxLen w (n+m) c e uG;have Ah:¬ (9223372036854775807 < ((n:Int)+(m:Int))):=om;have Ak:¬ (281474976710656 < Builtin.nextslicecap (n+m) c * i.bytes):=by have:=growslice_fits (need:=n+m) (old:=c) om Kw;omega
  have hf:=AB 1;have Ad:(Builtin.firstCells i.size n (.slice A n c)).run P (w.drewN 1) = .ok xs.toArray (w.drewN 1):=by
   rcases aQ2 c with AA | AA
   ·obtain rfl:n=0:=om;have AP:xs=[]:=aQV (by simpa using hl);subst AP;cases A <;> simp [Builtin.firstCells,loadCells,loadCellsFrom]
   ·obtain⟨b,o,cur,aZ,rfl,ae,av,AQ,hs,ah⟩:=hc.resolve_left (fun e=>by omega);refine run_firstCells_some (P:=P) (w.drewN 1) i.size n ⟨b,o,none⟩ n c xs hl (fun j v AV=>?_);have aC:j < xs.length:=by
     rcases aQW j xs.length with Ac | AU
     ·exact Ac
     ·rw [List.getElem?_eq_none AU] at AV;cases AV
    rw [Dy];show w.cell? _=_;rw [cell_of_row w b _ cur e _ av,ah j om,AV]
  have Al:w.drewN 1=w.drew:=rfl;rw [Al] at hf Ad;simp only [World.drewN_zero] at J;refine⟨some ⟨w.heap.size,0,none⟩,grownCap w (n+m) c e,w.drew.alloc (.cells (xs.toArray++news.toArray++Builtin.zeroCells z.cells (grownCap w (n+m) c e - (n+m))) e),?_,?_,?_,.inr ⟨rfl,(Below.refl _ w).drew.alloc (aQF _) _⟩⟩
  ·rcases I with ⟨_,I⟩ | I <;> simp [Builtin.append_,run_underlying az,run_underlying I,sizeOf,typeInfo,zeroValue,ay,dm,J,Y,Ah,Ak,Question.forced,hf,Ad,newRow,grownCap,-List.append_toArray]
  ·have Am:(xs.toArray++news.toArray++Builtin.zeroCells z.cells (grownCap w (n+m) c e - (n+m))).size=grownCap w (n+m) c e * i.size:=by simp only [Array.size_append,List.size_toArray,size_zeroCells,Kv,hl,M,<- Nat.add_mul];congr 1;omega
   have h:=Own.made w.drew (xs.toArray++news.toArray++Builtin.zeroCells z.cells (grownCap w (n+m) c e - (n+m))) e i.size (n+m) _ base sF AU Ag Am;have az:(xs.toArray++news.toArray++Builtin.zeroCells z.cells (grownCap w (n+m) c e - (n+m))).toList.take ((n+m) * i.size)=xs++news:=by simp only [Array.toList_append];rw [<- AZ];exact List.take_left
   rw [az] at h;exact h
  ·exact⟨rfl,rfl,rfl,by simp,fun k hk _=>aQ5 w.drew _ k hk⟩
def RA (base:Nat) (t:TypeId) (aO:Nat) (A:aRV) (c:Nat) (n:Nat) (xs:aRW) (A':aRV) (c':Nat) (w:aRU):Prop :=
 Own w base t aO A' n c' xs/\((A'=A/\c'=c)\/bM A'≠bM A)
def o6 (base:Nat) (t:TypeId) (aO:Nat) (A:aRV) (c:Nat) (n:Nat) (xs:aRW) (w w':aRU):Prop :=
 w.grownBy w' (bM A)/\∀ A' c',RA base t aO A c n xs A' c' w->RA base t aO A c n xs A' c' w'
theorem o6.refl {n:Nat} (w:aRU):o6 base t aO A c n xs w w:=⟨⟨rfl,rfl,rfl,aQF _,fun _ _ _=>rfl⟩,fun _ _ h=>h⟩
theorem o6.alloc {n:Nat} (w:aRU) (o:Obj):o6 base t aO A c n xs w (w.alloc o):=⟨World.grownBy_alloc w o _,fun _ _ h=>⟨h.1.alloc o,h.2⟩⟩
theorem arT {o:Oper} {a:Act} (s x:Operand) (t u:TypeId)
  (aG:o.op = .call { callee:=.builtin .append,args:=#[s,x],argTypes:=#[t,u] })
  (e:TypeId) (z:Value) (aO bytes:Nat) (az:P.underlying t=some (.slice e)) (ay:(P.info? e).map (fun i=>(i.zero,i.size,i.bytes))=some (some z,aO,bytes)) (Kv:z.cells.size=aO)
  (base:Nat) (A:aRV) (n c:Nat) (xs:aRW) (bU:Own w base e aO A n c xs)
  (m:Nat) (news:aRW) (v:Value) (uZ:Src P w u aO v m news) (h1:∀ v∈news,v.oneCell'=true)
  (uG:n+m<=maxLen) (Kw:(n+m) * bytes<=140737488355328) (sF:base<=w.heap.size) (zM:a.eval s = .slice A n c/\a.eval x=v)
  (h:∀ A' c' w',RA base e aO A c (n+m) (xs++news) A' c' w'->o6 base e aO A c (n+m) (xs++news) w w'->Own w' base e aO A n c xs->K (a.put o.dst (.slice A' (n+m) c')) w'):o.wp P a w K Q:=by
 obtain⟨i,AB,AP,AQ,AU⟩:=info_parts ay;obtain⟨A',c',w',AV,I,M,AX⟩:=arS (P:=P) t u o.type e i z aO bytes az AB AP AQ AU Kv bU uZ h1 uG Kw sF;unfold Oper.wp execOp;simp only [aG,resolve,invoke,builtin,Sem.run_bind,Sem.run_pure,Result.andThen_ok,List.map_toArray,List.map_cons,List.map_nil,zM.1,zM.2,AV];have hl:=bU.1;rcases AX with ⟨rfl,rfl⟩ | ⟨AZ,Y⟩
 ·refine h A' c' w' ⟨I,.inl ⟨rfl,rfl⟩⟩ ⟨M,fun B Aa J=>?_⟩ ?_
  ·rcases J with ⟨Ac,⟨rfl,rfl⟩ | AA⟩
   ·exact⟨I,.inl ⟨rfl,rfl⟩⟩
   ·exact⟨Ac.grown M fun b ae e=>AA (by rw [ae,e]),.inr AA⟩
  ·have:=I.take (k:=n) om;rwa [List.take_append_of_le_length om,List.take_of_length_le om] at this
 ·have Ad:bM A'≠bM A:=fun e=>by
   rw [AZ] at e;have:=(bU.block _ e.symm).2.1;omega
  refine h A' c' w' ⟨I,.inr Ad⟩ ⟨M,fun B Aa J=>⟨J.1.below Y (aQF _),J.2⟩⟩ (bU.below Y (aQF _))
end
end
section
open Go.Maps Go.RowKit
theorem aEJ:(prog.info? 1).map (fun i=>(i.zero,i.size,i.bytes))=some (some .nilFunc,1,8):=kr
theorem F8 {a b c:aRU} {r:Option Nat} (h:a.grownBy b r) (k:b.grownBy c r):a.grownBy c r :=
 ⟨k.os.trans h.os,k.tape.trans h.tape,k.output.trans h.output,aQG h.size k.size,fun i I J=>(k.block i (aQJ I h.size) J).trans (h.block i I J)⟩
def tO (W:aRU) (B:Nat) (A:aRV) (n c:Nat) (V:aRW) (af:aRU):Prop:=W.grownBy af (bM A)/\Own af B 1 1 A n c V
def F9 (B:Nat) (A:aRV) (n c:Nat) (V:aRW) (u:Value) (j:Nat) (v:Value) (w:aRU):Prop :=
 (j=6->∃ g,v = .slice (some ⟨g,0,none⟩) 1 1/\w.heap[g]?=some (.cells #[u] 1 (0,0))/\some g≠bM A) /\
 (j=7->∃ A' c',v = .slice A' (n+1) c'/\RA B 1 1 A c (n+1) (V++[u]) A' c' w)
theorem F9.keep {n:Nat} {v:Value} (hk:o6 B 1 1 A c (n+1) (V++[u]) w w') (h:F9 B A n c V u j v w):F9 B A n c V u j v w' :=
 ⟨fun e=>by
  obtain⟨g,J,I,M⟩:=h.1 e;exact⟨g,J,(hk.1.block g (iw I) M).trans I,M⟩,fun e=>by
  obtain⟨A',c',J,I⟩:=h.2 e;exact⟨A',c',J,hk.2 _ _ I⟩⟩
theorem tO.uR [dS] {n:Nat} (h:tO W B A n c V af) (aG:Own W B 1 1 A n c V) (bf:B<=W.heap.size):dz B W af:=by
 refine⟨h.1.os,h.1.tape,h.1.output,h.1.size,fun k hk=>h.1.block k om fun e=>?_,fun k cs t aZ hk _ I=>h.1.block k (iw hk) fun e=>?_,fun k o hk hc _=>h.1.block k (iw hk) fun e=>by
  obtain⟨_,_,cur,aZ,ae⟩:=aG.block k e.symm;rw [hk] at ae;cases ae;cases hc⟩
 ·have:=(aG.block k e.symm).1;omega
 ·exact aG.ne hk (aQ0 I) e.symm
theorem tO.start {n:Nat} (aG:Own W B 1 1 A n c V):tO W B A n c V W.drew:=⟨⟨rfl,rfl,rfl,aQF _,fun _ _ _=>rfl⟩,aG⟩
theorem tO.JD {n:Nat} (h:tO W B A n c V af):some af.heap.size≠bM A:=fun e=>by
 have:=(h.2.block _ e.symm).2.1;omega
theorem tO.alloc {n:Nat} (h:tO W B A n c V af) (o:Obj):tO W B A n c V (af.alloc o):=⟨F8 h.1 (World.grownBy_alloc af o _),h.2.alloc o⟩
theorem aj1 {n:Nat} {arU:Value} {o:Oper} {a:Act} {s x:Operand} (aj:tO W B A n c V af) (ah:F9 B A n c V u 6 arU af) (hu:u.oneCell'=true) (aB:n<=1000000000000) (bf:B<=W.heap.size)
  (aG:o.op = .call { callee:=.builtin .append,args:=#[s,x],argTypes:=#[291,291] }) (he:a.eval s = .slice A n c/\a.eval x=arU)
  (aR:∀ v w',F9 B A n c V u 7 v w'->tO W B A n c V w'->o6 B 1 1 A c (n+1) (V++[u]) af w'->K (a.put o.dst v) w'):o.wp prog a af K Q:=by
 obtain⟨g9,rfl,I,Y⟩:=ah.1 rfl;have J:Rd af 1 (some ⟨g9,0,none⟩) 1 [u]:=⟨rfl,fun _=>⟨g9,0,rfl,fun j u hu=>by rw [cell_of_row af g9 _ _ _ _ I,Nat.zero_add];simpa using hu⟩⟩;exact arT s x _ _ aG 1 .nilFunc 1 8 underlying291 aEJ rfl B A n c V aj.2 1 [u] (.slice (some ⟨g9,0,none⟩) 1 1) (Src.slice underlying291 J) (fun v M=>by rw [List.mem_singleton.1 M];exact hu) mV om (aQG bf aj.1.size) he fun il c2 aD hc hk aG=>aR _ _ ⟨gq,fun _=>⟨il,c2,rfl,hc⟩⟩ ⟨F8 aj.1 hk.1,aG⟩ hk
def MapAt (w:aRU) (L:iV) (q:Option Nat) (s:aK):Prop:=∃ (g:Nat) (M:fA Bool),q=some g/\L.B<=g/\g≠L.m/\eU w prog 9 Ib g s.seen.length M/\∀ p,getM M p=if p∈s.seen then some true else none
theorem aeI {enc:α->Value} {k:TypeId} {n:Nat} {M:fA α} (h:eU w P k enc b n M) (av:w.heap[g]?=some (.cells cs t aZ)):b≠g:=by rintro rfl;exact h.isMap av
theorem aj2 {enc:α->Value} {n:Nat} (h:tO W B A n c V af) (aG:Own W B 1 1 A n c V) {k:TypeId} {M:fA α} (hm:eU W P k enc b m M):eU af P k enc b m M:=by refine hm.keep (h.1.block b hm.lt fun e=>?_);obtain⟨_,_,cur,aZ,hc⟩:=aG.block b e.symm;exact hm.isMap hc
theorem MapAt.below {L:iV} (h:MapAt w L q s) (ae:Below w.heap.size w w'):MapAt w' L q s:=by obtain⟨g,M,h1,J,Y,I,AA⟩:=h;exact⟨g,M,h1,J,Y,I.below ae I.lt,AA⟩
theorem MapAt.setCell {L:iV} (h:MapAt w L q s) (av:w.heap[g]?=some (.cells cs t aZ)) (o:Nat) (u:Value):MapAt (w.setCell ⟨g,o,none⟩ u) L q s:=by obtain⟨b,M,h1,J,Y,I,AA⟩:=h;exact⟨b,M,h1,J,Y,I.keep (aQX _ _ _ _ (aeI I av)),AA⟩
theorem nV.push [dS] {L:iV} {A':aRV} {c':Nat} {t:iT} (h:nV W L v q s A c us)
  (hm:tO W L.B A s.todo.length c us.reverse af) (hc:RA L.B 1 1 A c (s.todo.length+1) (us.reverse++[u]) A' c' af) (az:ER af L.R q u t) (hs:t.Ic=true\/MapAt W L q s) :
  nV (af.setCell ⟨L.R,0,none⟩ (.slice A' (s.todo.length+1) c')) L v q { s with todo:=t :: s.todo } A' c' (u :: us)/\dz L.B W (af.setCell ⟨L.R,0,none⟩ (.slice A' (s.todo.length+1) c')):=by
 have AV:=h.size;have ae:=hm.uR h.row AV;have I:af.heap[L.R]?=some (.cells (uw A s.todo.length c L.mo v.env.length L.nk s.buf L.m s.asks s.waits s.over) 295 (0,0)) :=
  (hm.1.block L.R h.run.lt fun e=>h.row.ne h.run dc e.symm).trans h.run;have AP:dz L.B af (af.setCell ⟨L.R,0,none⟩ (.slice A' (s.todo.length+1) c')):=dz.setCell (dz.refl _ _) I (.inl rfl) h.base _ _;have Y:=ae.trans AP;have AQ:∀ {α:Type} {enc:α->Value} {b m:Nat} {M:fA α},eU W prog 9 enc b m M->eU (af.setCell ⟨L.R,0,none⟩ (.slice A' (s.todo.length+1) c')) prog 9 enc b m M:=fun AU =>
  (aj2 hm h.row AU).keep (aQX _ _ _ _ (aeI (aj2 hm h.row AU) I));refine⟨⟨?_,h.base,?_,?_,h.env.uR Y dc dc,?_,?_,h.free.size Y.size⟩,Y⟩
 ·unfold eT;rw [setCell_eq_setRow af L.R 0 _ _ _ _ I,setRow_heap af L.R _ _ _ _ I];rfl
 ·rw [List.reverse_cons];exact hc.1.setOther (p:=ad L.R 0) (hc.1.ne I dc) _
 ·intro i AX AA;cases i with
  | zero =>
   rw [List.getElem?_cons_zero] at AA;cases AA;exact⟨u,rfl,az.keep AP⟩
  | succ i =>
   rw [List.getElem?_cons_succ] at AA;obtain⟨x,h1,J⟩:=h.tasks i AX AA;exact⟨x,by rw [List.getElem?_cons_succ];exact h1,J.keep Y⟩
 ·obtain⟨h1,M,J,AB⟩:=h.known;exact⟨h1,M,AQ J,AB⟩
 ·have fQ:MapAt W L q s->(∃ (g:Nat) (M:fA Bool),q=some g/\L.B<=g/\g≠L.m/\eU (af.setCell ⟨L.R,0,none⟩ (.slice A' (s.todo.length+1) c')) prog 9 Ib g s.seen.length M/\∀ p,getM M p=if p∈s.seen then some true else none):=fun ah=>by
   obtain⟨g,M,h1,J,AB,AZ,Aa⟩:=ah;exact⟨g,M,h1,J,AB,AQ AZ,Aa⟩
  rcases h.seen with h1 | h1
  ·rcases hs with hs | hs
   ·left;intro x ah;rcases aQN.1 ah with rfl | ah
    ·exact hs
    ·exact h1 x ah
   ·exact .inr (fQ hs)
  ·exact .inr (fQ h1)
end
section
open Go.RowKit Go.Shelf
attribute [local go_sem] Oper.semAt_some
theorem dz.put [dS] (W:aRU) (l:Nat) (o uY:Obj) (hl:B<=l) (h:W.heap[l]?=some o) (h1:o.isCells=false) (bz:¬ dS.E l):dz B W (W.putObj l uY):=by have av:=aRa W l uY;refine⟨av.os,av.tape,av.output,av.size,fun k hk=>av.block k (by have:=iw h;omega) (fun e=>by cases e;omega),fun k cs t aZ hk _ _=>av.block k (iw hk) fun e=>?_,fun k I hk _ he=>av.block k (iw hk) fun e=>by cases e;exact bz he⟩;cases e;rw [h] at hk;cases hk;cases h1
theorem aj3 {x:ak} (h:l[k]?=some x):(cB l)[k]?=some (.string (aA x)):=by rw [cB,List.getElem?_map,h];rfl
abbrev Ni:={ x:Int × ak // x.2.length<=1000000000 }
def aaz (x:Ni):Array Value:=#[.int .i64 x.1.1,.string (aA x.1.2)]
theorem aEL [dS] (n:Nat) (aB:1<=n) (l jq B:Nat) (A:aRV) (cap:Nat) (zs:List ak) (EH:zs.length<=1000000000) (lU:∀ p∈zs,p.length<=1000000000) (bu vX:List Ni->World->Prop)
  (gp:∀ pre x W,bu pre W->pre.length < zs.length->YieldAt Fence.wide (n - 1) prog l (aaz x) W fun e W'=>(e = .returned (.bool true)/\bu (pre++[x]) W'/\dz B W W')\/(e = .returned (.bool false)/\vX (pre++[x]) W'))
  (W:aRU) (vY:W.cell? (ad jq 0)=some (.slice A zs.length cap)) (hc:∀ W',dz B W W'->W'.cell? (ad jq 0)=some (.slice A zs.length cap)) (ax:∀ W',dz B W W'->Rd W' 1 A zs.length (cB zs)) (aV:bu [] W) :
  CallsIn Fence.wide n prog 267 #[.func (.yield l) #[] #[],pp jq 0] W fun e W'=>(∃ v,e = .returned v)/\((∃ ys,ys.map (·.1.2)=zs.reverse/\bu ys W')\/(∃ pre,True/\vX pre W')):=by
 have AX:=MJ 267;obtain⟨len,hlen⟩:=ai zs.length;rw [<- hlen] at EH gp vY hc ax;refine aRj func267 rfl AX ?_ rfl;simp only [ntmps267,List.size_toArray,List.length_cons,List.length_nil,Nat.reduceAdd,Nat.reduceSub,Array.replicate_succ,Array.replicate_zero,List.push_toArray,List.append_toArray,List.nil_append,List.cons_append]
 gi_wp2
 gi_loopw [3] (fun i wr=>∃ (q:Nat) (ys:List Ni) (M:Int),i = .int .i64 M/\M=(q:Int) - 1/\q<=len/\ys.map (·.1.2)=(zs.drop q).reverse/\bu ys wr/\dz B W wr) (fun i _=>(intOf i+1).toNat)
 case atStart=>exact⟨len,[],_,rfl,om,aQF _,by rw [hlen,List.drop_length];rfl,aV,dz.refl _ _⟩
 case round =>
  obtain⟨q,ys,M,rfl,AA,Ah,I,AB,AP⟩:=hrel;by_cases Ak:0 < q
  ·obtain⟨p,rfl⟩:∃ p,q=p+1:=⟨q - 1,om⟩;obtain rfl:M=(p:Int):=om;clear AA;obtain⟨x,ah⟩:∃ x,zs[p]?=some x:=⟨_,aQI om⟩;have AQ:(zs.drop p).reverse=(zs.drop (p+1)).reverse++[x]:=by obtain⟨aI,rfl⟩:=aQL.1 ah;rw [List.drop_eq_getElem_cons aI,List.reverse_cons]
   obtain⟨b',o,rfl,hcell⟩:=(ax wr AP).2 om;have Al:wr.cell? (ad b' (o+p))=some (.string (aA x)):=hcell p _ (aj3 ah);have AU:=lU x (aQK ah);have AZ:ys.length < len:=by have:=congrArg List.length I;rw [List.length_map,List.length_reverse,List.length_drop] at this;omega
   have Y:=gp ys ⟨((p:Int),x),AU⟩ wr AB AZ;have AV:(ys++[(⟨((p:Int),x),AU⟩:Ni)]).map (·.1.2)=(zs.drop p).reverse:=by rw [List.map_append,I,AQ];rfl
   unfold aaz at Y;simp only at Y;obtain⟨fn,tmps,assign,body,hy,Aa⟩:=Y;have Am:(0:Int)<=p:=om;have Ac:=aa AV;clear ah AQ hcell I AV
   gi_wp2
   refine Aa.mono ?_;rintro e Ao (⟨rfl,Ad,Ae⟩ | ⟨rfl,Af⟩)
   ·gi_wp2
    go_roundw;case rel=>exact⟨p,_,_,rfl,om,om,Ac.o,Ad,AP.trans Ae⟩
    case measure=>simp [intOf]
   ·gi_wp2
    refine qB ?_;exact⟨⟨_,rfl⟩,.inr ⟨_,trivial,Af⟩⟩
  ·obtain rfl:q=0:=om;obtain rfl:M = -1:=om;clear AA;rw [List.drop_zero] at I;have Ag:=aa I;clear I
   gi_wp2
   go_end0;exact⟨⟨_,rfl⟩,.inl ⟨_,Ag.o,AB⟩⟩
theorem aEM (w:aRU) (a:aRV) (len cap:Nat) :
  Calls prog 250 #[.slice a len cap] w fun e w'=>e = .returned (.func (.func 267) #[] #[pp w.heap.size 0])/\w'=w.alloc (.cells #[.slice a len cap] 24):=by
 go_enter func250,ntmps250;go_wp2;go_ret;exact⟨rfl,rfl⟩
theorem aEN [dS] (n:Nat) (aB:1<=n) (jq B:Nat) (A:aRV) (cap:Nat) (zs:List ak) (EH:zs.length<=1000000000) (lU:∀ p∈zs,p.length<=1000000000) (w:aRU) (bf:B<=w.heap.size)
  (hc:eT w jq #[.slice A zs.length cap] 24) (ax:∀ W',dz B w W'->Rd W' 1 A zs.length (cB zs)) :
  SeqStopsK Fence.wide n prog 267 #[pp jq 0] aaz (dz B) (fun ys=>ys.map (·.1.2)=zs.reverse) (fun _=>True) zs.length w:=fun l bu Y W AA _ _ AB AP=>by
 have I:∀ W',dz B W W'->dz B w W':=fun W' h=>(dz.gN AA bf).trans h;have M:∀ W',dz B W W'->W'.cell? (ad jq 0)=some (.slice A zs.length cap):=fun W' h=>(hc.keep (I W' h) dc dc).cell 0;refine (aEL n aB l jq B A cap zs EH lU bu Y AB W (M W (dz.refl _ _)) M (fun W' h=>ax W' (I W' h)) AP).mono ?_;rintro e W' ⟨he,⟨ys,aI,aC⟩ | ⟨pre,aI,aC⟩⟩
 ·exact⟨he,.inl ⟨_,aI,aC⟩⟩
 ·exact⟨he,.inr ⟨pre,aI,aC⟩⟩
end
section
open Go.Maps Go.RowKit
theorem Pm.calls {Q:World->Prop} {a:Value} {P:World->Ending->World->Prop} (h:∀ W,Q W->Pm W u a (P W)) (aV:Q dI):∃ (f:Nat) (mU iI:Array Value),u = .func (.func f) mU iI/\Enters prog f/\∀ W,Q W->Calls prog f (mU++#[a]++iI) W (P W):=by
 obtain⟨f,mU,iI,rfl,he,_⟩:=h dI aV;refine⟨f,mU,iI,rfl,he,fun W J=>?_⟩;obtain⟨AA,AB,AP,e,_,hc⟩:=h W J;injection e with I M Y
 injection I with I
 subst I M Y;exact hc
theorem arX {b:ak} (h:aA a=aA b):a=b:=by have:=congrArg (fun x:ByteArray=>x.data.toList) h;simpa [aA] using this
theorem aj4:∀ a b,xE a=xE b->a=b:=by rintro⟨p,i,d⟩ ⟨I,J,M⟩ h;simp only [xE,Value.agg.injEq,Array.mk.injEq,List.cons.injEq,Value.string.injEq,Value.bool.injEq,and_true] at h;rw [arX h.1,h.2.1,arX h.2.2]
theorem arY (w:aRU):(zeroValue 80).run prog w = .ok (xE Re) w:=kr
theorem JE:Sz 80 3:=kr
theorem aj5 {VX:aRW} {cur:Array Value} (av:w.heap[g]?=some (.cells cur t (0,0))) (hl:VX.length=cur.size):(w.setRow g (laid cur 0 VX)).heap[g]?=some (.cells VX.toArray t (0,0)):=by rw [EB hl];exact aQU w g cur _ t _ av
def rW (w:aRU) (g:Nat) (t1 t2 t3:TypeId) (a b c:Value):Prop:=eT w g #[a] t1/\eT w (g+1) #[b] t2/\eT w (g+1+1) #[c] t3
section
variable {w w':aRU} {g:Nat} {t1 t2 t3:TypeId} {a b c:Value}
theorem rW.below (h:rW w g t1 t2 t3 a b c) (ae:Bl w w'):rW w' g t1 t2 t3 a b c:=⟨h.1.below ae,h.2.1.below ae,h.2.2.below ae⟩
theorem rW.keep [dS] (h:rW w g t1 t2 t3 a b c) (ae:dz B w w') (h1:t1 ≠ 295 /\ t1 ≠ 1) (ag:t2 ≠ 295 /\ t2 ≠ 1) (au:t3 ≠ 295 /\ t3 ≠ 1):rW w' g t1 t2 t3 a b c:=⟨h.1.keep ae h1.1 h1.2,h.2.1.keep ae ag.1 ag.2,h.2.2.keep ae au.1 au.2⟩
theorem rW.cells (h:rW w g t1 t2 t3 a b c):w.cell? (ad g 0)=some a/\w.cell? (ad (g+1) 0)=some b/\w.cell? (ad (g+1+1) 0)=some c:=⟨h.1.cell 0,h.2.1.cell 0,h.2.2.cell 0⟩
end
theorem arZ (w:aRU) (a b c:Value) (t1 t2 t3:TypeId):rW (((w.alloc (.cells #[a] t1)).alloc (.cells #[b] t2)).alloc (.cells #[c] t3)) w.heap.size t1 t2 t3 a b c/\Bl w (((w.alloc (.cells #[a] t1)).alloc (.cells #[b] t2)).alloc (.cells #[c] t3)):=by
 have h1:Bl w (w.alloc (.cells #[a] t1)):=iD;refine⟨⟨?_,?_,?_⟩,(h1.alloc sp _).alloc (by simp;omega) _⟩
 ·unfold eT;rw [Below.heap_alloc _ _ _ (by simp;omega),Below.heap_alloc _ _ _ sp];exact aQM w _
 ·unfold eT;rw [Below.heap_alloc _ _ _ sp];have:=aQM (w.alloc (.cells #[a] t1)) (.cells #[b] t2);rwa [World.size_alloc] at this
 ·have:=aQM ((w.alloc (.cells #[a] t1)).alloc (.cells #[b] t2)) (.cells #[c] t3);rwa [World.size_alloc,World.size_alloc] at this
theorem aEO [dS] (w:aRU) (L:iV) (v:Env) (q:Option Nat) (s S':aK) (h:jL w L v q s) (p:ak) (aI:p.length<=1000000000) (f:Nat) (mU iI:Array Value) (hl:s.todo.length<=1000000000000) (th:rQ) (FR:yV w L.R q (.func (.func f) mU iI) th) (hs:th.Ic=true\/MapAt w L q s)
  (dP:∀ k,tL s.known p=some (qU k)->∀ W,Bl w W->Pm W (.func (.func f) mU iI) (xE k) (jM W L v q S'))
  (eF:tL s.known p=none->500<=s.known.length->S'=s.fail 6)
  (fM:tL s.known p=none->s.known.length < 500->S'={ s with asks:=p,waits:=true,todo:=.tK p th :: s.todo }) :
  Calls prog 219 #[fG L.R,.string (aA p),.func (.func f) mU iI] w (jM w L v q S'):=by
 have Bn:=fun W (I:Bl w W)=>Xq W L v q s (h.below I) 6;obtain⟨A,c,us,h⟩:=h;obtain⟨Ce,M,aj,Bp,BF⟩:=h.known;have bf:=h.size;have Bq:=aj.lt;have Br:=h.run.lt;obtain⟨F,AB⟩:=ai (xE ((getM M p).getD Re));obtain⟨Y,Ag⟩:=ai (getM M p).isSome;obtain⟨BG,Ac⟩:=ai (jM w L v q S');have look:∀ af,Bl w af->(Instr.lookup 290 (.map (some L.m)) (.string (aA p)) true).run prog af = .ok (.tuple #[F,.bool Y]) af:=fun af ae=>by
  have:=(aj.below ae Bq).look_ok aj4 underlying9 underlying290 Re (arY af) (aA p) (by rw [iP];unfold maxLen;omega);rw [show (aA p).data.toList=p from by simp [aA]] at this;rw [AB,Ag];cases hk:getM M p <;> rw [hk] at this <;> exact this
 have AX:∀ af,Bl w af->af.cell? (ad L.R 3)=some (.map (some L.m)):=fun af ae=>(ae.cell (p:=ad L.R 3) Br).trans (h.cell 3).1;have av:Y=false->tL s.known p=none:=fun e=>by
  rw [Ag] at e;rw [<- BF p,show getM M p=none by simpa using e];rfl
 have Bt:Y=true->Enters prog f/\∀ W,Bl w W->Calls prog f (mU++#[F]++iI) W fun e af=>e = .returned (.tuple #[])/\BG (.returned (.tuple #[])) af:=fun e=>by
  rw [Ag] at e;obtain⟨k,hk⟩:=aRE.1 e;obtain⟨Dk,Dp,Dq,Cf,Cg,hc⟩:=Pm.calls (dP k (by rw [<- BF p,hk];rfl)) (Below.refl _ _);cases Cf;rw [AB,hk];exact⟨Cg,fun W I=>(hc W I).mono fun e af k=>⟨k.1,by rw [Ac];have:=k.since I bf;rw [k.1] at this;exact this⟩⟩
 have BH:Y=false->500<=s.known.length->∀ W,Bl w W->Calls prog 226 #[pp L.R 0,.int .i64 6] W fun e af=>e = .returned (.tuple #[])/\BG (.returned (.tuple #[])) af:=fun Cj AA W I=>(Bn W I).mono fun e af k=>⟨k.1,by rw [Ac,eF (av Cj) AA];have:=k.since I bf;rw [k.1] at this;exact this⟩;have BK:=aa (show Y=false->s.known.length < 500->BG=jM w L v q { s with asks:=p,waits:=true,todo:=.tK p th :: s.todo } from fun e AA=>by rw [Ac,fM (av e) AA]);rw [fG,<- Ac];obtain⟨R,aL,m,hm,s0,BL⟩:=nq3 L.R L.m (aA p);rw [<- aL] at AX Br BH |-;rw [<- hm] at AX look;rw [<- BL] at look |-;obtain⟨AP,AQ,gV,Ck⟩:∃ AP AQ gV,F = .agg #[.string AP,.bool AQ,.string gV]:=⟨_,_,_,AB⟩;subst Ck;obtain⟨Cm,C8,Ah,BN⟩:=hq4 look AX Bt BH;have Co:=aa (show ∀ af,Bl w af->eU af prog 9 xE m s.known.length M from fun af ae=>by rw [hm];exact aj.below ae Bq);obtain⟨CF,BO,Cr,Ct,Ad,CG⟩:=hq6 Bp h FR hs aL BL;clear look AX Ac AB h aj aI aL hm BL BF Bp Ce FR hs Bt BH Ag av Bn dP eF fM;go_enter func219,ntmps219;go_wp2_with fail;obtain⟨Ak,Al⟩:=arZ w (pp R 0) (.string s0) (.func (.func f) mU iI) 247 9 322;obtain⟨W,I⟩:=ai (((w.alloc (.cells #[pp R 0] 247)).alloc (.cells #[.string s0] 9)).alloc (.cells #[.func (.func f) mU iI] 322));rw [<- I] at Al Ak |-;have BP:=aa Al;have BR:=aa (show ∀ af,Bl W af->af.cell? (ad w.heap.size 0)=some (pp R 0)/\af.cell? (ad (w.heap.size+1) 0)=some (.string s0)/\af.cell? (ad (w.heap.size+1+1) 0)=some (.func (.func f) mU iI) from fun af ae=>(Ak.below ae).cells);have Cu:=aa Ak;have BS:=Al.size;clear Al Ak I;have AZ:=aa (show ∀ af,Bl W af->af.cell? (ad w.heap.size 0)=some (pp R 0)/\af.cell? (ad (w.heap.size+1) 0)=some (.string s0)/\af.cell? (ad R 3)=some (.map (some m))/\(Instr.lookup 290 (.map (some m)) (.string s0) true).run prog af = .ok (.tuple #[.agg #[.string AP,.bool AQ,.string gV],.bool Y]) af from fun af ae=>⟨(BR.o af ae).1,(BR.o af ae).2.1,C8.o af (BP.o.trans (ae.mono BS)),Cm.o af (BP.o.trans (ae.mono BS))⟩);obtain⟨s1,s2,Cv,D8⟩:=AZ.o W (Below.refl _ _);go_region_held3 (fun w'=>w'.cell? (ad w.heap.size 0)=some (pp R 0)/\w'.cell? (ad (w.heap.size+1) 0)=some (.string s0)/\w'.cell? (ad R 3)=some (.map (some m))/\(Instr.lookup 290 (.map (some m)) (.string s0) true).run prog w' = .ok (.tuple #[.agg #[.string AP,.bool AQ,.string gV],.bool Y]) w') (first | exact AZ.o _ (Below.refl _ _).drew | exact AZ.o _ ((Below.refl _ _).drew.alloc sp _) | exact AZ.o _ ((Below.refl _ _).alloc sp _) | exact AZ.o _ (((((Below.refl _ _).drew.alloc sp _).setCell sp _).setCell sp _).setCell sp _) | exact AZ.o _ (((((Below.refl _ _).alloc sp _).setCell sp _).setCell sp _).setCell sp _) | go_keep) (first | fail);all_goals (
  rename_i BU;clear BU s1 s2 Cv D8;obtain⟨cO,Am⟩:=ai ((W.alloc (.cells #[.string AP,.bool AQ,.string gV] 80)).drew);have Ao:Bl W cO:=by rw [Am];exact iD.drew
  have Ae:eT cO W.heap.size #[.string AP,.bool AQ,.string gV] 80:=by rw [Am];exact aQM W _
  rw [<- Am];obtain⟨BX,hcs,DF⟩:=BR.o cO Ao;have J:=BP.o.trans (Ao.mono BS);have AX:=C8.o cO J;clear Am;cases Y with
  | true =>
   have Dr:cO.cell? (ad W.heap.size 0)=some (.string AP):=Ae.cell 0;have Dt:cO.cell? (ad W.heap.size 1)=some (.bool AQ):=Ae.cell 1;have Du:cO.cell? (ad W.heap.size 2)=some (.string gV):=Ae.cell 2;have Dv:∀ (args:Array Value) (w:aRU),(callFunc f args).run prog w = .ok (.enter f args) w:=(Ah.o rfl).1;replace Ah:=aa (Ah.o rfl).2;clear Ae BX hcs;go_wp2_with fail;refine jr (Ah.o cO J) ?_;intro bn BZ;go_wp2_with fail;exact qB BZ.o
  | false =>
   have Ap:=Co.o cO J;unfold eU at Ap;clear DF Ae;by_cases hf:500<=s.known.length
   ·have CJ:(500:Int)<=(M.length:Int):=by rw [CF.o];omega
    replace BN:=aa (BN.o rfl hf);go_wp2_with (first|(at_len;refine wpList_len_own _ rfl _ 290 rfl 9 80 underlying290 _ m s.known.length _ rfl Ap ?_;rw [TS])|(go_at_call 226; refine jr (BN.o cO J) ?_;intro w1 BZ));exact qB BZ.o
   have CJ:¬ (500:Int)<=(M.length:Int):=by rw [CF.o];omega
   replace BK:=aa (BK.o rfl om);go_wp2_with (first|(at_len;refine wpList_len_own _ rfl _ 290 rfl 9 80 underlying290 _ m s.known.length _ rfl Ap ?_;rw [TS]));clear hf;have Aq:=(BO.o.below J).cell 4;have Av:=(BO.o.below J).cell 5;rw [<- Ad.o] at Aq Av;have DI:cO.cell? (ad R 4)=some (.string (aA s.asks)):=Aq.1;have DJ:cO.cell? (ad R 5)=some (.bool s.waits):=Av.1;have z4:=Aq.2;have z5:=Av.2;have DN:w.heap.size≠R:=om;have DR:w.heap.size+1≠R:=om;have DT:=aa Ao;have DU:=aa hl;have Az:=aa (show ∀ W':World,(∀ k,k≠R->W'.heap[k]?=cO.heap[k]?)->W'.cell? (ad w.heap.size 0)=some (pp R 0)/\W'.cell? (ad (w.heap.size+1) 0)=some (.string s0) from fun W' hk=>⟨(aRu (hk _ DN)).trans BX,(aRu (hk _ DR)).trans hcs⟩);clear Aq Av AX Ap CJ Ao hl;go_region_held3 (fun w'=>w'.cell? (ad w.heap.size 0)=some (pp R 0)/\w'.cell? (ad (w.heap.size+1) 0)=some (.string s0)) (first | exact Az.o _ (fun k hk=>rfl) | exact Az.o _ (fun k hk=>aQX _ _ _ k hk) | exact Az.o _ (fun k hk=>(aQX _ _ _ k hk).trans (aQX _ _ _ k hk))) (first | fail);rename_i BU;clear BU;have Bb:=BO.o.below J;have AA:=Bb.one (s':={ s with asks:=p }) (i:=4) (u:=.string (aA p)) rfl rfl rfl rfl;have Bc:=AA.1.one (s':={ s with asks:=p,waits:=true }) (i:=5) (u:=.bool true) rfl rfl rfl rfl;have Af:dz L.B cO (((cO.setCell ⟨L.R,4,none⟩ (.string (aA p))).setCell ⟨L.R,5,none⟩ (.bool true)).drew):=(AA.2.trans Bc.2).drew;have AU:=Bc.1.below ((Below.refl _ _).drew);have BB:MapAt w L q s->MapAt (((cO.setCell ⟨L.R,4,none⟩ (.string (aA p))).setCell ⟨L.R,5,none⟩ (.bool true)).drew) L q s:=fun hm=>(((hm.below J).setCell Bb.run 4 _).setCell AA.1.run 5 _).below ((Below.refl _ _).drew);rw [<- Ad.o,<- CG.o] at AU Af BB;obtain⟨AV,CK⟩:=ai (((cO.setCell ⟨R,4,none⟩ (.string s0)).setCell ⟨R,5,none⟩ (.bool true)).drew);rw [<- CK] at AU Af BB |-;have Db:=aa BB;clear BB;have CL:dz L.B w AV:=(dz.gN J bf).trans Af;have Be:L.B<=AV.heap.size:=AU.size;have Bf:=(Cu.o.below DT.o).keep Af dc dc dc;obtain⟨n,Aa,V,Bg⟩:=nq2 s.todo.length us.reverse;have CQ:Own AV L.B 1 1 A n c V:=by rw [Aa,Bg];exact AU.row
   have BC:=aa CQ;have Dc:=aa (show ∀ af,tO AV L.B A n c V af->af.cell? (ad w.heap.size 0)=some (pp R 0) from fun af hm=>(Bf.keep (hm.uR BC.o Be) dc dc dc).cells.1);have Bh:=aa (show ∀ af,tO AV L.B A n c V af->af.cell? (ad R 0)=some (.slice A n c)/\af.frozen? ⟨R,0,none⟩=false from fun af hm=>by
    have ax:af.heap[R]?=some (.cells (uw A s.todo.length c L.mo v.env.length L.nk s.buf L.m p true s.over) 295 (0,0)):=by have BD:=AU.run;rw [<- Ad.o] at BD;exact (hm.1.block R BD.lt fun e=>BC.o.ne BD dc e.symm).trans BD
    rw [Aa];exact⟨aQH af R 0 _ _ _ ax,aQY af R 0 _ _ ax⟩);obtain⟨De,Dg,Bi,Dh,CS⟩:=hq5 AU Bf Aa Bg CL;clear Aa;have bf:=Be;have Aa:=DU.o;rw [<- Bi.o] at Aa;clear Bb AA Bc Af CK AU Bf CL CQ Bg Be DI DJ z4 z5 BX hcs J Az;go_wp2_with fail;have kR:=aa fun af (aj:tO AV L.B A n c V af)=>And.intro (Dc.o af aj) (Bh.o af aj).1;refine nz nH 10 [some _,some _,some _,some _,some _,some _,none,none,some _,some _] (F9 L.B A n c V (.func (.func 247) #[] #[pp (w.heap.size+1+1) 0,pp w.heap.size 0,pp (w.heap.size+1) 0])) (tO AV L.B A n c V) (o6 L.B 1 1 A c (n+1) (V++[_])) (tO.start BC.o) (fun j v w1 af ae h=>h.keep ae) ?_ (jI:=⟨rx,rx,rx,rx,rx,rx,fun eQ u af aj aL bz K aR=>?_,fun eQ u af aj aL bz K aR=>?_,rx,rx,trivial⟩)
   rotate_left
   ·simp [iX,Region.binds] at bz;refine mg rfl ?_;go_simp;exact aR _ _ ⟨fun _=>⟨_,rfl,aQM af _,aj.JD⟩,gq⟩ (aj.alloc _) (o6.alloc af _)
   ·simp [iX,Region.binds] at bz;exact mg rfl (aj1 aj (show F9 _ _ _ _ _ _ 6 _ _ from bz.2) rfl om bf rfl ⟨by simp [Act.eval,aL,bz.1],by simp [Act.eval,aL]⟩ aR)
   ·intro u af aj AB;obtain⟨Dw,Dz,Di,CU⟩:=(show F9 _ _ _ _ _ _ 7 _ _ from AB 7 om).2 rfl;clear AB;simp only [Di];have E5:=(Bh.o af aj).1;have E8:=(Bh.o af aj).2;have CV:=aa aj;have Dj:=aa CU;clear aj CU;go_wp2_with fail;refine qB ?_;have CW:=CV.o.uR BC.o bf;have Bj:=Dg.o.keep CW dc dc dc;have CY:=CV.o;have CZ:=Dj.o;rw [BK.o];rw [Bi.o,Dh.o] at CY CZ;have Ca:=Bj.1;rw [Ad.o] at Ca;have Cc:=Bj.2.1;rw [CG.o] at Cc;have hf:=De.o.push CY CZ (t:=.tK p th) ⟨_,_,_,_,rfl,Bj.2.2,Cr.o.keep (CS.o.trans CW),Ca,Cc⟩ ?_
    ·rw [Bi.o,Ad.o];exact⟨rfl,⟨_,_,_,hf.1⟩,CS.o.trans hf.2⟩
    ·rcases Ct.o with h1 | h1
     ·exact .inl h1
     ·exact .inr (Db.o h1))
end
section
open Go.Maps Go.RowKit Go.Shelf
attribute [local go_sem] Oper.semAt_some
theorem dz.grow [dS] {row:Option Nat} (av:W.grownBy W' row) (ax:∀ r,row=some r->n0<=r/\∃ o:Obj,W.heap[r]?=some o/\o.isCells=false) (bf:B<=n0) (aB:n0<=W.heap.size) (bz:∀ k,dS.E k->k < n0):dz B W W' :=
 ⟨av.os,av.tape,av.output,av.size,fun k hk=>av.block k om fun e=>by have:=(ax k e.symm).1;omega,fun k cs t aZ hk _ _=>av.block k (iw hk) fun e=>(by
  obtain⟨o,I,hc⟩:=(ax k e.symm).2;rw [hk] at I;cases I;cases hc),fun k J hk _ he=>av.block k (iw hk) fun e=>by
  have h1:=(ax k e.symm).1;have M:=bz k he;omega⟩
theorem nV.grow [dS] {L:iV} {row:Option Nat} (h:nV W L v q s A c us) (av:W.grownBy W' row) (ax:∀ r,row=some r->n0<=r/\∃ o:Obj,W.heap[r]?=some o/\o.isCells=false)
  (bf:L.B<=n0) (aB:n0<=W.heap.size) (hm:L.m < n0) (aJ:∀ g,q=some g->g < n0) (bz:∀ k,dS.E k->k < n0):nV W' L v q s A c us:=by
 have ae:=dz.grow (B:=L.B) av ax bf aB bz;have hcell:∀ (k:Nat) (cs:Array Value) (t:TypeId) (aZ:Nat × Nat),W.heap[k]?=some (.cells cs t aZ)->W'.heap[k]?=some (.cells cs t aZ):=fun k cs t aZ hk=>(av.block k (iw hk) fun e=>by
  obtain⟨o,Y,hc⟩:=(ax k e.symm).2;rw [hk] at Y;cases Y;cases hc).trans hk;have AA:∀ k,k < n0->W'.heap[k]?=W.heap[k]?:=fun k hk=>av.block k om fun e=>by have:=(ax k e.symm).1;omega
 refine⟨hcell _ _ _ _ h.run,h.base,h.row.keep fun b ae _ _=>?_,fun i t AB=>?_,h.env.uR ae dc dc,?_,?_,h.free.size av.size⟩
 ·obtain⟨_,_,cur,aZ,hc⟩:=h.row.block b ae;rw [hcell _ _ _ _ hc,hc]
 ·obtain⟨u,h1,I⟩:=h.tasks i t AB;exact⟨u,h1,I.keep ae⟩
 ·obtain⟨h1,M,I,J⟩:=h.known;exact⟨h1,M,I.keep (AA _ hm),J⟩
 ·rcases h.seen with h1 | ⟨g,M,h1,I,J,AP,AQ⟩
  ·exact .inl h1
  ·exact .inr ⟨g,M,h1,I,J,AP.keep (AA _ (aJ g h1)),AQ⟩
theorem MapAt.keep {L:iV} (h:MapAt W L q s) (aJ:∀ g,q=some g->g < n0) (bT:∀ k,k < n0->W'.heap[k]?=W.heap[k]?):MapAt W' L q s:=by obtain⟨g,M,h1,I,J,Y,AA⟩:=h;exact⟨g,M,h1,I,J,Y.keep (bT _ (aJ g h1)),AA⟩
def Np (wd:ak) (pre:List Ni):List iT:=pre.reverse.map fun x=>iT.line x.1.2 wd
theorem aET (wd:ak) (pre:List Ni) (x:Ni):Np wd (pre++[x]) = .line x.1.2 wd :: Np wd pre:=by simp [Np]
theorem aEU {wd:ak} {ys:List Ni} (h:ys.map (·.1.2)=l.reverse):Np wd ys=l.map (iT.line · wd):=by
 have:ys.reverse.map (·.1.2)=l:=by rw [List.map_reverse,h,List.reverse_reverse]
 rw [<- this,Np,List.map_map];rfl
def Xv [dS] (w:aRU) (L:iV) (v:Env) (q:Option Nat) (s:aK) (wd:ak) (pre:List Ni) (W:aRU):Prop :=
 jL W L v q { s with todo:=Np wd pre++s.todo }/\MapAt W L q s/\dz L.B w W
theorem Xv.below [dS] {L:iV} {wd:ak} {pre:List Ni} (h:Xv w L v q s wd pre W) (ae:Below W.heap.size W W'):Xv w L v q s wd pre W':=⟨h.1.below ae,h.2.1.below ae,h.2.2.trans (dz.gN ae h.1.size)⟩
theorem KeepsFrom.push {B' n:Nat} (h:tO W B A n c V af) (aG:Own W B 1 1 A n c V) (aL:af.heap[R]?=some (.cells cs t aZ)) (o:Nat) (u:Value):KeepsFrom B' W (af.setCell ⟨R,o,none⟩ u):=by
 refine⟨by rw [World.size_setCell];exact h.1.size,fun k I _ hk hc=>?_⟩;have h1:af.heap[k]?=some I:=(h.1.block k (aRh.1 hk).1 fun e=>by
  obtain⟨_,_,cur,aZ,ae⟩:=aG.block k e.symm;rw [hk] at ae;cases ae;cases hc).trans hk;refine (aQX _ _ _ k fun e=>?_).trans h1;simp only at e;subst e;rw [h1] at aL;cases aL;cases hc
theorem aEV [dS] (w:aRU) (L:iV) (v:Env) (q:Option Nat) (s:aK) (h:jL w L v q s) (kN:MapAt w L q s) (g1 g2 g3:Nat) (x:ak) (h1:yU w g1 L.R) (ag:Lj w g2 x) (au:EP w g3 q) (t:ak) (az:t.length<=1000000) (aj:qQ w) (hlen:s.todo.length<=100000000000) :
  Calls prog 249 #[.string (aA t),fG g1,fG g2,fG g3] w (jM w L v q { s with todo:=(jQ t).map (iT.line · x)++s.todo }):=by
 have bf:=h.size;have HOLD:=aa (show ∀ k,dS.E k->k < w.heap.size by obtain⟨_,_,_,Bp⟩:=h;exact Bp.free.old);have AU:=ad1 w t om aj;have Aa:=QM t;have hle:∀ y∈jQ t,y.length<=1000000000:=fun y hy=>by have:=TQ hy;omega
 obtain⟨ls,BC⟩:=ai (jQ t);obtain⟨k,hk,X,aX⟩:=nq2 ls.length (aA t);rw [<- BC] at AU Aa hle |-;rw [<- hk] at AU Aa;rw [<- aX] at AU |-;rw [fG,fG,fG];obtain⟨Af,Ag⟩:∃ Af:Ending->World->Prop,Af=jM w L v q { s with todo:=ls.map (iT.line · x)++s.todo }:=⟨_,rfl⟩;rw [<- Ag];obtain⟨Bq,Br,Bt,C8,BD,BF,H1,CF,CG⟩:=hq9 Ag AU hle hk h kN h1 ag au;have DF:k<=1000001:=om;have DI:=MJ 250;have DJ:=MJ 203;clear h kN h1 ag au AU hle hk BC aX Ag Aa aj az;refine (aQZ (n:=6)).1 ?_;refine aRy func249 rfl trivial ?_ rfl;simp only [ntmps249,List.size_toArray,List.length_cons,List.length_nil,Nat.reduceAdd,Nat.reduceSub,Array.replicate_succ,Array.replicate_zero,List.push_toArray,List.append_toArray,List.nil_append,List.cons_append]
 gi_wp2_with (first|(gi_at_call 203; refine (aQZ.2 Br.o).mono ?_;rintro e w1 ⟨A,c,rfl,AV,ae⟩;have BG:=aa AV;have BH:=aa ae;clear AV ae)|(gi_at_call 250; refine (aQZ.2 (aEM _ A k c)).mono ?_;rintro e w' ⟨rfl,rfl⟩))
 obtain⟨b,ae,dN,AA⟩:=nq2 w1.heap.size (w1.alloc (.cells #[.slice A k c] 24));have BK:eT dN b #[.slice A k c] 24:=by rw [AA,ae];exact aQM w1 _
 have AX:Bl w dN:=by rw [AA];exact BH.o.alloc BH.o.size _
 have DN:dN.heap.size=b+1:=by rw [AA,ae];simp
 have BL:Own dN w.heap.size 9 1 A k c (cB ls):=by rw [AA];exact BG.o.alloc _
 rw [<- AA,<- ae];clear AA ae;have CJ:L.B<=dN.heap.size:=aQG bf AX.size;have BN:∀ W',dz L.B dN W'->Rd W' 1 A k (cB ls):=fun W' Ah=>(BL.uR Ah dc dc).rd;obtain⟨CK,Ak⟩:∃ _:True,SeqStopsK Fence.wide 5 prog 267 #[pp b 0] aaz (dz L.B) (fun ys=>ys.map (·.1.2)=ls.reverse) (fun _=>True) k dN:=⟨trivial,by
  have Al:=C8.o;have:=aEN 5 om b L.B A c ls om Bt.o dN CJ (by rw [<- Al];exact BK) (fun W' Ah=>by rw [<- Al];exact BN W' Ah);rwa [<- Al] at this⟩;have Am:Xv w L v q s x [] dN:=⟨BD.o.below AX,BF.o.below AX,dz.gN AX bf⟩;have BO:L.m < w.heap.size:=by
  obtain⟨_,_,_,ax⟩:=BD.o;obtain⟨_,M,hm,_⟩:=ax.known;exact hm.lt
 have Ao:∀ g,q=some g->g < w.heap.size:=fun g av=>by
  obtain⟨DR,M,e,_,_,hm,_⟩:=BF.o;rw [av] at e;cases e;exact hm.lt
 have DT:=AX.size;clear BG BL BN CK BK;refine wpIn_rangeFunc_ownH rfl om (gf:=267) (lb:=#[pp b 0]) rfl trivial (enters_of func267 kr rfl)
  Ak dz.trans (fun W l o CL hl h h1 _=>dz.put W l o CL om h h1 (fun e=>by have:=HOLD.o _ e;omega)) (Below.refl _ _) (fun _=>rfl)
  (Xv w L v q s x)
  (fun _ _ _=>False)
  ?CQ (fun _ _ _ _ _ hs _ _=>hs) Am
  (fun y Ap W=>∃ Y,eT W Y #[.string (aA y.1.2)] 9 /\ Ap={ tmps:=#[.string X,pp g1 0,pp g2 0,pp g3 0,undef,undef,pp Y 0,.string X,.slice A k c,.func (.func 267) #[] #[pp b 0],.int .i64 y.1.1,.string (aA y.1.2),undef,undef,undef,undef,undef,undef,undef,undef,undef,undef],defers:=[] })
  ?CS ?assign ?body ?done ?stop;case CQ =>
  rintro pre W W' row ⟨⟨I,c1,us,h1⟩,ag,au⟩ av J;have CU:∀ j,j < w.heap.size->W'.heap[j]?=W.heap[j]?:=fun j aC=>av.block j (by have:=au.size;omega) fun e=>by have:=(J j e.symm).1;omega
  refine⟨⟨I,c1,us,h1.grow (n0:=w.heap.size) av (fun r e=>⟨by have:=(J r e).1;omega,(J r e).2⟩) bf au.size BO Ao HOLD.o⟩,ag.keep Ao CU,au.trans (dz.grow (n0:=w.heap.size) av (fun r e=>⟨by have:=(J r e).1;omega,(J r e).2⟩) bf au.size HOLD.o)⟩
 case CS =>
  rintro y Ap _ W W' row ⟨Y,h1,ag⟩ av J;refine⟨Y,?_,ag⟩;unfold eT at h1 |-;refine (av.block Y (iw h1) fun e=>?_).trans h1;obtain⟨o,AV,hc⟩:=(J Y e.symm).2;rw [h1] at AV;cases AV;cases hc
 case assign =>
  rintro JC pre ⟨⟨BP,nm⟩,ah⟩ W K ⟨h1,ag,au⟩ aR;simp only [aaz];have CV:=aa (show Xv w L v q s x pre W from ⟨h1,ag,au⟩);have CW:L.B<=W.heap.size:=h1.size;clear h1 ag au
  gi_wp2
  exact aR _ _ ((KeepsOthers.alloc _ _).from _) ((dz.refl _ W).alloc CW _) (CV.o.below ((Below.refl _ W).alloc (aQF _) _)) ⟨W.heap.size,aQM W _,rfl⟩
 case body =>
  rintro JC pre ⟨⟨BP,nm⟩,ah⟩ Ap W DU Aa ⟨⟨I,c1,us,h1⟩,ag,au⟩ ⟨Y,BR,rfl⟩ Db;obtain⟨n,AB⟩:=ai ((Np x pre++s.todo).length);have BS:n<=1000000000000:=by rw [AB,List.length_append,Np,List.length_map,List.length_reverse];omega
  obtain⟨V,Aq,R,aL⟩:=nq2 us.reverse L.R;have bf:L.B<=W.heap.size:=h1.size;have BU:Own W L.B 1 1 I n c1 V:=by rw [AB,Aq];exact h1.row
  have AP:=aa BU;have BX:yU W g1 R:=by rw [aL];exact H1.o.keep au
  have BZ:=aa BX;have AZ:=h1.run;rw [<- aL] at AZ;have Av:=aa (show ∀ af,tO W L.B I n c1 V af->eT af R (uw I (Np x pre++s.todo).length c1 L.mo v.env.length L.nk s.buf L.m s.asks s.waits s.over) 295 from fun af hm=>(hm.1.block R AZ.lt fun e=>AP.o.ne AZ dc e.symm).trans AZ);have CY:=aa (show ∀ af,tO W L.B I n c1 V af->af.cell? (ad g1 0)=some (pp R 0) from fun af hm=>(BZ.o.keep (hm.uR AP.o bf)).cell);have Az:=aa (show ∀ af,tO W L.B I n c1 V af->af.cell? (ad R 0)=some (.slice I n c1)/\af.frozen? ⟨R,0,none⟩=false from fun af hm=>by
   have ax:=Av.o af hm;rw [<- AB] at ax;exact⟨aQH af R 0 _ _ _ ax,aQY af R 0 _ _ ax⟩);obtain⟨CZ,Bb,BB,Ca,Ac,Cc,Ad⟩:=hq7 h1 ag au BR AB Aq aL;clear AB;have AB:=BS;clear h1 ag au BR BU BX AZ Aq aL BS;clear Am Ak
  gi_wp2
  have kR:=aa fun af (aj:tO W L.B I n c1 V af)=>And.intro (CY.o af aj) (Az.o af aj).1;refine nz arR 10 [some _,some _,some _,some _,some _,some _,none,none,some _,some _] (F9 L.B I n c1 V (.func (.func 251) #[] #[pp Y 0,pp g2 0,pp g1 0,pp g3 0])) (tO W L.B I n c1 V) (o6 L.B 1 1 I c1 (n+1) (V++[_])) (tO.start AP.o) (fun j v w1 af ae h=>h.keep ae) ?_ (jI:=⟨rx,rx,rx,rx,rx,rx,fun eQ u af aj aL bz K aR=>?_,fun eQ u af aj aL bz K aR=>?_,rx,rx,trivial⟩)
  rotate_left
  ·simp [iX,Region.binds] at bz;refine mg rfl ?_;go_simp;exact aR _ _ ⟨fun _=>⟨_,rfl,aQM af _,aj.JD⟩,gq⟩ (aj.alloc _) (o6.alloc af _)
  ·simp [iX,Region.binds] at bz;exact mg rfl (aj1 aj (show F9 _ _ _ _ _ _ 6 _ _ from bz.2) rfl om bf rfl ⟨by simp [Act.eval,aL,bz.1],by simp [Act.eval,aL]⟩ aR)
  ·intro u af aj Bc;obtain⟨Be,Bf,Ce,Bg⟩:=(show F9 _ _ _ _ _ _ 7 _ _ from Bc 7 om).2 rfl;clear Bc;simp only [Ce];have Dc:=(Az.o af aj).1;have De:=(Az.o af aj).2;have AQ:=aa aj;have Cf:=aa Bg;clear aj Bg;go_wp2_with fail;have Ae:=AQ.o.uR AP.o bf;have Bh:=AQ.o;have Bi:=Cf.o;rw [Ac.o,Cc.o] at Bh Bi;have Bj:=BZ.o.keep Ae;rw [Ad.o] at Bj;have hf:=CZ.o.push Bh Bi (t:=.line nm x) ⟨_,_,_,_,rfl,eT.keep Ca.o Ae dc dc,(CF.o.keep BB.o).keep Ae,Bj,(CG.o.keep BB.o).keep Ae⟩ (.inr Bb.o);have Cg:=KeepsFrom.push (B':=dN.heap.size) AQ.o AP.o (Av.o af AQ.o) 0 (.slice Be (n+1) Bf);have Cj:jL (af.setCell ⟨R,0,none⟩ (.slice Be (n+1) Bf)) L v q { s with todo:=Np x (pre++[⟨(BP,nm),ah⟩])++s.todo }:=by rw [aET,Ac.o,Ad.o];exact⟨_,_,_,hf.1⟩
   refine⟨Cg,?_,Cj,?_,BB.o.trans ?_⟩
   ·rw [Ac.o,Ad.o];exact hf.2
   ·have Ck:MapAt af L q s:=by obtain⟨g,M,Cm,Co,Cr,Ct,Cu⟩:=Bb.o;exact⟨g,M,Cm,Co,Cr,aj2 AQ.o AP.o Ct,Cu⟩
    exact Ck.setCell (Av.o af AQ.o) _ _
   ·rw [Ac.o,Ad.o];exact hf.2
 case done =>
  rintro D ys W Dg Cv ⟨h1,ag,au⟩ aR;have Bn:Af (.returned (.tuple #[])) (W.putObj D (.deferred none)):=by
   have J:∀ r,some D=some r->w.heap.size<=r/\∃ o:Obj,W.heap[r]?=some o/\o.isCells=false:=fun r e=>by cases e;exact⟨om,_,aR,rfl⟩
   obtain⟨I,c1,us,h1⟩:=h1;rw [Bq.o,<- aEU Cv];exact⟨rfl,⟨I,c1,us,h1.grow (n0:=w.heap.size) (aRa W D _) J bf au.size BO Ao HOLD.o⟩,au.trans (dz.grow (n0:=w.heap.size) (aRa W D _) J bf au.size HOLD.o)⟩
  have D8:=aa Bn;clear h1 ag au Bn Am Ak
  gi_wp2
  refine⟨by simp,.inl ⟨_,_,rfl,aRp aR,?_⟩⟩;refine⟨_,aRx rfl _ _ _,?_⟩;exact D8.o
 case stop =>
  rintro D Dh pre W _ _ h _;exact h.elim
end
section
open Go.Maps Go.RowKit
section
variable {α:Type}
end
end
section
open Go.Maps Go.RowKit Go.Shelf
structure Fit (w:aRU) (L:iV) (s:aK):Prop where
 vL:qQ w
 EW:0 < L.B
 lim:nC s
 todo:s.todo.length<=100000000000
 seen:s.seen.length<=100000000000
 base:L.B<=w.heap.size
 Gf:Lib.TabBelow prog L.B w "internal/strconv.uint64pow10" .u64 Lib.pow10Tab
theorem Fit.below {L:iV} (h:Fit w L s) (ae:Bl w w'):Fit w' L s:=⟨h.vL.on ae,h.EW,h.lim,h.todo,h.seen,aQG h.base ae.size,h.Gf.on (ae.mono h.base)⟩
theorem qQ.uR [dS] (h:qQ w) (ae:dz B w w') (av:0 < B):qQ w':=by obtain⟨m,hm⟩:=h;exact⟨m,(ae.below.cell (p:=ad 0 0) av).trans hm⟩
theorem Fit.uR [dS] {L:iV} (h:Fit w L s) (ae:dz L.B w w'):Fit w' L s:=⟨h.vL.uR ae h.EW,h.EW,h.lim,h.todo,h.seen,aQG h.base ae.size,h.Gf.on ae.below⟩
theorem aEX:Enters prog 221:=enters_of func221 kr rfl
theorem aEY:Enters prog 249:=enters_of func249 kr rfl
theorem aEZ:Enters prog 248:=enters_of func248 kr rfl
theorem aE0:Enters prog 222:=enters_of func222 kr rfl
def Bd.Ic:Bd->Bool
 | .add=>true
 | .scan _=>false
section
variable {w:aRU} {L:iV} {v:Env} {q:Option Nat} {s:aK}
theorem aE1 [dS] (h:jL w L v q s) (hf:Fit w L s) {d:Bd} (aS:Da w L.R q u d) (kN:d.Ic=true\/MapAt w L q s) (t:ak) (az:t.length<=1000000):Pm w u (.string (aA t)) (jM w L v q (s.data d t)):=by
 cases d with
 | add =>
  refine⟨_,_,_,aS,aEX,?_⟩;exact Xr w L v q s h hf.lim.buf t om
 | scan x =>
  obtain⟨g1,g2,g3,e,h1,I,J⟩:=aS;refine⟨_,_,_,e,aEY,?_⟩;rcases kN with hm | hm
  ·cases hm
  ·exact aEV w L v q s h hm g1 g2 g3 x h1 I J t az hf.vL hf.todo
theorem Da.below [dS] {d:Bd} (h:Da w R q u d) (ae:Bl w w'):Da w' R q u d:=h.keep (dz.gN ae (aQQ _))
theorem yV.below [dS] {d:rQ} (h:yV w R q u d) (ae:Bl w w'):yV w' R q u d:=h.keep (dz.gN ae (aQQ _))
theorem ar8 [dS] (h:jL w L v q s) (hf:Fit w L s) (aS:yV w L.R q u th) (kN:th.Ic=true\/MapAt w L q s) (k:dB) (hk:k.is=true->k.data.length<=1000000):Pm w u (xE k) (jM w L v q (s.nL th k)):=by
 have there:∀ d:Bd,Xt d=th->(d.Ic=true\/MapAt w L q s)->wy w L.R q u d->Pm w u (xE k) (jM w L v q (s.nL th k)):=fun d e hm aS=>by
  obtain⟨g1,g2,u2,M,h1,Y,AA⟩:=aS;refine⟨_,_,_,M,aEZ,?_⟩;rw [<- e];exact aED w L v q s h d g1 g2 u2 h1 Y k fun J W I=>aE1 (h.below I) (hf.below I) (AA.below I) (hm.imp id fun x=>x.below I) _ (hk J)
 cases th with
 | add=>exact there .add rfl (.inl rfl) aS
 | DV =>
  obtain⟨g1,e,h1⟩:=aS;refine⟨_,_,_,e,aE0,?_⟩;exact aEA w L v q s h g1 h1 hf.lim.buf k fun J=>by have:=hk J;omega
 | scan x=>exact there (.scan x) rfl (kN.imp (fun x=>by cases x) id) aS
theorem yV.fn (h:yV w R q u th):∃ f mU iI,u = .func (.func f) mU iI:=by
 cases th with
 | add =>
  obtain⟨_,_,_,e,_⟩:=h;exact⟨_,_,_,e⟩
 | DV =>
  obtain⟨_,e,_⟩:=h;exact⟨_,_,_,e⟩
 | scan x =>
  obtain⟨_,_,_,e,_⟩:=h;exact⟨_,_,_,e⟩
theorem akc [dS] (h:jL w L v q s) (hf:Fit w L s) (p:ak) (aI:p.length<=1000000) (aS:yV w L.R q u th) (kN:th.Ic=true\/MapAt w L q s) :
  Calls prog 219 #[fG L.R,.string (aA p),u] w (jM w L v q (s.ask p th)):=by
 obtain⟨f,mU,iI,rfl⟩:=aS.fn;refine aEO w L v q s _ h p om f mU iI (by have:=hf.todo;omega) th aS kN (fun J hk W I=>?_) (fun hk M=>?_) (fun hk M=>?_)
 ·have AA:J.is=true->J.data.length<=1000000:=fun AB=>by
   have Y:=hf.lim.AY p _ hk;rw [qU,if_pos AB] at Y;exact Y rfl
  rw [aK.ask,hk];simp only;rw [aK.arP];exact ar8 (h.below I) (hf.below I) (aS.below I) (kN.imp id fun x=>x.below I) J AA
 ·rw [aK.ask,hk];simp only;rw [if_pos M]
 ·rw [aK.ask,hk];simp only;rw [if_neg om]
end
theorem ar9:∀ a b,Ib a=Ib b->a=b:=fun a b h=>by cases h;rfl
theorem nV.aE2 [dS] {L:iV} (h:nV w L v q s A c us) {n:Nat} {M akd:fA Bool} (aJ:q=some g) (av:L.B<=g) (bJ:g≠L.m)
  (aj:eU w prog 9 Ib g n M) (az:fV g w w') {S:List ak} (YZ:eU w' prog 9 Ib g S.length akd) (bL:∀ p,getM akd p=if p∈S then some true else none) :
  nV w' L v q { s with seen:=S } A c us/\dz L.B w w'/\MapAt w' L q { s with seen:=S }:=by
 have hc:∀ (k:Nat) (cs:Array Value) (t:TypeId) (aZ:Nat × Nat),w.heap[k]?=some (.cells cs t aZ)->w'.heap[k]?=w.heap[k]?:=fun k cs t aZ hk=>az.2.2.2.2 k fun e=>aj.isMap (by rw [<- e];exact hk);have ae:dz L.B w w':=⟨az.1,az.2.1,az.2.2.1,aQ1 az.2.2.2.1.symm,fun k hk=>az.2.2.2.2 k om,fun k cs t aZ hk _ _=>hc k cs t aZ hk,fun k o _ _ he=>az.2.2.2.2 k fun e=>h.free.seen g aJ (e ▸ he)⟩;have J:MapAt w' L q { s with seen:=S }:=⟨g,akd,aJ,av,bJ,YZ,bL⟩;refine⟨⟨(hc _ _ _ _ h.run).trans h.run,h.base,h.row.keep fun b ae _ _=>?_,fun i t Y=>?_,h.env.uR ae dc dc,?_,.inr J,h.free.size ae.size⟩,ae,J⟩
 ·obtain⟨_,_,cur,aZ,ah⟩:=h.row.block b ae;exact hc _ _ _ _ ah
 ·obtain⟨u,h1,I⟩:=h.tasks i t Y;exact⟨u,h1,I.keep ae⟩
 ·obtain⟨h1,K,I,AA⟩:=h.known;exact⟨h1,K,I.keep (az.2.2.2.2 _ (aQ0 bJ)),AA⟩
theorem nC.more (h:nC s) {p:ak} (aI:p.length<=1000000):nC { s with seen:=p :: s.seen }:=⟨h.buf,h.tasks,h.AY,fun x ah=>by
 rcases aQN.1 ah with rfl | ah
 ·exact aI
 ·exact h.Hw x ah,h.asks,h.less⟩
theorem asa [dS] (w:aRU) (L:iV) (v:Env) (q:Option Nat) (s:aK) (h:jL w L v q s) (hf:Fit w L s) (kN:MapAt w L q s) (EO:s.seen.length < 1000000000) (p x:ak) (aI:p.length<=1000000) (g:Nat) (aJ:q=some g) :
  Calls prog 223 #[fG L.R,.string (aA p),.string (aA x),.map (some g)] w (jM w L v q (s.scan p x)):=by
 have bf:=h.size;obtain⟨AU,M,AV,BK,BL,aj,Ag⟩:=kN;obtain rfl:AU=g:=by rw [aJ] at AV;cases AV;rfl
 clear AV;obtain⟨R,aL,s0,J,Ah,AX,BN,AZ⟩:=nq4 L.R (aA p) (aA x) (jM w L v q (s.scan p x));have Y:s0.size<=1000000:=by rw [J,iP];exact aI
 rw [fG,<- aL,<- J,<- AX,<- AZ];obtain⟨n,Aa⟩:=ai s.seen.length;rw [<- Aa] at aj EO;obtain⟨BO,BP,BR,BS,Ak,AA,BU,BX,Al,Am⟩:=hq10 h hf aj Ag aL J AX AZ Aa aJ;have BZ:=aj.lt;clear h hf aj Ag aL J AX AZ Aa aJ;go_enter func223,ntmps223;go_upto_region 1 with fail
 obtain⟨AB,AP⟩:=arZ w (pp R 0) (.string Ah) (.map (some AU)) 247 9 147;obtain⟨W,Ao⟩:=ai (((w.alloc (.cells #[pp R 0] 247)).alloc (.cells #[.string Ah] 9)).alloc (.cells #[.map (some AU)] 147));rw [<- Ao] at AP AB |-;have Ap:=aa AP;have Bb:=aa AB;have Bc:=AB.cells.2.2;have Aq:=aa (BR.o.below AP BZ);clear AP AB Ao;go_wp2_with ((with_reducible refine Zb Aq.o ar9 underlying9 underlying147 ?_ s0 ?_ true ?_ ?_);exact mV;exact mV;exact⟨rfl,rfl,rfl⟩;intro bn Av Az);have Ac:=Av;rw [show s0.data.toList=p by rw [AA.o];simp [aA]] at Ac;obtain⟨A,c,us,ax⟩:=BO.o;have I:=(ax.below Ap.o).aE2 (S:=p :: s.seen) Am.o BK BL Aq.o Az (by rw [List.length_cons,<- Al.o];exact Ac) (fun y=>by
  by_cases hy:y=p
  ·subst hy;rw [ME,if_pos sp]
  ·rw [MF M true hy,BS.o y];simp only [List.mem_cons,hy,false_or]);have AQ:dz L.B w bn:=(dz.gN Ap.o bf).trans I.2.1;have Ad:=Bb.o.keep I.2.1 dc dc dc;have BB:Fit bn L { s with seen:=p :: s.seen }:=by
  have h1:=BP.o.uR AQ;refine⟨h1.vL,h1.EW,h1.lim.more (by have:=AA.o;rw [this,iP] at Y;exact Y),h1.todo,?_,h1.base,h1.Gf⟩;rw [List.length_cons,<- Al.o];omega
 have Be:p.length<=1000000:=by have:=AA.o;rw [this,iP] at Y;exact Y
 have BC:=aa (fun af (ae:Bl bn af)=>arQ af R q (.func (.func 249) #[] #[pp w.heap.size 0,pp (w.heap.size+1) 0,pp (w.heap.size+1+1) 0]) (.scan x) (by
  have Ae:=Ad.below ae;refine⟨_,_,_,rfl,Ae.1,?_,_,Am.o,Ae.2.2⟩;have:=Ae.2.1;rw [BU.o] at this;exact this));have BD:=aa (fun af (ae:Bl bn af)=>(Ad.below ae).cells.1);have Bf:=aa (fun af (ae:Bl bn af) (u:Value) (hu:wy af R q u (.scan x))=>show Calls prog 219 #[pp R 0,.string s0,u] af fun e aD=>e = .returned (.tuple #[])/\BN (.returned (.tuple #[])) aD from by
  have h1:=akc (v:=v) (s:={ s with seen:=p :: s.seen }) (w:=af) (L:=L) (q:=q) ⟨_,_,_,I.1.below ae⟩ (BB.below ae) p Be (u:=u) (th:=.scan x) (by rw [<- Ak.o];exact hu) (.inr (I.2.2.below ae));rw [fG,<- Ak.o,<- AA.o] at h1;refine h1.mono fun e aD k=>?_;refine⟨k.1,?_⟩;rw [BX.o];exact⟨rfl,k.2.1,(AQ.trans (dz.gN ae (aQG bf AQ.size))).trans k.2.2⟩);clear ax I Av Ac Az Ad BB AQ Bc;simp only [Act.put];have kR:=BD;refine nz nH 5 [some _,some _,some _,some _,none] (fun _ v af=>wy af R q v (.scan x)) (Bl bn) Bl (Below.refl _ bn).drew (fun j v w1 af ae h=>h.keep (dz.gN ae (aQQ _))) ?_ (jI:=⟨rx,rx,rx,rx,fun eQ u af aj aL bz K aR=>?_,trivial⟩)
 rotate_left
 ·simp [iX,Region.binds] at bz;refine mg rfl ?_;go_simp;refine (BC.o af aj).mono ?_;rintro e aD ⟨⟨u2,rfl,Bg⟩,ae⟩;exact aR _ _ Bg (aU aj ae) ae
 ·intro u af aj BF;have Af:wy af R q (u 4) (.scan x):=BF 4 om;clear BF;have BG:=aa Af;have Bh:=aa aj;obtain⟨f9,Bj,Bn,BH⟩:∃ f mU iI,u 4 = .func (.func f) mU iI:=by obtain⟨_,_,_,e,_⟩:=Af;exact⟨_,_,_,e⟩
  rw [BH] at BG |-;clear Af aj BC BD BH;go_wp2_with (go_at_call 219; refine jr (Bf.o af Bh.o _ BG.o) ?_;intro aD Bi);refine qB ?_;exact Bi.o
end
section
open Go.Maps Go.RowKit Go.Shelf
theorem aE5 (w:aRU):(zeroValue 4).run prog w = .ok (Ib false) w:=kr
theorem akg {P:Prop} (h:P:=by (
 intro af aj;have asb:=(dQ.o af aj).1;have EX:=(dQ.o af aj).2.2;have oD:=aa aj;clear aj dQ;go_wp2_with (go_at_call 221; refine jr (lg.o af (dV.o.trans (oD.o.mono gF)) akh.o) ?_;intro aD ik);exact qB ik.o)):P:=h
theorem aE6 [dS] (w:aRU) (L:iV) (v:Env) (bg:v.may=eB) (q:Option Nat) (s:aK) (h:jL w L v q s) (hf:Fit w L s) (kN:MapAt w L q s) (EO:s.seen.length < 1000000000) (x wd:ak) (ah:x.length<=1000000) (g1 g2 g3 g4:Nat) (h1:Lj w g1 x) (ag:Lj w g2 wd) (au:yU w g3 L.R) (aN:EP w g4 q) :
  Calls prog 251 #[fG g1,fG g2,fG g3,fG g4] w (jM w L v q (s.line v x wd)):=by
 have bf:=h.size;have Aa:=aqF w x om;obtain⟨R,aL,X,AU,AV,Ak,Al,Ac⟩:=nq4 L.R (aA x) (aA wd) (jM w L v q (s.line v x wd));have c1:w.cell? (ad g1 0)=some (.string X):=by rw [AU];exact eT.cell h1 0
 have c2:w.cell? (ad g2 0)=some (.string AV):=by rw [Ak];exact eT.cell ag 0
 have bH:w.cell? (ad g3 0)=some (pp R 0):=by rw [aL];exact eT.cell au 0
 have Be:g1 < w.heap.size:=eT.lt h1;have Bf:g2 < w.heap.size:=eT.lt ag;have Bg:g3 < w.heap.size:=eT.lt au;rw [<- AU] at Aa;rw [fG,fG,fG,fG,<- Ac];have lg:=aa (fun W (BG:Bl w W) (hl:s.line v x wd=s.add (x++[10]))=>show Calls prog 221 #[pp R 0,.string (X++⟨#[10]⟩)] W fun e af=>e = .returned (.tuple #[])/\Al (.returned (.tuple #[])) af from by
  have:=Xr W L v q s (h.below BG) hf.lim.buf (x++[10]) (by simp;omega);rw [<- show X++⟨#[10]⟩=aA (x++[10]) by rw [AU];exact Y4 x [10],fG,<- aL] at this;refine this.mono fun e af k=>⟨k.1,?_⟩;rw [Ac,hl];have:=k.since BG bf;rw [k.1] at this;exact this);have Bh:¬ (X.size+1 > 9223372036854775807):=by rw [AU,iP];omega
 obtain⟨n,Am⟩:=ai (nS x).length;rw [<- Am] at Aa;obtain⟨BH,Bi,BK,Bj,Bn,BL,Ao,BN,Bp,Bq⟩:=hq10 h hf kN aN aL Ac Ak Am bg Aa;clear Aa AU Ac Ak h1 ag au aN h hf aL Am bg kN;go_enter func251,ntmps251;go_wp2_with (go_at_call 237; refine Bq.o.mono ?_;rintro e w1 ⟨A,c,rfl,BO,ae⟩;have dV:=aa ae;have Br:=aa BO;clear BO ae);have Ad:=dV.o;have gF:=Ad.size;have dQ:=aa (show ∀ af,Bl w1 af->af.cell? (ad g1 0)=some (.string X)/\af.cell? (ad g2 0)=some (.string AV)/\af.cell? (ad g3 0)=some (pp R 0) from fun af ae=>by
  have Ap:=Ad.trans (ae.mono gF);exact⟨(Ap.cell (p:=ad g1 0) Be).trans c1,(Ap.cell (p:=ad g2 0) Bf).trans c2,(Ap.cell (p:=ad g3 0) Bg).trans bH⟩);clear c1 c2 bH;by_cases Aq:n=2
 rotate_left
 ·have Bt:(n:Int)≠2:=om;have CQ:((n:Int) != 2)=true:=by simpa using Bt
  have akh:=aa (show s.line v x wd=s.add (x++[10]) from by
   have J:=BN.o ▸ Aq;unfold aK.line;match hw:nS x with
   | []=>rfl
   | [a]=>rfl
   | [a,b]=>rw [hw] at J;exact absurd rfl J
   | a :: b :: c :: r=>rfl);clear Aq EO ah bf;refine KE 17 [_,_,_,_,_,_,_,_,_,_,_,_,_,_,_,_,_] ?_;exact akg
 subst Aq;obtain⟨a,b,hw⟩:∃ a b,nS x=[a,b]:=by
  have J:=BN.o;match hw:nS x with
  | []=>rw [hw] at J;cases J
  | [a]=>rw [hw] at J;cases J
  | [a,b]=>exact⟨a,b,rfl⟩
  | a :: b :: c :: r=>rw [hw] at J;simp at J
 have hl:s.line v x wd=if a=wd/\v.may b=true then if b∈s.seen then s else s.scan b wd else s.add (x++[10]):=by rw [aK.line,hw]
 rw [Bp.o] at hl;obtain⟨AX,AB,B0,Y⟩:=nq2 (aA a) (aA b);have Ae:b.length<=1000000:=aQG (Y8 (s:=x) (x:=b) (by rw [hw];simp)).2.2 ah;have hO:=Br.o;rw [hw,show cB [a,b]=[.string AX,.string B0] by rw [AB,Y];rfl] at hO;have C8:=aa (fun (af:aRU)=>show CB 43 #[.string B0] af (.bool (eB b)) from by
  have:=adR af B0 (by rw [Y,iP];omega);rwa [show B0.data.toList=b from by rw [Y];simp [aA]] at this);obtain⟨fo,AP,rfl,Av⟩:=hO.rd.2 dc;have Az:w1.cell? (ad fo AP)=some (.string AX):=Av 0 _ rfl;have BP:w1.cell? (ad fo (AP+1))=some (.string B0):=Av 1 _ rfl;have BR:fo < w1.heap.size:=aQR _ _ Az;have AZ:=aa (show ∀ af,Bl w1 af->af.cell? (ad fo AP)=some (.string AX)/\af.cell? (ad fo (AP+1))=some (.string B0) from fun af ae=>⟨(ae.cell (p:=ad fo AP) BR).trans Az,(ae.cell (p:=ad fo (AP+1)) BR).trans BP⟩);clear Av Az BP hO hw;by_cases AA:a=wd
 rotate_left
 ·have akh:=aa (hl.trans (if_neg fun e=>AA e.1));have CS:(AX.toList == AV.toList)=false:=by rw [AB,Ao.o,D7,D7,beq_eq_false_iff_ne];exact AA
  clear AA hl AB Y EO ah bf Ae;have kR:=aa fun af (aj:Bl w1 af)=>And.intro ((AZ.o af aj).1) ((dQ.o af aj).2.1);refine KE 17 [_,_,_,_,_,_,_,_,_,_,_,_,_,_,_,_,_] ?_;exact akg
 have CU:AX.toList=AV.toList:=by rw [AB,Ao.o,AA]
 have kR:=aa fun af (aj:Bl w1 af)=>And.intro ((AZ.o af aj).1) (And.intro ((dQ.o af aj).2.1) ((AZ.o af aj).2));have FM:=aa fun af (aj:Bl w1 af)=>(C8.o af).mono fun e aD h=>And.intro h.1 (aj.trans (h.2.mono aj.size));cases hm:eB b with
 | false =>
  rw [hm] at FM hl;have akh:=aa (hl.trans (if_neg sp));clear AA hl AB Y EO ah bf Ae hm;refine KE 17 [_,_,_,_,_,_,_,_,_,_,_,_,_,_,_,_,_] ?_;exact akg
 | true =>
  rw [hm] at FM hl;have BS:=aa (hl.trans (if_pos ⟨AA,rfl⟩));obtain⟨g,M,BB,CF,CG,uf,BU⟩:=BK.o;have AQ:=Bj.o;rw [BB] at AQ;obtain⟨CV,e,AQ⟩:=AQ;cases e;have BX:=uf.lt;obtain⟨Af,Ag⟩:=ai (decide (b∈s.seen));have CJ:=aa (fun af (ae:Bl w af)=>show (Instr.lookup 147 (.map (some g)) (.string B0) false).run prog af = .ok (.bool Af) af from by
   have:=(uf.below ae BX).look ar9 underlying9 underlying147 false (aE5 af) B0 (by rw [Y,iP];unfold maxLen;omega);rw [show B0.data.toList=b from by rw [Y];simp [aA],BU b] at this;rw [Ag];by_cases I:b∈s.seen
   ·rw [if_pos I] at this;rw [decide_eq_true I];exact this
   ·rw [if_neg I] at this;rw [decide_eq_false I];exact this);have BC:=aa (fun af (ae:Bl w af) (I:Af=true)=>show Al (.returned (.tuple #[])) af from by
   rw [Ag] at I;rw [BL.o,BS.o,if_pos (of_decide_eq_true I)];exact jM.plain BH.o ae);have Ah:=aa (fun af (ae:Bl w af) (I:Af=false)=>show Calls prog 223 #[pp R 0,.string B0,.string AV,.map (some g)] af fun e aD=>e = .returned (.tuple #[])/\Al (.returned (.tuple #[])) aD from by
   have:=asa af L v q s (BH.o.below ae) (Bi.o.below ae) (BK.o.below ae) EO b wd Ae g BB;rw [fG,<- Bn.o,<- Y,<- Ao.o] at this;refine this.mono fun e aD k=>⟨k.1,?_⟩;rw [Ag] at I;rw [BL.o,BS.o,if_neg (of_decide_eq_false I)];have:=k.since ae bf;rw [k.1] at this;exact this);have BZ:=aa (show ∀ af,Bl w1 af->af.cell? (ad g4 0)=some (.map (some g)) from fun af ae=>((Ad.trans (ae.mono gF)).cell (p:=ad g4 0) AQ.lt).trans (AQ.cell 0));have BD:=aa Ad;clear hl AB Y uf BU BB EO ah bf Ae hm Ag CF CG AQ AA BX Bh;refine KE 17 [_,_,_,_,_,_,_,_,_,_,_,_,_,_,_,_,_] ?_;intro af aj;have oD:=aa aj;obtain⟨CW,Bb⟩:=ai af;rw [<- Bb] at oD |-;clear aj Bb;go_wp2_with fail;have kR:=aa fun af (aj:Bl w1 af)=>And.intro (BZ.o af aj) (And.intro ((AZ.o af aj).2) (CJ.o af (aU BD.o aj)));refine qL 6 [_,_,_,_,_,_] (Bl w1) (oD.o.drew) ?_;intro af aj;have BF:=aa aj;obtain⟨uK,Bc⟩:=ai af;rw [<- Bc] at BF |-;clear aj Bc;cases Af with
  | true =>
   have CK:=aa (BC.o uK (aU BD.o BF.o) rfl);clear BC Ah;go_wp2_with fail;exact qB CK.o
  | false =>
   replace Ah:=aa fun af ae=>Ah.o af ae rfl;clear BC;go_wp2_with fail;have kR:=aa fun af (aj:Bl w1 af)=>And.intro ((dQ.o af aj).2.2) (And.intro ((AZ.o af aj).2) (And.intro ((dQ.o af aj).2.1) (BZ.o af aj)));refine qL 6 [_,_,_,_,_,_] (Bl w1) (BF.o.drew) ?_;intro af aj;have CL:=aa (aU BD.o aj);clear aj;go_wp2_with (go_at_call 223; refine jr (Ah.o af CL.o) ?_;intro aD ik);exact qB ik.o
theorem aE8 {a b:aRU} (p:Addr) (u:Value) (h:b.heap[k]?=a.heap[k]?):(b.setCell p u).heap[k]?=(a.setCell p u).heap[k]?:=by
 by_cases hk:k=p.block
 ·subst hk;simp only [World.setCell,Array.getElem?_modify,h]
 ·rw [Below.heap_setCell _ _ _ k hk,Below.heap_setCell _ _ _ k hk,h]
theorem aE9 {a b:aRU} (h:Below B a b) (p:Addr) (u:Value):Below B (a.setCell p u) (b.setCell p u) :=
 ⟨h.os,h.tape,h.output,by simpa [World.setCell] using h.size,fun k hk=>aE8 p u (h.block k hk)⟩
theorem DK.setCell {l:aR0} (h:DK w base g l) (ae:w.heap[b]?=some (.cells cs 295 aZ)) (o:Nat) (u:Value):DK (w.setCell ⟨b,o,none⟩ u) base g l:=by
 obtain⟨J,p,A,c,av,aI,I⟩:=h;refine⟨J,p,A,c,(aQX _ _ _ g ?_).trans av,aI,I.setOther (p:=ad b o) (I.ne ae dc) u⟩;rintro rfl;rw [av] at ae;injection ae with ae
 injection ae with _ ae
 cases ae
theorem I8.setCell (h:I8 w g) (ae:w.heap[b]?=some (.cells cs 295 aZ)) (o:Nat) (u:Value):I8 (w.setCell ⟨b,o,none⟩ u) g:=by
 unfold I8 at *;refine (aQX _ _ _ g ?_).trans h;rintro rfl;rw [h] at ae;injection ae with ae
 injection ae with _ ae
 cases ae
theorem aFa (l:List ak) (x:ak):qO (l++[x])=qO l++(x++[10]):=by simp [qO]
theorem aFb (l k:List ak):qO (l++k)=qO l++qO k:=by simp [qO]
theorem aFc [dS] (w:aRU) (L:iV) (v:Env) (q:Option Nat) (s:aK) (h:jL w L v q s) (A:aRV) (c:Nat) (l:List ak) (ax:Rd w 1 A l.length (cB l)) (hl:l.length<=1000000) (hw:(qO l).length<=1000000) :
  Calls prog 252 #[fG L.R,.slice A l.length c] w (jM w L v q (s.xA l)):=by
 have I:=h.size;obtain⟨R,M,n,AQ,Bg,Af⟩:=nq3 L.R l.length (jM w L v q (s.xA l));rw [fG,<- M,<- AQ,<- Af];rw [<- AQ] at ax hl;obtain⟨CY,CZ,us,AB⟩:=h;have BC:R < w.heap.size:=by rw [M];exact AB.run.lt
 have Ag:w.cell? (ad R 2)=some (.string (aA s.buf)):=by rw [M];exact (AB.cell 2).1
 have BD:w.frozen? ⟨R,2,none⟩=false:=by rw [M];exact (AB.cell 2).2
 have h1:=AB.one (s':={ s with buf:=[] }) (i:=2) (u:=.string ⟨#[]⟩) rfl rfl rfl rfl;rw [<- M] at h1;have BF:∃ cs,w.heap[R]?=some (.cells cs 295 (0,0)):=⟨_,by rw [M];exact AB.run⟩;have hA:=fun (W:aRU) (Bh:Below w.heap.size (w.setCell ⟨R,2,none⟩ (.string ⟨#[]⟩)) W)=>show Calls prog 221 #[pp R 0,.string (aA (qO l))] W fun e af=>e = .returned (.tuple #[])/\Bg (.returned (.tuple #[])) af from by
  have BG:Below (w.setCell ⟨R,2,none⟩ (.string ⟨#[]⟩)).heap.size (w.setCell ⟨R,2,none⟩ (.string ⟨#[]⟩)) W:=by rw [World.size_setCell];exact Bh
  have BH:=Xr W L v q { s with buf:=[] } ⟨_,_,_,h1.1.below BG⟩ sp (qO l) om;rw [fG,<- M] at BH;refine BH.mono fun e af k=>⟨k.1,?_⟩;rw [Af];exact⟨rfl,k.2.1,(h1.2.trans (dz.gN BG (by rw [World.size_setCell];exact I))).trans k.2.2⟩
 obtain⟨AU,Bi,Bj,Ah,Bn,Bp⟩:=hq6 hA BF ax AQ hw Ag;obtain⟨dI,AA⟩:=ai (w.alloc (.cells #[.pointer none,.slice none 0 0] 198));have BK:Bl w dI:=by rw [AA];exact (Below.refl _ w).alloc (aQF _) _
 have Ak:I8 dI w.heap.size:=by rw [AA];exact aQS w _
 clear M Af AB Ag BD h1 hA BF ax AQ hw;go_enter func252,ntmps252;go_wp2;rw [<- AA];clear AA;go_loopw [9] (fun i wr=>∃ k:Nat,k<=n/\i = .int .i64 k/\DK wr w.heap.size w.heap.size (qO (l.take k))/\Bl w wr/\(k=0->I8 wr w.heap.size)) (fun i _=>n - (intOf i).toNat);case atStart=>exact⟨0,om,rfl,Ak.at_ (aQF _),BK,fun _=>Ak⟩
 case round =>
  clear BK Ak;obtain⟨k,hk,rfl,I,J,AV⟩:=hrel;by_cases Bq:k < n
  ·have Br:(k:Int) < n:=om;obtain⟨x,ah⟩:∃ x,l[k]?=some x:=⟨_,aQI (by rw [<- Ah.o];exact Bq)⟩;have BL:l.take (k+1)=l.take k++[x]:=by rw [List.take_add_one,ah];rfl
   obtain⟨b,o,rfl,hcell⟩:=(Bj.o.gz J).2 om;have Bt:wr.cell? (ad b (o+k))=some (.string (aA x)):=hcell k _ (by rw [cB,List.getElem?_map,ah];rfl);have AX:qO (l.take (k+1))=qO (l.take k)++(x++[10]):=by rw [BL,aFa]
   have hle:(qO (l.take (k+1))).length<=1000000:=by have h:=congrArg (fun z=>(qO z).length) (aRC (k+1) l);simp only [aFb,List.length_append] at h;have:=Bn.o;omega
   rw [AX] at hle;simp only [List.length_append,List.length_cons,List.length_nil] at hle;have BN:aA x++⟨#[10]⟩=aA (x++[10]):=Y4 x [10];obtain⟨X,Al,Y,AZ⟩:=nq2 (aA x) (aA (x++[10]));have C8:X.size=x.length:=by rw [Al,iP]
   have CF:Y.size=x.length+1:=by rw [AZ,iP];simp
   have BO:Y.data.toList=x++[10]:=by rw [AZ];simp [aA]
   rw [<- Al] at Bt BN;rw [<- AZ] at BN;obtain⟨BP,BR⟩:=ai (qO (l.take k));rw [<- BR] at I hle AX;have Ca:¬ (X.size+1 > 9223372036854775807):=om;obtain⟨CG,CJ,CK⟩:=hq3 BO AX J;have CL:=J.size;have CQ:BP.length+Y.size<=100000000:=om;clear AV ah BL hcell hle Al AZ C8 CF BO AX BR J;go_wp2_with (go_at_call 101; refine (aDa wr w.heap.size w.heap.size BP I Y CQ CL).mono ?_;rintro e af ⟨rfl,BS,CS⟩;rw [CG.o,<- CJ.o] at BS;clear I);go_roundw;case rel=>exact⟨k+1,om,by go_num,BS,CK.o.trans (CS.mono (aQF _)),fun e=>om⟩
   case measure=>simp [intOf];omega
  ·have Aa:k=n:=om;have Br:¬ (k:Int) < n:=om;have Ag:=(J.cell (p:=ad R 2) BC).trans Bp.o;obtain⟨cs,hcs⟩:=Bi.o;have Am:=(J.block R BC).trans hcs;have BD:=aQY wr R 2 _ _ Am;have Ao:l.take k=l:=by rw [Aa,Ah.o,List.take_length]
   rw [Ao] at I;have Ac:=aE9 J ⟨R,2,none⟩ (.string ⟨#[]⟩);have Ad:=I.setCell Am 2 (.string ⟨#[]⟩);have Ae:l=[]->I8 (wr.setCell ⟨R,2,none⟩ (.string ⟨#[]⟩)) w.heap.size:=fun e=>(AV (by rw [Aa,Ah.o,e];rfl)).setCell Am 2 _;obtain⟨BU,Ap⟩:=ai (wr.setCell ⟨R,2,none⟩ (.string ⟨#[]⟩));rw [<- Ap] at Ac Ad Ae;have BX:=aa Ap;clear Ap;have BZ:=I;by_cases AP:l=[]
   ·have CU:=Ae AP;have AA:aA (qO l)=⟨#[]⟩:=by rw [AP];rfl
    rw [AA] at AU;have Aq:=aa Ac;clear Aa Ao I Ad Ae AV J BZ AP AA;go_wp2_with (first|(go_at_call 104; rw [<- BX.o];refine (apz BU w.heap.size w.heap.size CU).mono ?_;rintro e Av ⟨rfl,Az⟩)|(go_at_call 221; refine jr (AU.o Av (Aq.o.trans Az)) ?_;intro CV BB));refine qB ?_;exact BB.o
   ·have Bb:qO l≠[]:=by
     cases l with
     | nil=>exact absurd rfl AP
     | cons a r=>simp [qO]
    have Bc:(⟨(qO l).toArray⟩:ByteArray)=aA (qO l):=rfl;obtain⟨Aq,Be,CW,CX⟩:=hq4 Ac Bc Ad Bb;obtain⟨Z,Bf⟩:=ai (aA (qO l));rw [<- Bf] at AU Be;clear Aa Ao I Ad Ae AV J BZ AP Bb Bc Ac Bf;go_wp2_with (first|(go_at_call 104; rw [<- BX.o];refine (apy BU w.heap.size w.heap.size (qO l) CW.o CX.o).mono ?_;rw [Be.o];rintro e Av ⟨rfl,Az⟩)|(go_at_call 221; refine jr (AU.o Av (Aq.o.trans Az)) ?_;intro CV BB));refine qB ?_;exact BB.o
theorem UX:∀ l:List ak,(qO l).length=(l.map fun x=>x.length+1).sum
 | []=>rfl
 | x :: l=>by
  have:=UX l;unfold qO at *;simp [this];omega
theorem aFg {k:List ak} (h:l.Sublist k):(l.map fun x=>x.length+1).sum<=(k.map fun x=>x.length+1).sum:=by
 induction h with
 | slnil=>exact aQF _
 | cons a _ I=>simp only [List.map_cons,List.sum_cons];omega
 | cons_cons a _ I=>simp only [List.map_cons,List.sum_cons];omega
theorem aso {k:List ak} (h:l.Sublist k):(qO l).length<=(qO k).length:=by rw [UX,UX];exact aFg h
theorem asq (l:List ak):(Lib.compact l).Sublist l:=by
 have hl:l=(List.range l.length).map (l.toArray[·]!):=by
  apply aRO
  ·simp
  ·intro i h1 I;simp [h1]
 unfold Lib.compact Lib.compactUpTo;conv=>rhs;rw [hl]
 exact List.Sublist.map _ List.filter_sublist
theorem aFh (l:List ak):(qO (qi l)).length=(qO l).length:=by rw [UX,UX];exact ((List.mergeSort_perm l _).map _).sum_nat
theorem akl (p:UInt8->Bool):∀ s:ak,(qO (jl p s)).length=s.length+1
 | []=>rfl
 | c :: s=>by
  obtain⟨x,r,h1,J⟩:=Wu p c s;have I:=akl p s;rw [h1,UX] at I;rw [J,UX];simp only [List.map_cons,List.sum_cons] at I;split <;> simp only [List.map_cons,List.sum_cons,List.length_cons,List.length_nil] <;> omega
theorem asr (s:ak):(qO (jQ s)).length<=s.length+1:=by
 rw [jQ];split
 ·simp [qO]
 ·split
  ·rw [akl,List.length_dropLast];omega
  ·rw [akl];omega
theorem aFi (w:aRU) (n:Nat) (aB:n<=1000000000) (bf:B<=w.heap.size) (bY:Lib.TabBelow prog B w "internal/strconv.uint64pow10" .u64 Lib.pow10Tab) :
  CB 102 #[.int .i64 n] w (.string (aA (Lib.decDigits n))):=by
 have I:Lib.TabBelow prog w.heap.size w "internal/strconv.uint64pow10" .u64 Lib.pow10Tab:=fun w' ae=>bY w' (ae.mono bf);refine (Any.strconv_Itoa Tryz.keyItoa n om om w I.here).mono ?_;rintro e w' ⟨rfl,k,os,rfl⟩;exact⟨by rw [Lib.itoa_nonneg];rfl,Lib.below_grow _ _ (aQF _) _ _⟩
structure EZ [dS] (dI w:aRU) (L:iV) (v:Env) (q:Option Nat) (s:aK) (A:aRV) (c:Nat) (l:List ak):Prop where
 run:jL dI L v q s
 fit:Fit dI L s
 below:Bl dI w
 own:Own w dI.heap.size 9 1 A l.length c (cB l)
 len:l.length<=1000000
 all:∀ x∈l,x.length<=1000000
 whole:(qO l).length<=1000000
theorem EZ.lines [dS] {L:iV} (h:EZ dI w L v q s A c l) (ae:Bl dI w') {A':aRV} {c':Nat} {k:List ak} (aG:Own w' b 9 1 A' k.length c' (cB k)) (hk:k.length<=1000000) (hw:(qO k).length<=1000000) (aL:R=L.R) {iC:aRY} (bO:iC=jM dI L v q (s.xA k)) :
  Calls prog 252 #[pp R 0,.slice A' k.length c'] w' fun e af=>e = .returned (.tuple #[])/\iC (.returned (.tuple #[])) af:=by
 have h1:=aFc w' L v q s (h.run.below ae) A' c' k aG.rd hk hw;rw [fG,<- aL] at h1;refine h1.mono fun e af x=>⟨x.1,?_⟩;rw [bO];have:=x.since ae h.run.size;rw [x.1] at this;exact this
theorem EZ.grown [dS] {L:iV} (h:EZ dI w L v q s A c l) (ae:Bl w w1) (av:w1.grownBy w' (bM A)):Bl dI w':=by have h1:Below dI.heap.size dI w1:=h.below.trans (ae.mono h.below.size);exact h1.grown av h1.size fun k e=>(h.own.block k e).1
theorem aFj [dS] (dI w:aRU) (L:iV) (v:Env) (q:Option Nat) (s:aK) (A:aRV) (c:Nat) (l:List ak) (h:EZ dI w L v q s A c l) (arg:ak) :
  Calls prog 229 #[fG L.R,.string (aA Q4),.string (aA arg),.slice A l.length c] w (jM dI L v q (s.xA (qi l))):=by
 obtain⟨R,J,Y,AQ,N,M,n,AA⟩:=nq4 L.R (aA arg) (aA Q4) l.length;obtain⟨Ae,AB⟩:=ai (jM dI L v q (s.xA (qi l)));have AU:N.toList=Q4:=by rw [M];exact D7 _
 have Af:N.toList=[115,111,114,116]:=AU;have AP:=fun W (ae:Bl w W)=>aEm W dI.heap.size A c l (h.own.below ae (aQF _)) h.len;have I:=fun (W W':aRU) (ae:Bl w W) (av:W.grownBy W' (bM A)) (AV:Own W' dI.heap.size 9 1 A l.length c (cB (qi l)))=>h.lines (h.grown ae av) (k:=qi l) (A':=A) (c':=c) (b:=dI.heap.size) (by rw [Cw];exact AV) (by rw [Cw];exact h.len) (by rw [aFh];exact h.whole) J AB;rw [Cw] at I;rw [fG,<- J,<- AQ,<- M,<- AB,<- AA];rw [<- AA] at AP I;have AX:=aa AP;have AZ:=aa I;clear AP I h J AQ M AA AB AU;go_enter func229,ntmps229;go_wp2_with (first|(go_at_call 36; refine GY (AX.o _ iD) ?_;intro af Aa Ac)|(go_at_call 252; refine jr (AZ.o _ af iD Ac.o Aa.o) ?_;intro aD Ad));refine qB ?_;exact Ad.o
theorem aFk [dS] (dI w:aRU) (L:iV) (v:Env) (q:Option Nat) (s:aK) (A:aRV) (c:Nat) (l:List ak) (h:EZ dI w L v q s A c l) (arg:ak) :
  Calls prog 229 #[fG L.R,.string (aA Q5),.string (aA arg),.slice A l.length c] w (jM dI L v q (s.xA (Uq l))):=by
 obtain⟨R,J,Y,AQ,N,M,n,AA⟩:=nq4 L.R (aA arg) (aA Q5) l.length;obtain⟨Ae,AB⟩:=ai (jM dI L v q (s.xA (Uq l)));have AU:N.toList=Q5:=by rw [M];exact D7 _
 have Af:N.toList=[117,110,105,113]:=AU;have AP:=fun W (ae:Bl w W)=>aEn W dI.heap.size A c l (h.own.below ae (aQF _)) h.len;have I:=fun (W W':aRU) (ae:Bl w W) (av:W.grownBy W' (bM A)) (AV:Own W' dI.heap.size 9 1 A (Lib.compact l).length c (cB (Lib.compact l)))=>h.lines (h.grown ae av) (k:=Uq l) (A':=A) (c':=c) (b:=dI.heap.size) AV (by have:=(asq l).length_le;have:=h.len;unfold Uq;omega) (by have:=aso (asq l);have:=h.whole;unfold Uq;omega) J AB;unfold Uq at I;obtain⟨m,hm⟩:=ai ((Lib.compact l).length);rw [fG,<- J,<- AQ,<- M,<- AB,<- AA];rw [<- AA,<- hm] at AP;rw [<- hm] at I;have AX:=aa AP;have AZ:=aa I;clear AP I h J AQ M AA AB AU hm;go_enter func229,ntmps229;go_wp2_with (first|(go_at_call 37; refine GY (AX.o _ iD) ?_;intro af Aa Ac)|(go_at_call 252; refine jr (AZ.o _ af iD Ac.o Aa.o) ?_;intro aD Ad));refine qB ?_;exact Ad.o
theorem aFl [dS] (dI w:aRU) (L:iV) (v:Env) (q:Option Nat) (s:aK) (A:aRV) (c:Nat) (l:List ak) (h:EZ dI w L v q s A c l) (arg:ak) (bq:arg.length<=1000000) :
  Calls prog 229 #[fG L.R,.string (aA Q3),.string (aA arg),.slice A l.length c] w (jM dI L v q (s.xA (l.filter (mQ · arg)))):=by
 obtain⟨R,J,Y,M,N,AA,n,AB⟩:=nq4 L.R (aA arg) (aA Q3) l.length;obtain⟨Al,AP⟩:=ai (jM dI L v q (s.xA (l.filter (mQ · arg))));have AU:N.toList=Q3:=by rw [AA];exact D7 _
 have Am:N.toList=[107,101,101,112]:=AU;have AZ:=h.fit.EW;have Aa:=h.fit.base;have AV:∀ k,k < dI.heap.size->some k≠bM A:=fun k hk e=>by have:=(h.own.block k e.symm).1;omega
 have AX:some w.heap.size≠bM A:=fun e=>by have:=(h.own.block _ e.symm).2.1;omega
 have I:=fun W (ae:Bl w W) (hc:W.cell? (ad w.heap.size 0)=some (.string (aA arg)))=>aEt W dI.heap.size A c l (h.own.below ae (aQF _)) h.len h.all w.heap.size arg ⟨hc,(h.fit.vL.on h.below).on ae,bq⟩ AX (AV _ om);have AQ:=fun (W W':aRU) (ae:Bl w W) (av:W.grownBy W' (bM A)) (Ac:Own W' dI.heap.size 9 1 A (l.filter (mQ · arg)).length c (cB (l.filter (mQ · arg))))=>h.lines (h.grown ae av) (k:=l.filter (mQ · arg)) (A':=A) (c':=c) (b:=dI.heap.size) Ac (by have:=aRi (mQ · arg) l;have:=h.len;omega) (by have:=aso (List.filter_sublist (l:=l) (p:=(mQ · arg)));have:=h.whole;omega) J AP;obtain⟨m,hm⟩:=ai ((l.filter (mQ · arg)).length);rw [fG,<- J,<- M,<- AA,<- AP,<- AB];rw [<- AB,<- hm] at I;rw [<- hm] at AQ;rw [<- M] at I;have hcell:(w.alloc (.cells #[.string Y] 9)).cell? (ad w.heap.size 0)=some (.string Y):=aQH _ _ 0 _ _ _ (aQM w _);obtain⟨Ad,Ae,Af⟩:=hq3 hcell I AQ;clear I AQ h J M AA AB AP AU hm hcell AV AX AZ Aa bq;go_enter func229,ntmps229;go_wp2_with (first|(go_at_call 253; refine GY (Ae.o _ iD Ad.o) ?_;intro af Ag Ah)|(go_at_call 252; refine jr (Af.o _ af iD Ah.o Ag.o) ?_;intro aD Ak));refine qB ?_;exact Ak.o
theorem EZ.store [dS] {L:iV} (h:EZ dI w L v q s A c l) (ae:Bl w W) (z:ak):jM dI L v q { s with buf:=z } (.returned (.tuple #[])) (W.setCell ⟨L.R,2,none⟩ (.string (aA z))):=by have I:Bl dI W:=h.below.trans (ae.mono h.below.size);obtain⟨M,Y,us,J⟩:=h.run;have h1:=(J.below I).one (s':={ s with buf:=z }) (i:=2) (u:=.string (aA z)) rfl rfl rfl rfl;exact⟨rfl,⟨_,_,_,h1.1⟩,(dz.gN I h.run.size).trans h1.2⟩
theorem EZ.cells [dS] {L:iV} (h:EZ dI w L v q s A c l) (ae:Bl w W):W.cell? (ad L.R 2)=some (.string (aA s.buf))/\W.frozen? ⟨L.R,2,none⟩=false:=by have I:Bl dI W:=h.below.trans (ae.mono h.below.size);obtain⟨M,Y,us,J⟩:=h.run;exact (J.below I).cell 2
theorem aFn [dS] (dI w:aRU) (L:iV) (v:Env) (q:Option Nat) (s:aK) (A:aRV) (c:Nat) (l:List ak) (h:EZ dI w L v q s A c l) (arg:ak) :
  Calls prog 229 #[fG L.R,.string (aA Q7),.string (aA arg),.slice A l.length c] w (jM dI L v q ({ s with buf:=Lib.decDigits l.length++[10] })):=by
 obtain⟨R,I,Y,AV,N,M,n,AA⟩:=nq4 L.R (aA arg) (aA Q7) l.length;obtain⟨AX,AB⟩:∃ AX:Ending->World->Prop,AX=jM dI L v q ({ s with buf:=Lib.decDigits l.length++[10] }):=⟨_,rfl⟩;have AZ:N.toList=Q7:=by rw [M];exact D7 _
 have Al:N.toList=[99,111,117,110,116]:=AZ;have hlen:=h.len;have Aa:=aqA l.length om;have j6:=fun W (ae:Bl w W)=>aFi W l.length om (B:=L.B) (aQG (aQG h.fit.base h.below.size) ae.size) ((h.fit.Gf.on (h.below.mono h.fit.base)).on (ae.mono (aQG h.fit.base h.below.size)));have J:=fun W (ae:Bl w W)=>h.store ae (Lib.decDigits l.length++[10]);have AP:=fun W (ae:Bl w W)=>h.cells ae;have Ac:aA (Lib.decDigits l.length)++⟨#[10]⟩=aA (Lib.decDigits l.length++[10]):=Y4 _ [10];obtain⟨D,AQ,Z,Ad⟩:=nq2 (aA (Lib.decDigits l.length)) (aA (Lib.decDigits l.length++[10]));have Ae:D.size<=20:=by rw [AQ,iP];exact Aa
 have Am:¬ (D.size+1 > 9223372036854775807):=om;rw [<- AQ] at j6 Ac;rw [<- Ad] at J Ac;rw [fG,<- I,<- AV,<- M,<- AB,<- AA];rw [<- AA] at j6;rw [<- AB,<- I] at J;rw [<- I] at AP;obtain⟨Af,Ag,Ah⟩:=hq3 J j6 AP;clear J j6 AP h I AV M AA AB AZ AQ Ad hlen Aa Ae;go_enter func229,ntmps229;go_wp2_with (first|(go_at_call 102; refine (Ag.o _ iD).mono ?_;rintro e af ⟨rfl,ae⟩;have AU:Bl w af:=iD.trans (ae.mono sp);have Ak:=aa AU;obtain⟨Ao,Ap⟩:=Ah.o af AU;clear ae AU));refine qB ?_;exact Af.o _ Ak.o
def Pv (c:UInt8):UInt8:=if 97<=c.toNat/\c.toNat<=122 then c - 32 else c
def JP (k:Nat) (b:ak):ak:=(b.take k).map Pv++b.drop k
theorem aFo (b:ak):JP 0 b=b:=by simp [JP]
theorem aFp {b:ak} (h:b.length<=k):JP k b=Jh b:=by rw [JP,List.take_of_length_le h,List.drop_of_length_le h,List.append_nil];rfl
theorem ass {b:ak} (h:b[k]?=some x):JP (k+1) b=(JP k b).set k (Pv x):=by
 obtain⟨hk,rfl⟩:=aQL.1 h;have hl:((b.take k).map Pv).length=k:=by simp;omega
 rw [JP,JP,List.set_append_right _ _ om,hl,Nat.sub_self,List.drop_eq_getElem_cons hk,List.set_cons_zero,List.take_succ_eq_append_getElem hk,List.map_append,List.append_assoc];rfl
theorem ast {b:ak} (h:b[k]?=some x):(JP k b)[k]?=some x:=by
 obtain⟨hk,rfl⟩:=aQL.1 h;have hl:((b.take k).map Pv).length=k:=by simp;omega
 rw [JP,List.getElem?_append_right om,hl,Nat.sub_self,List.drop_eq_getElem_cons hk];rfl
theorem aFq (l:ak) (k:Nat) (x:UInt8):(bQ l).set k (.int .u8 x.toNat)=bQ (l.set k x):=by unfold bQ;rw [List.map_set]
theorem aFr {l:ak} (h:l[k]?=some x):(bQ l)[k]?=some (.int .u8 x.toNat):=by rw [bQ,List.getElem?_map,h];rfl
theorem aFs {l:ak} (h:l[k]?=some x):l.set k x=l:=by obtain⟨hk,rfl⟩:=aQL.1 h;exact List.set_getElem_self hk
theorem aFt [dS] (dI w:aRU) (L:iV) (v:Env) (q:Option Nat) (s:aK) (A:aRV) (c:Nat) (l:List ak) (h:EZ dI w L v q s A c l) (arg:ak) :
  Calls prog 229 #[fG L.R,.string (aA Q6),.string (aA arg),.slice A l.length c] w (jM dI L v q ({ s with buf:=Jh s.buf })):=by
 obtain⟨R,AV,Y,Av,N,Ad,n,Az,BR,Ae⟩:=nq5 L.R (aA arg) (aA Q6) l.length (jM dI L v q ({ s with buf:=Jh s.buf }));have BB:N.toList=Q6:=by rw [Ad];exact D7 _
 have C8:N.toList=[117,112,112,101,114]:=BB;have BC:=h.fit.lim.buf;have AQ:=fun W (ae:Bl w W)=>h.store ae (Jh s.buf);have AB:=fun W (ae:Bl w W)=>h.cells ae;obtain⟨I,Af⟩:=ai s.buf;obtain⟨X,AX,Z,Ag⟩:=nq2 (aA I) (aA (Jh I));rw [<- Af] at AQ AB BC;have BD:BR=jM dI L v q { s with buf:=Jh I }:=by rw [Ae,Af]
 rw [<- AX] at AB;rw [<- Ag] at AQ;obtain⟨m,hm⟩:=ai X.size;have BS:X.size=I.length:=by rw [AX,iP]
 have BF:X.data.toList=I:=by rw [AX];simp [aA]
 have CF:m<=65536:=om;rw [fG,<- AV,<- Av,<- Ad,<- Ae,<- Az];rw [<- BD,<- AV] at AQ;rw [<- AV] at AB;have BU:=(AB w (Below.refl _ _)).1;have BG:m=I.length:=om;obtain⟨BX,BZ,Bb,Ah,BH,Bc⟩:=hq6 AQ AB BF BG hm Ag;have Be:X.size<=maxLen:=by unfold maxLen;omega
 have CG:R < w.heap.size:=aQR _ _ BU;clear AQ AB h AV Av Ad Az Ae BD BB AX Ag BS BF hm Af BC BG;go_enter func229,ntmps229;go_wp2_with ((with_reducible refine aop 5 w.heap.size X underlying9 underlying48 underlying5 ?_ Be ?_ ?_);(simp);exact rfl;intro il c2 af J ae Bf;have Bg:=aa J;have BK:Bl w af:=iD.trans (ae.mono sp);have Bh:=aa BK;clear J ae BK Bf;rw [<- BH.o]);have BL:Own af w.heap.size 5 1 il m c2 (bQ I):=by have:=Bg.o;rw [Bb.o,<- BH.o] at this;exact this
 go_loopw [34] (fun i wr=>∃ k:Nat,k<=m/\i = .int .i64 k/\Own wr w.heap.size 5 1 il m c2 (bQ (JP k I))/\Bl w wr) (fun i _=>m - (intOf i).toNat);case atStart=>exact⟨0,om,rfl,by rw [aFo];exact BL,Bh.o⟩
 case round =>
  obtain⟨k,hk,rfl,J,M⟩:=hrel;clear BL;by_cases BN:k < m
  ·have Bi:(k:Int) < m:=om;obtain⟨x,ah⟩:∃ x,I[k]?=some x:=⟨_,aQI (by rw [<- Ah.o];exact BN)⟩;obtain⟨b,o,u,rfl,Bj,CJ,hu,Ak,CK,AZ⟩:=J.spot BN;rw [aFr (ast ah)] at hu;obtain rfl:=aRb hu;have AA:=AZ (.int .u8 (Pv x).toNat);rw [aFq,<- ass ah] at AA;have Al:x.toNat < 256:=x.toNat_lt;by_cases AU:97<=x.toNat/\x.toNat<=122
   ·have hval:((Pv x).toNat:Int)=(x.toNat:Int) - 32:=by rw [Pv,if_pos AU,UInt8.toNat_sub_of_le _ _ (by rw [UInt8.le_iff_toNat_le];have:(32:UInt8).toNat=32:=rfl;omega)];have:(32:UInt8).toNat=32:=rfl;omega
    have Aa:(97:Int)<=x.toNat:=om;have Am:(x.toNat:Int)<=122:=om;have Bn:IntKind.u8.wrap ((x.toNat:Int) - 32)=(x.toNat:Int) - 32:=IntWalk.u8_in _ (by constructor <;> omega);rw [hval] at AA;obtain⟨y,hy⟩:=ai (x.toNat:Int);rw [<- hy] at Ak AA Bn Aa Am;have Ac:=aa AA;have AP:=aa M;clear ah hu AZ AA J AU hval hy Al M;go_wp2_with fail;go_roundw;case rel=>exact⟨k+1,om,by go_num,Ac.o,AP.o.setCell Bj _⟩
    case measure=>simp [intOf];omega
   ·have Ao:Pv x=x:=by rw [Pv,if_neg AU]
    have Ap:Own wr w.heap.size 5 1 (some ⟨b,o,none⟩) m c2 (bQ (JP (k+1) I)):=by rw [ass ah,Ao,aFs (ast ah)];exact J
    have Ac:=aa Ap;have AP:=aa M;by_cases Aa:97<=x.toNat
    ·have Aq:(97:Int)<=x.toNat:=om;have Am:¬ (x.toNat:Int)<=122:=om;obtain⟨y,hy⟩:=ai (x.toNat:Int);rw [<- hy] at Ak Aq Am;clear ah hu AZ AA J AU hy Al M Ap Ao Aa;go_wp2_with fail;go_roundw;case rel=>exact⟨k+1,om,by go_num,Ac.o,AP.o⟩
     case measure=>simp [intOf];omega
    ·have Aq:¬ (97:Int)<=x.toNat:=om;obtain⟨y,hy⟩:=ai (x.toNat:Int);rw [<- hy] at Ak Aq;clear ah hu AZ AA J AU hy Al M Ap Ao Aa;go_wp2_with fail;go_roundw;case rel=>exact⟨k+1,om,by go_num,Ac.o,AP.o⟩
     case measure=>simp [intOf];omega
  ·have Bp:k=m:=om;have Bi:¬ (k:Int) < m:=om;rw [aFp (by rw [<- Ah.o];omega)] at J;obtain⟨CL,CQ⟩:=BZ.o wr M;have Bq:(Jh I).length=m:=by rw [Ah.o];simp [Jh]
   have BO:=J.rd;have BP:(⟨(Jh I).toArray⟩:ByteArray)=Z:=Bc.o.symm;obtain⟨AP,Br,Bt⟩:=hq3 M BO BP;clear Bp M J BO BP;go_wp2_with ((with_reducible refine adp 5 il m c2 (Jh I) underlying48 underlying5 underlying9 Bq Br.o ?_ ?_);exact rfl;rw [Bt.o]);refine qB ?_;exact BX.o _ AP.o
structure Made (w:aRU) (g:Nat) (R:Nat) (A:aRV) (n eY:Nat) (nu Y:ByteArray):Prop where
 r:eT w g #[pp R 0] 247
 c:eT w (g+1) #[.slice A n eY,.string nu] 300
 a:eT w (g+1+1) #[.string Y] 9
section
variable {w w':aRU} {g R n eY:Nat} {A:aRV} {nu Y:ByteArray}
theorem Made.below (h:Made w g R A n eY nu Y) (ae:Bl w w'):Made w' g R A n eY nu Y:=⟨h.r.below ae,h.c.below ae,h.a.below ae⟩
theorem Made.arg (h:Made w g R A n eY nu Y) (Z:ByteArray):Made (w.setCell ⟨g+1+1,0,none⟩ (.string Z)) g R A n eY nu Z:=by have I:=h.a;unfold eT at I;refine⟨(aQX _ _ _ _ (by show g≠g+1+1;omega)).trans h.r,(aQX _ _ _ _ (by show g+1≠g+1+1;omega)).trans h.c,?_⟩;unfold eT;rw [setCell_eq_setRow w _ 0 _ _ _ _ I,setRow_heap w _ _ _ _ _ I];rfl
theorem asx (w:aRU) (R:Nat) (A:aRV) (n eY:Nat) (nu:ByteArray):Made (((w.alloc (.cells #[pp R 0] 247)).alloc (.cells #[.slice A n eY,.string nu] 300)).alloc (.cells #[.string ⟨#[]⟩] 9)) w.heap.size R A n eY nu ⟨#[]⟩ /\
  Bl w (((w.alloc (.cells #[pp R 0] 247)).alloc (.cells #[.slice A n eY,.string nu] 300)).alloc (.cells #[.string ⟨#[]⟩] 9)):=by
 have h1:Bl w (w.alloc (.cells #[pp R 0] 247)):=iD;refine⟨⟨?_,?_,?_⟩,(h1.alloc sp _).alloc (by simp;omega) _⟩
 ·unfold eT;rw [Below.heap_alloc _ _ _ (by simp;omega),Below.heap_alloc _ _ _ sp];exact aQM w _
 ·unfold eT;rw [Below.heap_alloc _ _ _ sp];have:=aQM (w.alloc (.cells #[pp R 0] 247)) (.cells #[.slice A n eY,.string nu] 300);rwa [World.size_alloc] at this
 ·have:=aQM ((w.alloc (.cells #[pp R 0] 247)).alloc (.cells #[.slice A n eY,.string nu] 300)) (.cells #[.string ⟨#[]⟩] 9);rwa [World.size_alloc,World.size_alloc] at this
end
theorem akp (ax:Rd w 1 A k (cB l)) (hk:0 < k):∃ b o,A=some ⟨b,o,none⟩/\b < w.heap.size/\∀ j x,l[j]?=some x->w.cell? (ad b (o+j))=some (.string (aA x)):=by
 obtain⟨b,o,rfl,hc⟩:=ax.2 hk;have hl:=ax.1;have hlen:0 < l.length:=by rw [cB,List.length_map] at hl;omega
 refine⟨b,o,rfl,?_,fun j x ah=>hc j _ (aj3 ah)⟩;have:=hc 0 _ (aj3 (aQI hlen));exact aQR _ _ this
theorem asy {a:Array Value} {Q:aRY} (h:∀ R,R=Q->Calls P f a w R):Calls P f a w Q:=h Q rfl
theorem asz {k:ak} (h:N=aA k):N.toList=k:=by rw [h];exact D7 _
theorem Ed {l:ak} (h:(N.toList == l)=false):(N.toList == l)=false/\¬ N.toList=l:=⟨h,fun e=>by rw [e,beq_self_eq_true] at h;cases h⟩
theorem ic {l:ak} (h:N.toList=l):(N.toList == l)=true/\N.toList=l:=⟨by rw [h,beq_self_eq_true],h⟩
theorem BV {k l:ak} {K:List ak} (h:K.all (· != k)=true) (hl:l∈K):(k == l)=false:=by have:=aRe.1 h l hl;rw [Bool.eq_false_iff];intro e;rw [beq_iff_eq] at e;subst e;simp at this
theorem RO [dS] {a:Array Value} {L:iV} {eG:Option Nat} {S:aK} {iC:aRY} (bO:iC=fun e w'=>∃ eG,jM w L v eG S e w') (h:jL w L v q s) (ae:Bl w af) (c:Calls prog f a af (jM af L v eG S)):Calls prog f a af fun e aD=>e = .returned (.tuple #[])/\iC (.returned (.tuple #[])) aD:=
 c.mono fun e aD k=>⟨k.1,by rw [bO];have:=k.since ae h.size;rw [k.1] at this;exact⟨_,this⟩⟩
theorem Lr {P:Prop} (h:P:=by (exact qB ik.o)):P:=h
structure Gh (v:Env):Prop where
 may:v.may=eB
 len:v.env.length<=1000000
 all:∀ x∈v.env,x.1.length<=1100000/\x.2.length<=1100000
def Ls [dS] (n:Nat) (ws:List ak):Prop:=∀ (w:aRU) (L:iV) (v:Env) (q:Option Nat) (s:aK) (A:aRV) (eY:Nat) (rest:ak),Gh v->jL w L v q s->Fit w L s->(∀ t∈s.todo,t.BI=true)->rest.length<=1000000->Rd w 1 A n (cB ws)->n<=eY->Calls prog 192 #[fG L.R,.agg #[.slice A n eY,.string (aA rest)]] w fun e w'=>∃ eG,jM w L v eG (s.wO v ⟨ws,rest⟩) e w'
theorem akq {P Q:Prop} (k:Q) (h:AJ Q->P:=by (
 intro gL;refine asy fun iC fu=>?_;obtain⟨fo,jc,hA,aQ,Xy⟩:=akp ax om;rw [hA];clear hA;obtain⟨R,aL,nu,xX,X,aX⟩:=nq3 L.R (aA rest) (aA s.buf);obtain⟨N,eX⟩:∃ N,N=aA _/\w.cell? (ad fo jc)=some (.string N):=⟨_,rfl,Xy 0 _ rfl⟩;obtain⟨nl,jG⟩:=ai ((jQ s.buf).length);have jD:=asz eX.1;first | (obtain⟨t1,v1⟩:=Ed (N:=N) (l:=[114,101,97,100]) (by (rw [jD];first | decide | exact BV hk dc))) | obtain⟨t1,v1⟩:=ic (N:=N) (l:=[114,101,97,100]) jD
 first | (obtain⟨t2,v2⟩:=Ed (N:=N) (l:=[116,114,121]) (by (rw [jD];first | decide | exact BV hk dc))) | obtain⟨t2,v2⟩:=ic (N:=N) (l:=[116,114,121]) jD
 first | (obtain⟨t3,v3⟩:=Ed (N:=N) (l:=[115,99,97,110]) (by (rw [jD];first | decide | exact BV hk dc))) | obtain⟨t3,v3⟩:=ic (N:=N) (l:=[115,99,97,110]) jD
 first | (obtain⟨t4,v4⟩:=Ed (N:=N) (l:=[116,101,120,116]) (by (rw [jD];first | decide | exact BV hk dc))) | obtain⟨t4,v4⟩:=ic (N:=N) (l:=[116,101,120,116]) jD
 first | (obtain⟨t5,v5⟩:=Ed (N:=N) (l:=[101,110,118]) (by (rw [jD];first | decide | exact BV hk dc))) | obtain⟨t5,v5⟩:=ic (N:=N) (l:=[101,110,118]) jD
 first | (obtain⟨t6,v6⟩:=Ed (N:=N) (l:=[119,114,105,116,101]) (by (rw [jD];first | decide | exact BV hk dc))) | obtain⟨t6,v6⟩:=ic (N:=N) (l:=[119,114,105,116,101]) jD
 first | (obtain⟨t7,E5⟩:=Ed (N:=N) (l:=[110,101,101,100]) (by (rw [jD];first | decide | exact BV hk dc))) | obtain⟨t7,E5⟩:=ic (N:=N) (l:=[110,101,101,100]) jD
 first | (obtain⟨t8,E8⟩:=Ed (N:=N) (l:=[102,97,105,108]) (by (rw [jD];first | decide | exact BV hk dc))) | obtain⟨t8,E8⟩:=ic (N:=N) (l:=[102,97,105,108]) jD
 have dn:=aa (fun af (ae:Bl w af)=>(ae.cell (p:=ad fo jc) aQ).trans eX.2);have rV:=aa (fun W (ae:Bl w W)=>show Calls prog 203 #[.string X] W fun e w'=>∃ A c,e = .returned (.slice A nl c)/\Own w' W.heap.size 9 1 A nl c (cB (jQ s.buf))/\Bl W w' from by (rw [aX,jG];exact ad1 W s.buf (by have:=hf.lim.buf;omega) (hf.vL.on ae)));have EX:=aa (fun af (ae:Bl w af)=>show af.cell? (ad R 2)=some (.string X) from by
  clear gL;obtain⟨_,_,_,Bg⟩:=h;rw [aX,aL];exact ((Bg.below ae).cell 2).1);obtain⟨uS,dE,De,di⟩:=hq4 fu aL xX aX;have cZ:=aa eX.1;have uz:=aa jG;rw [fG,<- aL,<- xX];clear Xy jD aL xX aX fu eX aQ jG;go_enter func192,ntmps192;go_upto_region 2 with fail
 obtain⟨CS,bA⟩:=asx w R (some ⟨fo,jc,none⟩) 1 eY nu;obtain⟨dD,iM⟩:=ai (((w.alloc (.cells #[pp R 0] 247)).alloc (.cells #[.slice (some ⟨fo,jc,none⟩) 1 eY,.string nu] 300)).alloc (.cells #[.string ⟨#[]⟩] 9));rw [<- iM] at CS bA |-;have Lt:=aa CS;have dX:=aa bA;have m0:dD.cell? (ad (w.heap.size+1) 0)=some (.slice (some ⟨fo,jc,none⟩) 1 eY):=CS.c.cell 0;clear CS bA iM;go_upto_region 4 with fail
 have Pw:=Lt.o;have fF:=dX.o;obtain⟨cO,nD⟩:=ai dD;rw [<- nD] at Pw fF |-;clear nD m0 Lt dX;have m0:cO.cell? (ad w.heap.size 0)=some (pp R 0):=Pw.r.cell 0;have m1:=EX.o cO fF;have Lt:=aa Pw;have gH:=aa fF;clear Pw fF;go_upto_region 5 with (go_at_call 203; refine (rV.o cO gH.o).mono ?_;rintro e bn ⟨vO,lu,rfl,aG,ae⟩;have kT:=aa (aG.mono gH.o.size);have Lu:=Lt.o.below ae;have cu:=aU gH.o ae;clear aG ae rV)
 have qW:=aa (fun af (ae:Bl bn af)=>Lu.below ae);have dJ:=aa (fun af (ae:Bl bn af)=>aU cu ae);have E9:bn.cell? (ad (w.heap.size+1) 0)=some (.slice (some ⟨fo,jc,none⟩) 1 eY):=Lu.c.cell 0;have BO:=dn.o bn cu;have wB:bn.cell? (ad w.heap.size 0)=some (pp R 0):=Lu.r.cell 0;have zC:bn.cell? (ad (w.heap.size+1+1) 0)=some (.string ⟨#[]⟩):=Lu.a.cell 0;have kC:(1:Int)<=eY:=om;clear m0 m1 Lu Lt gH;rename_i Il Lv;revert Il;revert kT cu qW dJ E9 BO wB zC;revert E8 t8;revert E5 t7;revert v6 t6;revert v5 t5;revert v4 t4;revert v3 t3;revert v2 t2;revert v1 t1;revert iC fo jc R nu X N nl bn vO lu;exact gL.o)):P:=h (aa k)
theorem U0 {P Q:Prop} (k:Q) (h:AJ Q->P:=by (
 intro gL;refine asy fun iC fu=>?_;obtain⟨fo,jc,hA,aQ,Xy⟩:=akp ax om;rw [hA];have lg:=aa hA;clear hA;obtain⟨R,aL,nu,xX,X,aX⟩:=nq3 L.R (aA rest) (aA s.buf);obtain⟨N,eX⟩:∃ N,N=aA _/\w.cell? (ad fo jc)=some (.string N):=⟨_,rfl,Xy 0 _ rfl⟩;obtain⟨nl,jG⟩:=ai ((jQ s.buf).length);obtain⟨uT,Rs⟩:∃ N,N=aA _/\w.cell? (ad fo (jc+1))=some (.string N):=⟨_,rfl,Xy 1 _ rfl⟩;have jD:=asz eX.1;first | (obtain⟨t1,v1⟩:=Ed (N:=N) (l:=[114,101,97,100]) (by (rw [jD];first | decide | exact BV hk dc))) | obtain⟨t1,v1⟩:=ic (N:=N) (l:=[114,101,97,100]) jD
 first | (obtain⟨t2,v2⟩:=Ed (N:=N) (l:=[116,114,121]) (by (rw [jD];first | decide | exact BV hk dc))) | obtain⟨t2,v2⟩:=ic (N:=N) (l:=[116,114,121]) jD
 first | (obtain⟨t3,v3⟩:=Ed (N:=N) (l:=[115,99,97,110]) (by (rw [jD];first | decide | exact BV hk dc))) | obtain⟨t3,v3⟩:=ic (N:=N) (l:=[115,99,97,110]) jD
 first | (obtain⟨t4,v4⟩:=Ed (N:=N) (l:=[116,101,120,116]) (by (rw [jD];first | decide | exact BV hk dc))) | obtain⟨t4,v4⟩:=ic (N:=N) (l:=[116,101,120,116]) jD
 first | (obtain⟨t5,v5⟩:=Ed (N:=N) (l:=[101,110,118]) (by (rw [jD];first | decide | exact BV hk dc))) | obtain⟨t5,v5⟩:=ic (N:=N) (l:=[101,110,118]) jD
 first | (obtain⟨t6,v6⟩:=Ed (N:=N) (l:=[119,114,105,116,101]) (by (rw [jD];first | decide | exact BV hk dc))) | obtain⟨t6,v6⟩:=ic (N:=N) (l:=[119,114,105,116,101]) jD
 first | (obtain⟨t7,E5⟩:=Ed (N:=N) (l:=[110,101,101,100]) (by (rw [jD];first | decide | exact BV hk dc))) | obtain⟨t7,E5⟩:=ic (N:=N) (l:=[110,101,101,100]) jD
 first | (obtain⟨t8,E8⟩:=Ed (N:=N) (l:=[102,97,105,108]) (by (rw [jD];first | decide | exact BV hk dc))) | obtain⟨t8,E8⟩:=ic (N:=N) (l:=[102,97,105,108]) jD
 have dn:=aa (fun af (ae:Bl w af)=>(ae.cell (p:=ad fo jc) aQ).trans eX.2);have aP:=aa (fun af (ae:Bl w af)=>(ae.cell (p:=ad fo (jc+1)) aQ).trans Rs.2);have rV:=aa (fun W (ae:Bl w W)=>show Calls prog 203 #[.string X] W fun e w'=>∃ A c,e = .returned (.slice A nl c)/\Own w' W.heap.size 9 1 A nl c (cB (jQ s.buf))/\Bl W w' from by (rw [aX,jG];exact ad1 W s.buf (by have:=hf.lim.buf;omega) (hf.vL.on ae)));have EX:=aa (fun af (ae:Bl w af)=>show af.cell? (ad R 2)=some (.string X) from by
  clear gL;obtain⟨_,_,_,Bg⟩:=h;rw [aX,aL];exact ((Bg.below ae).cell 2).1);obtain⟨uS,dE,De,di⟩:=hq4 fu aL xX aX;have cZ:=aa eX.1;have uz:=aa jG;have Gi:=aa Rs.1;rw [fG,<- aL,<- xX];clear Xy jD aL xX aX fu eX aQ jG;clear Rs;go_enter func192,ntmps192;go_upto_region 2 with fail
 obtain⟨CS,bA⟩:=asx w R (some ⟨fo,jc,none⟩) n eY nu;obtain⟨dD,iM⟩:=ai (((w.alloc (.cells #[pp R 0] 247)).alloc (.cells #[.slice (some ⟨fo,jc,none⟩) n eY,.string nu] 300)).alloc (.cells #[.string ⟨#[]⟩] 9));rw [<- iM] at CS bA |-;have Lt:=aa CS;have dX:=aa bA;have m0:dD.cell? (ad (w.heap.size+1) 0)=some (.slice (some ⟨fo,jc,none⟩) n eY):=CS.c.cell 0;have m1:=aP.o dD bA;have m2:dD.cell? (ad (w.heap.size+1+1) 0)=some (.string ⟨#[]⟩):=CS.a.cell 0;have m3:dD.frozen? ⟨w.heap.size+1+1,0,none⟩=false:=aQY dD _ 0 _ _ CS.a;have aPj:(2:Int)<=eY:=om;have aep:(1:Int) < n:=om;clear CS bA iM;go_upto_region 4 with fail
 have Pw:=Lt.o.arg uT;have fF:Below w.heap.size w (dD.setCell ⟨w.heap.size+1+1,0,none⟩ (.string uT)):=dX.o.setCell (by show w.heap.size<=w.heap.size+1+1;omega) _;obtain⟨cO,nD⟩:=ai (dD.setCell ⟨w.heap.size+1+1,0,none⟩ (.string uT));rw [<- nD] at Pw fF |-;clear nD m0 m1 m2 m3 Lt dX;have m0:cO.cell? (ad w.heap.size 0)=some (pp R 0):=Pw.r.cell 0;have m1:=EX.o cO fF;have Lt:=aa Pw;have gH:=aa fF;clear Pw fF;go_upto_region 5 with (go_at_call 203; refine (rV.o cO gH.o).mono ?_;rintro e bn ⟨vO,lu,rfl,aG,ae⟩;have kT:=aa (aG.mono gH.o.size);have Lu:=Lt.o.below ae;have cu:=aU gH.o ae;clear aG ae rV)
 have qW:=aa (fun af (ae:Bl bn af)=>Lu.below ae);have dJ:=aa (fun af (ae:Bl bn af)=>aU cu ae);have E9:bn.cell? (ad (w.heap.size+1) 0)=some (.slice (some ⟨fo,jc,none⟩) n eY):=Lu.c.cell 0;have BO:=dn.o bn cu;have wB:bn.cell? (ad w.heap.size 0)=some (pp R 0):=Lu.r.cell 0;have zC:bn.cell? (ad (w.heap.size+1+1) 0)=some (.string uT):=Lu.a.cell 0;have kC:(1:Int)<=eY:=om;clear m0 m1 Lu Lt gH;rename_i Il Lv;revert Il;revert kT cu qW dJ E9 BO wB zC;revert E8 t8;revert E5 t7;revert v6 t6;revert v5 t5;revert v4 t4;revert v3 t3;revert v2 t2;revert v1 t1;revert iC fo jc R nu X N nl uT bn vO lu;exact gL.o)):P:=h (aa k)
theorem aFw [dS]:Ls 1 [OX]:=by intro w L v q s A eY rest J h hf M Y ax AA;refine akq ?_;intro iC fo jc R nu X N nl dn EX uS dE De di cZ uz bn vO lu t1 v1 t2 v2 t3 v3 t4 v4 t5 v5 t6 v6 t7 E5 t8 E8 kT cu qW dJ E9 BO wB zC Il Lv;have I:=aa fun af (ae:Bl w af)=>RO uS.o h ae (Xq af L v q s (h.below ae) 15);rw [fG,<- dE.o] at I;clear h hf M J;go_wp2_with (go_at_call 226; refine jr (I.o bn cu) ?_;intro AB ik);exact Lr
theorem aFx [dS]:Ls 1 [uL]:=by
 intro w L v q s A eY rest M h hf Y AA ax AB;refine akq ?_;intro iC fo jc R nu X N nl dn EX uS dE De di cZ uz bn vO lu t1 v1 t2 v2 t3 v3 t4 v4 t5 v5 t6 v6 t7 E5 t8 E8 kT cu qW dJ E9 BO wB zC Il Lv;obtain⟨Z,I⟩:=ai (aA (rest++[10]));have AP:nu++⟨#[10]⟩=Z:=by rw [De.o,I];exact Y4 rest [10]
 have AQ:¬ (nu.size+1 > 9223372036854775807):=by rw [De.o,iP];omega
 have J:=aa fun af (ae:Bl w af)=>RO uS.o h ae (Xr af L v q s (h.below ae) hf.lim.buf (rest++[10]) (by simp;omega));rw [fG,<- dE.o,<- I] at J;clear h hf Y M I AA;have AU:bn.cell? (ad (w.heap.size+1) 1)=some (.string nu):=(qW.o bn (Below.refl _ _)).c.cell 1;go_wp2_with (go_at_call 221; refine jr (J.o bn cu) ?_;intro AV ik);exact Lr
theorem aFy [dS] (bq:a.length<=1000000):Ls 2 [OU,a]:=by
 intro w L v q s A eY rest AB h hf AP Aa ax AQ;generalize AU:2=n at ax AQ |-;have Ac:1 < n:=om;clear AU;refine U0 ?_;intro iC fo jc lg R nu X N nl uT dn aP EX uS dE De di cZ uz Gi bn vO lu t1 v1 t2 v2 t3 v3 t4 v4 t5 v5 t6 v6 t7 E5 t8 E8 kT cu qW dJ E9 BO wB zC Il Lv;have J:=aa fun af (ae:Bl w af) (u:Value) (hu:wy af R q u .add)=>RO uS.o h ae (akc (v:=v) (h.below ae) (hf.below ae) a bq (u:=u) (th:=.add) (by rw [<- dE.o];exact hu) (.inl rfl));rw [fG,<- dE.o,<- Gi.o] at J;clear h hf AP AB;go_upto_region 8 with fail
 have kR:=aa fun af (aj:Bl bn af)=>And.intro ((qW.o af aj).r.cell 0) ((qW.o af aj).a.cell 0);refine nz nH 6 [some (pp R 0),some (.string uT),some (pp R 0),some (pp R 0),some (.func (.func 221) #[pp R 0] #[]),none] (fun _ v af=>wy af R q v .add) (Bl bn) Bl (Below.refl _ bn).drew (fun j v w1 af ae h=>h.keep (dz.gN ae (aQQ _))) ?_ (jI:=⟨rx,rx,rx,rx,rx,?_,trivial⟩)
 ·intro u af aj AV;have I:wy af R q (u 5) .add:=AV 5 om;have Y:=aa I;have AX:=aa (dJ.o af aj);obtain⟨f9,Ad,Ae,AA⟩:∃ f mU iI,u 5 = .func (.func f) mU iI:=by obtain⟨_,_,_,e,_⟩:=I;exact⟨_,_,_,e⟩
  rw [AA] at Y |-;clear I aj AA;go_wp2_with (go_at_call 219; refine jr (J.o af AX.o _ Y.o) ?_;intro Af ik);exact Lr
 ·intro eQ u af aj aL bz K aR;simp [iX,Region.binds] at bz;refine mg rfl ?_;go_simp;refine (arQ af R q _ .add rfl).mono ?_;rintro e aD ⟨⟨u2,rfl,AZ⟩,ae⟩;exact aR _ _ AZ (aU aj ae) ae
theorem aFz [dS] (bq:a.length<=1000000):Ls 2 [OV,a]:=by intro w L v q s A eY rest J h hf M AP ax Y;generalize AA:2=n at ax Y |-;have AQ:1 < n:=om;clear AA;refine U0 ?_;intro iC fo jc lg R nu X N nl uT dn aP EX uS dE De di cZ uz Gi bn vO lu t1 v1 t2 v2 t3 v3 t4 v4 t5 v5 t6 v6 t7 E5 t8 E8 kT cu qW dJ E9 BO wB zC Il Lv;have I:=aa fun af (ae:Bl w af) (u:Value) (hu:yV af R q u .DV)=>RO uS.o h ae (akc (v:=v) (h.below ae) (hf.below ae) a bq (u:=u) (th:=.DV) (by rw [<- dE.o];exact hu) (.inl rfl));rw [fG,<- dE.o,<- Gi.o] at I;clear h hf M J;have AB:=aa (show yV bn R q (.func (.func 222) #[] #[pp w.heap.size 0]) .DV from ⟨_,rfl,(qW.o bn (Below.refl _ _)).r⟩);go_wp2_with (go_at_call 219; refine jr (I.o bn cu _ AB.o) ?_;intro AU ik);exact Lr
theorem nV.aFA [dS] {L:iV} (h:nV w L v q s A c us) (hc:∀ t∈s.todo,t.BI=true) (hm:eU w prog 9 Ib m 0 ([]:fA Bool)) (bf:L.B<=m) (bJ:m≠L.m) (bz:¬ dS.E m) :
  nV w L v (some m) { s with seen:=[] } A c us/\MapAt w L (some m) { s with seen:=[] }:=by
 have I:MapAt w L (some m) { s with seen:=[] }:=⟨m,[],rfl,bf,bJ,hm,fun p=>by simp [getM]⟩;refine⟨⟨h.run,h.base,h.row,fun i t J=>?_,h.env,h.known,.inr I,⟨h.free.map,fun g e=>by cases e;exact bz,h.free.old⟩⟩,I⟩;obtain⟨u,h1,M⟩:=h.tasks i t J;refine⟨u,h1,?_⟩;have:=hc t (aQK J);cases t with
 | cmd c=>exact M
 | tK p th=>cases this
 | line x y=>cases this
theorem aFB [dS] {b:ak} (bq:a.length<=1000000):Ls 3 [ML,a,b]:=by
 intro w L v q s A eY rest Aa h hf AA Al ax Ac;have J:∀ fo jc,A=some ⟨fo,jc,none⟩->w.cell? (ad fo (jc+2))=some (.string (aA b)):=fun fo jc e=>by
  obtain⟨Am,Ao,hA,_,hc⟩:=akp ax dc;rw [e] at hA;cases hA;exact hc 2 _ rfl
 generalize Ad:3=n at ax Ac |-;have Ap:2 < n:=om;clear Ad;refine U0 ?_;intro iC fo jc lg R nu X N nl uT dn aP EX uS dE De di cZ uz Gi bn vO lu t1 v1 t2 v2 t3 v3 t4 v4 t5 v5 t6 v6 t7 E5 t8 E8 kT cu qW dJ E9 BO wB zC Il Lv;obtain⟨AB,Y⟩:=ai (aA b);have AP:=aa fun af (ae:Bl w af)=>(ae.cell (p:=ad fo (jc+2)) (aQR _ _ (J _ _ lg.o))).trans (J _ _ lg.o);rw [<- Y] at AP;have Ae:=aa (fun af (ae:Bl w af) (m:Nat) (hm:eU af prog 9 Ib m 0 ([]:fA Bool)) (AQ:w.heap.size<=m)=>show Calls prog 223 #[pp R 0,.string uT,.string AB,.map (some m)] af fun e aD=>e = .returned (.tuple #[])/\iC (.returned (.tuple #[])) aD from by
  have bf:=h.size;obtain⟨Aq,Av,us,Bg⟩:=id h;have Az:L.m < w.heap.size:=by obtain⟨_,M,hm,_⟩:=Bg.known;exact hm.lt
  have h1:=(Bg.below ae).aFA AA hm om om (fun e=>by have:=Bg.free.old m e;omega);have I:=hf.below ae;have:=asa af L v (some m) { s with seen:=[] } ⟨_,_,_,h1.1⟩ ⟨I.vL,I.EW,⟨I.lim.buf,I.lim.tasks,I.lim.AY,fun x ah=>(by cases ah),I.lim.asks,I.lim.less⟩,I.todo,by simp,I.base,I.Gf⟩ h1.2 sp a b bq m rfl;rw [fG,<- dE.o,<- Gi.o,<- Y] at this;exact RO uS.o h ae this);have BB:(2:Int) < n:=om;clear h hf J Y AA ax Aa;go_upto_region 12 with fail
 have kR:=aa fun af (aj:Bl bn af)=>And.intro ((qW.o af aj).r.cell 0) (And.intro ((qW.o af aj).a.cell 0) (And.intro ((qW.o af aj).c.cell 0) (AP.o af (dJ.o af aj))));refine nz nH 7 [some (pp R 0),some (.string uT),some (pp (w.heap.size+1) 0),some (.slice (some ⟨fo,jc,none⟩) n eY),some (pp fo (jc+2)),some (.string AB),none] (fun _ v af=>∃ m,v = .map (some m)/\eU af prog 9 Ib m 0 ([]:fA Bool)/\w.heap.size<=m) (Bl bn) Bl (Below.refl _ bn).drew (fun j v w1 af ae h=>by obtain⟨m,Af,AU,Ag⟩:=h;exact⟨m,Af,AU.below ae AU.lt,Ag⟩) ?_ (jI:=⟨rx,rx,rx,rx,rx,rx,?_,trivial⟩)
 ·intro u af aj AV;obtain⟨m,AX,AZ,AQ⟩:∃ m,u 6 = .map (some m)/\eU af prog 9 Ib m 0 ([]:fA Bool)/\w.heap.size<=m:=AV 6 om;rw [AX];have Ah:=aa AZ;have Ak:=aa (dJ.o af aj);clear AZ aj AV AX;go_wp2_with (go_at_call 223; refine jr (Ae.o af Ak.o m Ah.o AQ) ?_;intro aD ik);exact Lr
 ·intro eQ u af aj aL bz K aR;refine mg rfl ?_;go_simp;exact aR _ _ ⟨_,rfl,eU.made af prog 9 Ib,(dJ.o af aj).size⟩ (aj.alloc aj.size _) iD
end
end Go.Proofs.YtjkinjbkknanbaaGreatDoor
