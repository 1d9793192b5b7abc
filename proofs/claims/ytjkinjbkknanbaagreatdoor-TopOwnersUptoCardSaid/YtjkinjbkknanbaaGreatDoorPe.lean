/- Pe -/
import Derived.Test.YtjkinjbkknanbaaGreatDoorPd
set_option maxRecDepth 100000
set_option maxHeartbeats 8000000
set_option linter.unusedSimpArgs false
set_option linter.unusedVariables false
namespace Go.Proofs.YtjkinjbkknanbaaGreatDoor
open Go.Proofs.Tryz
variable {i j base b c k g B aO m R n0:Nat}
variable {us xs V:aRD}
variable {q:Option Nat}
variable {l:List ak}
variable {w w' w1 af W dI W':aRB}
variable {t:TypeId}
variable {x:UInt8}
variable {cs args:Array Value}
variable {bf:Nat × Nat}
variable {A:aRC}
variable {s:aJ}
variable {u:Value}
variable {th:rM}
variable {α:Type}
variable {P:Program}
variable {f:FuncId}
variable {v:Env}
variable {a:ak}
variable {K:Act->World->Prop}
variable {Q:aRE}
variable {N:ByteArray}
section
structure bI where
 begun:Nat->Bool
 got:Nat->Option iN
 dZ:List Nat
 bG:Nat->Bool
 has:ak->Bool
def Bh (w:pV) (σ:bI) (i:Nat):Prop:=σ.bG i=true/\∀ f∈(bE w i).outs,σ.has f.2=true
def arF (w:pV):List Nat->Prop
 | []=>True
 | u :: us=>(∀ x∈us,xM w x u)/\arF w us
structure vZ (w:pV) (dN:aRI) (lX:bI) (U:aRG) (σ:bI):Prop where
 right:∀ i o,σ.got i=some o->o=bE w i/\σ.begun i=true
 under:∀ i,i∈U ↔ σ.begun i=true/\σ.got i=none
 reach:∀ i,σ.begun i=true->yM w dN i
 closed:∀ i,σ.got i≠none->∀ j,yc w i j->σ.begun j=true
 dZ:∀ i∈σ.dZ,σ.begun i=true/\(¬ Bh w lX i\/(bE w i).kind≠1)
 bG:∀ i,σ.bG i=true->(bE w i).kind=1
 F7:∀ i,σ.got i≠none->(bE w i).kind=1->Bh w σ i
 Rs:∀ i,lX.bG i=true->σ.bG i=true
 Z5:∀ x,lX.has x=true->σ.has x=true
 chain:arF w U
variable {w:pV} {dN:aRI} {lX σ:bI} {U:aRG}
theorem Bh.mono {σ':bI} (h:Bh w σ i) (aT:∀ i,σ.bG i=true->σ'.bG i=true) (ek:∀ x,σ.has x=true->σ'.has x=true):Bh w σ' i:=⟨aT _ h.1,fun f hf=>ek _ (h.2 f hf)⟩
theorem vZ.start (ae:∀ i,lX.begun i=false) (av:∀ i,lX.got i=none) (aB:lX.dZ=[]) (aT:∀ i,lX.bG i=true->(bE w i).kind=1):vZ w dN lX [] lX :=
 ⟨fun i o h=>(by rw [av] at h;cases h),fun i=>(by simp [ae]),fun i h=>(by rw [ae] at h;cases h),fun i h=>absurd (av i) h,fun i h=>(by rw [aB] at h;simp at h),aT,fun i h=>absurd (av i) h,fun _ h=>h,fun _ h=>h,trivial⟩
def bI.push (σ:bI) (i:Nat):bI:={ σ with begun:=fun j=>j == i || σ.begun j }
theorem vZ.push (h:vZ w dN lX U σ) (ay:σ.begun i=false) (av:yM w dN i) (hc:∀ x∈U,xM w x i):vZ w dN lX (i :: U) (σ.push i):=by
 have M:σ.got i=none:=by
  cases e:σ.got i with
  | none=>rfl
  | some o=>have:=(h.right i o e).2;rw [ay] at this;cases this
 have hm:∀ j,σ.begun j=true->(σ.push i).begun j=true:=fun j aD=>by simp [bI.push,aD]
 refine⟨fun j o J=>⟨(h.right j o J).1,hm j (h.right j o J).2⟩,fun j=>?_,fun j aD=>?_,fun j aD k hk=>hm k (h.closed j aD k hk),fun j aD=>⟨hm j (h.dZ j aD).1,(h.dZ j aD).2⟩,h.bG,h.F7,h.Rs,h.Z5,hc,h.chain⟩
 ·by_cases I:j=i
  ·subst I;simp [bI.push,M]
  ·have:=h.under j;simp [bI.push,I,this]
 ·by_cases I:j=i
  ·rw [I];exact av
  ·exact h.reach j (by simpa [bI.push,I] using aD)
theorem vZ.ring (h:vZ w dN lX U σ) (hf:H5 w) {us:aRG} (ik:U=i :: us) (hw:yc w i j) (aD:j∈U) {p:ak} (aL:w.kK p=some j):fI w p = .stuck:=by
 have I:xM w j j:=by
  rw [ik] at aD;rcases aQw.1 aD with e | e
  ·subst e;exact .one hw
  ·have:=h.chain;rw [ik] at this;exact (this.1 j e).snoc hw
 rw [aqJ aL,aCC hf I]
theorem vZ.arG (h:vZ w dN lX U σ) {us:aRG} (ik:U=i :: us) (hw:yc w i j):∀ x∈U,xM w x j:=by
 intro x ah;rw [ik] at ah;rcases aQw.1 ah with e | e
 ·subst e;exact .one hw
 ·have:=h.chain;rw [ik] at this;exact (this.1 x e).snoc hw
theorem oU.same {s:(w.act i).S} {rs:List kJ} (h:oU w i s rs):∀ {s':(w.act i).S} {M5:List kJ},oU w i s' M5->rs.length=M5.length->s=s'/\rs=M5:=by
 induction h with
 | start =>
  intro s' M5 I hl;cases I with
  | start=>exact⟨rfl,rfl⟩
  | step h1 J M=>simp at hl
 | @step s rs p k h aL hk Y =>
  intro s' M5 I hl;cases I with
  | start=>simp at hl
  | @step s1 AB AJ AL h1 J M =>
   obtain⟨A7,AA⟩:=Y h1 (by simpa using hl);subst A7 AA;rw [aL] at J;cases J;rw [hk] at M;cases M;exact⟨rfl,rfl⟩
def Us (w:pV) (i:Nat) (s:(w.act i).S):Prop:=∀ p k,(w.act i).asks s=some p->fI w p ≠ .known k
theorem oU.last {s:(w.act i).S} {rs:List kJ} (h:oU w i s rs) (hs:Us w i s) {s':(w.act i).S} {M5:List kJ} (mR:oU w i s' M5):M5.length<=rs.length:=by
 induction mR with
 | start=>simp
 | @step s1 I p k h1 aL hk M =>
  rcases aQD I.length rs.length with Y | A7
  ·simp;omega
  ·obtain⟨J,_⟩:=h.same h1 om;subst J;exact absurd hk (hs p k aL)
def xP (w:pV) (σ:bI) (i q:Nat):Prop:=∀ s rs p j,oU w i s rs->rs.length < q->(w.act i).asks s=some p->w.kK p=some j->σ.begun j=true
theorem xP.zero:xP w σ i 0:=fun _ _ _ _ _ h=>absurd h (aRm _)
theorem xP.mono {σ':bI} {q:Nat} (h:xP w σ i q) (ae:∀ j,σ.begun j=true->σ'.begun j=true):xP w σ' i q:=fun s rs p j h1 I J M=>ae j (h s rs p j h1 I J M)
theorem xP.closed {s:(w.act i).S} {rs:List kJ} (h:xP w σ i (rs.length+1)) (aL:oU w i s rs) (hs:Us w i s):∀ j,yc w i j->σ.begun j=true:=by rintro j ⟨s',I,J,h1,M,Y⟩;have:=aL.last hs h1;exact h s' I J j h1 om M Y
def bI.put (σ:bI) (i:Nat) (o:iN):bI:={ σ with got:=fun j=>if j=i then some o else σ.got j }
theorem vZ.put {us:aRG} (h:vZ w dN lX (i :: us) σ) (aB:i ∉ us) (hc:∀ j,yc w i j->σ.begun j=true) (ax:(bE w i).kind=1->Bh w σ i):vZ w dN lX us (σ.put i (bE w i)):=by
 have ae:=((h.under i).1 sp).1;refine⟨fun j o I=>?_,fun j=>?_,h.reach,fun j aD=>?_,h.dZ,h.bG,fun j aD hk=>?_,h.Rs,h.Z5,h.chain.2⟩
 ·by_cases e:j=i
  ·subst e;simp [bI.put] at I;exact⟨I.symm,ae⟩
  ·exact h.right j o (by simpa [bI.put,e] using I)
 ·by_cases e:j=i
  ·subst e;simp [bI.put,aB]
  ·have:=h.under j;simp [e] at this;simp [bI.put,e,this]
 ·by_cases e:j=i
  ·subst e;exact hc
  ·exact h.closed j (by simpa [bI.put,e] using aD)
 ·by_cases e:j=i
  ·subst e;exact ax hk
  ·exact h.F7 j (by simpa [bI.put,e] using aD) hk
def bI.runs (σ:bI) (i:Nat):bI:={ σ with dZ:=σ.dZ++[i] }
theorem vZ.runs (h:vZ w dN lX U σ) (ay:σ.begun i=true) (ax:¬ Bh w lX i\/(bE w i).kind≠1):vZ w dN lX U (σ.runs i) :=
 ⟨h.right,h.under,h.reach,h.closed,fun j aD=>by
  rcases aQI.1 aD with aD | aD
  ·exact h.dZ j aD
  ·rw [List.mem_singleton.1 aD];exact⟨ay,ax⟩,h.bG,h.F7,h.Rs,h.Z5,h.chain⟩
def bI.keep (σ:bI) (i:Nat) (l:List (ak × ak)):bI:={ σ with bG:=fun j=>j == i || σ.bG j,has:=fun x=>l.any (fun f=>f.2 == x) || σ.has x }
theorem vZ.keep {l:List (ak × ak)} (h:vZ w dN lX U σ) (hk:(bE w i).kind=1):vZ w dN lX U (σ.keep i l):=by
 have I:∀ j,σ.bG j=true->(σ.keep i l).bG j=true:=fun j aD=>by simp [bI.keep,aD]
 have J:∀ x,σ.has x=true->(σ.keep i l).has x=true:=fun x ah=>by simp [bI.keep,ah]
 refine⟨h.right,h.under,h.reach,h.closed,h.dZ,fun j aD=>?_,fun j aD hk=>(h.F7 j aD hk).mono I J,fun j aD=>I j (h.Rs j aD),fun x ah=>J x (h.Z5 x ah),h.chain⟩;by_cases e:j=i
 ·rw [e];exact hk
 ·exact h.bG j (by simpa [bI.keep,e] using aD)
theorem ajo:Bh w (σ.keep i (bE w i).outs) i:=⟨by simp [bI.keep],fun f hf=>by simp only [bI.keep,Bool.or_eq_true,List.any_eq_true];exact .inl ⟨f,hf,by simp⟩⟩
theorem vZ.built (h:vZ w dN lX [] σ) {keep:Prop} (hw:keep->∀ i,dN i->σ.begun i=true):Di w dN keep (Bh w lX) (Bh w σ) σ.got σ.dZ:=by
 have ae:∀ i,σ.begun i=true->σ.got i≠none:=fun i I M=>by
  have:=(h.under i).2 ⟨I,M⟩;simp at this
 refine⟨fun i o J=>(h.right i o J).1,fun i o J=>h.reach i (h.right i o J).2,fun hk i Y=>ae i (Y.least (P:=fun i=>σ.begun i=true) (hw hk) fun i j I aD=>h.closed i (ae i I) j aD),fun i I=>⟨ae i (h.dZ i I).1,(h.dZ i I).2⟩,fun i o J hk=>?_,fun i I=>I.mono h.Rs h.Z5⟩;obtain⟨e,_⟩:=h.right i o J;subst e;exact h.F7 i (by rw [J];simp) hk
end
section
open Go.Lib Go.RowKit Go.Shelf Go.Sort
theorem arH (l:aRH):encStr l = .string (az l):=rfl
theorem Own.ajp {o:Nat} {ys:List (List UInt8)} (h:Own w base t 1 (some ⟨b,o,none⟩) ys.length c (cu ys)):Holds encStr w b o ys.toArray:=by
 intro j aD;rw [List.size_toArray] at aD;obtain⟨hl,J,hm,hc⟩:=h;rcases hc with ⟨e,_⟩ | ⟨b',M,cur,bf,e,ae,ax,hf,hs,ah⟩
 ·cases e
 cases e;have I:=ah j om;rw [Y3 (List.getElem?_eq_getElem aD)] at I;refine⟨?_,hf.cell ax (by have:=(aQZ.1 I).1;exact this)⟩;rw [Y4 ys aD];simp [World.cell?,ax,I]
theorem Own.ajq {o n:Nat} {ys:List (List UInt8)} {zs:List (List UInt8)} {os:Array Obj} (h:Own w base t 1 (some ⟨b,o,none⟩) ys.length c (cu ys)) (hk:k<=zs.length) (dB:zs.length=ys.length) :
  Own (grow (Go.Sort.putRow encStr (Sort.ahead w n) b o zs.toArray) os) base t 1 (some ⟨b,o,none⟩) k c (cu (zs.take k)):=by
 obtain⟨hl,J,hm,hc⟩:=h;rcases hc with ⟨e,_⟩ | ⟨b',M,cur,bf,e,ae,ax,hf,hs,ah⟩
 ·cases e
 cases e;refine⟨by rw [cu,List.length_map,List.length_take];omega,om,hm,.inr ⟨b,o,_,bf,rfl,ae,apC _ ax,by simpa [putCells] using hf,by simpa [putCells] using hs,fun j aD=>?_⟩⟩;rw [Y3 (x:=zs[j]) (by rw [List.getElem?_take_of_lt om,List.getElem?_eq_getElem om])];have I:o+j < cur.size:=om;simp only [putCells,Array.getElem?_mapIdx,Array.getElem?_eq_getElem I,Option.map_some,List.size_toArray];rw [if_pos om,show o+j - o=j by omega,Y4 zs om]
theorem aEa (w:aRB) (base:Nat) (A:aRC) (c:Nat) (ys:List (List UInt8)) (h:Own w base 9 1 A ys.length c (cu ys)) (hl:ys.length<=1000000) :
  CR 36 #[.slice A ys.length c] w (.tuple #[]) fun w'=>Own w' base 9 1 A ys.length c (cu (rG ys))/\w.grownBy w' (bV A):=by
 rcases aQH ys.length with I | I
 ·obtain rfl:ys=[]:=aQC I;refine (AnyM.slices_Sort_string_none Tryz.keySort A c w).mono ?_;rintro e w' ⟨rfl,rfl⟩;refine⟨rfl,by simpa [rG] using h,⟨rfl,rfl,rfl,aQm _,fun _ _ _=>rfl⟩⟩
 ·obtain⟨b,o,cur,bf,rfl,ae,ax,_⟩:=h.at_ (by have:=h.2.1;omega);refine (AnyM.slices_Sort_string Tryz.keySort b o c ys w h.ajp (ic ax) om).mono ?_;rintro e w' ⟨rfl,n,os,rfl⟩;refine⟨rfl,?_,Y5 _⟩;have aL:=h.ajq (n:=n) (os:=os) (zs:=rG ys) (k:=ys.length) (by rw [DU];omega) (DU ys);rw [List.take_of_length_le (by rw [DU];omega)] at aL;exact aL
theorem aEb (w:aRB) (base:Nat) (A:aRC) (c:Nat) (ys:List (List UInt8)) (h:Own w base 9 1 A ys.length c (cu ys)) (hl:ys.length<=1000000) :
  CR 37 #[.slice A ys.length c] w (.slice A (compact ys).length c) fun w'=>Own w' base 9 1 A (compact ys).length c (cu (compact ys))/\w.grownBy w' (bV A):=by
 rcases aQH ys.length with I | I
 ·obtain rfl:ys=[]:=aQC I;refine (AnyG.slices_Compact_string_empty Tryz.keyCompact A c w).mono ?_;rintro e w' ⟨rfl,rfl⟩;refine⟨rfl,h,⟨rfl,rfl,rfl,aQm _,fun _ _ _=>rfl⟩⟩
 ·obtain⟨b,o,cur,bf,rfl,ae,ax,_⟩:=h.at_ (by have:=h.2.1;omega);refine (AnyG.slices_Compact_string Tryz.keyCompact b o c ys w h.ajp om h.2.1).mono ?_;rintro e w' ⟨rfl,n,rfl⟩;refine⟨rfl,?_,?_⟩
  ·have hc:=ahN ys;have aL:=h.ajq (n:=n) (os:=#[]) (zs:=compact ys++List.replicate (ys.length - (compact ys).length) []) (k:=(compact ys).length) sp (by simp;omega);rw [List.take_left,grow_empty] at aL;exact aL
  ·have:=Y5 (w:=w) (b:=b) (o:=o) (n:=n) (os:=#[]) (compact ys++List.replicate (ys.length - (compact ys).length) []).toArray;rw [grow_empty] at this;exact this
abbrev Pn:={ x:ak // x.length<=1000000 }
instance:Inhabited Pn:=⟨⟨[],by simp⟩⟩
def Js (x:Pn):Value:=.string (az x.1)
theorem ajr:∀ l:List ak,(∀ x∈l,x.length<=1000000)->∃ z:List Pn,z.map (·.1)=l
 | [],_=>⟨[],rfl⟩
 | x :: l,h=>by
  obtain⟨z,I⟩:=ajr l fun y hy=>h y (by simp [hy]);exact⟨⟨x,h x sp⟩ :: z,by simp [I]⟩
structure Has (w:aRB) (g:Nat) (arg:ak):Prop where
 cell:w.cell? (ad g 0)=some (.string (az arg))
 wh:qK w
 len:arg.length<=1000000
theorem arI (w:aRB) (g:Nat) (arg:ak) (h:Has w g arg) (x:ak) (ah:x.length<=1000000):Calls prog 254 #[.string (az x),pp g 0] w fun e w'=>e = .returned (.bool (!mJ x arg))/\w'=w:=by have A7:=aq2 w x arg om h.wh;have hc:=h.cell;obtain⟨X,I,Y,J,r,M⟩:=nq3 (az x) (az arg) (mJ x arg);rw [<- I,<- J,<- M] at A7;rw [<- J] at hc;rw [<- I,<- M];clear I J M h;go_enter func254,ntmps254;go_wp2_with (go_at_call 228; refine A7.mono ?_;rintro e af ⟨rfl,rfl⟩);go_ret;exact⟨rfl,rfl⟩
theorem aEc (w:aRB) (g:Nat) (arg:ak) (h:Has w g arg) (x:ak) (ah:x.length<=1000000):Calls prog 227 #[.string (az x),pp g 0] w fun e w'=>e = .returned (.bool (mJ x arg))/\w'=w:=by have A7:=aq2 w x arg om h.wh;have hc:=h.cell;obtain⟨X,I,Y,J,r,M⟩:=nq3 (az x) (az arg) (mJ x arg);rw [<- I,<- J,<- M] at A7;rw [<- J] at hc;rw [<- I,<- M];clear I J M h;go_enter func227,ntmps227;go_wp2_with (go_at_call 228; refine A7.mono ?_;rintro e af ⟨rfl,rfl⟩);go_ret;exact⟨rfl,rfl⟩
theorem Has.keep {arg:ak} (h:Has w g arg) (ae:Bl w w'):Has w' g arg:=⟨(ae.cell (p:=ad g 0) (aQy _ _ h.cell)).trans h.cell,h.wh.on ae,h.len⟩
theorem Has.grown {arg:ak} {r:Option Nat} (h:Has w g arg) (ax:w.grownBy w' r) (h1:some g≠r) (ag:some 0 ≠ r):Has w' g arg:=by have key:∀ k v,w.cell? (ad k 0)=some v->some k≠r->w'.cell? (ad k 0)=some v:=fun k v hc I=>(aRa (ax.block k (aQy _ _ hc) I)).trans hc;obtain⟨m,hm⟩:=h.wh;exact⟨key _ _ h.cell h1,⟨m,key _ _ hm ag⟩,h.len⟩
theorem aEd (w:aRB) (base:Nat) (A:aRC) (c:Nat) (ys:List ak) (h:Own w base 9 1 A ys.length c (cu ys)) (hl:ys.length<=1000000) (lY:∀ y∈ys,y.length<=1000000) (g:Nat) (arg:ak) (ax:Has w g arg) :
  CB 111 #[.slice A ys.length c,.func (.func 227) #[] #[pp g 0]] w (.bool (ys.any (mJ · arg))):=by
 rcases aQH ys.length with I | I
 ·obtain rfl:ys=[]:=aQC I;refine (AnyE.slices_ContainsFunc_empty Tryz.tlHas A c _ w).mono ?_;rintro e w' ⟨rfl,rfl⟩;exact⟨rfl,Below.refl _ _⟩
 ·obtain⟨z,J⟩:=ajr ys lY;have M:z.length=ys.length:=by rw [<- J,List.length_map]
  have hH:=h.rd.2 I;obtain⟨b,o,rfl,hcell⟩:=hH;have aL:PredAt prog 227 #[pp g 0] Js (fun x=>mJ x.1 arg) w:=fun W x ae=>by
   refine (aEc W g arg (ax.keep ae) x.1 x.2).mono ?_;rintro e w' ⟨rfl,rfl⟩;exact⟨rfl,0,rfl⟩
  refine (AnyE.slices_ContainsFunc Tryz.tlHas Js (fun x=>mJ x.1 arg) 227 #[pp g 0] (enters_of func227 kr rfl) b o ys.length c z w aL om om fun j aD=>?_).mono ?_
  ·rw [getElem!_pos z j aD];refine hcell j _ ?_;rw [<- J,cu,List.map_map,List.getElem?_map,List.getElem?_eq_getElem aD];rfl
  ·rintro e w' ⟨rfl,n,rfl⟩;rw [<- M,List.take_length,<- J,List.any_map];exact⟨rfl,below_drewN (Below.refl _ _) n⟩
theorem aEe (w:aRB):(zeroValue 9).run prog w = .ok (Js default) w:=by rw [zeroValue9];rfl
theorem Own.aEf {o:Nat} {z:List Pn} (h:Own w base t 1 (some ⟨b,o,none⟩) z.length c (cu (z.map (·.1)))):Holds Js w b o z.toArray:=by
 have J:=Own.ajp (ys:=z.map (·.1)) (by rw [List.length_map];exact h);intro j aD;have I:j < z.length:=by simpa using aD
 have:=J j (by simpa using I);refine⟨?_,this.2⟩;rw [this.1];simp [getElem!_pos,I,Js,arH]
theorem aEg (w:aRB) (base:Nat) (A:aRC) (c:Nat) (ys:List ak) (h:Own w base 9 1 A ys.length c (cu ys)) (hl:ys.length<=1000000) (lY:∀ y∈ys,y.length<=1000000) (g:Nat) (arg:ak) (ax:Has w g arg) (h1:some g≠bV A) (ag:some 0 ≠ bV A) :
  CR 253 #[.slice A ys.length c,.func (.func 254) #[] #[pp g 0]] w (.slice A (ys.filter (mJ · arg)).length c) fun w'=>Own w' base 9 1 A (ys.filter (mJ · arg)).length c (cu (ys.filter (mJ · arg)))/\w.grownBy w' (bV A):=by
 rcases aQH ys.length with M | M
 ·obtain rfl:ys=[]:=aQC M;have j3:=fun (AJ:Value)=>AnyE.slices_IndexFunc_empty { Tryz.tlDel with } A c AJ w;go_enter func253,ntmps253;go_wp2_with (go_at_call 160; refine (j3 _).mono ?_;rintro e af ⟨rfl,rfl⟩);go_ret;exact⟨rfl,h,⟨rfl,rfl,rfl,aQm _,fun _ _ _=>rfl⟩⟩
 ·obtain⟨z,J⟩:=ajr ys lY;have Y:z.length=ys.length:=by rw [<- J,List.length_map]
  obtain⟨b,o,cur,bf,rfl,ae,Aa,_⟩:=h.at_ (by have:=h.2.1;omega);have aL:PredAt prog 254 #[pp g 0] Js (fun x=>!mJ x.1 arg) w:=fun W x ae=>by
   refine (arI W g arg (ax.keep ae) x.1 x.2).mono ?_;rintro e w' ⟨rfl,rfl⟩;exact⟨rfl,0,rfl⟩
  have A7:∀ (n:Nat) (os:Array Obj) (I:Array Pn),w.grownBy (grow (putRow Js (Sort.ahead w n) b o I) os) (some b):=fun n os I=>by
   refine⟨rfl,rfl,rfl,by simp,fun k hk AL=>?_⟩;rw [heap_grow_old _ _ (by simpa using hk)];have:b≠k:=fun e=>AL (by rw [e]);simp [putRow,mapBlock,Sort.ahead,Array.getElem?_modify,this]
  have AO:PredOver prog 254 #[pp g 0] Js (fun x=>!mJ x.1 arg) b o z.toArray.size w:=fun n os I x _=>by
   refine (arI _ g arg (ax.grown (A7 n os I) h1 ag) x.1 x.2).mono ?_;rintro e w' ⟨rfl,rfl⟩;exact⟨rfl,0,rfl⟩
  have hH:Holds Js w b o z.toArray:=Own.aEf (base:=base) (c:=c) (t:=9) (by rw [J,Y];exact h);have hc:=AnyE.slices_DeleteFunc Tryz.tlDel Js (fun x=>rfl) (fun x=>!mJ x.1 arg) 254 #[pp g 0] (enters_of func254 kr rfl) default aEe b o c z.toArray w aL AO hH (by simp;omega) (by have:=h.2.1;simp;omega);rw [List.size_toArray,Y] at hc;refine hc.mono ?_;have AP:(z.filter fun x=>!!mJ x.1 arg)=z.filter fun x=>mJ x.1 arg:=by congr 1;funext x;rw [Bool.not_not]
  have AA:(z.filter fun x=>mJ x.1 arg).map (·.1)=ys.filter (mJ · arg):=by rw [<- J,List.filter_map];rfl
  have AV:(z.filter fun x=>mJ x.1 arg).length=(ys.filter (mJ · arg)).length:=by rw [<- AA,List.length_map]
  have hle:(ys.filter (mJ · arg)).length<=ys.length:=aQ0 _ _;rintro e w' ⟨rfl,q,rfl⟩;rw [show z.toArray.toList=z from rfl,AP,AV];refine⟨rfl,?_,?_⟩
  ·have AB:=h.ajq (n:=q) (os:=#[]) (zs:=ys.filter (mJ · arg)++List.replicate (ys.length - (ys.filter (mJ · arg)).length) []) (k:=(ys.filter (mJ · arg)).length) sp (by simp;omega);rw [List.take_left,grow_empty] at AB;have he:putRow Js (Sort.ahead w q) b o ((z.filter fun (x:Pn)=>mJ x.1 arg)++List.replicate (ys.length - (ys.filter (mJ · arg)).length) default).toArray=putRow encStr (Sort.ahead w q) b o (ys.filter (mJ · arg)++List.replicate (ys.length - (ys.filter (mJ · arg)).length) []).toArray:=by
    have AZ:((z.filter fun x=>mJ x.1 arg)++List.replicate (ys.length - (ys.filter (mJ · arg)).length) (default:Pn)).map (·.1)=ys.filter (mJ · arg)++List.replicate (ys.length - (ys.filter (mJ · arg)).length) []:=by rw [List.map_append,AA,List.map_replicate];rfl
    rw [<- AZ];generalize ((z.filter fun x=>mJ x.1 arg)++List.replicate (ys.length - (ys.filter (mJ · arg)).length) (default:Pn))=Z;unfold putRow;congr 1;funext cs;unfold putCells;apply Array.ext
    ·simp
    ·intro i h1 ag;simp only [Array.getElem_mapIdx,List.size_toArray,List.length_map];split
     ·rename_i Ab;rw [Y4 _ (by rw [List.length_map];omega)];simp [getElem!_pos,show i - o < Z.length by omega,Js,arH]
     ·rfl
   rw [he];exact AB
  ·have:=A7 q #[] ((z.filter fun (x:Pn)=>mJ x.1 arg)++List.replicate (ys.length - (ys.filter (mJ · arg)).length) default).toArray;rw [grow_empty] at this;exact this
end
section
open Go.Maps Go.RowKit
class dR where
 E:Nat->Prop
structure dw [dR] (B:Nat) (w w':aRB):Prop where
 os:w'.os=w.os
 tape:w'.tape=w.tape
 output:w'.output=w.output
 size:w.heap.size<=w'.heap.size
 low:∀ k,k < B->w'.heap[k]?=w.heap[k]?
 cells:∀ (k:Nat) (cs:Array Value) (t:TypeId) (bf:Nat × Nat),w.heap[k]?=some (.cells cs t bf)->t ≠ 295 -> t ≠ 1 -> w'.heap[k]?=w.heap[k]?
 maps:∀ (k:Nat) (o:Obj),w.heap[k]?=some o->o.isCells=false->dR.E k->w'.heap[k]?=w.heap[k]?
theorem dw.refl [dR] (B:Nat) (w:aRB):dw B w w:=⟨rfl,rfl,rfl,aQm _,fun _ _=>rfl,fun _ _ _ _ _ _ _=>rfl,fun _ _ _ _ _=>rfl⟩
theorem dw.trans [dR] {x y z:aRB} (h:dw B x y) (k:dw B y z):dw B x z :=
 ⟨k.os.trans h.os,k.tape.trans h.tape,k.output.trans h.output,aQn h.size k.size,fun j aD=>(k.low j aD).trans (h.low j aD),fun j cs t bf aD h1 I=>(k.cells j cs t bf ((h.cells j cs t bf aD h1 I).trans aD) h1 I).trans (h.cells j cs t bf aD h1 I),fun j o aD hc he=>(k.maps j o ((h.maps j o aD hc he).trans aD) hc he).trans (h.maps j o aD hc he)⟩
theorem dw.gT [dR] (h:Bl w w') (bg:B<=w.heap.size):dw B w w':=⟨h.os,h.tape,h.output,h.size,fun k hk=>h.block k om,fun k cs t bf hk _ _=>h.block k (ic hk),fun k o hk _ _=>h.block k (ic hk)⟩
theorem dw.below [dR] (h:dw B w w'):Below B w w':=⟨h.os,h.tape,h.output,h.size,h.low⟩
theorem dw.setCell [dR] (h:dw B w w') (ax:w'.heap[g]?=some (.cells cs t bf)) (aA:t = 295 \/ t = 1) (bg:B<=g) (o:Nat) (v:Value):dw B w (w'.setCell ⟨g,o,none⟩ v):=by
 refine h.trans ⟨rfl,rfl,rfl,by rw [World.size_setCell];exact aQm _,fun k hk=>aQE _ _ _ k (by show k≠g;omega),fun k zw J M hk h1 I=>aQE _ _ _ k ?_,fun k Y hk hc _=>aQE _ _ _ k (by show k≠g;rintro rfl;rw [ax] at hk;cases hk;cases hc)⟩;show k≠g;rintro rfl;rw [ax] at hk;injection hk with hk
 injection hk with _ hk
 subst hk;rcases aA with rfl | rfl
 ·exact h1 rfl
 ·exact I rfl
theorem dw.alloc [dR] (h:dw B w w') (bg:B<=w'.heap.size) (o:Obj):dw B w (w'.alloc o):=h.trans (.gT ((Below.refl _ _).alloc (aQm _) o) bg)
theorem dw.drew [dR] (h:dw B w w'):dw B w w'.drew:=⟨h.os,h.tape,h.output,h.size,h.low,h.cells,h.maps⟩
def eO (w:aRB) (g:Nat) (cs:Array Value) (t:TypeId):Prop:=w.heap[g]?=some (.cells cs t (0,0))
theorem eO.keep [dR] (h:eO w g cs t) (ae:dw B w w') (h1:t ≠ 295) (ag:t ≠ 1):eO w' g cs t:=(ae.cells g cs t _ h h1 ag).trans h
theorem eO.lt (h:eO w g cs t):g < w.heap.size:=ic h
theorem Own.uP [dR] {n:Nat} (h:Own w base t aO A n c xs) (ae:dw B w w') (h1:t ≠ 295) (ag:t ≠ 1):Own w' base t aO A n c xs:=h.keep fun b I _ _=>by
 obtain⟨_,_,cur,bf,hc⟩:=h.block b I;exact ae.cells b cur t bf hc h1 ag
def yN (w:aRB) (g R:Nat):Prop:=eO w g #[pp R 0] 247
def KY (w:aRB) (g:Nat) (s:ak):Prop:=eO w g #[.string (az s)] 9
def ES (w:aRB) (g:Nat) (q:Option Nat):Prop:=∃ m,q=some m/\eO w g #[.map (some m)] 147
def fE (g:Nat):Value:=.pointer (some ⟨g,0,none⟩)
def aEk (R:Nat):Value:=.func (.func 221) #[fE R] #[]
inductive Bj | add | scan (w:ak)
def Dj (w:aRB) (R:Nat) (q:Option Nat) (u:Value):Bj->Prop
 | .add=>u=aEk R
 | .scan x=>∃ g1 g2 g3,u = .func (.func 249) #[] #[fE g1,fE g2,fE g3]/\yN w g1 R/\KY w g2 x/\ES w g3 q
def wm (w:aRB) (R:Nat) (q:Option Nat) (u:Value) (d:Bj):Prop:=∃ g1 g2 v,u = .func (.func 248) #[] #[fE g1,fE g2]/\yN w g1 R/\eO w g2 #[v] 138 /\ Dj w R q v d
def yO (w:aRB) (R:Nat) (q:Option Nat) (u:Value):rM->Prop
 | .add=>wm w R q u .add
 | .D5=>∃ g1,u = .func (.func 222) #[] #[fE g1]/\yN w g1 R
 | .scan x=>wm w R q u (.scan x)
def Z7 (w:aRB) (R g:Nat) (c:sD):Prop:=∃ A fe,eO w g #[.slice A c.ws.length fe,.string (az c.rest)] 300 /\ Own w 0 9 1 A c.ws.length fe (cu c.ws)/\∀ b,bV A=some b->b < R
def ET (w:aRB) (R:Nat) (q:Option Nat) (u:Value):iU->Prop
 | .cmd c=>∃ g1 g2,u = .func (.func 191) #[] #[fE g1,fE g2]/\yN w g1 R/\Z7 w R g2 c
 | .sW p th=>∃ g1 g2 g3 v,u = .func (.func 247) #[] #[fE g1,fE g2,fE g3]/\eO w g1 #[v] 322 /\ yO w R q v th/\yN w g2 R/\KY w g3 p
 | .line x y=>∃ g1 g2 g3 g4,u = .func (.func 251) #[] #[fE g1,fE g2,fE g3,fE g4]/\KY w g1 x/\KY w g2 y/\yN w g3 R/\ES w g4 q
section
variable {B:Nat} {w w':aRB} {R:Nat} {q:Option Nat}
theorem yN.keep [dR] (h:yN w g R) (ae:dw B w w'):yN w' g R:=eO.keep h ae dc dc
theorem KY.keep [dR] {s:ak} (h:KY w g s) (ae:dw B w w'):KY w' g s:=eO.keep h ae dc dc
theorem ES.keep [dR] (h:ES w g q) (ae:dw B w w'):ES w' g q:=by obtain⟨m,h1,I⟩:=h;exact⟨m,h1,eO.keep I ae dc dc⟩
theorem Dj.keep [dR] {d:Bj} (h:Dj w R q u d) (ae:dw B w w'):Dj w' R q u d:=by
 cases d with
 | add=>exact h
 | scan x =>
  obtain⟨g1,g2,g3,e,h1,I,J⟩:=h;exact⟨g1,g2,g3,e,h1.keep ae,I.keep ae,J.keep ae⟩
theorem wm.keep [dR] {d:Bj} (h:wm w R q u d) (ae:dw B w w'):wm w' R q u d:=by obtain⟨g1,g2,v,e,h1,I,J⟩:=h;exact⟨g1,g2,v,e,h1.keep ae,eO.keep I ae dc dc,J.keep ae⟩
theorem yO.keep [dR] (h:yO w R q u th) (ae:dw B w w'):yO w' R q u th:=by
 cases th with
 | add=>exact wm.keep h ae
 | D5 =>
  obtain⟨g1,e,h1⟩:=h;exact⟨g1,e,h1.keep ae⟩
 | scan x=>exact wm.keep h ae
theorem Z7.keep [dR] {c:sD} (h:Z7 w R g c) (ae:dw B w w'):Z7 w' R g c:=by obtain⟨A,fe,h1,I,J⟩:=h;exact⟨A,fe,eO.keep h1 ae dc dc,I.uP ae dc dc,J⟩
theorem ET.keep [dR] {t:iU} (h:ET w R q u t) (ae:dw B w w'):ET w' R q u t:=by
 cases t with
 | cmd c =>
  obtain⟨g1,g2,e,h1,I⟩:=h;exact⟨g1,g2,e,h1.keep ae,I.keep ae⟩
 | sW p th =>
  obtain⟨g1,g2,g3,v,e,h1,I,J,M⟩:=h;exact⟨g1,g2,g3,v,e,eO.keep h1 ae dc dc,I.keep ae,J.keep ae,M.keep ae⟩
 | line x y =>
  obtain⟨g1,g2,g3,g4,e,h1,I,J,M⟩:=h;exact⟨g1,g2,g3,g4,e,h1.keep ae,I.keep ae,J.keep ae,M.keep ae⟩
end
def xy (k:dz):Value:=.agg #[.string (az k.path),.bool k.is,.string (az k.data)]
def Ih (b:Bool):Value:=.bool b
def qN (k:dz):dz:=if k.is=true then ⟨[],true,k.data⟩ else Q7
def Cc (l:List (ak × ak)):List Value:=l.flatMap fun p=>[.string (az p.1),.string (az p.2)]
def um (A:aRC) (n c:Nat) (mi:aRC) (Aj mV:Nat) (buf:ak) (m:Nat) (asks:ak) (waits:Bool) (d:pF):Array Value :=
 #[.slice A n c,.slice mi Aj mV,.string (az buf),.map (some m),.string (az asks),.bool waits,.int .i64 d.kind,.string (az d.path),.string (az d.data),.int .i64 d.why]
structure iW where
 B:Nat
 R:Nat
 m:Nat
 mi:Option Addr
 mV:Nat
def rM.Ii:rM->Bool
 | .scan _=>false
 | _=>true
def iU.Ii:iU->Bool
 | .cmd _=>true
 | .sW _ th=>th.Ii
 | .line _ _=>false
structure ad4 [dR] (w:aRB) (m:Nat) (q:Option Nat):Prop where
 map:¬ dR.E m
 seen:∀ g,q=some g->¬ dR.E g
 old:∀ k,dR.E k->k < w.heap.size
theorem ad4.size [dR] (h:ad4 w m q) (hs:w.heap.size<=w'.heap.size):ad4 w' m q:=⟨h.map,h.seen,fun k hk=>aQq (h.old k hk) hs⟩
structure nT [dR] (w:aRB) (L:iW) (v:Env) (q:Option Nat) (s:aJ) (A:aRC) (c:Nat) (us:aRD):Prop where
 run:eO w L.R (um A s.todo.length c L.mi v.env.length L.mV s.buf L.m s.asks s.waits s.over) 295
 base:L.B<=L.R
 row:Own w L.B 1 1 A s.todo.length c us.reverse
 tasks:∀ (i:Nat) (t:iU),s.todo[i]?=some t->∃ u,us[i]?=some u/\ET w L.R q u t
 env:Own w L.B 194 2 L.mi v.env.length L.mV (Cc v.env)
 known:L.B<=L.m/\∃ (M:fu dz),eQ w prog 9 xy L.m s.known.length M/\M.length=s.known.length/\∀ p,(getM M p).map qN=sZ s.known p
 seen:(∀ t∈s.todo,t.Ii=true)\/∃ (g:Nat) (M:fu Bool),q=some g/\L.B<=g/\g≠L.m/\eQ w prog 9 Ih g s.seen.length M/\∀ p,getM M p=if p∈s.seen then some true else none
 free:ad4 w L.m q
def jL [dR] (w:aRB) (L:iW) (v:Env) (q:Option Nat) (s:aJ):Prop:=∃ A c us,nT w L v q s A c us
end
section
open Go.Maps Go.RowKit
theorem eQ.isMap {enc:α->Value} {k:TypeId} {n:Nat} {M:fu α} (h:eQ w P k enc b n M):w.heap[b]?≠some (.cells cs t bf):=by obtain⟨es,clock,ae,_⟩:=h;rw [ae];intro e;cases e
section
variable {w w':aRB} {L:iW} {v:Env} {q:Option Nat} {s:aJ} {A:aRC} {c:Nat} {us:aRD}
theorem nT.count [dR] (h:nT w L v q s A c us):us.length=s.todo.length:=by have:=h.row.1;rw [List.length_reverse] at this;omega
theorem nT.cells [dR] (h:nT w L v q s A c us) {s':aJ} (aK:eO w' L.R (um A s'.todo.length c L.mi v.env.length L.mV s'.buf L.m s'.asks s'.waits s'.over) 295) (hk:∀ k,k≠L.R->w'.heap[k]?=w.heap[k]?) (ae:dw L.B w w')
  (bD:s'.todo=s.todo) (bA:s'.known=s.known) (eU:s'.seen=s.seen):nT w' L v q s' A c us:=by
 refine⟨aK,h.base,?_,?_,h.env.uP ae dc dc,?_,?_,h.free.size ae.size⟩
 ·rw [bD];refine h.row.keep fun b AB _ _=>hk b ?_;rintro rfl;exact h.row.ne h.run dc AB
 ·intro i t AA;rw [bD] at AA;obtain⟨u,h1,J⟩:=h.tasks i t AA;exact⟨u,h1,J.keep ae⟩
 ·obtain⟨h1,M,J,A7,Y⟩:=h.known;refine⟨h1,M,?_,by rw [bA];exact A7,by rw [bA];exact Y⟩;rw [bA];refine J.keep (hk _ fun e=>?_);have I:=h.run;unfold eO at I;rw [<- e] at I;exact J.isMap I
 ·rw [bD];rcases h.seen with h1 | ⟨g,M,h1,J,A7,Y,AJ⟩
  ·exact .inl h1
  ·refine .inr ⟨g,M,h1,J,A7,?_,by rw [eU];exact AJ⟩;rw [eU];refine Y.keep (hk _ fun e=>?_);have I:=h.run;unfold eO at I;rw [<- e] at I;exact Y.isMap I
theorem nT.below [dR] (h:nT w L v q s A c us) (ae:Bl w w'):nT w' L v q s A c us:=by
 have AA:L.B<=w.heap.size:=aQn h.base (aQ3 h.run.lt);have Y:=dw.gT ae AA;refine⟨(ae.block _ h.run.lt).trans h.run,h.base,h.row.below ae (aQm _),fun i t AB=>?_,h.env.uP Y dc dc,?_,?_,h.free.size ae.size⟩
 ·obtain⟨u,h1,I⟩:=h.tasks i t AB;exact⟨u,h1,I.keep Y⟩
 ·obtain⟨h1,M,I,J⟩:=h.known;exact⟨h1,M,I.below ae I.lt,J⟩
 ·rcases h.seen with h1 | ⟨g,M,h1,I,J,A7,AJ⟩
  ·exact .inl h1
  ·exact .inr ⟨g,M,h1,I,J,A7.below ae A7.lt,AJ⟩
theorem jL.below [dR] (h:jL w L v q s) (ae:Bl w w'):jL w' L v q s:=by obtain⟨A,c,us,h⟩:=h;exact⟨A,c,us,h.below ae⟩
theorem nT.size [dR] (h:nT w L v q s A c us):L.B<=w.heap.size:=aQn h.base (aQ3 h.run.lt)
theorem jL.size [dR] (h:jL w L v q s):L.B<=w.heap.size:=by obtain⟨A,c,us,h⟩:=h;exact h.size
end
theorem dw.setRow [dR] (h:dw B w w') (ax:w'.heap[g]?=some (.cells cs t bf)) (aA:t = 295 \/ t = 1) (bg:B<=g) (zw:Array Value):dw B w (w'.setRow g zw):=by
 refine h.trans ⟨rfl,rfl,rfl,by simp [World.setRow],fun k hk=>aQA w' g k zw om,fun k c' J M hk h1 I=>aQA w' g k zw ?_,fun k Y hk hc _=>aQA w' g k zw (by rintro rfl;rw [ax] at hk;cases hk;cases hc)⟩;rintro rfl;rw [ax] at hk;injection hk with hk
 injection hk with _ hk
 subst hk;rcases aA with rfl | rfl
 ·exact h1 rfl
 ·exact I rfl
def jM [dR] (w:aRB) (L:iW) (v:Env) (q:Option Nat) (s:aJ) (e:Ending) (w':aRB):Prop:=e = .returned (.tuple #[])/\jL w' L v q s/\dw L.B w w'
theorem aEl [dR] {L:iW} (h:Calls prog f args w (jM w L v q s)):Calls prog f args w fun e w'=>e = .returned (.tuple #[])/\jM w L v q s (.returned (.tuple #[])) w' :=
 h.mono fun _ _ k=>⟨k.1,rfl,k.2⟩
theorem ad5 {k y:Int} {a b:ByteArray}:∀ v∈[Value.int .i64 k,.string a,.string b,.int .i64 y],v.oneCell'=true:=by simp [Value.oneCell']
theorem ad6 (k y:Int) (a b:ByteArray):(Value.agg #[.int .i64 k,.string a,.string b,.int .i64 y]).cells.toList=[Value.int .i64 k,.string a,.string b,.int .i64 y]:=rfl
theorem ad7 (k y:Int) (a b:ByteArray):(prog.info? 293).map (·.size)=some [Value.int .i64 k,.string a,.string b,.int .i64 y].length:=kr
theorem WS [dR] (w:aRB) (L:iW) (v:Env) (q:Option Nat) (s:aJ) (h:jL w L v q s) (y:Nat):Calls prog 226 #[fE L.R,.int .i64 y] w (jM w L v q (s.fail y)):=by
 obtain⟨A,c,us,h⟩:=h;have I:=h.run;unfold eO at I;have J:∀ w',w'=w.setRow L.R (um A s.todo.length c L.mi v.env.length L.mV s.buf L.m s.asks s.waits ⟨4,[],[],y⟩)->jM w L v q (s.fail y) (.returned (.tuple #[])) w':=by rintro w' rfl;have ae:=dw.setRow (dw.refl L.B w) h.run (.inl rfl) h.base (um A s.todo.length c L.mi v.env.length L.mV s.buf L.m s.asks s.waits ⟨4,[],[],y⟩);exact⟨rfl,⟨A,c,us,h.cells (s':=s.fail y) (aQB w L.R _ _ _ _ h.run) (fun k hk=>aQA w L.R k _ hk) ae rfl rfl rfl⟩,ae⟩
 obtain⟨R,Y⟩:=ai L.R;rw [fE,<- Y];rw [<- Y] at I J;obtain⟨AO,A7⟩:=ai (jM w L v q (s.fail y));rw [<- A7] at J |-;have AA:=aa J;obtain⟨cur,M⟩:=ai (um A s.todo.length c L.mi v.env.length L.mV s.buf L.m s.asks s.waits s.over);have AJ:cur.size=10:=by rw [M];rfl
 have AB:laid cur 6 [.int .i64 4,.string ⟨#[]⟩,.string ⟨#[]⟩,.int .i64 y]=um A s.todo.length c L.mi v.env.length L.mV s.buf L.m s.asks s.waits ⟨4,[],[],y⟩:=by rw [M];rfl
 rw [<- M] at I;rw [<- AB] at AA;clear h Y A7 J M AB;go_enter func226,ntmps226;have AL:6+[Value.int .i64 4,.string ⟨#[]⟩,.string ⟨#[]⟩,.int .i64 y].length<=cur.size:=by rw [AJ];simp
 go_wp2_with ((with_reducible refine yz R 6 (.agg #[.int .i64 4,.string ⟨#[]⟩,.string ⟨#[]⟩,.int .i64 y]) [.int .i64 4,.string ⟨#[]⟩,.string ⟨#[]⟩,.int .i64 y] (ad6 _ _ _ _) cur 295 I (ad7 _ _ _ _) AL ad5 ?_ ?_);exact⟨rfl,rfl⟩);refine qm ?_;exact AA.o _ rfl
theorem nT.one [dR] {L:iW} {s':aJ} (h:nT w L v q s A c us)
  (hc:(um A s.todo.length c L.mi v.env.length L.mV s.buf L.m s.asks s.waits s.over).setIfInBounds i u=um A s'.todo.length c L.mi v.env.length L.mV s'.buf L.m s'.asks s'.waits s'.over)
  (bD:s'.todo=s.todo) (bA:s'.known=s.known) (eU:s'.seen=s.seen):nT (w.setCell ⟨L.R,i,none⟩ u) L v q s' A c us/\dw L.B w (w.setCell ⟨L.R,i,none⟩ u):=by
 have I:=h.run;unfold eO at I;have ae:=dw.setCell (dw.refl L.B w) h.run (.inl rfl) h.base i u;refine⟨h.cells ?_ (fun k hk=>aQE _ _ _ k hk) ae bD bA eU,ae⟩;unfold eO;rw [setCell_eq_setRow w L.R i _ _ _ _ I,setRow_heap w L.R _ _ _ _ I,hc]
theorem nT.cell [dR] {L:iW} (h:nT w L v q s A c us) (i:Nat):w.cell? (ad L.R i)=(um A s.todo.length c L.mi v.env.length L.mV s.buf L.m s.asks s.waits s.over)[i]?/\w.frozen? ⟨L.R,i,none⟩=false :=
 ⟨aQo w L.R i _ _ _ h.run,aQF w L.R i _ _ h.run⟩
theorem WT [dR] (w:aRB) (L:iW) (v:Env) (q:Option Nat) (s:aJ) (h:jL w L v q s) (ae:s.buf.length<=65536) (t:ak) (aA:t.length<=1000000000):Calls prog 221 #[fE L.R,.string (az t)] w (jM w L v q (s.add t)):=by
 have AA:=aEl (WS w L v q s h 6);obtain⟨A,c,us,h⟩:=h;have hc:=(h.cell 2).1;have hf:=(h.cell 2).2;have AB:w.cell? (ad L.R 2)=some (.string (az s.buf)):=hc;have AJ:(az s.buf).size=s.buf.length:=iM _;have AL:(az t).size=t.length:=iM _;have AV:az s.buf++az t=az (s.buf++t):=YH _ _;have I:¬ 65536 < s.buf.length+t.length->jM w L v q (s.add t) (.returned (.tuple #[])) (w.setCell ⟨L.R,2,none⟩ (.string (az s.buf++az t))):=fun Ad=>by
  have Aa:=h.one (s':={ s with buf:=s.buf++t }) (i:=2) (u:=.string (az (s.buf++t))) rfl rfl rfl rfl;rw [AV,aJ.add,if_neg Ad];exact⟨rfl,⟨A,c,us,Aa.1⟩,Aa.2⟩
 have AZ:65536 < s.buf.length+t.length->s.add t=s.fail 6:=fun hy=>by rw [aJ.add,if_pos hy]
 obtain⟨Ae,AO⟩:=ai (jM w L v q (s.add t));rw [<- AO] at I |-;by_cases AP:65536 < s.buf.length+t.length
 ·have Ab:Ae=jM w L v q (s.fail 6):=by rw [AO,AZ AP]
  rw [<- Ab] at AA;obtain⟨R,J⟩:=ai L.R;rw [fE,<- J] at AA |-;rw [<- J] at AB hf;obtain⟨X,M,Y,A7⟩:=nq2 (az s.buf) (az t);rw [<- M] at AB AJ;rw [<- A7] at AL |-;have Af:IntKind.i64.wrap ((X.size:Int)+Y.size)=(X.size:Int)+Y.size:=aQ9 _ (by constructor <;> omega);have Ag:(65536:Int) < (X.size:Int)+Y.size:=om;have Ah:=aa AA;clear AA h hc AV I AZ AO Ab J M A7 AJ AL AP;go_enter func221,ntmps221;go_wp2_with (go_at_call 226; refine jw Ah.o ?_;intro w1 Ai);refine qm ?_;exact Ai.o
 ·have I:=I AP;obtain⟨R,J⟩:=ai L.R;rw [fE,<- J];rw [<- J] at AB hf I;obtain⟨X,M,Y,A7⟩:=nq2 (az s.buf) (az t);rw [<- M] at AB AJ;rw [<- A7] at AL |-;rw [<- M,<- A7] at I;have Af:IntKind.i64.wrap ((X.size:Int)+Y.size)=(X.size:Int)+Y.size:=aQ9 _ (by constructor <;> omega);have Ag:¬ (65536:Int) < (X.size:Int)+Y.size:=om;have Am:¬ (X.size+Y.size > 9223372036854775807):=om;obtain⟨Z,Ak⟩:∃ Z,X++Y=Z:=⟨_,rfl⟩;rw [Ak] at I;have Al:=aa I;clear AA h hc AV I AZ AO J M A7 AJ AL AP;go_enter func221,ntmps221;go_wp2_with fail;refine qm ?_;exact Al.o
end
section
open Go.Maps Go.RowKit
def Po (w:aRB) (u a:Value) (P:aRF):Prop:=∃ (f:Nat) (mM iC:Array Value),u = .func (.func f) mM iC/\Enters prog f/\Calls prog f (mM++#[a]++iC) w P
def aJ.data (s:aJ) (d:Bj) (t:ak):aJ:=match d with
 | .add=>s.add t
 | .scan w=>{ s with todo:=(jP t).map (iU.line · w)++s.todo }
theorem aJ.arL (s:aJ) (th:rM) (k:dz):s.nJ th (qN k)=s.nJ th k:=by
 unfold qN;by_cases hk:k.is=true
 ·rw [if_pos hk];cases th <;> simp [aJ.nJ,hk]
 ·rw [if_neg hk];have:k.is=false:=by simpa using hk
  cases th <;> simp [aJ.nJ,this,Q7]
theorem jM.since [dR] {L:iW} {e:Ending} (h:jM w1 L v q s e af) (ae:Bl w w1) (bg:L.B<=w.heap.size):jM w L v q s e af:=⟨h.1,h.2.1,(dw.gT ae bg).trans h.2.2⟩
theorem jM.plain [dR] {L:iW} (h:jL w L v q s) (ae:Bl w w1):jM w L v q s (.returned (.tuple #[])) w1:=⟨rfl,h.below ae,dw.gT ae h.size⟩
theorem yN.cell (h:yN w g R):w.cell? (ad g 0)=some (pp R 0):=aQo w g 0 _ _ _ h
theorem eO.cell (h:eO w g cs t) (i:Nat):w.cell? (ad g i)=cs[i]?:=aQo w g i _ _ _ h
theorem eO.below (h:eO w g cs t) (ae:Bl w w'):eO w' g cs t:=(ae.block _ h.lt).trans h
theorem aEn [dR] (w:aRB) (L:iW) (v:Env) (q:Option Nat) (s:aJ) (h:jL w L v q s) (g:Nat) (ax:yN w g L.R) (ae:s.buf.length<=65536) (k:dz) (hk:k.is=true->k.data.length<=1000000000):Calls prog 222 #[xy k,fE g] w (jM w L v q (s.nJ .D5 k)):=by
 have hA:=fun (I:k.is=true) (W:aRB) (J:Bl w W)=>WT W L v q s (h.below J) ae k.data (hk I);have AP:=h.size;have hc:=fun W (J:Bl w W)=>yN.cell (eO.below ax J);have Ab:=ax.lt;obtain⟨R,AB⟩:=ai L.R;rw [<- AB] at hA hc;obtain⟨X,A7,Y,AA⟩:=nq2 (az k.data) (az k.path);have Ad:=hc w (Below.refl _ _);rw [fE] at hA;rw [fE];rw [<- A7] at hA;cases I:k.is with
 | true =>
  have hA:=hA I;have he:s.nJ .D5 k=s.add k.data:=by rw [aJ.nJ,if_pos I]
  rw [he,xy,I,<- A7,<- AA];obtain⟨AL,M⟩:=ai (jM w L v q (s.add k.data));have AO:∀ (W:aRB),Bl w W->Calls prog 221 #[pp R 0,.string X] W fun e af=>e = .returned (.tuple #[])/\AL (.returned (.tuple #[])) af:=fun W J=>(hA W J).mono fun e af k=>⟨k.1,by rw [M];have:=k.since J AP;rw [k.1] at this;exact this⟩;rw [<- M];have AV:=aa AO;clear hA AO M A7 AA I he h hk hc AB ae ax;go_enter func222,ntmps222;go_wp2_with (go_at_call 221; refine jw (AV.o _ gK) ?_;intro w1 AZ);refine qm ?_;exact AZ.o
 | false =>
  have he:s.nJ .D5 k=s:=by rw [aJ.nJ,I];rfl
  rw [he,xy,I,<- A7,<- AA];have AJ:=fun W (J:Bl w W)=>jM.plain h J;obtain⟨AL,M⟩:=ai (jM w L v q s);rw [<- M] at AJ |-;have Aa:=aa AJ;clear hA M A7 AA I he h hk hc AB ae ax AJ;go_enter func222,ntmps222;go_wp2_with fail;refine qm ?_;exact Aa.o _ gK
def WU:Bj->rM
 | .add=>.add
 | .scan x=>.scan x
theorem aEo (s:aJ) (d:Bj) (k:dz) (ay:k.is=true):s.nJ (WU d) k=s.data d k.data:=by cases d <;> simp [aJ.nJ,WU,aJ.data,ay]
theorem aEp (s:aJ) (d:Bj) (k:dz) (ay:k.is=false):s.nJ (WU d) k=s.fail 10:=by cases d <;> simp [aJ.nJ,WU,ay]
theorem aEq [dR] (w:aRB) (L:iW) (v:Env) (q:Option Nat) (s:aJ) (h:jL w L v q s) (d:Bj) (g1 g2:Nat) (u:Value) (h1:yN w g1 L.R) (ag:eO w g2 #[u] 138) (k:dz)
  (aT:k.is=true->∀ W,Bl w W->Po W u (.string (az k.data)) (jM W L v q (s.data d k.data))) :
  Calls prog 248 #[xy k,fE g1,fE g2] w (jM w L v q (s.nJ (WU d) k)):=by
 have AO:=h.size;have Ae:=h1.lt;have Af:=ag.lt;have c1:=yN.cell h1;have c2:w.cell? (ad g2 0)=some u:=ag.cell 0;obtain⟨X,A7,Y,AA⟩:=nq2 (az k.data) (az k.path);rw [fE,fE];cases J:k.is with
 | true =>
  rw [aEo s d k J,xy,J,<- A7,<- AA];obtain⟨AB,M⟩:=ai (jM w L v q (s.data d k.data));have I:Bl w (w.alloc (.cells #[.string Y,.bool true,.string X] 80)):=gK;obtain⟨f,mM,iC,rfl,AP,AJ⟩:=aT J _ I;rw [<- A7] at AJ;have Ag:∀ (args:Array Value) (w:aRB),(callFunc f args).run prog w = .ok (.enter f args) w:=AP;have AV:=AJ.mono (R':=fun e af=>e = .returned (.tuple #[])/\AB (.returned (.tuple #[])) af) fun e af k=>⟨k.1,by rw [M];have:=k.since I AO;rw [k.1] at this;exact this⟩;rw [<- M];have Ab:=aa AV;clear AJ AV M A7 AA J h AP aT h1 ag I;go_enter func248,ntmps248;go_wp2_with fail;refine jw Ab.o ?_;intro w1 AL;go_wp2_with fail;refine qm ?_;exact AL.o
 | false =>
  rw [aEp s d k J,xy,J,<- A7,<- AA];have hA:=fun W (I:Bl w W)=>WS W L v q s (h.below I) 10;obtain⟨R,AZ⟩:=ai L.R;rw [<- AZ] at hA c1;rw [fE] at hA;obtain⟨AB,M⟩:=ai (jM w L v q (s.fail 10));have Aa:∀ (W:aRB),Bl w W->Calls prog 226 #[pp R 0,.int .i64 10] W fun e af=>e = .returned (.tuple #[])/\AB (.returned (.tuple #[])) af:=fun W I=>(hA W I).mono fun e af k=>⟨k.1,by rw [M];have:=k.since I AO;rw [k.1] at this;exact this⟩;rw [<- M];have Ad:=aa Aa;clear hA Aa M A7 AA J h AZ aT h1 ag;go_enter func248,ntmps248;go_wp2_with (go_at_call 226; refine jw (Ad.o _ gK) ?_;intro w1 AL);refine qm ?_;exact AL.o
theorem arM [dR] (w:aRB) (R:Nat) (q:Option Nat) (u:Value) (d:Bj) (aT:Dj w R q u d):Calls prog 220 #[fE R,u] w fun e w'=>(∃ u2,e = .returned u2/\wm w' R q u2 d)/\Bl w w':=by
 have hA:Below w.heap.size w ((w.alloc (.cells #[pp R 0] 247)).alloc (.cells #[u] 138)):=(gK).alloc (by rw [World.size_alloc];omega) _;have M:wm ((w.alloc (.cells #[pp R 0] 247)).alloc (.cells #[u] 138)) R q (.func (.func 248) #[] #[pp w.heap.size 0,pp (w.heap.size+1) 0]) d:=by
  refine⟨w.heap.size,w.heap.size+1,u,rfl,?_,?_,?_⟩
  ·exact (aQN _ _ _ (by rw [World.size_alloc];omega)).trans (aQz w _)
  ·have:=aQz (w.alloc (.cells #[pp R 0] 247)) (.cells #[u] 138);rw [World.size_alloc] at this;exact this
  ·exact Dj.keep (B:=0) aT (dw.gT hA (aQu _))
 obtain⟨f,mM,iC,rfl⟩:∃ f mM iC,u = .func f mM iC:=by
  cases d with
  | add=>exact⟨_,_,_,aT⟩
  | scan x =>
   obtain⟨a,b,c,e,_⟩:=aT;exact⟨_,_,_,e⟩
 rw [fE];obtain⟨I,J⟩:∃ I:Value->World->Prop,I=fun u2 w'=>wm w' R q u2 d/\Bl w w':=⟨_,rfl⟩;have Y:y8 (I _ _):=aa (by rw [J];exact⟨M,hA⟩);refine Calls.mono (R:=fun e w'=>∃ u2,e = .returned u2/\I u2 w') ?_ fun e w' k=>by rw [J] at k;obtain⟨u2,A7,AA,AB⟩:=k;exact⟨⟨u2,A7,AA⟩,AB⟩
 clear hA M J aT;go_enter func220,ntmps220;go_wp2_with fail;go_ret;exact⟨_,rfl,Y.o⟩
end
section
open Go
section
variable {P:Program} {Ju n:Nat}
theorem aEr (P:Program) (m:Machine) (l:Nat):m.fenced P (Fence.wide.inRound l):=fenced_wide P m
theorem aEs {R:aRF} (h:Calls P f args w R):CallsIn (Fence.wide.inRound Ju) n P f args w R:=(aQG (n:=n)).2 h
theorem aEt {row:String} {R:Value->World->Prop} (h:Rows P row args w R):RowsIn (Fence.wide.inRound Ju) n P row args w R:=fun c cs _=>by
 obtain⟨v,w',r,s⟩:=h c cs;exact⟨v,w',r,(StepsIn.of_steps s).mono fun m _=>aEr P m Ju⟩
theorem Oper.aEu {o:Oper} {a:Act} (aG:∀ c,o.op ≠ .defer c) (h:o.wp P a w K Q):o.wpIn (Fence.wide.inRound Ju) n P a w K Q:=by
 refine⟨fun _ _=>trivial,?_⟩;rw [Oper.semAt_eq _ _ _ aG];unfold Oper.wp at h;generalize (execOp a.eval o).run P w=r at *;cases r with
 | ok x w' =>
  cases x <;> simp only [Oper.upon,Oper.uponIn] at h |- <;>
   first
    | exact h
    | exact⟨fun e=>(by cases e),aEs h⟩
    | exact⟨fun e=>(by cases e),aEt h⟩
 | halt x w'=>cases x <;> simp only [Oper.upon,Oper.uponIn] at h |- <;> exact h
def Rt (Q:aRE):Exit->Act->World->Prop
 | .outgrown,_,_=>False
 | e,a,w=>Q e a w
theorem Rt.imp:∀ (e:Exit) (a:Act) (w:aRB),Rt Q e a w->Q e a w:=fun e a w h=>by
 cases e <;> first | exact h | exact (h:False).elim
theorem Rt.lets:¬ LetsOut (Rt Q):=by rintro⟨a,w,h⟩;exact h
theorem ad9 {ops:Array Oper} {md:Region.Mode} (aT:∀ (i:Nat) (o:Oper) c,ops[i]?=some o->o.op ≠ .defer c) (hl:¬ LetsOut Q):∀ (fuel:Nat) (listed:Array Bool) (a:Act) (w:aRB),wpAny P md ops Q fuel listed a w->wpAnyIn (Fence.wide.inRound Ju) n P md ops Q fuel listed a w
 | 0,_,_,_,h=>h
 | fuel+1,listed,a,w,h=>by
  refine⟨h.1,fun i M=>?_⟩;have I:=h.2 i M;unfold wpOp at I;unfold wpOpIn;cases J:ops[i]? with
  | none =>
   simp only [J] at I |-;exact ad9 aT hl fuel _ a w I
  | some o =>
   simp only [J] at I |-;by_cases hw:Region.wanted o (yielded ops a.tmps)=true
   ·rw [if_pos hw] at I;rw [if_pos hw];rcases I with I | I
    ·exact Oper.wpIn_mono (fun a w k=>ad9 aT hl fuel _ a w k) (Oper.aEu (aT i o · J) I)
    ·exact absurd I.2 hl
   ·rw [if_neg hw] at I;rw [if_neg hw];exact⟨fun _ _=>trivial,ad9 aT hl fuel _ _ w I⟩
theorem arN {id:Nat} {l:List Oper} {T:Array Value} {D:List Deferred} (h:wpAny prog .any l.toArray (Rt Q) l.toArray.size (Array.replicate l.toArray.size false) ⟨T,D⟩ w.drew) (aEv:(l.all fun o=>match o.op with | .defer _=>false | _=>true)=true:=by kernel_rfl) :
  (Code.region id l.toArray true).wpIn (Fence.wide.inRound Ju) n prog Q ⟨T,D⟩ w:=by
 refine wpIn_mono (Q:=Rt Q) (wpIn_region_any kr (ad9 (fun i o c I hc=>?_) Rt.lets _ _ _ _ h)) Rt.imp;have h1:=aQV.1 aEv o (aQr (by simpa using I));rw [hc] at h1;cases h1
end
end
section
open Go.RowKit
section
variable {P:Program} {w:aRB}
theorem arO (t u ty e:TypeId) (i:TypeInfo) (z:Value) (aO bytes:Nat) (aA:P.underlying t=some (.slice e)) (ay:P.info? e=some i) (dB:i.zero=some z)
  (ag3:i.size=aO) (Oa:i.bytes=bytes) (Kb:z.cells.size=aO)
  {n:Nat} (bU:Own w base e aO A n c xs)
  {x:Value} {news:aRD} (uY:Src P w u aO x m news) (h1:∀ v∈news,v.oneCell'=true)
  (uG:n+m<=maxLen) (Kc:(n+m) * bytes<=140737488355328) (sj:base<=w.heap.size) :
  ∃ A' c' w',(Builtin.append_ #[t,u] ty #[.slice A n c,x]).run P w = .ok (.slice A' (n+m) c') w'/\Own w' base e aO A' (n+m) c' (xs++news)/\w.grownBy w' (bV A) /\
   ((A'=A/\c'=c)\/(bV A'=some w.heap.size/\Bl w w')):=by
 subst ag3;subst Oa;have Al:n+m<=9223372036854775807:=by simp only [maxLen] at uG;omega
 obtain⟨hl,Am,AP,hc⟩:=bU;obtain⟨M,I,hlen,AA⟩:=uY;have J:=hlen 0;have AV:(xs++news).length=(n+m) * i.size:=by rw [List.length_append,hl,M,Nat.add_mul]
 by_cases Y:n+m<=c
 ·
  rcases aQH c with A7 | A7
  ·subst A7;obtain rfl:n=0:=om;obtain rfl:m=0:=om;have AB:xs=[]:=aQC (by simpa using hl);have Ad:news=[]:=aQC (by simpa using M);subst AB Ad;refine⟨A,0,w,?_,⟨by simp,aQm _,AP,hc⟩,⟨rfl,rfl,rfl,aQm _,fun _ _ _=>rfl⟩,.inl ⟨rfl,rfl⟩⟩;have hf:=AA 0;simp only [World.drewN_zero] at hf J;rcases I with ⟨_,I⟩ | I <;> cases A <;> simp [Builtin.append_,run_underlying aA,run_underlying I,sizeOf,typeInfo,ay,J,hf,storeCells]
  ·obtain⟨b,o,cur,bf,rfl,ae,ax,AJ,hs,ah⟩:=hc.resolve_left (fun e=>by omega);have Ao:n * i.size+news.length<=c * i.size:=by rw [M,<- Nat.add_mul];exact aQP _ Y
   have AZ:=Yv P b (o+n * i.size) e bf news 0 cur w AJ ax om h1;simp only [Nat.add_zero] at AZ;have hf:=AA 0;simp only [World.drewN_zero] at hf J;refine⟨some ⟨b,o,none⟩,c,w.setRow b (cur.toList.take (o+n * i.size)++news++cur.toList.drop (o+n * i.size+news.length)).toArray,?_,?_,?_,.inl ⟨rfl,rfl⟩⟩
   ·rcases I with ⟨_,I⟩ | I <;> simp [Builtin.append_,run_underlying aA,run_underlying I,sizeOf,typeInfo,ay,J,hf,Y,DI,AZ]
   ·refine⟨AV,Y,AP,.inr ⟨b,o,_,bf,rfl,ae,aQB w b cur _ e _ ax,?_,?_,fun j aD=>?_⟩⟩
    ·simp only [List.size_toArray,List.length_append,List.length_take,List.length_drop,Array.length_toList];rw [show min (o+n * i.size) cur.size+news.length+(cur.size - (o+n * i.size+news.length))=cur.size by omega];exact AJ
    ·simp only [List.size_toArray,List.length_append,List.length_take,List.length_drop,Array.length_toList];omega
    ·have Aa:(cur.toList.take (o+n * i.size)).length=o+n * i.size:=by rw [List.length_take,Array.length_toList];omega
     simp only [List.getElem?_toArray];rw [List.append_assoc];by_cases Ae:j < n * i.size
     ·rw [List.getElem?_append_left om,List.getElem?_append_left om,List.getElem?_take,if_pos om,<- ah j Ae];simp
     ·rw [Nat.add_mul] at aD;rw [List.getElem?_append_right om,List.getElem?_append_left om,List.getElem?_append_right (l₁:=xs) om];congr 1;omega
   ·exact⟨rfl,rfl,rfl,by simp,fun k _ hk=>aQA w b k _ (fun e=>hk (by simp [bV,e]))⟩
 ·
  have AL:=grownCap_ge w (n+m) c e;have Af:grownCap w (n+m) c e<=maxLen:=grownCap_le_maxLen w (n+m) c e uG;have Ag:¬ (9223372036854775807 < ((n:Int)+(m:Int))):=om;have Ah:¬ (281474976710656 < Builtin.nextslicecap (n+m) c * i.bytes):=by have:=growslice_fits (need:=n+m) (old:=c) om Kc;omega
  have hf:=AA 1;have Ab:(Builtin.firstCells i.size n (.slice A n c)).run P (w.drewN 1) = .ok xs.toArray (w.drewN 1):=by
   rcases aQH c with A7 | A7
   ·obtain rfl:n=0:=om;have AB:xs=[]:=aQC (by simpa using hl);subst AB;cases A <;> simp [Builtin.firstCells,loadCells,loadCellsFrom]
   ·obtain⟨b,o,cur,bf,rfl,ae,ax,AJ,hs,ah⟩:=hc.resolve_left (fun e=>by omega);refine run_firstCells_some (P:=P) (w.drewN 1) i.size n ⟨b,o,none⟩ n c xs hl (fun j v AO=>?_);have aD:j < xs.length:=by
     rcases aQD j xs.length with Aa | AL
     ·exact Aa
     ·rw [List.getElem?_eq_none AL] at AO;cases AO
    rw [DI];show w.cell? _=_;rw [cell_of_row w b _ cur e _ ax,ah j om,AO]
  have Ai:w.drewN 1=w.drew:=rfl;rw [Ai] at hf Ab;simp only [World.drewN_zero] at J;refine⟨some ⟨w.heap.size,0,none⟩,grownCap w (n+m) c e,w.drew.alloc (.cells (xs.toArray++news.toArray++Builtin.zeroCells z.cells (grownCap w (n+m) c e - (n+m))) e),?_,?_,?_,.inr ⟨rfl,(Below.refl _ w).drew.alloc (aQm _) _⟩⟩
  ·rcases I with ⟨_,I⟩ | I <;> simp [Builtin.append_,run_underlying aA,run_underlying I,sizeOf,typeInfo,zeroValue,ay,dB,J,Y,Ag,Ah,Question.forced,hf,Ab,newRow,grownCap,-List.append_toArray]
  ·have Ak:(xs.toArray++news.toArray++Builtin.zeroCells z.cells (grownCap w (n+m) c e - (n+m))).size=grownCap w (n+m) c e * i.size:=by simp only [Array.size_append,List.size_toArray,size_zeroCells,Kb,hl,M,<- Nat.add_mul];congr 1;omega
   have h:=Own.made w.drew (xs.toArray++news.toArray++Builtin.zeroCells z.cells (grownCap w (n+m) c e - (n+m))) e i.size (n+m) _ base sj AL Af Ak;have aA:(xs.toArray++news.toArray++Builtin.zeroCells z.cells (grownCap w (n+m) c e - (n+m))).toList.take ((n+m) * i.size)=xs++news:=by simp only [Array.toList_append];rw [<- AV];exact List.take_left
   rw [aA] at h;exact h
  ·exact⟨rfl,rfl,rfl,by simp,fun k hk _=>aQN w.drew _ k hk⟩
def Ru (base:Nat) (t:TypeId) (aO:Nat) (A:aRC) (c:Nat) (n:Nat) (xs:aRD) (A':aRC) (c':Nat) (w:aRB):Prop :=
 Own w base t aO A' n c' xs/\((A'=A/\c'=c)\/bV A'≠bV A)
def oN (base:Nat) (t:TypeId) (aO:Nat) (A:aRC) (c:Nat) (n:Nat) (xs:aRD) (w w':aRB):Prop :=
 w.grownBy w' (bV A)/\∀ A' c',Ru base t aO A c n xs A' c' w->Ru base t aO A c n xs A' c' w'
theorem oN.refl {n:Nat} (w:aRB):oN base t aO A c n xs w w:=⟨⟨rfl,rfl,rfl,aQm _,fun _ _ _=>rfl⟩,fun _ _ h=>h⟩
theorem oN.alloc {n:Nat} (w:aRB) (o:Obj):oN base t aO A c n xs w (w.alloc o):=⟨World.grownBy_alloc w o _,fun _ _ h=>⟨h.1.alloc o,h.2⟩⟩
theorem arP {o:Oper} {a:Act} (s x:Operand) (t u:TypeId)
  (aG:o.op = .call { callee:=.builtin .append,args:=#[s,x],argTypes:=#[t,u] })
  (e:TypeId) (z:Value) (aO bytes:Nat) (aA:P.underlying t=some (.slice e)) (ay:(P.info? e).map (fun i=>(i.zero,i.size,i.bytes))=some (some z,aO,bytes)) (Kb:z.cells.size=aO)
  (base:Nat) (A:aRC) (n c:Nat) (xs:aRD) (bU:Own w base e aO A n c xs)
  (m:Nat) (news:aRD) (v:Value) (uY:Src P w u aO v m news) (h1:∀ v∈news,v.oneCell'=true)
  (uG:n+m<=maxLen) (Kc:(n+m) * bytes<=140737488355328) (sj:base<=w.heap.size) (zQ:a.eval s = .slice A n c/\a.eval x=v)
  (h:∀ A' c' w',Ru base e aO A c (n+m) (xs++news) A' c' w'->oN base e aO A c (n+m) (xs++news) w w'->Own w' base e aO A n c xs->K (a.put o.dst (.slice A' (n+m) c')) w'):o.wp P a w K Q:=by
 obtain⟨i,AA,AB,AJ,AL⟩:=info_parts ay;obtain⟨A',c',w',AO,I,M,AP⟩:=arO (P:=P) t u o.type e i z aO bytes aA AA AB AJ AL Kb bU uY h1 uG Kc sj;unfold Oper.wp execOp;simp only [aG,resolve,invoke,builtin,Sem.run_bind,Sem.run_pure,Result.andThen_ok,List.map_toArray,List.map_cons,List.map_nil,zQ.1,zQ.2,AO];have hl:=bU.1;rcases AP with ⟨rfl,rfl⟩ | ⟨AV,Y⟩
 ·refine h A' c' w' ⟨I,.inl ⟨rfl,rfl⟩⟩ ⟨M,fun B AZ J=>?_⟩ ?_
  ·rcases J with ⟨Aa,⟨rfl,rfl⟩ | A7⟩
   ·exact⟨I,.inl ⟨rfl,rfl⟩⟩
   ·exact⟨Aa.grown M fun b ae e=>A7 (by rw [ae,e]),.inr A7⟩
  ·have:=I.take (k:=n) om;rwa [List.take_append_of_le_length om,List.take_of_length_le om] at this
 ·have Ab:bV A'≠bV A:=fun e=>by
   rw [AV] at e;have:=(bU.block _ e.symm).2.1;omega
  refine h A' c' w' ⟨I,.inr Ab⟩ ⟨M,fun B AZ J=>⟨J.1.below Y (aQm _),J.2⟩⟩ (bU.below Y (aQm _))
end
end
section
open Go.Maps Go.RowKit
theorem aEw:(prog.info? 1).map (fun i=>(i.zero,i.size,i.bytes))=some (some .nilFunc,1,8):=kr
theorem F8 {a b c:aRB} {r:Option Nat} (h:a.grownBy b r) (k:b.grownBy c r):a.grownBy c r :=
 ⟨k.os.trans h.os,k.tape.trans h.tape,k.output.trans h.output,aQn h.size k.size,fun i I J=>(k.block i (aQq I h.size) J).trans (h.block i I J)⟩
def tF (W:aRB) (B:Nat) (A:aRC) (n c:Nat) (V:aRD) (af:aRB):Prop:=W.grownBy af (bV A)/\Own af B 1 1 A n c V
def F9 (B:Nat) (A:aRC) (n c:Nat) (V:aRD) (u:Value) (j:Nat) (v:Value) (w:aRB):Prop :=
 (j=6->∃ g,v = .slice (some ⟨g,0,none⟩) 1 1/\w.heap[g]?=some (.cells #[u] 1 (0,0))/\some g≠bV A) /\
 (j=7->∃ A' c',v = .slice A' (n+1) c'/\Ru B 1 1 A c (n+1) (V++[u]) A' c' w)
theorem F9.keep {n:Nat} {v:Value} (hk:oN B 1 1 A c (n+1) (V++[u]) w w') (h:F9 B A n c V u j v w):F9 B A n c V u j v w' :=
 ⟨fun e=>by
  obtain⟨g,J,I,M⟩:=h.1 e;exact⟨g,J,(hk.1.block g (ic I) M).trans I,M⟩,fun e=>by
  obtain⟨A',c',J,I⟩:=h.2 e;exact⟨A',c',J,hk.2 _ _ I⟩⟩
theorem tF.uP [dR] {n:Nat} (h:tF W B A n c V af) (aG:Own W B 1 1 A n c V) (bg:B<=W.heap.size):dw B W af:=by
 refine⟨h.1.os,h.1.tape,h.1.output,h.1.size,fun k hk=>h.1.block k om fun e=>?_,fun k cs t bf hk _ I=>h.1.block k (ic hk) fun e=>?_,fun k o hk hc _=>h.1.block k (ic hk) fun e=>by
  obtain⟨_,_,cur,bf,ae⟩:=aG.block k e.symm;rw [hk] at ae;cases ae;cases hc⟩
 ·have:=(aG.block k e.symm).1;omega
 ·exact aG.ne hk (aQJ I) e.symm
theorem tF.start {n:Nat} (aG:Own W B 1 1 A n c V):tF W B A n c V W.drew:=⟨⟨rfl,rfl,rfl,aQm _,fun _ _ _=>rfl⟩,aG⟩
theorem tF.Jv {n:Nat} (h:tF W B A n c V af):some af.heap.size≠bV A:=fun e=>by
 have:=(h.2.block _ e.symm).2.1;omega
theorem tF.alloc {n:Nat} (h:tF W B A n c V af) (o:Obj):tF W B A n c V (af.alloc o):=⟨F8 h.1 (World.grownBy_alloc af o _),h.2.alloc o⟩
theorem aju {n:Nat} {arQ:Value} {o:Oper} {a:Act} {s x:Operand} (aj:tF W B A n c V af) (ah:F9 B A n c V u 6 arQ af) (hu:u.oneCell'=true) (aB:n<=1000000000000) (bg:B<=W.heap.size)
  (aG:o.op = .call { callee:=.builtin .append,args:=#[s,x],argTypes:=#[291,291] }) (he:a.eval s = .slice A n c/\a.eval x=arQ)
  (aS:∀ v w',F9 B A n c V u 7 v w'->tF W B A n c V w'->oN B 1 1 A c (n+1) (V++[u]) af w'->K (a.put o.dst v) w'):o.wp prog a af K Q:=by
 obtain⟨g9,rfl,I,Y⟩:=ah.1 rfl;have J:Rd af 1 (some ⟨g9,0,none⟩) 1 [u]:=⟨rfl,fun _=>⟨g9,0,rfl,fun j u hu=>by rw [cell_of_row af g9 _ _ _ _ I,Nat.zero_add];simpa using hu⟩⟩;exact arP s x _ _ aG 1 .nilFunc 1 8 underlying291 aEw rfl B A n c V aj.2 1 [u] (.slice (some ⟨g9,0,none⟩) 1 1) (Src.slice underlying291 J) (fun v M=>by rw [List.mem_singleton.1 M];exact hu) mO om (aQn bg aj.1.size) he fun iD c2 aC hc hk aG=>aS _ _ ⟨fT,fun _=>⟨iD,c2,rfl,hc⟩⟩ ⟨F8 aj.1 hk.1,aG⟩ hk
def MapAt (w:aRB) (L:iW) (q:Option Nat) (s:aJ):Prop:=∃ (g:Nat) (M:fu Bool),q=some g/\L.B<=g/\g≠L.m/\eQ w prog 9 Ih g s.seen.length M/\∀ p,getM M p=if p∈s.seen then some true else none
theorem aea {enc:α->Value} {k:TypeId} {n:Nat} {M:fu α} (h:eQ w P k enc b n M) (ax:w.heap[g]?=some (.cells cs t bf)):b≠g:=by rintro rfl;exact h.isMap ax
theorem ajv {enc:α->Value} {n:Nat} (h:tF W B A n c V af) (aG:Own W B 1 1 A n c V) {k:TypeId} {M:fu α} (hm:eQ W P k enc b m M):eQ af P k enc b m M:=by refine hm.keep (h.1.block b hm.lt fun e=>?_);obtain⟨_,_,cur,bf,hc⟩:=aG.block b e.symm;exact hm.isMap hc
theorem MapAt.below {L:iW} (h:MapAt w L q s) (ae:Below w.heap.size w w'):MapAt w' L q s:=by obtain⟨g,M,h1,J,Y,I,A7⟩:=h;exact⟨g,M,h1,J,Y,I.below ae I.lt,A7⟩
theorem MapAt.setCell {L:iW} (h:MapAt w L q s) (ax:w.heap[g]?=some (.cells cs t bf)) (o:Nat) (u:Value):MapAt (w.setCell ⟨g,o,none⟩ u) L q s:=by obtain⟨b,M,h1,J,Y,I,A7⟩:=h;exact⟨b,M,h1,J,Y,I.keep (aQE _ _ _ _ (aea I ax)),A7⟩
theorem nT.push [dR] {L:iW} {A':aRC} {c':Nat} {t:iU} (h:nT W L v q s A c us)
  (hm:tF W L.B A s.todo.length c us.reverse af) (hc:Ru L.B 1 1 A c (s.todo.length+1) (us.reverse++[u]) A' c' af) (aA:ET af L.R q u t) (hs:t.Ii=true\/MapAt W L q s) :
  nT (af.setCell ⟨L.R,0,none⟩ (.slice A' (s.todo.length+1) c')) L v q { s with todo:=t :: s.todo } A' c' (u :: us)/\dw L.B W (af.setCell ⟨L.R,0,none⟩ (.slice A' (s.todo.length+1) c')):=by
 have AO:=h.size;have ae:=hm.uP h.row AO;have I:af.heap[L.R]?=some (.cells (um A s.todo.length c L.mi v.env.length L.mV s.buf L.m s.asks s.waits s.over) 295 (0,0)) :=
  (hm.1.block L.R h.run.lt fun e=>h.row.ne h.run dc e.symm).trans h.run
 have AB:dw L.B af (af.setCell ⟨L.R,0,none⟩ (.slice A' (s.todo.length+1) c')):=dw.setCell (dw.refl _ _) I (.inl rfl) h.base _ _;have Y:=ae.trans AB;have AJ:∀ {α:Type} {enc:α->Value} {b m:Nat} {M:fu α},eQ W prog 9 enc b m M->eQ (af.setCell ⟨L.R,0,none⟩ (.slice A' (s.todo.length+1) c')) prog 9 enc b m M:=fun AL =>
  (ajv hm h.row AL).keep (aQE _ _ _ _ (aea (ajv hm h.row AL) I))
 refine⟨⟨?_,h.base,?_,?_,h.env.uP Y dc dc,?_,?_,h.free.size Y.size⟩,Y⟩
 ·unfold eO;rw [setCell_eq_setRow af L.R 0 _ _ _ _ I,setRow_heap af L.R _ _ _ _ I];rfl
 ·rw [List.reverse_cons];exact hc.1.setOther (p:=ad L.R 0) (hc.1.ne I dc) _
 ·intro i AP A7;cases i with
  | zero =>
   rw [List.getElem?_cons_zero] at A7;cases A7;exact⟨u,rfl,aA.keep AB⟩
  | succ i =>
   rw [List.getElem?_cons_succ] at A7;obtain⟨x,h1,J⟩:=h.tasks i AP A7;exact⟨x,by rw [List.getElem?_cons_succ];exact h1,J.keep Y⟩
 ·obtain⟨h1,M,J,AA⟩:=h.known;exact⟨h1,M,AJ J,AA⟩
 ·have fC:MapAt W L q s->(∃ (g:Nat) (M:fu Bool),q=some g/\L.B<=g/\g≠L.m/\eQ (af.setCell ⟨L.R,0,none⟩ (.slice A' (s.todo.length+1) c')) prog 9 Ih g s.seen.length M/\∀ p,getM M p=if p∈s.seen then some true else none):=fun ah=>by
   obtain⟨g,M,h1,J,AA,AV,AZ⟩:=ah;exact⟨g,M,h1,J,AA,AJ AV,AZ⟩
  rcases h.seen with h1 | h1
  ·rcases hs with hs | hs
   ·left;intro x ah;rcases aQw.1 ah with rfl | ah
    ·exact hs
    ·exact h1 x ah
   ·exact .inr (fC hs)
  ·exact .inr (fC h1)
end
section
open Go.RowKit Go.Shelf
attribute [local go_sem] Oper.semAt_some
theorem dw.put [dR] (W:aRB) (l:Nat) (o uF:Obj) (hl:B<=l) (h:W.heap[l]?=some o) (h1:o.isCells=false) (bz:¬ dR.E l):dw B W (W.putObj l uF):=by have ax:=aQR W l uF;refine⟨ax.os,ax.tape,ax.output,ax.size,fun k hk=>ax.block k (by have:=ic h;omega) (fun e=>by cases e;omega),fun k cs t bf hk _ _=>ax.block k (ic hk) fun e=>?_,fun k I hk _ he=>ax.block k (ic hk) fun e=>by cases e;exact bz he⟩;cases e;rw [h] at hk;cases hk;cases h1
theorem ajw {x:ak} (h:l[k]?=some x):(cu l)[k]?=some (.string (az x)):=by rw [cu,List.getElem?_map,h];rfl
abbrev M6:={ x:Int × ak // x.2.length<=1000000000 }
def aaa (x:M6):Array Value:=#[.int .i64 x.1.1,.string (az x.1.2)]
theorem aEy [dR] (n:Nat) (aB:1<=n) (l ji B:Nat) (A:aRC) (cap:Nat) (zs:List ak) (EI:zs.length<=1000000000) (lY:∀ p∈zs,p.length<=1000000000) (bu vS:List M6->World->Prop)
  (fM:∀ pre x W,bu pre W->pre.length < zs.length->YieldAt Fence.wide (n - 1) prog l (aaa x) W fun e W'=>(e = .returned (.bool true)/\bu (pre++[x]) W'/\dw B W W')\/(e = .returned (.bool false)/\vS (pre++[x]) W'))
  (W:aRB) (vT:W.cell? (ad ji 0)=some (.slice A zs.length cap)) (hc:∀ W',dw B W W'->W'.cell? (ad ji 0)=some (.slice A zs.length cap)) (av:∀ W',dw B W W'->Rd W' 1 A zs.length (cu zs)) (aX:bu [] W) :
  CallsIn Fence.wide n prog 267 #[.func (.yield l) #[] #[],pp ji 0] W fun e W'=>(∃ v,e = .returned v)/\((∃ ys,ys.map (·.1.2)=zs.reverse/\bu ys W')\/(∃ pre,True/\vS pre W')):=by
 have AP:=Mx 267;obtain⟨len,hlen⟩:=ai zs.length;rw [<- hlen] at EI fM vT hc av;refine aQ1 func267 rfl AP ?_ rfl;simp only [ntmps267,List.size_toArray,List.length_cons,List.length_nil,Nat.reduceAdd,Nat.reduceSub,Array.replicate_succ,Array.replicate_zero,List.push_toArray,List.append_toArray,List.nil_append,List.cons_append]
 gi_wp2
 gi_loopw [3] (fun i wr=>∃ (q:Nat) (ys:List M6) (M:Int),i = .int .i64 M/\M=(q:Int) - 1/\q<=len/\ys.map (·.1.2)=(zs.drop q).reverse/\bu ys wr/\dw B W wr) (fun i _=>(intOf i+1).toNat)
 case atStart=>exact⟨len,[],_,rfl,om,aQm _,by rw [hlen,List.drop_length];rfl,aX,dw.refl _ _⟩
 case round =>
  obtain⟨q,ys,M,rfl,A7,Ag,I,AA,AB⟩:=hrel;by_cases Ah:0 < q
  ·obtain⟨p,rfl⟩:∃ p,q=p+1:=⟨q - 1,om⟩;obtain rfl:M=(p:Int):=om;clear A7;obtain⟨x,ah⟩:∃ x,zs[p]?=some x:=⟨_,aQp om⟩;have AJ:(zs.drop p).reverse=(zs.drop (p+1)).reverse++[x]:=by obtain⟨aL,rfl⟩:=aQs.1 ah;rw [List.drop_eq_getElem_cons aL,List.reverse_cons]
   obtain⟨b',o,rfl,hcell⟩:=(av wr AB).2 om;have Ai:wr.cell? (ad b' (o+p))=some (.string (az x)):=hcell p _ (ajw ah);have AL:=lY x (aQr ah);have AV:ys.length < len:=by have:=congrArg List.length I;rw [List.length_map,List.length_reverse,List.length_drop] at this;omega
   have Y:=fM ys ⟨((p:Int),x),AL⟩ wr AA AV;have AO:(ys++[(⟨((p:Int),x),AL⟩:M6)]).map (·.1.2)=(zs.drop p).reverse:=by rw [List.map_append,I,AJ];rfl
   unfold aaa at Y;simp only at Y;obtain⟨fn,tmps,assign,body,hy,AZ⟩:=Y;have Ak:(0:Int)<=p:=om;have Aa:=aa AO;clear ah AJ hcell I AO
   gi_wp2
   refine AZ.mono ?_;rintro e Al (⟨rfl,Ab,Ad⟩ | ⟨rfl,Ae⟩)
   ·gi_wp2
    go_roundw;case rel=>exact⟨p,_,_,rfl,om,om,Aa.o,Ab,AB.trans Ad⟩
    case measure=>simp [intOf]
   ·gi_wp2
    refine qm ?_;exact⟨⟨_,rfl⟩,.inr ⟨_,trivial,Ae⟩⟩
  ·obtain rfl:q=0:=om;obtain rfl:M = -1:=om;clear A7;rw [List.drop_zero] at I;have Af:=aa I;clear I
   gi_wp2
   go_end0;exact⟨⟨_,rfl⟩,.inl ⟨_,Af.o,AA⟩⟩
theorem aEz (w:aRB) (a:aRC) (len cap:Nat) :
  Calls prog 250 #[.slice a len cap] w fun e w'=>e = .returned (.func (.func 267) #[] #[pp w.heap.size 0])/\w'=w.alloc (.cells #[.slice a len cap] 24):=by
 go_enter func250,ntmps250;go_wp2;go_ret;exact⟨rfl,rfl⟩
theorem aEA [dR] (n:Nat) (aB:1<=n) (ji B:Nat) (A:aRC) (cap:Nat) (zs:List ak) (EI:zs.length<=1000000000) (lY:∀ p∈zs,p.length<=1000000000) (w:aRB) (bg:B<=w.heap.size)
  (hc:eO w ji #[.slice A zs.length cap] 24) (av:∀ W',dw B w W'->Rd W' 1 A zs.length (cu zs)) :
  SeqStopsK Fence.wide n prog 267 #[pp ji 0] aaa (dw B) (fun ys=>ys.map (·.1.2)=zs.reverse) (fun _=>True) zs.length w:=fun l bu Y W A7 _ _ AA AB=>by
 have I:∀ W',dw B W W'->dw B w W':=fun W' h=>(dw.gT A7 bg).trans h;have M:∀ W',dw B W W'->W'.cell? (ad ji 0)=some (.slice A zs.length cap):=fun W' h=>(hc.keep (I W' h) dc dc).cell 0;refine (aEy n aB l ji B A cap zs EI lY bu Y AA W (M W (dw.refl _ _)) M (fun W' h=>av W' (I W' h)) AB).mono ?_;rintro e W' ⟨he,⟨ys,aL,aD⟩ | ⟨pre,aL,aD⟩⟩
 ·exact⟨he,.inl ⟨_,aL,aD⟩⟩
 ·exact⟨he,.inr ⟨pre,aL,aD⟩⟩
end
section
open Go.Maps Go.RowKit
theorem Po.calls {Q:World->Prop} {a:Value} {P:World->Ending->World->Prop} (h:∀ W,Q W->Po W u a (P W)) (aX:Q dI):∃ (f:Nat) (mM iC:Array Value),u = .func (.func f) mM iC/\Enters prog f/\∀ W,Q W->Calls prog f (mM++#[a]++iC) W (P W):=by
 obtain⟨f,mM,iC,rfl,he,_⟩:=h dI aX;refine⟨f,mM,iC,rfl,he,fun W J=>?_⟩;obtain⟨A7,AA,AB,e,_,hc⟩:=h W J;injection e with I M Y
 injection I with I
 subst I M Y;exact hc
theorem arT {b:ak} (h:az a=az b):a=b:=by have:=congrArg (fun x:ByteArray=>x.data.toList) h;simpa [az] using this
theorem ajx:∀ a b,xy a=xy b->a=b:=by rintro⟨p,i,d⟩ ⟨I,J,M⟩ h;simp only [xy,Value.agg.injEq,Array.mk.injEq,List.cons.injEq,Value.string.injEq,Value.bool.injEq,and_true] at h;rw [arT h.1,h.2.1,arT h.2.2]
theorem arU (w:aRB):(zeroValue 80).run prog w = .ok (xy Q7) w:=kr
theorem KZ:Sz 80 3:=kr
theorem ajy {VX:aRD} {cur:Array Value} (ax:w.heap[g]?=some (.cells cur t (0,0))) (hl:VX.length=cur.size):(w.setRow g (laid cur 0 VX)).heap[g]?=some (.cells VX.toArray t (0,0)):=by rw [EC hl];exact aQB w g cur _ t _ ax
def rU (w:aRB) (g:Nat) (t1 t2 t3:TypeId) (a b c:Value):Prop:=eO w g #[a] t1/\eO w (g+1) #[b] t2/\eO w (g+1+1) #[c] t3
section
variable {w w':aRB} {g:Nat} {t1 t2 t3:TypeId} {a b c:Value}
theorem rU.below (h:rU w g t1 t2 t3 a b c) (ae:Bl w w'):rU w' g t1 t2 t3 a b c:=⟨h.1.below ae,h.2.1.below ae,h.2.2.below ae⟩
theorem rU.keep [dR] (h:rU w g t1 t2 t3 a b c) (ae:dw B w w') (h1:t1 ≠ 295 /\ t1 ≠ 1) (ag:t2 ≠ 295 /\ t2 ≠ 1) (au:t3 ≠ 295 /\ t3 ≠ 1):rU w' g t1 t2 t3 a b c:=⟨h.1.keep ae h1.1 h1.2,h.2.1.keep ae ag.1 ag.2,h.2.2.keep ae au.1 au.2⟩
theorem rU.cells (h:rU w g t1 t2 t3 a b c):w.cell? (ad g 0)=some a/\w.cell? (ad (g+1) 0)=some b/\w.cell? (ad (g+1+1) 0)=some c:=⟨h.1.cell 0,h.2.1.cell 0,h.2.2.cell 0⟩
end
theorem arV (w:aRB) (a b c:Value) (t1 t2 t3:TypeId):rU (((w.alloc (.cells #[a] t1)).alloc (.cells #[b] t2)).alloc (.cells #[c] t3)) w.heap.size t1 t2 t3 a b c/\Bl w (((w.alloc (.cells #[a] t1)).alloc (.cells #[b] t2)).alloc (.cells #[c] t3)):=by
 have h1:Bl w (w.alloc (.cells #[a] t1)):=gK;refine⟨⟨?_,?_,?_⟩,(h1.alloc sp _).alloc (by simp;omega) _⟩
 ·unfold eO;rw [Below.heap_alloc _ _ _ (by simp;omega),Below.heap_alloc _ _ _ sp];exact aQt w _
 ·unfold eO;rw [Below.heap_alloc _ _ _ sp];have:=aQt (w.alloc (.cells #[a] t1)) (.cells #[b] t2);rwa [World.size_alloc] at this
 ·have:=aQt ((w.alloc (.cells #[a] t1)).alloc (.cells #[b] t2)) (.cells #[c] t3);rwa [World.size_alloc,World.size_alloc] at this
theorem aEB [dR] (w:aRB) (L:iW) (v:Env) (q:Option Nat) (s S':aJ) (h:jL w L v q s) (p:ak) (aL:p.length<=1000000000) (f:Nat) (mM iC:Array Value) (hl:s.todo.length<=1000000000000) (th:rM) (FT:yO w L.R q (.func (.func f) mM iC) th) (hs:th.Ii=true\/MapAt w L q s)
  (dW:∀ k,sZ s.known p=some (qN k)->∀ W,Bl w W->Po W (.func (.func f) mM iC) (xy k) (jM W L v q S'))
  (eT:sZ s.known p=none->500<=s.known.length->S'=s.fail 6)
  (gF:sZ s.known p=none->s.known.length < 500->S'={ s with asks:=p,waits:=true,todo:=.sW p th :: s.todo }) :
  Calls prog 219 #[fE L.R,.string (az p),.func (.func f) mM iC] w (jM w L v q S'):=by
 have Bp:=fun W (I:Bl w W)=>WS W L v q s (h.below I) 6;obtain⟨A,c,us,h⟩:=h;obtain⟨Ce,M,aj,Bq,Az⟩:=h.known;have bg:=h.size;have Br:=aj.lt;have Bt:=h.run.lt;obtain⟨F,AA⟩:=ai (xy ((getM M p).getD Q7));obtain⟨Y,Af⟩:=ai (getM M p).isSome;obtain⟨BA,Aa⟩:=ai (jM w L v q S');have look:∀ af,Bl w af->(Instr.lookup 290 (.map (some L.m)) (.string (az p)) true).run prog af = .ok (.tuple #[F,.bool Y]) af:=fun af ae=>by
  have:=(aj.below ae Br).look_ok ajx underlying9 underlying290 Q7 (arU af) (az p) (by rw [iM];unfold maxLen;omega);rw [show (az p).data.toList=p from by simp [az]] at this;rw [AA,Af];cases hk:getM M p <;> rw [hk] at this <;> exact this
 have AP:∀ af,Bl w af->af.cell? (ad L.R 3)=some (.map (some L.m)):=fun af ae=>(ae.cell (p:=ad L.R 3) Bt).trans (h.cell 3).1;have ax:Y=false->sZ s.known p=none:=fun e=>by
  rw [Af] at e;rw [<- Az p,show getM M p=none by simpa using e];rfl
 have Bu:Y=true->Enters prog f/\∀ W,Bl w W->Calls prog f (mM++#[F]++iC) W fun e af=>e = .returned (.tuple #[])/\BA (.returned (.tuple #[])) af:=fun e=>by
  rw [Af] at e;obtain⟨k,hk⟩:=aRl.1 e;obtain⟨Df,Dg,Dh,Cf,Cg,hc⟩:=Po.calls (dW k (by rw [<- Az p,hk];rfl)) (Below.refl _ _);cases Cf;rw [AA,hk];exact⟨Cg,fun W I=>(hc W I).mono fun e af k=>⟨k.1,by rw [Aa];have:=k.since I bg;rw [k.1] at this;exact this⟩⟩
 have BF:Y=false->500<=s.known.length->∀ W,Bl w W->Calls prog 226 #[pp L.R 0,.int .i64 6] W fun e af=>e = .returned (.tuple #[])/\BA (.returned (.tuple #[])) af:=fun Ci A7 W I=>(Bp W I).mono fun e af k=>⟨k.1,by rw [Aa,eT (ax Ci) A7];have:=k.since I bg;rw [k.1] at this;exact this⟩;have BG:=aa (show Y=false->s.known.length < 500->BA=jM w L v q { s with asks:=p,waits:=true,todo:=.sW p th :: s.todo } from fun e A7=>by rw [Aa,gF (ax e) A7]);rw [fE,<- Aa];obtain⟨R,aK,m,hm,s0,BH⟩:=nq3 L.R L.m (az p);rw [<- aK] at AP Bt BF |-;rw [<- hm] at AP look;rw [<- BH] at look |-;obtain⟨AB,AJ,kC,Ck⟩:∃ AB AJ kC,F = .agg #[.string AB,.bool AJ,.string kC]:=⟨_,_,_,AA⟩;subst Ck;obtain⟨Cm,Bv,Ag,BI⟩:=hq4 look AP Bu BF;have Cn:=aa (show ∀ af,Bl w af->eQ af prog 9 xy m s.known.length M from fun af ae=>by rw [hm];exact aj.below ae Br);obtain⟨Bw,BJ,Co,Cs,Ab,C8⟩:=hq6 Bq h FT hs aK BH;clear look AP Aa AA h aj aL aK hm BH Az Bq Ce FT hs Bu BF Af ax Bp dW eT gF;go_enter func219,ntmps219;go_wp2_with fail;obtain⟨Ah,Ai⟩:=arV w (pp R 0) (.string s0) (.func (.func f) mM iC) 247 9 322;obtain⟨W,I⟩:=ai (((w.alloc (.cells #[pp R 0] 247)).alloc (.cells #[.string s0] 9)).alloc (.cells #[.func (.func f) mM iC] 322));rw [<- I] at Ai Ah |-;have BK:=aa Ai;have BL:=aa (show ∀ af,Bl W af->af.cell? (ad w.heap.size 0)=some (pp R 0)/\af.cell? (ad (w.heap.size+1) 0)=some (.string s0)/\af.cell? (ad (w.heap.size+1+1) 0)=some (.func (.func f) mM iC) from fun af ae=>(Ah.below ae).cells)
 have Ct:=aa Ah;have BM:=Ai.size;clear Ai Ah I;have AV:=aa (show ∀ af,Bl W af->af.cell? (ad w.heap.size 0)=some (pp R 0)/\af.cell? (ad (w.heap.size+1) 0)=some (.string s0)/\af.cell? (ad R 3)=some (.map (some m))/\(Instr.lookup 290 (.map (some m)) (.string s0) true).run prog af = .ok (.tuple #[.agg #[.string AB,.bool AJ,.string kC],.bool Y]) af from fun af ae=>⟨(BL.o af ae).1,(BL.o af ae).2.1,Bv.o af (BK.o.trans (ae.mono BM)),Cm.o af (BK.o.trans (ae.mono BM))⟩);obtain⟨s1,s2,Cv,Cw⟩:=AV.o W (Below.refl _ _);go_region_held3 (fun w'=>w'.cell? (ad w.heap.size 0)=some (pp R 0)/\w'.cell? (ad (w.heap.size+1) 0)=some (.string s0)/\w'.cell? (ad R 3)=some (.map (some m))/\(Instr.lookup 290 (.map (some m)) (.string s0) true).run prog w' = .ok (.tuple #[.agg #[.string AB,.bool AJ,.string kC],.bool Y]) w') (first | exact AV.o _ (Below.refl _ _).drew | exact AV.o _ ((Below.refl _ _).drew.alloc sp _) | exact AV.o _ ((Below.refl _ _).alloc sp _) | exact AV.o _ (((((Below.refl _ _).drew.alloc sp _).setCell sp _).setCell sp _).setCell sp _) | exact AV.o _ (((((Below.refl _ _).alloc sp _).setCell sp _).setCell sp _).setCell sp _) | go_keep) (first | fail);all_goals (
  rename_i BO;clear BO s1 s2 Cv Cw;obtain⟨bS,Ak⟩:=ai ((W.alloc (.cells #[.string AB,.bool AJ,.string kC] 80)).drew);have Al:Bl W bS:=by rw [Ak];exact gK.drew
  have Ad:eO bS W.heap.size #[.string AB,.bool AJ,.string kC] 80:=by rw [Ak];exact aQt W _
  rw [<- Ak];obtain⟨BP,hcs,Cz⟩:=BL.o bS Al;have J:=BK.o.trans (Al.mono BM);have AP:=Bv.o bS J;clear Ak;cases Y with
  | true =>
   have Dk:bS.cell? (ad W.heap.size 0)=some (.string AB):=Ad.cell 0;have Dl:bS.cell? (ad W.heap.size 1)=some (.bool AJ):=Ad.cell 1;have Dm:bS.cell? (ad W.heap.size 2)=some (.string kC):=Ad.cell 2;have Dp:∀ (args:Array Value) (w:aRB),(callFunc f args).run prog w = .ok (.enter f args) w:=(Ag.o rfl).1;replace Ag:=aa (Ag.o rfl).2;clear Ad BP hcs;go_wp2_with fail;refine jw (Ag.o bS J) ?_;intro Dq BQ;go_wp2_with fail;exact qm BQ.o
  | false =>
   have Am:=Cn.o bS J;unfold eQ at Am;clear Cz Ad;by_cases hf:500<=s.known.length
   ·have C9:(500:Int)<=(M.length:Int):=by rw [Bw.o];omega
    replace BI:=aa (BI.o rfl hf);go_wp2_with (first
     | (at_len;refine wpList_len_own _ rfl _ 290 rfl 9 80 underlying290 _ m s.known.length _ rfl Am ?_;rw [Ty])
     | (go_at_call 226; refine jw (BI.o bS J) ?_;intro w1 BQ))
    exact qm BQ.o
   have C9:¬ (500:Int)<=(M.length:Int):=by rw [Bw.o];omega
   replace BG:=aa (BG.o rfl om);go_wp2_with (first
    | (at_len;refine wpList_len_own _ rfl _ 290 rfl 9 80 underlying290 _ m s.known.length _ rfl Am ?_;rw [Ty]))
   clear hf;have Ao:=(BJ.o.below J).cell 4;have Ap:=(BJ.o.below J).cell 5;rw [<- Ab.o] at Ao Ap;have DD:bS.cell? (ad R 4)=some (.string (az s.asks)):=Ao.1;have DF:bS.cell? (ad R 5)=some (.bool s.waits):=Ap.1;have z4:=Ao.2;have z5:=Ap.2;have DL:w.heap.size≠R:=om;have DN:w.heap.size+1≠R:=om;have DR:=aa Al;have DW:=aa hl;have Aq:=aa (show ∀ W':World,(∀ k,k≠R->W'.heap[k]?=bS.heap[k]?)->W'.cell? (ad w.heap.size 0)=some (pp R 0)/\W'.cell? (ad (w.heap.size+1) 0)=some (.string s0) from fun W' hk=>⟨(aRa (hk _ DL)).trans BP,(aRa (hk _ DN)).trans hcs⟩);clear Ao Ap AP Am C9 Al hl;go_region_held3 (fun w'=>w'.cell? (ad w.heap.size 0)=some (pp R 0)/\w'.cell? (ad (w.heap.size+1) 0)=some (.string s0)) (first | exact Aq.o _ (fun k hk=>rfl) | exact Aq.o _ (fun k hk=>aQE _ _ _ k hk) | exact Aq.o _ (fun k hk=>(aQE _ _ _ k hk).trans (aQE _ _ _ k hk))) (first | fail);rename_i BO;clear BO;have BX:=BJ.o.below J;have A7:=BX.one (s':={ s with asks:=p }) (i:=4) (u:=.string (az p)) rfl rfl rfl rfl;have Bb:=A7.1.one (s':={ s with asks:=p,waits:=true }) (i:=5) (u:=.bool true) rfl rfl rfl rfl;have Ae:dw L.B bS (((bS.setCell ⟨L.R,4,none⟩ (.string (az p))).setCell ⟨L.R,5,none⟩ (.bool true)).drew):=(A7.2.trans Bb.2).drew;have AL:=Bb.1.below ((Below.refl _ _).drew);have Au:MapAt w L q s->MapAt (((bS.setCell ⟨L.R,4,none⟩ (.string (az p))).setCell ⟨L.R,5,none⟩ (.bool true)).drew) L q s:=fun hm=>(((hm.below J).setCell BX.run 4 _).setCell A7.1.run 5 _).below ((Below.refl _ _).drew);rw [<- Ab.o,<- C8.o] at AL Ae Au;obtain⟨AO,CE⟩:=ai (((bS.setCell ⟨R,4,none⟩ (.string s0)).setCell ⟨R,5,none⟩ (.bool true)).drew)
   rw [<- CE] at AL Ae Au |-;have DX:=aa Au;clear Au;have CJ:dw L.B w AO:=(dw.gT J bg).trans Ae;have Bc:L.B<=AO.heap.size:=AL.size;have Bd:=(Ct.o.below DR.o).keep Ae dc dc dc;obtain⟨n,AZ,V,Bf⟩:=nq2 s.todo.length us.reverse;have CK:Own AO L.B 1 1 A n c V:=by rw [AZ,Bf];exact AL.row
   have Aw:=aa CK;have DY:=aa (show ∀ af,tF AO L.B A n c V af->af.cell? (ad w.heap.size 0)=some (pp R 0) from fun af hm=>(Bd.keep (hm.uP Aw.o Bc) dc dc dc).cells.1);have Bi:=aa (show ∀ af,tF AO L.B A n c V af->af.cell? (ad R 0)=some (.slice A n c)/\af.frozen? ⟨R,0,none⟩=false from fun af hm=>by
    have av:af.heap[R]?=some (.cells (um A s.todo.length c L.mi v.env.length L.mV s.buf L.m p true s.over) 295 (0,0)):=by have Ay:=AL.run;rw [<- Ab.o] at Ay;exact (hm.1.block R Ay.lt fun e=>Aw.o.ne Ay dc e.symm).trans Ay
    rw [AZ];exact⟨aQo af R 0 _ _ _ av,aQF af R 0 _ _ av⟩)
   obtain⟨DZ,Da,Bn,Db,CL⟩:=hq5 AL Bd AZ Bf CJ;clear AZ;have bg:=Bc;have AZ:=DW.o;rw [<- Bn.o] at AZ;clear BX A7 Bb Ae CE AL Bd CJ CK Bf Bc DD DF z4 z5 BP hcs J Aq;go_wp2_with fail;have kE:=aa fun af (aj:tF AO L.B A n c V af)=>And.intro (DY.o af aj) (Bi.o af aj).1;refine ng nE 10 [some _,some _,some _,some _,some _,some _,none,none,some _,some _] (F9 L.B A n c V (.func (.func 247) #[] #[pp (w.heap.size+1+1) 0,pp w.heap.size 0,pp (w.heap.size+1) 0])) (tF AO L.B A n c V) (oN L.B 1 1 A c (n+1) (V++[_])) (tF.start Aw.o) (fun j v w1 af ae h=>h.keep ae) ?_ (jJ:=⟨rx,rx,rx,rx,rx,rx,fun eH u af aj aK bz K aS=>?_,fun eH u af aj aK bz K aS=>?_,rx,rx,trivial⟩)
   rotate_left
   ·simp [iY,Region.binds] at bz;refine mf rfl ?_;go_simp;exact aS _ _ ⟨fun _=>⟨_,rfl,aQt af _,aj.Jv⟩,fT⟩ (aj.alloc _) (oN.alloc af _)
   ·simp [iY,Region.binds] at bz;exact mf rfl (aju aj (show F9 _ _ _ _ _ _ 6 _ _ from bz.2) rfl om bg rfl ⟨by simp [Act.eval,aK,bz.1],by simp [Act.eval,aK]⟩ aS)
   ·intro u af aj AA;obtain⟨Dr,Dt,Dc,CS⟩:=(show F9 _ _ _ _ _ _ 7 _ _ from AA 7 om).2 rfl;clear AA;simp only [Dc];have Dx:=(Bi.o af aj).1;have Dy:=(Bi.o af aj).2;have CU:=aa aj;have De:=aa CS;clear aj CS;go_wp2_with fail;refine qm ?_;have CV:=CU.o.uP Aw.o bg;have Bo:=Da.o.keep CV dc dc dc;have CW:=CU.o;have CZ:=De.o;rw [BG.o];rw [Bn.o,Db.o] at CW CZ;have Ca:=Bo.1;rw [Ab.o] at Ca;have Cb:=Bo.2.1;rw [C8.o] at Cb;have hf:=DZ.o.push CW CZ (t:=.sW p th) ⟨_,_,_,_,rfl,Bo.2.2,Co.o.keep (CL.o.trans CV),Ca,Cb⟩ ?_
    ·rw [Bn.o,Ab.o];exact⟨rfl,⟨_,_,_,hf.1⟩,CL.o.trans hf.2⟩
    ·rcases Cs.o with h1 | h1
     ·exact .inl h1
     ·exact .inr (DX.o h1))
end
section
open Go.Maps Go.RowKit Go.Shelf
attribute [local go_sem] Oper.semAt_some
theorem dw.grow [dR] {row:Option Nat} (ax:W.grownBy W' row) (av:∀ r,row=some r->n0<=r/\∃ o:Obj,W.heap[r]?=some o/\o.isCells=false) (bg:B<=n0) (aB:n0<=W.heap.size) (bz:∀ k,dR.E k->k < n0):dw B W W' :=
 ⟨ax.os,ax.tape,ax.output,ax.size,fun k hk=>ax.block k om fun e=>by have:=(av k e.symm).1;omega,fun k cs t bf hk _ _=>ax.block k (ic hk) fun e=>(by
  obtain⟨o,I,hc⟩:=(av k e.symm).2;rw [hk] at I;cases I;cases hc),fun k J hk _ he=>ax.block k (ic hk) fun e=>by
  have h1:=(av k e.symm).1;have M:=bz k he;omega⟩
theorem nT.grow [dR] {L:iW} {row:Option Nat} (h:nT W L v q s A c us) (ax:W.grownBy W' row) (av:∀ r,row=some r->n0<=r/\∃ o:Obj,W.heap[r]?=some o/\o.isCells=false)
  (bg:L.B<=n0) (aB:n0<=W.heap.size) (hm:L.m < n0) (aH:∀ g,q=some g->g < n0) (bz:∀ k,dR.E k->k < n0):nT W' L v q s A c us:=by
 have ae:=dw.grow (B:=L.B) ax av bg aB bz;have hcell:∀ (k:Nat) (cs:Array Value) (t:TypeId) (bf:Nat × Nat),W.heap[k]?=some (.cells cs t bf)->W'.heap[k]?=some (.cells cs t bf):=fun k cs t bf hk=>(ax.block k (ic hk) fun e=>by
  obtain⟨o,Y,hc⟩:=(av k e.symm).2;rw [hk] at Y;cases Y;cases hc).trans hk
 have A7:∀ k,k < n0->W'.heap[k]?=W.heap[k]?:=fun k hk=>ax.block k om fun e=>by have:=(av k e.symm).1;omega
 refine⟨hcell _ _ _ _ h.run,h.base,h.row.keep fun b ae _ _=>?_,fun i t AA=>?_,h.env.uP ae dc dc,?_,?_,h.free.size ax.size⟩
 ·obtain⟨_,_,cur,bf,hc⟩:=h.row.block b ae;rw [hcell _ _ _ _ hc,hc]
 ·obtain⟨u,h1,I⟩:=h.tasks i t AA;exact⟨u,h1,I.keep ae⟩
 ·obtain⟨h1,M,I,J⟩:=h.known;exact⟨h1,M,I.keep (A7 _ hm),J⟩
 ·rcases h.seen with h1 | ⟨g,M,h1,I,J,AB,AJ⟩
  ·exact .inl h1
  ·exact .inr ⟨g,M,h1,I,J,AB.keep (A7 _ (aH g h1)),AJ⟩
theorem MapAt.keep {L:iW} (h:MapAt W L q s) (aH:∀ g,q=some g->g < n0) (bT:∀ k,k < n0->W'.heap[k]?=W.heap[k]?):MapAt W' L q s:=by obtain⟨g,M,h1,I,J,Y,A7⟩:=h;exact⟨g,M,h1,I,J,Y.keep (bT _ (aH g h1)),A7⟩
def Nb (wd:ak) (pre:List M6):List iU:=pre.reverse.map fun x=>iU.line x.1.2 wd
theorem aEG (wd:ak) (pre:List M6) (x:M6):Nb wd (pre++[x]) = .line x.1.2 wd :: Nb wd pre:=by simp [Nb]
theorem aEH {wd:ak} {ys:List M6} (h:ys.map (·.1.2)=l.reverse):Nb wd ys=l.map (iU.line · wd):=by
 have:ys.reverse.map (·.1.2)=l:=by rw [List.map_reverse,h,List.reverse_reverse]
 rw [<- this,Nb,List.map_map];rfl
def WW [dR] (w:aRB) (L:iW) (v:Env) (q:Option Nat) (s:aJ) (wd:ak) (pre:List M6) (W:aRB):Prop :=
 jL W L v q { s with todo:=Nb wd pre++s.todo }/\MapAt W L q s/\dw L.B w W
theorem WW.below [dR] {L:iW} {wd:ak} {pre:List M6} (h:WW w L v q s wd pre W) (ae:Below W.heap.size W W'):WW w L v q s wd pre W':=⟨h.1.below ae,h.2.1.below ae,h.2.2.trans (dw.gT ae h.1.size)⟩
theorem KeepsFrom.push {B' n:Nat} (h:tF W B A n c V af) (aG:Own W B 1 1 A n c V) (aK:af.heap[R]?=some (.cells cs t bf)) (o:Nat) (u:Value):KeepsFrom B' W (af.setCell ⟨R,o,none⟩ u):=by
 refine⟨by rw [World.size_setCell];exact h.1.size,fun k I _ hk hc=>?_⟩;have h1:af.heap[k]?=some I:=(h.1.block k (aQZ.1 hk).1 fun e=>by
  obtain⟨_,_,cur,bf,ae⟩:=aG.block k e.symm;rw [hk] at ae;cases ae;cases hc).trans hk
 refine (aQE _ _ _ k fun e=>?_).trans h1;simp only at e;subst e;rw [h1] at aK;cases aK;cases hc
theorem aEI [dR] (w:aRB) (L:iW) (v:Env) (q:Option Nat) (s:aJ) (h:jL w L v q s) (kz:MapAt w L q s) (g1 g2 g3:Nat) (x:ak) (h1:yN w g1 L.R) (ag:KY w g2 x) (au:ES w g3 q) (t:ak) (aA:t.length<=1000000) (aj:qK w) (hlen:s.todo.length<=100000000000) :
  Calls prog 249 #[.string (az t),fE g1,fE g2,fE g3] w (jM w L v q { s with todo:=(jP t).map (iU.line · x)++s.todo }):=by
 have bg:=h.size;have HOLD:=aa (show ∀ k,dR.E k->k < w.heap.size by obtain⟨_,_,_,Bq⟩:=h;exact Bq.free.old);have AL:=adp w t om aj;have AZ:=QH t;have hle:∀ y∈jP t,y.length<=1000000000:=fun y hy=>by have:=Tw hy;omega
 obtain⟨ls,Aw⟩:=ai (jP t);obtain⟨k,hk,X,aY⟩:=nq2 ls.length (az t);rw [<- Aw] at AL AZ hle |-;rw [<- hk] at AL AZ;rw [<- aY] at AL |-;rw [fE,fE,fE];obtain⟨Ae,Af⟩:∃ Ae:Ending->World->Prop,Ae=jM w L v q { s with todo:=ls.map (iU.line · x)++s.todo }:=⟨_,rfl⟩;rw [<- Af];obtain⟨Br,Bt,Bu,Bv,Ay,Az,H1,Bw,C8⟩:=hq9 Af AL hle hk h kz h1 ag au;have Cz:k<=1000001:=om;have DD:=Mx 250;have DF:=Mx 203;clear h kz h1 ag au AL hle hk Aw aY Af AZ aj aA;refine (aQG (n:=6)).1 ?_;refine aRf func249 rfl trivial ?_ rfl;simp only [ntmps249,List.size_toArray,List.length_cons,List.length_nil,Nat.reduceAdd,Nat.reduceSub,Array.replicate_succ,Array.replicate_zero,List.push_toArray,List.append_toArray,List.nil_append,List.cons_append]
 gi_wp2_with (first
  | (gi_at_call 203; refine (aQG.2 Bt.o).mono ?_;rintro e w1 ⟨A,c,rfl,AO,ae⟩;have BA:=aa AO;have BF:=aa ae;clear AO ae)
  | (gi_at_call 250; refine (aQG.2 (aEz _ A k c)).mono ?_;rintro e w' ⟨rfl,rfl⟩))
 obtain⟨b,ae,dN,A7⟩:=nq2 w1.heap.size (w1.alloc (.cells #[.slice A k c] 24));have BG:eO dN b #[.slice A k c] 24:=by rw [A7,ae];exact aQt w1 _
 have AP:Bl w dN:=by rw [A7];exact BF.o.alloc BF.o.size _
 have DL:dN.heap.size=b+1:=by rw [A7,ae];simp
 have BH:Own dN w.heap.size 9 1 A k c (cu ls):=by rw [A7];exact BA.o.alloc _
 rw [<- A7,<- ae];clear A7 ae;have C9:L.B<=dN.heap.size:=aQn bg AP.size;have BI:∀ W',dw L.B dN W'->Rd W' 1 A k (cu ls):=fun W' Ag=>(BH.uP Ag dc dc).rd;obtain⟨CE,Ah⟩:∃ _:True,SeqStopsK Fence.wide 5 prog 267 #[pp b 0] aaa (dw L.B) (fun ys=>ys.map (·.1.2)=ls.reverse) (fun _=>True) k dN:=⟨trivial,by
  have Ai:=Bv.o;have:=aEA 5 om b L.B A c ls om Bu.o dN C9 (by rw [<- Ai];exact BG) (fun W' Ag=>by rw [<- Ai];exact BI W' Ag);rwa [<- Ai] at this⟩
 have Ak:WW w L v q s x [] dN:=⟨Ay.o.below AP,Az.o.below AP,dw.gT AP bg⟩;have BJ:L.m < w.heap.size:=by obtain⟨_,_,_,av⟩:=Ay.o;obtain⟨_,M,hm,_⟩:=av.known;exact hm.lt
 have Al:∀ g,q=some g->g < w.heap.size:=fun g ax=>by
  obtain⟨DN,M,e,_,_,hm,_⟩:=Az.o;rw [ax] at e;cases e;exact hm.lt
 have DR:=AP.size;clear BA BH BI CE BG;refine wpIn_rangeFunc_ownH rfl om (gf:=267) (lb:=#[pp b 0]) rfl trivial (enters_of func267 kr rfl)
  Ah dw.trans (fun W l o CJ hl h h1 _=>dw.put W l o CJ om h h1 (fun e=>by have:=HOLD.o _ e;omega)) (Below.refl _ _) (fun _=>rfl)
  (WW w L v q s x)
  (fun _ _ _=>False)
  ?CK (fun _ _ _ _ _ hs _ _=>hs) Ak
  (fun y Am W=>∃ Y,eO W Y #[.string (az y.1.2)] 9 /\ Am={ tmps:=#[.string X,pp g1 0,pp g2 0,pp g3 0,undef,undef,pp Y 0,.string X,.slice A k c,.func (.func 267) #[] #[pp b 0],.int .i64 y.1.1,.string (az y.1.2),undef,undef,undef,undef,undef,undef,undef,undef,undef,undef],defers:=[] })
  ?CL ?assign ?body ?done ?stop
 case CK =>
  rintro pre W W' row ⟨⟨I,c1,us,h1⟩,ag,au⟩ ax J;have CS:∀ j,j < w.heap.size->W'.heap[j]?=W.heap[j]?:=fun j aD=>ax.block j (by have:=au.size;omega) fun e=>by have:=(J j e.symm).1;omega
  refine⟨⟨I,c1,us,h1.grow (n0:=w.heap.size) ax (fun r e=>⟨by have:=(J r e).1;omega,(J r e).2⟩) bg au.size BJ Al HOLD.o⟩,ag.keep Al CS,au.trans (dw.grow (n0:=w.heap.size) ax (fun r e=>⟨by have:=(J r e).1;omega,(J r e).2⟩) bg au.size HOLD.o)⟩
 case CL =>
  rintro y Am _ W W' row ⟨Y,h1,ag⟩ ax J;refine⟨Y,?_,ag⟩;unfold eO at h1 |-;refine (ax.block Y (ic h1) fun e=>?_).trans h1;obtain⟨o,AO,hc⟩:=(J Y e.symm).2;rw [h1] at AO;cases AO;cases hc
 case assign =>
  rintro Ju pre ⟨⟨BK,nm⟩,ah⟩ W K ⟨h1,ag,au⟩ aS;simp only [aaa];have CU:=aa (show WW w L v q s x pre W from ⟨h1,ag,au⟩);have CV:L.B<=W.heap.size:=h1.size;clear h1 ag au
  gi_wp2
  exact aS _ _ ((KeepsOthers.alloc _ _).from _) ((dw.refl _ W).alloc CV _) (CU.o.below ((Below.refl _ W).alloc (aQm _) _)) ⟨W.heap.size,aQt W _,rfl⟩
 case body =>
  rintro Ju pre ⟨⟨BK,nm⟩,ah⟩ Am W DW AZ ⟨⟨I,c1,us,h1⟩,ag,au⟩ ⟨Y,BL,rfl⟩ DX;obtain⟨n,AA⟩:=ai ((Nb x pre++s.todo).length);have BM:n<=1000000000000:=by rw [AA,List.length_append,Nb,List.length_map,List.length_reverse];omega
  obtain⟨V,Ao,R,aK⟩:=nq2 us.reverse L.R;have bg:L.B<=W.heap.size:=h1.size;have BO:Own W L.B 1 1 I n c1 V:=by rw [AA,Ao];exact h1.row
  have AB:=aa BO;have BP:yN W g1 R:=by rw [aK];exact H1.o.keep au
  have BQ:=aa BP;have AV:=h1.run;rw [<- aK] at AV;have Ap:=aa (show ∀ af,tF W L.B I n c1 V af->eO af R (um I (Nb x pre++s.todo).length c1 L.mi v.env.length L.mV s.buf L.m s.asks s.waits s.over) 295 from fun af hm=>(hm.1.block R AV.lt fun e=>AB.o.ne AV dc e.symm).trans AV);have CW:=aa (show ∀ af,tF W L.B I n c1 V af->af.cell? (ad g1 0)=some (pp R 0) from fun af hm=>(BQ.o.keep (hm.uP AB.o bg)).cell);have Aq:=aa (show ∀ af,tF W L.B I n c1 V af->af.cell? (ad R 0)=some (.slice I n c1)/\af.frozen? ⟨R,0,none⟩=false from fun af hm=>by
   have av:=Ap.o af hm;rw [<- AA] at av;exact⟨aQo af R 0 _ _ _ av,aQF af R 0 _ _ av⟩)
  obtain⟨CZ,BX,Au,Ca,Aa,Cb,Ab⟩:=hq7 h1 ag au BL AA Ao aK;clear AA;have AA:=BM;clear h1 ag au BL BO BP AV Ao aK BM;clear Ak Ah
  gi_wp2
  have kE:=aa fun af (aj:tF W L.B I n c1 V af)=>And.intro (CW.o af aj) (Aq.o af aj).1;refine ng arN 10 [some _,some _,some _,some _,some _,some _,none,none,some _,some _] (F9 L.B I n c1 V (.func (.func 251) #[] #[pp Y 0,pp g2 0,pp g1 0,pp g3 0])) (tF W L.B I n c1 V) (oN L.B 1 1 I c1 (n+1) (V++[_])) (tF.start AB.o) (fun j v w1 af ae h=>h.keep ae) ?_ (jJ:=⟨rx,rx,rx,rx,rx,rx,fun eH u af aj aK bz K aS=>?_,fun eH u af aj aK bz K aS=>?_,rx,rx,trivial⟩)
  rotate_left
  ·simp [iY,Region.binds] at bz;refine mf rfl ?_;go_simp;exact aS _ _ ⟨fun _=>⟨_,rfl,aQt af _,aj.Jv⟩,fT⟩ (aj.alloc _) (oN.alloc af _)
  ·simp [iY,Region.binds] at bz;exact mf rfl (aju aj (show F9 _ _ _ _ _ _ 6 _ _ from bz.2) rfl om bg rfl ⟨by simp [Act.eval,aK,bz.1],by simp [Act.eval,aK]⟩ aS)
  ·intro u af aj Bb;obtain⟨Bc,Bd,Ce,Bf⟩:=(show F9 _ _ _ _ _ _ 7 _ _ from Bb 7 om).2 rfl;clear Bb;simp only [Ce];have DY:=(Aq.o af aj).1;have DZ:=(Aq.o af aj).2;have AJ:=aa aj;have Cf:=aa Bf;clear aj Bf;go_wp2_with fail;have Ad:=AJ.o.uP AB.o bg;have Bi:=AJ.o;have Bn:=Cf.o;rw [Aa.o,Cb.o] at Bi Bn;have Bo:=BQ.o.keep Ad;rw [Ab.o] at Bo;have hf:=CZ.o.push Bi Bn (t:=.line nm x) ⟨_,_,_,_,rfl,eO.keep Ca.o Ad dc dc,(Bw.o.keep Au.o).keep Ad,Bo,(C8.o.keep Au.o).keep Ad⟩ (.inr BX.o);have Cg:=KeepsFrom.push (B':=dN.heap.size) AJ.o AB.o (Ap.o af AJ.o) 0 (.slice Bc (n+1) Bd);have Ci:jL (af.setCell ⟨R,0,none⟩ (.slice Bc (n+1) Bd)) L v q { s with todo:=Nb x (pre++[⟨(BK,nm),ah⟩])++s.todo }:=by rw [aEG,Aa.o,Ab.o];exact⟨_,_,_,hf.1⟩
   refine⟨Cg,?_,Ci,?_,Au.o.trans ?_⟩
   ·rw [Aa.o,Ab.o];exact hf.2
   ·have Ck:MapAt af L q s:=by obtain⟨g,M,Cm,Cn,Co,Cs,Ct⟩:=BX.o;exact⟨g,M,Cm,Cn,Co,ajv AJ.o AB.o Cs,Ct⟩
    exact Ck.setCell (Ap.o af AJ.o) _ _
   ·rw [Aa.o,Ab.o];exact hf.2
 case done =>
  rintro D ys W Da Cv ⟨h1,ag,au⟩ aS;have Bp:Ae (.returned (.tuple #[])) (W.putObj D (.deferred none)):=by
   have J:∀ r,some D=some r->w.heap.size<=r/\∃ o:Obj,W.heap[r]?=some o/\o.isCells=false:=fun r e=>by cases e;exact⟨om,_,aS,rfl⟩
   obtain⟨I,c1,us,h1⟩:=h1;rw [Br.o,<- aEH Cv];exact⟨rfl,⟨I,c1,us,h1.grow (n0:=w.heap.size) (aQR W D _) J bg au.size BJ Al HOLD.o⟩,au.trans (dw.grow (n0:=w.heap.size) (aQR W D _) J bg au.size HOLD.o)⟩
  have Cw:=aa Bp;clear h1 ag au Bp Ak Ah
  gi_wp2
  refine⟨by simp,.inl ⟨_,_,rfl,aQ5 aS,?_⟩⟩;refine⟨_,aRe rfl _ _ _,?_⟩;exact Cw.o
 case stop =>
  rintro D Db pre W _ _ h _;exact h.elim
end
section
open Go.Maps Go.RowKit
section
variable {α:Type}
end
end
section
open Go.Maps Go.RowKit Go.Shelf
structure Fit (w:aRB) (L:iW) (s:aJ):Prop where
 wh:qK w
 EX:0 < L.B
 lim:nA s
 todo:s.todo.length<=100000000000
 seen:s.seen.length<=100000000000
 base:L.B<=w.heap.size
 Gg:Lib.TabBelow prog L.B w "internal/strconv.uint64pow10" .u64 Lib.pow10Tab
theorem Fit.below {L:iW} (h:Fit w L s) (ae:Bl w w'):Fit w' L s:=⟨h.wh.on ae,h.EX,h.lim,h.todo,h.seen,aQn h.base ae.size,h.Gg.on (ae.mono h.base)⟩
theorem qK.uP [dR] (h:qK w) (ae:dw B w w') (ax:0 < B):qK w':=by obtain⟨m,hm⟩:=h;exact⟨m,(ae.below.cell (p:=ad 0 0) ax).trans hm⟩
theorem Fit.uP [dR] {L:iW} (h:Fit w L s) (ae:dw L.B w w'):Fit w' L s:=⟨h.wh.uP ae h.EX,h.EX,h.lim,h.todo,h.seen,aQn h.base ae.size,h.Gg.on ae.below⟩
theorem aEK:Enters prog 221:=enters_of func221 kr rfl
theorem aEL:Enters prog 249:=enters_of func249 kr rfl
theorem aEM:Enters prog 248:=enters_of func248 kr rfl
theorem aEN:Enters prog 222:=enters_of func222 kr rfl
def Bj.Ii:Bj->Bool
 | .add=>true
 | .scan _=>false
section
variable {w:aRB} {L:iW} {v:Env} {q:Option Nat} {s:aJ}
theorem aEO [dR] (h:jL w L v q s) (hf:Fit w L s) {d:Bj} (aT:Dj w L.R q u d) (kz:d.Ii=true\/MapAt w L q s) (t:ak) (aA:t.length<=1000000):Po w u (.string (az t)) (jM w L v q (s.data d t)):=by
 cases d with
 | add =>
  refine⟨_,_,_,aT,aEK,?_⟩;exact WT w L v q s h hf.lim.buf t om
 | scan x =>
  obtain⟨g1,g2,g3,e,h1,I,J⟩:=aT;refine⟨_,_,_,e,aEL,?_⟩;rcases kz with hm | hm
  ·cases hm
  ·exact aEI w L v q s h hm g1 g2 g3 x h1 I J t aA hf.wh hf.todo
theorem Dj.below [dR] {d:Bj} (h:Dj w R q u d) (ae:Bl w w'):Dj w' R q u d:=h.keep (dw.gT ae (aQu _))
theorem yO.below [dR] {d:rM} (h:yO w R q u d) (ae:Bl w w'):yO w' R q u d:=h.keep (dw.gT ae (aQu _))
theorem ar4 [dR] (h:jL w L v q s) (hf:Fit w L s) (aT:yO w L.R q u th) (kz:th.Ii=true\/MapAt w L q s) (k:dz) (hk:k.is=true->k.data.length<=1000000):Po w u (xy k) (jM w L v q (s.nJ th k)):=by
 have there:∀ d:Bj,WU d=th->(d.Ii=true\/MapAt w L q s)->wm w L.R q u d->Po w u (xy k) (jM w L v q (s.nJ th k)):=fun d e hm aT=>by
  obtain⟨g1,g2,u2,M,h1,Y,A7⟩:=aT;refine⟨_,_,_,M,aEM,?_⟩;rw [<- e];exact aEq w L v q s h d g1 g2 u2 h1 Y k fun J W I=>aEO (h.below I) (hf.below I) (A7.below I) (hm.imp id fun x=>x.below I) _ (hk J)
 cases th with
 | add=>exact there .add rfl (.inl rfl) aT
 | D5 =>
  obtain⟨g1,e,h1⟩:=aT;refine⟨_,_,_,e,aEN,?_⟩;exact aEn w L v q s h g1 h1 hf.lim.buf k fun J=>by have:=hk J;omega
 | scan x=>exact there (.scan x) rfl (kz.imp (fun x=>by cases x) id) aT
theorem yO.fn (h:yO w R q u th):∃ f mM iC,u = .func (.func f) mM iC:=by
 cases th with
 | add =>
  obtain⟨_,_,_,e,_⟩:=h;exact⟨_,_,_,e⟩
 | D5 =>
  obtain⟨_,e,_⟩:=h;exact⟨_,_,_,e⟩
 | scan x =>
  obtain⟨_,_,_,e,_⟩:=h;exact⟨_,_,_,e⟩
theorem ajF [dR] (h:jL w L v q s) (hf:Fit w L s) (p:ak) (aL:p.length<=1000000) (aT:yO w L.R q u th) (kz:th.Ii=true\/MapAt w L q s) :
  Calls prog 219 #[fE L.R,.string (az p),u] w (jM w L v q (s.ask p th)):=by
 obtain⟨f,mM,iC,rfl⟩:=aT.fn;refine aEB w L v q s _ h p om f mM iC (by have:=hf.todo;omega) th aT kz (fun J hk W I=>?_) (fun hk M=>?_) (fun hk M=>?_)
 ·have A7:J.is=true->J.data.length<=1000000:=fun AA=>by
   have Y:=hf.lim.Be p _ hk;rw [qN,if_pos AA] at Y;exact Y rfl
  rw [aJ.ask,hk];simp only;rw [aJ.arL];exact ar4 (h.below I) (hf.below I) (aT.below I) (kz.imp id fun x=>x.below I) J A7
 ·rw [aJ.ask,hk];simp only;rw [if_pos M]
 ·rw [aJ.ask,hk];simp only;rw [if_neg om]
end
theorem ar5:∀ a b,Ih a=Ih b->a=b:=fun a b h=>by cases h;rfl
theorem nT.aEP [dR] {L:iW} (h:nT w L v q s A c us) {n:Nat} {M ajG:fu Bool} (aH:q=some g) (ax:L.B<=g) (bJ:g≠L.m)
  (aj:eQ w prog 9 Ih g n M) (aA:fU g w w') {S:List ak} (YC:eQ w' prog 9 Ih g S.length ajG) (bM:∀ p,getM ajG p=if p∈S then some true else none) :
  nT w' L v q { s with seen:=S } A c us/\dw L.B w w'/\MapAt w' L q { s with seen:=S }:=by
 have hc:∀ (k:Nat) (cs:Array Value) (t:TypeId) (bf:Nat × Nat),w.heap[k]?=some (.cells cs t bf)->w'.heap[k]?=w.heap[k]?:=fun k cs t bf hk=>aA.2.2.2.2 k fun e=>aj.isMap (by rw [<- e];exact hk);have ae:dw L.B w w':=⟨aA.1,aA.2.1,aA.2.2.1,aQL aA.2.2.2.1.symm,fun k hk=>aA.2.2.2.2 k om,fun k cs t bf hk _ _=>hc k cs t bf hk,fun k o _ _ he=>aA.2.2.2.2 k fun e=>h.free.seen g aH (e ▸ he)⟩;have J:MapAt w' L q { s with seen:=S }:=⟨g,ajG,aH,ax,bJ,YC,bM⟩;refine⟨⟨(hc _ _ _ _ h.run).trans h.run,h.base,h.row.keep fun b ae _ _=>?_,fun i t Y=>?_,h.env.uP ae dc dc,?_,.inr J,h.free.size ae.size⟩,ae,J⟩
 ·obtain⟨_,_,cur,bf,ah⟩:=h.row.block b ae;exact hc _ _ _ _ ah
 ·obtain⟨u,h1,I⟩:=h.tasks i t Y;exact⟨u,h1,I.keep ae⟩
 ·obtain⟨h1,K,I,A7⟩:=h.known;exact⟨h1,K,I.keep (aA.2.2.2.2 _ (aQJ bJ)),A7⟩
theorem nA.more (h:nA s) {p:ak} (aL:p.length<=1000000):nA { s with seen:=p :: s.seen }:=⟨h.buf,h.tasks,h.Be,fun x ah=>by
 rcases aQw.1 ah with rfl | ah
 ·exact aL
 ·exact h.HV x ah,h.asks,h.less⟩
theorem ar6 [dR] (w:aRB) (L:iW) (v:Env) (q:Option Nat) (s:aJ) (h:jL w L v q s) (hf:Fit w L s) (kz:MapAt w L q s) (EP:s.seen.length < 1000000000) (p x:ak) (aL:p.length<=1000000) (g:Nat) (aH:q=some g) :
  Calls prog 223 #[fE L.R,.string (az p),.string (az x),.map (some g)] w (jM w L v q (s.scan p x)):=by
 have bg:=h.size;obtain⟨AO,M,AP,BH,BI,aj,Ag⟩:=kz;obtain rfl:AO=g:=by rw [aH] at AP;cases AP;rfl
 clear AP;obtain⟨R,aK,s0,Y,Ah,AV,BJ,AZ⟩:=nq4 L.R (az p) (az x) (jM w L v q (s.scan p x));have A7:s0.size<=1000000:=by rw [Y,iM];exact aL
 rw [fE,<- aK,<- Y,<- AV,<- AZ];obtain⟨n,Aa⟩:=ai s.seen.length;rw [<- Aa] at aj EP;obtain⟨BK,BL,BM,BO,Ai,AA,BP,BQ,Ak,Al⟩:=hq10 h hf aj Ag aK Y AV AZ Aa aH;have BX:=aj.lt;clear h hf aj Ag aK Y AV AZ Aa aH;go_enter func223,ntmps223;go_upto_region 1 with fail
 obtain⟨AB,AJ⟩:=arV w (pp R 0) (.string Ah) (.map (some AO)) 247 9 147;obtain⟨W,Am⟩:=ai (((w.alloc (.cells #[pp R 0] 247)).alloc (.cells #[.string Ah] 9)).alloc (.cells #[.map (some AO)] 147));rw [<- Am] at AJ AB |-;have Ao:=aa AJ;have Bb:=aa AB;have Bc:=AB.cells.2.2;have Ap:=aa (BM.o.below AJ BX);clear AJ AB Am;go_wp2_with ((with_reducible refine YO Ap.o ar5 underlying9 underlying147 ?_ s0 ?_ true ?_ ?_);exact mO;exact mO;exact⟨rfl,rfl,rfl⟩;intro I Aq Au);have Ab:=Aq;rw [show s0.data.toList=p by rw [AA.o];simp [az]] at Ab;obtain⟨A,c,us,av⟩:=BK.o;have J:=(av.below Ao.o).aEP (S:=p :: s.seen) Al.o BH BI Ap.o Au (by rw [List.length_cons,<- Ak.o];exact Ab) (fun y=>by
  by_cases hy:y=p
  ·subst hy;rw [Mq,if_pos sp]
  ·rw [Mr M true hy,BO.o y];simp only [List.mem_cons,hy,false_or])
 have AL:dw L.B w I:=(dw.gT Ao.o bg).trans J.2.1;have Ad:=Bb.o.keep J.2.1 dc dc dc;have Aw:Fit I L { s with seen:=p :: s.seen }:=by have h1:=BL.o.uP AL;refine⟨h1.wh,h1.EX,h1.lim.more (by have:=AA.o;rw [this,iM] at A7;exact A7),h1.todo,?_,h1.base,h1.Gg⟩;rw [List.length_cons,<- Ak.o];omega
 have Bd:p.length<=1000000:=by have:=AA.o;rw [this,iM] at A7;exact A7
 have Ay:=aa (fun af (ae:Bl I af)=>arM af R q (.func (.func 249) #[] #[pp w.heap.size 0,pp (w.heap.size+1) 0,pp (w.heap.size+1+1) 0]) (.scan x) (by
  have Ae:=Ad.below ae;refine⟨_,_,_,rfl,Ae.1,?_,_,Al.o,Ae.2.2⟩;have:=Ae.2.1;rw [BP.o] at this;exact this))
 have Az:=aa (fun af (ae:Bl I af)=>(Ad.below ae).cells.1);have Bf:=aa (fun af (ae:Bl I af) (u:Value) (hu:wm af R q u (.scan x))=>show Calls prog 219 #[pp R 0,.string s0,u] af fun e aC=>e = .returned (.tuple #[])/\BJ (.returned (.tuple #[])) aC from by
  have h1:=ajF (v:=v) (s:={ s with seen:=p :: s.seen }) (w:=af) (L:=L) (q:=q) ⟨_,_,_,J.1.below ae⟩ (Aw.below ae) p Bd (u:=u) (th:=.scan x) (by rw [<- Ai.o];exact hu) (.inr (J.2.2.below ae));rw [fE,<- Ai.o,<- AA.o] at h1;refine h1.mono fun e aC k=>?_;refine⟨k.1,?_⟩;rw [BQ.o];exact⟨rfl,k.2.1,(AL.trans (dw.gT ae (aQn bg AL.size))).trans k.2.2⟩)
 clear av J Aq Ab Au Ad Aw AL Bc;simp only [Act.put];have kE:=Az;refine ng nE 5 [some _,some _,some _,some _,none] (fun _ v af=>wm af R q v (.scan x)) (Bl I) Bl (Below.refl _ I).drew (fun j v w1 af ae h=>h.keep (dw.gT ae (aQu _))) ?_ (jJ:=⟨rx,rx,rx,rx,fun eH u af aj aK bz K aS=>?_,trivial⟩)
 rotate_left
 ·simp [iY,Region.binds] at bz;refine mf rfl ?_;go_simp;refine (Ay.o af aj).mono ?_;rintro e aC ⟨⟨u2,rfl,Bi⟩,ae⟩;exact aS _ _ Bi (aR aj ae) ae
 ·intro u af aj BA;have Af:wm af R q (u 4) (.scan x):=BA 4 om;clear BA;have BF:=aa Af;have Bn:=aa aj;obtain⟨f9,Bp,Bq,BG⟩:∃ f mM iC,u 4 = .func (.func f) mM iC:=by obtain⟨_,_,_,e,_⟩:=Af;exact⟨_,_,_,e⟩
  rw [BG] at BF |-;clear Af aj Ay Az BG;go_wp2_with (go_at_call 219; refine jw (Bf.o af Bn.o _ BF.o) ?_;intro aC Bo);refine qm ?_;exact Bo.o
end
section
open Go.Maps Go.RowKit Go.Shelf
theorem aES (w:aRB):(zeroValue 4).run prog w = .ok (Ih false) w:=kr
theorem ajJ {P:Prop} (h:P:=by (
 intro af aj;have aOS:=(dM.o af aj).1;have EY:=(dM.o af aj).2.2;have oh:=aa aj;clear aj dM;go_wp2_with (go_at_call 221; refine jw (kM.o af (dU.o.trans (oh.o.mono gG)) ajK.o) ?_;intro aC gX);exact qm gX.o)):P:=h
theorem aET [dR] (w:aRB) (L:iW) (v:Env) (aZ:v.may=eF) (q:Option Nat) (s:aJ) (h:jL w L v q s) (hf:Fit w L s) (kz:MapAt w L q s) (EP:s.seen.length < 1000000000) (x wd:ak) (ah:x.length<=1000000) (g1 g2 g3 g4:Nat) (h1:KY w g1 x) (ag:KY w g2 wd) (au:yN w g3 L.R) (aN:ES w g4 q) :
  Calls prog 251 #[fE g1,fE g2,fE g3,fE g4] w (jM w L v q (s.line v x wd)):=by
 have bg:=h.size;have AZ:=aqx w x om;obtain⟨R,aK,X,AL,AO,Ah,Ai,Aa⟩:=nq4 L.R (az x) (az wd) (jM w L v q (s.line v x wd));have c1:w.cell? (ad g1 0)=some (.string X):=by rw [AL];exact eO.cell h1 0
 have c2:w.cell? (ad g2 0)=some (.string AO):=by rw [Ah];exact eO.cell ag 0
 have bF:w.cell? (ad g3 0)=some (pp R 0):=by rw [aK];exact eO.cell au 0
 have Bc:g1 < w.heap.size:=eO.lt h1;have Bd:g2 < w.heap.size:=eO.lt ag;have Bf:g3 < w.heap.size:=eO.lt au;rw [<- AL] at AZ;rw [fE,fE,fE,fE,<- Aa];have kM:=aa (fun W (BA:Bl w W) (hl:s.line v x wd=s.add (x++[10]))=>show Calls prog 221 #[pp R 0,.string (X++⟨#[10]⟩)] W fun e af=>e = .returned (.tuple #[])/\Ai (.returned (.tuple #[])) af from by
  have:=WT W L v q s (h.below BA) hf.lim.buf (x++[10]) (by simp;omega);rw [<- show X++⟨#[10]⟩=az (x++[10]) by rw [AL];exact YH x [10],fE,<- aK] at this;refine this.mono fun e af k=>⟨k.1,?_⟩;rw [Aa,hl];have:=k.since BA bg;rw [k.1] at this;exact this)
 have Bi:¬ (X.size+1 > 9223372036854775807):=by rw [AL,iM];omega
 obtain⟨n,Ak⟩:=ai (nR x).length;rw [<- Ak] at AZ;obtain⟨BF,Bn,BG,Bo,Bp,BH,Al,BI,Bq,Br⟩:=hq10 h hf kz aN aK Aa Ah Ak aZ AZ;clear AZ AL Aa Ah h1 ag au aN h hf aK Ak aZ kz;go_enter func251,ntmps251;go_wp2_with (go_at_call 237; refine Br.o.mono ?_;rintro e w1 ⟨A,c,rfl,BJ,ae⟩;have dU:=aa ae;have Bt:=aa BJ;clear BJ ae);have Ab:=dU.o;have gG:=Ab.size;have dM:=aa (show ∀ af,Bl w1 af->af.cell? (ad g1 0)=some (.string X)/\af.cell? (ad g2 0)=some (.string AO)/\af.cell? (ad g3 0)=some (pp R 0) from fun af ae=>by
  have Am:=Ab.trans (ae.mono gG);exact⟨(Am.cell (p:=ad g1 0) Bc).trans c1,(Am.cell (p:=ad g2 0) Bd).trans c2,(Am.cell (p:=ad g3 0) Bf).trans bF⟩)
 clear c1 c2 bF;by_cases Ao:n=2
 rotate_left
 ·have Bu:(n:Int)≠2:=om;have CK:((n:Int) != 2)=true:=by simpa using Bu
  have ajK:=aa (show s.line v x wd=s.add (x++[10]) from by
   have J:=BI.o ▸ Ao;unfold aJ.line;match hw:nR x with
   | []=>rfl
   | [a]=>rfl
   | [a,b]=>rw [hw] at J;exact absurd rfl J
   | a :: b :: c :: r=>rfl)
  clear Ao EP ah bg;refine Kj 17 [_,_,_,_,_,_,_,_,_,_,_,_,_,_,_,_,_] ?_;exact ajJ
 subst Ao;obtain⟨a,b,hw⟩:∃ a b,nR x=[a,b]:=by
  have J:=BI.o;match hw:nR x with
  | []=>rw [hw] at J;cases J
  | [a]=>rw [hw] at J;cases J
  | [a,b]=>exact⟨a,b,rfl⟩
  | a :: b :: c :: r=>rw [hw] at J;simp at J
 have hl:s.line v x wd=if a=wd/\v.may b=true then if b∈s.seen then s else s.scan b wd else s.add (x++[10]):=by rw [aJ.line,hw]
 rw [Bq.o] at hl;obtain⟨AP,AA,B0,Y⟩:=nq2 (az a) (az b);have Ad:b.length<=1000000:=aQn (YL (s:=x) (x:=b) (by rw [hw];simp)).2.2 ah;have hO:=Bt.o;rw [hw,show cu [a,b]=[.string AP,.string B0] by rw [AA,Y];rfl] at hO;have Bv:=aa (fun (af:aRB)=>show CB 43 #[.string B0] af (.bool (eF b)) from by
  have:=adg af B0 (by rw [Y,iM];omega);rwa [show B0.data.toList=b from by rw [Y];simp [az]] at this)
 obtain⟨eP,AB,rfl,Ap⟩:=hO.rd.2 dc;have Aq:w1.cell? (ad eP AB)=some (.string AP):=Ap 0 _ rfl;have BK:w1.cell? (ad eP (AB+1))=some (.string B0):=Ap 1 _ rfl;have BL:eP < w1.heap.size:=aQy _ _ Aq;have AV:=aa (show ∀ af,Bl w1 af->af.cell? (ad eP AB)=some (.string AP)/\af.cell? (ad eP (AB+1))=some (.string B0) from fun af ae=>⟨(ae.cell (p:=ad eP AB) BL).trans Aq,(ae.cell (p:=ad eP (AB+1)) BL).trans BK⟩);clear Ap Aq BK hO hw;by_cases A7:a=wd
 rotate_left
 ·have ajK:=aa (hl.trans (if_neg fun e=>A7 e.1));have CL:(AP.toList == AO.toList)=false:=by rw [AA,Al.o,Eb,Eb,beq_eq_false_iff_ne];exact A7
  clear A7 hl AA Y EP ah bg Ad;have kE:=aa fun af (aj:Bl w1 af)=>And.intro ((AV.o af aj).1) ((dM.o af aj).2.1);refine Kj 17 [_,_,_,_,_,_,_,_,_,_,_,_,_,_,_,_,_] ?_;exact ajJ
 have CS:AP.toList=AO.toList:=by rw [AA,Al.o,A7]
 have kE:=aa fun af (aj:Bl w1 af)=>And.intro ((AV.o af aj).1) (And.intro ((dM.o af aj).2.1) ((AV.o af aj).2));have FL:=aa fun af (aj:Bl w1 af)=>(Bv.o af).mono fun e aC h=>And.intro h.1 (aj.trans (h.2.mono aj.size));cases hm:eF b with
 | false =>
  rw [hm] at FL hl;have ajK:=aa (hl.trans (if_neg sp));clear A7 hl AA Y EP ah bg Ad hm;refine Kj 17 [_,_,_,_,_,_,_,_,_,_,_,_,_,_,_,_,_] ?_;exact ajJ
 | true =>
  rw [hm] at FL hl;have BM:=aa (hl.trans (if_pos ⟨A7,rfl⟩));obtain⟨g,M,Au,Bw,C8,tT,BO⟩:=BG.o;have AJ:=Bo.o;rw [Au] at AJ;obtain⟨CU,e,AJ⟩:=AJ;cases e;have BP:=tT.lt;obtain⟨Ae,Af⟩:=ai (decide (b∈s.seen));have C9:=aa (fun af (ae:Bl w af)=>show (Instr.lookup 147 (.map (some g)) (.string B0) false).run prog af = .ok (.bool Ae) af from by
   have:=(tT.below ae BP).look ar5 underlying9 underlying147 false (aES af) B0 (by rw [Y,iM];unfold maxLen;omega);rw [show B0.data.toList=b from by rw [Y];simp [az],BO b] at this;rw [Af];by_cases I:b∈s.seen
   ·rw [if_pos I] at this;rw [decide_eq_true I];exact this
   ·rw [if_neg I] at this;rw [decide_eq_false I];exact this)
  have Aw:=aa (fun af (ae:Bl w af) (I:Ae=true)=>show Ai (.returned (.tuple #[])) af from by
   rw [Af] at I;rw [BH.o,BM.o,if_pos (of_decide_eq_true I)];exact jM.plain BF.o ae)
  have Ag:=aa (fun af (ae:Bl w af) (I:Ae=false)=>show Calls prog 223 #[pp R 0,.string B0,.string AO,.map (some g)] af fun e aC=>e = .returned (.tuple #[])/\Ai (.returned (.tuple #[])) aC from by
   have:=ar6 af L v q s (BF.o.below ae) (Bn.o.below ae) (BG.o.below ae) EP b wd Ad g Au;rw [fE,<- Bp.o,<- Y,<- Al.o] at this;refine this.mono fun e aC k=>⟨k.1,?_⟩;rw [Af] at I;rw [BH.o,BM.o,if_neg (of_decide_eq_false I)];have:=k.since ae bg;rw [k.1] at this;exact this)
  have BQ:=aa (show ∀ af,Bl w1 af->af.cell? (ad g4 0)=some (.map (some g)) from fun af ae=>((Ab.trans (ae.mono gG)).cell (p:=ad g4 0) AJ.lt).trans (AJ.cell 0));have Ay:=aa Ab;clear hl AA Y tT BO Au EP ah bg Ad hm Af Bw C8 AJ A7 BP Bi;refine Kj 17 [_,_,_,_,_,_,_,_,_,_,_,_,_,_,_,_,_] ?_;intro af aj;have oh:=aa aj;obtain⟨CV,BX⟩:=ai af;rw [<- BX] at oh |-;clear aj BX;go_wp2_with fail;have kE:=aa fun af (aj:Bl w1 af)=>And.intro (BQ.o af aj) (And.intro ((AV.o af aj).2) (C9.o af (aR Ay.o aj)));refine qE 6 [_,_,_,_,_,_] (Bl w1) (oh.o.drew) ?_;intro af aj;have Az:=aa aj;obtain⟨uJ,Bb⟩:=ai af;rw [<- Bb] at Az |-;clear aj Bb;cases Ae with
  | true =>
   have CE:=aa (Aw.o uJ (aR Ay.o Az.o) rfl);clear Aw Ag;go_wp2_with fail;exact qm CE.o
  | false =>
   replace Ag:=aa fun af ae=>Ag.o af ae rfl;clear Aw;go_wp2_with fail;have kE:=aa fun af (aj:Bl w1 af)=>And.intro ((dM.o af aj).2.2) (And.intro ((AV.o af aj).2) (And.intro ((dM.o af aj).2.1) (BQ.o af aj)));refine qE 6 [_,_,_,_,_,_] (Bl w1) (Az.o.drew) ?_;intro af aj;have CJ:=aa (aR Ay.o aj);clear aj;go_wp2_with (go_at_call 223; refine jw (Ag.o af CJ.o) ?_;intro aC gX);exact qm gX.o
theorem aEV {a b:aRB} (p:Addr) (u:Value) (h:b.heap[k]?=a.heap[k]?):(b.setCell p u).heap[k]?=(a.setCell p u).heap[k]?:=by
 by_cases hk:k=p.block
 ·subst hk;simp only [World.setCell,Array.getElem?_modify,h]
 ·rw [Below.heap_setCell _ _ _ k hk,Below.heap_setCell _ _ _ k hk,h]
theorem aEW {a b:aRB} (h:Below B a b) (p:Addr) (u:Value):Below B (a.setCell p u) (b.setCell p u) :=
 ⟨h.os,h.tape,h.output,by simpa [World.setCell] using h.size,fun k hk=>aEV p u (h.block k hk)⟩
theorem DT.setCell {l:aRH} (h:DT w base g l) (ae:w.heap[b]?=some (.cells cs 295 bf)) (o:Nat) (u:Value):DT (w.setCell ⟨b,o,none⟩ u) base g l:=by
 obtain⟨J,p,A,c,ax,aL,I⟩:=h;refine⟨J,p,A,c,(aQE _ _ _ g ?_).trans ax,aL,I.setOther (p:=ad b o) (I.ne ae dc) u⟩;rintro rfl;rw [ax] at ae;injection ae with ae
 injection ae with _ ae
 cases ae
theorem I7.setCell (h:I7 w g) (ae:w.heap[b]?=some (.cells cs 295 bf)) (o:Nat) (u:Value):I7 (w.setCell ⟨b,o,none⟩ u) g:=by
 unfold I7 at *;refine (aQE _ _ _ g ?_).trans h;rintro rfl;rw [h] at ae;injection ae with ae
 injection ae with _ ae
 cases ae
theorem aEX (l:List ak) (x:ak):qI (l++[x])=qI l++(x++[10]):=by simp [qI]
theorem aEY (l k:List ak):qI (l++k)=qI l++qI k:=by simp [qI]
theorem aEZ [dR] (w:aRB) (L:iW) (v:Env) (q:Option Nat) (s:aJ) (h:jL w L v q s) (A:aRC) (c:Nat) (l:List ak) (av:Rd w 1 A l.length (cu l)) (hl:l.length<=1000000) (hw:(qI l).length<=1000000) :
  Calls prog 252 #[fE L.R,.slice A l.length c] w (jM w L v q (s.xw l)):=by
 have I:=h.size;obtain⟨R,M,n,AJ,Bf,Ae⟩:=nq3 L.R l.length (jM w L v q (s.xw l));rw [fE,<- M,<- AJ,<- Ae];rw [<- AJ] at av hl;obtain⟨CZ,Ca,us,AA⟩:=h;have Aw:R < w.heap.size:=by rw [M];exact AA.run.lt
 have Af:w.cell? (ad R 2)=some (.string (az s.buf)):=by rw [M];exact (AA.cell 2).1
 have Ay:w.frozen? ⟨R,2,none⟩=false:=by rw [M];exact (AA.cell 2).2
 have h1:=AA.one (s':={ s with buf:=[] }) (i:=2) (u:=.string ⟨#[]⟩) rfl rfl rfl rfl;rw [<- M] at h1;have Az:∃ cs,w.heap[R]?=some (.cells cs 295 (0,0)):=⟨_,by rw [M];exact AA.run⟩;have hA:=fun (W:aRB) (Bi:Below w.heap.size (w.setCell ⟨R,2,none⟩ (.string ⟨#[]⟩)) W)=>show Calls prog 221 #[pp R 0,.string (az (qI l))] W fun e af=>e = .returned (.tuple #[])/\Bf (.returned (.tuple #[])) af from by
  have BA:Below (w.setCell ⟨R,2,none⟩ (.string ⟨#[]⟩)).heap.size (w.setCell ⟨R,2,none⟩ (.string ⟨#[]⟩)) W:=by rw [World.size_setCell];exact Bi
  have BF:=WT W L v q { s with buf:=[] } ⟨_,_,_,h1.1.below BA⟩ sp (qI l) om;rw [fE,<- M] at BF;refine BF.mono fun e af k=>⟨k.1,?_⟩;rw [Ae];exact⟨rfl,k.2.1,(h1.2.trans (dw.gT BA (by rw [World.size_setCell];exact I))).trans k.2.2⟩
 obtain⟨AL,Bn,Bo,Ag,Bp,Bq⟩:=hq6 hA Az av AJ hw Af;obtain⟨dI,A7⟩:=ai (w.alloc (.cells #[.pointer none,.slice none 0 0] 198));have BG:Bl w dI:=by rw [A7];exact (Below.refl _ w).alloc (aQm _) _
 have Ah:I7 dI w.heap.size:=by rw [A7];exact aQz w _
 clear M Ae AA Af Ay h1 hA Az av AJ hw;go_enter func252,ntmps252;go_wp2;rw [<- A7];clear A7;go_loopw [9] (fun i wr=>∃ k:Nat,k<=n/\i = .int .i64 k/\DT wr w.heap.size w.heap.size (qI (l.take k))/\Bl w wr/\(k=0->I7 wr w.heap.size)) (fun i _=>n - (intOf i).toNat);case atStart=>exact⟨0,om,rfl,Ah.at_ (aQm _),BG,fun _=>Ah⟩
 case round =>
  clear BG Ah;obtain⟨k,hk,rfl,I,J,AO⟩:=hrel;by_cases Br:k < n
  ·have Bt:(k:Int) < n:=om;obtain⟨x,ah⟩:∃ x,l[k]?=some x:=⟨_,aQp (by rw [<- Ag.o];exact Br)⟩;have BH:l.take (k+1)=l.take k++[x]:=by rw [List.take_add_one,ah];rfl
   obtain⟨b,o,rfl,hcell⟩:=(Bo.o.gp J).2 om;have Bu:wr.cell? (ad b (o+k))=some (.string (az x)):=hcell k _ (by rw [cu,List.getElem?_map,ah];rfl);have AP:qI (l.take (k+1))=qI (l.take k)++(x++[10]):=by rw [BH,aEX]
   have hle:(qI (l.take (k+1))).length<=1000000:=by have h:=congrArg (fun z=>(qI z).length) (aRj (k+1) l);simp only [aEY,List.length_append] at h;have:=Bp.o;omega
   rw [AP] at hle;simp only [List.length_append,List.length_cons,List.length_nil] at hle;have BI:az x++⟨#[10]⟩=az (x++[10]):=YH x [10];obtain⟨X,Ai,Y,AV⟩:=nq2 (az x) (az (x++[10]));have Bv:X.size=x.length:=by rw [Ai,iM]
   have Bw:Y.size=x.length+1:=by rw [AV,iM];simp
   have BJ:Y.data.toList=x++[10]:=by rw [AV];simp [az]
   rw [<- Ai] at Bu BI;rw [<- AV] at BI;obtain⟨BK,BL⟩:=ai (qI (l.take k));rw [<- BL] at I hle AP;have Cb:¬ (X.size+1 > 9223372036854775807):=om;obtain⟨C8,C9,CE⟩:=hq3 BJ AP J;have CJ:=J.size;have CK:BK.length+Y.size<=100000000:=om;clear AO ah BH hcell hle Ai AV Bv Bw BJ AP BL J;go_wp2_with (go_at_call 101; refine (aC0 wr w.heap.size w.heap.size BK I Y CK CJ).mono ?_;rintro e af ⟨rfl,BM,CL⟩;rw [C8.o,<- C9.o] at BM;clear I);go_roundw;case rel=>exact⟨k+1,om,by go_num,BM,CE.o.trans (CL.mono (aQm _)),fun e=>om⟩
   case measure=>simp [intOf];omega
  ·have AZ:k=n:=om;have Bt:¬ (k:Int) < n:=om;have Af:=(J.cell (p:=ad R 2) Aw).trans Bq.o;obtain⟨cs,hcs⟩:=Bn.o;have Ak:=(J.block R Aw).trans hcs;have Ay:=aQF wr R 2 _ _ Ak;have Al:l.take k=l:=by rw [AZ,Ag.o,List.take_length]
   rw [Al] at I;have Aa:=aEW J ⟨R,2,none⟩ (.string ⟨#[]⟩);have Ab:=I.setCell Ak 2 (.string ⟨#[]⟩);have Ad:l=[]->I7 (wr.setCell ⟨R,2,none⟩ (.string ⟨#[]⟩)) w.heap.size:=fun e=>(AO (by rw [AZ,Ag.o,e];rfl)).setCell Ak 2 _;obtain⟨BO,Am⟩:=ai (wr.setCell ⟨R,2,none⟩ (.string ⟨#[]⟩));rw [<- Am] at Aa Ab Ad;have BP:=aa Am;clear Am;have BQ:=I;by_cases AB:l=[]
   ·have CS:=Ad AB;have A7:az (qI l)=⟨#[]⟩:=by rw [AB];rfl
    rw [A7] at AL;have Ao:=aa Aa;clear AZ Al I Ab Ad AO J BQ AB A7;go_wp2_with (first
     | (go_at_call 104; rw [<- BP.o];refine (aps BO w.heap.size w.heap.size CS).mono ?_;rintro e Ap ⟨rfl,Aq⟩)
     | (go_at_call 221; refine jw (AL.o Ap (Ao.o.trans Aq)) ?_;intro CU Au))
    refine qm ?_;exact Au.o
   ·have BX:qI l≠[]:=by
     cases l with
     | nil=>exact absurd rfl AB
     | cons a r=>simp [qI]
    have Bb:(⟨(qI l).toArray⟩:ByteArray)=az (qI l):=rfl;obtain⟨Ao,Bc,CV,CW⟩:=hq4 Aa Bb Ab BX;obtain⟨Z,Bd⟩:=ai (az (qI l));rw [<- Bd] at AL Bc;clear AZ Al I Ab Ad AO J BQ AB BX Bb Aa Bd;go_wp2_with (first
     | (go_at_call 104; rw [<- BP.o];refine (apr BO w.heap.size w.heap.size (qI l) CV.o CW.o).mono ?_;rw [Bc.o];rintro e Ap ⟨rfl,Aq⟩)
     | (go_at_call 221; refine jw (AL.o Ap (Ao.o.trans Aq)) ?_;intro CU Au))
    refine qm ?_;exact Au.o
theorem Uz:∀ l:List ak,(qI l).length=(l.map fun x=>x.length+1).sum
 | []=>rfl
 | x :: l=>by
  have:=Uz l;unfold qI at *;simp [this];omega
theorem aE3 {k:List ak} (h:l.Sublist k):(l.map fun x=>x.length+1).sum<=(k.map fun x=>x.length+1).sum:=by
 induction h with
 | slnil=>exact aQm _
 | cons a _ I=>simp only [List.map_cons,List.sum_cons];omega
 | cons_cons a _ I=>simp only [List.map_cons,List.sum_cons];omega
theorem asg {k:List ak} (h:l.Sublist k):(qI l).length<=(qI k).length:=by rw [Uz,Uz];exact aE3 h
theorem ash (l:List ak):(Lib.compact l).Sublist l:=by
 have hl:l=(List.range l.length).map (l.toArray[·]!):=by
  apply aRv
  ·simp
  ·intro i h1 I;simp [h1]
 unfold Lib.compact Lib.compactUpTo;conv=>rhs;rw [hl]
 exact List.Sublist.map _ List.filter_sublist
theorem aE4 (l:List ak):(qI (rG l)).length=(qI l).length:=by rw [Uz,Uz];exact ((List.mergeSort_perm l _).map _).sum_nat
theorem ajP (p:UInt8->Bool):∀ s:ak,(qI (jg p s)).length=s.length+1
 | []=>rfl
 | c :: s=>by
  obtain⟨x,r,h1,J⟩:=VU p c s;have I:=ajP p s;rw [h1,Uz] at I;rw [J,Uz];simp only [List.map_cons,List.sum_cons] at I;split <;> simp only [List.map_cons,List.sum_cons,List.length_cons,List.length_nil] <;> omega
theorem asi (s:ak):(qI (jP s)).length<=s.length+1:=by
 rw [jP];split
 ·simp [qI]
 ·split
  ·rw [ajP,List.length_dropLast];omega
  ·rw [ajP];omega
theorem aE5 (w:aRB) (n:Nat) (aB:n<=1000000000) (bg:B<=w.heap.size) (bY:Lib.TabBelow prog B w "internal/strconv.uint64pow10" .u64 Lib.pow10Tab) :
  CB 102 #[.int .i64 n] w (.string (az (Lib.decDigits n))):=by
 have I:Lib.TabBelow prog w.heap.size w "internal/strconv.uint64pow10" .u64 Lib.pow10Tab:=fun w' ae=>bY w' (ae.mono bg);refine (Any.strconv_Itoa Tryz.keyItoa n om om w I.here).mono ?_;rintro e w' ⟨rfl,k,os,rfl⟩;exact⟨by rw [Lib.itoa_nonneg];rfl,Lib.below_grow _ _ (aQm _) _ _⟩
structure E5 [dR] (dI w:aRB) (L:iW) (v:Env) (q:Option Nat) (s:aJ) (A:aRC) (c:Nat) (l:List ak):Prop where
 run:jL dI L v q s
 fit:Fit dI L s
 below:Bl dI w
 own:Own w dI.heap.size 9 1 A l.length c (cu l)
 len:l.length<=1000000
 all:∀ x∈l,x.length<=1000000
 whole:(qI l).length<=1000000
theorem E5.lines [dR] {L:iW} (h:E5 dI w L v q s A c l) (ae:Bl dI w') {A':aRC} {c':Nat} {k:List ak} (aG:Own w' b 9 1 A' k.length c' (cu k)) (hk:k.length<=1000000) (hw:(qI k).length<=1000000) (aK:R=L.R) {ig:aRF} (bR:ig=jM dI L v q (s.xw k)) :
  Calls prog 252 #[pp R 0,.slice A' k.length c'] w' fun e af=>e = .returned (.tuple #[])/\ig (.returned (.tuple #[])) af:=by
 have h1:=aEZ w' L v q s (h.run.below ae) A' c' k aG.rd hk hw;rw [fE,<- aK] at h1;refine h1.mono fun e af x=>⟨x.1,?_⟩;rw [bR];have:=x.since ae h.run.size;rw [x.1] at this;exact this
theorem E5.grown [dR] {L:iW} (h:E5 dI w L v q s A c l) (ae:Bl w w1) (ax:w1.grownBy w' (bV A)):Bl dI w':=by have h1:Below dI.heap.size dI w1:=h.below.trans (ae.mono h.below.size);exact h1.grown ax h1.size fun k e=>(h.own.block k e).1
theorem aE6 [dR] (dI w:aRB) (L:iW) (v:Env) (q:Option Nat) (s:aJ) (A:aRC) (c:Nat) (l:List ak) (h:E5 dI w L v q s A c l) (arg:ak) :
  Calls prog 229 #[fE L.R,.string (az QW),.string (az arg),.slice A l.length c] w (jM dI L v q (s.xw (rG l))):=by
 obtain⟨R,J,Y,AJ,N,M,n,A7⟩:=nq4 L.R (az arg) (az QW) l.length;obtain⟨Ad,AA⟩:=ai (jM dI L v q (s.xw (rG l)));have AL:N.toList=QW:=by rw [M];exact Eb _
 have Ae:N.toList=[115,111,114,116]:=AL;have AB:=fun W (ae:Bl w W)=>aEa W dI.heap.size A c l (h.own.below ae (aQm _)) h.len;have I:=fun (W W':aRB) (ae:Bl w W) (ax:W.grownBy W' (bV A)) (AO:Own W' dI.heap.size 9 1 A l.length c (cu (rG l)))=>h.lines (h.grown ae ax) (k:=rG l) (A':=A) (c':=c) (b:=dI.heap.size) (by rw [DU];exact AO) (by rw [DU];exact h.len) (by rw [aE4];exact h.whole) J AA;rw [DU] at I;rw [fE,<- J,<- AJ,<- M,<- AA,<- A7];rw [<- A7] at AB I;have AP:=aa AB;have AV:=aa I;clear AB I h J AJ M A7 AA AL;go_enter func229,ntmps229;go_wp2_with (first
  | (go_at_call 36; refine CG (AP.o _ gK) ?_;intro af AZ Aa)
  | (go_at_call 252; refine jw (AV.o _ af gK Aa.o AZ.o) ?_;intro aC Ab))
 refine qm ?_;exact Ab.o
theorem aE7 [dR] (dI w:aRB) (L:iW) (v:Env) (q:Option Nat) (s:aJ) (A:aRC) (c:Nat) (l:List ak) (h:E5 dI w L v q s A c l) (arg:ak) :
  Calls prog 229 #[fE L.R,.string (az QX),.string (az arg),.slice A l.length c] w (jM dI L v q (s.xw (TW l))):=by
 obtain⟨R,J,Y,AJ,N,M,n,A7⟩:=nq4 L.R (az arg) (az QX) l.length;obtain⟨Ad,AA⟩:=ai (jM dI L v q (s.xw (TW l)));have AL:N.toList=QX:=by rw [M];exact Eb _
 have Ae:N.toList=[117,110,105,113]:=AL;have AB:=fun W (ae:Bl w W)=>aEb W dI.heap.size A c l (h.own.below ae (aQm _)) h.len;have I:=fun (W W':aRB) (ae:Bl w W) (ax:W.grownBy W' (bV A)) (AO:Own W' dI.heap.size 9 1 A (Lib.compact l).length c (cu (Lib.compact l)))=>h.lines (h.grown ae ax) (k:=TW l) (A':=A) (c':=c) (b:=dI.heap.size) AO (by have:=(ash l).length_le;have:=h.len;unfold TW;omega) (by have:=asg (ash l);have:=h.whole;unfold TW;omega) J AA;unfold TW at I;obtain⟨m,hm⟩:=ai ((Lib.compact l).length);rw [fE,<- J,<- AJ,<- M,<- AA,<- A7];rw [<- A7,<- hm] at AB;rw [<- hm] at I;have AP:=aa AB;have AV:=aa I;clear AB I h J AJ M A7 AA AL hm;go_enter func229,ntmps229;go_wp2_with (first
  | (go_at_call 37; refine CG (AP.o _ gK) ?_;intro af AZ Aa)
  | (go_at_call 252; refine jw (AV.o _ af gK Aa.o AZ.o) ?_;intro aC Ab))
 refine qm ?_;exact Ab.o
theorem aE8 [dR] (dI w:aRB) (L:iW) (v:Env) (q:Option Nat) (s:aJ) (A:aRC) (c:Nat) (l:List ak) (h:E5 dI w L v q s A c l) (arg:ak) (bn:arg.length<=1000000) :
  Calls prog 229 #[fE L.R,.string (az QV),.string (az arg),.slice A l.length c] w (jM dI L v q (s.xw (l.filter (mJ · arg)))):=by
 obtain⟨R,J,Y,M,N,A7,n,AA⟩:=nq4 L.R (az arg) (az QV) l.length;obtain⟨Ai,AB⟩:=ai (jM dI L v q (s.xw (l.filter (mJ · arg))));have AL:N.toList=QV:=by rw [A7];exact Eb _
 have Ak:N.toList=[107,101,101,112]:=AL;have AV:=h.fit.EX;have AZ:=h.fit.base;have AO:∀ k,k < dI.heap.size->some k≠bV A:=fun k hk e=>by have:=(h.own.block k e.symm).1;omega
 have AP:some w.heap.size≠bV A:=fun e=>by have:=(h.own.block _ e.symm).2.1;omega
 have I:=fun W (ae:Bl w W) (hc:W.cell? (ad w.heap.size 0)=some (.string (az arg)))=>aEg W dI.heap.size A c l (h.own.below ae (aQm _)) h.len h.all w.heap.size arg ⟨hc,(h.fit.wh.on h.below).on ae,bn⟩ AP (AO _ om);have AJ:=fun (W W':aRB) (ae:Bl w W) (ax:W.grownBy W' (bV A)) (Aa:Own W' dI.heap.size 9 1 A (l.filter (mJ · arg)).length c (cu (l.filter (mJ · arg))))=>h.lines (h.grown ae ax) (k:=l.filter (mJ · arg)) (A':=A) (c':=c) (b:=dI.heap.size) Aa (by have:=aQ0 (mJ · arg) l;have:=h.len;omega) (by have:=asg (List.filter_sublist (l:=l) (p:=(mJ · arg)));have:=h.whole;omega) J AB;obtain⟨m,hm⟩:=ai ((l.filter (mJ · arg)).length);rw [fE,<- J,<- M,<- A7,<- AB,<- AA];rw [<- AA,<- hm] at I;rw [<- hm] at AJ;rw [<- M] at I;have hcell:(w.alloc (.cells #[.string Y] 9)).cell? (ad w.heap.size 0)=some (.string Y):=aQo _ _ 0 _ _ _ (aQt w _);obtain⟨Ab,Ad,Ae⟩:=hq3 hcell I AJ;clear I AJ h J M A7 AA AB AL hm hcell AO AP AV AZ bn;go_enter func229,ntmps229;go_wp2_with (first
  | (go_at_call 253; refine CG (Ad.o _ gK Ab.o) ?_;intro af Af Ag)
  | (go_at_call 252; refine jw (Ae.o _ af gK Ag.o Af.o) ?_;intro aC Ah))
 refine qm ?_;exact Ah.o
theorem E5.store [dR] {L:iW} (h:E5 dI w L v q s A c l) (ae:Bl w W) (z:ak):jM dI L v q { s with buf:=z } (.returned (.tuple #[])) (W.setCell ⟨L.R,2,none⟩ (.string (az z))):=by have I:Bl dI W:=h.below.trans (ae.mono h.below.size);obtain⟨M,Y,us,J⟩:=h.run;have h1:=(J.below I).one (s':={ s with buf:=z }) (i:=2) (u:=.string (az z)) rfl rfl rfl rfl;exact⟨rfl,⟨_,_,_,h1.1⟩,(dw.gT I h.run.size).trans h1.2⟩
theorem E5.cells [dR] {L:iW} (h:E5 dI w L v q s A c l) (ae:Bl w W):W.cell? (ad L.R 2)=some (.string (az s.buf))/\W.frozen? ⟨L.R,2,none⟩=false:=by have I:Bl dI W:=h.below.trans (ae.mono h.below.size);obtain⟨M,Y,us,J⟩:=h.run;exact (J.below I).cell 2
theorem aFa [dR] (dI w:aRB) (L:iW) (v:Env) (q:Option Nat) (s:aJ) (A:aRC) (c:Nat) (l:List ak) (h:E5 dI w L v q s A c l) (arg:ak) :
  Calls prog 229 #[fE L.R,.string (az QZ),.string (az arg),.slice A l.length c] w (jM dI L v q ({ s with buf:=Lib.decDigits l.length++[10] })):=by
 obtain⟨R,I,Y,AO,N,M,n,A7⟩:=nq4 L.R (az arg) (az QZ) l.length;obtain⟨AP,AA⟩:∃ AP:Ending->World->Prop,AP=jM dI L v q ({ s with buf:=Lib.decDigits l.length++[10] }):=⟨_,rfl⟩;have AV:N.toList=QZ:=by rw [M];exact Eb _
 have Ai:N.toList=[99,111,117,110,116]:=AV;have hlen:=h.len;have AZ:=aqs l.length om;have j3:=fun W (ae:Bl w W)=>aE5 W l.length om (B:=L.B) (aQn (aQn h.fit.base h.below.size) ae.size) ((h.fit.Gg.on (h.below.mono h.fit.base)).on (ae.mono (aQn h.fit.base h.below.size)));have J:=fun W (ae:Bl w W)=>h.store ae (Lib.decDigits l.length++[10]);have AB:=fun W (ae:Bl w W)=>h.cells ae;have Aa:az (Lib.decDigits l.length)++⟨#[10]⟩=az (Lib.decDigits l.length++[10]):=YH _ [10];obtain⟨D,AJ,Z,Ab⟩:=nq2 (az (Lib.decDigits l.length)) (az (Lib.decDigits l.length++[10]));have Ad:D.size<=20:=by rw [AJ,iM];exact AZ
 have Ak:¬ (D.size+1 > 9223372036854775807):=om;rw [<- AJ] at j3 Aa;rw [<- Ab] at J Aa;rw [fE,<- I,<- AO,<- M,<- AA,<- A7];rw [<- A7] at j3;rw [<- AA,<- I] at J;rw [<- I] at AB;obtain⟨Ae,Af,Ag⟩:=hq3 J j3 AB;clear J j3 AB h I AO M A7 AA AV AJ Ab hlen AZ Ad;go_enter func229,ntmps229;go_wp2_with (first
  | (go_at_call 102; refine (Af.o _ gK).mono ?_;rintro e af ⟨rfl,ae⟩;have AL:Bl w af:=gK.trans (ae.mono sp);have Ah:=aa AL;obtain⟨Al,Am⟩:=Ag.o af AL;clear ae AL))
 refine qm ?_;exact Ae.o _ Ah.o
def Py (c:UInt8):UInt8:=if 97<=c.toNat/\c.toNat<=122 then c - 32 else c
def JG (k:Nat) (b:ak):ak:=(b.take k).map Py++b.drop k
theorem aFb (b:ak):JG 0 b=b:=by simp [JG]
theorem aFc {b:ak} (h:b.length<=k):JG k b=Je b:=by rw [JG,List.take_of_length_le h,List.drop_of_length_le h,List.append_nil];rfl
theorem asj {b:ak} (h:b[k]?=some x):JG (k+1) b=(JG k b).set k (Py x):=by
 obtain⟨hk,rfl⟩:=aQs.1 h;have hl:((b.take k).map Py).length=k:=by simp;omega
 rw [JG,JG,List.set_append_right _ _ om,hl,Nat.sub_self,List.drop_eq_getElem_cons hk,List.set_cons_zero,List.take_succ_eq_append_getElem hk,List.map_append,List.append_assoc];rfl
theorem asl {b:ak} (h:b[k]?=some x):(JG k b)[k]?=some x:=by
 obtain⟨hk,rfl⟩:=aQs.1 h;have hl:((b.take k).map Py).length=k:=by simp;omega
 rw [JG,List.getElem?_append_right om,hl,Nat.sub_self,List.drop_eq_getElem_cons hk];rfl
theorem aFd (l:ak) (k:Nat) (x:UInt8):(bO l).set k (.int .u8 x.toNat)=bO (l.set k x):=by unfold bO;rw [List.map_set]
theorem aFe {l:ak} (h:l[k]?=some x):(bO l)[k]?=some (.int .u8 x.toNat):=by rw [bO,List.getElem?_map,h];rfl
theorem aFf {l:ak} (h:l[k]?=some x):l.set k x=l:=by obtain⟨hk,rfl⟩:=aQs.1 h;exact List.set_getElem_self hk
theorem aFg [dR] (dI w:aRB) (L:iW) (v:Env) (q:Option Nat) (s:aJ) (A:aRC) (c:Nat) (l:List ak) (h:E5 dI w L v q s A c l) (arg:ak) :
  Calls prog 229 #[fE L.R,.string (az QY),.string (az arg),.slice A l.length c] w (jM dI L v q ({ s with buf:=Je s.buf })):=by
 obtain⟨R,AO,Y,Ap,N,Ab,n,Aq,BL,Ad⟩:=nq5 L.R (az arg) (az QY) l.length (jM dI L v q ({ s with buf:=Je s.buf }));have Au:N.toList=QY:=by rw [Ab];exact Eb _
 have Bv:N.toList=[117,112,112,101,114]:=Au;have Aw:=h.fit.lim.buf;have AJ:=fun W (ae:Bl w W)=>h.store ae (Je s.buf);have AA:=fun W (ae:Bl w W)=>h.cells ae;obtain⟨I,Ae⟩:=ai s.buf;obtain⟨X,AP,Z,Af⟩:=nq2 (az I) (az (Je I));rw [<- Ae] at AJ AA Aw;have Ay:BL=jM dI L v q { s with buf:=Je I }:=by rw [Ad,Ae]
 rw [<- AP] at AA;rw [<- Af] at AJ;obtain⟨m,hm⟩:=ai X.size;have BM:X.size=I.length:=by rw [AP,iM]
 have Az:X.data.toList=I:=by rw [AP];simp [az]
 have Bw:m<=65536:=om;rw [fE,<- AO,<- Ap,<- Ab,<- Ad,<- Aq];rw [<- Ay,<- AO] at AJ;rw [<- AO] at AA;have BO:=(AA w (Below.refl _ _)).1;have BA:m=I.length:=om;obtain⟨BP,BQ,BX,Ag,BF,Bb⟩:=hq6 AJ AA Az BA hm Af;have Bc:X.size<=maxLen:=by unfold maxLen;omega
 have C8:R < w.heap.size:=aQy _ _ BO;clear AJ AA h AO Ap Ab Aq Ad Ay Au AP Af BM Az hm Ae Aw BA;go_enter func229,ntmps229;go_wp2_with ((with_reducible refine aoi 5 w.heap.size X underlying9 underlying48 underlying5 ?_ Bc ?_ ?_);(simp);exact rfl;intro iD c2 af J ae Bd;have Bf:=aa J;have BG:Bl w af:=gK.trans (ae.mono sp);have Bi:=aa BG;clear J ae BG Bd;rw [<- BF.o]);have BH:Own af w.heap.size 5 1 iD m c2 (bO I):=by have:=Bf.o;rw [BX.o,<- BF.o] at this;exact this
 go_loopw [34] (fun i wr=>∃ k:Nat,k<=m/\i = .int .i64 k/\Own wr w.heap.size 5 1 iD m c2 (bO (JG k I))/\Bl w wr) (fun i _=>m - (intOf i).toNat);case atStart=>exact⟨0,om,rfl,by rw [aFb];exact BH,Bi.o⟩
 case round =>
  obtain⟨k,hk,rfl,J,M⟩:=hrel;clear BH;by_cases BI:k < m
  ·have Bn:(k:Int) < m:=om;obtain⟨x,ah⟩:∃ x,I[k]?=some x:=⟨_,aQp (by rw [<- Ag.o];exact BI)⟩;obtain⟨b,o,u,rfl,Bo,C9,hu,Ah,CE,AV⟩:=J.spot BI;rw [aFe (asl ah)] at hu;obtain rfl:=aQS hu;have A7:=AV (.int .u8 (Py x).toNat);rw [aFd,<- asj ah] at A7;have Ai:x.toNat < 256:=x.toNat_lt;by_cases AL:97<=x.toNat/\x.toNat<=122
   ·have hval:((Py x).toNat:Int)=(x.toNat:Int) - 32:=by rw [Py,if_pos AL,UInt8.toNat_sub_of_le _ _ (by rw [UInt8.le_iff_toNat_le];have:(32:UInt8).toNat=32:=rfl;omega)];have:(32:UInt8).toNat=32:=rfl;omega
    have AZ:(97:Int)<=x.toNat:=om;have Ak:(x.toNat:Int)<=122:=om;have Bp:IntKind.u8.wrap ((x.toNat:Int) - 32)=(x.toNat:Int) - 32:=IntWalk.u8_in _ (by constructor <;> omega);rw [hval] at A7;obtain⟨y,hy⟩:=ai (x.toNat:Int);rw [<- hy] at Ah A7 Bp AZ Ak;have Aa:=aa A7;have AB:=aa M;clear ah hu AV A7 J AL hval hy Ai M;go_wp2_with fail;go_roundw;case rel=>exact⟨k+1,om,by go_num,Aa.o,AB.o.setCell Bo _⟩
    case measure=>simp [intOf];omega
   ·have Al:Py x=x:=by rw [Py,if_neg AL]
    have Am:Own wr w.heap.size 5 1 (some ⟨b,o,none⟩) m c2 (bO (JG (k+1) I)):=by rw [asj ah,Al,aFf (asl ah)];exact J
    have Aa:=aa Am;have AB:=aa M;by_cases AZ:97<=x.toNat
    ·have Ao:(97:Int)<=x.toNat:=om;have Ak:¬ (x.toNat:Int)<=122:=om;obtain⟨y,hy⟩:=ai (x.toNat:Int);rw [<- hy] at Ah Ao Ak;clear ah hu AV A7 J AL hy Ai M Am Al AZ;go_wp2_with fail;go_roundw;case rel=>exact⟨k+1,om,by go_num,Aa.o,AB.o⟩
     case measure=>simp [intOf];omega
    ·have Ao:¬ (97:Int)<=x.toNat:=om;obtain⟨y,hy⟩:=ai (x.toNat:Int);rw [<- hy] at Ah Ao;clear ah hu AV A7 J AL hy Ai M Am Al AZ;go_wp2_with fail;go_roundw;case rel=>exact⟨k+1,om,by go_num,Aa.o,AB.o⟩
     case measure=>simp [intOf];omega
  ·have Bq:k=m:=om;have Bn:¬ (k:Int) < m:=om;rw [aFc (by rw [<- Ag.o];omega)] at J;obtain⟨CJ,CK⟩:=BQ.o wr M;have Br:(Je I).length=m:=by rw [Ag.o];simp [Je]
   have BJ:=J.rd;have BK:(⟨(Je I).toArray⟩:ByteArray)=Z:=Bb.o.symm;obtain⟨AB,Bt,Bu⟩:=hq3 M BJ BK;clear Bq M J BJ BK;go_wp2_with ((with_reducible refine acO 5 iD m c2 (Je I) underlying48 underlying5 underlying9 Br Bt.o ?_ ?_);exact rfl;rw [Bu.o]);refine qm ?_;exact BP.o _ AB.o
structure Made (w:aRB) (g:Nat) (R:Nat) (A:aRC) (n fe:Nat) (mW Y:ByteArray):Prop where
 r:eO w g #[pp R 0] 247
 c:eO w (g+1) #[.slice A n fe,.string mW] 300
 a:eO w (g+1+1) #[.string Y] 9
section
variable {w w':aRB} {g R n fe:Nat} {A:aRC} {mW Y:ByteArray}
theorem Made.below (h:Made w g R A n fe mW Y) (ae:Bl w w'):Made w' g R A n fe mW Y:=⟨h.r.below ae,h.c.below ae,h.a.below ae⟩
theorem Made.arg (h:Made w g R A n fe mW Y) (Z:ByteArray):Made (w.setCell ⟨g+1+1,0,none⟩ (.string Z)) g R A n fe mW Z:=by have I:=h.a;unfold eO at I;refine⟨(aQE _ _ _ _ (by show g≠g+1+1;omega)).trans h.r,(aQE _ _ _ _ (by show g+1≠g+1+1;omega)).trans h.c,?_⟩;unfold eO;rw [setCell_eq_setRow w _ 0 _ _ _ _ I,setRow_heap w _ _ _ _ _ I];rfl
theorem asr (w:aRB) (R:Nat) (A:aRC) (n fe:Nat) (mW:ByteArray):Made (((w.alloc (.cells #[pp R 0] 247)).alloc (.cells #[.slice A n fe,.string mW] 300)).alloc (.cells #[.string ⟨#[]⟩] 9)) w.heap.size R A n fe mW ⟨#[]⟩ /\
  Bl w (((w.alloc (.cells #[pp R 0] 247)).alloc (.cells #[.slice A n fe,.string mW] 300)).alloc (.cells #[.string ⟨#[]⟩] 9)):=by
 have h1:Bl w (w.alloc (.cells #[pp R 0] 247)):=gK;refine⟨⟨?_,?_,?_⟩,(h1.alloc sp _).alloc (by simp;omega) _⟩
 ·unfold eO;rw [Below.heap_alloc _ _ _ (by simp;omega),Below.heap_alloc _ _ _ sp];exact aQt w _
 ·unfold eO;rw [Below.heap_alloc _ _ _ sp];have:=aQt (w.alloc (.cells #[pp R 0] 247)) (.cells #[.slice A n fe,.string mW] 300);rwa [World.size_alloc] at this
 ·have:=aQt ((w.alloc (.cells #[pp R 0] 247)).alloc (.cells #[.slice A n fe,.string mW] 300)) (.cells #[.string ⟨#[]⟩] 9);rwa [World.size_alloc,World.size_alloc] at this
end
theorem ajT (av:Rd w 1 A k (cu l)) (hk:0 < k):∃ b o,A=some ⟨b,o,none⟩/\b < w.heap.size/\∀ j x,l[j]?=some x->w.cell? (ad b (o+j))=some (.string (az x)):=by
 obtain⟨b,o,rfl,hc⟩:=av.2 hk;have hl:=av.1;have hlen:0 < l.length:=by rw [cu,List.length_map] at hl;omega
 refine⟨b,o,rfl,?_,fun j x ah=>hc j _ (ajw ah)⟩;have:=hc 0 _ (ajw (aQp hlen));exact aQy _ _ this
theorem ass {a:Array Value} {Q:aRF} (h:∀ R,R=Q->Calls P f a w R):Calls P f a w Q:=h Q rfl
theorem ast {k:ak} (h:N=az k):N.toList=k:=by rw [h];exact Eb _
theorem Eh {l:ak} (h:(N.toList == l)=false):(N.toList == l)=false/\¬ N.toList=l:=⟨h,fun e=>by rw [e,beq_self_eq_true] at h;cases h⟩
theorem gP {l:ak} (h:N.toList=l):(N.toList == l)=true/\N.toList=l:=⟨by rw [h,beq_self_eq_true],h⟩
theorem Ch {k l:ak} {K:List ak} (h:K.all (· != k)=true) (hl:l∈K):(k == l)=false:=by have:=aQV.1 h l hl;rw [Bool.eq_false_iff];intro e;rw [beq_iff_eq] at e;subst e;simp at this
theorem RH [dR] {a:Array Value} {L:iW} {gB:Option Nat} {S:aJ} {ig:aRF} (bR:ig=fun e w'=>∃ gB,jM w L v gB S e w') (h:jL w L v q s) (ae:Bl w af) (c:Calls prog f a af (jM af L v gB S)):Calls prog f a af fun e aC=>e = .returned (.tuple #[])/\ig (.returned (.tuple #[])) aC:=
 c.mono fun e aC k=>⟨k.1,by rw [bR];have:=k.since ae h.size;rw [k.1] at this;exact⟨_,this⟩⟩
theorem K6 {P:Prop} (h:P:=by (exact qm gX.o)):P:=h
structure Gh (v:Env):Prop where
 may:v.may=eF
 len:v.env.length<=1000000
 all:∀ x∈v.env,x.1.length<=1100000/\x.2.length<=1100000
def K7 [dR] (n:Nat) (ws:List ak):Prop:=∀ (w:aRB) (L:iW) (v:Env) (q:Option Nat) (s:aJ) (A:aRC) (fe:Nat) (rest:ak),Gh v->jL w L v q s->Fit w L s->(∀ t∈s.todo,t.BR=true)->rest.length<=1000000->Rd w 1 A n (cu ws)->n<=fe->Calls prog 192 #[fE L.R,.agg #[.slice A n fe,.string (az rest)]] w fun e w'=>∃ gB,jM w L v gB (s.wK v ⟨ws,rest⟩) e w'
theorem ajU {P Q:Prop} (k:Q) (h:y8 Q->P:=by (
 intro gW;refine ass fun ig fq=>?_;obtain⟨eP,iZ,hA,aU,WZ⟩:=ajT av om;rw [hA];clear hA;obtain⟨R,aK,mW,xR,X,aY⟩:=nq3 L.R (az rest) (az s.buf);obtain⟨N,eZ⟩:∃ N,N=az _/\w.cell? (ad eP iZ)=some (.string N):=⟨_,rfl,WZ 0 _ rfl⟩;obtain⟨nl,jI⟩:=ai ((jP s.buf).length);have jE:=ast eZ.1;first | (obtain⟨t1,v1⟩:=Eh (N:=N) (l:=[114,101,97,100]) (by (rw [jE];first | decide | exact Ch hk dc))) | obtain⟨t1,v1⟩:=gP (N:=N) (l:=[114,101,97,100]) jE
 first | (obtain⟨t2,v2⟩:=Eh (N:=N) (l:=[116,114,121]) (by (rw [jE];first | decide | exact Ch hk dc))) | obtain⟨t2,v2⟩:=gP (N:=N) (l:=[116,114,121]) jE
 first | (obtain⟨t3,v3⟩:=Eh (N:=N) (l:=[115,99,97,110]) (by (rw [jE];first | decide | exact Ch hk dc))) | obtain⟨t3,v3⟩:=gP (N:=N) (l:=[115,99,97,110]) jE
 first | (obtain⟨t4,v4⟩:=Eh (N:=N) (l:=[116,101,120,116]) (by (rw [jE];first | decide | exact Ch hk dc))) | obtain⟨t4,v4⟩:=gP (N:=N) (l:=[116,101,120,116]) jE
 first | (obtain⟨t5,v5⟩:=Eh (N:=N) (l:=[101,110,118]) (by (rw [jE];first | decide | exact Ch hk dc))) | obtain⟨t5,v5⟩:=gP (N:=N) (l:=[101,110,118]) jE
 first | (obtain⟨t6,v6⟩:=Eh (N:=N) (l:=[119,114,105,116,101]) (by (rw [jE];first | decide | exact Ch hk dc))) | obtain⟨t6,v6⟩:=gP (N:=N) (l:=[119,114,105,116,101]) jE
 first | (obtain⟨t7,E8⟩:=Eh (N:=N) (l:=[110,101,101,100]) (by (rw [jE];first | decide | exact Ch hk dc))) | obtain⟨t7,E8⟩:=gP (N:=N) (l:=[110,101,101,100]) jE
 first | (obtain⟨t8,E9⟩:=Eh (N:=N) (l:=[102,97,105,108]) (by (rw [jE];first | decide | exact Ch hk dc))) | obtain⟨t8,E9⟩:=gP (N:=N) (l:=[102,97,105,108]) jE
 have dn:=aa (fun af (ae:Bl w af)=>(ae.cell (p:=ad eP iZ) aU).trans eZ.2);have rR:=aa (fun W (ae:Bl w W)=>show Calls prog 203 #[.string X] W fun e w'=>∃ A c,e = .returned (.slice A nl c)/\Own w' W.heap.size 9 1 A nl c (cu (jP s.buf))/\Bl W w' from by (rw [aY,jI];exact adp W s.buf (by have:=hf.lim.buf;omega) (hf.wh.on ae)));have EY:=aa (fun af (ae:Bl w af)=>show af.cell? (ad R 2)=some (.string X) from by
  clear gW;obtain⟨_,_,_,Bn⟩:=h;rw [aY,aK];exact ((Bn.below ae).cell 2).1)
 obtain⟨uQ,dF,Dl,dm⟩:=hq4 fq aK xR aY;have cB:=aa eZ.1;have uq:=aa jI;rw [fE,<- aK,<- xR];clear WZ jE aK xR aY fq eZ aU jI;go_enter func192,ntmps192;go_upto_region 2 with fail
 obtain⟨C8,bq⟩:=asr w R (some ⟨eP,iZ,none⟩) 1 fe mW;obtain⟨dD,iE⟩:=ai (((w.alloc (.cells #[pp R 0] 247)).alloc (.cells #[.slice (some ⟨eP,iZ,none⟩) 1 fe,.string mW] 300)).alloc (.cells #[.string ⟨#[]⟩] 9));rw [<- iE] at C8 bq |-;have K8:=aa C8;have dG:=aa bq;have m0:dD.cell? (ad (w.heap.size+1) 0)=some (.slice (some ⟨eP,iZ,none⟩) 1 fe):=C8.c.cell 0;clear C8 bq iE;go_upto_region 4 with fail
 have Pz:=K8.o;have dO:=dG.o;obtain⟨bS,jD⟩:=ai dD;rw [<- jD] at Pz dO |-;clear jD m0 K8 dG;have m0:bS.cell? (ad w.heap.size 0)=some (pp R 0):=Pz.r.cell 0;have m1:=EY.o bS dO;have K8:=aa Pz;have fZ:=aa dO;clear Pz dO;go_upto_region 5 with (go_at_call 203; refine (rR.o bS fZ.o).mono ?_;rintro e bB ⟨vK,je,rfl,aG,ae⟩;have kH:=aa (aG.mono fZ.o.size);have K9:=K8.o.below ae;have bP:=aR fZ.o ae;clear aG ae rR)
 have qP:=aa (fun af (ae:Bl bB af)=>K9.below ae);have dE:=aa (fun af (ae:Bl bB af)=>aR bP ae);have Fa:bB.cell? (ad (w.heap.size+1) 0)=some (.slice (some ⟨eP,iZ,none⟩) 1 fe):=K9.c.cell 0;have Bi:=dn.o bB bP;have wu:bB.cell? (ad w.heap.size 0)=some (pp R 0):=K9.r.cell 0;have zz:bB.cell? (ad (w.heap.size+1+1) 0)=some (.string ⟨#[]⟩):=K9.a.cell 0;have kW:(1:Int)<=fe:=om;clear m0 m1 K9 K8 fZ;rename_i Iu La;revert Iu;revert kH bP qP dE Fa Bi wu zz;revert E9 t8;revert E8 t7;revert v6 t6;revert v5 t5;revert v4 t4;revert v3 t3;revert v2 t2;revert v1 t1;revert ig eP iZ R mW X N nl bB vK je;exact gW.o)):P:=h (aa k)
theorem UC {P Q:Prop} (k:Q) (h:y8 Q->P:=by (
 intro gW;refine ass fun ig fq=>?_;obtain⟨eP,iZ,hA,aU,WZ⟩:=ajT av om;rw [hA];have kM:=aa hA;clear hA;obtain⟨R,aK,mW,xR,X,aY⟩:=nq3 L.R (az rest) (az s.buf);obtain⟨N,eZ⟩:∃ N,N=az _/\w.cell? (ad eP iZ)=some (.string N):=⟨_,rfl,WZ 0 _ rfl⟩;obtain⟨nl,jI⟩:=ai ((jP s.buf).length);obtain⟨uR,Rk⟩:∃ N,N=az _/\w.cell? (ad eP (iZ+1))=some (.string N):=⟨_,rfl,WZ 1 _ rfl⟩;have jE:=ast eZ.1;first | (obtain⟨t1,v1⟩:=Eh (N:=N) (l:=[114,101,97,100]) (by (rw [jE];first | decide | exact Ch hk dc))) | obtain⟨t1,v1⟩:=gP (N:=N) (l:=[114,101,97,100]) jE
 first | (obtain⟨t2,v2⟩:=Eh (N:=N) (l:=[116,114,121]) (by (rw [jE];first | decide | exact Ch hk dc))) | obtain⟨t2,v2⟩:=gP (N:=N) (l:=[116,114,121]) jE
 first | (obtain⟨t3,v3⟩:=Eh (N:=N) (l:=[115,99,97,110]) (by (rw [jE];first | decide | exact Ch hk dc))) | obtain⟨t3,v3⟩:=gP (N:=N) (l:=[115,99,97,110]) jE
 first | (obtain⟨t4,v4⟩:=Eh (N:=N) (l:=[116,101,120,116]) (by (rw [jE];first | decide | exact Ch hk dc))) | obtain⟨t4,v4⟩:=gP (N:=N) (l:=[116,101,120,116]) jE
 first | (obtain⟨t5,v5⟩:=Eh (N:=N) (l:=[101,110,118]) (by (rw [jE];first | decide | exact Ch hk dc))) | obtain⟨t5,v5⟩:=gP (N:=N) (l:=[101,110,118]) jE
 first | (obtain⟨t6,v6⟩:=Eh (N:=N) (l:=[119,114,105,116,101]) (by (rw [jE];first | decide | exact Ch hk dc))) | obtain⟨t6,v6⟩:=gP (N:=N) (l:=[119,114,105,116,101]) jE
 first | (obtain⟨t7,E8⟩:=Eh (N:=N) (l:=[110,101,101,100]) (by (rw [jE];first | decide | exact Ch hk dc))) | obtain⟨t7,E8⟩:=gP (N:=N) (l:=[110,101,101,100]) jE
 first | (obtain⟨t8,E9⟩:=Eh (N:=N) (l:=[102,97,105,108]) (by (rw [jE];first | decide | exact Ch hk dc))) | obtain⟨t8,E9⟩:=gP (N:=N) (l:=[102,97,105,108]) jE
 have dn:=aa (fun af (ae:Bl w af)=>(ae.cell (p:=ad eP iZ) aU).trans eZ.2);have aQ:=aa (fun af (ae:Bl w af)=>(ae.cell (p:=ad eP (iZ+1)) aU).trans Rk.2);have rR:=aa (fun W (ae:Bl w W)=>show Calls prog 203 #[.string X] W fun e w'=>∃ A c,e = .returned (.slice A nl c)/\Own w' W.heap.size 9 1 A nl c (cu (jP s.buf))/\Bl W w' from by (rw [aY,jI];exact adp W s.buf (by have:=hf.lim.buf;omega) (hf.wh.on ae)));have EY:=aa (fun af (ae:Bl w af)=>show af.cell? (ad R 2)=some (.string X) from by
  clear gW;obtain⟨_,_,_,Bn⟩:=h;rw [aY,aK];exact ((Bn.below ae).cell 2).1)
 obtain⟨uQ,dF,Dl,dm⟩:=hq4 fq aK xR aY;have cB:=aa eZ.1;have uq:=aa jI;have Gi:=aa Rk.1;rw [fE,<- aK,<- xR];clear WZ jE aK xR aY fq eZ aU jI;clear Rk;go_enter func192,ntmps192;go_upto_region 2 with fail
 obtain⟨C8,bq⟩:=asr w R (some ⟨eP,iZ,none⟩) n fe mW;obtain⟨dD,iE⟩:=ai (((w.alloc (.cells #[pp R 0] 247)).alloc (.cells #[.slice (some ⟨eP,iZ,none⟩) n fe,.string mW] 300)).alloc (.cells #[.string ⟨#[]⟩] 9));rw [<- iE] at C8 bq |-;have K8:=aa C8;have dG:=aa bq;have m0:dD.cell? (ad (w.heap.size+1) 0)=some (.slice (some ⟨eP,iZ,none⟩) n fe):=C8.c.cell 0;have m1:=aQ.o dD bq;have m2:dD.cell? (ad (w.heap.size+1+1) 0)=some (.string ⟨#[]⟩):=C8.a.cell 0;have m3:dD.frozen? ⟨w.heap.size+1+1,0,none⟩=false:=aQF dD _ 0 _ _ C8.a;have aO0:(2:Int)<=fe:=om;have adP:(1:Int) < n:=om;clear C8 bq iE;go_upto_region 4 with fail
 have Pz:=K8.o.arg uR;have dO:Below w.heap.size w (dD.setCell ⟨w.heap.size+1+1,0,none⟩ (.string uR)):=dG.o.setCell (by show w.heap.size<=w.heap.size+1+1;omega) _;obtain⟨bS,jD⟩:=ai (dD.setCell ⟨w.heap.size+1+1,0,none⟩ (.string uR));rw [<- jD] at Pz dO |-;clear jD m0 m1 m2 m3 K8 dG;have m0:bS.cell? (ad w.heap.size 0)=some (pp R 0):=Pz.r.cell 0;have m1:=EY.o bS dO;have K8:=aa Pz;have fZ:=aa dO;clear Pz dO;go_upto_region 5 with (go_at_call 203; refine (rR.o bS fZ.o).mono ?_;rintro e bB ⟨vK,je,rfl,aG,ae⟩;have kH:=aa (aG.mono fZ.o.size);have K9:=K8.o.below ae;have bP:=aR fZ.o ae;clear aG ae rR)
 have qP:=aa (fun af (ae:Bl bB af)=>K9.below ae);have dE:=aa (fun af (ae:Bl bB af)=>aR bP ae);have Fa:bB.cell? (ad (w.heap.size+1) 0)=some (.slice (some ⟨eP,iZ,none⟩) n fe):=K9.c.cell 0;have Bi:=dn.o bB bP;have wu:bB.cell? (ad w.heap.size 0)=some (pp R 0):=K9.r.cell 0;have zz:bB.cell? (ad (w.heap.size+1+1) 0)=some (.string uR):=K9.a.cell 0;have kW:(1:Int)<=fe:=om;clear m0 m1 K9 K8 fZ;rename_i Iu La;revert Iu;revert kH bP qP dE Fa Bi wu zz;revert E9 t8;revert E8 t7;revert v6 t6;revert v5 t5;revert v4 t4;revert v3 t3;revert v2 t2;revert v1 t1;revert ig eP iZ R mW X N nl uR bB vK je;exact gW.o)):P:=h (aa k)
theorem aFj [dR]:K7 1 [OW]:=by intro w L v q s A fe rest J h hf M Y av A7;refine ajU ?_;intro ig eP iZ R mW X N nl dn EY uQ dF Dl dm cB uq bB vK je t1 v1 t2 v2 t3 v3 t4 v4 t5 v5 t6 v6 t7 E8 t8 E9 kH bP qP dE Fa Bi wu zz Iu La;have I:=aa fun af (ae:Bl w af)=>RH uQ.o h ae (WS af L v q s (h.below ae) 15);rw [fE,<- dF.o] at I;clear h hf M J;go_wp2_with (go_at_call 226; refine jw (I.o bB bP) ?_;intro AA gX);exact K6
theorem aFk [dR]:K7 1 [uK]:=by
 intro w L v q s A fe rest M h hf Y A7 av AA;refine ajU ?_;intro ig eP iZ R mW X N nl dn EY uQ dF Dl dm cB uq bB vK je t1 v1 t2 v2 t3 v3 t4 v4 t5 v5 t6 v6 t7 E8 t8 E9 kH bP qP dE Fa Bi wu zz Iu La;obtain⟨Z,I⟩:=ai (az (rest++[10]));have AB:mW++⟨#[10]⟩=Z:=by rw [Dl.o,I];exact YH rest [10]
 have AJ:¬ (mW.size+1 > 9223372036854775807):=by rw [Dl.o,iM];omega
 have J:=aa fun af (ae:Bl w af)=>RH uQ.o h ae (WT af L v q s (h.below ae) hf.lim.buf (rest++[10]) (by simp;omega));rw [fE,<- dF.o,<- I] at J;clear h hf Y M I A7;have AL:bB.cell? (ad (w.heap.size+1) 1)=some (.string mW):=(qP.o bB (Below.refl _ _)).c.cell 1;go_wp2_with (go_at_call 221; refine jw (J.o bB bP) ?_;intro AO gX);exact K6
theorem aFl [dR] (bn:a.length<=1000000):K7 2 [OT,a]:=by
 intro w L v q s A fe rest AA h hf AB AZ av AJ;generalize AL:2=n at av AJ |-;have Aa:1 < n:=om;clear AL;refine UC ?_;intro ig eP iZ kM R mW X N nl uR dn aQ EY uQ dF Dl dm cB uq Gi bB vK je t1 v1 t2 v2 t3 v3 t4 v4 t5 v5 t6 v6 t7 E8 t8 E9 kH bP qP dE Fa Bi wu zz Iu La;have J:=aa fun af (ae:Bl w af) (u:Value) (hu:wm af R q u .add)=>RH uQ.o h ae (ajF (v:=v) (h.below ae) (hf.below ae) a bn (u:=u) (th:=.add) (by rw [<- dF.o];exact hu) (.inl rfl));rw [fE,<- dF.o,<- Gi.o] at J;clear h hf AB AA;go_upto_region 8 with fail
 have kE:=aa fun af (aj:Bl bB af)=>And.intro ((qP.o af aj).r.cell 0) ((qP.o af aj).a.cell 0);refine ng nE 6 [some (pp R 0),some (.string uR),some (pp R 0),some (pp R 0),some (.func (.func 221) #[pp R 0] #[]),none] (fun _ v af=>wm af R q v .add) (Bl bB) Bl (Below.refl _ bB).drew (fun j v w1 af ae h=>h.keep (dw.gT ae (aQu _))) ?_ (jJ:=⟨rx,rx,rx,rx,rx,?_,trivial⟩)
 ·intro u af aj AO;have I:wm af R q (u 5) .add:=AO 5 om;have Y:=aa I;have AP:=aa (dE.o af aj);obtain⟨f9,Ab,Ad,A7⟩:∃ f mM iC,u 5 = .func (.func f) mM iC:=by obtain⟨_,_,_,e,_⟩:=I;exact⟨_,_,_,e⟩
  rw [A7] at Y |-;clear I aj A7;go_wp2_with (go_at_call 219; refine jw (J.o af AP.o _ Y.o) ?_;intro Ae gX);exact K6
 ·intro eH u af aj aK bz K aS;simp [iY,Region.binds] at bz;refine mf rfl ?_;go_simp;refine (arM af R q _ .add rfl).mono ?_;rintro e aC ⟨⟨u2,rfl,AV⟩,ae⟩;exact aS _ _ AV (aR aj ae) ae
theorem aFm [dR] (bn:a.length<=1000000):K7 2 [OU,a]:=by intro w L v q s A fe rest J h hf M AB av Y;generalize A7:2=n at av Y |-;have AJ:1 < n:=om;clear A7;refine UC ?_;intro ig eP iZ kM R mW X N nl uR dn aQ EY uQ dF Dl dm cB uq Gi bB vK je t1 v1 t2 v2 t3 v3 t4 v4 t5 v5 t6 v6 t7 E8 t8 E9 kH bP qP dE Fa Bi wu zz Iu La;have I:=aa fun af (ae:Bl w af) (u:Value) (hu:yO af R q u .D5)=>RH uQ.o h ae (ajF (v:=v) (h.below ae) (hf.below ae) a bn (u:=u) (th:=.D5) (by rw [<- dF.o];exact hu) (.inl rfl));rw [fE,<- dF.o,<- Gi.o] at I;clear h hf M J;have AA:=aa (show yO bB R q (.func (.func 222) #[] #[pp w.heap.size 0]) .D5 from ⟨_,rfl,(qP.o bB (Below.refl _ _)).r⟩);go_wp2_with (go_at_call 219; refine jw (I.o bB bP _ AA.o) ?_;intro AL gX);exact K6
theorem nT.aFn [dR] {L:iW} (h:nT w L v q s A c us) (hc:∀ t∈s.todo,t.BR=true) (hm:eQ w prog 9 Ih m 0 ([]:fu Bool)) (bg:L.B<=m) (bJ:m≠L.m) (bz:¬ dR.E m) :
  nT w L v (some m) { s with seen:=[] } A c us/\MapAt w L (some m) { s with seen:=[] }:=by
 have I:MapAt w L (some m) { s with seen:=[] }:=⟨m,[],rfl,bg,bJ,hm,fun p=>by simp [getM]⟩;refine⟨⟨h.run,h.base,h.row,fun i t J=>?_,h.env,h.known,.inr I,⟨h.free.map,fun g e=>by cases e;exact bz,h.free.old⟩⟩,I⟩;obtain⟨u,h1,M⟩:=h.tasks i t J;refine⟨u,h1,?_⟩;have:=hc t (aQr J);cases t with
 | cmd c=>exact M
 | sW p th=>cases this
 | line x y=>cases this
theorem aFo [dR] {b:ak} (bn:a.length<=1000000):K7 3 [MC,a,b]:=by
 intro w L v q s A fe rest AZ h hf A7 Ai av Aa;have J:∀ eP iZ,A=some ⟨eP,iZ,none⟩->w.cell? (ad eP (iZ+2))=some (.string (az b)):=fun eP iZ e=>by
  obtain⟨Ak,Al,hA,_,hc⟩:=ajT av dc;rw [e] at hA;cases hA;exact hc 2 _ rfl
 generalize Ab:3=n at av Aa |-;have Am:2 < n:=om;clear Ab;refine UC ?_;intro ig eP iZ kM R mW X N nl uR dn aQ EY uQ dF Dl dm cB uq Gi bB vK je t1 v1 t2 v2 t3 v3 t4 v4 t5 v5 t6 v6 t7 E8 t8 E9 kH bP qP dE Fa Bi wu zz Iu La;obtain⟨AA,Y⟩:=ai (az b);have AB:=aa fun af (ae:Bl w af)=>(ae.cell (p:=ad eP (iZ+2)) (aQy _ _ (J _ _ kM.o))).trans (J _ _ kM.o);rw [<- Y] at AB;have Ad:=aa (fun af (ae:Bl w af) (m:Nat) (hm:eQ af prog 9 Ih m 0 ([]:fu Bool)) (AJ:w.heap.size<=m)=>show Calls prog 223 #[pp R 0,.string uR,.string AA,.map (some m)] af fun e aC=>e = .returned (.tuple #[])/\ig (.returned (.tuple #[])) aC from by
  have bg:=h.size;obtain⟨Ao,Ap,us,Bn⟩:=id h;have Aq:L.m < w.heap.size:=by obtain⟨_,M,hm,_⟩:=Bn.known;exact hm.lt
  have h1:=(Bn.below ae).aFn A7 hm om om (fun e=>by have:=Bn.free.old m e;omega);have I:=hf.below ae;have:=ar6 af L v (some m) { s with seen:=[] } ⟨_,_,_,h1.1⟩ ⟨I.wh,I.EX,⟨I.lim.buf,I.lim.tasks,I.lim.Be,fun x ah=>(by cases ah),I.lim.asks,I.lim.less⟩,I.todo,by simp,I.base,I.Gg⟩ h1.2 sp a b bn m rfl;rw [fE,<- dF.o,<- Gi.o,<- Y] at this;exact RH uQ.o h ae this)
 have Au:(2:Int) < n:=om;clear h hf J Y A7 av AZ;go_upto_region 12 with fail
 have kE:=aa fun af (aj:Bl bB af)=>And.intro ((qP.o af aj).r.cell 0) (And.intro ((qP.o af aj).a.cell 0) (And.intro ((qP.o af aj).c.cell 0) (AB.o af (dE.o af aj))));refine ng nE 7 [some (pp R 0),some (.string uR),some (pp (w.heap.size+1) 0),some (.slice (some ⟨eP,iZ,none⟩) n fe),some (pp eP (iZ+2)),some (.string AA),none] (fun _ v af=>∃ m,v = .map (some m)/\eQ af prog 9 Ih m 0 ([]:fu Bool)/\w.heap.size<=m) (Bl bB) Bl (Below.refl _ bB).drew (fun j v w1 af ae h=>by obtain⟨m,Ae,AL,Af⟩:=h;exact⟨m,Ae,AL.below ae AL.lt,Af⟩) ?_ (jJ:=⟨rx,rx,rx,rx,rx,rx,?_,trivial⟩)
 ·intro u af aj AO;obtain⟨m,AP,AV,AJ⟩:∃ m,u 6 = .map (some m)/\eQ af prog 9 Ih m 0 ([]:fu Bool)/\w.heap.size<=m:=AO 6 om;rw [AP];have Ag:=aa AV;have Ah:=aa (dE.o af aj);clear AV aj AO AP;go_wp2_with (go_at_call 223; refine jw (Ad.o af Ah.o m Ag.o AJ) ?_;intro aC gX);exact K6
 ·intro eH u af aj aK bz K aS;refine mf rfl ?_;go_simp;exact aS _ _ ⟨_,rfl,eQ.made af prog 9 Ih,(dE.o af aj).size⟩ (aj.alloc aj.size _) gK
end
end Go.Proofs.YtjkinjbkknanbaaGreatDoor
