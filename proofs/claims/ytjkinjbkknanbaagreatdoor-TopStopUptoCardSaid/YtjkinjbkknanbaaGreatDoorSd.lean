/- Pd -/
import Derived.Test.YtjkinjbkknanbaaGreatDoorSc
set_option maxRecDepth 100000
set_option maxHeartbeats 8000000
set_option linter.unusedSimpArgs false
set_option linter.unusedVariables false
namespace Go.Proofs.YtjkinjbkknanbaaGreatDoor
open Go.Proofs.Tryz
variable {m i j k s b B g i0 c base q:Nat} {p:ak} {v:Value} {P:Program} {ops:Array Oper} {Q:aRX} {rest:List Oper} {a:Act} {dst:Option Tmp} {ty t t2:TypeId} {x y pq:Operand} {after:Array Edge} {w w' w1 W W':aRU} {M:fA (List UInt8)} {z:Int} {d:TypeDesc} {α:Type} {Z:Array Value} {V xs:aRW} {A:aRV} {Nf Li:aR1} {dY:aRZ}
section
abbrev Uu:=dB
structure kU where
 path:ak
 is:Bool
 sum:List UInt8
structure iU where
 kind:Nat
 why:Nat
 outs:List (ak × ak)
 reads:List kU
structure MU where
 S:Type
 start:S
 asks:S->Option ak
 mE:S->Uu->S
 out:S->iU
structure o9 where
 n:Nat
 act:Nat->MU
 jK:ak->Option Nat
 file:ak->Uu
 sum:Uu->kU
 most:Nat
def DY (rs:List kU):iU:=⟨3,11,[],rs⟩
def Hz (rs:List kU):iU:=⟨2,16,[],rs⟩
def iU.at_ (o:iU) (p:ak):Uu:=match o.outs.find? fun x=>x.1 == p with
 | some x=>⟨p,true,x.2⟩
 | none=>⟨p,false,[]⟩
inductive DZ where
 | known (k:Uu)
 | below
 | stuck
def wo (w:o9) (O:Nat->Option iU) (p:ak):DZ:=match w.jK p with
 | none=>.known (w.file p)
 | some j=>match O j with
  | none=>.stuck
  | some o=>if o.kind=1 then .known (o.at_ p) else if o.kind=2 then .below else .stuck
def mF (w:o9) (a:MU) (A:ak->DZ):Nat->a.S->List kU->Bool × iU
 | 0,_,rs=>(false,DY rs)
 | n+1,s,rs=>match a.asks s with
  | none=>(true,a.out s)
  | some p=>match A p with
   | .known k=>mF w a A n (a.mE s k) (rs++[w.sum k])
   | .below=>(true,Hz rs)
   | .stuck=>(false,DY rs)
def qm (w:o9):Nat->Nat->Option iU
 | 0,_=>none
 | n+1,i=>let r:=mF w (w.act i) (wo w (qm w n)) w.most (w.act i).start []
  if r.1 then some r.2 else none
section
variable {w:o9}
def Ext (A B:ak->DZ):Prop:=∀ p,A p ≠ .stuck->B p=A p
theorem ad8 {a:MU} {A B:ak->DZ} (h:Ext A B):∀ (n:Nat) (s:a.S) (rs:List kU),(mF w a A n s rs).1=true->mF w a B n s rs=mF w a A n s rs
 | 0,s,rs,I=>by simp [mF] at I
 | n+1,s,rs,I=>by
  rw [mF] at I |-;rw [mF];cases aI:a.asks s with
  | none=>rfl
  | some p =>
   rw [aI] at I;simp only at I |-;cases hA:A p with
   | known k =>
    rw [hA] at I;rw [h p (by rw [hA];simp),hA];exact ad8 h n _ _ I
   | below=>rw [h p (by rw [hA];simp),hA]
   | stuck =>
    rw [hA] at I;simp at I
theorem ajb {O Q:Nat->Option iU} (h:∀ i o,O i=some o->Q i=some o):Ext (wo w O) (wo w Q):=by
 intro p aI;unfold wo at aI |-;cases hm:w.jK p with
 | none=>rfl
 | some j =>
  rw [hm] at aI;simp only at aI |-;cases I:O j with
  | none=>rw [I] at aI;simp at aI
  | some o=>rw [h j o I]
theorem ajc:∀ (n i:Nat) (o:iU),qm w n i=some o->qm w (n+1) i=some o
 | 0,i,o,h=>by cases h
 | n+1,i,o,h=>by
  rw [qm] at h |-;by_cases I:(mF w (w.act i) (wo w (qm w n)) w.most (w.act i).start []).1=true
  ·rw [ad8 (ajb (ajc n)) _ _ _ I];exact h
  ·rw [if_neg I] at h;cases h
theorem ad9 {n:Nat} {o:iU} (h:qm w n i=some o) (hm:n<=m):qm w m i=some o:=by
 induction hm with
 | refl=>exact h
 | step _ I=>exact ajc _ _ _ I
open Classical in
noncomputable def FT (w:o9) (i:Nat):Option iU:=if h:∃ n,(qm w n i).isSome=true then qm w (Classical.choose h) i else none
theorem W9 {o:iU}:FT w i=some o ↔ ∃ n,qm w n i=some o:=by
 unfold FT;constructor
 ·intro h;split at h
  ·exact⟨_,h⟩
  ·cases h
 ·rintro⟨n,I⟩;have ah:∃ n,(qm w n i).isSome=true:=⟨n,by rw [I];rfl⟩;rw [dif_pos ah];have hc:=aRS ah;obtain⟨Y,J⟩:=aRE.1 hc;have h1:=ad9 J (Nat.le_max_left _ n);have M:=ad9 I (Nat.le_max_right (Classical.choose ah) n);rw [J,<- h1,M]
theorem aCJ (h:FT w i=none) (n:Nat):qm w n i=none:=by
 cases I:qm w n i with
 | none=>rfl
 | some o =>
  rw [W9.2 ⟨n,I⟩] at h;cases h
noncomputable def fD (w:o9):ak->DZ:=wo w (FT w)
theorem ajd (n:Nat):Ext (wo w (qm w n)) (fD w):=ajb fun _ _ h=>W9.2 ⟨n,h⟩
theorem aqN (p:ak) (h:fD w p ≠ .stuck):∃ n,∀ m,n<=m->wo w (qm w m) p=fD w p:=by
 unfold fD wo at h;cases hm:w.jK p with
 | none=>exact⟨0,fun m _=>by simp [fD,wo,hm]⟩
 | some j =>
  rw [hm] at h;simp only at h;cases I:FT w j with
  | none=>rw [I] at h;simp at h
  | some o =>
   obtain⟨n,J⟩:=W9.1 I;exact⟨n,fun m M=>by simp [fD,wo,hm,I,ad9 J M]⟩
theorem aqO {a:MU}:∀ (n:Nat) (s:a.S) (rs:List kU),(mF w a (fD w) n s rs).1=true->∃ m,mF w a (wo w (qm w m)) n s rs=mF w a (fD w) n s rs
 | 0,s,rs,I=>by simp [mF] at I
 | n+1,s,rs,I=>by
  rw [mF] at I;cases aI:a.asks s with
  | none=>exact⟨0,by rw [mF,mF,aI]⟩
  | some p =>
   rw [aI] at I;simp only at I;cases hA:fD w p with
   | known k =>
    rw [hA] at I;obtain⟨m1,h1⟩:=aqN p (by rw [hA];simp);obtain⟨m2,J⟩:=aqO n _ _ I;refine⟨max m1 m2,?_⟩;rw [mF,mF,aI];simp only;rw [h1 _ (Nat.le_max_left _ _),hA];simp only;have ah:(mF w a (wo w (qm w m2)) n (a.mE s k) (rs++[w.sum k])).1=true:=by rw [J];exact I
    rw [ad8 (ajb fun i o M=>ad9 M (Nat.le_max_right m1 m2)) n _ _ ah,J]
   | below =>
    obtain⟨m1,h1⟩:=aqN p (by rw [hA];simp);refine⟨m1,?_⟩;rw [mF,mF,aI];simp only;rw [h1 _ (Nat.le_refl _),hA]
   | stuck =>
    rw [hA] at I;simp at I
noncomputable def Jl (w:o9) (i:Nat):Bool × iU:=mF w (w.act i) (fD w) w.most (w.act i).start []
theorem aje (i:Nat):FT w i=if (Jl w i).1 then some (Jl w i).2 else none:=by
 cases hl:FT w i with
 | some o =>
  obtain⟨n,J⟩:=W9.1 hl;cases n with
  | zero=>cases J
  | succ n =>
   rw [qm] at J;by_cases I:(mF w (w.act i) (wo w (qm w n)) w.most (w.act i).start []).1=true
   ·rw [if_pos I] at J;have:=ad8 (ajd n) _ _ _ I;rw [Jl,this,if_pos I];exact J.symm
   ·rw [if_neg I] at J;cases J
 | none =>
  split
  ·rename_i I;obtain⟨m,hm⟩:=aqO _ _ _ I;have M:qm w (m+1) i=some (Jl w i).2:=by rw [qm];rw [hm];exact if_pos I
   rw [aCJ hl] at M;cases M
  ·rfl
noncomputable def bG (w:o9) (i:Nat):iU:=(Jl w i).2
inductive pg (w:o9) (i:Nat):(w.act i).S->List kU->Prop where
 | start:pg w i (w.act i).start []
 | step {s:(w.act i).S} {rs:List kU} {p:ak} {k:Uu}:pg w i s rs->(w.act i).asks s=some p->fD w p = .known k->pg w i ((w.act i).mE s k) (rs++[w.sum k])
def HV (w:o9):Prop:=∀ i s rs,pg w i s rs->rs.length < w.most
theorem pg.run {s:(w.act i).S} {rs:List kU} (h:pg w i s rs) (hf:HV w):Jl w i=mF w (w.act i) (fD w) (w.most - rs.length) s rs:=by
 induction h with
 | start=>rfl
 | @step s rs p k h aI hk I =>
  have h1:=hf i _ _ h;rw [I,show w.most - rs.length=(w.most - (rs++[w.sum k]).length)+1 by simp;omega,mF,aI];simp only;rw [hk]
theorem pg.done {s:(w.act i).S} {rs:List kU} (h:pg w i s rs) (hf:HV w) (bq:(w.act i).asks s=none):Jl w i=(true,(w.act i).out s):=by have h1:=hf i _ _ h;rw [h.run hf,show w.most - rs.length=(w.most - rs.length - 1)+1 by omega,mF,bq]
theorem pg.Xa {s:(w.act i).S} {rs:List kU} (h:pg w i s rs) (hf:HV w) (bq:(w.act i).asks s=some p) (aI:fD w p = .below):Jl w i=(true,Hz rs):=by have h1:=hf i _ _ h;rw [h.run hf,show w.most - rs.length=(w.most - rs.length - 1)+1 by omega,mF,bq];simp only;rw [aI]
theorem pg.stuck {s:(w.act i).S} {rs:List kU} (h:pg w i s rs) (hf:HV w) (bq:(w.act i).asks s=some p) (aI:fD w p = .stuck):Jl w i=(false,DY rs):=by have h1:=hf i _ _ h;rw [h.run hf,show w.most - rs.length=(w.most - rs.length - 1)+1 by omega,mF,bq];simp only;rw [aI]
def ym (w:o9) (i j:Nat):Prop:=∃ s rs p,pg w i s rs/\(w.act i).asks s=some p/\w.jK p=some j
theorem aCK {n:Nat} (hf:HV w) {s:(w.act i).S} {rs:List kU} (h:pg w i s rs) (bq:(w.act i).asks s=some p) (aC:w.jK p=some j) (bg:(mF w (w.act i) (wo w (qm w n)) w.most (w.act i).start []).1=true):(qm w n j).isSome=true:=by
 have key:∀ {s:(w.act i).S} {rs:List kU},pg w i s rs->(mF w (w.act i) (wo w (qm w n)) (w.most - rs.length) s rs).1=true:=by
  intro s rs h;induction h with
  | start=>exact bg
  | @step s rs p k h aI hk I =>
   have h1:=hf i _ _ h;rw [show w.most - rs.length=(w.most - (rs++[w.sum k]).length)+1 by simp;omega,mF,aI] at I;simp only at I;cases hA:wo w (qm w n) p with
   | known J =>
    have:=ajd n p (by rw [hA];simp);rw [hk,hA] at this;cases this;rw [hA] at I;exact I
   | below =>
    have:=ajd n p (by rw [hA];simp);rw [hk,hA] at this;cases this
   | stuck =>
    rw [hA] at I;simp at I
 have h1:=hf i _ _ h;have hk:=key h;rw [show w.most - rs.length=(w.most - rs.length - 1)+1 by omega,mF,bq] at hk;simp only at hk;cases hA:qm w n j with
 | some o=>rfl
 | none =>
  rw [show wo w (qm w n) p = .stuck by simp [wo,aC,hA]] at hk;simp at hk
inductive xS (w:o9):Nat->Nat->Prop where
 | one {i j:Nat}:ym w i j->xS w i j
 | more {i j k:Nat}:ym w i j->xS w j k->xS w i k
theorem xS.snoc (h:xS w i j) (hk:ym w j k):xS w i k:=by
 induction h with
 | one h=>exact .more h (.one hk)
 | more h _ I=>exact .more h (I hk)
theorem aqP (hf:HV w) {n:Nat} (h:(qm w (n+1) i).isSome=true) (hw:ym w i j):(qm w n j).isSome=true:=by
 obtain⟨s,rs,p,aI,J,aC⟩:=hw;rw [qm] at h;by_cases I:(mF w (w.act i) (wo w (qm w n)) w.most (w.act i).start []).1=true
 ·exact aCK hf aI J aC I
 ·rw [if_neg I] at h;cases h
theorem aCL (hf:HV w):∀ {i j:Nat},xS w i j->∀ n,(qm w (n+1) i).isSome=true->(qm w n j).isSome=true:=by
 intro i j h;induction h with
 | one h=>exact fun n I=>aqP hf I h
 | @more i j k h _ J =>
  intro n I;have h1:=aqP hf I h;cases n with
  | zero=>cases h1
  | succ n =>
   have M:=J n h1;obtain⟨o,Y⟩:=aRE.1 M;rw [ajc _ _ _ Y];rfl
theorem aqQ (hf:HV w) (h:xS w i i):∀ n,qm w n i=none
 | 0=>rfl
 | n+1=>by
  cases I:qm w (n+1) i with
  | none=>rfl
  | some o =>
   have:=aCL hf h n (by rw [I];rfl);rw [aqQ hf h n] at this;cases this
theorem aCM (hf:HV w) (h:xS w i i):FT w i=none:=by
 cases hl:FT w i with
 | none=>rfl
 | some o =>
  obtain⟨n,I⟩:=W9.1 hl;rw [aqQ hf h n] at I;cases I
theorem aqR (aC:w.jK p=some j):fD w p=match FT w j with | none=>.stuck | some o=>if o.kind=1 then .known (o.at_ p) else if o.kind=2 then .below else .stuck:=by unfold fD wo;rw [aC]
theorem aea (aC:w.jK p=none):fD w p = .known (w.file p):=by unfold fD wo;rw [aC]
theorem aCN {o:iU} (h:FT w i=some o):bG w i=o:=by
 rw [aje] at h;by_cases I:(Jl w i).1=true
 ·rw [if_pos I] at h;exact aRb h
 ·rw [if_neg I] at h;cases h
theorem aqS {a:MU} {A:ak->DZ}:∀ (n:Nat) (s:a.S) (rs:List kU),(mF w a A n s rs).1=false->∃ aCO,(mF w a A n s rs).2=DY aCO
 | 0,s,rs,_=>⟨rs,rfl⟩
 | n+1,s,rs,h=>by
  rw [mF] at h |-;cases aI:a.asks s with
  | none=>rw [aI] at h;cases h
  | some p =>
   rw [aI] at h;simp only at h |-;cases hA:A p with
   | known k =>
    rw [hA] at h;exact aqS n _ _ h
   | below=>rw [hA] at h;cases h
   | stuck=>exact⟨rs,rfl⟩
theorem aCP (h:FT w i=none):∃ rs,bG w i=DY rs:=by
 rw [aje] at h;by_cases I:(Jl w i).1=true
 ·rw [if_pos I] at h;cases h
 ·exact aqS _ _ _ (Bool.eq_false_iff.2 I)
theorem ajf (aC:w.jK p=some j) :
  fD w p=if (bG w j).kind=1 then .known ((bG w j).at_ p) else if (bG w j).kind=2 then .below else .stuck:=by
 rw [aqR aC];cases hl:FT w j with
 | some o=>rw [aCN hl]
 | none =>
  obtain⟨rs,I⟩:=aCP hl;rw [I];rfl
end
end
section
open Go.ChangeMaps Go.MapKept Go.Maps Go.RowKit Go.WideAt Go.WideMaps
section
variable {α:Type} {enc:α->Value} {w:aRU} {P:Program} {k t e:TypeId} {b n:Nat} {M:fA α}
theorem eU.aqT (h:eU w P k enc b n M) (vo:∀ a b,enc a=enc b->a=b) (K:Keyed P k) (az:P.underlying t=some (.map k e)) (z0:α) (dm:(zeroValue e).run P w = .ok (enc z0) w) {gL:aR0} (hk:keyOf P k v=some (.string gL)) :
  (Instr.lookup t (.map (some b)) v true).run P w = .ok (.tuple #[enc ((getM M gL).getD z0),.bool (getM M gL).isSome]) w:=by
 obtain⟨u,ps,J,Y⟩:=World.ownsMap.look_ok h K az dm (KG vo z0) hk;rw [aoD] at J;rw [Za] at Y;obtain⟨a,rfl,I⟩:=TR Y;rw [J];cases av:getM M gL with
 | none=>rw [av] at I;injection I with I;subst I;rfl
 | some x=>rw [av] at I;injection I with I;subst I;rfl
theorem eU.aeb (h:eU w P k enc b n M) (vo:∀ a b,enc a=enc b->a=b) (K:Keyed P k) (az:P.underlying t=some (.map k e)) (aB:n < maxLen) {gL:aR0} (hk:keyOf P k v=some (.string gL)) (a:α) :
  ∃ w',(Instr.mapUpdate t (.map (some b)) v (enc a)).run P w = .ok () w'/\eU w' P k enc b (n+1) (oI M gL a)/\fV b w w':=by
 obtain⟨w',I,h1,J⟩:=World.ownsMap.store h K az aB hk (KG vo a);rw [ahS] at h1;exact⟨w',I,h1,adt J⟩
theorem aqU {β:Type} {f:Nat->Option β} {g:Nat->β}:∀ L:List Nat,(∀ i∈L,f i=some (g i))->L.mapM f=some (L.map g)
 | [],_=>rfl
 | i :: L,h=>by
  rw [List.mapM_cons,aqU L (fun j aC=>h j (List.mem_cons_of_mem _ aC)),h i (List.mem_cons_self ..)];rfl
end
def aqV (l:aR0):List Lit:=l.map fun b=>.int .u8 b.toNat
def nU (l:aR0):List UInt8:=keyBytes (aqV l)
def K4 (l:aR0):Value:=.agg (bQ l).toArray
theorem Rh:ArrKey prog 59 5 32:=⟨underlying59,kr,kr,kr⟩
theorem MV:Keyed prog 59:=Keyed.of_law Rh.law
theorem wf_u8 (b:UInt8):(Lit.int .u8 b.toNat).wf=true:=by have:=b.toNat_lt;simp [Lit.wf,IntKind.min,IntKind.max,IntKind.signed,IntKind.bits];omega
theorem aCQ (l:aR0):(List.range l.length).map (fun i=>l.getD i 0)=l:=by refine aRO sp fun i h1 I=>?_;simp [List.getElem?_eq_getElem I]
theorem Uv {l:aR0} (hl:l.length=32):keyOf prog 59 (K4 l)=some (.string (nU l)):=by
 have M:∃ m,prog.types.size=m+1:=⟨prog.types.size - 1,kr⟩;have AA:=Rh.keyType M;obtain⟨m,hm⟩:=M;have I:(bQ l).length=32:=by simp [bQ,hl]
 have hc:((K4 l).cells).toList=bQ l:=by simp [K4,Value.cells]
 unfold keyOf;simp only [Rh.hu];rw [if_pos (by simp [AA,Value.formed,K4,Rh.hu,Rh.size,I]),hm,hc];unfold Program.keyLits;simp only [Rh.hu];rw [if_pos (by rw [Rh.size];exact I)];have AB:∀ i∈List.range 32,prog.keyLits (m+1) 5 (((bQ l).drop (i * prog.cellsOf 5)).take (prog.cellsOf 5))=some [Lit.int .u8 (l.getD i 0).toNat]:=by
  intro i J;have J:=aQ3.1 J;rw [Rh.one,Nat.mul_one];have h1:((bQ l).drop i).take 1=[.int .u8 (l.getD i 0).toNat]:=by
   rw [List.drop_eq_getElem_cons (by rw [I];exact J),List.take_succ_cons,List.take_zero];have:=TM l (show i < l.length by omega);rw [List.getElem?_eq_getElem (by rw [I];exact J)] at this;injection this with this
   rw [this]
  rw [h1];unfold Program.keyLits;simp [underlying5,wf_u8]
 rw [aqU _ AB];have Y:=aCQ l;rw [hl] at Y;have AP:∀ L:List Nat,(L.map fun i=>[Lit.int .u8 ((l.getD i 0).toNat:Int)]).flatten=aqV (L.map fun i=>l.getD i 0):=by
  intro L;induction L with
  | nil=>rfl
  | cons i L AQ=>rw [List.map_cons,List.flatten_cons,AQ];rfl
 simp only [Option.map_some,Option.some.injEq];rw [AP,Y];rfl
theorem aCR (b:UInt8):(Lit.int .u8 (b.toNat:Int)).keyBytes=[b]:=by
 have h:=b.toNat_lt;have e:((b.toNat:Int) % 2 ^ IntKind.u8.bits).toNat=b.toNat:=by show ((b.toNat:Int) % 2 ^ 8).toNat=b.toNat;omega
 show bytesBE (IntKind.u8.bits / 8) ((b.toNat:Int) % 2 ^ IntKind.u8.bits).toNat=[b];rw [e];show [UInt8.ofNat (b.toNat % 256)]=[b];rw [Nat.mod_eq_of_lt om,UInt8.ofNat_toNat]
theorem Ri:∀ l:List UInt8,nU l=l
 | []=>rfl
 | b :: l=>by
  show (Lit.int .u8 (b.toNat:Int)).keyBytes++nU l=_;rw [aCR,Ri l];rfl
end
section
open Go.Maps Go.RowKit
theorem aed {C:World->Prop} {Q:Act->Prop} {ic:TypeId} {pos:String} {p:Addr}
  (ah:a.eval x = .pointer (some p)) (hl:∀ w,C w->(loadVar ty p).run P w = .ok v w) (h:wpQuiet P ops C Q rest (a.put dst v)):wpQuiet P ops C Q (⟨dst,.load ty x,ic,pos,after,none⟩ :: rest) a:=by
 have hw:Region.wanted ⟨dst,.load ty x,ic,pos,after,none⟩ (yielded ops a.tmps)=true:=rfl;unfold wpQuiet;rw [if_pos hw];refine⟨v,fun w I=>?_,h⟩;unfold Oper.quietAt execOp;simp [ah,Instr.loadAt,Instr.sureAddr,hl w I,Oper.quietUpon]
def encS (d:aR0):Value:=.string (aA d)
theorem O3 (a b:aR0) (h:encS a=encS b):a=b:=by
 have I:aA a=aA b:=by injection h
 rw [<- gZ a,I,gZ]
structure BJ (w:aRU) (s b n:Nat) (M:fA (List UInt8)) (z:Int):Prop where
 obj:w.heap[s]?=some (.cells #[.map (some b),.int .i64 z] 89 (0,0))
 map:eU w prog 59 encS b n M
theorem BJ.box {n:Nat} (h:BJ w s b n M z):ai3 w s [.map (some b),.int .i64 z]:=⟨_,h.obj⟩
theorem BJ.lt {n:Nat} (h:BJ w s b n M z):s < w.heap.size/\b < w.heap.size:=⟨iw h.obj,h.map.lt⟩
theorem BJ.below {n:Nat} (h:BJ w s b n M z) (ae:Below B w w') (h1:s < B) (ag:b < B):BJ w' s b n M z:=⟨(ae.block _ h1).trans h.obj,h.map.below ae ag⟩
theorem BJ.ne {n:Nat} (h:BJ w s b n M z):s≠b:=by rintro rfl;obtain⟨es,clock,ae,_⟩:=h.map;rw [h.obj] at ae;cases ae
theorem aCS (w:aRU):CR 12 #[] w (pp (w.heap.size+1) 0) fun w'=>BJ w' (w.heap.size+1) w.heap.size 0 [] 0/\Bl w w'/\w'.heap.size=w.heap.size+2:=by
 have I:=@run_makeMap prog;go_enter func12,ntmps12;go_wp2;go_ret;refine⟨rfl,⟨?_,?_⟩,?_,?_⟩
 ·have:=aQS (w.alloc (.map #[] 0)) (.cells #[.map (some w.heap.size),.int .i64 0] 89);rwa [World.size_alloc] at this
 ·exact (eU.made w _ _ _).alloc _
 ·exact ((Below.refl _ w).alloc (aQF _) _).alloc sp _
 ·simp
theorem ZX (w:aRU):(zeroValue 9).run prog w = .ok (encS []) w:=by rw [zeroValue9];rfl
theorem BJ.look {n:Nat} (h:BJ w s b n M z) {d:aR0} (aS:d.length=32) :
  (Instr.lookup 87 (.map (some b)) (K4 d) true).run prog w = .ok (.tuple #[.string (aA ((getM M d).getD [])),.bool (getM M d).isSome]) w:=by
 have:=h.map.aqT O3 MV underlying87 [] (ZX w) (Uv aS);rw [Ri] at this;exact this
theorem aCT (w:aRU) (s b n:Nat) (M:fA (List UInt8)) (z:Int) (h:BJ w s b n M z) (d:aR0) (aS:d.length=32) :
  CB 29 #[pp s 0,K4 d] w (.tuple #[.string (aA ((getM M d).getD [])),.bool (getM M d).isSome]):=by
 have AB:=h.lt;obtain⟨cs,hcs⟩:=ai ((bQ d).toArray);have Y:K4 d = .agg cs:=by rw [hcs];rfl
 rw [Y];obtain⟨W,J,g,av⟩:=nq2 (w.alloc (.cells cs 59)) w.heap.size;have AA:=gQ J;have I:=h.below AA AB.1 AB.2;have Af:W.cell? (ad s 0)=some (.map (some b)):=I.box.cells 0;have AP:W.heap[g]?=some (.cells cs 59 (0,0)):=by rw [J,av];exact aQS w _
 have AQ:∀ m,(loadVar 59 ⟨g,0,none⟩).run prog (W.drewN m) = .ok (.agg cs) (W.drewN m):=fun m =>
  run_loadVar_row (W.drewN m) g 59 59 _ (0,0) _ AP underlying59 rfl (by rw [hcs,List.size_toArray];exact zt aS);have AU:=fun m=>(I.below (below_drewN (Below.refl W.heap.size W) m) I.lt.1 I.lt.2).look aS;rw [Y] at AU;obtain⟨x,ah⟩:=ai (aA ((getM M d).getD []));obtain⟨ok,AV⟩:=ai ((getM M d).isSome);rw [<- ah,<- AV] at AU |-;obtain⟨AX,AZ,Aa,Ac⟩:=hq4 AA J av AQ;clear AQ ah AV Y hcs h I AP J av AA;go_enter func29,ntmps29;go_wp2_with fail;rw [<- Aa.o,<- AZ.o];refine wp_region_quiet_lit kr kr ?_;repeat (first | go_big_quiet_step (fail) | (((refine aed (p:=ad g 0) rfl (by rintro _ ⟨m,rfl⟩;exact Ac.o m) ?_);simp only [Act.put,List.setIfInBounds_toArray,List.set_cons_succ,List.set_cons_zero])))
 refine wpQuiet_nil ?_;intro _ Ad;obtain⟨nq,Ae⟩:=Ad;subst Ae;go_wp2_with fail;go_ret2;exact⟨rfl,below_drewN (AX.o) _⟩
end
section
open Go.RowKit
theorem aCU {ic:TypeId} {v:Operand} {pos:String} (X:aR0) (aX:X.length=32)
  (xk:a.eval x = .pointer (some ⟨w1.heap.size,0,none⟩)/\a.eval v = .agg (bQ X).toArray)
  (h:wpList prog ops Q rest (a.put dst undef) (w1.alloc (.cells (bQ X).toArray 59))) :
  wpList prog ops Q (⟨dst,.store 59 x v,ic,pos,after,none⟩ :: rest) a (w1.alloc (.cells #[dU,dU,dU,dU,dU,dU,dU,dU,dU,dU,dU,dU,dU,dU,dU,dU,dU,dU,dU,dU,dU,dU,dU,dU,dU,dU,dU,dU,dU,dU,dU,dU] 59)):=by
 refine yH w1.heap.size 0 (.agg (bQ X).toArray) (bQ X) (qK _) (bQ (List.replicate 32 0)).toArray 59 (aQS w1 _) (zt aX) (Wz aX) (GZ _) xk ?_;rw [EB (by rw [xn,aX,List.size_toArray,xn,List.length_replicate]),World.setRow_alloc_new];exact h
end
section
open Go.Maps Go.RowKit
structure j3 (p b:Nat) (w w':aRU):Prop where
 os:w'.os=w.os
 tape:w'.tape=w.tape
 output:w'.output=w.output
 size:w.heap.size<=w'.heap.size
 block:∀ k,k < w.heap.size->k≠p->k≠b->w'.heap[k]?=w.heap[k]?
theorem j3.trans {p:Nat} {x y z:aRU} (h:j3 p b x y) (k:j3 p b y z):j3 p b x z :=
 ⟨k.os.trans h.os,k.tape.trans h.tape,k.output.trans h.output,aQG h.size k.size,fun i h1 I J=>(k.block i (aQJ h1 h.size) I J).trans (h.block i h1 I J)⟩
theorem j3.gN {p:Nat} (h:Bl w w'):j3 p b w w':=⟨h.os,h.tape,h.output,h.size,fun k hk _ _=>h.block k hk⟩
theorem j3.um {p:Nat} (h:fV b w w'):j3 p b w w':=⟨h.1,h.2.1,h.2.2.1,by rw [h.2.2.2.1];exact aQF _,fun k _ _ ae=>h.2.2.2.2 k ae⟩
theorem aCV {Q:Act->Prop} {ic:TypeId} {pos:String} {p:Addr}
  (ah:a.eval x = .pointer (some p)) (hl:(loadVar ty p).run P w = .ok v w) (h:wpStill P ops w Q rest (a.put dst v)):wpStill P ops w Q (⟨dst,.load ty x,ic,pos,after,none⟩ :: rest) a:=by
 have hw:Region.wanted ⟨dst,.load ty x,ic,pos,after,none⟩ (yielded ops a.tmps)=true:=rfl;unfold wpStill;rw [if_pos hw];unfold Oper.still execOp;simp [ah,Instr.loadAt,Instr.sureAddr,hl,Oper.stillUpon];exact h
theorem aee {enc:α->Value} {k e:TypeId} {n:Nat} {M:fA α} {ic:TypeId} {m v:Operand} {pos:String}
  (h:eU w P k enc b n M) (vo:∀ a b,enc a=enc b->a=b) (K:Keyed P k) (az:P.underlying t=some (.map k e)) (aB:n < maxLen) (u:Value) (gL:aR0) (hk:keyOf P k u=some (.string gL)) (y:α)
  (ah:a.eval m = .map (some b)/\a.eval x=u/\a.eval v=enc y)
  (aR:∀ w',eU w' P k enc b (n+1) (oI M gL y)->fV b w w'->wpList P ops Q rest (a.put dst undef) w') :
  wpList P ops Q (⟨dst,.mapUpdate t m x v,ic,pos,after,none⟩ :: rest) a w:=by
 refine aQ6 rfl fun AA hK'=>?_;obtain⟨w',I,J,Y⟩:=h.aeb vo K az aB hk y;unfold Oper.wp;simp [execOp,ah.1,ah.2.1,ah.2.2,I,Result.andThen];exact hK' _ _ (aR w' J Y)
theorem aCW:(bQ (List.replicate 32 0)).toArray=#[dU,dU,dU,dU,dU,dU,dU,dU,dU,dU,dU,dU,dU,dU,dU,dU,dU,dU,dU,dU,dU,dU,dU,dU,dU,dU,dU,dU,dU,dU,dU,dU]:=rfl
theorem Xb (W:aRU) (g:Nat) (s:ByteArray) (hs:s.size<=1000000000) (ax:Rd W 1 (some ⟨g,0,none⟩) 1 [.string s]) :
  CB 33 #[.slice (some ⟨g,0,none⟩) 1 1] W (.agg (bQ (bP.sum s.data.toList)).toArray):=by
 have hf:flat [s]=s.data.toList:=by show s.data.toList++[]=_;rw [List.append_nil]
 have h:=aid W (some ⟨g,0,none⟩) 1 1 [s] ax mV (by rw [hf,wL];omega);rw [hf] at h;exact h
theorem aCX {wr:aRU} (h:wr.heap[g]?=some (.cells (bQ (List.replicate 32 0)).toArray 59 (0,0))) (L:aR0) (gY:L.length=32) :
  (wr.setRow g (laid (bQ (List.replicate 32 0)).toArray 0 (bQ L))).heap[g]?=some (.cells (bQ L).toArray 59 (0,0)):=by
 have I:=aQU wr g _ (laid (bQ (List.replicate 32 0)).toArray 0 (bQ L)) _ _ h;rw [EB (by rw [xn,gY,List.size_toArray,xn,List.length_replicate])] at I |-;exact I
theorem j3.low {p:Nat} {x y z:aRU} (h:j3 p b x y) (k:Below x.heap.size y z):j3 p b x z :=
 ⟨k.os.trans h.os,k.tape.trans h.tape,k.output.trans h.output,aQG h.size k.size,fun i h1 I J=>(k.block i h1).trans (h.block i h1 I J)⟩
theorem j3.ajg (p b:Nat) (w:aRU) (o:Nat) (v:Value):j3 p b w (w.setCell ⟨p,o,none⟩ v) :=
 ⟨rfl,rfl,rfl,by rw [World.size_setCell];exact aQF _,fun k _ hk _=>aQX _ _ _ k hk⟩
theorem aCY (w:aRU) (p b n:Nat) (M:fA (List UInt8)) (z:Int) (h:BJ w p b n M z) (aB:n<=1000000) (dm:0<=z/\z<=1000000000) (s:ByteArray) (hs:s.size<=1000000000) :
  Calls prog 306 #[pp p 0,.string s] w fun e w'=>e = .returned (K4 (bP.sum s.data.toList)) /\
   BJ w' p b (if (getM M (bP.sum s.data.toList)).isSome=true then n else n+1) (if (getM M (bP.sum s.data.toList)).isSome=true then M else oI M (bP.sum s.data.toList) s.data.toList) (if (getM M (bP.sum s.data.toList)).isSome=true then z else z+s.size)/\j3 p b w w':=by
 have Y:=h.lt;have Aq:=h.ne;obtain⟨X,AX⟩:=ai (bP.sum s.data.toList);have I:X.length=32:=by rw [AX];exact yK _
 have AZ:=fun (W:aRU) (g:Nat) (Bj:Rd W 1 (some ⟨g,0,none⟩) 1 [.string s])=>Xb W g s hs Bj;rw [<- AX] at AZ |-;have hw:IntKind.i64.wrap (z+(s.size:Int))=z+s.size:=aRt _ (by constructor <;> omega);have Bn:=aa AZ;obtain⟨aH,AQ⟩:=ai ((w.alloc (.cells (bQ (List.replicate 32 0)).toArray 59)).alloc (.cells #[.string s] 9));have Av:uI w aH:=by rw [AQ];exact (uI.start w).ext iD
 have Az:Rd aH 1 (some ⟨w.heap.size+1,0,none⟩) 1 [.string s]:=by rw [AQ];have:=Rd.one (w.alloc (.cells (bQ (List.replicate 32 0)).toArray 59)) (.string s) 9;rwa [World.size_alloc] at this
 have Bp:=aa Av;have Bq:=aa Az;rw [aCW] at AQ;have Br:=aa AQ;have BB:=aa h;obtain⟨ok,Aa⟩:=ai ((getM M X).isSome);obtain⟨x,ah⟩:=ai (aA ((getM M X).getD []));rw [<- Aa];obtain⟨M2,Ac,z2,Ad,BC,Ae⟩:=nq3 (if ok=true then M else oI M X s.data.toList) (if ok=true then z else z+s.size) (if ok=true then n else n+1);rw [<- Ac,<- Ad,<- Ae];obtain⟨BD,BF,BG⟩:=hq3 Ac Ad Ae;clear Ac Ad Ae;have Bt:=aa Aa;have C8:=aa ah;clear AX AZ Av Az AQ h Aa ah;go_enter func306,ntmps306;go_wp2_with (first|(go_at_call 33; rw [<- Br.o];refine (Bn.o _ _ Bq.o).mono ?_;rintro e af ⟨rfl,BH⟩;have BK:=aa (Bp.o.ext BH);clear BH)|((with_reducible refine aCU X I ?_ ?_);exact⟨rfl,rfl⟩));obtain⟨J,AU⟩:=ai (af.alloc (.cells (bQ X).toArray 59));obtain⟨G,Af⟩:=ai af.heap.size;rw [<- AU,<- Af];have Ag:uI w J:=by rw [AU];exact BK.o.ext iD
 have Ah:J.heap[G]?=some (.cells (bQ X).toArray 59 (0,0)):=by rw [AU,Af];exact aQS af _
 have Ca:w.heap.size < G:=by have:=BK.o.size;omega
 have AA:=BB.o.below Ag.below Y.1 Y.2;have CF:J.cell? (ad p 0)=some (.map (some b)):=AA.box.cells 0;have BL:∀ m,(loadVar 59 ⟨G,0,none⟩).run prog (J.drewN m) = .ok (.agg (bQ X).toArray) (J.drewN m):=fun m =>
  run_loadVar_row (J.drewN m) G 59 59 _ (0,0) _ Ah underlying59 rfl (by rw [List.size_toArray];exact zt I);have Ak:=fun m=>(AA.below (below_drewN (Below.refl J.heap.size J) m) AA.lt.1 AA.lt.2).look I;rw [<- C8.o,<- Bt.o] at Ak;obtain⟨BN,CG,Al,BO⟩:=hq4 Ag Ah AA BL;unfold K4 at Ak;clear AU Af Ag Ah AA BL;refine wp_region_quiet_lit kr kr ?_;repeat (first | go_big_quiet_step (fail) | (((refine aed (p:=ad G 0) rfl (by rintro _ ⟨m,rfl⟩;exact BO.o m) ?_);simp only [Act.put,List.setIfInBounds_toArray,List.set_cons_succ,List.set_cons_zero])))
 refine wpQuiet_nil ?_;intro _ CJ;obtain⟨nq,CK⟩:=CJ;subst CK;obtain⟨cO,AB⟩:=ai (J.drewN nq);rw [<- AB];have BP:uI w cO:=by rw [AB];exact⟨BN.o.row,below_drewN BN.o.below nq⟩
 have BR:cO.heap[G]?=some (.cells (bQ X).toArray 59 (0,0)):=by rw [AB];exact CG.o
 have Am:BJ cO p b n M z:=by rw [AB];exact Al.o.below (below_drewN (Below.refl J.heap.size J) nq) Al.o.lt.1 Al.o.lt.2
 have BS:(loadVar 59 ⟨G,0,none⟩).run prog cO.drew = .ok (.agg (bQ X).toArray) cO.drew:=by rw [AB];exact BO.o (nq+1)
 have d0:cO.cell? (ad p 0)=some (.map (some b)):=Am.box.cells 0;obtain⟨AP,BU,BX,CL⟩:=hq4 BP BR Am BS;clear AB BP BR Am BS Ak CF;cases ok
 ·go_wp2_with fail;refine wp_region_still_tail 6 kr kr ?_;simp only [List.take_succ_cons,List.take_zero,List.drop_succ_cons,List.drop_zero];repeat (first | (((refine aCV (p:=ad G 0) rfl CL.o ?_);simp only [Act.put,List.setIfInBounds_toArray,List.set_cons_succ,List.set_cons_zero])) | still_step)
  try refine wpStill_nil ?_
  change wpList _ _ _ _ _ cO.drew;have BZ:eU cO.drew prog 59 encS b n M:=BX.o.map;have Bb:keyOf prog 59 (.agg (bQ X).toArray)=some (.string X):=by have:=Uv I;rwa [Ri] at this
  have Bc:encS s.data.toList = .string s:=by unfold encS;rw [Y3]
  obtain⟨CQ,CS,CU⟩:=hq3 BZ Bb Bc;clear BZ Bb Bc;go_wp2_with (first|((with_reducible refine aee CQ.o O3 MV underlying87 ?_ (.agg (bQ X).toArray) X CS.o s.data.toList ?_ ?_);exact mV;exact⟨rfl,rfl,CU.o.symm⟩;intro bn Be Ao;have AV:bn.heap[p]?=some (.cells #[.map (some b),.int .i64 z] 89 (0,0)):=(Ao.2.2.2.2 p Aq).trans BX.o.obj;have Cc:bn.cell? (ad p 1)=some (.int .i64 z):=(aQH bn p 1 _ _ _ AV).trans rfl;have f1:bn.frozen? ⟨p,1,none⟩=false:=aQY bn p 1 _ _ AV;obtain⟨Bf,CV,Ap⟩:=hq3 AV Be Ao;clear AV Be Ao)|(have CW:(bn.setCell ⟨p,1,none⟩ (.int .i64 (z+s.size))).heap[G]?=some (.cells (bQ X).toArray 59 (0,0)):=((aQX _ _ _ G (by simp;omega)).trans (Ap.o.2.2.2.2 G om)).trans BU.o;(with_reducible refine QJ G 0 _ _ _ CW (bQ X) (fun j _=>YV _ j) _ underlying59 (zt I) ?_ ?_);exact⟨rfl,rfl⟩)|(have Bg:(bn.setCell ⟨p,1,none⟩ (.int .i64 (z+s.size))).heap[w.heap.size]?=some (.cells (bQ (List.replicate 32 0)).toArray 59 (0,0)):=((aQX _ _ _ w.heap.size (by simp;omega)).trans (Ap.o.2.2.2.2 w.heap.size om)).trans AP.o.row;have Bh:=aa Bg;clear Bg;(with_reducible refine yH w.heap.size 0 (.agg (bQ X).toArray) (bQ X) (qK _) _ _ Bh.o (zt I) (Wz I) (GZ _) ?_ ?_);exact⟨rfl,rfl⟩));have CX:(bn.setCell ⟨p,1,none⟩ (.int .i64 (z+s.size))).heap[p]?=some (.cells #[.map (some b),.int .i64 (z+s.size)] 89 (0,0)):=by rw [setCell_eq_setRow bn p 1 _ _ _ _ Bf.o];exact aQU bn p _ _ _ _ Bf.o
  have CY:BJ (bn.setCell ⟨p,1,none⟩ (.int .i64 (z+s.size))) p b (n+1) (oI M X s.data.toList) (z+s.size):=⟨CX,CV.o.setCell _ _ (fun e=>Aq e.symm)⟩;have CZ:j3 p b w (bn.setCell ⟨p,1,none⟩ (.int .i64 (z+s.size))):=(((j3.gN AP.o.below).trans (j3.gN (Below.refl _ _).drew)).trans (j3.um Ap.o)).trans (j3.ajg p b bn 1 _);have Bi:Below w.heap.size (bn.setCell ⟨p,1,none⟩ (.int .i64 (z+s.size))) ((bn.setCell ⟨p,1,none⟩ (.int .i64 (z+s.size))).setRow w.heap.size (laid (bQ (List.replicate 32 0)).toArray 0 (bQ X))):=Kz (Below.refl _ _) (aQF _) _;refine aQP (v:=.agg (bQ X).toArray) (aQ7 rfl _ _ _ 59 _ (0,0) _ rfl (aCX Bh.o _ I) underlying59 rfl (by rw [List.size_toArray];exact zt I)) rfl ⟨rfl,?_,CZ.low Bi⟩;rw [show M2=oI M X s.data.toList by simpa using BD.o,show z2=z+s.size by simpa using BF.o,show BC=n+1 by simpa using BG.o];exact CY.below Bi Y.1 Y.2
 ·go_wp2_with (first|((with_reducible refine QJ G 0 _ _ _ BU.o (bQ X) (fun j _=>YV _ j) _ underlying59 (zt I) ?_ ?_);exact⟨rfl,rfl⟩)|((with_reducible refine yH w.heap.size 0 (.agg (bQ X).toArray) (bQ X) (qK _) _ _ AP.o.row (zt I) (Wz I) (GZ _) ?_ ?_);exact⟨rfl,rfl⟩));refine aQP (v:=.agg (bQ X).toArray) (aQ7 rfl _ _ _ 59 _ (0,0) _ rfl (uI.wrote AP.o _ I) underlying59 rfl (by rw [List.size_toArray];exact zt I)) rfl ⟨rfl,by rw [show M2=M by simpa using BD.o,show z2=z by simpa using BF.o,show BC=n by simpa using BG.o];exact BB.o.below (uI.aic AP.o _) Y.1 Y.2,j3.gN (uI.aic AP.o _)⟩
end
section
open Go.RowKit Go.Shelf
abbrev aC1:=dB
abbrev aq0:=kU
def iA (x:aC1):List Value:=[.string (aA x.path),.bool x.is,.string (aA x.data)]
def l6 (d:aR0):List Value:=(List.range 32).map fun j=>.int .u8 (d.getD j 0).toNat
theorem rC (d:aR0):(l6 d).length=32:=by simp [l6]
theorem HZ {d:aR0} (h:d.length=32):l6 d=bQ d:=by refine aRO (by rw [rC,xn,h]) fun j h1 I=>?_;rw [rC] at h1;simp [l6,bQ,List.getD_eq_getElem?_getD,h,h1]
def iq (x:aq0):List Value:=.string (aA x.path) :: .bool x.is :: l6 x.sum
theorem zW (x:aq0):(iq x).length=34:=by simp [iq,rC]
def A7:List UInt8:=List.replicate 32 0
def xB:List Value:=iq ⟨[],false,A7⟩
def aM (W:aRU) (g:Nat) (V:aRW) (t:TypeId):Prop:=W.heap[g]?=some (.cells V.toArray t (0,0))
section
variable {W W':aRU} {g:Nat} {V:aRW} {t:TypeId}
theorem aM.lt (h:aM W g V t):g < W.heap.size:=iw h
theorem aM.below (h:aM W g V t) (ae:Below B W W') (av:g < B):aM W' g V t:=(ae.block g av).trans h
theorem aM.all (h:aM W g V t) (ae:Bl W W'):aM W' g V t:=h.below ae h.lt
theorem aM.new (W:aRU) (V:aRW) (t:TypeId):aM (W.alloc (.cells V.toArray t)) W.heap.size V t:=aQS W _
theorem kY {aH:aRU} (h:aH=W.alloc (.cells V.toArray t)):aM aH W.heap.size V t:=by rw [h];exact aM.new W _ _
theorem aM.cell (h:aM W g V t) (j:Nat):W.cell? (ad g j)=V[j]?:=by rw [cell_of_row W _ _ _ _ _ h];simp
theorem aM.dG {BF:Nat} (h:aM W g V t) (k:fV BF W W') (bJ:g≠BF):aM W' g V t:=(k.2.2.2.2 g bJ).trans h
theorem oO (h:Below B w W) (k:fV g W W') (av:B<=g):Below B w W' :=
 h.trans ⟨k.1,k.2.1,k.2.2.1,by rw [k.2.2.2.1];exact aQF _,fun i I=>k.2.2.2.2 i om⟩
theorem ajl (W:aRU) (g:Nat) (cs:Array Value):fV g W (W.setRow g cs):=⟨rfl,rfl,rfl,by simp,fun k hk=>aQT W g k cs hk⟩
variable {P:Program} {ops:Array Oper} {rest:List Oper} {a:Act} {Q:aRX} {dst:Option Tmp} {ty ic:TypeId} {x v:Operand} {pos:String} {after:Array Edge}
theorem wpList_load_row (g off:Nat) (V vs:aRW) (t:TypeId) (av:aM W g V t) (oq:(V.drop off).take vs.length=vs) (d:TypeDesc) (hu:P.underlying ty=some d) (ay:(P.info? ty).map (·.size)=some vs.length)
  (ah:a.eval x = .pointer (some ⟨g,off,none⟩)/\Cs d=true)
  (h:wpList P ops Q rest (a.put dst (.agg vs.toArray)) W):wpList P ops Q (⟨dst,.load ty x,ic,pos,after,none⟩ :: rest) a W :=
 QJ g off V.toArray t (0,0) av vs (fun j aC=>by
  have h1:vs[j]?=((V.drop off).take vs.length)[j]?:=by rw [oq]
  rw [h1,List.getElem?_take_of_lt aC,List.getElem?_drop];simp) d hu ay ah h
theorem wpList_store_row (g off:Nat) (val:Value) (vs V zX:aRW) (t:TypeId) (av:aM W g V t) (oq:val.cells.toList=vs)
  (ay:(P.info? ty).map (·.size)=some vs.length) (rO:off+vs.length<=V.length) (h1:∀ v∈vs,v.oneCell'=true) (ag:V.take off++vs++V.drop (off+vs.length)=zX)
  (xk:a.eval x = .pointer (some ⟨g,off,none⟩)/\a.eval v=val)
  (h:∀ aY,aM aY g zX t->fV g W aY->wpList P ops Q rest (a.put dst undef) aY):wpList P ops Q (⟨dst,.store ty x v,ic,pos,after,none⟩ :: rest) a W :=
 yH g off val vs oq V.toArray t av ay (by simpa using rO) h1 xk (h _ (by
  have:=aQU W g _ (laid V.toArray off vs) _ _ av;rw [aM,<- ag];exact this) (ajl W g _))
theorem aC2 (g:Nat) (vs V:aRW) (t:TypeId) (av:aM W g V t) (ay:(P.info? ty).map (·.size)=some vs.length) (hl:vs.length=V.length) (h1:∀ v∈vs,v.oneCell'=true)
  (xk:a.eval x = .pointer (some ⟨g,0,none⟩)/\a.eval v = .agg vs.toArray)
  (h:∀ aY,aM aY g vs t->fV g W aY->wpList P ops Q rest (a.put dst undef) aY):wpList P ops Q (⟨dst,.store ty x v,ic,pos,after,none⟩ :: rest) a W :=
 wpList_store_row g 0 (.agg vs.toArray) vs V vs t av (qK _) ay om h1 (by simp [hl]) xk h
variable {t0:TypeId}
theorem aC3 (cells:Array Value) (hf:P.built t0 []=some cells)
  (h:wpList P ops Q rest (a.put dst (.agg cells)) W):wpList P ops Q (⟨dst,.build t0 #[],ic,pos,after,none⟩ :: rest) a W :=
 Wq cells (by simp [hf]) h
theorem ajm (v0:Value) (cells:Array Value) (hf:P.built t0 [(i0,v0)]=some cells) (ah:a.eval pq=v0)
  (h:wpList P ops Q rest (a.put dst (.agg cells)) W):wpList P ops Q (⟨dst,.build t0 #[(i0,pq)],ic,pos,after,none⟩ :: rest) a W :=
 Wq cells (by simp [ah,hf]) h
theorem Rk {l7:Operand} {i1:Nat} (v0 v1:Value) (cells:Array Value) (hf:P.built t0 [(i0,v0),(i1,v1)]=some cells) (ah:a.eval pq=v0/\a.eval l7=v1)
  (h:wpList P ops Q rest (a.put dst (.agg cells)) W):wpList P ops Q (⟨dst,.build t0 #[(i0,pq),(i1,l7)],ic,pos,after,none⟩ :: rest) a W :=
 Wq cells (by simp [ah,hf]) h
theorem Rl {l7 uo:Operand} {i1 i2:Nat} (v0 v1 v2:Value) (cells:Array Value) (hf:P.built t0 [(i0,v0),(i1,v1),(i2,v2)]=some cells) (ah:a.eval pq=v0/\a.eval l7=v1/\a.eval uo=v2)
  (h:wpList P ops Q rest (a.put dst (.agg cells)) W):wpList P ops Q (⟨dst,.build t0 #[(i0,pq),(i1,l7),(i2,uo)],ic,pos,after,none⟩ :: rest) a W :=
 Wq cells (by simp [ah,hf]) h
theorem aC4 (V:aRW) (n:Nat) (hl:V.length=n) (ay:(P.info? ty).map (·.size)=some V.length) (h1:∀ v∈V,v.oneCell'=true)
  (xk:a.eval x = .pointer (some ⟨w1.heap.size,0,none⟩)/\a.eval v = .agg V.toArray/\Z.size=n)
  (h:wpList P ops Q rest (a.put dst undef) (w1.alloc (.cells V.toArray ty))):wpList P ops Q (⟨dst,.store ty x v,ic,pos,after,none⟩ :: rest) a (w1.alloc (.cells Z ty)):=by
 refine yH w1.heap.size 0 (.agg V.toArray) V (by simp [Value.cells]) Z ty (aQS w1 _) ay (by have:=xk.2.2;omega) h1 ⟨xk.1,xk.2.1⟩ ?_;rw [EB (hl.trans xk.2.2.symm),World.setRow_alloc_new];exact h
theorem Rm (off:Nat) (vs:aRW) (av:aM W g V t) (oq:(V.drop off).take vs.length=vs) (hu:P.underlying ty=some d) (ay:(P.info? ty).map (·.size)=some vs.length) (h:wpList P ops Q rest (a.put dst (.agg vs.toArray)) W)
  (ah:a.eval x = .pointer (some ⟨g,off,none⟩)/\Cs d=true:=by with_unfolding_all exact⟨rfl,rfl⟩):wpList P ops Q (⟨dst,.load ty x,ic,pos,after,none⟩ :: rest) a W:=wpList_load_row g off V vs t av oq d hu ay ah h
theorem kG (av:aM W g V t) (hu:P.underlying ty=some d) (ay:(P.info? ty).map (·.size)=some V.length) (h:wpList P ops Q rest (a.put dst (.agg V.toArray)) W)
  (ah:a.eval x = .pointer (some ⟨g,0,none⟩)/\Cs d=true:=by with_unfolding_all exact⟨rfl,rfl⟩):wpList P ops Q (⟨dst,.load ty x,ic,pos,after,none⟩ :: rest) a W:=Rm 0 V av sp hu ay h ah
theorem Ux {vs zX:aRW} (off:Nat) (val:Value) (av:aM W g V t) (oq:val.cells.toList=vs) (ay:(P.info? ty).map (·.size)=some vs.length) (hf:off+vs.length<=V.length) (h1:∀ v∈vs,v.oneCell'=true) (ag:V.take off++vs++V.drop (off+vs.length)=zX)
  (h:∀ aY,aM aY g zX t->fV g W aY->wpList P ops Q rest (a.put dst undef) aY) (ah:a.eval x = .pointer (some ⟨g,off,none⟩)/\a.eval v=val:=by with_unfolding_all exact⟨rfl,rfl⟩):wpList P ops Q (⟨dst,.store ty x v,ic,pos,after,none⟩ :: rest) a W:=wpList_store_row g off val vs V zX t av oq ay hf h1 ag ah h
theorem Jn (vs:aRW) (av:aM W g V t) (ay:(P.info? ty).map (·.size)=some vs.length) (hl:vs.length=V.length) (h1:∀ v∈vs,v.oneCell'=true)
  (h:∀ aY,aM aY g vs t->fV g W aY->wpList P ops Q rest (a.put dst undef) aY) (ah:a.eval x = .pointer (some ⟨g,0,none⟩)/\a.eval v = .agg vs.toArray:=by with_unfolding_all exact⟨rfl,rfl⟩):wpList P ops Q (⟨dst,.store ty x v,ic,pos,after,none⟩ :: rest) a W:=aC2 g vs V t av ay hl h1 ah h
theorem vF (vs:aRW) (av:aM W g V t) (ay:(P.info? ty).map (·.size)=some vs.length) (hl:vs.length=V.length) (h1:∀ v∈vs,v.oneCell'=true)
  (h:∀ aY,AJ (aM aY g vs t)->AJ (fV g W aY)->wpList P ops Q rest (a.put dst undef) aY) (ah:a.eval x = .pointer (some ⟨g,0,none⟩)/\a.eval v = .agg vs.toArray:=by with_unfolding_all exact⟨rfl,rfl⟩):wpList P ops Q (⟨dst,.store ty x v,ic,pos,after,none⟩ :: rest) a W:=Jn vs av ay hl h1 (zN h) ah
theorem A8 {zX:aRW} (off:Nat) (v0:Value) (av:aM W g V t) (ay:(P.info? ty).map (·.size)=some 1) (hf:off+1<=V.length) (h1:v0.oneCell'=true) (ag:V.set off v0=zX)
  (h:∀ aY,aM aY g zX t->fV g W aY->wpList P ops Q rest (a.put dst undef) aY) (ah:a.eval x = .pointer (some ⟨g,off,none⟩)/\a.eval v=v0:=by with_unfolding_all exact⟨rfl,rfl⟩):wpList P ops Q (⟨dst,.store ty x v,ic,pos,after,none⟩ :: rest) a W:=
 wpList_store_row g off v0 [v0] V zX t av (by cases v0 <;> first | rfl | cases h1) ay hf (by simpa using h1) (by rw [<- ag,List.set_eq_take_append_cons_drop,if_pos om];simp) ah h
theorem zx {n:Nat} (V:aRW) (hl:V.length=n) (ay:(P.info? ty).map (·.size)=some V.length) (h1:∀ v∈V,v.oneCell'=true)
  (h:wpList P ops Q rest (a.put dst undef) (w1.alloc (.cells V.toArray ty))) (ah:a.eval x = .pointer (some ⟨w1.heap.size,0,none⟩)/\a.eval v = .agg V.toArray/\Z.size=n:=by with_unfolding_all exact⟨rfl,rfl,rfl⟩):wpList P ops Q (⟨dst,.store ty x v,ic,pos,after,none⟩ :: rest) a (w1.alloc (.cells Z ty)):=aC4 V n hl ay h1 ah h
theorem qR {n:Nat} (V:aRW) (hl:V.length=n) (ay:(P.info? ty).map (·.size)=some V.length) (h1:∀ v∈V,v.oneCell'=true)
  (h:∀ af,AJ (Bl w1 af)->AJ (aM af w1.heap.size V ty)->wpList P ops Q rest (a.put dst undef) af) (ah:a.eval x = .pointer (some ⟨w1.heap.size,0,none⟩)/\a.eval v = .agg V.toArray/\Z.size=n:=by with_unfolding_all exact⟨rfl,rfl,rfl⟩):wpList P ops Q (⟨dst,.store ty x v,ic,pos,after,none⟩ :: rest) a (w1.alloc (.cells Z ty)):=
 zx V hl ay h1 (h _ (aa (gQ rfl)) (aa (kY rfl))) ah
theorem D5 {fn:Func} {R:aRY} {t:Tmp} (ax:aM W g V ty) (hu:P.underlying ty=some d) (aS:Cs d=true) (ay:(P.info? ty).map (·.size)=some V.length)
  (hf:fn.results=#[.cell t ty]/\a.tmps.getD t undef = .pointer (some ⟨g,0,none⟩)/\a.defers=[]) (aL:R (.returned (.agg V.toArray)) W):bodyPost P fn R .ret a W :=
 aQP (v:=.agg V.toArray) (aQ7 hf.1 _ _ g ty _ (0,0) _ hf.2.1 ax hu (by cases d <;> exact aS) (by rw [List.size_toArray];exact ay)) hf.2.2 aL
end
end
section
open Go.Maps Go.RowKit
theorem aq1:∀ (l:aRW) (k:Nat) (acc:Array Value),k+l.length<=acc.size ->
  ((l.zipIdx k).foldl (fun (cs:Array Value) (p:Value × Nat)=>cs.setIfInBounds p.2 p.1) acc).toList=acc.toList.take k++l++acc.toList.drop (k+l.length)
 | [],k,acc,_=>by simp
 | v :: l,k,acc,h=>by
  have hk:k < acc.size:=by rw [List.length_cons] at h;omega
  have I:k+1+l.length<=(acc.setIfInBounds k v).size:=by rw [Array.size_setIfInBounds];rw [List.length_cons] at h;omega
  rw [List.zipIdx_cons,List.foldl_cons,aq1 l (k+1) _ I,Array.toList_setIfInBounds,List.take_add_one,List.take_set_of_le (Nat.le_refl k),List.drop_set_of_lt om,List.getElem?_set_self (by rw [Array.length_toList];exact hk)];simp [Nat.add_assoc,Nat.add_comm 1]
theorem aC5 (aO:Nat) (cs:Array Value) (v:Value) (h1:v.cells.size=aO) (ag:cs.size=aO):Instr.fill (fun i=>some (i * aO,aO)) cs [(0,v)]=some v.cells:=by
 have h:=aq1 v.cells.toList 0 cs (by rw [Array.length_toList];omega);rw [List.take_zero,List.nil_append,List.drop_of_length_le (by rw [Array.length_toList,Array.length_toList];omega),List.append_nil] at h;have I:v.cells.zipIdx.foldl (fun (cs:Array Value) (p:Value × Nat)=>cs.setIfInBounds p.2 p.1) cs=v.cells:=by rw [<- Array.foldl_toList,Array.toList_zipIdx];exact Array.toList_inj.1 h
 unfold Instr.fill;simp only [Nat.zero_mul,h1,ne_eq,not_true,decide_false,Nat.zero_add,ag,gt_iff_lt,Nat.lt_irrefl,Bool.or_self,Bool.false_eq_true,if_false];unfold Instr.fill;exact congrArg some I
theorem aq2 (w:aRU) (t e:TypeId) (v z:Value) (aO:Nat) (hu:P.underlying t=some (.slice e)) (ay:(P.info? e).map (fun i=>(i.zero,i.size))=some (some z,aO)) (dm:z.cells.size=aO) (bg:v.cells.size=aO) (aV:0 < aO) (hs:aO<=16777216) :
  (Instr.buildSlice t 1 #[(0,v)]).run P w = .ok (.slice (some ⟨w.heap.size,0,none⟩) 1 1) (w.alloc (.cells v.cells e)):=by
 cases I:P.info? e with
 | none=>rw [I] at ay;cases ay
 | some M =>
  rw [I] at ay;simp only [Option.map_some,Option.some.injEq,Prod.mk.injEq] at ay;obtain⟨Y,J⟩:=ay;refine run_buildSlice w t e 1 _ v.cells M z hu I Y (by rw [J];omega) (by rw [J];omega) ?_;rw [J];exact aC5 aO _ v bg sp
end
section
open Go.RowKit Go.Shelf
structure D6 (P:Program) (t e:TypeId) (z:Value) (aO bytes:Nat):Prop where
 Z4:P.underlying t=some (.slice e)
 info:(P.info? e).map (fun i=>(i.zero,i.size,i.bytes))=some (some z,aO,bytes)
 zs:z.cells.size=aO
 small:0 < aO/\aO<=100/\bytes<=1000
structure Row (w W:aRU) (e:TypeId) (aO:Nat) (A:aRV) (n c:Nat) (xs:aRW):Prop where
 own:Own W w.heap.size e aO A n c xs
 low:Bl w W
theorem Row.on {e:TypeId} {aO:Nat} {n:Nat} (h:Row w W e aO A n c xs) (ae:Bl W W'):Row w W' e aO A n c xs :=
 ⟨h.own.below ae (aQF _),h.low.trans (ae.mono h.low.size)⟩
theorem Row.nil (w:aRU) (e:TypeId) (aO:Nat):Row w w e aO none 0 0 []:=⟨Own.nil _ _ _ _,Below.refl _ _⟩
section
variable {P:Program} {t e:TypeId} {z:Value} {aO bytes:Nat}
theorem D6.aq3 (h:D6 P t e z aO bytes):(P.info? e).map (fun i=>(i.zero,i.size))=some (some z,aO):=by
 have:=h.info;cases I:P.info? e with
 | none=>rw [I] at this;cases this
 | some i =>
  rw [I] at this;simp only [Option.map_some,Option.some.injEq,Prod.mk.injEq] at this |-;exact⟨this.1,this.2.1⟩
variable {W:aRU} {ops:Array Oper} {rest:List Oper} {a:Act} {Q:aRX} {dst:Option Tmp} {ic:TypeId} {x s:Operand} {pos:String} {after:Array Edge}
theorem Ba (h:D6 P t e z aO bytes) (v:Value) (bg:v.cells.size=aO) (ah:a.eval x=v)
  (aJ:∀ aY,Rd aY aO (some ⟨W.heap.size,0,none⟩) 1 v.cells.toList->Bl W aY->wpList P ops Q rest (a.put dst (.slice (some ⟨W.heap.size,0,none⟩) 1 1)) aY) :
  wpList P ops Q (⟨dst,.buildSlice t 1 #[(0,x)],ic,pos,after,none⟩ :: rest) a W :=
 aQ6 rfl fun K I=>by
  have J:=aq2 (P:=P) W t e v z aO h.Z4 h.aq3 h.zs bg h.small.1 (by have:=h.small.2.1;omega);unfold Oper.wp execOp;simp [ah,J];exact I _ _ (aJ _ (Rd.adi W v.cells e aO 1 dc om) iD)
theorem aq4 {u:TypeId} (h:D6 P t e z aO bytes) (dI:aRU) (A:aRV) (n c:Nat) (xs:aRW) (bS:Row dI W e aO A n c xs) (g:Nat) (news:aRW) (lC:Rd W aO (some ⟨g,0,none⟩) 1 news)
  (h1:∀ v∈news,v.oneCell'=true) (aB:n<=1000000) (hu:P.underlying u=some (.slice e)) (zM:a.eval s = .slice A n c/\a.eval x = .slice (some ⟨g,0,none⟩) 1 1)
  (aJ:∀ A' c' W',Row dI W' e aO A' (n+1) c' (xs++news)->wpList P ops Q rest (a.put dst (.slice A' (n+1) c')) W') :
  wpList P ops Q (⟨dst,.call ⟨.builtin .append,#[s,x],#[t,u]⟩,ic,pos,after,none⟩ :: rest) a W :=
 vg e z aO bytes h.Z4 h.info h.zs dI.heap.size A n c xs bS.own 1 news _ (Src.slice hu lC) h1 mV (by have:=h.small;have:(n+1) * bytes<=1000001 * 1000:=Nat.mul_le_mul om om;omega) bS.low.size zM
  fun A' c' W' I av _=>aJ A' c' W' ⟨I,bS.low.grown av bS.low.size fun k e=>(bS.own.block k e).1⟩
end
theorem K6:D6 prog 61 135 (.agg xB.toArray) 34 56:=⟨underlying61,kr,rfl,dc⟩
theorem aeg:D6 prog 222 268 (.agg (Value.string ⟨#[]⟩ :: l6 A7).toArray) 33 48:=⟨underlying222,kr,rfl,dc⟩
theorem Rn:D6 prog 213 224 (.agg (l6 A7++[Value.slice none 0 0,Value.slice none 0 0]).toArray) 34 80:=⟨underlying213,kr,rfl,dc⟩
theorem Z5:D6 prog 156 80 (.agg #[.string ⟨#[]⟩,.bool false,.string ⟨#[]⟩]) 3 40:=⟨underlying156,kr,rfl,dc⟩
theorem K7:D6 prog 22 65 (.agg #[.string ⟨#[]⟩,.string ⟨#[]⟩]) 2 32:=⟨underlying22,kr,rfl,dc⟩
end
section
open Go.RowKit Go.Shelf
def gJ (k:dB):kU:=⟨k.path,k.is,if k.is=true then bP.sum k.data else A7⟩
theorem aq5:xB.toArray=#[Value.string ⟨#[]⟩,Value.bool false,dU,dU,dU,dU,dU,dU,dU,dU,dU,dU,dU,dU,dU,dU,dU,dU,dU,dU,dU,dU,dU,dU,dU,dU,dU,dU,dU,dU,dU,dU,dU,dU]:=rfl
theorem ajn:Sz 135 34:=kr
theorem Xe (x:kU):(prog.info? 135).map (·.size)=some (iq x).length:=by rw [zW];exact ajn
theorem FZ (x:kU):∀ v∈iq x,v.oneCell'=true:=by intro v I;simp only [iq,List.mem_cons,l6,List.mem_map] at I;rcases I with rfl | rfl | ⟨j,_,rfl⟩ <;> rfl
theorem aeh (p:ByteArray) (b:Bool):prog.built 135 [(0,.string p),(1,.bool b)]=some (Value.string p :: Value.bool b :: l6 A7).toArray:=kr
theorem ajo {k:dB} (h:k.is=true):iq (gJ k)=Value.string (aA k.path) :: Value.bool true :: bQ (bP.sum k.data):=by unfold gJ iq;rw [h];simp [HZ (yK k.data)]
theorem ajp {k:dB} (h:k.is=false):iq (gJ k)=Value.string (aA k.path) :: Value.bool false :: l6 A7:=by unfold gJ iq;rw [h];rfl
theorem aC7 (w:aRU) (k:dB) (hs:k.data.length<=1000000000) :
  CB 172 #[.agg (iA k).toArray] w (.agg (iq (gJ k)).toArray):=by
 obtain⟨J,AU,M,AX,nU,AZ⟩:=nq3 (aA k.path) (aA k.data) k.is;have Am:Value.agg (iA k).toArray = .agg #[.string J,.bool nU,.string M]:=by rw [AU,AX,AZ];rfl
 obtain⟨Ae,AB⟩:=ai (((w.alloc (.cells #[.string J,.bool nU,.string M] 80)).alloc (.cells xB.toArray 135)).alloc (.cells xB.toArray 135));have Ao:Bl w Ae:=by rw [AB];exact (iD.alloc sp _).alloc (by simp;omega) _
 have Ap:aM Ae (w.heap.size+1+1) xB 135:=by rw [AB];have:=aM.new ((w.alloc (.cells #[.string J,.bool nU,.string M] 80)).alloc (.cells xB.toArray 135)) xB 135;simpa using this
 have Aq:aM Ae (w.heap.size+1) xB 135:=by rw [AB];have:=aM.new (w.alloc (.cells #[.string J,.bool nU,.string M] 80)) xB 135;refine aM.all ?_ iD;simpa using this
 have Av:aM Ae w.heap.size [.string J,.bool nU,.string M] 80:=by rw [AB];exact ((aM.new w [.string J,.bool nU,.string M] 80).all iD).all iD
 rw [Am];rw [aq5] at AB;obtain⟨BG,BH,BK,BL,Af⟩:=hq5 AB Ao Ap Aq Av;cases nU with
 | false =>
  have AP:=ajp AZ.symm;rw [<- AU] at AP;obtain⟨V,AQ⟩:=ai (iq (gJ k));rw [<- AQ] at AP |-;have Az:=aa (show prog.built 135 [(0,.string J),(1,.bool false)]=some V.toArray by rw [AP];exact aeh J false);have AV:=FZ (gJ k);have Y:=Xe (gJ k);rw [<- AQ] at AV Y;have hlen:V.length=34:=by rw [AQ];exact zW _
  have Ag:xB.take 0++V++xB.drop (0+V.length)=V:=by simp [hlen,xB,zW]
  have Ah:0+V.length<=xB.length:=by rw [hlen];decide
  clear AB Ao Ap Aq Av AU AX AZ Am AQ hs AP;go_enter func172,ntmps172;go_wp2_with (first|((with_reducible refine Rk (.string J) (.bool false) V.toArray Az.o ?_ ?_);exact⟨rfl,rfl⟩)|(rw [<- BG.o];(with_reducible refine wpList_store_row (w.heap.size+1+1) 0 (.agg V.toArray) V xB V _ BK.o (qK _) Y Ah AV Ag ?_ ?_);exact⟨rfl,rfl⟩;intro cO Aa AA;have BN:=(Af.o.dG AA om).cell 1;have BO:=(Af.o.dG AA om).cell 2;have BB:=aa Aa;have Ac:=aa AA;clear Aa AA)|(with_reducible refine kG BB.o underlying135 Y ?_)|((with_reducible refine Ux 0 (.agg V.toArray) (BL.o.dG Ac.o om) (qK _) Y Ah AV Ag ?_);refine zN ?_;intro Br BU BX));exact D5 BU.o underlying135 rfl Y ⟨rfl,rfl,rfl⟩ ⟨rfl,oO (oO BH.o Ac.o om) BX.o om⟩
 | true =>
  obtain⟨S,Ak⟩:=ai (bP.sum k.data);have BC:S.length=32:=by rw [Ak];exact yK _
  have AP:=ajo AZ.symm;rw [<- AU,<- Ak] at AP;obtain⟨I,Ad⟩:=ai (Value.string J :: Value.bool true :: l6 A7);have Al:I.length=34:=by rw [Ad];simp [rC]
  have BZ:Sz 135 I.length:=by rw [Al];exact ajn
  have Bb:∀ v∈I,v.oneCell'=true:=by rw [Ad,AU];exact FZ ⟨k.path,true,A7⟩
  have Bc:xB.take 0++I++xB.drop (0+I.length)=I:=by simp [Al,xB,zW]
  have Be:0+I.length<=xB.length:=by rw [Al];decide
  have BP:I.take 2++bQ S++I.drop (2+(bQ S).length)=iq (gJ k):=by rw [AP,Ad,xn,BC];simp [rC]
  have Bf:2+(bQ S).length<=I.length:=by rw [xn,BC,Al];decide
  have BD:=fun (W:aRU) (g:Nat) (Bg:Rd W 1 (some ⟨g,0,none⟩) 1 [.string M])=>Xb W g M (by rw [AX,iP];exact hs) Bg;rw [show M.data.toList=k.data by rw [AX,gZ],<- Ak] at BD;have AV:=FZ (gJ k);have Y:=Xe (gJ k);have hlen:=zW (gJ k);obtain⟨V,AQ⟩:=ai (iq (gJ k));rw [<- AQ] at AV Y BP hlen |-;have Ag:xB.take 0++V++xB.drop (0+V.length)=V:=by simp [hlen,xB,zW]
  have Ah:0+V.length<=xB.length:=by rw [hlen];decide
  have Az:=aa (show prog.built 135 [(0,.string J),(1,.bool true)]=some I.toArray by rw [Ad];exact aeh J true);have Bh:=aa BD;clear AB Ao Ap Aq Av AU AX AZ Am AQ hs AP Ad Ak BD;go_enter func172,ntmps172;go_wp2_with (first|((with_reducible refine Rk (.string J) (.bool true) I.toArray Az.o ?_ ?_);exact⟨rfl,rfl⟩)|(rw [<- BG.o];(with_reducible refine wpList_store_row (w.heap.size+1+1) 0 (.agg I.toArray) I xB I _ BK.o (qK _) BZ Be Bb Bc ?_ ?_);exact⟨rfl,rfl⟩;intro cO Aa AA;have BN:=(Af.o.dG AA om).cell 1;have BO:=(Af.o.dG AA om).cell 2;have BB:=aa Aa;have Ac:=aa AA;clear Aa AA)|(go_at_call 33; refine (Bh.o _ _ (Rd.one cO (.string M) 9)).mono ?_;rintro e Bi ⟨rfl,BR⟩;have BF:=aa (show Bl cO Bi from iD.trans (BR.mono sp));clear BR BN BO)|((with_reducible refine Ux 2 (.agg (bQ S).toArray) (BB.o.all BF.o) (qK _) (zt BC) Bf (GZ _) BP ?_);refine zN ?_;intro Bt Bj BS)|(with_reducible refine kG Bj.o underlying135 Y ?_)|((with_reducible refine Ux 0 (.agg V.toArray) (((BL.o.dG Ac.o om).all BF.o).dG BS.o om) (qK _) Y Ah AV Ag ?_);refine zN ?_;intro C8 Bn Bp));have Bq:=oO BH.o Ac.o om;exact D5 Bn.o underlying135 rfl Y ⟨rfl,rfl,rfl⟩ ⟨rfl,oO (oO (aU Bq BF.o) BS.o om) Bp.o om⟩
end
section
open Go.RowKit
theorem D7 (s:ak):(aA s).toList=s:=by rw [ByteArray.toList_eq,gZ]
theorem aC9 (w:aRU) (s:ak):Calls prog 239 #[.string (aA s)] w fun e w'=>e = .returned (.tuple #[.int .i64 (vC s).1,.bool (vC s).2])/\w'=w:=by
 have M:=D7 s;obtain⟨S,J⟩:=ai (aA s);rw [<- J] at M |-;clear J;obtain⟨r,I⟩:=ai (vC s);have Y:=aa I;rw [<- I];clear I;go_enter func239,ntmps239;go_wp2;all_goals go_ret2
 all_goals (rw [Y.o];refine⟨?_,rfl⟩)
 all_goals simp only [beq_iff_eq,beq_eq_false_iff_ne,ne_eq] at *
 all_goals first|contradiction|(simp [vC,OU,OV,OW,ML,MM,Q3,MN,Q4,Q5,Q6,Q7,OX, *];done)|skip
theorem aDa (w:aRU) (base g:Nat) (l:aR0) (h:DK w base g l) (s:ByteArray) (hlen:l.length+s.size<=100000000) (sF:base<=w.heap.size) :
  CR 101 #[pp g 0,.string s] w (.tuple #[.int .i64 s.size,.nilIface]) fun w'=>DK w' base g (l++s.data.toList)/\Below base w w':=by
 obtain⟨AQ,p,A,c,av,aI,J⟩:=h;have Ae:=iw av;have AU:=J.ne av dc;obtain⟨n,Y⟩:=ai l.length;rw [<- Y] at av J hlen;have AV:=aa Y;have Aa:n+s.size<=maxLen:=by unfold maxLen;omega
 clear Y;go_enter func101,ntmps101;go_wp2_with (first|(go_at_call 153; refine (aie w g _ p av aI).mono ?_;rintro e w1 ⟨rfl,AA,I⟩;have Af:w1.cell? (ad g 1)=some (.slice A n c):=aQH w1 g 1 _ _ _ AA;have Ag:w1.frozen? ⟨g,1,none⟩=false:=aQY w1 g 1 _ _ AA;have AB:=J.grown I (fun b ae e=>AU (ae.trans e));clear J)|(at_builtin;have _t:=AB;go_must ((with_reducible refine vg 5 (.int .u8 0) 1 1 underlying48 QP rfl base A n c (bQ l) AB s.size (bQ s.data.toList) (.string s) (Src.str underlying9) (GZ _) Aa om (by have:=I.size;omega) ?_ ?_);exact⟨rfl,rfl⟩;intro dh bH aD AX AZ Ah;clear AB;have M:=(AZ.block g (by have:=I.size;omega) (fun e=>AU e.symm)).trans AA;have Ak:aD.cell? (ad g 1)=some (.slice A n c):=aQH aD g 1 _ _ _ M;have Al:aD.frozen? ⟨g,1,none⟩=false:=aQY aD g 1 _ _ M)));go_ret2;have Ac:Below base w w1:=(Below.refl base w).grown I sF (fun k e=>by injection e with e;omega);have Ad:Below base w aD:=Ac.grown AZ (by have:=I.size;omega) (fun k e=>(_t.block k e).1);refine⟨rfl,⟨AQ,_,dh,bH,?_,.inr rfl,?_⟩,Ad.setCell (p:=ad g 1) (by exact AQ) _⟩
 ·have:=aif _ M (.slice dh (n+s.size) bH);rw [List.length_append,wL];rw [AV.o] at this |-;exact this
 ·have AP:=AX.setOther (p:=ad g 1) (AX.ne M dc) (.slice dh (n+s.size) bH);rw [<- ahN] at AP;rw [List.length_append,wL];rw [AV.o] at AP |-;exact AP
theorem aDb (w:aRU) (Xf ael ty elem:TypeId) (g c:Nat) (cur:Array Value) (t:TypeId) (s:aR0)
  (hu:P.underlying Xf=some (.slice elem)) (hs:(P.info? elem).map (·.size)=some 1) (av:w.heap[g]?=some (.cells cur t (0,0))) (aB:cur.size=s.length) :
  (Builtin.copy_ #[Xf,ael] ty #[.slice (some ⟨g,0,none⟩) s.length c,.string ⟨s.toArray⟩]).run P w = .ok (goInt s.length) (w.setRow g (bQ s).toArray):=by
 have hl:(bQ s).length=s.length:=xn s;have I:=run_storeCells_at P g 0 t (bQ s) 0 cur w av om (GZ s);simp only [Nat.add_zero,Nat.zero_add,List.take_zero,List.nil_append] at I;rw [List.drop_of_length_le (by rw [Array.length_toList];omega),List.append_nil] at I;cases J:P.info? elem with
 | none=>simp [J] at hs
 | some i =>
  have M:i.size=1:=by simpa [J] using hs
  have Y:(⟨s.toArray⟩:ByteArray).size=s.length:=by show s.toArray.size=_;simp
  simp [Builtin.copy_,run_underlying hu,Builtin.lenOf,Builtin.firstCells,sizeOf,typeInfo,J,M,Y];rw [show (List.map (fun x=>Value.int .u8 (x.toNat:Int)) s)=bQ s from rfl,List.take_of_length_le om,I];rfl
theorem aDc {s:aR0} {ic Xf ael:TypeId} {d:Operand} {pos:String}
  (elem:TypeId) (g c n:Nat) (EO:s.length=n) (cur:Array Value) (t:TypeId)
  (hu:P.underlying Xf=some (.slice elem)) (hs:(P.info? elem).map (·.size)=some 1) (av:w.heap[g]?=some (.cells cur t (0,0))) (aB:cur.size=n)
  (aq6:a.eval d = .slice (some ⟨g,0,none⟩) n c/\a.eval x = .string (aA s))
  (h:wpList P ops Q rest (a.put dst (goInt n)) (w.setRow g (bQ s).toArray)):wpList P ops Q (⟨dst,.call ⟨.builtin .copy,#[d,x],#[Xf,ael]⟩,ic,pos,after,none⟩ :: rest) a w:=by
 subst EO;refine aQ6 rfl fun K I=>?_;have J:=aDb (P:=P) w Xf ael ic elem g c cur t s hu hs av aB;unfold Oper.wp;simp [execOp,resolve,invoke,builtin,aq6.1,aq6.2,aA,J,Result.andThen];exact I _ _ h
theorem aDd {n:Nat} (h:w.ownsRow base t 1 (.slice (some ⟨g,0,none⟩) n n) n xs):∃ cur,w.heap[g]?=some (.cells cur t (0,0))/\cur.size=n:=by
 obtain⟨hl,⟨h1,_⟩ | ⟨I,cap,cur,e,ae,av,J,hm,hc,ah⟩⟩:=h
 ·cases h1
 ·cases e;exact⟨cur,av,om⟩
theorem aDe {n:Nat} {s:aR0} (av:w.heap[g]?=some (.cells (bQ s).toArray 5 (0,0))) (aB:n=s.length) (aV:s≠[]) (uG:n<=9223372036854775807) :
  (Builtin.unsafeString_ #[256,3] 9 #[pp g 0,.int .i64 n]).run prog w = .ok (.string ⟨s.toArray⟩) (w.freeze ⟨g,0,none⟩ n):=by
 subst aB;refine apx w 256 3 9 5 underlying256 kr g 0 s.length (by simp [World.shape?,av,xn]) s aV om uG ?_;intro j x ah;have aC:j < s.length:=(aQL.1 ah).1;rw [Dy];refine (aQH w g (0+j) _ _ _ av).trans ?_;rw [Nat.zero_add,List.getElem?_toArray,TM s aC,List.getD_eq_getElem?_getD,ah];rfl
theorem aDf (w:aRU) (s:aR0) (hl:s.length<=1000000000) :
  CB 263 #[.string (aA s)] w (.string (aA s)):=by
 by_cases I:s=[]
 ·subst I;rw [show aA []=⟨#[]⟩ from rfl];go_enter func263,ntmps263;go_wp2;go_ret;exact⟨rfl,Below.refl _ _⟩
 ·obtain⟨i0,Ad,Ae,Af,Ag⟩:=info_parts QP;have aI:0 < s.length:=aRM.2 I;have Ah:(aA s).size=s.length:=iP s;obtain⟨n,AA⟩:=ai s.length;have J:((aA s).size:Int)=(n:Int):=om;have Ao:(0:Int) < n:=om;have Ap:(n:Int)<=1000000000:=om;obtain⟨S,M⟩:=ai (aA s);rw [<- M] at J |-;obtain⟨AB,AP,Ak⟩:=hq3 AA M I;clear M AA Ah aI I hl;go_enter func263,ntmps263;go_wp2_with (first|(refine wpList_make_full _ rfl (.tmp 8) (.tmp 8) 48 rfl w.heap.size 5 i0 (.int .u8 0) 1 underlying48 Ad Ae Af .i64 .i64 _ _ n rfl rfl ?_ ?_ ?_ ?_ (aQF _) ?_;(simp [J]);(simp [J]);(rw [Ag];omega);exact mV;intro w1 AQ AU;have Al:=aDd AQ;obtain⟨cur,Y,AV⟩:=Al;have AX:Bl w w1:=(Below.refl _ _).grown AU (aQF _) (fun k e=>by cases e);clear AQ AU)|((with_reducible refine aDc (s:=s) 5 w.heap.size n n AB.o.symm cur 5 underlying48 kr Y AV ?_ ?_);(exact⟨rfl,by rw [<- AP.o];rfl⟩);have AZ:=aQU w1 w.heap.size cur (bQ s).toArray 5 (0,0) Y;have Aa:=Kz AX (aQF _) (bQ s).toArray;have Am:=aDe AZ AB.o Ak.o om;obtain⟨af,Ac⟩:=ai (w1.setRow w.heap.size (bQ s).toArray);rw [<- Ac] at AZ Aa Am |-;clear Ac Y AX AV));all_goals go_ret
  all_goals exact⟨by rw [AP.o];rfl,Lib.below_freeze Aa (p:=ad w.heap.size 0) (aQF _) _⟩
end
section
open Go.Lib
theorem aq7:∀ (s:ak) {a:ak} {r:List ak},nS s=a :: r->∃ pre post,s=pre++a++post/\(∀ c∈pre,qC c=true)/\(post=[]\/∃ b t,post=b :: t/\qC b=true)/\a≠[]/\∀ c∈a,qC c=false
 | [],_,_,h=>by cases h
 | c :: s,a,r,h=>by
  cases hc:qC c with
  | true =>
   rw [aow hc] at h;obtain⟨pre,post,h1,AB,AV,AX⟩:=aq7 s h;refine⟨c :: pre,post,by rw [h1];rfl,fun d I=>?_,AV,AX⟩;rcases aQN.1 I with rfl | I
   ·exact hc
   ·exact AB d I
  | false =>
   have hs:c :: s=((c :: s).takeWhile fun d=>!qC d)++(c :: s).dropWhile fun d=>!qC d:=(List.takeWhile_append_dropWhile).symm;obtain⟨AQ,AP,post,J⟩:=nq2 ((c :: s).takeWhile fun d=>!qC d) ((c :: s).dropWhile fun d=>!qC d);rw [<- AP,<- J] at hs;have M:AQ≠[]:=by rw [AP,List.takeWhile_cons,hc];simp
   have Y:∀ d∈AQ,qC d=false:=fun d I=>by
    rw [AP] at I;have:=aRe.1 (List.all_takeWhile (p:=fun d=>!qC d) (l:=c :: s)) d I;simpa using this
   cases aI:post with
   | nil =>
    rw [hs,aI,List.append_nil,aox M Y] at h;injection h with h1 AB
    subst h1;exact⟨[],[],by rw [hs,aI];simp,by simp,.inl rfl,M,Y⟩
   | cons b t =>
    have ae:qC b=true:=by
     have AU:post≠[]:=by rw [aI];simp
     have:=List.head_dropWhile_not (fun d=>!qC d) (by rw [<- J];exact AU);have AA:((c :: s).dropWhile fun d=>!qC d).head?=some b:=by rw [<- J,aI];rfl
     rw [List.head?_eq_some_head (by rw [<- J];exact AU)] at AA;injection AA with AA
     rw [AA] at this;simpa using this
    rw [hs,aI,aoy M Y ae] at h;injection h with h1 AB
    subst h1;exact⟨[],b :: t,by rw [hs,aI];simp,by simp,.inr ⟨b,t,rfl,ae⟩,M,Y⟩
theorem aju {p:UInt8->Bool}:∀ {a b:ak},(∀ c∈a,p c=true)->(a++b).dropWhile p=b.dropWhile p
 | [],_,_=>rfl
 | c :: a,b,h=>by
  rw [List.cons_append,List.dropWhile_cons,h c sp,if_pos rfl];exact aju fun d I=>h d (by simp [I])
theorem aDg {pre a post:ak} (h1:∀ c∈pre,qC c=true) (ag:post=[]\/∃ b t,post=b :: t/\qC b=true) (au:a≠[]) (aN:∀ c∈a,qC c=false):Q8 (pre++a++post)=post.drop 1:=by
 unfold Q8;rw [List.append_assoc,aju h1];have I:(a++post).dropWhile qC=a++post:=by
  cases a with
  | nil=>exact absurd rfl au
  | cons c a=>rw [List.cons_append,List.dropWhile_cons,aN c sp];rfl
 rw [I,aju (p:=fun c=>!qC c) (fun c hc=>by simp [aN c hc])];rcases ag with rfl | ⟨b,t,rfl,ae⟩
 ·rfl
 ·rw [List.dropWhile_cons,ae];rfl
theorem aDh {pre post:ak} (h1:∀ c∈pre,qC c=true):Lib.index (pre++uL++post) uL=pre.length:=by
 refine Lib.index_first sp ?_ (fun j aC=>?_)
 ·unfold Lib.occAt;rw [List.append_assoc,List.drop_left];simp [List.isPrefixOf_iff_prefix]
 ·unfold Lib.occAt;have I:(pre++uL++post).drop j=pre[j] :: (pre++uL++post).drop (j+1):=by
   have hl:j < (pre++uL++post).length:=by simp;omega
   rw [List.drop_eq_getElem_cons hl];congr 1;rw [List.getElem_append_left (by simp;omega),List.getElem_append_left aC]
  rw [I];have ae:=h1 pre[j] (List.getElem_mem aC);have J:((116:UInt8) == pre[j])=false:=by rw [beq_eq_false_iff_ne];intro e;rw [<- e] at ae;revert ae;decide
  simp [uL,List.isPrefixOf,J]
end
section
open Go.RowKit Go.Shelf
theorem aDi (w:aRU) (s:ak) (hl:s.length<=1000000000):CB 238 #[.string (aA s)] w (.string (aA s)):=by have h:=aDf w s hl;obtain⟨S,I⟩:=ai (aA s);rw [<- I] at h |-;have H:=aa h;clear h I;go_enter func238,ntmps238;go_wp2_with (go_at_call 263; refine jr H.o ?_;intro w1 J);go_ret;exact⟨rfl,J.o⟩
theorem aDj (w:aRU) (s t:ak) (hl:s.length<=1000000000) (aj:qQ w):Calls prog 163 #[.string (aA s),.string (aA t)] w fun e w'=>e = .returned (.int .i64 (Lib.index s t))/\w'=w:=by obtain⟨m,hm⟩:=aj;have h:=Any.strings_Index { Tryz.tlIndex with } (aA s) (aA t) m w (by rw [iP];omega) hm;rw [gZ,gZ] at h;exact h
theorem aq8 (w:aRU) (s t:ak) (hl:s.length<=1000000000) (aj:qQ w):Calls prog 228 #[.string (aA s),.string (aA t)] w fun e w'=>e = .returned (.bool (mQ s t))/\w'=w:=by obtain⟨m,hm⟩:=aj;have h:=Any.strings_Contains { Tryz.tlContains with } (aA s) (aA t) m w (by rw [iP];omega) hm;rw [gZ,gZ] at h;exact h
def ajv (w:aRU) (base g:Nat) (c:sK):Prop:=∃ A eY,w.heap[g]?=some (.cells #[.slice A c.ws.length eY,.string (aA c.rest)] 300 (0,0))/\base<=g/\Own w base 9 1 A c.ws.length eY (cB c.ws)
def Xg (w:aRU) (e:Ending) (w':aRU):Option (Option sK)->Prop
 | none=>e = .returned (.tuple #[.pointer none,.bool false])
 | some none=>e = .returned (.tuple #[.pointer none,.bool true])
 | some (some c)=>∃ g,e = .returned (.tuple #[pp g 0,.bool true])/\ajv w' w.heap.size g c
def ajw (w:aRU) (s:ak) (e:Ending) (w':aRU):Prop:=Bl w w'/\Xg w e w' (yl eB s)
theorem aDk (s:ByteArray) (i:Nat) (x:Int) (ah:x=i) (h:i < s.size) (w:aRU):(Instr.index 9 (.string s) (.int .i64 x)).run prog w = .ok (.int .u8 (s.data.toList.getD i 0).toNat) w:=by
 subst ah;rw [run_index_string w 9 s .i64 i underlying9,dif_pos ⟨om,om⟩];have e:s[(i:Int).toNat]'om=s.data.toList.getD i 0:=by rw [List.getD_eq_getElem?_getD,List.getElem?_eq_getElem (by rw [Array.length_toList];exact h)];simp [ByteArray.getElem_eq_getElem_data]
 rw [e]
theorem aDl (a:ak):(vC a).2=true->2<=(vC a).1:=by
 unfold vC;repeat' split
 all_goals simp
theorem aDm {o N:Nat} {L:aRW} {T:ByteArray} {ps:ak} (ae:Bl w w1) (aG:Own w1 w.heap.size 9 1 (some ⟨b,o,none⟩) N c L) (eX:0 < N) (gY:L[0]?=some (.string ⟨#[116,101,120,116]⟩)) (bY:T=aA ps) :
  ajv (w1.alloc (.cells #[.slice (some ⟨b,o,none⟩) 1 c,.string T] 300)) w.heap.size w1.heap.size ⟨[uL],ps⟩:=by
 subst bY;refine⟨some ⟨b,o,none⟩,c,aQS w1 _,ae.size,?_⟩;have h1:=aG.take (k:=1) om;have I:L.take (1 * 1)=cB [uL]:=by
  cases L with
  | nil=>cases gY
  | cons x L =>
   injection gY with gY
   subst gY;rfl
 rw [I] at h1;exact h1.alloc _
theorem aq9 {N:Nat} {L:aRW} {h:ak} {r:List ak} (ae:Bl w w1) (aG:Own w1 w.heap.size 9 1 A N c L) (eX:N=r.length+1) (gY:L=cB (h :: r)) :
  ajv (w1.alloc (.cells #[.slice A N c,.string ⟨#[]⟩] 300)) w.heap.size w1.heap.size ⟨h :: r,[]⟩:=by
 subst eX gY;exact⟨A,c,aQS w1 _,ae.size,aG.alloc _⟩
theorem aDn (w:aRU) (s:ak) (hs:s.length<=1000000) (aj:qQ w):Calls prog 204 #[.string (aA s)] w (ajw w s):=by
 have M:=aqF w s om;have j6:=fun W (ae:Bl w W)=>aDj W s uL om (aj.on ae);have AX:=aoz s;obtain⟨S,AZ⟩:=ai (aA s);rw [<- AZ] at M j6 |-;obtain⟨post,AB⟩:=ai (yl eB s);unfold ajw;rw [<- AB];have CK:=aa j6;cases hw:nS s with
 | nil =>
  have BU:yl eB s=some none:=by rw [ZU,hw];rfl
  rw [BU] at AB;subst AB;rw [hw] at M;have Aa:=aa M;clear M j6 aj hs AX AZ hw BU;go_enter func204,ntmps204;go_wp2_with (go_at_call 237; refine Aa.o.mono ?_;rintro e w1 ⟨A,c,rfl,I,ae⟩;have Y:=aa ae;clear I ae);go_ret2;exact⟨Y.o,rfl⟩
 | cons a r =>
  obtain⟨pre,pos,AQ,Ao,BG,Ae,Ap⟩:=aq7 s hw;have BO:a.length<=1000000:=(aQG (Y8 (s:=s) (x:=a) (by rw [hw];simp)).2.2 hs);obtain⟨a0,J,rfl⟩:∃ a0 J,a=a0 :: J:=by cases a with
   | nil=>exact absurd rfl Ae
   | cons x y=>exact⟨x,y,rfl⟩
  rw [hw] at M AX;obtain⟨n,Ac⟩:=ai r.length;rw [List.length_cons,<- Ac] at M AX;have BP:(0:Int) < (n:Int)+1:=om;obtain⟨N,Af⟩:=ai (n+1);rw [<- Af] at M AX;have Cv:(N:Int)≠0:=om;have D8:((N:Int) == 0)=false:=by rw [beq_eq_false_iff_ne];omega
  have DF:(0:Int) < N:=om;have DI:(N:Int)<=1000001:=om;have BH:∀ (l:ak) (Bf:aRU),(Instr.index 9 (.string (aA (a0 :: l))) (.int .i64 0)).run prog Bf = .ok (.int .u8 a0.toNat) Bf:=fun l Bf=>by
   have:=aDk (aA (a0 :: l)) 0 0 rfl (by rw [iP];simp) Bf;rw [gZ] at this;exact this
  have CL:=BH J;have Aq:=D7 (a0 :: J);obtain⟨Av,AU⟩:=ai (aA (a0 :: J));have Az:(cB ((a0 :: J) :: r))[0]?=some (.string Av):=by rw [AU];rfl
  obtain⟨L,Ad⟩:=ai (cB ((a0 :: J) :: r));rw [<- Ad] at Az;rw [<- Ad] at M;rw [<- AU] at CL Aq;have BK:=aa Az;have BB:AJ (0 < N):=aa om;by_cases Ag:a0=35
  ·have BU:yl eB s=some none:=by rw [ZU,hw,Ag];rfl
   rw [BU] at AB;subst AB;subst Ag;have Aa:=aa M;clear M j6 aj hs AX AZ hw BU Ad Az AU Aq AQ Ao BG Ae Ap BO Ac BP Af BH;go_enter func204,ntmps204;go_wp2_with (go_at_call 237; refine Aa.o.mono ?_;rintro e w1 ⟨A,c,rfl,I,ae⟩;have Y:=aa ae;have BC:=aa I;obtain⟨b,o,rfl,hc⟩:=I.rd.2 BB.o;have BX:w1.cell? (ad b o)=some (.string Av):=hc 0 _ BK.o;clear I ae hc);go_ret2;exact⟨Y.o,rfl⟩
  ·have BL:Rf ((a0 :: J) :: r)=false:=by simp [Rf,Ag]
   have CQ:(a0.toNat:Int)≠35:=fun e=>Ag (aRP.1 (by have:(35:UInt8).toNat=35:=rfl;omega));have Cg:((a0.toNat:Int) == 35)=false:=by rw [beq_eq_false_iff_ne];exact CQ
   obtain⟨DJ,BR⟩:=ai a0.toNat;rw [<- BR] at CL CQ Cg;by_cases AP:a0 :: J=uL
   ·have CS:post=some (some ⟨[uL],Q8 s⟩):=by rw [AB,ZU,hw,BL,cond_false,show okW eB ((a0 :: J) :: r)=true by rw [AP];simp [okW],cond_true,ZT,hw];simp only;rw [if_pos AP,AP]
    rw [AP] at AQ AU Ap Ae;have CU:Q8 s=pos.drop 1:=by rw [AQ];exact aDg Ao BG Ae Ap
    have CV:Lib.index s uL=(pre.length:Int):=by rw [AQ];exact aDh Ao
    have hlen:s.length=pre.length+4+pos.length:=by rw [AQ];simp;omega
    obtain⟨p,aI⟩:=ai pre.length;have Br:S.extract (p+4) S.size=aA pos:=Y2 (by
     rw [Oj,AZ,gZ,gZ,iP,hlen,aI,AQ,show pre++uL++pos=(pre++uL)++pos from rfl,List.drop_left' sp];exact aRB om);have CW:S.size=p+4+pos.length:=by rw [AZ,iP,hlen,aI]
    have CX:post=some (some ⟨[uL],pos.drop 1⟩):=by rw [CS,CU]
    rw [CV,<- aI] at j6;have Bt:=fun (W:aRU)=>aDi W (pos.drop 1) (by rw [List.length_drop];omega);have Bg:(aA pos).size=pos.length:=iP pos;have BZ:(aA pos).extract (min 1 pos.length) (aA pos).size=aA (pos.drop 1):=Y2 (by
     rw [Oj,gZ,gZ,Bg];rcases pos with _ | ⟨x,y⟩
     ·rfl
     ·simp);obtain⟨R,CY,T,C8,q,CZ⟩:=nq3 (aA pos) (aA (pos.drop 1)) pos.length;rw [<- CY] at Br BZ Bg;rw [<- C8] at BZ Bt;rw [<- CZ] at CW BZ Bg;have Cj:Av=⟨#[116,101,120,116]⟩:=AU;subst Cj;obtain⟨CK,Ck,Aa,Cm,Ah⟩:=hq5 j6 Bt M C8 CX;have DN:IntKind.i64.wrap ((p:Int)+4)=(p:Int)+4:=aRt _ (by constructor <;> omega);have Co:=aa BZ;clear M j6 aj hs AX AZ hw Ad Az AU Aq AQ Ao BG Ae Ap BO Ac BP Af BH BL AP Ag BR AB CS CX CU CV hlen aI CY C8 CZ Bt BZ;have CF:S.extract (p+4) (p+4+q)=R:=by rw [<- CW];exact Br
    have DR:R.extract (min (1:Int) (q:Int)).toNat q=T:=by have h:=Co.o;rw [Bg] at h;rw [<- h];congr 1;omega
    clear Br;go_enter func204,ntmps204;go_wp2_with (first|(go_at_call 237; refine Aa.o.mono ?_;rintro e w1 ⟨A,c,rfl,I,ae⟩;have Y:=aa ae;have BC:=aa I;obtain⟨b,o,rfl,hc⟩:=I.rd.2 BB.o;have BX:w1.cell? (ad b o)=some (.string ⟨#[116,101,120,116]⟩):=hc 0 _ BK.o;have DT:(1:Int)<=c:=(by have:=I.2.1;have:=BB.o;omega);have DU:¬ (c:Int) < 1:=om;clear I ae hc)|(go_at_call 163; refine (CK.o _ Y.o).mono ?_;rintro e af ⟨rfl,rfl⟩));go_region_with (go_at_call 238; refine (Ck.o _).mono ?_;rintro e aD ⟨rfl,Ak⟩);all_goals go_wp2
    all_goals go_ret2
    have CG:=Y.o.drew.trans (Ak.mono Y.o.size);refine⟨CG.alloc CG.size _,?_⟩;rw [Ah.o];exact⟨_,rfl,aDm CG (BC.o.drew.below Ak (aQF _)) BB.o BK.o Cm.o⟩
   ·have Db:(Av.toList == [116,101,120,116])=false:=by rw [Aq,beq_eq_false_iff_ne];exact AP
    have BD:=fun (W:aRU)=>aC9 W (a0 :: J);rw [<- AU] at BD;have AA:okW eB ((a0 :: J) :: r)=(decide ((vC (a0 :: J)).1=N) && decide ((vC (a0 :: J)).1≠0) && (!(vC (a0 :: J)).2 || eB (r.headD []))):=by rw [Af,Ac,okW,decide_eq_false AP,Bool.false_or]
    have Al:post=if okW eB ((a0 :: J) :: r)=true then some (some ⟨(a0 :: J) :: r,[]⟩) else none:=by rw [AB,ZU,hw,BL,cond_false,ZT,hw];simp only;rw [if_neg AP];cases okW eB ((a0 :: J) :: r) <;> rfl
    have BF:(vC (a0 :: J)).2=true->2<=(vC (a0 :: J)).1:=aDl (a0 :: J);obtain⟨BN,Bb⟩:=ai ((vC (a0 :: J)).1);obtain⟨aU,Bc⟩:=ai ((vC (a0 :: J)).2);rw [<- Bb] at BD AA BF;rw [<- Bc] at BD AA BF;obtain⟨Bh,Aa,Dc,Ca⟩:=hq4 BD M Al Ad;have Cc:=aa (Af.trans (by rw [Ac]:n+1=r.length+1));by_cases h1:BN=N/\BN≠0
    ·obtain⟨Cr,Bi⟩:=h1;subst Cr;rw [decide_eq_true rfl,decide_eq_true Bi,Bool.true_and,Bool.true_and] at AA;cases aU with
     | false =>
      have AV:post=some (some ⟨(a0 :: J) :: r,[]⟩):=by rw [Al,AA];rfl
      have Ah:=aa AV;clear M j6 aj hs AX AZ hw Ad Az AU Aq AQ Ao BG Ae Ap BO Ac BP Af BH AA Al BF Bb Bc BD BL AP Ag BR AB AV Bi;go_enter func204,ntmps204;go_wp2_with (first|(go_at_call 237; refine Aa.o.mono ?_;rintro e w1 ⟨A,c,rfl,I,ae⟩;have Y:=aa ae;have BC:=aa I;obtain⟨b,o,rfl,hc⟩:=I.rd.2 BB.o;have BX:w1.cell? (ad b o)=some (.string Av):=hc 0 _ BK.o;clear I ae hc)|(go_at_call 239; refine (Bh.o _).mono ?_;rintro e af ⟨rfl,rfl⟩));go_ret2;refine⟨Y.o.alloc Y.o.size _,?_⟩;rw [Ah.o];exact⟨_,rfl,aq9 Y.o BC.o Cc.o Ca.o⟩
     | true =>
      obtain⟨Am,Bj,rfl⟩:∃ Am Bj,r=Am :: Bj:=by
       cases r with
       | nil=>simp at Ac;have:=BF rfl;omega
       | cons x y=>exact⟨x,y,rfl⟩
      have CF:Am.length<=1000000:=aQG (Y8 (s:=s) (x:=Am) (by rw [hw];simp)).2.2 hs;have BS:=fun (W:aRU)=>adR W (aA Am) (by rw [iP];omega);rw [gZ] at BS;obtain⟨CJ,Bn⟩:=ai (aA Am);have Bp:(cB ((a0 :: J) :: Am :: Bj))[1]?=some (.string CJ):=by rw [Bn];rfl
      rw [<- Bn] at BS;rw [<- Ad] at Bp;have Ce:=aa Bp;have De:(1:Int) < BN:=by have:=BF rfl;omega
      simp only [List.headD_cons,Bool.not_true,Bool.false_or] at AA;obtain⟨m,hm⟩:=ai (eB Am);rw [<- hm] at BS AA;have Cf:=aa BS;cases m with
      | true =>
       have AV:post=some (some ⟨(a0 :: J) :: Am :: Bj,[]⟩):=by rw [Al,AA];rfl
       have Ah:=aa AV;clear M j6 aj hs AX AZ hw Ad Az AU Aq AQ Ao BG Ae Ap BO Ac BP Af BH AA Al BF Bb Bc BD BL AP Ag BR AB AV Bi Bp Bn BS hm CF;go_enter func204,ntmps204;go_wp2_with (first|(go_at_call 237; refine Aa.o.mono ?_;rintro e w1 ⟨A,c,rfl,I,ae⟩;have Y:=aa ae;have BC:=aa I;obtain⟨b,o,rfl,hc⟩:=I.rd.2 BB.o;have BX:w1.cell? (ad b o)=some (.string Av):=hc 0 _ BK.o;have Ct:w1.cell? (ad b (o+1))=some (.string CJ):=hc 1 _ Ce.o;clear I ae hc)|(go_at_call 239; refine (Bh.o _).mono ?_;rintro e af ⟨rfl,rfl⟩)|(go_at_call 43; refine (Cf.o _).mono ?_;rintro e aD ⟨rfl,Ak⟩;have Be:=aa (aU Y.o Ak);have Cu:=aa (BC.o.below Ak (aQF _));clear Ak));go_ret2;refine⟨Be.o.alloc Be.o.size _,?_⟩;rw [Ah.o];exact⟨_,rfl,aq9 Be.o Cu.o Cc.o Ca.o⟩
      | false =>
       have AV:post=none:=by rw [Al,AA];rfl
       have Ah:=aa AV;clear M j6 aj hs AX AZ hw Ad Az AU Aq AQ Ao BG Ae Ap BO Ac BP Af BH AA Al BF Bb Bc BD BL AP Ag BR AB AV Bi Bp Bn BS hm CF;go_enter func204,ntmps204;go_wp2_with (first|(go_at_call 237; refine Aa.o.mono ?_;rintro e w1 ⟨A,c,rfl,I,ae⟩;have Y:=aa ae;have BC:=aa I;obtain⟨b,o,rfl,hc⟩:=I.rd.2 BB.o;have BX:w1.cell? (ad b o)=some (.string Av):=hc 0 _ BK.o;have Ct:w1.cell? (ad b (o+1))=some (.string CJ):=hc 1 _ Ce.o;clear I ae hc)|(go_at_call 239; refine (Bh.o _).mono ?_;rintro e af ⟨rfl,rfl⟩)|(go_at_call 43; refine (Cf.o _).mono ?_;rintro e aD ⟨rfl,Ak⟩;have Be:=aa (aU Y.o Ak);clear Ak));go_ret2;refine⟨Be.o,?_⟩;rw [Ah.o];unfold Xg;rfl
    ·have AV:post=none:=by
      rw [Al,AA];rw [not_and] at h1;by_cases Bq:BN=N
      ·have:BN=0:=by have:=h1 Bq;omega
       simp [this]
      ·simp [Bq]
     have Ah:=aa AV;clear j6 aj hs AX AZ hw Ad Az AU Aq AQ Ao BG Ae Ap BO Ac BP Af BH AA Al BF Bb Bc BD BL AP Ag BR AB AV M;by_cases Bq:BN=N
     ·subst Bq;exact absurd ⟨rfl,om⟩ h1
     ·have Dg:(BN:Int)≠N:=om;clear h1;go_enter func204,ntmps204;go_wp2_with (first|(go_at_call 237; refine Aa.o.mono ?_;rintro e w1 ⟨A,c,rfl,I,ae⟩;have Y:=aa ae;have BC:=aa I;obtain⟨b,o,rfl,hc⟩:=I.rd.2 BB.o;have BX:w1.cell? (ad b o)=some (.string Av):=hc 0 _ BK.o;clear I ae hc)|(go_at_call 239; refine (Bh.o _).mono ?_;rintro e af ⟨rfl,rfl⟩));go_ret2;refine⟨Y.o,?_⟩;rw [Ah.o];unfold Xg;rfl
end
section
open Go.RowKit
theorem arf {may:ak->Bool}:∀ {l:List ak} {i k:Nat} {s:ak},(∀ (j:Nat) (x:ak),j < i->l[j]?=some x->yl may x≠none)->l[i]?=some s->yl may s=none->DW may l k=(3,k+i+1)
 | [],_,_,_,_,h,_=>by cases h
 | x :: l,0,k,s,_,h,I=>by
  cases h;rw [DW,I]
 | x :: l,i+1,k,s,ae,h,I=>by
  have J:=ae 0 x om rfl;have M:=arf (k:=k+1) (i:=i) (s:=s) (fun j y aC hy=>ae (j+1) y om (by simpa using hy)) (by simpa using h) I;cases ah:yl may x with
  | none=>exact absurd ah J
  | some o =>
   rw [DW,ah];simp only;rw [M];congr 1;omega
theorem arh {may:ak->Bool}:∀ {l:List ak} {k:Nat},(∀ (j:Nat) (x:ak),l[j]?=some x->yl may x≠none)->DW may l k=(0,0)
 | [],_,_=>rfl
 | x :: l,k,ae=>by
  have I:=ae 0 x rfl;have J:=arh (k:=k+1) fun j y hy=>ae (j+1) y (by simpa using hy);cases ah:yl may x with
  | none=>exact absurd ah I
  | some o =>
   rw [DW,ah];exact J
theorem aDs {may:ak->Bool} {l:List ak} {s:ak} (h:l[i]?=some s):qG may (l.take (i+1))=qG may (l.take i)++(match yl may s with | some (some c)=>[c] | _=>[]):=by rw [List.take_add_one,h,Option.toList_some,aqE];congr 1
structure wT where
 A:Option Addr
 eY:Nat
 c:sK
def M0 (X:List wT):List Value:=X.flatMap fun x=>[.slice x.A x.c.ws.length x.eY,.string (aA x.c.rest)]
theorem aDt (X:List wT) (x:wT):M0 X++[.slice x.A x.c.ws.length x.eY,.string (aA x.c.rest)]=M0 (X++[x]):=by simp [M0]
structure M3 (w:aRU) (base:Nat) (A:aRV) (c:Nat) (X:List wT):Prop where
 row:Own w base 300 2 A X.length c (M0 X)
 words:∀ x∈X,Own w base 9 1 x.A x.c.ws.length x.eY (cB x.c.ws)
theorem M3.below {X:List wT} (h:M3 w base A c X) (ae:Bl w w'):M3 w' base A c X:=⟨h.row.below ae (aQF _),fun x ah=>(h.words x ah).below ae (aQF _)⟩
theorem M3.mono {base':Nat} {X:List wT} (h:M3 w base A c X) (ae:base'<=base):M3 w base' A c X:=⟨h.row.mono ae,fun x ah=>(h.words x ah).mono ae⟩
theorem Own.apart {fo iY s1 s2 n d:Nat} {u:TypeId} {B:aRV} {ys:aRW} (h:Own w fo t s1 A n c xs) (k:Own w iY u s2 B m d ys) (bJ:t≠u):∀ b,bM A=some b->some b≠bM B:=by
 intro b ae e;obtain⟨_,_,cur,aZ,h1⟩:=h.block b ae;obtain⟨_,_,J,M,I⟩:=k.block b e.symm;rw [h1] at I;injection I with I
 injection I with _ I
 exact bJ I
theorem aDu:(prog.info? 300).map (fun i=>(i.zero,i.size,i.bytes))=some (some (.agg #[.slice none 0 0,.string ⟨#[]⟩]),2,40):=kr
theorem aeo {fn:Func} {t u v:Tmp} (h:fn.results=#[.tmp t,.tmp u,.tmp v]) (tmps:Array Value) (P:Program) (w:aRU) :
  (results fn tmps).run P w = .ok (.tuple #[tmps.getD t undef,tmps.getD u undef,tmps.getD v undef]) w:=by
 simp [results,h]
def UE (w:aRU) (s:ak) (e:Ending) (w':aRU):Prop:=∃ (A:aRV) (c:Nat) (X:List wT),e = .returned (.tuple #[.slice A X.length c,.int .i64 (pW eB s).1,.int .i64 (pW eB s).2])/\M3 w' w.heap.size A c X/\X.map (·.c)=(adW eB s).1/\Bl w w'
theorem UE.no {s:ak} {a:Nat} (h:pW eB s=(a,b)) (bq:a≠0) (ae:Bl w w'):UE w s (.returned (.tuple #[.slice none 0 0,.int .i64 a,.int .i64 b])) w':=by refine⟨none,0,[],by rw [h];rfl,⟨Own.nil _ _ _ _,fun x ah=>by cases ah⟩,?_,ae⟩;rw [ai1,h,if_neg bq];rfl
theorem aDv {x y:Value} (h1:x.oneCell'=true) (ag:y.oneCell'=true):∀ v∈[x,y],v.oneCell'=true:=fun v I=>by
 simp at I;rcases I with rfl | rfl
 ·exact h1
 ·exact ag
theorem aDw {aD:aRU} {bH bW O7:Nat} {dh O8:aRV} {X:List wT} {D9:sK} {kV:ByteArray} (h:Own aD base 300 2 dh (m+1) bH (V++[.slice O8 bW O7,.string kV])) (hm:m=X.length) (ed:V=M0 X) (aB:bW=D9.ws.length) (aL:kV=aA D9.rest)
  (aX:∀ x∈X,Own aD base 9 1 x.A x.c.ws.length x.eY (cB x.c.ws)) (hc:Own aD base 9 1 O8 D9.ws.length O7 (cB D9.ws)):M3 aD base dh bH (X++[⟨O8,O7,D9⟩]):=by
 subst hm ed aB aL;refine⟨?_,fun x ah=>?_⟩
 ·rw [List.length_append,<- aDt];exact h
 ·rcases aQ4.1 ah with ah | ah
  ·exact aX x ah
  ·rw [List.mem_singleton] at ah;subst ah;exact hc
theorem aDx {af aD:aRU} {o:Obj} {c1:Nat} {jT:aRV} (av:(af.alloc o).grownBy aD (bM jT)) (h1:Own af base 300 2 jT m c1 V):∀ (Mt:Nat) (A:aRV) (n c:Nat) (xs:aRW),Own af Mt 9 1 A n c xs->Own aD Mt 9 1 A n c xs :=
 fun _ _ _ _ _ h=>(h.alloc o).grown av (Own.apart (h.alloc o) (h1.alloc o) dc)
theorem ajy (w:aRU) (s:ak) (hs:s.length<=1000000) (aj:qQ w):Calls prog 156 #[.string (aA s)] w (UE w s):=by
 have AU:=ad1 w s om aj;have hlen:=QM s;have hle:∀ x∈jQ s,x.length<=1000000:=fun x ah=>aQG (TQ ah) hs;obtain⟨ls,J⟩:=ai (jQ s);obtain⟨n,AA,S,Ag⟩:=nq2 ls.length (aA s);have Ao:S.size=s.length:=by rw [Ag,iP]
 rw [<- J,<- AA] at AU hlen;rw [<- J] at hle;rw [<- Ag] at AU |-;obtain⟨Ap,C8,CF,Aq,CG⟩:=hq5 AU aj J AA hle;have Cf:(n:Int)<=1000001:=om;by_cases AV:65536 < s.length\/400 < n
 ·have AX:pW eB s=(6,0):=by rw [pW,if_pos (by rw [<- J,<- AA];exact AV)]
  have AZ:=aa AX;clear AU aj hlen hle J AA Ag hs AX;by_cases BN:65536 < s.length
  ·have BO:(65536:Int) < S.size:=om;clear Ao AV BN;go_enter func156,ntmps156;go_wp2_with (go_at_call 203; refine Ap.o.mono ?_;rintro e w1 ⟨A,c,rfl,AB,ae⟩;have AP:=aa ae;clear AB ae)
   ((try simp only [Exit.inBlock,Exit.then]);refine aQP (aeo rfl _ _ _) rfl ?_)
   exact UE.no AZ.o dc AP.o
  ·have BO:¬ (65536:Int) < S.size:=om;have CJ:(400:Int) < n:=om;clear Ao AV BN;go_enter func156,ntmps156;go_wp2_with (go_at_call 203; refine Ap.o.mono ?_;rintro e w1 ⟨A,c,rfl,AB,ae⟩;have AP:=aa ae;clear AB ae)
   ((try simp only [Exit.inBlock,Exit.then]);refine aQP (aeo rfl _ _ _) rfl ?_)
   exact UE.no AZ.o dc AP.o
 ·have AX:pW eB s=DW eB ls 0:=by rw [pW,if_neg (by rw [<- J,<- AA];exact AV),<- J]
  have AZ:=aa AX;have BO:¬ (65536:Int) < S.size:=om;have CJ:¬ (400:Int) < n:=om;have Cg:n<=400:=om;clear AU aj hlen hle J AA Ag hs AX Ao AV;go_enter func156,ntmps156;go_wp2_with (go_at_call 203; refine Ap.o.mono ?_;rintro e w1 ⟨A,c,rfl,AB,ae⟩;have AP:=aa ae;have CK:=aa AB;clear AB ae);go_loopg [6,23] n (fun gk CL CQ wr=>∃ (i:Nat) (AQ:aRV) (c1 m:Nat) (X:List wT),i+gk=n/\CQ = .int .i64 i/\m=X.length/\CL = .slice AQ m c1/\M3 wr w1.heap.size AQ c1 X/\X.map (·.c)=qG eB (ls.take i)/\(∀ (j:Nat) (x:ak),j < i->ls[j]?=some x->yl eB x≠none)/\Bl w1 wr);case atStart=>exact⟨0,none,0,0,[],om,rfl,rfl,rfl,⟨Own.nil _ _ _ _,fun x ah=>by cases ah⟩,rfl,fun j x aC=>absurd aC (aRF _),Below.refl _ _⟩
  case round =>
   obtain⟨i,AQ,c1,m,X,Cj,rfl,hm,rfl,Av,Ah,Az,Aa⟩:=hrel;have Ck:m<=i:=by have h1:=congrArg List.length Ah;rw [List.length_map,<- hm] at h1;have CS:=ZV eB (ls.take i);rw [List.length_take] at CS;omega
   have Ak:=aU AP.o Aa;obtain⟨BP,BB,BC,BD,BF,Ac⟩:=hq6 Ak Aa Av Ah Az hm;by_cases fQ:i < n
   ·have CU:(i:Int) < n:=om;have Cm:(0:Int)<=i:=om;obtain⟨x,ah⟩:∃ x,ls[i]?=some x:=⟨_,aQI (by rw [<- Aq.o];exact fQ)⟩;obtain⟨b,o,rfl,hc⟩:=(CK.o.rd.gz Aa).2 om;have hcell:wr.cell? (ad b (o+i))=some (.string (aA x)):=hc i _ (by rw [cB,List.getElem?_map,ah];rfl);have Ad:=aDn wr x (CG.o x (aQK ah)) (C8.o.on Ak);unfold ajw at Ad;have BG:=aDs (may:=eB) ah;obtain⟨rd,BH⟩:=ai (yl eB x);rw [<- BH] at Ad BG;obtain⟨Co,BR⟩:=ai (aA x);rw [<- BR] at hcell Ad;obtain⟨BK,BS,BU,BX⟩:=hq4 Ad BG BH ah;have BZ:rd≠none->∀ (j:Nat) (y:ak),j < i+1->ls[j]?=some y->yl eB y≠none:=fun CV j y aC hy=>by
     rcases aQW j i with h | h
     ·exact BF.o j y h hy
     ·obtain rfl:j=i:=om;rw [BX.o] at hy;cases hy;rw [<- BU.o];exact CV
    have Bb:=aa BZ;clear Av Ah Az Aa Ak hc Ad BG ah BH BR BZ hm;cases rd with
    | none =>
     have BL:=(AZ.o).trans (arf (k:=0) BF.o BX.o BU.o.symm);rw [Nat.zero_add] at BL;have CW:=aa BL;clear BL;go_wp2_with (go_at_call 204; refine BK.o.mono ?_;rintro e af ⟨I,M⟩;unfold Xg at M;subst M;have Y:=aa (aU BP.o I);clear I)
     ((try simp only [Exit.inBlock,Exit.then]);refine aQP (aeo rfl _ _ _) rfl ?_)
     have Bc:=UE.no CW.o dc Y.o;rw [show ((i+1:Nat):Int)=(i:Int)+1 by omega] at Bc;exact Bc
    | some CX =>
     cases CX with
     | none =>
      go_wp2_with (go_at_call 204; refine BK.o.mono ?_;rintro e af ⟨I,M⟩;unfold Xg at M;subst M;have Y:=aa (aU BB.o I);have Al:=aa (BC.o.below I);clear I);go_roundg (gk - 1);case rel=>exact⟨i+1,AQ,c1,m,X,om,by go_num,Ac.o,rfl,Al.o,by rw [BS.o,BD.o];simp,Bb.o sp,Y.o⟩
      case measure=>omega
     | some D9 =>
      obtain⟨bW,Be,kV,Bf,V,Bg⟩:=nq3 D9.ws.length (aA D9.rest) (M0 X);have Cr:m<=400:=om;obtain⟨Bh,Bi,Bj⟩:=hq3 Be Bf Bg;clear Be Bf Bg;go_wp2_with (first|(go_at_call 204; refine BK.o.mono ?_;rintro e af ⟨I,M⟩;unfold Xg at M;obtain⟨g,rfl,Ae,Af,av,CY,Bn⟩:=M;rw [<- Bh.o,<- Bi.o] at av;have Ct:af.cell? (ad g 0)=some (.slice Ae bW Af):=aQH af g 0 _ _ _ av;have Cu:af.cell? (ad g 1)=some (.string kV):=aQH af g 1 _ _ _ av;have Y:=aa (aU BB.o I);have Al:=aa (BC.o.below I);have CZ:=aa (Bn.mono BB.o.size);have Am:=Al.o.row;rw [<- Ac.o,<- Bj.o] at Am;clear I av CY Bn)|(at_builtin;have _t:=Am;go_must ((with_reducible refine vg 300 (.agg #[.slice none 0 0,.string ⟨#[]⟩]) 2 40 underlying257 aDu rfl w1.heap.size AQ m c1 V (Am.alloc _) 1 [.slice Ae bW Af,.string kV] (.slice (some ⟨af.heap.size,0,none⟩) 1 1) (Src.slice underlying257 (Rd.adi af #[.slice Ae bW Af,.string kV] 300 2 1 dc rfl)) (aDv (x:=.slice Ae bW Af) (y:=.string kV) rfl rfl) ?_ ?_ ?_ ?_ ?_);exact mV;omega;(exact aQG Y.o.size sp);exact⟨rfl,rfl⟩;intro dh bH aD Ca Bp Cv;have Cc:Bl w1 aD:=(Y.o.alloc Y.o.size _).grown Bp (aQG Y.o.size sp) (fun z e=>(_t.block z e).1);have Bq:=aDx Bp _t;clear Am)));go_roundg (gk - 1);case rel=>exact⟨i+1,dh,bH,m+1,X++[⟨Ae,Af,D9⟩],om,by go_num,by rw [List.length_append,<- Ac.o];rfl,rfl,aDw Ca Ac.o Bj.o Bh.o Bi.o (fun x ah=>Bq _ _ _ _ _ (Al.o.words x ah)) (Bq _ _ _ _ _ CZ.o),by rw [BS.o,List.map_append,BD.o];rfl,Bb.o sp,Cc⟩
      case measure=>omega
   ·obtain rfl:i=n:=om;have CU:¬ (i:Int) < i:=om;have Br:DW eB ls 0=(0,0):=arh fun j x ah=>BF.o j x (by rw [Aq.o];exact (aQL.1 ah).1) ah;have hcs:X.map (·.c)=qG eB ls:=by rw [BD.o,Aq.o,List.take_length]
    have Bt:=aa (AZ.o.trans Br);have Ce:=aa hcs;clear Av Ah Az Aa Ak Br hcs hm;go_wp2_with fail
    ((try simp only [Exit.inBlock,Exit.then]);refine aQP (aeo rfl _ _ _) rfl ?_)
    refine⟨AQ,c1,X,by rw [Bt.o,<- Ac.o];rfl,BC.o.mono AP.o.size,?_,BP.o⟩;rw [ai1,Bt.o,if_pos rfl,<- CF.o];exact Ce.o
theorem aDB (w:aRU) (s:ak) (hs:s.length<=1000000) (aj:qQ w):CB 106 #[.string (aA s)] w (.tuple #[.int .i64 (pW eB s).1,.int .i64 (pW eB s).2]):=by have h:=ajy w s hs aj;unfold UE at h;obtain⟨S,I,r,J⟩:=nq2 (aA s) (pW eB s);rw [<- I] at h |-;rw [<- J] at h |-;have H:=aa h;clear h I J aj;go_enter func106,ntmps106;go_wp2_with (go_at_call 156; refine H.o.mono ?_;rintro e w1 ⟨A,c,X,rfl,_,_,ae⟩;have M:=aa ae;clear ae);go_ret2;exact⟨rfl,M.o⟩
end
section
open Go.RowKit Go.Shelf
def H6 (M:fA Bool) (H:List fC):Prop:=∀ p,(getM M p).getD false=decide (p∈H)
theorem H6.nil:H6 [] []:=fun p=>by simp [getM]
theorem H6.put {M:fA Bool} {H:List fC} (h:H6 M H) (p:fC):H6 (oI M p true) (H++[p]):=fun q=>by
 by_cases e:q=p
 ·subst e;rw [ME];simp
 ·rw [MF M true e,h q];simp [e]
theorem aac (a b:Bool) (h:Value.bool a = .bool b):a=b:=by injection h
theorem arn (w:aRU):(zeroValue 4).run prog w = .ok (Value.bool false) w:=by rw [zeroValue4]
theorem ajA {dI:aRU} (h:Bl dI w) (k:fV g w w') (av:dI.heap.size<=g):Bl dI w' :=
 h.trans ⟨k.1,k.2.1,k.2.2.1,by rw [k.2.2.2.1];exact aQF _,fun i I=>k.2.2.2.2 i om⟩
def M5 (w:aRU) (g n:Nat) (M:fA Bool):Prop:=eU w prog 9 Value.bool g n M
theorem aDC {H:List fC} {x:fC} (h:H.Nodup) (ah:x ∉ H):(H++[x]).Nodup:=by rw [List.nodup_append];refine⟨h,by simp,fun a I b ae=>?_⟩;rw [List.mem_singleton] at ae;subst ae;exact fun e=>ah (e ▸ I)
theorem aad (ty:TypeId) (b off:Nat) (vs:aRW) (hc:∀ j v,vs[j]?=some v->w.cell? (ad b (off+j))=some v)
  (d:TypeDesc) (hu:P.underlying ty=some d) (aS:Cs d=true) (ay:(P.info? ty).map (·.size)=some vs.length) :
  (loadVar ty ⟨b,off,none⟩).run P w = .ok (.agg vs.toArray) w:=by
 unfold Cs at aS;have hl:(loadCells ⟨b,off,none⟩ vs.length).run P w = .ok vs.toArray w :=
  run_loadCells_list (P:=P) w ⟨b,off,none⟩ vs (fun j v J=>by rw [Dy];exact hc j v J);cases I:P.info? ty with
 | none=>simp [I] at ay
 | some i =>
  have hs:i.size=vs.length:=by simpa [I] using ay
  have M:(isAgg ty).run P w = .ok true w:=by unfold isAgg;rw [Sem.run_bind,run_underlying hu w];cases d <;> simp_all
  simp [loadVar,Sem.run_bind,M,sizeOf,typeInfo,I,hs,hl]
section
variable {P:Program} {w:aRU}
theorem Lb {o:Oper} {K:Act->World->Prop} (ty:TypeId) (x:Operand) (aG:o.op = .load ty x) {p:Addr}
  (hl:(loadVar ty p).run P w = .ok v w) (ah:a.eval x = .pointer (some p)) (h:K (a.put o.dst v) w):o.wp P a w K Q:=by
 unfold Oper.wp execOp;simp [aG,ah,Instr.loadAt,Instr.sureAddr,hl];exact h
theorem pO {ic:TypeId} {pos:String} {p:Addr}
  (hl:(loadVar ty p).run P w = .ok v w) (ah:a.eval x = .pointer (some p)) (h:wpList P ops Q rest (a.put dst v) w):wpList P ops Q (⟨dst,.load ty x,ic,pos,after,none⟩ :: rest) a w :=
 aQ6 rfl fun _ I=>Lb ty x rfl hl ah (I _ _ h)
end
abbrev kH:=vw × lv
def aae (X:List kH):List Value:=X.flatMap fun x=>(nT x.1 x.2).toList
theorem Pb (L:vw) (a:lv):(nT L a).toList.length=7:=rfl
theorem aMg:∀ X:List kH,(aae X).length=X.length * 7
 | []=>rfl
 | x :: X=>by
  have:=aMg X;simp only [aae,List.flatMap_cons,List.length_append,List.length_cons,Pb] at this |-;omega
theorem aro:∀ {X:List kH} {k:Nat} {x:kH},X[k]?=some x->∀ j v,(nT x.1 x.2).toList[j]?=some v->(aae X)[k * 7+j]?=some v
 | y :: X,0,x,h,j,v,aC=>by
  simp only [List.getElem?_cons_zero,Option.some.injEq] at h;subst h;have hl:j < 7:=by have:=(aQL.1 aC).1;rwa [Pb] at this
  rw [aae,List.flatMap_cons,Nat.zero_mul,Nat.zero_add,List.getElem?_append_left (by rw [Pb];exact hl)];exact aC
 | y :: X,k+1,x,h,j,v,aC=>by
  have I:=aro (X:=X) (k:=k) (x:=x) (by simpa using h) j v aC;rw [aae,List.flatMap_cons,List.getElem?_append_right (by rw [Pb];omega),Pb,show (k+1) * 7+j - 7=k * 7+j by omega];exact I
structure Rv (w:aRU) (A:aRV) (X:List kH):Prop where
 row:Rd w 7 A X.length (aae X)
 each:∀ x∈X,KV w x.1 x.2
theorem Rv.below {X:List kH} (h:Rv w A X) (ae:Bl w w'):Rv w' A X:=⟨h.row.gz ae,fun x ah=>(h.each x ah).below ae⟩
theorem Rv.load {X:List kH} (h:Rv w A X) {x:kH} (ah:X[k]?=some x) :
  ∃ b o,A=some ⟨b,o,none⟩/\(loadVar 45 ⟨b,o+k * 7,none⟩).run prog w = .ok (.agg (nT x.1 x.2)) w:=by
 have hk:=(aQL.1 ah).1;obtain⟨b,o,rfl,hc⟩:=h.row.2 om;refine⟨b,o,rfl,?_⟩;have:=aad (P:=prog) (w:=w) 45 b (o+k * 7) (nT x.1 x.2).toList (fun j v aC=>by
  rw [Nat.add_assoc];exact hc _ v (aro ah j v aC)) _ underlying45 rfl (by rw [Pb];exact adK);simpa using this
def aDD:Array Value:=#[.string ⟨#[]⟩,.string ⟨#[]⟩,.string ⟨#[]⟩,.slice none 0 0,.slice none 0 0,.slice none 0 0,.slice none 0 0]
theorem arp (L:vw) (a:lv):∀ v∈(nT L a).toList,v.oneCell'=true:=by intro v I;simp only [nT,List.mem_cons,List.not_mem_nil,or_false] at I;rcases I with rfl | rfl | rfl | rfl | rfl | rfl | rfl <;> rfl
theorem aDE {ic:TypeId} {v:Operand} {pos:String} (V:Array Value) (L:vw) (c:lv) (ed:V=nT L c)
  (xk:a.eval x = .pointer (some ⟨w1.heap.size,0,none⟩)/\a.eval v = .agg V)
  (h:wpList prog ops Q rest (a.put dst undef) (w1.alloc (.cells V 45))) :
  wpList prog ops Q (⟨dst,.store 45 x v,ic,pos,after,none⟩ :: rest) a (w1.alloc (.cells #[.string ⟨#[]⟩,.string ⟨#[]⟩,.string ⟨#[]⟩,.slice none 0 0,.slice none 0 0,.slice none 0 0,.slice none 0 0] 45)):=by
 subst ed;refine yH w1.heap.size 0 (.agg (nT L c)) (nT L c).toList rfl aDD 45 (aQM w1 _) (by rw [Pb];exact adK) (by rw [Pb];decide) (arp L c) xk ?_;rw [EB (by rw [Pb];rfl),World.setRow_alloc_new];exact h
def BM (X:List kH):List fC:=X.flatMap fun x=>x.2.outs
theorem ajB (X:List kH) (x:kH):BM (X++[x])=BM X++x.2.outs:=by simp [BM]
end
section
open Go.RowKit Go.Shelf
section
variable {α:Type}
def H7 (p:α->Bool) (row:List α):Int:=match row.findIdx? p with
 | some q=>(q:Int)
 | none=>-1
theorem arq {row:List α} {x:α} (p:α->Bool) (h:row[q]?=some x):(row.take (q+1)).any p=((row.take q).any p || p x):=by obtain⟨I,ah⟩:=aQL.1 h;rw [List.take_succ_eq_append_getElem I,ah,List.any_append];simp
theorem ars {row:List α} {x:α} {p:α->Bool} (h:row[q]?=some x) (h1:(row.take q).any p=false) (ag:p x=true):H7 p row=q:=by
 obtain⟨I,ah⟩:=aQL.1 h;have:row.findIdx? p=some q:=by
  rw [List.findIdx?_eq_some_iff_getElem];refine⟨I,by rw [ah];exact ag,fun j aC=>?_⟩;have J:=aRk.1 h1 row[j] (by
   rw [List.mem_iff_getElem];exact⟨j,by simp;omega,by simp⟩);simpa using J
 rw [H7,this]
theorem aaf {row:List α} {p:α->Bool} (h1:row.any p=false):H7 p row = -1:=by
 have:row.findIdx? p=none:=by rw [List.findIdx?_eq_none_iff];intro x ah;have:=aRk.1 h1 x ah;simpa using this
 rw [H7,this]
theorem art {row:List α} {p:α->Bool} (h1:row.any p=true):∃ (q:Nat) (x:α),H7 p row=q/\row[q]?=some x/\row.find? p=some x/\p x=true:=by
 cases hf:row.findIdx? p with
 | none =>
  rw [List.findIdx?_eq_none_iff] at hf;obtain⟨x,ah,aI⟩:=aRJ.1 h1;rw [hf x ah] at aI;cases aI
 | some q =>
  have h:=aRR.1 hf;obtain⟨I,aI,ae⟩:=h;refine⟨q,row[q],by rw [H7,hf],aQI I,?_,aI⟩;rw [List.find?_eq_some_iff_getElem];exact⟨aI,q,I,rfl,fun j aC=>by have:=ae j aC;simpa using this⟩
theorem aDF (p:α->Bool) (row:List α) (hl:row.length<=1000):-1<=H7 p row/\H7 p row<=1000:=by
 cases I:row.any p with
 | true =>
  obtain⟨q,x,h,J,_⟩:=art I;have:=(aQL.1 J).1;omega
 | false=>rw [aaf I];omega
def cK (f:α->List Value) (l:List α):List Value:=l.flatMap f
theorem aag {f:α->List Value} (hf:∀ x,(f x).length=k):∀ l:List α,(cK f l).length=l.length * k
 | []=>by simp [cK]
 | x :: l=>by
  have:=aag hf l;simp only [cK,List.flatMap_cons,List.length_append,List.length_cons,hf x,Nat.succ_mul] at this |-;omega
theorem Lc {f:α->List Value} (hf:∀ x,(f x).length=k):∀ {l:List α} {i:Nat} {x:α},l[i]?=some x->∀ j v,(f x)[j]?=some v->(cK f l)[i * k+j]?=some v
 | y :: l,0,x,h,j,v,aC=>by
  simp only [List.getElem?_cons_zero,Option.some.injEq] at h;subst h;have hl:j < k:=by have:=(aQL.1 aC).1;rwa [hf] at this
  rw [cK,List.flatMap_cons,Nat.zero_mul,Nat.zero_add,List.getElem?_append_left (by rw [hf];exact hl)];exact aC
 | y :: l,i+1,x,h,j,v,aC=>by
  have I:=Lc hf (l:=l) (i:=i) (x:=x) (by simpa using h) j v aC;rw [cK,List.flatMap_cons,List.getElem?_append_right (by rw [hf,Nat.succ_mul];omega),hf,show (i+1) * k+j - k=i * k+j by rw [Nat.succ_mul];omega];exact I
theorem vG {f:α->List Value} (hf:∀ x,(f x).length=k) (hu:P.underlying ty=some d) (aS:Cs d=true) (ay:(P.info? ty).map (·.size)=some k) {n:Nat} {l:List α} (h:Rd w k A n (cK f l)) {x:α} (ah:l[i]?=some x) (aB:l.length=n) :
  ∃ b o,A=some ⟨b,o,none⟩/\(loadVar ty ⟨b,o+i * k,none⟩).run P w = .ok (.agg (f x).toArray) w:=by
 have hk:=(aQL.1 ah).1;obtain⟨b,o,rfl,hc⟩:=h.2 om;refine⟨b,o,rfl,?_⟩;exact aad (P:=P) (w:=w) ty b (o+i * k) (f x) (fun j v aC=>by
  rw [Nat.add_assoc];exact hc _ v (Lc hf ah j v aC)) d hu aS (by rw [hf];exact ay)
end
def fI (x:fC × fC):List Value:=[.string (aA x.1),.string (aA x.2)]
def vH (x:kH):List Value:=(nT x.1 x.2).toList
def aeq (g k:Nat) (UG:α->List Value):Prop:=∀ (w:aRU) (B:aRV) (c:Nat) (row:List α),Rd w k B row.length (cK UG row)->row.length<=1000->∀ (f:Nat) (iI:Array Value),Enters prog f->∀ p:α->Bool,(∀ W,Bl w W->∀ x∈row,Calls prog f (#[.agg (UG x).toArray]++iI) W fun e w'=>e = .returned (.bool (p x))/\Bl W w')->Calls prog g #[.slice B row.length c,.func (.func f) #[] iI] w fun e w'=>e = .returned (.int .i64 (H7 p row))/\Bl w w'
theorem aer {P:Prop} (h:P:=by (
 intro w B c row ax hl f iI vz p hc;obtain⟨L,gY,E,bz⟩:=nq2 row.length (H7 p row);rw [<- gY] at ax hl |-;rw [<- bz];have ng:=fun (q) (x) (h:row[q]?=some x) (h1:(row.take q).any p=false) (ag:p x=true)=>ars h h1 ag;have oL:=fun (h:row.any p=false)=>aaf h;have xw:=fun (q) (x) (h:row[q]?=some x)=>arq p h;rw [<- bz] at ng oL;have zQ:∀ (args:Array Value) (w:aRU),(callFunc f args).run prog w = .ok (.enter f args) w:=vz;obtain⟨dE,q8,dQ,Zy,sI,Mv⟩:=hq6 ax gY hc ng oL xw;clear ax gY hc bz vz ng oL xw;go_enter yO,aah;clear yO aah;go_wp2_with fail;go_loopg [5,8] L (fun gk AU Oz wr=>∃ q:Nat,q+gk=L/\Oz = .int .i64 q/\(row.take q).any p=false/\Bl w wr);case atStart=>exact⟨0,om,rfl,rfl,Below.refl _ _⟩
 case round =>
  obtain⟨q,aJ,rfl,FP,bT⟩:=hrel;have EJ:=aa FP;have eD:=aa bT;clear FP bT;by_cases KX:q < L
  ·have Zz:(q:Int) < L:=om;have xy:(0:Int)<=q:=om;obtain⟨x,ah⟩:∃ x,row[q]?=some x:=⟨_,aQI (by rw [<- q8.o];exact KX)⟩;obtain⟨b,o,rfl,gB⟩:=vG Js hu rfl kr (dE.o.gz eD.o) ah q8.o.symm;have lM:=dQ.o wr eD.o x (aQK ah);have di:=aa ah;obtain⟨v,bg⟩:=ai (p x);obtain⟨X,aX⟩:=ai (UG x).toArray;rw [<- aX] at gB lM;have aru:=aa gB;rw [<- bg] at lM;clear aX gB;have jU:=aa lM;have kK:=aa bg;clear ah lM KX bg;cases v with
   | true =>
    go_wp2_with (first | ((with_reducible refine pO aru.o ?_ ?_);exact rfl) | (refine jr jU.o ?_;intro af dK));go_ret;exact⟨by rw [Zy.o q x di.o EJ.o kK.o.symm];rfl,aU eD.o dK.o⟩
   | false =>
    go_wp2_with (first | ((with_reducible refine pO aru.o ?_ ?_);exact rfl) | (refine jr jU.o ?_;intro af dK));go_roundg (gk - 1);case rel=>exact⟨q+1,om,by go_num,by rw [Mv.o q x di.o,EJ.o,<- kK.o];rfl,aU eD.o dK.o⟩
    case measure=>omega
  ·have KY:q=L:=om;have Zz:¬ (q:Int) < L:=om;have vB:=aa (sI.o (by have h:=EJ.o;rwa [KY,q8.o,List.take_length] at h));clear KX KY;go_wp2_with fail;go_ret;exact⟨by rw [vB.o];rfl,eD.o⟩)):P:=h
theorem aDG:aeq 71 2 fI:=by have yO:=func71;have aah:=ntmps71;have hu:=underlying65;obtain⟨UG,e,Js⟩:∃ f,f=fI/\∀ x,(f x).length=2:=⟨_,rfl,fun _=>rfl⟩;rw [<- e];clear e;exact aer
theorem aDH:aeq 68 7 vH:=by have yO:=func68;have aah:=ntmps68;have hu:=underlying45;obtain⟨UG,e,Js⟩:∃ f,f=vH/\∀ x,(f x).length=7:=⟨_,rfl,fun _=>rfl⟩;rw [<- e];clear e;exact aer
end
section
open Go.RowKit Go.Shelf
theorem aes {aO n:Nat} {X:aRW} (h:Rd w aO none n X):n=0/\X=[]:=by
 have I:n=0:=by
  rcases aQ2 n with I | I
  ·exact I
  ·obtain⟨b,o,e,_⟩:=h.2 I;cases e
 subst I;have:=h.1;rw [Nat.zero_mul] at this;exact⟨rfl,aQV this⟩
theorem aet (w:aRU) (A:aRV) (n c:Nat) (X:aRW) (ax:Rd w 34 A n X) (iQ:∀ v∈X,v.oneCell'=true) (hl:n<=1000000) :
  Calls prog 123 #[.slice A n c] w fun e w'=>∃ A' c',e = .returned (.slice A' n c')/\Own w' w.heap.size 135 34 A' n c' X/\Bl w w':=by
 have I:∀ (W:aRU),(binOp .eql 61 (.slice A n c) (.slice none 0 0)).run prog W = .ok (.bool A.isNone) W:=fun W=>aRG W _ _ A n c 0 0 underlying61;cases A with
 | none =>
  obtain⟨rfl,rfl⟩:=aes ax;have M:∀ (W:aRU),(binOp .eql 61 (.slice none 0 c) (.slice none 0 0)).run prog W = .ok (.bool true) W:=I;clear I ax;go_enter func123,ntmps123;go_wp2_with fail;go_ret;exact⟨none,0,rfl,Own.nil _ _ _ _,Below.refl _ _⟩
 | some a =>
  have M:∀ (W:aRU),(binOp .eql 61 (.slice (some a) n c) (.slice none 0 0)).run prog W = .ok (.bool false) W:=I;clear I;go_enter func123,ntmps123;go_wp2_with (at_builtin;have _t:=ax;go_must ((with_reducible refine vg 135 _ 34 56 underlying61 K6.info K6.zs w.heap.size (some ⟨w.heap.size,0,none⟩) 0 0 [] (Own.lit w #[] _ 34 0 _ (aQF _) dc rfl) n X (.slice (some a) n c) (Src.slice underlying61 (ax.gz ((Below.refl _ w).alloc (aQF _) _))) iQ ?_ ?_ ?_ ?_ ?_);exact mV;omega;simp;exact⟨rfl,rfl⟩;intro dh bH aD J Y AA));refine aQP (aRg rfl _ _ _) rfl ?_;rw [List.nil_append,Nat.zero_add] at J;exact⟨dh,bH,rfl,J,((Below.refl _ w).alloc (aQF _) _).grown Y sp (fun k e=>by cases e;exact aQF _)⟩
theorem aDI (w:aRU) (A:aRV) (n c:Nat) (X:aRW) (ax:Rd w 33 A n X) (iQ:∀ v∈X,v.oneCell'=true) (hl:n<=1000000) :
  Calls prog 319 #[.slice A n c] w fun e w'=>∃ A' c',e = .returned (.slice A' n c')/\Own w' w.heap.size 268 33 A' n c' X/\Bl w w':=by
 have I:∀ (W:aRU),(binOp .eql 222 (.slice A n c) (.slice none 0 0)).run prog W = .ok (.bool A.isNone) W:=fun W=>aRG W _ _ A n c 0 0 underlying222;cases A with
 | none =>
  obtain⟨rfl,rfl⟩:=aes ax;have M:∀ (W:aRU),(binOp .eql 222 (.slice none 0 c) (.slice none 0 0)).run prog W = .ok (.bool true) W:=I;clear I ax;go_enter func319,ntmps319;go_wp2_with fail;go_ret;exact⟨none,0,rfl,Own.nil _ _ _ _,Below.refl _ _⟩
 | some a =>
  have M:∀ (W:aRU),(binOp .eql 222 (.slice (some a) n c) (.slice none 0 0)).run prog W = .ok (.bool false) W:=I;clear I;go_enter func319,ntmps319;go_wp2_with (at_builtin;have _t:=ax;go_must ((with_reducible refine vg 268 _ 33 48 underlying222 aeg.info aeg.zs w.heap.size (some ⟨w.heap.size,0,none⟩) 0 0 [] (Own.lit w #[] _ 33 0 _ (aQF _) dc rfl) n X (.slice (some a) n c) (Src.slice underlying222 (ax.gz ((Below.refl _ w).alloc (aQF _) _))) iQ ?_ ?_ ?_ ?_ ?_);exact mV;omega;simp;exact⟨rfl,rfl⟩;intro dh bH aD J Y AA));refine aQP (aRg rfl _ _ _) rfl ?_;rw [List.nil_append,Nat.zero_add] at J;exact⟨dh,bH,rfl,J,((Below.refl _ w).alloc (aQF _) _).grown Y sp (fun k e=>by cases e;exact aQF _)⟩
theorem aDJ (w:aRU) (A:aRV) (n c:Nat) (X:aRW) (ax:Rd w 34 A n X) (iQ:∀ v∈X,v.oneCell'=true) (hl:n<=1000000) :
  Calls prog 314 #[.slice A n c] w fun e w'=>∃ A' c',e = .returned (.slice A' n c')/\Own w' w.heap.size 224 34 A' n c' X/\Bl w w':=by
 have I:∀ (W:aRU),(binOp .eql 213 (.slice A n c) (.slice none 0 0)).run prog W = .ok (.bool A.isNone) W:=fun W=>aRG W _ _ A n c 0 0 underlying213;cases A with
 | none =>
  obtain⟨rfl,rfl⟩:=aes ax;have M:∀ (W:aRU),(binOp .eql 213 (.slice none 0 c) (.slice none 0 0)).run prog W = .ok (.bool true) W:=I;clear I ax;go_enter func314,ntmps314;go_wp2_with fail;go_ret;exact⟨none,0,rfl,Own.nil _ _ _ _,Below.refl _ _⟩
 | some a =>
  have M:∀ (W:aRU),(binOp .eql 213 (.slice (some a) n c) (.slice none 0 0)).run prog W = .ok (.bool false) W:=I;clear I;go_enter func314,ntmps314;go_wp2_with (at_builtin;have _t:=ax;go_must ((with_reducible refine vg 224 _ 34 80 underlying213 Rn.info Rn.zs w.heap.size (some ⟨w.heap.size,0,none⟩) 0 0 [] (Own.lit w #[] _ 34 0 _ (aQF _) dc rfl) n X (.slice (some a) n c) (Src.slice underlying213 (ax.gz ((Below.refl _ w).alloc (aQF _) _))) iQ ?_ ?_ ?_ ?_ ?_);exact mV;omega;simp;exact⟨rfl,rfl⟩;intro dh bH aD J Y AA));refine aQP (aRg rfl _ _ _) rfl ?_;rw [List.nil_append,Nat.zero_add] at J;exact⟨dh,bH,rfl,J,((Below.refl _ w).alloc (aQF _) _).grown Y sp (fun k e=>by cases e;exact aQF _)⟩
theorem ajC (w:aRU) (A:aRV) (c:Nat) (l:List dB) (ax:Rd w 3 A l.length (cK iA l)) (hl:l.length<=1000) (hs:∀ x∈l,x.data.length<=1000000000) :
  Calls prog 120 #[.slice A l.length c] w fun e w'=>∃ A' c',e = .returned (.slice A' l.length c')/\Row w w' 135 34 A' l.length c' (cK iq (l.map gJ)):=by
 obtain⟨n,Y⟩:=ai l.length;rw [<- Y] at ax hl |-;obtain⟨AA,Ah,Ak⟩:=hq3 Y ax hs;clear ax Y hs;go_enter func120,ntmps120;go_wp2_with fail;go_loopg [3,8] n (fun gk Al Am wr=>∃ q:Nat,q+gk=n/\Am = .int .i64 q/\∃ A' c',Al = .slice A' q c'/\Row w wr 135 34 A' q c' (cK iq ((l.take q).map gJ)));case atStart=>exact⟨0,om,rfl,none,0,rfl,Row.nil _ _ _⟩
 case round =>
  obtain⟨q,BH,rfl,A',c',rfl,I⟩:=hrel;by_cases AB:q < n
  ·have Ao:(q:Int) < n:=om;have BK:(0:Int)<=q:=om;obtain⟨x,ah⟩:∃ x,l[q]?=some x:=⟨_,aQI (by rw [<- AA.o];exact AB)⟩;obtain⟨b,o,rfl,M⟩:=vG (f:=iA) (k:=3) (fun _=>rfl) underlying80 rfl kr (Ah.o.gz I.low) ah AA.o.symm;have J:=fun (W:aRU)=>aC7 W x (Ak.o x (aQK ah));have AP:cK iq ((l.take (q+1)).map gJ)=cK iq ((l.take q).map gJ)++iq (gJ x):=by rw [List.take_add_one,ah];simp [cK]
   have AV:=FZ (gJ x);have hlen:=zW (gJ x);obtain⟨R,AX⟩:=ai (iq (gJ x));rw [<- AX] at J AP AV hlen;have Ap:(Value.agg R.toArray).cells.size=34:=by simp [Value.cells,hlen]
   obtain⟨p,i,d⟩:=x;simp only [iA] at M J;obtain⟨BL,AZ,BN,Aa⟩:=nq2 (aA p) (aA d);rw [<- AZ,<- Aa] at M J;obtain⟨Aq,Av,Az,AQ⟩:=hq4 M J AP I;have hq6:q<=1000000:=om;clear M J AP I ah AX AZ Aa AB;go_wp2_with (first|((with_reducible refine pO Aq.o ?_ ?_);exact rfl)|(go_at_call 172; refine (Av.o _).mono ?_;rintro e af ⟨rfl,Ac⟩;have BB:=aa (AQ.o.on (((Below.refl wr.heap.size wr).alloc (aQF _) _).trans (Ac.mono sp)));clear Ac)|((with_reducible refine Ba K6 (.agg R.toArray) Ap ?_ ?_);exact rfl;intro BC Ad Ae;have BD:=aa (show Rd BC 34 _ 1 R by simpa [Value.cells] using Ad);have BF:=aa (BB.o.on Ae);clear Ad Ae)|(at_builtin;(with_reducible refine aq4 K6 w A' q c' _ BF.o _ R BD.o AV hq6 underlying61 ?_ ?_);exact⟨rfl,rfl⟩;intro uu ou cO Af;have BG:=aa Af;clear Af));go_roundg (gk - 1);case rel=>exact⟨q+1,om,by go_num,uu,ou,rfl,by rw [Az.o];exact BG.o⟩
   case measure=>omega
  ·have AU:q=n:=om;have Ao:¬ (q:Int) < n:=om;have Ag:l.take q=l:=by rw [AU,AA.o,List.take_length]
   rw [Ag,AU] at I;have AQ:=aa I;subst AU;clear Ag I AB;go_wp2_with fail;go_ret;exact⟨A',c',rfl,AQ.o⟩
structure aeu (t:TypeId) (V:aRW):Prop where
 deep:EqAt prog 10000 t
 formed:(Value.agg V.toArray).formed prog t=true
 lits:∃ d L,prog.keyLits d t V=some L
theorem aeu.run (h:aeu t V) (w:aRU):(binOp .eql t (.agg V.toArray) (.agg V.toArray)).run prog w = .ok (.bool true) w/\(binOp .neq t (.agg V.toArray) (.agg V.toArray)).run prog w = .ok (.bool false) w:=by
 obtain⟨d,L,hl⟩:=h.lits;have I:prog.keyLits d t (Value.agg V.toArray).cells.toList=some L:=by simpa [Value.cells] using hl
 obtain⟨r,h1,J⟩:=h.deep w d d _ _ _ _ h.formed h.formed I I;have M:r=true:=J.2 rfl;subst M;exact⟨by rw [run_eql_struct,h1];rfl,by rw [run_neq_struct,h1];rfl⟩
theorem aDM (x:ak × ak) (h1:x.1.length<=maxLen) (ag:x.2.length<=maxLen):aeu 65 [.string (aA x.1),.string (aA x.2)]:=by
 have hu:prog.underlying 65 = some _:=underlying65;have hs:prog.underlying 9 = some .string:=underlying9;have hc:prog.cellsOf 65 = 2:=kr;have I:prog.cellsOf 9 = 1:=kr;refine⟨aRQ 9998 2 _ kr,by simp [Value.formed,hu,hc],2,[.string (aA x.1).data.toList,.string (aA x.2).data.toList],?_⟩
 ·unfold Program.keyLits;simp [hu,hc,I,Program.keyLits,hs,iP,h1,ag]
theorem arw (x:kU) (h1:x.path.length<=maxLen) (ag:x.sum.length=32):aeu 135 (iq x):=by
 have hu:prog.underlying 135 = some _:=underlying135;have hs:prog.underlying 9 = some .string:=underlying9;have ae:prog.underlying 4 = some .bool:=underlying4;have hc:prog.cellsOf 135 = 34:=kr;have I:prog.cellsOf 9 = 1:=kr;have J:prog.cellsOf 4 = 1:=kr;have M:prog.cellsOf 59 = 32:=kr;have Y:=Zw x.sum ag;have AA:prog.keyLits 2 9 [.string (aA x.path)]=some [.string (aA x.path).data.toList]:=by unfold Program.keyLits;simp [hs,iP,h1]
 have AB:prog.keyLits 2 4 [.bool x.is]=some [.bool x.is]:=by unfold Program.keyLits;simp [ae]
 refine⟨aRQ 9997 3 _ kr,by simp [Value.formed,hu,hc,zW],3,.string (aA x.path).data.toList :: .bool x.is :: x.sum.map QU,?_⟩
 ·rw [iq,HZ ag];unfold Program.keyLits;have hl:(bQ x.sum).length=32:=by rw [xn,ag]
  simp [hu,hc,I,J,M,AA,AB,hl,List.take_of_length_le,Y]
theorem aDN (w:aRU) (B:aRV) (c:Nat) (row:List fC) (ax:Rd w 1 B row.length (cB row)) (hl:row.length<=1000) (u:fC) :
  CB 116 #[.slice B row.length c,.string (aA u)] w (.int .i64 (EI (· == u) row)):=by
 obtain⟨p,aI⟩:∃ p:fC->Bool,p=fun x=>x == u:=⟨_,rfl⟩;rw [show (fun x=>x == u)=p from aI.symm];have J:∀ x:fC,((aA u).toList == (aA x).toList)=p x:=fun x=>by
  rw [aI,ByteArray.toList_eq,ByteArray.toList_eq,gZ,gZ,Bool.eq_iff_iff];simp only [beq_iff_eq];exact eq_comm
 obtain⟨U,AV⟩:=ai (aA u);rw [<- AV] at J |-;obtain⟨L,M,E,Y⟩:=nq2 row.length (EI p row);rw [<- M] at ax hl |-;rw [<- Y];have AA:=fun (q:Nat) (x:fC) (h:row[q]?=some x) (h1:(row.take q).any p=false) (Ak:p x=true)=>ap0 h h1 Ak;have AB:=fun (h:row.any p=false)=>adN h;have AX:=fun (q:Nat) (x:fC) (h:row[q]?=some x)=>apZ p h;rw [<- Y] at AA AB;obtain⟨Al,AZ,Am,Ao,Ap,Aq⟩:=hq6 ax M J AA AB AX;clear ax M J aI AV Y AA AB AX;go_enter func116,ntmps116;go_wp2_with fail;go_loopg [5,8] L (fun gk BD Av wr=>∃ q:Nat,q+gk=L/\Av = .int .i64 q/\(row.take q).any p=false/\Bl w wr);case atStart=>exact⟨0,om,rfl,rfl,Below.refl _ _⟩
 case round =>
  obtain⟨q,BF,rfl,Aa,Ac⟩:=hrel;have AP:=aa Aa;have I:=aa Ac;clear Aa Ac;by_cases AQ:q < L
  ·have Az:(q:Int) < L:=om;have BG:(0:Int)<=q:=om;obtain⟨x,ah⟩:∃ x,row[q]?=some x:=⟨_,aQI (by rw [<- AZ.o];exact AQ)⟩;obtain⟨b,o,rfl,BB⟩:=KW (Al.o.gz I.o) ah;have Ad:=Am.o x;have Ae:=aa ah;obtain⟨v,AU,X,Af⟩:=nq2 (p x) (aA x);rw [<- Af] at BB Ad;rw [<- AU] at Ad;clear Af;have Ag:=aa AU;clear ah AQ AU;cases v with
   | true =>
    go_wp2_with fail;go_ret;exact⟨by rw [Ao.o q x Ae.o AP.o Ag.o.symm];rfl,I.o⟩
   | false =>
    go_wp2_with fail;go_roundg (gk - 1);case rel=>exact⟨q+1,om,by go_num,by rw [Aq.o q x Ae.o,AP.o,<- Ag.o];rfl,I.o⟩
    case measure=>omega
  ·have Ah:q=L:=om;have Az:¬ (q:Int) < L:=om;have BC:=aa (Ap.o (by have h:=AP.o;rwa [Ah,AZ.o,List.take_length] at h));clear AQ Ah;go_wp2_with fail;go_ret;exact⟨by rw [BC.o];rfl,I.o⟩
theorem aDO (l:List fC) (u:fC):l.any (fun x=>x == u)=l.contains u:=by rw [Bool.eq_iff_iff];simp
theorem aev (w:aRU) (B:aRV) (c:Nat) (row:List fC) (ax:Rd w 1 B row.length (cB row)) (hl:row.length<=1000) (u:fC) :
  CB 70 #[.slice B row.length c,.string (aA u)] w (.bool (row.contains u)):=by
 have I:=aa (aDN w B c row ax hl u);have J:=ap2 (· == u) row;obtain⟨fo,AB⟩:=ap3 (· == u) row hl;rw [<- aDO,<- J];clear ax J;obtain⟨E,M⟩:=ai (EI (· == u) row);rw [<- M] at I fo AB |-;obtain⟨L,Y,U,AA⟩:=nq2 row.length (aA u);rw [<- Y,<- AA] at I |-;clear M Y hl AA;go_enter func70,ntmps70;go_wp2_with (first | (go_at_call 116; refine jr I.o ?_;intro af AP));go_ret;exact⟨rfl,AP.o⟩
theorem aDP (dI w:aRU) (x:kH) (hA:KV dI x.1 x.2) (ae:Bl dI w) (hl:x.2.outs.length<=1000) (g:Nat) (u:fC) (av:w.cell? (ad g 0)=some (.string (aA u))) :
  Calls prog 69 (#[.agg (vH x).toArray]++#[pp g 0]) w fun e w'=>e = .returned (.bool (x.2.outs.contains u))/\Bl w w':=by
 obtain⟨L,a⟩:=x;simp only at hA hl |-;obtain⟨aH,J⟩:=ai (w.alloc (.cells (nT L a) 45));have M:Bl w aH:=by rw [J];exact (Below.refl _ w).alloc (aQF _) _
 have Y:=aev aH L.O L.wN a.outs (hA.below (aU ae M)).outs hl u;have hc:aH.cell? (ad g 0)=some (.string (aA u)):=(M.cell (p:=ad g 0) (aQR _ _ av)).trans av;have AU:aH.heap[w.heap.size]?=some (.cells (nT L a) 45 (0,0)):=by rw [J];exact aQM w _
 have AA:=aQH aH w.heap.size 6 _ _ _ AU;have AV:(vH (L,a)).toArray=nT L a:=rfl;rw [AV];unfold nT at J AA |-;obtain⟨KT,nm,E,oK,A,O,Af,Ag,Ah,AX⟩:=L;obtain⟨U,AB,r,AP,n,AQ⟩:=nq3 (aA u) (a.outs.contains u) a.outs.length;rw [<- AB] at hc;rw [<- AQ] at J AA |-;simp only at Y J AA |-;rw [<- AB,<- AP,<- AQ] at Y;rw [<- AP];have AZ:=aa (fun (W:aRU) (e:W=aH)=>show Calls prog 70 #[.slice O n AX,.string U] W fun e w'=>e = .returned (.bool r)/\Bl aH w' by rw [e];exact Y);have Aa:=aa M;have Ac:=aa J;have Ad:=hc;rw [J] at Ad;clear AB AP AQ Y M AU AV hA ae hl av AA hc J;go_enter func69,ntmps69;go_wp2_with (first | (go_at_call 70; refine jr (AZ.o _ Ac.o.symm) ?_;intro af Ae));go_ret;exact⟨rfl,aU Aa.o Ae.o⟩
def Pd (X:List kH) (u:fC):Int:=H7 (fun x=>x.2.outs.contains u) X
theorem Xm (w:aRU) (A:aRV) (c:Nat) (X:List kH) (aX:Rv w A X) (hl:X.length<=1000) (aG:∀ x∈X,x.2.outs.length<=1000) (u:fC) :
  CB 44 #[.slice A X.length c,.string (aA u)] w (.tuple #[.int .i64 (max (Pd X u) 0),.bool (decide (0<=Pd X u))]):=by
 obtain⟨aH,J⟩:=ai (w.alloc (.cells #[.string (aA u)] 9));have M:Bl w aH:=by rw [J];exact (Below.refl _ w).alloc (aQF _) _
 have AB:aH.heap[w.heap.size]?=some (.cells #[.string (aA u)] 9 (0,0)):=by rw [J];exact aQM w _
 have av:aH.cell? (ad w.heap.size 0)=some (.string (aA u)):=aQH aH w.heap.size 0 _ _ _ AB;have Y:=aX.below M;have j6:=aDH aH A c X Y.row hl 69 #[pp w.heap.size 0] (enters_of func69 kr rfl) (fun x=>x.2.outs.contains u) fun aY AP x ah=>aDP aH aY x (Y.each x ah) AP (aG x ah) w.heap.size u ((AP.cell (p:=ad w.heap.size 0) (aQR _ _ av)).trans av);obtain⟨oK,AA⟩:=ai (Pd X u);obtain⟨fo,AV⟩:=aDF (fun x:kH=>x.2.outs.contains u) X hl;rw [show H7 (fun x:kH=>x.2.outs.contains u) X=oK from AA.symm] at j6 fo AV;rw [<- AA];obtain⟨U,AQ,n,AU⟩:=nq2 (aA u) X.length;rw [<- AQ] at J |-;rw [<- AU] at j6 |-;have AX:=aa (fun (W:aRU) (e:W=aH)=>show Calls prog 68 #[.slice A n c,.func (.func 69) #[] #[pp w.heap.size 0]] W fun e w'=>e = .returned (.int .i64 oK)/\Bl aH w' by rw [e];exact j6);have AZ:=aa M;have Aa:=aa J;clear AA AQ AU j6 M AB aX Y aG hl av J;go_enter func44,ntmps44;go_wp2_with (first | (go_at_call 68; refine jr (AX.o _ Aa.o.symm) ?_;intro af Ac));go_ret2;exact⟨rfl,aU AZ.o Ac.o⟩
theorem aDQ (w:aRU) (x:fC × fC) (g:Nat) (u:fC) (av:w.cell? (ad g 0)=some (.string (aA u))) :
  Calls prog 72 (#[.agg (fI x).toArray]++#[pp g 0]) w fun e w'=>e = .returned (.bool (x.1 == u))/\Bl w w':=by
 obtain⟨p,d⟩:=x;have I:Below w.heap.size w (w.alloc (.cells #[.string (aA p),.string (aA d)] 65)):=(Below.refl _ w).alloc (aQF _) _;have hc:(w.alloc (.cells #[.string (aA p),.string (aA d)] 65)).cell? (ad g 0)=some (.string (aA u)):=(I.cell (p:=ad g 0) (aQR _ _ av)).trans av;have he:((aA p).toList == (aA u).toList)=(p == u):=by rw [ByteArray.toList_eq,ByteArray.toList_eq,gZ,gZ]
 show CB 72 #[.agg #[.string (aA p),.string (aA d)],pp g 0] w (.bool (p == u));obtain⟨P,J,D,M,U,Y,r,AA⟩:=nq4 (aA p) (aA d) (aA u) (p == u);rw [<- J,<- M] at I hc;rw [<- Y] at hc;rw [<- J,<- Y,<- AA] at he;rw [<- J,<- M,<- AA];have AB:=aa I;clear J M Y AA I av;go_enter func72,ntmps72;go_wp2_with fail;go_ret;exact⟨rfl,AB.o⟩
def fileAt (l:List (fC × fC)) (u:fC):Option (fC × fC):=l.find? fun x=>x.1 == u
theorem arx {p:α->Bool} {l:List α}:l.find? p=none ↔ l.any p=false:=by rw [List.find?_eq_none,List.any_eq_false]
theorem ajG (w:aRU) (A:aRV) (c:Nat) (l:List (fC × fC)) (hl:l.length<=1000) (ax:Rd w 2 A l.length (cK fI l)) (u:fC) :
  CB 45 #[.slice A l.length c,.string (aA u)] w (.tuple #[.string (aA (((fileAt l u).map (·.2)).getD [])),.bool (fileAt l u).isSome]):=by
 obtain⟨aH,I⟩:=ai (w.alloc (.cells #[.string (aA u)] 9));have Y:Bl w aH:=by rw [I];exact (Below.refl _ w).alloc (aQF _) _
 have AB:aH.heap[w.heap.size]?=some (.cells #[.string (aA u)] 9 (0,0)):=by rw [I];exact aQM w _
 have av:aH.cell? (ad w.heap.size 0)=some (.string (aA u)):=aQH aH w.heap.size 0 _ _ _ AB;have J:=ax.gz Y;have j6:=aDG aH A c l J hl 72 #[pp w.heap.size 0] (enters_of func72 kr rfl) (fun x=>x.1 == u) fun aY Ag x _=>aDQ aY x w.heap.size u ((Ag.cell (p:=ad w.heap.size 0) (aQR _ _ av)).trans av);obtain⟨n,AA,U,AP⟩:=nq2 l.length (aA u);rw [<- AP] at I |-;rw [<- AA] at j6 J |-;have AZ:=aa Y;have Aa:=aa I;cases M:l.any (fun x=>x.1 == u) with
 | false =>
  have hf:fileAt l u=none:=arx.2 M;rw [aaf M] at j6;rw [hf];have AQ:=aa (fun (W:aRU) (e:W=aH)=>show Calls prog 71 #[.slice A n c,.func (.func 72) #[] #[pp w.heap.size 0]] W fun e w'=>e = .returned (.int .i64 (-1))/\Bl aH w' by rw [e];exact j6);clear j6 Y AB av J ax hl I AP M hf AA;go_enter func45,ntmps45;go_wp2_with (first | (go_at_call 71; refine jr (AQ.o _ Aa.o.symm) ?_;intro af AU));go_ret2;exact⟨rfl,aU AZ.o AU.o⟩
 | true =>
  obtain⟨q,x,Ac,ah,Ad,_⟩:=art M;have hf:fileAt l u=some x:=Ad;have Ah:q < n:=by rw [AA];exact (aQL.1 ah).1
  have Al:(q:Int) < n:=om;have Am:(0:Int)<=q:=om;rw [Ac] at j6;rw [hf];obtain⟨b,o,hA,hcell⟩:=J.2 om;subst hA;have Ae:=Lc (f:=fI) (k:=2) (fun _=>rfl) ah 1 _ rfl;obtain⟨D,AV⟩:=ai (aA x.2);have Ak:=aa (fun af (ae:Bl aH af)=>show af.cell? ⟨b,o+q * 2+1,none⟩=some (.string D) by
   rw [AV];have h1:=hcell _ _ Ae;rw [<- Nat.add_assoc] at h1;exact (ae.cell (p:=ad b _) (aQR _ _ h1)).trans h1);have AQ:=aa (fun (W:aRU) (e:W=aH)=>show Calls prog 71 #[.slice (some ⟨b,o,none⟩) n c,.func (.func 72) #[] #[pp w.heap.size 0]] W fun e w'=>e = .returned (.int .i64 q)/\Bl aH w' by rw [e];exact j6);have Af:((some x).map (·.2)).getD []=x.2:=rfl;rw [Af,<- AV];clear j6 Y AB av J ax hl I AP M hf Ad Ac ah Ah hcell Ae AV Af AA;go_enter func45,ntmps45;go_wp2_with (first | (go_at_call 71; refine (AQ.o _ Aa.o.symm).mono ?_;rintro e af ⟨rfl,AX⟩;have AU:=aa AX;have hc:=Ak.o af AX;clear AX));go_ret2;exact⟨rfl,aU AZ.o AU.o⟩
theorem aDR:aeq 173 3 iA:=by have yO:=func173;have aah:=ntmps173;have hu:=underlying80;obtain⟨UG,e,Js⟩:∃ f,f=iA/\∀ x,(f x).length=3:=⟨_,rfl,fun _=>rfl⟩;rw [<- e];clear e;exact aer
theorem aDS:aeq 169 34 iq:=by have yO:=func169;have aah:=ntmps169;have hu:=underlying135;obtain⟨UG,e,Js⟩:∃ f,f=iq/\∀ x,(f x).length=34:=⟨_,rfl,fun _=>rfl⟩;rw [<- e];clear e;exact aer
structure lS where
 key:List UInt8
 reads:List kU
 outs:List (ak × List UInt8)
structure qw where
 A:Option Addr
 c:Nat
 B:Option Addr
 d:Nat
def mi (x:ak × List UInt8):List Value:=.string (aA x.1) :: l6 x.2
theorem H8 (x:ak × List UInt8):(mi x).length=33:=by simp [mi,rC]
theorem aew (d:aR0):∀ v∈l6 d,v.oneCell'=true:=by intro v I;simp only [l6,List.mem_map] at I;obtain⟨j,_,rfl⟩:=I;rfl
theorem UI (x:ak × List UInt8):∀ v∈mi x,v.oneCell'=true:=by
 intro v I;rcases aQN.1 I with rfl | I
 ·rfl
 ·exact aew _ v I
theorem aaj {f:α->List Value} (h:∀ x,∀ v∈f x,v.oneCell'=true) (l:List α):∀ v∈cK f l,v.oneCell'=true:=by intro v I;obtain⟨x,_,ah⟩:=aRl.1 I;exact h x v ah
def gP (t:lS) (L:qw):List Value:=l6 t.key++[.slice L.A t.reads.length L.c,.slice L.B t.outs.length L.d]
theorem Eb (t:lS) (L:qw):(gP t L).length=34:=by simp [gP,rC]
theorem M8 (t:lS) (L:qw):∀ v∈gP t L,v.oneCell'=true:=by
 intro v I;rcases aQ4.1 I with I | I
 ·exact aew _ v I
 ·simp at I;rcases I with rfl | rfl <;> rfl
theorem ajH (t:lS) (L:qw):(gP t L)[32]?=some (.slice L.A t.reads.length L.c):=by rw [gP,List.getElem?_append_right (by rw [rC];omega),rC];rfl
theorem aex (t:lS) (L:qw):(gP t L)[33]?=some (.slice L.B t.outs.length L.d):=by rw [gP,List.getElem?_append_right (by rw [rC];omega),rC];rfl
structure Xn (W:aRU) (t:lS) (L:qw):Prop where
 reads:Rd W 34 L.A t.reads.length (cK iq t.reads)
 outs:Rd W 33 L.B t.outs.length (cK mi t.outs)
theorem Xn.all {t:lS} {L:qw} (h:Xn W t L) (ae:Bl W W'):Xn W' t L:=⟨h.reads.gz ae,h.outs.gz ae⟩
theorem Pe (t:lS) (L:qw):(prog.info? 224).map (·.size)=some (gP t L).length:=by rw [Eb];exact kr
theorem aak (x:ak × List UInt8):(prog.info? 268).map (·.size)=some (mi x).length:=by rw [H8];exact kr
structure oQ (W:aRU) (B:Nat) (t:lS) (L:qw):Prop where
 reads:Own W B 135 34 L.A t.reads.length L.c (cK iq t.reads)
 outs:Own W B 268 33 L.B t.outs.length L.d (cK mi t.outs)
theorem oQ.at_ {t:lS} {L:qw} (h:oQ W B t L):Xn W t L:=⟨h.reads.rd,h.outs.rd⟩
theorem oQ.all {t:lS} {L:qw} (h:oQ W B t L) (ae:Bl W W'):oQ W' B t L:=⟨h.reads.below ae (aQF _),h.outs.below ae (aQF _)⟩
theorem oQ.mono {B':Nat} {t:lS} {L:qw} (h:oQ W B t L) (bf:B'<=B):oQ W B' t L:=⟨h.reads.mono bf,h.outs.mono bf⟩
theorem aDT (w:aRU) (x:kU) (g:Nat) (u:ak) (av:w.cell? (ad g 0)=some (.string (aA u))) :
  Calls prog 170 (#[.agg (iq x).toArray]++#[pp g 0]) w fun e w'=>e = .returned (.bool (x.path == u))/\Bl w w':=by
 obtain⟨V,J⟩:=ai (iq x);have AP:V[0]?=some (.string (aA x.path)):=by rw [J];rfl
 rw [<- J];obtain⟨aH,I⟩:=ai (w.alloc (.cells V.toArray 135));have M:=gQ I;have AQ:aH.cell? (ad w.heap.size 0)=some (.string (aA x.path)):=by rw [I,(aM.new w V 135).cell 0];exact AP
 have AU:aH.cell? (ad g 0)=some (.string (aA u)):=(M.cell (p:=ad g 0) (aQR _ _ av)).trans av;have he:((aA x.path).toList == (aA u).toList)=(x.path == u):=by rw [ByteArray.toList_eq,ByteArray.toList_eq,gZ,gZ]
 obtain⟨P,Y,U,AA,r,AB⟩:=nq3 (aA x.path) (aA u) (x.path == u);rw [<- Y] at AQ;rw [<- AA] at AU;rw [<- Y,<- AA,<- AB] at he;rw [<- AB];show CB 170 #[.agg V.toArray,pp g 0] w (.bool r);have AV:=aa M;have AX:=I.symm;clear Y AA AB M av AP J I;go_enter func170,ntmps170;go_wp2_with fail;go_ret;exact⟨rfl,AV.o⟩
theorem aDU (w:aRU) (c:Nat) (d:aR0) (aS:d.length=32):CB 171 #[.slice none 0 c,.agg (bQ d).toArray] w (.bool false):=by
 obtain⟨X,I⟩:=ai (bQ d);have ay:=zt aS;rw [<- I] at ay |-;have ah:∀ (W:aRU),CB 213 #[.slice none 0 c,.agg X.toArray] W (.int .i64 (-1)):=by
  intro W;clear I;go_enter func213,ntmps213;go_wp2_with fail;go_loopg [8] 0 (fun gk Y wr=>Y = .int .i64 0/\Bl W wr);case atStart=>exact⟨rfl,iD⟩
  case round =>
   obtain⟨rfl,J⟩:=hrel;have AA:=aa J;clear J;go_wp2_with fail;go_ret;exact⟨rfl,AA.o⟩
 have AB:=aa ah;clear ah I;go_enter func171,ntmps171;go_wp2_with (first|(with_reducible refine kG (aM.new w X _) underlying59 ay ?_)|(go_at_call 213; refine (AB.o _).mono ?_;rintro e af ⟨rfl,M⟩;have AP:=aa (((Below.refl w.heap.size w).alloc (aQF _) _).trans (M.mono sp));clear M));go_ret;exact⟨rfl,AP.o⟩
theorem aal (a b c:Value):(prog.info? 216).map (·.size)=some [a,b,c].length:=kr
theorem aam (k:Int) (s:ByteArray) (i:Int):∀ v∈[Value.int .i64 k,.string s,.int .i64 i],v.oneCell'=true:=by intro v I;simp at I;rcases I with rfl | rfl | rfl <;> rfl
theorem aDV (w:aRU) (A:aRV) (c:Nat) (B:aRV) (n d:Nat) (G:aRV) (m f:Nat) :
  CB 119 #[.slice A 0 c,.slice B n d,.slice G m f] w (.agg #[.int .i64 3,.string ⟨#[]⟩,.int .i64 0]):=by
 obtain⟨aH,I⟩:=ai (w.alloc (.cells #[.int .i64 0,.string ⟨#[]⟩,.int .i64 0] 216));have J:=gQ I;have M:=kY I;have AA:=I.symm;have AB:=aa J;have AP:=aa M;clear J M I;go_enter func119,ntmps119;go_wp2_with fail;go_step3;go_wp2_with fail;go_step3;go_wp2_with fail;clear AA;go_loopg [16] 0 (fun gk AQ wr=>AQ = .int .i64 0/\wr=aH);case atStart=>exact⟨rfl,rfl⟩
 case round =>
  obtain⟨rfl,rfl⟩:=hrel;have Y:=aal (.int .i64 3) (.string ⟨#[]⟩) (.int .i64 0);have h1:=aam 3 ⟨#[]⟩ 0;have hl:[Value.int .i64 3,.string ⟨#[]⟩,.int .i64 0].length=[Value.int .i64 0,.string ⟨#[]⟩,.int .i64 0].length:=rfl;go_wp2_with (first|((with_reducible refine vF [.int .i64 3,.string ⟨#[]⟩,.int .i64 0] AP.o Y hl h1 ?_);intro cO AU AV));rw [Exit.noGoto_ret];exact D5 AU.o underlying216 rfl Y ⟨rfl,rfl,rfl⟩ ⟨rfl,oO AB.o AV.o (aQF _)⟩
def Ju (t:lS) (q:Nat):List Value:=match t.reads[q]? with
 | some r=>[.int .i64 1,.string (aA r.path),.int .i64 0]
 | none=>[.int .i64 2,.string ⟨#[]⟩,.int .i64 0]
theorem aDW {R:List kU} (xm:(R.map (·.path)).Nodup) (aJ:q<=R.length) {r:kU} (ax:R[j]?=some r):H7 (fun x:kU=>x.path == r.path) (R.take q)=if j < q then (j:Int) else -1:=by
 have M:∀ i x,R[i]?=some x->i≠j->(x.path == r.path)=false:=by
  intro i x ah Y;rw [beq_eq_false_iff_ne];intro e;have h1:(R.map (·.path))[i]?=some r.path:=by rw [List.getElem?_map,ah,<- e];rfl
  have AA:(R.map (·.path))[j]?=some r.path:=by rw [List.getElem?_map,ax];rfl
  have I:=(aQL.1 h1).1;exact Y ((List.getElem?_inj I xm).1 (h1.trans AA.symm))
 split
 ·rename_i aC;refine ars (x:=r) (by rw [List.getElem?_take_of_lt aC];exact ax) ?_ sp;rw [List.any_eq_false];intro x ah;rw [List.mem_take_iff_getElem] at ah;obtain⟨i,I,rfl⟩:=ah;simp only [List.getElem_take];have J:i < R.length:=by simp at I;omega
  rw [M i _ (List.getElem?_eq_getElem J) (by simp at I;omega)];decide
 ·rename_i aC;refine aaf ?_;rw [List.any_eq_false];intro x ah;rw [List.mem_take_iff_getElem] at ah;obtain⟨i,I,rfl⟩:=ah;have J:i < R.length:=om;rw [M i _ (List.getElem?_eq_getElem J) om];decide
theorem Le {o:Nat} (h:∀ j v,V[j]?=some v->W.cell? (ad g (o+j))=some v) (hu:prog.underlying ty=some d) (aS:Cs d=true) (ay:Sz ty V.length) (ae:Bl W W') :
  (loadVar ty ⟨g,o,none⟩).run prog W' = .ok (.agg V.toArray) W' :=
 aad ty g o V (fun j v aC=>(ae.cell (p:=ad g (o+j)) (aQR _ _ (h j v aC))).trans (h j v aC)) d hu (by cases d <;> first | rfl | exact aS) ay
theorem aDX {C:World->Prop} {Q:Act->Prop} {b:BinOp} {ic:TypeId} {pos:String} {u r:Value}
  (Zx:a.eval x=u/\a.eval y=v) (av:∀ w,(eqGuard b ty x y u v).run P w = .ok () w) (hl:∀ w,(binOp b ty u v).run P w = .ok r w) (h:wpQuiet P ops C Q rest (a.put dst r)):wpQuiet P ops C Q (⟨dst,.binOp b ty x y t2,ic,pos,after,none⟩ :: rest) a:=by
 have hw:Region.wanted ⟨dst,.binOp b ty x y t2,ic,pos,after,none⟩ (yielded ops a.tmps)=true:=rfl;unfold wpQuiet;rw [if_pos hw];refine⟨r,fun w _=>?_,h⟩;unfold Oper.quietAt execOp;simp [Zx.1,Zx.2,av w,hl w,Oper.quietUpon]
theorem arB {b:BinOp} (x y:Operand) (A B:Array Value) (h:P.eqGuardType P.depth ty=false) (w:aRU):(eqGuard b ty x y (.agg A) (.agg B)).run P w = .ok () w:=by unfold eqGuard;cases b <;> simp [h]
theorem arC {f:α->List Value} (hf:∀ x,(f x).length=k) {n:Nat} {l:List α} (h:Rd W k A n (cK f l)) {x:α} (ah:l[i]?=some x) (aB:l.length=n) :
  ∃ b o,A=some ⟨b,o,none⟩/\∀ j v,(f x)[j]?=some v->W.cell? ⟨b,o+i * k+j,none⟩=some v:=by
 have hk:=(aQL.1 ah).1;obtain⟨b,o,rfl,hc⟩:=h.2 om;exact⟨b,o,rfl,fun j v I=>by rw [Nat.add_assoc];exact hc _ v (Lc hf ah j v I)⟩
theorem aDY (w:aRU) (t:lS) (L:qw) (A:aRV) (c:Nat) (hA:Rd w 34 A 1 (gP t L)) (az:Xn w t L) (q:Nat) (aJ:q<=t.reads.length) (B:aRV) (d:Nat) (bf:Rd w 34 B q (cK iq (t.reads.take q)))
  (xm:(t.reads.map (·.path)).Nodup) (yn:∀ x∈t.reads,x.sum.length=32/\x.path.length<=maxLen) (arD:∀ x∈t.outs,x.2.length=32) (hl:t.reads.length<=1000) (F4:t.outs.length<=1000) (f:Nat) :
  CB 119 #[.slice A 1 c,.slice B q d,.slice none 0 f] w (.agg (Ju t q).toArray):=by
 obtain⟨AZ,BD⟩:=ai 1;obtain⟨AA,AB,J,M⟩:=L;obtain⟨b,o,rfl,hcell⟩:=hA.2 om;rw [<- BD];have Cm:=aa BD;have Co:(0:Int) < AZ:=om;have Cr:(Ju t q).length=3:=by unfold Ju;split <;> rfl
 obtain⟨n,BF,m,hm⟩:=nq2 t.reads.length t.outs.length;have Bj:(t.reads.take q).length=q:=by rw [List.length_take];omega
 obtain⟨aH,Al⟩:=ai (w.alloc (.cells #[.int .i64 0,.string ⟨#[]⟩,.int .i64 0] 216));have Am:=gQ Al;have Bn:=kY Al;have BG:=fun W (h:Bl w W)=>Le (W:=w) (g:=b) (o:=o) (V:=gP t ⟨AA,AB,J,M⟩) hcell underlying224 rfl (Pe t ⟨AA,AB,J,M⟩) h;have Aa:=Pe t ⟨AA,AB,J,M⟩;have Ac:=M8 t ⟨AA,AB,J,M⟩;have hlen:=Eb t ⟨AA,AB,J,M⟩;have Ad:=ajH t ⟨AA,AB,J,M⟩;have Ae:=aex t ⟨AA,AB,J,M⟩;obtain⟨BH,Bp⟩:=ai (gP t ⟨AA,AB,J,M⟩);rw [<- Bp] at BG Aa Ac hlen Ad Ae;simp only at Ad Ae;rw [<- BF] at Ad;rw [<- hm] at Ae;obtain⟨aY,Ao⟩:=ai (aH.alloc (.cells BH.toArray 224));have BK:=gQ Ao;have Ap:=kY Ao;have Aq:Bl w aY:=aU Am BK;have EN:=aa Am;have Bq:=aa Aq;have Br:=aa (Bn.all BK);have EO:=aa Ap;have Ct:=aa (fun (z:Nat) (ES:z < AZ)=>show (loadVar 224 ⟨b,o+z * 34,none⟩).run prog aH = .ok (.agg BH.toArray) aH by rw [show o+z * 34=o by rw [show z=0 by omega];omega];exact BG aH Am);obtain⟨Cu,Bt,Cv,Av⟩:=hq4 aJ BF hm Bj;have C8:=aa (az.all Aq);have CF:=aa (bf.gz Aq);obtain⟨D8,DF,DI⟩:=hq3 xm yn arD;have DJ:=Al.symm;have DN:=Ao.symm;have DR:=aa ((Ap.cell 32).trans Ad);have CG:=aa ((Ap.cell 33).trans Ae);have DT:=DR.o;have ET:n<=1000:=om;have EU:m<=1000:=om;have EX:q<=n:=om;clear hA az bf xm yn arD hl F4 Al Ao Am Bn BD BG Bp BK Ap Aq aJ BF hm hcell Cr Bj Ad Ae;go_enter func119,ntmps119;go_wp2_with fail;go_step3;go_wp2_with fail;go_step3;go_wp2_with fail;clear DJ;go_loopg [16] AZ (fun gk Af wr=>∃ z:Nat,z < AZ/\Af = .int .i64 z/\wr=aH);case atStart=>exact⟨0,om,rfl,rfl⟩
 case round =>
  obtain⟨z,CJ,rfl,rfl⟩:=hrel;have DU:(z:Int) < AZ:=om;have Db:(0:Int)<=z:=om;have Dc:=aa (Ct.o z CJ);clear Co;go_wp2_with (first|((with_reducible refine pO Dc.o ?_ ?_);exact rfl)|(with_reducible refine zx BH hlen Aa Ac ?_));have De:=aa (show z=0 by have:=Cm.o;omega);obtain⟨CK,Dg⟩:=ai wr;subst Dg;obtain⟨EY,Dh⟩:=ai gk;subst Dh;clear DN DT CJ DU Db;go_loopg [24] n (fun gk Af wr=>∃ j:Nat,j+gk=n/\j<=q/\Af = .int .i64 j/\Bl aY wr);case atStart=>exact⟨0,om,om,rfl,Below.refl _ _⟩
  case round =>
   obtain⟨j,aC,BL,rfl,I⟩:=hrel;have Ea:(0:Int)<=j:=om;by_cases CL:j < n
   ·have Di:(j:Int) < n:=om;obtain⟨r,AU⟩:∃ r,t.reads[j]?=some r:=⟨_,aQI (by rw [<- Bt.o];exact CL)⟩;have BN:=DF.o r (aQK AU);obtain⟨Dj,Dk,rfl,AQ⟩:=vG (f:=iq) (k:=34) zW underlying135 rfl kr (C8.o.reads.gz I) AU rfl;have j6:=fun W (ae:Bl aY W) (g:Nat) (av:W.cell? (ad g 0)=some (.string (aA r.path)))=>aDS W B d (t.reads.take q) (by rw [Av.o];exact CF.o.gz ae) (by rw [Av.o];omega) 170 #[pp g 0] (enters_of func170 kr rfl) (fun x=>x.path == r.path) fun cO Dp x _=>aDT cO x g r.path ((Dp.cell (p:=ad g 0) (aQR _ _ av)).trans av);rw [Av.o,aDW D8.o Cu.o AU] at j6;have BO:=(arw r BN.2 BN.1).run;have BP:=FZ r;have Ag:=Xe r;have BR:=zW r;have Ah:(iq r)[0]?=some (.string (aA r.path)):=rfl;have BS:=fun (BL:j < q)=>arC zW (CF.o.gz I) (l:=t.reads.take q) (i:=j) (x:=r) (by rw [List.getElem?_take_of_lt BL];exact AU) Av.o;obtain⟨jY,CQ⟩:=ai (iq r);rw [<- CQ] at AQ BO BP Ag BR Ah BS;obtain⟨P,BU⟩:=ai (aA r.path);rw [<- BU] at j6 Ah;obtain⟨Y,Az⟩:=ai (wr.alloc (.cells jY.toArray 135));have CS:=gQ Az;have BX:=kY Az;have BZ:Bl aY Y:=aU I CS;have CU:=aa (j6 Y BZ wr.heap.size ((BX.cell 0).trans Ah));obtain⟨BB,CV,CW,Dq,Dr,Dt,Du,Dv,Dw⟩:=hq9 AQ BZ BX CS Ah BO BS AU BU;have Ec:=Az.symm;clear j6 AQ BZ BX Ah BO BS AU BN CQ BU Az I;by_cases Bb:j < q
    ·have Ee:(j:Int) < q:=om;have Bc:=aa (fun (W:aRU) (e:W=Y)=>show Calls prog 169 #[.slice B q d,.func (.func 170) #[] #[pp wr.heap.size 0]] W fun e w'=>e = .returned (.int .i64 j)/\Bl Y w' by rw [e];have:=CU.o;rw [if_pos Bb] at this;exact this);obtain⟨CX,CY,rfl,CZ⟩:=Du.o Bb;have Dz:=aa CZ;clear CZ;go_wp2_with (first|((with_reducible refine pO BB.o ?_ ?_);exact rfl)|(with_reducible refine zx jY BR Ag BP ?_)|(go_at_call 169; refine jr (Bc.o _ rfl) ?_;intro bn AP));have Ca:=aU CV.o AP.o;have E5:=aa Ca;have E8:=aa (fun m=>Le (W:=wr) (g:=CX) (o:=CY+j * 34) (V:=jY) Dz.o underlying135 rfl Ag (W':=bn.drewN m) (below_drewN (aU Dq.o AP.o) m));have E9:=aa (fun m=>Le (W:=Y) (g:=wr.heap.size) (o:=0) (V:=jY) (fun i v EA=>by rw [Nat.zero_add,CW.o.cell i];exact EA) underlying135 rfl Ag (W':=bn.drewN m) (below_drewN AP.o m));clear Ca;refine wp_region_quiet_lit kr kr ?_;repeat (first | go_big_quiet_step (fail) | ((refine aDX (u:=.agg jY.toArray) (v:=.agg jY.toArray) ⟨rfl,rfl⟩ (arB _ _ _ _ kr) (fun w=>(Dt.o w).2) ?_);simp only [Act.put,List.setIfInBounds_toArray,List.set_cons_succ,List.set_cons_zero]) | (((refine aed (p:=⟨CX,CY+j * 34,none⟩) rfl (by rintro _ ⟨m,rfl⟩;exact E8.o m) ?_);simp only [Act.put,List.setIfInBounds_toArray,List.set_cons_succ,List.set_cons_zero])) | (((refine aed (p:=ad wr.heap.size 0) rfl (by rintro _ ⟨m,rfl⟩;exact E9.o m) ?_);simp only [Act.put,List.setIfInBounds_toArray,List.set_cons_succ,List.set_cons_zero])))
     refine wpQuiet_nil ?_;intro _ EC;obtain⟨nq,EF⟩:=EC;subst EF;go_wp2_with fail;go_roundg (gk - 1);case rel=>exact⟨j+1,om,om,by go_num,below_drewN E5.o _⟩
     case measure=>omega
    ·have Cc:j=q:=om;have Bc:=aa (fun (W:aRU) (e:W=Y)=>show Calls prog 169 #[.slice B q d,.func (.func 170) #[] #[pp wr.heap.size 0]] W fun e w'=>e = .returned (.int .i64 (-1))/\Bl Y w' by rw [e];have:=CU.o;rw [if_neg Bb] at this;exact this);have Be:=aa (show Ju t q=[.int .i64 1,.string P,.int .i64 0] by unfold Ju;rw [<- Cc,Dv.o,Dw.o]);have Ak:=aal (.int .i64 1) (.string P) (.int .i64 0);have h1:=aam 1 P 0;have hl:[Value.int .i64 1,.string P,.int .i64 0].length=[Value.int .i64 0,.string ⟨#[]⟩,.int .i64 0].length:=rfl;have EG:=aa (fun W (h:Bl aY W)=>Br.o.all h);clear Cc;go_wp2_with (first|((with_reducible refine pO BB.o ?_ ?_);exact rfl)|(with_reducible refine zx jY BR Ag BP ?_)|(go_at_call 169; refine (Bc.o _ rfl).mono ?_;rintro e bn ⟨rfl,AV⟩;have AP:=aa (aU CV.o AV);have Ef:bn.cell? (ad wr.heap.size 0)=some (.string P):=((CW.o.all AV).cell 0).trans Dr.o;have Bf:=aa (EG.o _ AP.o);clear AV)|((with_reducible refine vF [.int .i64 1,.string P,.int .i64 0] Bf.o Ak hl h1 ?_);intro cO Bg Bh));rw [Exit.noGoto_ret];exact D5 Bg.o underlying216 rfl Ak ⟨rfl,rfl,rfl⟩ ⟨by rw [Be.o],oO (aU Bq.o AP.o) Bh.o (aQF _)⟩
   ·have Di:¬ (j:Int) < n:=om;have Be:=aa (show Ju t q=[.int .i64 2,.string ⟨#[]⟩,.int .i64 0] by unfold Ju;rw [List.getElem?_eq_none (by rw [<- Bt.o];omega)]);have EH:wr.cell? (ad CK.heap.size 33)=some (.slice J m M):=(I.cell (p:=ad CK.heap.size 33) (aQR _ _ CG.o)).trans CG.o;have AX:=aa I;clear CL I BL;go_wp2_with fail;clear EH;obtain⟨iJ,EJ⟩:=ai wr;subst EJ;obtain⟨Ei,EK⟩:=ai gk;subst EK;go_loopg [48] m (fun gk Af wr=>∃ i:Nat,i+gk=m/\Af = .int .i64 i/\Bl aY wr);case atStart=>exact⟨0,om,rfl,AX.o⟩
    case round =>
     obtain⟨i,ay,rfl,I⟩:=hrel;by_cases Ce:i < m
     ·have Ej:(0:Int)<=i:=om;have EL:(i:Int) < m:=om;obtain⟨x,ah⟩:∃ x,t.outs[i]?=some x:=⟨_,aQI (by rw [<- Cv.o];exact Ce)⟩;have BC:=DI.o x (aQK ah);obtain⟨Dj,Dk,rfl,AQ⟩:=vG (f:=mi) (k:=33) H8 underlying268 rfl kr (C8.o.outs.gz I) ah rfl;have Bi:=fun (W:aRU)=>aDU W f x.2 BC;have Ac:=UI x;have Aa:=aak x;have hlen:=H8 x;have oq:((mi x).drop 1).take (bQ x.2).length=bQ x.2:=by rw [mi,HZ BC];simp
      have Cf:=zt BC;obtain⟨Cg,Cj,X,Ck⟩:=nq2 (mi x) (bQ x.2);rw [<- Cj] at AQ Ac Aa hlen oq;rw [<- Ck] at Bi oq Cf;obtain⟨BB,EM,AX⟩:=hq3 AQ Bi I;clear AQ Bi I ah BC Cj Ck;go_wp2_with (first|((with_reducible refine pO BB.o ?_ ?_);exact rfl)|(with_reducible refine zx Cg hlen Aa Ac ?_)|(with_reducible refine Rm 1 X (aM.new wr Cg _) oq underlying59 Cf ?_)|(go_at_call 171; refine (EM.o _).mono ?_;rintro e bn ⟨rfl,AV⟩;have AP:=aa (AX.o.trans ((((Below.refl wr.heap.size wr).alloc (aQF _) _).trans (AV.mono sp)).mono AX.o.size));clear AV));go_roundg (gk - 1);case rel=>exact⟨i+1,om,by go_num,AP.o⟩
      case measure=>omega
     ·have EL:¬ (i:Int) < m:=om;have Ak:=aal (.int .i64 2) (.string ⟨#[]⟩) (.int .i64 z);have h1:=aam 2 ⟨#[]⟩ z;have hl:[Value.int .i64 2,.string ⟨#[]⟩,.int .i64 z].length=[Value.int .i64 0,.string ⟨#[]⟩,.int .i64 0].length:=rfl;have Bf:=aa (Br.o.all I);have AX:=aa I;clear Ce I;go_wp2_with (first|((with_reducible refine vF [.int .i64 2,.string ⟨#[]⟩,.int .i64 z] Bf.o Ak hl h1 ?_);intro cO Bg Bh));exact D5 Bg.o underlying216 rfl Ak ⟨rfl,rfl,rfl⟩ ⟨by rw [Be.o,De.o];rfl,oO (aU Bq.o AX.o) Bh.o (aQF _)⟩
section
variable {P:Program} {W:aRU} {o:Oper} {a:Act} {K:Act->World->Prop} {Q:aRX}
theorem wp_load_row (g off:Nat) (V vs:aRW) (t:TypeId) (av:aM W g V t) (oq:(V.drop off).take vs.length=vs) (d:TypeDesc) (hu:P.underlying ty=some d) (ay:(P.info? ty).map (·.size)=some vs.length)
  (ah:o.op = .load ty x/\a.eval x = .pointer (some ⟨g,off,none⟩)/\Cs d=true)
  (h:K (a.put o.dst (.agg vs.toArray)) W):o.wp P a W K Q :=
 ahG ty x ah.1 g off ah.2.1 V.toArray t (0,0) av vs (fun j aC=>by
  have h1:vs[j]?=((V.drop off).take vs.length)[j]?:=by rw [oq]
  rw [h1,List.getElem?_take_of_lt aC,List.getElem?_drop];simp) d hu ah.2.2 ay h
theorem aEd {t0:TypeId} (cells:Array Value) (hf:P.built t0 []=some cells) (aG:o.op = .build t0 #[]) (h:K (a.put o.dst (.agg cells)) W):o.wp P a W K Q :=
 wp_build t0 #[] aG (by simp [hf]) (by simpa [hf] using h)
theorem arI {b:BinOp} (A B:Array Value) (r:Value) (zS:P.eqGuardType P.depth ty=false) (hl:(binOp b ty (.agg A) (.agg B)).run P W = .ok r W)
  (ah:o.op = .binOp b ty x y t2/\a.eval x = .agg A/\a.eval y = .agg B) (h:K (a.put o.dst r) W):o.wp P a W K Q:=by
 unfold Oper.wp execOp;simp [ah.1,ah.2.1,ah.2.2,arB x y A B zS W,hl];exact h
variable {ops:Array Oper} {rest:List Oper} {dst:Option Tmp} {pos:String} {after:Array Edge} {ic:TypeId}
def aas (ops:Array Oper) (a:Act) (zA:Nat) (lT:Bool):Prop:=∃ ajQ dg,ops[zA]?=some ajQ/\ajQ.dst=some dg/\a.tmps[dg]?=some (.bool lT)
theorem aas.wp {zA:Nat} {lT:Bool} {op:Op} (av:aas ops a zA lT) (h:Oper.wp P ⟨dst,op,ic,pos,after,some (zA,lT)⟩ a W (wpList P ops Q rest) Q):wpList P ops Q (⟨dst,op,ic,pos,after,some (zA,lT)⟩ :: rest) a W:=by obtain⟨ajQ,dg,I,J,M⟩:=av;unfold wpList;rw [if_pos (by simp [Region.wanted,yielded,I,J,M])];exact .inl h
variable {zA:Nat} {lT:Bool}
theorem Lh (g off:Nat) (V vs:aRW) (t:TypeId) (av:aM W g V t) (oq:(V.drop off).take vs.length=vs) (d:TypeDesc) (hu:P.underlying ty=some d) (ay:(P.info? ty).map (·.size)=some vs.length)
  (ah:aas ops a zA lT/\a.eval x = .pointer (some ⟨g,off,none⟩)/\Cs d=true)
  (h:wpList P ops Q rest (a.put dst (.agg vs.toArray)) W):wpList P ops Q (⟨dst,.load ty x,ic,pos,after,some (zA,lT)⟩ :: rest) a W :=
 ah.1.wp (wp_load_row g off V vs t av oq d hu ay ⟨rfl,ah.2⟩ h)
theorem aEe {t0:TypeId} (cells:Array Value) (hf:P.built t0 []=some cells) (ah:aas ops a zA lT) (h:wpList P ops Q rest (a.put dst (.agg cells)) W):wpList P ops Q (⟨dst,.build t0 #[],ic,pos,after,some (zA,lT)⟩ :: rest) a W :=
 ah.wp (aEd cells hf rfl h)
theorem arJ {b:BinOp} (A B:Array Value) (r:Value) (zS:P.eqGuardType P.depth ty=false) (hl:(binOp b ty (.agg A) (.agg B)).run P W = .ok r W)
  (ah:aas ops a zA lT/\a.eval x = .agg A/\a.eval y = .agg B) (h:wpList P ops Q rest (a.put dst r) W):wpList P ops Q (⟨dst,.binOp b ty x y t2,ic,pos,after,some (zA,lT)⟩ :: rest) a W :=
 ah.1.wp (arI A B r zS hl ⟨rfl,ah.2⟩ h)
end
end
section
open Go.RowKit Go.Shelf
structure ajR (r:kU):Prop where
 may:eB r.path=true
 small:r.path.length<=1000000
 sum:r.sum.length=32
 no:r.is=false->r.sum=A7
theorem aEf (w:aRU) (A:aRV) (c:Nat) (l:List kU) (ax:Rd w 34 A l.length (cK iq l)) (hl:l.length<=1000) (eZ:∀ r∈l,ajR r) (xm:(l.map (·.path)).Nodup) :
  CB 211 #[.slice A l.length c] w (.int .i64 0):=by
 obtain⟨n,Ag,aH,AU⟩:=nq2 l.length (w.alloc (.map #[] 0));have BH:Bl w aH:=by rw [AU];exact (Below.refl _ w).alloc (aQF _) _
 have BK:M5 aH w.heap.size 0 []:=by rw [AU];exact eU.made w prog 9 Value.bool
 rw [<- Ag] at ax hl |-;obtain⟨BL,Br,Bt,C8,CF,CG,CJ⟩:=hq7 Ag ax eZ xm BH BK AU;have BN:prog.eqGuardType prog.depth 59 = false:=kr;have BO:prog.built 59 []=some (bQ A7).toArray:=kr;have CK:=aa BN;have CL:=aa BO;have CQ:=@run_makeMap prog;clear ax Ag eZ xm BH BK AU BN BO;go_enter func211,ntmps211;go_wp2_with fail;clear CQ;rw [<- CJ.o];go_loopg [9] n (fun gk CS wr=>∃ j:Nat,j+gk=n/\CS = .int .i64 j/\Bl w wr/\∃ M,M5 wr w.heap.size j M/\H6 M ((l.take j).map (·.path)));case atStart=>exact⟨0,om,rfl,CF.o,[],CG.o,by simpa using H6.nil⟩
 case round =>
  obtain⟨j,aC,rfl,AA,M,AV,AX⟩:=hrel;have Cg:(0:Int)<=j:=om;by_cases Ah:j < n
  ·have CU:(j:Int) < n:=om;obtain⟨r,ax⟩:∃ r,l[j]?=some r:=⟨_,aQI (by rw [<- BL.o];exact Ah)⟩;have J:=Bt.o r (aQK ax);have BP:(getM M r.path).getD false=false:=by
    rw [AX r.path,decide_eq_false_iff_not];intro hm;obtain⟨x,ah,CV⟩:=aQO.1 hm;rw [List.mem_take_iff_getElem] at ah;obtain⟨i,ay,rfl⟩:=ah;have Cj:i < j:=om;have CW:i < l.length:=om;have h1:(l.map (·.path))[i]?=some r.path:=by rw [List.getElem?_map,List.getElem?_eq_getElem CW,<- CV];rfl
    have CX:(l.map (·.path))[j]?=some r.path:=by rw [List.getElem?_map,ax];rfl
    have:=(List.getElem?_inj (aQL.1 h1).1 C8.o).1 (h1.trans CX.symm);omega
   obtain⟨Ck,Cm,rfl,Ak⟩:=vG (f:=iq) (k:=34) zW underlying135 rfl kr (Br.o.gz AA) ax BL.o.symm;have Al:=FZ r;have Am:=Xe r;have hlen:=zW r;have AB:(iq r)[0]?=some (.string (aA r.path)):=rfl;have AZ:(iq r)[1]?=some (.bool r.is):=rfl;have Ao:((iq r).drop 2).take (bQ r.sum).length=bQ r.sum:=by rw [iq,HZ J.sum];simp
   have BR:=zt J.sum;have Y:=fun (h:r.is=false) (W:aRU)=>show (binOp .neq 59 (.agg (bQ r.sum).toArray) (.agg (bQ A7).toArray)).run prog W = .ok (.bool false) W by
    rw [aA3 _ _ J.sum dc,J.no h];simp
   have BS:(l.take (j+1)).map (·.path)=(l.take j).map (·.path)++[r.path]:=by rw [List.take_add_one,ax];simp
   have Ap:=fun (W:aRU)=>O0 W (aA r.path) r.path (by rw [iP];have:=J.small;omega) (gZ _) J.may;obtain⟨jY,BU,X,BX,P,Aa,bi,BZ⟩:=nq4 (iq r) (bQ r.sum) (aA r.path) r.is;have Aq:P.data.toList=r.path:=by rw [Aa,gZ]
   have Co:P.size<=1000000:=by rw [Aa,iP];exact J.small
   rw [<- BU] at Ak Al Am hlen AB AZ Ao;rw [<- BX] at Ao BR Y;rw [<- Aa] at AB Ap;rw [<- BZ] at AZ Y;obtain⟨Av,Ac⟩:=ai (wr.alloc (.cells jY.toArray 135));have Az:=gQ Ac;have BB:=kY Ac;have Ad:M5 Av w.heap.size j M:=AV.below Az AV.lt;have Bb:=aU AA Az;have Ae:=(BB.cell 0).trans AB;have AP:=fun W (h:Bl Av W)=>eU.look (w:=W) (show eU W prog 9 Value.bool w.heap.size j M from Ad.below h Ad.lt) aac underlying9 underlying147 false (arn W) P mV;rw [Aq,BP] at AP;obtain⟨Bc,Be,AQ,Bf,Bg,Af,Bh,Bi,CY,Bj,Bn,Bp⟩:=hq12 Ak Ap BB AP Bb Ad AB AZ Y BS AX Aq;have Bq:=Ac.symm;clear Ak Ap BB AP Bb Ad AB AZ Y BS AX ax J BP BU BX Aa Aq BZ Az Ac AV AA Ah;cases bi with
   | true =>
    go_wp2_with (first|((with_reducible refine pO Bc.o ?_ ?_);exact rfl)|(with_reducible refine zx jY hlen Am Al ?_)|(go_at_call 43; refine (Be.o _).mono ?_;rintro e bn ⟨rfl,I⟩;clear Ae;have Ae:=((AQ.o.all I).cell 0).trans Bh.o;have CZ:=((AQ.o.all I).cell 1).trans Bi.o;have AP:=Bf.o bn I;have BC:=aa (show eU bn prog 9 Value.bool w.heap.size j M from Af.o.below I Af.o.lt);have BD:=aa (aU Bg.o I);clear I Bq)|((with_reducible refine Zb BC.o aac underlying9 underlying147 ?_ P ?_ true ?_ ?_);exact mV;exact mV;exact⟨rfl,rfl,rfl⟩;refine zN ?_;intro Ca BF BG));go_roundg (gk - 1);case rel=>exact⟨j+1,om,by go_num,ajA BD.o BG.o (aQF _),_,by have:=BF.o;rw [Bp.o] at this;exact this,by rw [Bj.o];exact Bn.o.put _⟩
    case measure=>omega
   | false =>
    have Y:=CY.o rfl;have Cc:=aa Y;clear Y;go_wp2_with (first|((with_reducible refine pO Bc.o ?_ ?_);exact rfl)|(with_reducible refine zx jY hlen Am Al ?_)|(go_at_call 43; refine (Be.o _).mono ?_;rintro e bn ⟨rfl,I⟩;clear Ae;have Ae:=((AQ.o.all I).cell 0).trans Bh.o;have CZ:=((AQ.o.all I).cell 1).trans Bi.o;have AP:=Bf.o bn I;have Ce:=aa (AQ.o.all I);have BC:=aa (show eU bn prog 9 Value.bool w.heap.size j M from Af.o.below I Af.o.lt);have BD:=aa (aU Bg.o I);clear I Bq)|((with_reducible refine Lh wr.heap.size 2 jY X _ Ce.o Ao _ underlying59 BR ?_ ?_);exact⟨⟨_,_,rfl,rfl,rfl⟩,rfl,rfl⟩)|((with_reducible refine aEe _ CL.o ?_ ?_);exact⟨_,_,rfl,rfl,rfl⟩)|((with_reducible refine arJ X.toArray (bQ A7).toArray (.bool false) CK.o (Cc.o _) ?_ ?_);exact⟨⟨_,_,rfl,rfl,rfl⟩,rfl,rfl⟩)|((with_reducible refine Zb BC.o aac underlying9 underlying147 ?_ P ?_ true ?_ ?_);exact mV;exact mV;exact⟨rfl,rfl,rfl⟩;refine zN ?_;intro Ca BF BG));go_roundg (gk - 1);case rel=>exact⟨j+1,om,by go_num,ajA BD.o BG.o (aQF _),_,by have:=BF.o;rw [Bp.o] at this;exact this,by rw [Bj.o];exact Bn.o.put _⟩
    case measure=>omega
  ·have CU:¬ (j:Int) < n:=om;have Cf:=aa AA;clear Ah AA AV AX;go_wp2_with fail;go_ret;exact⟨rfl,Cf.o⟩
end
section
def yT (w:o9) (dN:aR1) (i:Nat):Prop:=dN i\/∃ k,dN k/\xS w k i
theorem yT.next {w:o9} {dN:aR1} (h:yT w dN i) (hw:ym w i j):yT w dN j:=by
 rcases h with h | ⟨k,h1,I⟩
 ·exact .inr ⟨i,h,.one hw⟩
 ·exact .inr ⟨k,h1,I.snoc hw⟩
theorem yT.least {w:o9} {dN P:aR1} (aV:∀ i,dN i->P i) (h1:∀ i j,P i->ym w i j->P j) (h:yT w dN i):P i:=by
 have key:∀ {a b:Nat},xS w a b->P a->P b:=by
  intro a b h;induction h with
  | one h=>exact fun I=>h1 _ _ I h
  | more h _ J=>exact fun I=>J (h1 _ _ I h)
 rcases h with h | ⟨k,M,Y⟩
 ·exact aV i h
 ·exact key Y (aV k M)
structure C9 (w:o9) (dN:aR1) (keep:Prop) (Nf Li:aR1) (rec:Nat->Option iU) (dY:aRZ):Prop where
 right:∀ i o,rec i=some o->o=bG w i
 reach:∀ i o,rec i=some o->yT w dN i
 full:keep->∀ i,yT w dN i->rec i≠none
 dY:∀ i∈dY,rec i≠none/\(¬ Nf i\/(bG w i).kind≠1)
 F7:∀ i o,rec i=some o->o.kind=1->Li i
 keeps:∀ i,Nf i->Li i
theorem C9.aEi {w:o9} {dN:aR1} {keep:Prop} {rec:Nat->Option iU} (h:C9 w dN keep Nf Li rec dY) (ax:rec i≠none):rec i=some (bG w i):=by
 cases I:rec i with
 | none=>exact absurd I ax
 | some o=>rw [h.right i o I]
theorem C9.same {w:o9} {dN:aR1} {ajU aEj:aR1} {rec aat:Nat->Option iU} {aeB:aRZ} (h:C9 w dN True Nf Li rec dY) (k:C9 w dN True ajU aEj aat aeB):rec=aat:=by
 funext i;cases I:rec i with
 | some o =>
  have:=k.aEi (k.full trivial i (h.reach i o I));rw [this,h.right i o I]
 | none =>
  cases J:aat i with
  | none=>rfl
  | some o=>exact absurd I (h.full trivial i (k.reach i o J))
theorem C9.again {w:o9} {dN:aR1} {keep aEk:Prop} {ajU:aR1} {rec aat:Nat->Option iU} {aeB:aRZ} (h:C9 w dN keep Nf Li rec dY) (k:C9 w dN aEk Li ajU aat aeB) (ay:i∈aeB) {o:iU} (aG:rec i=some o):o.kind≠1:=by
 intro hk;rcases (k.dY i ay).2 with h1 | h1
 ·exact h1 (h.F7 i o aG hk)
 ·rw [<- h.right i o aG] at h1;exact h1 hk
end
end Go.Proofs.YtjkinjbkknanbaaGreatDoor
