/- Pd -/
import Derived.Test.YtjkinjbkknanbaaGreatDoorPc
set_option maxRecDepth 100000
set_option maxHeartbeats 8000000
set_option linter.unusedSimpArgs false
set_option linter.unusedVariables false
namespace Go.Proofs.YtjkinjbkknanbaaGreatDoor
open Go.Proofs.Tryz
variable {m i j k s b B g i0 c base q:Nat}
variable {p:ak}
variable {v:Value}
variable {P:Program}
variable {ops:Array Oper}
variable {Q:aRE}
variable {rest:List Oper}
variable {a:Act}
variable {dst:Option Tmp}
variable {ty t t2:TypeId}
variable {x y oW:Operand}
variable {after:Array Edge}
variable {w w' w1 W W':aRB}
variable {M:fu (List UInt8)}
variable {z:Int}
variable {d:TypeDesc}
variable {α:Type}
variable {Z:Array Value}
variable {V xs:aRD}
variable {A:aRC}
variable {M4 KX Z4:aRI}
variable {dZ Uq:aRG}
section
abbrev T9:=dz
structure kJ where
 path:ak
 is:Bool
 sum:List UInt8
structure iN where
 kind:Nat
 why:Nat
 outs:List (ak × ak)
 reads:List kJ
structure ML where
 S:Type
 start:S
 asks:S->Option ak
 mE:S->T9->S
 out:S->iN
structure pV where
 n:Nat
 act:Nat->ML
 kK:ak->Option Nat
 file:ak->T9
 sum:T9->kJ
 most:Nat
def D8 (rs:List kJ):iN:=⟨3,11,[],rs⟩
def HZ (rs:List kJ):iN:=⟨2,16,[],rs⟩
def iN.at_ (o:iN) (p:ak):T9:=match o.outs.find? fun x=>x.1 == p with
 | some x=>⟨p,true,x.2⟩
 | none=>⟨p,false,[]⟩
inductive EN where
 | known (k:T9)
 | below
 | stuck
def vX (w:pV) (O:Nat->Option iN) (p:ak):EN:=match w.kK p with
 | none=>.known (w.file p)
 | some j=>match O j with
  | none=>.stuck
  | some o=>if o.kind=1 then .known (o.at_ p) else if o.kind=2 then .below else .stuck
def mF (w:pV) (a:ML) (A:ak->EN):Nat->a.S->List kJ->Bool × iN
 | 0,_,rs=>(false,D8 rs)
 | n+1,s,rs=>match a.asks s with
  | none=>(true,a.out s)
  | some p=>match A p with
   | .known k=>mF w a A n (a.mE s k) (rs++[w.sum k])
   | .below=>(true,HZ rs)
   | .stuck=>(false,D8 rs)
def qd (w:pV):Nat->Nat->Option iN
 | 0,_=>none
 | n+1,i=>let r:=mF w (w.act i) (vX w (qd w n)) w.most (w.act i).start []
  if r.1 then some r.2 else none
section
variable {w:pV}
def Ext (A B:ak->EN):Prop:=∀ p,A p ≠ .stuck->B p=A p
theorem adw {a:ML} {A B:ak->EN} (h:Ext A B):∀ (n:Nat) (s:a.S) (rs:List kJ),(mF w a A n s rs).1=true->mF w a B n s rs=mF w a A n s rs
 | 0,s,rs,I=>by simp [mF] at I
 | n+1,s,rs,I=>by
  rw [mF] at I |-;rw [mF];cases aL:a.asks s with
  | none=>rfl
  | some p =>
   rw [aL] at I;simp only at I |-;cases hA:A p with
   | known k =>
    rw [hA] at I;rw [h p (by rw [hA];simp),hA];exact adw h n _ _ I
   | below=>rw [h p (by rw [hA];simp),hA]
   | stuck =>
    rw [hA] at I;simp at I
theorem aiF {O Q:Nat->Option iN} (h:∀ i o,O i=some o->Q i=some o):Ext (vX w O) (vX w Q):=by
 intro p aL;unfold vX at aL |-;cases hm:w.kK p with
 | none=>rfl
 | some j =>
  rw [hm] at aL;simp only at aL |-;cases I:O j with
  | none=>rw [I] at aL;simp at aL
  | some o=>rw [h j o I]
theorem aiG:∀ (n i:Nat) (o:iN),qd w n i=some o->qd w (n+1) i=some o
 | 0,i,o,h=>by cases h
 | n+1,i,o,h=>by
  rw [qd] at h |-;by_cases I:(mF w (w.act i) (vX w (qd w n)) w.most (w.act i).start []).1=true
  ·rw [adw (aiF (aiG n)) _ _ _ I];exact h
  ·rw [if_neg I] at h;cases h
theorem adx {n:Nat} {o:iN} (h:qd w n i=some o) (hm:n<=m):qd w m i=some o:=by
 induction hm with
 | refl=>exact h
 | step _ I=>exact aiG _ _ _ I
open Classical in
noncomputable def FU (w:pV) (i:Nat):Option iN:=if h:∃ n,(qd w n i).isSome=true then qd w (Classical.choose h) i else none
theorem Wy {o:iN}:FU w i=some o ↔ ∃ n,qd w n i=some o:=by
 unfold FU;constructor
 ·intro h;split at h
  ·exact⟨_,h⟩
  ·cases h
 ·rintro⟨n,I⟩;have ah:∃ n,(qd w n i).isSome=true:=⟨n,by rw [I];rfl⟩;rw [dif_pos ah];have hc:=aRA ah;obtain⟨Y,J⟩:=aRl.1 hc;have h1:=adx J (Nat.le_max_left _ n);have M:=adx I (Nat.le_max_right (Classical.choose ah) n);rw [J,<- h1,M]
theorem aCz (h:FU w i=none) (n:Nat):qd w n i=none:=by
 cases I:qd w n i with
 | none=>rfl
 | some o =>
  rw [Wy.2 ⟨n,I⟩] at h;cases h
noncomputable def fI (w:pV):ak->EN:=vX w (FU w)
theorem aiH (n:Nat):Ext (vX w (qd w n)) (fI w):=aiF fun _ _ h=>Wy.2 ⟨n,h⟩
theorem aqF (p:ak) (h:fI w p ≠ .stuck):∃ n,∀ m,n<=m->vX w (qd w m) p=fI w p:=by
 unfold fI vX at h;cases hm:w.kK p with
 | none=>exact⟨0,fun m _=>by simp [fI,vX,hm]⟩
 | some j =>
  rw [hm] at h;simp only at h;cases I:FU w j with
  | none=>rw [I] at h;simp at h
  | some o =>
   obtain⟨n,J⟩:=Wy.1 I;exact⟨n,fun m M=>by simp [fI,vX,hm,I,adx J M]⟩
theorem aqG {a:ML}:∀ (n:Nat) (s:a.S) (rs:List kJ),(mF w a (fI w) n s rs).1=true->∃ m,mF w a (vX w (qd w m)) n s rs=mF w a (fI w) n s rs
 | 0,s,rs,I=>by simp [mF] at I
 | n+1,s,rs,I=>by
  rw [mF] at I;cases aL:a.asks s with
  | none=>exact⟨0,by rw [mF,mF,aL]⟩
  | some p =>
   rw [aL] at I;simp only at I;cases hA:fI w p with
   | known k =>
    rw [hA] at I;obtain⟨m1,h1⟩:=aqF p (by rw [hA];simp);obtain⟨m2,J⟩:=aqG n _ _ I;refine⟨max m1 m2,?_⟩;rw [mF,mF,aL];simp only;rw [h1 _ (Nat.le_max_left _ _),hA];simp only;have ah:(mF w a (vX w (qd w m2)) n (a.mE s k) (rs++[w.sum k])).1=true:=by rw [J];exact I
    rw [adw (aiF fun i o M=>adx M (Nat.le_max_right m1 m2)) n _ _ ah,J]
   | below =>
    obtain⟨m1,h1⟩:=aqF p (by rw [hA];simp);refine⟨m1,?_⟩;rw [mF,mF,aL];simp only;rw [h1 _ (Nat.le_refl _),hA]
   | stuck =>
    rw [hA] at I;simp at I
noncomputable def Ji (w:pV) (i:Nat):Bool × iN:=mF w (w.act i) (fI w) w.most (w.act i).start []
theorem aiI (i:Nat):FU w i=if (Ji w i).1 then some (Ji w i).2 else none:=by
 cases hl:FU w i with
 | some o =>
  obtain⟨n,J⟩:=Wy.1 hl;cases n with
  | zero=>cases J
  | succ n =>
   rw [qd] at J;by_cases I:(mF w (w.act i) (vX w (qd w n)) w.most (w.act i).start []).1=true
   ·rw [if_pos I] at J;have:=adw (aiH n) _ _ _ I;rw [Ji,this,if_pos I];exact J.symm
   ·rw [if_neg I] at J;cases J
 | none =>
  split
  ·rename_i I;obtain⟨m,hm⟩:=aqG _ _ _ I;have M:qd w (m+1) i=some (Ji w i).2:=by rw [qd];rw [hm];exact if_pos I
   rw [aCz hl] at M;cases M
  ·rfl
noncomputable def bE (w:pV) (i:Nat):iN:=(Ji w i).2
inductive oU (w:pV) (i:Nat):(w.act i).S->List kJ->Prop where
 | start:oU w i (w.act i).start []
 | step {s:(w.act i).S} {rs:List kJ} {p:ak} {k:T9}:oU w i s rs->(w.act i).asks s=some p->fI w p = .known k->oU w i ((w.act i).mE s k) (rs++[w.sum k])
def H5 (w:pV):Prop:=∀ i s rs,oU w i s rs->rs.length < w.most
theorem oU.run {s:(w.act i).S} {rs:List kJ} (h:oU w i s rs) (hf:H5 w):Ji w i=mF w (w.act i) (fI w) (w.most - rs.length) s rs:=by
 induction h with
 | start=>rfl
 | @step s rs p k h aL hk I =>
  have h1:=hf i _ _ h;rw [I,show w.most - rs.length=(w.most - (rs++[w.sum k]).length)+1 by simp;omega,mF,aL];simp only;rw [hk]
theorem oU.done {s:(w.act i).S} {rs:List kJ} (h:oU w i s rs) (hf:H5 w) (bn:(w.act i).asks s=none):Ji w i=(true,(w.act i).out s):=by have h1:=hf i _ _ h;rw [h.run hf,show w.most - rs.length=(w.most - rs.length - 1)+1 by omega,mF,bn]
theorem oU.Wz {s:(w.act i).S} {rs:List kJ} (h:oU w i s rs) (hf:H5 w) (bn:(w.act i).asks s=some p) (aL:fI w p = .below):Ji w i=(true,HZ rs):=by have h1:=hf i _ _ h;rw [h.run hf,show w.most - rs.length=(w.most - rs.length - 1)+1 by omega,mF,bn];simp only;rw [aL]
theorem oU.stuck {s:(w.act i).S} {rs:List kJ} (h:oU w i s rs) (hf:H5 w) (bn:(w.act i).asks s=some p) (aL:fI w p = .stuck):Ji w i=(false,D8 rs):=by have h1:=hf i _ _ h;rw [h.run hf,show w.most - rs.length=(w.most - rs.length - 1)+1 by omega,mF,bn];simp only;rw [aL]
def yc (w:pV) (i j:Nat):Prop:=∃ s rs p,oU w i s rs/\(w.act i).asks s=some p/\w.kK p=some j
theorem aCA {n:Nat} (hf:H5 w) {s:(w.act i).S} {rs:List kJ} (h:oU w i s rs) (bn:(w.act i).asks s=some p) (aD:w.kK p=some j) (aZ:(mF w (w.act i) (vX w (qd w n)) w.most (w.act i).start []).1=true):(qd w n j).isSome=true:=by
 have key:∀ {s:(w.act i).S} {rs:List kJ},oU w i s rs->(mF w (w.act i) (vX w (qd w n)) (w.most - rs.length) s rs).1=true:=by
  intro s rs h;induction h with
  | start=>exact aZ
  | @step s rs p k h aL hk I =>
   have h1:=hf i _ _ h;rw [show w.most - rs.length=(w.most - (rs++[w.sum k]).length)+1 by simp;omega,mF,aL] at I;simp only at I;cases hA:vX w (qd w n) p with
   | known J =>
    have:=aiH n p (by rw [hA];simp);rw [hk,hA] at this;cases this;rw [hA] at I;exact I
   | below =>
    have:=aiH n p (by rw [hA];simp);rw [hk,hA] at this;cases this
   | stuck =>
    rw [hA] at I;simp at I
 have h1:=hf i _ _ h;have hk:=key h;rw [show w.most - rs.length=(w.most - rs.length - 1)+1 by omega,mF,bn] at hk;simp only at hk;cases hA:qd w n j with
 | some o=>rfl
 | none =>
  rw [show vX w (qd w n) p = .stuck by simp [vX,aD,hA]] at hk;simp at hk
inductive xM (w:pV):Nat->Nat->Prop where
 | one {i j:Nat}:yc w i j->xM w i j
 | more {i j k:Nat}:yc w i j->xM w j k->xM w i k
theorem xM.snoc (h:xM w i j) (hk:yc w j k):xM w i k:=by
 induction h with
 | one h=>exact .more h (.one hk)
 | more h _ I=>exact .more h (I hk)
theorem aqH (hf:H5 w) {n:Nat} (h:(qd w (n+1) i).isSome=true) (hw:yc w i j):(qd w n j).isSome=true:=by
 obtain⟨s,rs,p,aL,J,aD⟩:=hw;rw [qd] at h;by_cases I:(mF w (w.act i) (vX w (qd w n)) w.most (w.act i).start []).1=true
 ·exact aCA hf aL J aD I
 ·rw [if_neg I] at h;cases h
theorem aCB (hf:H5 w):∀ {i j:Nat},xM w i j->∀ n,(qd w (n+1) i).isSome=true->(qd w n j).isSome=true:=by
 intro i j h;induction h with
 | one h=>exact fun n I=>aqH hf I h
 | @more i j k h _ J =>
  intro n I;have h1:=aqH hf I h;cases n with
  | zero=>cases h1
  | succ n =>
   have M:=J n h1;obtain⟨o,Y⟩:=aRl.1 M;rw [aiG _ _ _ Y];rfl
theorem aqI (hf:H5 w) (h:xM w i i):∀ n,qd w n i=none
 | 0=>rfl
 | n+1=>by
  cases I:qd w (n+1) i with
  | none=>rfl
  | some o =>
   have:=aCB hf h n (by rw [I];rfl);rw [aqI hf h n] at this;cases this
theorem aCC (hf:H5 w) (h:xM w i i):FU w i=none:=by
 cases hl:FU w i with
 | none=>rfl
 | some o =>
  obtain⟨n,I⟩:=Wy.1 hl;rw [aqI hf h n] at I;cases I
theorem aqJ (aD:w.kK p=some j):fI w p=match FU w j with | none=>.stuck | some o=>if o.kind=1 then .known (o.at_ p) else if o.kind=2 then .below else .stuck:=by unfold fI vX;rw [aD]
theorem ady (aD:w.kK p=none):fI w p = .known (w.file p):=by unfold fI vX;rw [aD]
theorem aCD {o:iN} (h:FU w i=some o):bE w i=o:=by
 rw [aiI] at h;by_cases I:(Ji w i).1=true
 ·rw [if_pos I] at h;exact aQS h
 ·rw [if_neg I] at h;cases h
theorem aqK {a:ML} {A:ak->EN}:∀ (n:Nat) (s:a.S) (rs:List kJ),(mF w a A n s rs).1=false->∃ aCE,(mF w a A n s rs).2=D8 aCE
 | 0,s,rs,_=>⟨rs,rfl⟩
 | n+1,s,rs,h=>by
  rw [mF] at h |-;cases aL:a.asks s with
  | none=>rw [aL] at h;cases h
  | some p =>
   rw [aL] at h;simp only at h |-;cases hA:A p with
   | known k =>
    rw [hA] at h;exact aqK n _ _ h
   | below=>rw [hA] at h;cases h
   | stuck=>exact⟨rs,rfl⟩
theorem aCF (h:FU w i=none):∃ rs,bE w i=D8 rs:=by
 rw [aiI] at h;by_cases I:(Ji w i).1=true
 ·rw [if_pos I] at h;cases h
 ·exact aqK _ _ _ (Bool.eq_false_iff.2 I)
theorem aqL (aD:w.kK p=some j) :
  fI w p=if (bE w j).kind=1 then .known ((bE w j).at_ p) else if (bE w j).kind=2 then .below else .stuck:=by
 rw [aqJ aD];cases hl:FU w j with
 | some o=>rw [aCD hl]
 | none =>
  obtain⟨rs,I⟩:=aCF hl;rw [I];rfl
end
end
section
open Go.ChangeMaps Go.MapKept Go.Maps Go.RowKit Go.WideAt Go.WideMaps
section
variable {α:Type} {enc:α->Value} {w:aRB} {P:Program} {k t e:TypeId} {b n:Nat} {M:fu α}
theorem eQ.aqM (h:eQ w P k enc b n M) (wH:∀ a b,enc a=enc b->a=b) (K:Keyed P k) (aA:P.underlying t=some (.map k e)) (z0:α) (dB:(zeroValue e).run P w = .ok (enc z0) w) {gW:aRH} (hk:keyOf P k v=some (.string gW)) :
  (Instr.lookup t (.map (some b)) v true).run P w = .ok (.tuple #[enc ((getM M gW).getD z0),.bool (getM M gW).isSome]) w:=by
 obtain⟨u,ps,J,Y⟩:=World.ownsMap.look_ok h K aA dB (Kl wH z0) hk;rw [aow] at J;rw [YN] at Y;obtain⟨a,rfl,I⟩:=Tx Y;rw [J];cases ax:getM M gW with
 | none=>rw [ax] at I;injection I with I;subst I;rfl
 | some x=>rw [ax] at I;injection I with I;subst I;rfl
theorem eQ.adz (h:eQ w P k enc b n M) (wH:∀ a b,enc a=enc b->a=b) (K:Keyed P k) (aA:P.underlying t=some (.map k e)) (aB:n < maxLen) {gW:aRH} (hk:keyOf P k v=some (.string gW)) (a:α) :
  ∃ w',(Instr.mapUpdate t (.map (some b)) v (enc a)).run P w = .ok () w'/\eQ w' P k enc b (n+1) (oz M gW a)/\fU b w w':=by
 obtain⟨w',I,h1,J⟩:=World.ownsMap.store h K aA aB hk (Kl wH a);rw [ahj] at h1;exact⟨w',I,h1,acS J⟩
theorem aqN {β:Type} {f:Nat->Option β} {g:Nat->β}:∀ L:List Nat,(∀ i∈L,f i=some (g i))->L.mapM f=some (L.map g)
 | [],_=>rfl
 | i :: L,h=>by
  rw [List.mapM_cons,aqN L (fun j aD=>h j (List.mem_cons_of_mem _ aD)),h i (List.mem_cons_self ..)];rfl
end
def aqO (l:aRH):List Lit:=l.map fun b=>.int .u8 b.toNat
def qf (l:aRH):List UInt8:=keyBytes (aqO l)
def KI (l:aRH):Value:=.agg (bO l).toArray
theorem Q9:ArrKey prog 59 5 32:=⟨underlying59,kr,kr,kr⟩
theorem MM:Keyed prog 59:=Keyed.of_law Q9.law
theorem wf_u8 (b:UInt8):(Lit.int .u8 b.toNat).wf=true:=by have:=b.toNat_lt;simp [Lit.wf,IntKind.min,IntKind.max,IntKind.signed,IntKind.bits];omega
theorem aCG (l:aRH):(List.range l.length).map (fun i=>l.getD i 0)=l:=by refine aRv sp fun i h1 I=>?_;simp [List.getElem?_eq_getElem I]
theorem Ua {l:aRH} (hl:l.length=32):keyOf prog 59 (KI l)=some (.string (qf l)):=by
 have M:∃ m,prog.types.size=m+1:=⟨prog.types.size - 1,kr⟩;have A7:=Q9.keyType M;obtain⟨m,hm⟩:=M;have I:(bO l).length=32:=by simp [bO,hl]
 have hc:((KI l).cells).toList=bO l:=by simp [KI,Value.cells]
 unfold keyOf;simp only [Q9.hu];rw [if_pos (by simp [A7,Value.formed,KI,Q9.hu,Q9.size,I]),hm,hc];unfold Program.keyLits;simp only [Q9.hu];rw [if_pos (by rw [Q9.size];exact I)];have AA:∀ i∈List.range 32,prog.keyLits (m+1) 5 (((bO l).drop (i * prog.cellsOf 5)).take (prog.cellsOf 5))=some [Lit.int .u8 (l.getD i 0).toNat]:=by
  intro i J;have J:=aQK.1 J;rw [Q9.one,Nat.mul_one];have h1:((bO l).drop i).take 1=[.int .u8 (l.getD i 0).toNat]:=by
   rw [List.drop_eq_getElem_cons (by rw [I];exact J),List.take_succ_cons,List.take_zero];have:=Tt l (show i < l.length by omega);rw [List.getElem?_eq_getElem (by rw [I];exact J)] at this;injection this with this
   rw [this]
  rw [h1];unfold Program.keyLits;simp [underlying5,wf_u8]
 rw [aqN _ AA];have Y:=aCG l;rw [hl] at Y;have AB:∀ L:List Nat,(L.map fun i=>[Lit.int .u8 ((l.getD i 0).toNat:Int)]).flatten=aqO (L.map fun i=>l.getD i 0):=by
  intro L;induction L with
  | nil=>rfl
  | cons i L AJ=>rw [List.map_cons,List.flatten_cons,AJ];rfl
 simp only [Option.map_some,Option.some.injEq];rw [AB,Y];rfl
theorem aCH (b:UInt8):(Lit.int .u8 (b.toNat:Int)).keyBytes=[b]:=by
 have h:=b.toNat_lt;have e:((b.toNat:Int) % 2 ^ IntKind.u8.bits).toNat=b.toNat:=by show ((b.toNat:Int) % 2 ^ 8).toNat=b.toNat;omega
 show bytesBE (IntKind.u8.bits / 8) ((b.toNat:Int) % 2 ^ IntKind.u8.bits).toNat=[b];rw [e];show [UInt8.ofNat (b.toNat % 256)]=[b];rw [Nat.mod_eq_of_lt om,UInt8.ofNat_toNat]
theorem Ra:∀ l:List UInt8,qf l=l
 | []=>rfl
 | b :: l=>by
  show (Lit.int .u8 (b.toNat:Int)).keyBytes++qf l=_;rw [aCH,Ra l];rfl
end
section
open Go.Maps Go.RowKit
theorem adB {C:World->Prop} {Q:Act->Prop} {gP:TypeId} {pos:String} {p:Addr}
  (ah:a.eval x = .pointer (some p)) (hl:∀ w,C w->(loadVar ty p).run P w = .ok v w) (h:wpQuiet P ops C Q rest (a.put dst v)):wpQuiet P ops C Q (⟨dst,.load ty x,gP,pos,after,none⟩ :: rest) a:=by
 have hw:Region.wanted ⟨dst,.load ty x,gP,pos,after,none⟩ (yielded ops a.tmps)=true:=rfl;unfold wpQuiet;rw [if_pos hw];refine⟨v,fun w I=>?_,h⟩;unfold Oper.quietAt execOp;simp [ah,Instr.loadAt,Instr.sureAddr,hl w I,Oper.quietUpon]
def encS (d:aRH):Value:=.string (az d)
theorem O1 (a b:aRH) (h:encS a=encS b):a=b:=by
 have I:az a=az b:=by injection h
 rw [<- gU a,I,gU]
structure BS (w:aRB) (s b n:Nat) (M:fu (List UInt8)) (z:Int):Prop where
 obj:w.heap[s]?=some (.cells #[.map (some b),.int .i64 z] 89 (0,0))
 map:eQ w prog 59 encS b n M
theorem BS.box {n:Nat} (h:BS w s b n M z):aix w s [.map (some b),.int .i64 z]:=⟨_,h.obj⟩
theorem BS.lt {n:Nat} (h:BS w s b n M z):s < w.heap.size/\b < w.heap.size:=⟨ic h.obj,h.map.lt⟩
theorem BS.below {n:Nat} (h:BS w s b n M z) (ae:Below B w w') (h1:s < B) (ag:b < B):BS w' s b n M z:=⟨(ae.block _ h1).trans h.obj,h.map.below ae ag⟩
theorem BS.ne {n:Nat} (h:BS w s b n M z):s≠b:=by rintro rfl;obtain⟨es,clock,ae,_⟩:=h.map;rw [h.obj] at ae;cases ae
theorem aCI (w:aRB):CR 12 #[] w (pp (w.heap.size+1) 0) fun w'=>BS w' (w.heap.size+1) w.heap.size 0 [] 0/\Bl w w'/\w'.heap.size=w.heap.size+2:=by
 have I:=@run_makeMap prog;go_enter func12,ntmps12;go_wp2;go_ret;refine⟨rfl,⟨?_,?_⟩,?_,?_⟩
 ·have:=aQz (w.alloc (.map #[] 0)) (.cells #[.map (some w.heap.size),.int .i64 0] 89);rwa [World.size_alloc] at this
 ·exact (eQ.made w _ _ _).alloc _
 ·exact ((Below.refl _ w).alloc (aQm _) _).alloc sp _
 ·simp
theorem Zy (w:aRB):(zeroValue 9).run prog w = .ok (encS []) w:=by rw [zeroValue9];rfl
theorem BS.look {n:Nat} (h:BS w s b n M z) {d:aRH} (aT:d.length=32) :
  (Instr.lookup 87 (.map (some b)) (KI d) true).run prog w = .ok (.tuple #[.string (az ((getM M d).getD [])),.bool (getM M d).isSome]) w:=by
 have:=h.map.aqM O1 MM underlying87 [] (Zy w) (Ua aT);rw [Ra] at this;exact this
theorem aCJ (w:aRB) (s b n:Nat) (M:fu (List UInt8)) (z:Int) (h:BS w s b n M z) (d:aRH) (aT:d.length=32) :
  CB 29 #[pp s 0,KI d] w (.tuple #[.string (az ((getM M d).getD [])),.bool (getM M d).isSome]):=by
 have AA:=h.lt;obtain⟨cs,hcs⟩:=ai ((bO d).toArray);have Y:KI d = .agg cs:=by rw [hcs];rfl
 rw [Y];obtain⟨W,J,g,ax⟩:=nq2 (w.alloc (.cells cs 59)) w.heap.size;have A7:=gQ J;have I:=h.below A7 AA.1 AA.2;have Ae:W.cell? (ad s 0)=some (.map (some b)):=I.box.cells 0;have AB:W.heap[g]?=some (.cells cs 59 (0,0)):=by rw [J,ax];exact aQz w _
 have AJ:∀ m,(loadVar 59 ⟨g,0,none⟩).run prog (W.drewN m) = .ok (.agg cs) (W.drewN m):=fun m =>
  run_loadVar_row (W.drewN m) g 59 59 _ (0,0) _ AB underlying59 rfl (by rw [hcs,List.size_toArray];exact zk aT)
 have AL:=fun m=>(I.below (below_drewN (Below.refl W.heap.size W) m) I.lt.1 I.lt.2).look aT;rw [Y] at AL;obtain⟨x,ah⟩:=ai (az ((getM M d).getD []));obtain⟨ok,AO⟩:=ai ((getM M d).isSome);rw [<- ah,<- AO] at AL |-;obtain⟨AP,AV,AZ,Aa⟩:=hq4 A7 J ax AJ;clear AJ ah AO Y hcs h I AB J ax A7;go_enter func29,ntmps29;go_wp2_with fail;rw [<- AZ.o,<- AV.o];refine wp_region_quiet_lit kr kr ?_;repeat (first | go_big_quiet_step (fail) | (((refine adB (p:=ad g 0) rfl (by rintro _ ⟨m,rfl⟩;exact Aa.o m) ?_);simp only [Act.put,List.setIfInBounds_toArray,List.set_cons_succ,List.set_cons_zero])))
 refine wpQuiet_nil ?_;intro _ Ab;obtain⟨nq,Ad⟩:=Ab;subst Ad;go_wp2_with fail;go_ret2;exact⟨rfl,below_drewN (AP.o) _⟩
end
section
open Go.RowKit
theorem aCK {gP:TypeId} {v:Operand} {pos:String} (X:aRH) (aY:X.length=32)
  (uZ:a.eval x = .pointer (some ⟨w1.heap.size,0,none⟩)/\a.eval v = .agg (bO X).toArray)
  (h:wpList prog ops Q rest (a.put dst undef) (w1.alloc (.cells (bO X).toArray 59))) :
  wpList prog ops Q (⟨dst,.store 59 x v,gP,pos,after,none⟩ :: rest) a (w1.alloc (.cells #[dS,dS,dS,dS,dS,dS,dS,dS,dS,dS,dS,dS,dS,dS,dS,dS,dS,dS,dS,dS,dS,dS,dS,dS,dS,dS,dS,dS,dS,dS,dS,dS] 59)):=by
 refine yz w1.heap.size 0 (.agg (bO X).toArray) (bO X) (qD _) (bO (List.replicate 32 0)).toArray 59 (aQz w1 _) (zk aY) (V3 aY) (G8 _) uZ ?_;rw [EC (by rw [xf,aY,List.size_toArray,xf,List.length_replicate]),World.setRow_alloc_new];exact h
end
section
open Go.Maps Go.RowKit
structure jW (p b:Nat) (w w':aRB):Prop where
 os:w'.os=w.os
 tape:w'.tape=w.tape
 output:w'.output=w.output
 size:w.heap.size<=w'.heap.size
 block:∀ k,k < w.heap.size->k≠p->k≠b->w'.heap[k]?=w.heap[k]?
theorem jW.trans {p:Nat} {x y z:aRB} (h:jW p b x y) (k:jW p b y z):jW p b x z :=
 ⟨k.os.trans h.os,k.tape.trans h.tape,k.output.trans h.output,aQn h.size k.size,fun i h1 I J=>(k.block i (aQq h1 h.size) I J).trans (h.block i h1 I J)⟩
theorem jW.gT {p:Nat} (h:Bl w w'):jW p b w w':=⟨h.os,h.tape,h.output,h.size,fun k hk _ _=>h.block k hk⟩
theorem jW.ug {p:Nat} (h:fU b w w'):jW p b w w':=⟨h.1,h.2.1,h.2.2.1,by rw [h.2.2.2.1];exact aQm _,fun k _ _ ae=>h.2.2.2.2 k ae⟩
theorem aCL {Q:Act->Prop} {gP:TypeId} {pos:String} {p:Addr}
  (ah:a.eval x = .pointer (some p)) (hl:(loadVar ty p).run P w = .ok v w) (h:wpStill P ops w Q rest (a.put dst v)):wpStill P ops w Q (⟨dst,.load ty x,gP,pos,after,none⟩ :: rest) a:=by
 have hw:Region.wanted ⟨dst,.load ty x,gP,pos,after,none⟩ (yielded ops a.tmps)=true:=rfl;unfold wpStill;rw [if_pos hw];unfold Oper.still execOp;simp [ah,Instr.loadAt,Instr.sureAddr,hl,Oper.stillUpon];exact h
theorem adC {enc:α->Value} {k e:TypeId} {n:Nat} {M:fu α} {gP:TypeId} {m v:Operand} {pos:String}
  (h:eQ w P k enc b n M) (wH:∀ a b,enc a=enc b->a=b) (K:Keyed P k) (aA:P.underlying t=some (.map k e)) (aB:n < maxLen) (u:Value) (gW:aRH) (hk:keyOf P k u=some (.string gW)) (y:α)
  (ah:a.eval m = .map (some b)/\a.eval x=u/\a.eval v=enc y)
  (aS:∀ w',eQ w' P k enc b (n+1) (oz M gW y)->fU b w w'->wpList P ops Q rest (a.put dst undef) w') :
  wpList P ops Q (⟨dst,.mapUpdate t m x v,gP,pos,after,none⟩ :: rest) a w:=by
 refine aQM rfl fun A7 hK'=>?_;obtain⟨w',I,J,Y⟩:=h.adz wH K aA aB hk y;unfold Oper.wp;simp [execOp,ah.1,ah.2.1,ah.2.2,I,Result.andThen];exact hK' _ _ (aS w' J Y)
theorem aCM:(bO (List.replicate 32 0)).toArray=#[dS,dS,dS,dS,dS,dS,dS,dS,dS,dS,dS,dS,dS,dS,dS,dS,dS,dS,dS,dS,dS,dS,dS,dS,dS,dS,dS,dS,dS,dS,dS,dS]:=rfl
theorem WA (W:aRB) (g:Nat) (s:ByteArray) (hs:s.size<=1000000000) (av:Rd W 1 (some ⟨g,0,none⟩) 1 [.string s]) :
  CB 33 #[.slice (some ⟨g,0,none⟩) 1 1] W (.agg (bO (bN.sum s.data.toList)).toArray):=by
 have hf:flat [s]=s.data.toList:=by show s.data.toList++[]=_;rw [List.append_nil]
 have h:=ahF W (some ⟨g,0,none⟩) 1 1 [s] av mO (by rw [hf,wG];omega);rw [hf] at h;exact h
theorem aCN {wr:aRB} (h:wr.heap[g]?=some (.cells (bO (List.replicate 32 0)).toArray 59 (0,0))) (L:aRH) (gY:L.length=32) :
  (wr.setRow g (laid (bO (List.replicate 32 0)).toArray 0 (bO L))).heap[g]?=some (.cells (bO L).toArray 59 (0,0)):=by
 have I:=aQB wr g _ (laid (bO (List.replicate 32 0)).toArray 0 (bO L)) _ _ h;rw [EC (by rw [xf,gY,List.size_toArray,xf,List.length_replicate])] at I |-;exact I
theorem jW.low {p:Nat} {x y z:aRB} (h:jW p b x y) (k:Below x.heap.size y z):jW p b x z :=
 ⟨k.os.trans h.os,k.tape.trans h.tape,k.output.trans h.output,aQn h.size k.size,fun i h1 I J=>(k.block i h1).trans (h.block i h1 I J)⟩
theorem jW.aiJ (p b:Nat) (w:aRB) (o:Nat) (v:Value):jW p b w (w.setCell ⟨p,o,none⟩ v) :=
 ⟨rfl,rfl,rfl,by rw [World.size_setCell];exact aQm _,fun k _ hk _=>aQE _ _ _ k hk⟩
theorem aCO (w:aRB) (p b n:Nat) (M:fu (List UInt8)) (z:Int) (h:BS w p b n M z) (aB:n<=1000000) (dB:0<=z/\z<=1000000000) (s:ByteArray) (hs:s.size<=1000000000) :
  Calls prog 306 #[pp p 0,.string s] w fun e w'=>e = .returned (KI (bN.sum s.data.toList)) /\
   BS w' p b (if (getM M (bN.sum s.data.toList)).isSome=true then n else n+1) (if (getM M (bN.sum s.data.toList)).isSome=true then M else oz M (bN.sum s.data.toList) s.data.toList) (if (getM M (bN.sum s.data.toList)).isSome=true then z else z+s.size)/\jW p b w w':=by
 have A7:=h.lt;have Ap:=h.ne;obtain⟨X,AV⟩:=ai (bN.sum s.data.toList);have J:X.length=32:=by rw [AV];exact yB _
 have AZ:=fun (W:aRB) (g:Nat) (Bp:Rd W 1 (some ⟨g,0,none⟩) 1 [.string s])=>WA W g s hs Bp;rw [<- AV] at AZ |-;have hw:IntKind.i64.wrap (z+(s.size:Int))=z+s.size:=aQ9 _ (by constructor <;> omega);have Bq:=aa AZ;obtain⟨aF,AL⟩:=ai ((w.alloc (.cells (bO (List.replicate 32 0)).toArray 59)).alloc (.cells #[.string s] 9));have Aq:uH w aF:=by rw [AL];exact (uH.start w).ext gK
 have Au:Rd aF 1 (some ⟨w.heap.size+1,0,none⟩) 1 [.string s]:=by rw [AL];have:=Rd.one (w.alloc (.cells (bO (List.replicate 32 0)).toArray 59)) (.string s) 9;rwa [World.size_alloc] at this
 have Br:=aa Aq;have Bt:=aa Au;rw [aCM] at AL;have Bu:=aa AL;have Aw:=aa h;obtain⟨ok,Aa⟩:=ai ((getM M X).isSome);obtain⟨x,ah⟩:=ai (az ((getM M X).getD []));rw [<- Aa];obtain⟨M2,Ab,z2,Ad,Ay,Ae⟩:=nq3 (if ok=true then M else oz M X s.data.toList) (if ok=true then z else z+s.size) (if ok=true then n else n+1);rw [<- Ab,<- Ad,<- Ae];obtain⟨Az,BA,BF⟩:=hq3 Ab Ad Ae;clear Ab Ad Ae;have Bv:=aa Aa;have Bw:=aa ah;clear AV AZ Aq Au AL h Aa ah;go_enter func306,ntmps306;go_wp2_with (first
  | (go_at_call 33; rw [<- Bu.o];refine (Bq.o _ _ Bt.o).mono ?_;rintro e af ⟨rfl,BG⟩;have BH:=aa (Br.o.ext BG);clear BG)
  | ((with_reducible refine aCK X J ?_ ?_);exact⟨rfl,rfl⟩))
 obtain⟨Y,AO⟩:=ai (af.alloc (.cells (bO X).toArray 59));obtain⟨G,Af⟩:=ai af.heap.size;rw [<- AO,<- Af];have Ag:uH w Y:=by rw [AO];exact BH.o.ext gK
 have Ah:Y.heap[G]?=some (.cells (bO X).toArray 59 (0,0)):=by rw [AO,Af];exact aQz af _
 have Ce:w.heap.size < G:=by have:=BH.o.size;omega
 have AA:=Aw.o.below Ag.below A7.1 A7.2;have C8:Y.cell? (ad p 0)=some (.map (some b)):=AA.box.cells 0;have BI:∀ m,(loadVar 59 ⟨G,0,none⟩).run prog (Y.drewN m) = .ok (.agg (bO X).toArray) (Y.drewN m):=fun m =>
  run_loadVar_row (Y.drewN m) G 59 59 _ (0,0) _ Ah underlying59 rfl (by rw [List.size_toArray];exact zk J)
 have Ai:=fun m=>(AA.below (below_drewN (Below.refl Y.heap.size Y) m) AA.lt.1 AA.lt.2).look J;rw [<- Bw.o,<- Bv.o] at Ai;obtain⟨BJ,C9,Ak,BK⟩:=hq4 Ag Ah AA BI;unfold KI at Ai;clear AO Af Ag Ah AA BI;refine wp_region_quiet_lit kr kr ?_;repeat (first | go_big_quiet_step (fail) | (((refine adB (p:=ad G 0) rfl (by rintro _ ⟨m,rfl⟩;exact BK.o m) ?_);simp only [Act.put,List.setIfInBounds_toArray,List.set_cons_succ,List.set_cons_zero])))
 refine wpQuiet_nil ?_;intro _ CE;obtain⟨nq,CJ⟩:=CE;subst CJ;obtain⟨bS,AB⟩:=ai (Y.drewN nq);rw [<- AB];have BL:uH w bS:=by rw [AB];exact⟨BJ.o.row,below_drewN BJ.o.below nq⟩
 have BM:bS.heap[G]?=some (.cells (bO X).toArray 59 (0,0)):=by rw [AB];exact C9.o
 have Al:BS bS p b n M z:=by rw [AB];exact Ak.o.below (below_drewN (Below.refl Y.heap.size Y) nq) Ak.o.lt.1 Ak.o.lt.2
 have BO:(loadVar 59 ⟨G,0,none⟩).run prog bS.drew = .ok (.agg (bO X).toArray) bS.drew:=by rw [AB];exact BK.o (nq+1)
 have d0:bS.cell? (ad p 0)=some (.map (some b)):=Al.box.cells 0;obtain⟨AJ,BP,BQ,CK⟩:=hq4 BL BM Al BO;clear AB BL BM Al BO Ai C8;cases ok
 ·go_wp2_with fail;refine wp_region_still_tail 6 kr kr ?_;simp only [List.take_succ_cons,List.take_zero,List.drop_succ_cons,List.drop_zero];repeat (first | (((refine aCL (p:=ad G 0) rfl CK.o ?_);simp only [Act.put,List.setIfInBounds_toArray,List.set_cons_succ,List.set_cons_zero])) | still_step)
  try refine wpStill_nil ?_
  change wpList _ _ _ _ _ bS.drew;have BX:eQ bS.drew prog 59 encS b n M:=BQ.o.map;have Bb:keyOf prog 59 (.agg (bO X).toArray)=some (.string X):=by have:=Ua J;rwa [Ra] at this
  have Bc:encS s.data.toList = .string s:=by unfold encS;rw [YG]
  obtain⟨CL,CS,CU⟩:=hq3 BX Bb Bc;clear BX Bb Bc;go_wp2_with (first
   | ((with_reducible refine adC CL.o O1 MM underlying87 ?_ (.agg (bO X).toArray) X CS.o s.data.toList ?_ ?_);exact mO;exact⟨rfl,rfl,CU.o.symm⟩;intro I Bd Am;have AP:I.heap[p]?=some (.cells #[.map (some b),.int .i64 z] 89 (0,0)):=(Am.2.2.2.2 p Ap).trans BQ.o.obj;have Cf:I.cell? (ad p 1)=some (.int .i64 z):=(aQo I p 1 _ _ _ AP).trans rfl;have f1:I.frozen? ⟨p,1,none⟩=false:=aQF I p 1 _ _ AP;obtain⟨Bf,CV,Ao⟩:=hq3 AP Bd Am;clear AP Bd Am)
   | (have CW:(I.setCell ⟨p,1,none⟩ (.int .i64 (z+s.size))).heap[G]?=some (.cells (bO X).toArray 59 (0,0)):=((aQE _ _ _ G (by simp;omega)).trans (Ao.o.2.2.2.2 G om)).trans BP.o;(with_reducible refine QE G 0 _ _ _ CW (bO X) (fun j _=>Yz _ j) _ underlying59 (zk J) ?_ ?_);exact⟨rfl,rfl⟩)
   | (have Bi:(I.setCell ⟨p,1,none⟩ (.int .i64 (z+s.size))).heap[w.heap.size]?=some (.cells (bO (List.replicate 32 0)).toArray 59 (0,0)):=((aQE _ _ _ w.heap.size (by simp;omega)).trans (Ao.o.2.2.2.2 w.heap.size om)).trans AJ.o.row;have Bn:=aa Bi;clear Bi;(with_reducible refine yz w.heap.size 0 (.agg (bO X).toArray) (bO X) (qD _) _ _ Bn.o (zk J) (V3 J) (G8 _) ?_ ?_);exact⟨rfl,rfl⟩))
  have CZ:(I.setCell ⟨p,1,none⟩ (.int .i64 (z+s.size))).heap[p]?=some (.cells #[.map (some b),.int .i64 (z+s.size)] 89 (0,0)):=by rw [setCell_eq_setRow I p 1 _ _ _ _ Bf.o];exact aQB I p _ _ _ _ Bf.o
  have Ca:BS (I.setCell ⟨p,1,none⟩ (.int .i64 (z+s.size))) p b (n+1) (oz M X s.data.toList) (z+s.size):=⟨CZ,CV.o.setCell _ _ (fun e=>Ap e.symm)⟩;have Cb:jW p b w (I.setCell ⟨p,1,none⟩ (.int .i64 (z+s.size))):=(((jW.gT AJ.o.below).trans (jW.gT (Below.refl _ _).drew)).trans (jW.ug Ao.o)).trans (jW.aiJ p b I 1 _);have Bo:Below w.heap.size (I.setCell ⟨p,1,none⟩ (.int .i64 (z+s.size))) ((I.setCell ⟨p,1,none⟩ (.int .i64 (z+s.size))).setRow w.heap.size (laid (bO (List.replicate 32 0)).toArray 0 (bO X))):=Kg (Below.refl _ _) (aQm _) _;refine aQx (v:=.agg (bO X).toArray) (aQO rfl _ _ _ 59 _ (0,0) _ rfl (aCN Bn.o _ J) underlying59 rfl (by rw [List.size_toArray];exact zk J)) rfl ⟨rfl,?_,Cb.low Bo⟩;rw [show M2=oz M X s.data.toList by simpa using Az.o,show z2=z+s.size by simpa using BA.o,show Ay=n+1 by simpa using BF.o];exact Ca.below Bo A7.1 A7.2
 ·go_wp2_with (first
   | ((with_reducible refine QE G 0 _ _ _ BP.o (bO X) (fun j _=>Yz _ j) _ underlying59 (zk J) ?_ ?_);exact⟨rfl,rfl⟩)
   | ((with_reducible refine yz w.heap.size 0 (.agg (bO X).toArray) (bO X) (qD _) _ _ AJ.o.row (zk J) (V3 J) (G8 _) ?_ ?_);exact⟨rfl,rfl⟩))
  refine aQx (v:=.agg (bO X).toArray) (aQO rfl _ _ _ 59 _ (0,0) _ rfl (uH.wrote AJ.o _ J) underlying59 rfl (by rw [List.size_toArray];exact zk J)) rfl ⟨rfl,by rw [show M2=M by simpa using Az.o,show z2=z by simpa using BA.o,show Ay=n by simpa using BF.o];exact Aw.o.below (uH.ahE AJ.o _) A7.1 A7.2,jW.gT (uH.ahE AJ.o _)⟩
end
section
open Go.RowKit Go.Shelf
abbrev aCR:=dz
abbrev aqT:=kJ
def iy (x:aCR):List Value:=[.string (az x.path),.bool x.is,.string (az x.data)]
def l6 (d:aRH):List Value:=(List.range 32).map fun j=>.int .u8 (d.getD j 0).toNat
theorem rf (d:aRH):(l6 d).length=32:=by simp [l6]
theorem H7 {d:aRH} (h:d.length=32):l6 d=bO d:=by refine aRv (by rw [rf,xf,h]) fun j h1 I=>?_;rw [rf] at h1;simp [l6,bO,List.getD_eq_getElem?_getD,h,h1]
def gZ (x:aqT):List Value:=.string (az x.path) :: .bool x.is :: l6 x.sum
theorem Ac (x:aqT):(gZ x).length=34:=by simp [gZ,rf]
def Bg:List UInt8:=List.replicate 32 0
def xx:List Value:=gZ ⟨[],false,Bg⟩
def aM (W:aRB) (g:Nat) (V:aRD) (t:TypeId):Prop:=W.heap[g]?=some (.cells V.toArray t (0,0))
section
variable {W W':aRB} {g:Nat} {V:aRD} {t:TypeId}
theorem aM.lt (h:aM W g V t):g < W.heap.size:=ic h
theorem aM.below (h:aM W g V t) (ae:Below B W W') (ax:g < B):aM W' g V t:=(ae.block g ax).trans h
theorem aM.all (h:aM W g V t) (ae:Bl W W'):aM W' g V t:=h.below ae h.lt
theorem aM.new (W:aRB) (V:aRD) (t:TypeId):aM (W.alloc (.cells V.toArray t)) W.heap.size V t:=aQz W _
theorem lH {aF:aRB} (h:aF=W.alloc (.cells V.toArray t)):aM aF W.heap.size V t:=by rw [h];exact aM.new W _ _
theorem aM.cell (h:aM W g V t) (j:Nat):W.cell? (ad g j)=V[j]?:=by rw [cell_of_row W _ _ _ _ _ h];simp
theorem aM.dK {BL:Nat} (h:aM W g V t) (k:fU BL W W') (bJ:g≠BL):aM W' g V t:=(k.2.2.2.2 g bJ).trans h
theorem oF (h:Below B w W) (k:fU g W W') (ax:B<=g):Below B w W' :=
 h.trans ⟨k.1,k.2.1,k.2.2.1,by rw [k.2.2.2.1];exact aQm _,fun i I=>k.2.2.2.2 i om⟩
theorem adE (W:aRB) (g:Nat) (cs:Array Value):fU g W (W.setRow g cs):=⟨rfl,rfl,rfl,by simp,fun k hk=>aQA W g k cs hk⟩
variable {P:Program} {ops:Array Oper} {rest:List Oper} {a:Act} {Q:aRE} {dst:Option Tmp} {ty gP:TypeId} {x v:Operand} {pos:String} {after:Array Edge}
theorem wpList_load_row (g off:Nat) (V vs:aRD) (t:TypeId) (ax:aM W g V t) (nD:(V.drop off).take vs.length=vs) (d:TypeDesc) (hu:P.underlying ty=some d) (ay:(P.info? ty).map (·.size)=some vs.length)
  (ah:a.eval x = .pointer (some ⟨g,off,none⟩)/\CF d=true)
  (h:wpList P ops Q rest (a.put dst (.agg vs.toArray)) W):wpList P ops Q (⟨dst,.load ty x,gP,pos,after,none⟩ :: rest) a W :=
 QE g off V.toArray t (0,0) ax vs (fun j aD=>by
  have h1:vs[j]?=((V.drop off).take vs.length)[j]?:=by rw [nD]
  rw [h1,List.getElem?_take_of_lt aD,List.getElem?_drop];simp) d hu ay ah h
theorem wpList_store_row (g off:Nat) (val:Value) (vs V uO:aRD) (t:TypeId) (ax:aM W g V t) (nD:val.cells.toList=vs)
  (ay:(P.info? ty).map (·.size)=some vs.length) (tQ:off+vs.length<=V.length) (h1:∀ v∈vs,v.oneCell'=true) (ag:V.take off++vs++V.drop (off+vs.length)=uO)
  (uZ:a.eval x = .pointer (some ⟨g,off,none⟩)/\a.eval v=val)
  (h:∀ aV,aM aV g uO t->fU g W aV->wpList P ops Q rest (a.put dst undef) aV):wpList P ops Q (⟨dst,.store ty x v,gP,pos,after,none⟩ :: rest) a W :=
 yz g off val vs nD V.toArray t ax ay (by simpa using tQ) h1 uZ (h _ (by
  have:=aQB W g _ (laid V.toArray off vs) _ _ ax;rw [aM,<- ag];exact this) (adE W g _))
theorem aCS (g:Nat) (vs V:aRD) (t:TypeId) (ax:aM W g V t) (ay:(P.info? ty).map (·.size)=some vs.length) (hl:vs.length=V.length) (h1:∀ v∈vs,v.oneCell'=true)
  (uZ:a.eval x = .pointer (some ⟨g,0,none⟩)/\a.eval v = .agg vs.toArray)
  (h:∀ aV,aM aV g vs t->fU g W aV->wpList P ops Q rest (a.put dst undef) aV):wpList P ops Q (⟨dst,.store ty x v,gP,pos,after,none⟩ :: rest) a W :=
 wpList_store_row g 0 (.agg vs.toArray) vs V vs t ax (qD _) ay om h1 (by simp [hl]) uZ h
variable {t0:TypeId}
theorem aCT (cells:Array Value) (hf:P.built t0 []=some cells)
  (h:wpList P ops Q rest (a.put dst (.agg cells)) W):wpList P ops Q (⟨dst,.build t0 #[],gP,pos,after,none⟩ :: rest) a W :=
 VR cells (by simp [hf]) h
theorem aqU (v0:Value) (cells:Array Value) (hf:P.built t0 [(i0,v0)]=some cells) (ah:a.eval oW=v0)
  (h:wpList P ops Q rest (a.put dst (.agg cells)) W):wpList P ops Q (⟨dst,.build t0 #[(i0,oW)],gP,pos,after,none⟩ :: rest) a W :=
 VR cells (by simp [ah,hf]) h
theorem Rc {lN:Operand} {i1:Nat} (v0 v1:Value) (cells:Array Value) (hf:P.built t0 [(i0,v0),(i1,v1)]=some cells) (ah:a.eval oW=v0/\a.eval lN=v1)
  (h:wpList P ops Q rest (a.put dst (.agg cells)) W):wpList P ops Q (⟨dst,.build t0 #[(i0,oW),(i1,lN)],gP,pos,after,none⟩ :: rest) a W :=
 VR cells (by simp [ah,hf]) h
theorem Re {lN ui:Operand} {i1 i2:Nat} (v0 v1 v2:Value) (cells:Array Value) (hf:P.built t0 [(i0,v0),(i1,v1),(i2,v2)]=some cells) (ah:a.eval oW=v0/\a.eval lN=v1/\a.eval ui=v2)
  (h:wpList P ops Q rest (a.put dst (.agg cells)) W):wpList P ops Q (⟨dst,.build t0 #[(i0,oW),(i1,lN),(i2,ui)],gP,pos,after,none⟩ :: rest) a W :=
 VR cells (by simp [ah,hf]) h
theorem aCU (V:aRD) (n:Nat) (hl:V.length=n) (ay:(P.info? ty).map (·.size)=some V.length) (h1:∀ v∈V,v.oneCell'=true)
  (uZ:a.eval x = .pointer (some ⟨w1.heap.size,0,none⟩)/\a.eval v = .agg V.toArray/\Z.size=n)
  (h:wpList P ops Q rest (a.put dst undef) (w1.alloc (.cells V.toArray ty))):wpList P ops Q (⟨dst,.store ty x v,gP,pos,after,none⟩ :: rest) a (w1.alloc (.cells Z ty)):=by
 refine yz w1.heap.size 0 (.agg V.toArray) V (by simp [Value.cells]) Z ty (aQz w1 _) ay (by have:=uZ.2.2;omega) h1 ⟨uZ.1,uZ.2.1⟩ ?_;rw [EC (hl.trans uZ.2.2.symm),World.setRow_alloc_new];exact h
theorem O4 (off:Nat) (vs:aRD) (ax:aM W g V t) (nD:(V.drop off).take vs.length=vs) (hu:P.underlying ty=some d) (ay:(P.info? ty).map (·.size)=some vs.length) (h:wpList P ops Q rest (a.put dst (.agg vs.toArray)) W)
  (ah:a.eval x = .pointer (some ⟨g,off,none⟩)/\CF d=true:=by with_unfolding_all exact⟨rfl,rfl⟩):wpList P ops Q (⟨dst,.load ty x,gP,pos,after,none⟩ :: rest) a W:=wpList_load_row g off V vs t ax nD d hu ay ah h
theorem kv (ax:aM W g V t) (hu:P.underlying ty=some d) (ay:(P.info? ty).map (·.size)=some V.length) (h:wpList P ops Q rest (a.put dst (.agg V.toArray)) W)
  (ah:a.eval x = .pointer (some ⟨g,0,none⟩)/\CF d=true:=by with_unfolding_all exact⟨rfl,rfl⟩):wpList P ops Q (⟨dst,.load ty x,gP,pos,after,none⟩ :: rest) a W:=O4 0 V ax sp hu ay h ah
theorem WE {vs uO:aRD} (off:Nat) (val:Value) (ax:aM W g V t) (nD:val.cells.toList=vs) (ay:(P.info? ty).map (·.size)=some vs.length) (hf:off+vs.length<=V.length) (h1:∀ v∈vs,v.oneCell'=true) (ag:V.take off++vs++V.drop (off+vs.length)=uO)
  (h:∀ aV,aM aV g uO t->fU g W aV->wpList P ops Q rest (a.put dst undef) aV) (ah:a.eval x = .pointer (some ⟨g,off,none⟩)/\a.eval v=val:=by with_unfolding_all exact⟨rfl,rfl⟩):wpList P ops Q (⟨dst,.store ty x v,gP,pos,after,none⟩ :: rest) a W:=wpList_store_row g off val vs V uO t ax nD ay hf h1 ag ah h
theorem Jk (vs:aRD) (ax:aM W g V t) (ay:(P.info? ty).map (·.size)=some vs.length) (hl:vs.length=V.length) (h1:∀ v∈vs,v.oneCell'=true)
  (h:∀ aV,aM aV g vs t->fU g W aV->wpList P ops Q rest (a.put dst undef) aV) (ah:a.eval x = .pointer (some ⟨g,0,none⟩)/\a.eval v = .agg vs.toArray:=by with_unfolding_all exact⟨rfl,rfl⟩):wpList P ops Q (⟨dst,.store ty x v,gP,pos,after,none⟩ :: rest) a W:=aCS g vs V t ax ay hl h1 ah h
theorem vC (vs:aRD) (ax:aM W g V t) (ay:(P.info? ty).map (·.size)=some vs.length) (hl:vs.length=V.length) (h1:∀ v∈vs,v.oneCell'=true)
  (h:∀ aV,y8 (aM aV g vs t)->y8 (fU g W aV)->wpList P ops Q rest (a.put dst undef) aV) (ah:a.eval x = .pointer (some ⟨g,0,none⟩)/\a.eval v = .agg vs.toArray:=by with_unfolding_all exact⟨rfl,rfl⟩):wpList P ops Q (⟨dst,.store ty x v,gP,pos,after,none⟩ :: rest) a W:=Jk vs ax ay hl h1 (zR h) ah
theorem BU {uO:aRD} (off:Nat) (v0:Value) (ax:aM W g V t) (ay:(P.info? ty).map (·.size)=some 1) (hf:off+1<=V.length) (h1:v0.oneCell'=true) (ag:V.set off v0=uO)
  (h:∀ aV,aM aV g uO t->fU g W aV->wpList P ops Q rest (a.put dst undef) aV) (ah:a.eval x = .pointer (some ⟨g,off,none⟩)/\a.eval v=v0:=by with_unfolding_all exact⟨rfl,rfl⟩):wpList P ops Q (⟨dst,.store ty x v,gP,pos,after,none⟩ :: rest) a W:=
 wpList_store_row g off v0 [v0] V uO t ax (by cases v0 <;> first | rfl | cases h1) ay hf (by simpa using h1) (by rw [<- ag,List.set_eq_take_append_cons_drop,if_pos om];simp) ah h
theorem zo {n:Nat} (V:aRD) (hl:V.length=n) (ay:(P.info? ty).map (·.size)=some V.length) (h1:∀ v∈V,v.oneCell'=true)
  (h:wpList P ops Q rest (a.put dst undef) (w1.alloc (.cells V.toArray ty))) (ah:a.eval x = .pointer (some ⟨w1.heap.size,0,none⟩)/\a.eval v = .agg V.toArray/\Z.size=n:=by with_unfolding_all exact⟨rfl,rfl,rfl⟩):wpList P ops Q (⟨dst,.store ty x v,gP,pos,after,none⟩ :: rest) a (w1.alloc (.cells Z ty)):=aCU V n hl ay h1 ah h
theorem rP {n:Nat} (V:aRD) (hl:V.length=n) (ay:(P.info? ty).map (·.size)=some V.length) (h1:∀ v∈V,v.oneCell'=true)
  (h:∀ af,y8 (Bl w1 af)->y8 (aM af w1.heap.size V ty)->wpList P ops Q rest (a.put dst undef) af) (ah:a.eval x = .pointer (some ⟨w1.heap.size,0,none⟩)/\a.eval v = .agg V.toArray/\Z.size=n:=by with_unfolding_all exact⟨rfl,rfl,rfl⟩):wpList P ops Q (⟨dst,.store ty x v,gP,pos,after,none⟩ :: rest) a (w1.alloc (.cells Z ty)):=
 zo V hl ay h1 (h _ (aa (gQ rfl)) (aa (lH rfl))) ah
theorem D9 {fn:Func} {R:aRF} {t:Tmp} (av:aM W g V ty) (hu:P.underlying ty=some d) (aT:CF d=true) (ay:(P.info? ty).map (·.size)=some V.length)
  (hf:fn.results=#[.cell t ty]/\a.tmps.getD t undef = .pointer (some ⟨g,0,none⟩)/\a.defers=[]) (aK:R (.returned (.agg V.toArray)) W):bodyPost P fn R .ret a W :=
 aQx (v:=.agg V.toArray) (aQO hf.1 _ _ g ty _ (0,0) _ hf.2.1 av hu (by cases d <;> exact aT) (by rw [List.size_toArray];exact ay)) hf.2.2 aK
end
end
section
open Go.Maps Go.RowKit
theorem aqV:∀ (l:aRD) (k:Nat) (acc:Array Value),k+l.length<=acc.size ->
  ((l.zipIdx k).foldl (fun (cs:Array Value) (p:Value × Nat)=>cs.setIfInBounds p.2 p.1) acc).toList=acc.toList.take k++l++acc.toList.drop (k+l.length)
 | [],k,acc,_=>by simp
 | v :: l,k,acc,h=>by
  have hk:k < acc.size:=by rw [List.length_cons] at h;omega
  have I:k+1+l.length<=(acc.setIfInBounds k v).size:=by rw [Array.size_setIfInBounds];rw [List.length_cons] at h;omega
  rw [List.zipIdx_cons,List.foldl_cons,aqV l (k+1) _ I,Array.toList_setIfInBounds,List.take_add_one,List.take_set_of_le (Nat.le_refl k),List.drop_set_of_lt om,List.getElem?_set_self (by rw [Array.length_toList];exact hk)];simp [Nat.add_assoc,Nat.add_comm 1]
theorem aCV (aO:Nat) (cs:Array Value) (v:Value) (h1:v.cells.size=aO) (ag:cs.size=aO):Instr.fill (fun i=>some (i * aO,aO)) cs [(0,v)]=some v.cells:=by
 have h:=aqV v.cells.toList 0 cs (by rw [Array.length_toList];omega);rw [List.take_zero,List.nil_append,List.drop_of_length_le (by rw [Array.length_toList,Array.length_toList];omega),List.append_nil] at h;have I:v.cells.zipIdx.foldl (fun (cs:Array Value) (p:Value × Nat)=>cs.setIfInBounds p.2 p.1) cs=v.cells:=by rw [<- Array.foldl_toList,Array.toList_zipIdx];exact Array.toList_inj.1 h
 unfold Instr.fill;simp only [Nat.zero_mul,h1,ne_eq,not_true,decide_false,Nat.zero_add,ag,gt_iff_lt,Nat.lt_irrefl,Bool.or_self,Bool.false_eq_true,if_false];unfold Instr.fill;exact congrArg some I
theorem aqW (w:aRB) (t e:TypeId) (v z:Value) (aO:Nat) (hu:P.underlying t=some (.slice e)) (ay:(P.info? e).map (fun i=>(i.zero,i.size))=some (some z,aO)) (dB:z.cells.size=aO) (aZ:v.cells.size=aO) (aX:0 < aO) (hs:aO<=16777216) :
  (Instr.buildSlice t 1 #[(0,v)]).run P w = .ok (.slice (some ⟨w.heap.size,0,none⟩) 1 1) (w.alloc (.cells v.cells e)):=by
 cases I:P.info? e with
 | none=>rw [I] at ay;cases ay
 | some M =>
  rw [I] at ay;simp only [Option.map_some,Option.some.injEq,Prod.mk.injEq] at ay;obtain⟨Y,J⟩:=ay;refine run_buildSlice w t e 1 _ v.cells M z hu I Y (by rw [J];omega) (by rw [J];omega) ?_;rw [J];exact aCV aO _ v aZ sp
end
section
open Go.RowKit Go.Shelf
structure Ea (P:Program) (t e:TypeId) (z:Value) (aO bytes:Nat):Prop where
 ZC:P.underlying t=some (.slice e)
 info:(P.info? e).map (fun i=>(i.zero,i.size,i.bytes))=some (some z,aO,bytes)
 zs:z.cells.size=aO
 small:0 < aO/\aO<=100/\bytes<=1000
structure Row (w W:aRB) (e:TypeId) (aO:Nat) (A:aRC) (n c:Nat) (xs:aRD):Prop where
 own:Own W w.heap.size e aO A n c xs
 low:Bl w W
theorem Row.on {e:TypeId} {aO:Nat} {n:Nat} (h:Row w W e aO A n c xs) (ae:Bl W W'):Row w W' e aO A n c xs :=
 ⟨h.own.below ae (aQm _),h.low.trans (ae.mono h.low.size)⟩
theorem Row.nil (w:aRB) (e:TypeId) (aO:Nat):Row w w e aO none 0 0 []:=⟨Own.nil _ _ _ _,Below.refl _ _⟩
section
variable {P:Program} {t e:TypeId} {z:Value} {aO bytes:Nat}
theorem Ea.aqX (h:Ea P t e z aO bytes):(P.info? e).map (fun i=>(i.zero,i.size))=some (some z,aO):=by
 have:=h.info;cases I:P.info? e with
 | none=>rw [I] at this;cases this
 | some i =>
  rw [I] at this;simp only [Option.map_some,Option.some.injEq,Prod.mk.injEq] at this |-;exact⟨this.1,this.2.1⟩
variable {W:aRB} {ops:Array Oper} {rest:List Oper} {a:Act} {Q:aRE} {dst:Option Tmp} {gP:TypeId} {x s:Operand} {pos:String} {after:Array Edge}
theorem BV (h:Ea P t e z aO bytes) (v:Value) (aZ:v.cells.size=aO) (ah:a.eval x=v)
  (aH:∀ aV,Rd aV aO (some ⟨W.heap.size,0,none⟩) 1 v.cells.toList->Bl W aV->wpList P ops Q rest (a.put dst (.slice (some ⟨W.heap.size,0,none⟩) 1 1)) aV) :
  wpList P ops Q (⟨dst,.buildSlice t 1 #[(0,x)],gP,pos,after,none⟩ :: rest) a W :=
 aQM rfl fun K I=>by
  have J:=aqW (P:=P) W t e v z aO h.ZC h.aqX h.zs aZ h.small.1 (by have:=h.small.2.1;omega);unfold Oper.wp execOp;simp [ah,J];exact I _ _ (aH _ (Rd.acH W v.cells e aO 1 dc om) gK)
theorem aqY {u:TypeId} (h:Ea P t e z aO bytes) (dI:aRB) (A:aRC) (n c:Nat) (xs:aRD) (bX:Row dI W e aO A n c xs) (g:Nat) (news:aRD) (lh:Rd W aO (some ⟨g,0,none⟩) 1 news)
  (h1:∀ v∈news,v.oneCell'=true) (aB:n<=1000000) (hu:P.underlying u=some (.slice e)) (zQ:a.eval s = .slice A n c/\a.eval x = .slice (some ⟨g,0,none⟩) 1 1)
  (aH:∀ A' c' W',Row dI W' e aO A' (n+1) c' (xs++news)->wpList P ops Q rest (a.put dst (.slice A' (n+1) c')) W') :
  wpList P ops Q (⟨dst,.call ⟨.builtin .append,#[s,x],#[t,u]⟩,gP,pos,after,none⟩ :: rest) a W :=
 ve e z aO bytes h.ZC h.info h.zs dI.heap.size A n c xs bX.own 1 news _ (Src.slice hu lh) h1 mO (by have:=h.small;have:(n+1) * bytes<=1000001 * 1000:=Nat.mul_le_mul om om;omega) bX.low.size zQ
  fun A' c' W' I ax _=>aH A' c' W' ⟨I,bX.low.grown ax bX.low.size fun k e=>(bX.own.block k e).1⟩
end
theorem KL:Ea prog 61 135 (.agg xx.toArray) 34 56:=⟨underlying61,kr,rfl,dc⟩
theorem adF:Ea prog 222 268 (.agg (Value.string ⟨#[]⟩ :: l6 Bg).toArray) 33 48:=⟨underlying222,kr,rfl,dc⟩
theorem Rf:Ea prog 213 224 (.agg (l6 Bg++[Value.slice none 0 0,Value.slice none 0 0]).toArray) 34 80:=⟨underlying213,kr,rfl,dc⟩
theorem ZE:Ea prog 156 80 (.agg #[.string ⟨#[]⟩,.bool false,.string ⟨#[]⟩]) 3 40:=⟨underlying156,kr,rfl,dc⟩
theorem KM:Ea prog 22 65 (.agg #[.string ⟨#[]⟩,.string ⟨#[]⟩]) 2 32:=⟨underlying22,kr,rfl,dc⟩
end
section
open Go.RowKit Go.Shelf
def iA (k:dz):kJ:=⟨k.path,k.is,if k.is=true then bN.sum k.data else Bg⟩
theorem aqZ:xx.toArray=#[Value.string ⟨#[]⟩,Value.bool false,dS,dS,dS,dS,dS,dS,dS,dS,dS,dS,dS,dS,dS,dS,dS,dS,dS,dS,dS,dS,dS,dS,dS,dS,dS,dS,dS,dS,dS,dS,dS,dS]:=rfl
theorem aiO:Sz 135 34:=kr
theorem WG (x:kJ):(prog.info? 135).map (·.size)=some (gZ x).length:=by rw [Ac];exact aiO
theorem FZ (x:kJ):∀ v∈gZ x,v.oneCell'=true:=by intro v I;simp only [gZ,List.mem_cons,l6,List.mem_map] at I;rcases I with rfl | rfl | ⟨j,_,rfl⟩ <;> rfl
theorem adG (p:ByteArray) (b:Bool):prog.built 135 [(0,.string p),(1,.bool b)]=some (Value.string p :: Value.bool b :: l6 Bg).toArray:=kr
theorem aiP {k:dz} (h:k.is=true):gZ (iA k)=Value.string (az k.path) :: Value.bool true :: bO (bN.sum k.data):=by unfold iA gZ;rw [h];simp [H7 (yB k.data)]
theorem aiQ {k:dz} (h:k.is=false):gZ (iA k)=Value.string (az k.path) :: Value.bool false :: l6 Bg:=by unfold iA gZ;rw [h];rfl
theorem aCX (w:aRB) (k:dz) (hs:k.data.length<=1000000000) :
  CB 172 #[.agg (iy k).toArray] w (.agg (gZ (iA k)).toArray):=by
 obtain⟨J,AL,M,AP,qf,AV⟩:=nq3 (az k.path) (az k.data) k.is;have Ak:Value.agg (iy k).toArray = .agg #[.string J,.bool qf,.string M]:=by rw [AL,AP,AV];rfl
 obtain⟨Ad,AA⟩:=ai (((w.alloc (.cells #[.string J,.bool qf,.string M] 80)).alloc (.cells xx.toArray 135)).alloc (.cells xx.toArray 135));have Al:Bl w Ad:=by rw [AA];exact (gK.alloc sp _).alloc (by simp;omega) _
 have Am:aM Ad (w.heap.size+1+1) xx 135:=by rw [AA];have:=aM.new ((w.alloc (.cells #[.string J,.bool qf,.string M] 80)).alloc (.cells xx.toArray 135)) xx 135;simpa using this
 have Ao:aM Ad (w.heap.size+1) xx 135:=by rw [AA];have:=aM.new (w.alloc (.cells #[.string J,.bool qf,.string M] 80)) xx 135;refine aM.all ?_ gK;simpa using this
 have Ap:aM Ad w.heap.size [.string J,.bool qf,.string M] 80:=by rw [AA];exact ((aM.new w [.string J,.bool qf,.string M] 80).all gK).all gK
 rw [Ak];rw [aqZ] at AA;obtain⟨BA,BF,BG,BH,Ae⟩:=hq5 AA Al Am Ao Ap;cases qf with
 | false =>
  have AB:=aiQ AV.symm;rw [<- AL] at AB;obtain⟨V,AJ⟩:=ai (gZ (iA k));rw [<- AJ] at AB |-;have Aq:=aa (show prog.built 135 [(0,.string J),(1,.bool false)]=some V.toArray by rw [AB];exact adG J false);have AO:=FZ (iA k);have Y:=WG (iA k);rw [<- AJ] at AO Y;have hlen:V.length=34:=by rw [AJ];exact Ac _
  have Af:xx.take 0++V++xx.drop (0+V.length)=V:=by simp [hlen,xx,Ac]
  have Ag:0+V.length<=xx.length:=by rw [hlen];decide
  clear AA Al Am Ao Ap AL AP AV Ak AJ hs AB;go_enter func172,ntmps172;go_wp2_with (first
   | ((with_reducible refine Rc (.string J) (.bool false) V.toArray Aq.o ?_ ?_);exact⟨rfl,rfl⟩)
   | (rw [<- BA.o];(with_reducible refine wpList_store_row (w.heap.size+1+1) 0 (.agg V.toArray) V xx V _ BG.o (qD _) Y Ag AO Af ?_ ?_);exact⟨rfl,rfl⟩;intro bS AZ A7;have BI:=(Ae.o.dK A7 om).cell 1;have BJ:=(Ae.o.dK A7 om).cell 2;have Au:=aa AZ;have Aa:=aa A7;clear AZ A7)
   | (with_reducible refine kv Au.o underlying135 Y ?_)
   | ((with_reducible refine WE 0 (.agg V.toArray) (BH.o.dK Aa.o om) (qD _) Y Ag AO Af ?_);refine zR ?_;intro Bt BO BP))
  exact D9 BO.o underlying135 rfl Y ⟨rfl,rfl,rfl⟩ ⟨rfl,oF (oF BF.o Aa.o om) BP.o om⟩
 | true =>
  obtain⟨S,Ah⟩:=ai (bN.sum k.data);have Aw:S.length=32:=by rw [Ah];exact yB _
  have AB:=aiP AV.symm;rw [<- AL,<- Ah] at AB;obtain⟨I,Ab⟩:=ai (Value.string J :: Value.bool true :: l6 Bg);have Ai:I.length=34:=by rw [Ab];simp [rf]
  have BQ:Sz 135 I.length:=by rw [Ai];exact aiO
  have BX:∀ v∈I,v.oneCell'=true:=by rw [Ab,AL];exact FZ ⟨k.path,true,Bg⟩
  have Bb:xx.take 0++I++xx.drop (0+I.length)=I:=by simp [Ai,xx,Ac]
  have Bc:0+I.length<=xx.length:=by rw [Ai];decide
  have BK:I.take 2++bO S++I.drop (2+(bO S).length)=gZ (iA k):=by rw [AB,Ab,xf,Aw];simp [rf]
  have Bd:2+(bO S).length<=I.length:=by rw [xf,Aw,Ai];decide
  have Ay:=fun (W:aRB) (g:Nat) (Bf:Rd W 1 (some ⟨g,0,none⟩) 1 [.string M])=>WA W g M (by rw [AP,iM];exact hs) Bf;rw [show M.data.toList=k.data by rw [AP,gU],<- Ah] at Ay;have AO:=FZ (iA k);have Y:=WG (iA k);have hlen:=Ac (iA k);obtain⟨V,AJ⟩:=ai (gZ (iA k));rw [<- AJ] at AO Y BK hlen |-;have Af:xx.take 0++V++xx.drop (0+V.length)=V:=by simp [hlen,xx,Ac]
  have Ag:0+V.length<=xx.length:=by rw [hlen];decide
  have Aq:=aa (show prog.built 135 [(0,.string J),(1,.bool true)]=some I.toArray by rw [Ab];exact adG J true);have Bi:=aa Ay;clear AA Al Am Ao Ap AL AP AV Ak AJ hs AB Ab Ah Ay;go_enter func172,ntmps172;go_wp2_with (first
   | ((with_reducible refine Rc (.string J) (.bool true) I.toArray Aq.o ?_ ?_);exact⟨rfl,rfl⟩)
   | (rw [<- BA.o];(with_reducible refine wpList_store_row (w.heap.size+1+1) 0 (.agg I.toArray) I xx I _ BG.o (qD _) BQ Bc BX Bb ?_ ?_);exact⟨rfl,rfl⟩;intro bS AZ A7;have BI:=(Ae.o.dK A7 om).cell 1;have BJ:=(Ae.o.dK A7 om).cell 2;have Au:=aa AZ;have Aa:=aa A7;clear AZ A7)
   | (go_at_call 33; refine (Bi.o _ _ (Rd.one bS (.string M) 9)).mono ?_;rintro e Bn ⟨rfl,BL⟩;have Az:=aa (show Bl bS Bn from gK.trans (BL.mono sp));clear BL BI BJ)
   | ((with_reducible refine WE 2 (.agg (bO S).toArray) (Au.o.all Az.o) (qD _) (zk Aw) Bd (G8 _) BK ?_);refine zR ?_;intro Bu Bo BM)
   | (with_reducible refine kv Bo.o underlying135 Y ?_)
   | ((with_reducible refine WE 0 (.agg V.toArray) (((BH.o.dK Aa.o om).all Az.o).dK BM.o om) (qD _) Y Ag AO Af ?_);refine zR ?_;intro Bv Bp Bq))
  have Br:=oF BF.o Aa.o om;exact D9 Bp.o underlying135 rfl Y ⟨rfl,rfl,rfl⟩ ⟨rfl,oF (oF (aR Br Az.o) BM.o om) Bq.o om⟩
end
section
open Go.RowKit
theorem Eb (s:ak):(az s).toList=s:=by rw [ByteArray.toList_eq,gU]
theorem aCZ (w:aRB) (s:ak):Calls prog 239 #[.string (az s)] w fun e w'=>e = .returned (.tuple #[.int .i64 (vz s).1,.bool (vz s).2])/\w'=w:=by
 have M:=Eb s;obtain⟨S,J⟩:=ai (az s);rw [<- J] at M |-;clear J;obtain⟨r,I⟩:=ai (vz s);have Y:=aa I;rw [<- I];clear I;go_enter func239,ntmps239;go_wp2;all_goals go_ret2
 all_goals (rw [Y.o];refine⟨?_,rfl⟩)
 all_goals simp only [beq_iff_eq,beq_eq_false_iff_ne,ne_eq] at *
 all_goals first
  | contradiction
  | (simp [vz,OT,OU,OV,MC,ME,QV,MF,QW,QX,QY,QZ,OW, *];done)
  | skip
theorem aC0 (w:aRB) (base g:Nat) (l:aRH) (h:DT w base g l) (s:ByteArray) (hlen:l.length+s.size<=100000000) (sj:base<=w.heap.size) :
  CR 101 #[pp g 0,.string s] w (.tuple #[.int .i64 s.size,.nilIface]) fun w'=>DT w' base g (l++s.data.toList)/\Below base w w':=by
 obtain⟨AJ,p,A,c,ax,aL,J⟩:=h;have Ad:=ic ax;have AL:=J.ne ax dc;obtain⟨n,Y⟩:=ai l.length;rw [<- Y] at ax J hlen;have AO:=aa Y;have AZ:n+s.size<=maxLen:=by unfold maxLen;omega
 clear Y;go_enter func101,ntmps101;go_wp2_with (first
  | (go_at_call 153; refine (ahG w g _ p ax aL).mono ?_;rintro e w1 ⟨rfl,A7,I⟩;have Ae:w1.cell? (ad g 1)=some (.slice A n c):=aQo w1 g 1 _ _ _ A7;have Af:w1.frozen? ⟨g,1,none⟩=false:=aQF w1 g 1 _ _ A7;have AA:=J.grown I (fun b ae e=>AL (ae.trans e));clear J)
  | (at_builtin;have _t:=AA;go_must ((with_reducible refine ve 5 (.int .u8 0) 1 1 underlying48 QK rfl base A n c (bO l) AA s.size (bO s.data.toList) (.string s) (Src.str underlying9) (G8 _) AZ om (by have:=I.size;omega) ?_ ?_);exact⟨rfl,rfl⟩;intro cO bF aC AP AV Ag;clear AA;have M:=(AV.block g (by have:=I.size;omega) (fun e=>AL e.symm)).trans A7;have Ah:aC.cell? (ad g 1)=some (.slice A n c):=aQo aC g 1 _ _ _ M;have Ai:aC.frozen? ⟨g,1,none⟩=false:=aQF aC g 1 _ _ M)))
 go_ret2;have Aa:Below base w w1:=(Below.refl base w).grown I sj (fun k e=>by injection e with e;omega);have Ab:Below base w aC:=Aa.grown AV (by have:=I.size;omega) (fun k e=>(_t.block k e).1);refine⟨rfl,⟨AJ,_,cO,bF,?_,.inr rfl,?_⟩,Ab.setCell (p:=ad g 1) (by exact AJ) _⟩
 ·have:=ahH _ M (.slice cO (n+s.size) bF);rw [List.length_append,wG];rw [AO.o] at this |-;exact this
 ·have AB:=AP.setOther (p:=ad g 1) (AP.ne M dc) (.slice cO (n+s.size) bF);rw [<- ahe] at AB;rw [List.length_append,wG];rw [AO.o] at AB |-;exact AB
theorem aC1 (w:aRB) (WH adK ty elem:TypeId) (g c:Nat) (cur:Array Value) (t:TypeId) (s:aRH)
  (hu:P.underlying WH=some (.slice elem)) (hs:(P.info? elem).map (·.size)=some 1) (ax:w.heap[g]?=some (.cells cur t (0,0))) (aB:cur.size=s.length) :
  (Builtin.copy_ #[WH,adK] ty #[.slice (some ⟨g,0,none⟩) s.length c,.string ⟨s.toArray⟩]).run P w = .ok (goInt s.length) (w.setRow g (bO s).toArray):=by
 have hl:(bO s).length=s.length:=xf s;have I:=run_storeCells_at P g 0 t (bO s) 0 cur w ax om (G8 s);simp only [Nat.add_zero,Nat.zero_add,List.take_zero,List.nil_append] at I;rw [List.drop_of_length_le (by rw [Array.length_toList];omega),List.append_nil] at I;cases J:P.info? elem with
 | none=>simp [J] at hs
 | some i =>
  have M:i.size=1:=by simpa [J] using hs
  have Y:(⟨s.toArray⟩:ByteArray).size=s.length:=by show s.toArray.size=_;simp
  simp [Builtin.copy_,run_underlying hu,Builtin.lenOf,Builtin.firstCells,sizeOf,typeInfo,J,M,Y];rw [show (List.map (fun x=>Value.int .u8 (x.toNat:Int)) s)=bO s from rfl,List.take_of_length_le om,I];rfl
theorem aC2 {s:aRH} {gP WH adK:TypeId} {d:Operand} {pos:String}
  (elem:TypeId) (g c n:Nat) (EP:s.length=n) (cur:Array Value) (t:TypeId)
  (hu:P.underlying WH=some (.slice elem)) (hs:(P.info? elem).map (·.size)=some 1) (ax:w.heap[g]?=some (.cells cur t (0,0))) (aB:cur.size=n)
  (aq0:a.eval d = .slice (some ⟨g,0,none⟩) n c/\a.eval x = .string (az s))
  (h:wpList P ops Q rest (a.put dst (goInt n)) (w.setRow g (bO s).toArray)):wpList P ops Q (⟨dst,.call ⟨.builtin .copy,#[d,x],#[WH,adK]⟩,gP,pos,after,none⟩ :: rest) a w:=by
 subst EP;refine aQM rfl fun K I=>?_;have J:=aC1 (P:=P) w WH adK gP elem g c cur t s hu hs ax aB;unfold Oper.wp;simp [execOp,resolve,invoke,builtin,aq0.1,aq0.2,az,J,Result.andThen];exact I _ _ h
theorem aC3 {n:Nat} (h:w.ownsRow base t 1 (.slice (some ⟨g,0,none⟩) n n) n xs):∃ cur,w.heap[g]?=some (.cells cur t (0,0))/\cur.size=n:=by
 obtain⟨hl,⟨h1,_⟩ | ⟨I,cap,cur,e,ae,ax,J,hm,hc,ah⟩⟩:=h
 ·cases h1
 ·cases e;exact⟨cur,ax,om⟩
theorem aC4 {n:Nat} {s:aRH} (ax:w.heap[g]?=some (.cells (bO s).toArray 5 (0,0))) (aB:n=s.length) (aX:s≠[]) (uG:n<=9223372036854775807) :
  (Builtin.unsafeString_ #[256,3] 9 #[pp g 0,.int .i64 n]).run prog w = .ok (.string ⟨s.toArray⟩) (w.freeze ⟨g,0,none⟩ n):=by
 subst aB;refine apq w 256 3 9 5 underlying256 kr g 0 s.length (by simp [World.shape?,ax,xf]) s aX om uG ?_;intro j x ah;have aD:j < s.length:=(aQs.1 ah).1;rw [DI];refine (aQo w g (0+j) _ _ _ ax).trans ?_;rw [Nat.zero_add,List.getElem?_toArray,Tt s aD,List.getD_eq_getElem?_getD,ah];rfl
theorem aC5 (w:aRB) (s:aRH) (hl:s.length<=1000000000) :
  CB 263 #[.string (az s)] w (.string (az s)):=by
 by_cases I:s=[]
 ·subst I;rw [show az []=⟨#[]⟩ from rfl];go_enter func263,ntmps263;go_wp2;go_ret;exact⟨rfl,Below.refl _ _⟩
 ·obtain⟨i0,Ab,Ad,Ae,Af⟩:=info_parts QK;have aL:0 < s.length:=aRt.2 I;have Ag:(az s).size=s.length:=iM s;obtain⟨n,A7⟩:=ai s.length;have J:((az s).size:Int)=(n:Int):=om;have Al:(0:Int) < n:=om;have Am:(n:Int)<=1000000000:=om;obtain⟨S,M⟩:=ai (az s);rw [<- M] at J |-;obtain⟨AA,AB,Ah⟩:=hq3 A7 M I;clear M A7 Ag aL I hl;go_enter func263,ntmps263;go_wp2_with (first
   | (refine wpList_make_full _ rfl (.tmp 8) (.tmp 8) 48 rfl w.heap.size 5 i0 (.int .u8 0) 1 underlying48 Ab Ad Ae .i64 .i64 _ _ n rfl rfl ?_ ?_ ?_ ?_ (aQm _) ?_;(simp [J]);(simp [J]);(rw [Af];omega);exact mO;intro w1 AJ AL;have Ai:=aC3 AJ;obtain⟨cur,Y,AO⟩:=Ai;have AP:Bl w w1:=(Below.refl _ _).grown AL (aQm _) (fun k e=>by cases e);clear AJ AL)
   | ((with_reducible refine aC2 (s:=s) 5 w.heap.size n n AA.o.symm cur 5 underlying48 kr Y AO ?_ ?_);(exact⟨rfl,by rw [<- AB.o];rfl⟩);have AV:=aQB w1 w.heap.size cur (bO s).toArray 5 (0,0) Y;have AZ:=Kg AP (aQm _) (bO s).toArray;have Ak:=aC4 AV AA.o Ah.o om;obtain⟨af,Aa⟩:=ai (w1.setRow w.heap.size (bO s).toArray);rw [<- Aa] at AV AZ Ak |-;clear Aa Y AP AO))
  all_goals go_ret
  all_goals exact⟨by rw [AB.o];rfl,Lib.below_freeze AZ (p:=ad w.heap.size 0) (aQm _) _⟩
end
section
open Go.Lib
theorem aq1:∀ (s:ak) {a:ak} {r:List ak},nR s=a :: r->∃ pre post,s=pre++a++post/\(∀ c∈pre,qo c=true)/\(post=[]\/∃ b t,post=b :: t/\qo b=true)/\a≠[]/\∀ c∈a,qo c=false
 | [],_,_,h=>by cases h
 | c :: s,a,r,h=>by
  cases hc:qo c with
  | true =>
   rw [aop hc] at h;obtain⟨pre,post,h1,AA,AO,AP⟩:=aq1 s h;refine⟨c :: pre,post,by rw [h1];rfl,fun d I=>?_,AO,AP⟩;rcases aQw.1 I with rfl | I
   ·exact hc
   ·exact AA d I
  | false =>
   have hs:c :: s=((c :: s).takeWhile fun d=>!qo d)++(c :: s).dropWhile fun d=>!qo d:=(List.takeWhile_append_dropWhile).symm;obtain⟨AJ,AB,post,J⟩:=nq2 ((c :: s).takeWhile fun d=>!qo d) ((c :: s).dropWhile fun d=>!qo d);rw [<- AB,<- J] at hs;have M:AJ≠[]:=by rw [AB,List.takeWhile_cons,hc];simp
   have Y:∀ d∈AJ,qo d=false:=fun d I=>by
    rw [AB] at I;have:=aQV.1 (List.all_takeWhile (p:=fun d=>!qo d) (l:=c :: s)) d I;simpa using this
   cases aL:post with
   | nil =>
    rw [hs,aL,List.append_nil,aoq M Y] at h;injection h with h1 AA
    subst h1;exact⟨[],[],by rw [hs,aL];simp,by simp,.inl rfl,M,Y⟩
   | cons b t =>
    have ae:qo b=true:=by
     have AL:post≠[]:=by rw [aL];simp
     have:=List.head_dropWhile_not (fun d=>!qo d) (by rw [<- J];exact AL);have A7:((c :: s).dropWhile fun d=>!qo d).head?=some b:=by rw [<- J,aL];rfl
     rw [List.head?_eq_some_head (by rw [<- J];exact AL)] at A7;injection A7 with A7
     rw [A7] at this;simpa using this
    rw [hs,aL,aor M Y ae] at h;injection h with h1 AA
    subst h1;exact⟨[],b :: t,by rw [hs,aL];simp,by simp,.inr ⟨b,t,rfl,ae⟩,M,Y⟩
theorem aiV {p:UInt8->Bool}:∀ {a b:ak},(∀ c∈a,p c=true)->(a++b).dropWhile p=b.dropWhile p
 | [],_,_=>rfl
 | c :: a,b,h=>by
  rw [List.cons_append,List.dropWhile_cons,h c sp,if_pos rfl];exact aiV fun d I=>h d (by simp [I])
theorem aC6 {pre a post:ak} (h1:∀ c∈pre,qo c=true) (ag:post=[]\/∃ b t,post=b :: t/\qo b=true) (au:a≠[]) (aN:∀ c∈a,qo c=false):Q0 (pre++a++post)=post.drop 1:=by
 unfold Q0;rw [List.append_assoc,aiV h1];have I:(a++post).dropWhile qo=a++post:=by
  cases a with
  | nil=>exact absurd rfl au
  | cons c a=>rw [List.cons_append,List.dropWhile_cons,aN c sp];rfl
 rw [I,aiV (p:=fun c=>!qo c) (fun c hc=>by simp [aN c hc])];rcases ag with rfl | ⟨b,t,rfl,ae⟩
 ·rfl
 ·rw [List.dropWhile_cons,ae];rfl
theorem aC7 {pre post:ak} (h1:∀ c∈pre,qo c=true):Lib.index (pre++uK++post) uK=pre.length:=by
 refine Lib.index_first sp ?_ (fun j aD=>?_)
 ·unfold Lib.occAt;rw [List.append_assoc,List.drop_left];simp [List.isPrefixOf_iff_prefix]
 ·unfold Lib.occAt;have I:(pre++uK++post).drop j=pre[j] :: (pre++uK++post).drop (j+1):=by
   have hl:j < (pre++uK++post).length:=by simp;omega
   rw [List.drop_eq_getElem_cons hl];congr 1;rw [List.getElem_append_left (by simp;omega),List.getElem_append_left aD]
  rw [I];have ae:=h1 pre[j] (List.getElem_mem aD);have J:((116:UInt8) == pre[j])=false:=by rw [beq_eq_false_iff_ne];intro e;rw [<- e] at ae;revert ae;decide
  simp [uK,List.isPrefixOf,J]
end
section
open Go.RowKit Go.Shelf
theorem aC8 (w:aRB) (s:ak) (hl:s.length<=1000000000):CB 238 #[.string (az s)] w (.string (az s)):=by have h:=aC5 w s hl;obtain⟨S,I⟩:=ai (az s);rw [<- I] at h |-;have H:=aa h;clear h I;go_enter func238,ntmps238;go_wp2_with (go_at_call 263; refine jw H.o ?_;intro w1 J);go_ret;exact⟨rfl,J.o⟩
theorem aC9 (w:aRB) (s t:ak) (hl:s.length<=1000000000) (aj:qK w):Calls prog 163 #[.string (az s),.string (az t)] w fun e w'=>e = .returned (.int .i64 (Lib.index s t))/\w'=w:=by obtain⟨m,hm⟩:=aj;have h:=Any.strings_Index { Tryz.tlIndex with } (az s) (az t) m w (by rw [iM];omega) hm;rw [gU,gU] at h;exact h
theorem aq2 (w:aRB) (s t:ak) (hl:s.length<=1000000000) (aj:qK w):Calls prog 228 #[.string (az s),.string (az t)] w fun e w'=>e = .returned (.bool (mJ s t))/\w'=w:=by obtain⟨m,hm⟩:=aj;have h:=Any.strings_Contains { Tryz.tlContains with } (az s) (az t) m w (by rw [iM];omega) hm;rw [gU,gU] at h;exact h
def aiW (w:aRB) (base g:Nat) (c:sD):Prop:=∃ A fe,w.heap[g]?=some (.cells #[.slice A c.ws.length fe,.string (az c.rest)] 300 (0,0))/\base<=g/\Own w base 9 1 A c.ws.length fe (cu c.ws)
def WI (w:aRB) (e:Ending) (w':aRB):Option (Option sD)->Prop
 | none=>e = .returned (.tuple #[.pointer none,.bool false])
 | some none=>e = .returned (.tuple #[.pointer none,.bool true])
 | some (some c)=>∃ g,e = .returned (.tuple #[pp g 0,.bool true])/\aiW w' w.heap.size g c
def aiX (w:aRB) (s:ak) (e:Ending) (w':aRB):Prop:=Bl w w'/\WI w e w' (x9 eF s)
theorem aDa (s:ByteArray) (i:Nat) (x:Int) (ah:x=i) (h:i < s.size) (w:aRB):(Instr.index 9 (.string s) (.int .i64 x)).run prog w = .ok (.int .u8 (s.data.toList.getD i 0).toNat) w:=by
 subst ah;rw [run_index_string w 9 s .i64 i underlying9,dif_pos ⟨om,om⟩];have e:s[(i:Int).toNat]'om=s.data.toList.getD i 0:=by rw [List.getD_eq_getElem?_getD,List.getElem?_eq_getElem (by rw [Array.length_toList];exact h)];simp [ByteArray.getElem_eq_getElem_data]
 rw [e]
theorem aDb (a:ak):(vz a).2=true->2<=(vz a).1:=by
 unfold vz;repeat' split
 all_goals simp
theorem aDc {o N:Nat} {L:aRD} {T:ByteArray} {ps:ak} (ae:Bl w w1) (aG:Own w1 w.heap.size 9 1 (some ⟨b,o,none⟩) N c L) (eZ:0 < N) (gY:L[0]?=some (.string ⟨#[116,101,120,116]⟩)) (bY:T=az ps) :
  aiW (w1.alloc (.cells #[.slice (some ⟨b,o,none⟩) 1 c,.string T] 300)) w.heap.size w1.heap.size ⟨[uK],ps⟩:=by
 subst bY;refine⟨some ⟨b,o,none⟩,c,aQz w1 _,ae.size,?_⟩;have h1:=aG.take (k:=1) om;have I:L.take (1 * 1)=cu [uK]:=by
  cases L with
  | nil=>cases gY
  | cons x L =>
   injection gY with gY
   subst gY;rfl
 rw [I] at h1;exact h1.alloc _
theorem aq3 {N:Nat} {L:aRD} {h:ak} {r:List ak} (ae:Bl w w1) (aG:Own w1 w.heap.size 9 1 A N c L) (eZ:N=r.length+1) (gY:L=cu (h :: r)) :
  aiW (w1.alloc (.cells #[.slice A N c,.string ⟨#[]⟩] 300)) w.heap.size w1.heap.size ⟨h :: r,[]⟩:=by
 subst eZ gY;exact⟨A,c,aQz w1 _,ae.size,aG.alloc _⟩
theorem aDd (w:aRB) (s:ak) (hs:s.length<=1000000) (aj:qK w):Calls prog 204 #[.string (az s)] w (aiX w s):=by
 have M:=aqx w s om;have j3:=fun W (ae:Bl w W)=>aC9 W s uK om (aj.on ae);have AP:=aos s;obtain⟨S,AV⟩:=ai (az s);rw [<- AV] at M j3 |-;obtain⟨post,AA⟩:=ai (x9 eF s);unfold aiX;rw [<- AA];have CE:=aa j3;cases hw:nR s with
 | nil =>
  have BO:x9 eF s=some none:=by rw [Zv,hw];rfl
  rw [BO] at AA;subst AA;rw [hw] at M;have AZ:=aa M;clear M j3 aj hs AP AV hw BO;go_enter func204,ntmps204;go_wp2_with (go_at_call 237; refine AZ.o.mono ?_;rintro e w1 ⟨A,c,rfl,I,ae⟩;have Y:=aa ae;clear I ae);go_ret2;exact⟨Y.o,rfl⟩
 | cons a r =>
  obtain⟨pre,pos,AJ,Al,BA,Ad,Am⟩:=aq1 s hw;have BJ:a.length<=1000000:=(aQn (YL (s:=s) (x:=a) (by rw [hw];simp)).2.2 hs);obtain⟨a0,J,rfl⟩:∃ a0 J,a=a0 :: J:=by cases a with
   | nil=>exact absurd rfl Ad
   | cons x y=>exact⟨x,y,rfl⟩
  rw [hw] at M AP;obtain⟨n,Aa⟩:=ai r.length;rw [List.length_cons,<- Aa] at M AP;have BK:(0:Int) < (n:Int)+1:=om;obtain⟨N,Ae⟩:=ai (n+1);rw [<- Ae] at M AP;have Cw:(N:Int)≠0:=om;have Cz:((N:Int) == 0)=false:=by rw [beq_eq_false_iff_ne];omega
  have DD:(0:Int) < N:=om;have DF:(N:Int)<=1000001:=om;have BF:∀ (l:ak) (Bd:aRB),(Instr.index 9 (.string (az (a0 :: l))) (.int .i64 0)).run prog Bd = .ok (.int .u8 a0.toNat) Bd:=fun l Bd=>by
   have:=aDa (az (a0 :: l)) 0 0 rfl (by rw [iM];simp) Bd;rw [gU] at this;exact this
  have CJ:=BF J;have Ao:=Eb (a0 :: J);obtain⟨Ap,AL⟩:=ai (az (a0 :: J));have Aq:(cu ((a0 :: J) :: r))[0]?=some (.string Ap):=by rw [AL];rfl
  obtain⟨L,Ab⟩:=ai (cu ((a0 :: J) :: r));rw [<- Ab] at Aq;rw [<- Ab] at M;rw [<- AL] at CJ Ao;have BG:=aa Aq;have Au:y8 (0 < N):=aa om;by_cases Af:a0=35
  ·have BO:x9 eF s=some none:=by rw [Zv,hw,Af];rfl
   rw [BO] at AA;subst AA;subst Af;have AZ:=aa M;clear M j3 aj hs AP AV hw BO Ab Aq AL Ao AJ Al BA Ad Am BJ Aa BK Ae BF;go_enter func204,ntmps204;go_wp2_with (go_at_call 237; refine AZ.o.mono ?_;rintro e w1 ⟨A,c,rfl,I,ae⟩;have Y:=aa ae;have Aw:=aa I;obtain⟨b,o,rfl,hc⟩:=I.rd.2 Au.o;have BP:w1.cell? (ad b o)=some (.string Ap):=hc 0 _ BG.o;clear I ae hc);go_ret2;exact⟨Y.o,rfl⟩
  ·have BH:Q8 ((a0 :: J) :: r)=false:=by simp [Q8,Af]
   have CK:(a0.toNat:Int)≠35:=fun e=>Af (aRw.1 (by have:(35:UInt8).toNat=35:=rfl;omega));have Ci:((a0.toNat:Int) == 35)=false:=by rw [beq_eq_false_iff_ne];exact CK
   obtain⟨DL,BL⟩:=ai a0.toNat;rw [<- BL] at CJ CK Ci;by_cases AB:a0 :: J=uK
   ·have CL:post=some (some ⟨[uK],Q0 s⟩):=by rw [AA,Zv,hw,BH,cond_false,show okW eF ((a0 :: J) :: r)=true by rw [AB];simp [okW],cond_true,Zu,hw];simp only;rw [if_pos AB,AB]
    rw [AB] at AJ AL Am Ad;have CS:Q0 s=pos.drop 1:=by rw [AJ];exact aC6 Al BA Ad Am
    have CU:Lib.index s uK=(pre.length:Int):=by rw [AJ];exact aC7 Al
    have hlen:s.length=pre.length+4+pos.length:=by rw [AJ];simp;omega
    obtain⟨p,aL⟩:=ai pre.length;have Bt:S.extract (p+4) S.size=az pos:=YF (by
     rw [Od,AV,gU,gU,iM,hlen,aL,AJ,show pre++uK++pos=(pre++uK)++pos from rfl,List.drop_left' sp];exact aRi om)
    have CV:S.size=p+4+pos.length:=by rw [AV,iM,hlen,aL]
    have CW:post=some (some ⟨[uK],pos.drop 1⟩):=by rw [CL,CS]
    rw [CU,<- aL] at j3;have Bu:=fun (W:aRB)=>aC8 W (pos.drop 1) (by rw [List.length_drop];omega);have Bf:(az pos).size=pos.length:=iM pos;have BQ:(az pos).extract (min 1 pos.length) (az pos).size=az (pos.drop 1):=YF (by
     rw [Od,gU,gU,Bf];rcases pos with _ | ⟨x,y⟩
     ·rfl
     ·simp)
    obtain⟨R,CZ,T,Bv,q,Ca⟩:=nq3 (az pos) (az (pos.drop 1)) pos.length;rw [<- CZ] at Bt BQ Bf;rw [<- Bv] at BQ Bu;rw [<- Ca] at CV BQ Bf;have Ck:Ap=⟨#[116,101,120,116]⟩:=AL;subst Ck;obtain⟨CE,Cm,AZ,Cn,Ag⟩:=hq5 j3 Bu M Bv CW;have DN:IntKind.i64.wrap ((p:Int)+4)=(p:Int)+4:=aQ9 _ (by constructor <;> omega);have Co:=aa BQ;clear M j3 aj hs AP AV hw Ab Aq AL Ao AJ Al BA Ad Am BJ Aa BK Ae BF BH AB Af BL AA CL CW CS CU hlen aL CZ Bv Ca Bu BQ;have Bw:S.extract (p+4) (p+4+q)=R:=by rw [<- CV];exact Bt
    have DR:R.extract (min (1:Int) (q:Int)).toNat q=T:=by have h:=Co.o;rw [Bf] at h;rw [<- h];congr 1;omega
    clear Bt;go_enter func204,ntmps204;go_wp2_with (first
     | (go_at_call 237; refine AZ.o.mono ?_;rintro e w1 ⟨A,c,rfl,I,ae⟩;have Y:=aa ae;have Aw:=aa I;obtain⟨b,o,rfl,hc⟩:=I.rd.2 Au.o;have BP:w1.cell? (ad b o)=some (.string ⟨#[116,101,120,116]⟩):=hc 0 _ BG.o;have DW:(1:Int)<=c:=(by have:=I.2.1;have:=Au.o;omega);have DX:¬ (c:Int) < 1:=om;clear I ae hc)
     | (go_at_call 163; refine (CE.o _ Y.o).mono ?_;rintro e af ⟨rfl,rfl⟩))
    go_region_with (go_at_call 238; refine (Cm.o _).mono ?_;rintro e aC ⟨rfl,Ah⟩);all_goals go_wp2
    all_goals go_ret2
    have C8:=Y.o.drew.trans (Ah.mono Y.o.size);refine⟨C8.alloc C8.size _,?_⟩;rw [Ag.o];exact⟨_,rfl,aDc C8 (Aw.o.drew.below Ah (aQm _)) Au.o BG.o Cn.o⟩
   ·have DY:(Ap.toList == [116,101,120,116])=false:=by rw [Ao,beq_eq_false_iff_ne];exact AB
    have Ay:=fun (W:aRB)=>aCZ W (a0 :: J);rw [<- AL] at Ay;have A7:okW eF ((a0 :: J) :: r)=(decide ((vz (a0 :: J)).1=N) && decide ((vz (a0 :: J)).1≠0) && (!(vz (a0 :: J)).2 || eF (r.headD []))):=by rw [Ae,Aa,okW,decide_eq_false AB,Bool.false_or]
    have Ai:post=if okW eF ((a0 :: J) :: r)=true then some (some ⟨(a0 :: J) :: r,[]⟩) else none:=by rw [AA,Zv,hw,BH,cond_false,Zu,hw];simp only;rw [if_neg AB];cases okW eF ((a0 :: J) :: r) <;> rfl
    have Az:(vz (a0 :: J)).2=true->2<=(vz (a0 :: J)).1:=aDb (a0 :: J);obtain⟨BI,BX⟩:=ai ((vz (a0 :: J)).1);obtain⟨aR,Bb⟩:=ai ((vz (a0 :: J)).2);rw [<- BX] at Ay A7 Az;rw [<- Bb] at Ay A7 Az;obtain⟨Bi,AZ,DZ,Cb⟩:=hq4 Ay M Ai Ab;have Ce:=aa (Ae.trans (by rw [Aa]:n+1=r.length+1));by_cases h1:BI=N/\BI≠0
    ·obtain⟨Cs,Bn⟩:=h1;subst Cs;rw [decide_eq_true rfl,decide_eq_true Bn,Bool.true_and,Bool.true_and] at A7;cases aR with
     | false =>
      have AO:post=some (some ⟨(a0 :: J) :: r,[]⟩):=by rw [Ai,A7];rfl
      have Ag:=aa AO;clear M j3 aj hs AP AV hw Ab Aq AL Ao AJ Al BA Ad Am BJ Aa BK Ae BF A7 Ai Az BX Bb Ay BH AB Af BL AA AO Bn;go_enter func204,ntmps204;go_wp2_with (first
       | (go_at_call 237; refine AZ.o.mono ?_;rintro e w1 ⟨A,c,rfl,I,ae⟩;have Y:=aa ae;have Aw:=aa I;obtain⟨b,o,rfl,hc⟩:=I.rd.2 Au.o;have BP:w1.cell? (ad b o)=some (.string Ap):=hc 0 _ BG.o;clear I ae hc)
       | (go_at_call 239; refine (Bi.o _).mono ?_;rintro e af ⟨rfl,rfl⟩))
      go_ret2;refine⟨Y.o.alloc Y.o.size _,?_⟩;rw [Ag.o];exact⟨_,rfl,aq3 Y.o Aw.o Ce.o Cb.o⟩
     | true =>
      obtain⟨Ak,Bo,rfl⟩:∃ Ak Bo,r=Ak :: Bo:=by
       cases r with
       | nil=>simp at Aa;have:=Az rfl;omega
       | cons x y=>exact⟨x,y,rfl⟩
      have Bw:Ak.length<=1000000:=aQn (YL (s:=s) (x:=Ak) (by rw [hw];simp)).2.2 hs;have BM:=fun (W:aRB)=>adg W (az Ak) (by rw [iM];omega);rw [gU] at BM;obtain⟨C9,Bp⟩:=ai (az Ak);have Bq:(cu ((a0 :: J) :: Ak :: Bo))[1]?=some (.string C9):=by rw [Bp];rfl
      rw [<- Bp] at BM;rw [<- Ab] at Bq;have Cf:=aa Bq;have Da:(1:Int) < BI:=by have:=Az rfl;omega
      simp only [List.headD_cons,Bool.not_true,Bool.false_or] at A7;obtain⟨m,hm⟩:=ai (eF Ak);rw [<- hm] at BM A7;have Cg:=aa BM;cases m with
      | true =>
       have AO:post=some (some ⟨(a0 :: J) :: Ak :: Bo,[]⟩):=by rw [Ai,A7];rfl
       have Ag:=aa AO;clear M j3 aj hs AP AV hw Ab Aq AL Ao AJ Al BA Ad Am BJ Aa BK Ae BF A7 Ai Az BX Bb Ay BH AB Af BL AA AO Bn Bq Bp BM hm Bw;go_enter func204,ntmps204;go_wp2_with (first
        | (go_at_call 237; refine AZ.o.mono ?_;rintro e w1 ⟨A,c,rfl,I,ae⟩;have Y:=aa ae;have Aw:=aa I;obtain⟨b,o,rfl,hc⟩:=I.rd.2 Au.o;have BP:w1.cell? (ad b o)=some (.string Ap):=hc 0 _ BG.o;have Ct:w1.cell? (ad b (o+1))=some (.string C9):=hc 1 _ Cf.o;clear I ae hc)
        | (go_at_call 239; refine (Bi.o _).mono ?_;rintro e af ⟨rfl,rfl⟩)
        | (go_at_call 43; refine (Cg.o _).mono ?_;rintro e aC ⟨rfl,Ah⟩;have Bc:=aa (aR Y.o Ah);have Cv:=aa (Aw.o.below Ah (aQm _));clear Ah))
       go_ret2;refine⟨Bc.o.alloc Bc.o.size _,?_⟩;rw [Ag.o];exact⟨_,rfl,aq3 Bc.o Cv.o Ce.o Cb.o⟩
      | false =>
       have AO:post=none:=by rw [Ai,A7];rfl
       have Ag:=aa AO;clear M j3 aj hs AP AV hw Ab Aq AL Ao AJ Al BA Ad Am BJ Aa BK Ae BF A7 Ai Az BX Bb Ay BH AB Af BL AA AO Bn Bq Bp BM hm Bw;go_enter func204,ntmps204;go_wp2_with (first
        | (go_at_call 237; refine AZ.o.mono ?_;rintro e w1 ⟨A,c,rfl,I,ae⟩;have Y:=aa ae;have Aw:=aa I;obtain⟨b,o,rfl,hc⟩:=I.rd.2 Au.o;have BP:w1.cell? (ad b o)=some (.string Ap):=hc 0 _ BG.o;have Ct:w1.cell? (ad b (o+1))=some (.string C9):=hc 1 _ Cf.o;clear I ae hc)
        | (go_at_call 239; refine (Bi.o _).mono ?_;rintro e af ⟨rfl,rfl⟩)
        | (go_at_call 43; refine (Cg.o _).mono ?_;rintro e aC ⟨rfl,Ah⟩;have Bc:=aa (aR Y.o Ah);clear Ah))
       go_ret2;refine⟨Bc.o,?_⟩;rw [Ag.o];unfold WI;rfl
    ·have AO:post=none:=by
      rw [Ai,A7];rw [not_and] at h1;by_cases Br:BI=N
      ·have:BI=0:=by have:=h1 Br;omega
       simp [this]
      ·simp [Br]
     have Ag:=aa AO;clear j3 aj hs AP AV hw Ab Aq AL Ao AJ Al BA Ad Am BJ Aa BK Ae BF A7 Ai Az BX Bb Ay BH AB Af BL AA AO M;by_cases Br:BI=N
     ·subst Br;exact absurd ⟨rfl,om⟩ h1
     ·have Db:(BI:Int)≠N:=om;clear h1;go_enter func204,ntmps204;go_wp2_with (first
       | (go_at_call 237; refine AZ.o.mono ?_;rintro e w1 ⟨A,c,rfl,I,ae⟩;have Y:=aa ae;have Aw:=aa I;obtain⟨b,o,rfl,hc⟩:=I.rd.2 Au.o;have BP:w1.cell? (ad b o)=some (.string Ap):=hc 0 _ BG.o;clear I ae hc)
       | (go_at_call 239; refine (Bi.o _).mono ?_;rintro e af ⟨rfl,rfl⟩))
      go_ret2;refine⟨Y.o,?_⟩;rw [Ag.o];unfold WI;rfl
end
section
open Go.RowKit
theorem aq8 {may:ak->Bool}:∀ {l:List ak} {i k:Nat} {s:ak},(∀ (j:Nat) (x:ak),j < i->l[j]?=some x->x9 may x≠none)->l[i]?=some s->x9 may s=none->D6 may l k=(3,k+i+1)
 | [],_,_,_,_,h,_=>by cases h
 | x :: l,0,k,s,_,h,I=>by
  cases h;rw [D6,I]
 | x :: l,i+1,k,s,ae,h,I=>by
  have J:=ae 0 x om rfl;have M:=aq8 (k:=k+1) (i:=i) (s:=s) (fun j y aD hy=>ae (j+1) y om (by simpa using hy)) (by simpa using h) I;cases ah:x9 may x with
  | none=>exact absurd ah J
  | some o =>
   rw [D6,ah];simp only;rw [M];congr 1;omega
theorem aq9 {may:ak->Bool}:∀ {l:List ak} {k:Nat},(∀ (j:Nat) (x:ak),l[j]?=some x->x9 may x≠none)->D6 may l k=(0,0)
 | [],_,_=>rfl
 | x :: l,k,ae=>by
  have I:=ae 0 x rfl;have J:=aq9 (k:=k+1) fun j y hy=>ae (j+1) y (by simpa using hy);cases ah:x9 may x with
  | none=>exact absurd ah I
  | some o =>
   rw [D6,ah];exact J
theorem aDi {may:ak->Bool} {l:List ak} {s:ak} (h:l[i]?=some s):qx may (l.take (i+1))=qx may (l.take i)++(match x9 may s with | some (some c)=>[c] | _=>[]):=by rw [List.take_add_one,h,Option.toList_some,aqw];congr 1
structure wO where
 A:Option Addr
 fe:Nat
 c:sD
def MQ (X:List wO):List Value:=X.flatMap fun x=>[.slice x.A x.c.ws.length x.fe,.string (az x.c.rest)]
theorem aDj (X:List wO) (x:wO):MQ X++[.slice x.A x.c.ws.length x.fe,.string (az x.c.rest)]=MQ (X++[x]):=by simp [MQ]
structure MR (w:aRB) (base:Nat) (A:aRC) (c:Nat) (X:List wO):Prop where
 row:Own w base 300 2 A X.length c (MQ X)
 words:∀ x∈X,Own w base 9 1 x.A x.c.ws.length x.fe (cu x.c.ws)
theorem MR.below {X:List wO} (h:MR w base A c X) (ae:Bl w w'):MR w' base A c X:=⟨h.row.below ae (aQm _),fun x ah=>(h.words x ah).below ae (aQm _)⟩
theorem MR.mono {base':Nat} {X:List wO} (h:MR w base A c X) (ae:base'<=base):MR w base' A c X:=⟨h.row.mono ae,fun x ah=>(h.words x ah).mono ae⟩
theorem Own.apart {eP iT s1 s2 n d:Nat} {u:TypeId} {B:aRC} {ys:aRD} (h:Own w eP t s1 A n c xs) (k:Own w iT u s2 B m d ys) (bJ:t≠u):∀ b,bV A=some b->some b≠bV B:=by
 intro b ae e;obtain⟨_,_,cur,bf,h1⟩:=h.block b ae;obtain⟨_,_,J,M,I⟩:=k.block b e.symm;rw [h1] at I;injection I with I
 injection I with _ I
 exact bJ I
theorem aDk:(prog.info? 300).map (fun i=>(i.zero,i.size,i.bytes))=some (some (.agg #[.slice none 0 0,.string ⟨#[]⟩]),2,40):=kr
theorem adO {fn:Func} {t u v:Tmp} (h:fn.results=#[.tmp t,.tmp u,.tmp v]) (tmps:Array Value) (P:Program) (w:aRB) :
  (results fn tmps).run P w = .ok (.tuple #[tmps.getD t undef,tmps.getD u undef,tmps.getD v undef]) w:=by
 simp [results,h]
def Ui (w:aRB) (s:ak) (e:Ending) (w':aRB):Prop:=∃ (A:aRC) (c:Nat) (X:List wO),e = .returned (.tuple #[.slice A X.length c,.int .i64 (pR eF s).1,.int .i64 (pR eF s).2])/\MR w' w.heap.size A c X/\X.map (·.c)=(adl eF s).1/\Bl w w'
theorem Ui.no {s:ak} {a:Nat} (h:pR eF s=(a,b)) (bn:a≠0) (ae:Bl w w'):Ui w s (.returned (.tuple #[.slice none 0 0,.int .i64 a,.int .i64 b])) w':=by refine⟨none,0,[],by rw [h];rfl,⟨Own.nil _ _ _ _,fun x ah=>by cases ah⟩,?_,ae⟩;rw [aiv,h,if_neg bn];rfl
theorem aDl {x y:Value} (h1:x.oneCell'=true) (ag:y.oneCell'=true):∀ v∈[x,y],v.oneCell'=true:=fun v I=>by
 simp at I;rcases I with rfl | rfl
 ·exact h1
 ·exact ag
theorem aDm {aC:aRB} {bF dY O8:Nat} {cO O9:aRC} {X:List wO} {Ed:sD} {kL:ByteArray} (h:Own aC base 300 2 cO (m+1) bF (V++[.slice O9 dY O8,.string kL])) (hm:m=X.length) (eD:V=MQ X) (aB:dY=Ed.ws.length) (aK:kL=az Ed.rest)
  (aY:∀ x∈X,Own aC base 9 1 x.A x.c.ws.length x.fe (cu x.c.ws)) (hc:Own aC base 9 1 O9 Ed.ws.length O8 (cu Ed.ws)):MR aC base cO bF (X++[⟨O9,O8,Ed⟩]):=by
 subst hm eD aB aK;refine⟨?_,fun x ah=>?_⟩
 ·rw [List.length_append,<- aDj];exact h
 ·rcases aQI.1 ah with ah | ah
  ·exact aY x ah
  ·rw [List.mem_singleton] at ah;subst ah;exact hc
theorem aDn {af aC:aRB} {o:Obj} {c1:Nat} {jQ:aRC} (ax:(af.alloc o).grownBy aC (bV jQ)) (h1:Own af base 300 2 jQ m c1 V):∀ (Mk:Nat) (A:aRC) (n c:Nat) (xs:aRD),Own af Mk 9 1 A n c xs->Own aC Mk 9 1 A n c xs :=
 fun _ _ _ _ _ h=>(h.alloc o).grown ax (Own.apart (h.alloc o) (h1.alloc o) dc)
theorem aiZ (w:aRB) (s:ak) (hs:s.length<=1000000) (aj:qK w):Calls prog 156 #[.string (az s)] w (Ui w s):=by
 have AL:=adp w s om aj;have hlen:=QH s;have hle:∀ x∈jP s,x.length<=1000000:=fun x ah=>aQn (Tw ah) hs;obtain⟨ls,J⟩:=ai (jP s);obtain⟨n,A7,S,Af⟩:=nq2 ls.length (az s);have Al:S.size=s.length:=by rw [Af,iM]
 rw [<- J,<- A7] at AL hlen;rw [<- J] at hle;rw [<- Af] at AL |-;obtain⟨Am,Bv,Bw,Ao,C8⟩:=hq5 AL aj J A7 hle;have Cg:(n:Int)<=1000001:=om;by_cases AO:65536 < s.length\/400 < n
 ·have AP:pR eF s=(6,0):=by rw [pR,if_pos (by rw [<- J,<- A7];exact AO)]
  have AV:=aa AP;clear AL aj hlen hle J A7 Af hs AP;by_cases BI:65536 < s.length
  ·have BJ:(65536:Int) < S.size:=om;clear Al AO BI;go_enter func156,ntmps156;go_wp2_with (go_at_call 203; refine Am.o.mono ?_;rintro e w1 ⟨A,c,rfl,AA,ae⟩;have AB:=aa ae;clear AA ae)
   ((try simp only [Exit.inBlock,Exit.then]);refine aQx (adO rfl _ _ _) rfl ?_)
   exact Ui.no AV.o dc AB.o
  ·have BJ:¬ (65536:Int) < S.size:=om;have C9:(400:Int) < n:=om;clear Al AO BI;go_enter func156,ntmps156;go_wp2_with (go_at_call 203; refine Am.o.mono ?_;rintro e w1 ⟨A,c,rfl,AA,ae⟩;have AB:=aa ae;clear AA ae)
   ((try simp only [Exit.inBlock,Exit.then]);refine aQx (adO rfl _ _ _) rfl ?_)
   exact Ui.no AV.o dc AB.o
 ·have AP:pR eF s=D6 eF ls 0:=by rw [pR,if_neg (by rw [<- J,<- A7];exact AO),<- J]
  have AV:=aa AP;have BJ:¬ (65536:Int) < S.size:=om;have C9:¬ (400:Int) < n:=om;have Ci:n<=400:=om;clear AL aj hlen hle J A7 Af hs AP Al AO;go_enter func156,ntmps156;go_wp2_with (go_at_call 203; refine Am.o.mono ?_;rintro e w1 ⟨A,c,rfl,AA,ae⟩;have AB:=aa ae;have CE:=aa AA;clear AA ae);go_loopg [6,23] n (fun gk CJ CK wr=>∃ (i:Nat) (AJ:aRC) (c1 m:Nat) (X:List wO),i+gk=n/\CK = .int .i64 i/\m=X.length/\CJ = .slice AJ m c1/\MR wr w1.heap.size AJ c1 X/\X.map (·.c)=qx eF (ls.take i)/\(∀ (j:Nat) (x:ak),j < i->ls[j]?=some x->x9 eF x≠none)/\Bl w1 wr);case atStart=>exact⟨0,none,0,0,[],om,rfl,rfl,rfl,⟨Own.nil _ _ _ _,fun x ah=>by cases ah⟩,rfl,fun j x aD=>absurd aD (aRm _),Below.refl _ _⟩
  case round =>
   obtain⟨i,AJ,c1,m,X,Ck,rfl,hm,rfl,Ap,Ag,Aq,AZ⟩:=hrel;have Cm:m<=i:=by have h1:=congrArg List.length Ag;rw [List.length_map,<- hm] at h1;have CL:=Zw eF (ls.take i);rw [List.length_take] at CL;omega
   have Ah:=aR AB.o AZ;obtain⟨BK,Au,Aw,Ay,Az,Aa⟩:=hq6 Ah AZ Ap Ag Aq hm;by_cases fC:i < n
   ·have CS:(i:Int) < n:=om;have Cn:(0:Int)<=i:=om;obtain⟨x,ah⟩:∃ x,ls[i]?=some x:=⟨_,aQp (by rw [<- Ao.o];exact fC)⟩;obtain⟨b,o,rfl,hc⟩:=(CE.o.rd.gp AZ).2 om;have hcell:wr.cell? (ad b (o+i))=some (.string (az x)):=hc i _ (by rw [cu,List.getElem?_map,ah];rfl);have Ab:=aDd wr x (C8.o x (aQr ah)) (Bv.o.on Ah);unfold aiX at Ab;have BA:=aDi (may:=eF) ah;obtain⟨rd,BF⟩:=ai (x9 eF x);rw [<- BF] at Ab BA;obtain⟨Co,BL⟩:=ai (az x);rw [<- BL] at hcell Ab;obtain⟨BG,BM,BO,BP⟩:=hq4 Ab BA BF ah;have BQ:rd≠none->∀ (j:Nat) (y:ak),j < i+1->ls[j]?=some y->x9 eF y≠none:=fun CU j y aD hy=>by
     rcases aQD j i with h | h
     ·exact Az.o j y h hy
     ·obtain rfl:j=i:=om;rw [BP.o] at hy;cases hy;rw [<- BO.o];exact CU
    have BX:=aa BQ;clear Ap Ag Aq AZ Ah hc Ab BA ah BF BL BQ hm;cases rd with
    | none =>
     have BH:=(AV.o).trans (aq8 (k:=0) Az.o BP.o BO.o.symm);rw [Nat.zero_add] at BH;have CV:=aa BH;clear BH;go_wp2_with (go_at_call 204; refine BG.o.mono ?_;rintro e af ⟨I,M⟩;unfold WI at M;subst M;have Y:=aa (aR BK.o I);clear I)
     ((try simp only [Exit.inBlock,Exit.then]);refine aQx (adO rfl _ _ _) rfl ?_)
     have Bb:=Ui.no CV.o dc Y.o;rw [show ((i+1:Nat):Int)=(i:Int)+1 by omega] at Bb;exact Bb
    | some CW =>
     cases CW with
     | none =>
      go_wp2_with (go_at_call 204; refine BG.o.mono ?_;rintro e af ⟨I,M⟩;unfold WI at M;subst M;have Y:=aa (aR Au.o I);have Ai:=aa (Aw.o.below I);clear I);go_roundg (gk - 1);case rel=>exact⟨i+1,AJ,c1,m,X,om,by go_num,Aa.o,rfl,Ai.o,by rw [BM.o,Ay.o];simp,BX.o sp,Y.o⟩
      case measure=>omega
     | some Ed =>
      obtain⟨dY,Bc,kL,Bd,V,Bf⟩:=nq3 Ed.ws.length (az Ed.rest) (MQ X);have Cs:m<=400:=om;obtain⟨Bi,Bn,Bo⟩:=hq3 Bc Bd Bf;clear Bc Bd Bf;go_wp2_with (first
       | (go_at_call 204; refine BG.o.mono ?_;rintro e af ⟨I,M⟩;unfold WI at M;obtain⟨g,rfl,Ad,Ae,ax,CZ,Bp⟩:=M;rw [<- Bi.o,<- Bn.o] at ax;have Ct:af.cell? (ad g 0)=some (.slice Ad dY Ae):=aQo af g 0 _ _ _ ax;have Cv:af.cell? (ad g 1)=some (.string kL):=aQo af g 1 _ _ _ ax;have Y:=aa (aR Au.o I);have Ai:=aa (Aw.o.below I);have Ca:=aa (Bp.mono Au.o.size);have Ak:=Ai.o.row;rw [<- Aa.o,<- Bo.o] at Ak;clear I ax CZ Bp)
       | (at_builtin;have _t:=Ak;go_must ((with_reducible refine ve 300 (.agg #[.slice none 0 0,.string ⟨#[]⟩]) 2 40 underlying257 aDk rfl w1.heap.size AJ m c1 V (Ak.alloc _) 1 [.slice Ad dY Ae,.string kL] (.slice (some ⟨af.heap.size,0,none⟩) 1 1) (Src.slice underlying257 (Rd.acH af #[.slice Ad dY Ae,.string kL] 300 2 1 dc rfl)) (aDl (x:=.slice Ad dY Ae) (y:=.string kL) rfl rfl) ?_ ?_ ?_ ?_ ?_);exact mO;omega;(exact aQn Y.o.size sp);exact⟨rfl,rfl⟩;intro cO bF aC Cb Bq Cw;have Ce:Bl w1 aC:=(Y.o.alloc Y.o.size _).grown Bq (aQn Y.o.size sp) (fun z e=>(_t.block z e).1);have Br:=aDn Bq _t;clear Ak)))
      go_roundg (gk - 1);case rel=>exact⟨i+1,cO,bF,m+1,X++[⟨Ad,Ae,Ed⟩],om,by go_num,by rw [List.length_append,<- Aa.o];rfl,rfl,aDm Cb Aa.o Bo.o Bi.o Bn.o (fun x ah=>Br _ _ _ _ _ (Ai.o.words x ah)) (Br _ _ _ _ _ Ca.o),by rw [BM.o,List.map_append,Ay.o];rfl,BX.o sp,Ce⟩
      case measure=>omega
   ·obtain rfl:i=n:=om;have CS:¬ (i:Int) < i:=om;have Bt:D6 eF ls 0=(0,0):=aq9 fun j x ah=>Az.o j x (by rw [Ao.o];exact (aQs.1 ah).1) ah;have hcs:X.map (·.c)=qx eF ls:=by rw [Ay.o,Ao.o,List.take_length]
    have Bu:=aa (AV.o.trans Bt);have Cf:=aa hcs;clear Ap Ag Aq AZ Ah Bt hcs hm;go_wp2_with fail
    ((try simp only [Exit.inBlock,Exit.then]);refine aQx (adO rfl _ _ _) rfl ?_)
    refine⟨AJ,c1,X,by rw [Bu.o,<- Aa.o];rfl,Aw.o.mono AB.o.size,?_,BK.o⟩;rw [aiv,Bu.o,if_pos rfl,<- Bw.o];exact Cf.o
theorem aDr (w:aRB) (s:ak) (hs:s.length<=1000000) (aj:qK w):CB 106 #[.string (az s)] w (.tuple #[.int .i64 (pR eF s).1,.int .i64 (pR eF s).2]):=by have h:=aiZ w s hs aj;unfold Ui at h;obtain⟨S,I,r,J⟩:=nq2 (az s) (pR eF s);rw [<- I] at h |-;rw [<- J] at h |-;have H:=aa h;clear h I J aj;go_enter func106,ntmps106;go_wp2_with (go_at_call 156; refine H.o.mono ?_;rintro e w1 ⟨A,c,X,rfl,_,_,ae⟩;have M:=aa ae;clear ae);go_ret2;exact⟨rfl,M.o⟩
end
section
open Go.RowKit Go.Shelf
def Ia (M:fu Bool) (H:List fA):Prop:=∀ p,(getM M p).getD false=decide (p∈H)
theorem Ia.nil:Ia [] []:=fun p=>by simp [getM]
theorem Ia.put {M:fu Bool} {H:List fA} (h:Ia M H) (p:fA):Ia (oz M p true) (H++[p]):=fun q=>by
 by_cases e:q=p
 ·subst e;rw [Mq];simp
 ·rw [Mr M true e,h q];simp [e]
theorem ZL (a b:Bool) (h:Value.bool a = .bool b):a=b:=by injection h
theorem arf (w:aRB):(zeroValue 4).run prog w = .ok (Value.bool false) w:=by rw [zeroValue4]
theorem ai1 {dI:aRB} (h:Bl dI w) (k:fU g w w') (ax:dI.heap.size<=g):Bl dI w' :=
 h.trans ⟨k.1,k.2.1,k.2.2.1,by rw [k.2.2.2.1];exact aQm _,fun i I=>k.2.2.2.2 i om⟩
def MU (w:aRB) (g n:Nat) (M:fu Bool):Prop:=eQ w prog 9 Value.bool g n M
theorem aDs {H:List fA} {x:fA} (h:H.Nodup) (ah:x ∉ H):(H++[x]).Nodup:=by rw [List.nodup_append];refine⟨h,by simp,fun a I b ae=>?_⟩;rw [List.mem_singleton] at ae;subst ae;exact fun e=>ah (e ▸ I)
theorem ZM (ty:TypeId) (b off:Nat) (vs:aRD) (hc:∀ j v,vs[j]?=some v->w.cell? (ad b (off+j))=some v)
  (d:TypeDesc) (hu:P.underlying ty=some d) (aT:CF d=true) (ay:(P.info? ty).map (·.size)=some vs.length) :
  (loadVar ty ⟨b,off,none⟩).run P w = .ok (.agg vs.toArray) w:=by
 unfold CF at aT;have hl:(loadCells ⟨b,off,none⟩ vs.length).run P w = .ok vs.toArray w :=
  run_loadCells_list (P:=P) w ⟨b,off,none⟩ vs (fun j v J=>by rw [DI];exact hc j v J)
 cases I:P.info? ty with
 | none=>simp [I] at ay
 | some i =>
  have hs:i.size=vs.length:=by simpa [I] using ay
  have M:(isAgg ty).run P w = .ok true w:=by unfold isAgg;rw [Sem.run_bind,run_underlying hu w];cases d <;> simp_all
  simp [loadVar,Sem.run_bind,M,sizeOf,typeInfo,I,hs,hl]
section
variable {P:Program} {w:aRB}
theorem KQ {o:Oper} {K:Act->World->Prop} (ty:TypeId) (x:Operand) (aG:o.op = .load ty x) {p:Addr}
  (hl:(loadVar ty p).run P w = .ok v w) (ah:a.eval x = .pointer (some p)) (h:K (a.put o.dst v) w):o.wp P a w K Q:=by
 unfold Oper.wp execOp;simp [aG,ah,Instr.loadAt,Instr.sureAddr,hl];exact h
theorem pY {gP:TypeId} {pos:String} {p:Addr}
  (hl:(loadVar ty p).run P w = .ok v w) (ah:a.eval x = .pointer (some p)) (h:wpList P ops Q rest (a.put dst v) w):wpList P ops Q (⟨dst,.load ty x,gP,pos,after,none⟩ :: rest) a w :=
 aQM rfl fun _ I=>KQ ty x rfl hl ah (I _ _ h)
end
abbrev iP:=vv × kI
def yg (X:List iP):List Value:=X.flatMap fun x=>(nz x.1 x.2).toList
theorem MV (L:vv) (a:kI):(nz L a).toList.length=7:=rfl
theorem arh:∀ X:List iP,(yg X).length=X.length * 7
 | []=>rfl
 | x :: X=>by
  have:=arh X;simp only [yg,List.flatMap_cons,List.length_append,List.length_cons,MV] at this |-;omega
theorem ari:∀ {X:List iP} {k:Nat} {x:iP},X[k]?=some x->∀ j v,(nz x.1 x.2).toList[j]?=some v->(yg X)[k * 7+j]?=some v
 | y :: X,0,x,h,j,v,aD=>by
  simp only [List.getElem?_cons_zero,Option.some.injEq] at h;subst h;have hl:j < 7:=by have:=(aQs.1 aD).1;rwa [MV] at this
  rw [yg,List.flatMap_cons,Nat.zero_mul,Nat.zero_add,List.getElem?_append_left (by rw [MV];exact hl)];exact aD
 | y :: X,k+1,x,h,j,v,aD=>by
  have I:=ari (X:=X) (k:=k) (x:=x) (by simpa using h) j v aD;rw [yg,List.flatMap_cons,List.getElem?_append_right (by rw [MV];omega),MV,show (k+1) * 7+j - 7=k * 7+j by omega];exact I
structure Rn (w:aRB) (A:aRC) (X:List iP):Prop where
 row:Rd w 7 A X.length (yg X)
 each:∀ x∈X,KC w x.1 x.2
theorem Rn.below {X:List iP} (h:Rn w A X) (ae:Bl w w'):Rn w' A X:=⟨h.row.gp ae,fun x ah=>(h.each x ah).below ae⟩
theorem Rn.load {X:List iP} (h:Rn w A X) {x:iP} (ah:X[k]?=some x) :
  ∃ b o,A=some ⟨b,o,none⟩/\(loadVar 45 ⟨b,o+k * 7,none⟩).run prog w = .ok (.agg (nz x.1 x.2)) w:=by
 have hk:=(aQs.1 ah).1;obtain⟨b,o,rfl,hc⟩:=h.row.2 om;refine⟨b,o,rfl,?_⟩;have:=ZM (P:=prog) (w:=w) 45 b (o+k * 7) (nz x.1 x.2).toList (fun j v aD=>by
  rw [Nat.add_assoc];exact hc _ v (ari ah j v aD)) _ underlying45 rfl (by rw [MV];exact ac7)
 simpa using this
def aDt:Array Value:=#[.string ⟨#[]⟩,.string ⟨#[]⟩,.string ⟨#[]⟩,.slice none 0 0,.slice none 0 0,.slice none 0 0,.slice none 0 0]
theorem ai2 (L:vv) (a:kI):∀ v∈(nz L a).toList,v.oneCell'=true:=by intro v I;simp only [nz,List.mem_cons,List.not_mem_nil,or_false] at I;rcases I with rfl | rfl | rfl | rfl | rfl | rfl | rfl <;> rfl
theorem aDu {gP:TypeId} {v:Operand} {pos:String} (V:Array Value) (L:vv) (c:kI) (eD:V=nz L c)
  (uZ:a.eval x = .pointer (some ⟨w1.heap.size,0,none⟩)/\a.eval v = .agg V)
  (h:wpList prog ops Q rest (a.put dst undef) (w1.alloc (.cells V 45))) :
  wpList prog ops Q (⟨dst,.store 45 x v,gP,pos,after,none⟩ :: rest) a (w1.alloc (.cells #[.string ⟨#[]⟩,.string ⟨#[]⟩,.string ⟨#[]⟩,.slice none 0 0,.slice none 0 0,.slice none 0 0,.slice none 0 0] 45)):=by
 subst eD;refine yz w1.heap.size 0 (.agg (nz L c)) (nz L c).toList rfl aDt 45 (aQt w1 _) (by rw [MV];exact ac7) (by rw [MV];decide) (ai2 L c) uZ ?_;rw [EC (by rw [MV];rfl),World.setRow_alloc_new];exact h
def BZ (X:List iP):List fA:=X.flatMap fun x=>x.2.outs
theorem ai3 (X:List iP) (x:iP):BZ (X++[x])=BZ X++x.2.outs:=by simp [BZ]
end
section
open Go.RowKit Go.Shelf
section
variable {α:Type}
def Ib (p:α->Bool) (row:List α):Int:=match row.findIdx? p with
 | some q=>(q:Int)
 | none=>-1
theorem arj {row:List α} {x:α} (p:α->Bool) (h:row[q]?=some x):(row.take (q+1)).any p=((row.take q).any p || p x):=by obtain⟨I,ah⟩:=aQs.1 h;rw [List.take_succ_eq_append_getElem I,ah,List.any_append];simp
theorem ark {row:List α} {x:α} {p:α->Bool} (h:row[q]?=some x) (h1:(row.take q).any p=false) (ag:p x=true):Ib p row=q:=by
 obtain⟨I,ah⟩:=aQs.1 h;have:row.findIdx? p=some q:=by
  rw [List.findIdx?_eq_some_iff_getElem];refine⟨I,by rw [ah];exact ag,fun j aD=>?_⟩;have J:=aQ2.1 h1 row[j] (by
   rw [List.mem_iff_getElem];exact⟨j,by simp;omega,by simp⟩)
  simpa using J
 rw [Ib,this]
theorem ZN {row:List α} {p:α->Bool} (h1:row.any p=false):Ib p row = -1:=by
 have:row.findIdx? p=none:=by rw [List.findIdx?_eq_none_iff];intro x ah;have:=aQ2.1 h1 x ah;simpa using this
 rw [Ib,this]
theorem arl {row:List α} {p:α->Bool} (h1:row.any p=true):∃ (q:Nat) (x:α),Ib p row=q/\row[q]?=some x/\row.find? p=some x/\p x=true:=by
 cases hf:row.findIdx? p with
 | none =>
  rw [List.findIdx?_eq_none_iff] at hf;obtain⟨x,ah,aL⟩:=aRq.1 h1;rw [hf x ah] at aL;cases aL
 | some q =>
  have h:=aRy.1 hf;obtain⟨I,aL,ae⟩:=h;refine⟨q,row[q],by rw [Ib,hf],aQp I,?_,aL⟩;rw [List.find?_eq_some_iff_getElem];exact⟨aL,q,I,rfl,fun j aD=>by have:=ae j aD;simpa using this⟩
theorem aDv (p:α->Bool) (row:List α) (hl:row.length<=1000):-1<=Ib p row/\Ib p row<=1000:=by
 cases I:row.any p with
 | true =>
  obtain⟨q,x,h,J,_⟩:=arl I;have:=(aQs.1 J).1;omega
 | false=>rw [ZN I];omega
def cz (f:α->List Value) (l:List α):List Value:=l.flatMap f
theorem adQ {f:α->List Value} (hf:∀ x,(f x).length=k):∀ l:List α,(cz f l).length=l.length * k
 | []=>by simp [cz]
 | x :: l=>by
  have:=adQ hf l;simp only [cz,List.flatMap_cons,List.length_append,List.length_cons,hf x,Nat.succ_mul] at this |-;omega
theorem KR {f:α->List Value} (hf:∀ x,(f x).length=k):∀ {l:List α} {i:Nat} {x:α},l[i]?=some x->∀ j v,(f x)[j]?=some v->(cz f l)[i * k+j]?=some v
 | y :: l,0,x,h,j,v,aD=>by
  simp only [List.getElem?_cons_zero,Option.some.injEq] at h;subst h;have hl:j < k:=by have:=(aQs.1 aD).1;rwa [hf] at this
  rw [cz,List.flatMap_cons,Nat.zero_mul,Nat.zero_add,List.getElem?_append_left (by rw [hf];exact hl)];exact aD
 | y :: l,i+1,x,h,j,v,aD=>by
  have I:=KR hf (l:=l) (i:=i) (x:=x) (by simpa using h) j v aD;rw [cz,List.flatMap_cons,List.getElem?_append_right (by rw [hf,Nat.succ_mul];omega),hf,show (i+1) * k+j - k=i * k+j by rw [Nat.succ_mul];omega];exact I
theorem vE {f:α->List Value} (hf:∀ x,(f x).length=k) (hu:P.underlying ty=some d) (aT:CF d=true) (ay:(P.info? ty).map (·.size)=some k) {n:Nat} {l:List α} (h:Rd w k A n (cz f l)) {x:α} (ah:l[i]?=some x) (aB:l.length=n) :
  ∃ b o,A=some ⟨b,o,none⟩/\(loadVar ty ⟨b,o+i * k,none⟩).run P w = .ok (.agg (f x).toArray) w:=by
 have hk:=(aQs.1 ah).1;obtain⟨b,o,rfl,hc⟩:=h.2 om;refine⟨b,o,rfl,?_⟩;exact ZM (P:=P) (w:=w) ty b (o+i * k) (f x) (fun j v aD=>by
  rw [Nat.add_assoc];exact hc _ v (KR hf ah j v aD)) d hu aT (by rw [hf];exact ay)
end
def fO (x:fA × fA):List Value:=[.string (az x.1),.string (az x.2)]
def vF (x:iP):List Value:=(nz x.1 x.2).toList
def adR (g k:Nat) (Uk:α->List Value):Prop:=∀ (w:aRB) (B:aRC) (c:Nat) (row:List α),Rd w k B row.length (cz Uk row)->row.length<=1000->∀ (f:Nat) (iC:Array Value),Enters prog f->∀ p:α->Bool,(∀ W,Bl w W->∀ x∈row,Calls prog f (#[.agg (Uk x).toArray]++iC) W fun e w'=>e = .returned (.bool (p x))/\Bl W w')->Calls prog g #[.slice B row.length c,.func (.func f) #[] iC] w fun e w'=>e = .returned (.int .i64 (Ib p row))/\Bl w w'
theorem adS {P:Prop} (h:P:=by (
 intro w B c row av hl f iC vw p hc;obtain⟨L,gY,E,bz⟩:=nq2 row.length (Ib p row);rw [<- gY] at av hl |-;rw [<- bz];have nI:=fun (q) (x) (h:row[q]?=some x) (h1:(row.take q).any p=false) (ag:p x=true)=>ark h h1 ag;have oC:=fun (h:row.any p=false)=>ZN h;have vo:=fun (q) (x) (h:row[q]?=some x)=>arj p h;rw [<- bz] at nI oC;have zV:∀ (args:Array Value) (w:aRB),(callFunc f args).run prog w = .ok (.enter f args) w:=vw;obtain⟨dF,rF,dM,Za,sw,Ml⟩:=hq6 av gY hc nI oC vo;clear av gY hc bz vw nI oC vo;go_enter yF,ZO;clear yF ZO;go_wp2_with fail;go_loopg [5,8] L (fun gk Bb Ox wr=>∃ q:Nat,q+gk=L/\Ox = .int .i64 q/\(row.take q).any p=false/\Bl w wr);case atStart=>exact⟨0,om,rfl,rfl,Below.refl _ _⟩
 case round =>
  obtain⟨q,aH,rfl,FP,bT⟩:=hrel;have EK:=aa FP;have dX:=aa bT;clear FP bT;by_cases KE:q < L
  ·have Zb:(q:Int) < L:=om;have xm:(0:Int)<=q:=om;obtain⟨x,ah⟩:∃ x,row[q]?=some x:=⟨_,aQp (by rw [<- rF.o];exact KE)⟩;obtain⟨b,o,rfl,gD⟩:=vE Jo hu rfl kr (dF.o.gp dX.o) ah rF.o.symm;have lF:=dM.o wr dX.o x (aQr ah);have dm:=aa ah;obtain⟨v,aZ⟩:=ai (p x);obtain⟨X,aY⟩:=ai (Uk x).toArray;rw [<- aY] at gD lF;have arn:=aa gD;rw [<- aZ] at lF;clear aY gD;have jR:=aa lF;have kU:=aa aZ;clear ah lF KE aZ;cases v with
   | true =>
    go_wp2_with (first | ((with_reducible refine pY arn.o ?_ ?_);exact rfl) | (refine jw jR.o ?_;intro af dC));go_ret;exact⟨by rw [Za.o q x dm.o EK.o kU.o.symm];rfl,aR dX.o dC.o⟩
   | false =>
    go_wp2_with (first | ((with_reducible refine pY arn.o ?_ ?_);exact rfl) | (refine jw jR.o ?_;intro af dC));go_roundg (gk - 1);case rel=>exact⟨q+1,om,by go_num,by rw [Ml.o q x dm.o,EK.o,<- kU.o];rfl,aR dX.o dC.o⟩
    case measure=>omega
  ·have KF:q=L:=om;have Zb:¬ (q:Int) < L:=om;have xn:=aa (sw.o (by have h:=EK.o;rwa [KF,rF.o,List.take_length] at h));clear KE KF;go_wp2_with fail;go_ret;exact⟨by rw [xn.o];rfl,dX.o⟩)):P:=h
theorem aDw:adR 71 2 fO:=by have yF:=func71;have ZO:=ntmps71;have hu:=underlying65;obtain⟨Uk,e,Jo⟩:∃ f,f=fO/\∀ x,(f x).length=2:=⟨_,rfl,fun _=>rfl⟩;rw [<- e];clear e;exact adS
theorem aDx:adR 68 7 vF:=by have yF:=func68;have ZO:=ntmps68;have hu:=underlying45;obtain⟨Uk,e,Jo⟩:∃ f,f=vF/\∀ x,(f x).length=7:=⟨_,rfl,fun _=>rfl⟩;rw [<- e];clear e;exact adS
end
section
open Go.RowKit Go.Shelf
theorem adT {aO n:Nat} {X:aRD} (h:Rd w aO none n X):n=0/\X=[]:=by
 have I:n=0:=by
  rcases aQH n with I | I
  ·exact I
  ·obtain⟨b,o,e,_⟩:=h.2 I;cases e
 subst I;have:=h.1;rw [Nat.zero_mul] at this;exact⟨rfl,aQC this⟩
theorem adU (w:aRB) (A:aRC) (n c:Nat) (X:aRD) (av:Rd w 34 A n X) (iV:∀ v∈X,v.oneCell'=true) (hl:n<=1000000) :
  Calls prog 123 #[.slice A n c] w fun e w'=>∃ A' c',e = .returned (.slice A' n c')/\Own w' w.heap.size 135 34 A' n c' X/\Bl w w':=by
 have I:∀ (W:aRB),(binOp .eql 61 (.slice A n c) (.slice none 0 0)).run prog W = .ok (.bool A.isNone) W:=fun W=>aRn W _ _ A n c 0 0 underlying61;cases A with
 | none =>
  obtain⟨rfl,rfl⟩:=adT av;have M:∀ (W:aRB),(binOp .eql 61 (.slice none 0 c) (.slice none 0 0)).run prog W = .ok (.bool true) W:=I;clear I av;go_enter func123,ntmps123;go_wp2_with fail;go_ret;exact⟨none,0,rfl,Own.nil _ _ _ _,Below.refl _ _⟩
 | some a =>
  have M:∀ (W:aRB),(binOp .eql 61 (.slice (some a) n c) (.slice none 0 0)).run prog W = .ok (.bool false) W:=I;clear I;go_enter func123,ntmps123;go_wp2_with (at_builtin;have _t:=av;go_must ((with_reducible refine ve 135 _ 34 56 underlying61 KL.info KL.zs w.heap.size (some ⟨w.heap.size,0,none⟩) 0 0 [] (Own.lit w #[] _ 34 0 _ (aQm _) dc rfl) n X (.slice (some a) n c) (Src.slice underlying61 (av.gp ((Below.refl _ w).alloc (aQm _) _))) iV ?_ ?_ ?_ ?_ ?_);exact mO;omega;simp;exact⟨rfl,rfl⟩;intro cO bF aC J Y A7));refine aQx (aQX rfl _ _ _) rfl ?_;rw [List.nil_append,Nat.zero_add] at J;exact⟨cO,bF,rfl,J,((Below.refl _ w).alloc (aQm _) _).grown Y sp (fun k e=>by cases e;exact aQm _)⟩
theorem aDy (w:aRB) (A:aRC) (n c:Nat) (X:aRD) (av:Rd w 33 A n X) (iV:∀ v∈X,v.oneCell'=true) (hl:n<=1000000) :
  Calls prog 319 #[.slice A n c] w fun e w'=>∃ A' c',e = .returned (.slice A' n c')/\Own w' w.heap.size 268 33 A' n c' X/\Bl w w':=by
 have I:∀ (W:aRB),(binOp .eql 222 (.slice A n c) (.slice none 0 0)).run prog W = .ok (.bool A.isNone) W:=fun W=>aRn W _ _ A n c 0 0 underlying222;cases A with
 | none =>
  obtain⟨rfl,rfl⟩:=adT av;have M:∀ (W:aRB),(binOp .eql 222 (.slice none 0 c) (.slice none 0 0)).run prog W = .ok (.bool true) W:=I;clear I av;go_enter func319,ntmps319;go_wp2_with fail;go_ret;exact⟨none,0,rfl,Own.nil _ _ _ _,Below.refl _ _⟩
 | some a =>
  have M:∀ (W:aRB),(binOp .eql 222 (.slice (some a) n c) (.slice none 0 0)).run prog W = .ok (.bool false) W:=I;clear I;go_enter func319,ntmps319;go_wp2_with (at_builtin;have _t:=av;go_must ((with_reducible refine ve 268 _ 33 48 underlying222 adF.info adF.zs w.heap.size (some ⟨w.heap.size,0,none⟩) 0 0 [] (Own.lit w #[] _ 33 0 _ (aQm _) dc rfl) n X (.slice (some a) n c) (Src.slice underlying222 (av.gp ((Below.refl _ w).alloc (aQm _) _))) iV ?_ ?_ ?_ ?_ ?_);exact mO;omega;simp;exact⟨rfl,rfl⟩;intro cO bF aC J Y A7));refine aQx (aQX rfl _ _ _) rfl ?_;rw [List.nil_append,Nat.zero_add] at J;exact⟨cO,bF,rfl,J,((Below.refl _ w).alloc (aQm _) _).grown Y sp (fun k e=>by cases e;exact aQm _)⟩
theorem aDz (w:aRB) (A:aRC) (n c:Nat) (X:aRD) (av:Rd w 34 A n X) (iV:∀ v∈X,v.oneCell'=true) (hl:n<=1000000) :
  Calls prog 314 #[.slice A n c] w fun e w'=>∃ A' c',e = .returned (.slice A' n c')/\Own w' w.heap.size 224 34 A' n c' X/\Bl w w':=by
 have I:∀ (W:aRB),(binOp .eql 213 (.slice A n c) (.slice none 0 0)).run prog W = .ok (.bool A.isNone) W:=fun W=>aRn W _ _ A n c 0 0 underlying213;cases A with
 | none =>
  obtain⟨rfl,rfl⟩:=adT av;have M:∀ (W:aRB),(binOp .eql 213 (.slice none 0 c) (.slice none 0 0)).run prog W = .ok (.bool true) W:=I;clear I av;go_enter func314,ntmps314;go_wp2_with fail;go_ret;exact⟨none,0,rfl,Own.nil _ _ _ _,Below.refl _ _⟩
 | some a =>
  have M:∀ (W:aRB),(binOp .eql 213 (.slice (some a) n c) (.slice none 0 0)).run prog W = .ok (.bool false) W:=I;clear I;go_enter func314,ntmps314;go_wp2_with (at_builtin;have _t:=av;go_must ((with_reducible refine ve 224 _ 34 80 underlying213 Rf.info Rf.zs w.heap.size (some ⟨w.heap.size,0,none⟩) 0 0 [] (Own.lit w #[] _ 34 0 _ (aQm _) dc rfl) n X (.slice (some a) n c) (Src.slice underlying213 (av.gp ((Below.refl _ w).alloc (aQm _) _))) iV ?_ ?_ ?_ ?_ ?_);exact mO;omega;simp;exact⟨rfl,rfl⟩;intro cO bF aC J Y A7));refine aQx (aQX rfl _ _ _) rfl ?_;rw [List.nil_append,Nat.zero_add] at J;exact⟨cO,bF,rfl,J,((Below.refl _ w).alloc (aQm _) _).grown Y sp (fun k e=>by cases e;exact aQm _)⟩
theorem ai4 (w:aRB) (A:aRC) (c:Nat) (l:List dz) (av:Rd w 3 A l.length (cz iy l)) (hl:l.length<=1000) (hs:∀ x∈l,x.data.length<=1000000000) :
  Calls prog 120 #[.slice A l.length c] w fun e w'=>∃ A' c',e = .returned (.slice A' l.length c')/\Row w w' 135 34 A' l.length c' (cz gZ (l.map iA)):=by
 obtain⟨n,Y⟩:=ai l.length;rw [<- Y] at av hl |-;obtain⟨A7,Ag,Ah⟩:=hq3 Y av hs;clear av Y hs;go_enter func120,ntmps120;go_wp2_with fail;go_loopg [3,8] n (fun gk Ai Ak wr=>∃ q:Nat,q+gk=n/\Ak = .int .i64 q/\∃ A' c',Ai = .slice A' q c'/\Row w wr 135 34 A' q c' (cz gZ ((l.take q).map iA)));case atStart=>exact⟨0,om,rfl,none,0,rfl,Row.nil _ _ _⟩
 case round =>
  obtain⟨q,BH,rfl,A',c',rfl,I⟩:=hrel;by_cases AA:q < n
  ·have Al:(q:Int) < n:=om;have BI:(0:Int)<=q:=om;obtain⟨x,ah⟩:∃ x,l[q]?=some x:=⟨_,aQp (by rw [<- A7.o];exact AA)⟩;obtain⟨b,o,rfl,M⟩:=vE (f:=iy) (k:=3) (fun _=>rfl) underlying80 rfl kr (Ag.o.gp I.low) ah A7.o.symm;have J:=fun (W:aRB)=>aCX W x (Ah.o x (aQr ah));have AB:cz gZ ((l.take (q+1)).map iA)=cz gZ ((l.take q).map iA)++gZ (iA x):=by rw [List.take_add_one,ah];simp [cz]
   have AO:=FZ (iA x);have hlen:=Ac (iA x);obtain⟨R,AP⟩:=ai (gZ (iA x));rw [<- AP] at J AB AO hlen;have Am:(Value.agg R.toArray).cells.size=34:=by simp [Value.cells,hlen]
   obtain⟨p,i,d⟩:=x;simp only [iy] at M J;obtain⟨BJ,AV,BK,AZ⟩:=nq2 (az p) (az d);rw [<- AV,<- AZ] at M J;obtain⟨Ao,Ap,Aq,AJ⟩:=hq4 M J AB I;have hq6:q<=1000000:=om;clear M J AB I ah AP AV AZ AA;go_wp2_with (first
    | ((with_reducible refine pY Ao.o ?_ ?_);exact rfl)
    | (go_at_call 172; refine (Ap.o _).mono ?_;rintro e af ⟨rfl,Aa⟩;have Au:=aa (AJ.o.on (((Below.refl wr.heap.size wr).alloc (aQm _) _).trans (Aa.mono sp)));clear Aa)
    | ((with_reducible refine BV KL (.agg R.toArray) Am ?_ ?_);exact rfl;intro Aw Ab Ad;have Ay:=aa (show Rd Aw 34 _ 1 R by simpa [Value.cells] using Ab);have Az:=aa (Au.o.on Ad);clear Ab Ad)
    | (at_builtin;(with_reducible refine aqY KL w A' q c' _ Az.o _ R Ay.o AO hq6 underlying61 ?_ ?_);exact⟨rfl,rfl⟩;intro BA BF bS Ae;have BG:=aa Ae;clear Ae))
   go_roundg (gk - 1);case rel=>exact⟨q+1,om,by go_num,BA,BF,rfl,by rw [Aq.o];exact BG.o⟩
   case measure=>omega
  ·have AL:q=n:=om;have Al:¬ (q:Int) < n:=om;have Af:l.take q=l:=by rw [AL,A7.o,List.take_length]
   rw [Af,AL] at I;have AJ:=aa I;subst AL;clear Af I AA;go_wp2_with fail;go_ret;exact⟨A',c',rfl,AJ.o⟩
structure adV (t:TypeId) (V:aRD):Prop where
 deep:EqAt prog 10000 t
 formed:(Value.agg V.toArray).formed prog t=true
 lits:∃ d L,prog.keyLits d t V=some L
theorem adV.run (h:adV t V) (w:aRB):(binOp .eql t (.agg V.toArray) (.agg V.toArray)).run prog w = .ok (.bool true) w/\(binOp .neq t (.agg V.toArray) (.agg V.toArray)).run prog w = .ok (.bool false) w:=by
 obtain⟨d,L,hl⟩:=h.lits;have I:prog.keyLits d t (Value.agg V.toArray).cells.toList=some L:=by simpa [Value.cells] using hl
 obtain⟨r,h1,J⟩:=h.deep w d d _ _ _ _ h.formed h.formed I I;have M:r=true:=J.2 rfl;subst M;exact⟨by rw [run_eql_struct,h1];rfl,by rw [run_neq_struct,h1];rfl⟩
theorem aDC (x:ak × ak) (h1:x.1.length<=maxLen) (ag:x.2.length<=maxLen):adV 65 [.string (az x.1),.string (az x.2)]:=by
 have hu:prog.underlying 65 = some _:=underlying65;have hs:prog.underlying 9 = some .string:=underlying9;have hc:prog.cellsOf 65 = 2:=kr;have I:prog.cellsOf 9 = 1:=kr;refine⟨aRx 9998 2 _ kr,by simp [Value.formed,hu,hc],2,[.string (az x.1).data.toList,.string (az x.2).data.toList],?_⟩
 ·unfold Program.keyLits;simp [hu,hc,I,Program.keyLits,hs,iM,h1,ag]
theorem arp (x:kJ) (h1:x.path.length<=maxLen) (ag:x.sum.length=32):adV 135 (gZ x):=by
 have hu:prog.underlying 135 = some _:=underlying135;have hs:prog.underlying 9 = some .string:=underlying9;have ae:prog.underlying 4 = some .bool:=underlying4;have hc:prog.cellsOf 135 = 34:=kr;have I:prog.cellsOf 9 = 1:=kr;have J:prog.cellsOf 4 = 1:=kr;have M:prog.cellsOf 59 = 32:=kr;have Y:=Y8 x.sum ag;have A7:prog.keyLits 2 9 [.string (az x.path)]=some [.string (az x.path).data.toList]:=by unfold Program.keyLits;simp [hs,iM,h1]
 have AA:prog.keyLits 2 4 [.bool x.is]=some [.bool x.is]:=by unfold Program.keyLits;simp [ae]
 refine⟨aRx 9997 3 _ kr,by simp [Value.formed,hu,hc,Ac],3,.string (az x.path).data.toList :: .bool x.is :: x.sum.map QP,?_⟩
 ·rw [gZ,H7 ag];unfold Program.keyLits;have hl:(bO x.sum).length=32:=by rw [xf,ag]
  simp [hu,hc,I,J,M,A7,AA,hl,List.take_of_length_le,Y]
theorem aDD (w:aRB) (B:aRC) (c:Nat) (row:List fA) (av:Rd w 1 B row.length (cu row)) (hl:row.length<=1000) (u:fA) :
  CB 116 #[.slice B row.length c,.string (az u)] w (.int .i64 (EJ (· == u) row)):=by
 obtain⟨p,aL⟩:∃ p:fA->Bool,p=fun x=>x == u:=⟨_,rfl⟩;rw [show (fun x=>x == u)=p from aL.symm];have J:∀ x:fA,((az u).toList == (az x).toList)=p x:=fun x=>by
  rw [aL,ByteArray.toList_eq,ByteArray.toList_eq,gU,gU,Bool.eq_iff_iff];simp only [beq_iff_eq];exact eq_comm
 obtain⟨U,AO⟩:=ai (az u);rw [<- AO] at J |-;obtain⟨L,M,E,Y⟩:=nq2 row.length (EJ p row);rw [<- M] at av hl |-;rw [<- Y];have A7:=fun (q:Nat) (x:fA) (h:row[q]?=some x) (h1:(row.take q).any p=false) (Ah:p x=true)=>apS h h1 Ah;have AA:=fun (h:row.any p=false)=>ada h;have AP:=fun (q:Nat) (x:fA) (h:row[q]?=some x)=>apR p h;rw [<- Y] at A7 AA;obtain⟨Ai,AV,Ak,Al,Am,Ao⟩:=hq6 av M J A7 AA AP;clear av M J aL AO Y A7 AA AP;go_enter func116,ntmps116;go_wp2_with fail;go_loopg [5,8] L (fun gk Ay Ap wr=>∃ q:Nat,q+gk=L/\Ap = .int .i64 q/\(row.take q).any p=false/\Bl w wr);case atStart=>exact⟨0,om,rfl,rfl,Below.refl _ _⟩
 case round =>
  obtain⟨q,Az,rfl,AZ,Aa⟩:=hrel;have AB:=aa AZ;have I:=aa Aa;clear AZ Aa;by_cases AJ:q < L
  ·have Aq:(q:Int) < L:=om;have BA:(0:Int)<=q:=om;obtain⟨x,ah⟩:∃ x,row[q]?=some x:=⟨_,aQp (by rw [<- AV.o];exact AJ)⟩;obtain⟨b,o,rfl,Au⟩:=Mt (Ai.o.gp I.o) ah;have Ab:=Ak.o x;have Ad:=aa ah;obtain⟨v,AL,X,Ae⟩:=nq2 (p x) (az x);rw [<- Ae] at Au Ab;rw [<- AL] at Ab;clear Ae;have Af:=aa AL;clear ah AJ AL;cases v with
   | true =>
    go_wp2_with fail;go_ret;exact⟨by rw [Al.o q x Ad.o AB.o Af.o.symm];rfl,I.o⟩
   | false =>
    go_wp2_with fail;go_roundg (gk - 1);case rel=>exact⟨q+1,om,by go_num,by rw [Ao.o q x Ad.o,AB.o,<- Af.o];rfl,I.o⟩
    case measure=>omega
  ·have Ag:q=L:=om;have Aq:¬ (q:Int) < L:=om;have Aw:=aa (Am.o (by have h:=AB.o;rwa [Ag,AV.o,List.take_length] at h));clear AJ Ag;go_wp2_with fail;go_ret;exact⟨by rw [Aw.o];rfl,I.o⟩
theorem aDE (l:List fA) (u:fA):l.any (fun x=>x == u)=l.contains u:=by rw [Bool.eq_iff_iff];simp
theorem adW (w:aRB) (B:aRC) (c:Nat) (row:List fA) (av:Rd w 1 B row.length (cu row)) (hl:row.length<=1000) (u:fA) :
  CB 70 #[.slice B row.length c,.string (az u)] w (.bool (row.contains u)):=by
 have I:=aa (aDD w B c row av hl u);have J:=apU (· == u) row;obtain⟨eP,AA⟩:=apV (· == u) row hl;rw [<- aDE,<- J];clear av J;obtain⟨E,M⟩:=ai (EJ (· == u) row);rw [<- M] at I eP AA |-;obtain⟨L,Y,U,A7⟩:=nq2 row.length (az u);rw [<- Y,<- A7] at I |-;clear M Y hl A7;go_enter func70,ntmps70;go_wp2_with (first | (go_at_call 116; refine jw I.o ?_;intro af AB));go_ret;exact⟨rfl,AB.o⟩
theorem aDF (dI w:aRB) (x:iP) (hA:KC dI x.1 x.2) (ae:Bl dI w) (hl:x.2.outs.length<=1000) (g:Nat) (u:fA) (ax:w.cell? (ad g 0)=some (.string (az u))) :
  Calls prog 69 (#[.agg (vF x).toArray]++#[pp g 0]) w fun e w'=>e = .returned (.bool (x.2.outs.contains u))/\Bl w w':=by
 obtain⟨L,a⟩:=x;simp only at hA hl |-;obtain⟨aF,J⟩:=ai (w.alloc (.cells (nz L a) 45));have M:Bl w aF:=by rw [J];exact (Below.refl _ w).alloc (aQm _) _
 have Y:=adW aF L.O L.wJ a.outs (hA.below (aR ae M)).outs hl u;have hc:aF.cell? (ad g 0)=some (.string (az u)):=(M.cell (p:=ad g 0) (aQy _ _ ax)).trans ax;have AL:aF.heap[w.heap.size]?=some (.cells (nz L a) 45 (0,0)):=by rw [J];exact aQt w _
 have A7:=aQo aF w.heap.size 6 _ _ _ AL;have AO:(vF (L,a)).toArray=nz L a:=rfl;rw [AO];unfold nz at J A7 |-;obtain⟨pk,nm,E,lG,A,O,Ae,Af,Ag,AP⟩:=L;obtain⟨U,AA,r,AB,n,AJ⟩:=nq3 (az u) (a.outs.contains u) a.outs.length;rw [<- AA] at hc;rw [<- AJ] at J A7 |-;simp only at Y J A7 |-;rw [<- AA,<- AB,<- AJ] at Y;rw [<- AB];have AV:=aa (fun (W:aRB) (e:W=aF)=>show Calls prog 70 #[.slice O n AP,.string U] W fun e w'=>e = .returned (.bool r)/\Bl aF w' by rw [e];exact Y);have AZ:=aa M;have Aa:=aa J;have Ab:=hc;rw [J] at Ab;clear AA AB AJ Y M AL AO hA ae hl ax A7 hc J;go_enter func69,ntmps69;go_wp2_with (first | (go_at_call 70; refine jw (AV.o _ Aa.o.symm) ?_;intro af Ad));go_ret;exact⟨rfl,aR AZ.o Ad.o⟩
def Pd (X:List iP) (u:fA):Int:=Ib (fun x=>x.2.outs.contains u) X
theorem WN (w:aRB) (A:aRC) (c:Nat) (X:List iP) (aY:Rn w A X) (hl:X.length<=1000) (aG:∀ x∈X,x.2.outs.length<=1000) (u:fA) :
  CB 44 #[.slice A X.length c,.string (az u)] w (.tuple #[.int .i64 (max (Pd X u) 0),.bool (decide (0<=Pd X u))]):=by
 obtain⟨aF,J⟩:=ai (w.alloc (.cells #[.string (az u)] 9));have M:Bl w aF:=by rw [J];exact (Below.refl _ w).alloc (aQm _) _
 have AA:aF.heap[w.heap.size]?=some (.cells #[.string (az u)] 9 (0,0)):=by rw [J];exact aQt w _
 have ax:aF.cell? (ad w.heap.size 0)=some (.string (az u)):=aQo aF w.heap.size 0 _ _ _ AA;have Y:=aY.below M;have j3:=aDx aF A c X Y.row hl 69 #[pp w.heap.size 0] (enters_of func69 kr rfl) (fun x=>x.2.outs.contains u) fun aV AB x ah=>aDF aF aV x (Y.each x ah) AB (aG x ah) w.heap.size u ((AB.cell (p:=ad w.heap.size 0) (aQy _ _ ax)).trans ax);obtain⟨lG,A7⟩:=ai (Pd X u);obtain⟨eP,AO⟩:=aDv (fun x:iP=>x.2.outs.contains u) X hl;rw [show Ib (fun x:iP=>x.2.outs.contains u) X=lG from A7.symm] at j3 eP AO;rw [<- A7];obtain⟨U,AJ,n,AL⟩:=nq2 (az u) X.length;rw [<- AJ] at J |-;rw [<- AL] at j3 |-;have AP:=aa (fun (W:aRB) (e:W=aF)=>show Calls prog 68 #[.slice A n c,.func (.func 69) #[] #[pp w.heap.size 0]] W fun e w'=>e = .returned (.int .i64 lG)/\Bl aF w' by rw [e];exact j3);have AV:=aa M;have AZ:=aa J;clear A7 AJ AL j3 M AA aY Y aG hl ax J;go_enter func44,ntmps44;go_wp2_with (first | (go_at_call 68; refine jw (AP.o _ AZ.o.symm) ?_;intro af Aa));go_ret2;exact⟨rfl,aR AV.o Aa.o⟩
theorem aDG (w:aRB) (x:fA × fA) (g:Nat) (u:fA) (ax:w.cell? (ad g 0)=some (.string (az u))) :
  Calls prog 72 (#[.agg (fO x).toArray]++#[pp g 0]) w fun e w'=>e = .returned (.bool (x.1 == u))/\Bl w w':=by
 obtain⟨p,d⟩:=x;have I:Below w.heap.size w (w.alloc (.cells #[.string (az p),.string (az d)] 65)):=(Below.refl _ w).alloc (aQm _) _;have hc:(w.alloc (.cells #[.string (az p),.string (az d)] 65)).cell? (ad g 0)=some (.string (az u)):=(I.cell (p:=ad g 0) (aQy _ _ ax)).trans ax;have he:((az p).toList == (az u).toList)=(p == u):=by rw [ByteArray.toList_eq,ByteArray.toList_eq,gU,gU]
 show CB 72 #[.agg #[.string (az p),.string (az d)],pp g 0] w (.bool (p == u));obtain⟨P,J,D,M,U,Y,r,A7⟩:=nq4 (az p) (az d) (az u) (p == u);rw [<- J,<- M] at I hc;rw [<- Y] at hc;rw [<- J,<- Y,<- A7] at he;rw [<- J,<- M,<- A7];have AA:=aa I;clear J M Y A7 I ax;go_enter func72,ntmps72;go_wp2_with fail;go_ret;exact⟨rfl,AA.o⟩
def fileAt (l:List (fA × fA)) (u:fA):Option (fA × fA):=l.find? fun x=>x.1 == u
theorem arq {p:α->Bool} {l:List α}:l.find? p=none ↔ l.any p=false:=by rw [List.find?_eq_none,List.any_eq_false]
theorem ai8 (w:aRB) (A:aRC) (c:Nat) (l:List (fA × fA)) (hl:l.length<=1000) (av:Rd w 2 A l.length (cz fO l)) (u:fA) :
  CB 45 #[.slice A l.length c,.string (az u)] w (.tuple #[.string (az (((fileAt l u).map (·.2)).getD [])),.bool (fileAt l u).isSome]):=by
 obtain⟨aF,I⟩:=ai (w.alloc (.cells #[.string (az u)] 9));have Y:Bl w aF:=by rw [I];exact (Below.refl _ w).alloc (aQm _) _
 have AA:aF.heap[w.heap.size]?=some (.cells #[.string (az u)] 9 (0,0)):=by rw [I];exact aQt w _
 have ax:aF.cell? (ad w.heap.size 0)=some (.string (az u)):=aQo aF w.heap.size 0 _ _ _ AA;have J:=av.gp Y;have j3:=aDw aF A c l J hl 72 #[pp w.heap.size 0] (enters_of func72 kr rfl) (fun x=>x.1 == u) fun aV Af x _=>aDG aV x w.heap.size u ((Af.cell (p:=ad w.heap.size 0) (aQy _ _ ax)).trans ax);obtain⟨n,A7,U,AB⟩:=nq2 l.length (az u);rw [<- AB] at I |-;rw [<- A7] at j3 J |-;have AV:=aa Y;have AZ:=aa I;cases M:l.any (fun x=>x.1 == u) with
 | false =>
  have hf:fileAt l u=none:=arq.2 M;rw [ZN M] at j3;rw [hf];have AJ:=aa (fun (W:aRB) (e:W=aF)=>show Calls prog 71 #[.slice A n c,.func (.func 72) #[] #[pp w.heap.size 0]] W fun e w'=>e = .returned (.int .i64 (-1))/\Bl aF w' by rw [e];exact j3);clear j3 Y AA ax J av hl I AB M hf A7;go_enter func45,ntmps45;go_wp2_with (first | (go_at_call 71; refine jw (AJ.o _ AZ.o.symm) ?_;intro af AL));go_ret2;exact⟨rfl,aR AV.o AL.o⟩
 | true =>
  obtain⟨q,x,Aa,ah,Ab,_⟩:=arl M;have hf:fileAt l u=some x:=Ab;have Ag:q < n:=by rw [A7];exact (aQs.1 ah).1
  have Ai:(q:Int) < n:=om;have Ak:(0:Int)<=q:=om;rw [Aa] at j3;rw [hf];obtain⟨b,o,hA,hcell⟩:=J.2 om;subst hA;have Ad:=KR (f:=fO) (k:=2) (fun _=>rfl) ah 1 _ rfl;obtain⟨D,AO⟩:=ai (az x.2);have Ah:=aa (fun af (ae:Bl aF af)=>show af.cell? ⟨b,o+q * 2+1,none⟩=some (.string D) by
   rw [AO];have h1:=hcell _ _ Ad;rw [<- Nat.add_assoc] at h1;exact (ae.cell (p:=ad b _) (aQy _ _ h1)).trans h1)
  have AJ:=aa (fun (W:aRB) (e:W=aF)=>show Calls prog 71 #[.slice (some ⟨b,o,none⟩) n c,.func (.func 72) #[] #[pp w.heap.size 0]] W fun e w'=>e = .returned (.int .i64 q)/\Bl aF w' by rw [e];exact j3);have Ae:((some x).map (·.2)).getD []=x.2:=rfl;rw [Ae,<- AO];clear j3 Y AA ax J av hl I AB M hf Ab Aa ah Ag hcell Ad AO Ae A7;go_enter func45,ntmps45;go_wp2_with (first | (go_at_call 71; refine (AJ.o _ AZ.o.symm).mono ?_;rintro e af ⟨rfl,AP⟩;have AL:=aa AP;have hc:=Ah.o af AP;clear AP));go_ret2;exact⟨rfl,aR AV.o AL.o⟩
theorem aDH:adR 173 3 iy:=by have yF:=func173;have ZO:=ntmps173;have hu:=underlying80;obtain⟨Uk,e,Jo⟩:∃ f,f=iy/\∀ x,(f x).length=3:=⟨_,rfl,fun _=>rfl⟩;rw [<- e];clear e;exact adS
theorem aDI:adR 169 34 gZ:=by have yF:=func169;have ZO:=ntmps169;have hu:=underlying135;obtain⟨Uk,e,Jo⟩:∃ f,f=gZ/\∀ x,(f x).length=34:=⟨_,rfl,fun _=>rfl⟩;rw [<- e];clear e;exact adS
structure lI where
 key:List UInt8
 reads:List kJ
 outs:List (ak × List UInt8)
structure qh where
 A:Option Addr
 c:Nat
 B:Option Addr
 d:Nat
def mh (x:ak × List UInt8):List Value:=.string (az x.1) :: l6 x.2
theorem Ic (x:ak × List UInt8):(mh x).length=33:=by simp [mh,rf]
theorem adX (d:aRH):∀ v∈l6 d,v.oneCell'=true:=by intro v I;simp only [l6,List.mem_map] at I;obtain⟨j,_,rfl⟩:=I;rfl
theorem Um (x:ak × List UInt8):∀ v∈mh x,v.oneCell'=true:=by
 intro v I;rcases aQw.1 I with rfl | I
 ·rfl
 ·exact adX _ v I
theorem ZQ {f:α->List Value} (h:∀ x,∀ v∈f x,v.oneCell'=true) (l:List α):∀ v∈cz f l,v.oneCell'=true:=by intro v I;obtain⟨x,_,ah⟩:=aQY.1 I;exact h x v ah
def gJ (t:lI) (L:qh):List Value:=l6 t.key++[.slice L.A t.reads.length L.c,.slice L.B t.outs.length L.d]
theorem Ef (t:lI) (L:qh):(gJ t L).length=34:=by simp [gJ,rf]
theorem MW (t:lI) (L:qh):∀ v∈gJ t L,v.oneCell'=true:=by
 intro v I;rcases aQI.1 I with I | I
 ·exact adX _ v I
 ·simp at I;rcases I with rfl | rfl <;> rfl
theorem ai9 (t:lI) (L:qh):(gJ t L)[32]?=some (.slice L.A t.reads.length L.c):=by rw [gJ,List.getElem?_append_right (by rw [rf];omega),rf];rfl
theorem adY (t:lI) (L:qh):(gJ t L)[33]?=some (.slice L.B t.outs.length L.d):=by rw [gJ,List.getElem?_append_right (by rw [rf];omega),rf];rfl
structure WO (W:aRB) (t:lI) (L:qh):Prop where
 reads:Rd W 34 L.A t.reads.length (cz gZ t.reads)
 outs:Rd W 33 L.B t.outs.length (cz mh t.outs)
theorem WO.all {t:lI} {L:qh} (h:WO W t L) (ae:Bl W W'):WO W' t L:=⟨h.reads.gp ae,h.outs.gp ae⟩
theorem Pe (t:lI) (L:qh):(prog.info? 224).map (·.size)=some (gJ t L).length:=by rw [Ef];exact kr
theorem ZR (x:ak × List UInt8):(prog.info? 268).map (·.size)=some (mh x).length:=by rw [Ic];exact kr
structure oH (W:aRB) (B:Nat) (t:lI) (L:qh):Prop where
 reads:Own W B 135 34 L.A t.reads.length L.c (cz gZ t.reads)
 outs:Own W B 268 33 L.B t.outs.length L.d (cz mh t.outs)
theorem oH.at_ {t:lI} {L:qh} (h:oH W B t L):WO W t L:=⟨h.reads.rd,h.outs.rd⟩
theorem oH.all {t:lI} {L:qh} (h:oH W B t L) (ae:Bl W W'):oH W' B t L:=⟨h.reads.below ae (aQm _),h.outs.below ae (aQm _)⟩
theorem oH.mono {B':Nat} {t:lI} {L:qh} (h:oH W B t L) (bg:B'<=B):oH W B' t L:=⟨h.reads.mono bg,h.outs.mono bg⟩
theorem aDJ (w:aRB) (x:kJ) (g:Nat) (u:ak) (ax:w.cell? (ad g 0)=some (.string (az u))) :
  Calls prog 170 (#[.agg (gZ x).toArray]++#[pp g 0]) w fun e w'=>e = .returned (.bool (x.path == u))/\Bl w w':=by
 obtain⟨V,J⟩:=ai (gZ x);have AB:V[0]?=some (.string (az x.path)):=by rw [J];rfl
 rw [<- J];obtain⟨aF,I⟩:=ai (w.alloc (.cells V.toArray 135));have M:=gQ I;have AJ:aF.cell? (ad w.heap.size 0)=some (.string (az x.path)):=by rw [I,(aM.new w V 135).cell 0];exact AB
 have AL:aF.cell? (ad g 0)=some (.string (az u)):=(M.cell (p:=ad g 0) (aQy _ _ ax)).trans ax;have he:((az x.path).toList == (az u).toList)=(x.path == u):=by rw [ByteArray.toList_eq,ByteArray.toList_eq,gU,gU]
 obtain⟨P,Y,U,A7,r,AA⟩:=nq3 (az x.path) (az u) (x.path == u);rw [<- Y] at AJ;rw [<- A7] at AL;rw [<- Y,<- A7,<- AA] at he;rw [<- AA];show CB 170 #[.agg V.toArray,pp g 0] w (.bool r);have AO:=aa M;have AP:=I.symm;clear Y A7 AA M ax AB J I;go_enter func170,ntmps170;go_wp2_with fail;go_ret;exact⟨rfl,AO.o⟩
theorem aDK (w:aRB) (c:Nat) (d:aRH) (aT:d.length=32):CB 171 #[.slice none 0 c,.agg (bO d).toArray] w (.bool false):=by
 obtain⟨X,I⟩:=ai (bO d);have ay:=zk aT;rw [<- I] at ay |-;have ah:∀ (W:aRB),CB 213 #[.slice none 0 c,.agg X.toArray] W (.int .i64 (-1)):=by
  intro W;clear I;go_enter func213,ntmps213;go_wp2_with fail;go_loopg [8] 0 (fun gk Y wr=>Y = .int .i64 0/\Bl W wr);case atStart=>exact⟨rfl,gK⟩
  case round =>
   obtain⟨rfl,J⟩:=hrel;have A7:=aa J;clear J;go_wp2_with fail;go_ret;exact⟨rfl,A7.o⟩
 have AA:=aa ah;clear ah I;go_enter func171,ntmps171;go_wp2_with (first
  | (with_reducible refine kv (aM.new w X _) underlying59 ay ?_)
  | (go_at_call 213; refine (AA.o _).mono ?_;rintro e af ⟨rfl,M⟩;have AB:=aa (((Below.refl w.heap.size w).alloc (aQm _) _).trans (M.mono sp));clear M))
 go_ret;exact⟨rfl,AB.o⟩
theorem ZT (a b c:Value):(prog.info? 216).map (·.size)=some [a,b,c].length:=kr
theorem ZU (k:Int) (s:ByteArray) (i:Int):∀ v∈[Value.int .i64 k,.string s,.int .i64 i],v.oneCell'=true:=by intro v I;simp at I;rcases I with rfl | rfl | rfl <;> rfl
theorem aDL (w:aRB) (A:aRC) (c:Nat) (B:aRC) (n d:Nat) (G:aRC) (m f:Nat) :
  CB 119 #[.slice A 0 c,.slice B n d,.slice G m f] w (.agg #[.int .i64 3,.string ⟨#[]⟩,.int .i64 0]):=by
 obtain⟨aF,I⟩:=ai (w.alloc (.cells #[.int .i64 0,.string ⟨#[]⟩,.int .i64 0] 216));have J:=gQ I;have M:=lH I;have A7:=I.symm;have AA:=aa J;have AB:=aa M;clear J M I;go_enter func119,ntmps119;go_wp2_with fail;go_step3;go_wp2_with fail;go_step3;go_wp2_with fail;clear A7;go_loopg [16] 0 (fun gk AJ wr=>AJ = .int .i64 0/\wr=aF);case atStart=>exact⟨rfl,rfl⟩
 case round =>
  obtain⟨rfl,rfl⟩:=hrel;have Y:=ZT (.int .i64 3) (.string ⟨#[]⟩) (.int .i64 0);have h1:=ZU 3 ⟨#[]⟩ 0;have hl:[Value.int .i64 3,.string ⟨#[]⟩,.int .i64 0].length=[Value.int .i64 0,.string ⟨#[]⟩,.int .i64 0].length:=rfl;go_wp2_with (first
   | ((with_reducible refine vC [.int .i64 3,.string ⟨#[]⟩,.int .i64 0] AB.o Y hl h1 ?_);intro bS AL AO))
  rw [Exit.noGoto_ret];exact D9 AL.o underlying216 rfl Y ⟨rfl,rfl,rfl⟩ ⟨rfl,oF AA.o AO.o (aQm _)⟩
def Jp (t:lI) (q:Nat):List Value:=match t.reads[q]? with
 | some r=>[.int .i64 1,.string (az r.path),.int .i64 0]
 | none=>[.int .i64 2,.string ⟨#[]⟩,.int .i64 0]
theorem aDM {R:List kJ} (xe:(R.map (·.path)).Nodup) (aH:q<=R.length) {r:kJ} (av:R[j]?=some r):Ib (fun x:kJ=>x.path == r.path) (R.take q)=if j < q then (j:Int) else -1:=by
 have M:∀ i x,R[i]?=some x->i≠j->(x.path == r.path)=false:=by
  intro i x ah Y;rw [beq_eq_false_iff_ne];intro e;have h1:(R.map (·.path))[i]?=some r.path:=by rw [List.getElem?_map,ah,<- e];rfl
  have A7:(R.map (·.path))[j]?=some r.path:=by rw [List.getElem?_map,av];rfl
  have I:=(aQs.1 h1).1;exact Y ((List.getElem?_inj I xe).1 (h1.trans A7.symm))
 split
 ·rename_i aD;refine ark (x:=r) (by rw [List.getElem?_take_of_lt aD];exact av) ?_ sp;rw [List.any_eq_false];intro x ah;rw [List.mem_take_iff_getElem] at ah;obtain⟨i,I,rfl⟩:=ah;simp only [List.getElem_take];have J:i < R.length:=by simp at I;omega
  rw [M i _ (List.getElem?_eq_getElem J) (by simp at I;omega)];decide
 ·rename_i aD;refine ZN ?_;rw [List.any_eq_false];intro x ah;rw [List.mem_take_iff_getElem] at ah;obtain⟨i,I,rfl⟩:=ah;have J:i < R.length:=om;rw [M i _ (List.getElem?_eq_getElem J) om];decide
theorem KT {o:Nat} (h:∀ j v,V[j]?=some v->W.cell? (ad g (o+j))=some v) (hu:prog.underlying ty=some d) (aT:CF d=true) (ay:Sz ty V.length) (ae:Bl W W') :
  (loadVar ty ⟨g,o,none⟩).run prog W' = .ok (.agg V.toArray) W' :=
 ZM ty g o V (fun j v aD=>(ae.cell (p:=ad g (o+j)) (aQy _ _ (h j v aD))).trans (h j v aD)) d hu (by cases d <;> first | rfl | exact aT) ay
theorem aDN {C:World->Prop} {Q:Act->Prop} {b:BinOp} {gP:TypeId} {pos:String} {u r:Value}
  (Y9:a.eval x=u/\a.eval y=v) (ax:∀ w,(eqGuard b ty x y u v).run P w = .ok () w) (hl:∀ w,(binOp b ty u v).run P w = .ok r w) (h:wpQuiet P ops C Q rest (a.put dst r)):wpQuiet P ops C Q (⟨dst,.binOp b ty x y t2,gP,pos,after,none⟩ :: rest) a:=by
 have hw:Region.wanted ⟨dst,.binOp b ty x y t2,gP,pos,after,none⟩ (yielded ops a.tmps)=true:=rfl;unfold wpQuiet;rw [if_pos hw];refine⟨r,fun w _=>?_,h⟩;unfold Oper.quietAt execOp;simp [Y9.1,Y9.2,ax w,hl w,Oper.quietUpon]
theorem arv {b:BinOp} (x y:Operand) (A B:Array Value) (h:P.eqGuardType P.depth ty=false) (w:aRB):(eqGuard b ty x y (.agg A) (.agg B)).run P w = .ok () w:=by unfold eqGuard;cases b <;> simp [h]
theorem arw {f:α->List Value} (hf:∀ x,(f x).length=k) {n:Nat} {l:List α} (h:Rd W k A n (cz f l)) {x:α} (ah:l[i]?=some x) (aB:l.length=n) :
  ∃ b o,A=some ⟨b,o,none⟩/\∀ j v,(f x)[j]?=some v->W.cell? ⟨b,o+i * k+j,none⟩=some v:=by
 have hk:=(aQs.1 ah).1;obtain⟨b,o,rfl,hc⟩:=h.2 om;exact⟨b,o,rfl,fun j v I=>by rw [Nat.add_assoc];exact hc _ v (KR hf ah j v I)⟩
theorem aDO (w:aRB) (t:lI) (L:qh) (A:aRC) (c:Nat) (hA:Rd w 34 A 1 (gJ t L)) (aA:WO w t L) (q:Nat) (aH:q<=t.reads.length) (B:aRC) (d:Nat) (bg:Rd w 34 B q (cz gZ (t.reads.take q)))
  (xe:(t.reads.map (·.path)).Nodup) (yh:∀ x∈t.reads,x.sum.length=32/\x.path.length<=maxLen) (arx:∀ x∈t.outs,x.2.length=32) (hl:t.reads.length<=1000) (MX:t.outs.length<=1000) (f:Nat) :
  CB 119 #[.slice A 1 c,.slice B q d,.slice none 0 f] w (.agg (Jp t q).toArray):=by
 obtain⟨AZ,BA⟩:=ai 1;obtain⟨A7,AA,J,M⟩:=L;obtain⟨b,o,rfl,hcell⟩:=hA.2 om;rw [<- BA];have Cs:=aa BA;have Ct:(0:Int) < AZ:=om;have Cv:(Jp t q).length=3:=by unfold Jp;split <;> rfl
 obtain⟨n,BF,m,hm⟩:=nq2 t.reads.length t.outs.length;have Bq:(t.reads.take q).length=q:=by rw [List.length_take];omega
 obtain⟨aF,Al⟩:=ai (w.alloc (.cells #[.int .i64 0,.string ⟨#[]⟩,.int .i64 0] 216));have Am:=gQ Al;have Br:=lH Al;have BG:=fun W (h:Bl w W)=>KT (W:=w) (g:=b) (o:=o) (V:=gJ t ⟨A7,AA,J,M⟩) hcell underlying224 rfl (Pe t ⟨A7,AA,J,M⟩) h;have Aa:=Pe t ⟨A7,AA,J,M⟩;have Ab:=MW t ⟨A7,AA,J,M⟩;have hlen:=Ef t ⟨A7,AA,J,M⟩;have Ad:=ai9 t ⟨A7,AA,J,M⟩;have Ae:=adY t ⟨A7,AA,J,M⟩;obtain⟨BH,Bt⟩:=ai (gJ t ⟨A7,AA,J,M⟩);rw [<- Bt] at BG Aa Ab hlen Ad Ae;simp only at Ad Ae;rw [<- BF] at Ad;rw [<- hm] at Ae;obtain⟨aV,Ao⟩:=ai (aF.alloc (.cells BH.toArray 224));have BI:=gQ Ao;have Ap:=lH Ao;have Aq:Bl w aV:=aR Am BI;have EP:=aa Am;have Bu:=aa Aq;have Bv:=aa (Br.all BI);have ER:=aa Ap;have Cw:=aa (fun (z:Nat) (EU:z < AZ)=>show (loadVar 224 ⟨b,o+z * 34,none⟩).run prog aF = .ok (.agg BH.toArray) aF by rw [show o+z * 34=o by rw [show z=0 by omega];omega];exact BG aF Am);obtain⟨Cz,Bw,DD,Au⟩:=hq4 aH BF hm Bq;have C8:=aa (aA.all Aq);have C9:=aa (bg.gp Aq);obtain⟨DF,DL,DN⟩:=hq3 xe yh arx;have DR:=Al.symm;have DW:=Ao.symm;have DX:=aa ((Ap.cell 32).trans Ad);have CE:=aa ((Ap.cell 33).trans Ae);have DY:=DX.o;have EW:n<=1000:=om;have EY:m<=1000:=om;have EZ:q<=n:=om;clear hA aA bg xe yh arx hl MX Al Ao Am Br BA BG Bt BI Ap Aq aH BF hm hcell Cv Bq Ad Ae;go_enter func119,ntmps119;go_wp2_with fail;go_step3;go_wp2_with fail;go_step3;go_wp2_with fail;clear DR;go_loopg [16] AZ (fun gk Af wr=>∃ z:Nat,z < AZ/\Af = .int .i64 z/\wr=aF);case atStart=>exact⟨0,om,rfl,rfl⟩
 case round =>
  obtain⟨z,CJ,rfl,rfl⟩:=hrel;have DZ:(z:Int) < AZ:=om;have Da:(0:Int)<=z:=om;have Db:=aa (Cw.o z CJ);clear Ct;go_wp2_with (first
   | ((with_reducible refine pY Db.o ?_ ?_);exact rfl)
   | (with_reducible refine zo BH hlen Aa Ab ?_))
  have Dc:=aa (show z=0 by have:=Cs.o;omega);obtain⟨CK,De⟩:=ai wr;subst De;obtain⟨Ec,Df⟩:=ai gk;subst Df;clear DW DY CJ DZ Da;go_loopg [24] n (fun gk Af wr=>∃ j:Nat,j+gk=n/\j<=q/\Af = .int .i64 j/\Bl aV wr);case atStart=>exact⟨0,om,om,rfl,Below.refl _ _⟩
  case round =>
   obtain⟨j,aD,BJ,rfl,I⟩:=hrel;have Ee:(0:Int)<=j:=om;by_cases CL:j < n
   ·have Dg:(j:Int) < n:=om;obtain⟨r,AO⟩:∃ r,t.reads[j]?=some r:=⟨_,aQp (by rw [<- Bw.o];exact CL)⟩;have BK:=DL.o r (aQr AO);obtain⟨Dh,Dk,rfl,AJ⟩:=vE (f:=gZ) (k:=34) Ac underlying135 rfl kr (C8.o.reads.gp I) AO rfl;have j3:=fun W (ae:Bl aV W) (g:Nat) (ax:W.cell? (ad g 0)=some (.string (az r.path)))=>aDI W B d (t.reads.take q) (by rw [Au.o];exact C9.o.gp ae) (by rw [Au.o];omega) 170 #[pp g 0] (enters_of func170 kr rfl) (fun x=>x.path == r.path) fun bS Dl x _=>aDJ bS x g r.path ((Dl.cell (p:=ad g 0) (aQy _ _ ax)).trans ax);rw [Au.o,aDM DF.o Cz.o AO] at j3;have BL:=(arp r BK.2 BK.1).run;have BM:=FZ r;have Ag:=WG r;have BO:=Ac r;have Ah:(gZ r)[0]?=some (.string (az r.path)):=rfl;have BP:=fun (BJ:j < q)=>arw Ac (C9.o.gp I) (l:=t.reads.take q) (i:=j) (x:=r) (by rw [List.getElem?_take_of_lt BJ];exact AO) Au.o;obtain⟨AL,CS⟩:=ai (gZ r);rw [<- CS] at AJ BL BM Ag BO Ah BP;obtain⟨P,BQ⟩:=ai (az r.path);rw [<- BQ] at j3 Ah;obtain⟨Y,Aw⟩:=ai (wr.alloc (.cells AL.toArray 135));have CU:=gQ Aw;have BX:=lH Aw;have Bb:Bl aV Y:=aR I CU;have CV:=aa (j3 Y Bb wr.heap.size ((BX.cell 0).trans Ah));obtain⟨Ay,CW,CZ,Dm,Dp,Dq,Dr,Dt,Dx⟩:=hq9 AJ Bb BX CU Ah BL BP AO BQ;have Eg:=Aw.symm;clear j3 AJ Bb BX Ah BL BP AO BK CS BQ Aw I;by_cases Bc:j < q
    ·have Ei:(j:Int) < q:=om;have Bd:=aa (fun (W:aRB) (e:W=Y)=>show Calls prog 169 #[.slice B q d,.func (.func 170) #[] #[pp wr.heap.size 0]] W fun e w'=>e = .returned (.int .i64 j)/\Bl Y w' by rw [e];have:=CV.o;rw [if_pos Bc] at this;exact this);obtain⟨Ca,Cb,rfl,Ce⟩:=Dr.o Bc;have Dy:=aa Ce;clear Ce;go_wp2_with (first
      | ((with_reducible refine pY Ay.o ?_ ?_);exact rfl)
      | (with_reducible refine zo AL BO Ag BM ?_)
      | (go_at_call 169; refine jw (Bd.o _ rfl) ?_;intro Ai AB))
     have Cf:=aR CW.o AB.o;have Dz:=aa Cf;have E8:=aa (fun m=>KT (W:=wr) (g:=Ca) (o:=Cb+j * 34) (V:=AL) Dy.o underlying135 rfl Ag (W':=Ai.drewN m) (below_drewN (aR Dm.o AB.o) m));have E9:=aa (fun m=>KT (W:=Y) (g:=wr.heap.size) (o:=0) (V:=AL) (fun i v EB=>by rw [Nat.zero_add,CZ.o.cell i];exact EB) underlying135 rfl Ag (W':=Ai.drewN m) (below_drewN AB.o m));clear Cf;refine wp_region_quiet_lit kr kr ?_;repeat (first | go_big_quiet_step (fail) | ((refine aDN (u:=.agg AL.toArray) (v:=.agg AL.toArray) ⟨rfl,rfl⟩ (arv _ _ _ _ kr) (fun w=>(Dq.o w).2) ?_);simp only [Act.put,List.setIfInBounds_toArray,List.set_cons_succ,List.set_cons_zero]) | (((refine adB (p:=⟨Ca,Cb+j * 34,none⟩) rfl (by rintro _ ⟨m,rfl⟩;exact E8.o m) ?_);simp only [Act.put,List.setIfInBounds_toArray,List.set_cons_succ,List.set_cons_zero])) | (((refine adB (p:=ad wr.heap.size 0) rfl (by rintro _ ⟨m,rfl⟩;exact E9.o m) ?_);simp only [Act.put,List.setIfInBounds_toArray,List.set_cons_succ,List.set_cons_zero])))
     refine wpQuiet_nil ?_;intro _ ED;obtain⟨nq,EG⟩:=ED;subst EG;go_wp2_with fail;go_roundg (gk - 1);case rel=>exact⟨j+1,om,om,by go_num,below_drewN Dz.o _⟩
     case measure=>omega
    ·have Cg:j=q:=om;have Bd:=aa (fun (W:aRB) (e:W=Y)=>show Calls prog 169 #[.slice B q d,.func (.func 170) #[] #[pp wr.heap.size 0]] W fun e w'=>e = .returned (.int .i64 (-1))/\Bl Y w' by rw [e];have:=CV.o;rw [if_neg Bc] at this;exact this);have Bf:=aa (show Jp t q=[.int .i64 1,.string P,.int .i64 0] by unfold Jp;rw [<- Cg,Dt.o,Dx.o]);have Ak:=ZT (.int .i64 1) (.string P) (.int .i64 0);have h1:=ZU 1 P 0;have hl:[Value.int .i64 1,.string P,.int .i64 0].length=[Value.int .i64 0,.string ⟨#[]⟩,.int .i64 0].length:=rfl;have EH:=aa (fun W (h:Bl aV W)=>Bv.o.all h);clear Cg;go_wp2_with (first
      | ((with_reducible refine pY Ay.o ?_ ?_);exact rfl)
      | (with_reducible refine zo AL BO Ag BM ?_)
      | (go_at_call 169; refine (Bd.o _ rfl).mono ?_;rintro e Ai ⟨rfl,AP⟩;have AB:=aa (aR CW.o AP);have Em:Ai.cell? (ad wr.heap.size 0)=some (.string P):=((CZ.o.all AP).cell 0).trans Dp.o;have Bi:=aa (EH.o _ AB.o);clear AP)
      | ((with_reducible refine vC [.int .i64 1,.string P,.int .i64 0] Bi.o Ak hl h1 ?_);intro bS Bn Bo))
     rw [Exit.noGoto_ret];exact D9 Bn.o underlying216 rfl Ak ⟨rfl,rfl,rfl⟩ ⟨by rw [Bf.o],oF (aR Bu.o AB.o) Bo.o (aQm _)⟩
   ·have Dg:¬ (j:Int) < n:=om;have Bf:=aa (show Jp t q=[.int .i64 2,.string ⟨#[]⟩,.int .i64 0] by unfold Jp;rw [List.getElem?_eq_none (by rw [<- Bw.o];omega)]);have EI:wr.cell? (ad CK.heap.size 33)=some (.slice J m M):=(I.cell (p:=ad CK.heap.size 33) (aQy _ _ CE.o)).trans CE.o;have AV:=aa I;clear CL I BJ;go_wp2_with fail;clear EI;obtain⟨gM,EK⟩:=ai wr;subst EK;obtain⟨En,EL⟩:=ai gk;subst EL;go_loopg [48] m (fun gk Af wr=>∃ i:Nat,i+gk=m/\Af = .int .i64 i/\Bl aV wr);case atStart=>exact⟨0,om,rfl,AV.o⟩
    case round =>
     obtain⟨i,ay,rfl,I⟩:=hrel;by_cases Ci:i < m
     ·have Eo:(0:Int)<=i:=om;have EM:(i:Int) < m:=om;obtain⟨x,ah⟩:∃ x,t.outs[i]?=some x:=⟨_,aQp (by rw [<- DD.o];exact Ci)⟩;have Az:=DN.o x (aQr ah);obtain⟨Dh,Dk,rfl,AJ⟩:=vE (f:=mh) (k:=33) Ic underlying268 rfl kr (C8.o.outs.gp I) ah rfl;have Bp:=fun (W:aRB)=>aDK W f x.2 Az;have Ab:=Um x;have Aa:=ZR x;have hlen:=Ic x;have nD:((mh x).drop 1).take (bO x.2).length=bO x.2:=by rw [mh,H7 Az];simp
      have Ck:=zk Az;obtain⟨Cm,Cn,X,Co⟩:=nq2 (mh x) (bO x.2);rw [<- Cn] at AJ Ab Aa hlen nD;rw [<- Co] at Bp nD Ck;obtain⟨Ay,EO,AV⟩:=hq3 AJ Bp I;clear AJ Bp I ah Az Cn Co;go_wp2_with (first
       | ((with_reducible refine pY Ay.o ?_ ?_);exact rfl)
       | (with_reducible refine zo Cm hlen Aa Ab ?_)
       | (with_reducible refine O4 1 X (aM.new wr Cm _) nD underlying59 Ck ?_)
       | (go_at_call 171; refine (EO.o _).mono ?_;rintro e Ai ⟨rfl,AP⟩;have AB:=aa (AV.o.trans ((((Below.refl wr.heap.size wr).alloc (aQm _) _).trans (AP.mono sp)).mono AV.o.size));clear AP))
      go_roundg (gk - 1);case rel=>exact⟨i+1,om,by go_num,AB.o⟩
      case measure=>omega
     ·have EM:¬ (i:Int) < m:=om;have Ak:=ZT (.int .i64 2) (.string ⟨#[]⟩) (.int .i64 z);have h1:=ZU 2 ⟨#[]⟩ z;have hl:[Value.int .i64 2,.string ⟨#[]⟩,.int .i64 z].length=[Value.int .i64 0,.string ⟨#[]⟩,.int .i64 0].length:=rfl;have Bi:=aa (Bv.o.all I);have AV:=aa I;clear Ci I;go_wp2_with (first
       | ((with_reducible refine vC [.int .i64 2,.string ⟨#[]⟩,.int .i64 z] Bi.o Ak hl h1 ?_);intro bS Bn Bo))
      exact D9 Bn.o underlying216 rfl Ak ⟨rfl,rfl,rfl⟩ ⟨by rw [Bf.o,Dc.o];rfl,oF (aR Bu.o AV.o) Bo.o (aQm _)⟩
section
variable {P:Program} {W:aRB} {o:Oper} {a:Act} {K:Act->World->Prop} {Q:aRE}
theorem wp_load_row (g off:Nat) (V vs:aRD) (t:TypeId) (ax:aM W g V t) (nD:(V.drop off).take vs.length=vs) (d:TypeDesc) (hu:P.underlying ty=some d) (ay:(P.info? ty).map (·.size)=some vs.length)
  (ah:o.op = .load ty x/\a.eval x = .pointer (some ⟨g,off,none⟩)/\CF d=true)
  (h:K (a.put o.dst (.agg vs.toArray)) W):o.wp P a W K Q :=
 ag6 ty x ah.1 g off ah.2.1 V.toArray t (0,0) ax vs (fun j aD=>by
  have h1:vs[j]?=((V.drop off).take vs.length)[j]?:=by rw [nD]
  rw [h1,List.getElem?_take_of_lt aD,List.getElem?_drop];simp) d hu ah.2.2 ay h
theorem aD3 {t0:TypeId} (cells:Array Value) (hf:P.built t0 []=some cells) (aG:o.op = .build t0 #[]) (h:K (a.put o.dst (.agg cells)) W):o.wp P a W K Q :=
 wp_build t0 #[] aG (by simp [hf]) (by simpa [hf] using h)
theorem arC {b:BinOp} (A B:Array Value) (r:Value) (zZ:P.eqGuardType P.depth ty=false) (hl:(binOp b ty (.agg A) (.agg B)).run P W = .ok r W)
  (ah:o.op = .binOp b ty x y t2/\a.eval x = .agg A/\a.eval y = .agg B) (h:K (a.put o.dst r) W):o.wp P a W K Q:=by
 unfold Oper.wp execOp;simp [ah.1,ah.2.1,ah.2.2,arv x y A B zZ W,hl];exact h
variable {ops:Array Oper} {rest:List Oper} {dst:Option Tmp} {pos:String} {after:Array Edge} {gP:TypeId}
def Z0 (ops:Array Oper) (a:Act) (zu:Nat) (lJ:Bool):Prop:=∃ aji dg,ops[zu]?=some aji/\aji.dst=some dg/\a.tmps[dg]?=some (.bool lJ)
theorem Z0.wp {zu:Nat} {lJ:Bool} {op:Op} (ax:Z0 ops a zu lJ) (h:Oper.wp P ⟨dst,op,gP,pos,after,some (zu,lJ)⟩ a W (wpList P ops Q rest) Q):wpList P ops Q (⟨dst,op,gP,pos,after,some (zu,lJ)⟩ :: rest) a W:=by obtain⟨aji,dg,I,J,M⟩:=ax;unfold wpList;rw [if_pos (by simp [Region.wanted,yielded,I,J,M])];exact .inl h
variable {zu:Nat} {lJ:Bool}
theorem KW (g off:Nat) (V vs:aRD) (t:TypeId) (ax:aM W g V t) (nD:(V.drop off).take vs.length=vs) (d:TypeDesc) (hu:P.underlying ty=some d) (ay:(P.info? ty).map (·.size)=some vs.length)
  (ah:Z0 ops a zu lJ/\a.eval x = .pointer (some ⟨g,off,none⟩)/\CF d=true)
  (h:wpList P ops Q rest (a.put dst (.agg vs.toArray)) W):wpList P ops Q (⟨dst,.load ty x,gP,pos,after,some (zu,lJ)⟩ :: rest) a W :=
 ah.1.wp (wp_load_row g off V vs t ax nD d hu ay ⟨rfl,ah.2⟩ h)
theorem aD4 {t0:TypeId} (cells:Array Value) (hf:P.built t0 []=some cells) (ah:Z0 ops a zu lJ) (h:wpList P ops Q rest (a.put dst (.agg cells)) W):wpList P ops Q (⟨dst,.build t0 #[],gP,pos,after,some (zu,lJ)⟩ :: rest) a W :=
 ah.wp (aD3 cells hf rfl h)
theorem arD {b:BinOp} (A B:Array Value) (r:Value) (zZ:P.eqGuardType P.depth ty=false) (hl:(binOp b ty (.agg A) (.agg B)).run P W = .ok r W)
  (ah:Z0 ops a zu lJ/\a.eval x = .agg A/\a.eval y = .agg B) (h:wpList P ops Q rest (a.put dst r) W):wpList P ops Q (⟨dst,.binOp b ty x y t2,gP,pos,after,some (zu,lJ)⟩ :: rest) a W :=
 ah.1.wp (arC A B r zZ hl ⟨rfl,ah.2⟩ h)
end
end
section
open Go.RowKit Go.Shelf
structure ajj (r:kJ):Prop where
 may:eF r.path=true
 small:r.path.length<=1000000
 sum:r.sum.length=32
 no:r.is=false->r.sum=Bg
theorem aD5 (w:aRB) (A:aRC) (c:Nat) (l:List kJ) (av:Rd w 34 A l.length (cz gZ l)) (hl:l.length<=1000) (fo:∀ r∈l,ajj r) (xe:(l.map (·.path)).Nodup) :
  CB 211 #[.slice A l.length c] w (.int .i64 0):=by
 obtain⟨n,Ah,aF,AO⟩:=nq2 l.length (w.alloc (.map #[] 0));have BH:Bl w aF:=by rw [AO];exact (Below.refl _ w).alloc (aQm _) _
 have BI:MU aF w.heap.size 0 []:=by rw [AO];exact eQ.made w prog 9 Value.bool
 rw [<- Ah] at av hl |-;obtain⟨BJ,Bv,Bw,C8,C9,CE,CJ⟩:=hq7 Ah av fo xe BH BI AO;have BK:prog.eqGuardType prog.depth 59 = false:=kr;have BL:prog.built 59 []=some (bO Bg).toArray:=kr;have CK:=aa BK;have CL:=aa BL;have CS:=@run_makeMap prog;clear av Ah fo xe BH BI AO BK BL;go_enter func211,ntmps211;go_wp2_with fail;clear CS;rw [<- CJ.o];go_loopg [9] n (fun gk CU wr=>∃ j:Nat,j+gk=n/\CU = .int .i64 j/\Bl w wr/\∃ M,MU wr w.heap.size j M/\Ia M ((l.take j).map (·.path)));case atStart=>exact⟨0,om,rfl,C9.o,[],CE.o,by simpa using Ia.nil⟩
 case round =>
  obtain⟨j,aD,rfl,A7,M,AP,AV⟩:=hrel;have Cm:(0:Int)<=j:=om;by_cases Ai:j < n
  ·have CV:(j:Int) < n:=om;obtain⟨r,av⟩:∃ r,l[j]?=some r:=⟨_,aQp (by rw [<- BJ.o];exact Ai)⟩;have J:=Bw.o r (aQr av);have BM:(getM M r.path).getD false=false:=by
    rw [AV r.path,decide_eq_false_iff_not];intro hm;obtain⟨x,ah,CW⟩:=aQv.1 hm;rw [List.mem_take_iff_getElem] at ah;obtain⟨i,ay,rfl⟩:=ah;have Cn:i < j:=om;have CZ:i < l.length:=om;have h1:(l.map (·.path))[i]?=some r.path:=by rw [List.getElem?_map,List.getElem?_eq_getElem CZ,<- CW];rfl
    have Ca:(l.map (·.path))[j]?=some r.path:=by rw [List.getElem?_map,av];rfl
    have:=(List.getElem?_inj (aQs.1 h1).1 C8.o).1 (h1.trans Ca.symm);omega
   obtain⟨Co,Cs,rfl,Ak⟩:=vE (f:=gZ) (k:=34) Ac underlying135 rfl kr (Bv.o.gp A7) av BJ.o.symm;have Al:=FZ r;have Am:=WG r;have hlen:=Ac r;have AA:(gZ r)[0]?=some (.string (az r.path)):=rfl;have AZ:(gZ r)[1]?=some (.bool r.is):=rfl;have Ao:((gZ r).drop 2).take (bO r.sum).length=bO r.sum:=by rw [gZ,H7 J.sum];simp
   have BO:=zk J.sum;have Y:=fun (h:r.is=false) (W:aRB)=>show (binOp .neq 59 (.agg (bO r.sum).toArray) (.agg (bO Bg).toArray)).run prog W = .ok (.bool false) W by
    rw [aAT _ _ J.sum dc,J.no h];simp
   have BP:(l.take (j+1)).map (·.path)=(l.take j).map (·.path)++[r.path]:=by rw [List.take_add_one,av];simp
   have Ap:=fun (W:aRB)=>OZ W (az r.path) r.path (by rw [iM];have:=J.small;omega) (gU _) J.may;obtain⟨Aa,BQ,X,BX,P,Ab,bi,Bb⟩:=nq4 (gZ r) (bO r.sum) (az r.path) r.is;have Aq:P.data.toList=r.path:=by rw [Ab,gU]
   have Ct:P.size<=1000000:=by rw [Ab,iM];exact J.small
   rw [<- BQ] at Ak Al Am hlen AA AZ Ao;rw [<- BX] at Ao BO Y;rw [<- Ab] at AA Ap;rw [<- Bb] at AZ Y;obtain⟨Au,Ad⟩:=ai (wr.alloc (.cells Aa.toArray 135));have Aw:=gQ Ad;have Ay:=lH Ad;have Ae:MU Au w.heap.size j M:=AP.below Aw AP.lt;have Bc:=aR A7 Aw;have Af:=(Ay.cell 0).trans AA;have AB:=fun W (h:Bl Au W)=>eQ.look (w:=W) (show eQ W prog 9 Value.bool w.heap.size j M from Ae.below h Ae.lt) ZL underlying9 underlying147 false (arf W) P mO;rw [Aq,BM] at AB;obtain⟨Bd,Bf,AJ,Bi,Bn,Ag,Bo,Bp,Cb,Bq,Br,Bt⟩:=hq12 Ak Ap Ay AB Bc Ae AA AZ Y BP AV Aq;have Bu:=Ad.symm;clear Ak Ap Ay AB Bc Ae AA AZ Y BP AV av J BM BQ BX Ab Aq Bb Aw Ad AP A7 Ai;cases bi with
   | true =>
    go_wp2_with (first
     | ((with_reducible refine pY Bd.o ?_ ?_);exact rfl)
     | (with_reducible refine zo Aa hlen Am Al ?_)
     | (go_at_call 43; refine (Bf.o _).mono ?_;rintro e AL ⟨rfl,I⟩;clear Af;have Af:=((AJ.o.all I).cell 0).trans Bo.o;have Ce:=((AJ.o.all I).cell 1).trans Bp.o;have AB:=Bi.o AL I;have Az:=aa (show eQ AL prog 9 Value.bool w.heap.size j M from Ag.o.below I Ag.o.lt);have BA:=aa (aR Bn.o I);clear I Bu)
     | ((with_reducible refine YO Az.o ZL underlying9 underlying147 ?_ P ?_ true ?_ ?_);exact mO;exact mO;exact⟨rfl,rfl,rfl⟩;refine zR ?_;intro Cf BF BG))
    go_roundg (gk - 1);case rel=>exact⟨j+1,om,by go_num,ai1 BA.o BG.o (aQm _),_,by have:=BF.o;rw [Bt.o] at this;exact this,by rw [Bq.o];exact Br.o.put _⟩
    case measure=>omega
   | false =>
    have Y:=Cb.o rfl;have Cg:=aa Y;clear Y;go_wp2_with (first
     | ((with_reducible refine pY Bd.o ?_ ?_);exact rfl)
     | (with_reducible refine zo Aa hlen Am Al ?_)
     | (go_at_call 43; refine (Bf.o _).mono ?_;rintro e AL ⟨rfl,I⟩;clear Af;have Af:=((AJ.o.all I).cell 0).trans Bo.o;have Ce:=((AJ.o.all I).cell 1).trans Bp.o;have AB:=Bi.o AL I;have Ci:=aa (AJ.o.all I);have Az:=aa (show eQ AL prog 9 Value.bool w.heap.size j M from Ag.o.below I Ag.o.lt);have BA:=aa (aR Bn.o I);clear I Bu)
     | ((with_reducible refine KW wr.heap.size 2 Aa X _ Ci.o Ao _ underlying59 BO ?_ ?_);exact⟨⟨_,_,rfl,rfl,rfl⟩,rfl,rfl⟩)
     | ((with_reducible refine aD4 _ CL.o ?_ ?_);exact⟨_,_,rfl,rfl,rfl⟩)
     | ((with_reducible refine arD X.toArray (bO Bg).toArray (.bool false) CK.o (Cg.o _) ?_ ?_);exact⟨⟨_,_,rfl,rfl,rfl⟩,rfl,rfl⟩)
     | ((with_reducible refine YO Az.o ZL underlying9 underlying147 ?_ P ?_ true ?_ ?_);exact mO;exact mO;exact⟨rfl,rfl,rfl⟩;refine zR ?_;intro Cf BF BG))
    go_roundg (gk - 1);case rel=>exact⟨j+1,om,by go_num,ai1 BA.o BG.o (aQm _),_,by have:=BF.o;rw [Bt.o] at this;exact this,by rw [Bq.o];exact Br.o.put _⟩
    case measure=>omega
  ·have CV:¬ (j:Int) < n:=om;have Ck:=aa A7;clear Ai A7 AP AV;go_wp2_with fail;go_ret;exact⟨rfl,Ck.o⟩
end
section
def yM (w:pV) (dN:aRI) (i:Nat):Prop:=dN i\/∃ k,dN k/\xM w k i
theorem yM.next {w:pV} {dN:aRI} (h:yM w dN i) (hw:yc w i j):yM w dN j:=by
 rcases h with h | ⟨k,h1,I⟩
 ·exact .inr ⟨i,h,.one hw⟩
 ·exact .inr ⟨k,h1,I.snoc hw⟩
theorem yM.least {w:pV} {dN P:aRI} (aX:∀ i,dN i->P i) (h1:∀ i j,P i->yc w i j->P j) (h:yM w dN i):P i:=by
 have key:∀ {a b:Nat},xM w a b->P a->P b:=by
  intro a b h;induction h with
  | one h=>exact fun I=>h1 _ _ I h
  | more h _ J=>exact fun I=>J (h1 _ _ I h)
 rcases h with h | ⟨k,M,Y⟩
 ·exact aX i h
 ·exact key Y (aX k M)
structure Di (w:pV) (dN:aRI) (keep:Prop) (M4 KX:aRI) (rec:Nat->Option iN) (dZ:aRG):Prop where
 right:∀ i o,rec i=some o->o=bE w i
 reach:∀ i o,rec i=some o->yM w dN i
 full:keep->∀ i,yM w dN i->rec i≠none
 dZ:∀ i∈dZ,rec i≠none/\(¬ M4 i\/(bE w i).kind≠1)
 F7:∀ i o,rec i=some o->o.kind=1->KX i
 keeps:∀ i,M4 i->KX i
theorem Di.arE {w:pV} {dN:aRI} {keep:Prop} {rec:Nat->Option iN} (h:Di w dN keep M4 KX rec dZ) (av:rec i≠none):rec i=some (bE w i):=by
 cases I:rec i with
 | none=>exact absurd I av
 | some o=>rw [h.right i o I]
theorem Di.same {w:pV} {dN:aRI} {ajm:aRI} {rec Rq:Nat->Option iN} (h:Di w dN True M4 KX rec dZ) (k:Di w dN True Z4 ajm Rq Uq):rec=Rq:=by
 funext i;cases I:rec i with
 | some o =>
  have:=k.arE (k.full trivial i (h.reach i o I));rw [this,h.right i o I]
 | none =>
  cases J:Rq i with
  | none=>rfl
  | some o=>exact absurd I (h.full trivial i (k.reach i o J))
theorem Di.again {w:pV} {dN:aRI} {keep ajn:Prop} {rec Rq:Nat->Option iN} (h:Di w dN keep M4 KX rec dZ) (k:Di w dN ajn KX Z4 Rq Uq) (ay:i∈Uq) {o:iN} (aG:rec i=some o):o.kind≠1:=by
 intro hk;rcases (k.dZ i ay).2 with h1 | h1
 ·exact h1 (h.F7 i o aG hk)
 ·rw [<- h.right i o aG] at h1;exact h1 hk
theorem Di.aD8 {w:pV} {dN:aRI} {ajn:Prop} {ajm:aRI} {rec Rq:Nat->Option iN} (h:Di w dN True M4 KX rec dZ) (k:Di w dN ajn Z4 ajm Rq Uq) (ay:i∈Uq):rec i=some (bE w i):=by
 have h1:=(k.dZ i ay).1;cases I:Rq i with
 | none=>exact absurd I h1
 | some o=>exact h.arE (h.full trivial i (k.reach i o I))
end
end Go.Proofs.YtjkinjbkknanbaaGreatDoor
