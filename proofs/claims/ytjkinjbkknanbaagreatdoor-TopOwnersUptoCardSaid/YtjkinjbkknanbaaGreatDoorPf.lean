/- Pf -/
import Derived.Test.YtjkinjbkknanbaaGreatDoorPe
set_option maxRecDepth 100000
set_option maxHeartbeats 8000000
set_option linter.unusedSimpArgs false
set_option linter.unusedVariables false
namespace Go.Proofs.YtjkinjbkknanbaaGreatDoor
open Go.Proofs.Tryz
variable {a k p:ak}
variable {s s':aJ}
variable {c R g base aO B:Nat}
variable {l:List iU}
variable {t:iU}
variable {v:Env}
variable {w w' W W':aRB}
variable {L:iW}
variable {U:List dz}
variable {q:Option Nat}
variable {A:aRC}
variable {u:Value}
variable {us xs:aRD}
variable {uX:TypeId}
variable {th:rM}
variable {α:Type}
variable {H outs:List fA}
section
open Go.Maps Go.RowKit Go.Shelf
theorem aes:∀ {l:List (ak × ak)} {k:Nat} {p:ak × ak},l[k]?=some p->(Cc l)[k * 2]?=some (.string (az p.1))/\(Cc l)[k * 2+1]?=some (.string (az p.2))
 | [],_,_,h=>by simp at h
 | x :: l,0,p,h=>by
  rw [List.getElem?_cons_zero] at h;cases h;exact⟨rfl,rfl⟩
 | x :: l,k+1,p,h=>by
  rw [List.getElem?_cons_succ] at h;have:=aes h;have I:(k+1) * 2=k * 2+2:=om;rw [I];exact this
def asv (p:ak × ak):List Value:=[.string (az p.1),.string (az p.2)]
theorem aFp (w:aRB) (g:Nat) (arg:ak) (hc:w.cell? (ad g 0)=some (.string (az arg))) (x:ak × ak):CB 225 #[.agg (asv x).toArray,pp g 0] w (.bool (decide (x.1=arg))):=by
 have AJ:=aQy _ _ hc;have h1:=Eb x.1;have M:=Eb arg;show Calls prog 225 #[.agg #[.string (az x.1),.string (az x.2)],pp g 0] w _;obtain⟨X,I,AL,A7,Y,J⟩:=nq3 (az x.1) (az x.2) (az arg);have AB:(X.toList == Y.toList)=decide (x.1=arg):=by rw [I,J,h1,M];exact Bool.eq_iff_iff.2 sp
 rw [<- J] at hc;rw [<- I,<- A7];obtain⟨r,AA⟩:=ai (decide (x.1=arg));rw [<- AA] at AB |-;clear I A7 J AA h1 M;go_enter func225,ntmps225;go_wp2;go_ret;exact⟨rfl,gK⟩
theorem asw (arg:ak):∀ (l:List (ak × ak)) (i:Nat),(Lib.idxByFrom (fun _ y=>decide (y.1=arg)) default l i = -1/\l.find? (fun x=>x.1 == arg)=none)\/∃ k x,l[k]?=some x/\Lib.idxByFrom (fun _ y=>decide (y.1=arg)) default l i=((i+k:Nat):Int)/\l.find? (fun x=>x.1 == arg)=some x
 | [],i=>.inl ⟨rfl,rfl⟩
 | y :: l,i=>by
  by_cases hy:y.1=arg
  ·refine .inr ⟨0,y,rfl,?_,?_⟩
   ·simp [Lib.idxByFrom,hy]
   ·simp [hy]
  ·rcases asw arg l (i+1) with ⟨h1,I⟩ | ⟨k,x,h1,I,J⟩
   ·refine .inl ⟨?_,?_⟩
    ·simpa [Lib.idxByFrom,hy] using h1
    ·rw [List.find?_cons_of_neg (by simpa using hy)];exact I
   ·refine .inr ⟨k+1,x,by rw [List.getElem?_cons_succ];exact h1,?_,?_⟩
    ·have:i+1+k=i+(k+1):=om;rw [this] at I;simpa [Lib.idxByFrom,hy] using I
    ·rw [List.find?_cons_of_neg (by simpa using hy)];exact J
theorem aFq (w:aRB) (A:aRC) (c:Nat) (l:List (ak × ak)) (av:Rd w 2 A l.length (Cc l)) (hl:l.length<=1000000) (g:Nat) (arg:ak) (hc:w.cell? (ad g 0)=some (.string (az arg))) :
  CB 224 #[.slice A l.length c,.func (.func 225) #[] #[pp g 0]] w (.int .i64 (Lib.idxByFrom (fun _ y=>decide (y.1=arg)) default l 0)):=by
 rcases aQH l.length with J | J
 ·obtain rfl:l=[]:=aQC J;have Y:Bl w w:=Below.refl _ _;clear av hc J;show CB 224 #[.slice A 0 c,.func (.func 225) #[] #[pp g 0]] w (.int .i64 (-1));go_enter func224,ntmps224;go_wp2;go_loopw [8] (fun i wr=>i = .int .i64 0/\wr=w) (fun _ _=>0);case atStart=>exact⟨rfl,rfl⟩
  case round =>
   obtain⟨rfl,rfl⟩:=hrel;go_wp2;go_ret;exact⟨rfl,Y⟩
 ·obtain⟨b,o,rfl,hcell⟩:=av.2 J;have aL:∃ p,l[0]?=some p:=⟨_,aQp J⟩;obtain⟨AJ,A7⟩:=aL;have ae:=aQy _ _ (hcell _ _ (aes A7).1);have:=AnyQ.slices_IndexFunc Tryz.tlFind 2 Tryz.isAgg194 Tryz.sizeOf194 asv (fun _=>rfl) (fun y=>decide (y.1=arg)) 225 #[pp g 0] (enters_of func225 kr rfl) b o l.length c l w
   (fun W x M=>aFp W g arg ((M.cell (p:=ad g 0) (aQy _ _ hc)).trans hc) x |>.mono fun e w' k=>⟨k.1,M.trans (k.2.mono M.size)⟩) (aQm _) om ae (fun j aD i v I=>by
    have AA:i < 2:=(aQs.1 I).1;have aL:l[j]?=some l[j]!:=by rw [List.getElem?_eq_getElem aD,getElem!_pos l j aD]
    obtain⟨h1,AB⟩:=aes aL;rw [Nat.add_assoc];match i,AA,I with
    | 0,_,I=>exact (hcell _ _ h1).trans I
    | 1,_,I=>exact (hcell _ _ AB).trans I)
  rw [List.take_length] at this;exact this
theorem aFr [dR] (bn:a.length<=1000000):K7 2 [ME,a]:=by
 intro w L v q s A fe rest AP h hf Ad BG av Ai;generalize Ak:2=n at av Ai |-;have BH:1 < n:=om;clear Ak;refine UC ?_;intro ig eP iZ kM R mW X N nl uR dn aQ EY uQ dF Dl dm cB uq Gi bB vK je t1 v1 t2 v2 t3 v3 t4 v4 t5 v5 t6 v6 t7 E8 t8 E9 kH bP qP dE Fa Bi wu zz Iu La;obtain⟨Aj,Y⟩:=ai v.env.length;have A7:=aa (show ∀ af,Bl w af->af.cell? (ad R 1)=some (.slice L.mi Aj L.mV)/\Rd af 2 L.mi Aj (Cc v.env) from fun af ae=>by
  obtain⟨_,_,_,Bn⟩:=h;rw [Y,dF.o];exact⟨((Bn.below ae).cell 1).1,(Bn.below ae).env.rd⟩)
 obtain⟨AB,AJ⟩:∃ AB,AB=Lib.idxByFrom (fun _ y=>decide (y.1=a)) default v.env 0:=⟨_,rfl⟩;have AA:=aa (fun af (ae:Bl w af) (g:Nat) (hc:af.cell? (ad g 0)=some (.string uR))=>show CB 224 #[.slice L.mi Aj L.mV,.func (.func 225) #[] #[pp g 0]] af (.int .i64 AB) from by
  have:=aFq af L.mi L.mV v.env (by rw [<- Y];exact (A7.o af ae).2) AP.len g a (by rw [<- Gi.o];exact hc);rwa [<- Y,<- AJ] at this)
 have Ae:s.wK v ⟨[ME,a],rest⟩=match v.env.find? fun x=>x.1 == a with | none=>s.fail 10 | some x=>s.add x.2:=rfl
 rw [Ae] at uQ;clear Ae;have Al:=(A7.o bB bP).1;rcases asw a v.env 0 with ⟨h1,AL⟩ | ⟨gW,x,AV,Af,AL⟩
 ·rw [AL] at uQ;have Am:AB < 0:=by rw [AJ,h1];decide
  have AO:=aa fun af (ae:Bl w af)=>RH uQ.o h ae (WS af L v q s (h.below ae) 10);rw [fE,<- dF.o] at AO;clear h hf Ad AP Y AJ h1 AL bn av;go_wp2_with (first
   | (go_at_call 224; refine (AA.o bB bP _ zz).mono ?_;rintro e I ⟨rfl,J⟩;have AZ:=aa J;have Ao:I.cell? (ad w.heap.size 0)=some (pp R 0):=(qP.o I J).r.cell 0;clear J AA wu zz)
   | (go_at_call 226; refine jw (AO.o I (dE.o I AZ.o)) ?_;intro Ap gX))
  exact K6
 ·rw [AL] at uQ;have Ag:AB=(gW:Int):=by rw [AJ,Af,Nat.zero_add]
  have Aq:gW < Aj:=by rw [Y];exact (aQs.1 AV).1
  obtain⟨Au,Aw,Aa,_⟩:=(A7.o w (Below.refl _ _)).2.2 om;obtain⟨Ay,Ab⟩:=ai (az x.2);have Az:=aa (show ∀ af,Bl w af->af.cell? ⟨Au,Aw+gW * 2+1,none⟩=some (.string Ay) from fun af ae=>by
   obtain⟨b',BI,Ah,hc⟩:=(A7.o af ae).2.2 om;rw [Aa] at Ah;cases Ah;rw [Ab];exact hc _ _ (aes AV).2)
  have BA:=(AP.all x (aQr AV)).2;rw [Aa] at A7 AA Al;have Am:¬ (gW:Int) < 0:=om;have BJ:(gW:Int) < Aj:=om;have BK:(0:Int)<=gW:=om;rw [Ag] at AA;have AO:=aa fun af (ae:Bl w af)=>RH uQ.o h ae (WT af L v q s (h.below ae) hf.lim.buf x.2 om);rw [fE,<- dF.o,<- Ab] at AO;clear h hf Ad AP Y AJ Ag Af AL bn av AV Aa Ab BA Aq;go_wp2_with (go_at_call 224; refine (AA.o bB bP _ zz).mono ?_;rintro e I ⟨rfl,J⟩;have AZ:=aa J;have Ao:I.cell? (ad w.heap.size 0)=some (pp R 0):=(qP.o I J).r.cell 0;clear J AA wu zz);have kE:=aa fun af (aj:Bl bB af)=>And.intro ((qP.o af aj).r.cell 0) (And.intro (A7.o af (dE.o af aj)).1 (Az.o af (dE.o af aj)));refine qE 9 [_,_,_,_,_,_,_,_,_] (Bl bB) AZ.o.drew ?_;intro af aj;have BF:=aa (dE.o af aj);clear aj;go_wp2_with (go_at_call 221; refine jw (AO.o af BF.o) ?_;intro Ap gX);exact K6
theorem aFv [dR] (bn:a.length<=1000000):K7 2 [MF,a]:=by
 intro w L v q s A fe rest AB h hf AJ Ad av AV;generalize AZ:2=n at av AV |-;have Ae:1 < n:=om;clear AZ;refine UC ?_;intro ig eP iZ kM R mW X N nl uR dn aQ EY uQ dF Dl dm cB uq Gi bB vK je t1 v1 t2 v2 t3 v3 t4 v4 t5 v5 t6 v6 t7 E8 t8 E9 kH bP qP dE Fa Bi wu zz Iu La;obtain⟨A7,M⟩:=ai ((jP s.buf).any (mJ · a));have Y:=aa (fun (af:aRB) (A:aRC) (c:Nat) (AL:Nat) (aG:Own af AL 9 1 A nl c (cu (jP s.buf))) (ae:Bl w af) (g:Nat) (hc:af.cell? (ad g 0)=some (.string uR))=>show CB 111 #[.slice A nl c,.func (.func 227) #[] #[pp g 0]] af (.bool A7) from by
  rw [uq.o] at aG |-;rw [M];exact aEd af AL A c (jP s.buf) aG (by have:=QH s.buf;have:=hf.lim.buf;omega) (fun y hy=>by have:=Tw hy;have:=hf.lim.buf;omega) g a ⟨by rw [<- Gi.o];exact hc,hf.wh.on ae,bn⟩)
 have AO:s.wK v ⟨[MF,a],rest⟩=if A7=true then s else s.fail 15:=by rw [M];rfl
 rw [AO] at uQ;clear AO;cases A7
 ·have AP:=aa fun af (ae:Bl w af)=>RH uQ.o h ae (WS af L v q s (h.below ae) 15);rw [fE,<- dF.o] at AP;clear h hf AJ AB bn av M;go_wp2_with (first
   | (go_at_call 111; refine (Y.o bB vK je _ kH.o bP _ zz).mono ?_;rintro e I ⟨rfl,J⟩;have AA:=aa J;have Aa:I.cell? (ad w.heap.size 0)=some (pp R 0):=(qP.o I J).r.cell 0;clear J Y wu zz)
   | (go_at_call 226; refine jw (AP.o I (dE.o I AA.o)) ?_;intro Af gX))
  exact K6
 ·have Ab:=aa (fun af (ae:Bl w af)=>show ig (.returned (.tuple #[])) af from by rw [uQ.o];exact⟨q,jM.plain h ae⟩);clear h hf AJ AB bn av M;go_wp2_with (first
   | (go_at_call 111; refine (Y.o bB vK je _ kH.o bP _ zz).mono ?_;rintro e I ⟨rfl,J⟩;have AA:=aa J;have Aa:I.cell? (ad w.heap.size 0)=some (pp R 0):=(qP.o I J).r.cell 0;clear J Y wu zz))
  refine qm ?_;exact Ab.o _ (dE.o _ AA.o)
theorem aFx (A:aRC) (n c:Nat) (mi:aRC) (Aj mV:Nat) (buf:ak) (m:Nat) (asks:ak) (waits:Bool) (d e:pF) :
  laid (um A n c mi Aj mV buf m asks waits d) 6 [.int .i64 e.kind,.string (az e.path),.string (az e.data),.int .i64 e.why]=um A n c mi Aj mV buf m asks waits e:=rfl
theorem aFy [dR]:K7 2 [OV,a]:=by
 intro w L v q s A fe rest Ad h hf Ae Au av Af;generalize Ag:2=n at av Af |-;have Aw:1 < n:=om;clear Ag;refine UC ?_;intro ig eP iZ kM R mW X N nl uR dn aQ EY uQ dF Dl dm cB uq Gi bB vK je t1 v1 t2 v2 t3 v3 t4 v4 t5 v5 t6 v6 t7 E8 t8 E9 kH bP qP dE Fa Bi wu zz Iu La;have AL:=aa (fun af (ae:Bl w af)=>show ∃ cur:Array Value,af.heap[R]?=some (.cells cur 295 (0,0))/\cur.size=10/\(af.setRow R (laid cur 6 [.int .i64 2,.string uR,.string X,.int .i64 0])).cell? (ad R 2)=some (.string X)/\(af.setRow R (laid cur 6 [.int .i64 2,.string uR,.string X,.int .i64 0])).frozen? ⟨R,2,none⟩=false /\
   ig (.returned (.tuple #[])) ((af.setRow R (laid cur 6 [.int .i64 2,.string uR,.string X,.int .i64 0])).setCell ⟨R,2,none⟩ (.string ⟨#[]⟩)) from by
  obtain⟨J,M,us,Ah⟩:=id h;have Y:=Ah.below ae;have AO:=aFx J s.todo.length M L.mi v.env.length L.mV s.buf L.m s.asks s.waits s.over ⟨2,a,s.buf,0⟩;rw [<- Gi.o,<- dm.o] at AO;have Ai:eO (af.setRow R (laid (um J s.todo.length M L.mi v.env.length L.mV s.buf L.m s.asks s.waits s.over) 6 [.int .i64 2,.string uR,.string X,.int .i64 0])) L.R (um J s.todo.length M L.mi v.env.length L.mV s.buf L.m s.asks s.waits ⟨2,a,s.buf,0⟩) 295:=by have I:=Y.run;rw [<- dF.o] at I |-;unfold eO at I |-;rw [setRow_heap af R _ _ _ _ I];exact congrArg (fun z=>some (Obj.cells z 295 (0,0))) AO
  have AA:=dw.setRow (dw.refl L.B af) Y.run (.inl rfl) Y.base (laid (um J s.todo.length M L.mi v.env.length L.mV s.buf L.m s.asks s.waits s.over) 6 [.int .i64 2,.string uR,.string X,.int .i64 0]);rw [<- dF.o] at AA;have AP:=Y.cells (s':={ s with over:=⟨2,a,s.buf,0⟩ }) Ai (fun k hk=>aQA af R k _ (by rw [dF.o];exact hk)) AA rfl rfl rfl;have AB:=AP.one (s':={ s with over:=⟨2,a,s.buf,0⟩,buf:=[] }) (i:=2) (u:=.string ⟨#[]⟩) rfl rfl rfl rfl;have A7:=AP.cell 2;rw [<- dF.o] at AB A7;refine⟨um J s.todo.length M L.mi v.env.length L.mV s.buf L.m s.asks s.waits s.over,?_,rfl,?_,A7.2,?_⟩
  ·have I:=Y.run;rw [<- dF.o] at I;exact I
  ·rw [dm.o];rw [dm.o] at A7;exact A7.1
  ·rw [uQ.o];exact⟨q,rfl,⟨_,_,_,AB.1⟩,(dw.gT ae h.size).trans (AA.trans AB.2)⟩)
 clear h hf Ae Ad av;go_upto_region 21 with fail
 have kE:=aa fun af (aj:Bl bB af)=>And.intro (show af.cell? (ad w.heap.size 0)=some (pp R 0) from (qP.o af aj).r.cell 0) (And.intro (show af.cell? (ad (w.heap.size+1+1) 0)=some (.string uR) from (qP.o af aj).a.cell 0) (EY.o af (dE.o af aj)));refine Kj 9 [_,_,_,_,_,_,_,_,_] ?_;intro af aj;have Ak:=aa (dE.o af aj);have AV:af.cell? (ad w.heap.size 0)=some (pp R 0):=(qP.o af aj).r.cell 0;obtain⟨cur,AJ,gB,Al,Am,AZ⟩:=AL.o af Ak.o;have Ao:w.heap.size≠R:=by
  rintro rfl;have:=(qP.o af aj).r;unfold eO at this;rw [AJ] at this;injection this with this
  injection this with _ this
  cases this
 have Ap:(af.setRow R (laid cur 6 [.int .i64 2,.string uR,.string X,.int .i64 0])).cell? (ad w.heap.size 0)=some (pp R 0):=(aRa (aQA af R _ _ Ao)).trans AV;have Aq:6+[Value.int .i64 2,.string uR,.string X,.int .i64 0].length<=cur.size:=by rw [gB];simp
 have Aa:=aa AZ;clear aj AL AZ gB AV;go_wp2_with ((with_reducible refine yz R 6 (.agg #[.int .i64 2,.string uR,.string X,.int .i64 0]) [.int .i64 2,.string uR,.string X,.int .i64 0] (ad6 _ _ _ _) cur 295 AJ (ad7 _ _ _ _) Aq ad5 ?_ ?_);exact⟨rfl,rfl⟩;obtain⟨Ay,Ab⟩:=ai (af.setRow R (laid cur 6 [.int .i64 2,.string uR,.string X,.int .i64 0]));rw [<- Ab] at Ap Al Am Aa |-;clear Ab AJ);have gX:=Aa;exact K6
theorem asB (hk:[OT,OU,MC,uK,ME,OV,MF,OW].all (· != k)=true) (s:aJ) (v:Env) (rest:ak) (r:List ak):s.wK v ⟨k :: r,rest⟩=s.dK k (r.headD []) (jP s.buf):=by simp at hk;obtain⟨h1,I,J,M,Y,A7,AA,AB⟩:=hk;rw [aJ.wK];simp only [List.headD_cons,List.drop_succ_cons,List.drop_zero];rw [if_neg (Ne.symm h1),if_neg (Ne.symm I),if_neg (Ne.symm J),if_neg (Ne.symm M),if_neg (Ne.symm Y),if_neg (Ne.symm A7),if_neg (Ne.symm AA),if_neg (Ne.symm AB)]
theorem aet [dR] (hk:[OT,OU,MC,uK,ME,OV,MF,OW].all (· != k)=true)
  (aY:∀ (w af:aRB) (L:iW) (v:Env) (q:Option Nat) (s:aJ) (A:aRC) (c:Nat),E5 w af L v q s A c (jP s.buf)->Calls prog 229 #[fE L.R,.string (az k),.string (az []),.slice A (jP s.buf).length c] af (jM w L v q (s.dK k [] (jP s.buf)))):K7 1 [k]:=by
 intro w L v q s A fe rest M h hf Y AJ av AL;refine ajU ?_;intro ig eP iZ R mW X N nl dn EY uQ dF Dl dm cB uq bB vK je t1 v1 t2 v2 t3 v3 t4 v4 t5 v5 t6 v6 t7 E8 t8 E9 kH bP qP dE Fa Bi wu zz Iu La;rw [asB hk] at uQ;have A7:=aa (fun af (ae:Bl w af) (A:aRC) (c:Nat) (aG:Own af w.heap.size 9 1 A nl c (cu (jP s.buf)))=>show Calls prog 229 #[pp R 0,.string N,.string ⟨#[]⟩,.slice A nl c] af fun e aC=>e = .returned (.tuple #[])/\ig (.returned (.tuple #[])) aC from by
  have AO:=hf.lim.buf;have:=aY w af L v q s A c ⟨h,hf,ae,by rw [<- uq.o];exact aG,by have:=QH s.buf;omega,fun y hy=>by have:=Tw hy;omega,by have:=asi s.buf;omega⟩;rw [fE,<- dF.o,<- cB.o,<- uq.o,show az []=⟨#[]⟩ from rfl] at this;refine this.mono fun e aC I=>⟨I.1,?_⟩;have J:=I;rw [I.1] at J;rw [uQ.o];exact⟨q,J⟩)
 clear h hf Y M av hk aY;go_upto_region 6 with fail
 have kE:=aa fun af (aj:Bl bB af)=>And.intro ((qP.o af aj).r.cell 0) (And.intro ((qP.o af aj).c.cell 0) (And.intro (dn.o af (dE.o af aj)) ((qP.o af aj).a.cell 0)));refine Kj 7 [_,_,_,_,_,_,_] ?_;intro af aj;have AA:=aa (dE.o af aj);have AB:=aa (kH.o.below aj (aQm _));clear aj;go_wp2_with (go_at_call 229; refine jw (A7.o af AA.o vK je AB.o) ?_;intro AP gX);exact K6
theorem aFz [dR] (hk:[OT,OU,MC,uK,ME,OV,MF,OW].all (· != k)=true)
  (aY:∀ (w af:aRB) (L:iW) (v:Env) (q:Option Nat) (s:aJ) (A:aRC) (c:Nat),E5 w af L v q s A c (jP s.buf)->Calls prog 229 #[fE L.R,.string (az k),.string (az a),.slice A (jP s.buf).length c] af (jM w L v q (s.dK k a (jP s.buf)))):K7 2 [k,a]:=by
 intro w L v q s A fe rest M h hf Y AO av A7;generalize AA:2=n at av A7 |-;have AP:1 < n:=om;clear AA;refine UC ?_;intro ig eP iZ kM R mW X N nl uR dn aQ EY uQ dF Dl dm cB uq Gi bB vK je t1 v1 t2 v2 t3 v3 t4 v4 t5 v5 t6 v6 t7 E8 t8 E9 kH bP qP dE Fa Bi wu zz Iu La;rw [asB hk] at uQ;have AB:=aa (fun af (ae:Bl w af) (A:aRC) (c:Nat) (aG:Own af w.heap.size 9 1 A nl c (cu (jP s.buf)))=>show Calls prog 229 #[pp R 0,.string N,.string uR,.slice A nl c] af fun e aC=>e = .returned (.tuple #[])/\ig (.returned (.tuple #[])) aC from by
  have AV:=hf.lim.buf;have:=aY w af L v q s A c ⟨h,hf,ae,by rw [<- uq.o];exact aG,by have:=QH s.buf;omega,fun y hy=>by have:=Tw hy;omega,by have:=asi s.buf;omega⟩;rw [fE,<- dF.o,<- cB.o,<- uq.o,<- Gi.o] at this;refine this.mono fun e aC I=>⟨I.1,?_⟩;have J:=I;rw [I.1] at J;rw [uQ.o];exact⟨q,J⟩)
 clear h hf Y M av hk aY;have adP:0 < n:=om;go_upto_region 6 with fail
 have kE:=aa fun af (aj:Bl bB af)=>And.intro ((qP.o af aj).r.cell 0) (And.intro ((qP.o af aj).c.cell 0) (And.intro (dn.o af (dE.o af aj)) ((qP.o af aj).a.cell 0)));refine Kj 7 [_,_,_,_,_,_,_] ?_;intro af aj;have AJ:=aa (dE.o af aj);have AL:=aa (kH.o.below aj (aQm _));clear aj;go_wp2_with (go_at_call 229; refine jw (AB.o af AJ.o vK je AL.o) ?_;intro AZ gX);exact K6
def PD (c:sD):Prop:=Ww c/\adn c/\c.ws.length=if c.ws.headD []=uK then 1 else (vz (c.ws.headD [])).1
theorem aFA {may:ak->Bool} {s:ak} {c:sD} (h:x9 may s=some (some c)) (hs:s.length<=100000):PD c:=by
 obtain⟨h1,J⟩:=aCa h hs;refine⟨J,h1,?_⟩;unfold x9 at h;cases hw:nR s with
 | nil=>rw [hw] at h;cases h
 | cons w r =>
  rw [hw] at h;simp only at h;split at h
  ·cases h
  ·split at h
   ·rename_i hk;cases h;simp [hk]
   ·rename_i hk;split at h
    ·cases h
    ·rename_i I;cases h;show (w :: r).length=if w=uK then 1 else (vz w).1
     rw [if_neg hk,List.length_cons];simp only [not_or,Decidable.not_not] at I;exact I.1.symm
theorem asC {may:ak->Bool} {text:ak} (h:text.length<=100000):∀ c∈qx may (jP text),PD c:=fun c hc=>by
 obtain⟨x,ah,I⟩:=aiw hc;exact aFA I (aQn (Tw ah) h)
theorem aFB [dR] (w:aRB) (L:iW) (v:Env) (aZ:Gh v) (q:Option Nat) (s:aJ) (h:jL w L v q s) (hf:Fit w L s) (iL:∀ t∈s.todo,t.BR=true) (A:aRC) (fe:Nat) (c:sD) (hc:PD c) (av:Rd w 1 A c.ws.length (cu c.ws)) (zq:c.ws.length<=fe) :
  Calls prog 192 #[fE L.R,.agg #[.slice A c.ws.length fe,.string (az c.rest)]] w fun e w'=>∃ gB,jM w L v gB (s.wK v c) e w':=by
 obtain⟨ws,rest⟩:=c;obtain⟨⟨Y,_,hl,A7⟩,J,hlen⟩:=hc;simp only at *;suffices H:K7 ws.length ws from H w L v q s A fe rest aZ h hf iL A7 av zq
 clear av zq;obtain⟨k,r,rfl⟩:∃ k r,ws=k :: r:=by
  cases ws with
  | nil=>exact absurd rfl Y
  | cons k r=>exact⟨k,r,rfl⟩
 unfold adn at J;simp only [List.headD_cons,List.length_cons,List.mem_cons,List.not_mem_nil,or_false] at J hlen;have M:∀ x∈r,x.length<=1000000:=fun x ah=>hl x (by simp [ah]);have one:r.length+1=1->r=[]:=fun h=>aQC om;have two:r.length+1=2->∃ a,r=[a]/\a.length<=1000000:=fun h=>by
  match r,h,M with
  | [a],_,h=>exact⟨a,rfl,h a sp⟩
 rcases J with rfl | rfl | rfl | rfl | rfl | rfl | rfl | rfl | rfl | rfl | rfl | rfl | rfl
 ·obtain⟨a,rfl,I⟩:=two hlen;exact aFl I
 ·obtain⟨a,rfl,I⟩:=two hlen;exact aFm I
 ·obtain⟨a,rfl,I⟩:=two hlen;exact aFy
 ·match r,(hlen:r.length+1=3),M with
  | [a,b],_,h=>exact aFo (h a sp)
 ·obtain⟨a,rfl,I⟩:=two hlen;exact aFr I
 ·obtain⟨a,rfl,I⟩:=two hlen;exact aFz dc fun w af L v q s A c h=>aE8 w af L v q s A c _ h a I
 ·obtain⟨a,rfl,I⟩:=two hlen;exact aFv I
 ·obtain rfl:=one hlen;exact aet dc fun w af L v q s A c h=>aE6 w af L v q s A c _ h []
 ·obtain rfl:=one hlen;exact aet dc fun w af L v q s A c h=>aE7 w af L v q s A c _ h []
 ·obtain rfl:=one hlen;exact aet dc fun w af L v q s A c h=>aFg w af L v q s A c _ h []
 ·obtain rfl:=one hlen;exact aet dc fun w af L v q s A c h=>aFa w af L v q s A c _ h []
 ·obtain rfl:=one hlen;exact aFj
 ·obtain rfl:=one hlen;exact aFk
end
section
open Go.Lib
def Lay (l:List iU):Prop:=∃ a b,l=a++b/\(∀ t∈a,t.BR=false)/\∀ t∈b,t.BR=true
theorem Lay.JH (h:∀ t∈l,t.BR=true):Lay l:=⟨[],l,rfl,fun t I=>(by cases I),h⟩
theorem Lay.cons (h:Lay l) (aA:t.BR=false):Lay (t :: l):=by
 obtain⟨a,b,rfl,h1,I⟩:=h;refine⟨t :: a,b,rfl,fun x ah=>?_,I⟩;rcases aQw.1 ah with rfl | ah
 ·exact aA
 ·exact h1 x ah
theorem Lay.app (h:Lay l):∀ {k:List iU},(∀ t∈k,t.BR=false)->Lay (k++l)
 | [],_=>h
 | t :: k,hk=>(Lay.app h (k:=k) fun x ah=>hk x (by simp [ah])).cons (hk t sp)
theorem Lay.tail (h:Lay (t :: l)):Lay l:=by
 obtain⟨a,b,e,h1,I⟩:=h;cases a with
 | nil =>
  rw [List.nil_append] at e;subst e;exact .JH fun x ah=>I x (by simp [ah])
 | cons y a =>
  rw [List.cons_append] at e;injection e with _ e
  exact⟨a,b,e,fun x ah=>h1 x (by simp [ah]),I⟩
theorem Lay.under (h:Lay (t :: l)) (aA:t.BR=true):∀ x∈l,x.BR=true:=by
 obtain⟨a,b,e,h1,I⟩:=h;cases a with
 | nil =>
  rw [List.nil_append] at e;subst e;exact fun x ah=>I x (by simp [ah])
 | cons y a =>
  rw [List.cons_append] at e;injection e with e _
  subst e;rw [h1 t sp] at aA;cases aA
theorem Lay.grows (h:Lay s.todo) (ax:Hz s s'):Lay s'.todo:=by
 rcases ax.2 with ⟨L,w,e,_⟩ | ⟨p,th,e,_⟩
 ·rw [e];refine h.app fun t I=>?_;obtain⟨x,_,rfl⟩:=aQv.1 I;rfl
 ·rw [e];exact h.cons rfl
theorem Lay.step (h:Lay s.todo):Lay (s.step v).todo:=by
 by_cases hs:s.Still
 ·rw [aJ.Hy hs];exact h
 ·cases I:s.todo with
  | nil =>
   rw [Jf hs I];exact .JH fun t h=>by rw [I] at h;cases h
  | cons t r =>
   rw [step_cons hs I];rw [I] at h;exact Lay.grows (s:={ s with todo:=r }) h.tail (Q5 _ v t)
theorem Lay.next (h:Lay s.todo):Lay s.next.todo:=by
 unfold aJ.next;repeat' split
 all_goals exact h
theorem aFC (l:List sD):Lay (aJ.start l).todo:=.JH fun t I=>by
 obtain⟨c,_,rfl⟩:=aQv.1 I;rfl
end
section
open Go.Maps Go.RowKit Go.Shelf
structure Sound (s:aJ):Prop where
 lim:nA s
 todo:s.todo.length<=10000000000
 seen:s.seen.length<=10000000
 lay:Lay s.todo
 JH:∀ c,iU.cmd c∈s.todo->PD c
structure Home (w:aRB) (L:iW):Prop where
 wh:qK w
 EX:0 < L.B
 base:L.B<=w.heap.size
 Gg:Lib.TabBelow prog L.B w "internal/strconv.uint64pow10" .u64 Lib.pow10Tab
theorem Home.uP [dR] (h:Home w L) (ae:dw L.B w w'):Home w' L:=⟨h.wh.uP ae h.EX,h.EX,aQn h.base ae.size,h.Gg.on ae.below⟩
theorem Home.aFD (h:Home w L) (hs:Sound s) {r:List iU} (aA:s.todo=t :: r):Fit w L { s with todo:=r } :=
 ⟨h.wh,h.EX,⟨hs.lim.buf,fun x ah=>hs.lim.tasks x (by rw [aA];simp [ah]),hs.lim.Be,hs.lim.HV,hs.lim.asks,hs.lim.less⟩,by have:=hs.todo;rw [aA] at this;simp at this;show r.length<=_;omega,by have:=hs.seen;show s.seen.length<=_;omega,h.base,h.Gg⟩
theorem aFE [dR] (w:aRB) (L:iW) (v:Env) (aZ:Gh v) (q:Option Nat) (s:aJ) (h:jL w L v q s) (hf:Fit w L s) (iL:∀ t∈s.todo,t.BR=true) (c:sD) (hc:PD c) (g1 g2:Nat) (h1:yN w g1 L.R) (ag:Z7 w L.R g2 c) :
  Calls prog 191 #[fE g1,fE g2] w fun e w'=>∃ gB,jM w L v gB (s.wK v c) e w':=by
 obtain⟨A,fe,hcell,J,_⟩:=ag;have M:=aFB w L v aZ q s h hf iL A fe c hc J.rd J.2.1;obtain⟨R,Y,n,A7,mW,AA⟩:=nq3 L.R c.ws.length (az c.rest);obtain⟨AB,I⟩:∃ AB:Ending->World->Prop,AB=fun e w'=>∃ gB,jM w L v gB (s.wK v c) e w':=⟨_,rfl⟩;rw [fE,fE,<- I];rw [fE,<- I,<- A7,<- AA,<- Y] at M;have c1:w.cell? (ad g1 0)=some (pp R 0):=by rw [Y];exact h1.cell
 have c2:w.cell? (ad g2 0)=some (.slice A n fe):=by rw [A7];exact hcell.cell 0
 have bF:w.cell? (ad g2 1)=some (.string mW):=by rw [AA];exact hcell.cell 1
 have AJ:Calls prog 192 #[pp R 0,.agg #[.slice A n fe,.string mW]] w fun e af=>e = .returned (.tuple #[])/\AB (.returned (.tuple #[])) af:=M.mono fun e af k=>by
  have AL:=k;rw [I] at k;obtain⟨gB,k⟩:=k;have AO:=k.1;subst AO;exact⟨rfl,AL⟩
 have AP:=aa AJ;clear h hf iL hc h1 hcell J M AJ Y A7 AA I aZ;go_enter func191,ntmps191;go_wp2_with (go_at_call 192; refine jw AP.o ?_;intro AZ AV);refine qm ?_;exact AV.o
theorem aFG [dR] (w:aRB) (L:iW) (v:Env) (q:Option Nat) (s:aJ) (h:jL w L v q s) (hf:Fit w L s) (p:ak) (aL:p.length<=1000000) (th:rM) (kz:th.Ii=true\/MapAt w L q s) (g1 g2 g3:Nat) (u:Value) (h1:eO w g1 #[u] 322) (FT:yO w L.R q u th) (ag:yN w g2 L.R) (au:KY w g3 p) :
  Calls prog 247 #[fE g1,fE g2,fE g3] w (jM w L v q (s.nJ th ((sZ s.known p).getD ⟨[],false,[]⟩))):=by
 have bg:=h.size;obtain⟨A,c,us,av⟩:=h;obtain⟨Ai,M,aj,Ak,AO⟩:=av.known;obtain⟨I,AP,AV,AZ⟩:∃ I,(getM M p).getD Q7=I/\s.nJ th ((sZ s.known p).getD ⟨[],false,[]⟩)=s.nJ th I/\(I.is=true->I.data.length<=1000000):=by
  have Y:=AO p;cases ax:getM M p with
  | none =>
   rw [ax] at Y;rw [<- Y];exact⟨Q7,rfl,rfl,fun e=>by cases e⟩
  | some k =>
   rw [ax] at Y;refine⟨k,rfl,?_,fun Al=>?_⟩
   ·rw [<- Y];exact aJ.arL s th k
   ·have Aa:=hf.lim.Be p (qN k) (by rw [<- Y];rfl);rw [qN,if_pos Al] at Aa;exact Aa rfl
 rw [AV];have Ab:=fun W (J:Bl w W)=>ar4 (v:=v) ⟨A,c,us,av.below J⟩ (hf.below J) (FT.below J) (kz.imp id fun x=>x.below J) I AZ;obtain⟨f,mM,iC,rfl,Ad,hc⟩:=Po.calls Ab (Below.refl _ _);have Aw:∀ (args:Array Value) (w:aRB),(callFunc f args).run prog w = .ok (.enter f args) w:=Ad;obtain⟨F,A7⟩:=ai (xy I);have Ae:=aj.lt;have Af:=av.run.lt;have look:∀ af,Bl w af->(Instr.lookup 290 (.map (some L.m)) (.string (az p)) false).run prog af = .ok F af:=fun af ae=>by
  have:=(aj.below ae Ae).look ajx underlying9 underlying290 Q7 (arU af) (az p) (by rw [iM];unfold maxLen;omega);rw [show (az p).data.toList=p from by simp [az],AP] at this;rw [A7];exact this
 have AA:∀ af,Bl w af->af.cell? (ad L.R 3)=some (.map (some L.m)):=fun af ae=>(ae.cell (p:=ad L.R 3) Af).trans (av.cell 3).1;obtain⟨Ag,AB⟩:=ai (jM w L v q (s.nJ th I));rw [<- A7] at hc;have Ah:∀ W,Bl w W->Calls prog f (mM++#[F]++iC) W fun e af=>e = .returned (.tuple #[])/\Ag (.returned (.tuple #[])) af:=fun W J=>(hc W J).mono (R':=fun e af=>e = .returned (.tuple #[])/\Ag (.returned (.tuple #[])) af) fun e af k=>⟨k.1,by rw [AB];have:=k.since J bg;rw [k.1] at this;exact this⟩;obtain⟨R,aK,m,hm,s0,AJ⟩:=nq3 L.R L.m (az p);rw [fE,fE,fE,<- AB];rw [<- aK,<- hm] at AA;rw [<- hm,<- AJ] at look;have AL:=aa (show ∀ af,Bl w af->af.cell? (ad g1 0)=some (.func (.func f) mM iC)/\af.cell? (ad g2 0)=some (pp R 0)/\af.cell? (ad g3 0)=some (.string s0) from fun af ae=>by
  rw [aK,AJ];exact⟨(h1.below ae).cell 0,(eO.below ag ae).cell 0,(eO.below au ae).cell 0⟩)
 obtain⟨Am,Ao,Ap⟩:=hq3 look AA Ah;clear hc Ah look AA AB A7 aj Ad AP aL aK hm AJ av AO Ak FT AV AZ Ab kz h1 ag au hf Ai Ae Af bg;go_enter func247,ntmps247;go_wp2_with fail;have kE:=aa fun af (aj:Bl w af)=>And.intro ((AL.o af aj).1) (And.intro ((AL.o af aj).2.1) (And.intro (Ao.o af aj) (And.intro ((AL.o af aj).2.2) (Am.o af aj))));refine Kj 7 [_,_,_,_,_,_,_] ?_;refine an5 ?_;intro af Aq;go_wp2_with fail;refine jw (Ap.o af Aq.o) ?_;intro Ay Au;go_wp2_with fail;refine qm ?_;exact Au.o
theorem asD:Enters prog 191:=enters_of func191 kr rfl
theorem asE:Enters prog 247:=enters_of func247 kr rfl
theorem asF:Enters prog 251:=enters_of func251 kr rfl
theorem aFH [dR] (w:aRB) (L:iW) (v:Env) (aZ:Gh v) (q:Option Nat) (s:aJ) (hs:Sound s) (hw:Home w L) (t:iU) (r:List iU) (aA:s.todo=t :: r) (h:jL w L v q { s with todo:=r }) (kz:t.Ii=true\/MapAt w L q s) (u:Value) (hu:ET w L.R q u t) :
  ∃ (f:Nat) (mM iC:Array Value),u = .func (.func f) mM iC/\Enters prog f/\Calls prog f (mM++iC) w fun e w'=>∃ gB,jM w L v gB (aJ.task v { s with todo:=r } t) e w':=by
 have hf:=hw.aFD hs aA;have Y:t∈s.todo:=by rw [aA];simp
 have A7:=hs.lim.tasks t Y;cases t with
 | cmd c =>
  obtain⟨g1,g2,e,h1,I⟩:=hu;refine⟨_,_,_,e,asD,?_⟩;have AA:=hs.lay;rw [aA] at AA;exact aFE w L v aZ q { s with todo:=r } h hf (AA.under rfl) c (hs.JH c Y) g1 g2 h1 I
 | sW p th =>
  obtain⟨g1,g2,g3,u2,e,h1,I,J,M⟩:=hu;refine⟨_,_,_,e,asE,?_⟩;have:=aFG w L v q { s with todo:=r } h hf p A7.1 th kz g1 g2 g3 u2 h1 I J M;exact this.mono fun e w' k=>⟨q,k⟩
 | line x y =>
  obtain⟨g1,g2,g3,g4,e,h1,I,J,M⟩:=hu;refine⟨_,_,_,e,asF,?_⟩;have hm:MapAt w L q s:=kz.resolve_left (fun e=>by cases e);have:=aET w L v aZ.may q { s with todo:=r } h hf hm (by have:=hs.seen;show s.seen.length < _;omega) x y A7.1 g1 g2 g3 g4 h1 I J M;exact this.mono fun e w' k=>⟨q,k⟩
end
section
theorem Xa:∀ {l m:List ak},l.Nodup->(∀ x∈l,x∈m)->l.length<=m.length
 | [],_,_,_=>aQu _
 | x :: l,m,h,hs=>by
  rw [List.nodup_cons] at h;have ah:x∈m:=hs x sp;have h1:∀ y∈l,y∈m.erase x:=fun y hy=>by
   have I:y≠x:=fun e=>h.1 (e ▸ hy);exact (List.mem_erase_of_ne I).2 (hs y (by simp [hy]))
  have J:=Xa h.2 h1;rw [List.length_erase_of_mem ah] at J;have:0 < m.length:=List.length_pos_of_mem ah;rw [List.length_cons];omega
def UF (s:aJ) (p:ak):Prop:=(sZ s.known p).isSome=true
structure Gl (s:aJ):Prop where
 nodup:s.seen.Nodup
 len:s.seen.length<=501
 asked:s.over.kind=4\/∀ p∈s.seen,UF s p\/(s.waits=true/\p=s.asks)
theorem asI (s:aJ) (th:rM) (k:dz):(s.nJ th k).seen=s.seen:=by unfold aJ.nJ;cases th <;> simp only <;> split <;> first | rfl | exact (add_same s _).2.2.2.2
theorem asJ (s:aJ) (p:ak) (th:rM):(s.ask p th).seen=s.seen:=by
 unfold aJ.ask;split
 ·exact asI s th _
 ·split <;> rfl
theorem aj0 (s:aJ) (p w:ak):(s.scan p w).seen=p :: s.seen:=asJ _ _ _
theorem aFI (s:aJ) (p:ak) (th:rM):(s.ask p th).over.kind=4\/UF (s.ask p th) p\/((s.ask p th).waits=true/\p=(s.ask p th).asks):=by
 have ax:=(ain s p th).1;unfold UF;rw [ax];unfold aJ.ask;split
 ·rename_i k hk;right;left;rw [hk];rfl
 ·split
  ·left;rfl
  ·right;right;exact⟨rfl,rfl⟩
theorem Gl.grown (h:Gl s) (aX:s.over.kind=0) (hw:s.waits=false) (ax:Hz s s') (hs:s'.seen=s.seen):Gl s':=by
 have hk:∀ p∈s.seen,UF s p:=fun p aL=>by
  rcases h.asked with h1 | h1
  ·omega
  ·rcases h1 p aL with I | ⟨I,_⟩
   ·exact I
   ·rw [hw] at I;cases I
 refine⟨by rw [hs];exact h.nodup,by rw [hs];exact h.len,.inr fun p aL=>.inl ?_⟩;rw [hs] at aL;have:=hk p aL;unfold UF at this |-;rw [ax.1];exact this
theorem Gl.scan (h:Gl s) (aX:s.over.kind=0) (hw:s.waits=false) (hl:s.known.length<=500) (p w:ak) (aL:p ∉ s.seen):Gl (s.scan p w):=by
 have hk:∀ x∈s.seen,UF s x:=fun x ah=>by
  rcases h.asked with h1 | h1
  ·omega
  ·rcases h1 x ah with I | ⟨I,_⟩
   ·exact I
   ·rw [hw] at I;cases I
 have hlen:s.seen.length<=500:=by have:=Xa h.nodup (m:=s.known.map (·.1)) fun x ah=>aqu.1 (hk x ah);rw [List.length_map] at this;omega
 refine⟨?_,?_,?_⟩
 ·rw [aj0,List.nodup_cons];exact⟨aL,h.nodup⟩
 ·rw [aj0,List.length_cons];omega
 ·rcases aFI { s with seen:=p :: s.seen } p (.scan w) with h1 | h1
  ·exact .inl h1
  ·right;intro x ah;rw [aj0] at ah;rcases aQw.1 ah with rfl | ah
   ·exact h1
   ·left;have I:=hk x ah;unfold UF at I |-;rw [(aio s p w).1];exact I
theorem aFJ (s:aJ) (n a:ak) (l:List ak):(s.dK n a l).seen=s.seen:=(aqp s n a l).2.2.2.2
theorem Gl.task (h:Gl s) (aX:s.over.kind=0) (hw:s.waits=false) (hl:s.known.length<=500) (v:Env) (t:iU):Gl (s.task v t):=by
 have ax:=Q5 s v t;have J:Gl { s with seen:=[] }:=⟨aRb,aQu _,.inr fun p aL=>by cases aL⟩;cases t with
 | cmd c =>
  by_cases I:c.ws.headD []=MC
  ·have he:s.task v (.cmd c)=aJ.scan { s with seen:=[] } ((c.ws.drop 1).headD []) ((c.ws.drop 2).headD []):=by show s.wK v c=_;unfold aJ.wK;simp only [I];rfl
   rw [he];exact J.scan aX hw hl _ _ sp
  ·refine h.grown aX hw ax ?_;show (s.wK v c).seen=s.seen;unfold aJ.wK;simp only;repeat' split
   all_goals first
    | exact asJ s _ _
    | exact (add_same s _).2.2.2.2
    | rfl
    | exact aFJ s _ _ _
    | (rename_i ah;exact absurd ah I)
 | sW p th=>exact h.grown aX hw ax (asI s th _)
 | line x w =>
  unfold aJ.task aJ.line at ax |-;simp only at ax |-;split
  ·rename_i a b M;split
   ·split
    ·exact h
    ·rename_i ae;exact h.scan aX hw hl _ _ ae
   ·refine h.grown aX hw (Wv s _) (add_same s _).2.2.2.2
  ·refine h.grown aX hw (Wv s _) (add_same s _).2.2.2.2
theorem Gl.todo (h:Gl s) (r:List iU):Gl { s with todo:=r }:=⟨h.nodup,h.len,h.asked⟩
structure Inv (U:List dz) (s:aJ):Prop where
 agree:Agree U s
 ord:Ord s
 lay:Lay s.todo
 JH:∀ c,iU.cmd c∈s.todo->PD c
 seen:Gl s
 lU:lU U s<=10000000000
theorem Inv.F7 (h:Inv U s):Good U s:=⟨h.agree,h.ord.MG⟩
theorem aFK (h:∀ c,iU.cmd c∈s.todo->PD c) (ax:Hz s s'):∀ c,iU.cmd c∈s'.todo->PD c:=fun c hc=>by
 rcases ax.2 with ⟨L,w,e,_⟩ | ⟨p,th,e,_⟩
 ·rw [e] at hc;rcases aQI.1 hc with hc | hc
  ·obtain⟨x,_,ah⟩:=aQv.1 hc;cases ah
  ·exact h c hc
 ·rw [e] at hc;rcases aQw.1 hc with hc | hc
  ·cases hc
  ·exact h c hc
theorem Inv.step (h:Inv U s) (v:Env):Inv U (s.step v):=by
 obtain⟨h1,M,_⟩:=h.F7.step v;refine⟨h1.agree,h.ord.step,h.lay.step,?_,?_,aQn M h.lU⟩
 ·by_cases hs:s.Still
  ·rw [aJ.Hy hs];exact h.JH
  ·cases I:s.todo with
   | nil =>
    rw [Jf hs I];exact h.JH
   | cons t r =>
    rw [step_cons hs I];exact aFK (s:={ s with todo:=r }) (fun c hc=>h.JH c (by rw [I];exact aQQ _ hc)) (Q5 _ v t)
 ·by_cases hs:s.Still
  ·rw [aJ.Hy hs];exact h.seen
  ·obtain⟨Y,hw⟩:=Q6 hs;cases I:s.todo with
   | nil =>
    rw [Jf hs I];refine⟨h.seen.nodup,h.seen.len,?_⟩;rcases h.seen.asked with J | J
    ·omega
    ·exact .inr J
   | cons t r =>
    rw [step_cons hs I];exact (h.seen.todo r).task Y hw h.ord.lim.less v t
theorem Inv.run:∀ (n:Nat) {s:aJ},Inv U s->Inv U (s.run v n)
 | 0,_,h=>h
 | n+1,_,h=>Inv.run n (h.step v)
theorem Inv.sound (h:Inv U s):Sound s:=⟨h.ord.lim,aQn h.F7.aB4 h.lU,by have:=h.seen.len;omega,h.lay,h.JH⟩
theorem Inv.stands (h:Inv U s) (v:Env):∃ n,(s.run v n).Still:=h.F7.stands _ (aQm _)
theorem Inv.next (h:Inv U s):Inv U s.next:=by
 have I:=h.ord.next;have hl:=h.lay.next;unfold aJ.next at I hl |-;split at I
 ·rename_i hw;rw [if_pos hw];exact h
 ·rename_i hw;rw [if_neg hw] at hl |-;split at I
  ·rename_i J;rw [if_pos J] at hl |-;refine⟨h.agree,I,hl,h.JH,⟨h.seen.nodup,h.seen.len,?_⟩,h.lU⟩;rcases h.seen.asked with M | M
   ·omega
   ·exact .inr M
  ·rename_i J;rw [if_neg J];exact h
theorem Inv.mE (h:Inv U s) (hw:s.waits=true) (ik:∀ p,(rO U p).is=true->(rO U p).data.length<=1000000):Inv U (s.mE (qN (rO U s.asks))):=by
 obtain⟨w1,af,aC⟩:=h.ord.waits hw;have M:(qN (rO U s.asks)).is=true->(qN (rO U s.asks)).data=(rO U s.asks).data/\(rO U s.asks).is=true:=fun I=>by
  unfold qN at I |-;by_cases ah:(rO U s.asks).is=true
  ·rw [if_pos ah];exact⟨rfl,ah⟩
  ·rw [if_neg ah] at I;cases I
 refine⟨fun p k hk I=>?_,h.ord.mE hw fun I=>?_,h.lay,h.JH,⟨h.seen.nodup,h.seen.len,?_⟩,h.lU⟩
 ·have J:sZ (s.known++[(s.asks,qN (rO U s.asks))]) p=some k:=hk;rw [Zr af] at J;split at J
  ·rename_i aL;cases J;rw [(M I).1,aL]
  ·exact h.agree p k J I
 ·rw [(M I).1];exact ik _ (M I).2
 ·rcases h.seen.asked with Y | Y
  ·exact .inl Y
  ·right;intro p aL;left;show (sZ (s.known++[(s.asks,qN (rO U s.asks))]) p).isSome=true;rw [Zr af];split
   ·rfl
   ·rename_i AA;rcases Y p aL with A7 | ⟨_,A7⟩
    ·exact A7
    ·exact absurd A7 AA
theorem aj1 {l:List sD} (hc:∀ c∈l,PD c) (hl:l.length<=400) (ik:CY U<=20000000):Inv U (aJ.start l):=by
 refine⟨fun p k hk=>(by cases hk),aB7 fun c ah=>(hc c ah).1,aFC l,fun c ah=>?_,⟨aRb,aQu _,.inr fun p aL=>(by cases aL)⟩,?_⟩
 ·obtain⟨c',h1,I⟩:=aQv.1 ah;cases I;exact hc c h1
 ·have h1:=aqk U ([]:List ak);have I:∀ k:List sD,((k.map iU.cmd).map (FR U)).sum=k.length * (CY U+3):=by
   intro k;induction k with
   | nil=>simp
   | cons c k J =>
    simp only [List.map_cons,List.sum_cons,J,List.length_cons,FR,Nat.succ_mul];omega
  have M:lU U (aJ.start l)=l.length * (CY U+3)+Q4 U []:=by unfold lU aJ.start;rw [I]
  have Y:l.length * (CY U+3)<=400 * 20000003:=Nat.mul_le_mul hl om;rw [M];omega
end
section
open Go.Maps Go.RowKit Go.Shelf
theorem aJ.aau (v:Env):∀ (a b:Nat) (s:aJ),s.run v (a+b)=(s.run v a).run v b
 | 0,b,s=>by rw [Nat.zero_add];rfl
 | a+1,b,s=>by rw [show a+1+b=(a+b)+1 by omega,aJ.run,aJ.run,aJ.aau v a b]
theorem aJ.aFL (v:Env) (a:Nat) (s:aJ):s.run v (a+1)=(s.run v a).step v:=by rw [aJ.aau];rfl
theorem nT.pop [dR] {r:List iU} (h:nT w L v q s A c (u :: us)) (aA:s.todo=t :: r) :
  nT (w.setCell ⟨L.R,0,none⟩ (.slice A r.length c)) L v q { s with todo:=r } A c us/\dw L.B w (w.setCell ⟨L.R,0,none⟩ (.slice A r.length c)):=by
 have hlen:s.todo.length=r.length+1:=by rw [aA];rfl
 have J:=h.run;unfold eO at J;have ae:dw L.B w (w.setCell ⟨L.R,0,none⟩ (.slice A r.length c)):=dw.setCell (dw.refl _ _) J (.inl rfl) h.base _ _;have A7:∀ {α:Type} {enc:α->Value} {b m:Nat} {M:fu α},eQ w prog 9 enc b m M->eQ (w.setCell ⟨L.R,0,none⟩ (.slice A r.length c)) prog 9 enc b m M:=fun AA=>AA.keep (aQE _ _ _ _ (aea AA J));refine⟨⟨?_,h.base,?_,fun i AB AJ=>?_,h.env.uP ae dc dc,?_,?_,h.free.size ae.size⟩,ae⟩
 ·unfold eO;rw [setCell_eq_setRow w L.R 0 _ _ _ _ J,setRow_heap w L.R _ _ _ _ J];rfl
 ·have h1:=h.row.take (k:=r.length) om;have AP:us.length=r.length:=by have:=h.count;rw [hlen,List.length_cons] at this;omega
  have I:(u :: us).reverse.take (r.length * 1)=us.reverse:=by rw [Nat.mul_one,List.reverse_cons,List.take_append_of_le_length (by rw [List.length_reverse];omega),List.take_of_length_le (by rw [List.length_reverse];omega)]
  rw [I] at h1;exact h1.setOther (p:=ad L.R 0) (h1.ne J dc) _
 ·obtain⟨x,h1,I⟩:=h.tasks (i+1) AB (by rw [aA,List.getElem?_cons_succ];exact AJ);rw [List.getElem?_cons_succ] at h1;exact⟨x,h1,I.keep ae⟩
 ·obtain⟨h1,M,I,Y⟩:=h.known;exact⟨h1,M,A7 I,Y⟩
 ·rcases h.seen with h1 | ⟨g,M,h1,I,Y,AL,AO⟩
  ·exact .inl fun x ah=>h1 x (by rw [aA];simp [ah])
  ·exact .inr ⟨g,M,h1,I,Y,A7 AL,AO⟩
theorem ET.form (h:ET w R q u t):∃ f mM iC,u = .func (.func f) mM iC/\Enters prog f:=by
 cases t with
 | cmd c =>
  obtain⟨g1,g2,e,_⟩:=h;exact⟨_,_,_,e,asD⟩
 | sW p th =>
  obtain⟨g1,g2,g3,u2,e,_⟩:=h;exact⟨_,_,_,e,asE⟩
 | line x y =>
  obtain⟨g1,g2,g3,g4,e,_⟩:=h;exact⟨_,_,_,e,asF⟩
def asK [dR] (w:aRB) (L:iW) (v:Env) (s:aJ) (e:Ending) (w':aRB):Prop:=e = .returned (.tuple #[])/\(∃ q,jL w' L v q s)/\dw L.B w w'
theorem asL [dR] (w:aRB) (L:iW) (v:Env) (aZ:Gh v) (q:Option Nat) (s:aJ) (h:jL w L v q s) (hw:Home w L) (bR:∀ k,Sound (s.run v k)) (n:Nat) (aB:(s.run v n).Still) :
  Calls prog 199 #[fE L.R] w (asK w L v (s.run v n)):=by
 obtain⟨R,aK,BA,Ao⟩:=nq2 L.R (asK w L v (s.run v n));rw [fE,<- aK,<- Ao];obtain⟨BF,Ad,Bo,Bp,Bq,Br,Bt⟩:=hq7 Ao aK h hw bR aB aZ;clear Ao aK h hw bR aB aZ;go_enter func199,ntmps199;go_wp2_with fail;go_loopg [2] n (fun gk fT wr=>∃ k gB,k+gk=n/\jL wr L v gB (s.run v k)/\dw L.B w wr);case atStart=>exact⟨0,q,om,Bo.o,dw.refl _ _⟩
 case round =>
  obtain⟨k,gB,hk,av,ae⟩:=hrel;have AL:=Bq.o k;have AB:=aJ.aau v k gk s;rw [hk] at AB;have AO:=aJ.aFL v k s;obtain⟨s',Ae⟩:=ai (s.run v k);rw [<- Ae] at av AL AB AO;obtain⟨A,c,us,I⟩:=av;have A7:=I.run;rw [<- Ad.o] at A7;have AV:wr.cell? (ad R 0)=some (.slice A s'.todo.length c):=A7.cell 0;have Ap:wr.cell? (ad R 5)=some (.bool s'.waits):=A7.cell 5;have Aq:wr.cell? (ad R 6)=some (.int .i64 s'.over.kind):=A7.cell 6;have f0:=(I.cell 0).2;rw [<- Ad.o] at f0;by_cases AA:s'.Still
  ·have AP:BA (.returned (.tuple #[])) wr:=by rw [BF.o,AB,aJ.Wt AA];exact⟨rfl,⟨gB,A,c,us,I⟩,ae⟩
   have Ak:=aa AP;by_cases AJ:s'.over.kind=0
   ·have AZ:s'.waits=true:=by
     rcases AA with h1 | h1
     ·exact absurd AJ h1
     ·exact h1
    rw [AJ] at Aq;rw [AZ] at Ap;clear AP AA AB AO Ae AL I A7 ae AJ AZ AV f0;go_wp2_with fail;refine qm ?_;exact Ak.o
   ·have BG:¬ ((s'.over.kind:Int)=0):=om;obtain⟨Bu,BH⟩:=ai (s'.over.kind:Int);rw [<- BH] at Aq BG;have Ck:(Bu == 0)=false:=by rw [beq_eq_false_iff_ne];exact BG
    clear AP AA AB AO Ae AL I A7 ae AJ BH AV f0 Ap;go_wp2_with fail;refine qm ?_;exact Ak.o
  ·obtain⟨AJ,AZ⟩:=Q6 AA;have Au:gk≠0:=by rintro rfl;have:=Br.o;rw [AB] at this;exact AA this
   rw [AJ] at Aq;rw [AZ] at Ap;cases J:s'.todo with
   | nil =>
    rw [J] at AV A7;have Af:=Jf (v:=v) AA J;have AP:BA (.returned (.tuple #[])) (wr.setRow R (um A s'.todo.length c L.mi v.env.length L.mV s'.buf L.m s'.asks s'.waits ⟨3,[],[],0⟩)):=by
     have Bv:s.run v n={ s' with over:=⟨3,[],[],0⟩ }:=by have h1:k+1+(gk - 1)=n:=om;have BI:=aJ.aau v (k+1) (gk - 1) s;rw [h1,AO,Af] at BI;rw [BI];exact aJ.Wt (.inl sp) _
     rw [BF.o,Bv];have Y:=dw.setRow (dw.refl L.B wr) I.run (.inl rfl) I.base (um A s'.todo.length c L.mi v.env.length L.mV s'.buf L.m s'.asks s'.waits ⟨3,[],[],0⟩);rw [Ad.o];exact⟨rfl,⟨gB,A,c,us,I.cells (s':={ s' with over:=⟨3,[],[],0⟩ }) (aQB wr L.R _ _ _ _ I.run) (fun k hk=>aQA wr L.R k _ hk) Y rfl rfl rfl⟩,ae.trans Y⟩
    obtain⟨cur,Al⟩:=ai (um A ([]:List iU).length c L.mi v.env.length L.mV s'.buf L.m s'.asks s'.waits s'.over);have BJ:cur.size=10:=by rw [Al];rfl
    have BK:laid cur 6 [.int .i64 3,.string ⟨#[]⟩,.string ⟨#[]⟩,.int .i64 0]=um A s'.todo.length c L.mi v.env.length L.mV s'.buf L.m s'.asks s'.waits ⟨3,[],[],0⟩:=by rw [Al,J];rfl
    have Bw:wr.heap[R]?=some (.cells cur 295 (0,0)):=by rw [Al];exact A7
    rw [<- BK] at AP;have Ak:=aa AP;have C8:6+[Value.int .i64 3,.string ⟨#[]⟩,.string ⟨#[]⟩,.int .i64 0].length<=cur.size:=by rw [BJ];simp
    have BL:([]:List iU).length=0:=rfl;rw [BL] at AV;clear AP AA AB AO Ae AL I A7 ae AJ AZ J Af Al BJ BK Au f0 BL;go_wp2_with ((with_reducible refine yz R 6 (.agg #[.int .i64 3,.string ⟨#[]⟩,.string ⟨#[]⟩,.int .i64 0]) [.int .i64 3,.string ⟨#[]⟩,.string ⟨#[]⟩,.int .i64 0] (ad6 _ _ _ _) cur 295 Bw (ad7 _ _ _ _) C8 ad5 ?_ ?_);exact⟨rfl,rfl⟩);refine qm ?_;exact Ak.o
   | cons t r =>
    have Af:=step_cons (v:=v) AA J;have Am:=I.count;obtain⟨u,Ag,rfl⟩:∃ u Ag,us=u :: Ag:=by
     cases us with
     | nil=>rw [J] at Am;cases Am
     | cons u Ag=>exact⟨u,Ag,rfl⟩
    obtain⟨Cm,BM,Aw⟩:=I.tasks 0 t (by rw [J];rfl);rw [List.getElem?_cons_zero] at BM;obtain rfl:=aQS BM;obtain⟨f,mM,iC,rfl,BO⟩:=Aw.form;have Cn:∀ (args:Array Value) (w:aRB),(callFunc f args).run prog w = .ok (.enter f args) w:=BO;obtain⟨m,hm⟩:=ai r.length;have BP:s'.todo.length=m+1:=by rw [J,hm];rfl
    obtain⟨N,BQ⟩:=ai s'.todo.length;have C9:N=m+1:=om;obtain⟨Aa,Ab,rfl,hcell⟩:=I.row.rd.2 om;have Ay:wr.cell? (ad Aa (Ab+m))=some (.func (.func f) mM iC):=by
     refine hcell m _ ?_;have CE:Ag.length=m:=by rw [BP,List.length_cons] at Am;omega
     rw [List.reverse_cons,List.getElem?_append_right (by rw [List.length_reverse];omega),List.length_reverse,CE,Nat.sub_self];rfl
    have Co:N<=10000000000:=by have:=AL.todo;omega
    have Cs:N<=c:=by have:=I.row.2.1;omega
    rw [<- BQ] at AV;have CJ:=aQy _ _ Ay;have CK:R < wr.heap.size:=A7.lt;have Ah:=aa (show ∀ af,Bl wr af->af.cell? (ad R 0)=some (.slice (some ⟨Aa,Ab,none⟩) N c)/\af.frozen? ⟨R,0,none⟩=false/\af.cell? (ad Aa (Ab+m))=some (.func (.func f) mM iC) from fun af Y=>⟨(Y.cell (p:=ad R 0) CK).trans AV,by
     have:=((I.below Y).cell 0).2;rwa [<- Ad.o] at this,(Y.cell (p:=ad Aa (Ab+m)) CJ).trans Ay⟩)
    have CL:=aa (show ∀ af,Bl wr af->Calls prog f (mM++iC) (af.setCell ⟨R,0,none⟩ (.slice (some ⟨Aa,Ab,none⟩) m c)) fun e w'=>e = .returned (.tuple #[])/\(∃ Ai,jL w' L v Ai (s.run v (k+1)))/\dw L.B w w' from fun af Y=>by
     have aL:=(I.below Y).pop J;have BX:=(ae.trans (dw.gT Y (aQn I.base (aQ3 I.run.lt)))).trans aL.2;have CS:t.Ii=true\/MapAt (af.setCell ⟨L.R,0,none⟩ (.slice (some ⟨Aa,Ab,none⟩) r.length c)) L gB s':=by
      rcases I.seen with h1 | h1
      ·exact .inl (h1 t (by rw [J];simp))
      ·exact .inr ((MapAt.below (w:=wr) (s:=s') h1 Y).setCell ((I.below Y).run) 0 _)
     obtain⟨Ct,Cv,Cw,CU,_,CV⟩:=aFH _ L v Bt.o gB s' AL (Bp.o.uP BX) t r J ⟨_,_,_,aL.1⟩ CS _ ((Aw.keep (dw.gT (B:=0) Y (aQu _))).keep aL.2);injection CU with Az CW CZ
     injection Az with Az
     subst Az CW CZ;rw [Ad.o,hm];refine CV.mono fun e w' x=>?_;obtain⟨Ai,Ca,Cb,Ce⟩:=x;refine⟨Ca,⟨Ai,?_⟩,BX.trans Ce⟩;rw [AO,Af];exact Cb)
    have Cz:IntKind.i64.wrap ((N:Int) - 1)=(m:Int):=by rw [show (N:Int) - 1=(m:Int) by omega];exact aQ9 _ (by constructor <;> omega)
    have DD:((N:Int) == 0)=false:=by rw [beq_eq_false_iff_ne];omega
    have DF:(0:Int)<=m:=om;have DL:(m:Int) < N:=om;have DN:(m:Int)<=c:=om;have aS:=aa hk;have Bb:=aa Au;clear AA AB AO Ae AL I A7 ae AJ AZ J Af Am Aw BO BP BQ hcell Ay hm hk Au C9 f0;go_wp2_with fail;have kE:=aa fun af (aj:Bl wr af)=>And.intro ((Ah.o af aj).1) ((Ah.o af aj).2.2);refine Kj 13 [_,_,_,_,_,_,_,_,_,_,_,_,_] ?_;intro af aj;have Bc:=aa aj;obtain⟨DR,Bd⟩:=ai af;rw [<- Bd] at Bc |-;clear aj Bd;go_wp2_with fail;have kE:=aa fun af (aj:Bl wr af)=>(Ah.o af aj).1;refine qE 14 [_,_,_,_,_,_,_,_,_,_,_,_,_,_] (Bl wr) (Bc.o.drew) ?_;intro af aj;have DW:=(Ah.o af aj).1;have DX:=(Ah.o af aj).2.1;have Bf:=CL.o af aj;have Cf:=aa Bf;clear aj Bf;go_wp2_with fail;refine Cf.o.mono ?_;rintro e DY ⟨rfl,⟨Ai,Bi⟩,Bn⟩;have Cg:=aa Bi;have Ci:=aa Bn;clear Bi Bn;go_wp2_with fail;go_roundg (gk - 1);case rel=>exact⟨k+1,Ai,by have:=aS.o;have:=Bb.o;omega,Cg.o,Ci.o⟩
    case measure=>have:=Bb.o;omega
def aFO (d:pF):List Value:=[.int .i64 d.kind,.string (az d.path),.string (az d.data),.int .i64 d.why]
def aev (d:pF):Value:=.agg (aFO d).toArray
theorem eO.setOther {b:Nat} {cs cur zw:Array Value} {t:TypeId} {bf:Nat × Nat} (h:eO w g cs t) (ae:w.heap[b]?=some (.cells cur uX bf)) (bJ:t≠uX):eO (w.setRow b zw) g cs t:=by
 unfold eO at *;refine (aQA w b g zw ?_).trans h;rintro rfl;rw [h] at ae;injection ae with ae
 injection ae with _ ae
 exact bJ ae
theorem Own.aj3 {n b:Nat} {t:TypeId} {cur zw:Array Value} {bf:Nat × Nat} (h:Own w base t aO A n c xs) (ae:w.heap[b]?=some (.cells cur uX bf)) (bJ:t≠uX):Own (w.setRow b zw) base t aO A n c xs :=
 h.keep fun k hk _ _=>aQA w b k zw fun e=>h.ne ae bJ (by rw [hk,e])
section
variable {w:aRB} {R:Nat} {q:Option Nat} {b:Nat} {cur zw:Array Value} {bf:Nat × Nat} (ae:w.heap[b]?=some (.cells cur 293 bf))
theorem ES.Fe (ae:w.heap[b]?=some (.cells cur 293 bf)) (h:ES w g q):ES (w.setRow b zw) g q:=by obtain⟨m,h1,I⟩:=h;exact⟨m,h1,eO.setOther I ae dc⟩
theorem Dj.Fe (ae:w.heap[b]?=some (.cells cur 293 bf)) {d:Bj} (h:Dj w R q u d):Dj (w.setRow b zw) R q u d:=by
 cases d with
 | add=>exact h
 | scan x =>
  obtain⟨g1,g2,g3,e,h1,I,J⟩:=h;exact⟨g1,g2,g3,e,eO.setOther h1 ae dc,eO.setOther I ae dc,J.Fe ae⟩
theorem wm.Fe (ae:w.heap[b]?=some (.cells cur 293 bf)) {d:Bj} (h:wm w R q u d):wm (w.setRow b zw) R q u d:=by obtain⟨g1,g2,v,e,h1,I,J⟩:=h;exact⟨g1,g2,v,e,eO.setOther h1 ae dc,eO.setOther I ae dc,J.Fe ae⟩
theorem yO.Fe (ae:w.heap[b]?=some (.cells cur 293 bf)) (h:yO w R q u th):yO (w.setRow b zw) R q u th:=by
 cases th with
 | add=>exact wm.Fe ae h
 | D5 =>
  obtain⟨g1,e,h1⟩:=h;exact⟨g1,e,eO.setOther h1 ae dc⟩
 | scan x=>exact wm.Fe ae h
theorem ET.Fe (ae:w.heap[b]?=some (.cells cur 293 bf)) (h:ET w R q u t):ET (w.setRow b zw) R q u t:=by
 cases t with
 | cmd c =>
  obtain⟨g1,g2,e,h1,A,fe,I,J,M⟩:=h;exact⟨g1,g2,e,eO.setOther h1 ae dc,A,fe,eO.setOther I ae dc,J.aj3 ae dc,M⟩
 | sW p th =>
  obtain⟨g1,g2,g3,v,e,h1,I,J,M⟩:=h;exact⟨g1,g2,g3,v,e,eO.setOther h1 ae dc,I.Fe ae,eO.setOther J ae dc,eO.setOther M ae dc⟩
 | line x y =>
  obtain⟨g1,g2,g3,g4,e,h1,I,J,M⟩:=h;exact⟨g1,g2,g3,g4,e,eO.setOther h1 ae dc,eO.setOther I ae dc,eO.setOther J ae dc,M.Fe ae⟩
theorem nT.Fe (ae:w.heap[b]?=some (.cells cur 293 bf)) [dR] (h:nT w L v q s A c us):nT (w.setRow b zw) L v q s A c us:=by
 have Y:∀ {α:Type} {enc:α->Value} {k m:Nat} {M:fu α},eQ w prog 9 enc k m M->eQ (w.setRow b zw) prog 9 enc k m M:=fun A7=>A7.keep (aQA w b _ zw (aea A7 ae));refine⟨eO.setOther h.run ae dc,h.base,h.row.aj3 ae dc,fun i t AA=>?_,h.env.aj3 ae dc,?_,?_,h.free.size (by simp [World.setRow])⟩
 ·obtain⟨u,h1,I⟩:=h.tasks i t AA;exact⟨u,h1,I.Fe ae⟩
 ·obtain⟨h1,M,I,J⟩:=h.known;exact⟨h1,M,Y I,J⟩
 ·rcases h.seen with h1 | ⟨g,M,h1,I,J,AB,AJ⟩
  ·exact .inl h1
  ·exact .inr ⟨g,M,h1,I,J,Y AB,AJ⟩
end
theorem dw.aj4 [dR] (h:dw B w w') (bg:B<=w.heap.size) (ax:w.heap.size<=g) (cs:Array Value):dw B w (w'.setRow g cs) :=
 ⟨h.os,h.tape,h.output,by simpa using h.size,fun k hk=>(aQA w' g k cs om).trans (h.low k hk),fun k c t bf hk h1 I=>(aQA w' g k cs (by have:=ic hk;omega)).trans (h.cells k c t bf hk h1 I),fun k o hk hc he=>(aQA w' g k cs (by have:=ic hk;omega)).trans (h.maps k o hk hc he)⟩
def aew [dR] (w:aRB) (L:iW) (v:Env) (s:aJ) (e:Ending) (w':aRB):Prop:=e = .returned (aev (qw s))/\(∃ q,jL w' L v q s.next)/\dw L.B w w'
theorem aFP [dR] (w:aRB) (L:iW) (v:Env) (aZ:Gh v) (q:Option Nat) (s:aJ) (h:jL w L v q s) (hw:Home w L) (bR:∀ k,Sound (s.run v k)) (n:Nat) (aB:(s.run v n).Still) :
  Calls prog 196 #[fE L.R] w (aew w L v (s.run v n)):=by
 have BH:=h.size;obtain⟨R,Ai,Cb,BI,w1,Ak⟩:=nq3 L.R (aew w L v (s.run v n)) (w.alloc (.cells #[.int .i64 0,.string ⟨#[]⟩,.string ⟨#[]⟩,.int .i64 0] 293));have Al:=gQ Ak;have Bp:w1.heap[w.heap.size]?=some (.cells #[.int .i64 0,.string ⟨#[]⟩,.string ⟨#[]⟩,.int .i64 0] 293 (0,0)):=by rw [Ak];exact aQt w _
 have BJ:=asL w1 L v aZ q s (h.below Al) (hw.uP (dw.gT Al BH)) bR n aB;obtain⟨S,BK⟩:=ai (s.run v n);rw [fE,<- Ai,<- BI];rw [fE,<- Ai,<- BK] at BJ;have Bq:Cb=aew w L v S:=by rw [BI,BK]
 obtain⟨BL,Br,Ce,Bt,Cf,Am,Cg⟩:=hq7 Bq Ai BJ Bp Al BH Ak;clear BI Bq Ai BJ Bp Al BH h hw bR aB aZ BK Ak;go_enter func196,ntmps196;go_upto_region 4 with (go_at_call 199; rw [<- Cg.o];refine Ce.o.mono ?_;rintro e af ⟨rfl,⟨gB,Bu⟩,Bv⟩;have Ci:=aa Bu;have Bw:=aa Bv;clear Bu Bv)
 obtain⟨A,c,us,AL⟩:=Ci.o;have Y:=AL.run;rw [<- Br.o] at Y;have C8:af.cell? (ad R 4)=some (.string (az S.asks)):=Y.cell 4;have C9:af.cell? (ad R 5)=some (.bool S.waits):=Y.cell 5;have AO:af.heap[w.heap.size]?=some (.cells #[.int .i64 0,.string ⟨#[]⟩,.string ⟨#[]⟩,.int .i64 0] 293 (0,0)):=(Bw.o.cells _ _ _ _ Bt.o dc dc).trans Bt.o;have Ao:=(dw.gT Cf.o Am.o).trans Bw.o;have Ck:=aa AL;have Cm:=aa Ao;cases AB:S.waits with
 | true =>
  rw [AB] at C9;have Ad:qw S=⟨1,S.asks,[],0⟩:=by rw [qw,if_pos AB]
  have AJ:S.next=S:=by rw [aJ.next,if_pos AB]
  have Ap:=aa Ad;have Ae:=aa AJ;obtain⟨X,BM⟩:=ai (az S.asks);rw [<- BM] at C8;have Cn:=aa BM;have Aq:(Value.agg #[.int .i64 1,.string X,.string ⟨#[]⟩,.int .i64 0]).cells.toList=[.int .i64 1,.string X,.string ⟨#[]⟩,.int .i64 0]:=rfl;have Au:(prog.info? 293).map (·.size)=some [Value.int .i64 1,.string X,.string ⟨#[]⟩,.int .i64 0].length:=kr;have Aw:0+[Value.int .i64 1,.string X,.string ⟨#[]⟩,.int .i64 0].length<=(#[.int .i64 0,.string ⟨#[]⟩,.string ⟨#[]⟩,.int .i64 0]:Array Value).size:=aQm _;have Ay:∀ v∈[Value.int .i64 1,.string X,.string ⟨#[]⟩,.int .i64 0],v.oneCell'=true:=by simp [Value.oneCell']
  clear AB Ad AJ BM AL Y Ao;go_wp2_with ((with_reducible refine yz w.heap.size 0 (.agg #[.int .i64 1,.string X,.string ⟨#[]⟩,.int .i64 0]) [.int .i64 1,.string X,.string ⟨#[]⟩,.int .i64 0] Aq #[.int .i64 0,.string ⟨#[]⟩,.string ⟨#[]⟩,.int .i64 0] 293 AO Au Aw Ay ?_ ?_);exact⟨rfl,rfl⟩);simp only [Act.put];refine aQx (v:=.agg [.int .i64 1,.string X,.string ⟨#[]⟩,.int .i64 0].toArray) (aQO rfl _ _ _ 293 _ (0,0) _ rfl (ajy (VX:=[.int .i64 1,.string X,.string ⟨#[]⟩,.int .i64 0]) AO rfl) underlying293 rfl kr) rfl ?_;rw [BL.o];refine⟨?_,⟨gB,A,c,us,?_⟩,Cm.o.aj4 Am.o (aQm _) _⟩
  ·rw [Ap.o,Cn.o];rfl
  ·rw [Ae.o];exact Ck.o.Fe AO
 | false =>
  obtain⟨M,Az,I,BO,J,BP⟩:=nq3 (S.over.kind:Int) (az S.over.path) (az S.over.data);obtain⟨gM,BQ⟩:∃ x:Int,x=S.over.why:=⟨_,rfl⟩;rw [AB] at C9;have DN:af.cell? (ad R 6)=some (.int .i64 M):=by rw [Az];exact Y.cell 6
  have DR:af.cell? (ad R 7)=some (.string I):=by rw [BO];exact Y.cell 7
  have DW:af.cell? (ad R 8)=some (.string J):=by rw [BP];exact Y.cell 8
  have c9:af.cell? (ad R 9)=some (.int .i64 gM):=by rw [BQ];exact Y.cell 9
  have hval:aev S.over = .agg #[.int .i64 M,.string I,.string J,.int .i64 gM]:=by rw [Az,BO,BP,BQ];rfl
  have CE:=aa hval;have Ad:qw S=S.over:=by rw [qw,if_neg (by rw [AB];simp)]
  have Ap:=aa Ad;obtain⟨g,ax⟩:=ai w.heap.size;have BX:=aa ax;obtain⟨aC,BA⟩:=ai (af.alloc (.cells #[.int .i64 M,.string I,.string J,.int .i64 gM] 293));have Af:=gQ BA;have CJ:aC.heap[af.heap.size]?=some (.cells #[.int .i64 M,.string I,.string J,.int .i64 gM] 293 (0,0)):=by rw [BA];exact aQt af _
  have AV:aC.heap[g]?=some (.cells #[.int .i64 0,.string ⟨#[]⟩,.string ⟨#[]⟩,.int .i64 0] 293 (0,0)):=by rw [ax];exact (Af.block _ (ic AO)).trans AO
  have CK:=AL.below Af;have CL:=Ao.trans (dw.gT Af (aQn AL.base (aQ3 AL.run.lt)));have AZ:aC.heap[R]?=some (.cells (um A S.todo.length c L.mi v.env.length L.mV S.buf L.m S.asks S.waits S.over) 295 (0,0)):=(Af.block _ Y.lt).trans Y;obtain⟨A7,Bb⟩:=ai af.heap.size;have Co:A7≠g:=by rw [Bb,ax];have:=ic AO;omega
  obtain⟨Cs,Aa,Ab,Bc,Bd,AP,CS,CU⟩:=hq8 BA CJ Bb AV AZ CK CL Az;have Aq:(Value.agg #[.int .i64 M,.string I,.string J,.int .i64 gM]).cells.toList=[.int .i64 M,.string I,.string J,.int .i64 gM]:=rfl;have Au:(prog.info? 293).map (·.size)=some [Value.int .i64 M,.string I,.string J,.int .i64 gM].length:=kr;have Aw:0+[Value.int .i64 M,.string I,.string J,.int .i64 gM].length<=(#[.int .i64 0,.string ⟨#[]⟩,.string ⟨#[]⟩,.int .i64 0]:Array Value).size:=aQm _;have Ay:∀ v∈[Value.int .i64 M,.string I,.string J,.int .i64 gM],v.oneCell'=true:=by simp [Value.oneCell']
  have CV:=aa AB;clear AB Ad AL Y Ao Az BO BP BQ hval ax BA Af CJ AV CK CL AZ Bb Co AO C8;go_upto_region 7 with fail
  rw [<- Cs.o,<- BX.o,<- Ab.o];have DX:aC.cell? (ad A7 0)=some (.int .i64 M):=by rw [Ab.o];exact aQo aC _ 0 _ _ _ Aa.o
  by_cases Bf:M=2
  ·have CW:(M == 2)=true:=by rw [Bf];rfl
   have Ag:S.over.kind=2:=by have:=CU.o;omega
   have AJ:S.next={ S with over:=pF.none }:=by rw [aJ.next,if_neg (by rw [CV.o];simp),if_pos Ag]
   have Ae:=aa AJ;obtain⟨cur,BF⟩:=ai (um A S.todo.length c L.mi v.env.length L.mV S.buf L.m S.asks S.waits S.over);have CZ:cur.size=10:=by rw [BF];rfl
   have Ca:laid cur 6 [.int .i64 0,.string ⟨#[]⟩,.string ⟨#[]⟩,.int .i64 0]=um A S.todo.length c L.mi v.env.length L.mV S.buf L.m S.asks S.waits pF.none:=by rw [BF];rfl
   have AZ:=Bd.o;rw [<- BF] at AZ;have Ct:6+[Value.int .i64 0,.string ⟨#[]⟩,.string ⟨#[]⟩,.int .i64 0].length<=cur.size:=by rw [CZ];simp
   have Cv:=aa Ca;subst Bf;clear CW Ag AJ BF CZ Ca;go_wp2_with (first
    | ((with_reducible refine yz R 6 (.agg #[.int .i64 0,.string ⟨#[]⟩,.string ⟨#[]⟩,.int .i64 0]) [.int .i64 0,.string ⟨#[]⟩,.string ⟨#[]⟩,.int .i64 0] (ad6 _ _ _ _) cur 295 AZ (ad7 _ _ _ _) Ct ad5 ?_ ?_);exact⟨rfl,rfl⟩;rw [Cv.o];obtain⟨AA,Ah⟩:=ai (aC.setRow R (um A S.todo.length c L.mi v.env.length L.mV S.buf L.m S.asks S.waits pF.none));have Bi:=AP.o.cells (s':={ S with over:=pF.none }) (aQB aC L.R _ _ _ _ AP.o.run) (fun k hk=>aQA aC L.R k _ hk) (dw.setRow (dw.refl L.B aC) AP.o.run (.inl rfl) AP.o.base _) rfl rfl rfl;have Bn:=dw.setRow CS.o AP.o.run (.inl rfl) AP.o.base (um A S.todo.length c L.mi v.env.length L.mV S.buf L.m S.asks S.waits pF.none);have BG:AA.heap[A7]?=some (.cells #[.int .i64 2,.string I,.string J,.int .i64 gM] 293 (0,0)):=(by rw [Ah,Ab.o];refine (aQA aC R _ _ ?_).trans Aa.o;rintro rfl;have h1:=Aa.o;rw [Bd.o] at h1;injection h1 with h1;injection h1 with _ h1;cases h1);have Bo:AA.heap[g]?=some (.cells #[.int .i64 0,.string ⟨#[]⟩,.string ⟨#[]⟩,.int .i64 0] 293 (0,0)):=(by rw [Ah];refine (aQA aC R _ _ ?_).trans Bc.o;rintro rfl;have h1:=Bc.o;rw [Bd.o] at h1;injection h1 with h1;injection h1 with _ h1;cases h1);rw [<- Br.o,<- Ah] at Bi Bn;rw [<- Ah];have Cw:=aa Bi;have Cz:=aa Bn;clear Bi Bn Ah AZ;have DY:AA.cell? (ad A7 0)=some (.int .i64 2):=aQo AA _ 0 _ _ _ BG;have DD:AA.cell? (ad A7 1)=some (.string I):=aQo AA _ 1 _ _ _ BG;have DF:AA.cell? (ad A7 2)=some (.string J):=aQo AA _ 2 _ _ _ BG;have DL:AA.cell? (ad A7 3)=some (.int .i64 gM):=aQo AA _ 3 _ _ _ BG)
    | ((with_reducible refine yz g 0 (.agg #[.int .i64 2,.string I,.string J,.int .i64 gM]) [.int .i64 2,.string I,.string J,.int .i64 gM] Aq #[.int .i64 0,.string ⟨#[]⟩,.string ⟨#[]⟩,.int .i64 0] 293 Bo Au Aw Ay ?_ ?_);exact⟨rfl,rfl⟩))
   simp only [Act.put];refine aQx (v:=.agg [.int .i64 2,.string I,.string J,.int .i64 gM].toArray) (aQO rfl _ _ _ 293 _ (0,0) _ rfl (ajy (VX:=[.int .i64 2,.string I,.string J,.int .i64 gM]) Bo rfl) underlying293 rfl kr) rfl ?_;rw [BL.o];refine⟨?_,⟨gB,A,c,us,?_⟩,Cz.o.aj4 Am.o (by rw [BX.o];exact aQm _) _⟩
   ·rw [Ap.o,CE.o]
   ·rw [Ae.o];exact Cw.o.Fe Bo
  ·have CW:(M == 2)=false:=by rw [beq_eq_false_iff_ne];exact Bf
   have Ag:¬ S.over.kind=2:=by have:=CU.o;omega
   have AJ:S.next=S:=by rw [aJ.next,if_neg (by rw [CV.o];simp),if_neg Ag]
   have Ae:=aa AJ;have AV:=Bc.o;have DD:aC.cell? (ad A7 1)=some (.string I):=by rw [Ab.o];exact aQo aC _ 1 _ _ _ Aa.o
   have DF:aC.cell? (ad A7 2)=some (.string J):=by rw [Ab.o];exact aQo aC _ 2 _ _ _ Aa.o
   have DL:aC.cell? (ad A7 3)=some (.int .i64 gM):=by rw [Ab.o];exact aQo aC _ 3 _ _ _ Aa.o
   clear Ag AJ;go_wp2_with ((with_reducible refine yz g 0 (.agg #[.int .i64 M,.string I,.string J,.int .i64 gM]) [.int .i64 M,.string I,.string J,.int .i64 gM] Aq #[.int .i64 0,.string ⟨#[]⟩,.string ⟨#[]⟩,.int .i64 0] 293 AV Au Aw Ay ?_ ?_);exact⟨rfl,rfl⟩);simp only [Act.put];refine aQx (v:=.agg [.int .i64 M,.string I,.string J,.int .i64 gM].toArray) (aQO rfl _ _ _ 293 _ (0,0) _ rfl (ajy (VX:=[.int .i64 M,.string I,.string J,.int .i64 gM]) AV rfl) underlying293 rfl kr) rfl ?_;rw [BL.o];refine⟨?_,⟨gB,A,c,us,?_⟩,CS.o.aj4 Am.o (by rw [BX.o];exact aQm _) _⟩
   ·rw [Ap.o,CE.o]
   ·rw [Ae.o];exact AP.o.Fe AV
end
section
open Go.Maps Go.RowKit Go.Shelf
def aJ.gave (s:aJ) (k:dz):Nat × aJ :=
 if s.waits=false then (19,s) else if k.path≠s.asks then (1,s) else if k.is=true/\65536 < k.data.length then (6,s) else (0,s.mE (qN k))
theorem asV (x:List UInt8 × α):∀ M:fu α,(zb x M).length=M.length+1
 | []=>rfl
 | y :: r=>by
  unfold zb;split
  ·rfl
  ·rw [List.length_cons,asV x r];rfl
theorem aFQ {M:fu α} {p:aRH} (h:getM M p=none) (a:α):(oz M p a).length=M.length+1:=by
 have I:I4 M p=M:=by unfold I4;rw [List.filter_eq_self];intro y hy;unfold getM at h;rw [Option.map_eq_none_iff,List.find?_eq_none] at h;simpa using h y hy
 rw [oz,asV,I]
theorem nT.mE [dR] (h:nT w L v q s A c us) (k:dz) {M:fu dz} (oC:sZ s.known p=none)
  (aj:eQ w prog 9 xy L.m s.known.length M) (Ga:M.length=s.known.length) (Ce:∀ x,(getM M x).map qN=sZ s.known x) (aA:fU L.m w w') (YC:eQ w' prog 9 xy L.m (s.known.length+1) (oz M p k)) :
  nT w' L v q { s with known:=s.known++[(p,qN k)] } A c us/\dw L.B w w':=by
 have hc:∀ (k:Nat) (cs:Array Value) (t:TypeId) (bf:Nat × Nat),w.heap[k]?=some (.cells cs t bf)->w'.heap[k]?=w.heap[k]?:=fun k cs t bf hk=>aA.2.2.2.2 k fun e=>aj.isMap (by rw [<- e];exact hk);have Y:=h.known.1;have ae:dw L.B w w':=⟨aA.1,aA.2.1,aA.2.2.1,aQL aA.2.2.2.1.symm,fun k hk=>aA.2.2.2.2 k om,fun k cs t bf hk _ _=>hc k cs t bf hk,fun k o _ _ he=>aA.2.2.2.2 k fun e=>h.free.map (e ▸ he)⟩;refine⟨⟨(hc _ _ _ _ h.run).trans h.run,h.base,h.row.keep fun b ae _ _=>?_,fun i t A7=>?_,h.env.uP ae dc dc,⟨Y,oz M p k,?_,?_,fun x=>?_⟩,?_,h.free.size ae.size⟩,ae⟩
 ·obtain⟨_,_,cur,bf,ah⟩:=h.row.block b ae;exact hc _ _ _ _ ah
 ·obtain⟨u,h1,I⟩:=h.tasks i t A7;exact⟨u,h1,I.keep ae⟩
 ·rw [List.length_append];exact YC
 ·have AA:getM M p=none:=by have:=Ce p;rw [oC] at this;exact Option.map_eq_none_iff.1 this
  rw [aFQ AA,List.length_append,Ga];rfl
 ·rw [Zr oC];by_cases ah:x=p
  ·subst ah;rw [Mq,if_pos rfl];rfl
  ·rw [Mr M k ah,if_neg ah];exact Ce x
 ·rcases h.seen with h1 | ⟨g,M2,h1,I,J,AB,AJ⟩
  ·exact .inl h1
  ·exact .inr ⟨g,M2,h1,I,J,AB.keep (aA.2.2.2.2 _ J),AJ⟩
def Xd [dR] (w:aRB) (L:iW) (v:Env) (s:aJ) (k:dz) (e:Ending) (w':aRB):Prop:=e = .returned (.int .i64 (s.gave k).1)/\(∃ q,jL w' L v q (s.gave k).2)/\dw L.B w w'
theorem aFR [dR] (w:aRB) (L:iW) (v:Env) (aZ:Gh v) (q:Option Nat) (s:aJ) (h:jL w L v q s) (hw:Home w L) (bR:∀ k,Sound (s.run v k)) (n:Nat) (aB:(s.run v n).Still) (k:dz) (Ti:k.path.length<=1000000000/\k.data.length<=1000000000) (oC:(s.run v n).waits=true->sZ (s.run v n).known (s.run v n).asks=none) :
  Calls prog 149 #[fE L.R,xy k] w (Xd w L v (s.run v n) k):=by
 have bg:=h.size;obtain⟨R,aK,J,Ai,Y,Ak,qf,Al⟩:=nq4 L.R (az k.path) (az k.data) k.is;have BP:=aa (show xy k = .agg #[.string J,.bool qf,.string Y] by rw [Ai,Ak,Al];rfl);obtain⟨w1,AV⟩:=ai (w.alloc (.cells #[.string J,.bool qf,.string Y] 80));have AZ:=gQ AV;have Bq:=aa (show eO w1 w.heap.size #[.string J,.bool qf,.string Y] 80 by rw [AV];exact aQt w _);have Am:=asL w1 L v aZ q s (h.below AZ) (hw.uP (dw.gT AZ bg)) bR n aB;have BQ:=aa (bR n);obtain⟨S,Ao⟩:=ai (s.run v n);obtain⟨Ap,Aq⟩:=ai (Xd w L v S k);rw [<- Ao] at BQ oC |-;rw [BP.o,fE,<- aK,<- Aq];rw [fE,<- aK,<- Ao] at Am;obtain⟨AS,Aa⟩:=ai (az S.asks);have Ab:=aa Aa;have Au:k.path=S.asks->AS.size<=1000000000:=fun e=>by rw [Aa,iM,<- e];exact Ti.1
 have Br:=aa Au;have AA:=aa (show J.toList=k.path/\AS.toList=S.asks/\Y.size=k.data.length from⟨by rw [Ai];exact Eb _,by rw [Aa];exact Eb _,by rw [Ak,iM]⟩);obtain⟨Ad,Aw,Ay,AB,Bt,Bu,Bv,Bw⟩:=hq8 Al oC Aq aK Am AZ bg AV;clear Aq aK Am AZ bg h hw bR aB aZ Ao AV Ai Ak Ti Al Aa oC Au;go_enter func149,ntmps149;go_upto_region 4 with (go_at_call 199; rw [<- Bw.o];refine Bt.o.mono ?_;rintro e I ⟨rfl,⟨gB,BX⟩,Bb⟩;have C8:=aa BX;have Bc:=aa Bb;clear BX Bb)
 obtain⟨A,c,us,Az⟩:=C8.o;have BA:=Az.run;rw [<- AB.o] at BA;have BF:=aa ((dw.gT Bu.o Bv.o).trans Bc.o);have AJ:=aa (Bq.o.keep Bc.o dc dc);have Ae:=aa Az;have AO:=aa BA;have Bd:=aa (show L.B<=I.heap.size from Ae.o.size);clear Az BA;cases AL:S.waits with
 | false =>
  have C9:I.cell? (ad R 5)=some (.bool false):=by rw [<- AL];exact AO.o.cell 5
  go_wp2_with fail;change Ap (.returned (.int .i64 19)) _;rw [Ay.o,Xd,aJ.gave,if_pos AL];exact⟨rfl,⟨gB,A,c,us,Ae.o⟩,BF.o⟩
 | true =>
  have C9:I.cell? (ad R 5)=some (.bool true):=by rw [<- AL];exact AO.o.cell 5
  have Aw:=aa (Aw.o AL);have BG:=aa AL;clear AL;go_upto_region 6 with fail
  have kE:=aa fun af (aj:Bl I af)=>And.intro (show af.cell? (ad w.heap.size 0)=some (.string J) from (AJ.o.below aj).cell 0) (show af.cell? (ad R 4)=some (.string AS) from by rw [Ab.o];exact (AO.o.below aj).cell 4);refine Kj 8 [_,_,_,_,_,_,_,_] ?_;intro af aj;have Af:=aa aj;have d1:af.cell? (ad w.heap.size 1)=some (.bool qf):=(AJ.o.below aj).cell 1;have d2:af.cell? (ad w.heap.size 2)=some (.string Y):=(AJ.o.below aj).cell 2;obtain⟨uJ,Bf⟩:=ai af;rw [<- Bf] at Af d1 d2 |-;clear aj Bf;have Bi:∀ z,S.gave k=(z,S)->Ap (.returned (.int .i64 z)) uJ:=fun z CE=>by
   rw [Ay.o,Xd,CE];exact⟨rfl,⟨gB,A,c,us,Ae.o.below Af.o⟩,BF.o.trans (dw.gT Af.o Bd.o)⟩
  have BH:=aa Bi;clear Bi;by_cases heq:k.path=S.asks
  rotate_left
  ·have CJ:(J.toList == AS.toList)=false:=by rw [AA.o.1,AA.o.2.1,beq_eq_false_iff_ne];exact heq
   have Ag:=aa heq;clear heq;simp only [CJ,Bool.not_false];go_wp2_with fail;exact BH.o 1 (by rw [aJ.gave,if_neg (by rw [BG.o];simp),if_pos Ag.o])
  have CK:(J.toList == AS.toList)=true:=by rw [AA.o.1,AA.o.2.1,heq];simp
  simp only [CK,Bool.not_true];have Au:=Br.o heq;have Ag:=aa heq;clear heq;by_cases hl:k.is=true/\65536 < k.data.length
  ·have BI:(65536:Int) < Y.size:=by have:=AA.o.2.2;omega
   rw [<- Ad.o] at hl;obtain rfl:=hl.1;have CL:=aa hl.2;clear hl;go_wp2_with fail;exact BH.o 6 (by rw [aJ.gave,if_neg (by rw [BG.o];simp),if_neg (by simpa using Ag.o),if_pos ⟨Ad.o.symm,CL.o⟩])
  have BI:qf=true->¬ (65536:Int) < Y.size:=fun e=>by
   have:=AA.o.2.2;rw [Ad.o] at e;exact fun h=>hl ⟨e,om⟩
  have CS:=aa (show S.gave k=(0,S.mE (qN k)) by rw [aJ.gave,if_neg (by rw [BG.o];simp),if_neg (by simpa using Ag.o),if_neg hl]);clear hl Ad BH;cases qf;all_goals
   try replace BI:=BI rfl
   go_upto_region 10 with fail
   clear d1 d2;obtain⟨m,hm⟩:=ai L.m;have Ah:=aa hm;clear hm;have kE:=aa fun af (aj:Bl I af)=>And.intro (show af.cell? (ad R 3)=some (.map (some m)) from by rw [Ah.o];exact (AO.o.below aj).cell 3) (And.intro (show af.cell? (ad R 4)=some (.string AS) from by rw [Ab.o];exact (AO.o.below aj).cell 4) (And.intro (show af.cell? (ad w.heap.size 0)=some (.string J) from (AJ.o.below aj).cell 0) (And.intro (show af.cell? (ad w.heap.size 1)=some (.bool _) from (AJ.o.below aj).cell 1) (show af.cell? (ad w.heap.size 2)=some (.string Y) from (AJ.o.below aj).cell 2))));refine qE 9 [_,_,_,_,_,_,_,_,_] (Bl I) (Af.o.drew) ?_;intro af aj;have BJ:=Ae.o.below aj;obtain⟨CU,M,tT,Bn,Bo⟩:=BJ.known;have CV:S.known.length<=500:=BQ.o.lim.less;have CW:=aa tT;have BK:=tT;rw [<- Ah.o] at BK;have CZ:=aa BK;have Ca:=aa (BF.o.trans (dw.gT aj Bd.o));obtain⟨Cb,Ce,Cf⟩:=hq3 BJ Bo Bn;have Cg:y8 (S.known.length < maxLen):=aa mO;clear aj BJ tT BK Bo Bn CU CV;go_upto_region 11 with ((with_reducible refine YO CZ.o ajx underlying9 underlying290 Cg.o AS ?_ k ?_ ?_);exact mO;exact⟨rfl,rfl,BP.o.symm⟩;intro AP BL Bp)
   have A7:=Cb.o.mE k Aw.o CW.o Cf.o Ce.o (by rw [<- Ah.o];exact Bp) (by
    rw [<- Ah.o];rw [show AS.data.toList=S.asks from by rw [Ab.o];simp [az]] at BL;exact BL)
   have BM:=A7.1.one (s':={ S with known:=S.known++[(S.asks,qN k)],asks:=[] }) (i:=4) (u:=.string ⟨#[]⟩) rfl rfl rfl rfl;have BO:=BM.1.one (s':={ S with known:=S.known++[(S.asks,qN k)],asks:=[],waits:=false }) (i:=5) (u:=.bool false) rfl rfl rfl rfl;have Ck:AP.cell? (ad R 4)=some (.string AS):=by rw [Ab.o,AB.o];exact (A7.1.cell 4).1
   have Cm:AP.cell? (ad R 5)=some (.bool S.waits):=by rw [AB.o];exact (A7.1.cell 5).1
   have z4:AP.frozen? ⟨R,4,none⟩=false:=by rw [AB.o];exact (A7.1.cell 4).2
   have z5:AP.frozen? ⟨R,5,none⟩=false:=by rw [AB.o];exact (A7.1.cell 5).2
   have Ci:=aa (show Ap (.returned (.int .i64 0)) ((AP.setCell ⟨R,4,none⟩ (.string ⟨#[]⟩)).setCell ⟨R,5,none⟩ (.bool false)) by
    rw [Ay.o,AB.o,Xd,CS.o];exact⟨rfl,⟨gB,A,c,us,BO.1⟩,Ca.o.trans (A7.2.trans (BM.2.trans BO.2))⟩)
   clear A7 BM BO BL Bp;try simp only [Act.put]
   go_wp2_with fail;exact Ci.o
end
section
structure dA where
 ps:aJ
 wrote:fu ak
 reads:List kJ
 asks:ak
 over:Bool
 why:Nat
structure nV where
 v:Env
 may:ak->Bool
 outs:List ak
 sum:dz->kJ
open Classical in
noncomputable def xA (v:Env) (s:aJ):aJ:=if h:∃ n,(s.run v n).Still then s.run v (Classical.choose h) else s
theorem Lg {n:Nat} (h:(s.run v n).Still):xA v s=s.run v n:=by
 have ah:∃ n,(s.run v n).Still:=⟨n,h⟩;rw [xA,dif_pos ah];have hc:=aRA ah;have key:∀ a b:Nat,(s.run v a).Still->a<=b->s.run v b=s.run v a:=fun a b I J=>by
  rw [show b=a+(b - a) by omega,aJ.aau,aJ.Wt I]
 rcases Nat.le_total (Classical.choose ah) n with hle | hle
 ·exact (key _ _ hc hle).symm
 ·exact key _ _ h hle
def dA.fail (b:dA) (y:Nat):dA:={ b with over:=true,why:=y }
def dA.did (P:nV) (b:dA) (d:pF):dA :=
 if d.kind=1 then (if P.may d.path=true then { b with asks:=d.path } else b.fail 13)
 else if d.kind=2 then (if (getM b.wrote d.path).isSome=true\/d.path ∉ P.outs then b.fail 14 else { b with wrote:=oz b.wrote d.path d.data })
 else if d.kind=3 then { b with over:=true,why:=if P.outs.all (fun p=>(getM b.wrote p).isSome) then b.why else 14 }
 else b.fail d.why
noncomputable def rz (P:nV):Nat->dA->dA
 | 0,b=>b
 | n+1,b=>if b.over=true then b else
  let s:=xA P.v b.ps;let b':=dA.did P { b with ps:=s.next } (qw s)
  if (qw s).kind=1 then b' else rz P n b'
noncomputable def dA.mE (P:nV) (b:dA) (k:dz):dA :=
 if b.over=true\/k.path≠b.asks\/(k.is=true/\65536 < k.data.length) then b
 else let g:=b.ps.gave k
  let eP:dA:={ b with ps:=g.2,reads:=b.reads++[P.sum k] }
  if g.1≠0 then eP.fail g.1 else rz P 402 eP
def dA.out (b:dA):iN:=if b.why=0 then ⟨1,0,b.wrote,b.reads⟩ else ⟨2,b.why,[],b.reads⟩
noncomputable def dA.start (P:nV) (text:ak):dA :=
 if (pR eF text).1=0 then rz P 402 ⟨aJ.start (qx eF (jP text)),[],[],[],false,0⟩
 else ⟨aJ.start [],[],[],[],true,(pR eF text).1⟩
noncomputable def Lh (P:nV) (text:ak):ML:=⟨dA,dA.start P text,fun b=>if b.over=true then none else some b.asks,dA.mE P,dA.out⟩
def p9 (l:List iU):Nat:=l.countP iU.BR
theorem aaz {t:ak} (h:(s.add t).over.kind=2):s.over.kind=2:=by
 unfold aJ.add at h;split at h
 ·cases h
 ·exact h
theorem asY {k:dz} (h:(s.nJ th k).over.kind=2):s.over.kind=2:=by
 unfold aJ.nJ at h;cases th <;> simp only at h <;> split at h
 all_goals first
  | exact aaz h
  | exact h
  | cases h
theorem asZ (h:(s.ask p th).over.kind=2):s.over.kind=2:=by
 unfold aJ.ask at h;split at h
 ·exact asY h
 ·split at h
  ·cases h
  ·exact h
theorem as0 {w:ak} (h:(s.scan p w).over.kind=2):s.over.kind=2:=by unfold aJ.scan at h;exact asZ (s:={ s with seen:=p :: s.seen }) h
theorem akc (hc:t.BR=false) (h:(s.task v t).over.kind=2):s.over.kind=2:=by
 cases t with
 | cmd c=>cases hc
 | sW p th=>exact asY h
 | line x w =>
  unfold aJ.task aJ.line at h;simp only at h;split at h
  ·split at h
   ·split at h
    ·exact h
    ·exact as0 h
   ·exact aaz h
  ·exact aaz h
theorem aFS (h:Hz s s'):p9 s'.todo=p9 s.todo:=by
 rcases h.2 with ⟨L,w,e,_⟩ | ⟨p,th,e,_⟩
 ·have I:∀ L:List ak,List.countP iU.BR (L.map (iU.line · w))=0:=fun L=>by
   rw [List.countP_eq_zero];intro t J;obtain⟨x,_,rfl⟩:=aQv.1 J;simp [iU.BR]
  rw [e,p9,List.countP_append,I,Nat.zero_add,p9]
 ·rw [e,p9,List.countP_cons];simp [iU.BR,p9]
theorem aFT (v:Env) (s:aJ):p9 (s.step v).todo<=p9 s.todo/\(¬ s.Still->(s.step v).over.kind=2->p9 (s.step v).todo < p9 s.todo):=by
 by_cases hs:s.Still
 ·rw [aJ.Hy hs];exact⟨aQm _,fun h=>absurd hs h⟩
 ·cases I:s.todo with
  | nil =>
   rw [Jf hs I];exact⟨by simp [I],fun _ h=>(by cases h)⟩
  | cons t r =>
   rw [step_cons hs I];have ax:=aFS (Q5 { s with todo:=r } v t);rw [ax];refine⟨by simp [p9,List.countP_cons],fun _ J=>?_⟩;cases hc:t.BR with
   | true=>simp [p9,List.countP_cons,hc]
   | false =>
    have:=akc hc J;have M:=(Q6 hs).1;simp only at this;omega
theorem aeB (v:Env):∀ (n:Nat) (s:aJ),s.over.kind≠2->p9 (s.run v n).todo<=p9 s.todo/\((s.run v n).over.kind=2->p9 (s.run v n).todo < p9 s.todo)
 | 0,s,I=>⟨aQm _,fun h=>absurd h I⟩
 | n+1,s,I=>by
  rw [aJ.run];obtain⟨h1,J⟩:=aFT v s;by_cases hs:s.Still
  ·rw [aJ.Hy hs,aJ.Wt hs];exact⟨aQm _,fun h=>absurd h I⟩
  ·by_cases hk:(s.step v).over.kind=2
   ·rw [aJ.Wt (.inl om)];exact⟨h1,fun _=>J hs hk⟩
   ·obtain⟨Y,M⟩:=aeB v n (s.step v) hk;exact⟨om,fun h=>by have:=M h;omega⟩
def Ar (d:pF):Prop:=(d.kind=2->d.data.length<=65536)/\(d.kind=4->d.why≠0)
theorem aeC (s:aJ) {y:Nat} (hy:y≠0):Ar (s.fail y).over:=⟨fun e=>(by cases e),fun _=>hy⟩
theorem aeD (h:Ar s.over) (t:ak):Ar (s.add t).over:=by
 unfold aJ.add;split
 ·exact aeC s dc
 ·exact h
theorem as1 (h:Ar s.over) (th:rM) (k:dz):Ar (s.nJ th k).over:=by
 unfold aJ.nJ;cases th <;> simp only <;> split
 all_goals first
  | exact aeD h _
  | exact aeC s dc
  | exact h
theorem as2 (h:Ar s.over) (p:ak) (th:rM):Ar (s.ask p th).over:=by
 unfold aJ.ask;split
 ·exact as1 h _ _
 ·split
  ·exact aeC s dc
  ·exact h
theorem as3 (h:Ar s.over) (p w:ak):Ar (s.scan p w).over:=by unfold aJ.scan;exact as2 (s:={ s with seen:=p :: s.seen }) h _ _
theorem aFU (h:Ar s.over) (n a:ak) (l:List ak):Ar (s.dK n a l).over:=by
 unfold aJ.dK;repeat' split
 all_goals first
  | exact aeD (s:={ s with buf:=[] }) h _
  | exact h
theorem aFV (h:Ar s.over) (ae:s.buf.length<=65536) (t:iU):Ar (s.task v t).over:=by
 cases t with
 | cmd c =>
  unfold aJ.task aJ.wK;simp only;repeat' split
  all_goals first
   | exact as2 h _ _
   | exact as3 (s:={ s with seen:=[] }) h _ _
   | exact aeD h _
   | exact aeC s dc
   | exact⟨fun _=>ae,fun e=>(by cases e)⟩
   | exact aFU h _ _ _
   | exact h
 | sW p th=>exact as1 h _ _
 | line x w =>
  unfold aJ.task aJ.line;simp only;repeat' split
  all_goals first
   | exact h
   | exact as3 h _ _
   | exact aeD h _
theorem aFW (h:Ar s.over) (ae:s.buf.length<=65536):Ar (s.step v).over:=by
 unfold aJ.step;split
 ·exact h
 ·split
  ·exact⟨fun e=>(by cases e),fun e=>(by cases e)⟩
  ·rename_i t r I;exact aFV (s:={ s with todo:=r }) h ae t
theorem as4:∀ (n:Nat) {s:aJ},Inv U s->Ar s.over->Ar (s.run v n).over
 | 0,_,_,h=>h
 | n+1,_,I,h=>as4 n (I.step v) (aFW h I.ord.lim.buf)
theorem as5 (v:Env):∀ (n:Nat) (s:aJ),(s.run v n).known=s.known
 | 0,_=>rfl
 | n+1,s=>by
  rw [aJ.run,as5 v n];by_cases hs:s.Still
  ·rw [aJ.Hy hs]
  ·cases I:s.todo with
   | nil=>rw [Jf hs I]
   | cons t r =>
    rw [step_cons hs I];exact (Q5 _ v t).1
structure uS (P:nV) (U:List dz) (b:dA):Prop where
 inv:Inv U b.ps
 fresh:b.ps.over.kind≠2
 ok:Ar b.ps.over
 keys:b.ps.known.map (·.1)=b.reads.map (·.path)
 wrote:∀ x∈b.wrote,x.2.length<=65536/\x.1∈P.outs
 why:b.over=false->b.why=0
 full:b.over=true->b.why=0->∀ p∈P.outs,(getM b.wrote p).isSome=true
 RL:∀ r∈b.reads,P.may r.path=true
 few:p9 b.ps.todo<=401
 A8:Ha b.wrote
def UO (P:nV) (b:dA):Prop:=b.over=true\/(b.ps.waits=true/\b.asks=b.ps.asks/\P.may b.asks=true)
theorem aFX (h:Inv U s):s.next.over.kind≠2:=by
 unfold aJ.next;split
 ·rename_i hw;rw [(h.ord.waits hw).1];decide
 ·split
  ·exact fun e=>(by cases e)
  ·assumption
theorem aaA (k:aRH):bytesBefore k k=false:=by rw [<- Bool.not_eq_true,Og];exact List.lt_irrefl _
theorem as6 {a b c:aRH} (h1:bytesBefore a b=true) (ag:bytesBefore b c=true):bytesBefore a c=true:=by rw [Og] at *;exact List.lt_trans h1 ag
theorem aFY (a b:aRH):bytesBefore a b=true\/a=b\/bytesBefore b a=true:=by
 rw [Og,Og];by_cases h:a < b
 ·exact .inl h
 ·by_cases I:b < a
  ·exact .inr (.inr I)
  ·exact .inr (.inl (List.le_antisymm (aQ6.1 I) (aQ6.1 h)))
theorem Xf {x y:List UInt8 × α}:∀ {M:fu α},y∈zb x M->y=x\/y∈M
 | [],h=>.inl (aRc.1 h)
 | z :: r,h=>by
  unfold zb at h;split at h
  ·exact aQw.1 h
  ·rcases aQw.1 h with h | h
   ·exact .inr (by rw [h];simp)
   ·rcases Xf h with h | h
    ·exact .inl h
    ·exact .inr (by simp [h])
theorem as7 {x:List UInt8 × α}:∀ {M:fu α},Ha M->(∀ y∈M,y.1≠x.1)->Ha (zb x M)
 | [],_,_=>List.pairwise_singleton _ _
 | y :: r,h,J=>by
  have p:=aRg.1 h;unfold zb;split
  ·rename_i ae;refine aRg.2 ⟨fun z I=>?_,h⟩;rcases aQw.1 I with rfl | I
   ·exact ae
   ·exact as6 ae (p.1 z I)
  ·rename_i ae;have Y:bytesBefore y.1 x.1=true:=by
    rcases aFY x.1 y.1 with h1 | h1 | h1
    ·exact absurd h1 ae
    ·exact absurd h1.symm (J y sp)
    ·exact h1
   refine aRg.2 ⟨fun z I=>?_,as7 p.2 (fun z I=>J z (aQQ _ I))⟩;rcases Xf I with rfl | I
   ·exact Y
   ·exact p.1 z I
theorem aFZ {M:fu α} (h:Ha M) (k:aRH) (a:α):Ha (oz M k a) :=
 as7 (h.filter _) fun y hy=>by have:=(aQ8.1 hy).2;simpa using this
theorem akd {M:fu α} (h:Ha M):(M.map (·.1)).Nodup:=by rw [List.Nodup,List.pairwise_map];exact h.imp fun {a b} I e=>by rw [e,aaA] at I;cases I
theorem aF0 {M:fu ak} {x d e:ak} (h:(k,d)∈oz M x e):(k=x/\d=e)\/(k,d)∈M:=by
 rcases Xf h with h | h
 ·cases h;exact .inl ⟨rfl,rfl⟩
 ·exact .inr (aQ8.1 h).1
theorem aF1 (h:Ar s.over):Ar s.next.over:=by
 unfold aJ.next;split
 ·exact h
 ·split
  ·exact⟨fun e=>(by cases e),fun e=>(by cases e)⟩
  ·exact h
theorem aF2 (s:aJ):s.next.known=s.known:=by
 unfold aJ.next;split
 ·rfl
 ·split <;> rfl
theorem ake (s:aJ):s.next.todo=s.todo:=by
 unfold aJ.next;split
 ·rfl
 ·split <;> rfl
theorem dA.as8 (P:nV) (b:dA) (d:pF):(dA.did P b d).ps=b.ps/\(dA.did P b d).reads=b.reads:=by
 unfold dA.did dA.fail;repeat' split
 all_goals exact⟨rfl,rfl⟩
theorem uS.did {P:nV} {b:dA} (h:uS P U b) (gq:b.over=false) :
  uS P U (dA.did P { b with ps:=(xA P.v b.ps).next } (qw (xA P.v b.ps))):=by
 obtain⟨n,A7⟩:=h.inv.stands P.v;have M:Inv U (b.ps.run P.v n):=h.inv.run n;have Y:=as4 n h.inv h.ok (v:=P.v);have hk:(b.ps.run P.v n).next.known=b.ps.known:=by rw [aF2,as5]
 have AL:=(aeB P.v n b.ps h.fresh).1;rw [Lg A7];obtain⟨s,hs⟩:=ai (b.ps.run P.v n);rw [<- hs] at M A7 Y hk AL |-;have I:uS P U { b with ps:=s.next }:=⟨M.next,aFX M,aF1 Y,hk ▸ h.keys,h.wrote,h.why,h.full,h.RL,by rw [ake];exact aQn AL h.few,h.A8⟩;have AA:∀ y,y≠0->uS P U (dA.fail { b with ps:=s.next } y):=fun y hy=>⟨I.inv,I.fresh,I.ok,I.keys,I.wrote,fun e=>(by cases e),fun _ e=>absurd e hy,I.RL,I.few,I.A8⟩;unfold dA.did;split
 ·split
  ·exact⟨I.inv,I.fresh,I.ok,I.keys,I.wrote,I.why,I.full,I.RL,I.few,I.A8⟩
  ·exact AA _ dc
 ·rename_i AB;have AO:s.waits=false:=by
   cases hw:s.waits with
   | false=>rfl
   | true=>rw [qw,if_pos hw] at AB;exact absurd rfl AB
  have AZ:qw s=s.over:=by rw [qw,if_neg (by rw [AO];decide)]
  rw [AZ] at AB |-;split
  ·rename_i AJ;split
   ·exact AA _ dc
   ·rename_i Aa;refine⟨I.inv,I.fresh,I.ok,I.keys,?_,I.why,fun e=>?_,I.RL,I.few,aFZ I.A8 _ _⟩
    ·rintro⟨k,d⟩ ah;rcases aF0 ah with ⟨rfl,rfl⟩ | ah
     ·exact⟨Y.1 AJ,Classical.not_not.1 fun hc=>Aa (.inr hc)⟩
     ·exact h.wrote _ ah
    ·have AP:b.over=true:=e;rw [gq] at AP;cases AP
  ·rename_i AJ;split
   ·refine⟨I.inv,I.fresh,I.ok,I.keys,I.wrote,fun e=>(by cases e),fun _ e p aL=>?_,I.RL,I.few,I.A8⟩;by_cases AV:P.outs.all (fun p=>(getM b.wrote p).isSome)=true
    ·exact aQV.1 AV p aL
    ·simp only at e;rw [if_neg AV] at e;cases e
   ·rename_i Ab;refine AA _ (Y.2 ?_);rcases M.ord.over with h1 | h1 | h1 | h1
    ·rcases A7 with J | J
     ·rw [h1] at J;exact absurd rfl J
     ·rw [AO] at J;cases J
    ·exact absurd h1 AJ
    ·exact absurd h1 Ab
    ·exact h1
theorem uS.go {P:nV}:∀ (n:Nat) {b:dA},uS P U b->p9 b.ps.todo < n->uS P U (rz P n b)/\UO P (rz P n b)/\(rz P n b).reads=b.reads
 | 0,b,_,hc=>absurd hc (aRm _)
 | n+1,b,h,hc=>by
  cases J:b.over with
  | true=>rw [rz,if_pos J];exact⟨h,.inl J,rfl⟩
  | false =>
   rw [rz,if_neg (by rw [J];decide)];have M:=h.did J;obtain⟨m,hm⟩:=h.inv.stands P.v;obtain⟨f1,f2⟩:=dA.as8 P { b with ps:=(xA P.v b.ps).next } (qw (xA P.v b.ps));simp only at f1 f2 |-;split
   ·rename_i hk;refine⟨M,?_,f2⟩;rw [Lg hm] at hk |-;unfold dA.did;rw [if_pos hk];split
    ·rename_i A7;right;have hw:(b.ps.run P.v m).waits=true:=by
      cases hw:(b.ps.run P.v m).waits with
      | true=>rfl
      | false =>
       rw [qw,hw] at hk;have AA:(b.ps.run P.v m).over.kind=1:=hk;rcases (h.inv.run m).ord.over with e | e | e | e <;> rw [e] at AA <;> cases AA
     have AB:(b.ps.run P.v m).next=b.ps.run P.v m:=by rw [aJ.next,if_pos hw]
     have AJ:(qw (b.ps.run P.v m)).path=(b.ps.run P.v m).asks:=by rw [qw,if_pos hw]
     rw [AJ] at A7 |-;rw [AB];exact⟨hw,rfl,A7⟩
    ·exact .inl rfl
   ·rename_i hk;by_cases I:(qw (xA P.v b.ps)).kind=2
    ·have AL:p9 (b.ps.run P.v m).todo < p9 b.ps.todo:=by
      refine (aeB P.v m b.ps h.fresh).2 ?_;rw [Lg hm,qw] at I;split at I
      ·cases I
      ·exact I
     have:=uS.go n M (by rw [f1,ake,Lg hm];omega);rw [f2] at this;exact this
    ·have Y:(dA.did P { b with ps:=(xA P.v b.ps).next } (qw (xA P.v b.ps))).over=true:=by unfold dA.did;rw [if_neg hk,if_neg I];split <;> rfl
     cases n with
     | zero =>
      rw [rz];exact⟨M,.inl Y,f2⟩
     | succ n =>
      rw [rz,if_pos Y];exact⟨M,.inl Y,f2⟩
theorem uS.mE {P:nV} {b:dA} (h:uS P U b) (av:UO P b) (gq:b.over=false) {k:dz} (hk:k.path=b.asks) (hl:k.is=true->k.data.length<=65536) (aB:qN k=qN (rO U k.path)) (ik:∀ p,(rO U p).is=true->(rO U p).data.length<=1000000) (hs:(P.sum k).path=k.path) :
  uS P U (b.mE P k)/\UO P (b.mE P k)/\(b.mE P k).reads=b.reads++[P.sum k]:=by
 rcases av with e | ⟨hw,I,hm⟩
 ·rw [gq] at e;cases e
 ·have ax:b.ps.gave k=(0,b.ps.mE (qN (rO U b.ps.asks))):=by rw [aJ.gave,if_neg (by rw [hw];decide),if_neg (by rw [hk,I];simp),if_neg (fun⟨h1,J⟩=>by have:=hl h1;omega),aB,hk,I]
  have he:b.mE P k=rz P 402 { b with ps:=b.ps.mE (qN (rO U b.ps.asks)),reads:=b.reads++[P.sum k] }:=by
   rw [dA.mE,if_neg]
   ·simp only [ax];rw [if_neg dc]
   ·rintro (e | e | ⟨h1,J⟩)
    ·rw [gq] at e;cases e
    ·exact e hk
    ·have:=hl h1;omega
  have M:uS P U { b with ps:=b.ps.mE (qN (rO U b.ps.asks)),reads:=b.reads++[P.sum k] }:=by
   refine⟨h.inv.mE hw ik,h.fresh,h.ok,?_,h.wrote,h.why,h.full,fun r ah=>?_,h.few,h.A8⟩
   ·show (b.ps.known++[(b.ps.asks,qN (rO U b.ps.asks))]).map (fun x=>x.1)=(b.reads++[P.sum k]).map (fun x=>x.path);rw [List.map_append,List.map_append,h.keys];simp [hs,hk,I]
   ·rcases aQI.1 ah with ah | ah
    ·exact h.RL r ah
    ·rw [List.mem_singleton.1 ah,hs,hk];exact hm
  have:=M.go 402 (by have:=h.few;show p9 b.ps.todo < 402;omega);rw [he];exact this
theorem aeE (l:List sD):p9 (aJ.start l).todo=l.length:=by show List.countP iU.BR (l.map .cmd)=_;rw [List.countP_map,List.countP_eq_length.2];intro c _;rfl
theorem uS.start {P:nV} {text:ak} (aA:text.length<=100000) (ik:CY U<=20000000):uS P U (dA.start P text)/\UO P (dA.start P text)/\(dA.start P text).reads=[]:=by
 unfold dA.start;split
 ·rename_i hc;have hl:(qx eF (jP text)).length<=400:=by
   have h1:=Zw eF (jP text);unfold pR at hc;split at hc
   ·cases hc
   ·omega
  have hs:=aj1 (asC aA) hl ik;have J:uS P U ⟨aJ.start (qx eF (jP text)),[],[],[],false,0⟩:=⟨hs,fun e=>(by cases e),⟨fun e=>(by cases e),fun e=>(by cases e)⟩,rfl,fun x ah=>(by cases ah),fun _=>rfl,fun e=>(by cases e),fun r I=>(by cases I),by rw [aeE];omega,List.Pairwise.nil⟩;exact J.go 402 (by show p9 (aJ.start _).todo < 402;rw [aeE];omega)
 ·rename_i hc;exact⟨⟨aj1 (l:=[]) (fun c ah=>(by cases ah)) (aQu _) ik,fun e=>(by cases e),⟨fun e=>(by cases e),fun e=>(by cases e)⟩,rfl,fun x ah=>(by cases ah),fun e=>(by cases e),fun _ e=>absurd e hc,fun r I=>(by cases I),aQu _,List.Pairwise.nil⟩,.inl rfl,rfl⟩
theorem uS.asked {P:nV} {b:dA} (h:uS P U b) (av:UO P b) (gq:b.over=false):b.asks ∉ b.reads.map (·.path)/\b.reads.length < 500:=by
 rcases av with e | ⟨hw,I,hm⟩
 ·rw [gq] at e;cases e
 ·obtain⟨_,J,M⟩:=h.inv.ord.waits hw;have hl:b.ps.known.length=b.reads.length:=by have:=congrArg List.length h.keys;simpa using this
  refine⟨fun ah=>?_,om⟩;rw [<- h.keys,I,<- aqu,J] at ah;cases ah
end
section
open Go.RowKit Go.Shelf
structure aeF (l:List (ak × List UInt8)):Prop where
 under:∀ x∈l,yA x.1 [111,117,116]=true/\x.1.length<=1000000/\x.2.length=32
 A8:l.Pairwise fun x y=>bytesBefore x.1 y.1=true
theorem aeF.next {l:List (ak × List UInt8)} (h:aeF l) {p:Nat} {x y:ak × List UInt8} (ah:l[p]?=some x) (hy:l[p+1]?=some y):(y.1 == x.1)=false/\bytesBefore y.1 x.1=false:=by
 obtain⟨h1,rfl⟩:=aQs.1 ah;obtain⟨I,rfl⟩:=aQs.1 hy;have:=List.pairwise_iff_getElem.1 h.A8 p (p+1) h1 I om;refine⟨?_,?_⟩
 ·rw [beq_eq_false_iff_ne];intro e;rw [e,aaA] at this;cases this
 ·rw [Bool.eq_false_iff];intro e;have:=as6 e this;rw [aaA] at this;cases this
theorem aF3 (w:aRB) (A:aRC) (c:Nat) (l:List (ak × List UInt8)) (av:Rd w 33 A l.length (cz mh l)) (hl:l.length<=1000) (fo:aeF l) :
  CB 212 #[.slice A l.length c] w (.int .i64 0):=by
 obtain⟨n,AO⟩:=ai l.length;rw [<- AO] at av hl |-;obtain⟨A7,Ah,Ai⟩:=hq3 AO av fo;clear av AO fo;go_enter func212,ntmps212;go_wp2_with fail;go_loopg [7] n (fun gk BI wr=>∃ j:Nat,j+gk=n/\BI = .int .i64 j/\Bl w wr);case atStart=>exact⟨0,om,rfl,Below.refl _ _⟩
 case round =>
  obtain⟨j,aD,rfl,J⟩:=hrel;have BQ:(0:Int)<=j:=om;by_cases AP:j < n
  ·have BJ:(j:Int) < n:=om;obtain⟨x,ah⟩:∃ x,l[j]?=some x:=⟨_,aQp (by rw [<- A7.o];exact AP)⟩;obtain⟨hu,BX,Bb⟩:=Ai.o.under x (aQr ah);obtain⟨Bc,Bd,rfl,AV⟩:=vE (f:=mh) (k:=33) Ic underlying268 rfl kr (Ah.o.gp J) ah A7.o.symm;have AZ:=Um x;have Aa:=ZR x;have hlen:=Ic x;have M:(mh x)[0]?=some (.string (az x.1)):=rfl;have AA:=fun (W:aRB)=>aiy W (az x.1) ⟨#[111,117,116]⟩ (by rw [iM];omega) dc;rw [show (⟨#[111,117,116]⟩:ByteArray).data.toList=[111,117,116] from rfl,gU,hu] at AA;obtain⟨Ab,Ak,P,Ad⟩:=nq2 (mh x) (az x.1);rw [<- Ak] at AV AZ Aa hlen M;rw [<- Ad] at M AA;obtain⟨Bf,AB⟩:=ai (wr.alloc (.cells Ab.toArray 268));have Al:=gQ AB;have Ae:=lH AB;have Af:=aR J Al;have AJ:=(Ae.cell 0).trans M;have Am:=Ah.o.gp Af;obtain⟨Ao,Ap,Aq,Au,Aw,BK,BL,Ay⟩:=hq8 AV AA Ae Af M Am ah Ad;have Az:=AB.symm;clear AV AA Ae Af M ah Ak Ad Al AB J Am hu AP;cases j with
   | zero =>
    go_wp2_with (first
     | ((with_reducible refine pY Ao.o ?_ ?_);exact rfl)
     | (with_reducible refine zo Ab hlen Aa AZ ?_)
     | (go_at_call 105; refine (Ap.o _).mono ?_;rintro e BM ⟨rfl,I⟩;clear AJ;have AJ:=((Aq.o.all I).cell 0).trans Aw.o;have Ag:=aa (aR Au.o I);clear I Az))
    go_quiet (fail);go_wp2_with fail;go_quiet (fail);go_wp2_with fail;go_roundg (gk - 1);case rel=>exact⟨0+1,om,by go_num,below_drewN Ag.o _⟩
    case measure=>omega
   | succ p =>
    obtain⟨y,hy⟩:∃ y,l[p]?=some y:=⟨_,aQp (by rw [<- A7.o];omega)⟩;obtain⟨BA,BF⟩:=Ai.o.next hy BL.o;obtain⟨Bi,Bn,BO,BG⟩:=arw Ic BK.o hy A7.o.symm;cases BO;have Y:=BG 0 (.string (az y.1)) rfl;rw [Nat.add_zero] at Y;obtain⟨Q,AL⟩:=ai (az y.1);have Bo:(P.toList == Q.toList)=false:=by rw [Ay.o,AL,ByteArray.toList_eq,ByteArray.toList_eq,gU,gU];exact BA
    have Bp:Op.bytesLess P.toList Q.toList=false:=by rw [Ay.o,AL,apH,decide_eq_false_iff_not,<- Og,BF];decide
    rw [<- AL] at Y;have BH:=aa Y;have Bq:IntKind.i64.wrap (p:Int)=p:=aQ9 _ (by constructor <;> omega);have Br:(0:Int)<=p:=om;have Bt:(p:Int) < n:=om;clear Y BG BA BF AL hy;go_wp2_with (first
     | ((with_reducible refine pY Ao.o ?_ ?_);exact rfl)
     | (with_reducible refine zo Ab hlen Aa AZ ?_)
     | (go_at_call 105; refine (Ap.o _).mono ?_;rintro e BM ⟨rfl,I⟩;clear AJ;have AJ:=((Aq.o.all I).cell 0).trans Aw.o;have Y:=(I.cell (aQy _ _ BH.o)).trans BH.o;have Ag:=aa (aR Au.o I);clear I Az))
    go_quiet (fail);go_wp2_with fail;go_quiet (fail);go_wp2_with fail;go_roundg (gk - 1);case rel=>exact⟨p+1+1,om,by go_num,below_drewN Ag.o _⟩
    case measure=>omega
  ·have BJ:¬ (j:Int) < n:=om;have BP:=aa J;clear AP J;go_wp2_with fail;go_ret;exact⟨rfl,BP.o⟩
structure Xh (t:lI):Prop where
 reads:∀ r∈t.reads,ajj r
 apart:(t.reads.map (·.path)).Nodup
 outs:aeF t.outs
 few:t.reads.length<=500/\t.outs.length<=1000
theorem aeH (w:aRB) (t:lI) (L:qh) (hA:WO w t L) (h:Xh t) :
  CB 168 #[.agg (gJ t L).toArray] w (.int .i64 0):=by
 have M:=fun W (ae:Bl w W)=>aD5 W L.A L.c t.reads (hA.all ae).reads (by have:=h.few.1;omega) h.reads h.apart;have Y:=fun W (ae:Bl w W)=>aF3 W L.B L.d t.outs (hA.all ae).outs h.few.2 h.outs;have J:=ai9 t L;have I:=adY t L;obtain⟨n,AL,m,hm⟩:=nq2 t.reads.length t.outs.length;have Ap:¬ (500:Int) < n:=by have:=h.few.1;omega
 have Aq:¬ (1000:Int) < m:=by have:=h.few.2;omega
 rw [<- AL] at M J;rw [<- hm] at Y I;obtain⟨Aa,Ab,Ad,Ae⟩:=L;simp only at M Y J I;obtain⟨V,AO⟩:=ai (gJ t ⟨Aa,Ab,Ad,Ae⟩);rw [<- AO] at J I |-;obtain⟨aF,A7⟩:=ai (w.alloc (.cells V.toArray 224));have AB:=gQ A7;have AA:=lH A7;have Af:=aa (fun W (h:Bl aF W)=>((AA.all h).cell 33).trans I);have Ag:=(AA.cell 32).trans J;have AP:=(AA.cell 33).trans I;have Ah:=aa (M aF AB);have Ai:=aa Y;have Ak:=aa AB;have Al:=A7.symm;clear J I AO AA M Y AL hm hA h AB A7;go_enter func168,ntmps168;go_wp2_with (first
  | (go_at_call 211; refine Ah.o.mono ?_;rintro e Am ⟨rfl,AJ⟩;clear Ag AP;have AP:=Af.o Am AJ;have AV:=aa (aR Ak.o AJ);clear AJ Al)
  | (go_at_call 212; refine (Ai.o _ AV.o).mono ?_;rintro e Au ⟨rfl,AZ⟩;have Ao:=aa (aR AV.o AZ);clear AZ))
 go_ret;exact⟨rfl,Ao.o⟩
def nM (W:aRB) (B:Nat) (e:TypeId) (aO:Nat) (A:aRC) (n c:Nat) (V:aRD) (af:aRB):Prop:=W.grownBy af (bV A)/\Own af B e aO A n c V
def PL (B:Nat) (e:TypeId) (aO:Nat) (A:aRC) (n c:Nat) (V news:aRD) (i k:Nat) (X:Nat->Value->World->Prop) (j:Nat) (v:Value) (w:aRB):Prop :=
 (j=i->∃ g,v = .slice (some ⟨g,0,none⟩) 1 1/\aM w g news e/\some g≠bV A) /\
 (j=k->∃ A' c',v = .slice A' (n+1) c'/\Ru B e aO A c (n+1) (V++news) A' c' w)/\(j≠i->j≠k->X j v w)
section
variable {W w af:aRB} {B aO n c i k j:Nat} {e:TypeId} {A:aRC} {V news:aRD} {v:Value} {X:Nat->Value->World->Prop}
theorem PL.keep (aY:X j v w->X j v w') (hk:oN B e aO A c (n+1) (V++news) w w') (h:PL B e aO A n c V news i k X j v w):PL B e aO A n c V news i k X j v w' :=
 ⟨fun e=>by
  obtain⟨g,J,I,M⟩:=h.1 e;exact⟨g,J,(hk.1.block g I.lt M).trans I,M⟩,fun e=>by
  obtain⟨A',c',J,I⟩:=h.2.1 e;exact⟨A',c',J,hk.2 _ _ I⟩,fun h1 Y=>aY (h.2.2 h1 Y)⟩
theorem nM.start (aG:Own W B e aO A n c V):nM W B e aO A n c V W.drew:=⟨⟨rfl,rfl,rfl,aQm _,fun _ _ _=>rfl⟩,aG⟩
theorem nM.Jv (h:nM W B e aO A n c V af):some af.heap.size≠bV A:=fun e=>by
 have:=(h.2.block _ e.symm).2.1;omega
theorem nM.alloc (h:nM W B e aO A n c V af) (o:Obj):nM W B e aO A n c V (af.alloc o):=⟨F8 h.1 (World.grownBy_alloc af o _),h.2.alloc o⟩
theorem nM.below (h:nM W B e aO A n c V af) {aC:aRB} (ae:Bl af aC):nM W B e aO A n c V aC :=
 ⟨F8 h.1 ⟨ae.os,ae.tape,ae.output,ae.size,fun i I _=>ae.block i I⟩,h.2.below ae (aQm _)⟩
theorem aF6 {aC:aRB} (ae:Bl af aC):oN B e aO A c n V af aC :=
 ⟨⟨ae.os,ae.tape,ae.output,ae.size,fun i I _=>ae.block i I⟩,fun A' c' h=>⟨h.1.below ae (aQm _),h.2⟩⟩
theorem nM.row (h:nM W B e aO A n c V af) {U:aRD} {t:TypeId} (av:aM W g U t) (ax:some g≠bV A):aM af g U t:=(h.1.block g av.lt ax).trans av
variable {P:Program} {t:TypeId} {z:Value} {bytes:Nat} {o:Oper} {a:Act} {K:Act->World->Prop} {Q:aRE}
theorem Nl (h:Ea P t e z aO bytes) (v:Value) (aZ:v.cells.size=aO) {x:Operand} (aG:o.op = .buildSlice t 1 #[(0,x)]) (ah:a.eval x=v)
  (aH:K (a.put o.dst (.slice (some ⟨W.heap.size,0,none⟩) 1 1)) (W.alloc (.cells v.cells e))):o.wp P a W K Q:=by
 have I:=aqW (P:=P) W t e v z aO h.ZC h.aqX h.zs aZ h.small.1 (by have:=h.small.2.1;omega);unfold Oper.wp execOp;simp [aG,ah,I];exact aH
theorem aki {t0:TypeId} {oW lN:Operand} {i0 i1:Nat} (v0 v1:Value) (cells:Array Value) (hf:P.built t0 [(i0,v0),(i1,v1)]=some cells) (aG:o.op = .build t0 #[(i0,oW),(i1,lN)]) (ah:a.eval oW=v0/\a.eval lN=v1) (h:K (a.put o.dst (.agg cells)) W):o.wp P a W K Q :=
 wp_build t0 _ aG (by simp [ah,hf]) (by simpa [ah,hf] using h)
theorem aeJ {U:aRD} (h:aM W g U e) (ik:U.length=aO):Rd W aO (some ⟨g,0,none⟩) 1 U :=
 ⟨om,fun _=>⟨g,0,rfl,fun j u hu=>by rw [Nat.zero_add,h.cell j];exact hu⟩⟩
theorem aF7 {u:TypeId} (h:Ea P t e z aO bytes) {s x:Operand} (aG:o.op = .call { callee:=.builtin .append,args:=#[s,x],argTypes:=#[t,u] }) (bU:Own w B e aO A n c V) (g:Nat) (av:aM w g news e) (hl:news.length=aO) (h1:∀ v∈news,v.oneCell'=true)
  (aB:n<=1000000) (sj:B<=w.heap.size) (hu:P.underlying u=some (.slice e)) (zQ:a.eval s = .slice A n c/\a.eval x = .slice (some ⟨g,0,none⟩) 1 1)
  (aH:∀ A' c' w',Ru B e aO A c (n+1) (V++news) A' c' w'->oN B e aO A c (n+1) (V++news) w w'->Own w' B e aO A n c V->K (a.put o.dst (.slice A' (n+1) c')) w'):o.wp P a w K Q :=
 arP s x t u aG e z aO bytes h.ZC h.info h.zs B A n c V bU 1 news _ (Src.slice hu (aeJ av hl)) h1 mO (by have:=h.small;have:(n+1) * bytes<=1000001 * 1000:=Nat.mul_le_mul om om;omega) sj zQ aH
end
theorem Ej {P:Program} {fn:Func} {R:aRF} {a:Act} {V:aRD} {ty:TypeId} {d:TypeDesc} {t u:Tmp} (av:aM W g V ty) (hu:P.underlying ty=some d) (aT:CF d=true) (ay:(P.info? ty).map (·.size)=some V.length)
  (hf:fn.results=#[.cell t ty,.tmp u]/\a.tmps.getD t undef = .pointer (some ⟨g,0,none⟩)/\a.defers=[]) (aK:R (.returned (.tuple #[.agg V.toArray,a.tmps.getD u undef])) W):bodyPost P fn R .ret a W:=by
 refine aQx (v:=.tuple #[.agg V.toArray,a.tmps.getD u undef]) ?_ hf.2.2 aK;have I:a.tmps[t]?.getD undef = .pointer (some ⟨g,0,none⟩):=by simpa using hf.2.1
 have hl:=run_loadVar_row W g ty ty V.toArray (0,0) d av hu (by cases d <;> exact aT) (by rw [List.size_toArray];exact ay);simp [results,hf.1,I,asAddr,hl]
end
section
open Go.RowKit Go.Shelf
def Gn:List Value:=l6 Bg++[.slice none 0 0,.slice none 0 0]
theorem atc:Gn.toArray=#[dS,dS,dS,dS,dS,dS,dS,dS,dS,dS,dS,dS,dS,dS,dS,dS,dS,dS,dS,dS,dS,dS,dS,dS,dS,dS,dS,dS,dS,dS,dS,dS,.slice none 0 0,.slice none 0 0]:=rfl
theorem aF9 (d:aRH) (A:aRC) (n c:Nat):prog.built 224 [(0,.agg (l6 d).toArray),(1,.slice A n c)]=some (l6 d++[Value.slice A n c,Value.slice none 0 0]).toArray:=kr
theorem aGa (p:ByteArray) (d:aRH):prog.built 268 [(0,.string p),(1,.agg (l6 d).toArray)]=some (Value.string p :: l6 d).toArray:=kr
theorem Av:Ea prog 24 9 (.string ⟨#[]⟩) 1 16:=⟨underlying24,kr,rfl,dc⟩
structure lK where
 A:Option Addr
 c:Nat
 B:Option Addr
 d:Nat
def jm (o:iN) (L:lK):List Value:=[.int .i64 o.kind,.int .i64 o.why,.slice L.A o.outs.length L.c,.slice L.B o.reads.length L.d]
structure UQ (W:aRB) (o:iN) (L:lK):Prop where
 outs:Rd W 2 L.A o.outs.length (cz fO o.outs)
 reads:Rd W 34 L.B o.reads.length (cz gZ o.reads)
theorem UQ.all {o:iN} {L:lK} (h:UQ W o L) (ae:Bl W W'):UQ W' o L:=⟨h.outs.gp ae,h.reads.gp ae⟩
structure nC (W:aRB) (B:Nat) (o:iN) (L:lK):Prop where
 outs:Own W B 65 2 L.A o.outs.length L.c (cz fO o.outs)
 reads:Own W B 135 34 L.B o.reads.length L.d (cz gZ o.reads)
theorem nC.at_ {o:iN} {L:lK} (h:nC W B o L):UQ W o L:=⟨h.outs.rd,h.reads.rd⟩
theorem nC.all {o:iN} {L:lK} (h:nC W B o L) (ae:Bl W W'):nC W' B o L:=⟨h.outs.below ae (aQm _),h.reads.below ae (aQm _)⟩
theorem nC.mono {B':Nat} {o:iN} {L:lK} (h:nC W B o L) (bg:B'<=B):nC W B' o L:=⟨h.outs.mono bg,h.reads.mono bg⟩
def uT (x:ak × ak):ak × List UInt8:=(x.1,bN.sum x.2)
def Li (k:aRH) (o:iN):lI:=⟨k,o.reads,o.outs.map uT⟩
structure PM (w wr:aRB) (g6:Nat) (k:aRH) (rs:List kJ) (ms:List (ak × List UInt8)) (L:qh):Prop where
 low:Bl w wr
 row:aM wr g6 (gJ ⟨k,rs,ms⟩ L) 224
 reads:Own wr w.heap.size 135 34 L.A rs.length L.c (cz gZ rs)
 outs:Own wr w.heap.size 268 33 L.B ms.length L.d (cz mh ms)
 res:aM wr (w.heap.size+1+1) Gn 224
theorem PM.on {wr af:aRB} {g6:Nat} {k:aRH} {rs:List kJ} {ms:List (ak × List UInt8)} {L:qh} (h:PM w wr g6 k rs ms L) (ae:Bl wr af):PM w af g6 k rs ms L :=
 ⟨h.low.trans (ae.mono h.low.size),h.row.all ae,h.reads.below ae (aQm _),h.outs.below ae (aQm _),h.res.all ae⟩
theorem aGb (k:aRH) (rs:List kJ) (ms atd:List (ak × List UInt8)) (cO:aRC) (bF:Nat) (B fK:aRC) (d fH:Nat) (v:Value) (aZ:v = .slice fK atd.length fH):(gJ ⟨k,rs,ms⟩ ⟨cO,bF,B,d⟩).take 33++[v]++(gJ ⟨k,rs,ms⟩ ⟨cO,bF,B,d⟩).drop (33+[v].length)=gJ ⟨k,rs,atd⟩ ⟨cO,bF,fK,fH⟩:=by have h:=rf k;subst aZ;simp only [gJ];rw [List.take_append,List.drop_append,h,List.take_of_length_le om,List.drop_of_length_le (by simp [h])];simp
theorem iJ {n:Nat} {t:TypeId} {U:aRD} (h:Own W base t aO A n c xs) (av:aM W g U uX) (bJ:t≠uX) (aA:fU g W W'):Own W' base t aO A n c xs :=
 h.keep fun b ae _ _=>aA.2.2.2.2 b fun e=>h.ne av bJ (by rw [ae,e])
theorem akj {n Xi gH c2:Nat} {t:TypeId} {B:aRC} {ys:aRD} (h:Own W base t aO A n c xs) (k:Own W base uX Xi B gH c2 ys) (bJ:t≠uX) (ax:W.grownBy W' (bV B)):Own W' base t aO A n c xs :=
 h.grown ax fun b ae e=>by
  obtain⟨_,_,cur,bf,hc⟩:=h.block b ae;exact k.ne hc bJ.symm e.symm
theorem PM.next {wr dD af bK:aRB} {g6:Nat} {k:aRH} {rs:List kJ} {ms:List (ak × List UInt8)} {cO B fK:aRC} {bF d fH:Nat} {x:ak × List UInt8} (aX:PM w wr g6 k rs ms ⟨cO,bF,B,d⟩) (ae:Bl wr dD) (hm:nM dD w.heap.size 268 33 B ms.length d (cz mh ms) af)
  (hc:Own af w.heap.size 268 33 fK (ms.length+1) fH (cz mh ms++mh x)) (av:aM bK g6 (gJ ⟨k,rs,ms++[x]⟩ ⟨cO,bF,fK,fH⟩) 224) (aA:fU g6 af bK) (ax:w.heap.size+1+1 < g6):PM w bK g6 k rs (ms++[x]) ⟨cO,bF,fK,fH⟩:=by
 have h:=aX.on ae;have I:aM af g6 (gJ ⟨k,rs,ms⟩ ⟨cO,bF,B,d⟩) 224:=hm.row h.row (h.outs.ne h.row dc).symm;have J:Bl w af:=h.low.grown hm.1 h.low.size fun b e=>(h.outs.block b e).1;exact⟨oF J aA om,av,iJ (akj h.reads h.outs dc hm.1) I dc aA,by
  have:=iJ hc I dc aA;rw [List.length_append];rw [show cz mh (ms++[x])=cz mh ms++mh x by simp [cz]];exact this,(hm.row h.res (h.outs.ne h.res dc).symm).dK aA om⟩
theorem aGc (w:aRB) (k:aRH) (o:iN) (L:lK) (hO:UQ w o L) (h1:o.kind=1) (hl:o.outs.length<=1000/\o.reads.length<=500) (aT:∀ x∈o.outs,x.2.length<=1000000000) (fo:Xh (Li k o)) :
  Calls prog 176 #[.agg (l6 k).toArray,.agg (jm o L).toArray] w fun e w'=>∃ T:qh,e = .returned (.tuple #[.agg (gJ (Li k o) T).toArray,.int .i64 0])/\oH w' w.heap.size (Li k o) T/\Bl w w':=by
 obtain⟨Al,Am,AP,AV⟩:=L;obtain⟨X,aY,n,BH,m,hm⟩:=nq3 (l6 k) o.outs.length o.reads.length;have DF:X.length=32:=by rw [aY];exact rf k
 have DL:Sz 59 X.length:=by rw [DF];exact kr
 rw [jm];simp only;rw [<- aY,<- BH,<- hm,h1];obtain⟨y,hy⟩:=ai o.why;rw [<- hy];obtain⟨aF,AJ⟩:=ai (((w.alloc (.cells X.toArray 59)).alloc (.cells #[.int .i64 1,.int .i64 y,.slice Al n Am,.slice AP m AV] 63)).alloc (.cells Gn.toArray 224));have BI:Bl w aF:=by rw [AJ];exact (gK.alloc sp _).alloc (by simp;omega) _
 have Bu:aM aF (w.heap.size+1+1) Gn 224:=by rw [AJ];have:=aM.new ((w.alloc (.cells X.toArray 59)).alloc (.cells #[.int .i64 1,.int .i64 y,.slice Al n Am,.slice AP m AV] 63)) Gn 224;simpa using this
 have BJ:aM aF (w.heap.size+1) [.int .i64 1,.int .i64 y,.slice Al n Am,.slice AP m AV] 63:=by rw [AJ];have:=aM.new (w.alloc (.cells X.toArray 59)) [.int .i64 1,.int .i64 y,.slice Al n Am,.slice AP m AV] 63;refine aM.all ?_ gK;simpa using this
 have Bv:aM aF w.heap.size X 59:=by rw [AJ];exact ((aM.new w X 59).all gK).all gK
 have DN:=BJ.cell 0;have Bw:=fun W (h:Bl aF W)=>KT (W:=aF) (g:=w.heap.size) (o:=0) (V:=X) (fun i v DR=>by rw [Nat.zero_add,Bv.cell i];exact DR) underlying59 rfl DL h;rw [atc] at AJ;have DW:=aa (hO.all BI);have DX:=aa (fun W (h:Bl w W)=>hO.all h);obtain⟨BK,BL,DY,C8,C9,CE,DZ,Da,Db⟩:=hq9 BH hm aY BI Bu BJ Bw aT fo;have Dc:=AJ.symm;have Em:n<=1000:=om;have De:=aa (fun W (h:Bl aF W)=>adU W AP m AV (cz gZ o.reads) (by rw [BL.o];exact (DW.o.all h).reads) (ZQ FZ _) om);clear hO h1 hl aT fo aY BH hm BI Bu BJ Bv Bw AJ hy;go_enter func176,ntmps176;go_wp2_with fail;clear DN Dc;refine ng nE 6 [some (.agg X.toArray),some _,some (.slice AP m AV),none,none,none] (fun j v af=>(j=3->∃ A c,v = .slice A m c/\Own af w.heap.size 135 34 A m c (cz gZ o.reads))/\(j=4->∃ A c,v = .agg (l6 k++[Value.slice A m c,Value.slice none 0 0]).toArray/\Own af w.heap.size 135 34 A m c (cz gZ o.reads))/\(j=5->∃ g,v = .pointer (some ⟨g,0,none⟩)/\aM af g Gn 224 /\ w.heap.size+1+1 < g)) (Bl aF) Bl (Below.refl _ aF).drew (fun j v w1 af ae h=>⟨fun e=>(by obtain⟨A,c,AL,A7⟩:=h.1 e;exact⟨A,c,AL,A7.below ae (aQm _)⟩),fun e=>(by obtain⟨A,c,AL,A7⟩:=h.2.1 e;exact⟨A,c,AL,A7.below ae (aQm _)⟩),fun e=>(by obtain⟨g,AL,A7,AZ⟩:=h.2.2 e;exact⟨g,AL,A7.all ae,AZ⟩)⟩) ?_ (jJ:=⟨rs ?_,rx,rs ?_,rs ?_,rs ?_,rs ?_,trivial⟩)
 rotate_left
 ·intro eH u af aj aK K aS bz;refine KQ _ _ rfl (DZ.o af aj) (by simp [Act.eval,aK]) ?_;exact aS _ _ rfl aj (Below.refl _ _)
 ·intro eH u af aj aK K aS bz;have BM:=(CE.o.all aj).cell 3;go_simp;exact aS _ _ rfl aj (Below.refl _ _)
 ·intro eH u af aj aK K aS bz;go_simp;refine (De.o af aj).mono ?_;rintro e aC ⟨cO,bF,rfl,BO,Aa⟩;exact aS _ _ ⟨fun _=>⟨cO,bF,rfl,BO.mono (by have h1:=C8.o.size;have ag:=aj.size;omega)⟩,fT,fT⟩ (aR aj Aa) Aa
 ·intro eH u af aj aK K aS bz;obtain⟨cO,bF,AZ,BO⟩:=bz.2;refine aki (.agg X.toArray) (.slice cO m bF) _ (by rw [DY.o];exact aF9 k cO m bF) rfl ⟨by simp [Act.eval,aK,bz.1],by simp [Act.eval,aK,AZ]⟩ ?_;exact aS _ _ ⟨fT,fun _=>⟨cO,bF,rfl,BO⟩,fT⟩ aj (Below.refl _ _)
 ·intro eH u af aj aK K aS bz;go_simp;exact aS _ _ ⟨fT,fT,fun _=>⟨_,rfl,aM.new af Gn _,by have h1:=C9.o.lt;have ag:=aj.size;omega⟩⟩ (aj.alloc (aQn (aQm _) aj.size) _) gK
 ·intro u af aj Ab;obtain⟨cO,bF,CJ,CK⟩:=(Ab 4 om).2.1 rfl;obtain⟨g6,CL,CS,Df⟩:=(Ab 5 om).2.2 rfl;clear Ab;simp only [CJ,CL];have CU:Bl w af:=aR C8.o aj;obtain⟨Ad,BP⟩:=ai (l6 k++[Value.slice cO m bF,Value.slice none 0 0]);have Ae:Ad=gJ ⟨k,o.reads,[]⟩ ⟨cO,bF,none,0⟩:=by rw [BP,BL.o];rfl
  have Dg:Ad.length=Gn.length:=by rw [Ae,Ef];rfl
  have Dh:Sz 224 Ad.length:=by rw [Ae];exact Pe _ _
  have Dk:∀ v∈Ad,v.oneCell'=true:=by rw [Ae];exact MW _ _
  rw [<- BP];obtain⟨Dl,Dm,Ao,Dp,CV⟩:=hq5 CU CK CS Ae aj;clear CU CK CS BP Ae aj CJ CL;go_wp2_with (first
   | ((with_reducible refine Jk Ad Ao.o Dh Dg Dk ?_);intro bS CW BQ;have c2:=((CE.o.all CV.o).dK BQ om).cell 2;have BX:=aa CW;have Af:=aa BQ;clear CW BQ))
  have I:PM w bS g6 k o.reads [] ⟨cO,bF,none,0⟩:=⟨oF Dl.o Af.o om,by have:=BX.o;rwa [Dp.o] at this,by
   have:=Dm.o;rw [BL.o] at this;exact this.keep fun b ae En _=>Af.o.2.2.2.2 b fun e=>by
    have h1:=this.ne Ao.o dc;exact h1 (by rw [ae,e]),Own.nil _ _ _ _,(C9.o.all CV.o).dK Af.o om⟩
  have Dq:=aa I;clear I c2;go_loopg [22] n (fun gk Dr wr=>∃ q:Nat,q+gk=n/\Dr = .int .i64 q/\∃ B d,PM w wr g6 k o.reads ((o.outs.take q).map uT) ⟨cO,bF,B,d⟩);case atStart=>exact⟨0,om,rfl,none,0,Dq.o⟩
  case round =>
   obtain⟨q,Eo,rfl,B,d,I⟩:=hrel;by_cases CZ:q < n
   ·have Dt:(q:Int) < n:=om;have Ep:(0:Int)<=q:=om;obtain⟨x,ah⟩:∃ x,o.outs[q]?=some x:=⟨_,aQp (by rw [<- BK.o];exact CZ)⟩;obtain⟨Er,Es,rfl,Ap⟩:=vE (f:=fO) (k:=2) (fun _=>rfl) underlying65 rfl kr (DX.o wr I.low).outs ah rfl;have Ca:=Da.o x (aQr ah);have Bb:(o.outs.take (q+1)).map uT=(o.outs.take q).map uT++[uT x]:=by rw [List.take_add_one,ah];simp
    have Ag:((o.outs.take q).map uT).length=q:=by rw [List.length_map,List.length_take,<- BK.o];omega
    obtain⟨ms,Cb⟩:=ai ((o.outs.take q).map uT);rw [<- Cb] at I Bb Ag;obtain⟨P,Bc,J,Aq⟩:=nq2 (az x.1) (az x.2);simp only [fO] at Ap;rw [<- Bc,<- Aq] at Ap;obtain⟨Au,Aw⟩:=ai (wr.alloc (.cells #[.string P,.string J] 65));have Aa:=gQ Aw;have Ah:=lH Aw;have Y:=I.on Aa;have Ce:Own Au w.heap.size 268 33 B q d (cz mh ms):=by have:=Y.outs;rw [Ag] at this;exact this
    have BM:=fun (af:aRB) (aj:nM Au w.heap.size 268 33 B q d (cz mh ms) af)=>show af.cell? (ad g6 33)=some (.slice B q d)/\af.cell? (ad wr.heap.size 0)=some (.string P)/\af.cell? (ad wr.heap.size 1)=some (.string J) from
     ⟨((aj.row Y.row (Y.outs.ne Y.row dc).symm).cell 33).trans (by rw [adY,Ag]),(aj.row Ah (Y.outs.ne Ah dc).symm).cell 0,(aj.row Ah (Y.outs.ne Ah dc).symm).cell 1⟩
    have Ay:=fun (W:aRB) (g:Nat) (av:Rd W 1 (some ⟨g,0,none⟩) 1 [.string J])=>WA W g J (by rw [Aq,iM];exact Ca) av;rw [show J.data.toList=x.2 by rw [Aq,gU],<- H7 (yB x.2)] at Ay;have Cf:Value.string P :: l6 (bN.sum x.2)=mh (uT x):=by rw [Bc];rfl
    have Ai:=aGa P (bN.sum x.2);rw [Cf] at Ai;have Cg:=Um (uT x);have Bd:=Ic (uT x);obtain⟨AO,Bf,Ci,Ck⟩:=nq2 (mh (uT x)) (l6 (bN.sum x.2));rw [<- Bf] at Ai Cg Bd;rw [<- Ck] at Ai Ay;have Dx:(Value.agg AO.toArray).cells.size=33:=by simp [Value.cells,Bd]
    have Dy:q<=1000000:=om;have bg:w.heap.size<=Au.heap.size:=Y.low.size;obtain⟨Dz,Bi,E8,Bn,E9,EB,ED,Bo,EG,EH,EI⟩:=hq11 Ap Y Ce BM Ay Ai Bb Ag Bf I Aa;have Eu:=Aw.symm;clear Ap Y Ce BM Ay Ai Bb Ag Bf I Aa Ah ah Ca Cb Bc Aq Cf Ck Aw;go_wp2_with (first
     | ((with_reducible refine pY Dz.o ?_ ?_);exact rfl))
    have kE:=Bn;refine ng nE 12 [some _,some _,some _,some _,some _,some _,none,some (.agg Ci.toArray),some (.agg AO.toArray),none,none,some _] (PL w.heap.size 268 33 B q d (cz mh ms) AO 9 10 (fun j v af=>j=6->∃ g,v = .slice (some ⟨g,0,none⟩) 1 1/\aM af g [.string J] 9 /\ some g≠bV B)) (nM Au w.heap.size 268 33 B q d (cz mh ms)) (oN w.heap.size 268 33 B d (q+1) (cz mh ms++AO)) (nM.start E8.o) (fun j v w1 af ae h=>PL.keep (fun h e=>(by obtain⟨g,AL,A7,AZ⟩:=h e;exact⟨g,AL,(ae.1.block g A7.lt AZ).trans A7,AZ⟩)) ae h) ?_ (jJ:=⟨rx,rx,rx,rx,rx,rx,rs ?_,rs ?_,rs ?_,rs ?_,rs ?_,rx,trivial⟩)
    rotate_left
    ·intro eH u af aj aK K aS bz;refine Nl Av (.string J) rfl rfl (by simp [Act.eval,aK,bz]) ?_;exact aS _ _ ⟨fT,fT,fun _ _ _=>⟨_,rfl,aM.new af [.string J] _,aj.Jv⟩⟩ (aj.alloc _) (oN.alloc af _)
    ·intro eH u af aj aK K aS bz;obtain⟨g7,Cm,EK,_⟩:=(show PL _ _ _ _ _ _ _ _ _ _ _ 6 _ _ from bz).2.2 dc dc rfl;go_simp;refine (E9.o af g7 (aeJ EK rfl)).mono ?_;rintro e aC ⟨rfl,ae⟩;exact aS _ _ rfl (aj.below ae) (aF6 ae)
    ·intro eH u af aj aK K aS bz;refine aki (.string P) (.agg Ci.toArray) _ EB.o rfl ⟨by simp [Act.eval,aK,bz],by simp [Act.eval,aK,bz]⟩ ?_;exact aS _ _ rfl aj (oN.refl _)
    ·intro eH u af aj aK K aS bz;refine Nl adF (.agg AO.toArray) Dx rfl (by simp [Act.eval,aK,bz]) ?_;exact aS _ _ ⟨fun _=>⟨_,rfl,aM.new af AO _,aj.Jv⟩,fT,fun e=>absurd rfl e⟩ (aj.alloc _) (oN.alloc af _)
    ·intro eH u af aj aK K aS bz;obtain⟨g9,EL,EM,Ev⟩:=(show PL _ _ _ _ _ _ _ _ _ _ _ 9 _ _ from bz.2.1).1 rfl;refine aF7 adF rfl aj.2 g9 EM Bd Cg Dy (aQn bg aj.1.size) underlying222 ⟨by simp [Act.eval,aK,bz.1],by simp [Act.eval,aK,EL]⟩ ?_;intro iD c2 aC Az Cn EO;exact aS _ _ ⟨fT,fun _=>⟨iD,c2,rfl,Az⟩,fun _ e=>absurd rfl e⟩ ⟨F8 aj.1 Cn.1,EO⟩ Cn
    ·intro u af aj Ab;obtain⟨AA,AB,Cm,Az⟩:=(show PL w.heap.size 268 33 B q d (cz mh ms) AO 9 10 (fun j v af=>j=6->∃ g,v = .slice (some ⟨g,0,none⟩) 1 1/\aM af g [.string J] 9 /\ some g≠bV B) 10 (u 10) af from Ab 10 om).2.1 rfl;clear Ab;simp only [Cm];have Co:=aa aj;have EP:=aa Az;have Cs:=Co.o.row Bi.o.row (Bi.o.outs.ne Bi.o.row dc).symm;have BA:=aa Cs;have ER:(prog.info? 222).map (·.size)=some [Value.slice AA (q+1) AB].length:=kr;have hcs:(Value.slice AA (q+1) AB).cells.toList=[Value.slice AA (q+1) AB]:=rfl;have EU:33+[Value.slice AA (q+1) AB].length<=(gJ ⟨k,o.reads,ms⟩ ⟨cO,bF,B,d⟩).length:=by rw [Ef];exact aQm 34
     have EW:∀ v∈[Value.slice AA (q+1) AB],v.oneCell'=true:=by simp;rfl
     have Ct:=aGb k o.reads ms (ms++[uT x]) cO bF B AA d AB (.slice AA (q+1) AB) (by rw [List.length_append,Bo.o];rfl);have EY:=aa Ct;clear Cs Ct Az aj;go_wp2_with (first
      | ((with_reducible refine WE 33 _ BA.o hcs ER EU EW EY.o ?_);refine zR ?_;intro bS BX Af))
     go_roundg (gk - 1);case rel=>exact⟨q+1,om,by go_num,AA,AB,by rw [ED.o];exact EH.o.next EI.o (by rw [Bo.o];exact Co.o) (by rw [Bo.o,<- EG.o];exact EP.o.1) BX.o Af.o Df⟩
     case measure=>omega
   ·have Dt:¬ (q:Int) < n:=om;have Cv:o.outs.take q=o.outs:=aRi (by rw [<- BK.o];omega);rw [Cv] at I;have Cw:=fun (W:aRB) (h:PM w W g6 k o.reads (o.outs.map uT) ⟨cO,bF,B,d⟩)=>aeH W (Li k o) ⟨cO,bF,B,d⟩ ⟨h.reads.rd,h.outs.rd⟩ Db.o;have Ak:=Pe (Li k o) ⟨cO,bF,B,d⟩;have Cz:=MW (Li k o) ⟨cO,bF,B,d⟩;have hlen:(gJ (Li k o) ⟨cO,bF,B,d⟩).length=Gn.length:=by rw [Ef];rfl
    have BF:=I.row;rw [show (⟨k,o.reads,o.outs.map uT⟩:lI)=Li k o from rfl] at BF;have EZ:=aa (fun (W aV:aRB) (ae:Bl wr W) (Bp:fU (w.heap.size+1+1) W aV)=>show oH aV w.heap.size (Li k o) ⟨cO,bF,B,d⟩/\Bl w aV from
     ⟨⟨iJ (I.on ae).reads (I.on ae).res dc Bp,iJ (I.on ae).outs (I.on ae).res dc Bp⟩,oF (I.on ae).low Bp om⟩)
    have Bq:=Cw wr I;obtain⟨BG,Br⟩:=ai (gJ (Li k o) ⟨cO,bF,B,d⟩);rw [<- Br] at Bq Ak Cz hlen BF;have Bn:=aa Bq;have BA:=aa BF;have Ec:=aa I.res;have Ee:=aa Br;have Ew:(BG.drop 0).take BG.length=BG:=by simp
    clear Bq BF Br Cw I Cv CZ;go_wp2_with (first
     | (with_reducible refine kv BA.o underlying224 Ak ?_)
     | (go_at_call 168; refine Bn.o.mono ?_;rintro e Ex ⟨rfl,Bt⟩;have DD:=aa Bt;have Eg:=aa (BA.o.all Bt);clear Bt)
     | (with_reducible refine kv Eg.o underlying224 Ak ?_)
     | ((with_reducible refine vC BG (Ec.o.all DD.o) Ak hlen Cz ?_);intro Ey Ao Ei))
    exact Ej Ao.o underlying224 rfl Ak ⟨rfl,rfl,rfl⟩ ⟨⟨cO,bF,B,d⟩,by rw [Ee.o];rfl,EZ.o _ _ DD.o Ei.o⟩
def UW (x:ak × ak) (ahead:ak) (first:Bool):Nat :=
 if eF x.1=false\/x.1=[111,117,116]\/yA x.1 [111,117,116]=true then 7
 else if first=false/\x.1=ahead then 8
 else if first=false/\x.1 < ahead then 2
 else if 65536 < x.2.length then 6 else 0
theorem aGi (w:aRB) (x:ak × ak) (ahead:ak) (first:Bool) (h1:x.1.length<=1000000) (ag:x.2.length<=1000000000) :
  CB 64 #[.agg (fO x).toArray,.string (az ahead),.bool first] w (.int .i64 (UW x ahead first)):=by
 obtain⟨p,d⟩:=x;simp only at h1 ag;show CB 64 #[.agg #[.string (az p),.string (az d)],.string (az ahead),.bool first] w (.int .i64 (UW (p,d) ahead first));obtain⟨P,Y,AB,Ae,H,hH,R,Af⟩:=nq4 (az p) (az d) (az ahead) (UW (p,d) ahead first);have Ag:AB.size=d.length:=by rw [Ae,iM]
 obtain⟨RU,Ah⟩:=ai d.length;rw [<- Ah] at Ag ag;obtain⟨Ai,Ak,Al,Am,fG,Ao,be,Ap,iK,Aq⟩:=nq5 (eF p) (p == [111,117,116]) (yA p [111,117,116]) (p == ahead) (decide (p < ahead));have Az:=fun (W:aRB)=>OZ (v:=Ai) W P p (by rw [Y,iM];omega) (by rw [Y,gU]) Ak.symm;have Au:=fun (W:aRB)=>aiy W P ⟨#[111,117,116]⟩ (by rw [Y,iM];omega) dc;rw [show (⟨#[111,117,116]⟩:ByteArray).data.toList=[111,117,116] from rfl,show P.data.toList=p by rw [Y,gU],<- Ao] at Au;have BL:(P.toList == [111,117,116])=Al:=by rw [ByteArray.toList_eq,Y,gU,Am]
 have BM:(P.toList == H.toList)=be:=by rw [Y,hH,ByteArray.toList_eq,ByteArray.toList_eq,gU,gU,Ap]
 have BO:Op.bytesLess P.toList H.toList=iK:=by rw [Y,hH,apH,Aq]
 have BA:R=if Ai=false\/Al=true\/fG=true then 7 else if first=false/\be=true then 8 else if first=false/\iK=true then 2 else if 65536 < RU then 6 else 0:=by rw [Af,UW,Ak,Am,Ao,Ap,Aq,Ah];simp
 rw [<- Y,<- Ae,<- hH,<- Af];obtain⟨AP,AJ,Aw⟩:=hq3 BA Az Au;obtain⟨aF,AV⟩:=ai (w.alloc (.cells #[.string P,.string AB] 65));have BF:=gQ AV;have AZ:=lH AV;have AL:=aa BF;have Aa:=aa AZ;have J:=AZ.cell 0;have Ab:=AZ.cell 1;have Ay:=aa Ag;have BP:=AV.symm;clear BA Az Au Y Ae hH Af Ah Ak Am Ao Ap Aq AV BF AZ h1 Ag;have BJ:CB 64 #[.agg #[.string P,.string AB],.string H,.bool first] w (.int .i64 R):=by
  cases Ai with
  | false =>
   go_enter func64,ntmps64;go_wp2_with (first
    | (go_at_call 43; refine (AJ.o _).mono ?_;rintro e Ad ⟨rfl,I⟩;have A7:=aa (aR AL.o I);clear I))
   go_ret;exact⟨by rw [AP.o];rfl,A7.o⟩
  | true =>
   cases Al with
   | true =>
    go_enter func64,ntmps64;go_wp2_with (first
     | (go_at_call 43; refine (AJ.o _).mono ?_;rintro e Ad ⟨rfl,I⟩;have A7:=aa (aR AL.o I);clear J;have J:=(Aa.o.all I).cell 0;clear I))
    go_ret;exact⟨by rw [AP.o];rfl,A7.o⟩
   | false =>
    cases fG with
    | true =>
     go_enter func64,ntmps64;go_wp2_with (first
      | (go_at_call 43; refine (AJ.o _).mono ?_;rintro e Ad ⟨rfl,I⟩;have A7:=aa (aR AL.o I);clear J;have J:=(Aa.o.all I).cell 0;clear I)
      | (go_at_call 105; refine (Aw.o _).mono ?_;rintro e BG ⟨rfl,M⟩;have AO:=aa (aR A7.o M);clear M))
     go_ret;exact⟨by rw [AP.o];rfl,AO.o⟩
    | false =>
     have BH:=aa (show R=if first=false/\be=true then 8 else if first=false/\iK=true then 2 else if 65536 < RU then 6 else 0 by rw [AP.o];simp);have BQ:(AB.size:Int)<=9223372036854775807:=by have:=Ay.o;omega
     by_cases BI:65536 < RU
     ·have BK:(65536:Int) < AB.size:=by have:=Ay.o;omega
      cases first <;> cases be <;> cases iK
      all_goals
       go_enter func64,ntmps64;go_wp2_with (first
        | (go_at_call 43; refine (AJ.o _).mono ?_;rintro e Ad ⟨rfl,I⟩;have A7:=aa (aR AL.o I);have AA:=aa (Aa.o.all I);clear J;have J:=AA.o.cell 0;clear I)
        | (go_at_call 105; refine (Aw.o _).mono ?_;rintro e BG ⟨rfl,M⟩;have AO:=aa (aR A7.o M);clear J Ab;have J:=(AA.o.all M).cell 0;have Ab:=(AA.o.all M).cell 1;clear M))
       go_ret;exact⟨by rw [BH.o];simp [BI],AO.o⟩
     ·have BK:¬ (65536:Int) < AB.size:=by have:=Ay.o;omega
      cases first <;> cases be <;> cases iK
      all_goals
       go_enter func64,ntmps64;go_wp2_with (first
        | (go_at_call 43; refine (AJ.o _).mono ?_;rintro e Ad ⟨rfl,I⟩;have A7:=aa (aR AL.o I);have AA:=aa (Aa.o.all I);clear J;have J:=AA.o.cell 0;clear I)
        | (go_at_call 105; refine (Aw.o _).mono ?_;rintro e BG ⟨rfl,M⟩;have AO:=aa (aR A7.o M);clear J Ab;have J:=(AA.o.all M).cell 0;have Ab:=(AA.o.all M).cell 1;clear M))
       go_ret;exact⟨by rw [BH.o];simp [BI],AO.o⟩
 exact BJ
def RV:List (ak × ak)->ak->Bool->Nat
 | [],_,_=>0
 | x :: l,a,f=>if UW x a f=0 then RV l x.1 false else UW x a f
theorem aGk (w:aRB) (A:aRC) (c:Nat) (l:List (ak × ak)) (av:Rd w 2 A l.length (cz fO l)) (hl:l.length<=1000) (hs:∀ x∈l,x.1.length<=1000000/\x.2.length<=1000000000) :
  CB 41 #[.slice A l.length c] w (.int .i64 (RV l [] true)):=by
 obtain⟨n,AP,R,AV⟩:=nq2 l.length (RV l [] true);rw [<- AP] at av hl |-;rw [<- AV];obtain⟨AA,Ap,Ad,Aq⟩:=hq4 AP av hs AV;have Au:¬ (1024:Int) < n:=om;clear av AP hs AV;go_enter func41,ntmps41;go_wp2_with fail;clear Au;go_loopg [3,12] n (fun gk Aw Ay wr=>∃ k:Nat,k+gk=n/\Ay = .int .i64 k/\Bl w wr/\∃ a:ak,Aw = .string (az a)/\R=RV (l.drop k) a ((k:Int) == 0));case atStart=>exact⟨0,om,rfl,Below.refl _ _,[],rfl,Aq.o⟩
 case round =>
  obtain⟨k,hk,rfl,A7,a,rfl,I⟩:=hrel;by_cases AB:k < n
  ·have Az:(k:Int) < n:=om;have BM:(0:Int)<=k:=om;obtain⟨x,ah⟩:∃ x,l[k]?=some x:=⟨_,aQp (by rw [<- AA.o];exact AB)⟩;obtain⟨BO,BP,rfl,AJ⟩:=vE (f:=fO) (k:=2) (fun _=>rfl) underlying65 rfl kr (Ap.o.gp A7) ah AA.o.symm;have Ae:=fun (W:aRB) (f:Bool)=>aGi W x a f (Ad.o x (aQr ah)).1 (Ad.o x (aQr ah)).2;have Af:l.drop k=x :: l.drop (k+1):=by rw [List.drop_eq_getElem_cons (by rw [<- AA.o];exact AB),(List.getElem?_eq_some_iff.1 ah).2]
   rw [Af,RV] at I;obtain⟨f,hf⟩:=ai ((k:Int) == 0);obtain⟨r,av⟩:=ai (UW x a f);rw [<- hf,<- av] at I;have J:=fun (W:aRB)=>Ae W f;rw [<- av] at J;obtain⟨P,AZ,BA,Ag,H,hH⟩:=nq3 (az x.1) (az x.2) (az a);simp only [fO] at AJ J;rw [<- AZ,<- Ag] at AJ J;rw [<- hH] at J |-;obtain⟨aF,AL⟩:=ai (wr.alloc (.cells #[.string P,.string BA] 65));have Ah:=gQ AL;have AO:=lH AL;have Ai:=AO.cell 0;have BF:=AO.cell 1;obtain⟨Ak,Al,BG⟩:=hq3 AJ J AO;have Am:=aa (aR A7 Ah);have Ao:=aa I;have BH:=aa AZ;have BQ:=hf.symm;have BX:=AL.symm;clear AJ J Ae Af ah AO Ah A7 I AZ Ag hH av AL hf AB;by_cases M:r=0
   ·have BI:((r:Int) != 0)=false:=by rw [M];rfl
    have Aa:=aa M;clear M;go_wp2_with (first
     | ((with_reducible refine pY Ak.o ?_ ?_);exact rfl)
     | (go_at_call 64; refine (Al.o _).mono ?_;rintro e BJ ⟨rfl,Y⟩;have Ab:=aa (aR Am.o Y);clear Ai BF;have Ai:=(BG.o.all Y).cell 0;clear Y))
    go_roundg (gk - 1);case rel=>exact⟨k+1,om,by go_num,Ab.o,x.1,by rw [BH.o],by rw [Ao.o,if_pos Aa.o];congr 1⟩
    case measure=>omega
   ·have BI:((r:Int) != 0)=true:=by simpa using M
    have Aa:=aa M;clear M;go_wp2_with (first
     | ((with_reducible refine pY Ak.o ?_ ?_);exact rfl)
     | (go_at_call 64; refine (Al.o _).mono ?_;rintro e BJ ⟨rfl,Y⟩;have Ab:=aa (aR Am.o Y);clear Y))
    go_ret;exact⟨by rw [Ao.o,if_neg Aa.o];rfl,Ab.o⟩
  ·have Az:¬ (k:Int) < n:=om;have BK:=aa (show R=0 by rw [I,List.drop_of_length_le (by rw [<- AA.o];omega)];rfl);have BL:=aa A7;clear AB I A7;go_wp2_with fail;go_ret;exact⟨by rw [BK.o];rfl,BL.o⟩
structure Fair (a:kI):Prop where
 env:a.env.length<=200
 tool:a.tool.length<=100000
 ins:a.ins.length<=200
 asks:a.asks.length<=200
 outs:a.outs.length<=200
 FO:∀ x∈a.ins,x.length<=1100000
 BN:∀ x∈a.asks,x.length<=1100000
 zX:∀ x∈a.outs,x.length<=1100000
def JM (Xk qi:Nat) (aeK aeL aeM RU:Bool):Nat:=if Xk≠0 then Xk else if qi=0\/aeK=true\/aeL=true\/aeM=true then 1 else if RU=true then 0 else 8
theorem aGm {qi:Nat} {RU:Bool} (h:RU=false):JM 0 qi false false false RU=if qi=0 then 1 else 8:=by subst h;simp [JM]
def Np (H:List fA) (a:kI):Nat:=JM (pR eF a.tool).1 a.outs.length (a.outs.any fun x=>!yA x [111,117,116]) (a.ins.any fun x=>!eF x) (a.asks.any fun x=>!G9 x) (decide (H++a.outs).Nodup)
theorem atj {a:kI} (h:Np H a=0):(H++a.outs).Nodup:=by
 unfold Np JM at h;split at h
 ·rename_i h1;exact absurd h h1
 ·split at h
  ·cases h
  ·split at h
   ·rename_i h1;simpa using h1
   ·cases h
theorem aGn {k:Nat} {x:fA} (ah:outs[k]?=some x) (h:x∈H++outs.take k):decide (H++outs).Nodup=false:=by
 simp only [decide_eq_false_iff_not];intro I;have e:H++outs=(H++outs.take k)++outs.drop k:=by rw [List.append_assoc,List.take_append_drop]
 rw [e,List.nodup_append] at I;exact I.2.2 x h x (aQr (i:=0) (by rw [List.getElem?_drop,Nat.add_zero];exact ah)) rfl
def JN (dI:aRB) (g n:Nat) (H outs:List fA) (R:Nat) (e:Ending) (w':aRB):Prop :=
 e = .returned (.int .i64 R)/\Bl dI w'/\(R=0->∃ M,MU w' g (n+outs.length) M/\Ia M (H++outs))
theorem JN.no {dI:aRB} {n r:Nat} (e:R=r) (h:Bl dI w') (av:r≠0):JN dI g n H outs R (.returned (.int .i64 r)) w':=⟨by rw [e],h,fun x=>absurd (e ▸ x) av⟩
theorem JN.yes {dI:aRB} {n:Nat} (e:R=0) (h:Bl dI w') (av:∃ M,MU w' g (n+outs.length) M/\Ia M (H++outs)):JN dI g n H outs R (.returned (.int .i64 0)) w':=⟨by rw [e];rfl,h,fun _=>av⟩
theorem aGo (dI w:aRB) (L:vv) (a:kI) (hA:KC dI L a) (hm:Fair a) (aj:qK dI) (ae:Bl dI w) (g n:Nat) (M:fu Bool) (H:List fA) (ax:dI.heap.size<=g) (kz:MU w g n M) (hk:Ia M H) (aB:n<=1000000) (xe:H.Nodup) :
  Calls prog 65 #[.agg (nz L a),.map (some g)] w (JN dI g n H a.outs (Np H a)):=by
 obtain⟨aF,Am⟩:=ai (w.alloc (.cells (nz L a) 45));have Bn:Bl w aF:=by rw [Am];exact (Below.refl _ w).alloc (aQm _) _
 have BA:aF.heap[w.heap.size]?=some (.cells (nz L a) 45 (0,0)):=by rw [Am];exact aQt w _
 have Ck:aF.heap.size=w.heap.size+1:=by rw [Am];simp
 have Bo:Bl dI aF:=aR ae Bn;have Bp:=fun (W:aRB) (e:W=aF)=>aDr W a.tool (by have:=hm.tool;omega) (by rw [e];exact aj.on Bo);have wJ:=fun W (h:Bl dI W)=>Wj W L.O L.wJ a.outs (hA.below h).outs (by have:=hm.outs;omega) 107 #[] (enters_of func107 kr rfl) (fun x=>!yA x [111,117,116]) fun aV _ x ah=>aCm aV x (by have:=hm.zX x ah;omega);have j3:=fun W (h:Bl dI W)=>Wj W L.lG L.j3 a.ins (hA.below h).ins (by have:=hm.ins;omega) 108 #[] (enters_of func108 kr rfl) (fun x=>!eF x) fun aV _ x ah=>aCn aV x (by have:=hm.FO x ah;omega);have fe:=fun W (h:Bl dI W)=>Wj W L.A L.fe a.asks (hA.below h).asks (by have:=hm.asks;omega) 109 #[] (enters_of func109 kr rfl) (fun x=>!G9 x) fun aV Y x ah=>aCo aV x (by have:=hm.BN x ah;omega) ((aj.on h).on Y);have BJ:=fun W (h:Bl dI W)=>(hA.below h).outs;have hlen:∀ x∈a.outs,x.length<=1100000:=hm.zX;have Cm:=hm.outs;have Cn:=hm.ins;have Co:=hm.asks;unfold nz at Am BA |-;obtain⟨pk,nm,E,lG,A,O,Db,AO,AP,AV⟩:=L;simp only at wJ j3 fe BJ Am BA |-;obtain⟨outs,BX,T,Bb,Xk,Bq,Dc,BK,aeK,Br,aeL,Bt⟩:=nq6 a.outs (az a.tool) ((pR eF a.tool).1) ((pR eF a.tool).2) (a.outs.any fun x=>!yA x [111,117,116]) (a.ins.any fun x=>!eF x);obtain⟨aeM,Bu,Cj,Bv,yS,BL,yT,BM,qi,Ao,R,Bw⟩:=nq6 (a.asks.any fun x=>!G9 x) a.env.length a.ins.length a.asks.length a.outs.length (Np H a);have Ca:R=JM Xk qi aeK aeL aeM (decide (H++outs).Nodup):=by rw [Bw,Np,Bq,Ao,Br,Bt,Bu,BX]
 have Ap:=aa Ca;rw [<- Bw];rw [<- Bb,<- Bq,<- BK] at Bp;rw [<- Br,<- Ao] at wJ;rw [<- Bt,<- BL] at j3;rw [<- Bu,<- BM] at fe;rw [<- Bb,<- Bv,<- BL,<- BM,<- Ao] at Am BA;rw [<- Bb,<- Bv,<- BL,<- BM,<- Ao,<- BX];rw [<- Ao] at BJ Cm;rw [<- BX] at BJ hlen Ao;rw [<- BL] at Cn;rw [<- BM] at Co;obtain⟨Af,BF,BG,Bc,C8,Cb,Cs,Ct,C9,Cv,Cw⟩:=hq11 Am Bo Bp wJ j3 fe BJ hlen Ao hk xe;have Cz:=aa (kz.below Bn kz.lt);have DD:=aa (show g < aF.heap.size by have:=kz.lt;omega);have AZ:=aa (fun W (h:Bl aF W)=>(h.block w.heap.size om).trans BA);have c2:aF.cell? (ad w.heap.size 2)=some (.string T):=aQo aF _ 2 _ _ _ BA;clear Ca Bw BX Bb Bq BK Br Bt Bu Bv BL BM Ao Bp wJ j3 fe BJ hlen hk xe kz BA Bn Ck Bo Am aj hm hA ae c2;by_cases CE:Xk=0
 ·subst CE;by_cases BH:qi=0
  ·have DF:((qi:Int) == 0)=true:=by rw [BH];rfl
   have Aq:=aa BH;clear BH;go_enter func65,ntmps65;go_wp2_with (first
    | (go_at_call 106; refine (BG.o _ Af.o.symm).mono ?_;rintro e af ⟨rfl,J⟩;rw [<- Af.o] at J;have Aa:=aa (aR BF.o J);have Ak:=aa J;have Y:=AZ.o af J;have A7:af.cell? (ad w.heap.size 4)=some (.slice lG yS AO):=aQo af _ 4 _ _ _ Y;have AA:af.cell? (ad w.heap.size 5)=some (.slice A yT AP):=aQo af _ 5 _ _ _ Y;have AB:af.cell? (ad w.heap.size 6)=some (.slice O qi AV):=aQo af _ 6 _ _ _ Y;clear J Y))
   go_ret;exact JN.no (Ap.o.trans (by simp [JM,Aq.o])) Aa.o dc
  ·have DF:((qi:Int) == 0)=false:=by simpa using BH
   have Aq:=aa BH;clear BH;cases aeK with
   | true =>
    go_enter func65,ntmps65;go_wp2_with (first
     | (go_at_call 106; refine (BG.o _ Af.o.symm).mono ?_;rintro e af ⟨rfl,J⟩;rw [<- Af.o] at J;have Aa:=aa (aR BF.o J);have Ak:=aa J;have Y:=AZ.o af J;have A7:af.cell? (ad w.heap.size 4)=some (.slice lG yS AO):=aQo af _ 4 _ _ _ Y;have AA:af.cell? (ad w.heap.size 5)=some (.slice A yT AP):=aQo af _ 5 _ _ _ Y;have AB:af.cell? (ad w.heap.size 6)=some (.slice O qi AV):=aQo af _ 6 _ _ _ Y;clear J Y)
     | (go_at_call 111; refine (Bc.o _ Aa.o).mono ?_;rintro e aC ⟨rfl,Ab⟩;have Ah:=aa (aR Aa.o Ab);have Ai:=aa (aR Ak.o Ab);have AL:=AZ.o aC Ai.o;clear A7 AA AB;have A7:aC.cell? (ad w.heap.size 4)=some (.slice lG yS AO):=aQo aC _ 4 _ _ _ AL;have AA:aC.cell? (ad w.heap.size 5)=some (.slice A yT AP):=aQo aC _ 5 _ _ _ AL;have AB:aC.cell? (ad w.heap.size 6)=some (.slice O qi AV):=aQo aC _ 6 _ _ _ AL;clear Ab AL))
    go_ret;exact JN.no (Ap.o.trans (by simp [JM,Aq.o])) Ah.o dc
   | false =>
    cases aeL with
    | true =>
     go_enter func65,ntmps65;go_wp2_with (first
      | (go_at_call 106; refine (BG.o _ Af.o.symm).mono ?_;rintro e af ⟨rfl,J⟩;rw [<- Af.o] at J;have Aa:=aa (aR BF.o J);have Ak:=aa J;have Y:=AZ.o af J;have A7:af.cell? (ad w.heap.size 4)=some (.slice lG yS AO):=aQo af _ 4 _ _ _ Y;have AA:af.cell? (ad w.heap.size 5)=some (.slice A yT AP):=aQo af _ 5 _ _ _ Y;have AB:af.cell? (ad w.heap.size 6)=some (.slice O qi AV):=aQo af _ 6 _ _ _ Y;clear J Y)
      | (go_at_call 111; refine (Bc.o _ Aa.o).mono ?_;rintro e aC ⟨rfl,Ab⟩;have Ah:=aa (aR Aa.o Ab);have Ai:=aa (aR Ak.o Ab);have AL:=AZ.o aC Ai.o;clear A7 AA AB;have A7:aC.cell? (ad w.heap.size 4)=some (.slice lG yS AO):=aQo aC _ 4 _ _ _ AL;have AA:aC.cell? (ad w.heap.size 5)=some (.slice A yT AP):=aQo aC _ 5 _ _ _ AL;have AB:aC.cell? (ad w.heap.size 6)=some (.slice O qi AV):=aQo aC _ 6 _ _ _ AL;clear Ab AL)
      | (go_at_call 111; refine (C8.o _ Ah.o).mono ?_;rintro e AJ ⟨rfl,Ag⟩;have Au:=aa (aR Ah.o Ag);have Aw:=aa (aR Ai.o Ag);have Ae:=AZ.o AJ Aw.o;clear A7 AA AB;have A7:AJ.cell? (ad w.heap.size 4)=some (.slice lG yS AO):=aQo AJ _ 4 _ _ _ Ae;have AA:AJ.cell? (ad w.heap.size 5)=some (.slice A yT AP):=aQo AJ _ 5 _ _ _ Ae;have AB:AJ.cell? (ad w.heap.size 6)=some (.slice O qi AV):=aQo AJ _ 6 _ _ _ Ae;clear Ag Ae))
     go_ret;exact JN.no (Ap.o.trans (by simp [JM,Aq.o])) Au.o dc
    | false =>
     cases aeM with
     | true =>
      go_enter func65,ntmps65;go_wp2_with (first
       | (go_at_call 106; refine (BG.o _ Af.o.symm).mono ?_;rintro e af ⟨rfl,J⟩;rw [<- Af.o] at J;have Aa:=aa (aR BF.o J);have Ak:=aa J;have Y:=AZ.o af J;have A7:af.cell? (ad w.heap.size 4)=some (.slice lG yS AO):=aQo af _ 4 _ _ _ Y;have AA:af.cell? (ad w.heap.size 5)=some (.slice A yT AP):=aQo af _ 5 _ _ _ Y;have AB:af.cell? (ad w.heap.size 6)=some (.slice O qi AV):=aQo af _ 6 _ _ _ Y;clear J Y)
       | (go_at_call 111; refine (Bc.o _ Aa.o).mono ?_;rintro e aC ⟨rfl,Ab⟩;have Ah:=aa (aR Aa.o Ab);have Ai:=aa (aR Ak.o Ab);have AL:=AZ.o aC Ai.o;clear A7 AA AB;have A7:aC.cell? (ad w.heap.size 4)=some (.slice lG yS AO):=aQo aC _ 4 _ _ _ AL;have AA:aC.cell? (ad w.heap.size 5)=some (.slice A yT AP):=aQo aC _ 5 _ _ _ AL;have AB:aC.cell? (ad w.heap.size 6)=some (.slice O qi AV):=aQo aC _ 6 _ _ _ AL;clear Ab AL)
       | (go_at_call 111; refine (C8.o _ Ah.o).mono ?_;rintro e AJ ⟨rfl,Ag⟩;have Au:=aa (aR Ah.o Ag);have Aw:=aa (aR Ai.o Ag);have Ae:=AZ.o AJ Aw.o;clear A7 AA AB;have A7:AJ.cell? (ad w.heap.size 4)=some (.slice lG yS AO):=aQo AJ _ 4 _ _ _ Ae;have AA:AJ.cell? (ad w.heap.size 5)=some (.slice A yT AP):=aQo AJ _ 5 _ _ _ Ae;have AB:AJ.cell? (ad w.heap.size 6)=some (.slice O qi AV):=aQo AJ _ 6 _ _ _ Ae;clear Ag Ae)
       | (go_at_call 111; refine (Cb.o _ Au.o).mono ?_;rintro e Ad ⟨rfl,Ay⟩;have CJ:=aa (aR Au.o Ay);have Bd:=aa (aR Aw.o Ay);have Al:=AZ.o Ad Bd.o;clear A7 AA AB;have A7:Ad.cell? (ad w.heap.size 4)=some (.slice lG yS AO):=aQo Ad _ 4 _ _ _ Al;have AA:Ad.cell? (ad w.heap.size 5)=some (.slice A yT AP):=aQo Ad _ 5 _ _ _ Al;have AB:Ad.cell? (ad w.heap.size 6)=some (.slice O qi AV):=aQo Ad _ 6 _ _ _ Al;clear Ay Al))
      go_ret;exact JN.no (Ap.o.trans (by simp [JM,Aq.o])) CJ.o dc
     | false =>
      go_enter func65,ntmps65;go_wp2_with (first
       | (go_at_call 106; refine (BG.o _ Af.o.symm).mono ?_;rintro e af ⟨rfl,J⟩;rw [<- Af.o] at J;have Aa:=aa (aR BF.o J);have Ak:=aa J;have Y:=AZ.o af J;have A7:af.cell? (ad w.heap.size 4)=some (.slice lG yS AO):=aQo af _ 4 _ _ _ Y;have AA:af.cell? (ad w.heap.size 5)=some (.slice A yT AP):=aQo af _ 5 _ _ _ Y;have AB:af.cell? (ad w.heap.size 6)=some (.slice O qi AV):=aQo af _ 6 _ _ _ Y;clear J Y)
       | (go_at_call 111; refine (Bc.o _ Aa.o).mono ?_;rintro e aC ⟨rfl,Ab⟩;have Ah:=aa (aR Aa.o Ab);have Ai:=aa (aR Ak.o Ab);have AL:=AZ.o aC Ai.o;clear A7 AA AB;have A7:aC.cell? (ad w.heap.size 4)=some (.slice lG yS AO):=aQo aC _ 4 _ _ _ AL;have AA:aC.cell? (ad w.heap.size 5)=some (.slice A yT AP):=aQo aC _ 5 _ _ _ AL;have AB:aC.cell? (ad w.heap.size 6)=some (.slice O qi AV):=aQo aC _ 6 _ _ _ AL;clear Ab AL)
       | (go_at_call 111; refine (C8.o _ Ah.o).mono ?_;rintro e AJ ⟨rfl,Ag⟩;have Au:=aa (aR Ah.o Ag);have Aw:=aa (aR Ai.o Ag);have Ae:=AZ.o AJ Aw.o;clear A7 AA AB;have A7:AJ.cell? (ad w.heap.size 4)=some (.slice lG yS AO):=aQo AJ _ 4 _ _ _ Ae;have AA:AJ.cell? (ad w.heap.size 5)=some (.slice A yT AP):=aQo AJ _ 5 _ _ _ Ae;have AB:AJ.cell? (ad w.heap.size 6)=some (.slice O qi AV):=aQo AJ _ 6 _ _ _ Ae;clear Ag Ae)
       | (go_at_call 111; refine (Cb.o _ Au.o).mono ?_;rintro e Ad ⟨rfl,Ay⟩;have CJ:=aa (aR Au.o Ay);have Bd:=aa (aR Aw.o Ay);have Al:=AZ.o Ad Bd.o;clear A7 AA AB;have A7:Ad.cell? (ad w.heap.size 4)=some (.slice lG yS AO):=aQo Ad _ 4 _ _ _ Al;have AA:Ad.cell? (ad w.heap.size 5)=some (.slice A yT AP):=aQo Ad _ 5 _ _ _ Al;have AB:Ad.cell? (ad w.heap.size 6)=some (.slice O qi AV):=aQo Ad _ 6 _ _ _ Al;clear Ay Al))
      have DL:=aa (Cz.o.below Bd.o DD.o);clear A7 AA AB;go_loopw [11,46] (fun x CK wr=>∃ k:Nat,k<=qi/\CK = .int .i64 k/\Bl dI wr/\(H++outs.take k).Nodup/\∃ Az,MU wr g (n+k) Az/\Ia Az (H++outs.take k)) (fun _ CK _=>qi - (intOf CK).toNat);case atStart=>exact⟨0,om,rfl,CJ.o,by simpa using Cw.o,M,DL.o,by simpa using Cv.o⟩
      case round =>
       obtain⟨k,hk,rfl,BO,BP,Az,BQ,BI⟩:=hrel;by_cases DN:k < qi
       ·have DR:(k:Int) < qi:=om;have De:(0:Int)<=k:=om;obtain⟨x,ah⟩:∃ x,outs[k]?=some x:=⟨_,aQp (by rw [<- C9.o];exact DN)⟩;have Ce:outs.take (k+1)=outs.take k++[x]:=by rw [List.take_add_one,ah];rfl
        obtain⟨b,o,rfl,DW⟩:=Mt (Cs.o wr BO) ah;obtain⟨X,Bf⟩:=ai (az x);have Df:X.size<=1100000:=by rw [Bf,iM];exact Ct.o x (aQr ah)
        have CL:X.data.toList=x:=by rw [Bf,gU]
        rw [<- Bf] at DW;have Cf:=eQ.look BQ ZL underlying9 underlying147 false (arf wr) X mO;rw [CL,BI x] at Cf;obtain⟨v,CS⟩:=ai (decide (x∈H++outs.take k));rw [<- CS] at Cf;obtain⟨Cg,DX,DY,Ci,Bi,CU⟩:=hq6 CS ah CL Ce BO BP;have CV:=aa (show eQ wr prog 9 Value.bool g (n+k) Az from BQ);have CW:=aa BI;clear ah Ce Bf CL CS BO BP BQ BI;cases v with
        | true =>
         go_wp2_with fail;go_ret;exact JN.no (Ap.o.trans (by rw [aGm (aGn DX.o (by have:=Cg.o;simpa using this))];simp [Aq.o])) Bi.o dc
        | false =>
         go_wp2_with (((with_reducible refine YO CV.o ZL underlying9 underlying147 ?_ X ?_ true ?_ ?_);exact mO;exact mO;exact⟨rfl,rfl,rfl⟩;refine zR ?_;intro Dg DZ Da));go_roundw;case rel =>
          refine⟨k+1,om,by go_num,ai1 Bi.o Da.o ax,?_,oz Az x true,?_,?_⟩
          ·rw [Ci.o,<- List.append_assoc];exact aDs CU.o (by have:=Cg.o;simpa using this)
          ·have:=DZ.o;rw [DY.o] at this;exact this
          ·rw [Ci.o,<- List.append_assoc];exact CW.o.put x
         case measure=>simp [intOf];omega
       ·have CZ:k=qi:=om;have DR:¬ (k:Int) < qi:=om;have BK:outs.take k=outs:=by rw [CZ,C9.o,List.take_length]
        rw [BK] at BP BI;have Bi:=aa BO;have CU:=aa BP;have CV:=aa (show MU wr g (n+outs.length) Az by rw [<- C9.o,<- CZ];exact BQ);have CW:=aa BI;clear BK CZ BO BP BQ BI;go_wp2_with fail;go_ret;exact JN.yes (Ap.o.trans (by simp [JM,Aq.o,CU.o])) Bi.o ⟨Az,CV.o,CW.o⟩
 ·have Dh:¬ (Xk:Int)=0:=om;go_enter func65,ntmps65;go_wp2_with (first
   | (go_at_call 106; refine (BG.o _ Af.o.symm).mono ?_;rintro e af ⟨rfl,J⟩;rw [<- Af.o] at J;have Aa:=aa (aR BF.o J);have Ak:=aa J;have Y:=AZ.o af J;have A7:af.cell? (ad w.heap.size 4)=some (.slice lG yS AO):=aQo af _ 4 _ _ _ Y;have AA:af.cell? (ad w.heap.size 5)=some (.slice A yT AP):=aQo af _ 5 _ _ _ Y;have AB:af.cell? (ad w.heap.size 6)=some (.slice O qi AV):=aQo af _ 6 _ _ _ Y;clear J Y))
  go_ret;exact JN.no (Ap.o.trans (by simp [JM,CE])) Aa.o CE
def zD:List fA->List iP->Nat
 | _,[]=>0
 | H,x :: X=>if Np H x.2=0 then zD (H++x.2.outs) X else Np H x.2
def aGu (dI:aRB) (R:Nat) (e:Ending) (w':aRB):Prop:=∃ i:Nat,e = .returned (.tuple #[.int .i64 R,.int .i64 i])/\Bl dI w'
def atm (dI:aRB) (g:Nat) (X:List iP) (k:Nat) (wr:aRB):Prop :=
 Bl dI wr/\zD [] X=zD (BZ (X.take k)) (X.drop k)/\(BZ (X.take k)).Nodup/\∃ m M,m<=200 * k/\MU wr g m M/\Ia M (BZ (X.take k))
theorem aGv (dI:aRB) (A:aRC) (c:Nat) (X:List iP) (aY:Rn dI A X) (hl:X.length<=10) (Gs:∀ x∈X,Fair x.2) (aj:qK dI) :
  Calls prog 42 #[.slice A X.length c] dI (aGu dI (zD [] X)):=by
 obtain⟨N,AV,aF,AA⟩:=nq2 X.length (dI.alloc (.map #[] 0));have Ak:Bl dI aF:=by rw [AA];exact (Below.refl _ dI).alloc (aQm _) _
 have Al:atm dI dI.heap.size X 0 aF:=⟨Ak,by simp [BZ],by simp [BZ],0,[],om,by rw [AA];exact eQ.made dI prog 9 Value.bool,by simpa [BZ] using Ia.nil⟩;rw [<- AV] at hl |-;obtain⟨Am,AZ,Ao,BH,BI,BJ⟩:=hq6 aY AV Gs aj AA Al;clear aY AV Gs aj AA Ak Al;have BK:=@run_makeMap prog;have Bp:¬ (500:Int) < N:=om;go_enter func42,ntmps42;go_wp2_with fail;clear BK;rw [<- BI.o];go_loopw [5,6,7,14] (fun Bq Br Bt Aa wr=>∃ k:Nat,k<=N/\Aa = .int .i64 k/\atm dI dI.heap.size X k wr) (fun _ _ _ Aa _=>N - (intOf Aa).toNat);case atStart=>exact⟨0,om,rfl,BJ.o⟩
 case round =>
  obtain⟨k,hk,rfl,BL⟩:=hrel;obtain⟨J,Y,Ab,m,M,hm,AB,Ad⟩:=BL;by_cases Ap:k < N
  ·have BM:(k:Int) < N:=om;have Bu:(0:Int)<=k:=om;obtain⟨x,ah⟩:∃ x,X[k]?=some x:=⟨_,aQp (by rw [<- AZ.o];exact Ap)⟩;have AJ:x∈X:=aQr ah;have Aq:X.take (k+1)=X.take k++[x]:=by rw [List.take_add_one,ah];rfl
   obtain⟨b,o,rfl,Ae⟩:=(Am.o.below J).load ah;obtain⟨V,A7⟩:=ai (nz x.1 x.2);obtain⟨aV,AL⟩:=ai (wr.alloc (.cells V 45));have Af:Bl wr aV:=by rw [AL];exact (Below.refl _ wr).alloc (aQm _) _
   have Au:Bl dI aV:=aR J Af;have Aw:MU aV dI.heap.size m M:=AB.below Af AB.lt;have AO:=aGo dI aV x.1 x.2 (Am.o.each x AJ) (Ao.o x AJ) BH.o Au dI.heap.size m M (BZ (X.take k)) (aQm _) Aw Ad om Ab;have Ay:(loadVar 45 ⟨wr.heap.size,0,none⟩).run prog aV = .ok (.agg V) aV:=by
    have BO:aV.heap[wr.heap.size]?=some (.cells V 45 (0,0)):=by rw [AL];exact aQt wr _
    have:=ZM (P:=prog) (w:=aV) 45 wr.heap.size 0 (nz x.1 x.2).toList (fun j v aD=>by
     rw [cell_of_row aV _ _ _ _ _ BO,A7,Nat.zero_add];simpa using aD) _ underlying45 rfl (by rw [MV];exact ac7)
    rw [A7];simpa using this
   obtain⟨r,I⟩:=ai (Np (BZ (X.take k)) x.2);have Ag:=aa I.symm;rw [<- A7] at Ae AO;rw [<- I] at AO;clear I;obtain⟨BP,BQ,BX,Bb,Bc,Ah,AP⟩:=hq7 A7 AL AO Ae Ay Aq Y;have Az:=aa (show X.drop k=x :: X.drop (k+1) by rw [List.drop_eq_getElem_cons (by rw [<- AZ.o];exact Ap),(List.getElem?_eq_some_iff.1 ah).2]);have Bd:=aa (Ao.o x AJ).outs;clear ah AJ Aq A7 AL Af Au Aw AO Ae Ay J Y Ab AB Ad;go_wp2_with (first
    | ((with_reducible refine pY Bb.o ?_ ?_);exact rfl)
    | ((with_reducible refine aDu V _ _ BP.o ?_ ?_);exact⟨rfl,rfl⟩;rw [<- BQ.o])
    | ((with_reducible refine pY Bc.o ?_ ?_);exact rfl)
    | (go_at_call 65; refine CG BX.o ?_;intro aC BA Bf))
   ·rename_i Ai;go_ret2;exact⟨k,by rw [show zD [] X=r by rw [AP.o,Az.o,zD,Ag.o,if_neg (by rintro rfl;exact absurd Ai dc)]];rfl,BA.o⟩
   ·rename_i Ai;have I:r=0:=by
     have:((r:Int) == 0)=true:=by simpa using Ai
     simpa using this
    obtain⟨M2,Bi,Bn⟩:=Bf.o I;refine⟨⟨k+1,om,by go_num,BA.o,?_,?_,m+x.2.outs.length,M2,?_,Bi,?_⟩,by simp [intOf];omega⟩
    ·rw [AP.o,Az.o,zD,Ag.o,if_pos I,Ah.o,ai3]
    ·rw [Ah.o,ai3];exact atj (Ag.o.trans I)
    ·have:=Bd.o;omega
    ·rw [Ah.o,ai3];exact Bn
  ·have BF:k=N:=om;have BM:¬ (k:Int) < N:=om;have BG:X.drop k=[]:=by rw [BF,AZ.o,List.drop_length]
   rw [BG] at Y;have Bo:=aa J;have AP:=aa Y;clear BG BF J Y Ab AB Ad;go_wp2_with fail;go_ret2;exact⟨0,by rw [show zD [] X=0 from AP.o];rfl,Bo.o⟩
structure xU where
 A:Option Addr
 c:Nat
 B:Option Addr
 d:Nat
 C:Option Addr
 e:Nat
structure jo where
 files:List (ak × ak)
 bZ:List iP
 ib:List ak
def rA (k:jo) (L:xU) (keep:Bool):List Value:=[.slice L.A k.files.length L.c,.slice L.B k.bZ.length L.d,.slice L.C k.ib.length L.e,.bool keep]
structure wT (W:aRB) (k:jo) (L:xU):Prop where
 files:Rd W 2 L.A k.files.length (cz fO k.files)
 bZ:Rn W L.B k.bZ
 ib:Rd W 1 L.C k.ib.length (cu k.ib)
theorem wT.all {k:jo} {L:xU} (h:wT W k L) (ae:Bl W W'):wT W' k L:=⟨h.files.gp ae,h.bZ.below ae,h.ib.gp ae⟩
structure U5 (k:jo):Prop where
 jv:k.files.length<=1000
 Lm:∀ x∈k.files,x.1.length<=1000000/\x.2.length<=1000000000
 nN:k.bZ.length<=10
 fair:∀ x∈k.bZ,Fair x.2
 qQ:k.ib.length<=100
 U6:∀ x∈k.ib,x.length<=1100000
def o7 (k:jo):Nat:=if RV k.files [] true≠0 then RV k.files [] true else if zD [] k.bZ≠0 then zD [] k.bZ else if k.ib.all eF then 0 else 1
theorem aeO (w:aRB) (k:jo) (L:xU) (keep:Bool) (hA:wT w k L) (hk:U5 k) (aj:qK w) :
  CB 21 #[.agg (rA k L keep).toArray] w (.int .i64 (o7 k)):=by
 obtain⟨BH,BI,BJ,BK,Bd,Bf⟩:=L;obtain⟨n,Ad,nN,Ae,jv,Af⟩:=nq3 k.ib.length k.bZ.length k.files.length;have Ag:=fun W (h:Bl w W)=>aGk W BH BI k.files (hA.all h).files hk.jv hk.Lm;have Ah:=fun W (h:Bl w W)=>aGv W BJ BK k.bZ (hA.all h).bZ hk.nN hk.fair (aj.on h);obtain⟨R,Ai,M,Ak,Y,Al⟩:=nq3 (o7 k) (RV k.files [] true) (zD [] k.bZ);have BL:R=if M≠0 then M else if Y≠0 then Y else if k.ib.all eF then 0 else 1:=by rw [Ai,o7,Ak,Al]
 rw [<- Ak,<- Af] at Ag;rw [<- Al,<- Ae] at Ah;rw [rA];simp only;rw [<- Ad,<- Ae,<- Af,<- Ai];obtain⟨aF,AO⟩:=ai (w.alloc (.cells #[.slice BH jv BI,.slice BJ nN BK,.slice Bd n Bf,.bool keep] 26));have Am:=gQ AO;have Ao:=lH AO;have BM:=Ao.cell 0;have Ap:=aa Am;have BO:=aa Ao;have Aq:=aa (Ag aF Am);obtain⟨BP,Au,BQ⟩:=hq3 Ah BL Ad;have Bi:=aa (fun W (h:Bl w W)=>(hA.all h).ib);have Bn:=aa hk.U6;have C9:n<=100:=by have:=hk.qQ;omega
 have BX:=AO.symm;clear hA hk aj Ag Ah Ai Ak Al BL Am Ao AO Ad Ae Af;by_cases h1:M=0
 ·have Bo:((M:Int) != 0)=false:=by rw [h1];rfl
  by_cases A7:Y=0
  ·have Bp:((Y:Int) != 0)=false:=by rw [A7];rfl
   have AA:=aa (show R=if k.ib.all eF then 0 else 1 by rw [Au.o,if_neg (by simp [h1]),if_neg (by simp [A7])]);clear h1 A7;go_enter func21,ntmps21;go_wp2_with (first
    | (go_at_call 41; refine Aq.o.mono ?_;rintro e AP ⟨rfl,I⟩;have J:=aa (aR Ap.o I);have AV:=aa (BO.o.all I);clear BM;have c1:=AV.o.cell 1;clear I BX)
    | (go_at_call 42; refine (BP.o _ J.o).mono ?_;rintro e Bq ⟨ii,rfl,AB⟩;have Aw:=aa (aR J.o AB);clear c1;have c2:=(AV.o.all AB).cell 2;clear AB))
   go_loopg [30] n (fun gk Br wr=>∃ j:Nat,j+gk=n/\Br = .int .i64 j/\Bl w wr/\(k.ib.take j).all eF=true);case atStart=>exact⟨0,om,rfl,Aw.o,rfl⟩
   case round =>
    obtain⟨j,aD,rfl,AJ,AL⟩:=hrel;by_cases Ay:j < n
    ·have Bt:(j:Int) < n:=om;have CE:(0:Int)<=j:=om;obtain⟨x,ah⟩:∃ x,k.ib[j]?=some x:=⟨_,aQp (by rw [<- BQ.o];exact Ay)⟩;obtain⟨CJ,CK,rfl,Bu⟩:=Mt (Bi.o wr AJ) ah;have Az:=aQr ah;have BA:(k.ib.take (j+1)).all eF=((k.ib.take j).all eF && eF x):=by rw [List.take_add_one,ah];simp
     obtain⟨BF,AZ,P,Aa⟩:=nq2 (eF x) (az x);have Bb:=fun (W:aRB)=>OZ (v:=BF) W P x (by rw [Aa,iM];exact Bn.o x Az) (by rw [Aa,gU]) AZ.symm;rw [<- Aa] at Bu;rw [AL,<- AZ,Bool.true_and] at BA;obtain⟨Bc,Bv,Ab⟩:=hq3 Bb BA AJ;have Bw:=aa (fun (h:BF=false)=>show k.ib.all eF=false by
      rw [List.all_eq_false];exact⟨x,Az,by rw [<- AZ,h];decide⟩)
     clear Bb BA AJ AL Az AZ Aa ah Ay;cases BF with
     | true =>
      go_wp2_with (first
       | (go_at_call 43; refine (Bc.o _).mono ?_;rintro e AP ⟨rfl,I⟩;have BG:=aa (aR Ab.o I);clear I))
      go_roundg (gk - 1);case rel=>exact⟨j+1,om,by go_num,BG.o,Bv.o⟩
      case measure=>omega
     | false =>
      go_wp2_with (first
       | (go_at_call 43; refine (Bc.o _).mono ?_;rintro e AP ⟨rfl,I⟩;have BG:=aa (aR Ab.o I);clear I))
      go_ret;exact⟨by rw [AA.o,Bw.o (by trivial)];rfl,BG.o⟩
    ·have Bt:¬ (j:Int) < n:=om;have C8:=aa (show k.ib.all eF=true by rw [List.take_of_length_le (by rw [<- BQ.o];omega)] at AL;exact AL);have Ab:=aa AJ;clear AL AJ Ay;go_wp2_with fail;go_ret;exact⟨by rw [AA.o,C8.o];rfl,Ab.o⟩
  ·have Bp:((Y:Int) != 0)=true:=by simpa using A7
   have AA:=aa (show R=Y by rw [Au.o,if_neg (by simp [h1]),if_pos A7]);clear h1 A7;go_enter func21,ntmps21;go_wp2_with (first
    | (go_at_call 41; refine Aq.o.mono ?_;rintro e AP ⟨rfl,I⟩;have J:=aa (aR Ap.o I);have AV:=aa (BO.o.all I);clear BM;have c1:=AV.o.cell 1;clear I BX)
    | (go_at_call 42; refine (BP.o _ J.o).mono ?_;rintro e Bq ⟨ii,rfl,AB⟩;have Aw:=aa (aR J.o AB);clear AB))
   go_ret;exact⟨by rw [AA.o];rfl,Aw.o⟩
 ·have Bo:((M:Int) != 0)=true:=by simpa using h1
  have AA:=aa (show R=M by rw [Au.o,if_pos h1]);clear h1;go_enter func21,ntmps21;go_wp2_with (first
   | (go_at_call 41; refine Aq.o.mono ?_;rintro e AP ⟨rfl,I⟩;have J:=aa (aR Ap.o I);clear I))
  go_ret;exact⟨by rw [AA.o];rfl,J.o⟩
end
section
open Go.ChangeMaps Go.MapKept Go.Maps Go.RowKit Go.Shelf Go.WideAt Go.WideMaps
def wy:List ak->List ak->Bool
 | [],ns=>ns.isEmpty
 | q :: ps,ns =>
  if q≠[42,42] then (match ns with
   | []=>false
   | x :: xs=>TZ q x && wy ps xs)
  else if ps.isEmpty then !ns.isEmpty
  else wy ps ns || (match ns with
   | []=>false
   | _ :: xs=>wy (q :: ps) xs)
termination_by ps ns=>ps.length+ns.length
def PW (p s:ak):Bool:=G9 p && eF s && wy (jg (· == 47) p) (jg (· == 47) s)
def Xm (i k:Nat):Value:=.agg #[.int .i64 i,.int .i64 k]
def Fg (i k:Nat):List UInt8:=keyBytes [.int .i64 i,.int .i64 k]
theorem R3:ArrKey prog 330 3 2:=⟨underlying330,kr,kr,kr⟩
theorem aaH:Keyed prog 330:=Keyed.of_law R3.law
theorem Xn {i:Nat} (h:i<=1000):(Lit.int .i64 (i:Int)).wf=true:=by simp [Lit.wf,IntKind.min,IntKind.max,IntKind.signed,IntKind.bits];omega
theorem keyOf_pair {i k:Nat} (ay:i<=1000) (hk:k<=1000):keyOf prog 330 (Xm i k)=some (.string (Fg i k)):=by have I:∃ m,prog.types.size=m+1:=⟨prog.types.size - 1,kr⟩;have J:=R3.keyType I;obtain⟨m,hm⟩:=I;unfold keyOf;simp only [R3.hu];rw [if_pos (by simp [J,Value.formed,Xm,R3.hu,R3.size]),hm];unfold Program.keyLits;simp only [R3.hu];rw [if_pos (by rw [R3.size];rfl)];simp [Xm,Value.cells,R3.one,List.range,List.range.loop,Program.keyLits,underlying3,Xn ay,Xn hk,Fg]
end
end Go.Proofs.YtjkinjbkknanbaaGreatDoor
