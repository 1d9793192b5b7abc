/- Pf -/
import Derived.Test.YtjkinjbkknanbaaGreatDoorSe
set_option maxRecDepth 100000
set_option maxHeartbeats 8000000
set_option linter.unusedSimpArgs false
set_option linter.unusedVariables false
namespace Go.Proofs.YtjkinjbkknanbaaGreatDoor
open Go.Proofs.Tryz
variable {a k p:ak} {s s':aK} {c R g base aO B:Nat} {l:List iT} {t:iT} {v:Env} {w w' W W':aRU} {L:iV} {U:List dB} {q:Option Nat} {A:aRV} {u:Value} {us xs:aRW} {uX:TypeId} {th:rQ} {α:Type} {H outs:List fC}
section
open Go.Maps Go.RowKit Go.Shelf
theorem ae0:∀ {l:List (ak × ak)} {k:Nat} {p:ak × ak},l[k]?=some p->(BQ l)[k * 2]?=some (.string (aA p.1))/\(BQ l)[k * 2+1]?=some (.string (aA p.2))
 | [],_,_,h=>by simp at h
 | x :: l,0,p,h=>by
  rw [List.getElem?_cons_zero] at h;cases h;exact⟨rfl,rfl⟩
 | x :: l,k+1,p,h=>by
  rw [List.getElem?_cons_succ] at h;have:=ae0 h;have I:(k+1) * 2=k * 2+2:=om;rw [I];exact this
def asB (p:ak × ak):List Value:=[.string (aA p.1),.string (aA p.2)]
theorem aFC (w:aRU) (g:Nat) (arg:ak) (hc:w.cell? (ad g 0)=some (.string (aA arg))) (x:ak × ak):CB 225 #[.agg (asB x).toArray,pp g 0] w (.bool (decide (x.1=arg))):=by
 have AQ:=aQR _ _ hc;have h1:=D7 x.1;have M:=D7 arg;show Calls prog 225 #[.agg #[.string (aA x.1),.string (aA x.2)],pp g 0] w _;obtain⟨X,I,AU,AA,Y,J⟩:=nq3 (aA x.1) (aA x.2) (aA arg);have AP:(X.toList == Y.toList)=decide (x.1=arg):=by rw [I,J,h1,M];exact Bool.eq_iff_iff.2 sp
 rw [<- J] at hc;rw [<- I,<- AA];obtain⟨r,AB⟩:=ai (decide (x.1=arg));rw [<- AB] at AP |-;clear I AA J AB h1 M;go_enter func225,ntmps225;go_wp2;go_ret;exact⟨rfl,iD⟩
theorem asC (arg:ak):∀ (l:List (ak × ak)) (i:Nat),(Lib.idxByFrom (fun _ y=>decide (y.1=arg)) default l i = -1/\l.find? (fun x=>x.1 == arg)=none)\/∃ k x,l[k]?=some x/\Lib.idxByFrom (fun _ y=>decide (y.1=arg)) default l i=((i+k:Nat):Int)/\l.find? (fun x=>x.1 == arg)=some x
 | [],i=>.inl ⟨rfl,rfl⟩
 | y :: l,i=>by
  by_cases hy:y.1=arg
  ·refine .inr ⟨0,y,rfl,?_,?_⟩
   ·simp [Lib.idxByFrom,hy]
   ·simp [hy]
  ·rcases asC arg l (i+1) with ⟨h1,I⟩ | ⟨k,x,h1,I,J⟩
   ·refine .inl ⟨?_,?_⟩
    ·simpa [Lib.idxByFrom,hy] using h1
    ·rw [List.find?_cons_of_neg (by simpa using hy)];exact I
   ·refine .inr ⟨k+1,x,by rw [List.getElem?_cons_succ];exact h1,?_,?_⟩
    ·have:i+1+k=i+(k+1):=om;rw [this] at I;simpa [Lib.idxByFrom,hy] using I
    ·rw [List.find?_cons_of_neg (by simpa using hy)];exact J
theorem aFD (w:aRU) (A:aRV) (c:Nat) (l:List (ak × ak)) (ax:Rd w 2 A l.length (BQ l)) (hl:l.length<=1000000) (g:Nat) (arg:ak) (hc:w.cell? (ad g 0)=some (.string (aA arg))) :
  CB 224 #[.slice A l.length c,.func (.func 225) #[] #[pp g 0]] w (.int .i64 (Lib.idxByFrom (fun _ y=>decide (y.1=arg)) default l 0)):=by
 rcases aQ2 l.length with J | J
 ·obtain rfl:l=[]:=aQV J;have Y:Bl w w:=Below.refl _ _;clear ax hc J;show CB 224 #[.slice A 0 c,.func (.func 225) #[] #[pp g 0]] w (.int .i64 (-1));go_enter func224,ntmps224;go_wp2;go_loopw [8] (fun i wr=>i = .int .i64 0/\wr=w) (fun _ _=>0);case atStart=>exact⟨rfl,rfl⟩
  case round =>
   obtain⟨rfl,rfl⟩:=hrel;go_wp2;go_ret;exact⟨rfl,Y⟩
 ·obtain⟨b,o,rfl,hcell⟩:=ax.2 J;have aI:∃ p,l[0]?=some p:=⟨_,aQI J⟩;obtain⟨AQ,AA⟩:=aI;have ae:=aQR _ _ (hcell _ _ (ae0 AA).1);have:=AnyQ.slices_IndexFunc Tryz.tlFind 2 Tryz.isAgg194 Tryz.sizeOf194 asB (fun _=>rfl) (fun y=>decide (y.1=arg)) 225 #[pp g 0] (enters_of func225 kr rfl) b o l.length c l w
   (fun W x M=>aFC W g arg ((M.cell (p:=ad g 0) (aQR _ _ hc)).trans hc) x |>.mono fun e w' k=>⟨k.1,M.trans (k.2.mono M.size)⟩) (aQF _) om ae (fun j aC i v I=>by
    have AB:i < 2:=(aQL.1 I).1;have aI:l[j]?=some l[j]!:=by rw [List.getElem?_eq_getElem aC,getElem!_pos l j aC]
    obtain⟨h1,AP⟩:=ae0 aI;rw [Nat.add_assoc];match i,AB,I with
    | 0,_,I=>exact (hcell _ _ h1).trans I
    | 1,_,I=>exact (hcell _ _ AP).trans I);rw [List.take_length] at this;exact this
theorem aFE [dS] (bq:a.length<=1000000):Ls 2 [MM,a]:=by
 intro w L v q s A eY rest AX h hf Ae BK ax Al;generalize Am:2=n at ax Al |-;have BL:1 < n:=om;clear Am;refine U0 ?_;intro iC fo jc lg R nu X N nl uT dn aP EX uS dE De di cZ uz Gi bn vO lu t1 v1 t2 v2 t3 v3 t4 v4 t5 v5 t6 v6 t7 E5 t8 E8 kT cu qW dJ E9 BO wB zC Il Lv;obtain⟨Ab,Y⟩:=ai v.env.length;have AA:=aa (show ∀ af,Bl w af->af.cell? (ad R 1)=some (.slice L.mo Ab L.nk)/\Rd af 2 L.mo Ab (BQ v.env) from fun af ae=>by
  obtain⟨_,_,_,Bg⟩:=h;rw [Y,dE.o];exact⟨((Bg.below ae).cell 1).1,(Bg.below ae).env.rd⟩);obtain⟨AP,AQ⟩:∃ AP,AP=Lib.idxByFrom (fun _ y=>decide (y.1=a)) default v.env 0:=⟨_,rfl⟩;have AB:=aa (fun af (ae:Bl w af) (g:Nat) (hc:af.cell? (ad g 0)=some (.string uT))=>show CB 224 #[.slice L.mo Ab L.nk,.func (.func 225) #[] #[pp g 0]] af (.int .i64 AP) from by
  have:=aFD af L.mo L.nk v.env (by rw [<- Y];exact (AA.o af ae).2) AX.len g a (by rw [<- Gi.o];exact hc);rwa [<- Y,<- AQ] at this);have Af:s.wO v ⟨[MM,a],rest⟩=match v.env.find? fun x=>x.1 == a with | none=>s.fail 10 | some x=>s.add x.2:=rfl
 rw [Af] at uS;clear Af;have Ao:=(AA.o bn cu).1;rcases asC a v.env 0 with ⟨h1,AU⟩ | ⟨gL,x,AZ,Ag,AU⟩
 ·rw [AU] at uS;have Ap:AP < 0:=by rw [AQ,h1];decide
  have AV:=aa fun af (ae:Bl w af)=>RO uS.o h ae (Xq af L v q s (h.below ae) 10);rw [fG,<- dE.o] at AV;clear h hf Ae AX Y AQ h1 AU bq ax;go_wp2_with (first|(go_at_call 224; refine (AB.o bn cu _ zC).mono ?_;rintro e I ⟨rfl,J⟩;have Aa:=aa J;have Aq:I.cell? (ad w.heap.size 0)=some (pp R 0):=(qW.o I J).r.cell 0;clear J AB wB zC)|(go_at_call 226; refine jr (AV.o I (dJ.o I Aa.o)) ?_;intro Av ik));exact Lr
 ·rw [AU] at uS;have Ah:AP=(gL:Int):=by rw [AQ,Ag,Nat.zero_add]
  have Az:gL < Ab:=by rw [Y];exact (aQL.1 AZ).1
  obtain⟨BB,BC,Ac,_⟩:=(AA.o w (Below.refl _ _)).2.2 om;obtain⟨BD,Ad⟩:=ai (aA x.2);have BF:=aa (show ∀ af,Bl w af->af.cell? ⟨BB,BC+gL * 2+1,none⟩=some (.string BD) from fun af ae=>by
   obtain⟨b',BN,Ak,hc⟩:=(AA.o af ae).2.2 om;rw [Ac] at Ak;cases Ak;rw [Ad];exact hc _ _ (ae0 AZ).2);have BG:=(AX.all x (aQK AZ)).2;rw [Ac] at AA AB Ao;have Ap:¬ (gL:Int) < 0:=om;have BP:(gL:Int) < Ab:=om;have BR:(0:Int)<=gL:=om;rw [Ah] at AB;have AV:=aa fun af (ae:Bl w af)=>RO uS.o h ae (Xr af L v q s (h.below ae) hf.lim.buf x.2 om);rw [fG,<- dE.o,<- Ad] at AV;clear h hf Ae AX Y AQ Ah Ag AU bq ax AZ Ac Ad BG Az;go_wp2_with (go_at_call 224; refine (AB.o bn cu _ zC).mono ?_;rintro e I ⟨rfl,J⟩;have Aa:=aa J;have Aq:I.cell? (ad w.heap.size 0)=some (pp R 0):=(qW.o I J).r.cell 0;clear J AB wB zC);have kR:=aa fun af (aj:Bl bn af)=>And.intro ((qW.o af aj).r.cell 0) (And.intro (AA.o af (dJ.o af aj)).1 (BF.o af (dJ.o af aj)));refine qL 9 [_,_,_,_,_,_,_,_,_] (Bl bn) Aa.o.drew ?_;intro af aj;have BH:=aa (dJ.o af aj);clear aj;go_wp2_with (go_at_call 221; refine jr (AV.o af BH.o) ?_;intro Av ik);exact Lr
theorem aFI [dS] (bq:a.length<=1000000):Ls 2 [MN,a]:=by
 intro w L v q s A eY rest AP h hf AQ Ae ax AZ;generalize Aa:2=n at ax AZ |-;have Af:1 < n:=om;clear Aa;refine U0 ?_;intro iC fo jc lg R nu X N nl uT dn aP EX uS dE De di cZ uz Gi bn vO lu t1 v1 t2 v2 t3 v3 t4 v4 t5 v5 t6 v6 t7 E5 t8 E8 kT cu qW dJ E9 BO wB zC Il Lv;obtain⟨AA,M⟩:=ai ((jQ s.buf).any (mQ · a));have Y:=aa (fun (af:aRU) (A:aRV) (c:Nat) (AU:Nat) (aG:Own af AU 9 1 A nl c (cB (jQ s.buf))) (ae:Bl w af) (g:Nat) (hc:af.cell? (ad g 0)=some (.string uT))=>show CB 111 #[.slice A nl c,.func (.func 227) #[] #[pp g 0]] af (.bool AA) from by
  rw [uz.o] at aG |-;rw [M];exact aEp af AU A c (jQ s.buf) aG (by have:=QM s.buf;have:=hf.lim.buf;omega) (fun y hy=>by have:=TQ hy;have:=hf.lim.buf;omega) g a ⟨by rw [<- Gi.o];exact hc,hf.vL.on ae,bq⟩);have AV:s.wO v ⟨[MN,a],rest⟩=if AA=true then s else s.fail 15:=by rw [M];rfl
 rw [AV] at uS;clear AV;cases AA
 ·have AX:=aa fun af (ae:Bl w af)=>RO uS.o h ae (Xq af L v q s (h.below ae) 15);rw [fG,<- dE.o] at AX;clear h hf AQ AP bq ax M;go_wp2_with (first|(go_at_call 111; refine (Y.o bn vO lu _ kT.o cu _ zC).mono ?_;rintro e I ⟨rfl,J⟩;have AB:=aa J;have Ac:I.cell? (ad w.heap.size 0)=some (pp R 0):=(qW.o I J).r.cell 0;clear J Y wB zC)|(go_at_call 226; refine jr (AX.o I (dJ.o I AB.o)) ?_;intro Ag ik));exact Lr
 ·have Ad:=aa (fun af (ae:Bl w af)=>show iC (.returned (.tuple #[])) af from by rw [uS.o];exact⟨q,jM.plain h ae⟩);clear h hf AQ AP bq ax M;go_wp2_with (first|(go_at_call 111; refine (Y.o bn vO lu _ kT.o cu _ zC).mono ?_;rintro e I ⟨rfl,J⟩;have AB:=aa J;have Ac:I.cell? (ad w.heap.size 0)=some (pp R 0):=(qW.o I J).r.cell 0;clear J Y wB zC));refine qB ?_;exact Ad.o _ (dJ.o _ AB.o)
theorem aFK (A:aRV) (n c:Nat) (mo:aRV) (Ab nk:Nat) (buf:ak) (m:Nat) (asks:ak) (waits:Bool) (d e:pM) :
  laid (uw A n c mo Ab nk buf m asks waits d) 6 [.int .i64 e.kind,.string (aA e.path),.string (aA e.data),.int .i64 e.why]=uw A n c mo Ab nk buf m asks waits e:=rfl
theorem aFL [dS]:Ls 2 [OW,a]:=by
 intro w L v q s A eY rest Ae h hf Af BB ax Ag;generalize Ah:2=n at ax Ag |-;have BC:1 < n:=om;clear Ah;refine U0 ?_;intro iC fo jc lg R nu X N nl uT dn aP EX uS dE De di cZ uz Gi bn vO lu t1 v1 t2 v2 t3 v3 t4 v4 t5 v5 t6 v6 t7 E5 t8 E8 kT cu qW dJ E9 BO wB zC Il Lv;have AU:=aa (fun af (ae:Bl w af)=>show ∃ cur:Array Value,af.heap[R]?=some (.cells cur 295 (0,0))/\cur.size=10/\(af.setRow R (laid cur 6 [.int .i64 2,.string uT,.string X,.int .i64 0])).cell? (ad R 2)=some (.string X)/\(af.setRow R (laid cur 6 [.int .i64 2,.string uT,.string X,.int .i64 0])).frozen? ⟨R,2,none⟩=false /\
   iC (.returned (.tuple #[])) ((af.setRow R (laid cur 6 [.int .i64 2,.string uT,.string X,.int .i64 0])).setCell ⟨R,2,none⟩ (.string ⟨#[]⟩)) from by
  obtain⟨J,M,us,Ak⟩:=id h;have Y:=Ak.below ae;have AV:=aFK J s.todo.length M L.mo v.env.length L.nk s.buf L.m s.asks s.waits s.over ⟨2,a,s.buf,0⟩;rw [<- Gi.o,<- di.o] at AV;have Al:eT (af.setRow R (laid (uw J s.todo.length M L.mo v.env.length L.nk s.buf L.m s.asks s.waits s.over) 6 [.int .i64 2,.string uT,.string X,.int .i64 0])) L.R (uw J s.todo.length M L.mo v.env.length L.nk s.buf L.m s.asks s.waits ⟨2,a,s.buf,0⟩) 295:=by have I:=Y.run;rw [<- dE.o] at I |-;unfold eT at I |-;rw [setRow_heap af R _ _ _ _ I];exact congrArg (fun z=>some (Obj.cells z 295 (0,0))) AV
  have AB:=dz.setRow (dz.refl L.B af) Y.run (.inl rfl) Y.base (laid (uw J s.todo.length M L.mo v.env.length L.nk s.buf L.m s.asks s.waits s.over) 6 [.int .i64 2,.string uT,.string X,.int .i64 0]);rw [<- dE.o] at AB;have AX:=Y.cells (s':={ s with over:=⟨2,a,s.buf,0⟩ }) Al (fun k hk=>aQT af R k _ (by rw [dE.o];exact hk)) AB rfl rfl rfl;have AP:=AX.one (s':={ s with over:=⟨2,a,s.buf,0⟩,buf:=[] }) (i:=2) (u:=.string ⟨#[]⟩) rfl rfl rfl rfl;have AA:=AX.cell 2;rw [<- dE.o] at AP AA;refine⟨uw J s.todo.length M L.mo v.env.length L.nk s.buf L.m s.asks s.waits s.over,?_,rfl,?_,AA.2,?_⟩
  ·have I:=Y.run;rw [<- dE.o] at I;exact I
  ·rw [di.o];rw [di.o] at AA;exact AA.1
  ·rw [uS.o];exact⟨q,rfl,⟨_,_,_,AP.1⟩,(dz.gN ae h.size).trans (AB.trans AP.2)⟩);clear h hf Af Ae ax;go_upto_region 21 with fail
 have kR:=aa fun af (aj:Bl bn af)=>And.intro (show af.cell? (ad w.heap.size 0)=some (pp R 0) from (qW.o af aj).r.cell 0) (And.intro (show af.cell? (ad (w.heap.size+1+1) 0)=some (.string uT) from (qW.o af aj).a.cell 0) (EX.o af (dJ.o af aj)));refine KE 9 [_,_,_,_,_,_,_,_,_] ?_;intro af aj;have Am:=aa (dJ.o af aj);have AZ:af.cell? (ad w.heap.size 0)=some (pp R 0):=(qW.o af aj).r.cell 0;obtain⟨cur,AQ,eG,Ao,Ap,Aa⟩:=AU.o af Am.o;have Aq:w.heap.size≠R:=by
  rintro rfl;have:=(qW.o af aj).r;unfold eT at this;rw [AQ] at this;injection this with this
  injection this with _ this
  cases this
 have Av:(af.setRow R (laid cur 6 [.int .i64 2,.string uT,.string X,.int .i64 0])).cell? (ad w.heap.size 0)=some (pp R 0):=(aRu (aQT af R _ _ Aq)).trans AZ;have Az:6+[Value.int .i64 2,.string uT,.string X,.int .i64 0].length<=cur.size:=by rw [eG];simp
 have Ac:=aa Aa;clear aj AU Aa eG AZ;go_wp2_with ((with_reducible refine yH R 6 (.agg #[.int .i64 2,.string uT,.string X,.int .i64 0]) [.int .i64 2,.string uT,.string X,.int .i64 0] (aeE _ _ _ _) cur 295 AQ (aeF _ _ _ _) Az aeD ?_ ?_);exact⟨rfl,rfl⟩;obtain⟨BD,Ad⟩:=ai (af.setRow R (laid cur 6 [.int .i64 2,.string uT,.string X,.int .i64 0]));rw [<- Ad] at Av Ao Ap Ac |-;clear Ad AQ);have ik:=Ac;exact Lr
theorem asH (hk:[OU,OV,ML,uL,MM,OW,MN,OX].all (· != k)=true) (s:aK) (v:Env) (rest:ak) (r:List ak):s.wO v ⟨k :: r,rest⟩=s.dG k (r.headD []) (jQ s.buf):=by simp at hk;obtain⟨h1,I,J,M,Y,AA,AB,AP⟩:=hk;rw [aK.wO];simp only [List.headD_cons,List.drop_succ_cons,List.drop_zero];rw [if_neg (Ne.symm h1),if_neg (Ne.symm I),if_neg (Ne.symm J),if_neg (Ne.symm M),if_neg (Ne.symm Y),if_neg (Ne.symm AA),if_neg (Ne.symm AB),if_neg (Ne.symm AP)]
theorem ae1 [dS] (hk:[OU,OV,ML,uL,MM,OW,MN,OX].all (· != k)=true)
  (aX:∀ (w af:aRU) (L:iV) (v:Env) (q:Option Nat) (s:aK) (A:aRV) (c:Nat),EZ w af L v q s A c (jQ s.buf)->Calls prog 229 #[fG L.R,.string (aA k),.string (aA []),.slice A (jQ s.buf).length c] af (jM w L v q (s.dG k [] (jQ s.buf)))):Ls 1 [k]:=by
 intro w L v q s A eY rest M h hf Y AQ ax AU;refine akq ?_;intro iC fo jc R nu X N nl dn EX uS dE De di cZ uz bn vO lu t1 v1 t2 v2 t3 v3 t4 v4 t5 v5 t6 v6 t7 E5 t8 E8 kT cu qW dJ E9 BO wB zC Il Lv;rw [asH hk] at uS;have AA:=aa (fun af (ae:Bl w af) (A:aRV) (c:Nat) (aG:Own af w.heap.size 9 1 A nl c (cB (jQ s.buf)))=>show Calls prog 229 #[pp R 0,.string N,.string ⟨#[]⟩,.slice A nl c] af fun e aD=>e = .returned (.tuple #[])/\iC (.returned (.tuple #[])) aD from by
  have AV:=hf.lim.buf;have:=aX w af L v q s A c ⟨h,hf,ae,by rw [<- uz.o];exact aG,by have:=QM s.buf;omega,fun y hy=>by have:=TQ hy;omega,by have:=asr s.buf;omega⟩;rw [fG,<- dE.o,<- cZ.o,<- uz.o,show aA []=⟨#[]⟩ from rfl] at this;refine this.mono fun e aD I=>⟨I.1,?_⟩;have J:=I;rw [I.1] at J;rw [uS.o];exact⟨q,J⟩);clear h hf Y M ax hk aX;go_upto_region 6 with fail
 have kR:=aa fun af (aj:Bl bn af)=>And.intro ((qW.o af aj).r.cell 0) (And.intro ((qW.o af aj).c.cell 0) (And.intro (dn.o af (dJ.o af aj)) ((qW.o af aj).a.cell 0)));refine KE 7 [_,_,_,_,_,_,_] ?_;intro af aj;have AB:=aa (dJ.o af aj);have AP:=aa (kT.o.below aj (aQF _));clear aj;go_wp2_with (go_at_call 229; refine jr (AA.o af AB.o vO lu AP.o) ?_;intro AX ik);exact Lr
theorem aFM [dS] (hk:[OU,OV,ML,uL,MM,OW,MN,OX].all (· != k)=true)
  (aX:∀ (w af:aRU) (L:iV) (v:Env) (q:Option Nat) (s:aK) (A:aRV) (c:Nat),EZ w af L v q s A c (jQ s.buf)->Calls prog 229 #[fG L.R,.string (aA k),.string (aA a),.slice A (jQ s.buf).length c] af (jM w L v q (s.dG k a (jQ s.buf)))):Ls 2 [k,a]:=by
 intro w L v q s A eY rest M h hf Y AV ax AA;generalize AB:2=n at ax AA |-;have AX:1 < n:=om;clear AB;refine U0 ?_;intro iC fo jc lg R nu X N nl uT dn aP EX uS dE De di cZ uz Gi bn vO lu t1 v1 t2 v2 t3 v3 t4 v4 t5 v5 t6 v6 t7 E5 t8 E8 kT cu qW dJ E9 BO wB zC Il Lv;rw [asH hk] at uS;have AP:=aa (fun af (ae:Bl w af) (A:aRV) (c:Nat) (aG:Own af w.heap.size 9 1 A nl c (cB (jQ s.buf)))=>show Calls prog 229 #[pp R 0,.string N,.string uT,.slice A nl c] af fun e aD=>e = .returned (.tuple #[])/\iC (.returned (.tuple #[])) aD from by
  have AZ:=hf.lim.buf;have:=aX w af L v q s A c ⟨h,hf,ae,by rw [<- uz.o];exact aG,by have:=QM s.buf;omega,fun y hy=>by have:=TQ hy;omega,by have:=asr s.buf;omega⟩;rw [fG,<- dE.o,<- cZ.o,<- uz.o,<- Gi.o] at this;refine this.mono fun e aD I=>⟨I.1,?_⟩;have J:=I;rw [I.1] at J;rw [uS.o];exact⟨q,J⟩);clear h hf Y M ax hk aX;have aep:0 < n:=om;go_upto_region 6 with fail
 have kR:=aa fun af (aj:Bl bn af)=>And.intro ((qW.o af aj).r.cell 0) (And.intro ((qW.o af aj).c.cell 0) (And.intro (dn.o af (dJ.o af aj)) ((qW.o af aj).a.cell 0)));refine KE 7 [_,_,_,_,_,_,_] ?_;intro af aj;have AQ:=aa (dJ.o af aj);have AU:=aa (kT.o.below aj (aQF _));clear aj;go_wp2_with (go_at_call 229; refine jr (AP.o af AQ.o vO lu AU.o) ?_;intro Aa ik);exact Lr
def Px (c:sK):Prop:=WY c/\adY c/\c.ws.length=if c.ws.headD []=uL then 1 else (vC (c.ws.headD [])).1
theorem aFN {may:ak->Bool} {s:ak} {c:sK} (h:yl may s=some (some c)) (hs:s.length<=100000):Px c:=by
 obtain⟨h1,J⟩:=aCk h hs;refine⟨J,h1,?_⟩;unfold yl at h;cases hw:nS s with
 | nil=>rw [hw] at h;cases h
 | cons w r =>
  rw [hw] at h;simp only at h;split at h
  ·cases h
  ·split at h
   ·rename_i hk;cases h;simp [hk]
   ·rename_i hk;split at h
    ·cases h
    ·rename_i I;cases h;show (w :: r).length=if w=uL then 1 else (vC w).1
     rw [if_neg hk,List.length_cons];simp only [not_or,Decidable.not_not] at I;exact I.1.symm
theorem asI {may:ak->Bool} {text:ak} (h:text.length<=100000):∀ c∈qG may (jQ text),Px c:=fun c hc=>by
 obtain⟨x,ah,I⟩:=ai2 hc;exact aFN I (aQG (TQ ah) h)
theorem aFO [dS] (w:aRU) (L:iV) (v:Env) (bg:Gh v) (q:Option Nat) (s:aK) (h:jL w L v q s) (hf:Fit w L s) (iK:∀ t∈s.todo,t.BI=true) (A:aRV) (eY:Nat) (c:sK) (hc:Px c) (ax:Rd w 1 A c.ws.length (cB c.ws)) (zy:c.ws.length<=eY) :
  Calls prog 192 #[fG L.R,.agg #[.slice A c.ws.length eY,.string (aA c.rest)]] w fun e w'=>∃ eG,jM w L v eG (s.wO v c) e w':=by
 obtain⟨ws,rest⟩:=c;obtain⟨⟨Y,_,hl,AA⟩,J,hlen⟩:=hc;simp only at *;suffices H:Ls ws.length ws from H w L v q s A eY rest bg h hf iK AA ax zy
 clear ax zy;obtain⟨k,r,rfl⟩:∃ k r,ws=k :: r:=by
  cases ws with
  | nil=>exact absurd rfl Y
  | cons k r=>exact⟨k,r,rfl⟩
 unfold adY at J;simp only [List.headD_cons,List.length_cons,List.mem_cons,List.not_mem_nil,or_false] at J hlen;have M:∀ x∈r,x.length<=1000000:=fun x ah=>hl x (by simp [ah]);have one:r.length+1=1->r=[]:=fun h=>aQV om;have two:r.length+1=2->∃ a,r=[a]/\a.length<=1000000:=fun h=>by
  match r,h,M with
  | [a],_,h=>exact⟨a,rfl,h a sp⟩
 rcases J with rfl | rfl | rfl | rfl | rfl | rfl | rfl | rfl | rfl | rfl | rfl | rfl | rfl
 ·obtain⟨a,rfl,I⟩:=two hlen;exact aFy I
 ·obtain⟨a,rfl,I⟩:=two hlen;exact aFz I
 ·obtain⟨a,rfl,I⟩:=two hlen;exact aFL
 ·match r,(hlen:r.length+1=3),M with
  | [a,b],_,h=>exact aFB (h a sp)
 ·obtain⟨a,rfl,I⟩:=two hlen;exact aFE I
 ·obtain⟨a,rfl,I⟩:=two hlen;exact aFM dc fun w af L v q s A c h=>aFl w af L v q s A c _ h a I
 ·obtain⟨a,rfl,I⟩:=two hlen;exact aFI I
 ·obtain rfl:=one hlen;exact ae1 dc fun w af L v q s A c h=>aFj w af L v q s A c _ h []
 ·obtain rfl:=one hlen;exact ae1 dc fun w af L v q s A c h=>aFk w af L v q s A c _ h []
 ·obtain rfl:=one hlen;exact ae1 dc fun w af L v q s A c h=>aFt w af L v q s A c _ h []
 ·obtain rfl:=one hlen;exact ae1 dc fun w af L v q s A c h=>aFn w af L v q s A c _ h []
 ·obtain rfl:=one hlen;exact aFw
 ·obtain rfl:=one hlen;exact aFx
end
section
open Go.Lib
def Lay (l:List iT):Prop:=∃ a b,l=a++b/\(∀ t∈a,t.BI=false)/\∀ t∈b,t.BI=true
theorem Lay.JQ (h:∀ t∈l,t.BI=true):Lay l:=⟨[],l,rfl,fun t I=>(by cases I),h⟩
theorem Lay.cons (h:Lay l) (az:t.BI=false):Lay (t :: l):=by
 obtain⟨a,b,rfl,h1,I⟩:=h;refine⟨t :: a,b,rfl,fun x ah=>?_,I⟩;rcases aQN.1 ah with rfl | ah
 ·exact az
 ·exact h1 x ah
theorem Lay.app (h:Lay l):∀ {k:List iT},(∀ t∈k,t.BI=false)->Lay (k++l)
 | [],_=>h
 | t :: k,hk=>(Lay.app h (k:=k) fun x ah=>hk x (by simp [ah])).cons (hk t sp)
theorem Lay.tail (h:Lay (t :: l)):Lay l:=by
 obtain⟨a,b,e,h1,I⟩:=h;cases a with
 | nil =>
  rw [List.nil_append] at e;subst e;exact .JQ fun x ah=>I x (by simp [ah])
 | cons y a =>
  rw [List.cons_append] at e;injection e with _ e
  exact⟨a,b,e,fun x ah=>h1 x (by simp [ah]),I⟩
theorem Lay.under (h:Lay (t :: l)) (az:t.BI=true):∀ x∈l,x.BI=true:=by
 obtain⟨a,b,e,h1,I⟩:=h;cases a with
 | nil =>
  rw [List.nil_append] at e;subst e;exact fun x ah=>I x (by simp [ah])
 | cons y a =>
  rw [List.cons_append] at e;injection e with e _
  subst e;rw [h1 t sp] at az;cases az
theorem Lay.grows (h:Lay s.todo) (av:Hu s s'):Lay s'.todo:=by
 rcases av.2 with ⟨L,w,e,_⟩ | ⟨p,th,e,_⟩
 ·rw [e];refine h.app fun t I=>?_;obtain⟨x,_,rfl⟩:=aQO.1 I;rfl
 ·rw [e];exact h.cons rfl
theorem Lay.step (h:Lay s.todo):Lay (s.step v).todo:=by
 by_cases hs:s.Still
 ·rw [aK.Ht hs];exact h
 ·cases I:s.todo with
  | nil =>
   rw [Ji hs I];exact .JQ fun t h=>by rw [I] at h;cases h
  | cons t r =>
   rw [step_cons hs I];rw [I] at h;exact Lay.grows (s:={ s with todo:=r }) h.tail (Rb _ v t)
theorem Lay.next (h:Lay s.todo):Lay s.next.todo:=by
 unfold aK.next;repeat' split
 all_goals exact h
theorem aFP (l:List sK):Lay (aK.start l).todo:=.JQ fun t I=>by
 obtain⟨c,_,rfl⟩:=aQO.1 I;rfl
end
section
open Go.Maps Go.RowKit Go.Shelf
structure Sound (s:aK):Prop where
 lim:nC s
 todo:s.todo.length<=10000000000
 seen:s.seen.length<=10000000
 lay:Lay s.todo
 JQ:∀ c,iT.cmd c∈s.todo->Px c
structure Home (w:aRU) (L:iV):Prop where
 vL:qQ w
 EW:0 < L.B
 base:L.B<=w.heap.size
 Gf:Lib.TabBelow prog L.B w "internal/strconv.uint64pow10" .u64 Lib.pow10Tab
theorem Home.uR [dS] (h:Home w L) (ae:dz L.B w w'):Home w' L:=⟨h.vL.uR ae h.EW,h.EW,aQG h.base ae.size,h.Gf.on ae.below⟩
theorem Home.aFQ (h:Home w L) (hs:Sound s) {r:List iT} (az:s.todo=t :: r):Fit w L { s with todo:=r } :=
 ⟨h.vL,h.EW,⟨hs.lim.buf,fun x ah=>hs.lim.tasks x (by rw [az];simp [ah]),hs.lim.AY,hs.lim.Hw,hs.lim.asks,hs.lim.less⟩,by have:=hs.todo;rw [az] at this;simp at this;show r.length<=_;omega,by have:=hs.seen;show s.seen.length<=_;omega,h.base,h.Gf⟩
theorem aFR [dS] (w:aRU) (L:iV) (v:Env) (bg:Gh v) (q:Option Nat) (s:aK) (h:jL w L v q s) (hf:Fit w L s) (iK:∀ t∈s.todo,t.BI=true) (c:sK) (hc:Px c) (g1 g2:Nat) (h1:yU w g1 L.R) (ag:aaw w L.R g2 c) :
  Calls prog 191 #[fG g1,fG g2] w fun e w'=>∃ eG,jM w L v eG (s.wO v c) e w':=by
 obtain⟨A,eY,hcell,J,_⟩:=ag;have M:=aFO w L v bg q s h hf iK A eY c hc J.rd J.2.1;obtain⟨R,Y,n,AA,nu,AB⟩:=nq3 L.R c.ws.length (aA c.rest);obtain⟨AP,I⟩:∃ AP:Ending->World->Prop,AP=fun e w'=>∃ eG,jM w L v eG (s.wO v c) e w':=⟨_,rfl⟩;rw [fG,fG,<- I];rw [fG,<- I,<- AA,<- AB,<- Y] at M;have c1:w.cell? (ad g1 0)=some (pp R 0):=by rw [Y];exact h1.cell
 have c2:w.cell? (ad g2 0)=some (.slice A n eY):=by rw [AA];exact hcell.cell 0
 have bH:w.cell? (ad g2 1)=some (.string nu):=by rw [AB];exact hcell.cell 1
 have AQ:Calls prog 192 #[pp R 0,.agg #[.slice A n eY,.string nu]] w fun e af=>e = .returned (.tuple #[])/\AP (.returned (.tuple #[])) af:=M.mono fun e af k=>by
  have AU:=k;rw [I] at k;obtain⟨eG,k⟩:=k;have AV:=k.1;subst AV;exact⟨rfl,AU⟩
 have AX:=aa AQ;clear h hf iK hc h1 hcell J M AQ Y AA AB I bg;go_enter func191,ntmps191;go_wp2_with (go_at_call 192; refine jr AX.o ?_;intro Aa AZ);refine qB ?_;exact AZ.o
theorem aFT [dS] (w:aRU) (L:iV) (v:Env) (q:Option Nat) (s:aK) (h:jL w L v q s) (hf:Fit w L s) (p:ak) (aI:p.length<=1000000) (th:rQ) (kN:th.Ic=true\/MapAt w L q s) (g1 g2 g3:Nat) (u:Value) (h1:eT w g1 #[u] 322) (FR:yV w L.R q u th) (ag:yU w g2 L.R) (au:Lj w g3 p) :
  Calls prog 247 #[fG g1,fG g2,fG g3] w (jM w L v q (s.nL th ((tL s.known p).getD ⟨[],false,[]⟩))):=by
 have bf:=h.size;obtain⟨A,c,us,ax⟩:=h;obtain⟨Al,M,aj,Am,AV⟩:=ax.known;obtain⟨I,AX,AZ,Aa⟩:∃ I,(getM M p).getD Re=I/\s.nL th ((tL s.known p).getD ⟨[],false,[]⟩)=s.nL th I/\(I.is=true->I.data.length<=1000000):=by
  have Y:=AV p;cases av:getM M p with
  | none =>
   rw [av] at Y;rw [<- Y];exact⟨Re,rfl,rfl,fun e=>by cases e⟩
  | some k =>
   rw [av] at Y;refine⟨k,rfl,?_,fun Ao=>?_⟩
   ·rw [<- Y];exact aK.arP s th k
   ·have Ac:=hf.lim.AY p (qU k) (by rw [<- Y];rfl);rw [qU,if_pos Ao] at Ac;exact Ac rfl
 rw [AZ];have Ad:=fun W (J:Bl w W)=>ar8 (v:=v) ⟨A,c,us,ax.below J⟩ (hf.below J) (FR.below J) (kN.imp id fun x=>x.below J) I Aa;obtain⟨f,mU,iI,rfl,Ae,hc⟩:=Pm.calls Ad (Below.refl _ _);have BC:∀ (args:Array Value) (w:aRU),(callFunc f args).run prog w = .ok (.enter f args) w:=Ae;obtain⟨F,AA⟩:=ai (xE I);have Af:=aj.lt;have Ag:=ax.run.lt;have look:∀ af,Bl w af->(Instr.lookup 290 (.map (some L.m)) (.string (aA p)) false).run prog af = .ok F af:=fun af ae=>by
  have:=(aj.below ae Af).look aj4 underlying9 underlying290 Re (arY af) (aA p) (by rw [iP];unfold maxLen;omega);rw [show (aA p).data.toList=p from by simp [aA],AX] at this;rw [AA];exact this
 have AB:∀ af,Bl w af->af.cell? (ad L.R 3)=some (.map (some L.m)):=fun af ae=>(ae.cell (p:=ad L.R 3) Ag).trans (ax.cell 3).1;obtain⟨Ah,AP⟩:=ai (jM w L v q (s.nL th I));rw [<- AA] at hc;have Ak:∀ W,Bl w W->Calls prog f (mU++#[F]++iI) W fun e af=>e = .returned (.tuple #[])/\Ah (.returned (.tuple #[])) af:=fun W J=>(hc W J).mono (R':=fun e af=>e = .returned (.tuple #[])/\Ah (.returned (.tuple #[])) af) fun e af k=>⟨k.1,by rw [AP];have:=k.since J bf;rw [k.1] at this;exact this⟩;obtain⟨R,aL,m,hm,s0,AQ⟩:=nq3 L.R L.m (aA p);rw [fG,fG,fG,<- AP];rw [<- aL,<- hm] at AB;rw [<- hm,<- AQ] at look;have AU:=aa (show ∀ af,Bl w af->af.cell? (ad g1 0)=some (.func (.func f) mU iI)/\af.cell? (ad g2 0)=some (pp R 0)/\af.cell? (ad g3 0)=some (.string s0) from fun af ae=>by
  rw [aL,AQ];exact⟨(h1.below ae).cell 0,(eT.below ag ae).cell 0,(eT.below au ae).cell 0⟩);obtain⟨Ap,Aq,Av⟩:=hq3 look AB Ak;clear hc Ak look AB AP AA aj Ae AX aI aL hm AQ ax AV Am FR AZ Aa Ad kN h1 ag au hf Al Af Ag bf;go_enter func247,ntmps247;go_wp2_with fail;have kR:=aa fun af (aj:Bl w af)=>And.intro ((AU.o af aj).1) (And.intro ((AU.o af aj).2.1) (And.intro (Aq.o af aj) (And.intro ((AU.o af aj).2.2) (Ap.o af aj))));refine KE 7 [_,_,_,_,_,_,_] ?_;refine aoc ?_;intro af Az;go_wp2_with fail;refine jr (Av.o af Az.o) ?_;intro bn BB;go_wp2_with fail;refine qB ?_;exact BB.o
theorem asJ:Enters prog 191:=enters_of func191 kr rfl
theorem asK:Enters prog 247:=enters_of func247 kr rfl
theorem asL:Enters prog 251:=enters_of func251 kr rfl
theorem aFU [dS] (w:aRU) (L:iV) (v:Env) (bg:Gh v) (q:Option Nat) (s:aK) (hs:Sound s) (hw:Home w L) (t:iT) (r:List iT) (az:s.todo=t :: r) (h:jL w L v q { s with todo:=r }) (kN:t.Ic=true\/MapAt w L q s) (u:Value) (hu:ER w L.R q u t) :
  ∃ (f:Nat) (mU iI:Array Value),u = .func (.func f) mU iI/\Enters prog f/\Calls prog f (mU++iI) w fun e w'=>∃ eG,jM w L v eG (aK.task v { s with todo:=r } t) e w':=by
 have hf:=hw.aFQ hs az;have Y:t∈s.todo:=by rw [az];simp
 have AA:=hs.lim.tasks t Y;cases t with
 | cmd c =>
  obtain⟨g1,g2,e,h1,I⟩:=hu;refine⟨_,_,_,e,asJ,?_⟩;have AB:=hs.lay;rw [az] at AB;exact aFR w L v bg q { s with todo:=r } h hf (AB.under rfl) c (hs.JQ c Y) g1 g2 h1 I
 | tK p th =>
  obtain⟨g1,g2,g3,u2,e,h1,I,J,M⟩:=hu;refine⟨_,_,_,e,asK,?_⟩;have:=aFT w L v q { s with todo:=r } h hf p AA.1 th kN g1 g2 g3 u2 h1 I J M;exact this.mono fun e w' k=>⟨q,k⟩
 | line x y =>
  obtain⟨g1,g2,g3,g4,e,h1,I,J,M⟩:=hu;refine⟨_,_,_,e,asL,?_⟩;have hm:MapAt w L q s:=kN.resolve_left (fun e=>by cases e);have:=aE6 w L v bg.may q { s with todo:=r } h hf hm (by have:=hs.seen;show s.seen.length < _;omega) x y AA.1 g1 g2 g3 g4 h1 I J M;exact this.mono fun e w' k=>⟨q,k⟩
end
section
theorem XA:∀ {l m:List ak},l.Nodup->(∀ x∈l,x∈m)->l.length<=m.length
 | [],_,_,_=>aQQ _
 | x :: l,m,h,hs=>by
  rw [List.nodup_cons] at h;have ah:x∈m:=hs x sp;have h1:∀ y∈l,y∈m.erase x:=fun y hy=>by
   have I:y≠x:=fun e=>h.1 (e ▸ hy);exact (List.mem_erase_of_ne I).2 (hs y (by simp [hy]))
  have J:=XA h.2 h1;rw [List.length_erase_of_mem ah] at J;have:0 < m.length:=List.length_pos_of_mem ah;rw [List.length_cons];omega
def U3 (s:aK) (p:ak):Prop:=(tL s.known p).isSome=true
structure Gj (s:aK):Prop where
 nodup:s.seen.Nodup
 len:s.seen.length<=501
 asked:s.over.kind=4\/∀ p∈s.seen,U3 s p\/(s.waits=true/\p=s.asks)
theorem asO (s:aK) (th:rQ) (k:dB):(s.nL th k).seen=s.seen:=by unfold aK.nL;cases th <;> simp only <;> split <;> first | rfl | exact (add_same s _).2.2.2.2
theorem asP (s:aK) (p:ak) (th:rQ):(s.ask p th).seen=s.seen:=by
 unfold aK.ask;split
 ·exact asO s th _
 ·split <;> rfl
theorem akw (s:aK) (p w:ak):(s.scan p w).seen=p :: s.seen:=asP _ _ _
theorem aFV (s:aK) (p:ak) (th:rQ):(s.ask p th).over.kind=4\/U3 (s.ask p th) p\/((s.ask p th).waits=true/\p=(s.ask p th).asks):=by
 have av:=(aiU s p th).1;unfold U3;rw [av];unfold aK.ask;split
 ·rename_i k hk;right;left;rw [hk];rfl
 ·split
  ·left;rfl
  ·right;right;exact⟨rfl,rfl⟩
theorem Gj.grown (h:Gj s) (aV:s.over.kind=0) (hw:s.waits=false) (av:Hu s s') (hs:s'.seen=s.seen):Gj s':=by
 have hk:∀ p∈s.seen,U3 s p:=fun p aI=>by
  rcases h.asked with h1 | h1
  ·omega
  ·rcases h1 p aI with I | ⟨I,_⟩
   ·exact I
   ·rw [hw] at I;cases I
 refine⟨by rw [hs];exact h.nodup,by rw [hs];exact h.len,.inr fun p aI=>.inl ?_⟩;rw [hs] at aI;have:=hk p aI;unfold U3 at this |-;rw [av.1];exact this
theorem Gj.scan (h:Gj s) (aV:s.over.kind=0) (hw:s.waits=false) (hl:s.known.length<=500) (p w:ak) (aI:p ∉ s.seen):Gj (s.scan p w):=by
 have hk:∀ x∈s.seen,U3 s x:=fun x ah=>by
  rcases h.asked with h1 | h1
  ·omega
  ·rcases h1 x ah with I | ⟨I,_⟩
   ·exact I
   ·rw [hw] at I;cases I
 have hlen:s.seen.length<=500:=by have:=XA h.nodup (m:=s.known.map (·.1)) fun x ah=>aqC.1 (hk x ah);rw [List.length_map] at this;omega
 refine⟨?_,?_,?_⟩
 ·rw [akw,List.nodup_cons];exact⟨aI,h.nodup⟩
 ·rw [akw,List.length_cons];omega
 ·rcases aFV { s with seen:=p :: s.seen } p (.scan w) with h1 | h1
  ·exact .inl h1
  ·right;intro x ah;rw [akw] at ah;rcases aQN.1 ah with rfl | ah
   ·exact h1
   ·left;have I:=hk x ah;unfold U3 at I |-;rw [(aiV s p w).1];exact I
theorem aFW (s:aK) (n a:ak) (l:List ak):(s.dG n a l).seen=s.seen:=(aqy s n a l).2.2.2.2
theorem Gj.task (h:Gj s) (aV:s.over.kind=0) (hw:s.waits=false) (hl:s.known.length<=500) (v:Env) (t:iT):Gj (s.task v t):=by
 have av:=Rb s v t;have J:Gj { s with seen:=[] }:=⟨aRv,aQQ _,.inr fun p aI=>by cases aI⟩;cases t with
 | cmd c =>
  by_cases I:c.ws.headD []=ML
  ·have he:s.task v (.cmd c)=aK.scan { s with seen:=[] } ((c.ws.drop 1).headD []) ((c.ws.drop 2).headD []):=by show s.wO v c=_;unfold aK.wO;simp only [I];rfl
   rw [he];exact J.scan aV hw hl _ _ sp
  ·refine h.grown aV hw av ?_;show (s.wO v c).seen=s.seen;unfold aK.wO;simp only;repeat' split
   all_goals first|exact asP s _ _|exact (add_same s _).2.2.2.2|rfl|exact aFW s _ _ _|(rename_i ah;exact absurd ah I)
 | tK p th=>exact h.grown aV hw av (asO s th _)
 | line x w =>
  unfold aK.task aK.line at av |-;simp only at av |-;split
  ·rename_i a b M;split
   ·split
    ·exact h
    ·rename_i ae;exact h.scan aV hw hl _ _ ae
   ·refine h.grown aV hw (WX s _) (add_same s _).2.2.2.2
  ·refine h.grown aV hw (WX s _) (add_same s _).2.2.2.2
theorem Gj.todo (h:Gj s) (r:List iT):Gj { s with todo:=r }:=⟨h.nodup,h.len,h.asked⟩
structure Inv (U:List dB) (s:aK):Prop where
 agree:Agree U s
 ord:Ord s
 lay:Lay s.todo
 JQ:∀ c,iT.cmd c∈s.todo->Px c
 seen:Gj s
 lY:lY U s<=10000000000
theorem Inv.F7 (h:Inv U s):Good U s:=⟨h.agree,h.ord.MO⟩
theorem aFX (h:∀ c,iT.cmd c∈s.todo->Px c) (av:Hu s s'):∀ c,iT.cmd c∈s'.todo->Px c:=fun c hc=>by
 rcases av.2 with ⟨L,w,e,_⟩ | ⟨p,th,e,_⟩
 ·rw [e] at hc;rcases aQ4.1 hc with hc | hc
  ·obtain⟨x,_,ah⟩:=aQO.1 hc;cases ah
  ·exact h c hc
 ·rw [e] at hc;rcases aQN.1 hc with hc | hc
  ·cases hc
  ·exact h c hc
theorem Inv.step (h:Inv U s) (v:Env):Inv U (s.step v):=by
 obtain⟨h1,M,_⟩:=h.F7.step v;refine⟨h1.agree,h.ord.step,h.lay.step,?_,?_,aQG M h.lY⟩
 ·by_cases hs:s.Still
  ·rw [aK.Ht hs];exact h.JQ
  ·cases I:s.todo with
   | nil =>
    rw [Ji hs I];exact h.JQ
   | cons t r =>
    rw [step_cons hs I];exact aFX (s:={ s with todo:=r }) (fun c hc=>h.JQ c (by rw [I];exact aQ9 _ hc)) (Rb _ v t)
 ·by_cases hs:s.Still
  ·rw [aK.Ht hs];exact h.seen
  ·obtain⟨Y,hw⟩:=Rc hs;cases I:s.todo with
   | nil =>
    rw [Ji hs I];refine⟨h.seen.nodup,h.seen.len,?_⟩;rcases h.seen.asked with J | J
    ·omega
    ·exact .inr J
   | cons t r =>
    rw [step_cons hs I];exact (h.seen.todo r).task Y hw h.ord.lim.less v t
theorem Inv.run:∀ (n:Nat) {s:aK},Inv U s->Inv U (s.run v n)
 | 0,_,h=>h
 | n+1,_,h=>Inv.run n (h.step v)
theorem Inv.sound (h:Inv U s):Sound s:=⟨h.ord.lim,aQG h.F7.aCe h.lY,by have:=h.seen.len;omega,h.lay,h.JQ⟩
theorem Inv.stands (h:Inv U s) (v:Env):∃ n,(s.run v n).Still:=h.F7.stands _ (aQF _)
theorem Inv.next (h:Inv U s):Inv U s.next:=by
 have I:=h.ord.next;have hl:=h.lay.next;unfold aK.next at I hl |-;split at I
 ·rename_i hw;rw [if_pos hw];exact h
 ·rename_i hw;rw [if_neg hw] at hl |-;split at I
  ·rename_i J;rw [if_pos J] at hl |-;refine⟨h.agree,I,hl,h.JQ,⟨h.seen.nodup,h.seen.len,?_⟩,h.lY⟩;rcases h.seen.asked with M | M
   ·omega
   ·exact .inr M
  ·rename_i J;rw [if_neg J];exact h
theorem Inv.mE (h:Inv U s) (hw:s.waits=true) (iE:∀ p,(rR U p).is=true->(rR U p).data.length<=1000000):Inv U (s.mE (qU (rR U s.asks))):=by
 obtain⟨w1,af,aD⟩:=h.ord.waits hw;have M:(qU (rR U s.asks)).is=true->(qU (rR U s.asks)).data=(rR U s.asks).data/\(rR U s.asks).is=true:=fun I=>by
  unfold qU at I |-;by_cases ah:(rR U s.asks).is=true
  ·rw [if_pos ah];exact⟨rfl,ah⟩
  ·rw [if_neg ah] at I;cases I
 refine⟨fun p k hk I=>?_,h.ord.mE hw fun I=>?_,h.lay,h.JQ,⟨h.seen.nodup,h.seen.len,?_⟩,h.lY⟩
 ·have J:tL (s.known++[(s.asks,qU (rR U s.asks))]) p=some k:=hk;rw [ZQ af] at J;split at J
  ·rename_i aI;cases J;rw [(M I).1,aI]
  ·exact h.agree p k J I
 ·rw [(M I).1];exact iE _ (M I).2
 ·rcases h.seen.asked with Y | Y
  ·exact .inl Y
  ·right;intro p aI;left;show (tL (s.known++[(s.asks,qU (rR U s.asks))]) p).isSome=true;rw [ZQ af];split
   ·rfl
   ·rename_i AB;rcases Y p aI with AA | ⟨_,AA⟩
    ·exact AA
    ·exact absurd AA AB
theorem akx {l:List sK} (hc:∀ c∈l,Px c) (hl:l.length<=400) (iE:CP U<=20000000):Inv U (aK.start l):=by
 refine⟨fun p k hk=>(by cases hk),aCh fun c ah=>(hc c ah).1,aFP l,fun c ah=>?_,⟨aRv,aQQ _,.inr fun p aI=>(by cases aI)⟩,?_⟩
 ·obtain⟨c',h1,I⟩:=aQO.1 ah;cases I;exact hc c h1
 ·have h1:=aqt U ([]:List ak);have I:∀ k:List sK,((k.map iT.cmd).map (FQ U)).sum=k.length * (CP U+3):=by
   intro k;induction k with
   | nil=>simp
   | cons c k J =>
    simp only [List.map_cons,List.sum_cons,J,List.length_cons,FQ,Nat.succ_mul];omega
  have M:lY U (aK.start l)=l.length * (CP U+3)+Ra U []:=by unfold lY aK.start;rw [I]
  have Y:l.length * (CP U+3)<=400 * 20000003:=Nat.mul_le_mul hl om;rw [M];omega
end
section
open Go.Maps Go.RowKit Go.Shelf
theorem aK.aaT (v:Env):∀ (a b:Nat) (s:aK),s.run v (a+b)=(s.run v a).run v b
 | 0,b,s=>by rw [Nat.zero_add];rfl
 | a+1,b,s=>by rw [show a+1+b=(a+b)+1 by omega,aK.run,aK.run,aK.aaT v a b]
theorem aK.aFY (v:Env) (a:Nat) (s:aK):s.run v (a+1)=(s.run v a).step v:=by rw [aK.aaT];rfl
theorem nV.pop [dS] {r:List iT} (h:nV w L v q s A c (u :: us)) (az:s.todo=t :: r) :
  nV (w.setCell ⟨L.R,0,none⟩ (.slice A r.length c)) L v q { s with todo:=r } A c us/\dz L.B w (w.setCell ⟨L.R,0,none⟩ (.slice A r.length c)):=by
 have hlen:s.todo.length=r.length+1:=by rw [az];rfl
 have J:=h.run;unfold eT at J;have ae:dz L.B w (w.setCell ⟨L.R,0,none⟩ (.slice A r.length c)):=dz.setCell (dz.refl _ _) J (.inl rfl) h.base _ _;have AA:∀ {α:Type} {enc:α->Value} {b m:Nat} {M:fA α},eU w prog 9 enc b m M->eU (w.setCell ⟨L.R,0,none⟩ (.slice A r.length c)) prog 9 enc b m M:=fun AB=>AB.keep (aQX _ _ _ _ (aeI AB J));refine⟨⟨?_,h.base,?_,fun i AP AQ=>?_,h.env.uR ae dc dc,?_,?_,h.free.size ae.size⟩,ae⟩
 ·unfold eT;rw [setCell_eq_setRow w L.R 0 _ _ _ _ J,setRow_heap w L.R _ _ _ _ J];rfl
 ·have h1:=h.row.take (k:=r.length) om;have AX:us.length=r.length:=by have:=h.count;rw [hlen,List.length_cons] at this;omega
  have I:(u :: us).reverse.take (r.length * 1)=us.reverse:=by rw [Nat.mul_one,List.reverse_cons,List.take_append_of_le_length (by rw [List.length_reverse];omega),List.take_of_length_le (by rw [List.length_reverse];omega)]
  rw [I] at h1;exact h1.setOther (p:=ad L.R 0) (h1.ne J dc) _
 ·obtain⟨x,h1,I⟩:=h.tasks (i+1) AP (by rw [az,List.getElem?_cons_succ];exact AQ);rw [List.getElem?_cons_succ] at h1;exact⟨x,h1,I.keep ae⟩
 ·obtain⟨h1,M,I,Y⟩:=h.known;exact⟨h1,M,AA I,Y⟩
 ·rcases h.seen with h1 | ⟨g,M,h1,I,Y,AU,AV⟩
  ·exact .inl fun x ah=>h1 x (by rw [az];simp [ah])
  ·exact .inr ⟨g,M,h1,I,Y,AA AU,AV⟩
theorem ER.form (h:ER w R q u t):∃ f mU iI,u = .func (.func f) mU iI/\Enters prog f:=by
 cases t with
 | cmd c =>
  obtain⟨g1,g2,e,_⟩:=h;exact⟨_,_,_,e,asJ⟩
 | tK p th =>
  obtain⟨g1,g2,g3,u2,e,_⟩:=h;exact⟨_,_,_,e,asK⟩
 | line x y =>
  obtain⟨g1,g2,g3,g4,e,_⟩:=h;exact⟨_,_,_,e,asL⟩
def asQ [dS] (w:aRU) (L:iV) (v:Env) (s:aK) (e:Ending) (w':aRU):Prop:=e = .returned (.tuple #[])/\(∃ q,jL w' L v q s)/\dz L.B w w'
theorem asR [dS] (w:aRU) (L:iV) (v:Env) (bg:Gh v) (q:Option Nat) (s:aK) (h:jL w L v q s) (hw:Home w L) (bO:∀ k,Sound (s.run v k)) (n:Nat) (aB:(s.run v n).Still) :
  Calls prog 199 #[fG L.R] w (asQ w L v (s.run v n)):=by
 obtain⟨R,aL,BG,Aq⟩:=nq2 L.R (asQ w L v (s.run v n));rw [fG,<- aL,<- Aq];obtain⟨BH,Ae,Bj,Bn,Bp,Bq,Br⟩:=hq7 Aq aL h hw bO aB bg;clear Aq aL h hw bO aB bg;go_enter func199,ntmps199;go_wp2_with fail;go_loopg [2] n (fun gk gq wr=>∃ k eG,k+gk=n/\jL wr L v eG (s.run v k)/\dz L.B w wr);case atStart=>exact⟨0,q,om,Bj.o,dz.refl _ _⟩
 case round =>
  obtain⟨k,eG,hk,ax,ae⟩:=hrel;have AU:=Bp.o k;have AP:=aK.aaT v k gk s;rw [hk] at AP;have AV:=aK.aFY v k s;obtain⟨s',Af⟩:=ai (s.run v k);rw [<- Af] at ax AU AP AV;obtain⟨A,c,us,I⟩:=ax;have AA:=I.run;rw [<- Ae.o] at AA;have AZ:wr.cell? (ad R 0)=some (.slice A s'.todo.length c):=AA.cell 0;have Av:wr.cell? (ad R 5)=some (.bool s'.waits):=AA.cell 5;have Az:wr.cell? (ad R 6)=some (.int .i64 s'.over.kind):=AA.cell 6;have f0:=(I.cell 0).2;rw [<- Ae.o] at f0;by_cases AB:s'.Still
  ·have AX:BG (.returned (.tuple #[])) wr:=by rw [BH.o,AP,aK.WV AB];exact⟨rfl,⟨eG,A,c,us,I⟩,ae⟩
   have Am:=aa AX;by_cases AQ:s'.over.kind=0
   ·have Aa:s'.waits=true:=by
     rcases AB with h1 | h1
     ·exact absurd AQ h1
     ·exact h1
    rw [AQ] at Az;rw [Aa] at Av;clear AX AB AP AV Af AU I AA ae AQ Aa AZ f0;go_wp2_with fail;refine qB ?_;exact Am.o
   ·have BK:¬ ((s'.over.kind:Int)=0):=om;obtain⟨Bt,BL⟩:=ai (s'.over.kind:Int);rw [<- BL] at Az BK;have Ck:(Bt == 0)=false:=by rw [beq_eq_false_iff_ne];exact BK
    clear AX AB AP AV Af AU I AA ae AQ BL AZ f0 Av;go_wp2_with fail;refine qB ?_;exact Am.o
  ·obtain⟨AQ,Aa⟩:=Rc AB;have BB:gk≠0:=by rintro rfl;have:=Bq.o;rw [AP] at this;exact AB this
   rw [AQ] at Az;rw [Aa] at Av;cases J:s'.todo with
   | nil =>
    rw [J] at AZ AA;have Ag:=Ji (v:=v) AB J;have AX:BG (.returned (.tuple #[])) (wr.setRow R (uw A s'.todo.length c L.mo v.env.length L.nk s'.buf L.m s'.asks s'.waits ⟨3,[],[],0⟩)):=by
     have C8:s.run v n={ s' with over:=⟨3,[],[],0⟩ }:=by have h1:k+1+(gk - 1)=n:=om;have BN:=aK.aaT v (k+1) (gk - 1) s;rw [h1,AV,Ag] at BN;rw [BN];exact aK.WV (.inl sp) _
     rw [BH.o,C8];have Y:=dz.setRow (dz.refl L.B wr) I.run (.inl rfl) I.base (uw A s'.todo.length c L.mo v.env.length L.nk s'.buf L.m s'.asks s'.waits ⟨3,[],[],0⟩);rw [Ae.o];exact⟨rfl,⟨eG,A,c,us,I.cells (s':={ s' with over:=⟨3,[],[],0⟩ }) (aQU wr L.R _ _ _ _ I.run) (fun k hk=>aQT wr L.R k _ hk) Y rfl rfl rfl⟩,ae.trans Y⟩
    obtain⟨cur,Ao⟩:=ai (uw A ([]:List iT).length c L.mo v.env.length L.nk s'.buf L.m s'.asks s'.waits s'.over);have BO:cur.size=10:=by rw [Ao];rfl
    have BP:laid cur 6 [.int .i64 3,.string ⟨#[]⟩,.string ⟨#[]⟩,.int .i64 0]=uw A s'.todo.length c L.mo v.env.length L.nk s'.buf L.m s'.asks s'.waits ⟨3,[],[],0⟩:=by rw [Ao,J];rfl
    have CF:wr.heap[R]?=some (.cells cur 295 (0,0)):=by rw [Ao];exact AA
    rw [<- BP] at AX;have Am:=aa AX;have CG:6+[Value.int .i64 3,.string ⟨#[]⟩,.string ⟨#[]⟩,.int .i64 0].length<=cur.size:=by rw [BO];simp
    have BR:([]:List iT).length=0:=rfl;rw [BR] at AZ;clear AX AB AP AV Af AU I AA ae AQ Aa J Ag Ao BO BP BB f0 BR;go_wp2_with ((with_reducible refine yH R 6 (.agg #[.int .i64 3,.string ⟨#[]⟩,.string ⟨#[]⟩,.int .i64 0]) [.int .i64 3,.string ⟨#[]⟩,.string ⟨#[]⟩,.int .i64 0] (aeE _ _ _ _) cur 295 CF (aeF _ _ _ _) CG aeD ?_ ?_);exact⟨rfl,rfl⟩);refine qB ?_;exact Am.o
   | cons t r =>
    have Ag:=step_cons (v:=v) AB J;have Ap:=I.count;obtain⟨u,Ah,rfl⟩:∃ u Ah,us=u :: Ah:=by
     cases us with
     | nil=>rw [J] at Ap;cases Ap
     | cons u Ah=>exact⟨u,Ah,rfl⟩
    obtain⟨Cm,BS,BC⟩:=I.tasks 0 t (by rw [J];rfl);rw [List.getElem?_cons_zero] at BS;obtain rfl:=aRb BS;obtain⟨f,mU,iI,rfl,BU⟩:=BC.form;have Co:∀ (args:Array Value) (w:aRU),(callFunc f args).run prog w = .ok (.enter f args) w:=BU;obtain⟨m,hm⟩:=ai r.length;have BX:s'.todo.length=m+1:=by rw [J,hm];rfl
    obtain⟨N,BZ⟩:=ai s'.todo.length;have CJ:N=m+1:=om;obtain⟨Ac,Ad,rfl,hcell⟩:=I.row.rd.2 om;have BD:wr.cell? (ad Ac (Ad+m))=some (.func (.func f) mU iI):=by
     refine hcell m _ ?_;have CK:Ah.length=m:=by rw [BX,List.length_cons] at Ap;omega
     rw [List.reverse_cons,List.getElem?_append_right (by rw [List.length_reverse];omega),List.length_reverse,CK,Nat.sub_self];rfl
    have Cr:N<=10000000000:=by have:=AU.todo;omega
    have Ct:N<=c:=by have:=I.row.2.1;omega
    rw [<- BZ] at AZ;have CL:=aQR _ _ BD;have CQ:R < wr.heap.size:=AA.lt;have Ak:=aa (show ∀ af,Bl wr af->af.cell? (ad R 0)=some (.slice (some ⟨Ac,Ad,none⟩) N c)/\af.frozen? ⟨R,0,none⟩=false/\af.cell? (ad Ac (Ad+m))=some (.func (.func f) mU iI) from fun af Y=>⟨(Y.cell (p:=ad R 0) CQ).trans AZ,by
     have:=((I.below Y).cell 0).2;rwa [<- Ae.o] at this,(Y.cell (p:=ad Ac (Ad+m)) CL).trans BD⟩);have CS:=aa (show ∀ af,Bl wr af->Calls prog f (mU++iI) (af.setCell ⟨R,0,none⟩ (.slice (some ⟨Ac,Ad,none⟩) m c)) fun e w'=>e = .returned (.tuple #[])/\(∃ Al,jL w' L v Al (s.run v (k+1)))/\dz L.B w w' from fun af Y=>by
     have aI:=(I.below Y).pop J;have Bb:=(ae.trans (dz.gN Y (aQG I.base (aRm I.run.lt)))).trans aI.2;have CU:t.Ic=true\/MapAt (af.setCell ⟨L.R,0,none⟩ (.slice (some ⟨Ac,Ad,none⟩) r.length c)) L eG s':=by
      rcases I.seen with h1 | h1
      ·exact .inl (h1 t (by rw [J];simp))
      ·exact .inr ((MapAt.below (w:=wr) (s:=s') h1 Y).setCell ((I.below Y).run) 0 _)
     obtain⟨Cu,Cv,D8,CV,_,CW⟩:=aFU _ L v Br.o eG s' AU (Bn.o.uR Bb) t r J ⟨_,_,_,aI.1⟩ CU _ ((BC.keep (dz.gN (B:=0) Y (aQQ _))).keep aI.2);injection CV with BF CY CZ
     injection BF with BF
     subst BF CY CZ;rw [Ae.o,hm];refine CW.mono fun e w' x=>?_;obtain⟨Al,Ca,Cc,Ce⟩:=x;refine⟨Ca,⟨Al,?_⟩,Bb.trans Ce⟩;rw [AV,Ag];exact Cc);have DF:IntKind.i64.wrap ((N:Int) - 1)=(m:Int):=by
     rw [show (N:Int) - 1=(m:Int) by omega];exact aRt _ (by constructor <;> omega)
    have DI:((N:Int) == 0)=false:=by rw [beq_eq_false_iff_ne];omega
    have DJ:(0:Int)<=m:=om;have DN:(m:Int) < N:=om;have DR:(m:Int)<=c:=om;have aR:=aa hk;have Bc:=aa BB;clear AB AP AV Af AU I AA ae AQ Aa J Ag Ap BC BU BX BZ hcell BD hm hk BB CJ f0;go_wp2_with fail;have kR:=aa fun af (aj:Bl wr af)=>And.intro ((Ak.o af aj).1) ((Ak.o af aj).2.2);refine KE 13 [_,_,_,_,_,_,_,_,_,_,_,_,_] ?_;intro af aj;have Be:=aa aj;obtain⟨DT,Bf⟩:=ai af;rw [<- Bf] at Be |-;clear aj Bf;go_wp2_with fail;have kR:=aa fun af (aj:Bl wr af)=>(Ak.o af aj).1;refine qL 14 [_,_,_,_,_,_,_,_,_,_,_,_,_,_] (Bl wr) (Be.o.drew) ?_;intro af aj;have DU:=(Ak.o af aj).1;have Db:=(Ak.o af aj).2.1;have Bg:=CS.o af aj;have Cf:=aa Bg;clear aj Bg;go_wp2_with fail;refine Cf.o.mono ?_;rintro e Dc ⟨rfl,⟨Al,Bh⟩,Bi⟩;have Cg:=aa Bh;have Cj:=aa Bi;clear Bh Bi;go_wp2_with fail;go_roundg (gk - 1);case rel=>exact⟨k+1,Al,by have:=aR.o;have:=Bc.o;omega,Cg.o,Cj.o⟩
    case measure=>have:=Bc.o;omega
def aF1 (d:pM):List Value:=[.int .i64 d.kind,.string (aA d.path),.string (aA d.data),.int .i64 d.why]
def ae3 (d:pM):Value:=.agg (aF1 d).toArray
theorem eT.setOther {b:Nat} {cs cur zB:Array Value} {t:TypeId} {aZ:Nat × Nat} (h:eT w g cs t) (ae:w.heap[b]?=some (.cells cur uX aZ)) (bJ:t≠uX):eT (w.setRow b zB) g cs t:=by
 unfold eT at *;refine (aQT w b g zB ?_).trans h;rintro rfl;rw [h] at ae;injection ae with ae
 injection ae with _ ae
 exact bJ ae
theorem Own.akz {n b:Nat} {t:TypeId} {cur zB:Array Value} {aZ:Nat × Nat} (h:Own w base t aO A n c xs) (ae:w.heap[b]?=some (.cells cur uX aZ)) (bJ:t≠uX):Own (w.setRow b zB) base t aO A n c xs :=
 h.keep fun k hk _ _=>aQT w b k zB fun e=>h.ne ae bJ (by rw [hk,e])
section
variable {w:aRU} {R:Nat} {q:Option Nat} {b:Nat} {cur zB:Array Value} {aZ:Nat × Nat} (ae:w.heap[b]?=some (.cells cur 293 aZ))
theorem EP.Fb (ae:w.heap[b]?=some (.cells cur 293 aZ)) (h:EP w g q):EP (w.setRow b zB) g q:=by obtain⟨m,h1,I⟩:=h;exact⟨m,h1,eT.setOther I ae dc⟩
theorem Da.Fb (ae:w.heap[b]?=some (.cells cur 293 aZ)) {d:Bd} (h:Da w R q u d):Da (w.setRow b zB) R q u d:=by
 cases d with
 | add=>exact h
 | scan x =>
  obtain⟨g1,g2,g3,e,h1,I,J⟩:=h;exact⟨g1,g2,g3,e,eT.setOther h1 ae dc,eT.setOther I ae dc,J.Fb ae⟩
theorem wy.Fb (ae:w.heap[b]?=some (.cells cur 293 aZ)) {d:Bd} (h:wy w R q u d):wy (w.setRow b zB) R q u d:=by obtain⟨g1,g2,v,e,h1,I,J⟩:=h;exact⟨g1,g2,v,e,eT.setOther h1 ae dc,eT.setOther I ae dc,J.Fb ae⟩
theorem yV.Fb (ae:w.heap[b]?=some (.cells cur 293 aZ)) (h:yV w R q u th):yV (w.setRow b zB) R q u th:=by
 cases th with
 | add=>exact wy.Fb ae h
 | DV =>
  obtain⟨g1,e,h1⟩:=h;exact⟨g1,e,eT.setOther h1 ae dc⟩
 | scan x=>exact wy.Fb ae h
theorem ER.Fb (ae:w.heap[b]?=some (.cells cur 293 aZ)) (h:ER w R q u t):ER (w.setRow b zB) R q u t:=by
 cases t with
 | cmd c =>
  obtain⟨g1,g2,e,h1,A,eY,I,J,M⟩:=h;exact⟨g1,g2,e,eT.setOther h1 ae dc,A,eY,eT.setOther I ae dc,J.akz ae dc,M⟩
 | tK p th =>
  obtain⟨g1,g2,g3,v,e,h1,I,J,M⟩:=h;exact⟨g1,g2,g3,v,e,eT.setOther h1 ae dc,I.Fb ae,eT.setOther J ae dc,eT.setOther M ae dc⟩
 | line x y =>
  obtain⟨g1,g2,g3,g4,e,h1,I,J,M⟩:=h;exact⟨g1,g2,g3,g4,e,eT.setOther h1 ae dc,eT.setOther I ae dc,eT.setOther J ae dc,M.Fb ae⟩
theorem nV.Fb (ae:w.heap[b]?=some (.cells cur 293 aZ)) [dS] (h:nV w L v q s A c us):nV (w.setRow b zB) L v q s A c us:=by
 have Y:∀ {α:Type} {enc:α->Value} {k m:Nat} {M:fA α},eU w prog 9 enc k m M->eU (w.setRow b zB) prog 9 enc k m M:=fun AA=>AA.keep (aQT w b _ zB (aeI AA ae));refine⟨eT.setOther h.run ae dc,h.base,h.row.akz ae dc,fun i t AB=>?_,h.env.akz ae dc,?_,?_,h.free.size (by simp [World.setRow])⟩
 ·obtain⟨u,h1,I⟩:=h.tasks i t AB;exact⟨u,h1,I.Fb ae⟩
 ·obtain⟨h1,M,I,J⟩:=h.known;exact⟨h1,M,Y I,J⟩
 ·rcases h.seen with h1 | ⟨g,M,h1,I,J,AP,AQ⟩
  ·exact .inl h1
  ·exact .inr ⟨g,M,h1,I,J,Y AP,AQ⟩
end
theorem dz.akA [dS] (h:dz B w w') (bf:B<=w.heap.size) (av:w.heap.size<=g) (cs:Array Value):dz B w (w'.setRow g cs) :=
 ⟨h.os,h.tape,h.output,by simpa using h.size,fun k hk=>(aQT w' g k cs om).trans (h.low k hk),fun k c t aZ hk h1 I=>(aQT w' g k cs (by have:=iw hk;omega)).trans (h.cells k c t aZ hk h1 I),fun k o hk hc he=>(aQT w' g k cs (by have:=iw hk;omega)).trans (h.maps k o hk hc he)⟩
def ae4 [dS] (w:aRU) (L:iV) (v:Env) (s:aK) (e:Ending) (w':aRU):Prop:=e = .returned (ae3 (qF s))/\(∃ q,jL w' L v q s.next)/\dz L.B w w'
theorem aF2 [dS] (w:aRU) (L:iV) (v:Env) (bg:Gh v) (q:Option Nat) (s:aK) (h:jL w L v q s) (hw:Home w L) (bO:∀ k,Sound (s.run v k)) (n:Nat) (aB:(s.run v n).Still) :
  Calls prog 196 #[fG L.R] w (ae4 w L v (s.run v n)):=by
 have BL:=h.size;obtain⟨R,Al,CZ,BN,w1,Am⟩:=nq3 L.R (ae4 w L v (s.run v n)) (w.alloc (.cells #[.int .i64 0,.string ⟨#[]⟩,.string ⟨#[]⟩,.int .i64 0] 293));have Ao:=gQ Am;have Bn:w1.heap[w.heap.size]?=some (.cells #[.int .i64 0,.string ⟨#[]⟩,.string ⟨#[]⟩,.int .i64 0] 293 (0,0)):=by rw [Am];exact aQM w _
 have BO:=asR w1 L v bg q s (h.below Ao) (hw.uR (dz.gN Ao BL)) bO n aB;obtain⟨S,BP⟩:=ai (s.run v n);rw [fG,<- Al,<- BN];rw [fG,<- Al,<- BP] at BO;have Bp:CZ=ae4 w L v S:=by rw [BN,BP]
 obtain⟨BR,Bq,Ca,Br,Cc,Ap,Ce⟩:=hq7 Bp Al BO Bn Ao BL Am;clear BN Bp Al BO Bn Ao BL h hw bO aB bg BP Am;go_enter func196,ntmps196;go_upto_region 4 with (go_at_call 199; rw [<- Ce.o];refine Ca.o.mono ?_;rintro e af ⟨rfl,⟨eG,Bt⟩,C8⟩;have Cf:=aa Bt;have CF:=aa C8;clear Bt C8)
 obtain⟨A,c,us,AU⟩:=Cf.o;have Y:=AU.run;rw [<- Bq.o] at Y;have ou:af.cell? (ad R 4)=some (.string (aA S.asks)):=Y.cell 4;have CG:af.cell? (ad R 5)=some (.bool S.waits):=Y.cell 5;have AV:af.heap[w.heap.size]?=some (.cells #[.int .i64 0,.string ⟨#[]⟩,.string ⟨#[]⟩,.int .i64 0] 293 (0,0)):=(CF.o.cells _ _ _ _ Br.o dc dc).trans Br.o;have Aq:=(dz.gN Cc.o Ap.o).trans CF.o;have Cg:=aa AU;have Cj:=aa Aq;cases AP:S.waits with
 | true =>
  rw [AP] at CG;have Ae:qF S=⟨1,S.asks,[],0⟩:=by rw [qF,if_pos AP]
  have AQ:S.next=S:=by rw [aK.next,if_pos AP]
  have Av:=aa Ae;have Af:=aa AQ;obtain⟨X,BS⟩:=ai (aA S.asks);rw [<- BS] at ou;have Ck:=aa BS;have Az:(Value.agg #[.int .i64 1,.string X,.string ⟨#[]⟩,.int .i64 0]).cells.toList=[.int .i64 1,.string X,.string ⟨#[]⟩,.int .i64 0]:=rfl;have BB:(prog.info? 293).map (·.size)=some [Value.int .i64 1,.string X,.string ⟨#[]⟩,.int .i64 0].length:=kr;have BC:0+[Value.int .i64 1,.string X,.string ⟨#[]⟩,.int .i64 0].length<=(#[.int .i64 0,.string ⟨#[]⟩,.string ⟨#[]⟩,.int .i64 0]:Array Value).size:=aQF _;have BD:∀ v∈[Value.int .i64 1,.string X,.string ⟨#[]⟩,.int .i64 0],v.oneCell'=true:=by simp [Value.oneCell']
  clear AP Ae AQ BS AU Y Aq;go_wp2_with ((with_reducible refine yH w.heap.size 0 (.agg #[.int .i64 1,.string X,.string ⟨#[]⟩,.int .i64 0]) [.int .i64 1,.string X,.string ⟨#[]⟩,.int .i64 0] Az #[.int .i64 0,.string ⟨#[]⟩,.string ⟨#[]⟩,.int .i64 0] 293 AV BB BC BD ?_ ?_);exact⟨rfl,rfl⟩);simp only [Act.put];refine aQP (v:=.agg [.int .i64 1,.string X,.string ⟨#[]⟩,.int .i64 0].toArray) (aQ7 rfl _ _ _ 293 _ (0,0) _ rfl (aj5 (VX:=[.int .i64 1,.string X,.string ⟨#[]⟩,.int .i64 0]) AV rfl) underlying293 rfl kr) rfl ?_;rw [BR.o];refine⟨?_,⟨eG,A,c,us,?_⟩,Cj.o.akA Ap.o (aQF _) _⟩
  ·rw [Av.o,Ck.o];rfl
  ·rw [Af.o];exact Cg.o.Fb AV
 | false =>
  obtain⟨M,BF,I,BU,J,BX⟩:=nq3 (S.over.kind:Int) (aA S.over.path) (aA S.over.data);obtain⟨iJ,BZ⟩:∃ x:Int,x=S.over.why:=⟨_,rfl⟩;rw [AP] at CG;have DJ:af.cell? (ad R 6)=some (.int .i64 M):=by rw [BF];exact Y.cell 6
  have DN:af.cell? (ad R 7)=some (.string I):=by rw [BU];exact Y.cell 7
  have DR:af.cell? (ad R 8)=some (.string J):=by rw [BX];exact Y.cell 8
  have c9:af.cell? (ad R 9)=some (.int .i64 iJ):=by rw [BZ];exact Y.cell 9
  have hval:ae3 S.over = .agg #[.int .i64 M,.string I,.string J,.int .i64 iJ]:=by rw [BF,BU,BX,BZ];rfl
  have CJ:=aa hval;have Ae:qF S=S.over:=by rw [qF,if_neg (by rw [AP];simp)]
  have Av:=aa Ae;obtain⟨g,av⟩:=ai w.heap.size;have Bb:=aa av;obtain⟨aD,BG⟩:=ai (af.alloc (.cells #[.int .i64 M,.string I,.string J,.int .i64 iJ] 293));have Ag:=gQ BG;have CK:aD.heap[af.heap.size]?=some (.cells #[.int .i64 M,.string I,.string J,.int .i64 iJ] 293 (0,0)):=by rw [BG];exact aQM af _
  have AZ:aD.heap[g]?=some (.cells #[.int .i64 0,.string ⟨#[]⟩,.string ⟨#[]⟩,.int .i64 0] 293 (0,0)):=by rw [av];exact (Ag.block _ (iw AV)).trans AV
  have CL:=AU.below Ag;have CQ:=Aq.trans (dz.gN Ag (aQG AU.base (aRm AU.run.lt)));have Aa:aD.heap[R]?=some (.cells (uw A S.todo.length c L.mo v.env.length L.nk S.buf L.m S.asks S.waits S.over) 295 (0,0)):=(Ag.block _ Y.lt).trans Y;obtain⟨AA,Bc⟩:=ai af.heap.size;have Cm:AA≠g:=by rw [Bc,av];have:=iw AV;omega
  obtain⟨Co,Ac,Ad,Be,Bf,AX,CS,CU⟩:=hq8 BG CK Bc AZ Aa CL CQ BF;have Az:(Value.agg #[.int .i64 M,.string I,.string J,.int .i64 iJ]).cells.toList=[.int .i64 M,.string I,.string J,.int .i64 iJ]:=rfl;have BB:(prog.info? 293).map (·.size)=some [Value.int .i64 M,.string I,.string J,.int .i64 iJ].length:=kr;have BC:0+[Value.int .i64 M,.string I,.string J,.int .i64 iJ].length<=(#[.int .i64 0,.string ⟨#[]⟩,.string ⟨#[]⟩,.int .i64 0]:Array Value).size:=aQF _;have BD:∀ v∈[Value.int .i64 M,.string I,.string J,.int .i64 iJ],v.oneCell'=true:=by simp [Value.oneCell']
  have CV:=aa AP;clear AP Ae AU Y Aq BF BU BX BZ hval av BG Ag CK AZ CL CQ Aa Bc Cm AV ou;go_upto_region 7 with fail
  rw [<- Co.o,<- Bb.o,<- Ad.o];have DT:aD.cell? (ad AA 0)=some (.int .i64 M):=by rw [Ad.o];exact aQH aD _ 0 _ _ _ Ac.o
  by_cases Bg:M=2
  ·have CW:(M == 2)=true:=by rw [Bg];rfl
   have Ah:S.over.kind=2:=by have:=CU.o;omega
   have AQ:S.next={ S with over:=pM.none }:=by rw [aK.next,if_neg (by rw [CV.o];simp),if_pos Ah]
   have Af:=aa AQ;obtain⟨cur,BH⟩:=ai (uw A S.todo.length c L.mo v.env.length L.nk S.buf L.m S.asks S.waits S.over);have CX:cur.size=10:=by rw [BH];rfl
   have CY:laid cur 6 [.int .i64 0,.string ⟨#[]⟩,.string ⟨#[]⟩,.int .i64 0]=uw A S.todo.length c L.mo v.env.length L.nk S.buf L.m S.asks S.waits pM.none:=by rw [BH];rfl
   have Aa:=Bf.o;rw [<- BH] at Aa;have Cr:6+[Value.int .i64 0,.string ⟨#[]⟩,.string ⟨#[]⟩,.int .i64 0].length<=cur.size:=by rw [CX];simp
   have Ct:=aa CY;subst Bg;clear CW Ah AQ BH CX CY;go_wp2_with (first|((with_reducible refine yH R 6 (.agg #[.int .i64 0,.string ⟨#[]⟩,.string ⟨#[]⟩,.int .i64 0]) [.int .i64 0,.string ⟨#[]⟩,.string ⟨#[]⟩,.int .i64 0] (aeE _ _ _ _) cur 295 Aa (aeF _ _ _ _) Cr aeD ?_ ?_);exact⟨rfl,rfl⟩;rw [Ct.o];obtain⟨AB,Ak⟩:=ai (aD.setRow R (uw A S.todo.length c L.mo v.env.length L.nk S.buf L.m S.asks S.waits pM.none));have Bh:=AX.o.cells (s':={ S with over:=pM.none }) (aQU aD L.R _ _ _ _ AX.o.run) (fun k hk=>aQT aD L.R k _ hk) (dz.setRow (dz.refl L.B aD) AX.o.run (.inl rfl) AX.o.base _) rfl rfl rfl;have Bi:=dz.setRow CS.o AX.o.run (.inl rfl) AX.o.base (uw A S.todo.length c L.mo v.env.length L.nk S.buf L.m S.asks S.waits pM.none);have BK:AB.heap[AA]?=some (.cells #[.int .i64 2,.string I,.string J,.int .i64 iJ] 293 (0,0)):=(by rw [Ak,Ad.o];refine (aQT aD R _ _ ?_).trans Ac.o;rintro rfl;have h1:=Ac.o;rw [Bf.o] at h1;injection h1 with h1;injection h1 with _ h1;cases h1);have Bj:AB.heap[g]?=some (.cells #[.int .i64 0,.string ⟨#[]⟩,.string ⟨#[]⟩,.int .i64 0] 293 (0,0)):=(by rw [Ak];refine (aQT aD R _ _ ?_).trans Be.o;rintro rfl;have h1:=Be.o;rw [Bf.o] at h1;injection h1 with h1;injection h1 with _ h1;cases h1);rw [<- Bq.o,<- Ak] at Bh Bi;rw [<- Ak];have Cu:=aa Bh;have Cv:=aa Bi;clear Bh Bi Ak Aa;have DU:AB.cell? (ad AA 0)=some (.int .i64 2):=aQH AB _ 0 _ _ _ BK;have D8:AB.cell? (ad AA 1)=some (.string I):=aQH AB _ 1 _ _ _ BK;have DF:AB.cell? (ad AA 2)=some (.string J):=aQH AB _ 2 _ _ _ BK;have DI:AB.cell? (ad AA 3)=some (.int .i64 iJ):=aQH AB _ 3 _ _ _ BK)|((with_reducible refine yH g 0 (.agg #[.int .i64 2,.string I,.string J,.int .i64 iJ]) [.int .i64 2,.string I,.string J,.int .i64 iJ] Az #[.int .i64 0,.string ⟨#[]⟩,.string ⟨#[]⟩,.int .i64 0] 293 Bj BB BC BD ?_ ?_);exact⟨rfl,rfl⟩));simp only [Act.put];refine aQP (v:=.agg [.int .i64 2,.string I,.string J,.int .i64 iJ].toArray) (aQ7 rfl _ _ _ 293 _ (0,0) _ rfl (aj5 (VX:=[.int .i64 2,.string I,.string J,.int .i64 iJ]) Bj rfl) underlying293 rfl kr) rfl ?_;rw [BR.o];refine⟨?_,⟨eG,A,c,us,?_⟩,Cv.o.akA Ap.o (by rw [Bb.o];exact aQF _) _⟩
   ·rw [Av.o,CJ.o]
   ·rw [Af.o];exact Cu.o.Fb Bj
  ·have CW:(M == 2)=false:=by rw [beq_eq_false_iff_ne];exact Bg
   have Ah:¬ S.over.kind=2:=by have:=CU.o;omega
   have AQ:S.next=S:=by rw [aK.next,if_neg (by rw [CV.o];simp),if_neg Ah]
   have Af:=aa AQ;have AZ:=Be.o;have D8:aD.cell? (ad AA 1)=some (.string I):=by rw [Ad.o];exact aQH aD _ 1 _ _ _ Ac.o
   have DF:aD.cell? (ad AA 2)=some (.string J):=by rw [Ad.o];exact aQH aD _ 2 _ _ _ Ac.o
   have DI:aD.cell? (ad AA 3)=some (.int .i64 iJ):=by rw [Ad.o];exact aQH aD _ 3 _ _ _ Ac.o
   clear Ah AQ;go_wp2_with ((with_reducible refine yH g 0 (.agg #[.int .i64 M,.string I,.string J,.int .i64 iJ]) [.int .i64 M,.string I,.string J,.int .i64 iJ] Az #[.int .i64 0,.string ⟨#[]⟩,.string ⟨#[]⟩,.int .i64 0] 293 AZ BB BC BD ?_ ?_);exact⟨rfl,rfl⟩);simp only [Act.put];refine aQP (v:=.agg [.int .i64 M,.string I,.string J,.int .i64 iJ].toArray) (aQ7 rfl _ _ _ 293 _ (0,0) _ rfl (aj5 (VX:=[.int .i64 M,.string I,.string J,.int .i64 iJ]) AZ rfl) underlying293 rfl kr) rfl ?_;rw [BR.o];refine⟨?_,⟨eG,A,c,us,?_⟩,CS.o.akA Ap.o (by rw [Bb.o];exact aQF _) _⟩
   ·rw [Av.o,CJ.o]
   ·rw [Af.o];exact AX.o.Fb AZ
end
section
open Go.Maps Go.RowKit Go.Shelf
def aK.gave (s:aK) (k:dB):Nat × aK :=
 if s.waits=false then (19,s) else if k.path≠s.asks then (1,s) else if k.is=true/\65536 < k.data.length then (6,s) else (0,s.mE (qU k))
theorem as0 (x:List UInt8 × α):∀ M:fA α,(zk x M).length=M.length+1
 | []=>rfl
 | y :: r=>by
  unfold zk;split
  ·rfl
  ·rw [List.length_cons,as0 x r];rfl
theorem aF3 {M:fA α} {p:aR0} (h:getM M p=none) (a:α):(oI M p a).length=M.length+1:=by
 have I:I5 M p=M:=by unfold I5;rw [List.filter_eq_self];intro y hy;unfold getM at h;rw [Option.map_eq_none_iff,List.find?_eq_none] at h;simpa using h y hy
 rw [oI,as0,I]
theorem nV.mE [dS] (h:nV w L v q s A c us) (k:dB) {M:fA dB} (oL:tL s.known p=none)
  (aj:eU w prog 9 xE L.m s.known.length M) (Ga:M.length=s.known.length) (BR:∀ x,(getM M x).map qU=tL s.known x) (az:fV L.m w w') (YZ:eU w' prog 9 xE L.m (s.known.length+1) (oI M p k)) :
  nV w' L v q { s with known:=s.known++[(p,qU k)] } A c us/\dz L.B w w':=by
 have hc:∀ (k:Nat) (cs:Array Value) (t:TypeId) (aZ:Nat × Nat),w.heap[k]?=some (.cells cs t aZ)->w'.heap[k]?=w.heap[k]?:=fun k cs t aZ hk=>az.2.2.2.2 k fun e=>aj.isMap (by rw [<- e];exact hk);have Y:=h.known.1;have ae:dz L.B w w':=⟨az.1,az.2.1,az.2.2.1,aQ1 az.2.2.2.1.symm,fun k hk=>az.2.2.2.2 k om,fun k cs t aZ hk _ _=>hc k cs t aZ hk,fun k o _ _ he=>az.2.2.2.2 k fun e=>h.free.map (e ▸ he)⟩;refine⟨⟨(hc _ _ _ _ h.run).trans h.run,h.base,h.row.keep fun b ae _ _=>?_,fun i t AA=>?_,h.env.uR ae dc dc,⟨Y,oI M p k,?_,?_,fun x=>?_⟩,?_,h.free.size ae.size⟩,ae⟩
 ·obtain⟨_,_,cur,aZ,ah⟩:=h.row.block b ae;exact hc _ _ _ _ ah
 ·obtain⟨u,h1,I⟩:=h.tasks i t AA;exact⟨u,h1,I.keep ae⟩
 ·rw [List.length_append];exact YZ
 ·have AB:getM M p=none:=by have:=BR p;rw [oL] at this;exact Option.map_eq_none_iff.1 this
  rw [aF3 AB,List.length_append,Ga];rfl
 ·rw [ZQ oL];by_cases ah:x=p
  ·subst ah;rw [ME,if_pos rfl];rfl
  ·rw [MF M k ah,if_neg ah];exact BR x
 ·rcases h.seen with h1 | ⟨g,M2,h1,I,J,AP,AQ⟩
  ·exact .inl h1
  ·exact .inr ⟨g,M2,h1,I,J,AP.keep (az.2.2.2.2 _ J),AQ⟩
def XD [dS] (w:aRU) (L:iV) (v:Env) (s:aK) (k:dB) (e:Ending) (w':aRU):Prop:=e = .returned (.int .i64 (s.gave k).1)/\(∃ q,jL w' L v q (s.gave k).2)/\dz L.B w w'
theorem aF4 [dS] (w:aRU) (L:iV) (v:Env) (bg:Gh v) (q:Option Nat) (s:aK) (h:jL w L v q s) (hw:Home w L) (bO:∀ k,Sound (s.run v k)) (n:Nat) (aB:(s.run v n).Still) (k:dB) (TF:k.path.length<=1000000000/\k.data.length<=1000000000) (oL:(s.run v n).waits=true->tL (s.run v n).known (s.run v n).asks=none) :
  Calls prog 149 #[fG L.R,xE k] w (XD w L v (s.run v n) k):=by
 have bf:=h.size;obtain⟨R,aL,J,Ak,Y,Al,nU,Am⟩:=nq4 L.R (aA k.path) (aA k.data) k.is;have BU:=aa (show xE k = .agg #[.string J,.bool nU,.string Y] by rw [Ak,Al,Am];rfl);obtain⟨w1,AX⟩:=ai (w.alloc (.cells #[.string J,.bool nU,.string Y] 80));have AZ:=gQ AX;have Bn:=aa (show eT w1 w.heap.size #[.string J,.bool nU,.string Y] 80 by rw [AX];exact aQM w _);have Ao:=asR w1 L v bg q s (h.below AZ) (hw.uR (dz.gN AZ bf)) bO n aB;have BX:=aa (bO n);obtain⟨S,Ap⟩:=ai (s.run v n);obtain⟨Aq,Av⟩:=ai (XD w L v S k);rw [<- Ap] at BX oL |-;rw [BU.o,fG,<- aL,<- Av];rw [fG,<- aL,<- Ap] at Ao;obtain⟨AS,Aa⟩:=ai (aA S.asks);have Ac:=aa Aa;have Az:k.path=S.asks->AS.size<=1000000000:=fun e=>by rw [Aa,iP,<- e];exact TF.1
 have Bp:=aa Az;have AB:=aa (show J.toList=k.path/\AS.toList=S.asks/\Y.size=k.data.length from⟨by rw [Ak];exact D7 _,by rw [Aa];exact D7 _,by rw [Al,iP]⟩);obtain⟨Ad,BB,BC,AP,Bq,Br,Bt,C8⟩:=hq8 Am oL Av aL Ao AZ bf AX;clear Av aL Ao AZ bf h hw bO aB bg Ap AX Ak Al TF Am Aa oL Az;go_enter func149,ntmps149;go_upto_region 4 with (go_at_call 199; rw [<- C8.o];refine Bq.o.mono ?_;rintro e I ⟨rfl,⟨eG,BZ⟩,Bb⟩;have CF:=aa BZ;have Bc:=aa Bb;clear BZ Bb)
 obtain⟨A,c,us,BD⟩:=CF.o;have BF:=BD.run;rw [<- AP.o] at BF;have BG:=aa ((dz.gN Br.o Bt.o).trans Bc.o);have AQ:=aa (Bn.o.keep Bc.o dc dc);have Ae:=aa BD;have AV:=aa BF;have Be:=aa (show L.B<=I.heap.size from Ae.o.size);clear BD BF;cases AU:S.waits with
 | false =>
  have CG:I.cell? (ad R 5)=some (.bool false):=by rw [<- AU];exact AV.o.cell 5
  go_wp2_with fail;change Aq (.returned (.int .i64 19)) _;rw [BC.o,XD,aK.gave,if_pos AU];exact⟨rfl,⟨eG,A,c,us,Ae.o⟩,BG.o⟩
 | true =>
  have CG:I.cell? (ad R 5)=some (.bool true):=by rw [<- AU];exact AV.o.cell 5
  have BB:=aa (BB.o AU);have BH:=aa AU;clear AU;go_upto_region 6 with fail
  have kR:=aa fun af (aj:Bl I af)=>And.intro (show af.cell? (ad w.heap.size 0)=some (.string J) from (AQ.o.below aj).cell 0) (show af.cell? (ad R 4)=some (.string AS) from by rw [Ac.o];exact (AV.o.below aj).cell 4);refine KE 8 [_,_,_,_,_,_,_,_] ?_;intro af aj;have Af:=aa aj;have d1:af.cell? (ad w.heap.size 1)=some (.bool nU):=(AQ.o.below aj).cell 1;have d2:af.cell? (ad w.heap.size 2)=some (.string Y):=(AQ.o.below aj).cell 2;obtain⟨uK,Bf⟩:=ai af;rw [<- Bf] at Af d1 d2 |-;clear aj Bf;have Bg:∀ z,S.gave k=(z,S)->Aq (.returned (.int .i64 z)) uK:=fun z CJ=>by
   rw [BC.o,XD,CJ];exact⟨rfl,⟨eG,A,c,us,Ae.o.below Af.o⟩,BG.o.trans (dz.gN Af.o Be.o)⟩
  have BK:=aa Bg;clear Bg;by_cases heq:k.path=S.asks
  rotate_left
  ·have CK:(J.toList == AS.toList)=false:=by rw [AB.o.1,AB.o.2.1,beq_eq_false_iff_ne];exact heq
   have Ag:=aa heq;clear heq;simp only [CK,Bool.not_false];go_wp2_with fail;exact BK.o 1 (by rw [aK.gave,if_neg (by rw [BH.o];simp),if_pos Ag.o])
  have CL:(J.toList == AS.toList)=true:=by rw [AB.o.1,AB.o.2.1,heq];simp
  simp only [CL,Bool.not_true];have Az:=Bp.o heq;have Ag:=aa heq;clear heq;by_cases hl:k.is=true/\65536 < k.data.length
  ·have BL:(65536:Int) < Y.size:=by have:=AB.o.2.2;omega
   rw [<- Ad.o] at hl;obtain rfl:=hl.1;have CQ:=aa hl.2;clear hl;go_wp2_with fail;exact BK.o 6 (by rw [aK.gave,if_neg (by rw [BH.o];simp),if_neg (by simpa using Ag.o),if_pos ⟨Ad.o.symm,CQ.o⟩])
  have BL:nU=true->¬ (65536:Int) < Y.size:=fun e=>by
   have:=AB.o.2.2;rw [Ad.o] at e;exact fun h=>hl ⟨e,om⟩
  have CS:=aa (show S.gave k=(0,S.mE (qU k)) by rw [aK.gave,if_neg (by rw [BH.o];simp),if_neg (by simpa using Ag.o),if_neg hl]);clear hl Ad BK;cases nU;all_goals
   try replace BL:=BL rfl
   go_upto_region 10 with fail
   clear d1 d2;obtain⟨m,hm⟩:=ai L.m;have Ah:=aa hm;clear hm;have kR:=aa fun af (aj:Bl I af)=>And.intro (show af.cell? (ad R 3)=some (.map (some m)) from by rw [Ah.o];exact (AV.o.below aj).cell 3) (And.intro (show af.cell? (ad R 4)=some (.string AS) from by rw [Ac.o];exact (AV.o.below aj).cell 4) (And.intro (show af.cell? (ad w.heap.size 0)=some (.string J) from (AQ.o.below aj).cell 0) (And.intro (show af.cell? (ad w.heap.size 1)=some (.bool _) from (AQ.o.below aj).cell 1) (show af.cell? (ad w.heap.size 2)=some (.string Y) from (AQ.o.below aj).cell 2))));refine qL 9 [_,_,_,_,_,_,_,_,_] (Bl I) (Af.o.drew) ?_;intro af aj;have BN:=Ae.o.below aj;obtain⟨CU,M,uf,Bh,Bi⟩:=BN.known;have CV:S.known.length<=500:=BX.o.lim.less;have CW:=aa uf;have BO:=uf;rw [<- Ah.o] at BO;have CY:=aa BO;have CZ:=aa (BG.o.trans (dz.gN aj Be.o));obtain⟨Ca,Cc,Ce⟩:=hq3 BN Bi Bh;have Cf:AJ (S.known.length < maxLen):=aa mV;clear aj BN uf BO Bi Bh CU CV;go_upto_region 11 with ((with_reducible refine Zb CY.o aj4 underlying9 underlying290 Cf.o AS ?_ k ?_ ?_);exact mV;exact⟨rfl,rfl,BU.o.symm⟩;intro bn BP Bj)
   have AA:=Ca.o.mE k BB.o CW.o Ce.o Cc.o (by rw [<- Ah.o];exact Bj) (by
    rw [<- Ah.o];rw [show AS.data.toList=S.asks from by rw [Ac.o];simp [aA]] at BP;exact BP);have BR:=AA.1.one (s':={ S with known:=S.known++[(S.asks,qU k)],asks:=[] }) (i:=4) (u:=.string ⟨#[]⟩) rfl rfl rfl rfl;have BS:=BR.1.one (s':={ S with known:=S.known++[(S.asks,qU k)],asks:=[],waits:=false }) (i:=5) (u:=.bool false) rfl rfl rfl rfl;have Cj:bn.cell? (ad R 4)=some (.string AS):=by rw [Ac.o,AP.o];exact (AA.1.cell 4).1
   have Ck:bn.cell? (ad R 5)=some (.bool S.waits):=by rw [AP.o];exact (AA.1.cell 5).1
   have z4:bn.frozen? ⟨R,4,none⟩=false:=by rw [AP.o];exact (AA.1.cell 4).2
   have z5:bn.frozen? ⟨R,5,none⟩=false:=by rw [AP.o];exact (AA.1.cell 5).2
   have Cg:=aa (show Aq (.returned (.int .i64 0)) ((bn.setCell ⟨R,4,none⟩ (.string ⟨#[]⟩)).setCell ⟨R,5,none⟩ (.bool false)) by
    rw [BC.o,AP.o,XD,CS.o];exact⟨rfl,⟨eG,A,c,us,BS.1⟩,CZ.o.trans (AA.2.trans (BR.2.trans BS.2))⟩);clear AA BR BS BP Bj;try simp only [Act.put]
   go_wp2_with fail;exact Cg.o
end
section
structure dC where
 ps:aK
 wrote:fA ak
 reads:List kU
 asks:ak
 over:Bool
 why:Nat
structure nY where
 v:Env
 may:ak->Bool
 outs:List ak
 sum:dB->kU
open Classical in
noncomputable def xG (v:Env) (s:aK):aK:=if h:∃ n,(s.run v n).Still then s.run v (Classical.choose h) else s
theorem LF {n:Nat} (h:(s.run v n).Still):xG v s=s.run v n:=by
 have ah:∃ n,(s.run v n).Still:=⟨n,h⟩;rw [xG,dif_pos ah];have hc:=aRS ah;have key:∀ a b:Nat,(s.run v a).Still->a<=b->s.run v b=s.run v a:=fun a b I J=>by
  rw [show b=a+(b - a) by omega,aK.aaT,aK.WV I]
 rcases Nat.le_total (Classical.choose ah) n with hle | hle
 ·exact (key _ _ hc hle).symm
 ·exact key _ _ h hle
def dC.fail (b:dC) (y:Nat):dC:={ b with over:=true,why:=y }
def dC.did (P:nY) (b:dC) (d:pM):dC :=
 if d.kind=1 then (if P.may d.path=true then { b with asks:=d.path } else b.fail 13)
 else if d.kind=2 then (if (getM b.wrote d.path).isSome=true\/d.path ∉ P.outs then b.fail 14 else { b with wrote:=oI b.wrote d.path d.data })
 else if d.kind=3 then { b with over:=true,why:=if P.outs.all (fun p=>(getM b.wrote p).isSome) then b.why else 14 }
 else b.fail d.why
noncomputable def rH (P:nY):Nat->dC->dC
 | 0,b=>b
 | n+1,b=>if b.over=true then b else
  let s:=xG P.v b.ps;let b':=dC.did P { b with ps:=s.next } (qF s)
  if (qF s).kind=1 then b' else rH P n b'
noncomputable def dC.mE (P:nY) (b:dC) (k:dB):dC :=
 if b.over=true\/k.path≠b.asks\/(k.is=true/\65536 < k.data.length) then b
 else let g:=b.ps.gave k
  let fo:dC:={ b with ps:=g.2,reads:=b.reads++[P.sum k] }
  if g.1≠0 then fo.fail g.1 else rH P 402 fo
def dC.out (b:dC):iU:=if b.why=0 then ⟨1,0,b.wrote,b.reads⟩ else ⟨2,b.why,[],b.reads⟩
noncomputable def dC.start (P:nY) (text:ak):dC :=
 if (pW eB text).1=0 then rH P 402 ⟨aK.start (qG eB (jQ text)),[],[],[],false,0⟩
 else ⟨aK.start [],[],[],[],true,(pW eB text).1⟩
noncomputable def LG (P:nY) (text:ak):MU:=⟨dC,dC.start P text,fun b=>if b.over=true then none else some b.asks,dC.mE P,dC.out⟩
def qa (l:List iT):Nat:=l.countP iT.BI
theorem aaZ {t:ak} (h:(s.add t).over.kind=2):s.over.kind=2:=by
 unfold aK.add at h;split at h
 ·cases h
 ·exact h
theorem as3 {k:dB} (h:(s.nL th k).over.kind=2):s.over.kind=2:=by
 unfold aK.nL at h;cases th <;> simp only at h <;> split at h
 all_goals first|exact aaZ h|exact h|cases h
theorem as4 (h:(s.ask p th).over.kind=2):s.over.kind=2:=by
 unfold aK.ask at h;split at h
 ·exact as3 h
 ·split at h
  ·cases h
  ·exact h
theorem as5 {w:ak} (h:(s.scan p w).over.kind=2):s.over.kind=2:=by unfold aK.scan at h;exact as4 (s:={ s with seen:=p :: s.seen }) h
theorem akH (hc:t.BI=false) (h:(s.task v t).over.kind=2):s.over.kind=2:=by
 cases t with
 | cmd c=>cases hc
 | tK p th=>exact as3 h
 | line x w =>
  unfold aK.task aK.line at h;simp only at h;split at h
  ·split at h
   ·split at h
    ·exact h
    ·exact as5 h
   ·exact aaZ h
  ·exact aaZ h
theorem aF5 (h:Hu s s'):qa s'.todo=qa s.todo:=by
 rcases h.2 with ⟨L,w,e,_⟩ | ⟨p,th,e,_⟩
 ·have I:∀ L:List ak,List.countP iT.BI (L.map (iT.line · w))=0:=fun L=>by
   rw [List.countP_eq_zero];intro t J;obtain⟨x,_,rfl⟩:=aQO.1 J;simp [iT.BI]
  rw [e,qa,List.countP_append,I,Nat.zero_add,qa]
 ·rw [e,qa,List.countP_cons];simp [iT.BI,qa]
theorem aF6 (v:Env) (s:aK):qa (s.step v).todo<=qa s.todo/\(¬ s.Still->(s.step v).over.kind=2->qa (s.step v).todo < qa s.todo):=by
 by_cases hs:s.Still
 ·rw [aK.Ht hs];exact⟨aQF _,fun h=>absurd hs h⟩
 ·cases I:s.todo with
  | nil =>
   rw [Ji hs I];exact⟨by simp [I],fun _ h=>(by cases h)⟩
  | cons t r =>
   rw [step_cons hs I];have av:=aF5 (Rb { s with todo:=r } v t);rw [av];refine⟨by simp [qa,List.countP_cons],fun _ J=>?_⟩;cases hc:t.BI with
   | true=>simp [qa,List.countP_cons,hc]
   | false =>
    have:=akH hc J;have M:=(Rc hs).1;simp only at this;omega
theorem ae9 (v:Env):∀ (n:Nat) (s:aK),s.over.kind≠2->qa (s.run v n).todo<=qa s.todo/\((s.run v n).over.kind=2->qa (s.run v n).todo < qa s.todo)
 | 0,s,I=>⟨aQF _,fun h=>absurd h I⟩
 | n+1,s,I=>by
  rw [aK.run];obtain⟨h1,J⟩:=aF6 v s;by_cases hs:s.Still
  ·rw [aK.Ht hs,aK.WV hs];exact⟨aQF _,fun h=>absurd h I⟩
  ·by_cases hk:(s.step v).over.kind=2
   ·rw [aK.WV (.inl om)];exact⟨h1,fun _=>J hs hk⟩
   ·obtain⟨Y,M⟩:=ae9 v n (s.step v) hk;exact⟨om,fun h=>by have:=M h;omega⟩
def Ai (d:pM):Prop:=(d.kind=2->d.data.length<=65536)/\(d.kind=4->d.why≠0)
theorem afa (s:aK) {y:Nat} (hy:y≠0):Ai (s.fail y).over:=⟨fun e=>(by cases e),fun _=>hy⟩
theorem afb (h:Ai s.over) (t:ak):Ai (s.add t).over:=by
 unfold aK.add;split
 ·exact afa s dc
 ·exact h
theorem as6 (h:Ai s.over) (th:rQ) (k:dB):Ai (s.nL th k).over:=by
 unfold aK.nL;cases th <;> simp only <;> split
 all_goals first|exact afb h _|exact afa s dc|exact h
theorem as7 (h:Ai s.over) (p:ak) (th:rQ):Ai (s.ask p th).over:=by
 unfold aK.ask;split
 ·exact as6 h _ _
 ·split
  ·exact afa s dc
  ·exact h
theorem as8 (h:Ai s.over) (p w:ak):Ai (s.scan p w).over:=by unfold aK.scan;exact as7 (s:={ s with seen:=p :: s.seen }) h _ _
theorem aF7 (h:Ai s.over) (n a:ak) (l:List ak):Ai (s.dG n a l).over:=by
 unfold aK.dG;repeat' split
 all_goals first|exact afb (s:={ s with buf:=[] }) h _|exact h
theorem aF8 (h:Ai s.over) (ae:s.buf.length<=65536) (t:iT):Ai (s.task v t).over:=by
 cases t with
 | cmd c =>
  unfold aK.task aK.wO;simp only;repeat' split
  all_goals first|exact as7 h _ _|exact as8 (s:={ s with seen:=[] }) h _ _|exact afb h _|exact afa s dc|exact⟨fun _=>ae,fun e=>(by cases e)⟩|exact aF7 h _ _ _|exact h
 | tK p th=>exact as6 h _ _
 | line x w =>
  unfold aK.task aK.line;simp only;repeat' split
  all_goals first|exact h|exact as8 h _ _|exact afb h _
theorem aF9 (h:Ai s.over) (ae:s.buf.length<=65536):Ai (s.step v).over:=by
 unfold aK.step;split
 ·exact h
 ·split
  ·exact⟨fun e=>(by cases e),fun e=>(by cases e)⟩
  ·rename_i t r I;exact aF8 (s:={ s with todo:=r }) h ae t
theorem as9:∀ (n:Nat) {s:aK},Inv U s->Ai s.over->Ai (s.run v n).over
 | 0,_,_,h=>h
 | n+1,_,I,h=>as9 n (I.step v) (aF9 h I.ord.lim.buf)
theorem ata (v:Env):∀ (n:Nat) (s:aK),(s.run v n).known=s.known
 | 0,_=>rfl
 | n+1,s=>by
  rw [aK.run,ata v n];by_cases hs:s.Still
  ·rw [aK.Ht hs]
  ·cases I:s.todo with
   | nil=>rw [Ji hs I]
   | cons t r =>
    rw [step_cons hs I];exact (Rb _ v t).1
structure uU (P:nY) (U:List dB) (b:dC):Prop where
 inv:Inv U b.ps
 fresh:b.ps.over.kind≠2
 ok:Ai b.ps.over
 keys:b.ps.known.map (·.1)=b.reads.map (·.path)
 wrote:∀ x∈b.wrote,x.2.length<=65536/\x.1∈P.outs
 why:b.over=false->b.why=0
 full:b.over=true->b.why=0->∀ p∈P.outs,(getM b.wrote p).isSome=true
 RS:∀ r∈b.reads,P.may r.path=true
 few:qa b.ps.todo<=401
 AL:G6 b.wrote
def Vd (P:nY) (b:dC):Prop:=b.over=true\/(b.ps.waits=true/\b.asks=b.ps.asks/\P.may b.asks=true)
theorem aGa (h:Inv U s):s.next.over.kind≠2:=by
 unfold aK.next;split
 ·rename_i hw;rw [(h.ord.waits hw).1];decide
 ·split
  ·exact fun e=>(by cases e)
  ·assumption
theorem aa0 (k:aR0):bytesBefore k k=false:=by rw [<- Bool.not_eq_true,Om];exact List.lt_irrefl _
theorem atb {a b c:aR0} (h1:bytesBefore a b=true) (ag:bytesBefore b c=true):bytesBefore a c=true:=by rw [Om] at *;exact List.lt_trans h1 ag
theorem aGb (a b:aR0):bytesBefore a b=true\/a=b\/bytesBefore b a=true:=by
 rw [Om,Om];by_cases h:a < b
 ·exact .inl h
 ·by_cases I:b < a
  ·exact .inr (.inr I)
  ·exact .inr (.inl (List.le_antisymm (aRq.1 I) (aRq.1 h)))
theorem XF {x y:List UInt8 × α}:∀ {M:fA α},y∈zk x M->y=x\/y∈M
 | [],h=>.inl (aRw.1 h)
 | z :: r,h=>by
  unfold zk at h;split at h
  ·exact aQN.1 h
  ·rcases aQN.1 h with h | h
   ·exact .inr (by rw [h];simp)
   ·rcases XF h with h | h
    ·exact .inl h
    ·exact .inr (by simp [h])
theorem atc {x:List UInt8 × α}:∀ {M:fA α},G6 M->(∀ y∈M,y.1≠x.1)->G6 (zk x M)
 | [],_,_=>List.pairwise_singleton _ _
 | y :: r,h,J=>by
  have p:=aRz.1 h;unfold zk;split
  ·rename_i ae;refine aRz.2 ⟨fun z I=>?_,h⟩;rcases aQN.1 I with rfl | I
   ·exact ae
   ·exact atb ae (p.1 z I)
  ·rename_i ae;have Y:bytesBefore y.1 x.1=true:=by
    rcases aGb x.1 y.1 with h1 | h1 | h1
    ·exact absurd h1 ae
    ·exact absurd h1.symm (J y sp)
    ·exact h1
   refine aRz.2 ⟨fun z I=>?_,atc p.2 (fun z I=>J z (aQ9 _ I))⟩;rcases XF I with rfl | I
   ·exact Y
   ·exact p.1 z I
theorem aGc {M:fA α} (h:G6 M) (k:aR0) (a:α):G6 (oI M k a) :=
 atc (h.filter _) fun y hy=>by have:=(aRs.1 hy).2;simpa using this
theorem akI {M:fA α} (h:G6 M):(M.map (·.1)).Nodup:=by rw [List.Nodup,List.pairwise_map];exact h.imp fun {a b} I e=>by rw [e,aa0] at I;cases I
theorem aGd {M:fA ak} {x d e:ak} (h:(k,d)∈oI M x e):(k=x/\d=e)\/(k,d)∈M:=by
 rcases XF h with h | h
 ·cases h;exact .inl ⟨rfl,rfl⟩
 ·exact .inr (aRs.1 h).1
theorem aGe (h:Ai s.over):Ai s.next.over:=by
 unfold aK.next;split
 ·exact h
 ·split
  ·exact⟨fun e=>(by cases e),fun e=>(by cases e)⟩
  ·exact h
theorem aGf (s:aK):s.next.known=s.known:=by
 unfold aK.next;split
 ·rfl
 ·split <;> rfl
theorem akJ (s:aK):s.next.todo=s.todo:=by
 unfold aK.next;split
 ·rfl
 ·split <;> rfl
theorem dC.atd (P:nY) (b:dC) (d:pM):(dC.did P b d).ps=b.ps/\(dC.did P b d).reads=b.reads:=by
 unfold dC.did dC.fail;repeat' split
 all_goals exact⟨rfl,rfl⟩
theorem uU.did {P:nY} {b:dC} (h:uU P U b) (gD:b.over=false) :
  uU P U (dC.did P { b with ps:=(xG P.v b.ps).next } (qF (xG P.v b.ps))):=by
 obtain⟨n,AA⟩:=h.inv.stands P.v;have M:Inv U (b.ps.run P.v n):=h.inv.run n;have Y:=as9 n h.inv h.ok (v:=P.v);have hk:(b.ps.run P.v n).next.known=b.ps.known:=by rw [aGf,ata]
 have AU:=(ae9 P.v n b.ps h.fresh).1;rw [LF AA];obtain⟨s,hs⟩:=ai (b.ps.run P.v n);rw [<- hs] at M AA Y hk AU |-;have I:uU P U { b with ps:=s.next }:=⟨M.next,aGa M,aGe Y,hk ▸ h.keys,h.wrote,h.why,h.full,h.RS,by rw [akJ];exact aQG AU h.few,h.AL⟩;have AB:∀ y,y≠0->uU P U (dC.fail { b with ps:=s.next } y):=fun y hy=>⟨I.inv,I.fresh,I.ok,I.keys,I.wrote,fun e=>(by cases e),fun _ e=>absurd e hy,I.RS,I.few,I.AL⟩;unfold dC.did;split
 ·split
  ·exact⟨I.inv,I.fresh,I.ok,I.keys,I.wrote,I.why,I.full,I.RS,I.few,I.AL⟩
  ·exact AB _ dc
 ·rename_i AP;have AV:s.waits=false:=by
   cases hw:s.waits with
   | false=>rfl
   | true=>rw [qF,if_pos hw] at AP;exact absurd rfl AP
  have Aa:qF s=s.over:=by rw [qF,if_neg (by rw [AV];decide)]
  rw [Aa] at AP |-;split
  ·rename_i AQ;split
   ·exact AB _ dc
   ·rename_i Ac;refine⟨I.inv,I.fresh,I.ok,I.keys,?_,I.why,fun e=>?_,I.RS,I.few,aGc I.AL _ _⟩
    ·rintro⟨k,d⟩ ah;rcases aGd ah with ⟨rfl,rfl⟩ | ah
     ·exact⟨Y.1 AQ,Classical.not_not.1 fun hc=>Ac (.inr hc)⟩
     ·exact h.wrote _ ah
    ·have AX:b.over=true:=e;rw [gD] at AX;cases AX
  ·rename_i AQ;split
   ·refine⟨I.inv,I.fresh,I.ok,I.keys,I.wrote,fun e=>(by cases e),fun _ e p aI=>?_,I.RS,I.few,I.AL⟩;by_cases AZ:P.outs.all (fun p=>(getM b.wrote p).isSome)=true
    ·exact aRe.1 AZ p aI
    ·simp only at e;rw [if_neg AZ] at e;cases e
   ·rename_i Ad;refine AB _ (Y.2 ?_);rcases M.ord.over with h1 | h1 | h1 | h1
    ·rcases AA with J | J
     ·rw [h1] at J;exact absurd rfl J
     ·rw [AV] at J;cases J
    ·exact absurd h1 AQ
    ·exact absurd h1 Ad
    ·exact h1
theorem uU.go {P:nY}:∀ (n:Nat) {b:dC},uU P U b->qa b.ps.todo < n->uU P U (rH P n b)/\Vd P (rH P n b)/\(rH P n b).reads=b.reads
 | 0,b,_,hc=>absurd hc (aRF _)
 | n+1,b,h,hc=>by
  cases J:b.over with
  | true=>rw [rH,if_pos J];exact⟨h,.inl J,rfl⟩
  | false =>
   rw [rH,if_neg (by rw [J];decide)];have M:=h.did J;obtain⟨m,hm⟩:=h.inv.stands P.v;obtain⟨f1,f2⟩:=dC.atd P { b with ps:=(xG P.v b.ps).next } (qF (xG P.v b.ps));simp only at f1 f2 |-;split
   ·rename_i hk;refine⟨M,?_,f2⟩;rw [LF hm] at hk |-;unfold dC.did;rw [if_pos hk];split
    ·rename_i AA;right;have hw:(b.ps.run P.v m).waits=true:=by
      cases hw:(b.ps.run P.v m).waits with
      | true=>rfl
      | false =>
       rw [qF,hw] at hk;have AB:(b.ps.run P.v m).over.kind=1:=hk;rcases (h.inv.run m).ord.over with e | e | e | e <;> rw [e] at AB <;> cases AB
     have AP:(b.ps.run P.v m).next=b.ps.run P.v m:=by rw [aK.next,if_pos hw]
     have AQ:(qF (b.ps.run P.v m)).path=(b.ps.run P.v m).asks:=by rw [qF,if_pos hw]
     rw [AQ] at AA |-;rw [AP];exact⟨hw,rfl,AA⟩
    ·exact .inl rfl
   ·rename_i hk;by_cases I:(qF (xG P.v b.ps)).kind=2
    ·have AU:qa (b.ps.run P.v m).todo < qa b.ps.todo:=by
      refine (ae9 P.v m b.ps h.fresh).2 ?_;rw [LF hm,qF] at I;split at I
      ·cases I
      ·exact I
     have:=uU.go n M (by rw [f1,akJ,LF hm];omega);rw [f2] at this;exact this
    ·have Y:(dC.did P { b with ps:=(xG P.v b.ps).next } (qF (xG P.v b.ps))).over=true:=by unfold dC.did;rw [if_neg hk,if_neg I];split <;> rfl
     cases n with
     | zero =>
      rw [rH];exact⟨M,.inl Y,f2⟩
     | succ n =>
      rw [rH,if_pos Y];exact⟨M,.inl Y,f2⟩
theorem uU.mE {P:nY} {b:dC} (h:uU P U b) (ax:Vd P b) (gD:b.over=false) {k:dB} (hk:k.path=b.asks) (hl:k.is=true->k.data.length<=65536) (aB:qU k=qU (rR U k.path)) (iE:∀ p,(rR U p).is=true->(rR U p).data.length<=1000000) (hs:(P.sum k).path=k.path) :
  uU P U (b.mE P k)/\Vd P (b.mE P k)/\(b.mE P k).reads=b.reads++[P.sum k]:=by
 rcases ax with e | ⟨hw,I,hm⟩
 ·rw [gD] at e;cases e
 ·have av:b.ps.gave k=(0,b.ps.mE (qU (rR U b.ps.asks))):=by rw [aK.gave,if_neg (by rw [hw];decide),if_neg (by rw [hk,I];simp),if_neg (fun⟨h1,J⟩=>by have:=hl h1;omega),aB,hk,I]
  have he:b.mE P k=rH P 402 { b with ps:=b.ps.mE (qU (rR U b.ps.asks)),reads:=b.reads++[P.sum k] }:=by
   rw [dC.mE,if_neg]
   ·simp only [av];rw [if_neg dc]
   ·rintro (e | e | ⟨h1,J⟩)
    ·rw [gD] at e;cases e
    ·exact e hk
    ·have:=hl h1;omega
  have M:uU P U { b with ps:=b.ps.mE (qU (rR U b.ps.asks)),reads:=b.reads++[P.sum k] }:=by
   refine⟨h.inv.mE hw iE,h.fresh,h.ok,?_,h.wrote,h.why,h.full,fun r ah=>?_,h.few,h.AL⟩
   ·show (b.ps.known++[(b.ps.asks,qU (rR U b.ps.asks))]).map (fun x=>x.1)=(b.reads++[P.sum k]).map (fun x=>x.path);rw [List.map_append,List.map_append,h.keys];simp [hs,hk,I]
   ·rcases aQ4.1 ah with ah | ah
    ·exact h.RS r ah
    ·rw [List.mem_singleton.1 ah,hs,hk];exact hm
  have:=M.go 402 (by have:=h.few;show qa b.ps.todo < 402;omega);rw [he];exact this
theorem afc (l:List sK):qa (aK.start l).todo=l.length:=by show List.countP iT.BI (l.map .cmd)=_;rw [List.countP_map,List.countP_eq_length.2];intro c _;rfl
theorem uU.start {P:nY} {text:ak} (az:text.length<=100000) (iE:CP U<=20000000):uU P U (dC.start P text)/\Vd P (dC.start P text)/\(dC.start P text).reads=[]:=by
 unfold dC.start;split
 ·rename_i hc;have hl:(qG eB (jQ text)).length<=400:=by
   have h1:=ZV eB (jQ text);unfold pW at hc;split at hc
   ·cases hc
   ·omega
  have hs:=akx (asI az) hl iE;have J:uU P U ⟨aK.start (qG eB (jQ text)),[],[],[],false,0⟩:=⟨hs,fun e=>(by cases e),⟨fun e=>(by cases e),fun e=>(by cases e)⟩,rfl,fun x ah=>(by cases ah),fun _=>rfl,fun e=>(by cases e),fun r I=>(by cases I),by rw [afc];omega,List.Pairwise.nil⟩;exact J.go 402 (by show qa (aK.start _).todo < 402;rw [afc];omega)
 ·rename_i hc;exact⟨⟨akx (l:=[]) (fun c ah=>(by cases ah)) (aQQ _) iE,fun e=>(by cases e),⟨fun e=>(by cases e),fun e=>(by cases e)⟩,rfl,fun x ah=>(by cases ah),fun e=>(by cases e),fun _ e=>absurd e hc,fun r I=>(by cases I),aQQ _,List.Pairwise.nil⟩,.inl rfl,rfl⟩
theorem uU.asked {P:nY} {b:dC} (h:uU P U b) (ax:Vd P b) (gD:b.over=false):b.asks ∉ b.reads.map (·.path)/\b.reads.length < 500:=by
 rcases ax with e | ⟨hw,I,hm⟩
 ·rw [gD] at e;cases e
 ·obtain⟨_,J,M⟩:=h.inv.ord.waits hw;have hl:b.ps.known.length=b.reads.length:=by have:=congrArg List.length h.keys;simpa using this
  refine⟨fun ah=>?_,om⟩;rw [<- h.keys,I,<- aqC,J] at ah;cases ah
end
section
open Go.RowKit Go.Shelf
structure afd (l:List (ak × List UInt8)):Prop where
 under:∀ x∈l,yI x.1 [111,117,116]=true/\x.1.length<=1000000/\x.2.length=32
 AL:l.Pairwise fun x y=>bytesBefore x.1 y.1=true
theorem afd.next {l:List (ak × List UInt8)} (h:afd l) {p:Nat} {x y:ak × List UInt8} (ah:l[p]?=some x) (hy:l[p+1]?=some y):(y.1 == x.1)=false/\bytesBefore y.1 x.1=false:=by
 obtain⟨h1,rfl⟩:=aQL.1 ah;obtain⟨I,rfl⟩:=aQL.1 hy;have:=List.pairwise_iff_getElem.1 h.AL p (p+1) h1 I om;refine⟨?_,?_⟩
 ·rw [beq_eq_false_iff_ne];intro e;rw [e,aa0] at this;cases this
 ·rw [Bool.eq_false_iff];intro e;have:=atb e this;rw [aa0] at this;cases this
theorem aGg (w:aRU) (A:aRV) (c:Nat) (l:List (ak × List UInt8)) (ax:Rd w 33 A l.length (cK mi l)) (hl:l.length<=1000) (eZ:afd l) :
  CB 212 #[.slice A l.length c] w (.int .i64 0):=by
 obtain⟨n,AV⟩:=ai l.length;rw [<- AV] at ax hl |-;obtain⟨AA,Ak,Al⟩:=hq3 AV ax eZ;clear ax AV eZ;go_enter func212,ntmps212;go_wp2_with fail;go_loopg [7] n (fun gk BN wr=>∃ j:Nat,j+gk=n/\BN = .int .i64 j/\Bl w wr);case atStart=>exact⟨0,om,rfl,Below.refl _ _⟩
 case round =>
  obtain⟨j,aC,rfl,J⟩:=hrel;have BX:(0:Int)<=j:=om;by_cases AX:j < n
  ·have BO:(j:Int) < n:=om;obtain⟨x,ah⟩:∃ x,l[j]?=some x:=⟨_,aQI (by rw [<- AA.o];exact AX)⟩;obtain⟨hu,BZ,Bb⟩:=Al.o.under x (aQK ah);obtain⟨Bc,Be,rfl,AZ⟩:=vG (f:=mi) (k:=33) H8 underlying268 rfl kr (Ak.o.gz J) ah AA.o.symm;have Aa:=UI x;have Ac:=aak x;have hlen:=H8 x;have M:(mi x)[0]?=some (.string (aA x.1)):=rfl;have AB:=fun (W:aRU)=>ai4 W (aA x.1) ⟨#[111,117,116]⟩ (by rw [iP];omega) dc;rw [show (⟨#[111,117,116]⟩:ByteArray).data.toList=[111,117,116] from rfl,gZ,hu] at AB;obtain⟨Ad,Am,P,Ae⟩:=nq2 (mi x) (aA x.1);rw [<- Am] at AZ Aa Ac hlen M;rw [<- Ae] at M AB;obtain⟨Bf,AP⟩:=ai (wr.alloc (.cells Ad.toArray 268));have Ao:=gQ AP;have Af:=kY AP;have Ag:=aU J Ao;have AQ:=(Af.cell 0).trans M;have Ap:=Ak.o.gz Ag;obtain⟨Aq,Av,Az,BB,BC,BP,BR,BD⟩:=hq8 AZ AB Af Ag M Ap ah Ae;have BF:=AP.symm;clear AZ AB Af Ag M ah Am Ae Ao AP J Ap hu AX;cases j with
   | zero =>
    go_wp2_with (first|((with_reducible refine pO Aq.o ?_ ?_);exact rfl)|(with_reducible refine zx Ad hlen Ac Aa ?_)|(go_at_call 105; refine (Av.o _).mono ?_;rintro e bn ⟨rfl,I⟩;clear AQ;have AQ:=((Az.o.all I).cell 0).trans BC.o;have Ah:=aa (aU BB.o I);clear I BF));go_quiet (fail);go_wp2_with fail;go_quiet (fail);go_wp2_with fail;go_roundg (gk - 1);case rel=>exact⟨0+1,om,by go_num,below_drewN Ah.o _⟩
    case measure=>omega
   | succ p =>
    obtain⟨y,hy⟩:∃ y,l[p]?=some y:=⟨_,aQI (by rw [<- AA.o];omega)⟩;obtain⟨BG,BH⟩:=Al.o.next hy BR.o;obtain⟨Bg,Bh,BS,BK⟩:=arC H8 BP.o hy AA.o.symm;cases BS;have Y:=BK 0 (.string (aA y.1)) rfl;rw [Nat.add_zero] at Y;obtain⟨Q,AU⟩:=ai (aA y.1);have Bi:(P.toList == Q.toList)=false:=by rw [BD.o,AU,ByteArray.toList_eq,ByteArray.toList_eq,gZ,gZ];exact BG
    have Bj:Op.bytesLess P.toList Q.toList=false:=by rw [BD.o,AU,apP,decide_eq_false_iff_not,<- Om,BH];decide
    rw [<- AU] at Y;have BL:=aa Y;have Bn:IntKind.i64.wrap (p:Int)=p:=aRt _ (by constructor <;> omega);have Bp:(0:Int)<=p:=om;have Bq:(p:Int) < n:=om;clear Y BK BG BH AU hy;go_wp2_with (first|((with_reducible refine pO Aq.o ?_ ?_);exact rfl)|(with_reducible refine zx Ad hlen Ac Aa ?_)|(go_at_call 105; refine (Av.o _).mono ?_;rintro e bn ⟨rfl,I⟩;clear AQ;have AQ:=((Az.o.all I).cell 0).trans BC.o;have Y:=(I.cell (aQR _ _ BL.o)).trans BL.o;have Ah:=aa (aU BB.o I);clear I BF));go_quiet (fail);go_wp2_with fail;go_quiet (fail);go_wp2_with fail;go_roundg (gk - 1);case rel=>exact⟨p+1+1,om,by go_num,below_drewN Ah.o _⟩
    case measure=>omega
  ·have BO:¬ (j:Int) < n:=om;have BU:=aa J;clear AX J;go_wp2_with fail;go_ret;exact⟨rfl,BU.o⟩
structure XH (t:lS):Prop where
 reads:∀ r∈t.reads,ajR r
 apart:(t.reads.map (·.path)).Nodup
 outs:afd t.outs
 few:t.reads.length<=500/\t.outs.length<=1000
theorem aff (w:aRU) (t:lS) (L:qw) (hA:Xn w t L) (h:XH t) :
  CB 168 #[.agg (gP t L).toArray] w (.int .i64 0):=by
 have M:=fun W (ae:Bl w W)=>aEf W L.A L.c t.reads (hA.all ae).reads (by have:=h.few.1;omega) h.reads h.apart;have Y:=fun W (ae:Bl w W)=>aGg W L.B L.d t.outs (hA.all ae).outs h.few.2 h.outs;have J:=ajH t L;have I:=aex t L;obtain⟨n,AU,m,hm⟩:=nq2 t.reads.length t.outs.length;have Aq:¬ (500:Int) < n:=by have:=h.few.1;omega
 have Av:¬ (1000:Int) < m:=by have:=h.few.2;omega
 rw [<- AU] at M J;rw [<- hm] at Y I;obtain⟨Ac,Ad,Ae,Af⟩:=L;simp only at M Y J I;obtain⟨V,AV⟩:=ai (gP t ⟨Ac,Ad,Ae,Af⟩);rw [<- AV] at J I |-;obtain⟨aH,AA⟩:=ai (w.alloc (.cells V.toArray 224));have AP:=gQ AA;have AB:=kY AA;have Ag:=aa (fun W (h:Bl aH W)=>((AB.all h).cell 33).trans I);have Ah:=(AB.cell 32).trans J;have AX:=(AB.cell 33).trans I;have Ak:=aa (M aH AP);have Al:=aa Y;have Am:=aa AP;have Ao:=AA.symm;clear J I AV AB M Y AU hm hA h AP AA;go_enter func168,ntmps168;go_wp2_with (first|(go_at_call 211; refine Ak.o.mono ?_;rintro e bn ⟨rfl,AQ⟩;clear Ah AX;have AX:=Ag.o bn AQ;have AZ:=aa (aU Am.o AQ);clear AQ Ao)|(go_at_call 212; refine (Al.o _ AZ.o).mono ?_;rintro e Az ⟨rfl,Aa⟩;have Ap:=aa (aU AZ.o Aa);clear Aa));go_ret;exact⟨rfl,Ap.o⟩
def nN (W:aRU) (B:Nat) (e:TypeId) (aO:Nat) (A:aRV) (n c:Nat) (V:aRW) (af:aRU):Prop:=W.grownBy af (bM A)/\Own af B e aO A n c V
def PI (B:Nat) (e:TypeId) (aO:Nat) (A:aRV) (n c:Nat) (V news:aRW) (i k:Nat) (X:Nat->Value->World->Prop) (j:Nat) (v:Value) (w:aRU):Prop :=
 (j=i->∃ g,v = .slice (some ⟨g,0,none⟩) 1 1/\aM w g news e/\some g≠bM A) /\
 (j=k->∃ A' c',v = .slice A' (n+1) c'/\RA B e aO A c (n+1) (V++news) A' c' w)/\(j≠i->j≠k->X j v w)
section
variable {W w af:aRU} {B aO n c i k j:Nat} {e:TypeId} {A:aRV} {V news:aRW} {v:Value} {X:Nat->Value->World->Prop}
theorem PI.keep (aX:X j v w->X j v w') (hk:o6 B e aO A c (n+1) (V++news) w w') (h:PI B e aO A n c V news i k X j v w):PI B e aO A n c V news i k X j v w' :=
 ⟨fun e=>by
  obtain⟨g,J,I,M⟩:=h.1 e;exact⟨g,J,(hk.1.block g I.lt M).trans I,M⟩,fun e=>by
  obtain⟨A',c',J,I⟩:=h.2.1 e;exact⟨A',c',J,hk.2 _ _ I⟩,fun h1 Y=>aX (h.2.2 h1 Y)⟩
theorem nN.start (aG:Own W B e aO A n c V):nN W B e aO A n c V W.drew:=⟨⟨rfl,rfl,rfl,aQF _,fun _ _ _=>rfl⟩,aG⟩
theorem nN.JD (h:nN W B e aO A n c V af):some af.heap.size≠bM A:=fun e=>by
 have:=(h.2.block _ e.symm).2.1;omega
theorem nN.alloc (h:nN W B e aO A n c V af) (o:Obj):nN W B e aO A n c V (af.alloc o):=⟨F8 h.1 (World.grownBy_alloc af o _),h.2.alloc o⟩
theorem nN.below (h:nN W B e aO A n c V af) {aD:aRU} (ae:Bl af aD):nN W B e aO A n c V aD :=
 ⟨F8 h.1 ⟨ae.os,ae.tape,ae.output,ae.size,fun i I _=>ae.block i I⟩,h.2.below ae (aQF _)⟩
theorem aGj {aD:aRU} (ae:Bl af aD):o6 B e aO A c n V af aD :=
 ⟨⟨ae.os,ae.tape,ae.output,ae.size,fun i I _=>ae.block i I⟩,fun A' c' h=>⟨h.1.below ae (aQF _),h.2⟩⟩
theorem nN.row (h:nN W B e aO A n c V af) {U:aRW} {t:TypeId} (ax:aM W g U t) (av:some g≠bM A):aM af g U t:=(h.1.block g ax.lt av).trans ax
variable {P:Program} {t:TypeId} {z:Value} {bytes:Nat} {o:Oper} {a:Act} {K:Act->World->Prop} {Q:aRX}
theorem Nv (h:D6 P t e z aO bytes) (v:Value) (bg:v.cells.size=aO) {x:Operand} (aG:o.op = .buildSlice t 1 #[(0,x)]) (ah:a.eval x=v)
  (aJ:K (a.put o.dst (.slice (some ⟨W.heap.size,0,none⟩) 1 1)) (W.alloc (.cells v.cells e))):o.wp P a W K Q:=by
 have I:=aq2 (P:=P) W t e v z aO h.Z4 h.aq3 h.zs bg h.small.1 (by have:=h.small.2.1;omega);unfold Oper.wp execOp;simp [aG,ah,I];exact aJ
theorem akN {t0:TypeId} {pq l7:Operand} {i0 i1:Nat} (v0 v1:Value) (cells:Array Value) (hf:P.built t0 [(i0,v0),(i1,v1)]=some cells) (aG:o.op = .build t0 #[(i0,pq),(i1,l7)]) (ah:a.eval pq=v0/\a.eval l7=v1) (h:K (a.put o.dst (.agg cells)) W):o.wp P a W K Q :=
 wp_build t0 _ aG (by simp [ah,hf]) (by simpa [ah,hf] using h)
theorem afh {U:aRW} (h:aM W g U e) (iE:U.length=aO):Rd W aO (some ⟨g,0,none⟩) 1 U :=
 ⟨om,fun _=>⟨g,0,rfl,fun j u hu=>by rw [Nat.zero_add,h.cell j];exact hu⟩⟩
theorem aGk {u:TypeId} (h:D6 P t e z aO bytes) {s x:Operand} (aG:o.op = .call { callee:=.builtin .append,args:=#[s,x],argTypes:=#[t,u] }) (bU:Own w B e aO A n c V) (g:Nat) (ax:aM w g news e) (hl:news.length=aO) (h1:∀ v∈news,v.oneCell'=true)
  (aB:n<=1000000) (sF:B<=w.heap.size) (hu:P.underlying u=some (.slice e)) (zM:a.eval s = .slice A n c/\a.eval x = .slice (some ⟨g,0,none⟩) 1 1)
  (aJ:∀ A' c' w',RA B e aO A c (n+1) (V++news) A' c' w'->o6 B e aO A c (n+1) (V++news) w w'->Own w' B e aO A n c V->K (a.put o.dst (.slice A' (n+1) c')) w'):o.wp P a w K Q :=
 arT s x t u aG e z aO bytes h.Z4 h.info h.zs B A n c V bU 1 news _ (Src.slice hu (afh ax hl)) h1 mV (by have:=h.small;have:(n+1) * bytes<=1000001 * 1000:=Nat.mul_le_mul om om;omega) sF zM aJ
end
theorem Eg {P:Program} {fn:Func} {R:aRY} {a:Act} {V:aRW} {ty:TypeId} {d:TypeDesc} {t u:Tmp} (ax:aM W g V ty) (hu:P.underlying ty=some d) (aS:Cs d=true) (ay:(P.info? ty).map (·.size)=some V.length)
  (hf:fn.results=#[.cell t ty,.tmp u]/\a.tmps.getD t undef = .pointer (some ⟨g,0,none⟩)/\a.defers=[]) (aL:R (.returned (.tuple #[.agg V.toArray,a.tmps.getD u undef])) W):bodyPost P fn R .ret a W:=by
 refine aQP (v:=.tuple #[.agg V.toArray,a.tmps.getD u undef]) ?_ hf.2.2 aL;have I:a.tmps[t]?.getD undef = .pointer (some ⟨g,0,none⟩):=by simpa using hf.2.1
 have hl:=run_loadVar_row W g ty ty V.toArray (0,0) d ax hu (by cases d <;> exact aS) (by rw [List.size_toArray];exact ay);simp [results,hf.1,I,asAddr,hl]
end
section
open Go.RowKit Go.Shelf
def Gl:List Value:=l6 A7++[.slice none 0 0,.slice none 0 0]
theorem ath:Gl.toArray=#[dU,dU,dU,dU,dU,dU,dU,dU,dU,dU,dU,dU,dU,dU,dU,dU,dU,dU,dU,dU,dU,dU,dU,dU,dU,dU,dU,dU,dU,dU,dU,dU,.slice none 0 0,.slice none 0 0]:=rfl
theorem aGl (d:aR0) (A:aRV) (n c:Nat):prog.built 224 [(0,.agg (l6 d).toArray),(1,.slice A n c)]=some (l6 d++[Value.slice A n c,Value.slice none 0 0]).toArray:=kr
theorem aGm (p:ByteArray) (d:aR0):prog.built 268 [(0,.string p),(1,.agg (l6 d).toArray)]=some (Value.string p :: l6 d).toArray:=kr
theorem Aj:D6 prog 24 9 (.string ⟨#[]⟩) 1 16:=⟨underlying24,kr,rfl,dc⟩
structure kI where
 A:Option Addr
 c:Nat
 B:Option Addr
 d:Nat
def jd (o:iU) (L:kI):List Value:=[.int .i64 o.kind,.int .i64 o.why,.slice L.A o.outs.length L.c,.slice L.B o.reads.length L.d]
structure Ve (W:aRU) (o:iU) (L:kI):Prop where
 outs:Rd W 2 L.A o.outs.length (cK fI o.outs)
 reads:Rd W 34 L.B o.reads.length (cK iq o.reads)
theorem Ve.all {o:iU} {L:kI} (h:Ve W o L) (ae:Bl W W'):Ve W' o L:=⟨h.outs.gz ae,h.reads.gz ae⟩
structure ny (W:aRU) (B:Nat) (o:iU) (L:kI):Prop where
 outs:Own W B 65 2 L.A o.outs.length L.c (cK fI o.outs)
 reads:Own W B 135 34 L.B o.reads.length L.d (cK iq o.reads)
theorem ny.at_ {o:iU} {L:kI} (h:ny W B o L):Ve W o L:=⟨h.outs.rd,h.reads.rd⟩
theorem ny.all {o:iU} {L:kI} (h:ny W B o L) (ae:Bl W W'):ny W' B o L:=⟨h.outs.below ae (aQF _),h.reads.below ae (aQF _)⟩
theorem ny.mono {B':Nat} {o:iU} {L:kI} (h:ny W B o L) (bf:B'<=B):ny W B' o L:=⟨h.outs.mono bf,h.reads.mono bf⟩
def uV (x:ak × ak):ak × List UInt8:=(x.1,bP.sum x.2)
def LH (k:aR0) (o:iU):lS:=⟨k,o.reads,o.outs.map uV⟩
structure PL (w wr:aRU) (g6:Nat) (k:aR0) (rs:List kU) (ms:List (ak × List UInt8)) (L:qw):Prop where
 low:Bl w wr
 row:aM wr g6 (gP ⟨k,rs,ms⟩ L) 224
 reads:Own wr w.heap.size 135 34 L.A rs.length L.c (cK iq rs)
 outs:Own wr w.heap.size 268 33 L.B ms.length L.d (cK mi ms)
 res:aM wr (w.heap.size+1+1) Gl 224
theorem PL.on {wr af:aRU} {g6:Nat} {k:aR0} {rs:List kU} {ms:List (ak × List UInt8)} {L:qw} (h:PL w wr g6 k rs ms L) (ae:Bl wr af):PL w af g6 k rs ms L :=
 ⟨h.low.trans (ae.mono h.low.size),h.row.all ae,h.reads.below ae (aQF _),h.outs.below ae (aQF _),h.res.all ae⟩
theorem aGn (k:aR0) (rs:List kU) (ms ati:List (ak × List UInt8)) (dh:aRV) (bH:Nat) (B fZ:aRV) (d fT:Nat) (v:Value) (bg:v = .slice fZ ati.length fT):(gP ⟨k,rs,ms⟩ ⟨dh,bH,B,d⟩).take 33++[v]++(gP ⟨k,rs,ms⟩ ⟨dh,bH,B,d⟩).drop (33+[v].length)=gP ⟨k,rs,ati⟩ ⟨dh,bH,fZ,fT⟩:=by have h:=rC k;subst bg;simp only [gP];rw [List.take_append,List.drop_append,h,List.take_of_length_le om,List.drop_of_length_le (by simp [h])];simp
theorem gX {n:Nat} {t:TypeId} {U:aRW} (h:Own W base t aO A n c xs) (ax:aM W g U uX) (bJ:t≠uX) (az:fV g W W'):Own W' base t aO A n c xs :=
 h.keep fun b ae _ _=>az.2.2.2.2 b fun e=>h.ne ax bJ (by rw [ae,e])
theorem XI {n XJ gG c2:Nat} {t:TypeId} {B:aRV} {ys:aRW} (h:Own W base t aO A n c xs) (k:Own W base uX XJ B gG c2 ys) (bJ:t≠uX) (av:W.grownBy W' (bM B)):Own W' base t aO A n c xs :=
 h.grown av fun b ae e=>by
  obtain⟨_,_,cur,aZ,hc⟩:=h.block b ae;exact k.ne hc bJ.symm e.symm
theorem PL.next {wr dD af bN:aRU} {g6:Nat} {k:aR0} {rs:List kU} {ms:List (ak × List UInt8)} {dh B fZ:aRV} {bH d fT:Nat} {x:ak × List UInt8} (aV:PL w wr g6 k rs ms ⟨dh,bH,B,d⟩) (ae:Bl wr dD) (hm:nN dD w.heap.size 268 33 B ms.length d (cK mi ms) af)
  (hc:Own af w.heap.size 268 33 fZ (ms.length+1) fT (cK mi ms++mi x)) (ax:aM bN g6 (gP ⟨k,rs,ms++[x]⟩ ⟨dh,bH,fZ,fT⟩) 224) (az:fV g6 af bN) (av:w.heap.size+1+1 < g6):PL w bN g6 k rs (ms++[x]) ⟨dh,bH,fZ,fT⟩:=by
 have h:=aV.on ae;have I:aM af g6 (gP ⟨k,rs,ms⟩ ⟨dh,bH,B,d⟩) 224:=hm.row h.row (h.outs.ne h.row dc).symm;have J:Bl w af:=h.low.grown hm.1 h.low.size fun b e=>(h.outs.block b e).1;exact⟨oO J az om,ax,gX (XI h.reads h.outs dc hm.1) I dc az,by
  have:=gX hc I dc az;rw [List.length_append];rw [show cK mi (ms++[x])=cK mi ms++mi x by simp [cK]];exact this,(hm.row h.res (h.outs.ne h.res dc).symm).dG az om⟩
theorem aGo (w:aRU) (k:aR0) (o:iU) (L:kI) (hO:Ve w o L) (h1:o.kind=1) (hl:o.outs.length<=1000/\o.reads.length<=500) (aS:∀ x∈o.outs,x.2.length<=1000000000) (eZ:XH (LH k o)) :
  Calls prog 176 #[.agg (l6 k).toArray,.agg (jd o L).toArray] w fun e w'=>∃ T:qw,e = .returned (.tuple #[.agg (gP (LH k o) T).toArray,.int .i64 0])/\oQ w' w.heap.size (LH k o) T/\Bl w w':=by
 obtain⟨Ao,Ap,AX,AZ⟩:=L;obtain⟨X,aX,n,BL,m,hm⟩:=nq3 (l6 k) o.outs.length o.reads.length;have DJ:X.length=32:=by rw [aX];exact rC k
 have DN:Sz 59 X.length:=by rw [DJ];exact kr
 rw [jd];simp only;rw [<- aX,<- BL,<- hm,h1];obtain⟨y,hy⟩:=ai o.why;rw [<- hy];obtain⟨aH,AQ⟩:=ai (((w.alloc (.cells X.toArray 59)).alloc (.cells #[.int .i64 1,.int .i64 y,.slice Ao n Ap,.slice AX m AZ] 63)).alloc (.cells Gl.toArray 224));have BN:Bl w aH:=by rw [AQ];exact (iD.alloc sp _).alloc (by simp;omega) _
 have Bt:aM aH (w.heap.size+1+1) Gl 224:=by rw [AQ];have:=aM.new ((w.alloc (.cells X.toArray 59)).alloc (.cells #[.int .i64 1,.int .i64 y,.slice Ao n Ap,.slice AX m AZ] 63)) Gl 224;simpa using this
 have BO:aM aH (w.heap.size+1) [.int .i64 1,.int .i64 y,.slice Ao n Ap,.slice AX m AZ] 63:=by rw [AQ];have:=aM.new (w.alloc (.cells X.toArray 59)) [.int .i64 1,.int .i64 y,.slice Ao n Ap,.slice AX m AZ] 63;refine aM.all ?_ iD;simpa using this
 have C8:aM aH w.heap.size X 59:=by rw [AQ];exact ((aM.new w X 59).all iD).all iD
 have DR:=BO.cell 0;have CF:=fun W (h:Bl aH W)=>Le (W:=aH) (g:=w.heap.size) (o:=0) (V:=X) (fun i v DT=>by rw [Nat.zero_add,C8.cell i];exact DT) underlying59 rfl DN h;rw [ath] at AQ;have DU:=aa (hO.all BN);have Db:=aa (fun W (h:Bl w W)=>hO.all h);obtain⟨BP,BR,Dc,CG,CJ,CK,De,Dg,Dh⟩:=hq9 BL hm aX BN Bt BO CF aS eZ;have Di:=AQ.symm;have El:n<=1000:=om;have Dj:=aa (fun W (h:Bl aH W)=>aet W AX m AZ (cK iq o.reads) (by rw [BR.o];exact (DU.o.all h).reads) (aaj FZ _) om);clear hO h1 hl aS eZ aX BL hm BN Bt BO C8 CF AQ hy;go_enter func176,ntmps176;go_wp2_with fail;clear DR Di;refine nz nH 6 [some (.agg X.toArray),some _,some (.slice AX m AZ),none,none,none] (fun j v af=>(j=3->∃ A c,v = .slice A m c/\Own af w.heap.size 135 34 A m c (cK iq o.reads))/\(j=4->∃ A c,v = .agg (l6 k++[Value.slice A m c,Value.slice none 0 0]).toArray/\Own af w.heap.size 135 34 A m c (cK iq o.reads))/\(j=5->∃ g,v = .pointer (some ⟨g,0,none⟩)/\aM af g Gl 224 /\ w.heap.size+1+1 < g)) (Bl aH) Bl (Below.refl _ aH).drew (fun j v w1 af ae h=>⟨fun e=>(by obtain⟨A,c,AU,AA⟩:=h.1 e;exact⟨A,c,AU,AA.below ae (aQF _)⟩),fun e=>(by obtain⟨A,c,AU,AA⟩:=h.2.1 e;exact⟨A,c,AU,AA.below ae (aQF _)⟩),fun e=>(by obtain⟨g,AU,AA,Aa⟩:=h.2.2 e;exact⟨g,AU,AA.all ae,Aa⟩)⟩) ?_ (jI:=⟨rs ?_,rx,rs ?_,rs ?_,rs ?_,rs ?_,trivial⟩)
 rotate_left
 ·intro eQ u af aj aL K aR bz;refine Lb _ _ rfl (De.o af aj) (by simp [Act.eval,aL]) ?_;exact aR _ _ rfl aj (Below.refl _ _)
 ·intro eQ u af aj aL K aR bz;have BS:=(CK.o.all aj).cell 3;go_simp;exact aR _ _ rfl aj (Below.refl _ _)
 ·intro eQ u af aj aL K aR bz;go_simp;refine (Dj.o af aj).mono ?_;rintro e aD ⟨dh,bH,rfl,BU,Ac⟩;exact aR _ _ ⟨fun _=>⟨dh,bH,rfl,BU.mono (by have h1:=CG.o.size;have ag:=aj.size;omega)⟩,gq,gq⟩ (aU aj Ac) Ac
 ·intro eQ u af aj aL K aR bz;obtain⟨dh,bH,Aa,BU⟩:=bz.2;refine akN (.agg X.toArray) (.slice dh m bH) _ (by rw [Dc.o];exact aGl k dh m bH) rfl ⟨by simp [Act.eval,aL,bz.1],by simp [Act.eval,aL,Aa]⟩ ?_;exact aR _ _ ⟨gq,fun _=>⟨dh,bH,rfl,BU⟩,gq⟩ aj (Below.refl _ _)
 ·intro eQ u af aj aL K aR bz;go_simp;exact aR _ _ ⟨gq,gq,fun _=>⟨_,rfl,aM.new af Gl _,by have h1:=CJ.o.lt;have ag:=aj.size;omega⟩⟩ (aj.alloc (aQG (aQF _) aj.size) _) iD
 ·intro u af aj Ad;obtain⟨dh,bH,CL,CQ⟩:=(Ad 4 om).2.1 rfl;obtain⟨g6,CS,CU,Dk⟩:=(Ad 5 om).2.2 rfl;clear Ad;simp only [CL,CS];have CV:Bl w af:=aU CG.o aj;obtain⟨Ae,BX⟩:=ai (l6 k++[Value.slice dh m bH,Value.slice none 0 0]);have Af:Ae=gP ⟨k,o.reads,[]⟩ ⟨dh,bH,none,0⟩:=by rw [BX,BR.o];rfl
  have Dp:Ae.length=Gl.length:=by rw [Af,Eb];rfl
  have Dq:Sz 224 Ae.length:=by rw [Af];exact Pe _ _
  have Dr:∀ v∈Ae,v.oneCell'=true:=by rw [Af];exact M8 _ _
  rw [<- BX];obtain⟨Dt,Du,Aq,Dv,CW⟩:=hq5 CV CQ CU Af aj;clear CV CQ CU BX Af aj CL CS;go_wp2_with (first|((with_reducible refine Jn Ae Aq.o Dq Dp Dr ?_);intro cO CY BZ;have c2:=((CK.o.all CW.o).dG BZ om).cell 2;have Bb:=aa CY;have Ag:=aa BZ;clear CY BZ));have I:PL w cO g6 k o.reads [] ⟨dh,bH,none,0⟩:=⟨oO Dt.o Ag.o om,by have:=Bb.o;rwa [Dv.o] at this,by
   have:=Du.o;rw [BR.o] at this;exact this.keep fun b ae Em _=>Ag.o.2.2.2.2 b fun e=>by
    have h1:=this.ne Aq.o dc;exact h1 (by rw [ae,e]),Own.nil _ _ _ _,(CJ.o.all CW.o).dG Ag.o om⟩;have Dw:=aa I;clear I c2;go_loopg [22] n (fun gk Dz wr=>∃ q:Nat,q+gk=n/\Dz = .int .i64 q/\∃ B d,PL w wr g6 k o.reads ((o.outs.take q).map uV) ⟨dh,bH,B,d⟩);case atStart=>exact⟨0,om,rfl,none,0,Dw.o⟩
  case round =>
   obtain⟨q,En,rfl,B,d,I⟩:=hrel;by_cases CZ:q < n
   ·have E5:(q:Int) < n:=om;have Eo:(0:Int)<=q:=om;obtain⟨x,ah⟩:∃ x,o.outs[q]?=some x:=⟨_,aQI (by rw [<- BP.o];exact CZ)⟩;obtain⟨Er,Es,rfl,Av⟩:=vG (f:=fI) (k:=2) (fun _=>rfl) underlying65 rfl kr (Db.o wr I.low).outs ah rfl;have Ca:=Dg.o x (aQK ah);have Bc:(o.outs.take (q+1)).map uV=(o.outs.take q).map uV++[uV x]:=by rw [List.take_add_one,ah];simp
    have Ah:((o.outs.take q).map uV).length=q:=by rw [List.length_map,List.length_take,<- BP.o];omega
    obtain⟨ms,Cc⟩:=ai ((o.outs.take q).map uV);rw [<- Cc] at I Bc Ah;obtain⟨P,Be,J,Az⟩:=nq2 (aA x.1) (aA x.2);simp only [fI] at Av;rw [<- Be,<- Az] at Av;obtain⟨BB,BC⟩:=ai (wr.alloc (.cells #[.string P,.string J] 65));have Ac:=gQ BC;have Ak:=kY BC;have Y:=I.on Ac;have Ce:Own BB w.heap.size 268 33 B q d (cK mi ms):=by have:=Y.outs;rw [Ah] at this;exact this
    have BS:=fun (af:aRU) (aj:nN BB w.heap.size 268 33 B q d (cK mi ms) af)=>show af.cell? (ad g6 33)=some (.slice B q d)/\af.cell? (ad wr.heap.size 0)=some (.string P)/\af.cell? (ad wr.heap.size 1)=some (.string J) from
     ⟨((aj.row Y.row (Y.outs.ne Y.row dc).symm).cell 33).trans (by rw [aex,Ah]),(aj.row Ak (Y.outs.ne Ak dc).symm).cell 0,(aj.row Ak (Y.outs.ne Ak dc).symm).cell 1⟩
    have BD:=fun (W:aRU) (g:Nat) (ax:Rd W 1 (some ⟨g,0,none⟩) 1 [.string J])=>Xb W g J (by rw [Az,iP];exact Ca) ax;rw [show J.data.toList=x.2 by rw [Az,gZ],<- HZ (yK x.2)] at BD;have Cf:Value.string P :: l6 (bP.sum x.2)=mi (uV x):=by rw [Be];rfl
    have Al:=aGm P (bP.sum x.2);rw [Cf] at Al;have Cg:=UI (uV x);have Bf:=H8 (uV x);obtain⟨AV,Bg,Cj,Ck⟩:=nq2 (mi (uV x)) (l6 (bP.sum x.2));rw [<- Bg] at Al Cg Bf;rw [<- Ck] at Al BD;have E8:(Value.agg AV.toArray).cells.size=33:=by simp [Value.cells,Bf]
    have E9:q<=1000000:=om;have bf:w.heap.size<=BB.heap.size:=Y.low.size;obtain⟨EA,Bh,EC,Bi,EF,EG,EH,Bj,EJ,EK,EL⟩:=hq11 Av Y Ce BS BD Al Bc Ah Bg I Ac;have Ev:=BC.symm;clear Av Y Ce BS BD Al Bc Ah Bg I Ac Ak ah Ca Cc Be Az Cf Ck BC;go_wp2_with (first|((with_reducible refine pO EA.o ?_ ?_);exact rfl));have kR:=Bi;refine nz nH 12 [some _,some _,some _,some _,some _,some _,none,some (.agg Cj.toArray),some (.agg AV.toArray),none,none,some _] (PI w.heap.size 268 33 B q d (cK mi ms) AV 9 10 (fun j v af=>j=6->∃ g,v = .slice (some ⟨g,0,none⟩) 1 1/\aM af g [.string J] 9 /\ some g≠bM B)) (nN BB w.heap.size 268 33 B q d (cK mi ms)) (o6 w.heap.size 268 33 B d (q+1) (cK mi ms++AV)) (nN.start EC.o) (fun j v w1 af ae h=>PI.keep (fun h e=>(by obtain⟨g,AU,AA,Aa⟩:=h e;exact⟨g,AU,(ae.1.block g AA.lt Aa).trans AA,Aa⟩)) ae h) ?_ (jI:=⟨rx,rx,rx,rx,rx,rx,rs ?_,rs ?_,rs ?_,rs ?_,rs ?_,rx,trivial⟩)
    rotate_left
    ·intro eQ u af aj aL K aR bz;refine Nv Aj (.string J) rfl rfl (by simp [Act.eval,aL,bz]) ?_;exact aR _ _ ⟨gq,gq,fun _ _ _=>⟨_,rfl,aM.new af [.string J] _,aj.JD⟩⟩ (aj.alloc _) (o6.alloc af _)
    ·intro eQ u af aj aL K aR bz;obtain⟨g7,Cm,EM,_⟩:=(show PI _ _ _ _ _ _ _ _ _ _ _ 6 _ _ from bz).2.2 dc dc rfl;go_simp;refine (EF.o af g7 (afh EM rfl)).mono ?_;rintro e aD ⟨rfl,ae⟩;exact aR _ _ rfl (aj.below ae) (aGj ae)
    ·intro eQ u af aj aL K aR bz;refine akN (.string P) (.agg Cj.toArray) _ EG.o rfl ⟨by simp [Act.eval,aL,bz],by simp [Act.eval,aL,bz]⟩ ?_;exact aR _ _ rfl aj (o6.refl _)
    ·intro eQ u af aj aL K aR bz;refine Nv aeg (.agg AV.toArray) E8 rfl (by simp [Act.eval,aL,bz]) ?_;exact aR _ _ ⟨fun _=>⟨_,rfl,aM.new af AV _,aj.JD⟩,gq,fun e=>absurd rfl e⟩ (aj.alloc _) (o6.alloc af _)
    ·intro eQ u af aj aL K aR bz;obtain⟨g9,EN,EO,Ew⟩:=(show PI _ _ _ _ _ _ _ _ _ _ _ 9 _ _ from bz.2.1).1 rfl;refine aGk aeg rfl aj.2 g9 EO Bf Cg E9 (aQG bf aj.1.size) underlying222 ⟨by simp [Act.eval,aL,bz.1],by simp [Act.eval,aL,EN]⟩ ?_;intro il c2 aD BF Co ES;exact aR _ _ ⟨gq,fun _=>⟨il,c2,rfl,BF⟩,fun _ e=>absurd rfl e⟩ ⟨F8 aj.1 Co.1,ES⟩ Co
    ·intro u af aj Ad;obtain⟨AB,AP,Cm,BF⟩:=(show PI w.heap.size 268 33 B q d (cK mi ms) AV 9 10 (fun j v af=>j=6->∃ g,v = .slice (some ⟨g,0,none⟩) 1 1/\aM af g [.string J] 9 /\ some g≠bM B) 10 (u 10) af from Ad 10 om).2.1 rfl;clear Ad;simp only [Cm];have Cr:=aa aj;have ET:=aa BF;have Ct:=Cr.o.row Bh.o.row (Bh.o.outs.ne Bh.o.row dc).symm;have BG:=aa Ct;have EU:(prog.info? 222).map (·.size)=some [Value.slice AB (q+1) AP].length:=kr;have hcs:(Value.slice AB (q+1) AP).cells.toList=[Value.slice AB (q+1) AP]:=rfl;have EX:33+[Value.slice AB (q+1) AP].length<=(gP ⟨k,o.reads,ms⟩ ⟨dh,bH,B,d⟩).length:=by rw [Eb];exact aQF 34
     have EY:∀ v∈[Value.slice AB (q+1) AP],v.oneCell'=true:=by simp;rfl
     have Cu:=aGn k o.reads ms (ms++[uV x]) dh bH B AB d AP (.slice AB (q+1) AP) (by rw [List.length_append,Bj.o];rfl);have Ea:=aa Cu;clear Ct Cu BF aj;go_wp2_with (first|((with_reducible refine Ux 33 _ BG.o hcs EU EX EY Ea.o ?_);refine zN ?_;intro cO Bb Ag));go_roundg (gk - 1);case rel=>exact⟨q+1,om,by go_num,AB,AP,by rw [EH.o];exact EK.o.next EL.o (by rw [Bj.o];exact Cr.o) (by rw [Bj.o,<- EJ.o];exact ET.o.1) Bb.o Ag.o Dk⟩
     case measure=>omega
   ·have E5:¬ (q:Int) < n:=om;have Cv:o.outs.take q=o.outs:=aRB (by rw [<- BP.o];omega);rw [Cv] at I;have D8:=fun (W:aRU) (h:PL w W g6 k o.reads (o.outs.map uV) ⟨dh,bH,B,d⟩)=>aff W (LH k o) ⟨dh,bH,B,d⟩ ⟨h.reads.rd,h.outs.rd⟩ Dh.o;have Am:=Pe (LH k o) ⟨dh,bH,B,d⟩;have DF:=M8 (LH k o) ⟨dh,bH,B,d⟩;have hlen:(gP (LH k o) ⟨dh,bH,B,d⟩).length=Gl.length:=by rw [Eb];rfl
    have BH:=I.row;rw [show (⟨k,o.reads,o.outs.map uV⟩:lS)=LH k o from rfl] at BH;have Ec:=aa (fun (W aY:aRU) (ae:Bl wr W) (Bn:fV (w.heap.size+1+1) W aY)=>show oQ aY w.heap.size (LH k o) ⟨dh,bH,B,d⟩/\Bl w aY from
     ⟨⟨gX (I.on ae).reads (I.on ae).res dc Bn,gX (I.on ae).outs (I.on ae).res dc Bn⟩,oO (I.on ae).low Bn om⟩);have Bp:=D8 wr I;obtain⟨BK,Bq⟩:=ai (gP (LH k o) ⟨dh,bH,B,d⟩);rw [<- Bq] at Bp Am DF hlen BH;have Bi:=aa Bp;have BG:=aa BH;have Ee:=aa I.res;have Ef:=aa Bq;have Ex:(BK.drop 0).take BK.length=BK:=by simp
    clear Bp BH Bq D8 I Cv CZ;go_wp2_with (first|(with_reducible refine kG BG.o underlying224 Am ?_)|(go_at_call 168; refine Bi.o.mono ?_;rintro e F3 ⟨rfl,Br⟩;have DI:=aa Br;have Ei:=aa (BG.o.all Br);clear Br)|(with_reducible refine kG Ei.o underlying224 Am ?_)|((with_reducible refine vF BK (Ee.o.all DI.o) Am hlen DF ?_);intro F4 Aq Ej));exact Eg Aq.o underlying224 rfl Am ⟨rfl,rfl,rfl⟩ ⟨⟨dh,bH,B,d⟩,by rw [Ef.o];rfl,Ec.o _ _ DI.o Ej.o⟩
def Vi (x:ak × ak) (ahead:ak) (first:Bool):Nat :=
 if eB x.1=false\/x.1=[111,117,116]\/yI x.1 [111,117,116]=true then 7
 else if first=false/\x.1=ahead then 8
 else if first=false/\x.1 < ahead then 2
 else if 65536 < x.2.length then 6 else 0
theorem aGu (w:aRU) (x:ak × ak) (ahead:ak) (first:Bool) (h1:x.1.length<=1000000) (ag:x.2.length<=1000000000) :
  CB 64 #[.agg (fI x).toArray,.string (aA ahead),.bool first] w (.int .i64 (Vi x ahead first)):=by
 obtain⟨p,d⟩:=x;simp only at h1 ag;show CB 64 #[.agg #[.string (aA p),.string (aA d)],.string (aA ahead),.bool first] w (.int .i64 (Vi (p,d) ahead first));obtain⟨P,Y,AP,Ae,H,hH,R,Af⟩:=nq4 (aA p) (aA d) (aA ahead) (Vi (p,d) ahead first);have Ag:AP.size=d.length:=by rw [Ae,iP]
 obtain⟨R3,Ah⟩:=ai d.length;rw [<- Ah] at Ag ag;obtain⟨Ak,Al,Am,Ao,fO,Ap,be,Aq,iO,Av⟩:=nq5 (eB p) (p == [111,117,116]) (yI p [111,117,116]) (p == ahead) (decide (p < ahead));have BD:=fun (W:aRU)=>O0 (v:=Ak) W P p (by rw [Y,iP];omega) (by rw [Y,gZ]) Al.symm;have Az:=fun (W:aRU)=>ai4 W P ⟨#[111,117,116]⟩ (by rw [Y,iP];omega) dc;rw [show (⟨#[111,117,116]⟩:ByteArray).data.toList=[111,117,116] from rfl,show P.data.toList=p by rw [Y,gZ],<- Ap] at Az;have BP:(P.toList == [111,117,116])=Am:=by rw [ByteArray.toList_eq,Y,gZ,Ao]
 have BR:(P.toList == H.toList)=be:=by rw [Y,hH,ByteArray.toList_eq,ByteArray.toList_eq,gZ,gZ,Aq]
 have BS:Op.bytesLess P.toList H.toList=iO:=by rw [Y,hH,apP,Av]
 have BF:R=if Ak=false\/Am=true\/fO=true then 7 else if first=false/\be=true then 8 else if first=false/\iO=true then 2 else if 65536 < R3 then 6 else 0:=by rw [Af,Vi,Al,Ao,Ap,Aq,Av,Ah];simp
 rw [<- Y,<- Ae,<- hH,<- Af];obtain⟨AX,AQ,BB⟩:=hq3 BF BD Az;obtain⟨aH,AZ⟩:=ai (w.alloc (.cells #[.string P,.string AP] 65));have BG:=gQ AZ;have Aa:=kY AZ;have AU:=aa BG;have Ac:=aa Aa;have J:=Aa.cell 0;have Ad:=Aa.cell 1;have BC:=aa Ag;have BU:=AZ.symm;clear BF BD Az Y Ae hH Af Ah Al Ao Ap Aq Av AZ BG Aa h1 Ag;have BN:CB 64 #[.agg #[.string P,.string AP],.string H,.bool first] w (.int .i64 R):=by
  cases Ak with
  | false =>
   go_enter func64,ntmps64;go_wp2_with (first|(go_at_call 43; refine (AQ.o _).mono ?_;rintro e bn ⟨rfl,I⟩;have AA:=aa (aU AU.o I);clear I));go_ret;exact⟨by rw [AX.o];rfl,AA.o⟩
  | true =>
   cases Am with
   | true =>
    go_enter func64,ntmps64;go_wp2_with (first|(go_at_call 43; refine (AQ.o _).mono ?_;rintro e bn ⟨rfl,I⟩;have AA:=aa (aU AU.o I);clear J;have J:=(Ac.o.all I).cell 0;clear I));go_ret;exact⟨by rw [AX.o];rfl,AA.o⟩
   | false =>
    cases fO with
    | true =>
     go_enter func64,ntmps64;go_wp2_with (first|(go_at_call 43; refine (AQ.o _).mono ?_;rintro e bn ⟨rfl,I⟩;have AA:=aa (aU AU.o I);clear J;have J:=(Ac.o.all I).cell 0;clear I)|(go_at_call 105; refine (BB.o _).mono ?_;rintro e BH ⟨rfl,M⟩;have AV:=aa (aU AA.o M);clear M));go_ret;exact⟨by rw [AX.o];rfl,AV.o⟩
    | false =>
     have BK:=aa (show R=if first=false/\be=true then 8 else if first=false/\iO=true then 2 else if 65536 < R3 then 6 else 0 by rw [AX.o];simp);have BX:(AP.size:Int)<=9223372036854775807:=by have:=BC.o;omega
     by_cases BL:65536 < R3
     ·have BO:(65536:Int) < AP.size:=by have:=BC.o;omega
      cases first <;> cases be <;> cases iO
      all_goals
       go_enter func64,ntmps64;go_wp2_with (first|(go_at_call 43; refine (AQ.o _).mono ?_;rintro e bn ⟨rfl,I⟩;have AA:=aa (aU AU.o I);have AB:=aa (Ac.o.all I);clear J;have J:=AB.o.cell 0;clear I)|(go_at_call 105; refine (BB.o _).mono ?_;rintro e BH ⟨rfl,M⟩;have AV:=aa (aU AA.o M);clear J Ad;have J:=(AB.o.all M).cell 0;have Ad:=(AB.o.all M).cell 1;clear M));go_ret;exact⟨by rw [BK.o];simp [BL],AV.o⟩
     ·have BO:¬ (65536:Int) < AP.size:=by have:=BC.o;omega
      cases first <;> cases be <;> cases iO
      all_goals
       go_enter func64,ntmps64;go_wp2_with (first|(go_at_call 43; refine (AQ.o _).mono ?_;rintro e bn ⟨rfl,I⟩;have AA:=aa (aU AU.o I);have AB:=aa (Ac.o.all I);clear J;have J:=AB.o.cell 0;clear I)|(go_at_call 105; refine (BB.o _).mono ?_;rintro e BH ⟨rfl,M⟩;have AV:=aa (aU AA.o M);clear J Ad;have J:=(AB.o.all M).cell 0;have Ad:=(AB.o.all M).cell 1;clear M));go_ret;exact⟨by rw [BK.o];simp [BL],AV.o⟩
 exact BN
def R4:List (ak × ak)->ak->Bool->Nat
 | [],_,_=>0
 | x :: l,a,f=>if Vi x a f=0 then R4 l x.1 false else Vi x a f
theorem aGw (w:aRU) (A:aRV) (c:Nat) (l:List (ak × ak)) (ax:Rd w 2 A l.length (cK fI l)) (hl:l.length<=1000) (hs:∀ x∈l,x.1.length<=1000000/\x.2.length<=1000000000) :
  CB 41 #[.slice A l.length c] w (.int .i64 (R4 l [] true)):=by
 obtain⟨n,AX,R,AZ⟩:=nq2 l.length (R4 l [] true);rw [<- AX] at ax hl |-;rw [<- AZ];obtain⟨AB,Av,Ae,Az⟩:=hq4 AX ax hs AZ;have BB:¬ (1024:Int) < n:=om;clear ax AX hs AZ;go_enter func41,ntmps41;go_wp2_with fail;clear BB;go_loopg [3,12] n (fun gk BC BD wr=>∃ k:Nat,k+gk=n/\BD = .int .i64 k/\Bl w wr/\∃ a:ak,BC = .string (aA a)/\R=R4 (l.drop k) a ((k:Int) == 0));case atStart=>exact⟨0,om,rfl,Below.refl _ _,[],rfl,Az.o⟩
 case round =>
  obtain⟨k,hk,rfl,AA,a,rfl,I⟩:=hrel;by_cases AP:k < n
  ·have BF:(k:Int) < n:=om;have BR:(0:Int)<=k:=om;obtain⟨x,ah⟩:∃ x,l[k]?=some x:=⟨_,aQI (by rw [<- AB.o];exact AP)⟩;obtain⟨BS,BU,rfl,AQ⟩:=vG (f:=fI) (k:=2) (fun _=>rfl) underlying65 rfl kr (Av.o.gz AA) ah AB.o.symm;have Af:=fun (W:aRU) (f:Bool)=>aGu W x a f (Ae.o x (aQK ah)).1 (Ae.o x (aQK ah)).2;have Ag:l.drop k=x :: l.drop (k+1):=by rw [List.drop_eq_getElem_cons (by rw [<- AB.o];exact AP),(List.getElem?_eq_some_iff.1 ah).2]
   rw [Ag,R4] at I;obtain⟨f,hf⟩:=ai ((k:Int) == 0);obtain⟨r,ax⟩:=ai (Vi x a f);rw [<- hf,<- ax] at I;have J:=fun (W:aRU)=>Af W f;rw [<- ax] at J;obtain⟨P,Aa,BG,Ah,H,hH⟩:=nq3 (aA x.1) (aA x.2) (aA a);simp only [fI] at AQ J;rw [<- Aa,<- Ah] at AQ J;rw [<- hH] at J |-;obtain⟨aH,AU⟩:=ai (wr.alloc (.cells #[.string P,.string BG] 65));have Ak:=gQ AU;have AV:=kY AU;have Al:=AV.cell 0;have BH:=AV.cell 1;obtain⟨Am,Ao,BK⟩:=hq3 AQ J AV;have Ap:=aa (aU AA Ak);have Aq:=aa I;have BL:=aa Aa;have BX:=hf.symm;have BZ:=AU.symm;clear AQ J Af Ag ah AV Ak AA I Aa Ah hH ax AU hf AP;by_cases M:r=0
   ·have BN:((r:Int) != 0)=false:=by rw [M];rfl
    have Ac:=aa M;clear M;go_wp2_with (first|((with_reducible refine pO Am.o ?_ ?_);exact rfl)|(go_at_call 64; refine (Ao.o _).mono ?_;rintro e bn ⟨rfl,Y⟩;have Ad:=aa (aU Ap.o Y);clear Al BH;have Al:=(BK.o.all Y).cell 0;clear Y));go_roundg (gk - 1);case rel=>exact⟨k+1,om,by go_num,Ad.o,x.1,by rw [BL.o],by rw [Aq.o,if_pos Ac.o];congr 1⟩
    case measure=>omega
   ·have BN:((r:Int) != 0)=true:=by simpa using M
    have Ac:=aa M;clear M;go_wp2_with (first|((with_reducible refine pO Am.o ?_ ?_);exact rfl)|(go_at_call 64; refine (Ao.o _).mono ?_;rintro e bn ⟨rfl,Y⟩;have Ad:=aa (aU Ap.o Y);clear Y));go_ret;exact⟨by rw [Aq.o,if_neg Ac.o];rfl,Ad.o⟩
  ·have BF:¬ (k:Int) < n:=om;have BO:=aa (show R=0 by rw [I,List.drop_of_length_le (by rw [<- AB.o];omega)];rfl);have BP:=aa AA;clear AP I AA;go_wp2_with fail;go_ret;exact⟨by rw [BO.o];rfl,BP.o⟩
structure Fair (a:lv):Prop where
 env:a.env.length<=200
 tool:a.tool.length<=100000
 ins:a.ins.length<=200
 asks:a.asks.length<=200
 outs:a.outs.length<=200
 Jd:∀ x∈a.ins,x.length<=1100000
 Cz:∀ x∈a.asks,x.length<=1100000
 AR:∀ x∈a.outs,x.length<=1100000
def PQ (XL wC:Nat) (afi afj afk R3:Bool):Nat:=if XL≠0 then XL else if wC=0\/afi=true\/afj=true\/afk=true then 1 else if R3=true then 0 else 8
theorem aGy {wC:Nat} {R3:Bool} (h:R3=false):PQ 0 wC false false false R3=if wC=0 then 1 else 8:=by subst h;simp [PQ]
def Ny (H:List fC) (a:lv):Nat:=PQ (pW eB a.tool).1 a.outs.length (a.outs.any fun x=>!yI x [111,117,116]) (a.ins.any fun x=>!eB x) (a.asks.any fun x=>!G5 x) (decide (H++a.outs).Nodup)
theorem atp {a:lv} (h:Ny H a=0):(H++a.outs).Nodup:=by
 unfold Ny PQ at h;split at h
 ·rename_i h1;exact absurd h h1
 ·split at h
  ·cases h
  ·split at h
   ·rename_i h1;simpa using h1
   ·cases h
theorem aGz {k:Nat} {x:fC} (ah:outs[k]?=some x) (h:x∈H++outs.take k):decide (H++outs).Nodup=false:=by
 simp only [decide_eq_false_iff_not];intro I;have e:H++outs=(H++outs.take k)++outs.drop k:=by rw [List.append_assoc,List.take_append_drop]
 rw [e,List.nodup_append] at I;exact I.2.2 x h x (aQK (i:=0) (by rw [List.getElem?_drop,Nat.add_zero];exact ah)) rfl
def PR (dI:aRU) (g n:Nat) (H outs:List fC) (R:Nat) (e:Ending) (w':aRU):Prop :=
 e = .returned (.int .i64 R)/\Bl dI w'/\(R=0->∃ M,M5 w' g (n+outs.length) M/\H6 M (H++outs))
theorem PR.no {dI:aRU} {n r:Nat} (e:R=r) (h:Bl dI w') (ax:r≠0):PR dI g n H outs R (.returned (.int .i64 r)) w':=⟨by rw [e],h,fun x=>absurd (e ▸ x) ax⟩
theorem PR.yes {dI:aRU} {n:Nat} (e:R=0) (h:Bl dI w') (ax:∃ M,M5 w' g (n+outs.length) M/\H6 M (H++outs)):PR dI g n H outs R (.returned (.int .i64 0)) w':=⟨by rw [e];rfl,h,fun _=>ax⟩
theorem aGA (dI w:aRU) (L:vw) (a:lv) (hA:KV dI L a) (hm:Fair a) (aj:qQ dI) (ae:Bl dI w) (g n:Nat) (M:fA Bool) (H:List fC) (av:dI.heap.size<=g) (kN:M5 w g n M) (hk:H6 M H) (aB:n<=1000000) (xm:H.Nodup) :
  Calls prog 65 #[.agg (nT L a),.map (some g)] w (PR dI g n H a.outs (Ny H a)):=by
 obtain⟨aH,AA⟩:=ai (w.alloc (.cells (nT L a) 45));have BN:Bl w aH:=by rw [AA];exact (Below.refl _ w).alloc (aQF _) _
 have AX:aH.heap[w.heap.size]?=some (.cells (nT L a) 45 (0,0)):=by rw [AA];exact aQM w _
 have Ca:aH.heap.size=w.heap.size+1:=by rw [AA];simp
 have BO:Bl dI aH:=aU ae BN;have BP:=fun (W:aRU) (e:W=aH)=>aDB W a.tool (by have:=hm.tool;omega) (by rw [e];exact aj.on BO);have wN:=fun W (h:Bl dI W)=>WM W L.O L.wN a.outs (hA.below h).outs (by have:=hm.outs;omega) 107 #[] (enters_of func107 kr rfl) (fun x=>!yI x [111,117,116]) fun aY _ x ah=>aCw aY x (by have:=hm.AR x ah;omega);have j6:=fun W (h:Bl dI W)=>WM W L.oK L.j6 a.ins (hA.below h).ins (by have:=hm.ins;omega) 108 #[] (enters_of func108 kr rfl) (fun x=>!eB x) fun aY _ x ah=>aCx aY x (by have:=hm.Jd x ah;omega);have eY:=fun W (h:Bl dI W)=>WM W L.A L.eY a.asks (hA.below h).asks (by have:=hm.asks;omega) 109 #[] (enters_of func109 kr rfl) (fun x=>!G5 x) fun aY J x ah=>aCy aY x (by have:=hm.Cz x ah;omega) ((aj.on h).on J);have Ac:=fun W (h:Bl dI W)=>(hA.below h).outs;have hlen:∀ x∈a.outs,x.length<=1100000:=hm.AR;have Cc:=hm.outs;have Ce:=hm.ins;have Cf:=hm.asks;unfold nT at AA AX |-;obtain⟨KT,nm,E,oK,A,O,Dc,Ad,Ae,Af⟩:=L;simp only at wN j6 eY Ac AA AX |-;obtain⟨outs,Av,T,Az,XL,BR,De,Ag,afi,BS,afj,BU⟩:=nq6 a.outs (aA a.tool) ((pW eB a.tool).1) ((pW eB a.tool).2) (a.outs.any fun x=>!yI x [111,117,116]) (a.ins.any fun x=>!eB x);obtain⟨afk,BX,Cb,BZ,JZ,Ah,J2,Ak,wC,AB,R,Bb⟩:=nq6 (a.asks.any fun x=>!G5 x) a.env.length a.ins.length a.asks.length a.outs.length (Ny H a);have CG:R=PQ XL wC afi afj afk (decide (H++outs).Nodup):=by rw [Bb,Ny,BR,AB,BS,BU,BX,Av]
 have BB:=aa CG;rw [<- Bb];rw [<- Az,<- BR,<- Ag] at BP;rw [<- BS,<- AB] at wN;rw [<- BU,<- Ah] at j6;rw [<- BX,<- Ak] at eY;rw [<- Az,<- BZ,<- Ah,<- Ak,<- AB] at AA AX;rw [<- Az,<- BZ,<- Ah,<- Ak,<- AB,<- Av];rw [<- AB] at Ac Cc;rw [<- Av] at Ac hlen AB;rw [<- Ah] at Ce;rw [<- Ak] at Cf;obtain⟨BC,CJ,CK,Cg,Cj,Ck,Cm,Co,Bc,Cr,Ct⟩:=hq11 AA BO BP wN j6 eY Ac hlen AB hk xm;have Cu:=aa (kN.below BN kN.lt);have Cv:=aa (show g < aH.heap.size by have:=kN.lt;omega);have Al:=aa (fun W (h:Bl aH W)=>(h.block w.heap.size om).trans AX);have c2:aH.cell? (ad w.heap.size 2)=some (.string T):=aQH aH _ 2 _ _ _ AX;clear CG Bb Av Az BR Ag BS BU BX BZ Ah Ak AB BP wN j6 eY Ac hlen hk xm kN AX BN Ca BO AA aj hm hA ae c2;by_cases Be:XL=0
 ·subst Be;by_cases AZ:wC=0;case' pos =>
   have D8:((wC:Int) == 0)=true:=by rw [AZ];rfl
   have BD:=aa AZ;clear AZ
  case' neg =>
   have D8:((wC:Int) == 0)=false:=by simpa using AZ
   have BD:=aa AZ;clear AZ;cases afi;case' false =>
    cases afj;case' false=>cases afk
  all_goals
   go_enter func65,ntmps65;go_wp2_with (first|(go_at_call 106; refine (CK.o _ BC.o.symm).mono ?_;rintro e af ⟨rfl,Y⟩;rw [<- BC.o] at Y;have Am:=aa (aU CJ.o Y);have CL:=aa Y;have J:=Al.o af Y;have ou:af.cell? (ad w.heap.size 4)=some (.slice oK JZ Ad):=aQH af _ 4 _ _ _ J;have AP:af.cell? (ad w.heap.size 5)=some (.slice A J2 Ae):=aQH af _ 5 _ _ _ J;have AQ:af.cell? (ad w.heap.size 6)=some (.slice O wC Af):=aQH af _ 6 _ _ _ J;clear Y J)|(go_at_call 111; refine (Cg.o _ Am.o).mono ?_;rintro e aD ⟨rfl,Bf⟩;have Bg:=aa (aU Am.o Bf);have CQ:=aa (aU CL.o Bf);have BF:=Al.o aD CQ.o;clear ou AP AQ;have ou:aD.cell? (ad w.heap.size 4)=some (.slice oK JZ Ad):=aQH aD _ 4 _ _ _ BF;have AP:aD.cell? (ad w.heap.size 5)=some (.slice A J2 Ae):=aQH aD _ 5 _ _ _ BF;have AQ:aD.cell? (ad w.heap.size 6)=some (.slice O wC Af):=aQH aD _ 6 _ _ _ BF;clear Bf BF)|(go_at_call 111; refine (Cj.o _ Bg.o).mono ?_;rintro e AU ⟨rfl,Bh⟩;have Bi:=aa (aU Bg.o Bh);have CS:=aa (aU CQ.o Bh);have BG:=Al.o AU CS.o;clear ou AP AQ;have ou:AU.cell? (ad w.heap.size 4)=some (.slice oK JZ Ad):=aQH AU _ 4 _ _ _ BG;have AP:AU.cell? (ad w.heap.size 5)=some (.slice A J2 Ae):=aQH AU _ 5 _ _ _ BG;have AQ:AU.cell? (ad w.heap.size 6)=some (.slice O wC Af):=aQH AU _ 6 _ _ _ BG;clear Bh BG)|(go_at_call 111; refine (Ck.o _ Bi.o).mono ?_;rintro e bn ⟨rfl,Bj⟩;have CU:=aa (aU Bi.o Bj);have CV:=aa (aU CS.o Bj);have BH:=Al.o bn CV.o;clear ou AP AQ;have ou:bn.cell? (ad w.heap.size 4)=some (.slice oK JZ Ad):=aQH bn _ 4 _ _ _ BH;have AP:bn.cell? (ad w.heap.size 5)=some (.slice A J2 Ae):=aQH bn _ 5 _ _ _ BH;have AQ:bn.cell? (ad w.heap.size 6)=some (.slice O wC Af):=aQH bn _ 6 _ _ _ BH;clear Bj BH))
  any_goals
   go_ret;exact PR.no (BB.o.trans (by simp [PQ,BD.o])) (by first | exact CU.o | exact Bi.o | exact Bg.o | exact Am.o) dc
  have DF:=aa (Cu.o.below CV.o Cv.o);clear ou AP AQ;go_loopw [11,46] (fun x Bn wr=>∃ k:Nat,k<=wC/\Bn = .int .i64 k/\Bl dI wr/\(H++outs.take k).Nodup/\∃ AV,M5 wr g (n+k) AV/\H6 AV (H++outs.take k)) (fun _ Bn _=>wC - (intOf Bn).toNat);case atStart=>exact⟨0,om,rfl,CU.o,by simpa using Ct.o,M,DF.o,by simpa using Cr.o⟩
  case round =>
   obtain⟨k,hk,rfl,Ao,Ap,AV,Aq,Aa⟩:=hrel;by_cases DI:k < wC
   ·have DJ:(k:Int) < wC:=om;have Dg:(0:Int)<=k:=om;obtain⟨x,ah⟩:∃ x,outs[k]?=some x:=⟨_,aQI (by rw [<- Bc.o];exact DI)⟩;have CW:outs.take (k+1)=outs.take k++[x]:=by rw [List.take_add_one,ah];rfl
    obtain⟨b,o,rfl,DN⟩:=KW (Cm.o wr Ao) ah;obtain⟨X,BK⟩:=ai (aA x);have Dh:X.size<=1100000:=by rw [BK,iP];exact Co.o x (aQK ah)
    have Bp:X.data.toList=x:=by rw [BK,gZ]
    rw [<- BK] at DN;have CX:=eU.look Aq aac underlying9 underlying147 false (arn wr) X mV;rw [Bp,Aa x] at CX;obtain⟨v,Bq⟩:=ai (decide (x∈H++outs.take k));rw [<- Bq] at CX;obtain⟨CY,DR,DT,CZ,BL,Br⟩:=hq6 Bq ah Bp CW Ao Ap;have Bt:=aa (show eU wr prog 9 Value.bool g (n+k) AV from Aq);have C8:=aa Aa;clear ah CW BK Bp Bq Ao Ap Aq Aa;cases v with
    | true =>
     go_wp2_with fail;go_ret;exact PR.no (BB.o.trans (by rw [aGy (aGz DR.o (by have:=CY.o;simpa using this))];simp [BD.o])) BL.o dc
    | false =>
     go_wp2_with (((with_reducible refine Zb Bt.o aac underlying9 underlying147 ?_ X ?_ true ?_ ?_);exact mV;exact mV;exact⟨rfl,rfl,rfl⟩;refine zN ?_;intro Di DU Db));go_roundw;case rel =>
      refine⟨k+1,om,by go_num,ajA BL.o Db.o av,?_,oI AV x true,?_,?_⟩
      ·rw [CZ.o,<- List.append_assoc];exact aDC Br.o (by have:=CY.o;simpa using this)
      ·have:=DU.o;rw [DT.o] at this;exact this
      ·rw [CZ.o,<- List.append_assoc];exact C8.o.put x
     case measure=>simp [intOf];omega
   ·have CF:k=wC:=om;have DJ:¬ (k:Int) < wC:=om;have Ag:outs.take k=outs:=by rw [CF,Bc.o,List.take_length]
    rw [Ag] at Ap Aa;have BL:=aa Ao;have Br:=aa Ap;have Bt:=aa (show M5 wr g (n+outs.length) AV by rw [<- Bc.o,<- CF];exact Aq);have C8:=aa Aa;clear Ag CF Ao Ap Aq Aa;go_wp2_with fail;go_ret;exact PR.yes (BB.o.trans (by simp [PQ,BD.o,Br.o])) BL.o ⟨AV,Bt.o,C8.o⟩
 ·have Dj:¬ (XL:Int)=0:=om;go_enter func65,ntmps65;go_wp2_with (first|(go_at_call 106; refine (CK.o _ BC.o.symm).mono ?_;rintro e af ⟨rfl,Y⟩;rw [<- BC.o] at Y;have Am:=aa (aU CJ.o Y);have CL:=aa Y;have J:=Al.o af Y;have ou:af.cell? (ad w.heap.size 4)=some (.slice oK JZ Ad):=aQH af _ 4 _ _ _ J;have AP:af.cell? (ad w.heap.size 5)=some (.slice A J2 Ae):=aQH af _ 5 _ _ _ J;have AQ:af.cell? (ad w.heap.size 6)=some (.slice O wC Af):=aQH af _ 6 _ _ _ J;clear Y J));go_ret;exact PR.no (BB.o.trans (by simp [PQ,Be])) Am.o Be
def Ff:List fC->List kH->Nat
 | _,[]=>0
 | H,x :: X=>if Ny H x.2=0 then Ff (H++x.2.outs) X else Ny H x.2
def aGH (dI:aRU) (R:Nat) (e:Ending) (w':aRU):Prop:=∃ i:Nat,e = .returned (.tuple #[.int .i64 R,.int .i64 i])/\Bl dI w'
def atr (dI:aRU) (g:Nat) (X:List kH) (k:Nat) (wr:aRU):Prop :=
 Bl dI wr/\Ff [] X=Ff (BM (X.take k)) (X.drop k)/\(BM (X.take k)).Nodup/\∃ m M,m<=200 * k/\M5 wr g m M/\H6 M (BM (X.take k))
theorem aGI (dI:aRU) (A:aRV) (c:Nat) (X:List kH) (aX:Rv dI A X) (hl:X.length<=10) (Gn:∀ x∈X,Fair x.2) (aj:qQ dI) :
  Calls prog 42 #[.slice A X.length c] dI (aGH dI (Ff [] X)):=by
 obtain⟨N,AZ,aH,AB⟩:=nq2 X.length (dI.alloc (.map #[] 0));have Am:Bl dI aH:=by rw [AB];exact (Below.refl _ dI).alloc (aQF _) _
 have Ao:atr dI dI.heap.size X 0 aH:=⟨Am,by simp [BM],by simp [BM],0,[],om,by rw [AB];exact eU.made dI prog 9 Value.bool,by simpa [BM] using H6.nil⟩;rw [<- AZ] at hl |-;obtain⟨Ap,Aa,Aq,BL,BN,BO⟩:=hq6 aX AZ Gn aj AB Ao;clear aX AZ Gn aj AB Am Ao;have BP:=@run_makeMap prog;have Bn:¬ (500:Int) < N:=om;go_enter func42,ntmps42;go_wp2_with fail;clear BP;rw [<- BN.o];go_loopw [5,6,7,14] (fun Bp Bq Br Ac wr=>∃ k:Nat,k<=N/\Ac = .int .i64 k/\atr dI dI.heap.size X k wr) (fun _ _ _ Ac _=>N - (intOf Ac).toNat);case atStart=>exact⟨0,om,rfl,BO.o⟩
 case round =>
  obtain⟨k,hk,rfl,BR⟩:=hrel;obtain⟨J,Y,Ad,m,M,hm,AP,Ae⟩:=BR;by_cases Av:k < N
  ·have BS:(k:Int) < N:=om;have Bt:(0:Int)<=k:=om;obtain⟨x,ah⟩:∃ x,X[k]?=some x:=⟨_,aQI (by rw [<- Aa.o];exact Av)⟩;have AQ:x∈X:=aQK ah;have Az:X.take (k+1)=X.take k++[x]:=by rw [List.take_add_one,ah];rfl
   obtain⟨b,o,rfl,Af⟩:=(Ap.o.below J).load ah;obtain⟨V,AA⟩:=ai (nT x.1 x.2);obtain⟨aY,AU⟩:=ai (wr.alloc (.cells V 45));have Ag:Bl wr aY:=by rw [AU];exact (Below.refl _ wr).alloc (aQF _) _
   have BB:Bl dI aY:=aU J Ag;have BC:M5 aY dI.heap.size m M:=AP.below Ag AP.lt;have AV:=aGA dI aY x.1 x.2 (Ap.o.each x AQ) (Aq.o x AQ) BL.o BB dI.heap.size m M (BM (X.take k)) (aQF _) BC Ae om Ad;have BD:(loadVar 45 ⟨wr.heap.size,0,none⟩).run prog aY = .ok (.agg V) aY:=by
    have BU:aY.heap[wr.heap.size]?=some (.cells V 45 (0,0)):=by rw [AU];exact aQM wr _
    have:=aad (P:=prog) (w:=aY) 45 wr.heap.size 0 (nT x.1 x.2).toList (fun j v aC=>by
     rw [cell_of_row aY _ _ _ _ _ BU,AA,Nat.zero_add];simpa using aC) _ underlying45 rfl (by rw [Pb];exact adK);rw [AA];simpa using this
   obtain⟨r,I⟩:=ai (Ny (BM (X.take k)) x.2);have Ah:=aa I.symm;rw [<- AA] at Af AV;rw [<- I] at AV;clear I;obtain⟨BX,BZ,Bb,Bc,Be,Ak,AX⟩:=hq7 AA AU AV Af BD Az Y;have BF:=aa (show X.drop k=x :: X.drop (k+1) by rw [List.drop_eq_getElem_cons (by rw [<- Aa.o];exact Av),(List.getElem?_eq_some_iff.1 ah).2]);have Bf:=aa (Aq.o x AQ).outs;clear ah AQ Az AA AU Ag BB BC AV Af BD J Y Ad AP Ae;go_wp2_with (first|((with_reducible refine pO Bc.o ?_ ?_);exact rfl)|((with_reducible refine aDE V _ _ BX.o ?_ ?_);exact⟨rfl,rfl⟩;rw [<- BZ.o])|((with_reducible refine pO Be.o ?_ ?_);exact rfl)|(go_at_call 65; refine GY Bb.o ?_;intro aD BG Bg))
   ·rename_i Al;go_ret2;exact⟨k,by rw [show Ff [] X=r by rw [AX.o,BF.o,Ff,Ah.o,if_neg (by rintro rfl;exact absurd Al dc)]];rfl,BG.o⟩
   ·rename_i Al;have I:r=0:=by
     have:((r:Int) == 0)=true:=by simpa using Al
     simpa using this
    obtain⟨M2,Bh,Bi⟩:=Bg.o I;refine⟨⟨k+1,om,by go_num,BG.o,?_,?_,m+x.2.outs.length,M2,?_,Bh,?_⟩,by simp [intOf];omega⟩
    ·rw [AX.o,BF.o,Ff,Ah.o,if_pos I,Ak.o,ajB]
    ·rw [Ak.o,ajB];exact atp (Ah.o.trans I)
    ·have:=Bf.o;omega
    ·rw [Ak.o,ajB];exact Bi
  ·have BH:k=N:=om;have BS:¬ (k:Int) < N:=om;have BK:X.drop k=[]:=by rw [BH,Aa.o,List.drop_length]
   rw [BK] at Y;have Bj:=aa J;have AX:=aa Y;clear BK BH J Y Ad AP Ae;go_wp2_with fail;go_ret2;exact⟨0,by rw [show Ff [] X=0 from AX.o];rfl,Bj.o⟩
structure x8 where
 A:Option Addr
 c:Nat
 B:Option Addr
 d:Nat
 C:Option Addr
 e:Nat
structure jE where
 files:List (ak × ak)
 dA:List kH
 fP:List ak
def qy (k:jE) (L:x8) (keep:Bool):List Value:=[.slice L.A k.files.length L.c,.slice L.B k.dA.length L.d,.slice L.C k.fP.length L.e,.bool keep]
structure wY (W:aRU) (k:jE) (L:x8):Prop where
 files:Rd W 2 L.A k.files.length (cK fI k.files)
 dA:Rv W L.B k.dA
 fP:Rd W 1 L.C k.fP.length (cB k.fP)
theorem wY.all {k:jE} {L:x8} (h:wY W k L) (ae:Bl W W'):wY W' k L:=⟨h.files.gz ae,h.dA.below ae,h.fP.gz ae⟩
structure Vp (k:jE):Prop where
 ku:k.files.length<=1000
 Nz:∀ x∈k.files,x.1.length<=1000000/\x.2.length<=1000000000
 nZ:k.dA.length<=10
 fair:∀ x∈k.dA,Fair x.2
 mI:k.fP.length<=100
 Vq:∀ x∈k.fP,x.length<=1100000
def qb (k:jE):Nat:=if R4 k.files [] true≠0 then R4 k.files [] true else if Ff [] k.dA≠0 then Ff [] k.dA else if k.fP.all eB then 0 else 1
theorem aa7 (w:aRU) (k:jE) (L:x8) (keep:Bool) (hA:wY w k L) (hk:Vp k) (aj:qQ w) :
  CB 21 #[.agg (qy k L keep).toArray] w (.int .i64 (qb k)):=by
 obtain⟨BK,BL,BN,BO,Be,Bf⟩:=L;obtain⟨n,Ad,nZ,Ae,ku,Af⟩:=nq3 k.fP.length k.dA.length k.files.length;have Ag:=fun W (h:Bl w W)=>aGw W BK BL k.files (hA.all h).files hk.ku hk.Nz;have Ah:=fun W (h:Bl w W)=>aGI W BN BO k.dA (hA.all h).dA hk.nZ hk.fair (aj.on h);obtain⟨R,Ak,M,Al,Y,Am⟩:=nq3 (qb k) (R4 k.files [] true) (Ff [] k.dA);have BP:R=if M≠0 then M else if Y≠0 then Y else if k.fP.all eB then 0 else 1:=by rw [Ak,qb,Al,Am]
 rw [<- Al,<- Af] at Ag;rw [<- Am,<- Ae] at Ah;rw [qy];simp only;rw [<- Ad,<- Ae,<- Af,<- Ak];obtain⟨aH,AV⟩:=ai (w.alloc (.cells #[.slice BK ku BL,.slice BN nZ BO,.slice Be n Bf,.bool keep] 26));have Ao:=gQ AV;have Ap:=kY AV;have BR:=Ap.cell 0;have Aq:=aa Ao;have BS:=aa Ap;have Av:=aa (Ag aH Ao);obtain⟨BU,Az,BX⟩:=hq3 Ah BP Ad;have Bg:=aa (fun W (h:Bl w W)=>(hA.all h).fP);have Bh:=aa hk.Vq;have CG:n<=100:=by have:=hk.mI;omega
 have BZ:=AV.symm;clear hA hk aj Ag Ah Ak Al Am BP Ao Ap AV Ad Ae Af;by_cases h1:M=0
 ·have Bi:((M:Int) != 0)=false:=by rw [h1];rfl
  by_cases AA:Y=0
  ·have Bj:((Y:Int) != 0)=false:=by rw [AA];rfl
   have AB:=aa (show R=if k.fP.all eB then 0 else 1 by rw [Az.o,if_neg (by simp [h1]),if_neg (by simp [AA])]);clear h1 AA;go_enter func21,ntmps21;go_wp2_with (first|(go_at_call 41; refine Av.o.mono ?_;rintro e bn ⟨rfl,I⟩;have J:=aa (aU Aq.o I);have AX:=aa (BS.o.all I);clear BR;have c1:=AX.o.cell 1;clear I BZ)|(go_at_call 42; refine (BU.o _ J.o).mono ?_;rintro e Bn ⟨ii,rfl,AP⟩;have BB:=aa (aU J.o AP);clear c1;have c2:=(AX.o.all AP).cell 2;clear AP));go_loopg [30] n (fun gk Bp wr=>∃ j:Nat,j+gk=n/\Bp = .int .i64 j/\Bl w wr/\(k.fP.take j).all eB=true);case atStart=>exact⟨0,om,rfl,BB.o,rfl⟩
   case round =>
    obtain⟨j,aC,rfl,AQ,AU⟩:=hrel;by_cases BC:j < n
    ·have Bq:(j:Int) < n:=om;have CJ:(0:Int)<=j:=om;obtain⟨x,ah⟩:∃ x,k.fP[j]?=some x:=⟨_,aQI (by rw [<- BX.o];exact BC)⟩;obtain⟨CK,CL,rfl,Br⟩:=KW (Bg.o wr AQ) ah;have BD:=aQK ah;have BF:(k.fP.take (j+1)).all eB=((k.fP.take j).all eB && eB x):=by rw [List.take_add_one,ah];simp
     obtain⟨BG,AZ,P,Aa⟩:=nq2 (eB x) (aA x);have Bb:=fun (W:aRU)=>O0 (v:=BG) W P x (by rw [Aa,iP];exact Bh.o x BD) (by rw [Aa,gZ]) AZ.symm;rw [<- Aa] at Br;rw [AU,<- AZ,Bool.true_and] at BF;obtain⟨Bc,Bt,Ac⟩:=hq3 Bb BF AQ;have C8:=aa (fun (h:BG=false)=>show k.fP.all eB=false by
      rw [List.all_eq_false];exact⟨x,BD,by rw [<- AZ,h];decide⟩);clear Bb BF AQ AU BD AZ Aa ah BC;cases BG with
     | true =>
      go_wp2_with (first|(go_at_call 43; refine (Bc.o _).mono ?_;rintro e bn ⟨rfl,I⟩;have BH:=aa (aU Ac.o I);clear I));go_roundg (gk - 1);case rel=>exact⟨j+1,om,by go_num,BH.o,Bt.o⟩
      case measure=>omega
     | false =>
      go_wp2_with (first|(go_at_call 43; refine (Bc.o _).mono ?_;rintro e bn ⟨rfl,I⟩;have BH:=aa (aU Ac.o I);clear I));go_ret;exact⟨by rw [AB.o,C8.o (by trivial)];rfl,BH.o⟩
    ·have Bq:¬ (j:Int) < n:=om;have CF:=aa (show k.fP.all eB=true by rw [List.take_of_length_le (by rw [<- BX.o];omega)] at AU;exact AU);have Ac:=aa AQ;clear AU AQ BC;go_wp2_with fail;go_ret;exact⟨by rw [AB.o,CF.o];rfl,Ac.o⟩
  ·have Bj:((Y:Int) != 0)=true:=by simpa using AA
   have AB:=aa (show R=Y by rw [Az.o,if_neg (by simp [h1]),if_pos AA]);clear h1 AA;go_enter func21,ntmps21;go_wp2_with (first|(go_at_call 41; refine Av.o.mono ?_;rintro e bn ⟨rfl,I⟩;have J:=aa (aU Aq.o I);have AX:=aa (BS.o.all I);clear BR;have c1:=AX.o.cell 1;clear I BZ)|(go_at_call 42; refine (BU.o _ J.o).mono ?_;rintro e Bn ⟨ii,rfl,AP⟩;have BB:=aa (aU J.o AP);clear AP));go_ret;exact⟨by rw [AB.o];rfl,BB.o⟩
 ·have Bi:((M:Int) != 0)=true:=by simpa using h1
  have AB:=aa (show R=M by rw [Az.o,if_pos h1]);clear h1;go_enter func21,ntmps21;go_wp2_with (first|(go_at_call 41; refine Av.o.mono ?_;rintro e bn ⟨rfl,I⟩;have J:=aa (aU Aq.o I);clear I));go_ret;exact⟨by rw [AB.o];rfl,J.o⟩
end
section
open Go.ChangeMaps Go.MapKept Go.Maps Go.RowKit Go.Shelf Go.WideAt Go.WideMaps
def wD:List ak->List ak->Bool
 | [],ns=>ns.isEmpty
 | q :: ps,ns =>
  if q≠[42,42] then (match ns with
   | []=>false
   | x :: xs=>Ut q x && wD ps xs)
  else if ps.isEmpty then !ns.isEmpty
  else wD ps ns || (match ns with
   | []=>false
   | _ :: xs=>wD (q :: ps) xs)
termination_by ps ns=>ps.length+ns.length
def PW (p s:ak):Bool:=G5 p && eB s && wD (jl (· == 47) p) (jl (· == 47) s)
def XM (i k:Nat):Value:=.agg #[.int .i64 i,.int .i64 k]
def Fg (i k:Nat):List UInt8:=keyBytes [.int .i64 i,.int .i64 k]
theorem R8:ArrKey prog 330 3 2:=⟨underlying330,kr,kr,kr⟩
theorem aa8:Keyed prog 330:=Keyed.of_law R8.law
theorem XN {i:Nat} (h:i<=1000):(Lit.int .i64 (i:Int)).wf=true:=by simp [Lit.wf,IntKind.min,IntKind.max,IntKind.signed,IntKind.bits];omega
theorem keyOf_pair {i k:Nat} (ay:i<=1000) (hk:k<=1000):keyOf prog 330 (XM i k)=some (.string (Fg i k)):=by have I:∃ m,prog.types.size=m+1:=⟨prog.types.size - 1,kr⟩;have J:=R8.keyType I;obtain⟨m,hm⟩:=I;unfold keyOf;simp only [R8.hu];rw [if_pos (by simp [J,Value.formed,XM,R8.hu,R8.size]),hm];unfold Program.keyLits;simp only [R8.hu];rw [if_pos (by rw [R8.size];rfl)];simp [XM,Value.cells,R8.one,List.range,List.range.loop,Program.keyLits,underlying3,XN ay,XN hk,Fg]
end
end Go.Proofs.YtjkinjbkknanbaaGreatDoor
