/- Pj -/
import Derived.Test.YtjkinjbkknanbaaGreatDoorPi
set_option maxRecDepth 100000
set_option maxHeartbeats 8000000
set_option linter.unusedSimpArgs false
set_option linter.unusedVariables false
namespace Go.Proofs.YtjkinjbkknanbaaGreatDoor
open Go.Proofs.Tryz
variable {c:dL}
variable {w af w':aRB}
variable {σ σ':bI}
variable {aW U:aRG}
variable {aI fB:aRI}
variable {i b j q g:Nat}
variable {v:Value}
variable {x:iP}
variable {α:Type}
variable {p:ak}
variable {Z:aRD}
variable {ty t:TypeId}
section
open Go.Maps Go.RowKit Go.Shelf
def aga (c:dL) (w:aRB) (U:aRG) (σ:bI) (aW:aRG) (aI:aRI) (i:Nat) (e:Ending) (w':aRB):Prop :=
 ∃ o L σ' tk' fB,e = .returned (.agg (jm o L).toArray)/\nC w' c.l.T o L/\Step c w U σ aW aI w' σ' tk' fB/\σ'.begun i=true/\(o=bE c.W i\/i∈U/\o=⟨3,0,[],[]⟩)/\(σ.begun i=true->σ'=σ/\tk'=aW/\fB=aI/\Bl w w')
theorem avV (h:wB c w σ aW aI) (ay:i < c.n):w.cell? (ad c.l.zH i)=some (.bool (σ.begun i)):=by rw [h.begun.cell i,yu,List.getElem?_map,List.getElem?_range ay];rfl
theorem avW {OL:Nat->lK} (ay:i < c.n):((uV σ OL c.n).drop (i * 4)).take (uU (σ.got i) (OL i)).length=uU (σ.got i) (OL i):=by
 apply List.ext_getElem?;intro j;rw [List.getElem?_take];by_cases aD:j < (uU (σ.got i) (OL i)).length
 ·rw [if_pos aD,List.getElem?_drop];obtain⟨v,I⟩:∃ v,(uU (σ.got i) (OL i))[j]?=some v:=⟨_,aQp aD⟩;rw [I];exact KR (f:=fun i=>uU (σ.got i) (OL i)) (fun i=>SL _ _) (aRo ay) j v I
 ·rw [if_neg aD,List.getElem?_eq_none om]
theorem avX (hc:c.Ok) (hs:j6 c w U σ aW aI) (fC:i < c.n) (ae:σ.begun i=true) :
  Calls prog 46 #[pp c.l.X 0,.int .i64 i] w (aga c w U σ aW aI i):=by
 obtain⟨aF,Y⟩:=ai (w.alloc (.cells iG.toArray 63));have AV:=gQ Y;have Ab:=lH Y;have I:=hs.all hc AV;have Ad:=hs.fG.size;obtain⟨X,AJ,zH,AZ,jA,A7,dY,AL⟩:=nq4 c.l.X c.l.zH c.l.jA c.n;have BL:aF.cell? (ad X 5)=some (.slice (some ⟨zH,0,none⟩) dY dY):=by rw [AJ,AZ,AL];exact (I.fG.cells).2.2.2.1
 have BM:aF.cell? (ad X 6)=some (.slice (some ⟨jA,0,none⟩) dY dY):=by rw [AJ,A7,AL];exact (I.fG.cells).2.2.2.2
 have BO:aF.cell? (ad zH i)=some (.bool true):=by rw [AZ,avV I.fG fC,ae]
 have BP:(i:Int) < dY:=by rw [AL];omega
 have BQ:(0:Int)<=i:=om;obtain⟨OL,J,Ae⟩:=I.fG.outs;obtain⟨Am,AA,Ao,Ap⟩:=hq4 I Ab AV Ad;rw [<- AJ];rw [show iG.toArray=#[.int .i64 0,.int .i64 0,.slice none 0 0,.slice none 0 0] from rfl] at Y;have BX:=Y.symm;cases ax:σ.got i with
 | none =>
  have BF:aF.cell? ⟨jA,i * 4,none⟩=some (.int .i64 0):=by rw [A7,J.cell (i * 4)];have:=KR (f:=fun i=>uU (σ.got i) (OL i)) (fun i=>SL _ _) (aRo fC) 0 (.int .i64 0) (by simp only [ax];rfl);exact this
  have BG:i∈U:=(hs.inv.under i).2 ⟨ae,ax⟩;clear Y AJ AZ A7 AL I Ab AV J Ae Ad hs;go_enter func46,ntmps46;have Aa:([.int .i64 3,.int .i64 0,.slice none 0 0,.slice none 0 0]:aRD).length=iG.length:=rfl;have AB:(prog.info? 63).map (·.size)=some ([.int .i64 3,.int .i64 0,.slice none 0 0,.slice none 0 0]:aRD).length:=kr;have Af:∀ v∈([.int .i64 3,.int .i64 0,.slice none 0 0,.slice none 0 0]:aRD),v.oneCell'=true:=by simp [Value.oneCell']
  go_wp2_with (first
   | ((with_reducible refine vC [.int .i64 3,.int .i64 0,.slice none 0 0,.slice none 0 0] AA.o AB Aa Af ?_);intro aC Ag M)
   | fail)
  refine D9 Ag.o underlying63 rfl AB ⟨rfl,rfl,rfl⟩ ?_;have AO:=oF Ao.o M.o (aQm _);exact⟨⟨3,0,[],[]⟩,⟨none,0,none,0⟩,σ,aW,aI,rfl,⟨Own.nil _ _ _ _,Own.nil _ _ _ _⟩,⟨Am.o.dK hc AA.o (jW.ug M.o) Ap.o dc,kY.gT AO,JX.refl _ _,fun _ h=>.inl h⟩,ae,.inr ⟨BG,rfl⟩,fun _=>⟨rfl,rfl,rfl,AO⟩⟩
 | some o =>
  have BH:o=bE c.W i:=(hs.inv.right i o ax).1;subst BH;obtain⟨L,Ah⟩:=ai (OL i);obtain⟨Ai,Aq⟩:=Ae i _ ax;rw [<- Ah] at Ai Aq;obtain⟨dh,AP⟩:=ai (jm (bE c.W i) L);have Ak:=avW (σ:=σ) (OL:=OL) fC;rw [ax,<- Ah,show uU (some (bE c.W i)) L=dh from AP.symm] at Ak;obtain⟨Al,Au⟩:∃ k:Int,k=(bE c.W i).kind:=⟨_,rfl⟩;have BI:Al≠0:=by
   rcases Vn hc.work.small i with h | ⟨h | h,_⟩
   ·have Aw:(bE c.W i).kind=1:=h;omega
   ·have Aw:(bE c.W i).kind=2:=h;omega
   ·have Aw:(bE c.W i).kind=3:=h;omega
  have Bb:(Al == 0)=false:=by simpa using BI
  have BF:aF.cell? ⟨jA,i * 4,none⟩=some (.int .i64 Al):=by rw [A7,J.cell (i * 4),Au];have:=KR (f:=fun i=>uU (σ.got i) (OL i)) (fun i=>SL _ _) (aRo fC) 0 (.int .i64 (bE c.W i).kind) (by simp only [ax];rfl);exact this
  obtain⟨Bc,Ay⟩:=ai (uV σ OL c.n);rw [<- Ay] at J Ak;rw [<- A7] at J;have Aa:dh.length=iG.length:=by rw [AP];rfl
  have AB:Sz 63 dh.length:=by rw [Aa];exact kr
  have Af:∀ v∈dh,v.oneCell'=true:=by rw [AP];simp [jm,Value.oneCell']
  obtain⟨Az,BJ,BK⟩:=hq3 Ai AP J;clear Y AJ AZ A7 AL I Ab AV J Ae Ad hs Ah Ai Aq AP Au Ay;go_enter func46,ntmps46;go_wp2_with (first
   | (with_reducible refine O4 (i * 4) dh BK.o Ak underlying63 AB ?_)
   | ((with_reducible refine vC dh AA.o AB Aa Af ?_);intro aC Ag M))
  refine D9 Ag.o underlying63 rfl AB ⟨rfl,rfl,rfl⟩ ?_;have AO:=oF Ao.o M.o (aQm _);rw [BJ.o];exact⟨bE c.W i,L,σ,aW,aI,rfl,⟨iJ Az.o.outs AA.o dc M.o,iJ Az.o.reads AA.o dc M.o⟩,⟨Am.o.dK hc AA.o (jW.ug M.o) Ap.o dc,kY.gT AO,JX.refl _ _,fun _ h=>.inl h⟩,ae,.inl rfl,fun _=>⟨rfl,rfl,rfl,AO⟩⟩
def Qn (GM:Value->World->Prop) (W:aRB) (L:Nat->Bool) (u:Nat->Value) (af:aRB):Prop:=(L 7=false->Bl W af)/\(L 7=true->GM (u 7) af)
theorem Qn.plain {GM:Value->World->Prop} {W:aRB} {L:Nat->Bool} {u:Nat->Value} (h:Qn GM W L u af) (h1:7≠i):Qn GM W (GD L i) (oM u i v) af:=⟨fun I=>h.1 (by rwa [xF h1] at I),fun I=>by rw [NJ h1];exact h.2 (by rwa [xF h1] at I)⟩
theorem Qn.call {GM:Value->World->Prop} {W:aRB} {L:Nat->Bool} {u:Nat->Value} (h:GM v af):Qn GM W (GD L 7) (oM u 7 v) af:=⟨fun I=>(by rw [abq] at I;cases I),fun _=>by rw [afM];exact h⟩
theorem NN.low {bu:Nat} {KA:aRC} {e:Ending} (ae:Bl w af) (h:NN c bu KA i af U σ aW aI e w'):NN c bu KA i w U σ aW aI e w':=by obtain⟨σ',tk',fB,L,M,Y,A7,AA,AB,AJ,AL,AO⟩:=h;exact⟨σ',tk',fB,L,M,Y,fun q I=>aQn ae.size (A7 q I),AA,(l7.GG (kY.gT ae)).trans AB (fun _ _ h=>h),AJ,fun q I=>(AL q I).imp_right fun h=>aQn ae.size h,AO⟩
theorem aJ8 (hc:c.Ok) {m:Nat} (iL:NI c m) {us:aRG} (hs:j6 c w (i :: us) σ aW aI) (hm:rZ σ c.n<=m) {l:LJ} (ah:c.k.bZ[i]?=some x) (aD:Cr c w l i x []) (ay:i ∉ σ.dZ++aW) :
  Calls prog 73 #[pp l.bu 0] w (NN c l.bu l.KA i w (i :: us) σ aW aI):=by
 cases I:σ.bG i with
 | false=>exact aJz hc iL hs hm ah aD ay I
 | true=>exact aJQ hc iL hs hm ah aD ay I
theorem aJ9 (p:aRC) (i:Int) (L:vv) (a:kI):prog.built 158 [(0,.pointer p),(1,.int .i64 i),(2,.agg (vF (L,a)).toArray)]=some (([.pointer p,.int .i64 i]++vF (L,a)++[.slice none 0 0,.slice none 0 0]:aRD).toArray):=kr
theorem aKa (hc:c.Ok) (hs:j6 c w U σ aW aI) (fC:i < c.n) (ae:σ.begun i=false) (av:yM c.W c.dN i) (hf:∀ x∈U,xM c.W x i) (iL:∀ k,rZ σ c.n=k+1->NI c k) :
  Calls prog 46 #[pp c.l.X 0,.int .i64 i] w (aga c w U σ aW aI i):=by
 obtain⟨x,ah,_,_⟩:=ND c fC;obtain⟨m,hm⟩:∃ m,rZ σ c.n=m+1:=⟨rZ σ c.n - 1,by have:=abo fC ae;omega⟩;have iL:=iL m hm;have DY:rZ (σ.push i) c.n<=m:=by have:=abo fC ae;omega
 have DZ:i ∉ U:=fun h=>by have:=((hs.inv.under i).1 h).1;rw [ae] at this;cases this
 have Da:i ∉ (σ.push i).dZ++aW:=fun h=>by have:=hs.log.begun i h;rw [ae] at this;cases this
 obtain⟨aF,Ad⟩:=ai (w.alloc (.cells iG.toArray 63));have Bc:=gQ Ad;have CV:=lH Ad;have AL:=hs.all hc Bc;have bY:=hs.fG.size;obtain⟨X,AO,zH,AP,jA,CW,dY,Ae⟩:=nq4 c.l.X c.l.zH c.l.jA c.n;have Db:aF.cell? (ad X 5)=some (.slice (some ⟨zH,0,none⟩) dY dY):=by rw [AO,AP,Ae];exact (AL.fG.cells).2.2.2.1
 have Dc:aF.cell? (ad zH i)=some (.bool false):=by rw [AP,avV AL.fG fC,ae]
 have F5:(i:Int) < dY:=by rw [Ae];omega
 have F6:(0:Int)<=i:=om;obtain⟨b,o,Bd,_⟩:=(AL.fG.work aF (fun _ _ _=>rfl)).bZ.load ah;obtain⟨De,CZ,Bf,Bi,Bn,Bo⟩:=nq3 c.l.cK.d (vF x) (NF c ⟨w.heap.size,none,0⟩ i x 0);have Df:=aa (show prog.built 158 [(0,.pointer (some ⟨X,0,none⟩)),(1,.int .i64 i),(2,.agg Bf.toArray)]=some Bn.toArray by
  rw [Bi,Bo,AO];exact aJ9 _ _ x.1 x.2)
 obtain⟨Bp,Am⟩:=ai (yu σ c.n);have Ca:=aa (show aM aF zH Bp 4 by rw [AP,Am];exact AL.fG.begun);have Dg:i+1<=Bp.length:=by rw [Am];simp [yu];omega
 have Dh:Sz 4 1:=kr;obtain⟨Dk,Bq⟩:=ai (Bp.set i (.bool true));have Dl:=aa (fun (af:aRB) (Af:aM af zH Dk 4) (Ag:fU zH aF af)=>show j6 c af (i :: U) (σ.push i) aW aI from by
  rw [Bq,Am] at Af;subst AP;exact AL.amj hc fC ae av hf Af Ag)
 have Dm:=aa (fun (af:aRB) (ag:j6 c af (i :: U) (σ.push i) aW aI)=>show af.cell? (ad X 1)=some (.slice (some ⟨b,o,none⟩) dY De)/\(loadVar 45 ⟨b,o+i * 7,none⟩).run prog af = .ok (.agg Bf.toArray) af from by
  have Dp:=(ag.fG.work af (fun _ _ _=>rfl)).bZ;obtain⟨FB,FD,Cb,Ah⟩:=Dp.load ah;rw [Bd] at Cb;cases Cb;refine⟨?_,?_⟩
  ·rw [AO,(ag.fG.cells).2.1,Bd,Ae,CZ];rfl
  ·rw [Bi];exact Ah)
 obtain⟨Dq,Ce,Ao,Br,I,Bt,Cf,Dr,Dt⟩:=hq9 CV Bc bY AO CW AP Ae Bo hs;rw [<- AO];rw [show iG.toArray=#[.int .i64 0,.int .i64 0,.slice none 0 0,.slice none 0 0] from rfl] at Ad;have FE:=Ad.symm;have Bu:=Bq.symm;clear Ad AO AP CW Ae AL CV Bc bY hs Bd CZ Bi Bo Am Bq;go_enter func46,ntmps46;go_upto_region 4 with (first
  | ((with_reducible refine BU i (.bool true) Ca.o Dh Dg rfl Bu ?_);intro af Af Ag;have Bv:=aa (Dl.o af Af Ag);obtain⟨FF,Cg⟩:=Dm.o af Bv.o;have Dx:=aa Cg;have Bw:=aa Ag;clear Af Ag Cg Db Dc)
  | ((with_reducible refine pY Dx.o ?_ ?_);exact rfl)
  | ((with_reducible refine Re (pp X 0) (.int .i64 i) (.agg Bf.toArray) _ Df.o ?_ ?_);exact⟨rfl,rfl,rfl⟩))
 obtain⟨aC,Ap⟩:=ai (af.alloc (.cells Bn.toArray 158));try rw [<- Ap]
 obtain⟨bu,Ai⟩:=ai af.heap.size;try rw [<- Ai]
 have Aq:=gQ Ap;have Ci:=aa (Bv.o.all hc Aq);have Dy:=aa (show c.l.T<=bu by rw [Ai];exact Bv.o.fG.size);have C8:=aa (show Cr c aC ⟨bu,none,0⟩ i x [] from ⟨by
  show aM aC bu (NF c ⟨bu,none,0⟩ i x 0) 158;rw [Ap,Ai];have:=aM.new af Bn 158;rw [Dr.o] at this |-;exact this,Dy.o,Own.nil _ _ _ _⟩)
 have Ck:=aa (show Cq c.l w aC from ((kY.gT Ce.o).trans (kY.ald Bw.o (by rw [Bt.o];exact .inr (.inl rfl)) (by rw [Bt.o];exact (hc.low _ (.inr (.inl rfl))).2) Ca.o dc)).trans (kY.gT Aq));have Dz:=aa (show aM aC w.heap.size iG 63 from (Dq.o.dK Bw.o (by have:=(hc.low _ (.inr (.inl rfl))).2;have:=Ao.o;have:=Bt.o;omega)).all Aq);have E8:=aa (show w.heap.size<=bu by rw [Ai,Bw.o.2.2.2.1];exact Ce.o.size);obtain⟨GM,Au⟩:∃ GM:Value->World->Prop,GM=fun v w'=>NN c bu none i aC (i :: U) (σ.push i) aW aI (.returned v) w':=⟨_,rfl⟩;have E9:=aa (fun (u:Nat->Value)=>show Qn GM aC (fun _=>false) u aC.drew from ⟨fun _=>(Below.refl _ aC).drew,fun h=>(by cases h)⟩);have EB:=aa (fun AV (ae:Bl aC AV)=>show Calls prog 73 #[pp bu 0] AV fun e w'=>∃ v,e = .returned v/\GM v w' from by
  refine (aJ8 hc iL (Ci.o.all hc ae) DY ah (C8.o.all ae) Da).mono ?_;rintro e w' h;have ag:=h.low ae;obtain⟨σ',tk',fB,L,rfl,_⟩:=id ag;exact⟨_,rfl,by rw [Au];exact ag⟩)
 have ED:=aa (fun (L:Nat->Bool) (u:Nat->Value) (AV:aRB) (h:Qn GM aC L u AV)=>show AV.cell? (ad X 6)=some (.slice (some ⟨jA,0,none⟩) dY dY) from by
  rw [Br.o,I.o,Cf.o];cases Cm:L 7 with
  | false=>exact ((Ci.o.all hc (h.1 Cm)).fG.cells).2.2.2.2
  | true =>
   have Cn:=h.2 Cm;rw [Au] at Cn;obtain⟨σ',tk',fB,Co,_,_,_,EG,_⟩:=Cn;exact (EG.fG.cells).2.2.2.2)
 have EH:=aa Au;clear Au Ap Ai Aq;refine Tq 9 (iY [some (pp X 0),some (pp X 0),some (pp X 6),some (pp X 6),some (.slice (some ⟨jA,0,none⟩) dY dY),some (.int .i64 i),some (pp bu 0),none,some (.pointer (some ⟨jA,i * 4,none⟩))] (fun _ _ _=>True)) (Qn GM aC) (fun _ _=>True) E9.o (fun j v w1 af ae EI=>iY.keep (fun _=>trivial) EI) ?_ (jJ:=?_)
 rotate_left
 ·repeat' (first | exact trivial | apply And.intro)
  all_goals intro eH u2 af Co AA EK FH EL Cs K C9
  all_goals simp [iY,Region.binds] at Cs
  all_goals first | simp [Region.wanted,yielded,EL,Cs] | simp [Region.wanted,yielded] | skip
  all_goals have EM:=ED.o Co u2 af AA
  all_goals try (first | exact C9 _ _ rfl (AA.plain dc) (trivial) | (go_simp;exact C9 _ _ rfl (AA.plain dc) (trivial)))
  ·have Bu:=AA.1 EK;go_simp;refine (EB.o af Bu).mono ?_;rintro e AV ⟨v4,rfl,Aw⟩;exact C9 _ _ trivial (Qn.call Aw) trivial
 ·intro u5 CE AA Ct;have Cv:u5 8 = .pointer (some ⟨jA,i * 4,none⟩):=Ct.at 8 dc dc;have Aw:=AA.2 rfl;rw [EH.o] at Aw;obtain⟨AZ,EO,FJ,AB,Ay,Aa,Az,Ab,Ak,Y,BG,BH,BI,BJ⟩:=Aw;replace Ay:=Ending.returned.inj Ay;clear Ct;simp only [Cv,Ay];obtain⟨OL,Ah,Cw⟩:=Ab.fG.outs;obtain⟨dh,A7,CJ,BK⟩:=nq2 (jm (bE c.W i) AB) (uV AZ OL c.n);obtain⟨EP,BL⟩:=ai (uV (AZ.put i (bE c.W i)) (fun j=>if j=i then AB else OL j) c.n);have Cz:=aJ5 AZ OL fC (bE c.W i) AB;rw [<- BK,<- BL,<- A7] at Cz;have DD:CJ.length=c.n * 4:=by rw [BK,uV,amk,List.length_range]
  have CK:dh.length=4:=by rw [A7];rfl
  have ER:dh.length=iG.length:=CK;have EU:i * 4+dh.length<=CJ.length:=by rw [DD,CK];omega
  have BM:Sz 63 dh.length:=by rw [CK];exact kr
  have DF:∀ v∈dh,v.oneCell'=true:=by rw [A7];simp [jm,Value.oneCell']
  have CL:=avW (σ:=AZ.put i (bE c.W i)) (OL:=fun j=>if j=i then AB else OL j) fC;rw [<- BL,show (AZ.put i (bE c.W i)).got i=some (bE c.W i) by simp [bI.put],if_pos rfl,show uU (some (bE c.W i)) AB=dh from A7.symm] at CL;obtain⟨Al,DL⟩:∃ k:Int,k=(bE c.W i).kind:=⟨_,rfl⟩;have EW:Al≠0:=by
   rcases Vn hc.work.small i with h | ⟨h | h,_⟩
   ·have DN:(bE c.W i).kind=1:=h;omega
   ·have DN:(bE c.W i).kind=2:=h;omega
   ·have DN:(bE c.W i).kind=3:=h;omega
  have FN:(Al == 0)=false:=by simpa using EW
  have EY:=aa (show EP[i * 4]?=some (.int .i64 Al) by
   have DR:dh[0]?=some (.int .i64 Al):=by rw [A7,DL];rfl
   rw [<- CL,List.getElem?_take,if_pos om,List.getElem?_drop,Nat.add_zero] at DR;exact DR)
  have EZ:=aa (And.intro Aa (And.intro Az (And.intro Ab (And.intro Ak (And.intro Y (And.intro BG (And.intro BH (And.intro BI BJ))))))));have BO:=aa (show aM CE jA CJ 63 by rw [I.o,BK];exact Ah);have Ec:=aa (show CE.cell? (ad X 6)=some (.slice (some ⟨jA,0,none⟩) dY dY) by rw [Br.o,I.o,Cf.o];exact (Ab.fG.cells).2.2.2.2);have Ee:=aa (show X≠jA by rw [Br.o,I.o];exact hc.ne.2.1);obtain⟨Eg,Ei,Em,En⟩:=hq4 Cw Ah BL A7;have Eo:=aa (show NG aC bu none from .afK C8.o.row C8.o.known);have Ep:=aa (aM.vP Eo.o Ak Dz.o Ao.o dc dc dc);rw [<- A7];clear Ah Cw Aa Az Ab Ak Y BG BH BI BJ A7 BK BL DD DL AA Cv Ay;go_wp2_with (first
   | ((with_reducible refine WE (i * 4) (.agg dh.toArray) BO.o (qD _) BM EU DF Cz ?_);intro CS CU BP;have DW:=aa CU;have BQ:=aa BP;have EM:CS.cell? (ad X 6)=some (.slice (some ⟨jA,0,none⟩) dY dY):=(by rw [<- Ec.o];unfold World.cell?;rw [BP.2.2.2.2 X Ee.o]);have FP:CS.cell? ⟨jA,i * 4,none⟩=some (.int .i64 Al):=(by rw [CU.cell (i * 4),EY.o]);have BX:=aa (Ep.o.dK BP (by have:=(hc.low _ (.inr (.inr (.inl rfl)))).2;have:=Ao.o;have:=I.o;omega));clear CU BP)
   | (with_reducible refine O4 (i * 4) dh DW.o CL underlying63 BM ?_)
   | ((with_reducible refine vC dh BX.o BM ER DF ?_);intro DX Er Bb))
  refine D9 Er.o underlying63 rfl BM ⟨rfl,rfl,rfl⟩ ?_;obtain⟨Aa,Az,Ab,Ak,Y,BG,BH,BI,BJ⟩:=EZ.o;have Es:=Ab.VF hc DZ Aa BH BI BJ Ei.o Eg.o (by rw [<- Em.o,<- I.o];exact DW.o) (by rw [<- I.o];exact BQ.o);have Eu:=(hc.low _ (.inr (.inr (.inl rfl)))).2;have Ev:Cq c.l w CE:=Ak.nP Ck.o E8.o fun q AJ=>by cases AJ
  have Ew:Cq c.l w CS:=Ev.trans (kY.ald BQ.o (by rw [I.o];exact .inr (.inr (.inl rfl))) (by rw [I.o];exact Eu) BO.o dc);have Ex:Cq c.l w DX:=Ew.NH (jW.ug Bb.o) (aQm _);have Ey:nC DX c.l.T (bE c.W i) AB:=⟨iJ (iJ Aa.outs BO.o dc BQ.o) BX.o dc Bb.o,iJ (iJ Aa.reads BO.o dc BQ.o) BX.o dc Bb.o⟩;have Ez:σ.got i=none:=by
   cases e:σ.got i with
   | none=>rfl
   | some o=>have:=(Dt.o.inv.right i o e).2;rw [ae] at this;cases this
  have F3:∀ j,σ.begun j=true->j≠i:=fun j aD e=>by rw [e,ae] at aD;cases aD
  rw [En.o];refine⟨bE c.W i,AB,AZ.put i (bE c.W i),EO,_,rfl,Ey,⟨Es.dK hc BX.o (jW.ug Bb.o) Ao.o dc,Ex,⟨fun j aD=>Y.begun j (by simp [bI.push,aD]),fun j aD=>?_,fun j aD=>?_,fun j aD=>Y.more j aD,fun j aD=>Y.same j (by simp [bI.push,aD]) (F3 j aD)⟩,fun q AJ=>?_⟩,Y.begun i (by simp [bI.push]),.inl rfl,fun h=>by rw [ae] at h;cases h⟩
  ·rcases Y.log j aD with h | h | h
   ·exact .inl h
   ·rw [h];exact .inr ae
   ·refine .inr ?_;cases e:σ.begun j with
    | false=>rfl
    | true=>simp [bI.push,e] at h
  ·have F4:j≠i:=fun e=>aD (by rw [e];exact Ez);have:=Y.got j aD;simp only [bI.put,if_neg F4];exact this
  ·have FQ:=Ck.o.size;rcases AJ with AJ | AJ
   ·rcases BG q AJ with h | h
    ·exact .inl h
    ·exact .inr om
   ·exact .inr (by have:=Az q AJ;omega)
theorem amr {P:Program} {W:aRB} {o:Oper} {a:Act} {K:Act->World->Prop} {Q:aRE} {t0:TypeId} {oW:Operand} {i0:Nat} (v0:Value) (cells:Array Value) (hf:P.built t0 [(i0,v0)]=some cells) (aG:o.op = .build t0 #[(i0,oW)]) (ah:a.eval oW=v0) (h:K (a.put o.dst (.agg cells)) W):o.wp P a W K Q :=
 wp_build t0 _ aG (by simp [ah,hf]) (by simpa [ah,hf] using h)
def EA (g:Nat) (W:aRB) (V:aRD) (ty:TypeId) (si:Nat) (L:Nat->Bool) (u:Nat->Value) (af:aRB):Prop:=(L si=false->af=W.drew)/\(L si=true->aM af g V ty/\fU g W.drew af)
section
variable {g si:Nat} {W af aC:aRB} {V:aRD} {ty:TypeId} {L:Nat->Bool} {u:Nat->Value}
theorem EA.start:EA g W V ty si (fun _=>false) u W.drew:=⟨fun _=>rfl,fun h=>(by cases h)⟩
theorem EA.plain (h:EA g W V ty si L u af) (h1:si≠i):EA g W V ty si (GD L i) (oM u i v) af:=⟨fun I=>h.1 (by rwa [xF h1] at I),fun I=>h.2 (by rwa [xF h1] at I)⟩
theorem EA.stored (h:EA g W V ty si L u af) (hl:L si=false) (av:aM aC g V ty) (aA:fU g af aC):EA g W V ty si (GD L si) (oM u si v) aC:=⟨fun I=>(by rw [abq] at I;cases I),fun _=>⟨av,by rw [<- h.1 hl];exact aA⟩⟩
theorem EA.cell (h:EA g W V ty si L u af) (hc:W.cell? (ad b j)=some v) (bJ:b≠g):af.cell? (ad b j)=some v:=by
 cases hl:L si with
 | false=>rw [h.1 hl];exact hc
 | true =>
  have h1:=(h.2 hl).2.2.2.2.2 b bJ;unfold World.cell? at hc |-;rw [h1];exact hc
end
theorem agn (p:ByteArray) (b:Bool) (d:ByteArray):prog.built 80 [(0,.string p),(1,.bool b),(2,.string d)]=some #[.string p,.bool b,.string d]:=kr
theorem ams (p:ByteArray):prog.built 80 [(0,.string p)]=some #[.string p,.bool false,.string ⟨#[]⟩]:=kr
theorem av2 {f:α->Bool}:∀ {l:List α} {q:Nat} {x:α},l[q]?=some x->(l.take q).any f=false->f x=true->l.find? f=some x
 | [],q,x,h,_,_=>by simp at h
 | y :: l,0,x,h,_,I=>by
  simp at h;subst h;rw [List.find?_cons,I]
 | y :: l,q+1,x,h,h1,I=>by
  rw [List.take_succ_cons,List.any_cons,Bool.or_eq_false_iff] at h1;rw [List.find?_cons,h1.1];exact av2 (by simpa using h) h1.2 I
theorem av3 (hc:c.Fit) (aD:c.W.kK p=some j) {o:iN} (aG:o=bE c.W j\/o=⟨3,0,[],[]⟩/\fI c.W p = .stuck):uC (fI c.W p) p=(o.kind,o.at_ p):=by
 rcases aG with rfl | ⟨rfl,h⟩
 ·rw [aqL aD];have J:∀ o:iN,o.outs=[]->o.at_ p=⟨p,false,[]⟩:=fun o h=>by unfold iN.at_;rw [h];rfl
  rcases Vn hc.work.small j with h | ⟨h | h,M⟩
  ·have I:(bE c.W j).kind=1:=h;rw [if_pos I,I];rfl
  ·have I:(bE c.W j).kind=2:=h;rw [if_neg om,if_pos I,I,J _ (show (bE c.W j).outs=[] from M)];rfl
  ·have I:(bE c.W j).kind=3:=h;rw [if_neg om,if_neg om,I,J _ (show (bE c.W j).outs=[] from M)];rfl
 ·rw [h];rfl
theorem aKs {o:iN} {x:ak × ak} (h:o.outs.find? (fun y=>y.1 == p)=some x):o.at_ p=⟨p,true,x.2⟩:=by unfold iN.at_;rw [h]
theorem aKt {o:iN} (h:o.outs.any (fun y=>y.1 == p)=false):o.at_ p=⟨p,false,[]⟩:=by unfold iN.at_;rw [arq.2 h]
theorem av4 (hc:c.Ok) (hs:j6 c w U σ aW aI) (aL:p.length<=1100000) (hm:c.W.kK p=none) :
  CR 23 #[pp c.l.X 0,.string (az p)] w (.tuple #[.agg (iy (Fq c.k.files p)).toArray,.int .i64 1]) fun w'=>Step c w U σ aW aI w' σ aW aI/\Bl w w':=by
 obtain⟨aF,I⟩:=ai (w.alloc (.cells l8.toArray 80));have AB:=gQ I;have Ad:=lH I;have Ae:=hs.all hc AB;obtain⟨X,AJ,P,M,Y,AL⟩:=nq3 c.l.X (az p) ((fileAt c.k.files p).isSome);obtain⟨A7,AO⟩:=ai (az (((fileAt c.k.files p).map (·.2)).getD []));obtain⟨bH,AP⟩:=ai (iy (Fq c.k.files p));have J:bH=[.string P,.bool Y,.string A7]:=by rw [AP,M,AL,AO,Fq];cases fileAt c.k.files p <;> rfl
 obtain⟨xX,Af,Lm,Ag⟩:=nq2 (Value.slice c.l.cK.B c.k.bZ.length c.l.cK.d) (Value.slice c.l.cK.A c.k.files.length c.l.cK.c);have AA:=aa (fun W (ae:Bl aF W)=>show W.cell? (ad X 1)=some xX/\W.cell? (ad X 0)=some Lm/\Calls prog 44 #[xX,.string P] W (fun e w'=>e = .returned (.tuple #[.int .i64 0,.bool false])/\Bl W w')/\CB 45 #[Lm,.string P] W (.tuple #[.string A7,.bool Y]) from by
  have AV:=Ae.all hc ae;have Ah:=AV.fG.work W (fun _ _ _=>rfl);have h1:=WN W c.l.cK.B c.l.cK.d c.k.bZ Ah.bZ (by have:=hc.kV.nN;omega) (fun x ah=>by have:=(hc.kV.fair x ah).outs;omega) p;rw [show Pd c.k.bZ p = -1 by rw [XV,hm]] at h1;have Aq:=ai8 W c.l.cK.A c.l.cK.c c.k.files hc.kV.jv Ah.files p;rw [Af,Ag,M,AO,AL,AJ];exact⟨(AV.fG.cells).2.1,(AV.fG.cells).1,h1,Aq⟩)
 obtain⟨BF,_,_,_⟩:=AA.o aF (Below.refl _ _);obtain⟨Au,Ai,Ak⟩:=hq3 Ad AB hs;have Al:Sz 80 bH.length:=by rw [J];exact KZ
 have Aw:bH.length=l8.length:=by rw [J];rfl
 have Ay:∀ v∈bH,v.oneCell'=true:=by rw [J];simp [Value.oneCell']
 have Az:=aa (show prog.built 80 [(0,.string P),(1,.bool Y),(2,.string A7)]=some bH.toArray by rw [J];exact agn _ _ _);rw [<- AJ,<- M,<- AP];rw [show l8.toArray=#[.string ⟨#[]⟩,.bool false,.string ⟨#[]⟩] from rfl] at I;have BG:=I.symm;clear I AJ M AL AO AP J Af Ag AB Ad Ae hs aL;go_enter func23,ntmps23;go_wp2_with (first
  | (go_at_call 44; refine (AA.o aF (Below.refl _ _)).2.2.1.mono ?_;rintro e af ⟨rfl,AZ⟩;have Aa:=aa AZ;have BH:=(AA.o af AZ).2.1;clear AZ)
  | (go_at_call 45; refine (AA.o af Aa.o).2.2.2.mono ?_;rintro e aC ⟨rfl,Ab⟩;have Am:=aa ((Au.o.all Aa.o).all Ab);have Ao:=aa (Ai.o.trans ((aR Aa.o Ab).mono Ai.o.size));clear Ab)
  | ((with_reducible refine Re (.string P) (.bool Y) (.string A7) _ Az.o ?_ ?_);exact⟨rfl,rfl,rfl⟩)
  | ((with_reducible refine vC bH Am.o Al Aw Ay ?_);intro BI BA Ap))
 refine Ej BA.o underlying80 rfl Al ⟨rfl,rfl,rfl⟩ ?_;exact⟨rfl,((Step.refl Ak.o).high hc Ao.o).dK hc Ak.o Am.o (jW.ug Ap.o) (aQm _) dc,oF Ao.o Ap.o (aQm _)⟩
theorem av5 (hc:c.Ok) (hs:j6 c w U σ aW aI) (aL:p.length<=1100000) (hm:c.W.kK p=some j) (ik:j∈U->fI c.W p = .stuck)
  (Bo:∀ af,j6 c af U σ aW aI->Calls prog 46 #[pp c.l.X 0,.int .i64 j] af (aga c af U σ aW aI j)) :
  CR 23 #[pp c.l.X 0,.string (az p)] w (.tuple #[.agg (iy (uC (fI c.W p) p).2).toArray,.int .i64 (uC (fI c.W p) p).1]) fun w'=>∃ σ' tk' fB,Step c w U σ aW aI w' σ' tk' fB/\σ'.begun j=true/\(σ.begun j=true->σ'=σ/\tk'=aW/\fB=aI/\Bl w w'):=by
 have Dg:=JZ c hm;obtain⟨aF,Af⟩:=ai (w.alloc (.cells l8.toArray 80));have Az:=gQ Af;have CW:=lH Af;have BL:=hs.all hc Az;have bY:=hs.fG.size;obtain⟨X,Ag,P,BA,xX,CZ⟩:=nq3 c.l.X (az p) (Value.slice c.l.cK.B c.k.bZ.length c.l.cK.d);obtain⟨BM,BO⟩:∃ BM:Ending->World->Prop,BM=fun e w'=>e = .returned (.tuple #[.agg (iy (uC (fI c.W p) p).2).toArray,.int .i64 (uC (fI c.W p) p).1])/\∃ σ' tk' fB,Step c w U σ aW aI w' σ' tk' fB/\σ'.begun j=true/\(σ.begun j=true->σ'=σ/\tk'=aW/\fB=aI/\Bl w w'):=⟨_,rfl⟩;have Ca:=aa (fun W (ae:Bl aF W)=>show W.cell? (ad X 1)=some xX/\Calls prog 44 #[xX,.string P] W (fun e w'=>e = .returned (.tuple #[.int .i64 j,.bool true])/\Bl W w') from by
  have Cb:=BL.all hc ae;have Dh:=Cb.fG.work W (fun _ _ _=>rfl);have h1:=WN W c.l.cK.B c.l.cK.d c.k.bZ Dh.bZ (by have:=hc.kV.nN;omega) (fun x ah=>by have:=(hc.kV.fair x ah).outs;omega) p;rw [show Pd c.k.bZ p=(j:Int) by rw [XV,hm]] at h1;rw [show max (j:Int) 0=j by omega,show decide (0<=(j:Int))=true from decide_eq_true om] at h1;rw [CZ,BA,Ag];exact⟨(Cb.fG.cells).2.1,h1⟩)
 obtain⟨Ei,_⟩:=Ca.o aF (Below.refl _ _);have Dk:=aa (fun af (ae:Bl aF af)=>show Calls prog 46 #[pp X 0,.int .i64 j] af (fun e aC=>∃ o L σ' tk' fB,e = .returned (.agg (jm o L).toArray)/\nC aC c.l.T o L/\Step c w U σ aW aI aC σ' tk' fB/\σ'.begun j=true/\(o=bE c.W j\/j∈U/\o=⟨3,0,[],[]⟩)/\(σ.begun j=true->σ'=σ/\tk'=aW/\fB=aI/\Bl af aC)/\aM aC w.heap.size l8 80) from by
  rw [Ag];refine (Bo af (BL.all hc ae)).mono ?_;rintro e aC ⟨o,L,σ',tk',fB,Dl,Ce,Cf,Dm,Dp,Dq⟩;exact⟨o,L,σ',tk',fB,Dl,Ce,Cf.low (aR Az ae),Dm,Dp,Dq,(CW.all ae).nP Cf.nP bY dc⟩)
 obtain⟨BF,Dr,BP,BQ,Dt⟩:=hq5 Az hs Ag BA BO;obtain⟨g0,Cg⟩:=ai w.heap.size;have Ah:=aa Cg;rw [<- Ag,<- BA];show Calls _ _ _ _ _;rw [<- BO];rw [show l8.toArray=#[.string ⟨#[]⟩,.bool false,.string ⟨#[]⟩] from rfl] at Af;have Em:=Af.symm;clear Af Ag BA CZ Az CW BL hs aL Bo bY BO Cg;go_enter func23,ntmps23;go_wp2_with (first
  | (go_at_call 44; refine jw (Ca.o aF (Below.refl _ _)).2 ?_;intro af Ai)
  | (go_at_call 46; refine (Dk.o af Ai.o).mono ?_;rintro e aC ⟨o,L,Dx,Dy,Dz,rfl,Ci,Ck,Cm,Cn,Co,BX⟩;have Ak:=aa Co;rw [<- Ah.o] at BX;have Al:=aa BX;obtain⟨dh,Am⟩:=ai (jm o L);have Cs:=aa Am;rw [<- Am];obtain⟨E8,E9,EB,Ct⟩:=hq4 Ci Ck Cm Cn;have Bb:dh.length=4:=(by rw [Am];rfl);have Cv:Sz 63 dh.length:=(by rw [Bb];exact kr);have Cw:∀ v∈dh,v.oneCell'=true:=(by rw [Am];simp [jm,Value.oneCell']);clear Am Ci Ck Cm Cn Co BX)
  | ((with_reducible refine rP dh Bb Cv Cw ?_);intro AO AV Bc;obtain⟨g5,BG⟩:=ai aC.heap.size;rw [<- BG] at Bc;have ED:=aa BG;obtain⟨nl,BH⟩:=ai o.outs.length;have Ao:=aa BH;obtain⟨Cz,Bd,lc,DD⟩:=nq2 L.A L.c;have Ce:AO.cell? (ad g5 2)=some (.slice Cz nl lc):=(by rw [Bc.o.cell 2,Cs.o,BH,Bd,DD];rfl);have EG:=aa (fun J (ae:Bl AO J)=>show Rd J 2 Cz nl (cz fO o.outs) from (by rw [Bd,BH];exact ((E8.o.outs.below AV.o (aQm _)).below ae (aQm _)).rd));rw [<- BG];clear BG BH Bd DD))
 have En:nl<=1000:=by
  have:=Sr hc.work (i:=j) (by simpa [dL.X,dL.n] using Dg);have hw:c.W=nQ c.k.files c.X:=rfl;rcases Ct.o with h | ⟨_,h⟩
  ·rw [Ao.o,h,hw];omega
  ·rw [Ao.o,h];exact aQu _
 obtain⟨Ad,Bf⟩:∃ k:Int,k=o.kind:=⟨_,rfl⟩;have EH:=aa Bf;have Ae:=aa (fun J (ae:Bl AO J)=>show J.cell? (ad g5 0)=some (.int .i64 Ad) from by rw [(Bc.o.all ae).cell 0,Cs.o,Bf];rfl);have DF:=aa (show g5≠g0 from fun e=>by have:=Al.o.lt;have:=ED.o;omega);have DL:=aa (fun (J AZ:aRB) (bH:aRD) (ae:Bl AO J) (AA:bH=iy (o.at_ p)) (av:aM AZ g0 bH 80) (DN:fU g0 J.drew AZ)=>show BM (.returned (.tuple #[.agg bH.toArray,.int .i64 Ad])) AZ from by
  rw [Dt.o,AA];have EI:=av3 hc.toFit hm (Ct.o.imp_right fun h=>⟨h.2,ik h.1⟩);rw [EI];exact⟨by rw [EH.o],Dx,Dy,Dz,(E9.o.high hc ((aR AV.o ae).drew)).dK hc Dr.o ((Al.o.all AV.o).all ae.drew) (jW.ug DN) (by rw [Ah.o];exact aQm _) dc,EB.o,fun h=>⟨(Ak.o h).1,(Ak.o h).2.1,(Ak.o h).2.2.1,oF ((((aR BF.o Ai.o).trans ((Ak.o h).2.2.2.mono (aR BF.o Ai.o).size)).trans ((aR AV.o ae).mono ((aR BF.o Ai.o).trans ((Ak.o h).2.2.2.mono (aR BF.o Ai.o).size)).size)).drew) DN (aQL Ah.o.symm)⟩⟩)
 clear Bf Bb Cv Cw;go_loopg [45] nl (fun gk EK wr=>∃ q:Nat,q+gk=nl/\EK = .int .i64 q/\(o.outs.take q).any (fun y=>y.1 == p)=false/\Bl AO wr);case atStart=>exact⟨0,om,rfl,rfl,Below.refl _ _⟩
 case round =>
  obtain⟨q,Eo,rfl,DR,DW⟩:=hrel;have Bi:=aa DR;have AP:=aa DW;clear DR DW;by_cases DX:q < nl
  ·have EL:(q:Int) < nl:=om;have Ep:(0:Int)<=q:=om;obtain⟨x,ah⟩:∃ x,o.outs[q]?=some x:=⟨_,aQp (by rw [<- Ao.o];exact DX)⟩;obtain⟨b,Er,rfl,Bn⟩:=vE (f:=fO) (k:=2) Sk underlying65 rfl kr (EG.o wr AP.o) ah Ao.o.symm;obtain⟨BI,Bp⟩:=x;have BP:=aa ah;obtain⟨AB,Bq,Y,Br⟩:=nq2 (az BI) (az Bp);have he:(AB.toList == P.toList)=(BI == p):=by rw [Bq,BQ.o,ByteArray.toList_eq,ByteArray.toList_eq,gU,gU]
   obtain⟨v,Aa⟩:=ai (BI == p);rw [<- Aa] at he;rw [show fO (BI,Bp)=[.string AB,.string Y] by rw [Bq,Br];rfl] at Bn;have DY:=aa Bn;have DZ:([.string AB,.string Y]:aRD).length=2:=rfl;have Da:(prog.info? 65).map (·.size)=some ([.string AB,.string Y]:aRD).length:=kr;have Db:∀ v∈([.string AB,.string Y]:aRD),v.oneCell'=true:=by simp [Value.oneCell']
   have Dc:=aa Aa;have EM:=aa Br;clear ah Bn Bq Br Aa;cases v with
   | true =>
    go_upto_region 10 with (first
     | ((with_reducible refine pY DY.o ?_ ?_);exact rfl)
     | ((with_reducible refine zo [.string AB,.string Y] DZ Da Db ?_);obtain⟨J,BJ,g6,BK⟩:=nq2 (wr.alloc (.cells #[.string AB,.string Y] 65)) wr.heap.size;try rw [<- BJ];try rw [<- BK];have De:=aa (show aM J g6 [.string AB,.string Y] 65 by rw [BJ,BK];exact aM.new wr _ _);have EO:=aa (gQ BJ);have EP:=aa BK;have d0:J.cell? (ad g6 0)=some (.string AB):=(by rw [De.o.cell 0];rfl);clear BJ BK))
    have Bt:=aa (aR AP.o EO.o);try rw [<- Ah.o]
    obtain⟨bH,Ab⟩:=ai (iy (⟨p,true,Bp⟩:dz));have Bu:=aa (show bH=iy (o.at_ p) by rw [Ab,aKs (av2 BP.o Bi.o Dc.o.symm)]);have A7:bH=[.string P,.bool true,.string Y]:=by rw [Ab,BQ.o,EM.o];rfl
    have Ap:=aa (show Sz 80 bH.length by rw [A7];exact KZ);have Bv:=aa (show 0+bH.length<=l8.length by rw [A7];exact aQm 3);have Bw:=aa (show ∀ v∈bH,v.oneCell'=true by rw [A7];simp [Value.oneCell']);have C8:=aa (show l8.take 0++bH++l8.drop (0+bH.length)=bH by rw [A7];rfl);have C9:=aa (show prog.built 80 [(0,.string P),(1,.bool true),(2,.string Y)]=some bH.toArray by rw [A7];exact agn _ _ _);have Ae:=aa (Ae.o _ Bt.o);have CE:=aa (fun (u:Nat->Value)=>EA.start (g:=g0) (W:=J) (V:=bH) (ty:=80) (si:=6) (u:=u));have CJ:=aa (show aM J.drew g0 l8 80 from (Al.o.all AV.o).all Bt.o.drew);clear Ab A7;have ER:=aa (show J.cell? (ad g6 1)=some (.string Y) by rw [De.o.cell 1];rfl);have EU:=aa (show g6≠g0 from fun e=>by have:=Al.o.lt;have:=EP.o;have:=AP.o.size;have:=AV.o.size;omega);refine Tq 7 (iY [some (.string P),some (pp g6 1),some (.string Y),some (.agg bH.toArray),some (pp g5 0),some (.int .i64 Ad),none] (fun _ _ _=>True)) (EA g0 J bH 80 6) (fun _ _=>True) CE.o (fun j v w1 af ae Aa=>iY.keep (fun _=>trivial) Aa) ?_ (jJ:=?_)
    rotate_left
    ·repeat' (first | exact trivial | apply And.intro)
     all_goals intro eH u2 af EW I Aq EY AJ AL K AA
     all_goals simp [iY,Region.binds] at AL
     all_goals first | simp [Region.wanted,yielded,AJ,AL] | simp [Region.wanted,yielded] | skip
     all_goals have d1:=I.cell ER.o EU.o
     all_goals have EZ:=I.cell Ae.o DF.o
     all_goals try (first | exact AA _ _ rfl (I.plain dc) (trivial) | (go_simp;exact AA _ _ rfl (I.plain dc) (trivial)))
     ·refine afg (.string P) (.bool true) (.string Y) bH.toArray C9.o rfl ⟨by simp [Act.eval,AJ,AL],rfl,by simp [Act.eval,AJ,AL]⟩ ?_;exact AA _ _ rfl (I.plain dc) trivial
     ·have Au:=CJ.o;rw [<- I.1 Aq] at Au;refine wp_store_row g0 0 (.agg bH.toArray) bH l8 bH _ Au (qD _) Ap.o Bv.o Bw.o C8.o rfl ⟨by simp [Act.eval,AJ],by simp [Act.eval,AJ,AL]⟩ ?_;intro bS CK CL;exact AA _ _ trivial (I.stored Aq CK CL) trivial
    ·intro u6 AZ I Aw;have Ec:u6 5 = .int .i64 Ad:=Aw.at 5 dc dc;obtain⟨CS,CU⟩:=I.2 rfl;clear Aw;simp only [Ec];have Ay:=aa CS;have CV:=aa CU;go_wp2_with fail;refine Ej Ay.o underlying80 rfl Ap.o ⟨rfl,rfl,rfl⟩ ?_;exact DL.o J AZ bH Bt.o Bu.o Ay.o CV.o
   | false =>
    go_wp2_with (first
     | ((with_reducible refine pY DY.o ?_ ?_);exact rfl)
     | (with_reducible refine zo [.string AB,.string Y] DZ Da Db ?_))
    go_roundg (gk - 1);case rel=>exact⟨q+1,om,by go_num,by rw [arj _ BP.o,Bi.o,<- Dc.o];rfl,AP.o.trans (gK.mono AP.o.size)⟩
    case measure=>omega
  ·have Df:q=nl:=om;have EL:¬ (q:Int) < nl:=om;have Ee:=aa (aKt (o:=o) (p:=p) (by have h:=Bi.o;rwa [Df,Ao.o,List.take_length] at h));clear DX Df;go_upto_region 12 with fail
   try rw [<- Ah.o]
   obtain⟨bH,Ab⟩:=ai (iy (⟨p,false,[]⟩:dz));have Bu:=aa (show bH=iy (o.at_ p) by rw [Ab,Ee.o]);have A7:bH=[.string P,.bool false,.string ⟨#[]⟩]:=by rw [Ab,BQ.o];rfl
   have Ap:=aa (show Sz 80 bH.length by rw [A7];exact KZ);have Bv:=aa (show 0+bH.length<=l8.length by rw [A7];exact aQm 3);have Bw:=aa (show ∀ v∈bH,v.oneCell'=true by rw [A7];simp [Value.oneCell']);have C8:=aa (show l8.take 0++bH++l8.drop (0+bH.length)=bH by rw [A7];rfl);have C9:=aa (show prog.built 80 [(0,.string P)]=some bH.toArray by rw [A7];exact ams _);have Ae:=aa (Ae.o _ AP.o);have CE:=aa (fun (u:Nat->Value)=>EA.start (g:=g0) (W:=wr) (V:=bH) (ty:=80) (si:=4) (u:=u));have CJ:=aa (show aM wr.drew g0 l8 80 from (Al.o.all AV.o).all AP.o.drew);clear Ab A7;refine Tq 5 (iY [some (.string P),some (.agg bH.toArray),some (pp g5 0),some (.int .i64 Ad),none] (fun _ _ _=>True)) (EA g0 wr bH 80 4) (fun _ _=>True) CE.o (fun j v w1 af ae Aa=>iY.keep (fun _=>trivial) Aa) ?_ (jJ:=?_)
   rotate_left
   ·repeat' (first | exact trivial | apply And.intro)
    all_goals intro eH u2 af EW I Aq EY AJ AL K AA
    all_goals simp [iY,Region.binds] at AL
    all_goals first | simp [Region.wanted,yielded,AJ,AL] | simp [Region.wanted,yielded] | skip
    all_goals have EZ:=I.cell Ae.o DF.o
    all_goals try (first | exact AA _ _ rfl (I.plain dc) (trivial) | (go_simp;exact AA _ _ rfl (I.plain dc) (trivial)))
    ·refine amr (.string P) bH.toArray C9.o rfl (by simp [Act.eval,AJ,AL]) ?_;exact AA _ _ rfl (I.plain dc) trivial
    ·have Au:=CJ.o;rw [<- I.1 Aq] at Au;refine wp_store_row g0 0 (.agg bH.toArray) bH l8 bH _ Au (qD _) Ap.o Bv.o Bw.o C8.o rfl ⟨by simp [Act.eval,AJ],by simp [Act.eval,AJ,AL]⟩ ?_;intro bS CK CL;exact AA _ _ trivial (I.stored Aq CK CL) trivial
   ·intro u6 AZ I Aw;have Eg:u6 3 = .int .i64 Ad:=Aw.at 3 dc dc;obtain⟨CS,CU⟩:=I.2 rfl;clear Aw;simp only [Eg];have Ay:=aa CS;have CV:=aa CU;go_wp2_with fail;refine Ej Ay.o underlying80 rfl Ap.o ⟨rfl,rfl,rfl⟩ ?_;exact DL.o wr AZ bH AP.o Bu.o Ay.o CV.o
theorem aKw (hc:c.Ok) (hs:j6 c w U σ aW aI) (fC:i < c.n) (av:yM c.W c.dN i) (hf:∀ x∈U,xM c.W x i) (iL:∀ k,rZ σ c.n=k+1->NI c k) :
  Calls prog 46 #[pp c.l.X 0,.int .i64 i] w (aga c w U σ aW aI i):=by
 cases ae:σ.begun i with
 | true=>exact avX hc hs fC ae
 | false=>exact aKa hc hs fC ae av hf iL
theorem aKx (hc:c.Ok):∀ m,NI c m:=by
 intro m;induction m using Nat.strongRecOn with
 | ind m I =>
  intro w U σ aW aI p hs hm aL aD;cases hk:c.W.kK p with
  | none =>
   refine (av4 hc hs aL hk).mono ?_;rintro e w' ⟨rfl,h,_⟩;rw [ady hk];exact⟨rfl,σ,aW,aI,h,fun j e=>by cases e⟩
  | some j =>
   obtain⟨h1,J,M⟩:=aD j hk;refine (av5 hc hs aL hk M fun af Y=>aKw hc Y (JZ c hk) h1 J fun k e=>I k om).mono ?_;rintro e w' ⟨A7,σ',tk',fB,AA,AB,_⟩;exact⟨A7,σ',tk',fB,AA,fun j' e=>by cases e;exact AB⟩
theorem aKy (hc:c.Ok) (hs:j6 c w U σ aW aI) (aL:p.length<=1100000) (aD:∀ j,c.W.kK p=some j->σ.begun j=true/\(j∈U->fI c.W p = .stuck)) :
  CB 23 #[pp c.l.X 0,.string (az p)] w (.tuple #[.agg (iy (uC (fI c.W p) p).2).toArray,.int .i64 (uC (fI c.W p) p).1]):=by
 cases hk:c.W.kK p with
 | none =>
  refine (av4 hc hs aL hk).mono ?_;rintro e w' ⟨rfl,_,h⟩;rw [ady hk];exact⟨rfl,h⟩
 | some j =>
  obtain⟨h1,I⟩:=aD j hk;refine (av5 hc hs aL hk I fun af J=>avX hc J (JZ c hk) h1).mono ?_;rintro e w' ⟨M,σ',tk',fB,A7,_,Y⟩;exact⟨M,(Y h1).2.2.2⟩
end
section
open Go.Lib Go.RowKit Go.Shelf Go.Sort
theorem av9:∀ a b:List UInt8,compareBytes a b < 0 ↔ a < b
 | [],[]=>by simp [compareBytes]
 | [],_ :: _=>by simp [compareBytes]
 | _ :: _,[]=>by simp [compareBytes]
 | a :: r,b :: s=>by
  have M:=av9 r s;rw [compareBytes,List.cons_lt_cons_iff,<- M];by_cases h1:a < b
  ·simp [h1]
  ·by_cases I:b < a
   ·have J:¬ a=b:=fun e=>by subst e;exact UInt8.lt_irrefl _ I
    simp [h1,I,J]
   ·have J:a=b:=UInt8.le_antisymm (UInt8.not_lt.1 I) (UInt8.not_lt.1 h1);simp [J]
abbrev abV:List UInt8->List UInt8->Int:=compareBytes
theorem abW (a b:aRH):ltOf abV a b=decide (a < b):=by unfold ltOf;exact decide_eq_decide.2 (av9 a b)
theorem aKz:SWO (ltOf abV):=by
 refine⟨fun x=>?_,fun x y z h1 I=>?_,fun x y z h1 I=>?_⟩
 ·rw [abW];exact aRd (List.lt_irrefl x)
 ·rw [abW,decide_eq_true_eq] at *;exact List.lt_trans h1 I
 ·rw [abW,decide_eq_false_iff_not,List.not_lt] at *;exact List.le_trans I h1
theorem aKA (w:aRB) (base:Nat) (A:aRC) (c:Nat) (ys:List (List UInt8)) (h:Own w base 9 1 A ys.length c (cu ys)) (hl:ys.length<=1000000) :
  CR 75 #[.slice A ys.length c,.func (.func 49) #[] #[]] w (.tuple #[]) fun w'=>Own w' base 9 1 A ys.length c (cu (rG ys))/\w.grownBy w' (bV A):=by
 rcases aQH ys.length with I | I
 ·obtain rfl:ys=[]:=aQC I;refine (AnyF.slices_SortFunc_none { Tryz.sortS with } A c _ w).mono ?_;rintro e w' ⟨rfl,rfl⟩;refine⟨rfl,by simpa [rG] using h,⟨rfl,rfl,rfl,aQm _,fun _ _ _=>rfl⟩⟩
 ·obtain⟨b,o,cur,bf,rfl,ae,ax,_⟩:=h.at_ (by have:=h.2.1;omega);refine (Any.slices_SortFunc_total Tryz.sortS encStr (fun _=>rfl) abV aKz 49 #[] b o c ys.toArray w (enters_of func49 kr rfl) ?_ h.ahO (ic ax) (by simp;omega) ?_).mono ?_
  ·intro m os M _ x y;refine (Any.strings_Compare Tryz.strCmp (az x) (az y) _).mono ?_;rintro e w' ⟨rfl,rfl⟩;rw [gU,gU];exact⟨rfl,0,#[],(grow_empty _).symm⟩
  ·intro x y h1 J;simp only [abW,decide_eq_false_iff_not] at h1 J;exact List.le_antisymm (aQ6.1 J) (aQ6.1 h1)
  ·rintro e w' ⟨rfl,n,os,rfl⟩;have hs:(ys.toArray.toList.mergeSort fun x y=>!(ltOf abV) y x)=rG ys:=by
    have hf:(fun x y:List UInt8=>!(ltOf abV) y x)=fun x y=>decide (x<=y):=by funext x y;rw [abW,<- decide_not];exact decide_eq_decide.2 aQ6
    rw [hf];rfl
   rw [hs];refine⟨rfl,?_,Y5 _⟩;have aL:=h.ahP (n:=n) (os:=os) (zs:=rG ys) (k:=ys.length) (by rw [DU];omega) (DU ys);rw [List.take_of_length_le (by rw [DU];omega)] at aL;exact aL
theorem aKB (w:aRB) (ji:Nat) (A:aRC) (cap:Nat) (zs:List (List UInt8)) (dB:zs.length<=1000000) (vT:w.heap[ji]?=some (.cells #[.slice A zs.length cap] 24 (0,0))) (av:Rd w 1 A zs.length (cu zs)) :
  Calls prog 47 #[.func (.func 76) #[] #[pp ji 0],.func (.func 49) #[] #[]] w fun e w'=>∃ A' c,e = .returned (.slice A' zs.length c)/\Own w' w.heap.size 9 1 A' zs.length c (cu (rG zs))/\Bl w w':=by
 have Y:=apD w ji A cap zs dB vT av;clear av vT;go_enter func47,ntmps47;go_wp2_with (first
  | (go_at_call 74; refine Y.mono ?_;rintro e w1 ⟨I,c1,rfl,J,M⟩)
  | (go_at_call 75; refine (aKA w1 w.heap.size I c1 zs J dB).mono ?_;rintro e af ⟨rfl,A7,AA⟩))
 go_ret;exact⟨I,c1,rfl,A7,M.grown AA M.size (fun k e=>(J.block k e).1)⟩
end
section
open Go.Maps Go.RowKit Go.Shelf
def GN (σ:bI) (j:Nat):Nat:=match σ.got j with
 | some o=>o.kind
 | none=>0
noncomputable def fileOf (W:pV) (σ:bI) (p:ak):Option (ak × ak) :=
 if (match W.kK p with | some j=>GN σ j != 1 | none=>false)=true then none
 else if (uC (fI W p) p).2.is=true then some (p,(uC (fI W p) p).2.data) else none
noncomputable def o9 (W:pV) (σ:bI) (l:List ak):List (ak × ak):=(ny l).filterMap (fileOf W σ)
theorem aKC (h:wB c w σ aW aI) (ay:i < c.n):w.cell? ⟨c.l.jA,i * 4,none⟩=some (.int .i64 (GN σ i)):=by
 obtain⟨OL,I,_⟩:=h.outs;have:=KR (f:=fun i=>uU (σ.got i) (OL i)) (fun i=>SL _ _) (aRo ay) 0 (.int .i64 (GN σ i)) (by
  unfold GN;cases σ.got i <;> rfl)
 rw [I.cell (i * 4)];exact this
theorem aKD (hc:c.Ok) (p:ak):(uC (fI c.W p) p).2.path=p:=by
 cases h:fI c.W p with
 | known k=>exact aIf (IP hc.work.small) h
 | below=>rfl
 | stuck=>rfl
theorem NU {β:Type} (f:α->Option β) {l:List α} {x:α} (h:l[q]?=some x):(l.take (q+1)).filterMap f=(l.take q).filterMap f++(f x).toList:=by rw [List.take_add_one,h,List.filterMap_append];cases hf:f x <;> simp [hf]
theorem awc (p d:ByteArray):prog.built 65 [(0,.string p),(1,.string d)]=some #[.string p,.string d]:=kr
theorem aKE (hc:c.Ok) (hs:j6 c w [] σ aW aI) :
  Calls prog 24 #[pp c.l.X 0] w fun e w'=>∃ A c2,e = .returned (.slice A (o9 c.W σ c.k.ib).length c2)/\Own w' w.heap.size 65 2 A (o9 c.W σ c.k.ib).length c2 (cz fO (o9 c.W σ c.k.ib))/\Bl w w':=by
 obtain⟨X,Bb,jA,Bv,Az,Ct,Bc,Cv,qQ,Ai,dY,Bw⟩:=nq6 c.l.X c.l.jA c.l.cK.C c.l.cK.e c.k.ib.length c.n;obtain⟨xX,C8,S,BA,ais,C9⟩:=nq3 (Value.slice c.l.cK.B c.k.bZ.length c.l.cK.d) (ny c.k.ib) (o9 c.W σ c.k.ib);have Cw:∀ p∈S,p.length<=1100000:=fun p aL=>hc.kV.U6 p (by rw [BA] at aL;exact (Ot c.k.ib).2 p |>.1 aL);have Dx:S.length<=1000:=by have:=Ou c.k.ib;have:=hc.kV.qQ;rw [BA];omega
 have CE:=aa (fun W (ae:Bl w W)=>show W.cell? (ad X 1)=some xX/\W.cell? (ad X 2)=some (.slice Az qQ Bc)/\W.cell? (ad X 6)=some (.slice (some ⟨jA,0,none⟩) dY dY)/\Rd W 1 Az qQ (cu c.k.ib) from by
  have Bd:=hs.all hc ae;obtain⟨cZ,rc,kQ,jy,h1,_⟩:=Bd.fG.row;rw [Bb,C8,Ct,Cv,Ai,Bv,Bw];exact⟨h1.cell 1,h1.cell 2,h1.cell 6,(Bd.fG.work W (fun _ _ _=>rfl)).ib⟩)
 have Dy:=aa (fun W (ae:Bl w W) (p:ak) (aL:p∈S)=>show Calls prog 44 #[xX,.string (az p)] W (fun e w'=>e = .returned (.tuple #[.int .i64 (match c.W.kK p with | some j=>(j:Int) | none=>0),.bool (c.W.kK p).isSome])/\Bl W w') /\
   (∀ j,c.W.kK p=some j->j < dY/\∀ aV,Bl w aV->aV.cell? ⟨jA,j * 4,none⟩=some (.int .i64 (GN σ j))) /\
   (∀ aV,Bl w aV->(match c.W.kK p with | some j=>GN σ j != 1 | none=>false)=false->CB 23 #[pp X 0,.string (az p)] aV (.tuple #[.agg (iy (uC (fI c.W p) p).2).toArray,.int .i64 (uC (fI c.W p) p).1])) from by
  have Bd:=hs.all hc ae;have Dz:=Bd.fG.work W (fun _ _ _=>rfl);have h1:=WN W c.l.cK.B c.l.cK.d c.k.bZ Dz.bZ (by have:=hc.kV.nN;omega) (fun x ah=>by have:=(hc.kV.fair x ah).outs;omega) p;rw [XV] at h1;refine⟨?_,fun j aD=>⟨by rw [Bw];exact JZ c aD,fun aV Af=>by rw [Bv];exact aKC (hs.all hc Af).fG (JZ c aD)⟩,fun aV Af hk=>?_⟩
  ·rw [C8];cases hm:c.W.kK p with
   | none=>rw [hm] at h1;exact h1
   | some j =>
    rw [hm] at h1;simp only at h1;rw [show max (j:Int) 0=j by omega,show decide (0<=(j:Int))=true from decide_eq_true om] at h1;exact h1
  ·rw [Bb];refine aKy hc (hs.all hc Af) (Cw p aL) fun j aD=>⟨?_,fun h=>by cases h⟩;rw [aD] at hk;have Cz:GN σ j=1:=by simpa using hk
   cases ax:σ.got j with
   | none=>rw [GN,ax] at Cz;cases Cz
   | some o=>exact (hs.inv.right j o ax).2)
 obtain⟨_,EZ,_,DD⟩:=CE.o w (Below.refl _ _);have E8:=aa (ahR w Az qQ Bc);have E9:=aa (fun (W:aRB) (DF:W=w.alloc (.cells #[.slice Az qQ Bc] 24))=>show Calls prog 47 #[.func (.func 76) #[] #[pp w.heap.size 0],.func (.func 49) #[] #[]] W fun e w'=>∃ A' c2,e = .returned (.slice A' qQ c2)/\Own w' w.heap.size 9 1 A' qQ c2 (cu (rG c.k.ib))/\Bl w w' from by
  have ae:=gQ DF;have:=aKB W w.heap.size Az Bc c.k.ib (by have:=hc.kV.qQ;omega) (by rw [DF,Ai];exact aQt w _) (by rw [<- Ai];exact DD.gp ae);rw [<- Ai] at this;refine this.mono ?_;rintro e w' ⟨A',c2,rfl,CJ,Af⟩;exact⟨A',c2,rfl,CJ.mono ae.size,aR ae Af⟩)
 have EB:=aa (fun (W:aRB) (A:aRC) (c2:Nat) (CJ:Own W w.heap.size 9 1 A qQ c2 (cu (rG c.k.ib)))=>show CR 37 #[.slice A qQ c2] W (.slice A S.length c2) fun w'=>Own w' w.heap.size 9 1 A S.length c2 (cu S)/\W.grownBy w' (bV A) from by
  have hl:(rG c.k.ib).length=qQ:=by rw [DU,Ai]
  have:=ahQ W w.heap.size A c2 (rG c.k.ib) (by rw [hl];exact CJ) (by rw [hl,Ai];have:=hc.kV.qQ;omega);rw [hl] at this;rw [BA];exact this)
 have ED:=aa (show ais=S.filterMap (fileOf c.W σ) by rw [C9,BA];rfl);obtain⟨Aq,CK⟩:=ai S.length;have Bf:=aa CK;rw [<- CK] at Dx;rw [<- Bb,<- C9];clear Bb Bv Ct Cv Ai Bw C8 BA C9 Cw DD hs CK;go_enter func24,ntmps24;go_wp2_with (first
  | (go_at_call 48; refine jw E8.o ?_;intro Ec EG)
  | (go_at_call 47; refine (E9.o _ EG.o).mono ?_;rintro e af ⟨iD,c2,rfl,DL,Af⟩;have DN:=aa DL;have DR:=aa Af;clear DL Af)
  | (go_at_call 37; refine (EB.o _ iD c2 DN.o).mono ?_;rintro e aC ⟨rfl,DW,DX⟩;have EH:=aa DW;have CL:=aa (DR.o.grown DX DR.o.size (fun k e=>(DN.o.block k e).1));rw [<- Bf.o];clear DW DX))
 go_loopg [19,3] Aq (fun gk EI EK wr=>∃ (q:Nat) (A:aRC) (bF:Nat),q+gk=Aq/\EI = .int .i64 q/\EK = .slice A ((S.take q).filterMap (fileOf c.W σ)).length bF/\Own wr aC.heap.size 65 2 A ((S.take q).filterMap (fileOf c.W σ)).length bF (cz fO ((S.take q).filterMap (fileOf c.W σ)))/\Bl aC wr);case atStart=>exact⟨0,none,0,om,rfl,rfl,Own.nil _ _ _ _,Below.refl _ _⟩
 case round =>
  obtain⟨q,A,bF,Ee,rfl,CS,Bi,DY⟩:=hrel;obtain⟨I,Bn⟩:=ai ((S.take q).filterMap (fileOf c.W σ));rw [<- Bn] at CS Bi;obtain⟨n,Bo⟩:=ai I.length;rw [<- Bo] at CS Bi;subst CS;have Eg:n<=1000:=by rw [Bo,Bn];refine aQn (List.length_filterMap_le _ _) ?_;rw [List.length_take];omega
  obtain⟨AB,AJ,Au,A7⟩:=hq4 Bn Bo Bi DY;clear Bn Bo Bi DY;by_cases DZ:q < Aq
  ·have EL:(q:Int) < Aq:=om;have Ei:(0:Int)<=q:=om;obtain⟨p,ah⟩:∃ x,S[q]?=some x:=⟨_,aQp (by rw [<- Bf.o];exact DZ)⟩;have Da:p∈S:=aQr ah;have Aw:=aR CL.o A7.o;obtain⟨b,o,rfl,EM⟩:=Mt ((show Rd aC 1 iD Aq (cu S) by rw [Bf.o];exact EH.o.rd).gp A7.o) ah;obtain⟨P,BF⟩:=ai (az p);obtain⟨CU,Db,CV⟩:=Dy.o wr Aw p Da;obtain⟨gW,BG⟩:=ai ((uC (fI c.W p) p).2);obtain⟨qf,CW,AZ,CZ⟩:=nq2 gW.is gW.data;obtain⟨Ag,Ca⟩:=ai (az AZ);obtain⟨Dc,De⟩:∃ k:Int,k=(uC (fI c.W p) p).1:=⟨_,rfl⟩;obtain⟨bH,Cb⟩:=ai (iy gW);have Bp:bH=[.string P,.bool qf,.string Ag]:=by rw [Cb,BF,CW,Ca,CZ];have:=aKD hc p;rw [<- BG] at this;show [Value.string (az gW.path),_,_]=_;rw [this]
   obtain⟨Aa,BH⟩:=ai (fO (p,AZ));have Df:=aa BH;have Dg:=aa (show prog.built 65 [(0,.string P),(1,.string Ag)]=some Aa.toArray by rw [BH,BF,Ca];exact awc _ _);have hcs:(Value.agg Aa.toArray).cells.size=2:=by rw [BH];rfl
   have Dh:∀ v∈Aa,v.oneCell'=true:=by rw [BH];exact afl _
   have BI:bH.length=3:=by rw [Bp];rfl
   have Bq:Sz 80 bH.length:=by rw [BI];exact KZ
   have Br:∀ v∈bH,v.oneCell'=true:=by rw [Bp];simp [Value.oneCell']
   have Ah:=aa Bp;have Dk:=aa (show qf=(uC (fI c.W p) p).2.is by rw [<- BG];exact CW);have Dl:=aa (show AZ=(uC (fI c.W p) p).2.data by rw [<- BG];exact CZ);rw [<- BF,<- BG,<- Cb,<- De] at CV;have AV:=aa ah;rw [<- BF] at EM CU;have Ak:=aa CU;have Dm:=aa (fun aV (ae:Bl wr aV)=>CV aV (aR Aw ae));have EO:=aa (fun (j:Nat) (h:c.W.kK p=some j)=>Db j h);obtain⟨Em,_,Ce,_⟩:=CE.o wr Aw;have Dp:=aa (fun aV (ae:Bl wr aV)=>(CE.o aV (aR Aw ae)).2.2.1);have EP:=aa Aw;clear ah Da Aw BF CU Db CV BG CW CZ Ca De Cb Bp BH Ce;cases hm:c.W.kK p with
   | none =>
    rw [hm] at Ak;have Al:(match c.W.kK p with | some j=>GN σ j != 1 | none=>false)=false:=by rw [hm]
    have Bt:=aa (show CB 44 #[xX,.string P] wr (.tuple #[.int .i64 0,.bool false]) from Ak.o);clear hm Ak;go_upto_region 6 with (go_at_call 44; refine jw Bt.o ?_;intro Ay AA)
    have BJ:=aa (show fileOf c.W σ p=if qf=true then some (p,AZ) else none by rw [fileOf,Al,if_neg dc,<- Dk.o,<- Dl.o]);have BK:=aa (fun aV (ae:Bl wr aV)=>show CB 23 #[pp X 0,.string P] aV (.tuple #[.agg bH.toArray,.int .i64 Dc]) from Dm.o aV ae Al);clear Al;cases qf with
    | true =>
     have J:=aa (show fileOf c.W σ p=some (p,AZ) from BJ.o);go_wp2_with (first
      | (go_at_call 23; refine (BK.o _ AA.o).mono ?_;rintro e AL ⟨rfl,AO⟩;have Am:=aa (aR AA.o AO);clear AO)
      | ((with_reducible refine rP bH BI Bq Br ?_);intro Y Ao AP;have Ab:=aa (aR Am.o Ao.o);have Cf:Y.cell? (ad AL.heap.size 1)=some (.bool true):=(by rw [AP.o.cell 1,Ah.o];rfl);have Cg:Y.cell? (ad AL.heap.size 2)=some (.string Ag):=(by rw [AP.o.cell 2,Ah.o];rfl))
      | ((with_reducible refine Rc (.string P) (.string Ag) _ Dg.o ?_ ?_);exact⟨rfl,rfl⟩)
      | ((with_reducible refine BV KM (.agg Aa.toArray) hcs rfl ?_);intro ER Ap BL;rw [qD] at Ap;have BM:=aa Ap;have Ad:=aa (aR Ab.o BL);have BO:=aa (Au.o.below (Ad.o) (aQm _));have Ci:=aa (aQn A7.o.size Ad.o.size);clear Ap BL)
      | (at_builtin;have _t:=BM;go_must ((with_reducible refine ve 65 _ 2 32 underlying22 KM.info KM.zs aC.heap.size A n bF (cz fO I) BO.o 1 Aa (.slice (some ⟨Y.heap.size,0,none⟩) 1 1) (Src.slice underlying22 BM.o) Dh ?_ ?_ ?_ ?_ ?_);exact mO;omega;exact Ci.o;exact⟨rfl,rfl⟩;intro Ck Cm EU BP BQ Cn;have Co:=aa BP;have Cs:=aa ((aR A7.o Ad.o).grown BQ (aR A7.o Ad.o).size (fun k e=>(BO.o.block k e).1));clear BP BQ Cn)))
     go_roundg (gk - 1);case rel =>
      refine⟨q+1,Ck,Cm,om,by go_num,?_,?_,Cs.o⟩
      ·rw [NU _ AV.o,J.o,<- AB.o,List.length_append,<- AJ.o];rfl
      ·rw [NU _ AV.o,J.o,<- AB.o,List.length_append,<- AJ.o,show cz fO (I++(some (p,AZ)).toList)=cz fO I++Aa by rw [Df.o];simp [cz]];exact Co.o
     case measure=>omega
    | false =>
     have J:=aa (show fileOf c.W σ p=none from BJ.o);go_wp2_with (first
      | (go_at_call 23; refine (BK.o _ AA.o).mono ?_;rintro e AL ⟨rfl,AO⟩;have Am:=aa (aR AA.o AO);clear AO)
      | ((with_reducible refine rP bH BI Bq Br ?_);intro Y Ao AP;have Ab:=aa (aR Am.o Ao.o);have Cf:Y.cell? (ad AL.heap.size 1)=some (.bool false):=(by rw [AP.o.cell 1,Ah.o];rfl);have Cg:Y.cell? (ad AL.heap.size 2)=some (.string Ag):=(by rw [AP.o.cell 2,Ah.o];rfl)))
     go_roundg (gk - 1);case rel =>
      refine⟨q+1,A,bF,om,by go_num,?_,?_,aR A7.o Ab.o⟩
      ·rw [NU _ AV.o,J.o,<- AB.o,List.length_append,<- AJ.o];rfl
      ·rw [NU _ AV.o,J.o,<- AB.o,List.length_append,<- AJ.o,show I++(none:Option (ak × ak)).toList=I from List.append_nil _];exact Au.o.below Ab.o (aQm _)
     case measure=>omega
   | some j =>
    rw [hm] at Ak;obtain⟨Dq,Bu⟩:=EO.o j hm;have En:(j:Int) < dY:=om;have Eo:(0:Int)<=j:=om;obtain⟨Dr,BX⟩:∃ k:Nat,k=GN σ j:=⟨_,rfl⟩;rw [<- BX] at Bu;have Dt:=aa (fun aV (ae:Bl wr aV)=>Bu aV (aR EP.o ae));have Bt:=aa (show CB 44 #[xX,.string P] wr (.tuple #[.int .i64 j,.bool true]) from Ak.o);by_cases hk:Dr=1
    ·have Al:(match c.W.kK p with | some j=>GN σ j != 1 | none=>false)=false:=by rw [hm];simp only;rw [<- BX,hk];rfl
     subst hk;clear hm Ak Bu Dq BX;go_upto_region 6 with (go_at_call 44; refine Bt.o.mono ?_;rintro e Ay ⟨rfl,Ae⟩;have AA:=aa Ae;have Ce:=Dp.o Ay Ae;have EW:=Dt.o Ay Ae;clear Ae)
     have BJ:=aa (show fileOf c.W σ p=if qf=true then some (p,AZ) else none by rw [fileOf,Al,if_neg dc,<- Dk.o,<- Dl.o]);have BK:=aa (fun aV (ae:Bl wr aV)=>show CB 23 #[pp X 0,.string P] aV (.tuple #[.agg bH.toArray,.int .i64 Dc]) from Dm.o aV ae Al);clear Al;cases qf with
     | true =>
      have J:=aa (show fileOf c.W σ p=some (p,AZ) from BJ.o);go_wp2_with (first
       | (go_at_call 23; refine (BK.o _ AA.o).mono ?_;rintro e AL ⟨rfl,AO⟩;have Am:=aa (aR AA.o AO);clear AO)
       | ((with_reducible refine rP bH BI Bq Br ?_);intro Y Ao AP;have Ab:=aa (aR Am.o Ao.o);have Cf:Y.cell? (ad AL.heap.size 1)=some (.bool true):=(by rw [AP.o.cell 1,Ah.o];rfl);have Cg:Y.cell? (ad AL.heap.size 2)=some (.string Ag):=(by rw [AP.o.cell 2,Ah.o];rfl))
       | ((with_reducible refine Rc (.string P) (.string Ag) _ Dg.o ?_ ?_);exact⟨rfl,rfl⟩)
       | ((with_reducible refine BV KM (.agg Aa.toArray) hcs rfl ?_);intro ER Ap BL;rw [qD] at Ap;have BM:=aa Ap;have Ad:=aa (aR Ab.o BL);have BO:=aa (Au.o.below (Ad.o) (aQm _));have Ci:=aa (aQn A7.o.size Ad.o.size);clear Ap BL)
       | (at_builtin;have _t:=BM;go_must ((with_reducible refine ve 65 _ 2 32 underlying22 KM.info KM.zs aC.heap.size A n bF (cz fO I) BO.o 1 Aa (.slice (some ⟨Y.heap.size,0,none⟩) 1 1) (Src.slice underlying22 BM.o) Dh ?_ ?_ ?_ ?_ ?_);exact mO;omega;exact Ci.o;exact⟨rfl,rfl⟩;intro Ck Cm EU BP BQ Cn;have Co:=aa BP;have Cs:=aa ((aR A7.o Ad.o).grown BQ (aR A7.o Ad.o).size (fun k e=>(BO.o.block k e).1));clear BP BQ Cn)))
      go_roundg (gk - 1);case rel =>
       refine⟨q+1,Ck,Cm,om,by go_num,?_,?_,Cs.o⟩
       ·rw [NU _ AV.o,J.o,<- AB.o,List.length_append,<- AJ.o];rfl
       ·rw [NU _ AV.o,J.o,<- AB.o,List.length_append,<- AJ.o,show cz fO (I++(some (p,AZ)).toList)=cz fO I++Aa by rw [Df.o];simp [cz]];exact Co.o
      case measure=>omega
     | false =>
      have J:=aa (show fileOf c.W σ p=none from BJ.o);go_wp2_with (first
       | (go_at_call 23; refine (BK.o _ AA.o).mono ?_;rintro e AL ⟨rfl,AO⟩;have Am:=aa (aR AA.o AO);clear AO)
       | ((with_reducible refine rP bH BI Bq Br ?_);intro Y Ao AP;have Ab:=aa (aR Am.o Ao.o);have Cf:Y.cell? (ad AL.heap.size 1)=some (.bool false):=(by rw [AP.o.cell 1,Ah.o];rfl);have Cg:Y.cell? (ad AL.heap.size 2)=some (.string Ag):=(by rw [AP.o.cell 2,Ah.o];rfl)))
      go_roundg (gk - 1);case rel =>
       refine⟨q+1,A,bF,om,by go_num,?_,?_,aR A7.o Ab.o⟩
       ·rw [NU _ AV.o,J.o,<- AB.o,List.length_append,<- AJ.o];rfl
       ·rw [NU _ AV.o,J.o,<- AB.o,List.length_append,<- AJ.o,show I++(none:Option (ak × ak)).toList=I from List.append_nil _];exact Au.o.below Ab.o (aQm _)
      case measure=>omega
    ·have Ep:((Dr:Int) != 1)=true:=by simp;omega
     have J:=aa (show fileOf c.W σ p=none by rw [fileOf,hm];simp only;rw [if_pos (by rw [<- BX];simpa using hk)]);clear hm Ak Bu Dq BX hk;go_wp2_with (go_at_call 44; refine Bt.o.mono ?_;rintro e Ay ⟨rfl,Ae⟩;have AA:=aa Ae;have Ce:=Dp.o Ay Ae;have EW:=Dt.o Ay Ae;clear Ae);go_roundg (gk - 1);case rel =>
      refine⟨q+1,A,bF,om,by go_num,?_,?_,aR A7.o AA.o⟩
      ·rw [NU _ AV.o,J.o,<- AB.o,List.length_append,<- AJ.o];rfl
      ·rw [NU _ AV.o,J.o,<- AB.o,List.length_append,<- AJ.o,show I++(none:Option (ak × ak)).toList=I from List.append_nil _];exact Au.o.below AA.o (aQm _)
     case measure=>omega
  ·have EL:¬ (q:Int) < Aq:=om;have EY:=aa (show I=ais by rw [AB.o,ED.o,List.take_of_length_le (by rw [<- Bf.o];omega)]);clear DZ;go_wp2_with fail;go_ret;rw [<- EY.o,<- AJ.o];exact⟨A,bF,rfl,Au.o.mono CL.o.size,aR CL.o A7.o⟩
structure ab1 where
 jA:Nat
 cZ:Option Addr
 rc:Nat
 kQ:Option Addr
 jy:Nat
 jX:Option Addr
 kC:Nat
def zM (n xW alF jv:Nat) (L:ab1):List Value:=[.slice (some ⟨L.jA,0,none⟩) n n,.slice L.cZ xW L.rc,.slice L.kQ alF L.jy,.slice L.jX jv L.kC]
def ab2:List Value:=[.slice none 0 0,.slice none 0 0,.slice none 0 0,.slice none 0 0]
structure VM (W:aRB) (B n:Nat) (σ:bI) (aW:aRG) (fs:List (ak × ak)) (L:ab1):Prop where
 R6:B<=L.jA
 outs:∃ OL:Nat->lK,aM W L.jA (uV σ OL n) 63 /\ ∀ i o,σ.got i=some o->nC W B o (OL i)
 dZ:Own W B 3 1 L.cZ σ.dZ.length L.rc (AR σ.dZ)
 Sm:Own W B 3 1 L.kQ aW.length L.jy (AR aW)
 files:Own W B 65 2 L.jX fs.length L.kC (cz fO fs)
theorem VM.keep {W W':aRB} {B n:Nat} {fs:List (ak × ak)} {L:ab1} (h:VM W B n σ aW fs L) (hk:∀ q,B<=q->q < W.heap.size->W'.heap[q]?=W.heap[q]?):VM W' B n σ aW fs L:=by obtain⟨OL,h1,I⟩:=h.outs;exact⟨h.R6,⟨OL,(hk _ h.R6 h1.lt).trans h1,fun i o e=>⟨(I i o e).outs.keep fun b _=>hk b,(I i o e).reads.keep fun b _=>hk b⟩⟩,h.dZ.keep fun b _=>hk b,h.Sm.keep fun b _=>hk b,h.files.keep fun b _=>hk b⟩
structure Yd (S:uA) (w w':aRB):Prop where
 os:w'.os=w.os
 tape:w'.tape=w.tape
 output:w'.output=w.output
 size:w.heap.size<=w'.heap.size
 keep:∀ q,q < w.heap.size->q≠S.ja->q≠S.gs->q≠S.lJ->w'.heap[q]?=w.heap[q]?
def Ye (s dY:Nat) (NW L8:aRD) (j:Nat) (v:Value) (w:aRB):Prop :=
 (j=3->∃ g,v = .slice (some ⟨g,0,none⟩) dY dY/\aM w g NW 4 /\ s<=g)/\(j=5->∃ g,v = .slice (some ⟨g,0,none⟩) dY dY/\aM w g L8 63 /\ s<=g)/\(j=6->∃ g,v = .agg #[.slice (some ⟨g,0,none⟩) dY dY,.slice none 0 0,.slice none 0 0,.slice none 0 0]/\aM w g L8 63 /\ s<=g)
theorem Ye.keep {s dY:Nat} {NW L8:aRD} (h:Ye s dY NW L8 j v w) (ae:Bl w w'):Ye s dY NW L8 j v w' :=
 ⟨fun e=>(h.1 e).imp fun g h=>⟨h.1,h.2.1.all ae,h.2.2⟩,fun e=>(h.2.1 e).imp fun g h=>⟨h.1,h.2.1.all ae,h.2.2⟩,fun e=>(h.2.2 e).imp fun g h=>⟨h.1,h.2.1.all ae,h.2.2⟩⟩
theorem aKF (A:aRC) (n c:Nat):prog.built 39 [(0,.slice A n c)]=some #[.slice A n c,.slice none 0 0,.slice none 0 0,.slice none 0 0]:=kr
theorem aKG (A:aRC) (n c:Nat) (B:aRC) (gH d:Nat) (C:aRC) (mY e:Nat) (keep:Bool) (t:TypeId) (p:aRC) (D:aRC) (m m2:Nat) (E:aRC) (m3 m4:Nat):prog.built 78 [(0,.agg #[.slice A n c,.slice B gH d,.slice C mY e,.bool keep]),(1,.iface t (.pointer p)),(2,.slice D m m2),(3,.agg #[.slice E m3 m4,.slice none 0 0,.slice none 0 0,.slice none 0 0])]=some #[.slice A n c,.slice B gH d,.slice C mY e,.bool keep,.iface t (.pointer p),.slice D m m2,.slice E m3 m4,.slice none 0 0,.slice none 0 0,.slice none 0 0]:=kr
theorem aKH (w:aRB) (m:Nat) (hm:m<=1000) (σ:bI) (ae:∀ i,σ.begun i=false):(Instr.makeSlice 76 (.int .i64 (m:Int)) (.int .i64 (m:Int))).run prog w = .ok (.slice (some ⟨w.heap.size,0,none⟩) m m) (w.alloc (.cells (yu σ m).toArray 4)):=by
 have h:(prog.info? 4).map (fun i=>(i.zero,i.size,i.bytes))=some (some (.bool false),1,1):=kr;cases I:prog.info? 4 with
 | none=>rw [I] at h;cases h
 | some i =>
  rw [I] at h;simp only [Option.map_some,Option.some.injEq,Prod.mk.injEq] at h;obtain⟨J,hs,M⟩:=h;rw [run_make w 76 4 i (.bool false) underlying76 I J .i64 .i64 m m om (Int.le_refl _) (by rw [M];omega) om,Int.toNat_natCast,hs,Nat.mul_one];have e:madeCells (Value.bool false).cells m=(yu σ m).toArray:=by have:=toList_madeCells_one (Value.bool false) m;rw [show (Value.bool false).cells=#[Value.bool false] from rfl,<- Array.toArray_toList (xs:=madeCells #[Value.bool false] m),this];congr 1;unfold yu;rw [List.map_congr_left (g:=fun _=>Value.bool false) (fun i _=>by rw [ae i]),List.map_const',List.length_range]
  rw [e]
theorem aKI (w:aRB) (m:Nat) (hm:m<=1000) (σ:bI) (OL:Nat->lK) (ae:∀ i,σ.got i=none):(Instr.makeSlice 36 (.int .i64 (m:Int)) (.int .i64 (m:Int))).run prog w = .ok (.slice (some ⟨w.heap.size,0,none⟩) m m) (w.alloc (.cells (uV σ OL m).toArray 63)):=by
 have h:(prog.info? 63).map (fun i=>(i.zero,i.size,i.bytes))=some (some (.agg iG.toArray),4,64):=kr;cases J:prog.info? 63 with
 | none=>rw [J] at h;cases h
 | some i =>
  rw [J] at h;simp only [Option.map_some,Option.some.injEq,Prod.mk.injEq] at h;obtain⟨M,hs,Y⟩:=h;rw [run_make w 36 63 i (.agg iG.toArray) underlying36 J M .i64 .i64 m m om (Int.le_refl _) (by rw [Y];omega) om,Int.toNat_natCast,hs];have e:madeCells (Value.agg iG.toArray).cells (m * 4)=(uV σ OL m).toArray:=by
   rw [show (Value.agg iG.toArray).cells=iG.toArray from rfl,<- Array.toArray_toList (xs:=madeCells iG.toArray (m * 4))];congr 1;apply List.ext_getElem?;intro j;have hl:(uV σ OL m).length=m * 4:=by rw [uV,amk,List.length_range]
   by_cases aD:j < m * 4
   ·have AA:j % 4 < 4:=Nat.mod_lt _ dc;have A7:(uU (σ.got (j / 4)) (OL (j / 4)))[j % 4]?=some (iG.toArray[j % 4]!):=by rw [ae];show iG[j % 4]?=_;have I:j % 4=0\/j % 4=1\/j % 4=2\/j % 4=3:=om;rcases I with I | I | I | I <;> rw [I] <;> rfl
    have:=KR (f:=fun i=>uU (σ.got i) (OL i)) (fun i=>SL _ _) (aRo (show j / 4 < m by omega)) (j % 4) _ A7;rw [show j / 4 * 4+j % 4=j by omega] at this;rw [uV,this];simp [madeCells,aD,iG]
   ·rw [List.getElem?_eq_none (show (madeCells iG.toArray (m * 4)).toList.length<=j by rw [Array.length_toList,size_madeCells];omega),List.getElem?_eq_none (by rw [hl];omega)]
  rw [e]
def awj:List TypeId:=[92,86,89]
theorem rY.turned {W W':aRB} {l:uA} {n:Nat} {gm:Nat->List UInt8} {df:Nat->lI} {met:List ak} {bG:Nat->Bool} {has:ak->Bool} (h:rY W l aI n gm df met bG has) (lC:aM W g Z ty) (aA:fU g W W') (h1:ty ∉ Fv) (ag:ty ∉ awj):rY W' l aI n gm df met bG has:=by
 have Y:∀ {k:Nat} {cs:Array Value} {t:TypeId} {bf:Nat × Nat},W.heap[k]?=some (.cells cs t bf)->t≠ty->W'.heap[k]?=W.heap[k]?:=fun {k cs t bf} hk A7=>aA.2.2.2.2 k fun e=>by
  rw [e,lC] at hk;injection hk with hk
  injection hk with _ hk
  exact A7 hk.symm
 have AO:∀ {k:Nat} {o:Obj},W.heap[k]?=some o->o.isCells=false->W'.heap[k]?=W.heap[k]?:=fun {k o} hk A7=>aA.2.2.2.2 k fun e=>by
  rw [e,lC] at hk;cases hk;cases A7
 have AA:∀ {base aO n c2:Nat} {t:TypeId} {A:aRC} {ys:aRD},Own W base t aO A n c2 ys->t∈Fv->Own W' base t aO A n c2 ys:=fun AV e=>iJ AV lC (fun I=>h1 (I ▸ e)) aA;have AB:∀ {t:TypeId},t∈awj->t≠ty:=fun e I=>ag (I ▸ e);obtain⟨M,hm,AZ⟩:=h.store;obtain⟨M2,Aa,Ab,AP⟩:=h.bG.map;obtain⟨⟨Ae,AJ,I⟩,⟨Af,AL,J⟩,_⟩:=h.kinds;refine⟨(Y h.row (AB dc)).trans h.row,⟨(Y h.bG.obj (AB dc)).trans h.bG.obj,h.bG.far,M2,Aa.keep (AO AJ I),Ab,fun j aD=>⟨fun e=>?_,(AP j aD).2⟩⟩,⟨M,⟨(Y hm.obj (AB dc)).trans hm.obj,hm.map.keep (AO AL J)⟩,AZ⟩,h.far,h.ne⟩;obtain⟨y,AJ,I,L,AL,J,Ad⟩:=(AP j aD).1 e;exact⟨y,AJ,I,L,AA AL dc,⟨AA J.reads dc,AA J.outs dc⟩,Ad⟩
def jo.X (k:jo):List kI:=k.bZ.map (·.2)
noncomputable def jo.W (k:jo):pV:=nQ k.files k.X
structure FC (k:jo):Prop where
 work:abg k.files k.X
 kV:U5 k
 env:∀ a∈k.X,Gh ⟨eF,a.env⟩
 wide:∀ x∈k.bZ,XR x.2
structure Yf (k:jo) (met:List ak):Prop where
 apart:IK met
 few:met.length<=1000
 keys:∀ i j,i < k.bZ.length->j < k.bZ.length->i≠j->NC k.X i≠NC k.X j
 outs:∀ i,i < k.bZ.length->∀ x∈(bE k.W i).outs,x.2∈met
def jo.dN (k:jo) (i:Nat):Prop:=∃ p∈k.ib,k.W.kK p=some i
def Cx (bG:Nat->Bool) (has:ak->Bool):bI:=⟨fun _=>false,fun _=>none,[],bG,has⟩
def agv (k:jo) (keep:Bool) (met:List ak) (bG:Nat->Bool) (has:ak->Bool) (l:Dv):dL:=⟨k,keep,k.dN,Cx bG has,met,l⟩
theorem FC.fit {k:jo} (h:FC k) (keep:Bool) (met:List ak) (bG:Nat->Bool) (has:ak->Bool) (l:Dv):(agv k keep met bG has l).Fit:=⟨h.work,h.kV,h.env,fun i I=>by
 obtain⟨p,_,aL⟩:=I;exact JZ (agv k keep met bG has l) aL,h.wide⟩
structure GU (k:jo) (keep:Bool) (awk:Nat->Bool) (awl:ak->Bool) (σ:bI) (aW:aRG):Prop where
 inv:vZ k.W k.dN (Cx awk awl) [] σ
 log:AQ (Cx awk awl) σ aW
 kept:∀ i,σ.bG i=true->Bh k.W σ i
 full:keep=true->∀ p∈k.ib,∀ i,k.W.kK p=some i->σ.begun i=true
def awm (w:aRB) (k:jo) (keep:Bool) (S:uA) (aI:aRI) (met:List ak) (bG:Nat->Bool) (has:ak->Bool) (e:Ending) (w':aRB):Prop :=
 ∃ σ aW L fB,e = .returned (.tuple #[.agg (zM k.bZ.length σ.dZ.length aW.length (o9 k.W σ k.ib).length L).toArray,.int .i64 0])/\VM w' w.heap.size k.bZ.length σ aW (o9 k.W σ k.ib) L/\rY w' S fB k.bZ.length (NC k.X) (XN k.files k.X) met σ.bG σ.has/\Yd S w w'/\GU k keep bG has σ aW/\∀ q,fB q->aI q\/w.heap.size<=q
def AX (l:List (ak × ak)):Nat:=(l.map fun x=>1+(x.1.length+x.2.length) / 64).sum
def wZ (l:List iP):Nat:=(l.map fun x=>x.2.env.length+x.2.ins.length+x.2.asks.length+x.2.outs.length+x.2.tool.length / 64).sum
def Cy (k:jo):Bool:=decide (8 < k.bZ.length) || (decide (120 < AX k.files+wZ k.bZ) || decide (20 < k.ib.length))
structure awn (k:jo):Prop where
 jv:k.files.length<=1048576
 Lm:∀ x∈k.files,x.1.length<=1048576/\x.2.length<=1048576
 nN:k.bZ.length<=1048576
 xX:∀ x∈k.bZ,x.2.env.length<=1048576/\x.2.ins.length<=1048576/\x.2.asks.length<=1048576/\x.2.outs.length<=1048576/\x.2.tool.length<=1048576
 qQ:k.ib.length<=1048576
theorem awo:∀ l:List (ak × ak),(∀ x∈l,x.1.length<=1048576/\x.2.length<=1048576)->AX l<=l.length * 40000
 | [],_=>by simp [AX]
 | x :: l,h=>by
  have h1:=awo l fun y hy=>h y (aQQ _ hy);have I:=h x sp;simp only [AX,List.map_cons,List.sum_cons,List.length_cons] at h1 |-;omega
theorem awp:∀ l:List iP,(∀ x∈l,x.2.env.length<=1048576/\x.2.ins.length<=1048576/\x.2.asks.length<=1048576/\x.2.outs.length<=1048576/\x.2.tool.length<=1048576)->wZ l<=l.length * 8000000
 | [],_=>by simp [wZ]
 | x :: l,h=>by
  have h1:=awp l fun y hy=>h y (aQQ _ hy);have I:=h x sp;simp only [wZ,List.map_cons,List.sum_cons,List.length_cons] at h1 |-;omega
theorem aKJ {l:List (ak × ak)} {x:ak × ak} (h:l[q]?=some x):AX (l.take (q+1))=AX (l.take q)+(1+(x.1.length+x.2.length) / 64):=by rw [List.take_add_one,h];simp [AX]
theorem awq {l:List iP} (h:l[q]?=some x):wZ (l.take (q+1))=wZ (l.take q)+(x.2.env.length+x.2.ins.length+x.2.asks.length+x.2.outs.length+x.2.tool.length / 64):=by rw [List.take_add_one,h];simp [wZ]
theorem awr (w:aRB) (k:jo) (cK:xU) (keep:Bool) (hA:wT w k cK) (hk:awn k) :
  CB 19 #[.agg (rA k cK keep).toArray] w (.bool (Cy k)):=by
 obtain⟨Az,Af⟩:=ai (rA k cK keep);obtain⟨aF,AV⟩:=ai (w.alloc (.cells Az.toArray 26));have BA:=gQ AV;have BF:=lH AV;obtain⟨dY,Y,jv,AZ,qQ,Aa⟩:=nq3 k.bZ.length k.files.length k.ib.length;have Br:jv<=1048576:=by rw [AZ];exact hk.jv
 have Bt:dY<=1048576:=by rw [Y];exact hk.nN
 have Bu:qQ<=1048576:=by rw [Aa];exact hk.qQ
 have Ab:=aa (fun W (ae:Bl aF W)=>show Bl w W/\aM W w.heap.size Az 26 /\ wT W k cK from by
  have h1:=aR BA ae;exact⟨h1,BF.all ae,hA.all h1⟩)
 have Ag:=aa (fun W (ae:Bl aF W)=>show W.cell? (ad w.heap.size 0)=some (.slice cK.A jv cK.c)/\W.cell? (ad w.heap.size 1)=some (.slice cK.B dY cK.d)/\W.cell? (ad w.heap.size 2)=some (.slice cK.C qQ cK.e) from by
  have h1:=(Ab.o W ae).2.1;rw [Af] at h1;rw [Y,AZ,Aa];exact⟨h1.cell 0,h1.cell 1,h1.cell 2⟩)
 have BQ:=aa (fun q:Nat=>show AX (k.files.take q)<=1048576 * 40000 from by
  refine aQn (awo _ fun x ah=>hk.Lm x (List.mem_of_mem_take ah)) (aQP _ ?_);rw [List.length_take];omega)
 have BX:=aa (fun q:Nat=>show wZ (k.bZ.take q)<=1048576 * 8000000 from by
  refine aQn (awp _ fun x ah=>hk.xX x (List.mem_of_mem_take ah)) (aQP _ ?_);rw [List.length_take];omega)
 have Bb:=aa hk.Lm;have Bc:=aa hk.xX;have BG:=aa Y;have Ad:=aa AZ;have iC:=(Ag.o aF (Below.refl _ _)).1;obtain⟨jX,A7,Bv,AA⟩:=nq2 cK.A cK.B;have Bd:=aa A7;have BH:=aa AA;rw [<- A7] at iC;have BI:Cy k=(decide (8 < dY) || (decide (120 < AX k.files+wZ k.bZ) || decide (20 < qQ))):=by rw [Y,Aa];rfl
 have Bf:=aa BI;rw [<- Af];have Bw:=AV.symm;clear AV BA BF Af Y AZ Aa hk hA A7 AA BI;go_enter func19,ntmps19;go_wp2_with fail;go_loopg [11,3] jv (fun gk Ah Ai wr=>∃ q:Nat,q+gk=jv/\Ah = .int .i64 q/\Ai = .int .i64 ((AX (k.files.take q):Nat):Int)/\Bl aF wr);case atStart=>exact⟨0,om,rfl,rfl,Below.refl _ _⟩
 case round =>
  obtain⟨q,C8,rfl,AB,AJ⟩:=hrel;have AL:=aa AJ;obtain⟨S,I⟩:=ai (AX (k.files.take q));rw [<- I] at AB;subst AB;have C9:S<=41943040000:=by rw [I];exact BQ.o q
  have BJ:=aa I;clear AJ I;by_cases M:q < jv
  ·have Ak:(q:Int) < jv:=om;have Bi:(0:Int)<=q:=om;obtain⟨x,ah⟩:∃ x,k.files[q]?=some x:=⟨_,aQp (by rw [<- Ad.o];exact M)⟩;obtain⟨b,o,A7,J⟩:=vE (f:=fO) (k:=2) (fun _=>rfl) underlying65 rfl kr (show Rd wr 2 jX jv (cz fO k.files) by rw [Bd.o,Ad.o];exact (Ab.o wr AL.o).2.2.files) ah Ad.o.symm;subst A7;have Ae:=Bb.o x (aQr ah);obtain⟨P,Al,D,Am⟩:=nq2 (az x.1) (az x.2);have BK:P.size=x.1.length:=by rw [Al,iM]
   have BL:D.size=x.2.length:=by rw [Am,iM]
   have AO:=aa (show AX (k.files.take (q+1))=S+(1+(P.size+D.size) / 64) by rw [aKJ ah,BJ.o,BK,BL]);obtain⟨p,aL,d,Ao⟩:=nq2 P.size D.size;have CE:p<=1048576:=om;have CJ:d<=1048576:=om;rw [show fO x=[.string P,.string D] by rw [Al,Am];rfl] at J;rw [<- aL,<- Ao] at AO;have Ap:=aa J;have CK:=aL.symm;have CL:=Ao.symm;have hdiv:Int.tdiv ((p:Int)+d) 64=(((p+d) / 64:Nat):Int):=rfl;have Bn:(p+d) / 64<=40000:=om;clear ah Al Am J Ae M BK BL aL Ao;go_upto_region 5 with (first
    | ((with_reducible refine pY Ap.o ?_ ?_);exact rfl))
   go_wp2_with fail;go_roundg (gk - 1);case rel =>
    refine⟨q+1,om,by go_num,?_,(AL.o.alloc AL.o.size _)⟩;rw [AO.o];go_num
   case measure=>omega
  ·have Ak:¬ (q:Int) < jv:=om;obtain rfl:q=jv:=om;have Bo:=aa (show S=AX k.files by
    have h:=BJ.o;rwa [List.take_of_length_le (by rw [Ad.o];exact Nat.le_refl _)] at h)
   have El:=(Ag.o wr AL.o).2.1;rw [<- BH.o] at El;clear M iC;go_wp2_with fail;go_loopg [30,3] dY (fun gk Ah Ai wr=>∃ q:Nat,q+gk=dY/\Ah = .int .i64 q/\Ai = .int .i64 ((S+wZ (k.bZ.take q):Nat):Int)/\Bl aF wr);case atStart=>exact⟨0,om,rfl,rfl,AL.o⟩
   case round =>
    obtain⟨gB,CS,rfl,AB,AJ⟩:=hrel;have AP:=aa AJ;obtain⟨BM,I⟩:=ai (wZ (k.bZ.take gB));rw [<- I] at AB;subst AB;have CU:BM<=8388608000000:=by rw [I];exact BX.o gB
    have BO:=aa I;clear AJ I;by_cases M:gB < dY
    ·have Ak:(gB:Int) < dY:=om;have Bi:(0:Int)<=gB:=om;obtain⟨x,ah⟩:∃ x,k.bZ[gB]?=some x:=⟨_,aQp (by rw [<- BG.o];exact M)⟩;obtain⟨b,o,AA,J⟩:=(Ab.o wr AP.o).2.2.bZ.load ah;rw [<- BH.o] at AA;subst AA;have Ae:=Bc.o x (aQr ah);have AO:=aa (awq ah);obtain⟨L,a⟩:=x;obtain⟨pk,nm,CV,CW,CZ,Ca,Kz,j3,fe,wJ⟩:=L;obtain⟨T,Aq⟩:=ai (az a.tool);have Bp:T.size=a.tool.length:=by rw [Aq,iM]
     obtain⟨Cb,h1,Ce,Au,Cf,Aw,Cg,Ay,n5,BP⟩:=nq5 a.env.length a.ins.length a.asks.length a.outs.length a.tool.length;simp only [<- h1,<- Au,<- Aw,<- Ay,<- BP] at Ae AO Bp;obtain⟨Ci,z2,z3,z4,z5⟩:=Ae;unfold nz at J;simp only [<- h1,<- Au,<- Aw,<- Ay,<- Aq] at J;have Ap:=aa J;have hdiv:Int.tdiv (n5:Int) 64=((n5 / 64:Nat):Int):=rfl;have Bn:n5 / 64<=16384:=om;clear ah Aq J M h1 Au Aw Ay BP;go_upto_region 10 with (first
      | ((with_reducible refine pY Ap.o ?_ ?_);exact rfl))
     go_wp2_with fail;go_roundg (gk - 1);case rel =>
      refine⟨gB+1,om,by go_num,?_,(AP.o.alloc AP.o.size _)⟩;rw [AO.o,<- BO.o];go_num
     case measure=>omega
    ·have Ak:¬ (gB:Int) < dY:=om;obtain rfl:gB=dY:=om;have Bq:=aa (show BM=wZ k.bZ by
      have h:=BO.o;rwa [List.take_of_length_le (by rw [BG.o];exact Nat.le_refl _)] at h)
     obtain⟨_,El,Ck⟩:=Ag.o wr AP.o;clear M;go_wp2_with fail;all_goals
      go_ret;refine⟨?_,(Ab.o wr AP.o).1⟩;rw [Bf.o,<- Bo.o,<- Bq.o];refine congrArg (fun b=>Ending.returned (Value.bool b)) (Bool.eq_iff_iff.2 ?_);simp;omega
end
section
structure L9 (k:jo):Prop extends awn k where
 U6:∀ x∈k.ib,x.length<=1048576
 FO:∀ x∈k.bZ,(∀ y∈x.2.ins,y.length<=1048576)/\(∀ y∈x.2.asks,y.length<=1048576)/\(∀ y∈x.2.outs,y.length<=1048576)/\∀ y∈x.2.env,y.1.length<=1048576/\y.2.length<=1048576
theorem amH:∀ {l:List (ak × ak)} {x:ak × ak},x∈l->1+(x.1.length+x.2.length) / 64<=AX l
 | y :: l,x,h=>by
  simp only [AX,List.map_cons,List.sum_cons];rcases aQw.1 h with rfl | h
  ·omega
  ·have:=amH h;simp only [AX] at this;omega
theorem awz:∀ {l:List iP} {x:iP},x∈l->x.2.env.length+x.2.ins.length+x.2.asks.length+x.2.outs.length+x.2.tool.length / 64<=wZ l
 | y :: l,x,h=>by
  simp only [wZ,List.map_cons,List.sum_cons];rcases aQw.1 h with rfl | h
  ·omega
  ·have:=awz h;simp only [wZ] at this;omega
theorem agx:∀ l:List (ak × ak),l.length<=AX l
 | []=>by simp
 | x :: l=>by
  have:=agx l;simp only [AX,List.map_cons,List.sum_cons,List.length_cons] at this |-;omega
theorem awC:∀ l:List iP,((l.map (·.2)).flatMap (·.outs)).length<=wZ l
 | []=>by simp
 | x :: l=>by
  have:=awC l;simp only [wZ,List.map_cons,List.sum_cons,List.flatMap_cons,List.length_append] at this |-;omega
section
variable {k:jo} (h:L9 k) (ax:Cy k=false)
theorem agy (ax:Cy k=false):k.bZ.length<=8/\AX k.files+wZ k.bZ<=120/\k.ib.length<=20:=by simp [Cy] at ax;omega
theorem L9.fair (h:L9 k) (ax:Cy k=false) (ah:x∈k.bZ):Fair x.2/\XR x.2:=by obtain⟨_,A7,_⟩:=agy ax;have AA:=awz ah;obtain⟨I,J,M,Y⟩:=h.FO x ah;have AB:=(h.xX x ah).2.2.2.2;have hl:∀ n,n<=1048576->n<=1100000:=fun n AJ=>om;exact⟨⟨om,om,om,om,om,fun y hy=>hl _ (I y hy),fun y hy=>hl _ (J y hy),fun y hy=>hl _ (M y hy)⟩,⟨om,om,om,om,om,fun y hy=>hl _ (I y hy),fun y hy=>hl _ (J y hy),fun y hy=>hl _ (M y hy),fun y hy=>⟨hl _ (Y y hy).1,hl _ (Y y hy).2⟩⟩⟩
theorem L9.ok (h:L9 k) (ax:Cy k=false):U5 k:=by
 obtain⟨h1,I,J⟩:=agy ax;have M:=agx k.files;refine⟨om,fun x ah=>?_,om,fun x ah=>(h.fair ax ah).1,om,fun x ah=>?_⟩
 ·have:=amH ah;omega
 ·have:=h.U6 x ah;omega
theorem L9.fit (h:L9 k) (ax:Cy k=false) (hc:o7 k=0):FC k:=by
 obtain⟨h1,AA,AB⟩:=agy ax;have AJ:=agx k.files;have Y:=awC k.bZ;have aL:zD [] k.bZ=0:=by
  unfold o7 at hc;split at hc
  ·contradiction
  ·split at hc
   ·contradiction
   ·rename_i _ h;simpa using h
 obtain⟨A7,M⟩:=als aL aRb;have J:∀ a∈k.X,∃ x∈k.bZ,x.2=a:=fun a I=>aQv.1 I;refine⟨⟨⟨?_,fun x ah=>?_,fun a I=>?_⟩,fun a I=>?_,?_,fun a I=>?_⟩,h.ok ax,fun a I=>⟨rfl,?_,?_⟩,fun x ah=>(h.fair ax ah).2⟩
 ·rw [List.length_map];show k.files.length+(k.X.flatMap (·.outs)).length<=150;have:(k.X.flatMap (·.outs)).length<=wZ k.bZ:=Y;omega
 ·have:=amH ah;omega
 ·obtain⟨x,ah,rfl⟩:=J a I;exact (h.fair ax ah).2.tool
 ·obtain⟨x,ah,rfl⟩:=J a I;exact A7 x ah
 ·have:BZ k.bZ=k.X.flatMap (·.outs):=by rw [BZ,jo.X,List.flatMap_map]
  rw [List.nil_append,this] at M;exact M
 ·obtain⟨x,ah,rfl⟩:=J a I;have:=(h.fair ax ah).1;exact⟨this.env,this.ins,this.asks,this.outs⟩
 ·obtain⟨x,ah,rfl⟩:=J a I;have:=(h.fair ax ah).1.env;show x.2.env.length<=1000000;omega
 ·obtain⟨x,ah,rfl⟩:=J a I;exact (h.fair ax ah).2.KD
end
end
section
open Go.ChangeMaps Go.MapKept Go.Maps Go.RowKit Go.WideAt Go.WideMaps
section
variable {α:Type} {enc:α->Value} {w w':aRB} {b n k:Nat} {f:Nat->Option α} {t e:TypeId} (wH:∀ a b,enc a=enc b->a=b)
theorem ab5 {k:Nat} (hk:k < 1000):keyOf prog 3 (.int .i64 (k:Int))=some (.int .i64 (k:Int)):=Maps.keyOf_int_mk underlying3 (by simp [Lit.wf,IntKind.min,IntKind.max,IntKind.signed,IntKind.bits];omega)
def kg (w:aRB) (enc:α->Value) (b n:Nat) (f:Nat->Option α):Prop:=∃ D:DataW α,w.ownsMap prog 3 (Oe enc) b n D/\∀ k:Nat,k < 1000->has D (.int .i64 (k:Int))=(f k).isSome/\∀ z,D.atKey (.int .i64 (k:Int)) z=match f k with | some a=>.held a | none=>z
theorem kg.made (w:aRB):kg (w.alloc (.map #[] 0)) enc w.heap.size 0 (fun _=>none):=⟨.map [],World.ownsMap_made w _ _ _,fun k _=>⟨by simp [has],fun z=>by simp [DataW.atKey]⟩⟩
theorem kg.lt (h:kg w enc b n f):b < w.heap.size:=by obtain⟨D,h,_⟩:=h;exact World.ownsMap.lt h
theorem kg.keep (h:kg w enc b n f) (ae:w'.heap[b]?=w.heap[b]?):kg w' enc b n f:=by obtain⟨D,⟨es,clock,I,F,hs,J⟩,M⟩:=h;exact⟨D,⟨es,clock,ae.trans I,F,hs,J⟩,M⟩
theorem kg.obj (h:kg w enc b n f):∃ o,w.heap[b]?=some o/\o.isCells=false:=by obtain⟨D,⟨es,clock,I,F,hs,J⟩,M⟩:=h;exact⟨_,I,rfl⟩
theorem kg.look_ok (wH:∀ a b,enc a=enc b->a=b) (h:kg w enc b n f) (hk:k < 1000) (aA:prog.underlying t=some (.map 3 e)) (z0:α) (dB:(zeroValue e).run prog w = .ok (enc z0) w) :
  (Instr.lookup t (.map (some b)) (.int .i64 (k:Int)) true).run prog w = .ok (.tuple #[enc ((f k).getD z0),.bool (f k).isSome]) w:=by
 obtain⟨D,h,J⟩:=h;obtain⟨v,ps,M,Y⟩:=World.ownsMap.look_ok h (aRp underlying3) aA dB (Kl wH z0) (ab5 hk);rw [(J k hk).1] at M;rw [(J k hk).2] at Y;obtain⟨a,rfl,I⟩:=Tx Y;rw [M];cases ax:f k with
 | none=>simp only [ax,DataW.held.injEq] at I;subst I;rfl
 | some x=>simp only [ax,DataW.held.injEq] at I;subst I;rfl
theorem kg.look (wH:∀ a b,enc a=enc b->a=b) (h:kg w enc b n f) (hk:k < 1000) (aA:prog.underlying t=some (.map 3 e)) (z0:α) (dB:(zeroValue e).run prog w = .ok (enc z0) w) :
  (Instr.lookup t (.map (some b)) (.int .i64 (k:Int)) false).run prog w = .ok (enc ((f k).getD z0)) w:=by
 obtain⟨D,h,M⟩:=h;obtain⟨v,ps,Y,J⟩:=aRr h (aRp underlying3) aA dB (Kl wH z0) (ab5 hk);rw [(M k hk).2] at J;obtain⟨a,rfl,I⟩:=Tx J;rw [Y];cases ax:f k with
 | none=>simp only [ax,DataW.held.injEq] at I;subst I;rfl
 | some x=>simp only [ax,DataW.held.injEq] at I;subst I;rfl
theorem kg.update (wH:∀ a b,enc a=enc b->a=b) (h:kg w enc b n f) (hk:k < 1000) (aA:prog.underlying t=some (.map 3 e)) (aB:n < maxLen) (a:α) :
  ∃ w',(Instr.mapUpdate t (.map (some b)) (.int .i64 (k:Int)) (enc a)).run prog w = .ok () w'/\kg w' enc b (n+1) (fun j=>if j=k then some a else f j)/\fU b w w':=by
 obtain⟨D,h,I⟩:=h;obtain⟨w',Y,A7,AA⟩:=World.ownsMap.store h (aRp underlying3) aA aB (ab5 hk) (Kl wH a);have J:=World.ownsMap.isMap h;have hl:=(aRp underlying3).key (ab5 hk);refine⟨w',Y,⟨_,A7,fun j aD=>?_⟩,acS AA⟩;by_cases e:j=k
 ·subst e;simp only [↓reduceIte];exact⟨has_put_same J hl _,fun z=>atKey_put_same J hl _ z⟩
 ·have M:(Lit.int .i64 (j:Int))≠Lit.int .i64 (k:Int):=by simp;omega
  simp only [if_neg e];exact⟨(has_put_other M _).trans (I j aD).1,fun z=>(atKey_put_other M _ z).trans ((I j aD).2 z)⟩
theorem ab6 (wH:∀ a b,enc a=enc b->a=b) {ops:Array Oper} {rest:List Oper} {a:Act} {Q:aRE} {dst:Option Tmp} {gP:TypeId} {m x v:Operand} {pos:String} {after:Array Edge}
  (h:kg w enc b n f) (hk:k < 1000) (aA:prog.underlying t=some (.map 3 e)) (aB:n < maxLen) (y:α) (ah:a.eval m = .map (some b)/\a.eval x = .int .i64 (k:Int)/\a.eval v=enc y)
  (aS:∀ w',kg w' enc b (n+1) (fun j=>if j=k then some y else f j)->fU b w w'->wpList prog ops Q rest (a.put dst undef) w') :
  wpList prog ops Q (⟨dst,.mapUpdate t m x v,gP,pos,after,none⟩ :: rest) a w:=by
 refine aQM rfl fun Y hK'=>?_;obtain⟨w',I,J,M⟩:=h.update wH hk aA aB y;unfold Oper.wp;simp [execOp,ah.1,ah.2.1,ah.2.2,I,Result.andThen];exact hK' _ _ (aS w' J M)
theorem kg.drop (h:kg w enc b n f) (hk:k < 1000) (aA:prog.underlying t=some (.map 3 e)) (ty:TypeId) :
  ∃ w',(Builtin.delete_ #[t,3] ty #[.map (some b),.int .i64 (k:Int)]).run prog w = .ok (.tuple #[]) w'/\kg w' enc b n (fun j=>if j=k then none else f j)/\fU b w w':=by
 obtain⟨D,h,I⟩:=h;obtain⟨w',M,Y,A7⟩:=World.ownsMap.drop h (aRp underlying3) aA (ab5 hk) ty;refine⟨w',M,⟨_,Y,fun j aD=>?_⟩,acS A7⟩;by_cases e:j=k
 ·subst e;simp only [↓reduceIte];exact⟨has_del_same,fun z=>atKey_del_same z⟩
 ·have J:(Lit.int .i64 (j:Int))≠Lit.int .i64 (k:Int):=by simp;omega
  simp only [if_neg e];exact⟨(has_del_other J).trans (I j aD).1,fun z=>(atKey_del_other J z).trans ((I j aD).2 z)⟩
end
end
section
open Go.Maps Go.RowKit Go.Shelf
structure sP where
 X:Nat
 sQ:Nat
 uE:Nat
 DC:Nat
 cK:xU
 T:Nat
 B0:Nat
def sP.C (l:sP) (k:Nat):Prop:=k=l.sQ\/k=l.uE\/k=l.DC
structure sP.Ok (l:sP):Prop where
 low:∀ k,l.C k->l.B0<=k/\k < l.T
 base:l.B0<=l.T/\l.X < l.T
 ne:l.sQ≠l.uE/\l.sQ≠l.DC/\l.uE≠l.DC
def GV (l:aRD):Value:=.agg l.toArray
theorem ab7 (a b:aRD) (h:GV a=GV b):a=b:=by
 unfold GV at h;injection h with h
 exact List.toArray_inj h
theorem str_inj (a b:ByteArray) (h:Value.string a=Value.string b):a=b:=by injection h
theorem amI (a b:Bool) (h:Value.bool a=Value.bool b):a=b:=by injection h
theorem kg.congr {enc:α->Value} {n:Nat} {f g:Nat->Option α} (h:kg w enc b n f) (e:∀ k,f k=g k):kg w enc b n g:=by rwa [show f=g from funext e] at h
def GX (σ:bI) (n:Nat):Nat:=((List.range n).filter fun i=>(σ.got i).isNone).length
theorem filter_lt {p q:Nat->Bool} (h:∀ i,p i=true->q i=true) (h1:q i=true) (ag:p i=false):∀ l:List Nat,i∈l->(l.filter p).length < (l.filter q).length
 | [],I=>by cases I
 | a :: l,I=>by
  have hs:=afG h l;rw [List.filter_cons,List.filter_cons];by_cases J:a=i
  ·subst J;rw [if_neg (by simp [ag]),if_pos h1];simp only [List.length_cons];omega
  ·have M:=filter_lt h h1 ag l (by simpa [Ne.symm J] using I);by_cases aL:p a=true
   ·rw [if_pos aL,if_pos (h a aL)];simp only [List.length_cons];omega
   ·rw [if_neg aL];split
    ·simp only [List.length_cons];omega
    ·exact M
theorem aKO {n:Nat} (o:iN) (ay:i < n) (ax:σ.got i=none):GX (σ.put i o) n < GX σ n:=by
 refine filter_lt (fun j aD=>?_) (i:=i) (by simp [ax]) (by simp [bI.put]) _ (aQK.2 ay);by_cases e:j=i
 ·subst e;simp [ax]
 ·simpa [bI.put,e] using aD
structure rD (c:dL) (l:sP) (kw:Nat) (w:aRB) (U:aRG) (σ:bI) (aI:aRI):Prop where
 row:aM w l.X (rA c.k l.cK c.keep++[.map (some l.sQ),.map (some l.uE),.map (some l.DC)]) 114
 over:∃ (OL:Nat->lK) (n:Nat),n+GX σ c.n<=c.n/\kg w GV l.sQ n (fun i=>(σ.got i).map fun o=>jm o (OL i))/\∀ i o,σ.got i=some o->nC w l.T o (OL i)/\∀ q,bV (OL i).B=some q->aI q
 way:∃ n,n+rZ σ c.n<=c.n/\kg w Value.bool l.uE n (fun i=>if i∈U then some true else none)
 waits:∃ n f,n+GX σ c.n<=c.n+kw/\kg w Value.string l.DC n f
 work:∀ W:World,(∀ k,k < l.T->¬ l.C k->W.heap[k]?=w.heap[k]?)->wT W c.k l.cK
 home:vM w l.B0
 size:l.T<=w.heap.size
structure xG (l:sP) (w w':aRB):Prop where
 os:w'.os=w.os
 tape:w'.tape=w.tape
 output:w'.output=w.output
 size:w.heap.size<=w'.heap.size
 keep:∀ k,k < w.heap.size->¬ l.C k->w'.heap[k]?=w.heap[k]?
section
variable {c:dL} {l:sP} {kw:Nat} {w w' af:aRB} {U:aRG} {σ:bI} {aI:aRI}
theorem xG.gT (h:Bl w w'):xG l w w':=⟨h.os,h.tape,h.output,h.size,fun k hk _=>h.block k hk⟩
theorem xG.refl (w:aRB):xG l w w:=⟨rfl,rfl,rfl,aQm _,fun _ _ _=>rfl⟩
theorem xG.trans (h:xG l w w') (k:xG l w' af):xG l w af:=⟨k.os.trans h.os,k.tape.trans h.tape,k.output.trans h.output,aQn h.size k.size,fun j h1 I=>(k.keep j (aQq h1 h.size) I).trans (h.keep j h1 I)⟩
theorem xG.dK (h:fU g w w') (ax:l.C g):xG l w w':=⟨h.1,h.2.1,h.2.2.1,aQL h.2.2.2.1.symm,fun k _ I=>h.2.2.2.2 k fun e=>I (e ▸ ax)⟩
theorem xG.row (h:xG l w w') {V:aRD} (av:aM w g V t) (ax:¬ l.C g):aM w' g V t:=(h.keep g av.lt ax).trans av
theorem xG.high (hl:l.Ok) (h:xG l w w') {V:aRD} (av:aM w g V t) (ax:l.T<=g):aM w' g V t:=h.row av fun e=>by have:=(hl.low g e).2;omega
theorem Own.rE (hl:l.Ok) (h:xG l w w') {base aO n c2:Nat} {A:aRC} {xs:aRD} (aG:Own w base t aO A n c2 xs) (bY:l.T<=base):Own w' base t aO A n c2 xs:=aG.keep fun b ae h1 I=>h.keep b I fun e=>by have:=(hl.low b e).2;omega
theorem nC.NY {yP:Obj} (h:fU g w w') (ax:w.heap[g]?=some yP) (hc:yP.isCells=false) {B:Nat} {o:iN} {L:lK} (aG:nC w B o L):nC w' B o L:=by
 have key:∀ {aO n c2:Nat} {t:TypeId} {A:aRC} {xs:aRD},Own w B t aO A n c2 xs->Own w' B t aO A n c2 xs:=fun aG=>aG.keep fun b ae _ _=>h.2.2.2.2 b fun e=>by
  obtain⟨_,_,cur,bf,h1⟩:=aG.block b ae;rw [e,ax] at h1;cases h1;cases hc
 exact⟨key aG.outs,key aG.reads⟩
theorem rD.all (h:rD c l kw w U σ aI) (hl:l.Ok) (ae:Bl w w'):rD c l kw w' U σ aI:=by obtain⟨OL,n,h1,I,J⟩:=h.over;obtain⟨A7,AA,M⟩:=h.way;obtain⟨AB,f,AJ,Y⟩:=h.waits;exact⟨h.row.all ae,⟨OL,n,h1,I.keep (ae.block _ I.lt),fun i o e=>⟨(J i o e).1.all ae,(J i o e).2⟩⟩,⟨A7,AA,M.keep (ae.block _ M.lt)⟩,⟨AB,f,AJ,Y.keep (ae.block _ Y.lt)⟩,fun W AL=>h.work W fun k h1 I=>(AL k h1 I).trans (ae.block k (aQq h1 h.size)),h.home.below (ae.mono (aQn hl.base.1 h.size)),aQn h.size ae.size⟩
theorem rD.cells (h:rD c l kw w U σ aI):w.cell? (ad l.X 0)=some (.slice l.cK.A c.k.files.length l.cK.c)/\w.cell? (ad l.X 1)=some (.slice l.cK.B c.k.bZ.length l.cK.d)/\w.cell? (ad l.X 4)=some (.map (some l.sQ))/\w.cell? (ad l.X 5)=some (.map (some l.uE))/\w.cell? (ad l.X 6)=some (.map (some l.DC)):=⟨h.row.cell 0,h.row.cell 1,h.row.cell 4,h.row.cell 5,h.row.cell 6⟩
theorem rD.Lx {iK:nX} {P:nV} {ins asks:List ak} {b:dA} (h:rD c l kw w U σ aI) (hl:l.Ok) (ah:iF w iK P ins asks b) (ae:kD iK w w') (bY:l.T<=iK.B) (bW:∀ q,bV iK.cZ=some q->¬ aI q):rD c l kw w' U σ aI:=by obtain⟨OL,n,h1,J,I⟩:=h.over;obtain⟨AB,AJ,AL⟩:=h.way;obtain⟨AO,f,AP,AV⟩:=h.waits;have Y:∀ k,k < l.T->w'.heap[k]?=w.heap[k]?:=fun k hk=>ae.low k om;have A7:∀ k,l.C k->w'.heap[k]?=w.heap[k]?:=fun k hk=>Y k (hl.low k hk).2;refine⟨(Y _ hl.base.2).trans h.row,⟨OL,n,h1,J.keep (A7 _ (.inl rfl)),fun i o e=>⟨⟨Own.Lx ah ae (I i o e).1.outs dc dc dc dc,?_⟩,(I i o e).2⟩⟩,⟨AB,AJ,AL.keep (A7 _ (.inr (.inl rfl)))⟩,⟨AO,f,AP,AV.keep (A7 _ (.inr (.inr rfl)))⟩,fun W AZ=>h.work W fun k h1 J=>(AZ k h1 J).trans (Y k h1),h.home.below ⟨ae.os,ae.tape,ae.output,ae.size,fun k hk=>ae.low k (by have:=hl.base.1;omega)⟩,aQn h.size ae.size⟩;refine (I i o e).1.reads.keep fun q AA _ _=>?_;obtain⟨_,_,cur,bf,Aa⟩:=(I i o e).1.reads.block q AA;exact X6 ah ae Aa dc dc dc fun Ab=>bW q Ab.symm ((I i o e).2 q AA)
theorem rD.turned (h:rD c l kw w U σ aI) (hl:l.Ok) {yP:Obj} (aA:fU g w w') (ax:l.C g) (aG:w.heap[g]?=some yP) (aB:yP.isCells=false) {awD:Nat} {awE:aRG}
  (h1:∃ (OL:Nat->lK) (n:Nat),n+GX σ' c.n<=c.n/\kg w' GV l.sQ n (fun i=>(σ'.got i).map fun o=>jm o (OL i))/\∀ i o,σ'.got i=some o->nC w' l.T o (OL i)/\∀ q,bV (OL i).B=some q->fB q)
  (ag:∃ n,n+rZ σ' c.n<=c.n/\kg w' Value.bool l.uE n (fun i=>if i∈awE then some true else none))
  (au:∃ n f,n+GX σ' c.n<=c.n+awD/\kg w' Value.string l.DC n f):rD c l awD w' awE σ' fB:=by
 have J:l.X≠g:=fun e=>by
  have:=h.row;rw [aM,e,aG] at this;cases this;cases aB
 exact⟨h.row.dK aA J,h1,ag,au,fun W M=>h.work W fun k Y I=>(M k Y I).trans (aA.2.2.2.2 k fun e=>I (e ▸ ax)),h.home.below ⟨aA.1,aA.2.1,aA.2.2.1,aQL aA.2.2.2.1.symm,fun k hk=>aA.2.2.2.2 k fun e=>by have:=(hl.low g ax).1;omega⟩,by rw [aA.2.2.2.1];exact h.size⟩
theorem kg.dK {enc:α->Value} {n:Nat} {f:Nat->Option α} (h:kg w enc b n f) (aA:fU g w w') (bJ:b≠g):kg w' enc b n f:=h.keep (aA.2.2.2.2 b bJ)
theorem rD.cut (h:rD c l kw w U σ aI):rD c l kw w U σ (fun q=>aI q/\q < w.heap.size):=by obtain⟨OL,n,h1,M,I⟩:=h.over;exact⟨h.row,⟨OL,n,h1,M,fun i o e=>⟨(I i o e).1,fun q J=>⟨(I i o e).2 q J,((I i o e).1.reads.block q J).2.1⟩⟩⟩,h.way,h.waits,h.work,h.home,h.size⟩
theorem rD.amj (h:rD c l kw w U σ aI) (hl:l.Ok) (ay:i < c.n) (ae:σ.begun i=false) {n:Nat} (aB:n+rZ σ c.n<=c.n) (hm:kg w Value.bool l.uE n (fun i=>if i∈U then some true else none)) (xZ:kg w' Value.bool l.uE (n+1) (fun j=>if j=i then some true else if j∈U then some true else none)) (aA:fU l.uE w w'):rD c l kw w' (i :: U) (σ.push i) aI:=by
 obtain⟨OL,M,h1,Y,I⟩:=h.over;obtain⟨A7,f,AA,AB⟩:=h.waits;obtain⟨AJ,J,hc⟩:=hm.obj;have hu:=abo ay ae;refine h.turned hl aA (.inr (.inl rfl)) J hc ⟨OL,M,h1,Y.dK aA hl.ne.1,fun i o e=>⟨(I i o e).1.NY aA J hc,(I i o e).2⟩⟩ ⟨n+1,om,xZ.congr fun j=>?_⟩ ⟨A7,f,AA,AB.dK aA (aQJ hl.ne.2.2)⟩;by_cases e:j=i
 ·simp [e]
 ·simp [e]
theorem rD.waited (h:rD c l 0 w U σ aI) (hl:l.Ok) {n:Nat} {f QT:Nat->Option ByteArray} (aB:n+GX σ c.n<=c.n) (hm:kg w Value.string l.DC n f) (xZ:kg w' Value.string l.DC (n+1) QT) (aA:fU l.DC w w'):rD c l 1 w' U σ aI:=by obtain⟨OL,M,h1,Y,I⟩:=h.over;obtain⟨A7,AA,AB⟩:=h.way;obtain⟨AJ,J,hc⟩:=hm.obj;exact h.turned hl aA (.inr (.inr rfl)) J hc ⟨OL,M,h1,Y.dK aA hl.ne.2.1,fun i o e=>⟨(I i o e).1.NY aA J hc,(I i o e).2⟩⟩ ⟨A7,AA,AB.dK aA hl.ne.2.2⟩ ⟨n+1,QT,om,xZ⟩
theorem rD.VF (h:rD c l kw w U σ aI) (hl:l.Ok) (hk:kw<=1) (ay:i < c.n) (ax:σ.got i=none) {OL:Nat->lK} {n:Nat} (aB:n+GX σ c.n<=c.n) (hm:kg w GV l.sQ n (fun i=>(σ.got i).map fun o=>jm o (OL i))) (au:∀ i o,σ.got i=some o->nC w l.T o (OL i)/\∀ q,bV (OL i).B=some q->aI q)
  {o:iN} {L:lK} (aG:nC w l.T o L) (xZ:kg w' GV l.sQ (n+1) (fun j=>if j=i then some (jm o L) else (σ.got j).map fun o=>jm o (OL j))) (aA:fU l.sQ w w'):rD c l 0 w' U (σ.put i o) (fun q=>aI q\/bV L.B=some q):=by
 obtain⟨AA,AB,AJ⟩:=h.way;obtain⟨AL,f,AP,AO⟩:=h.waits;obtain⟨AV,M,hc⟩:=hm.obj;have hu:=aKO o ay ax;refine h.turned hl aA (.inl rfl) M hc ⟨fun j=>if j=i then L else OL j,n+1,om,xZ.congr fun j=>?_,fun j I e=>?_⟩ ⟨AA,AB,AJ.dK aA (aQJ hl.ne.1)⟩ ⟨AL,f,om,AO.dK aA (aQJ hl.ne.2.1)⟩
 ·by_cases e:j=i
  ·simp [e,bI.put]
  ·simp [e,bI.put]
 ·by_cases Y:j=i
  ·subst Y;have J:I=o:=by simpa [bI.put] using e.symm
   subst J;simp only [if_pos];exact⟨aG.NY aA M hc,fun q A7=>.inr A7⟩
  ·simp only [if_neg Y];have J:σ.got j=some I:=by simpa [bI.put,Y] using e
   exact⟨(au j I J).1.NY aA M hc,fun q A7=>.inl ((au j I J).2 q A7)⟩
theorem rD.gone {us:aRG} (h:rD c l kw w (i :: us) σ aI) (hl:l.Ok) (ay:i ∉ us) {n:Nat} (aB:n+rZ σ c.n<=c.n) (hm:kg w Value.bool l.uE n (fun j=>if j∈i :: us then some true else none)) (xZ:kg w' Value.bool l.uE n (fun j=>if j=i then none else if j∈i :: us then some true else none)) (aA:fU l.uE w w'):rD c l kw w' us σ aI:=by
 obtain⟨OL,M,h1,Y,I⟩:=h.over;obtain⟨A7,f,AA,AB⟩:=h.waits;obtain⟨AJ,J,hc⟩:=hm.obj;refine h.turned hl aA (.inr (.inl rfl)) J hc ⟨OL,M,h1,Y.dK aA hl.ne.1,fun i o e=>⟨(I i o e).1.NY aA J hc,(I i o e).2⟩⟩ ⟨n,aB,xZ.congr fun j=>?_⟩ ⟨A7,f,AA,AB.dK aA (aQJ hl.ne.2.2)⟩;by_cases e:j=i
 ·subst e;simp [ay]
 ·simp [e]
end
structure AY (c:dL) (l:sP) (w:aRB) (U:aRG) (σ:bI) (aI:aRI):Prop where
 at_:rD c l 0 w U σ aI
 inv:vZ c.W c.dN c.lX U σ
structure zN (c:dL) (l:sP) (w:aRB) (U:aRG) (σ:bI) (aI:aRI) (w':aRB) (σ':bI) (fB:aRI):Prop where
 st:AY c l w' U σ' fB
 rE:xG l w w'
 begun:∀ i,σ.begun i=true->σ'.begun i=true
 got:∀ i,σ.got i≠none->σ'.got i=σ.got i
 wC:∀ q,fB q->aI q\/w.heap.size<=q
def agz (c:dL) (l:sP) (m:Nat):Prop:=∀ (w:aRB) (U:aRG) (σ:bI) (aI:aRI) (p:ak),AY c l w U σ aI->rZ σ c.n<=m->p.length<=1100000 ->
 (∀ j,c.W.kK p=some j->yM c.W c.dN j/\(∀ x∈U,xM c.W x j)/\(j∈U->fI c.W p = .stuck)) ->
 CR 38 #[pp l.X 0,.string (az p)] w (.tuple #[.agg (iy (uC (fI c.W p) p).2).toArray,.int .i64 (uC (fI c.W p) p).1]) fun w'=>∃ σ' fB,zN c l w U σ aI w' σ' fB/\∀ j,c.W.kK p=some j->σ'.begun j=true
end
section
open Go.Maps Go.RowKit Go.Shelf
theorem zN.refl {l:sP} (h:AY c l w U σ aI):zN c l w U σ aI w σ aI:=⟨h,xG.refl _,fun _ h=>h,fun _ _=>rfl,fun _ h=>.inl h⟩
theorem AY.all {l:sP} (h:AY c l w U σ aI) (hl:l.Ok) (ae:Bl w w'):AY c l w' U σ aI:=⟨h.at_.all hl ae,h.inv⟩
theorem zN.high {l:sP} (hl:l.Ok) (h:zN c l w U σ aI af σ' fB) (ae:Bl af w'):zN c l w U σ aI w' σ' fB:=⟨h.st.all hl ae,h.rE.trans (.gT ae),h.begun,h.got,h.wC⟩
theorem zN.low {l:sP} (h:zN c l af U σ aI w' σ' fB) (ae:Bl w af):zN c l w U σ aI w' σ' fB:=⟨h.st,(xG.gT ae).trans h.rE,h.begun,h.got,fun q I=>(h.wC q I).imp_right fun h=>aQn ae.size h⟩
theorem rD.own {l:sP} {kw:Nat} (h:rD c l kw w U σ aI) (hl:l.Ok) (av:aM w g Z ty) (aA:fU g w w') (ax:l.T<=g) (h1:ty ≠ 65) (ag:ty ≠ 135):rD c l kw w' U σ aI:=by obtain⟨OL,n,Y,A7,J⟩:=h.over;obtain⟨AA,AB,AJ⟩:=h.way;obtain⟨AL,f,AO,AP⟩:=h.waits;have I:∀ k,k < l.T->w'.heap[k]?=w.heap[k]?:=fun k hk=>aA.2.2.2.2 k om;exact⟨(I _ hl.base.2).trans h.row,⟨OL,n,Y,A7.keep (I _ (hl.low _ (.inl rfl)).2),fun i o e=>⟨⟨iJ (J i o e).1.outs av (aQJ h1) aA,iJ (J i o e).1.reads av (aQJ ag) aA⟩,(J i o e).2⟩⟩,⟨AA,AB,AJ.keep (I _ (hl.low _ (.inr (.inl rfl))).2)⟩,⟨AL,f,AO,AP.keep (I _ (hl.low _ (.inr (.inr rfl))).2)⟩,fun W AV=>h.work W fun k M AZ=>(AV k M AZ).trans (I k M),h.home.below ⟨aA.1,aA.2.1,aA.2.2.1,aQL aA.2.2.2.1.symm,fun k hk=>I k (by have:=hl.base.1;omega)⟩,by rw [aA.2.2.2.1];exact h.size⟩
theorem zN.own {l:sP} (hl:l.Ok) (bY:l.T<=w.heap.size) (h:zN c l w U σ aI af σ' fB) (av:aM af g Z ty) (aA:fU g af w') (ax:w.heap.size<=g) (h1:ty ≠ 65) (ag:ty ≠ 135):zN c l w U σ aI w' σ' fB :=
 ⟨⟨h.st.at_.own hl av aA (aQn bY ax) h1 ag,h.st.inv⟩,⟨aA.1.trans h.rE.os,aA.2.1.trans h.rE.tape,aA.2.2.1.trans h.rE.output,by rw [aA.2.2.2.1];exact h.rE.size,fun k I J=>(aA.2.2.2.2 k om).trans (h.rE.keep k I J)⟩,h.begun,h.got,h.wC⟩
def Yg (c:dL) (l:sP) (w:aRB) (U:aRG) (σ:bI) (aI:aRI) (i:Nat) (e:Ending) (w':aRB):Prop :=
 ∃ L σ' fB,e = .returned (.agg (jm (bE c.W i) L).toArray)/\nC w' l.T (bE c.W i) L/\zN c l w U σ aI w' σ' fB/\σ'.begun i=true
theorem aKP (hc:c.Fit) {l:sP} (hl:l.Ok) (hs:AY c l w U σ aI) (hm:c.W.kK p=none) :
  Calls prog 38 #[pp l.X 0,.string (az p)] w fun e w'=>e = .returned (.tuple #[.agg (iy (Fq c.k.files p)).toArray,.int .i64 1])/\zN c l w U σ aI w' σ aI:=by
 obtain⟨aF,I⟩:=ai (w.alloc (.cells l8.toArray 80));have AJ:=gQ I;have Ag:=lH I;obtain⟨X,AL,P,J,xX,Ah,jX,AO,kC,AP,jv,AV⟩:=nq6 l.X (az p) (Value.slice l.cK.B c.k.bZ.length l.cK.d) l.cK.A l.cK.c c.k.files.length;obtain⟨Y,AZ⟩:=ai ((fileAt c.k.files p).isSome);obtain⟨A7,Aa⟩:=ai (az (((fileAt c.k.files p).map (·.2)).getD []));obtain⟨bH,Ab⟩:=ai (iy (Fq c.k.files p));have M:bH=[.string P,.bool Y,.string A7]:=by rw [Ab,J,AZ,Aa,Fq];cases fileAt c.k.files p <;> rfl
 have AA:=aa (fun W (ae:Bl aF W)=>show W.cell? (ad X 1)=some xX/\W.cell? (ad X 0)=some (.slice jX jv kC)/\W.cell? (ad X 5)=some (.map (some l.uE))/\Calls prog 44 #[xX,.string P] W (fun e w'=>e = .returned (.tuple #[.int .i64 0,.bool false])/\Bl W w')/\CB 45 #[.slice jX jv kC,.string P] W (.tuple #[.string A7,.bool Y]) from by
  have AB:=hs.at_.all hl (aR AJ ae);have Ai:=AB.work W (fun _ _ _=>rfl);have h1:=WN W l.cK.B l.cK.d c.k.bZ Ai.bZ (by have:=hc.kV.nN;omega) (fun x ah=>by have:=(hc.kV.fair x ah).outs;omega) p;rw [show Pd c.k.bZ p = -1 by rw [XV,hm]] at h1;have Ak:=ai8 W l.cK.A l.cK.c c.k.files hc.kV.jv Ai.files p;rw [<- AZ,<- Aa,<- J,<- AO,<- AP,<- AV] at Ak;rw [AL,Ah];exact⟨AB.cells.2.1,by rw [AO,AP,AV];exact AB.cells.1,AB.cells.2.2.2.1,by rw [J];exact h1,Ak⟩)
 obtain⟨BH,_⟩:=AA.o aF (Below.refl _ _);obtain⟨Ap,Al,Aq⟩:=hq3 Ag AJ hs;have Au:=aa hs.at_.size;have Am:Sz 80 bH.length:=by rw [M];exact KZ
 have Aw:bH.length=l8.length:=by rw [M];rfl
 have Ay:∀ v∈bH,v.oneCell'=true:=by rw [M];simp [Value.oneCell']
 have Az:=aa (show prog.built 80 [(0,.string P),(1,.bool Y),(2,.string A7)]=some bH.toArray by rw [M];exact agn _ _ _);rw [<- AL,<- J,<- Ab];rw [show l8.toArray=#[.string ⟨#[]⟩,.bool false,.string ⟨#[]⟩] from rfl] at I;have BI:=I.symm;clear I AL J AZ Aa Ab M Ah AO AP AV AJ Ag hs;go_enter func38,ntmps38;go_wp2_with (first
  | (go_at_call 44; refine (AA.o aF (Below.refl _ _)).2.2.2.1.mono ?_;rintro e af ⟨rfl,Ad⟩;have Ae:=aa Ad;have BJ:=(AA.o af Ad).2.1;clear Ad)
  | (go_at_call 45; refine (AA.o af Ae.o).2.2.2.2.mono ?_;rintro e aC ⟨rfl,Af⟩;have Ao:=aa ((Ap.o.all Ae.o).all Af);have BA:=aa (Al.o.trans ((aR Ae.o Af).mono Al.o.size));clear Af)
  | ((with_reducible refine Re (.string P) (.bool Y) (.string A7) _ Az.o ?_ ?_);exact⟨rfl,rfl,rfl⟩)
  | ((with_reducible refine vC bH Ao.o Am Aw Ay ?_);intro BK BF BG))
 refine Ej BF.o underlying80 rfl Am ⟨rfl,rfl,rfl⟩ ?_;exact⟨rfl,((zN.refl Aq.o).high hl BA.o).own hl Au.o Ao.o BG.o (aQm _) dc dc⟩
theorem aKQ (hc:c.Fit) {l:sP} (hl:l.Ok) (hs:AY c l w U σ aI) (hm:c.W.kK p=some j) (aD:j∈U) :
  Calls prog 38 #[pp l.X 0,.string (az p)] w fun e w'=>e = .returned (.tuple #[.agg (iy ⟨p,false,[]⟩).toArray,.int .i64 3])/\zN c l w U σ aI w' σ aI:=by
 obtain⟨aF,J⟩:=ai (w.alloc (.cells l8.toArray 80));have Y:=gQ J;have AO:=lH J;obtain⟨X,AJ,P,A7,xX,AP,jX,AV,kC,AZ,jv,Aa⟩:=nq6 l.X (az p) (Value.slice l.cK.B c.k.bZ.length l.cK.d) l.cK.A l.cK.c c.k.files.length;obtain⟨bH,AL⟩:=ai (iy (⟨p,false,[]⟩:dz));have M:bH=[.string P,.bool false,.string ⟨#[]⟩]:=by rw [AL,A7];rfl
 have Ae:j < 1000:=by have:=JZ c hm;have:c.n<=10:=hc.kV.nN;omega
 have AA:=aa (fun W (ae:Bl aF W)=>show W.cell? (ad X 1)=some xX/\W.cell? (ad X 0)=some (.slice jX jv kC)/\W.cell? (ad X 5)=some (.map (some l.uE))/\Calls prog 44 #[xX,.string P] W (fun e w'=>e = .returned (.tuple #[.int .i64 j,.bool true])/\Bl W w') from by
  have AB:=hs.at_.all hl (aR Y ae);have Af:=AB.work W (fun _ _ _=>rfl);have h1:=WN W l.cK.B l.cK.d c.k.bZ Af.bZ (by have:=hc.kV.nN;omega) (fun x ah=>by have:=(hc.kV.fair x ah).outs;omega) p;rw [show Pd c.k.bZ p=(j:Int) by rw [XV,hm]] at h1;rw [show max (j:Int) 0=j by omega,show decide (0<=(j:Int))=true from decide_eq_true om] at h1;rw [AP,A7,AV,AZ,Aa,AJ];exact⟨AB.cells.2.1,AB.cells.1,AB.cells.2.2.2.1,h1⟩)
 obtain⟨Az,_⟩:=AA.o aF (Below.refl _ _);have Ag:=aa (fun W (ae:Bl aF W)=>show (Instr.lookup 111 (.map (some l.uE)) (.int .i64 (j:Int)) false).run prog W = .ok (.bool true) W from by
  obtain⟨n,_,Ah⟩:=(hs.at_.all hl (aR Y ae)).way;have:=Ah.look amI Ae underlying111 false kr;rw [if_pos aD] at this;exact this)
 obtain⟨Ai,Ak,Al⟩:=hq3 AO Y hs;have Am:=aa hs.at_.size;have Ab:Sz 80 bH.length:=by rw [M];exact KZ
 have Ao:bH.length=l8.length:=by rw [M];rfl
 have Ap:∀ v∈bH,v.oneCell'=true:=by rw [M];simp [Value.oneCell']
 have Aq:=aa (show prog.built 80 [(0,.string P)]=some bH.toArray by rw [M];exact ams _);rw [<- AJ,<- A7,<- AL];rw [show l8.toArray=#[.string ⟨#[]⟩,.bool false,.string ⟨#[]⟩] from rfl] at J;have BA:=J.symm;clear J AJ A7 AL M AP AV AZ Aa Y AO hs;go_enter func38,ntmps38;go_wp2_with (first
  | (go_at_call 44; refine (AA.o aF (Below.refl _ _)).2.2.2.mono ?_;rintro e af ⟨rfl,I⟩;have Au:=aa I;have Ad:=aa (Ai.o.all I);have BF:=(AA.o af I).2.1;have BG:=(AA.o af I).2.2.1;have BH:=Ag.o af I;clear I)
  | ((with_reducible refine aqU (.string P) _ Aq.o ?_ ?_);exact rfl)
  | ((with_reducible refine vC bH Ad.o Ab Ao Ap ?_);intro BI Aw Ay))
 refine Ej Aw.o underlying80 rfl Ab ⟨rfl,rfl,rfl⟩ ?_;exact⟨rfl,((zN.refl Al.o).high hl (aR Ak.o Au.o)).own hl Am.o Ad.o Ay.o (aQm _) dc dc⟩
theorem aKR (hc:c.Fit) {l:sP} (hl:l.Ok) (hs:AY c l w U σ aI) (hm:c.W.kK p=some j) (aD:j ∉ U)
  (Bo:∀ af,AY c l af U σ aI->Calls prog 60 #[pp l.X 0,.int .i64 j] af (Yg c l af U σ aI j)) :
  CR 38 #[pp l.X 0,.string (az p)] w (.tuple #[.agg (iy (uC (fI c.W p) p).2).toArray,.int .i64 (uC (fI c.W p) p).1]) fun w'=>∃ σ' fB,zN c l w U σ aI w' σ' fB/\σ'.begun j=true:=by
 obtain⟨aF,AL⟩:=ai (w.alloc (.cells l8.toArray 80));have AO:=gQ AL;have BP:=lH AL;obtain⟨X,Ae,P,AA,xX,BQ,jX,BX,kC,Bb,jv,Bc⟩:=nq6 l.X (az p) (Value.slice l.cK.B c.k.bZ.length l.cK.d) l.cK.A l.cK.c c.k.files.length;have Ce:j < 1000:=by have:=JZ c hm;have:c.n<=10:=hc.kV.nN;omega
 have bY:=hs.at_.size;have Af:=aa (fun W (ae:Bl aF W)=>show W.cell? (ad X 1)=some xX/\W.cell? (ad X 0)=some (.slice jX jv kC)/\W.cell? (ad X 5)=some (.map (some l.uE))/\Calls prog 44 #[xX,.string P] W (fun e w'=>e = .returned (.tuple #[.int .i64 j,.bool true])/\Bl W w') from by
  have Ag:=hs.at_.all hl (aR AO ae);have Cf:=Ag.work W (fun _ _ _=>rfl);have h1:=WN W l.cK.B l.cK.d c.k.bZ Cf.bZ (by have:=hc.kV.nN;omega) (fun x ah=>by have:=(hc.kV.fair x ah).outs;omega) p;rw [show Pd c.k.bZ p=(j:Int) by rw [XV,hm]] at h1;rw [show max (j:Int) 0=j by omega,show decide (0<=(j:Int))=true from decide_eq_true om] at h1;rw [BQ,AA,BX,Bb,Bc,Ae];exact⟨Ag.cells.2.1,Ag.cells.1,Ag.cells.2.2.2.1,h1⟩)
 obtain⟨E8,_⟩:=Af.o aF (Below.refl _ _);have Cg:=aa (fun W (ae:Bl aF W)=>show (Instr.lookup 111 (.map (some l.uE)) (.int .i64 (j:Int)) false).run prog W = .ok (.bool false) W from by
  obtain⟨n,_,Ci⟩:=(hs.at_.all hl (aR AO ae)).way;have:=Ci.look amI Ce underlying111 false kr;rw [if_neg aD] at this;exact this)
 have Bd:=aa (fun af (ae:Bl aF af)=>show Calls prog 60 #[pp X 0,.int .i64 j] af (fun e aC=>∃ L σ' fB,e = .returned (.agg (jm (bE c.W j) L).toArray)/\nC aC l.T (bE c.W j) L/\zN c l w U σ aI aC σ' fB/\σ'.begun j=true/\aM aC w.heap.size l8 80) from by
  rw [Ae];refine (Bo af (hs.all hl (aR AO ae))).mono ?_;rintro e aC ⟨L,σ',fB,Ck,Bf,Bi,Cm⟩;exact⟨L,σ',fB,Ck,Bf,Bi.low (aR AO ae),Cm,Bi.rE.high hl (BP.all ae) bY⟩)
 obtain⟨o,AB⟩:=ai (bE c.W j);have Bn:=av3 hc hm (.inl AB);have Bp:o.outs.length<=1000:=by have:=Sr hc.work (i:=j) (by have:=JZ c hm;simpa [dL.X,dL.n] using this);have hw:c.W=nQ c.k.files c.X:=rfl;rw [AB,hw];omega
 obtain⟨J,Ay⟩:∃ k:Int,k=o.kind:=⟨_,rfl⟩;rw [<- AB] at Bd;rw [Bn];show Calls _ _ _ _ fun e w'=>e = .returned (.tuple #[.agg (iy (o.at_ p)).toArray,.int .i64 o.kind])/\_;rw [<- Ay];have Bq:J≠1->o.at_ p=⟨p,false,[]⟩:=fun h=>by
  rcases Vn hc.work.small j with k | ⟨_,k⟩
  ·have Ah:(bE c.W j).kind=1:=k;rw [<- AB] at Ah;omega
  ·have Ah:(bE c.W j).outs=[]:=k;rw [<- AB] at Ah;unfold iN.at_;rw [Ah];rfl
 obtain⟨bH,Ai,AP,Az⟩:=nq2 (iy (o.at_ p)) ((fileAt o.outs p).isSome);obtain⟨AV,BA⟩:=ai (az (((fileAt o.outs p).map (·.2)).getD []));have AJ:bH=[.string P,.bool AP,.string AV]:=by rw [Ai,AA,Az,BA,show o.at_ p=Fq o.outs p from rfl,Fq];cases fileAt o.outs p <;> rfl
 have Br:J≠1->bH=[.string P,.bool false,.string ⟨#[]⟩]:=fun h=>by rw [Ai,Bq h,AA];rfl
 have Bt:Sz 80 bH.length:=by rw [AJ];exact KZ
 have Bu:bH.length=l8.length:=by rw [AJ];rfl
 have Bv:∀ v∈bH,v.oneCell'=true:=by rw [AJ];simp [Value.oneCell']
 have Ak:=aa Bt;have Bw:=aa Bv;have Cn:=aa (show 0+bH.length<=l8.length by rw [Bu];omega);have Co:=aa (show l8.take 0++bH++l8.drop (0+bH.length)=bH by rw [AJ];rfl);have Cs:=aa (fun (W:aRB) (L:lK) (h:nC W l.T o L)=>show CB 45 #[.slice L.A o.outs.length L.c,.string P] W (.tuple #[.string AV,.bool AP]) from by
  rw [AA,BA,Az];exact ai8 W L.A L.c o.outs Bp h.outs.rd p)
 have BF:=aa (show prog.built 80 [(0,.string P),(1,.bool AP),(2,.string AV)]=some bH.toArray by rw [AJ];exact agn _ _ _);have Ct:=aa (fun (h:J≠1)=>show prog.built 80 [(0,.string P)]=some bH.toArray by rw [Br h];exact ams _);have Cv:=aa bY;have Cw:=aa Ay;obtain⟨g0,C8⟩:=ai w.heap.size;have Al:=aa C8;rw [<- Ae,<- AA,<- Ai];rw [show l8.toArray=#[.string ⟨#[]⟩,.bool false,.string ⟨#[]⟩] from rfl] at AL;have E9:=AL.symm;clear AL Ae AA Ai AJ Br BQ BX Bb Bc AO BP hs Bo bY C8 AB Ay Bn Bq Az BA Bt Bv Bp;go_enter func38,ntmps38;go_upto_region 7 with (first
  | (go_at_call 44; refine (Af.o aF (Below.refl _ _)).2.2.2.mono ?_;rintro e af ⟨rfl,AZ⟩;have Cz:=aa AZ;have DD:=(Af.o af AZ).2.1;have DF:=(Af.o af AZ).2.2.1;have DL:=Cg.o af AZ;clear AZ)
  | (go_at_call 60; refine (Bd.o af Cz.o).mono ?_;rintro e aC ⟨L,DN,DR,rfl,C9,CE,CJ,BG⟩;obtain⟨dh,Aa⟩:=ai (jm o L);have CK:=aa Aa;rw [<- Aa];obtain⟨DW,DX,DY⟩:=hq3 C9 CE CJ;rw [<- Al.o] at BG;have Am:=aa BG;have BH:dh.length=4:=(by rw [Aa];rfl);have CL:Sz 63 dh.length:=(by rw [BH];exact kr);have CS:∀ v∈dh,v.oneCell'=true:=(by rw [Aa];simp [jm,Value.oneCell']);clear Aa C9 CE CJ BG DD DF DL)
  | ((with_reducible refine rP dh BH CL CS ?_);intro I Ab BI;obtain⟨g5,Ao⟩:=ai aC.heap.size;rw [<- Ao] at BI;have DZ:=aa Ao;obtain⟨nl,BJ,CU,BK,lc,BL⟩:=nq3 o.outs.length L.A L.c;have Bf:I.cell? (ad g5 2)=some (.slice CU nl lc):=(by rw [BI.o.cell 2,CK.o,BJ,BK,BL];rfl);have CV:I.cell? (ad g5 0)=some (.int .i64 J):=(by rw [BI.o.cell 0,CK.o,Cw.o];rfl);have Da:=aa CV;have Db:=aa (show Calls prog 45 #[.slice CU nl lc,.string P] I fun e w'=>e = .returned (.tuple #[.string AV,.bool AP])/\Bl I w' by rw [BK,BJ,BL];exact Cs.o I L (DW.o.all Ab.o));rw [<- Ao];clear Ao BJ BK BL))
 have CW:=aa (fun (Ap A7:aRB) (ae:Bl I Ap) (av:aM A7 g0 bH 80) (Dc:fU g0 Ap A7)=>show ∃ σ' fB,zN c l w U σ aI A7 σ' fB/\σ'.begun j=true from
  ⟨DN,DR,(DX.o.high hl (aR Ab.o ae)).own hl Cv.o ((Am.o.all Ab.o).all ae) Dc (by rw [Al.o];exact aQm _) dc dc,DY.o⟩)
 clear BH CL CS;by_cases hk:J=1
 ·have De:decide (J=1)=true:=decide_eq_true hk;have Df:(J != 1)=false:=by rw [hk];rfl
  have Dg:=aa hk;clear hk;try rw [<- Al.o]
  go_wp2_with (first
   | (go_at_call 45; refine Db.o.mono ?_;rintro e Ap ⟨rfl,BM⟩;have Dh:=aa ((Am.o.all Ab.o).all BM);have Dk:=aa BM;clear BM)
   | ((with_reducible refine Re (.string P) (.bool AP) (.string AV) _ BF.o ?_ ?_);exact⟨rfl,rfl,rfl⟩)
   | ((with_reducible refine vC bH Dh.o Ak.o Bu Bw.o ?_);intro A7 Ad BO))
  refine Ej Ad.o underlying80 rfl Ak.o ⟨rfl,rfl,rfl⟩ ?_;exact⟨by rw [Dg.o];rfl,CW.o Ap A7 Dk.o Ad.o BO.o⟩
 ·have De:decide (J=1)=false:=aRd hk;have Df:(J != 1)=true:=by simpa using hk
  have BF:=aa (Ct.o hk);have Dl:=aa (show g5≠g0 from fun e=>by have:=Am.o.lt;have:=DZ.o;omega);have Dm:=aa (fun (u:Nat->Value)=>EA.start (g:=g0) (W:=I) (V:=bH) (ty:=80) (si:=4) (u:=u));have Dp:=aa (show aM I.drew g0 l8 80 from (Am.o.all Ab.o).all (Below.refl _ I).drew);clear hk;go_upto_region 8 with fail
  try rw [<- Al.o]
  refine Tq 5 (iY [some (.string P),some (.agg bH.toArray),some (pp g5 0),some (.int .i64 J),none] (fun _ _ _=>True)) (EA g0 I bH 80 4) (fun _ _=>True) Dm.o (fun j v w1 af ae Dq=>iY.keep (fun _=>trivial) Dq) ?_ (jJ:=?_)
  rotate_left
  ·repeat' (first | exact trivial | apply And.intro)
   all_goals intro eH u2 af EB Y CZ ED Aq Au K Aw
   all_goals simp [iY,Region.binds] at Au
   all_goals first | simp [Region.wanted,yielded,Aq,Au] | simp [Region.wanted,yielded] | skip
   all_goals have CV:=Y.cell Da.o Dl.o
   all_goals try (first | exact Aw _ _ rfl (Y.plain dc) (trivial) | (go_simp;exact Aw _ _ rfl (Y.plain dc) (trivial)))
   ·refine amr (.string P) bH.toArray BF.o rfl (by simp [Act.eval,Aq,Au]) ?_;exact Aw _ _ rfl (Y.plain dc) trivial
   ·have Ca:=Dp.o;rw [<- Y.1 CZ] at Ca;refine wp_store_row g0 0 (.agg bH.toArray) bH l8 bH _ Ca (qD _) Ak.o Cn.o Bw.o Co.o rfl ⟨by simp [Act.eval,Aq],by simp [Act.eval,Aq,Au]⟩ ?_;intro bS Dr Dt;exact Aw _ _ trivial (Y.stored CZ Dr Dt) trivial
  ·intro u6 A7 Y Cb;have Dx:u6 3 = .int .i64 J:=Cb.at 3 dc dc;obtain⟨Dy,Dz⟩:=Y.2 rfl;clear Cb;simp only [Dx];have Ad:=aa Dy;have BO:=aa Dz;go_wp2_with fail;refine Ej Ad.o underlying80 rfl Ak.o ⟨rfl,rfl,rfl⟩ ?_;exact⟨rfl,CW.o I.drew A7 (Below.refl _ I).drew Ad.o BO.o⟩
end
section
open Go.RowKit Go.Shelf
theorem aKV (h:aM w g [v] t):Rd w 1 (some ⟨g,0,none⟩) 1 [v]:=⟨rfl,fun _=>⟨g,0,rfl,fun j u hu=>by rw [Nat.zero_add,h.cell j,hu]⟩⟩
theorem aKW (p:ByteArray):prog.built 135 [(0,.string p)]=some (Value.string p :: Value.bool false :: l6 Bg).toArray:=kr
theorem aKX (p:ByteArray) (S:aRH):prog.built 135 [(0,.string p),(1,.bool true),(2,.agg (l6 S).toArray)]=some (Value.string p :: Value.bool true :: l6 S).toArray:=kr
theorem aKY (p:ByteArray) (S:aRH) (h:S.length=32):prog.built 135 [(0,.string p),(1,.bool true),(2,.agg (bO S).toArray)]=some (Value.string p :: Value.bool true :: bO S).toArray:=by rw [<- H7 h];exact aKX p S
theorem aKZ (w:aRB) (k:dz) (hs:k.data.length<=1000000000) :
  CB 96 #[.agg (iy k).toArray] w (.agg (gZ (iA k)).toArray):=by
 obtain⟨J,AJ,I,AL,qf,AO⟩:=nq3 (az k.path) (az k.data) k.is;have Ae:Value.agg (iy k).toArray = .agg #[.string J,.bool qf,.string I]:=by rw [AJ,AL,AO];rfl
 obtain⟨aF,A7⟩:=ai (w.alloc (.cells #[.string J,.bool qf,.string I] 80));obtain⟨aV,AA⟩:=ai (aF.alloc (.cells xx.toArray 135));have Af:=gQ A7;have Ag:aF.heap.size=w.heap.size+1:=by rw [A7];simp
 have Aa:=gQ AA;have AP:aM aV w.heap.size [.string J,.bool qf,.string I] 80:=by refine aM.all ?_ Aa;rw [A7];exact aM.new w _ _
 have Ah:=lH AA;rw [Ae];rw [aqZ] at AA;have Ao:=aa (aR Af Aa);obtain⟨Ap,AV,Aq⟩:=hq3 Ah AP Ag;have Au:=A7.symm;have Aw:=AA.symm;have AZ:=WG (iA k);have Ai:=FZ (iA k);obtain⟨Y,AB⟩:=ai (gZ (iA k));have hlen:Y.length=34:=by rw [AB];exact Ac _
 rw [<- AB] at AZ Ai |-;have Ay:Y.length=xx.length:=by rw [hlen];rfl
 have BK:=AP.cell 1;have BL:=AP.cell 0;obtain⟨g1,Ab,g2,Az⟩:=nq2 w.heap.size aF.heap.size;cases qf with
 | false =>
  have Ak:=aa (show prog.built 135 [(0,.string J)]=some Y.toArray by rw [AB,aiQ AO.symm,AJ];exact aKW _);clear A7 AA Af Ag Aa AP Ah AJ AL AO Ae AB hs Ab Az;go_enter func96,ntmps96;go_wp2_with (first
   | ((with_reducible refine aqU (.string J) _ Ak.o ?_ ?_);exact rfl)
   | ((with_reducible refine vC Y Ap.o AZ Ay Ai ?_);intro BF Al Am))
  exact D9 Al.o underlying135 rfl AZ ⟨rfl,rfl,rfl⟩ ⟨rfl,oF Ao.o Am.o (by have:=Aq.o;omega)⟩
 | true =>
  obtain⟨S,Ad⟩:=ai (bN.sum k.data);have BG:=aa (fun (W:aRB) (g:Nat) (av:aM W g [.string I] 9)=>show CB 33 #[.slice (some ⟨g,0,none⟩) 1 1] W (.agg (bO S).toArray) from by
   have:=WA W g I (by rw [AL,iM];exact hs) (aKV av);rw [show I.data.toList=k.data by rw [AL,gU],<- Ad] at this;exact this)
  have Ak:=aa (show prog.built 135 [(0,.string J),(1,.bool true),(2,.agg (bO S).toArray)]=some Y.toArray by rw [AB,aiP AO.symm,AJ,<- Ad];exact aKY _ _ (by rw [Ad];exact yB _));rw [<- Ab] at AV;clear A7 AA Af Ag Aa AP Ah AJ AL AO Ae AB hs Ad Az;go_enter func96,ntmps96;go_upto_region 3 with fail
  try rw [Au]
  try rw [Aw]
  try rw [<- Ab]
  clear Au Aw Ab;have kE:=aa fun af (aj:Bl aV af)=>And.intro ((AV.o.all aj).cell 0) ((AV.o.all aj).cell 2);refine ng nE 7 [some (pp g1 0),some (.string J),some (pp g1 2),some (.string I),none,some (.agg (bO S).toArray),some (.agg Y.toArray)] (fun j v af=>j=4->∃ g,v = .slice (some ⟨g,0,none⟩) 1 1/\aM af g [.string I] 9) (Bl aV) Bl ((Below.refl _ aV).drew) (fun j v w1 af ae=>fun h e=>(h e).imp fun g h=>⟨h.1,h.2.all ae⟩) ?_ (jJ:=?_)
  ·intro u3 aC aj BH;clear BH;have BI:=aa aj;have BJ:=aa (Ap.o.all aj);clear aj;go_wp2_with (first
    | ((with_reducible refine vC Y BJ.o AZ Ay Ai ?_);intro BF Al Am))
   exact D9 Al.o underlying135 rfl AZ ⟨rfl,rfl,rfl⟩ ⟨rfl,oF (aR Ao.o BI.o) Am.o (by have:=Aq.o;omega)⟩
  ·repeat' (first | exact trivial | apply And.intro)
   all_goals try exact rx
   all_goals intro eH u af aj aK bz K aS
   all_goals try simp [iY,Region.binds] at bz
   all_goals refine mf rfl ?_
   all_goals have BM:=(AV.o.all aj).cell 0
   all_goals have BO:=(AV.o.all aj).cell 2
   ·refine Nl Av (.string I) rfl rfl (by simp [Act.eval,aK,bz]) ?_;exact aS _ _ (fun _=>⟨_,rfl,aM.new af [.string I] _⟩) (aj.alloc aj.size _) gK
   ·have ah:=bz;obtain⟨g,BP,av⟩:=ah;go_simp;refine (BG.o af g av).mono ?_;rintro e aC ⟨rfl,BA⟩;exact aS _ _ rfl (aR aj BA) BA
   ·refine afg (.string J) (.bool true) (.agg (bO S).toArray) Y.toArray Ak.o rfl ⟨by simp [Act.eval,aK,bz],rfl,by simp [Act.eval,aK,bz]⟩ ?_;exact aS _ _ rfl aj (Below.refl _ _)
end
section
open Go
def ab8 (P:Program) (fn:Func) (tmps:Array Value) (R:aRF):List Deferred->World->Prop
 | [],w=>∃ v,(results fn tmps).run P w = .ok v w/\R (.returned v) w
 | d :: yZ,w=>∃ b at_ ty cs x w',d.target = .builtin b at_ ty cs/\(invoke d.target d.args).run P w = .ok (.value x) w'/\ab8 P fn tmps R yZ w'
def agA (P:Program) (fn:Func) (R:aRF):Exit->Act->World->Prop
 | .normal,a,w | .ret,a,w=>ab8 P fn a.tmps R a.defers w
 | .outgrown,_,w=>R .outgrown w
 | _,_,_=>False
variable {P:Program}
theorem aK1 {bf:Frame} {cs:List Frame} {d:Deferred} {yZ:List Deferred} {b:Builtin} {at_:Array TypeId} {co:Array Bool} {x:Value} (hm:bf.mode = .returning) (aT:bf.defers=d :: yZ) (aA:d.target = .builtin b at_ ty co)
  (ay:(invoke d.target d.args).run P w = .ok (.value x) w'):step P (lone bf cs w) = .next (lone { bf with defers:=yZ } cs w'):=by
 obtain⟨t,a⟩:=d;simp only at aA ay;subst aA;exact step_lone_go (by simp [stepG,unwind,callDeferred,hm,aT,ay])
theorem amK {fn:Func} {tmps:Array Value} {R:aRF}:∀ (yZ:List Deferred) (w:aRB) (bf:Frame) (cs:List Frame),bf.mode = .returning->bf.defers=yZ->bf.tmps=tmps->P.funcs[bf.fn]?=some fn->bf.kind = .normal->ab8 P fn tmps R yZ w ->
  ∃ e w' Jt,R e w'/\Comes P (lone bf cs w) (lone Jt cs w') e/\Jt.fn=bf.fn/\Jt.leaving P w' e
 | [],w,bf,cs,hu,I,J,hf,hk,⟨v,Y,M⟩=>⟨.returned v,w,bf,M,Steps.refl P _,rfl,hu,I,hk,fn,hf,J ▸ Y⟩
 | d :: yZ,w,bf,cs,hu,I,J,hf,hk,⟨b,at_,ty,co,x,w',h1,A7,AA⟩=>by
  obtain⟨e,af,Jt,M,hs,AB,hl⟩:=amK yZ w' { bf with defers:=yZ } cs hu rfl J hf hk AA;exact⟨e,af,Jt,M,Comes.of_steps (.one (aK1 hu I h1 A7)) hs,AB,hl⟩
theorem awI {f:FuncId} {fn:Func} {c:Code} {args:Array Value} {R:aRF} (hf:P.funcs[f]?=some fn) (ae:fn.body=some c)
  (h:c.wp P (agA P fn R) { tmps:=args++Array.replicate (fn.ntmps - args.size) undef,defers:=[] } w):Calls P f args w R:=by
 intro cs;let b:Frame:={ (default:Frame) with fn:=f,kind:=.normal };have AL:Frame.enter P f args .normal=b.at { tmps:=args++Array.replicate (fn.ntmps - args.size) undef,defers:=[] } [.code c]:=by simp [Frame.enter,Frame.at,hf,ae,b]
 obtain⟨e,J,w',I,M⟩:=h b [] cs;rw [<- AL] at M;cases e with
 | normal =>
  obtain⟨Y,A7,AA,AB,hs,AJ,hl⟩:=amK J.defers w' { b.at J [] with mode:=.returning } cs rfl rfl rfl hf rfl I;exact⟨Y,A7,AA,AB,Comes.of_steps (Steps.trans M (.one step_end)) hs,AJ,hl⟩
 | ret =>
  obtain⟨todo,AO⟩:=M;obtain⟨Y,A7,AA,AB,hs,AJ,hl⟩:=amK J.defers w' { b.at J todo with mode:=.returning } cs rfl rfl rfl hf rfl I;exact⟨Y,A7,AA,AB,Comes.of_steps AO hs,AJ,hl⟩
 | panic chain=>exact I.elim
 | exit id=>exact I.elim
 | goto l=>exact I.elim
 | outgrown=>exact⟨.outgrown,w',b,I,M.resolve_left (by simp [b]),rfl,trivial⟩
end
section
open Go.Maps Go.RowKit Go.Shelf
theorem iF.same {l:nX} {P:nV} {ins asks:List ak} {b:dA} (ae:iF w l P ins asks b) (hs:w.heap.size<=w'.heap.size) {A:aRC} (hk:∀ k,l.B<=k->k < w.heap.size->some k≠bV A->w'.heap[k]?=w.heap[k]?)
  (hA:∀ q,bV A=some q->(∃ cur bf,w.heap[q]?=some (.cells cur 135 bf))/\some q≠bV l.cZ) (bY:Vd w w'):iF w' l P ins asks b:=by
 obtain⟨q,AO⟩:=ae.run;have key:∀ {k:Nat} {cs:Array Value} {t:TypeId} {bf:Nat × Nat},w.heap[k]?=some (.cells cs t bf)->l.B<=k->t ≠ 135 -> w'.heap[k]?=w.heap[k]?:=fun {k cs t bf} h1 J Y=>hk k J (ic h1) fun e=>by
  obtain⟨⟨cur,AP,I⟩,_⟩:=hA k e.symm;rw [h1] at I;injection I with I
  injection I with _ I
  exact Y I
 have AA:∀ {g:Nat} {V:aRD} {t:TypeId},aM w g V t->l.B<=g->t ≠ 135 -> aM w' g V t:=fun av h1 J=>(key av h1 J).trans av;have AB:∀ {aO n c2:Nat} {t:TypeId} {iD:aRC} {xs:aRD},Own w l.B t aO iD n c2 xs->t ≠ 135 -> Own w' l.B t aO iD n c2 xs:=fun AJ h1=>AJ.keep fun b AV _ _=>by
  obtain⟨I,_,cur,bf,hc⟩:=AJ.block b AV;exact key hc I h1
 have A7:∀ {g:Nat} {y:List ak},sO w l.B g y->sO w' l.B g y:=fun {g y} hs=>by
  obtain⟨iD,c2,AZ,Aa⟩:=hs.row;exact⟨hs.far,iD,c2,AA AZ hs.far dc,AB Aa dc⟩
 have AL:∀ (k:Nat) (o:Obj),l.B<=k->w.heap[k]?=some o->o.isCells=false->w'.heap[k]?=w.heap[k]?:=fun k o h1 J Y=>hk k h1 (ic J) fun e=>by
  obtain⟨⟨cur,AP,I⟩,_⟩:=hA k e.symm;rw [J] at I;cases I;cases Y
 refine⟨AA ae.row ae.far.1 dc,ae.far,AB ae.outs dc,⟨A7 ae.may.o,A7 ae.may.i,A7 ae.may.a⟩,ae.map.keep ?_,ae.reads.keep fun k h1 J Y=>hk k J Y fun e=>(hA k e.symm).2 h1.symm,q,?_⟩
 ·obtain⟨es,Ad,Ab,_⟩:=ae.map;exact AL _ _ ae.far.2.1 Ab rfl
 ·letI:=vL l.m;exact jL.oI AO bY hs fun k o h1 _ J Y=>AL k o (aQn ae.far.2.2 h1) J Y
theorem AY.oI {l:sP} (hl:l.Ok) (h:AY c l w U σ aI) (hf:xG l w w'):Vd w w':=fun k cs t bf Y AB=>hf.keep k (ic Y) fun e=>by
 have key:∀ {I:Obj},w.heap[k]?=some I->I.isCells=false->False:=fun h1 M=>by
  rw [Y] at h1;cases h1;cases M
 obtain⟨OL,n,_,M,_⟩:=h.at_.over;obtain⟨AJ,_,A7⟩:=h.at_.way;obtain⟨AL,f,_,AA⟩:=h.at_.waits;rcases e with rfl | rfl | rfl
 ·obtain⟨I,h1,J⟩:=M.obj;exact key h1 J
 ·obtain⟨I,h1,J⟩:=A7.obj;exact key h1 J
 ·obtain⟨I,h1,J⟩:=AA.obj;exact key h1 J
structure vQ (c:dL) (l:sP) (i:Nat) (x:iP) (w:aRB) (us:aRG) (σ:bI) (aI:aRI) (lL jG l9 nW:Nat) (wr:aRB) (s:dA) (bL kr:List dz) (nN:Nat) (iK:nX) (kL:aRC) (qU:Nat):Prop where
 all:∃ bQ eY,AY c l wr (i :: us) bQ eY/\xG l w wr/\(∀ j,σ.begun j=true->bQ.begun j=true)/\(∀ j,σ.got j≠none->bQ.got j=σ.got j)/\(∀ q,eY q->aI q\/w.heap.size<=q)/\(∀ q,bV iK.cZ=some q->¬ eY q)/\(∀ q,bV kL=some q->¬ eY q)/\xP c.W bQ i nN
 box:iF wr iK (kZ x.2) x.2.ins x.2.asks s
 lay:iK.X=l9/\iK.B=nW/\w.heap.size<=nW/\w.heap.size<=lL/\w.heap.size<=jG/\lL < nW/\l.T<=w.heap.size
 read:Own wr w.heap.size 135 34 kL kr.length qU (cz gZ (kr.map iA))
 Yh:∀ q,bV kL=some q->some q≠bV iK.cZ
 res:aM wr lL iG 63
 out:aM wr jG iG 63
 pos:yw c i s (bL.map iA)
 small:∀ k∈bL,k.data.length<=65536
section
variable {c:dL} (hc:c.Fit) {l:sP} (hl:l.Ok) {i:Nat} {x:iP} {w:aRB} {us:aRG} {σ:bI} {aI:aRI} {lL jG l9 nW:Nat} {wr w':aRB} {s:dA} {bL kr:List dz} {nN:Nat} {iK:nX} {kL:aRC} {qU:Nat}
theorem vQ.below (hl:l.Ok) (h:vQ c l i x w us σ aI lL jG l9 nW wr s bL kr nN iK kL qU) (ae:Bl wr w'):vQ c l i x w us σ aI lL jG l9 nW w' s bL kr nN iK kL qU:=by obtain⟨bQ,eY,h1,I,J⟩:=h.all;exact⟨⟨bQ,eY,h1.all hl ae,I.trans (.gT ae),J⟩,h.box.below ae,h.lay,h.read.below ae (aQm _),h.Yh,h.res.all ae,h.out.all ae,h.pos,h.small⟩
theorem vQ.comes (hl:l.Ok) {m:Nat} (iL:agz c l m) (hm:rZ σ c.n<=m) (fC:i < c.n) (ql:c.X.getD i mZ=x.2) (hc:c.Fit) (h:vQ c l i x w us σ aI lL jG l9 nW wr s bL kr bL.length iK kL qU) (gq:s.over=false) :
  Calls prog 38 #[pp l.X 0,.string (az s.asks)] wr fun e w'=>e = .returned (.tuple #[.agg (iy (uC (fI c.W s.asks) s.asks).2).toArray,.int .i64 (uC (fI c.W s.asks) s.asks).1])/\vQ c l i x w us σ aI lL jG l9 nW w' s bL kr (bL.length+1) iK kL qU:=by
 obtain⟨bQ,eY,h1,M,Y,A7,AA,AB,AJ,AL⟩:=h.all;have AO:=h.pos.asks hc fC ql gq;have AP:=h.lay;refine (iL wr (i :: us) bQ eY s.asks h1 (aQn (afH c.n Y) hm) AO.1 fun j aD=>?_).mono ?_
 ·have hw:=h.pos.waits gq aD;exact⟨(h1.inv.reach i ((h1.inv.under i).1 sp).1).next hw,h1.inv.arG rfl hw,fun hu=>h1.inv.ring (IP hc.work.small).fin rfl hw hu aD⟩
 ·rintro e w' ⟨rfl,σ',fB,I,AV⟩;refine⟨rfl,⟨σ',fB,I.st,M.trans I.rE,fun j aD=>I.begun j (Y j aD),fun j aD=>by rw [I.got j (by rw [A7 j aD];exact aD),A7 j aD],fun q J=>?_,fun q J hf=>?_,fun q J hf=>?_,h.pos.next (AL.mono I.begun) AV⟩,h.box.same I.rE.size (A:=none) (fun k Aa AZ _=>I.rE.keep k AZ fun e=>by have:=(hl.low k e).2;omega) (fun q e=>by cases e) (AY.oI hl h1 I.rE),h.lay,Own.rE hl I.rE h.read AP.2.2.2.2.2.2,h.Yh,I.rE.high hl h.res om,I.rE.high hl h.out om,h.pos,h.small⟩
  ·rcases I.wC q J with k | k
   ·exact AA q k
   ·exact .inr (aQn M.size k)
  ·rcases I.wC q hf with k | k
   ·exact AB q J k
   ·have:=(h.box.reads.block q J).2.1;omega
  ·rcases I.wC q hf with k | k
   ·exact AJ q J k
   ·have:=(h.read.block q J).2.1;omega
theorem vQ.Qf (hl:l.Ok) (h:vQ c l i x w us σ aI lL jG l9 nW wr s bL kr nN iK kL qU) {k:dz} {A9:aRC} {c9:Nat} (aG:Own w' w.heap.size 135 34 A9 (kr.length+1) c9 (cz gZ (kr.map iA)++gZ (iA k))) (ax:wr.grownBy w' (bV kL)) (hA:bV A9=bV kL\/bV A9=some wr.heap.size):vQ c l i x w us σ aI lL jG l9 nW w' s bL (kr++[k]) nN iK A9 c9:=by
 obtain⟨bQ,eY,h1,Y,Aa,Ab,Ad,Ae,AP,Af⟩:=h.all;have Ag:=h.lay;have Ah:∀ q,bV kL=some q->(∃ cur bf,wr.heap[q]?=some (.cells cur 135 bf))/\some q≠bV iK.cZ:=fun q I=>⟨(h.read.block q I).2.2,h.Yh q I⟩;have AV:∀ {g:Nat} {V:aRD} {t:TypeId},aM wr g V t->t ≠ 135 -> aM w' g V t:=fun av Ai=>(ax.block _ av.lt fun e=>h.read.ne av (aQJ Ai) e.symm).trans av;have bY:∀ q,bV kL=some q->w.heap.size<=q:=fun q I=>(h.read.block q I).1;have AJ:∀ k,k < l.T->w'.heap[k]?=wr.heap[k]?:=fun k hk=>ax.block k (aQq hk (aQn Ag.2.2.2.2.2.2 Y.size)) fun e=>by have:=bY k e.symm;omega
 have Ak:Vd wr w':=fun k cs t bf A7 AA=>ax.block k (ic A7) fun e=>by
  obtain⟨_,_,cur,Al,J⟩:=h.read.block k e.symm;rw [A7] at J;injection J with J
  injection J with _ J
  subst J;exact absurd AA dc
 have Am:rD c l 0 w' (i :: us) bQ (fun q=>eY q/\q < wr.heap.size):=by
  obtain⟨OL,n,A7,AA,AB⟩:=h1.at_.cut.over;obtain⟨Ao,Ap,Aq⟩:=h1.at_.way;obtain⟨Au,f,Aw,Ay⟩:=h1.at_.waits;refine⟨(AJ _ hl.base.2).trans h1.at_.row,⟨OL,n,A7,AA.keep (AJ _ (hl.low _ (.inl rfl)).2),fun j o e=>⟨⟨?_,?_⟩,(AB j o e).2⟩⟩,⟨Ao,Ap,Aq.keep (AJ _ (hl.low _ (.inr (.inl rfl))).2)⟩,⟨Au,f,Aw,Ay.keep (AJ _ (hl.low _ (.inr (.inr rfl))).2)⟩,fun W Az=>h1.at_.work W fun k AZ AO=>(Az k AZ AO).trans (AJ k AZ),h1.at_.home.below ⟨ax.os,ax.tape,ax.output,ax.size,fun k hk=>AJ k (by have:=hl.base.1;omega)⟩,aQn h1.at_.size ax.size⟩
  ·refine (AB j o e).1.outs.grown ax fun b ae AO=>?_;obtain⟨_,_,cur,bf,J⟩:=(AB j o e).1.outs.block b ae;obtain⟨_,_,BA,Al,AL⟩:=h.read.block b AO.symm;rw [J] at AL;injection AL with AL
   injection AL with _ AL
   exact absurd AL dc
  ·exact (AB j o e).1.reads.grown ax fun b ae AO=>AP b AO.symm ((AB j o e).2 b ae).1
 refine⟨⟨bQ,_,⟨Am,h1.inv⟩,⟨ax.os.trans Y.os,ax.tape.trans Y.tape,ax.output.trans Y.output,aQn Y.size ax.size,fun k A7 AA=>(ax.block k (aQq A7 Y.size) fun e=>by have:=bY k e.symm;omega).trans (Y.keep k A7 AA)⟩,Aa,Ab,fun q I=>Ad q I.1,fun q I hf=>Ae q I hf.1,fun q I hf=>?_,Af⟩,h.box.same ax.size (A:=kL) (fun k _ AA AB=>ax.block k AA AB) Ah Ak,h.lay,?_,fun q I=>?_,AV h.res dc,AV h.out dc,h.pos,h.small⟩
 ·rcases hA with hA | hA
  ·exact AP q (by rw [<- hA];exact I) hf.1
  ·rw [hA] at I;cases I;exact Nat.lt_irrefl _ hf.2
 ·rw [List.map_append,show cz gZ (kr.map iA++[k].map iA)=cz gZ (kr.map iA)++gZ (iA k) by simp [cz],List.length_append];exact aG
 ·rcases hA with hA | hA
  ·exact h.Yh q (by rw [<- hA];exact I)
  ·rw [hA] at I;cases I;exact fun e=>by have:=(h.box.reads.block _ e.symm).2.1;omega
theorem vQ.given (hl:l.Ok) (h:vQ c l i x w us σ aI lL jG l9 nW wr s bL kr nN iK kL qU) {k:dz} {s':dA} (aL:yw c i s' ((bL++[k]).map iA)) (hk:k.data.length<=65536) {cZ:aRC} {rc:Nat} (ah:iF w' { iK with cZ:=cZ,rc:=rc } (kZ x.2) x.2.ins x.2.asks s') (ae:kD iK wr w') (aB:∀ q,q < wr.heap.size->some q≠bV iK.cZ->some q≠bV cZ):vQ c l i x w us σ aI lL jG l9 nW w' s' (bL++[k]) kr nN { iK with cZ:=cZ,rc:=rc } kL qU:=by
 obtain⟨bQ,eY,h1,J,AA,AB,AJ,Y,AL,AO⟩:=h.all;have Af:=h.lay;have A7:∀ {g:Nat} {V:aRD} {t:TypeId},aM wr g V t->t ≠ 295 -> t ≠ 1 -> t ≠ 253 -> t ≠ 135 -> aM w' g V t:=fun av AP AV AZ Aa=>(X6 h.box ae av AP AV AZ (alR h.box av Aa)).trans av;refine⟨⟨bQ,(fun q=>eY q/\q < wr.heap.size),⟨h1.at_.cut.Lx hl h.box ae om (fun q I hf=>Y q I hf.1),h1.inv⟩,⟨ae.os.trans J.os,ae.tape.trans J.tape,ae.output.trans J.output,aQn J.size ae.size,fun k Ab Ad=>(ae.low k om).trans (J.keep k Ab Ad)⟩,AA,AB,fun q I=>AJ q I.1,fun q I hf=>?_,fun q I hf=>AL q I hf.1,AO⟩,ah,h.lay,?_,fun q I e=>?_,A7 h.res dc dc dc dc,A7 h.out dc dc dc dc,aL,fun y hy=>?_⟩
 ·by_cases e:some q=bV iK.cZ
  ·exact Y q e.symm hf.1
  ·exact aB q hf.2 e I.symm
 ·refine h.read.keep fun q I _ _=>?_;obtain⟨_,_,cur,bf,Ae⟩:=h.read.block q I;exact X6 h.box ae Ae dc dc dc (h.Yh q I)
 ·exact aB q (h.read.block q I).2.1 (h.Yh q I) e
 ·rcases aQI.1 hy with h1 | h1
  ·exact h.small y h1
  ·rw [List.mem_singleton.1 h1];exact hk
end
end
section
open Go.Maps Go.RowKit Go.Shelf
section
variable {P:Program} {fn:Func} {R:aRF} {a:Act} {W W':aRB} {g:Nat} {V:aRD} {ty:TypeId} {d:TypeDesc} {t:Tmp}
theorem aK5 (av:aM W g V ty) (hu:P.underlying ty=some d) (aT:CF d=true) (ay:(P.info? ty).map (·.size)=some V.length)
  (hf:fn.results=#[.cell t ty]/\a.tmps.getD t undef = .pointer (some ⟨g,0,none⟩)/\a.defers=[]) (aK:R (.returned (.agg V.toArray)) W):agA P fn R .ret a W:=by
 show ab8 P fn a.tmps R a.defers W;rw [hf.2.2];exact⟨_,aQO hf.1 _ _ g ty _ (0,0) _ hf.2.1 av hu (by cases d <;> exact aT) (by rw [List.size_toArray];exact ay),aK⟩
theorem aK6 {b:Builtin} {at_:Array TypeId} {t2:TypeId} {co:Array Bool} {args:Array Value} {x:Value} (av:aM W' g V ty) (hu:P.underlying ty=some d) (aT:CF d=true) (ay:(P.info? ty).map (·.size)=some V.length)
  (hf:fn.results=#[.cell t ty]/\a.tmps.getD t undef = .pointer (some ⟨g,0,none⟩)/\a.defers=[⟨.builtin b at_ t2 co,args⟩]) (ae:(invoke (.builtin b at_ t2 co) args).run P W = .ok (.value x) W') (aK:R (.returned (.agg V.toArray)) W'):agA P fn R .ret a W:=by
 show ab8 P fn a.tmps R a.defers W;rw [hf.2.2];exact⟨_,_,_,_,_,_,rfl,ae,_,aQO hf.1 _ _ g ty _ (0,0) _ hf.2.1 av hu (by cases d <;> exact aT) (by rw [List.size_toArray];exact ay),aK⟩
end
theorem aK7 (hc:c.Fit) {l:sP} (hl:l.Ok) (hs:AY c l w U σ aI) (fC:i < c.n) (ax:σ.got i≠none) :
  Calls prog 60 #[pp l.X 0,.int .i64 i] w (Yg c l w U σ aI i):=by
 obtain⟨o,M⟩:=Option.ne_none_iff_exists'.1 ax;obtain⟨Y,Aa⟩:=hs.inv.right i o M;subst Y;have Ai:i < 1000:=by have:c.n<=10:=hc.kV.nN;omega
 obtain⟨OL,n,_,hm,Y⟩:=hs.at_.over;obtain⟨AJ,Ab⟩:=Y i _ M;obtain⟨L,AL⟩:=ai (OL i);rw [<- AL] at AJ Ab;obtain⟨dh,I,aF,J⟩:=nq2 (jm (bE c.W i) L) (w.alloc (.cells iG.toArray 63));have A7:=gQ J;have Ad:=lH J;obtain⟨X,AO⟩:=ai l.X;have Aw:aF.cell? (ad X 4)=some (.map (some l.sQ)):=by rw [AO];exact (hs.at_.all hl A7).cells.2.2.1
 have Ay:(Instr.lookup 110 (.map (some l.sQ)) (.int .i64 (i:Int)) true).run prog aF = .ok (.tuple #[.agg dh.toArray,.bool true]) aF:=by have:=(hm.keep (A7.block _ hm.lt)).look_ok ab7 Ai underlying110 iG kr;rw [M,Option.map_some,Option.getD_some,Option.isSome_some,<- AL,<- I] at this;exact this
 have AP:dh.length=4:=by rw [I];rfl
 have AA:Sz 63 dh.length:=by rw [AP];exact kr
 have Ae:∀ v∈dh,v.oneCell'=true:=by rw [I];simp [jm,Value.oneCell']
 have Ak:dh.length=iG.length:=AP;have Az:(dh.drop 0).take dh.length=dh:=by simp
 obtain⟨Al,Am,Af,Ag,Ao,Ap⟩:=hq6 Ad A7 hs AJ I Aa;rw [<- AO];rw [show iG.toArray=#[.int .i64 0,.int .i64 0,.slice none 0 0,.slice none 0 0] from rfl] at J;have BA:=J.symm;clear J AO Ad A7 hs AJ Ab hm Y M Aa I AL ax;refine awI func60 rfl ?_;simp only [ntmps60,List.size_toArray,List.length_cons,List.length_nil,Nat.reduceAdd,Nat.reduceSub,Array.replicate_succ,Array.replicate_zero,List.push_toArray,List.append_toArray,List.nil_append,List.cons_append];go_wp2_with fail;go_step3;go_wp2_with (first
  | ((with_reducible refine rP dh AP AA Ae ?_);intro BF Ah Aq;have AB:=aa (Al.o.all Ah.o))
  | (with_reducible refine kv Aq.o underlying63 AA ?_)
  | ((with_reducible refine vC dh AB.o AA Ak Ae ?_);intro BG Au AV))
 refine aK5 Au.o underlying63 rfl AA ⟨rfl,rfl,rfl⟩ ?_;have AZ:=aR Am.o Ah.o;rw [Ao.o];exact⟨L,σ,aI,rfl,⟨iJ (Ag.o.all AZ).outs AB.o dc AV.o,iJ (Ag.o.all AZ).reads AB.o dc AV.o⟩,((zN.refl Af.o).high hl AZ).own hl Af.o.at_.size AB.o AV.o (aQm _) dc dc,Ap.o⟩
structure Qr (c:dL) (l:sP) (i:Nat) (w:aRB) (us:aRG) (σ:bI) (aI:aRI) (lL jG:Nat) (dh:aRD) (kw:Nat) (rW:aRB) (bQ:bI) (eY:aRI) (L:lK) (OL:Nat->lK) (n:Nat):Prop where
 at_:rD c l kw rW (i :: us) bQ eY
 few:n+GX bQ c.n<=c.n
 map:kg rW GV l.sQ n (fun j=>(bQ.got j).map fun o=>jm o (OL j))
 rows:∀ j o,bQ.got j=some o->nC rW l.T o (OL j)/\∀ q,bV (OL j).B=some q->eY q
 inv:vZ c.W c.dN c.lX (i :: us) bQ
 rE:xG l w rW
 begun:∀ j,σ.begun j=true->bQ.begun j=true
 got:∀ j,σ.got j≠none->bQ.got j=σ.got j
 wC:∀ q,eY q->aI q\/w.heap.size<=q
 eq:dh=jm (bE c.W i) L
 own:nC rW l.T (bE c.W i) L
 fresh:∀ q,bV L.B=some q->w.heap.size<=q
 closed:∀ j,yc c.W i j->bQ.begun j=true
 res:aM rW lL iG 63
 lay:w.heap.size<=lL/\w.heap.size<=jG/\l.T<=w.heap.size/\i ∉ us/\i < c.n/\kw<=1
structure SN (c:dL) (l:sP) (i:Nat) (w:aRB) (us:aRG) (σ:bI) (aI:aRI) (lL:Nat) (dh:aRD) (rW:aRB) (bQ:bI) (eY:aRI) (L:lK):Prop where
 at_:rD c l 0 rW (i :: us) bQ eY
 inv:vZ c.W c.dN c.lX us bQ
 rE:xG l w rW
 begun:∀ j,σ.begun j=true->bQ.begun j=true
 got:∀ j,σ.got j≠none->bQ.got j=σ.got j
 wC:∀ q,eY q->aI q\/w.heap.size<=q
 eq:dh=jm (bE c.W i) L
 own:nC rW l.T (bE c.W i) L
 bi:bQ.begun i=true
 lay:w.heap.size<=lL/\l.T<=w.heap.size/\i ∉ us/\i < c.n
section
variable {c:dL} {l:sP} (hl:l.Ok) {i:Nat} {w:aRB} {us:aRG} {σ:bI} {aI:aRI} {lL jG:Nat} {dh:aRD} {kw:Nat} {rW w':aRB} {bQ:bI} {eY:aRI} {L:lK} {OL:Nat->lK} {n:Nat}
theorem Qr.below (hl:l.Ok) (h:Qr c l i w us σ aI lL jG dh kw rW bQ eY L OL n) (ae:Bl rW w'):Qr c l i w us σ aI lL jG dh kw w' bQ eY L OL n :=
 ⟨h.at_.all hl ae,h.few,h.map.keep (ae.block _ h.map.lt),fun j o e=>⟨(h.rows j o e).1.all ae,(h.rows j o e).2⟩,h.inv,h.rE.trans (.gT ae),h.begun,h.got,h.wC,h.eq,h.own.all ae,h.fresh,h.closed,h.res.all ae,h.lay⟩
theorem Qr.VF (hl:l.Ok) (h:Qr c l i w us σ aI lL jG dh kw rW bQ eY L OL n) (aA:fU l.sQ rW w') (hm:kg w' GV l.sQ (n+1) (fun j=>if j=i then some dh else (bQ.got j).map fun o=>jm o (OL j))):∃ Eu Fs,SN c l i w us σ aI lL dh w' Eu Fs L:=by
 have ax:bQ.got i=none:=((h.inv.under i).1 sp).2;have A7:bQ.begun i=true:=((h.inv.under i).1 sp).1;have M:=h.lay.2.2.2.1;obtain⟨AP,AA,AB⟩:=h.map.obj;rw [h.eq] at hm;have I:=h.at_.VF hl h.lay.2.2.2.2.2 h.lay.2.2.2.2.1 ax h.few h.map h.rows h.own hm aA;have hf:∀ q,(eY q\/bV L.B=some q)->aI q\/w.heap.size<=q:=fun q J=>by
  rcases J with J | J
  ·exact h.wC q J
  ·exact .inr (h.fresh q J)
 have AJ:∀ (Y:bI),Y.got=bQ.got->∀ j,σ.got j≠none->(Y.put i (bE c.W i)).got j=σ.got j:=fun Y e j aD=>by
  have:j≠i:=fun AO=>by
   subst AO;rw [<- h.got j aD,ax] at aD;exact aD rfl
  simp only [bI.put,if_neg this,e];exact h.got j aD
 have AL:xG l w w':=h.rE.trans (.dK aA (.inl rfl));by_cases hk:(bE c.W i).kind=1
 ·refine⟨(bQ.keep i (bE c.W i).outs).put i (bE c.W i),_,⟨?_,(h.inv.keep hk).put M h.closed fun _=>ajo,AL,h.begun,AJ _ rfl,hf,h.eq,h.own.NY aA AA AB,A7,⟨h.lay.1,h.lay.2.2.1,M,h.lay.2.2.2.2.1⟩⟩⟩;exact⟨I.row,I.over,I.way,I.waits,I.work,I.home,I.size⟩
 ·exact⟨bQ.put i (bE c.W i),_,⟨I,h.inv.put M h.closed fun e=>absurd e hk,AL,h.begun,AJ _ rfl,hf,h.eq,h.own.NY aA AA AB,A7,⟨h.lay.1,h.lay.2.2.1,M,h.lay.2.2.2.2.1⟩⟩⟩
theorem SN.stored (hl:l.Ok) (h:SN c l i w us σ aI lL dh rW bQ eY L) (av:aM rW lL Z 63) (aA:fU lL rW w'):SN c l i w us σ aI lL dh w' bQ eY L :=
 ⟨h.at_.own hl av aA (by have:=h.lay;omega) dc dc,h.inv,⟨aA.1.trans h.rE.os,aA.2.1.trans h.rE.tape,aA.2.2.1.trans h.rE.output,by rw [aA.2.2.2.1];exact h.rE.size,fun k I J=>(aA.2.2.2.2 k (by have:=h.lay.1;omega)).trans (h.rE.keep k I J)⟩,h.begun,h.got,h.wC,h.eq,⟨iJ h.own.outs av dc aA,iJ h.own.reads av dc aA⟩,h.bi,h.lay⟩
theorem SN.gone (hl:l.Ok) (h:SN c l i w us σ aI lL dh rW bQ eY L) (hc:c.Fit) (av:aM rW lL dh 63) (ty:TypeId) (co:Array Bool):∃ bK,(invoke (.builtin .delete #[111,3] ty co) #[.map (some l.uE),.int .i64 (i:Int)]).run prog rW = .ok (.value (.tuple #[])) bK/\aM bK lL dh 63 /\ Yg c l w us σ aI i (.returned (.agg dh.toArray)) bK:=by
 obtain⟨n,J,hm⟩:=h.at_.way;have M:i < 1000:=by have:c.n<=10:=hc.kV.nN;have:=h.lay.2.2.2;omega
 obtain⟨bK,Y,A7,I⟩:=hm.drop M underlying111 ty;obtain⟨AJ,AA,AB⟩:=hm.obj;have AL:=hl.low _ (.inr (.inl rfl));refine⟨bK,by simp [invoke,builtin,Y,Result.andThen],av.dK I (by have:=h.lay;omega),L,bQ,eY,by rw [h.eq],h.own.NY I AA AB,⟨⟨h.at_.gone hl h.lay.2.2.1 J hm A7 I,h.inv⟩,h.rE.trans (.dK I (.inr (.inl rfl))),h.begun,h.got,h.wC⟩,h.bi⟩
end
end
end Go.Proofs.YtjkinjbkknanbaaGreatDoor
