/- Pj -/
import Derived.Test.YtjkinjbkknanbaaGreatDoorSi
set_option maxRecDepth 100000
set_option maxHeartbeats 8000000
set_option linter.unusedSimpArgs false
set_option linter.unusedVariables false
namespace Go.Proofs.YtjkinjbkknanbaaGreatDoor
open Go.Proofs.Tryz
variable {c:dF} {w af w':aRU} {σ σ':bE} {aW U:aRZ} {aF fe:aR1} {i b j q g:Nat} {v:Value} {x:kH} {α:Type} {p:ak} {Z:aRW} {ty t:TypeId}
section
open Go.Maps Go.RowKit Go.Shelf
def agL (c:dF) (w:aRU) (U:aRZ) (σ:bE) (aW:aRZ) (aF:aR1) (i:Nat) (e:Ending) (w':aRU):Prop :=
 ∃ o L σ' tk' fe,e = .returned (.agg (jd o L).toArray)/\ny w' c.l.T o L/\Step c w U σ aW aF w' σ' tk' fe/\σ'.begun i=true/\(o=bG c.W i\/i∈U/\o=⟨3,0,[],[]⟩)/\(σ.begun i=true->σ'=σ/\tk'=aW/\fe=aF/\Bl w w')
theorem avW (h:wG c w σ aW aF) (ay:i < c.n):w.cell? (ad c.l.zI i)=some (.bool (σ.begun i)):=by rw [h.begun.cell i,yB,List.getElem?_map,List.getElem?_range ay];rfl
theorem avX {OL:Nat->kI} (ay:i < c.n):((pR σ OL c.n).drop (i * 4)).take (tX (σ.got i) (OL i)).length=tX (σ.got i) (OL i):=by
 apply List.ext_getElem?;intro j;rw [List.getElem?_take];by_cases aC:j < (tX (σ.got i) (OL i)).length
 ·rw [if_pos aC,List.getElem?_drop];obtain⟨v,I⟩:∃ v,(tX (σ.got i) (OL i))[j]?=some v:=⟨_,aQI aC⟩;rw [I];exact Lc (f:=fun i=>tX (σ.got i) (OL i)) (fun i=>Qr _ _) (aRH ay) j v I
 ·rw [if_neg aC,List.getElem?_eq_none om]
theorem avY (hc:c.Ok) (hs:kD c w U σ aW aF) (fQ:i < c.n) (ae:σ.begun i=true) :
  Calls prog 46 #[pp c.l.X 0,.int .i64 i] w (agL c w U σ aW aF i):=by
 obtain⟨aH,Y⟩:=ai (w.alloc (.cells iN.toArray 63));have AZ:=gQ Y;have Ad:=kY Y;have I:=hs.all hc AZ;have Ae:=hs.fO.size;obtain⟨X,AQ,zI,Aa,eO,AA,bW,AU⟩:=nq4 c.l.X c.l.zI c.l.eO c.n;have BP:aH.cell? (ad X 5)=some (.slice (some ⟨zI,0,none⟩) bW bW):=by rw [AQ,Aa,AU];exact (I.fO.cells).2.2.2.1
 have BR:aH.cell? (ad X 6)=some (.slice (some ⟨eO,0,none⟩) bW bW):=by rw [AQ,AA,AU];exact (I.fO.cells).2.2.2.2
 have BS:aH.cell? (ad zI i)=some (.bool true):=by rw [Aa,avW I.fO fQ,ae]
 have BU:(i:Int) < bW:=by rw [AU];omega
 have BX:(0:Int)<=i:=om;obtain⟨OL,J,Af⟩:=I.fO.outs;obtain⟨Ap,AB,Aq,Av⟩:=hq4 I Ad AZ Ae;rw [<- AQ];rw [show iN.toArray=#[.int .i64 0,.int .i64 0,.slice none 0 0,.slice none 0 0] from rfl] at Y;have BZ:=Y.symm;cases av:σ.got i with
 | none =>
  have BG:aH.cell? ⟨eO,i * 4,none⟩=some (.int .i64 0):=by rw [AA,J.cell (i * 4)];have:=Lc (f:=fun i=>tX (σ.got i) (OL i)) (fun i=>Qr _ _) (aRH fQ) 0 (.int .i64 0) (by simp only [av];rfl);exact this
  have BH:i∈U:=(hs.inv.under i).2 ⟨ae,av⟩;clear Y AQ Aa AA AU I Ad AZ J Af Ae hs;go_enter func46,ntmps46;have Ac:([.int .i64 3,.int .i64 0,.slice none 0 0,.slice none 0 0]:aRW).length=iN.length:=rfl;have AP:(prog.info? 63).map (·.size)=some ([.int .i64 3,.int .i64 0,.slice none 0 0,.slice none 0 0]:aRW).length:=kr;have Ag:∀ v∈([.int .i64 3,.int .i64 0,.slice none 0 0,.slice none 0 0]:aRW),v.oneCell'=true:=by simp [Value.oneCell']
  go_wp2_with (first|((with_reducible refine vF [.int .i64 3,.int .i64 0,.slice none 0 0,.slice none 0 0] AB.o AP Ac Ag ?_);intro aD Ah M)|fail);refine D5 Ah.o underlying63 rfl AP ⟨rfl,rfl,rfl⟩ ?_;have AV:=oO Aq.o M.o (aQF _);exact⟨⟨3,0,[],[]⟩,⟨none,0,none,0⟩,σ,aW,aF,rfl,⟨Own.nil _ _ _ _,Own.nil _ _ _ _⟩,⟨Ap.o.dG hc AB.o (j3.um M.o) Av.o dc,lG.gN AV,Kb.refl _ _,fun _ h=>.inl h⟩,ae,.inr ⟨BH,rfl⟩,fun _=>⟨rfl,rfl,rfl,AV⟩⟩
 | some o =>
  have BK:o=bG c.W i:=(hs.inv.right i o av).1;subst BK;obtain⟨L,Ak⟩:=ai (OL i);obtain⟨Al,Az⟩:=Af i _ av;rw [<- Ak] at Al Az;obtain⟨cz,AX⟩:=ai (jd (bG c.W i) L);have Am:=avX (σ:=σ) (OL:=OL) fQ;rw [av,<- Ak,show tX (some (bG c.W i)) L=cz from AX.symm] at Am;obtain⟨Ao,BB⟩:∃ k:Int,k=(bG c.W i).kind:=⟨_,rfl⟩;have BL:Ao≠0:=by
   rcases VG hc.work.small i with h | ⟨h | h,_⟩
   ·have BC:(bG c.W i).kind=1:=h;omega
   ·have BC:(bG c.W i).kind=2:=h;omega
   ·have BC:(bG c.W i).kind=3:=h;omega
  have Bb:(Ao == 0)=false:=by simpa using BL
  have BG:aH.cell? ⟨eO,i * 4,none⟩=some (.int .i64 Ao):=by rw [AA,J.cell (i * 4),BB];have:=Lc (f:=fun i=>tX (σ.got i) (OL i)) (fun i=>Qr _ _) (aRH fQ) 0 (.int .i64 (bG c.W i).kind) (by simp only [av];rfl);exact this
  obtain⟨Bc,BD⟩:=ai (pR σ OL c.n);rw [<- BD] at J Am;rw [<- AA] at J;have Ac:cz.length=iN.length:=by rw [AX];rfl
  have AP:Sz 63 cz.length:=by rw [Ac];exact kr
  have Ag:∀ v∈cz,v.oneCell'=true:=by rw [AX];simp [jd,Value.oneCell']
  obtain⟨BF,BN,BO⟩:=hq3 Al AX J;clear Y AQ Aa AA AU I Ad AZ J Af Ae hs Ak Al Az AX BB BD;go_enter func46,ntmps46;go_wp2_with (first|(with_reducible refine Rm (i * 4) cz BO.o Am underlying63 AP ?_)|((with_reducible refine vF cz AB.o AP Ac Ag ?_);intro aD Ah M));refine D5 Ah.o underlying63 rfl AP ⟨rfl,rfl,rfl⟩ ?_;have AV:=oO Aq.o M.o (aQF _);rw [BN.o];exact⟨bG c.W i,L,σ,aW,aF,rfl,⟨gX BF.o.outs AB.o dc M.o,gX BF.o.reads AB.o dc M.o⟩,⟨Ap.o.dG hc AB.o (j3.um M.o) Av.o dc,lG.gN AV,Kb.refl _ _,fun _ h=>.inl h⟩,ae,.inl rfl,fun _=>⟨rfl,rfl,rfl,AV⟩⟩
def Qt (GM:Value->World->Prop) (W:aRU) (L:Nat->Bool) (u:Nat->Value) (af:aRU):Prop:=(L 7=false->Bl W af)/\(L 7=true->GM (u 7) af)
theorem Qt.plain {GM:Value->World->Prop} {W:aRU} {L:Nat->Bool} {u:Nat->Value} (h:Qt GM W L u af) (h1:7≠i):Qt GM W (Gy L i) (o5 u i v) af:=⟨fun I=>h.1 (by rwa [xJ h1] at I),fun I=>by rw [NT h1];exact h.2 (by rwa [xJ h1] at I)⟩
theorem Qt.call {GM:Value->World->Prop} {W:aRU} {L:Nat->Bool} {u:Nat->Value} (h:GM v af):Qt GM W (Gy L 7) (o5 u 7 v) af:=⟨fun I=>(by rw [abU] at I;cases I),fun _=>by rw [agm];exact h⟩
theorem NW.low {bu:Nat} {KA:aRV} {e:Ending} (ae:Bl w af) (h:NW c bu KA i af U σ aW aF e w'):NW c bu KA i w U σ aW aF e w':=by obtain⟨σ',tk',fe,L,M,Y,AA,AB,AP,AQ,AU,AV⟩:=h;exact⟨σ',tk',fe,L,M,Y,fun q I=>aQG ae.size (AA q I),AB,(lH.Gz (lG.gN ae)).trans AP (fun _ _ h=>h),AQ,fun q I=>(AU q I).imp_right fun h=>aQG ae.size h,AV⟩
theorem aKh (hc:c.Ok) {m:Nat} (iK:NS c m) {us:aRZ} (hs:kD c w (i :: us) σ aW aF) (hm:rJ σ c.n<=m) {l:Ma} (ah:c.k.dA[i]?=some x) (aC:Ci c w l i x []) (ay:i ∉ σ.dY++aW) :
  Calls prog 73 #[pp l.bu 0] w (NW c l.bu l.KA i w (i :: us) σ aW aF):=by
 cases I:σ.bF i with
 | false=>exact aJK hc iK hs hm ah aC ay I
 | true=>exact aJ0 hc iK hs hm ah aC ay I
theorem aKi (p:aRV) (i:Int) (L:vw) (a:lv):prog.built 158 [(0,.pointer p),(1,.int .i64 i),(2,.agg (vH (L,a)).toArray)]=some (([.pointer p,.int .i64 i]++vH (L,a)++[.slice none 0 0,.slice none 0 0]:aRW).toArray):=kr
theorem aKj (hc:c.Ok) (hs:kD c w U σ aW aF) (fQ:i < c.n) (ae:σ.begun i=false) (ax:yT c.W c.dN i) (hf:∀ x∈U,xS c.W x i) (iK:∀ k,rJ σ c.n=k+1->NS c k) :
  Calls prog 46 #[pp c.l.X 0,.int .i64 i] w (agL c w U σ aW aF i):=by
 obtain⟨x,ah,_,_⟩:=NP c fQ;obtain⟨m,hm⟩:∃ m,rJ σ c.n=m+1:=⟨rJ σ c.n - 1,by have:=abS fQ ae;omega⟩;have iK:=iK m hm;have DT:rJ (σ.push i) c.n<=m:=by have:=abS fQ ae;omega
 have DU:i ∉ U:=fun h=>by have:=((hs.inv.under i).1 h).1;rw [ae] at this;cases this
 have Db:i ∉ (σ.push i).dY++aW:=fun h=>by have:=hs.log.begun i h;rw [ae] at this;cases this
 obtain⟨aH,Ae⟩:=ai (w.alloc (.cells iN.toArray 63));have Bc:=gQ Ae;have CU:=kY Ae;have AU:=hs.all hc Bc;have bY:=hs.fO.size;obtain⟨X,AV,zI,AX,eO,CV,bW,Af⟩:=nq4 c.l.X c.l.zI c.l.eO c.n;have Dc:aH.cell? (ad X 5)=some (.slice (some ⟨zI,0,none⟩) bW bW):=by rw [AV,AX,Af];exact (AU.fO.cells).2.2.2.1
 have De:aH.cell? (ad zI i)=some (.bool false):=by rw [AX,avW AU.fO fQ,ae]
 have F5:(i:Int) < bW:=by rw [Af];omega
 have F6:(0:Int)<=i:=om;obtain⟨b,o,Be,_⟩:=(AU.fO.work aH (fun _ _ _=>rfl)).dA.load ah;obtain⟨Dg,CW,Bf,Bg,Bh,Bi⟩:=nq3 c.l.bX.d (vH x) (NQ c ⟨w.heap.size,none,0⟩ i x 0);have Dh:=aa (show prog.built 158 [(0,.pointer (some ⟨X,0,none⟩)),(1,.int .i64 i),(2,.agg Bf.toArray)]=some Bh.toArray by
  rw [Bg,Bi,AV];exact aKi _ _ x.1 x.2);obtain⟨Bj,Ap⟩:=ai (yB σ c.n);have CX:=aa (show aM aH zI Bj 4 by rw [AX,Ap];exact AU.fO.begun);have Di:i+1<=Bj.length:=by rw [Ap];simp [yB];omega
 have Dj:Sz 4 1:=kr;obtain⟨Dk,Bn⟩:=ai (Bj.set i (.bool true));have Dp:=aa (fun (af:aRU) (Ag:aM af zI Dk 4) (Ah:fV zI aH af)=>show kD c af (i :: U) (σ.push i) aW aF from by
  rw [Bn,Ap] at Ag;subst AX;exact AU.amP hc fQ ae ax hf Ag Ah);have Dq:=aa (fun (af:aRU) (ag:kD c af (i :: U) (σ.push i) aW aF)=>show af.cell? (ad X 1)=some (.slice (some ⟨b,o,none⟩) bW Dg)/\(loadVar 45 ⟨b,o+i * 7,none⟩).run prog af = .ok (.agg Bf.toArray) af from by
  have Dr:=(ag.fO.work af (fun _ _ _=>rfl)).dA;obtain⟨FB,FC,CY,Ak⟩:=Dr.load ah;rw [Be] at CY;cases CY;refine⟨?_,?_⟩
  ·rw [AV,(ag.fO.cells).2.1,Be,Af,CW];rfl
  ·rw [Bg];exact Ak);obtain⟨Dt,CZ,Aq,Bp,I,Bq,Ca,Du,Dv⟩:=hq9 CU Bc bY AV CV AX Af Bi hs;rw [<- AV];rw [show iN.toArray=#[.int .i64 0,.int .i64 0,.slice none 0 0,.slice none 0 0] from rfl] at Ae;have FF:=Ae.symm;have Br:=Bn.symm;clear Ae AV AX CV Af AU CU Bc bY hs Be CW Bg Bi Ap Bn;go_enter func46,ntmps46;go_upto_region 4 with (first|((with_reducible refine A8 i (.bool true) CX.o Dj Di rfl Br ?_);intro af Ag Ah;have Bt:=aa (Dp.o af Ag Ah);obtain⟨FI,Cc⟩:=Dq.o af Bt.o;have Dw:=aa Cc;have C8:=aa Ah;clear Ag Ah Cc Dc De)|((with_reducible refine pO Dw.o ?_ ?_);exact rfl)|((with_reducible refine Rl (pp X 0) (.int .i64 i) (.agg Bf.toArray) _ Dh.o ?_ ?_);exact⟨rfl,rfl,rfl⟩))
 obtain⟨aD,Av⟩:=ai (af.alloc (.cells Bh.toArray 158));try rw [<- Av]
 obtain⟨bu,Al⟩:=ai af.heap.size;try rw [<- Al]
 have Az:=gQ Av;have Ce:=aa (Bt.o.all hc Az);have Dz:=aa (show c.l.T<=bu by rw [Al];exact Bt.o.fO.size);have CF:=aa (show Ci c aD ⟨bu,none,0⟩ i x [] from ⟨by
  show aM aD bu (NQ c ⟨bu,none,0⟩ i x 0) 158;rw [Av,Al];have:=aM.new af Bh 158;rw [Du.o] at this |-;exact this,Dz.o,Own.nil _ _ _ _⟩);have Cf:=aa (show Ch c.l w aD from ((lG.gN CZ.o).trans (lG.alJ C8.o (by rw [Bq.o];exact .inr (.inl rfl)) (by rw [Bq.o];exact (hc.low _ (.inr (.inl rfl))).2) CX.o dc)).trans (lG.gN Az));have E5:=aa (show aM aD w.heap.size iN 63 from (Dt.o.dG C8.o (by have:=(hc.low _ (.inr (.inl rfl))).2;have:=Aq.o;have:=Bq.o;omega)).all Az);have E8:=aa (show w.heap.size<=bu by rw [Al,C8.o.2.2.2.1];exact CZ.o.size);obtain⟨GM,BB⟩:∃ GM:Value->World->Prop,GM=fun v w'=>NW c bu none i aD (i :: U) (σ.push i) aW aF (.returned v) w':=⟨_,rfl⟩;have E9:=aa (fun (u:Nat->Value)=>show Qt GM aD (fun _=>false) u aD.drew from ⟨fun _=>(Below.refl _ aD).drew,fun h=>(by cases h)⟩);have EA:=aa (fun AZ (ae:Bl aD AZ)=>show Calls prog 73 #[pp bu 0] AZ fun e w'=>∃ v,e = .returned v/\GM v w' from by
  refine (aKh hc iK (Ce.o.all hc ae) DT ah (CF.o.all ae) Db).mono ?_;rintro e w' h;have ag:=h.low ae;obtain⟨σ',tk',fe,L,rfl,_⟩:=id ag;exact⟨_,rfl,by rw [BB];exact ag⟩);have EC:=aa (fun (L:Nat->Bool) (u:Nat->Value) (AZ:aRU) (h:Qt GM aD L u AZ)=>show AZ.cell? (ad X 6)=some (.slice (some ⟨eO,0,none⟩) bW bW) from by
  rw [Bp.o,I.o,Ca.o];cases Cg:L 7 with
  | false=>exact ((Ce.o.all hc (h.1 Cg)).fO.cells).2.2.2.2
  | true =>
   have Cj:=h.2 Cg;rw [BB] at Cj;obtain⟨σ',tk',fe,Ck,_,_,_,EF,_⟩:=Cj;exact (EF.fO.cells).2.2.2.2);have EG:=aa BB;clear BB Av Al Az;refine TL 9 (iX [some (pp X 0),some (pp X 0),some (pp X 6),some (pp X 6),some (.slice (some ⟨eO,0,none⟩) bW bW),some (.int .i64 i),some (pp bu 0),none,some (.pointer (some ⟨eO,i * 4,none⟩))] (fun _ _ _=>True)) (Qt GM aD) (fun _ _=>True) E9.o (fun j v w1 af ae EH=>iX.keep (fun _=>trivial) EH) ?_ (jI:=?_)
 rotate_left
 ·repeat' (first | exact trivial | apply And.intro)
  all_goals intro eQ u2 af Ck AB EJ FJ EK Cm K CG
  all_goals simp [iX,Region.binds] at Cm
  all_goals first | simp [Region.wanted,yielded,EK,Cm] | simp [Region.wanted,yielded] | skip
  all_goals have EL:=EC.o Ck u2 af AB
  all_goals try (first | exact CG _ _ rfl (AB.plain dc) (trivial) | (go_simp;exact CG _ _ rfl (AB.plain dc) (trivial)))
  ·have Br:=AB.1 EJ;go_simp;refine (EA.o af Br).mono ?_;rintro e AZ ⟨v4,rfl,BC⟩;exact CG _ _ trivial (Qt.call BC) trivial
 ·intro u5 bn AB Co;have Cr:u5 8 = .pointer (some ⟨eO,i * 4,none⟩):=Co.at 8 dc dc;have BC:=AB.2 rfl;rw [EG.o] at BC;obtain⟨Aa,EM,FK,AP,BD,Ac,BG,Ad,Am,Y,BH,BK,BL,BN⟩:=BC;replace BD:=Ending.returned.inj BD;clear Co;simp only [Cr,BD];obtain⟨OL,Ak,Ct⟩:=Ad.fO.outs;obtain⟨cz,AA,CJ,BO⟩:=nq2 (jd (bG c.W i) AP) (pR Aa OL c.n);obtain⟨EN,BP⟩:=ai (pR (Aa.put i (bG c.W i)) (fun j=>if j=i then AP else OL j) c.n);have Cu:=avV Aa OL fQ (bG c.W i) AP;rw [<- BO,<- BP,<- AA] at Cu;have Cv:CJ.length=c.n * 4:=by rw [BO,pR,agK,List.length_range]
  have CK:cz.length=4:=by rw [AA];rfl
  have EO:cz.length=iN.length:=CK;have ES:i * 4+cz.length<=CJ.length:=by rw [Cv,CK];omega
  have BR:Sz 63 cz.length:=by rw [CK];exact kr
  have D8:∀ v∈cz,v.oneCell'=true:=by rw [AA];simp [jd,Value.oneCell']
  have CL:=avX (σ:=Aa.put i (bG c.W i)) (OL:=fun j=>if j=i then AP else OL j) fQ;rw [<- BP,show (Aa.put i (bG c.W i)).got i=some (bG c.W i) by simp [bE.put],if_pos rfl,show tX (some (bG c.W i)) AP=cz from AA.symm] at CL;obtain⟨Ao,DF⟩:∃ k:Int,k=(bG c.W i).kind:=⟨_,rfl⟩;have ET:Ao≠0:=by
   rcases VG hc.work.small i with h | ⟨h | h,_⟩
   ·have DI:(bG c.W i).kind=1:=h;omega
   ·have DI:(bG c.W i).kind=2:=h;omega
   ·have DI:(bG c.W i).kind=3:=h;omega
  have FO:(Ao == 0)=false:=by simpa using ET
  have EU:=aa (show EN[i * 4]?=some (.int .i64 Ao) by
   have DJ:cz[0]?=some (.int .i64 Ao):=by rw [AA,DF];rfl
   rw [<- CL,List.getElem?_take,if_pos om,List.getElem?_drop,Nat.add_zero] at DJ;exact DJ);have EX:=aa (And.intro Ac (And.intro BG (And.intro Ad (And.intro Am (And.intro Y (And.intro BH (And.intro BK (And.intro BL BN))))))));have BS:=aa (show aM bn eO CJ 63 by rw [I.o,BO];exact Ak);have EY:=aa (show bn.cell? (ad X 6)=some (.slice (some ⟨eO,0,none⟩) bW bW) by rw [Bp.o,I.o,Ca.o];exact (Ad.fO.cells).2.2.2.2);have Ea:=aa (show X≠eO by rw [Bp.o,I.o];exact hc.ne.2.1);obtain⟨Ec,Ee,Ef,Ei⟩:=hq4 Ct Ak BP AA;have Ej:=aa (show Fw aD bu none from .agk CF.o.row CF.o.known);have El:=aa (aM.vT Ej.o Am E5.o Aq.o dc dc dc);rw [<- AA];clear Ak Ct Ac BG Ad Am Y BH BK BL BN AA BO BP Cv DF AB Cr BD;go_wp2_with (first|((with_reducible refine Ux (i * 4) (.agg cz.toArray) BS.o (qK _) BR ES D8 Cu ?_);intro CQ CS BU;have DN:=aa CS;have BX:=aa BU;have EL:CQ.cell? (ad X 6)=some (.slice (some ⟨eO,0,none⟩) bW bW):=(by rw [<- EY.o];unfold World.cell?;rw [BU.2.2.2.2 X Ea.o]);have FP:CQ.cell? ⟨eO,i * 4,none⟩=some (.int .i64 Ao):=(by rw [CS.cell (i * 4),EU.o]);have BZ:=aa (El.o.dG BU (by have:=(hc.low _ (.inr (.inr (.inl rfl)))).2;have:=Aq.o;have:=I.o;omega));clear CS BU)|(with_reducible refine Rm (i * 4) cz DN.o CL underlying63 BR ?_)|((with_reducible refine vF cz BZ.o BR EO D8 ?_);intro DR Em Bb));refine D5 Em.o underlying63 rfl BR ⟨rfl,rfl,rfl⟩ ?_;obtain⟨Ac,BG,Ad,Am,Y,BH,BK,BL,BN⟩:=EX.o;have En:=Ad.V3 hc DU Ac BK BL BN Ee.o Ec.o (by rw [<- Ef.o,<- I.o];exact DN.o) (by rw [<- I.o];exact BX.o);have Eo:=(hc.low _ (.inr (.inr (.inl rfl)))).2;have Er:Ch c.l w bn:=Am.nQ Cf.o E8.o fun q AQ=>by cases AQ
  have Es:Ch c.l w CQ:=Er.trans (lG.alJ BX.o (by rw [I.o];exact .inr (.inr (.inl rfl))) (by rw [I.o];exact Eo) BS.o dc);have Ev:Ch c.l w DR:=Es.NR (j3.um Bb.o) (aQF _);have Ew:ny DR c.l.T (bG c.W i) AP:=⟨gX (gX Ac.outs BS.o dc BX.o) BZ.o dc Bb.o,gX (gX Ac.reads BS.o dc BX.o) BZ.o dc Bb.o⟩;have Ex:σ.got i=none:=by
   cases e:σ.got i with
   | none=>rfl
   | some o=>have:=(Dv.o.inv.right i o e).2;rw [ae] at this;cases this
  have F3:∀ j,σ.begun j=true->j≠i:=fun j aC e=>by rw [e,ae] at aC;cases aC
  rw [Ei.o];refine⟨bG c.W i,AP,Aa.put i (bG c.W i),EM,_,rfl,Ew,⟨En.dG hc BZ.o (j3.um Bb.o) Aq.o dc,Ev,⟨fun j aC=>Y.begun j (by simp [bE.push,aC]),fun j aC=>?_,fun j aC=>?_,fun j aC=>Y.more j aC,fun j aC=>Y.same j (by simp [bE.push,aC]) (F3 j aC)⟩,fun q AQ=>?_⟩,Y.begun i (by simp [bE.push]),.inl rfl,fun h=>by rw [ae] at h;cases h⟩
  ·rcases Y.log j aC with h | h | h
   ·exact .inl h
   ·rw [h];exact .inr ae
   ·refine .inr ?_;cases e:σ.begun j with
    | false=>rfl
    | true=>simp [bE.push,e] at h
  ·have F4:j≠i:=fun e=>aC (by rw [e];exact Ex);have:=Y.got j aC;simp only [bE.put,if_neg F4];exact this
  ·have FR:=Cf.o.size;rcases AQ with AQ | AQ
   ·rcases BH q AQ with h | h
    ·exact .inl h
    ·exact .inr om
   ·exact .inr (by have:=BG q AQ;omega)
theorem amX {P:Program} {W:aRU} {o:Oper} {a:Act} {K:Act->World->Prop} {Q:aRX} {t0:TypeId} {pq:Operand} {i0:Nat} (v0:Value) (cells:Array Value) (hf:P.built t0 [(i0,v0)]=some cells) (aG:o.op = .build t0 #[(i0,pq)]) (ah:a.eval pq=v0) (h:K (a.put o.dst (.agg cells)) W):o.wp P a W K Q :=
 wp_build t0 _ aG (by simp [ah,hf]) (by simpa [ah,hf] using h)
def Et (g:Nat) (W:aRU) (V:aRW) (ty:TypeId) (si:Nat) (L:Nat->Bool) (u:Nat->Value) (af:aRU):Prop:=(L si=false->af=W.drew)/\(L si=true->aM af g V ty/\fV g W.drew af)
section
variable {g si:Nat} {W af aD:aRU} {V:aRW} {ty:TypeId} {L:Nat->Bool} {u:Nat->Value}
theorem Et.start:Et g W V ty si (fun _=>false) u W.drew:=⟨fun _=>rfl,fun h=>(by cases h)⟩
theorem Et.plain (h:Et g W V ty si L u af) (h1:si≠i):Et g W V ty si (Gy L i) (o5 u i v) af:=⟨fun I=>h.1 (by rwa [xJ h1] at I),fun I=>h.2 (by rwa [xJ h1] at I)⟩
theorem Et.stored (h:Et g W V ty si L u af) (hl:L si=false) (ax:aM aD g V ty) (az:fV g af aD):Et g W V ty si (Gy L si) (o5 u si v) aD:=⟨fun I=>(by rw [abU] at I;cases I),fun _=>⟨ax,by rw [<- h.1 hl];exact az⟩⟩
theorem Et.cell (h:Et g W V ty si L u af) (hc:W.cell? (ad b j)=some v) (bJ:b≠g):af.cell? (ad b j)=some v:=by
 cases hl:L si with
 | false=>rw [h.1 hl];exact hc
 | true =>
  have h1:=(h.2 hl).2.2.2.2.2 b bJ;unfold World.cell? at hc |-;rw [h1];exact hc
end
theorem agV (p:ByteArray) (b:Bool) (d:ByteArray):prog.built 80 [(0,.string p),(1,.bool b),(2,.string d)]=some #[.string p,.bool b,.string d]:=kr
theorem amY (p:ByteArray):prog.built 80 [(0,.string p)]=some #[.string p,.bool false,.string ⟨#[]⟩]:=kr
theorem av1 {f:α->Bool}:∀ {l:List α} {q:Nat} {x:α},l[q]?=some x->(l.take q).any f=false->f x=true->l.find? f=some x
 | [],q,x,h,_,_=>by simp at h
 | y :: l,0,x,h,_,I=>by
  simp at h;subst h;rw [List.find?_cons,I]
 | y :: l,q+1,x,h,h1,I=>by
  rw [List.take_succ_cons,List.any_cons,Bool.or_eq_false_iff] at h1;rw [List.find?_cons,h1.1];exact av1 (by simpa using h) h1.2 I
theorem av2 (hc:c.Fit) (aC:c.W.jK p=some j) {o:iU} (aG:o=bG c.W j\/o=⟨3,0,[],[]⟩/\fD c.W p = .stuck):oW (fD c.W p) p=(o.kind,o.at_ p):=by
 rcases aG with rfl | ⟨rfl,h⟩
 ·rw [ajf aC];have J:∀ o:iU,o.outs=[]->o.at_ p=⟨p,false,[]⟩:=fun o h=>by unfold iU.at_;rw [h];rfl
  rcases VG hc.work.small j with h | ⟨h | h,M⟩
  ·have I:(bG c.W j).kind=1:=h;rw [if_pos I,I];rfl
  ·have I:(bG c.W j).kind=2:=h;rw [if_neg om,if_pos I,I,J _ (show (bG c.W j).outs=[] from M)];rfl
  ·have I:(bG c.W j).kind=3:=h;rw [if_neg om,if_neg om,I,J _ (show (bG c.W j).outs=[] from M)];rfl
 ·rw [h];rfl
theorem aKA {o:iU} {x:ak × ak} (h:o.outs.find? (fun y=>y.1 == p)=some x):o.at_ p=⟨p,true,x.2⟩:=by unfold iU.at_;rw [h]
theorem aKB {o:iU} (h:o.outs.any (fun y=>y.1 == p)=false):o.at_ p=⟨p,false,[]⟩:=by unfold iU.at_;rw [arx.2 h]
theorem av3 (hc:c.Ok) (hs:kD c w U σ aW aF) (aI:p.length<=1100000) (hm:c.W.jK p=none) :
  CR 23 #[pp c.l.X 0,.string (aA p)] w (.tuple #[.agg (iA (Fs c.k.files p)).toArray,.int .i64 1]) fun w'=>Step c w U σ aW aF w' σ aW aF/\Bl w w':=by
 obtain⟨aH,I⟩:=ai (w.alloc (.cells l9.toArray 80));have AP:=gQ I;have Ae:=kY I;have Af:=hs.all hc AP;obtain⟨X,AQ,P,M,Y,AU⟩:=nq3 c.l.X (aA p) ((fileAt c.k.files p).isSome);obtain⟨AA,AV⟩:=ai (aA (((fileAt c.k.files p).map (·.2)).getD []));obtain⟨bI,AX⟩:=ai (iA (Fs c.k.files p));have J:bI=[.string P,.bool Y,.string AA]:=by rw [AX,M,AU,AV,Fs];cases fileAt c.k.files p <;> rfl
 obtain⟨yD,Ag,Nz,Ah⟩:=nq2 (Value.slice c.l.bX.B c.k.dA.length c.l.bX.d) (Value.slice c.l.bX.A c.k.files.length c.l.bX.c);have AB:=aa (fun W (ae:Bl aH W)=>show W.cell? (ad X 1)=some yD/\W.cell? (ad X 0)=some Nz/\Calls prog 44 #[yD,.string P] W (fun e w'=>e = .returned (.tuple #[.int .i64 0,.bool false])/\Bl W w')/\CB 45 #[Nz,.string P] W (.tuple #[.string AA,.bool Y]) from by
  have AZ:=Af.all hc ae;have Ak:=AZ.fO.work W (fun _ _ _=>rfl);have h1:=Xm W c.l.bX.B c.l.bX.d c.k.dA Ak.dA (by have:=hc.kE.nZ;omega) (fun x ah=>by have:=(hc.kE.fair x ah).outs;omega) p;rw [show Pd c.k.dA p = -1 by rw [Yl,hm]] at h1;have Az:=ajG W c.l.bX.A c.l.bX.c c.k.files hc.kE.ku Ak.files p;rw [Ag,Ah,M,AV,AU,AQ];exact⟨(AZ.fO.cells).2.1,(AZ.fO.cells).1,h1,Az⟩);obtain⟨BH,_,_,_⟩:=AB.o aH (Below.refl _ _);obtain⟨BB,Al,Am⟩:=hq3 Ae AP hs;have Ao:Sz 80 bI.length:=by rw [J];exact JE
 have BC:bI.length=l9.length:=by rw [J];rfl
 have BD:∀ v∈bI,v.oneCell'=true:=by rw [J];simp [Value.oneCell']
 have BF:=aa (show prog.built 80 [(0,.string P),(1,.bool Y),(2,.string AA)]=some bI.toArray by rw [J];exact agV _ _ _);rw [<- AQ,<- M,<- AX];rw [show l9.toArray=#[.string ⟨#[]⟩,.bool false,.string ⟨#[]⟩] from rfl] at I;have BK:=I.symm;clear I AQ M AU AV AX J Ag Ah AP Ae Af hs aI;go_enter func23,ntmps23;go_wp2_with (first|(go_at_call 44; refine (AB.o aH (Below.refl _ _)).2.2.1.mono ?_;rintro e af ⟨rfl,Aa⟩;have Ac:=aa Aa;have BL:=(AB.o af Aa).2.1;clear Aa)|(go_at_call 45; refine (AB.o af Ac.o).2.2.2.mono ?_;rintro e aD ⟨rfl,Ad⟩;have Ap:=aa ((BB.o.all Ac.o).all Ad);have Aq:=aa (Al.o.trans ((aU Ac.o Ad).mono Al.o.size));clear Ad)|((with_reducible refine Rl (.string P) (.bool Y) (.string AA) _ BF.o ?_ ?_);exact⟨rfl,rfl,rfl⟩)|((with_reducible refine vF bI Ap.o Ao BC BD ?_);intro BN BG Av));refine Eg BG.o underlying80 rfl Ao ⟨rfl,rfl,rfl⟩ ?_;exact⟨rfl,((Step.refl Am.o).high hc Aq.o).dG hc Am.o Ap.o (j3.um Av.o) (aQF _) dc,oO Aq.o Av.o (aQF _)⟩
theorem av4 (hc:c.Ok) (hs:kD c w U σ aW aF) (aI:p.length<=1100000) (hm:c.W.jK p=some j) (iE:j∈U->fD c.W p = .stuck)
  (Bj:∀ af,kD c af U σ aW aF->Calls prog 46 #[pp c.l.X 0,.int .i64 j] af (agL c af U σ aW aF j)) :
  CR 23 #[pp c.l.X 0,.string (aA p)] w (.tuple #[.agg (iA (oW (fD c.W p) p).2).toArray,.int .i64 (oW (fD c.W p) p).1]) fun w'=>∃ σ' tk' fe,Step c w U σ aW aF w' σ' tk' fe/\σ'.begun j=true/\(σ.begun j=true->σ'=σ/\tk'=aW/\fe=aF/\Bl w w'):=by
 have Dj:=Ke c hm;obtain⟨aH,Af⟩:=ai (w.alloc (.cells l9.toArray 80));have BD:=gQ Af;have CW:=kY Af;have BP:=hs.all hc BD;have bY:=hs.fO.size;obtain⟨X,Ag,P,BF,yD,CX⟩:=nq3 c.l.X (aA p) (Value.slice c.l.bX.B c.k.dA.length c.l.bX.d);obtain⟨BR,BS⟩:∃ BR:Ending->World->Prop,BR=fun e w'=>e = .returned (.tuple #[.agg (iA (oW (fD c.W p) p).2).toArray,.int .i64 (oW (fD c.W p) p).1])/\∃ σ' tk' fe,Step c w U σ aW aF w' σ' tk' fe/\σ'.begun j=true/\(σ.begun j=true->σ'=σ/\tk'=aW/\fe=aF/\Bl w w'):=⟨_,rfl⟩;have CY:=aa (fun W (ae:Bl aH W)=>show W.cell? (ad X 1)=some yD/\Calls prog 44 #[yD,.string P] W (fun e w'=>e = .returned (.tuple #[.int .i64 j,.bool true])/\Bl W w') from by
  have CZ:=BP.all hc ae;have Dk:=CZ.fO.work W (fun _ _ _=>rfl);have h1:=Xm W c.l.bX.B c.l.bX.d c.k.dA Dk.dA (by have:=hc.kE.nZ;omega) (fun x ah=>by have:=(hc.kE.fair x ah).outs;omega) p;rw [show Pd c.k.dA p=(j:Int) by rw [Yl,hm]] at h1;rw [show max (j:Int) 0=j by omega,show decide (0<=(j:Int))=true from decide_eq_true om] at h1;rw [CX,BF,Ag];exact⟨(CZ.fO.cells).2.1,h1⟩);obtain⟨Ef,_⟩:=CY.o aH (Below.refl _ _);have Dp:=aa (fun af (ae:Bl aH af)=>show Calls prog 46 #[pp X 0,.int .i64 j] af (fun e aD=>∃ o L σ' tk' fe,e = .returned (.agg (jd o L).toArray)/\ny aD c.l.T o L/\Step c w U σ aW aF aD σ' tk' fe/\σ'.begun j=true/\(o=bG c.W j\/j∈U/\o=⟨3,0,[],[]⟩)/\(σ.begun j=true->σ'=σ/\tk'=aW/\fe=aF/\Bl af aD)/\aM aD w.heap.size l9 80) from by
  rw [Ag];refine (Bj af (BP.all hc ae)).mono ?_;rintro e aD ⟨o,L,σ',tk',fe,Dq,Ca,Cc,Dr,Dt,Du⟩;exact⟨o,L,σ',tk',fe,Dq,Ca,Cc.low (aU BD ae),Dr,Dt,Du,(CW.all ae).nQ Cc.nQ bY dc⟩);obtain⟨BG,Dv,BU,BX,Dw⟩:=hq5 BD hs Ag BF BS;obtain⟨g0,Ce⟩:=ai w.heap.size;have Ah:=aa Ce;rw [<- Ag,<- BF];show Calls _ _ _ _ _;rw [<- BS];rw [show l9.toArray=#[.string ⟨#[]⟩,.bool false,.string ⟨#[]⟩] from rfl] at Af;have Ei:=Af.symm;clear Af Ag BF CX BD CW BP hs aI Bj bY BS Ce;go_enter func23,ntmps23;go_wp2_with (first|(go_at_call 44; refine jr (CY.o aH (Below.refl _ _)).2 ?_;intro af Ak)|(go_at_call 46; refine (Dp.o af Ak.o).mono ?_;rintro e aD ⟨o,L,Dz,E5,E8,rfl,Cf,Cg,Cj,Ck,Cm,BZ⟩;have Al:=aa Cm;rw [<- Ah.o] at BZ;have Am:=aa BZ;obtain⟨cz,Ao⟩:=ai (jd o L);have Co:=aa Ao;rw [<- Ao];obtain⟨E9,EA,EC,Cr⟩:=hq4 Cf Cg Cj Ck;have Bb:cz.length=4:=(by rw [Ao];rfl);have Ct:Sz 63 cz.length:=(by rw [Bb];exact kr);have Cu:∀ v∈cz,v.oneCell'=true:=(by rw [Ao];simp [jd,Value.oneCell']);clear Ao Cf Cg Cj Ck Cm BZ)|((with_reducible refine qR cz Bb Ct Cu ?_);intro AU AX Bc;obtain⟨g5,BH⟩:=ai aD.heap.size;rw [<- BH] at Bc;have EF:=aa BH;obtain⟨nl,BK⟩:=ai o.outs.length;have Ap:=aa BK;obtain⟨Cv,Be,lc,D8⟩:=nq2 L.A L.c;have Ca:AU.cell? (ad g5 2)=some (.slice Cv nl lc):=(by rw [Bc.o.cell 2,Co.o,BK,Be,D8];rfl);have EG:=aa (fun bn (ae:Bl AU bn)=>show Rd bn 2 Cv nl (cK fI o.outs) from (by rw [Be,BK];exact ((E9.o.outs.below AX.o (aQF _)).below ae (aQF _)).rd));rw [<- BH];clear BH BK Be D8));have Ej:nl<=1000:=by
  have:=SB hc.work (i:=j) (by simpa [dF.X,dF.n] using Dj);have hw:c.W=nR c.k.files c.X:=rfl;rcases Cr.o with h | ⟨_,h⟩
  ·rw [Ap.o,h,hw];omega
  ·rw [Ap.o,h];exact aQQ _
 obtain⟨Ad,Bf⟩:∃ k:Int,k=o.kind:=⟨_,rfl⟩;have EH:=aa Bf;have Ae:=aa (fun bn (ae:Bl AU bn)=>show bn.cell? (ad g5 0)=some (.int .i64 Ad) from by rw [(Bc.o.all ae).cell 0,Co.o,Bf];rfl);have DF:=aa (show g5≠g0 from fun e=>by have:=Am.o.lt;have:=EF.o;omega);have DI:=aa (fun (bn AZ:aRU) (bI:aRW) (ae:Bl AU bn) (AA:bI=iA (o.at_ p)) (ax:aM AZ g0 bI 80) (DJ:fV g0 bn.drew AZ)=>show BR (.returned (.tuple #[.agg bI.toArray,.int .i64 Ad])) AZ from by
  rw [Dw.o,AA];have EJ:=av2 hc.toFit hm (Cr.o.imp_right fun h=>⟨h.2,iE h.1⟩);rw [EJ];exact⟨by rw [EH.o],Dz,E5,E8,(EA.o.high hc ((aU AX.o ae).drew)).dG hc Dv.o ((Am.o.all AX.o).all ae.drew) (j3.um DJ) (by rw [Ah.o];exact aQF _) dc,EC.o,fun h=>⟨(Al.o h).1,(Al.o h).2.1,(Al.o h).2.2.1,oO ((((aU BG.o Ak.o).trans ((Al.o h).2.2.2.mono (aU BG.o Ak.o).size)).trans ((aU AX.o ae).mono ((aU BG.o Ak.o).trans ((Al.o h).2.2.2.mono (aU BG.o Ak.o).size)).size)).drew) DJ (aQ1 Ah.o.symm)⟩⟩);clear Bf Bb Ct Cu;go_loopg [45] nl (fun gk EK wr=>∃ q:Nat,q+gk=nl/\EK = .int .i64 q/\(o.outs.take q).any (fun y=>y.1 == p)=false/\Bl AU wr);case atStart=>exact⟨0,om,rfl,rfl,Below.refl _ _⟩
 case round =>
  obtain⟨q,El,rfl,DN,DR⟩:=hrel;have Bg:=aa DN;have AV:=aa DR;clear DN DR;by_cases DT:q < nl
  ·have EL:(q:Int) < nl:=om;have Em:(0:Int)<=q:=om;obtain⟨x,ah⟩:∃ x,o.outs[q]?=some x:=⟨_,aQI (by rw [<- Ap.o];exact DT)⟩;obtain⟨b,En,rfl,Bh⟩:=vG (f:=fI) (k:=2) Su underlying65 rfl kr (EG.o wr AV.o) ah Ap.o.symm;obtain⟨BL,Bi⟩:=x;have BU:=aa ah;obtain⟨AB,Bn,J,Bp⟩:=nq2 (aA BL) (aA Bi);have he:(AB.toList == P.toList)=(BL == p):=by rw [Bn,BX.o,ByteArray.toList_eq,ByteArray.toList_eq,gZ,gZ]
   obtain⟨v,Aa⟩:=ai (BL == p);rw [<- Aa] at he;rw [show fI (BL,Bi)=[.string AB,.string J] by rw [Bn,Bp];rfl] at Bh;have DU:=aa Bh;have Db:([.string AB,.string J]:aRW).length=2:=rfl;have Dc:(prog.info? 65).map (·.size)=some ([.string AB,.string J]:aRW).length:=kr;have De:∀ v∈([.string AB,.string J]:aRW),v.oneCell'=true:=by simp [Value.oneCell']
   have Dg:=aa Aa;have EM:=aa Bp;clear ah Bh Bn Bp Aa;cases v with
   | true =>
    go_upto_region 10 with (first|((with_reducible refine pO DU.o ?_ ?_);exact rfl)|((with_reducible refine zx [.string AB,.string J] Db Dc De ?_);obtain⟨bn,BN,g6,BO⟩:=nq2 (wr.alloc (.cells #[.string AB,.string J] 65)) wr.heap.size;try rw [<- BN];try rw [<- BO];have Dh:=aa (show aM bn g6 [.string AB,.string J] 65 by rw [BN,BO];exact aM.new wr _ _);have EN:=aa (gQ BN);have EO:=aa BO;have d0:bn.cell? (ad g6 0)=some (.string AB):=(by rw [Dh.o.cell 0];rfl);clear BN BO))
    have Bq:=aa (aU AV.o EN.o);try rw [<- Ah.o]
    obtain⟨bI,Ac⟩:=ai (iA (⟨p,true,Bi⟩:dB));have Br:=aa (show bI=iA (o.at_ p) by rw [Ac,aKA (av1 BU.o Bg.o Dg.o.symm)]);have Y:bI=[.string P,.bool true,.string J]:=by rw [Ac,BX.o,EM.o];rfl
    have Aq:=aa (show Sz 80 bI.length by rw [Y];exact JE);have Bt:=aa (show 0+bI.length<=l9.length by rw [Y];exact aQF 3);have C8:=aa (show ∀ v∈bI,v.oneCell'=true by rw [Y];simp [Value.oneCell']);have CF:=aa (show l9.take 0++bI++l9.drop (0+bI.length)=bI by rw [Y];rfl);have CG:=aa (show prog.built 80 [(0,.string P),(1,.bool true),(2,.string J)]=some bI.toArray by rw [Y];exact agV _ _ _);have Ae:=aa (Ae.o _ Bq.o);have CJ:=aa (fun (u:Nat->Value)=>Et.start (g:=g0) (W:=bn) (V:=bI) (ty:=80) (si:=6) (u:=u));have CK:=aa (show aM bn.drew g0 l9 80 from (Am.o.all AX.o).all Bq.o.drew);clear Ac Y;have ES:=aa (show bn.cell? (ad g6 1)=some (.string J) by rw [Dh.o.cell 1];rfl);have ET:=aa (show g6≠g0 from fun e=>by have:=Am.o.lt;have:=EO.o;have:=AV.o.size;have:=AX.o.size;omega);refine TL 7 (iX [some (.string P),some (pp g6 1),some (.string J),some (.agg bI.toArray),some (pp g5 0),some (.int .i64 Ad),none] (fun _ _ _=>True)) (Et g0 bn bI 80 6) (fun _ _=>True) CJ.o (fun j v w1 af ae Aa=>iX.keep (fun _=>trivial) Aa) ?_ (jI:=?_)
    rotate_left
    ·repeat' (first | exact trivial | apply And.intro)
     all_goals intro eQ u2 af EU I Av EX AP AQ K AA
     all_goals simp [iX,Region.binds] at AQ
     all_goals first | simp [Region.wanted,yielded,AP,AQ] | simp [Region.wanted,yielded] | skip
     all_goals have d1:=I.cell ES.o ET.o
     all_goals have EY:=I.cell Ae.o DF.o
     all_goals try (first | exact AA _ _ rfl (I.plain dc) (trivial) | (go_simp;exact AA _ _ rfl (I.plain dc) (trivial)))
     ·refine afQ (.string P) (.bool true) (.string J) bI.toArray CG.o rfl ⟨by simp [Act.eval,AP,AQ],rfl,by simp [Act.eval,AP,AQ]⟩ ?_;exact AA _ _ rfl (I.plain dc) trivial
     ·have Az:=CK.o;rw [<- I.1 Av] at Az;refine wp_store_row g0 0 (.agg bI.toArray) bI l9 bI _ Az (qK _) Aq.o Bt.o C8.o CF.o rfl ⟨by simp [Act.eval,AP],by simp [Act.eval,AP,AQ]⟩ ?_;intro cO CL CQ;exact AA _ _ trivial (I.stored Av CL CQ) trivial
    ·intro u6 AZ I BB;have Ea:u6 5 = .int .i64 Ad:=BB.at 5 dc dc;obtain⟨CS,CU⟩:=I.2 rfl;clear BB;simp only [Ea];have BC:=aa CS;have CV:=aa CU;go_wp2_with fail;refine Eg BC.o underlying80 rfl Aq.o ⟨rfl,rfl,rfl⟩ ?_;exact DI.o bn AZ bI Bq.o Br.o BC.o CV.o
   | false =>
    go_wp2_with (first|((with_reducible refine pO DU.o ?_ ?_);exact rfl)|(with_reducible refine zx [.string AB,.string J] Db Dc De ?_));go_roundg (gk - 1);case rel=>exact⟨q+1,om,by go_num,by rw [arq _ BU.o,Bg.o,<- Dg.o];rfl,AV.o.trans (iD.mono AV.o.size)⟩
    case measure=>omega
  ·have Di:q=nl:=om;have EL:¬ (q:Int) < nl:=om;have Ec:=aa (aKB (o:=o) (p:=p) (by have h:=Bg.o;rwa [Di,Ap.o,List.take_length] at h));clear DT Di;go_upto_region 12 with fail
   try rw [<- Ah.o]
   obtain⟨bI,Ac⟩:=ai (iA (⟨p,false,[]⟩:dB));have Br:=aa (show bI=iA (o.at_ p) by rw [Ac,Ec.o]);have Y:bI=[.string P,.bool false,.string ⟨#[]⟩]:=by rw [Ac,BX.o];rfl
   have Aq:=aa (show Sz 80 bI.length by rw [Y];exact JE);have Bt:=aa (show 0+bI.length<=l9.length by rw [Y];exact aQF 3);have C8:=aa (show ∀ v∈bI,v.oneCell'=true by rw [Y];simp [Value.oneCell']);have CF:=aa (show l9.take 0++bI++l9.drop (0+bI.length)=bI by rw [Y];rfl);have CG:=aa (show prog.built 80 [(0,.string P)]=some bI.toArray by rw [Y];exact amY _);have Ae:=aa (Ae.o _ AV.o);have CJ:=aa (fun (u:Nat->Value)=>Et.start (g:=g0) (W:=wr) (V:=bI) (ty:=80) (si:=4) (u:=u));have CK:=aa (show aM wr.drew g0 l9 80 from (Am.o.all AX.o).all AV.o.drew);clear Ac Y;refine TL 5 (iX [some (.string P),some (.agg bI.toArray),some (pp g5 0),some (.int .i64 Ad),none] (fun _ _ _=>True)) (Et g0 wr bI 80 4) (fun _ _=>True) CJ.o (fun j v w1 af ae Aa=>iX.keep (fun _=>trivial) Aa) ?_ (jI:=?_)
   rotate_left
   ·repeat' (first | exact trivial | apply And.intro)
    all_goals intro eQ u2 af EU I Av EX AP AQ K AA
    all_goals simp [iX,Region.binds] at AQ
    all_goals first | simp [Region.wanted,yielded,AP,AQ] | simp [Region.wanted,yielded] | skip
    all_goals have EY:=I.cell Ae.o DF.o
    all_goals try (first | exact AA _ _ rfl (I.plain dc) (trivial) | (go_simp;exact AA _ _ rfl (I.plain dc) (trivial)))
    ·refine amX (.string P) bI.toArray CG.o rfl (by simp [Act.eval,AP,AQ]) ?_;exact AA _ _ rfl (I.plain dc) trivial
    ·have Az:=CK.o;rw [<- I.1 Av] at Az;refine wp_store_row g0 0 (.agg bI.toArray) bI l9 bI _ Az (qK _) Aq.o Bt.o C8.o CF.o rfl ⟨by simp [Act.eval,AP],by simp [Act.eval,AP,AQ]⟩ ?_;intro cO CL CQ;exact AA _ _ trivial (I.stored Av CL CQ) trivial
   ·intro u6 AZ I BB;have Ee:u6 3 = .int .i64 Ad:=BB.at 3 dc dc;obtain⟨CS,CU⟩:=I.2 rfl;clear BB;simp only [Ee];have BC:=aa CS;have CV:=aa CU;go_wp2_with fail;refine Eg BC.o underlying80 rfl Aq.o ⟨rfl,rfl,rfl⟩ ?_;exact DI.o wr AZ bI AV.o Br.o BC.o CV.o
theorem aKE (hc:c.Ok) (hs:kD c w U σ aW aF) (fQ:i < c.n) (ax:yT c.W c.dN i) (hf:∀ x∈U,xS c.W x i) (iK:∀ k,rJ σ c.n=k+1->NS c k) :
  Calls prog 46 #[pp c.l.X 0,.int .i64 i] w (agL c w U σ aW aF i):=by
 cases ae:σ.begun i with
 | true=>exact avY hc hs fQ ae
 | false=>exact aKj hc hs fQ ae ax hf iK
theorem aKF (hc:c.Ok):∀ m,NS c m:=by
 intro m;induction m using Nat.strongRecOn with
 | ind m I =>
  intro w U σ aW aF p hs hm aI aC;cases hk:c.W.jK p with
  | none =>
   refine (av3 hc hs aI hk).mono ?_;rintro e w' ⟨rfl,h,_⟩;rw [aea hk];exact⟨rfl,σ,aW,aF,h,fun j e=>by cases e⟩
  | some j =>
   obtain⟨h1,J,M⟩:=aC j hk;refine (av4 hc hs aI hk M fun af Y=>aKE hc Y (Ke c hk) h1 J fun k e=>I k om).mono ?_;rintro e w' ⟨AA,σ',tk',fe,AB,AP,_⟩;exact⟨AA,σ',tk',fe,AB,fun j' e=>by cases e;exact AP⟩
theorem aKG (hc:c.Ok) (hs:kD c w U σ aW aF) (aI:p.length<=1100000) (aC:∀ j,c.W.jK p=some j->σ.begun j=true/\(j∈U->fD c.W p = .stuck)) :
  CB 23 #[pp c.l.X 0,.string (aA p)] w (.tuple #[.agg (iA (oW (fD c.W p) p).2).toArray,.int .i64 (oW (fD c.W p) p).1]):=by
 cases hk:c.W.jK p with
 | none =>
  refine (av3 hc hs aI hk).mono ?_;rintro e w' ⟨rfl,_,h⟩;rw [aea hk];exact⟨rfl,h⟩
 | some j =>
  obtain⟨h1,I⟩:=aC j hk;refine (av4 hc hs aI hk I fun af J=>avY hc J (Ke c hk) h1).mono ?_;rintro e w' ⟨M,σ',tk',fe,AA,_,Y⟩;exact⟨M,(Y h1).2.2.2⟩
end
section
open Go.Lib Go.RowKit Go.Shelf Go.Sort
theorem av8:∀ a b:List UInt8,compareBytes a b < 0 ↔ a < b
 | [],[]=>by simp [compareBytes]
 | [],_ :: _=>by simp [compareBytes]
 | _ :: _,[]=>by simp [compareBytes]
 | a :: r,b :: s=>by
  have M:=av8 r s;rw [compareBytes,List.cons_lt_cons_iff,<- M];by_cases h1:a < b
  ·simp [h1]
  ·by_cases I:b < a
   ·have J:¬ a=b:=fun e=>by subst e;exact UInt8.lt_irrefl _ I
    simp [h1,I,J]
   ·have J:a=b:=UInt8.le_antisymm (UInt8.not_lt.1 I) (UInt8.not_lt.1 h1);simp [J]
abbrev acr:List UInt8->List UInt8->Int:=compareBytes
theorem acs (a b:aR0):ltOf acr a b=decide (a < b):=by unfold ltOf;exact decide_eq_decide.2 (av8 a b)
theorem aKH:SWO (ltOf acr):=by
 refine⟨fun x=>?_,fun x y z h1 I=>?_,fun x y z h1 I=>?_⟩
 ·rw [acs];exact aRo (List.lt_irrefl x)
 ·rw [acs,decide_eq_true_eq] at *;exact List.lt_trans h1 I
 ·rw [acs,decide_eq_false_iff_not,List.not_lt] at *;exact List.le_trans I h1
theorem aKI (w:aRU) (base:Nat) (A:aRV) (c:Nat) (ys:List (List UInt8)) (h:Own w base 9 1 A ys.length c (cB ys)) (hl:ys.length<=1000000) :
  CR 75 #[.slice A ys.length c,.func (.func 49) #[] #[]] w (.tuple #[]) fun w'=>Own w' base 9 1 A ys.length c (cB (qi ys))/\w.grownBy w' (bM A):=by
 rcases aQ2 ys.length with I | I
 ·obtain rfl:ys=[]:=aQV I;refine (AnyF.slices_SortFunc_none { Tryz.sortS with } A c _ w).mono ?_;rintro e w' ⟨rfl,rfl⟩;refine⟨rfl,by simpa [qi] using h,⟨rfl,rfl,rfl,aQF _,fun _ _ _=>rfl⟩⟩
 ·obtain⟨b,o,cur,aZ,rfl,ae,av,_⟩:=h.at_ (by have:=h.2.1;omega);refine (Any.slices_SortFunc_total Tryz.sortS encStr (fun _=>rfl) acr aKH 49 #[] b o c ys.toArray w (enters_of func49 kr rfl) ?_ h.ain (iw av) (by simp;omega) ?_).mono ?_
  ·intro m os M _ x y;refine (Any.strings_Compare Tryz.strCmp (aA x) (aA y) _).mono ?_;rintro e w' ⟨rfl,rfl⟩;rw [gZ,gZ];exact⟨rfl,0,#[],(grow_empty _).symm⟩
  ·intro x y h1 J;simp only [acs,decide_eq_false_iff_not] at h1 J;exact List.le_antisymm (aRq.1 J) (aRq.1 h1)
  ·rintro e w' ⟨rfl,n,os,rfl⟩;have hs:(ys.toArray.toList.mergeSort fun x y=>!(ltOf acr) y x)=qi ys:=by
    have hf:(fun x y:List UInt8=>!(ltOf acr) y x)=fun x y=>decide (x<=y):=by funext x y;rw [acs,<- decide_not];exact decide_eq_decide.2 aRq
    rw [hf];rfl
   rw [hs];refine⟨rfl,?_,Zt _⟩;have aI:=h.aio (n:=n) (os:=os) (zs:=qi ys) (k:=ys.length) (by rw [Cw];omega) (Cw ys);rw [List.take_of_length_le (by rw [Cw];omega)] at aI;exact aI
theorem aKJ (w:aRU) (jq:Nat) (A:aRV) (cap:Nat) (zs:List (List UInt8)) (dm:zs.length<=1000000) (vY:w.heap[jq]?=some (.cells #[.slice A zs.length cap] 24 (0,0))) (ax:Rd w 1 A zs.length (cB zs)) :
  Calls prog 47 #[.func (.func 76) #[] #[pp jq 0],.func (.func 49) #[] #[]] w fun e w'=>∃ A' c,e = .returned (.slice A' zs.length c)/\Own w' w.heap.size 9 1 A' zs.length c (cB (qi zs))/\Bl w w':=by
 have Y:=apL w jq A cap zs dm vY ax;clear ax vY;go_enter func47,ntmps47;go_wp2_with (first|(go_at_call 74; refine Y.mono ?_;rintro e w1 ⟨I,c1,rfl,J,M⟩)|(go_at_call 75; refine (aKI w1 w.heap.size I c1 zs J dm).mono ?_;rintro e af ⟨rfl,AA,AB⟩));go_ret;exact⟨I,c1,rfl,AA,M.grown AB M.size (fun k e=>(J.block k e).1)⟩
end
section
open Go.Maps Go.RowKit Go.Shelf
def GN (σ:bE) (j:Nat):Nat:=match σ.got j with
 | some o=>o.kind
 | none=>0
noncomputable def fileOf (W:o9) (σ:bE) (p:ak):Option (ak × ak) :=
 if (match W.jK p with | some j=>GN σ j != 1 | none=>false)=true then none
 else if (oW (fD W p) p).2.is=true then some (p,(oW (fD W p) p).2.data) else none
noncomputable def tF (W:o9) (σ:bE) (l:List ak):List (ak × ak):=(mP l).filterMap (fileOf W σ)
theorem aKK (h:wG c w σ aW aF) (ay:i < c.n):w.cell? ⟨c.l.eO,i * 4,none⟩=some (.int .i64 (GN σ i)):=by
 obtain⟨OL,I,_⟩:=h.outs;have:=Lc (f:=fun i=>tX (σ.got i) (OL i)) (fun i=>Qr _ _) (aRH ay) 0 (.int .i64 (GN σ i)) (by
  unfold GN;cases σ.got i <;> rfl);rw [I.cell (i * 4)];exact this
theorem aKL (hc:c.Ok) (p:ak):(oW (fD c.W p) p).2.path=p:=by
 cases h:fD c.W p with
 | known k=>exact auD (Gw hc.work.small) h
 | below=>rfl
 | stuck=>rfl
theorem Tc {β:Type} (f:α->Option β) {l:List α} {x:α} (h:l[q]?=some x):(l.take (q+1)).filterMap f=(l.take q).filterMap f++(f x).toList:=by rw [List.take_add_one,h,List.filterMap_append];cases hf:f x <;> simp [hf]
theorem am4 (p d:ByteArray):prog.built 65 [(0,.string p),(1,.string d)]=some #[.string p,.string d]:=kr
theorem aKM (hc:c.Ok) (hs:kD c w [] σ aW aF) :
  Calls prog 24 #[pp c.l.X 0] w fun e w'=>∃ A c2,e = .returned (.slice A (tF c.W σ c.k.fP).length c2)/\Own w' w.heap.size 65 2 A (tF c.W σ c.k.fP).length c2 (cK fI (tF c.W σ c.k.fP))/\Bl w w':=by
 obtain⟨X,Ap,eO,BO,Ag,C8,Aq,CF,mI,AB,bW,BP⟩:=nq6 c.l.X c.l.eO c.l.bX.C c.l.bX.e c.k.fP.length c.n;obtain⟨yD,BR,S,Ah,Ur,BS⟩:=nq3 (Value.slice c.l.bX.B c.k.dA.length c.l.bX.d) (mP c.k.fP) (tF c.W σ c.k.fP);have CG:∀ p∈S,p.length<=1100000:=fun p aI=>hc.kE.Vq p (by rw [Ah] at aI;exact (Jb c.k.fP).2 p |>.1 aI);have DU:S.length<=1000:=by have:=Mw c.k.fP;have:=hc.kE.mI;rw [Ah];omega
 have BU:=aa (fun W (ae:Bl w W)=>show W.cell? (ad X 1)=some yD/\W.cell? (ad X 2)=some (.slice Ag mI Aq)/\W.cell? (ad X 6)=some (.slice (some ⟨eO,0,none⟩) bW bW)/\Rd W 1 Ag mI (cB c.k.fP) from by
  have Av:=hs.all hc ae;obtain⟨bV,rc,lK,jZ,h1,_⟩:=Av.fO.row;rw [Ap,BR,C8,CF,AB,BO,BP];exact⟨h1.cell 1,h1.cell 2,h1.cell 6,(Av.fO.work W (fun _ _ _=>rfl)).fP⟩);have Db:=aa (fun W (ae:Bl w W) (p:ak) (aI:p∈S)=>show Calls prog 44 #[yD,.string (aA p)] W (fun e w'=>e = .returned (.tuple #[.int .i64 (match c.W.jK p with | some j=>(j:Int) | none=>0),.bool (c.W.jK p).isSome])/\Bl W w') /\
   (∀ j,c.W.jK p=some j->j < bW/\∀ aY,Bl w aY->aY.cell? ⟨eO,j * 4,none⟩=some (.int .i64 (GN σ j))) /\
   (∀ aY,Bl w aY->(match c.W.jK p with | some j=>GN σ j != 1 | none=>false)=false->CB 23 #[pp X 0,.string (aA p)] aY (.tuple #[.agg (iA (oW (fD c.W p) p).2).toArray,.int .i64 (oW (fD c.W p) p).1])) from by
  have Av:=hs.all hc ae;have Dc:=Av.fO.work W (fun _ _ _=>rfl);have h1:=Xm W c.l.bX.B c.l.bX.d c.k.dA Dc.dA (by have:=hc.kE.nZ;omega) (fun x ah=>by have:=(hc.kE.fair x ah).outs;omega) p;rw [Yl] at h1;refine⟨?_,fun j aC=>⟨by rw [BP];exact Ke c aC,fun aY J=>by rw [BO];exact aKK (hs.all hc J).fO (Ke c aC)⟩,fun aY J hk=>?_⟩
  ·rw [BR];cases hm:c.W.jK p with
   | none=>rw [hm] at h1;exact h1
   | some j =>
    rw [hm] at h1;simp only at h1;rw [show max (j:Int) 0=j by omega,show decide (0<=(j:Int))=true from decide_eq_true om] at h1;exact h1
  ·rw [Ap];refine aKG hc (hs.all hc J) (CG p aI) fun j aC=>⟨?_,fun h=>by cases h⟩;rw [aC] at hk;have CJ:GN σ j=1:=by simpa using hk
   cases av:σ.got j with
   | none=>rw [GN,av] at CJ;cases CJ
   | some o=>exact (hs.inv.right j o av).2);obtain⟨_,EO,_,CK⟩:=BU.o w (Below.refl _ _);have De:=aa (aip w Ag mI Aq);have Dg:=aa (fun (W:aRU) (CL:W=w.alloc (.cells #[.slice Ag mI Aq] 24))=>show Calls prog 47 #[.func (.func 76) #[] #[pp w.heap.size 0],.func (.func 49) #[] #[]] W fun e w'=>∃ A' c2,e = .returned (.slice A' mI c2)/\Own w' w.heap.size 9 1 A' mI c2 (cB (qi c.k.fP))/\Bl w w' from by
  have ae:=gQ CL;have:=aKJ W w.heap.size Ag Aq c.k.fP (by have:=hc.kE.mI;omega) (by rw [CL,AB];exact aQM w _) (by rw [<- AB];exact CK.gz ae);rw [<- AB] at this;refine this.mono ?_;rintro e w' ⟨A',c2,rfl,BX,J⟩;exact⟨A',c2,rfl,BX.mono ae.size,aU ae J⟩);have Dh:=aa (fun (W:aRU) (A:aRV) (c2:Nat) (BX:Own W w.heap.size 9 1 A mI c2 (cB (qi c.k.fP)))=>show CR 37 #[.slice A mI c2] W (.slice A S.length c2) fun w'=>Own w' w.heap.size 9 1 A S.length c2 (cB S)/\W.grownBy w' (bM A) from by
  have hl:(qi c.k.fP).length=mI:=by rw [Cw,AB]
  have:=adI W w.heap.size A c2 (qi c.k.fP) (by rw [hl];exact BX) (by rw [hl,AB];have:=hc.kE.mI;omega);rw [hl] at this;rw [Ah];exact this);have Di:=aa (show Ur=S.filterMap (fileOf c.W σ) by rw [BS,Ah];rfl);obtain⟨AZ,BZ⟩:=ai S.length;have Az:=aa BZ;rw [<- BZ] at DU;rw [<- Ap,<- BS];clear Ap BO C8 CF AB BP BR Ah BS CG CK hs BZ;go_enter func24,ntmps24;go_wp2_with (first|(go_at_call 48; refine jr De.o ?_;intro ES Dj)|(go_at_call 47; refine (Dg.o _ Dj.o).mono ?_;rintro e af ⟨il,c2,rfl,CQ,J⟩;have CS:=aa CQ;have CU:=aa J;clear CQ J)|(go_at_call 37; refine (Dh.o _ il c2 CS.o).mono ?_;rintro e aD ⟨rfl,CV,CW⟩;have Dk:=aa CV;have Bb:=aa (CU.o.grown CW CU.o.size (fun k e=>(CS.o.block k e).1));rw [<- Az.o];clear CV CW));go_loopg [19,3] AZ (fun gk Dp Dq wr=>∃ (q:Nat) (A:aRV) (bH:Nat),q+gk=AZ/\Dp = .int .i64 q/\Dq = .slice A ((S.take q).filterMap (fileOf c.W σ)).length bH/\Own wr aD.heap.size 65 2 A ((S.take q).filterMap (fileOf c.W σ)).length bH (cK fI ((S.take q).filterMap (fileOf c.W σ)))/\Bl aD wr);case atStart=>exact⟨0,none,0,om,rfl,rfl,Own.nil _ _ _ _,Below.refl _ _⟩
 case round =>
  obtain⟨q,A,bH,ET,rfl,Bc,BB,CX⟩:=hrel;obtain⟨kQ,BC⟩:=ai ((S.take q).filterMap (fileOf c.W σ));rw [<- BC] at Bc BB;obtain⟨n,BD⟩:=ai kQ.length;rw [<- BD] at Bc BB;subst Bc;have EU:n<=1000:=by rw [BD,BC];refine aQG (aRT _ _) ?_;rw [List.length_take];omega
  obtain⟨AP,AQ,BF,Y⟩:=hq4 BC BD BB CX;clear BC BD BB CX;by_cases CY:q < AZ
  ·have Dr:(q:Int) < AZ:=om;have EX:(0:Int)<=q:=om;obtain⟨p,ah⟩:∃ x,S[q]?=some x:=⟨_,aQI (by rw [<- Az.o];exact CY)⟩;have CZ:p∈S:=aQK ah;have Aa:=aU Bb.o Y.o;obtain⟨b,o,rfl,Dt⟩:=KW ((show Rd aD 1 il AZ (cB S) by rw [Az.o];exact Dk.o.rd).gz Y.o) ah;obtain⟨P,Ak⟩:=ai (aA p);obtain⟨Be,Ca,Bf⟩:=Db.o wr Aa p CZ;obtain⟨gL,Al⟩:=ai ((oW (fD c.W p) p).2);obtain⟨nU,Bg,AU,Bh⟩:=nq2 gL.is gL.data;obtain⟨BG,Bi⟩:=ai (aA AU);obtain⟨Cc,Ce⟩:∃ k:Int,k=(oW (fD c.W p) p).1:=⟨_,rfl⟩;obtain⟨bI,Bj⟩:=ai (iA gL);have BH:bI=[.string P,.bool nU,.string BG]:=by rw [Bj,Ak,Bg,Bi,Bh];have:=aKL hc p;rw [<- Al] at this;show [Value.string (aA gL.path),_,_]=_;rw [this]
   obtain⟨Ac,Am⟩:=ai (fI (p,AU));have Du:=aa Am;have Dv:=aa (show prog.built 65 [(0,.string P),(1,.string BG)]=some Ac.toArray by rw [Am,Ak,Bi];exact am4 _ _);have hcs:(Value.agg Ac.toArray).cells.size=2:=by rw [Am];rfl
   have Dw:∀ v∈Ac,v.oneCell'=true:=by rw [Am];exact abG _
   have Cf:bI.length=3:=by rw [BH];rfl
   have Dz:Sz 80 bI.length:=by rw [Cf];exact JE
   have E5:∀ v∈bI,v.oneCell'=true:=by rw [BH];simp [Value.oneCell']
   have Cg:=aa BH;have Cj:=aa (show nU=(oW (fD c.W p) p).2.is by rw [<- Al];exact Bg);have Ck:=aa (show AU=(oW (fD c.W p) p).2.data by rw [<- Al];exact Bh);rw [<- Ak,<- Al,<- Bj,<- Ce] at Bf;have Ad:=aa ah;rw [<- Ak] at Dt Be;have AV:=aa Be;have Cm:=aa (fun aY (ae:Bl wr aY)=>Bf aY (aU Aa ae));have E8:=aa (fun (j:Nat) (h:c.W.jK p=some j)=>Ca j h);obtain⟨EY,_,Bn,_⟩:=BU.o wr Aa;have Co:=aa (fun aY (ae:Bl wr aY)=>(BU.o aY (aU Aa ae)).2.2.1);have E9:=aa Aa;clear ah CZ Aa Ak Be Ca Bf Al Bg Bh Bi Ce Bj BH Am Bn;cases hm:c.W.jK p;case' none =>
    rw [hm] at AV;have AX:(match c.W.jK p with | some j=>GN σ j != 1 | none=>false)=false:=by rw [hm]
    have BK:=aa (show CB 44 #[yD,.string P] wr (.tuple #[.int .i64 0,.bool false]) from AV.o);clear hm AV;go_upto_region 6 with (go_at_call 44; refine jr BK.o ?_;intro Ae Af)
    have Bp:=aa (show fileOf c.W σ p=if nU=true then some (p,AU) else none by rw [fileOf,AX,if_neg dc,<- Cj.o,<- Ck.o]);have Cr:=aa (fun aY (ae:Bl wr aY)=>show CB 23 #[pp X 0,.string P] aY (.tuple #[.agg bI.toArray,.int .i64 Cc]) from Cm.o aY ae AX);clear AX
   case' some j =>
    rw [hm] at AV;obtain⟨Ct,BL⟩:=E8.o j hm;have Ea:(j:Int) < bW:=om;have Ec:(0:Int)<=j:=om;obtain⟨Cu,Ao⟩:∃ k:Nat,k=GN σ j:=⟨_,rfl⟩;rw [<- Ao] at BL;have Cv:=aa (fun aY (ae:Bl wr aY)=>BL aY (aU E9.o ae));have BK:=aa (show CB 44 #[yD,.string P] wr (.tuple #[.int .i64 j,.bool true]) from AV.o);by_cases hk:Cu=1;case' neg =>
     have Ee:((Cu:Int) != 1)=true:=by simp;omega
     have AA:=aa (show fileOf c.W σ p=none by rw [fileOf,hm];simp only;rw [if_pos (by rw [<- Ao];simpa using hk)]);clear hm AV BL Ct Ao hk;go_wp2_with (go_at_call 44; refine BK.o.mono ?_;rintro e Ae ⟨rfl,I⟩;have Af:=aa I;have Bn:=Co.o Ae I;have EA:=Cv.o Ae I;clear I);go_roundg (gk - 1);case rel =>
      refine⟨q+1,A,bH,om,by go_num,?_,?_,aU Y.o Af.o⟩
      ·rw [Tc _ Ad.o,AA.o,<- AP.o,List.length_append,<- AQ.o];rfl
      ·rw [Tc _ Ad.o,AA.o,<- AP.o,List.length_append,<- AQ.o,show kQ++(none:Option (ak × ak)).toList=kQ from List.append_nil _];exact BF.o.below Af.o (aQF _)
     case measure=>omega
    case' pos =>
     have AX:(match c.W.jK p with | some j=>GN σ j != 1 | none=>false)=false:=by rw [hm];simp only;rw [<- Ao,hk];rfl
     subst hk;clear hm AV BL Ct Ao;go_upto_region 6 with (go_at_call 44; refine BK.o.mono ?_;rintro e Ae ⟨rfl,I⟩;have Af:=aa I;have Bn:=Co.o Ae I;have EA:=Cv.o Ae I;clear I)
     have Bp:=aa (show fileOf c.W σ p=if nU=true then some (p,AU) else none by rw [fileOf,AX,if_neg dc,<- Cj.o,<- Ck.o]);have Cr:=aa (fun aY (ae:Bl wr aY)=>show CB 23 #[pp X 0,.string P] aY (.tuple #[.agg bI.toArray,.int .i64 Cc]) from Cm.o aY ae AX);clear AX
   all_goals
    go_upto_region 8 with (first|(go_at_call 23; refine (Cr.o _ Af.o).mono ?_;rintro e bn ⟨rfl,D8⟩;have EC:=aa (aU Af.o D8);clear D8)|((with_reducible refine qR bI Cf Dz E5 ?_);intro Bq EF DF;have Br:=aa (aU EC.o EF.o);have Ef:Bq.cell? (ad bn.heap.size 1)=some (.bool nU):=(by rw [DF.o.cell 1,Cg.o];rfl);have Ei:Bq.cell? (ad bn.heap.size 2)=some (.string BG):=(by rw [DF.o.cell 2,Cg.o];rfl)))
    cases nU with
    | true =>
     have AA:=aa (show fileOf c.W σ p=some (p,AU) from Bp.o);go_wp2_with (first|((with_reducible refine Rk (.string P) (.string BG) _ Dv.o ?_ ?_);exact⟨rfl,rfl⟩)|((with_reducible refine Ba K7 (.agg Ac.toArray) hcs rfl ?_);intro Ej Bt DI;rw [qK] at Bt;have DJ:=aa Bt;have BN:=aa (aU Br.o DI);have DN:=aa (BF.o.below (BN.o) (aQF _));have EG:=aa (aQG Y.o.size BN.o.size);clear Bt DI)|(at_builtin;have _t:=DJ;go_must ((with_reducible refine vg 65 _ 2 32 underlying22 K7.info K7.zs aD.heap.size A n bH (cK fI kQ) DN.o 1 Ac (.slice (some ⟨Bq.heap.size,0,none⟩) 1 1) (Src.slice underlying22 DJ.o) Dw ?_ ?_ ?_ ?_ ?_);exact mV;omega;exact EG.o;exact⟨rfl,rfl⟩;intro EH EJ El DR DT EK;have EL:=aa DR;have EM:=aa ((aU Y.o BN.o).grown DT (aU Y.o BN.o).size (fun k e=>(DN.o.block k e).1));clear DR DT EK)));go_roundg (gk - 1);case rel =>
      refine⟨q+1,EH,EJ,om,by go_num,?_,?_,EM.o⟩
      ·rw [Tc _ Ad.o,AA.o,<- AP.o,List.length_append,<- AQ.o];rfl
      ·rw [Tc _ Ad.o,AA.o,<- AP.o,List.length_append,<- AQ.o,show cK fI (kQ++(some (p,AU)).toList)=cK fI kQ++Ac by rw [Du.o];simp [cK]];exact EL.o
     case measure=>omega
    | false =>
     have AA:=aa (show fileOf c.W σ p=none from Bp.o);go_wp2_with fail;go_roundg (gk - 1);case rel =>
      refine⟨q+1,A,bH,om,by go_num,?_,?_,aU Y.o Br.o⟩
      ·rw [Tc _ Ad.o,AA.o,<- AP.o,List.length_append,<- AQ.o];rfl
      ·rw [Tc _ Ad.o,AA.o,<- AP.o,List.length_append,<- AQ.o,show kQ++(none:Option (ak × ak)).toList=kQ from List.append_nil _];exact BF.o.below Br.o (aQF _)
     case measure=>omega
  ·have Dr:¬ (q:Int) < AZ:=om;have EN:=aa (show kQ=Ur by rw [AP.o,Di.o,List.take_of_length_le (by rw [<- Az.o];omega)]);clear CY;go_wp2_with fail;go_ret;rw [<- EN.o,<- AQ.o];exact⟨A,bH,rfl,BF.o.mono Bb.o.size,aU Bb.o Y.o⟩
structure acy where
 eO:Nat
 bV:Option Addr
 rc:Nat
 lK:Option Addr
 jZ:Nat
 gm:Option Addr
 gV:Nat
def Eu (n ll al8 ku:Nat) (L:acy):List Value:=[.slice (some ⟨L.eO,0,none⟩) n n,.slice L.bV ll L.rc,.slice L.lK al8 L.jZ,.slice L.gm ku L.gV]
def Td:List Value:=[.slice none 0 0,.slice none 0 0,.slice none 0 0,.slice none 0 0]
structure Wi (W:aRU) (B n:Nat) (σ:bE) (aW:aRZ) (fs:List (ak × ak)) (L:acy):Prop where
 Sb:B<=L.eO
 outs:∃ OL:Nat->kI,aM W L.eO (pR σ OL n) 63 /\ ∀ i o,σ.got i=some o->ny W B o (OL i)
 dY:Own W B 3 1 L.bV σ.dY.length L.rc (Bo σ.dY)
 Sw:Own W B 3 1 L.lK aW.length L.jZ (Bo aW)
 files:Own W B 65 2 L.gm fs.length L.gV (cK fI fs)
theorem Wi.keep {W W':aRU} {B n:Nat} {fs:List (ak × ak)} {L:acy} (h:Wi W B n σ aW fs L) (hk:∀ q,B<=q->q < W.heap.size->W'.heap[q]?=W.heap[q]?):Wi W' B n σ aW fs L:=by obtain⟨OL,h1,I⟩:=h.outs;exact⟨h.Sb,⟨OL,(hk _ h.Sb h1.lt).trans h1,fun i o e=>⟨(I i o e).outs.keep fun b _=>hk b,(I i o e).reads.keep fun b _=>hk b⟩⟩,h.dY.keep fun b _=>hk b,h.Sw.keep fun b _=>hk b,h.files.keep fun b _=>hk b⟩
structure Yx (S:uC) (w w':aRU):Prop where
 os:w'.os=w.os
 tape:w'.tape=w.tape
 output:w'.output=w.output
 size:w.heap.size<=w'.heap.size
 keep:∀ q,q < w.heap.size->q≠S.je->q≠S.gs->q≠S.lT->w'.heap[q]?=w.heap[q]?
def Yy (s bW:Nat) (Ob GR:aRW) (j:Nat) (v:Value) (w:aRU):Prop :=
 (j=3->∃ g,v = .slice (some ⟨g,0,none⟩) bW bW/\aM w g Ob 4 /\ s<=g)/\(j=5->∃ g,v = .slice (some ⟨g,0,none⟩) bW bW/\aM w g GR 63 /\ s<=g)/\(j=6->∃ g,v = .agg #[.slice (some ⟨g,0,none⟩) bW bW,.slice none 0 0,.slice none 0 0,.slice none 0 0]/\aM w g GR 63 /\ s<=g)
theorem Yy.keep {s bW:Nat} {Ob GR:aRW} (h:Yy s bW Ob GR j v w) (ae:Bl w w'):Yy s bW Ob GR j v w' :=
 ⟨fun e=>(h.1 e).imp fun g h=>⟨h.1,h.2.1.all ae,h.2.2⟩,fun e=>(h.2.1 e).imp fun g h=>⟨h.1,h.2.1.all ae,h.2.2⟩,fun e=>(h.2.2 e).imp fun g h=>⟨h.1,h.2.1.all ae,h.2.2⟩⟩
theorem awf (A:aRV) (n c:Nat):prog.built 39 [(0,.slice A n c)]=some #[.slice A n c,.slice none 0 0,.slice none 0 0,.slice none 0 0]:=kr
theorem aKN (A:aRV) (n c:Nat) (B:aRV) (gG d:Nat) (C:aRV) (mJ e:Nat) (keep:Bool) (t:TypeId) (p:aRV) (D:aRV) (m m2:Nat) (E:aRV) (m3 m4:Nat):prog.built 78 [(0,.agg #[.slice A n c,.slice B gG d,.slice C mJ e,.bool keep]),(1,.iface t (.pointer p)),(2,.slice D m m2),(3,.agg #[.slice E m3 m4,.slice none 0 0,.slice none 0 0,.slice none 0 0])]=some #[.slice A n c,.slice B gG d,.slice C mJ e,.bool keep,.iface t (.pointer p),.slice D m m2,.slice E m3 m4,.slice none 0 0,.slice none 0 0,.slice none 0 0]:=kr
theorem aKO (w:aRU) (m:Nat) (hm:m<=1000) (σ:bE) (ae:∀ i,σ.begun i=false):(Instr.makeSlice 76 (.int .i64 (m:Int)) (.int .i64 (m:Int))).run prog w = .ok (.slice (some ⟨w.heap.size,0,none⟩) m m) (w.alloc (.cells (yB σ m).toArray 4)):=by
 have h:(prog.info? 4).map (fun i=>(i.zero,i.size,i.bytes))=some (some (.bool false),1,1):=kr;cases I:prog.info? 4 with
 | none=>rw [I] at h;cases h
 | some i =>
  rw [I] at h;simp only [Option.map_some,Option.some.injEq,Prod.mk.injEq] at h;obtain⟨J,hs,M⟩:=h;rw [run_make w 76 4 i (.bool false) underlying76 I J .i64 .i64 m m om (Int.le_refl _) (by rw [M];omega) om,Int.toNat_natCast,hs,Nat.mul_one];have e:madeCells (Value.bool false).cells m=(yB σ m).toArray:=by have:=toList_madeCells_one (Value.bool false) m;rw [show (Value.bool false).cells=#[Value.bool false] from rfl,<- Array.toArray_toList (xs:=madeCells #[Value.bool false] m),this];congr 1;unfold yB;rw [List.map_congr_left (g:=fun _=>Value.bool false) (fun i _=>by rw [ae i]),List.map_const',List.length_range]
  rw [e]
theorem awg (w:aRU) (m:Nat) (hm:m<=1000) (σ:bE) (OL:Nat->kI) (ae:∀ i,σ.got i=none):(Instr.makeSlice 36 (.int .i64 (m:Int)) (.int .i64 (m:Int))).run prog w = .ok (.slice (some ⟨w.heap.size,0,none⟩) m m) (w.alloc (.cells (pR σ OL m).toArray 63)):=by
 have h:(prog.info? 63).map (fun i=>(i.zero,i.size,i.bytes))=some (some (.agg iN.toArray),4,64):=kr;cases J:prog.info? 63 with
 | none=>rw [J] at h;cases h
 | some i =>
  rw [J] at h;simp only [Option.map_some,Option.some.injEq,Prod.mk.injEq] at h;obtain⟨M,hs,Y⟩:=h;rw [run_make w 36 63 i (.agg iN.toArray) underlying36 J M .i64 .i64 m m om (Int.le_refl _) (by rw [Y];omega) om,Int.toNat_natCast,hs];have e:madeCells (Value.agg iN.toArray).cells (m * 4)=(pR σ OL m).toArray:=by
   rw [show (Value.agg iN.toArray).cells=iN.toArray from rfl,<- Array.toArray_toList (xs:=madeCells iN.toArray (m * 4))];congr 1;apply List.ext_getElem?;intro j;have hl:(pR σ OL m).length=m * 4:=by rw [pR,agK,List.length_range]
   by_cases aC:j < m * 4
   ·have AB:j % 4 < 4:=Nat.mod_lt _ dc;have AA:(tX (σ.got (j / 4)) (OL (j / 4)))[j % 4]?=some (iN.toArray[j % 4]!):=by rw [ae];show iN[j % 4]?=_;have I:j % 4=0\/j % 4=1\/j % 4=2\/j % 4=3:=om;rcases I with I | I | I | I <;> rw [I] <;> rfl
    have:=Lc (f:=fun i=>tX (σ.got i) (OL i)) (fun i=>Qr _ _) (aRH (show j / 4 < m by omega)) (j % 4) _ AA;rw [show j / 4 * 4+j % 4=j by omega] at this;rw [pR,this];simp [madeCells,aC,iN]
   ·rw [List.getElem?_eq_none (show (madeCells iN.toArray (m * 4)).toList.length<=j by rw [Array.length_toList,size_madeCells];omega),List.getElem?_eq_none (by rw [hl];omega)]
  rw [e]
def awh:List TypeId:=[92,86,89]
theorem qA.turned {W W':aRU} {l:uC} {n:Nat} {fU:Nat->List UInt8} {df:Nat->lS} {met:List ak} {bF:Nat->Bool} {has:ak->Bool} (h:qA W l aF n fU df met bF has) (jS:aM W g Z ty) (az:fV g W W') (h1:ty ∉ Fx) (ag:ty ∉ awh):qA W' l aF n fU df met bF has:=by
 have Y:∀ {k:Nat} {cs:Array Value} {t:TypeId} {aZ:Nat × Nat},W.heap[k]?=some (.cells cs t aZ)->t≠ty->W'.heap[k]?=W.heap[k]?:=fun {k cs t aZ} hk AA=>az.2.2.2.2 k fun e=>by
  rw [e,jS] at hk;injection hk with hk
  injection hk with _ hk
  exact AA hk.symm
 have AV:∀ {k:Nat} {o:Obj},W.heap[k]?=some o->o.isCells=false->W'.heap[k]?=W.heap[k]?:=fun {k o} hk AA=>az.2.2.2.2 k fun e=>by
  rw [e,jS] at hk;cases hk;cases AA
 have AB:∀ {base aO n c2:Nat} {t:TypeId} {A:aRV} {ys:aRW},Own W base t aO A n c2 ys->t∈Fx->Own W' base t aO A n c2 ys:=fun AZ e=>gX AZ jS (fun I=>h1 (I ▸ e)) az;have AP:∀ {t:TypeId},t∈awh->t≠ty:=fun e I=>ag (I ▸ e);obtain⟨M,hm,Aa⟩:=h.store;obtain⟨M2,Ac,Ad,AX⟩:=h.bF.map;obtain⟨⟨Af,AQ,I⟩,⟨Ag,AU,J⟩,_⟩:=h.kinds;refine⟨(Y h.row (AP dc)).trans h.row,⟨(Y h.bF.obj (AP dc)).trans h.bF.obj,h.bF.far,M2,Ac.keep (AV AQ I),Ad,fun j aC=>⟨fun e=>?_,(AX j aC).2⟩⟩,⟨M,⟨(Y hm.obj (AP dc)).trans hm.obj,hm.map.keep (AV AU J)⟩,Aa⟩,h.far,h.ne⟩;obtain⟨y,AQ,I,L,AU,J,Ae⟩:=(AX j aC).1 e;exact⟨y,AQ,I,L,AB AU dc,⟨AB J.reads dc,AB J.outs dc⟩,Ae⟩
def jE.X (k:jE):List lv:=k.dA.map (·.2)
noncomputable def jE.W (k:jE):o9:=nR k.files k.X
structure FD (k:jE):Prop where
 work:Qd k.files k.X
 kE:Vp k
 env:∀ a∈k.X,Gh ⟨eB,a.env⟩
 wide:∀ x∈k.dA,Yi x.2
structure acz (k:jE) (met:List ak):Prop where
 apart:IC met
 few:met.length<=1000
 keys:∀ i j,i < k.dA.length->j < k.dA.length->i≠j->NN k.X i≠NN k.X j
 outs:∀ i,i < k.dA.length->∀ x∈(bG k.W i).outs,x.2∈met
def jE.dN (k:jE) (i:Nat):Prop:=∃ p∈k.fP,k.W.jK p=some i
def xL (bF:Nat->Bool) (has:ak->Bool):bE:=⟨fun _=>false,fun _=>none,[],bF,has⟩
def acA (k:jE) (keep:Bool) (met:List ak) (bF:Nat->Bool) (has:ak->Bool) (l:Dm):dF:=⟨k,keep,k.dN,xL bF has,met,l⟩
theorem FD.fit {k:jE} (h:FD k) (keep:Bool) (met:List ak) (bF:Nat->Bool) (has:ak->Bool) (l:Dm):(acA k keep met bF has l).Fit:=⟨h.work,h.kE,h.env,fun i I=>by
 obtain⟨p,_,aI⟩:=I;exact Ke (acA k keep met bF has l) aI,h.wide⟩
structure IW (k:jE) (keep:Bool) (awi:Nat->Bool) (awj:ak->Bool) (σ:bE) (aW:aRZ):Prop where
 inv:wu k.W k.dN (xL awi awj) [] σ
 log:Ar (xL awi awj) σ aW
 kept:∀ i,σ.bF i=true->xD k.W σ i
 full:keep=true->∀ p∈k.fP,∀ i,k.W.jK p=some i->σ.begun i=true
def awk (w:aRU) (k:jE) (keep:Bool) (S:uC) (aF:aR1) (met:List ak) (bF:Nat->Bool) (has:ak->Bool) (e:Ending) (w':aRU):Prop :=
 ∃ σ aW L fe,e = .returned (.tuple #[.agg (Eu k.dA.length σ.dY.length aW.length (tF k.W σ k.fP).length L).toArray,.int .i64 0])/\Wi w' w.heap.size k.dA.length σ aW (tF k.W σ k.fP) L/\qA w' S fe k.dA.length (NN k.X) (Yf k.files k.X) met σ.bF σ.has/\Yx S w w'/\IW k keep bF has σ aW/\∀ q,fe q->aF q\/w.heap.size<=q
def Aw (l:List (ak × ak)):Nat:=(l.map fun x=>1+(x.1.length+x.2.length) / 64).sum
def Ay (l:List kH):Nat:=(l.map fun x=>x.2.env.length+x.2.ins.length+x.2.asks.length+x.2.outs.length+x.2.tool.length / 64).sum
def Bw (k:jE):Bool:=decide (8 < k.dA.length) || (decide (120 < Aw k.files+Ay k.dA) || decide (20 < k.fP.length))
structure awl (k:jE):Prop where
 ku:k.files.length<=1048576
 Nz:∀ x∈k.files,x.1.length<=1048576/\x.2.length<=1048576
 nZ:k.dA.length<=1048576
 yD:∀ x∈k.dA,x.2.env.length<=1048576/\x.2.ins.length<=1048576/\x.2.asks.length<=1048576/\x.2.outs.length<=1048576/\x.2.tool.length<=1048576
 mI:k.fP.length<=1048576
theorem awm:∀ l:List (ak × ak),(∀ x∈l,x.1.length<=1048576/\x.2.length<=1048576)->Aw l<=l.length * 40000
 | [],_=>by simp [Aw]
 | x :: l,h=>by
  have h1:=awm l fun y hy=>h y (aQ9 _ hy);have I:=h x sp;simp only [Aw,List.map_cons,List.sum_cons,List.length_cons] at h1 |-;omega
theorem awn:∀ l:List kH,(∀ x∈l,x.2.env.length<=1048576/\x.2.ins.length<=1048576/\x.2.asks.length<=1048576/\x.2.outs.length<=1048576/\x.2.tool.length<=1048576)->Ay l<=l.length * 8000000
 | [],_=>by simp [Ay]
 | x :: l,h=>by
  have h1:=awn l fun y hy=>h y (aQ9 _ hy);have I:=h x sp;simp only [Ay,List.map_cons,List.sum_cons,List.length_cons] at h1 |-;omega
theorem aKP {l:List (ak × ak)} {x:ak × ak} (h:l[q]?=some x):Aw (l.take (q+1))=Aw (l.take q)+(1+(x.1.length+x.2.length) / 64):=by rw [List.take_add_one,h];simp [Aw]
theorem awo {l:List kH} (h:l[q]?=some x):Ay (l.take (q+1))=Ay (l.take q)+(x.2.env.length+x.2.ins.length+x.2.asks.length+x.2.outs.length+x.2.tool.length / 64):=by rw [List.take_add_one,h];simp [Ay]
theorem awp (w:aRU) (k:jE) (bX:x8) (keep:Bool) (hA:wY w k bX) (hk:awl k) :
  CB 19 #[.agg (qy k bX keep).toArray] w (.bool (Bw k)):=by
 obtain⟨BF,Ag⟩:=ai (qy k bX keep);obtain⟨aH,AZ⟩:=ai (w.alloc (.cells BF.toArray 26));have BG:=gQ AZ;have BH:=kY AZ;obtain⟨bW,Y,ku,Aa,mI,Ac⟩:=nq3 k.dA.length k.files.length k.fP.length;have Bq:ku<=1048576:=by rw [Aa];exact hk.ku
 have Br:bW<=1048576:=by rw [Y];exact hk.nZ
 have Bt:mI<=1048576:=by rw [Ac];exact hk.mI
 have Ad:=aa (fun W (ae:Bl aH W)=>show Bl w W/\aM W w.heap.size BF 26 /\ wY W k bX from by
  have h1:=aU BG ae;exact⟨h1,BH.all ae,hA.all h1⟩);have Ah:=aa (fun W (ae:Bl aH W)=>show W.cell? (ad w.heap.size 0)=some (.slice bX.A ku bX.c)/\W.cell? (ad w.heap.size 1)=some (.slice bX.B bW bX.d)/\W.cell? (ad w.heap.size 2)=some (.slice bX.C mI bX.e) from by
  have h1:=(Ad.o W ae).2.1;rw [Ag] at h1;rw [Y,Aa,Ac];exact⟨h1.cell 0,h1.cell 1,h1.cell 2⟩);have BZ:=aa (fun q:Nat=>show Aw (k.files.take q)<=1048576 * 40000 from by
  refine aQG (awm _ fun x ah=>hk.Nz x (List.mem_of_mem_take ah)) (aQ8 _ ?_);rw [List.length_take];omega);have Bb:=aa (fun q:Nat=>show Ay (k.dA.take q)<=1048576 * 8000000 from by
  refine aQG (awn _ fun x ah=>hk.yD x (List.mem_of_mem_take ah)) (aQ8 _ ?_);rw [List.length_take];omega);have Bc:=aa hk.Nz;have Be:=aa hk.yD;have BK:=aa Y;have Ae:=aa Aa;have iI:=(Ah.o aH (Below.refl _ _)).1;obtain⟨gm,AA,C8,AB⟩:=nq2 bX.A bX.B;have Bf:=aa AA;have BL:=aa AB;rw [<- AA] at iI;have BN:Bw k=(decide (8 < bW) || (decide (120 < Aw k.files+Ay k.dA) || decide (20 < mI))):=by rw [Y,Ac];rfl
 have Bg:=aa BN;rw [<- Ag];have CF:=AZ.symm;clear AZ BG BH Ag Y Aa Ac hk hA AA AB BN;go_enter func19,ntmps19;go_wp2_with fail;go_loopg [11,3] ku (fun gk Ak Al wr=>∃ q:Nat,q+gk=ku/\Ak = .int .i64 q/\Al = .int .i64 ((Aw (k.files.take q):Nat):Int)/\Bl aH wr);case atStart=>exact⟨0,om,rfl,rfl,Below.refl _ _⟩
 case round =>
  obtain⟨q,CG,rfl,AP,AQ⟩:=hrel;have AU:=aa AQ;obtain⟨S,I⟩:=ai (Aw (k.files.take q));rw [<- I] at AP;subst AP;have CJ:S<=41943040000:=by rw [I];exact BZ.o q
  have BO:=aa I;clear AQ I;by_cases M:q < ku
  ·have Am:(q:Int) < ku:=om;have Bh:(0:Int)<=q:=om;obtain⟨x,ah⟩:∃ x,k.files[q]?=some x:=⟨_,aQI (by rw [<- Ae.o];exact M)⟩;obtain⟨b,o,AA,J⟩:=vG (f:=fI) (k:=2) (fun _=>rfl) underlying65 rfl kr (show Rd wr 2 gm ku (cK fI k.files) by rw [Bf.o,Ae.o];exact (Ad.o wr AU.o).2.2.files) ah Ae.o.symm;subst AA;have Af:=Bc.o x (aQK ah);obtain⟨P,Ao,D,Ap⟩:=nq2 (aA x.1) (aA x.2);have BP:P.size=x.1.length:=by rw [Ao,iP]
   have BR:D.size=x.2.length:=by rw [Ap,iP]
   have AV:=aa (show Aw (k.files.take (q+1))=S+(1+(P.size+D.size) / 64) by rw [aKP ah,BO.o,BP,BR]);obtain⟨p,aI,d,Aq⟩:=nq2 P.size D.size;have CK:p<=1048576:=om;have CL:d<=1048576:=om;rw [show fI x=[.string P,.string D] by rw [Ao,Ap];rfl] at J;rw [<- aI,<- Aq] at AV;have Av:=aa J;have CQ:=aI.symm;have CS:=Aq.symm;have hdiv:Int.tdiv ((p:Int)+d) 64=(((p+d) / 64:Nat):Int):=rfl;have Bi:(p+d) / 64<=40000:=om;clear ah Ao Ap J Af M BP BR aI Aq;go_upto_region 5 with (first|((with_reducible refine pO Av.o ?_ ?_);exact rfl))
   go_wp2_with fail;go_roundg (gk - 1);case rel =>
    refine⟨q+1,om,by go_num,?_,(AU.o.alloc AU.o.size _)⟩;rw [AV.o];go_num
   case measure=>omega
  ·have Am:¬ (q:Int) < ku:=om;obtain rfl:q=ku:=om;have Bj:=aa (show S=Aw k.files by
    have h:=BO.o;rwa [List.take_of_length_le (by rw [Ae.o];exact Nat.le_refl _)] at h);have Eh:=(Ah.o wr AU.o).2.1;rw [<- BL.o] at Eh;clear M iI;go_wp2_with fail;go_loopg [30,3] bW (fun gk Ak Al wr=>∃ q:Nat,q+gk=bW/\Ak = .int .i64 q/\Al = .int .i64 ((S+Ay (k.dA.take q):Nat):Int)/\Bl aH wr);case atStart=>exact⟨0,om,rfl,rfl,AU.o⟩
   case round =>
    obtain⟨eG,CU,rfl,AP,AQ⟩:=hrel;have AX:=aa AQ;obtain⟨BS,I⟩:=ai (Ay (k.dA.take eG));rw [<- I] at AP;subst AP;have CV:BS<=8388608000000:=by rw [I];exact Bb.o eG
    have BU:=aa I;clear AQ I;by_cases M:eG < bW
    ·have Am:(eG:Int) < bW:=om;have Bh:(0:Int)<=eG:=om;obtain⟨x,ah⟩:∃ x,k.dA[eG]?=some x:=⟨_,aQI (by rw [<- BK.o];exact M)⟩;obtain⟨b,o,AB,J⟩:=(Ad.o wr AX.o).2.2.dA.load ah;rw [<- BL.o] at AB;subst AB;have Af:=Be.o x (aQK ah);have AV:=aa (awo ah);obtain⟨L,a⟩:=x;obtain⟨KT,nm,CW,CX,CY,CZ,KU,j6,eY,wN⟩:=L;obtain⟨T,Az⟩:=ai (aA a.tool);have Bn:T.size=a.tool.length:=by rw [Az,iP]
     obtain⟨Ca,h1,Cc,BB,Ce,BC,Cf,BD,n5,BX⟩:=nq5 a.env.length a.ins.length a.asks.length a.outs.length a.tool.length;simp only [<- h1,<- BB,<- BC,<- BD,<- BX] at Af AV Bn;obtain⟨Cg,z2,z3,z4,z5⟩:=Af;unfold nT at J;simp only [<- h1,<- BB,<- BC,<- BD,<- Az] at J;have Av:=aa J;have hdiv:Int.tdiv (n5:Int) 64=((n5 / 64:Nat):Int):=rfl;have Bi:n5 / 64<=16384:=om;clear ah Az J M h1 BB BC BD BX;go_upto_region 10 with (first|((with_reducible refine pO Av.o ?_ ?_);exact rfl))
     go_wp2_with fail;go_roundg (gk - 1);case rel =>
      refine⟨eG+1,om,by go_num,?_,(AX.o.alloc AX.o.size _)⟩;rw [AV.o,<- BU.o];go_num
     case measure=>omega
    ·have Am:¬ (eG:Int) < bW:=om;obtain rfl:eG=bW:=om;have Bp:=aa (show BS=Ay k.dA by
      have h:=BU.o;rwa [List.take_of_length_le (by rw [BK.o];exact Nat.le_refl _)] at h);obtain⟨_,Eh,Cj⟩:=Ah.o wr AX.o;clear M;go_wp2_with fail;all_goals
      go_ret;refine⟨?_,(Ad.o wr AX.o).1⟩;rw [Bg.o,<- Bj.o,<- Bp.o];refine congrArg (fun b=>Ending.returned (Value.bool b)) (Bool.eq_iff_iff.2 ?_);simp;omega
end
section
structure IY (k:jE):Prop extends awl k where
 Vq:∀ x∈k.fP,x.length<=1048576
 Jd:∀ x∈k.dA,(∀ y∈x.2.ins,y.length<=1048576)/\(∀ y∈x.2.asks,y.length<=1048576)/\(∀ y∈x.2.outs,y.length<=1048576)/\∀ y∈x.2.env,y.1.length<=1048576/\y.2.length<=1048576
theorem ane:∀ {l:List (ak × ak)} {x:ak × ak},x∈l->1+(x.1.length+x.2.length) / 64<=Aw l
 | y :: l,x,h=>by
  simp only [Aw,List.map_cons,List.sum_cons];rcases aQN.1 h with rfl | h
  ·omega
  ·have:=ane h;simp only [Aw] at this;omega
theorem awx:∀ {l:List kH} {x:kH},x∈l->x.2.env.length+x.2.ins.length+x.2.asks.length+x.2.outs.length+x.2.tool.length / 64<=Ay l
 | y :: l,x,h=>by
  simp only [Ay,List.map_cons,List.sum_cons];rcases aQN.1 h with rfl | h
  ·omega
  ·have:=awx h;simp only [Ay] at this;omega
theorem ag4:∀ l:List (ak × ak),l.length<=Aw l
 | []=>by simp
 | x :: l=>by
  have:=ag4 l;simp only [Aw,List.map_cons,List.sum_cons,List.length_cons] at this |-;omega
theorem awy:∀ l:List kH,((l.map (·.2)).flatMap (·.outs)).length<=Ay l
 | []=>by simp
 | x :: l=>by
  have:=awy l;simp only [Ay,List.map_cons,List.sum_cons,List.flatMap_cons,List.length_append] at this |-;omega
section
variable {k:jE} (h:IY k) (av:Bw k=false)
theorem ag5 (av:Bw k=false):k.dA.length<=8/\Aw k.files+Ay k.dA<=120/\k.fP.length<=20:=by simp [Bw] at av;omega
theorem IY.fair (h:IY k) (av:Bw k=false) (ah:x∈k.dA):Fair x.2/\Yi x.2:=by obtain⟨_,AA,_⟩:=ag5 av;have AB:=awx ah;obtain⟨I,J,M,Y⟩:=h.Jd x ah;have AP:=(h.yD x ah).2.2.2.2;have hl:∀ n,n<=1048576->n<=1100000:=fun n AQ=>om;exact⟨⟨om,om,om,om,om,fun y hy=>hl _ (I y hy),fun y hy=>hl _ (J y hy),fun y hy=>hl _ (M y hy)⟩,⟨om,om,om,om,om,fun y hy=>hl _ (I y hy),fun y hy=>hl _ (J y hy),fun y hy=>hl _ (M y hy),fun y hy=>⟨hl _ (Y y hy).1,hl _ (Y y hy).2⟩⟩⟩
theorem IY.ok (h:IY k) (av:Bw k=false):Vp k:=by
 obtain⟨h1,I,J⟩:=ag5 av;have M:=ag4 k.files;refine⟨om,fun x ah=>?_,om,fun x ah=>(h.fair av ah).1,om,fun x ah=>?_⟩
 ·have:=ane ah;omega
 ·have:=h.Vq x ah;omega
theorem IY.fit (h:IY k) (av:Bw k=false) (hc:qb k=0):FD k:=by
 obtain⟨h1,AB,AP⟩:=ag5 av;have AQ:=ag4 k.files;have Y:=awy k.dA;have aI:Ff [] k.dA=0:=by
  unfold qb at hc;split at hc
  ·contradiction
  ·split at hc
   ·contradiction
   ·rename_i _ h;simpa using h
 obtain⟨AA,M⟩:=alY aI aRv;have J:∀ a∈k.X,∃ x∈k.dA,x.2=a:=fun a I=>aQO.1 I;refine⟨⟨⟨?_,fun x ah=>?_,fun a I=>?_⟩,fun a I=>?_,?_,fun a I=>?_⟩,h.ok av,fun a I=>⟨rfl,?_,?_⟩,fun x ah=>(h.fair av ah).2⟩
 ·rw [List.length_map];show k.files.length+(k.X.flatMap (·.outs)).length<=150;have:(k.X.flatMap (·.outs)).length<=Ay k.dA:=Y;omega
 ·have:=ane ah;omega
 ·obtain⟨x,ah,rfl⟩:=J a I;exact (h.fair av ah).2.tool
 ·obtain⟨x,ah,rfl⟩:=J a I;exact AA x ah
 ·have:BM k.dA=k.X.flatMap (·.outs):=by rw [BM,jE.X,List.flatMap_map]
  rw [List.nil_append,this] at M;exact M
 ·obtain⟨x,ah,rfl⟩:=J a I;have:=(h.fair av ah).1;exact⟨this.env,this.ins,this.asks,this.outs⟩
 ·obtain⟨x,ah,rfl⟩:=J a I;have:=(h.fair av ah).1.env;show x.2.env.length<=1000000;omega
 ·obtain⟨x,ah,rfl⟩:=J a I;exact (h.fair av ah).2.MB
end
end
section
open Go.ChangeMaps Go.MapKept Go.Maps Go.RowKit Go.WideAt Go.WideMaps
section
variable {α:Type} {enc:α->Value} {w w':aRU} {b n k:Nat} {f:Nat->Option α} {t e:TypeId} (vo:∀ a b,enc a=enc b->a=b)
theorem acC {k:Nat} (hk:k < 1000):keyOf prog 3 (.int .i64 (k:Int))=some (.int .i64 (k:Int)):=Maps.keyOf_int_mk underlying3 (by simp [Lit.wf,IntKind.min,IntKind.max,IntKind.signed,IntKind.bits];omega)
def kz (w:aRU) (enc:α->Value) (b n:Nat) (f:Nat->Option α):Prop:=∃ D:DataW α,w.ownsMap prog 3 (Ol enc) b n D/\∀ k:Nat,k < 1000->has D (.int .i64 (k:Int))=(f k).isSome/\∀ z,D.atKey (.int .i64 (k:Int)) z=match f k with | some a=>.held a | none=>z
theorem kz.made (w:aRU):kz (w.alloc (.map #[] 0)) enc w.heap.size 0 (fun _=>none):=⟨.map [],World.ownsMap_made w _ _ _,fun k _=>⟨by simp [has],fun z=>by simp [DataW.atKey]⟩⟩
theorem kz.lt (h:kz w enc b n f):b < w.heap.size:=by obtain⟨D,h,_⟩:=h;exact World.ownsMap.lt h
theorem kz.keep (h:kz w enc b n f) (ae:w'.heap[b]?=w.heap[b]?):kz w' enc b n f:=by obtain⟨D,⟨es,clock,I,F,hs,J⟩,M⟩:=h;exact⟨D,⟨es,clock,ae.trans I,F,hs,J⟩,M⟩
theorem kz.obj (h:kz w enc b n f):∃ o,w.heap[b]?=some o/\o.isCells=false:=by obtain⟨D,⟨es,clock,I,F,hs,J⟩,M⟩:=h;exact⟨_,I,rfl⟩
theorem kz.look_ok (vo:∀ a b,enc a=enc b->a=b) (h:kz w enc b n f) (hk:k < 1000) (az:prog.underlying t=some (.map 3 e)) (z0:α) (dm:(zeroValue e).run prog w = .ok (enc z0) w) :
  (Instr.lookup t (.map (some b)) (.int .i64 (k:Int)) true).run prog w = .ok (.tuple #[enc ((f k).getD z0),.bool (f k).isSome]) w:=by
 obtain⟨D,h,J⟩:=h;obtain⟨v,ps,M,Y⟩:=World.ownsMap.look_ok h (aRI underlying3) az dm (KG vo z0) (acC hk);rw [(J k hk).1] at M;rw [(J k hk).2] at Y;obtain⟨a,rfl,I⟩:=TR Y;rw [M];cases av:f k with
 | none=>simp only [av,DataW.held.injEq] at I;subst I;rfl
 | some x=>simp only [av,DataW.held.injEq] at I;subst I;rfl
theorem kz.look (vo:∀ a b,enc a=enc b->a=b) (h:kz w enc b n f) (hk:k < 1000) (az:prog.underlying t=some (.map 3 e)) (z0:α) (dm:(zeroValue e).run prog w = .ok (enc z0) w) :
  (Instr.lookup t (.map (some b)) (.int .i64 (k:Int)) false).run prog w = .ok (enc ((f k).getD z0)) w:=by
 obtain⟨D,h,M⟩:=h;obtain⟨v,ps,Y,J⟩:=aRK h (aRI underlying3) az dm (KG vo z0) (acC hk);rw [(M k hk).2] at J;obtain⟨a,rfl,I⟩:=TR J;rw [Y];cases av:f k with
 | none=>simp only [av,DataW.held.injEq] at I;subst I;rfl
 | some x=>simp only [av,DataW.held.injEq] at I;subst I;rfl
theorem kz.update (vo:∀ a b,enc a=enc b->a=b) (h:kz w enc b n f) (hk:k < 1000) (az:prog.underlying t=some (.map 3 e)) (aB:n < maxLen) (a:α) :
  ∃ w',(Instr.mapUpdate t (.map (some b)) (.int .i64 (k:Int)) (enc a)).run prog w = .ok () w'/\kz w' enc b (n+1) (fun j=>if j=k then some a else f j)/\fV b w w':=by
 obtain⟨D,h,I⟩:=h;obtain⟨w',Y,AA,AB⟩:=World.ownsMap.store h (aRI underlying3) az aB (acC hk) (KG vo a);have J:=World.ownsMap.isMap h;have hl:=(aRI underlying3).key (acC hk);refine⟨w',Y,⟨_,AA,fun j aC=>?_⟩,adt AB⟩;by_cases e:j=k
 ·subst e;simp only [↓reduceIte];exact⟨has_put_same J hl _,fun z=>atKey_put_same J hl _ z⟩
 ·have M:(Lit.int .i64 (j:Int))≠Lit.int .i64 (k:Int):=by simp;omega
  simp only [if_neg e];exact⟨(has_put_other M _).trans (I j aC).1,fun z=>(atKey_put_other M _ z).trans ((I j aC).2 z)⟩
theorem acD (vo:∀ a b,enc a=enc b->a=b) {ops:Array Oper} {rest:List Oper} {a:Act} {Q:aRX} {dst:Option Tmp} {ic:TypeId} {m x v:Operand} {pos:String} {after:Array Edge}
  (h:kz w enc b n f) (hk:k < 1000) (az:prog.underlying t=some (.map 3 e)) (aB:n < maxLen) (y:α) (ah:a.eval m = .map (some b)/\a.eval x = .int .i64 (k:Int)/\a.eval v=enc y)
  (aR:∀ w',kz w' enc b (n+1) (fun j=>if j=k then some y else f j)->fV b w w'->wpList prog ops Q rest (a.put dst undef) w') :
  wpList prog ops Q (⟨dst,.mapUpdate t m x v,ic,pos,after,none⟩ :: rest) a w:=by
 refine aQ6 rfl fun Y hK'=>?_;obtain⟨w',I,J,M⟩:=h.update vo hk az aB y;unfold Oper.wp;simp [execOp,ah.1,ah.2.1,ah.2.2,I,Result.andThen];exact hK' _ _ (aR w' J M)
theorem kz.drop (h:kz w enc b n f) (hk:k < 1000) (az:prog.underlying t=some (.map 3 e)) (ty:TypeId) :
  ∃ w',(Builtin.delete_ #[t,3] ty #[.map (some b),.int .i64 (k:Int)]).run prog w = .ok (.tuple #[]) w'/\kz w' enc b n (fun j=>if j=k then none else f j)/\fV b w w':=by
 obtain⟨D,h,I⟩:=h;obtain⟨w',M,Y,AA⟩:=World.ownsMap.drop h (aRI underlying3) az (acC hk) ty;refine⟨w',M,⟨_,Y,fun j aC=>?_⟩,adt AA⟩;by_cases e:j=k
 ·subst e;simp only [↓reduceIte];exact⟨has_del_same,fun z=>atKey_del_same z⟩
 ·have J:(Lit.int .i64 (j:Int))≠Lit.int .i64 (k:Int):=by simp;omega
  simp only [if_neg e];exact⟨(has_del_other J).trans (I j aC).1,fun z=>(atKey_del_other J z).trans ((I j aC).2 z)⟩
end
end
section
open Go.Maps Go.RowKit Go.Shelf
structure pE where
 X:Nat
 pF:Nat
 tY:Nat
 Cq:Nat
 bX:x8
 T:Nat
 B0:Nat
def pE.C (l:pE) (k:Nat):Prop:=k=l.pF\/k=l.tY\/k=l.Cq
structure pE.Ok (l:pE):Prop where
 low:∀ k,l.C k->l.B0<=k/\k < l.T
 base:l.B0<=l.T/\l.X < l.T
 ne:l.pF≠l.tY/\l.pF≠l.Cq/\l.tY≠l.Cq
def FE (l:aRW):Value:=.agg l.toArray
theorem Yz (a b:aRW) (h:FE a=FE b):a=b:=by
 unfold FE at h;injection h with h
 exact List.toArray_inj h
theorem str_inj (a b:ByteArray) (h:Value.string a=Value.string b):a=b:=by injection h
theorem anf (a b:Bool) (h:Value.bool a=Value.bool b):a=b:=by injection h
theorem kz.congr {enc:α->Value} {n:Nat} {f g:Nat->Option α} (h:kz w enc b n f) (e:∀ k,f k=g k):kz w enc b n g:=by rwa [show f=g from funext e] at h
def GU (σ:bE) (n:Nat):Nat:=((List.range n).filter fun i=>(σ.got i).isNone).length
theorem filter_lt {p q:Nat->Bool} (h:∀ i,p i=true->q i=true) (h1:q i=true) (ag:p i=false):∀ l:List Nat,i∈l->(l.filter p).length < (l.filter q).length
 | [],I=>by cases I
 | a :: l,I=>by
  have hs:=agf h l;rw [List.filter_cons,List.filter_cons];by_cases J:a=i
  ·subst J;rw [if_neg (by simp [ag]),if_pos h1];simp only [List.length_cons];omega
  ·have M:=filter_lt h h1 ag l (by simpa [Ne.symm J] using I);by_cases aI:p a=true
   ·rw [if_pos aI,if_pos (h a aI)];simp only [List.length_cons];omega
   ·rw [if_neg aI];split
    ·simp only [List.length_cons];omega
    ·exact M
theorem aKU {n:Nat} (o:iU) (ay:i < n) (av:σ.got i=none):GU (σ.put i o) n < GU σ n:=by
 refine filter_lt (fun j aC=>?_) (i:=i) (by simp [av]) (by simp [bE.put]) _ (aQ3.2 ay);by_cases e:j=i
 ·subst e;simp [av]
 ·simpa [bE.put,e] using aC
structure qY (c:dF) (l:pE) (kw:Nat) (w:aRU) (U:aRZ) (σ:bE) (aF:aR1):Prop where
 row:aM w l.X (qy c.k l.bX c.keep++[.map (some l.pF),.map (some l.tY),.map (some l.Cq)]) 114
 over:∃ (OL:Nat->kI) (n:Nat),n+GU σ c.n<=c.n/\kz w FE l.pF n (fun i=>(σ.got i).map fun o=>jd o (OL i))/\∀ i o,σ.got i=some o->ny w l.T o (OL i)/\∀ q,bM (OL i).A=some q\/bM (OL i).B=some q->aF q
 way:∃ n,n+rJ σ c.n<=c.n/\kz w Value.bool l.tY n (fun i=>if i∈U then some true else none)
 waits:∃ n f,n+GU σ c.n<=c.n+kw/\kz w Value.string l.Cq n f
 work:∀ W:World,(∀ k,k < l.T->¬ l.C k->W.heap[k]?=w.heap[k]?)->wY W c.k l.bX
 home:uW w l.B0
 size:l.T<=w.heap.size
structure tH (l:pE) (w w':aRU):Prop where
 os:w'.os=w.os
 tape:w'.tape=w.tape
 output:w'.output=w.output
 size:w.heap.size<=w'.heap.size
 keep:∀ k,k < w.heap.size->¬ l.C k->w'.heap[k]?=w.heap[k]?
section
variable {c:dF} {l:pE} {kw:Nat} {w w' af:aRU} {U:aRZ} {σ:bE} {aF:aR1}
theorem tH.gN (h:Bl w w'):tH l w w':=⟨h.os,h.tape,h.output,h.size,fun k hk _=>h.block k hk⟩
theorem tH.refl (w:aRU):tH l w w:=⟨rfl,rfl,rfl,aQF _,fun _ _ _=>rfl⟩
theorem tH.trans (h:tH l w w') (k:tH l w' af):tH l w af:=⟨k.os.trans h.os,k.tape.trans h.tape,k.output.trans h.output,aQG h.size k.size,fun j h1 I=>(k.keep j (aQJ h1 h.size) I).trans (h.keep j h1 I)⟩
theorem tH.dG (h:fV g w w') (av:l.C g):tH l w w':=⟨h.1,h.2.1,h.2.2.1,aQ1 h.2.2.2.1.symm,fun k _ I=>h.2.2.2.2 k fun e=>I (e ▸ av)⟩
theorem tH.row (h:tH l w w') {V:aRW} (ax:aM w g V t) (av:¬ l.C g):aM w' g V t:=(h.keep g ax.lt av).trans ax
theorem tH.high (hl:l.Ok) (h:tH l w w') {V:aRW} (ax:aM w g V t) (av:l.T<=g):aM w' g V t:=h.row ax fun e=>by have:=(hl.low g e).2;omega
theorem Own.kJ (hl:l.Ok) (h:tH l w w') {base aO n c2:Nat} {A:aRV} {xs:aRW} (aG:Own w base t aO A n c2 xs) (bY:l.T<=base):Own w' base t aO A n c2 xs:=aG.keep fun b ae h1 I=>h.keep b I fun e=>by have:=(hl.low b e).2;omega
theorem ny.Oc {yX:Obj} (h:fV g w w') (av:w.heap[g]?=some yX) (hc:yX.isCells=false) {B:Nat} {o:iU} {L:kI} (aG:ny w B o L):ny w' B o L:=by
 have key:∀ {aO n c2:Nat} {t:TypeId} {A:aRV} {xs:aRW},Own w B t aO A n c2 xs->Own w' B t aO A n c2 xs:=fun aG=>aG.keep fun b ae _ _=>h.2.2.2.2 b fun e=>by
  obtain⟨_,_,cur,aZ,h1⟩:=aG.block b ae;rw [e,av] at h1;cases h1;cases hc
 exact⟨key aG.outs,key aG.reads⟩
theorem qY.all (h:qY c l kw w U σ aF) (hl:l.Ok) (ae:Bl w w'):qY c l kw w' U σ aF:=by obtain⟨OL,n,h1,I,J⟩:=h.over;obtain⟨AA,AB,M⟩:=h.way;obtain⟨AP,f,AQ,Y⟩:=h.waits;exact⟨h.row.all ae,⟨OL,n,h1,I.keep (ae.block _ I.lt),fun i o e=>⟨(J i o e).1.all ae,(J i o e).2⟩⟩,⟨AA,AB,M.keep (ae.block _ M.lt)⟩,⟨AP,f,AQ,Y.keep (ae.block _ Y.lt)⟩,fun W AU=>h.work W fun k h1 I=>(AU k h1 I).trans (ae.block k (aQJ h1 h.size)),h.home.below (ae.mono (aQG hl.base.1 h.size)),aQG h.size ae.size⟩
theorem qY.cells (h:qY c l kw w U σ aF):w.cell? (ad l.X 0)=some (.slice l.bX.A c.k.files.length l.bX.c)/\w.cell? (ad l.X 1)=some (.slice l.bX.B c.k.dA.length l.bX.d)/\w.cell? (ad l.X 4)=some (.map (some l.pF))/\w.cell? (ad l.X 5)=some (.map (some l.tY))/\w.cell? (ad l.X 6)=some (.map (some l.Cq)):=⟨h.row.cell 0,h.row.cell 1,h.row.cell 4,h.row.cell 5,h.row.cell 6⟩
theorem qY.LY {iO:oh} {P:nY} {ins asks:List ak} {b:dC} (h:qY c l kw w U σ aF) (hl:l.Ok) (ah:iF w iO P ins asks b) (ae:kv iO w w') (bY:l.T<=iO.B) (bZ:∀ q,bM iO.bV=some q->¬ aF q):qY c l kw w' U σ aF:=by obtain⟨OL,n,h1,J,I⟩:=h.over;obtain⟨AP,AQ,AU⟩:=h.way;obtain⟨AV,f,AX,AZ⟩:=h.waits;have Y:∀ k,k < l.T->w'.heap[k]?=w.heap[k]?:=fun k hk=>ae.low k om;have AA:∀ k,l.C k->w'.heap[k]?=w.heap[k]?:=fun k hk=>Y k (hl.low k hk).2;refine⟨(Y _ hl.base.2).trans h.row,⟨OL,n,h1,J.keep (AA _ (.inl rfl)),fun i o e=>⟨⟨Own.LY ah ae (I i o e).1.outs dc dc dc dc,?_⟩,(I i o e).2⟩⟩,⟨AP,AQ,AU.keep (AA _ (.inr (.inl rfl)))⟩,⟨AV,f,AX,AZ.keep (AA _ (.inr (.inr rfl)))⟩,fun W Aa=>h.work W fun k h1 J=>(Aa k h1 J).trans (Y k h1),h.home.below ⟨ae.os,ae.tape,ae.output,ae.size,fun k hk=>ae.low k (by have:=hl.base.1;omega)⟩,aQG h.size ae.size⟩;refine (I i o e).1.reads.keep fun q AB _ _=>?_;obtain⟨_,_,cur,aZ,Ac⟩:=(I i o e).1.reads.block q AB;exact Yu ah ae Ac dc dc dc fun Ad=>bZ q Ad.symm ((I i o e).2 q (.inr AB))
theorem qY.turned (h:qY c l kw w U σ aF) (hl:l.Ok) {yX:Obj} (az:fV g w w') (av:l.C g) (aG:w.heap[g]?=some yX) (aB:yX.isCells=false) {awz:Nat} {awC:aRZ}
  (h1:∃ (OL:Nat->kI) (n:Nat),n+GU σ' c.n<=c.n/\kz w' FE l.pF n (fun i=>(σ'.got i).map fun o=>jd o (OL i))/\∀ i o,σ'.got i=some o->ny w' l.T o (OL i)/\∀ q,bM (OL i).A=some q\/bM (OL i).B=some q->fe q)
  (ag:∃ n,n+rJ σ' c.n<=c.n/\kz w' Value.bool l.tY n (fun i=>if i∈awC then some true else none))
  (au:∃ n f,n+GU σ' c.n<=c.n+awz/\kz w' Value.string l.Cq n f):qY c l awz w' awC σ' fe:=by
 have J:l.X≠g:=fun e=>by
  have:=h.row;rw [aM,e,aG] at this;cases this;cases aB
 exact⟨h.row.dG az J,h1,ag,au,fun W M=>h.work W fun k Y I=>(M k Y I).trans (az.2.2.2.2 k fun e=>I (e ▸ av)),h.home.below ⟨az.1,az.2.1,az.2.2.1,aQ1 az.2.2.2.1.symm,fun k hk=>az.2.2.2.2 k fun e=>by have:=(hl.low g av).1;omega⟩,by rw [az.2.2.2.1];exact h.size⟩
theorem kz.dG {enc:α->Value} {n:Nat} {f:Nat->Option α} (h:kz w enc b n f) (az:fV g w w') (bJ:b≠g):kz w' enc b n f:=h.keep (az.2.2.2.2 b bJ)
theorem qY.cut (h:qY c l kw w U σ aF):qY c l kw w U σ (fun q=>aF q/\q < w.heap.size):=by obtain⟨OL,n,h1,M,I⟩:=h.over;exact⟨h.row,⟨OL,n,h1,M,fun i o e=>⟨(I i o e).1,fun q J=>⟨(I i o e).2 q J,J.elim (fun h=>((I i o e).1.outs.block q h).2.1) fun h=>((I i o e).1.reads.block q h).2.1⟩⟩⟩,h.way,h.waits,h.work,h.home,h.size⟩
theorem qY.amP (h:qY c l kw w U σ aF) (hl:l.Ok) (ay:i < c.n) (ae:σ.begun i=false) {n:Nat} (aB:n+rJ σ c.n<=c.n) (hm:kz w Value.bool l.tY n (fun i=>if i∈U then some true else none)) (yh:kz w' Value.bool l.tY (n+1) (fun j=>if j=i then some true else if j∈U then some true else none)) (az:fV l.tY w w'):qY c l kw w' (i :: U) (σ.push i) aF:=by
 obtain⟨OL,M,h1,Y,I⟩:=h.over;obtain⟨AA,f,AB,AP⟩:=h.waits;obtain⟨AQ,J,hc⟩:=hm.obj;have hu:=abS ay ae;refine h.turned hl az (.inr (.inl rfl)) J hc ⟨OL,M,h1,Y.dG az hl.ne.1,fun i o e=>⟨(I i o e).1.Oc az J hc,(I i o e).2⟩⟩ ⟨n+1,om,yh.congr fun j=>?_⟩ ⟨AA,f,AB,AP.dG az (aQ0 hl.ne.2.2)⟩;by_cases e:j=i
 ·simp [e]
 ·simp [e]
theorem qY.waited (h:qY c l 0 w U σ aF) (hl:l.Ok) {n:Nat} {f QY:Nat->Option ByteArray} (aB:n+GU σ c.n<=c.n) (hm:kz w Value.string l.Cq n f) (yh:kz w' Value.string l.Cq (n+1) QY) (az:fV l.Cq w w'):qY c l 1 w' U σ aF:=by obtain⟨OL,M,h1,Y,I⟩:=h.over;obtain⟨AA,AB,AP⟩:=h.way;obtain⟨AQ,J,hc⟩:=hm.obj;exact h.turned hl az (.inr (.inr rfl)) J hc ⟨OL,M,h1,Y.dG az hl.ne.2.1,fun i o e=>⟨(I i o e).1.Oc az J hc,(I i o e).2⟩⟩ ⟨AA,AB,AP.dG az hl.ne.2.2⟩ ⟨n+1,QY,om,yh⟩
theorem qY.V3 (h:qY c l kw w U σ aF) (hl:l.Ok) (hk:kw<=1) (ay:i < c.n) (av:σ.got i=none) {OL:Nat->kI} {n:Nat} (aB:n+GU σ c.n<=c.n) (hm:kz w FE l.pF n (fun i=>(σ.got i).map fun o=>jd o (OL i))) (au:∀ i o,σ.got i=some o->ny w l.T o (OL i)/\∀ q,bM (OL i).A=some q\/bM (OL i).B=some q->aF q)
  {o:iU} {L:kI} (aG:ny w l.T o L) (yh:kz w' FE l.pF (n+1) (fun j=>if j=i then some (jd o L) else (σ.got j).map fun o=>jd o (OL j))) (az:fV l.pF w w'):qY c l 0 w' U (σ.put i o) (fun q=>aF q\/bM L.A=some q\/bM L.B=some q):=by
 obtain⟨AB,AP,AQ⟩:=h.way;obtain⟨AU,f,AX,AV⟩:=h.waits;obtain⟨AZ,M,hc⟩:=hm.obj;have hu:=aKU o ay av;refine h.turned hl az (.inl rfl) M hc ⟨fun j=>if j=i then L else OL j,n+1,om,yh.congr fun j=>?_,fun j I e=>?_⟩ ⟨AB,AP,AQ.dG az (aQ0 hl.ne.1)⟩ ⟨AU,f,om,AV.dG az (aQ0 hl.ne.2.1)⟩
 ·by_cases e:j=i
  ·simp [e,bE.put]
  ·simp [e,bE.put]
 ·by_cases Y:j=i
  ·subst Y;have J:I=o:=by simpa [bE.put] using e.symm
   subst J;simp only [if_pos];exact⟨aG.Oc az M hc,fun q AA=>.inr AA⟩
  ·simp only [if_neg Y];have J:σ.got j=some I:=by simpa [bE.put,Y] using e
   exact⟨(au j I J).1.Oc az M hc,fun q AA=>.inl ((au j I J).2 q AA)⟩
theorem qY.gone {us:aRZ} (h:qY c l kw w (i :: us) σ aF) (hl:l.Ok) (ay:i ∉ us) {n:Nat} (aB:n+rJ σ c.n<=c.n) (hm:kz w Value.bool l.tY n (fun j=>if j∈i :: us then some true else none)) (yh:kz w' Value.bool l.tY n (fun j=>if j=i then none else if j∈i :: us then some true else none)) (az:fV l.tY w w'):qY c l kw w' us σ aF:=by
 obtain⟨OL,M,h1,Y,I⟩:=h.over;obtain⟨AA,f,AB,AP⟩:=h.waits;obtain⟨AQ,J,hc⟩:=hm.obj;refine h.turned hl az (.inr (.inl rfl)) J hc ⟨OL,M,h1,Y.dG az hl.ne.1,fun i o e=>⟨(I i o e).1.Oc az J hc,(I i o e).2⟩⟩ ⟨n,aB,yh.congr fun j=>?_⟩ ⟨AA,f,AB,AP.dG az (aQ0 hl.ne.2.2)⟩;by_cases e:j=i
 ·subst e;simp [ay]
 ·simp [e]
end
structure yF (c:dF) (l:pE) (w:aRU) (U:aRZ) (σ:bE) (aF:aR1):Prop where
 at_:qY c l 0 w U σ aF
 inv:wu c.W c.dN c.kZ U σ
structure yG (c:dF) (l:pE) (w:aRU) (U:aRZ) (σ:bE) (aF:aR1) (w':aRU) (σ':bE) (fe:aR1):Prop where
 st:yF c l w' U σ' fe
 kJ:tH l w w'
 begun:∀ i,σ.begun i=true->σ'.begun i=true
 got:∀ i,σ.got i≠none->σ'.got i=σ.got i
 vS:∀ q,fe q->aF q\/w.heap.size<=q
def ag6 (c:dF) (l:pE) (m:Nat):Prop:=∀ (w:aRU) (U:aRZ) (σ:bE) (aF:aR1) (p:ak),yF c l w U σ aF->rJ σ c.n<=m->p.length<=1100000 ->
 (∀ j,c.W.jK p=some j->yT c.W c.dN j/\(∀ x∈U,xS c.W x j)/\(j∈U->fD c.W p = .stuck)) ->
 CR 38 #[pp l.X 0,.string (aA p)] w (.tuple #[.agg (iA (oW (fD c.W p) p).2).toArray,.int .i64 (oW (fD c.W p) p).1]) fun w'=>∃ σ' fe,yG c l w U σ aF w' σ' fe/\∀ j,c.W.jK p=some j->σ'.begun j=true
end
section
open Go.Maps Go.RowKit Go.Shelf
theorem yG.refl {l:pE} (h:yF c l w U σ aF):yG c l w U σ aF w σ aF:=⟨h,tH.refl _,fun _ h=>h,fun _ _=>rfl,fun _ h=>.inl h⟩
theorem yF.all {l:pE} (h:yF c l w U σ aF) (hl:l.Ok) (ae:Bl w w'):yF c l w' U σ aF:=⟨h.at_.all hl ae,h.inv⟩
theorem yG.high {l:pE} (hl:l.Ok) (h:yG c l w U σ aF af σ' fe) (ae:Bl af w'):yG c l w U σ aF w' σ' fe:=⟨h.st.all hl ae,h.kJ.trans (.gN ae),h.begun,h.got,h.vS⟩
theorem yG.low {l:pE} (h:yG c l af U σ aF w' σ' fe) (ae:Bl w af):yG c l w U σ aF w' σ' fe:=⟨h.st,(tH.gN ae).trans h.kJ,h.begun,h.got,fun q I=>(h.vS q I).imp_right fun h=>aQG ae.size h⟩
theorem qY.own {l:pE} {kw:Nat} (h:qY c l kw w U σ aF) (hl:l.Ok) (ax:aM w g Z ty) (az:fV g w w') (av:l.T<=g) (h1:ty ≠ 65) (ag:ty ≠ 135):qY c l kw w' U σ aF:=by obtain⟨OL,n,Y,AA,J⟩:=h.over;obtain⟨AB,AP,AQ⟩:=h.way;obtain⟨AU,f,AV,AX⟩:=h.waits;have I:∀ k,k < l.T->w'.heap[k]?=w.heap[k]?:=fun k hk=>az.2.2.2.2 k om;exact⟨(I _ hl.base.2).trans h.row,⟨OL,n,Y,AA.keep (I _ (hl.low _ (.inl rfl)).2),fun i o e=>⟨⟨gX (J i o e).1.outs ax (aQ0 h1) az,gX (J i o e).1.reads ax (aQ0 ag) az⟩,(J i o e).2⟩⟩,⟨AB,AP,AQ.keep (I _ (hl.low _ (.inr (.inl rfl))).2)⟩,⟨AU,f,AV,AX.keep (I _ (hl.low _ (.inr (.inr rfl))).2)⟩,fun W AZ=>h.work W fun k M Aa=>(AZ k M Aa).trans (I k M),h.home.below ⟨az.1,az.2.1,az.2.2.1,aQ1 az.2.2.2.1.symm,fun k hk=>I k (by have:=hl.base.1;omega)⟩,by rw [az.2.2.2.1];exact h.size⟩
theorem yG.own {l:pE} (hl:l.Ok) (bY:l.T<=w.heap.size) (h:yG c l w U σ aF af σ' fe) (ax:aM af g Z ty) (az:fV g af w') (av:w.heap.size<=g) (h1:ty ≠ 65) (ag:ty ≠ 135):yG c l w U σ aF w' σ' fe :=
 ⟨⟨h.st.at_.own hl ax az (aQG bY av) h1 ag,h.st.inv⟩,⟨az.1.trans h.kJ.os,az.2.1.trans h.kJ.tape,az.2.2.1.trans h.kJ.output,by rw [az.2.2.2.1];exact h.kJ.size,fun k I J=>(az.2.2.2.2 k om).trans (h.kJ.keep k I J)⟩,h.begun,h.got,h.vS⟩
def YA (c:dF) (l:pE) (w:aRU) (U:aRZ) (σ:bE) (aF:aR1) (i:Nat) (e:Ending) (w':aRU):Prop :=
 ∃ L σ' fe,e = .returned (.agg (jd (bG c.W i) L).toArray)/\ny w' l.T (bG c.W i) L/\yG c l w U σ aF w' σ' fe/\σ'.begun i=true
theorem aKV (hc:c.Fit) {l:pE} (hl:l.Ok) (hs:yF c l w U σ aF) (hm:c.W.jK p=none) :
  Calls prog 38 #[pp l.X 0,.string (aA p)] w fun e w'=>e = .returned (.tuple #[.agg (iA (Fs c.k.files p)).toArray,.int .i64 1])/\yG c l w U σ aF w' σ aF:=by
 obtain⟨aH,I⟩:=ai (w.alloc (.cells l9.toArray 80));have AQ:=gQ I;have Ah:=kY I;obtain⟨X,AU,P,J,yD,Ak,gm,AV,gV,AX,ku,AZ⟩:=nq6 l.X (aA p) (Value.slice l.bX.B c.k.dA.length l.bX.d) l.bX.A l.bX.c c.k.files.length;obtain⟨Y,Aa⟩:=ai ((fileAt c.k.files p).isSome);obtain⟨AA,Ac⟩:=ai (aA (((fileAt c.k.files p).map (·.2)).getD []));obtain⟨bI,Ad⟩:=ai (iA (Fs c.k.files p));have M:bI=[.string P,.bool Y,.string AA]:=by rw [Ad,J,Aa,Ac,Fs];cases fileAt c.k.files p <;> rfl
 have AB:=aa (fun W (ae:Bl aH W)=>show W.cell? (ad X 1)=some yD/\W.cell? (ad X 0)=some (.slice gm ku gV)/\W.cell? (ad X 5)=some (.map (some l.tY))/\Calls prog 44 #[yD,.string P] W (fun e w'=>e = .returned (.tuple #[.int .i64 0,.bool false])/\Bl W w')/\CB 45 #[.slice gm ku gV,.string P] W (.tuple #[.string AA,.bool Y]) from by
  have AP:=hs.at_.all hl (aU AQ ae);have Al:=AP.work W (fun _ _ _=>rfl);have h1:=Xm W l.bX.B l.bX.d c.k.dA Al.dA (by have:=hc.kE.nZ;omega) (fun x ah=>by have:=(hc.kE.fair x ah).outs;omega) p;rw [show Pd c.k.dA p = -1 by rw [Yl,hm]] at h1;have Am:=ajG W l.bX.A l.bX.c c.k.files hc.kE.ku Al.files p;rw [<- Aa,<- Ac,<- J,<- AV,<- AX,<- AZ] at Am;rw [AU,Ak];exact⟨AP.cells.2.1,by rw [AV,AX,AZ];exact AP.cells.1,AP.cells.2.2.2.1,by rw [J];exact h1,Am⟩);obtain⟨BL,_⟩:=AB.o aH (Below.refl _ _);obtain⟨Av,Ao,Az⟩:=hq3 Ah AQ hs;have BB:=aa hs.at_.size;have Ap:Sz 80 bI.length:=by rw [M];exact JE
 have BC:bI.length=l9.length:=by rw [M];rfl
 have BD:∀ v∈bI,v.oneCell'=true:=by rw [M];simp [Value.oneCell']
 have BF:=aa (show prog.built 80 [(0,.string P),(1,.bool Y),(2,.string AA)]=some bI.toArray by rw [M];exact agV _ _ _);rw [<- AU,<- J,<- Ad];rw [show l9.toArray=#[.string ⟨#[]⟩,.bool false,.string ⟨#[]⟩] from rfl] at I;have BN:=I.symm;clear I AU J Aa Ac Ad M Ak AV AX AZ AQ Ah hs;go_enter func38,ntmps38;go_wp2_with (first|(go_at_call 44; refine (AB.o aH (Below.refl _ _)).2.2.2.1.mono ?_;rintro e af ⟨rfl,Ae⟩;have Af:=aa Ae;have BO:=(AB.o af Ae).2.1;clear Ae)|(go_at_call 45; refine (AB.o af Af.o).2.2.2.2.mono ?_;rintro e aD ⟨rfl,Ag⟩;have Aq:=aa ((Av.o.all Af.o).all Ag);have BG:=aa (Ao.o.trans ((aU Af.o Ag).mono Ao.o.size));clear Ag)|((with_reducible refine Rl (.string P) (.bool Y) (.string AA) _ BF.o ?_ ?_);exact⟨rfl,rfl,rfl⟩)|((with_reducible refine vF bI Aq.o Ap BC BD ?_);intro BP BH BK));refine Eg BH.o underlying80 rfl Ap ⟨rfl,rfl,rfl⟩ ?_;exact⟨rfl,((yG.refl Az.o).high hl BG.o).own hl BB.o Aq.o BK.o (aQF _) dc dc⟩
theorem aKW (hc:c.Fit) {l:pE} (hl:l.Ok) (hs:yF c l w U σ aF) (hm:c.W.jK p=some j) (aC:j∈U) :
  Calls prog 38 #[pp l.X 0,.string (aA p)] w fun e w'=>e = .returned (.tuple #[.agg (iA ⟨p,false,[]⟩).toArray,.int .i64 3])/\yG c l w U σ aF w' σ aF:=by
 obtain⟨aH,J⟩:=ai (w.alloc (.cells l9.toArray 80));have Y:=gQ J;have AV:=kY J;obtain⟨X,AQ,P,AA,yD,AX,gm,AZ,gV,Aa,ku,Ac⟩:=nq6 l.X (aA p) (Value.slice l.bX.B c.k.dA.length l.bX.d) l.bX.A l.bX.c c.k.files.length;obtain⟨bI,AU⟩:=ai (iA (⟨p,false,[]⟩:dB));have M:bI=[.string P,.bool false,.string ⟨#[]⟩]:=by rw [AU,AA];rfl
 have Af:j < 1000:=by have:=Ke c hm;have:c.n<=10:=hc.kE.nZ;omega
 have AB:=aa (fun W (ae:Bl aH W)=>show W.cell? (ad X 1)=some yD/\W.cell? (ad X 0)=some (.slice gm ku gV)/\W.cell? (ad X 5)=some (.map (some l.tY))/\Calls prog 44 #[yD,.string P] W (fun e w'=>e = .returned (.tuple #[.int .i64 j,.bool true])/\Bl W w') from by
  have AP:=hs.at_.all hl (aU Y ae);have Ag:=AP.work W (fun _ _ _=>rfl);have h1:=Xm W l.bX.B l.bX.d c.k.dA Ag.dA (by have:=hc.kE.nZ;omega) (fun x ah=>by have:=(hc.kE.fair x ah).outs;omega) p;rw [show Pd c.k.dA p=(j:Int) by rw [Yl,hm]] at h1;rw [show max (j:Int) 0=j by omega,show decide (0<=(j:Int))=true from decide_eq_true om] at h1;rw [AX,AA,AZ,Aa,Ac,AQ];exact⟨AP.cells.2.1,AP.cells.1,AP.cells.2.2.2.1,h1⟩);obtain⟨BF,_⟩:=AB.o aH (Below.refl _ _);have Ah:=aa (fun W (ae:Bl aH W)=>show (Instr.lookup 111 (.map (some l.tY)) (.int .i64 (j:Int)) false).run prog W = .ok (.bool true) W from by
  obtain⟨n,_,Ak⟩:=(hs.at_.all hl (aU Y ae)).way;have:=Ak.look anf Af underlying111 false kr;rw [if_pos aC] at this;exact this);obtain⟨Al,Am,Ao⟩:=hq3 AV Y hs;have Ap:=aa hs.at_.size;have Ad:Sz 80 bI.length:=by rw [M];exact JE
 have Aq:bI.length=l9.length:=by rw [M];rfl
 have Av:∀ v∈bI,v.oneCell'=true:=by rw [M];simp [Value.oneCell']
 have Az:=aa (show prog.built 80 [(0,.string P)]=some bI.toArray by rw [M];exact amY _);rw [<- AQ,<- AA,<- AU];rw [show l9.toArray=#[.string ⟨#[]⟩,.bool false,.string ⟨#[]⟩] from rfl] at J;have BG:=J.symm;clear J AQ AA AU M AX AZ Aa Ac Y AV hs;go_enter func38,ntmps38;go_wp2_with (first|(go_at_call 44; refine (AB.o aH (Below.refl _ _)).2.2.2.mono ?_;rintro e af ⟨rfl,I⟩;have BB:=aa I;have Ae:=aa (Al.o.all I);have BH:=(AB.o af I).2.1;have BK:=(AB.o af I).2.2.1;have BL:=Ah.o af I;clear I)|((with_reducible refine ajm (.string P) _ Az.o ?_ ?_);exact rfl)|((with_reducible refine vF bI Ae.o Ad Aq Av ?_);intro BN BC BD));refine Eg BC.o underlying80 rfl Ad ⟨rfl,rfl,rfl⟩ ?_;exact⟨rfl,((yG.refl Ao.o).high hl (aU Am.o BB.o)).own hl Ap.o Ae.o BD.o (aQF _) dc dc⟩
theorem aKX (hc:c.Fit) {l:pE} (hl:l.Ok) (hs:yF c l w U σ aF) (hm:c.W.jK p=some j) (aC:j ∉ U)
  (Bj:∀ af,yF c l af U σ aF->Calls prog 60 #[pp l.X 0,.int .i64 j] af (YA c l af U σ aF j)) :
  CR 38 #[pp l.X 0,.string (aA p)] w (.tuple #[.agg (iA (oW (fD c.W p) p).2).toArray,.int .i64 (oW (fD c.W p) p).1]) fun w'=>∃ σ' fe,yG c l w U σ aF w' σ' fe/\σ'.begun j=true:=by
 obtain⟨aH,AU⟩:=ai (w.alloc (.cells l9.toArray 80));have AV:=gQ AU;have BU:=kY AU;obtain⟨X,Af,P,AB,yD,BX,gm,BZ,gV,Bb,ku,Bc⟩:=nq6 l.X (aA p) (Value.slice l.bX.B c.k.dA.length l.bX.d) l.bX.A l.bX.c c.k.files.length;have Ca:j < 1000:=by have:=Ke c hm;have:c.n<=10:=hc.kE.nZ;omega
 have bY:=hs.at_.size;have Ag:=aa (fun W (ae:Bl aH W)=>show W.cell? (ad X 1)=some yD/\W.cell? (ad X 0)=some (.slice gm ku gV)/\W.cell? (ad X 5)=some (.map (some l.tY))/\Calls prog 44 #[yD,.string P] W (fun e w'=>e = .returned (.tuple #[.int .i64 j,.bool true])/\Bl W w') from by
  have Ah:=hs.at_.all hl (aU AV ae);have Cc:=Ah.work W (fun _ _ _=>rfl);have h1:=Xm W l.bX.B l.bX.d c.k.dA Cc.dA (by have:=hc.kE.nZ;omega) (fun x ah=>by have:=(hc.kE.fair x ah).outs;omega) p;rw [show Pd c.k.dA p=(j:Int) by rw [Yl,hm]] at h1;rw [show max (j:Int) 0=j by omega,show decide (0<=(j:Int))=true from decide_eq_true om] at h1;rw [BX,AB,BZ,Bb,Bc,Af];exact⟨Ah.cells.2.1,Ah.cells.1,Ah.cells.2.2.2.1,h1⟩);obtain⟨E9,_⟩:=Ag.o aH (Below.refl _ _);have Ce:=aa (fun W (ae:Bl aH W)=>show (Instr.lookup 111 (.map (some l.tY)) (.int .i64 (j:Int)) false).run prog W = .ok (.bool false) W from by
  obtain⟨n,_,Cf⟩:=(hs.at_.all hl (aU AV ae)).way;have:=Cf.look anf Ca underlying111 false kr;rw [if_neg aC] at this;exact this);have Be:=aa (fun af (ae:Bl aH af)=>show Calls prog 60 #[pp X 0,.int .i64 j] af (fun e aD=>∃ L σ' fe,e = .returned (.agg (jd (bG c.W j) L).toArray)/\ny aD l.T (bG c.W j) L/\yG c l w U σ aF aD σ' fe/\σ'.begun j=true/\aM aD w.heap.size l9 80) from by
  rw [Af];refine (Bj af (hs.all hl (aU AV ae))).mono ?_;rintro e aD ⟨L,σ',fe,Cg,Bf,Bg,Cj⟩;exact⟨L,σ',fe,Cg,Bf,Bg.low (aU AV ae),Cj,Bg.kJ.high hl (BU.all ae) bY⟩);obtain⟨o,AP⟩:=ai (bG c.W j);have Bh:=av2 hc hm (.inl AP);have Bi:o.outs.length<=1000:=by
  have:=SB hc.work (i:=j) (by have:=Ke c hm;simpa [dF.X,dF.n] using this);have hw:c.W=nR c.k.files c.X:=rfl;rw [AP,hw];omega
 obtain⟨J,BC⟩:∃ k:Int,k=o.kind:=⟨_,rfl⟩;rw [<- AP] at Be;rw [Bh];show Calls _ _ _ _ fun e w'=>e = .returned (.tuple #[.agg (iA (o.at_ p)).toArray,.int .i64 o.kind])/\_;rw [<- BC];have Bn:J≠1->o.at_ p=⟨p,false,[]⟩:=fun h=>by
  rcases VG hc.work.small j with k | ⟨_,k⟩
  ·have Ak:(bG c.W j).kind=1:=k;rw [<- AP] at Ak;omega
  ·have Ak:(bG c.W j).outs=[]:=k;rw [<- AP] at Ak;unfold iU.at_;rw [Ak];rfl
 obtain⟨bI,Al,AX,BD⟩:=nq2 (iA (o.at_ p)) ((fileAt o.outs p).isSome);obtain⟨AZ,BF⟩:=ai (aA (((fileAt o.outs p).map (·.2)).getD []));have AQ:bI=[.string P,.bool AX,.string AZ]:=by rw [Al,AB,BD,BF,show o.at_ p=Fs o.outs p from rfl,Fs];cases fileAt o.outs p <;> rfl
 have Bp:J≠1->bI=[.string P,.bool false,.string ⟨#[]⟩]:=fun h=>by rw [Al,Bn h,AB];rfl
 have Bq:Sz 80 bI.length:=by rw [AQ];exact JE
 have Br:bI.length=l9.length:=by rw [AQ];rfl
 have Bt:∀ v∈bI,v.oneCell'=true:=by rw [AQ];simp [Value.oneCell']
 have Am:=aa Bq;have C8:=aa Bt;have Ck:=aa (show 0+bI.length<=l9.length by rw [Br];omega);have Cm:=aa (show l9.take 0++bI++l9.drop (0+bI.length)=bI by rw [AQ];rfl);have Co:=aa (fun (W:aRU) (L:kI) (h:ny W l.T o L)=>show CB 45 #[.slice L.A o.outs.length L.c,.string P] W (.tuple #[.string AZ,.bool AX]) from by
  rw [AB,BF,BD];exact ajG W L.A L.c o.outs Bi h.outs.rd p);have BG:=aa (show prog.built 80 [(0,.string P),(1,.bool AX),(2,.string AZ)]=some bI.toArray by rw [AQ];exact agV _ _ _);have Cr:=aa (fun (h:J≠1)=>show prog.built 80 [(0,.string P)]=some bI.toArray by rw [Bp h];exact amY _);have Ct:=aa bY;have Cu:=aa BC;obtain⟨g0,CF⟩:=ai w.heap.size;have Ao:=aa CF;rw [<- Af,<- AB,<- Al];rw [show l9.toArray=#[.string ⟨#[]⟩,.bool false,.string ⟨#[]⟩] from rfl] at AU;have EA:=AU.symm;clear AU Af AB Al AQ Bp BX BZ Bb Bc AV BU hs Bj bY CF AP BC Bh Bn BD BF Bq Bt Bi;go_enter func38,ntmps38;go_upto_region 7 with (first|(go_at_call 44; refine (Ag.o aH (Below.refl _ _)).2.2.2.mono ?_;rintro e af ⟨rfl,Aa⟩;have Cv:=aa Aa;have D8:=(Ag.o af Aa).2.1;have DF:=(Ag.o af Aa).2.2.1;have DI:=Ce.o af Aa;clear Aa)|(go_at_call 60; refine (Be.o af Cv.o).mono ?_;rintro e aD ⟨L,DJ,DN,rfl,CG,CJ,CK,BH⟩;obtain⟨cz,Ac⟩:=ai (jd o L);have CL:=aa Ac;rw [<- Ac];obtain⟨DR,DT,DU⟩:=hq3 CG CJ CK;rw [<- Ao.o] at BH;have Ap:=aa BH;have BK:cz.length=4:=(by rw [Ac];rfl);have CQ:Sz 63 cz.length:=(by rw [BK];exact kr);have CS:∀ v∈cz,v.oneCell'=true:=(by rw [Ac];simp [jd,Value.oneCell']);clear Ac CG CJ CK BH D8 DF DI)|((with_reducible refine qR cz BK CQ CS ?_);intro I Ad BL;obtain⟨g5,Aq⟩:=ai aD.heap.size;rw [<- Aq] at BL;have Db:=aa Aq;obtain⟨nl,BN,CU,BO,lc,BP⟩:=nq3 o.outs.length L.A L.c;have Bf:I.cell? (ad g5 2)=some (.slice CU nl lc):=(by rw [BL.o.cell 2,CL.o,BN,BO,BP];rfl);have CV:I.cell? (ad g5 0)=some (.int .i64 J):=(by rw [BL.o.cell 0,CL.o,Cu.o];rfl);have Dc:=aa CV;have De:=aa (show Calls prog 45 #[.slice CU nl lc,.string P] I fun e w'=>e = .returned (.tuple #[.string AZ,.bool AX])/\Bl I w' by rw [BO,BN,BP];exact Co.o I L (DR.o.all Ad.o));rw [<- Aq];clear Aq BN BO BP))
 have CW:=aa (fun (bn AA:aRU) (ae:Bl I bn) (ax:aM AA g0 bI 80) (Dg:fV g0 bn AA)=>show ∃ σ' fe,yG c l w U σ aF AA σ' fe/\σ'.begun j=true from
  ⟨DJ,DN,(DT.o.high hl (aU Ad.o ae)).own hl Ct.o ((Ap.o.all Ad.o).all ae) Dg (by rw [Ao.o];exact aQF _) dc dc,DU.o⟩);clear BK CQ CS;by_cases hk:J=1
 ·have Dh:decide (J=1)=true:=decide_eq_true hk;have Di:(J != 1)=false:=by rw [hk];rfl
  have Dj:=aa hk;clear hk;try rw [<- Ao.o]
  go_wp2_with (first|(go_at_call 45; refine De.o.mono ?_;rintro e bn ⟨rfl,BR⟩;have Dk:=aa ((Ap.o.all Ad.o).all BR);have Dp:=aa BR;clear BR)|((with_reducible refine Rl (.string P) (.bool AX) (.string AZ) _ BG.o ?_ ?_);exact⟨rfl,rfl,rfl⟩)|((with_reducible refine vF bI Dk.o Am.o Br C8.o ?_);intro AA Ae BS));refine Eg Ae.o underlying80 rfl Am.o ⟨rfl,rfl,rfl⟩ ?_;exact⟨by rw [Dj.o];rfl,CW.o bn AA Dp.o Ae.o BS.o⟩
 ·have Dh:decide (J=1)=false:=aRo hk;have Di:(J != 1)=true:=by simpa using hk
  have BG:=aa (Cr.o hk);have Dq:=aa (show g5≠g0 from fun e=>by have:=Ap.o.lt;have:=Db.o;omega);have Dr:=aa (fun (u:Nat->Value)=>Et.start (g:=g0) (W:=I) (V:=bI) (ty:=80) (si:=4) (u:=u));have Dt:=aa (show aM I.drew g0 l9 80 from (Ap.o.all Ad.o).all (Below.refl _ I).drew);clear hk;go_upto_region 8 with fail
  try rw [<- Ao.o]
  refine TL 5 (iX [some (.string P),some (.agg bI.toArray),some (pp g5 0),some (.int .i64 J),none] (fun _ _ _=>True)) (Et g0 I bI 80 4) (fun _ _=>True) Dr.o (fun j v w1 af ae Du=>iX.keep (fun _=>trivial) Du) ?_ (jI:=?_)
  rotate_left
  ·repeat' (first | exact trivial | apply And.intro)
   all_goals intro eQ u2 af EC Y CX EF Av Az K BB
   all_goals simp [iX,Region.binds] at Az
   all_goals first | simp [Region.wanted,yielded,Av,Az] | simp [Region.wanted,yielded] | skip
   all_goals have CV:=Y.cell Dc.o Dq.o
   all_goals try (first | exact BB _ _ rfl (Y.plain dc) (trivial) | (go_simp;exact BB _ _ rfl (Y.plain dc) (trivial)))
   ·refine amX (.string P) bI.toArray BG.o rfl (by simp [Act.eval,Av,Az]) ?_;exact BB _ _ rfl (Y.plain dc) trivial
   ·have CY:=Dt.o;rw [<- Y.1 CX] at CY;refine wp_store_row g0 0 (.agg bI.toArray) bI l9 bI _ CY (qK _) Am.o Ck.o C8.o Cm.o rfl ⟨by simp [Act.eval,Av],by simp [Act.eval,Av,Az]⟩ ?_;intro cO Dv Dw;exact BB _ _ trivial (Y.stored CX Dv Dw) trivial
  ·intro u6 AA Y CZ;have Dz:u6 3 = .int .i64 J:=CZ.at 3 dc dc;obtain⟨E5,E8⟩:=Y.2 rfl;clear CZ;simp only [Dz];have Ae:=aa E5;have BS:=aa E8;go_wp2_with fail;refine Eg Ae.o underlying80 rfl Am.o ⟨rfl,rfl,rfl⟩ ?_;exact⟨rfl,CW.o I.drew AA (Below.refl _ I).drew Ae.o BS.o⟩
end
section
open Go.RowKit Go.Shelf
theorem aK1 (h:aM w g [v] t):Rd w 1 (some ⟨g,0,none⟩) 1 [v]:=⟨rfl,fun _=>⟨g,0,rfl,fun j u hu=>by rw [Nat.zero_add,h.cell j,hu]⟩⟩
theorem aK2 (p:ByteArray):prog.built 135 [(0,.string p)]=some (Value.string p :: Value.bool false :: l6 A7).toArray:=kr
theorem aK3 (p:ByteArray) (S:aR0):prog.built 135 [(0,.string p),(1,.bool true),(2,.agg (l6 S).toArray)]=some (Value.string p :: Value.bool true :: l6 S).toArray:=kr
theorem aK4 (p:ByteArray) (S:aR0) (h:S.length=32):prog.built 135 [(0,.string p),(1,.bool true),(2,.agg (bQ S).toArray)]=some (Value.string p :: Value.bool true :: bQ S).toArray:=by rw [<- HZ h];exact aK3 p S
theorem aK5 (w:aRU) (k:dB) (hs:k.data.length<=1000000000) :
  CB 96 #[.agg (iA k).toArray] w (.agg (iq (gJ k)).toArray):=by
 obtain⟨J,AP,I,AQ,nU,AU⟩:=nq3 (aA k.path) (aA k.data) k.is;have Ae:Value.agg (iA k).toArray = .agg #[.string J,.bool nU,.string I]:=by rw [AP,AQ,AU];rfl
 obtain⟨aH,Y⟩:=ai (w.alloc (.cells #[.string J,.bool nU,.string I] 80));obtain⟨aY,AA⟩:=ai (aH.alloc (.cells xB.toArray 135));have Af:=gQ Y;have Ag:aH.heap.size=w.heap.size+1:=by rw [Y];simp
 have Aa:=gQ AA;have AV:aM aY w.heap.size [.string J,.bool nU,.string I] 80:=by refine aM.all ?_ Aa;rw [Y];exact aM.new w _ _
 have Ah:=kY AA;rw [Ae];rw [aq5] at AA;have Ap:=aa (aU Af Aa);obtain⟨Aq,AX,Av⟩:=hq3 Ah AV Ag;have Az:=Y.symm;have BB:=AA.symm;have AZ:=Xe (gJ k);have Ak:=FZ (gJ k);obtain⟨jY,AB⟩:=ai (iq (gJ k));have hlen:jY.length=34:=by rw [AB];exact zW _
 rw [<- AB] at AZ Ak |-;have BC:jY.length=xB.length:=by rw [hlen];rfl
 have BO:=AV.cell 1;have BP:=AV.cell 0;obtain⟨g1,Ac,g2,BD⟩:=nq2 w.heap.size aH.heap.size;cases nU with
 | false =>
  have Al:=aa (show prog.built 135 [(0,.string J)]=some jY.toArray by rw [AB,ajp AU.symm,AP];exact aK2 _);clear Y AA Af Ag Aa AV Ah AP AQ AU Ae AB hs Ac BD;go_enter func96,ntmps96;go_wp2_with (first|((with_reducible refine ajm (.string J) _ Al.o ?_ ?_);exact rfl)|((with_reducible refine vF jY Aq.o AZ BC Ak ?_);intro BG Am Ao));exact D5 Am.o underlying135 rfl AZ ⟨rfl,rfl,rfl⟩ ⟨rfl,oO Ap.o Ao.o (by have:=Av.o;omega)⟩
 | true =>
  obtain⟨S,Ad⟩:=ai (bP.sum k.data);have BH:=aa (fun (W:aRU) (g:Nat) (ax:aM W g [.string I] 9)=>show CB 33 #[.slice (some ⟨g,0,none⟩) 1 1] W (.agg (bQ S).toArray) from by
   have:=Xb W g I (by rw [AQ,iP];exact hs) (aK1 ax);rw [show I.data.toList=k.data by rw [AQ,gZ],<- Ad] at this;exact this);have Al:=aa (show prog.built 135 [(0,.string J),(1,.bool true),(2,.agg (bQ S).toArray)]=some jY.toArray by rw [AB,ajo AU.symm,AP,<- Ad];exact aK4 _ _ (by rw [Ad];exact yK _));rw [<- Ac] at AX;clear Y AA Af Ag Aa AV Ah AP AQ AU Ae AB hs Ad BD;go_enter func96,ntmps96;go_upto_region 3 with fail
  try rw [Az]
  try rw [BB]
  try rw [<- Ac]
  clear Az BB Ac;have kR:=aa fun af (aj:Bl aY af)=>And.intro ((AX.o.all aj).cell 0) ((AX.o.all aj).cell 2);refine nz nH 7 [some (pp g1 0),some (.string J),some (pp g1 2),some (.string I),none,some (.agg (bQ S).toArray),some (.agg jY.toArray)] (fun j v af=>j=4->∃ g,v = .slice (some ⟨g,0,none⟩) 1 1/\aM af g [.string I] 9) (Bl aY) Bl ((Below.refl _ aY).drew) (fun j v w1 af ae=>fun h e=>(h e).imp fun g h=>⟨h.1,h.2.all ae⟩) ?_ (jI:=?_)
  ·intro u3 aD aj BK;clear BK;have BL:=aa aj;have BN:=aa (Aq.o.all aj);clear aj;go_wp2_with (first|((with_reducible refine vF jY BN.o AZ BC Ak ?_);intro BG Am Ao));exact D5 Am.o underlying135 rfl AZ ⟨rfl,rfl,rfl⟩ ⟨rfl,oO (aU Ap.o BL.o) Ao.o (by have:=Av.o;omega)⟩
  ·repeat' (first | exact trivial | apply And.intro)
   all_goals try exact rx
   all_goals intro eQ u af aj aL bz K aR
   all_goals try simp [iX,Region.binds] at bz
   all_goals refine mg rfl ?_
   all_goals have BR:=(AX.o.all aj).cell 0
   all_goals have BS:=(AX.o.all aj).cell 2
   ·refine Nv Aj (.string I) rfl rfl (by simp [Act.eval,aL,bz]) ?_;exact aR _ _ (fun _=>⟨_,rfl,aM.new af [.string I] _⟩) (aj.alloc aj.size _) iD
   ·have ah:=bz;obtain⟨g,BU,ax⟩:=ah;go_simp;refine (BH.o af g ax).mono ?_;rintro e aD ⟨rfl,BF⟩;exact aR _ _ rfl (aU aj BF) BF
   ·refine afQ (.string J) (.bool true) (.agg (bQ S).toArray) jY.toArray Al.o rfl ⟨by simp [Act.eval,aL,bz],rfl,by simp [Act.eval,aL,bz]⟩ ?_;exact aR _ _ rfl aj (Below.refl _ _)
end
section
open Go
def acE (P:Program) (fn:Func) (tmps:Array Value) (R:aRY):List Deferred->World->Prop
 | [],w=>∃ v,(results fn tmps).run P w = .ok v w/\R (.returned v) w
 | d :: zf,w=>∃ b at_ ty cs x w',d.target = .builtin b at_ ty cs/\(invoke d.target d.args).run P w = .ok (.value x) w'/\acE P fn tmps R zf w'
def ag7 (P:Program) (fn:Func) (R:aRY):Exit->Act->World->Prop
 | .normal,a,w | .ret,a,w=>acE P fn a.tmps R a.defers w
 | .outgrown,_,w=>R .outgrown w
 | _,_,_=>False
variable {P:Program}
theorem aK7 {aZ:Frame} {cs:List Frame} {d:Deferred} {zf:List Deferred} {b:Builtin} {at_:Array TypeId} {co:Array Bool} {x:Value} (hm:aZ.mode = .returning) (aS:aZ.defers=d :: zf) (az:d.target = .builtin b at_ ty co)
  (ay:(invoke d.target d.args).run P w = .ok (.value x) w'):step P (lone aZ cs w) = .next (lone { aZ with defers:=zf } cs w'):=by
 obtain⟨t,a⟩:=d;simp only at az ay;subst az;exact step_lone_go (by simp [stepG,unwind,callDeferred,hm,aS,ay])
theorem anh {fn:Func} {tmps:Array Value} {R:aRY}:∀ (zf:List Deferred) (w:aRU) (aZ:Frame) (cs:List Frame),aZ.mode = .returning->aZ.defers=zf->aZ.tmps=tmps->P.funcs[aZ.fn]?=some fn->aZ.kind = .normal->acE P fn tmps R zf w ->
  ∃ e w' JA,R e w'/\Comes P (lone aZ cs w) (lone JA cs w') e/\JA.fn=aZ.fn/\JA.leaving P w' e
 | [],w,aZ,cs,hu,I,J,hf,hk,⟨v,Y,M⟩=>⟨.returned v,w,aZ,M,Steps.refl P _,rfl,hu,I,hk,fn,hf,J ▸ Y⟩
 | d :: zf,w,aZ,cs,hu,I,J,hf,hk,⟨b,at_,ty,co,x,w',h1,AA,AB⟩=>by
  obtain⟨e,af,JA,M,hs,AP,hl⟩:=anh zf w' { aZ with defers:=zf } cs hu rfl J hf hk AB;exact⟨e,af,JA,M,Comes.of_steps (.one (aK7 hu I h1 AA)) hs,AP,hl⟩
theorem awG {f:FuncId} {fn:Func} {c:Code} {args:Array Value} {R:aRY} (hf:P.funcs[f]?=some fn) (ae:fn.body=some c)
  (h:c.wp P (ag7 P fn R) { tmps:=args++Array.replicate (fn.ntmps - args.size) undef,defers:=[] } w):Calls P f args w R:=by
 intro cs;let b:Frame:={ (default:Frame) with fn:=f,kind:=.normal };have AU:Frame.enter P f args .normal=b.at { tmps:=args++Array.replicate (fn.ntmps - args.size) undef,defers:=[] } [.code c]:=by simp [Frame.enter,Frame.at,hf,ae,b]
 obtain⟨e,J,w',I,M⟩:=h b [] cs;rw [<- AU] at M;cases e with
 | normal =>
  obtain⟨Y,AA,AB,AP,hs,AQ,hl⟩:=anh J.defers w' { b.at J [] with mode:=.returning } cs rfl rfl rfl hf rfl I;exact⟨Y,AA,AB,AP,Comes.of_steps (Steps.trans M (.one step_end)) hs,AQ,hl⟩
 | ret =>
  obtain⟨todo,AV⟩:=M;obtain⟨Y,AA,AB,AP,hs,AQ,hl⟩:=anh J.defers w' { b.at J todo with mode:=.returning } cs rfl rfl rfl hf rfl I;exact⟨Y,AA,AB,AP,Comes.of_steps AV hs,AQ,hl⟩
 | panic chain=>exact I.elim
 | exit id=>exact I.elim
 | goto l=>exact I.elim
 | outgrown=>exact⟨.outgrown,w',b,I,M.resolve_left (by simp [b]),rfl,trivial⟩
end
section
open Go.Maps Go.RowKit Go.Shelf
theorem iF.same {l:oh} {P:nY} {ins asks:List ak} {b:dC} (ae:iF w l P ins asks b) (hs:w.heap.size<=w'.heap.size) {A:aRV} (hk:∀ k,l.B<=k->k < w.heap.size->some k≠bM A->w'.heap[k]?=w.heap[k]?)
  (hA:∀ q,bM A=some q->(∃ cur aZ,w.heap[q]?=some (.cells cur 135 aZ))/\some q≠bM l.bV) (bY:Gr w w'):iF w' l P ins asks b:=by
 obtain⟨q,AV⟩:=ae.run;have key:∀ {k:Nat} {cs:Array Value} {t:TypeId} {aZ:Nat × Nat},w.heap[k]?=some (.cells cs t aZ)->l.B<=k->t ≠ 135 -> w'.heap[k]?=w.heap[k]?:=fun {k cs t aZ} h1 J Y=>hk k J (iw h1) fun e=>by
  obtain⟨⟨cur,AX,I⟩,_⟩:=hA k e.symm;rw [h1] at I;injection I with I
  injection I with _ I
  exact Y I
 have AB:∀ {g:Nat} {V:aRW} {t:TypeId},aM w g V t->l.B<=g->t ≠ 135 -> aM w' g V t:=fun ax h1 J=>(key ax h1 J).trans ax;have AP:∀ {aO n c2:Nat} {t:TypeId} {il:aRV} {xs:aRW},Own w l.B t aO il n c2 xs->t ≠ 135 -> Own w' l.B t aO il n c2 xs:=fun AQ h1=>AQ.keep fun b AZ _ _=>by
  obtain⟨I,_,cur,aZ,hc⟩:=AQ.block b AZ;exact key hc I h1
 have AA:∀ {g:Nat} {y:List ak},sZ w l.B g y->sZ w' l.B g y:=fun {g y} hs=>by
  obtain⟨il,c2,Aa,Ac⟩:=hs.row;exact⟨hs.far,il,c2,AB Aa hs.far dc,AP Ac dc⟩
 have AU:∀ (k:Nat) (o:Obj),l.B<=k->w.heap[k]?=some o->o.isCells=false->w'.heap[k]?=w.heap[k]?:=fun k o h1 J Y=>hk k h1 (iw J) fun e=>by
  obtain⟨⟨cur,AX,I⟩,_⟩:=hA k e.symm;rw [J] at I;cases I;cases Y
 refine⟨AB ae.row ae.far.1 dc,ae.far,AP ae.outs dc,⟨AA ae.may.o,AA ae.may.i,AA ae.may.a⟩,ae.map.keep ?_,ae.reads.keep fun k h1 J Y=>hk k J Y fun e=>(hA k e.symm).2 h1.symm,q,?_⟩
 ·obtain⟨es,Ae,Ad,_⟩:=ae.map;exact AU _ _ ae.far.2.1 Ad rfl
 ·letI:=vP l.m;exact jL.oV AV bY hs fun k o h1 _ J Y=>AU k o (aQG ae.far.2.2 h1) J Y
theorem yF.oV {l:pE} (hl:l.Ok) (h:yF c l w U σ aF) (hf:tH l w w'):Gr w w':=fun k cs t aZ Y AP=>hf.keep k (iw Y) fun e=>by
 have key:∀ {I:Obj},w.heap[k]?=some I->I.isCells=false->False:=fun h1 M=>by
  rw [Y] at h1;cases h1;cases M
 obtain⟨OL,n,_,M,_⟩:=h.at_.over;obtain⟨AQ,_,AA⟩:=h.at_.way;obtain⟨AU,f,_,AB⟩:=h.at_.waits;rcases e with rfl | rfl | rfl
 ·obtain⟨I,h1,J⟩:=M.obj;exact key h1 J
 ·obtain⟨I,h1,J⟩:=AA.obj;exact key h1 J
 ·obtain⟨I,h1,J⟩:=AB.obj;exact key h1 J
structure vU (c:dF) (l:pE) (i:Nat) (x:kH) (w:aRU) (us:aRZ) (σ:bE) (aF:aR1) (gy jO ma og:Nat) (wr:aRU) (s:dC) (bK kr:List dB) (nZ:Nat) (iO:oh) (kV:aRV) (qZ:Nat):Prop where
 all:∃ bR eP,yF c l wr (i :: us) bR eP/\tH l w wr/\(∀ j,σ.begun j=true->bR.begun j=true)/\(∀ j,σ.got j≠none->bR.got j=σ.got j)/\(∀ q,eP q->aF q\/w.heap.size<=q)/\(∀ q,bM iO.bV=some q->¬ eP q)/\(∀ q,bM kV=some q->¬ eP q)/\xW c.W bR i nZ
 box:iF wr iO (lh x.2) x.2.ins x.2.asks s
 lay:iO.X=ma/\iO.B=og/\w.heap.size<=og/\w.heap.size<=gy/\w.heap.size<=jO/\gy < og/\l.T<=w.heap.size
 read:Own wr w.heap.size 135 34 kV kr.length qZ (cK iq (kr.map gJ))
 YB:∀ q,bM kV=some q->some q≠bM iO.bV
 res:aM wr gy iN 63
 out:aM wr jO iN 63
 pos:sw c i s (bK.map gJ)
 small:∀ k∈bK,k.data.length<=65536
section
variable {c:dF} (hc:c.Fit) {l:pE} (hl:l.Ok) {i:Nat} {x:kH} {w:aRU} {us:aRZ} {σ:bE} {aF:aR1} {gy jO ma og:Nat} {wr w':aRU} {s:dC} {bK kr:List dB} {nZ:Nat} {iO:oh} {kV:aRV} {qZ:Nat}
theorem vU.below (hl:l.Ok) (h:vU c l i x w us σ aF gy jO ma og wr s bK kr nZ iO kV qZ) (ae:Bl wr w'):vU c l i x w us σ aF gy jO ma og w' s bK kr nZ iO kV qZ:=by obtain⟨bR,eP,h1,I,J⟩:=h.all;exact⟨⟨bR,eP,h1.all hl ae,I.trans (.gN ae),J⟩,h.box.below ae,h.lay,h.read.below ae (aQF _),h.YB,h.res.all ae,h.out.all ae,h.pos,h.small⟩
theorem vU.comes (hl:l.Ok) {m:Nat} (iK:ag6 c l m) (hm:rJ σ c.n<=m) (fQ:i < c.n) (sj:c.X.getD i l8=x.2) (hc:c.Fit) (h:vU c l i x w us σ aF gy jO ma og wr s bK kr bK.length iO kV qZ) (gD:s.over=false) :
  Calls prog 38 #[pp l.X 0,.string (aA s.asks)] wr fun e w'=>e = .returned (.tuple #[.agg (iA (oW (fD c.W s.asks) s.asks).2).toArray,.int .i64 (oW (fD c.W s.asks) s.asks).1])/\vU c l i x w us σ aF gy jO ma og w' s bK kr (bK.length+1) iO kV qZ:=by
 obtain⟨bR,eP,h1,M,Y,AA,AB,AP,AQ,AU⟩:=h.all;have AV:=h.pos.asks hc fQ sj gD;have AX:=h.lay;refine (iK wr (i :: us) bR eP s.asks h1 (aQG (agh c.n Y) hm) AV.1 fun j aC=>?_).mono ?_
 ·have hw:=h.pos.waits gD aC;exact⟨(h1.inv.reach i ((h1.inv.under i).1 sp).1).next hw,h1.inv.arL rfl hw,fun hu=>h1.inv.ring (Gw hc.work.small).fin rfl hw hu aC⟩
 ·rintro e w' ⟨rfl,σ',fe,I,AZ⟩;refine⟨rfl,⟨σ',fe,I.st,M.trans I.kJ,fun j aC=>I.begun j (Y j aC),fun j aC=>by rw [I.got j (by rw [AA j aC];exact aC),AA j aC],fun q J=>?_,fun q J hf=>?_,fun q J hf=>?_,h.pos.next (AU.mono I.begun) AZ⟩,h.box.same I.kJ.size (A:=none) (fun k Ac Aa _=>I.kJ.keep k Aa fun e=>by have:=(hl.low k e).2;omega) (fun q e=>by cases e) (yF.oV hl h1 I.kJ),h.lay,Own.kJ hl I.kJ h.read AX.2.2.2.2.2.2,h.YB,I.kJ.high hl h.res om,I.kJ.high hl h.out om,h.pos,h.small⟩
  ·rcases I.vS q J with k | k
   ·exact AB q k
   ·exact .inr (aQG M.size k)
  ·rcases I.vS q hf with k | k
   ·exact AP q J k
   ·have:=(h.box.reads.block q J).2.1;omega
  ·rcases I.vS q hf with k | k
   ·exact AQ q J k
   ·have:=(h.read.block q J).2.1;omega
theorem vU.Qj (hl:l.Ok) (h:vU c l i x w us σ aF gy jO ma og wr s bK kr nZ iO kV qZ) {k:dB} {A9:aRV} {c9:Nat} (aG:Own w' w.heap.size 135 34 A9 (kr.length+1) c9 (cK iq (kr.map gJ)++iq (gJ k))) (av:wr.grownBy w' (bM kV)) (hA:bM A9=bM kV\/bM A9=some wr.heap.size):vU c l i x w us σ aF gy jO ma og w' s bK (kr++[k]) nZ iO A9 c9:=by
 obtain⟨bR,eP,h1,Y,Ac,Ad,Ae,Af,AX,Ag⟩:=h.all;have Ah:=h.lay;have Ak:∀ q,bM kV=some q->(∃ cur aZ,wr.heap[q]?=some (.cells cur 135 aZ))/\some q≠bM iO.bV:=fun q I=>⟨(h.read.block q I).2.2,h.YB q I⟩;have AZ:∀ {g:Nat} {V:aRW} {t:TypeId},aM wr g V t->t ≠ 135 -> aM w' g V t:=fun ax Al=>(av.block _ ax.lt fun e=>h.read.ne ax (aQ0 Al) e.symm).trans ax;have bY:∀ q,bM kV=some q->w.heap.size<=q:=fun q I=>(h.read.block q I).1;have AQ:∀ k,k < l.T->w'.heap[k]?=wr.heap[k]?:=fun k hk=>av.block k (aQJ hk (aQG Ah.2.2.2.2.2.2 Y.size)) fun e=>by have:=bY k e.symm;omega
 have Am:Gr wr w':=fun k cs t aZ AA AB=>av.block k (iw AA) fun e=>by
  obtain⟨_,_,cur,Ao,J⟩:=h.read.block k e.symm;rw [AA] at J;injection J with J
  injection J with _ J
  subst J;exact absurd AB dc
 have Ap:qY c l 0 w' (i :: us) bR (fun q=>eP q/\q < wr.heap.size):=by
  obtain⟨OL,n,AA,AB,AP⟩:=h1.at_.cut.over;obtain⟨Aq,Av,Az⟩:=h1.at_.way;obtain⟨BB,f,BC,BD⟩:=h1.at_.waits;refine⟨(AQ _ hl.base.2).trans h1.at_.row,⟨OL,n,AA,AB.keep (AQ _ (hl.low _ (.inl rfl)).2),fun j o e=>⟨⟨?_,?_⟩,(AP j o e).2⟩⟩,⟨Aq,Av,Az.keep (AQ _ (hl.low _ (.inr (.inl rfl))).2)⟩,⟨BB,f,BC,BD.keep (AQ _ (hl.low _ (.inr (.inr rfl))).2)⟩,fun W BF=>h1.at_.work W fun k Aa AV=>(BF k Aa AV).trans (AQ k Aa),h1.at_.home.below ⟨av.os,av.tape,av.output,av.size,fun k hk=>AQ k (by have:=hl.base.1;omega)⟩,aQG h1.at_.size av.size⟩
  ·refine (AP j o e).1.outs.grown av fun b ae AV=>?_;obtain⟨_,_,cur,aZ,J⟩:=(AP j o e).1.outs.block b ae;obtain⟨_,_,BG,Ao,AU⟩:=h.read.block b AV.symm;rw [J] at AU;injection AU with AU
   injection AU with _ AU
   exact absurd AU dc
  ·exact (AP j o e).1.reads.grown av fun b ae AV=>AX b AV.symm ((AP j o e).2 b (.inr ae)).1
 refine⟨⟨bR,_,⟨Ap,h1.inv⟩,⟨av.os.trans Y.os,av.tape.trans Y.tape,av.output.trans Y.output,aQG Y.size av.size,fun k AA AB=>(av.block k (aQJ AA Y.size) fun e=>by have:=bY k e.symm;omega).trans (Y.keep k AA AB)⟩,Ac,Ad,fun q I=>Ae q I.1,fun q I hf=>Af q I hf.1,fun q I hf=>?_,Ag⟩,h.box.same av.size (A:=kV) (fun k _ AB AP=>av.block k AB AP) Ak Am,h.lay,?_,fun q I=>?_,AZ h.res dc,AZ h.out dc,h.pos,h.small⟩
 ·rcases hA with hA | hA
  ·exact AX q (by rw [<- hA];exact I) hf.1
  ·rw [hA] at I;cases I;exact Nat.lt_irrefl _ hf.2
 ·rw [List.map_append,show cK iq (kr.map gJ++[k].map gJ)=cK iq (kr.map gJ)++iq (gJ k) by simp [cK],List.length_append];exact aG
 ·rcases hA with hA | hA
  ·exact h.YB q (by rw [<- hA];exact I)
  ·rw [hA] at I;cases I;exact fun e=>by have:=(h.box.reads.block _ e.symm).2.1;omega
theorem vU.given (hl:l.Ok) (h:vU c l i x w us σ aF gy jO ma og wr s bK kr nZ iO kV qZ) {k:dB} {s':dC} (aI:sw c i s' ((bK++[k]).map gJ)) (hk:k.data.length<=65536) {bV:aRV} {rc:Nat} (ah:iF w' { iO with bV:=bV,rc:=rc } (lh x.2) x.2.ins x.2.asks s') (ae:kv iO wr w') (aB:∀ q,q < wr.heap.size->some q≠bM iO.bV->some q≠bM bV):vU c l i x w us σ aF gy jO ma og w' s' (bK++[k]) kr nZ { iO with bV:=bV,rc:=rc } kV qZ:=by
 obtain⟨bR,eP,h1,J,AB,AP,AQ,Y,AU,AV⟩:=h.all;have Ag:=h.lay;have AA:∀ {g:Nat} {V:aRW} {t:TypeId},aM wr g V t->t ≠ 295 -> t ≠ 1 -> t ≠ 253 -> t ≠ 135 -> aM w' g V t:=fun ax AX AZ Aa Ac=>(Yu h.box ae ax AX AZ Aa (aml h.box ax Ac)).trans ax;refine⟨⟨bR,(fun q=>eP q/\q < wr.heap.size),⟨h1.at_.cut.LY hl h.box ae om (fun q I hf=>Y q I hf.1),h1.inv⟩,⟨ae.os.trans J.os,ae.tape.trans J.tape,ae.output.trans J.output,aQG J.size ae.size,fun k Ad Ae=>(ae.low k om).trans (J.keep k Ad Ae)⟩,AB,AP,fun q I=>AQ q I.1,fun q I hf=>?_,fun q I hf=>AU q I hf.1,AV⟩,ah,h.lay,?_,fun q I e=>?_,AA h.res dc dc dc dc,AA h.out dc dc dc dc,aI,fun y hy=>?_⟩
 ·by_cases e:some q=bM iO.bV
  ·exact Y q e.symm hf.1
  ·exact aB q hf.2 e I.symm
 ·refine h.read.keep fun q I _ _=>?_;obtain⟨_,_,cur,aZ,Af⟩:=h.read.block q I;exact Yu h.box ae Af dc dc dc (h.YB q I)
 ·exact aB q (h.read.block q I).2.1 (h.YB q I) e
 ·rcases aQ4.1 hy with h1 | h1
  ·exact h.small y h1
  ·rw [List.mem_singleton.1 h1];exact hk
end
end
section
open Go.Maps Go.RowKit Go.Shelf
section
variable {P:Program} {fn:Func} {R:aRY} {a:Act} {W W':aRU} {g:Nat} {V:aRW} {ty:TypeId} {d:TypeDesc} {t:Tmp}
theorem aLb (ax:aM W g V ty) (hu:P.underlying ty=some d) (aS:Cs d=true) (ay:(P.info? ty).map (·.size)=some V.length)
  (hf:fn.results=#[.cell t ty]/\a.tmps.getD t undef = .pointer (some ⟨g,0,none⟩)/\a.defers=[]) (aL:R (.returned (.agg V.toArray)) W):ag7 P fn R .ret a W:=by
 show acE P fn a.tmps R a.defers W;rw [hf.2.2];exact⟨_,aQ7 hf.1 _ _ g ty _ (0,0) _ hf.2.1 ax hu (by cases d <;> exact aS) (by rw [List.size_toArray];exact ay),aL⟩
theorem aLc {b:Builtin} {at_:Array TypeId} {t2:TypeId} {co:Array Bool} {args:Array Value} {x:Value} (ax:aM W' g V ty) (hu:P.underlying ty=some d) (aS:Cs d=true) (ay:(P.info? ty).map (·.size)=some V.length)
  (hf:fn.results=#[.cell t ty]/\a.tmps.getD t undef = .pointer (some ⟨g,0,none⟩)/\a.defers=[⟨.builtin b at_ t2 co,args⟩]) (ae:(invoke (.builtin b at_ t2 co) args).run P W = .ok (.value x) W') (aL:R (.returned (.agg V.toArray)) W'):ag7 P fn R .ret a W:=by
 show acE P fn a.tmps R a.defers W;rw [hf.2.2];exact⟨_,_,_,_,_,_,rfl,ae,_,aQ7 hf.1 _ _ g ty _ (0,0) _ hf.2.1 ax hu (by cases d <;> exact aS) (by rw [List.size_toArray];exact ay),aL⟩
end
theorem aLd (hc:c.Fit) {l:pE} (hl:l.Ok) (hs:yF c l w U σ aF) (fQ:i < c.n) (av:σ.got i≠none) :
  Calls prog 60 #[pp l.X 0,.int .i64 i] w (YA c l w U σ aF i):=by
 obtain⟨o,M⟩:=Option.ne_none_iff_exists'.1 av;obtain⟨Y,Ac⟩:=hs.inv.right i o M;subst Y;have Al:i < 1000:=by have:c.n<=10:=hc.kE.nZ;omega
 obtain⟨OL,n,_,hm,Y⟩:=hs.at_.over;obtain⟨AQ,Ad⟩:=Y i _ M;obtain⟨L,AU⟩:=ai (OL i);rw [<- AU] at AQ Ad;obtain⟨cz,I,aH,J⟩:=nq2 (jd (bG c.W i) L) (w.alloc (.cells iN.toArray 63));have AA:=gQ J;have Ae:=kY J;obtain⟨X,AV⟩:=ai l.X;have BC:aH.cell? (ad X 4)=some (.map (some l.pF)):=by rw [AV];exact (hs.at_.all hl AA).cells.2.2.1
 have BD:(Instr.lookup 110 (.map (some l.pF)) (.int .i64 (i:Int)) true).run prog aH = .ok (.tuple #[.agg cz.toArray,.bool true]) aH:=by have:=(hm.keep (AA.block _ hm.lt)).look_ok Yz Al underlying110 iN kr;rw [M,Option.map_some,Option.getD_some,Option.isSome_some,<- AU,<- I] at this;exact this
 have AX:cz.length=4:=by rw [I];rfl
 have AB:Sz 63 cz.length:=by rw [AX];exact kr
 have Af:∀ v∈cz,v.oneCell'=true:=by rw [I];simp [jd,Value.oneCell']
 have Am:cz.length=iN.length:=AX;have BF:(cz.drop 0).take cz.length=cz:=by simp
 obtain⟨Ao,Ap,Ag,Ah,Aq,Av⟩:=hq6 Ae AA hs AQ I Ac;rw [<- AV];rw [show iN.toArray=#[.int .i64 0,.int .i64 0,.slice none 0 0,.slice none 0 0] from rfl] at J;have BG:=J.symm;clear J AV Ae AA hs AQ Ad hm Y M Ac I AU av;refine awG func60 rfl ?_;simp only [ntmps60,List.size_toArray,List.length_cons,List.length_nil,Nat.reduceAdd,Nat.reduceSub,Array.replicate_succ,Array.replicate_zero,List.push_toArray,List.append_toArray,List.nil_append,List.cons_append];go_wp2_with fail;go_step3;go_wp2_with (first|((with_reducible refine qR cz AX AB Af ?_);intro BH Ak Az;have AP:=aa (Ao.o.all Ak.o))|(with_reducible refine kG Az.o underlying63 AB ?_)|((with_reducible refine vF cz AP.o AB Am Af ?_);intro bn BB AZ));refine aLb BB.o underlying63 rfl AB ⟨rfl,rfl,rfl⟩ ?_;have Aa:=aU Ap.o Ak.o;rw [Aq.o];exact⟨L,σ,aF,rfl,⟨gX (Ah.o.all Aa).outs AP.o dc AZ.o,gX (Ah.o.all Aa).reads AP.o dc AZ.o⟩,((yG.refl Ag.o).high hl Aa).own hl Ag.o.at_.size AP.o AZ.o (aQF _) dc dc,Av.o⟩
structure Qv (c:dF) (l:pE) (i:Nat) (w:aRU) (us:aRZ) (σ:bE) (aF:aR1) (gy jO:Nat) (cz:aRW) (kw:Nat) (rZ:aRU) (bR:bE) (eP:aR1) (L:kI) (OL:Nat->kI) (n:Nat):Prop where
 at_:qY c l kw rZ (i :: us) bR eP
 few:n+GU bR c.n<=c.n
 map:kz rZ FE l.pF n (fun j=>(bR.got j).map fun o=>jd o (OL j))
 rows:∀ j o,bR.got j=some o->ny rZ l.T o (OL j)/\∀ q,bM (OL j).A=some q\/bM (OL j).B=some q->eP q
 inv:wu c.W c.dN c.kZ (i :: us) bR
 kJ:tH l w rZ
 begun:∀ j,σ.begun j=true->bR.begun j=true
 got:∀ j,σ.got j≠none->bR.got j=σ.got j
 vS:∀ q,eP q->aF q\/w.heap.size<=q
 eq:cz=jd (bG c.W i) L
 own:ny rZ l.T (bG c.W i) L
 fresh:∀ q,bM L.A=some q\/bM L.B=some q->w.heap.size<=q
 closed:∀ j,ym c.W i j->bR.begun j=true
 res:aM rZ gy iN 63
 lay:w.heap.size<=gy/\w.heap.size<=jO/\l.T<=w.heap.size/\i ∉ us/\i < c.n/\kw<=1
structure Te (c:dF) (l:pE) (i:Nat) (w:aRU) (us:aRZ) (σ:bE) (aF:aR1) (gy:Nat) (cz:aRW) (rZ:aRU) (bR:bE) (eP:aR1) (L:kI):Prop where
 at_:qY c l 0 rZ (i :: us) bR eP
 inv:wu c.W c.dN c.kZ us bR
 kJ:tH l w rZ
 begun:∀ j,σ.begun j=true->bR.begun j=true
 got:∀ j,σ.got j≠none->bR.got j=σ.got j
 vS:∀ q,eP q->aF q\/w.heap.size<=q
 eq:cz=jd (bG c.W i) L
 own:ny rZ l.T (bG c.W i) L
 bi:bR.begun i=true
 lay:w.heap.size<=gy/\l.T<=w.heap.size/\i ∉ us/\i < c.n
section
variable {c:dF} {l:pE} (hl:l.Ok) {i:Nat} {w:aRU} {us:aRZ} {σ:bE} {aF:aR1} {gy jO:Nat} {cz:aRW} {kw:Nat} {rZ w':aRU} {bR:bE} {eP:aR1} {L:kI} {OL:Nat->kI} {n:Nat}
theorem Qv.below (hl:l.Ok) (h:Qv c l i w us σ aF gy jO cz kw rZ bR eP L OL n) (ae:Bl rZ w'):Qv c l i w us σ aF gy jO cz kw w' bR eP L OL n :=
 ⟨h.at_.all hl ae,h.few,h.map.keep (ae.block _ h.map.lt),fun j o e=>⟨(h.rows j o e).1.all ae,(h.rows j o e).2⟩,h.inv,h.kJ.trans (.gN ae),h.begun,h.got,h.vS,h.eq,h.own.all ae,h.fresh,h.closed,h.res.all ae,h.lay⟩
theorem Qv.V3 (hl:l.Ok) (h:Qv c l i w us σ aF gy jO cz kw rZ bR eP L OL n) (az:fV l.pF rZ w') (hm:kz w' FE l.pF (n+1) (fun j=>if j=i then some cz else (bR.got j).map fun o=>jd o (OL j))):∃ zJ Fv,Te c l i w us σ aF gy cz w' zJ Fv L:=by
 have av:bR.got i=none:=((h.inv.under i).1 sp).2;have AA:bR.begun i=true:=((h.inv.under i).1 sp).1;have M:=h.lay.2.2.2.1;obtain⟨AX,AB,AP⟩:=h.map.obj;rw [h.eq] at hm;have I:=h.at_.V3 hl h.lay.2.2.2.2.2 h.lay.2.2.2.2.1 av h.few h.map h.rows h.own hm az;have hf:∀ q,(eP q\/bM L.A=some q\/bM L.B=some q)->aF q\/w.heap.size<=q:=fun q J=>by
  rcases J with J | J
  ·exact h.vS q J
  ·exact .inr (h.fresh q J)
 have AQ:∀ (Y:bE),Y.got=bR.got->∀ j,σ.got j≠none->(Y.put i (bG c.W i)).got j=σ.got j:=fun Y e j aC=>by
  have:j≠i:=fun AV=>by
   subst AV;rw [<- h.got j aC,av] at aC;exact aC rfl
  simp only [bE.put,if_neg this,e];exact h.got j aC
 have AU:tH l w w':=h.kJ.trans (.dG az (.inl rfl));by_cases hk:(bG c.W i).kind=1
 ·refine⟨(bR.keep i (bG c.W i).outs).put i (bG c.W i),_,⟨?_,(h.inv.keep hk).put M h.closed fun _=>ajV,AU,h.begun,AQ _ rfl,hf,h.eq,h.own.Oc az AB AP,AA,⟨h.lay.1,h.lay.2.2.1,M,h.lay.2.2.2.2.1⟩⟩⟩;exact⟨I.row,I.over,I.way,I.waits,I.work,I.home,I.size⟩
 ·exact⟨bR.put i (bG c.W i),_,⟨I,h.inv.put M h.closed fun e=>absurd e hk,AU,h.begun,AQ _ rfl,hf,h.eq,h.own.Oc az AB AP,AA,⟨h.lay.1,h.lay.2.2.1,M,h.lay.2.2.2.2.1⟩⟩⟩
theorem Te.stored (hl:l.Ok) (h:Te c l i w us σ aF gy cz rZ bR eP L) (ax:aM rZ gy Z 63) (az:fV gy rZ w'):Te c l i w us σ aF gy cz w' bR eP L :=
 ⟨h.at_.own hl ax az (by have:=h.lay;omega) dc dc,h.inv,⟨az.1.trans h.kJ.os,az.2.1.trans h.kJ.tape,az.2.2.1.trans h.kJ.output,by rw [az.2.2.2.1];exact h.kJ.size,fun k I J=>(az.2.2.2.2 k (by have:=h.lay.1;omega)).trans (h.kJ.keep k I J)⟩,h.begun,h.got,h.vS,h.eq,⟨gX h.own.outs ax dc az,gX h.own.reads ax dc az⟩,h.bi,h.lay⟩
theorem Te.gone (hl:l.Ok) (h:Te c l i w us σ aF gy cz rZ bR eP L) (hc:c.Fit) (ax:aM rZ gy cz 63) (ty:TypeId) (co:Array Bool):∃ bN,(invoke (.builtin .delete #[111,3] ty co) #[.map (some l.tY),.int .i64 (i:Int)]).run prog rZ = .ok (.value (.tuple #[])) bN/\aM bN gy cz 63 /\ YA c l w us σ aF i (.returned (.agg cz.toArray)) bN:=by
 obtain⟨n,J,hm⟩:=h.at_.way;have M:i < 1000:=by have:c.n<=10:=hc.kE.nZ;have:=h.lay.2.2.2;omega
 obtain⟨bN,Y,AA,I⟩:=hm.drop M underlying111 ty;obtain⟨AQ,AB,AP⟩:=hm.obj;have AU:=hl.low _ (.inr (.inl rfl));refine⟨bN,by simp [invoke,builtin,Y,Result.andThen],ax.dG I (by have:=h.lay;omega),L,bR,eP,by rw [h.eq],h.own.Oc I AB AP,⟨⟨h.at_.gone hl h.lay.2.2.1 J hm AA I,h.inv⟩,h.kJ.trans (.dG I (.inr (.inl rfl))),h.begun,h.got,h.vS⟩,h.bi⟩
end
end
end Go.Proofs.YtjkinjbkknanbaaGreatDoor
