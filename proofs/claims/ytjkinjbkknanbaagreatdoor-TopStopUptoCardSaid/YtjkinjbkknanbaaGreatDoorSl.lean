/- TopStop answers true of any work of bulk at most 1048576: a build that stopped at the first action that did not end, gone on with, tells what one from nothing does, and runs nothing again that ended. Conditions: none. -/
import Derived.Test.YtjkinjbkknanbaaGreatDoorSk
import Derived.Test.YtjkinjbkknanbaaGreatDoorRows
import Derived.Test.YtjkinjbkknanbaaGreatDoorCards
import Derived.Test.YtjkinjbkknanbaaGreatDoorTie
set_option maxRecDepth 100000
set_option maxHeartbeats 8000000
set_option linter.unusedSimpArgs false
set_option linter.unusedVariables false
namespace Go.Proofs.YtjkinjbkknanbaaGreatDoor
open Go.Proofs.Tryz
variable {W:aRU} {v:Value} {cs:aRW}
section
open Go.Maps Go.RowKit Go.Shelf
theorem aNf {a:DZ} {p:ak} (h:(oW a p).2.is=true):(oW a p).1=1:=by
 cases a with
 | known k=>rfl
 | below=>cases h
 | stuck=>cases h
theorem aNg {c:dF} (hc:c.Fit) (p:ak):(oW (fD c.W p) p).2.path=p:=by
 cases h:fD c.W p with
 | known k=>exact auD (Gw hc.work.small) h
 | below=>rfl
 | stuck=>rfl
theorem aNh (w:aRU) (k:jE) (bX:x8) (keep:Bool) (hA:∀ W:World,(∀ q,q < w.heap.size->W.heap[q]?=w.heap[q]?)->wY W k bX) (hk:FD k) {B0:Nat} (dR:uW w B0) (bf:B0<=w.heap.size) (jo:qb k=0) :
  Calls prog 18 #[.agg (qy k bX keep).toArray] w (axX w k):=by
 obtain⟨Ac,AQ⟩:=ai (qy k bX keep);obtain⟨aH,BB⟩:=ai (w.alloc (.cells Ac.toArray 26));obtain⟨aY,BC⟩:=ai (aH.alloc (.cells Td.toArray 39));have Du:=gQ BB;have Dv:aH.heap.size=w.heap.size+1:=by rw [BB];simp
 have Ck:=gQ BC;have Br:=aU Du Ck;have Dw:aM aY w.heap.size Ac 26:=by refine aM.all ?_ Ck;rw [BB];exact aM.new w _ _
 have Dz:=kY BC;obtain⟨bW,Bt,mI,AU⟩:=nq2 k.dA.length k.fP.length;have J6:bW<=10:=by rw [Bt];exact hk.kE.nZ
 have J7:mI<=100:=by rw [AU];exact hk.kE.mI
 have Fq:=aa (show Sz 26 Ac.length by rw [AQ];exact kr);have E5:=Fq.o;have Fu:=aa (show CB 21 #[.agg Ac.toArray] aY (.int .i64 0) from by
  have:=aa7 aY k bX keep (hA aY fun q Y=>Br.block q Y) hk.kE (dR.below (Br.mono bf)).vL;rw [jo,<- AQ] at this;exact this);have Fv:=aa (fun (W:aRU)=>show Calls prog 34 #[.agg Ac.toArray] W fun e w'=>∃ X m,e = .returned (pp X 0)/\Tv W w' k bX keep X m from by
  have:=axd W k bX keep;rw [<- AQ] at this;exact this);obtain⟨kZ,C8,c,AV⟩:=nq2 (xL (fun _=>false) (fun _=>false)) (acA k keep [] (fun _=>false) (fun _=>false) ⟨0,0,0,bX,⟨0,0,0,0,0,0⟩,0,0⟩);have hc:c.Fit:=by
  subst AV;exact hk.fit _ _ _ _ _
 have CF:c.W=k.W:=by rw [AV];rfl
 obtain⟨GR,Cm⟩:=ai (pR kZ (fun _=>⟨none,0,none,0⟩) bW);have Fy:=aa (fun (W:aRU)=>show (Instr.makeSlice 36 (.int .i64 (bW:Int)) (.int .i64 (bW:Int))).run prog W = .ok (.slice (some ⟨W.heap.size,0,none⟩) bW bW) (W.alloc (.cells GR.toArray 63)) by rw [Cm,C8];exact awg W bW om _ _ fun _=>rfl);have Fz:=aa (fun (E8 bn:aRU) (CG:Bl w E8) (X m:Nat) (h:Tv E8 bn k bX keep X m)=>show (⟨X,m,m+1,m+2,bX,bn.heap.size,B0⟩:pE).Ok/\yF c ⟨X,m,m+1,m+2,bX,bn.heap.size,B0⟩ bn [] kZ (fun _=>False) from by
  rw [C8];exact h.start (c:=c) (B0:=B0) (by rw [AV];rfl) (by rw [AV];rfl) (dR.below (CG.mono bf)) (aQG bf CG.size) (fun W G8=>hA W fun q Y=>(G8 q (aQJ Y CG.size)).trans (CG.block q Y)) (by rw [AV];rfl));obtain⟨S,Ak⟩:=ai (mP k.fP);have E9:∀ p∈S,p∈k.fP:=fun p aI=>(Jb k.fP).2 p |>.1 (by rw [Ak] at aI;exact aI)
 have G9:S.length<=1000:=by have:=Mw k.fP;rw [Ak];omega
 have GD:=aa (fun (l:pE) (hl:l.Ok) (wr:aRU) (σ:bE) (aF:aR1) (h:yF c l wr [] σ aF) (p:ak) (aI:p∈S)=>show CR 38 #[pp l.X 0,.string (aA p)] wr (.tuple #[.agg (iA (oW (fD c.W p) p).2).toArray,.int .i64 (oW (fD c.W p) p).1]) fun w'=>∃ σ' fe,yG c l wr [] σ aF w' σ' fe/\∀ j,c.W.jK p=some j->σ'.begun j=true from by
  have EA:=E9 p aI;refine awY hc hl (rJ σ c.n) wr [] σ aF p h (aQF _) (hk.kE.Vq p EA) fun j aC=>⟨.inl ?_,fun x ah=>(by cases ah),fun ah=>(by cases ah)⟩;rw [AV];exact ⟨p,EA,by rw [CF] at aC;exact aC⟩);obtain⟨Co,Cr,ce,EC,GG,EF,GH,EG⟩:=nq4 bX.C bX.e bX.B bX.d;have Ct:=aa (fun (W:aRU) (g:Nat) (h:aM W g Ac 26)=>show W.cell? (ad g 1)=some (.slice GG bW GH)/\W.cell? (ad g 2)=some (.slice Co mI ce) from by
  refine⟨?_,?_⟩
  ·rw [h.cell 1,AQ,EF,EG,Bt];rfl
  ·rw [h.cell 2,AQ,Cr,EC,AU];rfl);have GI:=aa (fun W (ae:Bl w W)=>show Calls prog 35 #[.slice Co mI ce] W fun e w'=>∃ A' c',e = .returned (.slice A' mI c')/\Own w' W.heap.size 9 1 A' mI c' (cB k.fP)/\Bl W w' from by
  have ax:=(hA W fun q Y=>ae.block q Y).fP;rw [<- Cr,<- AU] at ax;exact aa9 W Co mI ce _ ax (XU _) om);have GK:=aa (fun (W:aRU) (base:Nat) (A:aRV) (c2:Nat) (Cu:Own W base 9 1 A mI c2 (cB k.fP))=>show CR 36 #[.slice A mI c2] W (.tuple #[]) fun w'=>Own w' base 9 1 A mI c2 (cB (qi k.fP))/\W.grownBy w' (bM A) from by
  have:=apK W base A c2 k.fP (by rw [<- AU];exact Cu) (by rw [<- AU];omega);rw [<- AU] at this;exact this);have GL:=aa (fun (W:aRU) (base:Nat) (A:aRV) (c2:Nat) (Cu:Own W base 9 1 A mI c2 (cB (qi k.fP)))=>show CR 37 #[.slice A mI c2] W (.slice A S.length c2) fun w'=>Own w' base 9 1 A S.length c2 (cB S)/\W.grownBy w' (bM A) from by
  have hl:(qi k.fP).length=mI:=by rw [Cw,AU]
  have:=adI W base A c2 (qi k.fP) (by rw [hl];exact Cu) (by rw [hl];omega);rw [hl] at this;rw [Ak];exact this);obtain⟨BD,Cv⟩:=ai S.length;have CJ:=aa Cv;rw [<- Cv] at G9;have GQ:=aa (show QH k.W k.fP=S.filterMap (Ku c.W) by rw [Ak,CF];rfl);have GV:=aa (show ∀ p,p∈k.fP->p∈S from fun p aI=>by rw [Ak];exact (Jb k.fP).2 p |>.2 aI);have EH:=aa (show Sz 39 4 by exact kr);obtain⟨EJ,GX,D8,Ga,J8,Gb,Gc,Gd,BF,Gg,Gi⟩:=hq11 Dw Dz Br Dv AQ Bt CF hc Cm C8 AV;obtain⟨g1,EK,g2,EL⟩:=nq2 w.heap.size aH.heap.size;have Gm:=aa EK;have EM:=aa EL;rw [<- AQ];rw [show Td.toArray=#[.slice none 0 0,.slice none 0 0,.slice none 0 0,.slice none 0 0] from rfl] at BC;have J9:=BB.symm;have JA:=BC.symm;clear BB BC Du Dv Ck Br Dw Dz Bt AU AQ Cm dR hA bf hk jo E9 Ak Cv Cr EC EF EG CF hc AV C8 EK EL;go_enter func18,ntmps18;go_wp2_with (first|(with_reducible refine kG EJ.o underlying26 E5 ?_)|(go_at_call 21; refine Fu.o.mono ?_;rintro e aD ⟨rfl,CK⟩;have DF:=aa CK;have CL:=aa (EJ.o.all CK);have DI:=aa (GX.o.all CK);rw [<- Gm.o] at CL |-;rw [<- EM.o] at DI |-;clear CK)|(with_reducible refine kG CL.o underlying26 E5 ?_)|(go_at_call 34; refine (Fv.o aD).mono ?_;rintro e bn ⟨X,m,rfl,DJ⟩;have Al:=aa DJ;have DN:=aa (CL.o.all DJ.below);obtain⟨EN,_⟩:=Ct.o bn _ DN.o;have Gn:=Fy.o bn;obtain⟨EO,BG⟩:=ai (bn.alloc (.cells GR.toArray 63));rw [<- BG] at Gn;have Gp:=aa (gQ BG);have Gq:=aa (kY BG);have Gs:=aa (show EO.heap.size=bn.heap.size+1 by rw [BG];simp);obtain⟨BH,BK⟩:=ai (Oe bn.heap.size bW none 0 0 none 0 0);have Gt:=aa BK;have ES:BH.length=4:=(by rw [BK];rfl);have Gu:Sz 39 BH.length:=(by rw [ES];exact EH.o);have Gv:∀ v∈BH,v.oneCell'=true:=(by rw [BK];simp [Oe,Value.oneCell']);have H5:=aa (show prog.built 39 [(0,.slice (some ⟨bn.heap.size,0,none⟩) bW bW)]=some BH.toArray by rw [BK];exact awf _ _ _);clear DJ BK BG)|((with_reducible refine ajm (.slice (some ⟨bn.heap.size,0,none⟩) bW bW) _ H5.o ?_ ?_);exact rfl)|((with_reducible refine qR BH ES Gu Gv ?_);go_must (intro ET EU H9;have CQ:=aa (aU Gp.o EU.o);have HY:=aa (Gq.o.all EU.o);have Ha:=aa (aU (aU D8.o DF.o) (aU Al.o.below CQ.o));obtain⟨_,JB⟩:=Ct.o ET _ (DN.o.all CQ.o)))|(go_at_call 35; refine (GI.o ET Ha.o).mono ?_;rintro e CS ⟨il,c2,rfl,EX,EY⟩;have Ea:=aa EX;have Ec:=aa EY;clear EX EY)|(go_at_call 36; refine (GK.o CS _ il c2 Ea.o).mono ?_;rintro e AA ⟨rfl,Ee,Ef⟩;have Ei:=aa Ee;have AX:=aa (Ec.o.grown Ef Ec.o.size (fun k e=>(Ea.o.block k e).1));clear Ee Ef)|(go_at_call 37; refine (GL.o AA _ il c2 Ei.o).mono ?_;rintro e Hd ⟨rfl,Ej,El⟩;have He:=aa Ej;have DR:=aa (AX.o.grown El AX.o.size (fun k e=>(Ei.o.block k e).1));rw [<- CJ.o];clear Ej El));obtain⟨l,hl⟩:=ai (⟨X,m,m+1,m+2,bX,bn.heap.size,B0⟩:pE);obtain⟨CU,DT⟩:=Fz.o aD bn (aU D8.o DF.o) X m Al.o;rw [<- hl] at CU DT;have Em:=aa (show l.X=X by rw [hl]);have En:=aa (show l.T=bn.heap.size by rw [hl]);obtain⟨gy,CV,eO,Am⟩:=nq2 EO.heap.size bn.heap.size;have Hf:=aa (show Ey c l bn gy eO bW S il c2 0 Hd kZ (fun _=>False) none 0 [] from by
  have ae:=aU CQ.o DR.o;have h1:=H9.o.all DR.o;have ag:=HY.o.all DR.o;rw [Gt.o,<- Am,<- CV] at h1;rw [<- Am,BF.o,Gg.o] at ag;refine⟨DT.all CU ae,.gN ae,h1,ag,(He.o).mono CQ.o.size,Own.nil _ _ _ _,fun b h=>(by cases h),sp,fun j p h=>absurd h (aRF _),⟨En.o,by rw [En.o,Am];exact aQF _,by have:=Gs.o;omega⟩⟩);obtain⟨JF,JG,Ao,JH⟩:=hq4 CV Am CU hl;have Eo:=aa (fun (W:aRU) (h:tH l bn W)=>show aM W g1 Ac 26 /\ aM W g2 Td 39 from by
  have av:∀ g,g < aD.heap.size->¬ l.C g:=fun g av BL=>by
   have BN:=Al.o.low.1;rw [hl] at BL;rcases BL with e | e | e
   ·have e:g=m:=e;omega
   ·have e:g=m+1:=e;omega
   ·have e:g=m+2:=e;omega
  exact⟨h.row DN.o (av _ CL.o.lt),h.row (DI.o.all Al.o.below) (av _ DI.o.lt)⟩);have Hl:=aa (fun (W:aRU) (h:tH l bn W)=>show Bl w W from by
  have BN:=Al.o.low;have Ap:=aU D8.o DF.o;have Aq:=Al.o.below;refine⟨h.os.trans (Aq.os.trans Ap.os),h.tape.trans (Aq.tape.trans Ap.tape),h.output.trans (Aq.output.trans Ap.output),aQG Ap.size (aQG Aq.size h.size),fun q Y=>?_⟩;have hq3:=aQJ Y Ap.size;refine (h.keep q (aQJ hq3 Aq.size) fun BL=>?_).trans ((Aq.block q hq3).trans (Ap.block q Y));rw [hl] at BL;rcases BL with e | e | e
  ·have e:q=m:=e;omega
  ·have e:q=m+1:=e;omega
  ·have e:q=m+2:=e;omega);rw [<- CV,<- Am];clear CV Am hl CU DT EN;go_loopg [36] BD (fun gk DU wr=>∃ (q:Nat) (σ:bE) (aF:aR1) (gm:aRV) (gV:Nat) (kQ:List (ak × ak)),q+gk=BD/\DU = .int .i64 q/\Ey c l bn gy eO bW S il c2 q wr σ aF gm gV kQ);case atStart=>exact⟨0,kZ,_,none,0,[],om,rfl,Hf.o⟩
 case round =>
  obtain⟨q,σ,aF,gm,gV,kQ,Y,rfl,ay⟩:=hrel;have AZ:=aa ay;obtain⟨n,BN⟩:=ai kQ.length;have JI:n<=1000:=by rw [BN,ay.eq];refine aQG (aRT _ _) ?_;rw [List.length_take];omega
  have BO:=aa BN;clear ay BN;by_cases BP:q < BD
  ·have Hm:(q:Int) < BD:=om;have JJ:(0:Int)<=q:=om;obtain⟨p,ah⟩:∃ x,S[q]?=some x:=⟨_,aQI (by rw [<- CJ.o];exact BP)⟩;have Er:p∈S:=aQK ah;have Db:=GD.o l Ao.o wr σ aF AZ.o.st p Er;obtain⟨b,o,rfl,Ho⟩:=KW AZ.o.txt.rd ah;obtain⟨P,BR⟩:=ai (aA p);obtain⟨gL,BS⟩:=ai ((oW (fD c.W p) p).2);obtain⟨nU,CW,Av,Dc⟩:=nq2 gL.is gL.data;obtain⟨CX,De⟩:=ai (aA Av);obtain⟨CY,AB⟩:∃ k:Int,k=(oW (fD c.W p) p).1:=⟨_,rfl⟩;have Hq:=aa (show nU=true->CY=1 from fun h=>by rw [AB,aNf (by rw [<- BS,<- CW];exact h)];rfl);have Es:=aa (show Ku c.W p=if nU=true then some (p,Av) else none by rw [Ku,<- BS,<- CW,<- Dc]);obtain⟨bI,Dg⟩:=ai (iA gL);have CZ:bI=[.string P,.bool nU,.string CX]:=by rw [Dg,BR,CW,De,Dc];have:=aNg Gd.o p;rw [<- BS] at this;show [Value.string (aA gL.path),_,_]=_;rw [this]
   obtain⟨BU,BX⟩:=ai (fI (p,Av));have Hr:=aa BX;have Hy:=aa (show prog.built 65 [(0,.string P),(1,.string CX)]=some BU.toArray by rw [BX,BR,De];exact am4 _ _);have hcs:(Value.agg BU.toArray).cells.size=2:=by rw [BX];rfl
   have I1:∀ v∈BU,v.oneCell'=true:=by rw [BX];exact abG _
   have Ev:bI.length=3:=by rw [CZ];rfl
   have I4:Sz 80 bI.length:=by rw [Ev];exact JE
   have I7:∀ v∈bI,v.oneCell'=true:=by rw [CZ];simp [Value.oneCell']
   have Ew:=aa CZ;rw [<- BR,<- BS,<- Dg,<- AB,Em.o] at Db;have I9:=aa Db;have Ex:=aa ah;rw [<- BR] at Ho;clear ah Er BR Db BS CW Dc De AB Dg CZ BX;go_upto_region 12 with (first|(go_at_call 38; refine I9.o.mono ?_;rintro e CS ⟨rfl,F3,IA,F4,F5⟩;have IE:=aa (AZ.o.come Ao.o F4);have F6:=aa F5;clear F4 F5)|((with_reducible refine qR bI Ev I4 I7 ?_);intro AA AX Ca;have Dh:=aa (IE.o.below Ao.o AX.o);have JK:AA.cell? (ad CS.heap.size 1)=some (.bool nU):=(by rw [Ca.o.cell 1,Ew.o];rfl);have JL:AA.cell? (ad CS.heap.size 2)=some (.string CX):=(by rw [Ca.o.cell 2,Ew.o];rfl);have JM:AA.cell? (ad gy 3)=some (.slice gm n gV):=(by rw [Dh.o.rep.cell 3,BO.o];rfl)))
   cases nU with
   | true =>
    have AB:=Hq.o rfl;have Di:=aa (show Ku c.W p=some (p,Av) from Es.o);subst AB;go_wp2_with (first|((with_reducible refine Rk (.string P) (.string CX) _ Hy.o ?_ ?_);exact⟨rfl,rfl⟩)|((with_reducible refine Ba K7 (.agg BU.toArray) hcs rfl ?_);intro BZ Az FB;rw [qK] at Az;have Cc:=aa Az;have Ad:=aa (Dh.o.below Ao.o FB);have FC:=aa Ad.o.files;rw [<- BO.o] at FC;have IK:=aa Ad.o.kJ.size;clear Az FB)|(at_builtin;have _t:=Cc;go_must ((with_reducible refine vg 65 _ 2 32 underlying22 K7.info K7.zs bn.heap.size gm n gV (cK fI kQ) FC.o 1 BU (.slice (some ⟨AA.heap.size,0,none⟩) 1 1) (Src.slice underlying22 Cc.o) I1 ?_ ?_ ?_ ?_ ?_);exact mV;omega;exact IK.o;exact⟨rfl,rfl⟩;intro Bb Bc Dj Be Ae FF;obtain⟨IL,IM,IP⟩:=hq3 Be Ae FF;obtain⟨J,I⟩:=ai (Oe eO bW none 0 0 gm n gV);obtain⟨Ur,Af⟩:=ai (J.set 3 (.slice Bb (n+1) Bc));have Bf:=aa (show aM Dj gy J 39 by rw [I,BO.o];exact (Ae.block _ Ad.o.rep.lt fun e=>Ad.o.files.ne Ad.o.rep dc e.symm).trans Ad.o.rep);have Bg:Sz 22 1:=kr;have Bh:3+1<=J.length:=(by rw [I];exact aQF 4);have Bi:(Value.slice Bb (n+1) Bc).oneCell'=true:=rfl;have Bj:=Af.symm;have Dk:=aa (show Ur=Oe eO bW none 0 0 Bb (n+1) Bc by rw [Af,I];rfl);clear Be Ae FF I Af))|((with_reducible refine A8 3 (.slice Bb (n+1) Bc) Bf.o Bg Bh Bi Bj ?_);intro FI FJ FK;have IQ:=aa FJ;have IU:=aa FK;clear FJ FK Bg Bh Bi Bj));go_roundg (gk - 1);case rel =>
     obtain⟨eP,hf⟩:=Ad.o.file Ao.o (x:=(p,Av)) (by have:=IL.o;rw [BO.o,Hr.o] at this;exact this) IM.o IP.o (by rw [Dk.o,BO.o];rfl) IQ.o IU.o Ex.o Di.o F6.o;exact⟨q+1,F3,eP,Bb,Bc,kQ++[(p,Av)],om,by go_num,hf⟩
    case measure=>omega
   | false =>
    have Di:=aa (show Ku c.W p=none from Es.o);by_cases AB:CY=1;case' pos=>subst AB
    case' neg =>
     have JN:decide (CY=1)=false:=aRo AB;have JO:(CY == 1)=false:=by simpa using AB
     clear AB
    all_goals
     go_wp2_with fail;go_roundg (gk - 1);case rel=>exact⟨q+1,F3,IA,gm,gV,kQ,om,by go_num,Dh.o.next Ex.o Di.o F6.o⟩
     case measure=>omega
  ·have Hm:¬ (q:Int) < BD:=om;obtain⟨OL,nm,FO⟩:=AZ.o.done Ao.o;have IV:=aa FO;have FP:=aa (show kQ=QH k.W k.fP by rw [AZ.o.eq,GQ.o,List.take_of_length_le (by rw [<- CJ.o];omega)]);have IX:=aa (show C9 k.W k.dN True (xD k.W (xL (fun _=>false) (fun _=>false))) (xD k.W σ) σ.got σ.dY from by
    have IZ:∀ i,k.dN i->σ.begun i=true:=fun i ay=>by
     obtain⟨p,aI,hm⟩:=ay;obtain⟨j,aC⟩:=List.mem_iff_getElem?.1 (GV.o p aI);exact AZ.o.begun j p (by have h1:=(aQL.1 aC).1;rw [<- CJ.o] at h1;omega) aC i (by rw [Gc.o];exact hm)
    have h:=AZ.o.st.inv;have e:=Gi.o;subst e;exact h.built fun _=>IZ);have EN:=(Ct.o wr g1 (Eo.o wr AZ.o.kJ).1).1;clear FO BP;go_wp2_with fail;go_loopg [65] bW (fun gk DU af=>∃ (q:Nat) (bV:aRV) (rc ll:Nat) (jY:aRW),q+gk=bW/\DU = .int .i64 q/\ll<=q/\Ez c l bn gy eO bW kQ gm gV σ OL nm q af bV rc ll jY);case atStart=>exact⟨0,none,0,0,[],om,rfl,om,IV.o⟩
   case round =>
    obtain⟨eG,bV,rc,ll,jY,JR,rfl,JS,aC⟩:=hrel;have Aa:=aa aC;clear aC;by_cases BP:eG < bW
    ·have Ia:(eG:Int) < bW:=om;have JU:(0:Int)<=eG:=om;have Ie:wr.cell? (ad X 4)=some (.map (some l.pF)):=by rw [<- Em.o];exact Aa.o.ac8.cell 4
     obtain⟨pF,Dp⟩:=ai l.pF;have Ag:=Aa.o.map.look_ok Yz (show eG < 1000 by omega) underlying110 iN kr;rw [<- Dp] at Ag Ie;obtain⟨cz,AP⟩:=ai (tX (σ.got eG) (OL eG));have Ce:cz.length=4:=by rw [AP];exact Qr _ _
     have Cf:Sz 63 cz.length:=by rw [Ce];exact kr
     have Dq:∀ v∈cz,v.oneCell'=true:=by rw [AP];unfold tX;split <;> simp [jd,iN,Value.oneCell']
     cases av:σ.got eG with
     | none =>
      rw [av] at AP Ag;have Ig:(Instr.lookup 110 (.map (some pF)) (.int .i64 (eG:Int)) true).run prog wr = .ok (.tuple #[.agg cz.toArray,.bool false]) wr:=by rw [AP];exact Ag
      have BF:=aa av;clear Ag AP Dp av;go_wp2_with (first|((with_reducible refine qR cz Ce Cf Dq ?_);intro AA AX _;have Bn:=aa (Aa.o.below AX.o)));go_roundg (gk - 1);case rel=>exact⟨eG+1,bV,rc,ll,jY,om,by go_num,om,Bn.o.skip BF.o⟩
      case measure=>omega
     | some o =>
      rw [av] at AP Ag;have Ig:(Instr.lookup 110 (.map (some pF)) (.int .i64 (eG:Int)) true).run prog wr = .ok (.tuple #[.agg cz.toArray,.bool true]) wr:=by rw [AP];exact Ag
      have BF:=aa av;have Ih:=aa (show cz=jd o (OL eG) from AP);clear Ag AP Dp av;obtain⟨Cg,Cj,Ii,Dr⟩:=nq2 (Dx eG σ OL bW) (Dx (eG+1) σ OL bW);have Ij:Cg.take (eG * 4)++cz++Cg.drop (eG * 4+cz.length)=Ii:=by rw [Cj,Dr,Ih.o];exact aNb BP BF.o
      have Ik:eG * 4+cz.length<=Cg.length:=by rw [Cj,Dx,pR,agK,List.length_range,Ce];omega
      have Il:=aa Cj;have Im:=aa Dr;have Ip:(Value.agg cz.toArray).cells.toList=cz:=qK _;clear Cj Dr;go_wp2_with (first|((with_reducible refine qR cz Ce Cf Dq ?_);intro AA AX Ca;have Bn:=aa (Aa.o.below AX.o);have JV:AA.cell? (ad gy 0)=some (.slice (some ⟨eO,0,none⟩) bW bW):=(by rw [Bn.o.rep.cell 0];rfl);have Iq:=aa (show aM AA eO Cg 63 by rw [Il.o];exact Bn.o.outs))|(with_reducible refine kG Ca.o underlying63 Cf ?_)|((with_reducible refine Ux (eG * 4) (.agg cz.toArray) Iq.o Ip Cf Ik Dq Ij ?_);intro BZ Az FR;have FU:=aa (Bn.o.store Im.o Az FR);have JW:BZ.cell? (ad gy 1)=some (.slice bV ll rc):=(by rw [FU.o.rep.cell 1];rfl);clear Az FR)|((with_reducible refine Ba VQ (.int .i64 (eG:Int)) rfl rfl ?_);intro Dj FV FW;have FX:=aa (show Rd Dj 1 (some ⟨BZ.heap.size,0,none⟩) 1 [.int .i64 (eG:Int)] from FV);have Ah:=aa (FU.o.below FW);have Ir:=aa Ah.o.kJ.size;have Iu:=aa Ah.o.dY;clear FV FW)|(at_builtin;have _t:=FX;go_must ((with_reducible refine vg 3 _ 1 8 underlying37 VQ.info VQ.zs bn.heap.size bV ll rc jY Iu.o 1 [.int .i64 (eG:Int)] (.slice (some ⟨BZ.heap.size,0,none⟩) 1 1) (Src.slice underlying37 FX.o) (by simp [Value.oneCell']) ?_ ?_ ?_ ?_ ?_);exact mV;omega;exact Ir.o;exact⟨rfl,rfl⟩;intro Bp Bq FI Be Ae _;have Iw:=aa Be;have Iy:=aa Ae;obtain⟨J,I⟩:=ai (Oe eO bW bV ll rc gm kQ.length gV);obtain⟨Ur,Af⟩:=ai (J.set 1 (.slice Bp (ll+1) Bq));have Bf:=aa (show aM FI gy J 39 by rw [I];exact (Ae.block _ Ah.o.rep.lt fun e=>Ah.o.dY.ne Ah.o.rep dc e.symm).trans Ah.o.rep);have Bg:Sz 37 1:=kr;have Bh:1+1<=J.length:=(by rw [I];exact Nat.le_add_left 2 2);have Bi:(Value.slice Bp (ll+1) Bq).oneCell'=true:=rfl;have Bj:=Af.symm;have Dk:=aa (show Ur=Oe eO bW Bp (ll+1) Bq gm kQ.length gV by rw [Af,I];rfl);clear Be Ae I Af))|((with_reducible refine A8 1 (.slice Bp (ll+1) Bq) Bf.o Bg Bh Bi Bj ?_);intro JX FY Fa;have J3:=aa (Ah.o.push Iw.o Iy.o Dk.o FY Fa);clear FY Fa Bg Bh Bi Bj));go_roundg (gk - 1);case rel=>exact⟨eG+1,Bp,Bq,ll+1,_,om,by go_num,om,J3.o⟩
      case measure=>omega
    ·have Ia:¬ (eG:Int) < bW:=om;have e:eG=bW:=om;subst e;obtain⟨J,I⟩:=ai (Oe eO eG bV ll rc gm kQ.length gV);have Bf:=aa (show aM wr gy J 39 by rw [I];exact Aa.o.rep);have Fe:J.length=Td.length:=by rw [I];rfl
     have Dt:Sz 39 J.length:=by rw [Fe];exact EH.o
     have J4:∀ v∈J,v.oneCell'=true:=by rw [I];simp [Oe,Value.oneCell']
     have Fh:=aa (Eo.o wr Aa.o.kJ).2;have J5:=aa I;clear I BP;go_wp2_with (first|(with_reducible refine kG Bf.o underlying39 Dt ?_)|((with_reducible refine vF J Fh.o Dt Fe J4 ?_);intro BZ Cc Fj));refine Eg Cc.o underlying39 rfl Dt ⟨rfl,rfl,rfl⟩ ?_;have h1:=Aa.o.aNe Fh.o Fj.o;rw [FP.o] at h1;rw [J5.o,FP.o];have e:=Gb.o;refine⟨σ,eO,bV,gm,ll,rc,gV,by rw [<- e];rfl,by rw [<- e];exact h1,IX.o,oO (Hl.o wr Aa.o.kJ) Fj.o (by have:=EM.o;have:=Ga.o;omega)⟩
theorem aNy {k:jE} {bF:Nat->Bool} {has:ak->Bool} {wJ bR zJ:bE} {ac3 ib:aRZ} {Nf Li:aR1} (hf:FD k) (h1:IW k false bF has wJ ac3) (ag:IW k true wJ.bF wJ.has bR ib) (au:C9 k.W k.dN True Nf Li zJ.got zJ.dY):bR.got=zJ.got/\(∀ i∈bR.dY,i < k.dA.length/\acZ (wJ.got i)≠1)/\bR.dY.length<=k.dA.length/\tF k.W bR k.fP=QH k.W k.fP:=by
 have J:∀ i,i∈bR.dY->i < k.dA.length:=fun i I=>avc (hf.fit true [] (fun _=>false) (fun _=>false) ⟨0,0,0,⟨none,0,none,0,none,0⟩,⟨0,0,0,0,0,0⟩,0,0⟩) (ag.inv.reach i (ag.log.begun i (aRd _ I)));have M:C9 k.W k.dN False (xD k.W (xL bF has)) (xD k.W (xL wJ.bF wJ.has)) wJ.got wJ.dY:=h1.inv.built fun h=>h.elim;refine⟨C9.same ag.ends au,fun i I=>⟨J i I,?_⟩,abQ _ _ (List.nodup_append.1 ag.log.nodup).1 J,aNa fun p aI j hm=>?_⟩
 ·cases av:wJ.got i with
  | none=>exact (by decide:(0:Nat)≠1)
  | some o=>exact C9.again M ag.ends I av
 ·have ae:=ag.full rfl p aI j hm;cases av:bR.got j with
  | none=>have:=(ag.inv.under j).2 ⟨ae,av⟩;cases this
  | some o=>rw [(ag.inv.right j o av).1]
theorem aNz (w:aRU) (k:jE) (bX:x8) (keep:Bool) (hk:IY k) {B0:Nat} (dR:uW w B0) (bf:B0<=w.heap.size) (hA:∀ W:World,(∀ q,q < w.heap.size->W.heap[q]?=w.heap[q]?)->wY W k bX) :
  CB 5 #[.agg (qy k bX keep).toArray] w (.bool true):=by
 obtain⟨Av,Az,Y,Ag,WF,BB⟩:=nq3 (qy k bX keep) (qy k bX true) (qy k bX false);obtain⟨aH,BC⟩:=ai (w.alloc (.cells Av.toArray 26));have Ad:=gQ BC;have CG:=kY BC;have EO:Av.length=4:=by rw [Az];rfl
 have BR:Y.length=4:=by rw [Ag];rfl
 have ES:WF.length=4:=by rw [BB];rfl
 have CJ:Sz 26 Av.length:=by rw [EO];exact kr
 have CK:Sz 26 Y.length:=by rw [BR];exact kr
 have ET:Sz 26 WF.length:=by rw [ES];exact kr
 have EU:∀ v∈Y,v.oneCell'=true:=by rw [Ag];simp [qy,Value.oneCell']
 have EX:Y.set 3 (.bool false)=WF:=by rw [Ag,BB];rfl
 have EY:Sz 4 1:=kr;have Ea:=aa (show Calls prog 6 #[.agg Av.toArray,.slice none 0 0] aH (axw aH k bX) from by
  rw [Az];exact aMf aH k bX keep hk (dR.below (Ad.mono bf)) (aQG bf Ad.size) fun W h=>hA W fun q I=>(h q (aQJ I Ad.size)).trans (Ad.block q I));have CL:=aa (fun W (ae:Bl w W)=>aMX W (dR.below (ae.mono bf)) (aQG bf ae.size));have BD:=aa (fun W (ae:Bl w W)=>show uW W B0/\B0<=W.heap.size from ⟨dR.below (ae.mono bf),aQG bf ae.size⟩);obtain⟨CQ,CS,Ec,Ee,BS,Ef⟩:=hq6 hA hk CG Ad Ag BB;rw [<- Az];have Ei:=BC.symm;clear BC Ad CG hk dR bf hA Az Ag BB;go_enter func5,ntmps5;go_upto_region 2 with (first|(with_reducible refine kG Ec.o underlying26 CJ ?_)|(go_at_call 6; refine Ea.o.mono ?_;rintro e aD ⟨CU,v,b,rfl,CV⟩;have Ej:=aa CV;have AP:=aa (aU Ee.o CU);clear CV CU))
 cases b with
 | false =>
  go_wp2_with (first|(go_at_call 7; refine jr (CL.o aD AP.o) ?_;intro BF AQ));go_ret;exact⟨rfl,aU AP.o AQ.o⟩
 | true =>
  obtain⟨BU,Ah,CW,A,c,rfl,BX⟩:=Ej.o rfl;have BG:=CS.o.fit BU Ah;have CX:=axv CS.o BU Ah CW;obtain⟨b,o,El,_⟩:=BX.rd.2 dc;subst El;have Em:=aa (show Own aD aH.heap.size 26 4 (some ⟨b,o,none⟩) 1 c Y by rw [BS.o];exact BX);have En:=aa (axN (w:=aD) (X:=k.X) (F:=k.files) (met:=rM k) (BD.o aD AP.o).1 (BD.o aD AP.o).2);have BZ:=aa BG;have Eo:=aa (fun (W:aRU) (h:FH aD.heap.size aD W)=>show wY W k bX from CQ.o W fun q I=>(h q (aQJ I AP.o.size)).trans (AP.o.block q I));have CY:=aa (fun (Er:Bool) (W:aRU) (S:uC) (aF:aR1) (bF:Nat->Bool) (has:ak->Bool) (av:Ml W k.X k.files S aF (rM k) bF has B0) (bY:aD.heap.size<=S.je/\aD.heap.size<=S.gs/\aD.heap.size<=S.lT/\aD.heap.size<=W.heap.size) (hw:FH aD.heap.size aD W)=>axM (keep:=Er) BG CX Ah av bY hw Eo.o);have Es:=aa (fun W (ae:Bl w W)=>show Calls prog 18 #[.agg Y.toArray] W (axX W k) from by
   rw [BS.o];exact aNh W k bX true (fun aY ag=>CQ.o aY fun q I=>(ag q (aQJ I ae.size)).trans (ae.block q I)) BG (BD.o W ae).1 (BD.o W ae).2 Ah);clear BU Ah CW BX BG CX Ei;go_upto_region 5 with (first|(go_at_call 8; refine En.o.mono ?_;rintro e BF ⟨S,rfl,CZ,Ca,Cc⟩;obtain⟨Ce,AZ,AQ⟩:=hq3 CZ Ca Cc;obtain⟨jN,Bb⟩:=ai S.jN;rw [Ep,<- Bb];have Cf:=aa Bb;clear CZ Ca Cc Bb))
  have Bc:=aa (fun (W:aRU) (h:FH aD.heap.size aD W)=>show (loadVar 26 ⟨b,o,none⟩).run prog W = .ok (.agg Y.toArray) W from aM8 (Em.o.rd.heap h) rfl rfl BR);have Cg:=aa (show FH aD.heap.size aD BF from fun q I=>AQ.o.block q I);have Ev:=aa (Bc.o BF Cg.o);have Cj:=aa Ce.o.src.ano;go_upto_region 9 with (first|((with_reducible refine pO Ev.o ?_ ?_);exact rfl)|((with_reducible refine qR Y BR CK EU ?_);intro bn Ew Ck;obtain⟨g6,Be⟩:=ai BF.heap.size;rw [<- Be] at Ck |-;have Ex:=aa Be;clear Be)|((with_reducible refine A8 3 (.bool false) Ck.o EY om rfl EX ?_);intro F3 Cm Co;have F4:=aa Cm;have F5:=aa Co;clear Cm Co))
  have AU:=aa (oO Ew.o F5.o (by rw [Ex.o];exact aQF _));have F6:=aa (Cg.o.of AU.o AQ.o.size);have FB:=aa (by
   have h:=CY.o false F3 S _ _ _ (Ce.o.all AU.o) ⟨AZ.o.1,AZ.o.2.1,AZ.o.2.2,aQG AQ.o.size AU.o.size⟩ F6.o;rw [Ep,<- Cf.o,<- Ef.o] at h;exact h);go_upto_region 10 with (first|(with_reducible refine kG F4.o underlying26 ET ?_)|(go_at_call 9; refine FB.o.mono ?_;rintro e FC ⟨AV,FF,BH,rfl,Ak⟩;have AA:=aa Ak;obtain⟨BK,Al⟩:=ai (Eu k.dA.length AV.dY.length FF.length (tF k.W AV k.fP).length BH);rw [<- Al];have Cr:BK.length=4:=(by rw [Al];rfl);have FI:Sz 39 BK.length:=(by rw [Cr];exact kr);have FJ:∀ v∈BK,v.oneCell'=true:=(by rw [Al];simp [Eu,Value.oneCell']);have FK:=aa Al;clear Al Ak)|((with_reducible refine qR BK Cr FI FJ ?_);intro BL Ae Ct;obtain⟨g8,Bf⟩:=ai FC.heap.size;rw [<- Bf] at Ct |-;have FO:=aa Bf;clear Bf))
  have Cu:=aa (aQG (aQG AQ.o.size AU.o.size) (aQG AA.o.but.size Ae.o.size));have Cv:=aa (AA.o.heap.of Ae.o (aQG (aQG AQ.o.size AU.o.size) AA.o.but.size));have FP:=aa (Bc.o BL Cv.o);have FR:=aa (show Calls prog 9 #[.agg Y.toArray,.iface 90 (pp jN 0)] BL fun e w'=>∃ σ aW L,e = .returned (.tuple #[.agg (Eu k.dA.length σ.dY.length aW.length (tF k.W σ k.fP).length L).toArray,.int .i64 0])/\ahq BL k true S (rM k) AV.bF AV.has B0 aD.heap.size aD σ aW L w' from by
   obtain⟨aF,av⟩:=AA.o.go;have h:=CY.o true BL S _ _ _ (av.all Ae.o) ⟨AZ.o.1,AZ.o.2.1,AZ.o.2.2,Cu.o⟩ Cv.o;rw [Ep,<- Cf.o,<- BS.o] at h;exact h);go_upto_region 11 with (first|((with_reducible refine pO FP.o ?_ ?_);exact rfl)|(go_at_call 9; refine FR.o.mono ?_;rintro e FU ⟨bR,ib,BN,rfl,Ak⟩;have AB:=aa Ak;obtain⟨Aa,Am⟩:=ai (Eu k.dA.length bR.dY.length ib.length (tF k.W bR k.fP).length BN);rw [<- Am];have D8:Aa.length=4:=(by rw [Am];rfl);have DF:Sz 39 Aa.length:=(by rw [D8];exact kr);have FV:∀ v∈Aa,v.oneCell'=true:=(by rw [Am];simp [Eu,Value.oneCell']);have DI:=aa Am;clear Am Ak)|((with_reducible refine qR Aa D8 DF FV ?_);intro Bg Ac DJ;obtain⟨g10,Bh⟩:=ai FU.heap.size;rw [<- Bh] at DJ |-;have Gb:=aa Bh;clear Bh))
  have DN:=aa (show Bl w Bg from by
   have DR:=aU AP.o AQ.o;have Bi:=aU DR AU.o;have Bj:=AP.o.size;have bY:=AZ.o;have FW:=Bi.trans (AA.o.but.below Bi.size ⟨om,om,om⟩);have Bn:=aU FW Ae.o;have FX:=Bn.trans (AB.o.but.below Bn.size ⟨om,om,om⟩);exact aU FX Ac.o);have FY:=aa (AB.o.heap.of Ac.o (aQG Cu.o AB.o.but.size));have Fa:=aa (Bc.o Bg FY.o);have Fe:=aa (Es.o Bg DN.o);go_upto_region 12 with (first|((with_reducible refine pO Fa.o ?_ ?_);exact rfl)|(go_at_call 18; refine Fe.o.mono ?_;rintro e Fh ⟨Gc,DT,DU,Db,Dc,De,Dg,rfl,Dh,Di,Dj⟩;obtain⟨Fj,Fq,Fu⟩:=hq3 Dh Di Dj;obtain⟨AX,Ao⟩:∃ V:List Value,V=[.slice (some ⟨DT,0,none⟩) k.dA.length k.dA.length,.slice DU Dc De,.slice none 0 0,.slice Db (QH k.W k.fP).length Dg]:=⟨_,rfl⟩;have Dk:(#[.slice (some ⟨DT,0,none⟩) k.dA.length k.dA.length,.slice DU Dc De,.slice none 0 0,.slice Db (QH k.W k.fP).length Dg]:Array Value)=AX.toArray:=(by rw [Ao]);rw [Dk];have Dp:AX.length=4:=(by rw [Ao];rfl);have Dq:Sz 39 AX.length:=(by rw [Dp];exact kr);have Fv:∀ v∈AX,v.oneCell'=true:=(by rw [Ao];simp [Value.oneCell']);have Fy:=aa Ao;clear Dk Ao Dh Di Dj)|((with_reducible refine qR AX Dp Dq Fv ?_);intro J Dr Dt;obtain⟨g12,Du⟩:=ai Fh.heap.size;rw [<- Du] at Dt |-;clear Du))
  obtain⟨Dv,BO,Dw,Bp⟩:=aNy BZ.o AA.o.built AB.o.built Fq.o;have Af:=aU Fu.o Dr.o;have Fz:=aa (((AB.o.but.row Ct.o (by have:=FO.o;have:=Cj.o;have:=AU.o.size;have:=AA.o.but.size;omega)).all Ac.o).all Af);have Dz:=aa (DJ.o.all Af);have G8:=aa (show Mk J k.dA.length AV.got (tF k.W AV k.fP) BH.eO BH.gm from by
   have DR:=AU.o.size;have Gd:=AA.o.but.size;have Bi:=Ae.o.size;have Bn:=AB.o.but.size;have Gg:=Ac.o.size;have Gi:=Cj.o;exact (AA.o.rep.keep (W':=J) fun q h1 ag=>(Af.block q om).trans ((Ac.o.block q om).trans ((AB.o.but.keep q om om om om).trans (Ae.o.block q ag)))).rep);have BP:=AB.o.rep.keep (W':=J) fun q _ ag=>(Af.block q (by have:=Ac.o.size;omega)).trans (Ac.o.block q ag);have G9:=aa (show Rd J 1 BN.bV bR.dY.length (Bo bR.dY) from BP.dY.rd);have GD:=aa (show CB 16 #[.agg Aa.toArray,.agg AX.toArray] J (.bool true) from by
   have ag:=BP.rep;have Bj:=Fj.o.all Dr.o;have ax:=aM7 BZ.o AB.o.built;rw [<- Dv,<- Bp] at Bj;rw [DI.o,Fy.o,<- Bp];exact aMN J ag Bj ax _ _ _ _ ⟨rfl,rfl,rfl,rfl⟩ _ _);have E5:=aa BO;obtain⟨bW,Ap,ll,Aq,bV,Bq,rc,E8,eO,Br⟩:=nq5 k.dA.length bR.dY.length BN.bV BN.rc BH.eO;rw [<- Ap] at Dw BO;have Gm:bW<=10:=by rw [Ap];exact BZ.o.kE.nZ
  rw [<- Aq] at Dw;have E9:=aa (fun W (ae:Bl J W)=>show W.cell? (ad g8 0)=some (.slice (some ⟨eO,0,none⟩) bW bW)/\W.cell? (ad g10 1)=some (.slice bV ll rc)/\Rd W 1 bV ll (Bo bR.dY)/\∀ i,i < bW->W.cell? ⟨eO,i * 4,none⟩=some (.int .i64 (acZ (AV.got i))) from by
   refine⟨?_,?_,by rw [Bq,Aq];exact G9.o.gz ae,fun i ay=>by rw [Br];exact (G8.o.all ae).kind (by rw [<- Ap];exact ay)⟩
   ·rw [(Fz.o.all ae).cell 0,FK.o,Ap,Br];rfl
   ·rw [(Dz.o.all ae).cell 1,DI.o,Bq,Aq,E8];rfl);have EA:=aa (aU DN.o Af);have GG:=aa Aq;have E5:=aa BO;clear Dv BO Bp BP Af Ap Aq Bq E8 Br;go_upto_region 15 with (first|((with_reducible refine Lh g10 0 Aa Aa _ Dz.o sp _ underlying39 DF ?_ ?_);exact⟨⟨_,_,rfl,rfl,rfl⟩,rfl,rfl⟩)|((with_reducible refine Lh g12 0 AX AX _ Dt.o sp _ underlying39 Dq ?_ ?_);exact⟨⟨_,_,rfl,rfl,rfl⟩,rfl,rfl⟩)|(go_at_call 16; refine GD.o.mono ?_;rintro e Bt ⟨rfl,C8⟩;have GH:=aa C8;obtain⟨_,GI,_,_⟩:=E9.o Bt C8;clear C8))
  go_loopg [70] ll (fun gk GK wr=>∃ q:Nat,q+gk=ll/\GK = .int .i64 q/\Bl Bt wr);case atStart=>exact⟨0,om,rfl,Below.refl _ _⟩
  case round =>
   obtain⟨q,I,rfl,EC⟩:=hrel;have EF:=aa EC;clear EC GI;have ae:=aU GH.o EF.o;have EG:=aa ae;by_cases CF:q < ll
   ·have GL:(q:Int) < ll:=om;have Gn:(0:Int)<=q:=om;obtain⟨i,ah⟩:∃ x,bR.dY[q]?=some x:=⟨_,aQI (by rw [<- GG.o];exact CF)⟩;obtain⟨fQ,EH⟩:=E5.o i (aQK ah);obtain⟨Gp,_,EJ,EK⟩:=E9.o wr ae;obtain⟨GQ,GV,rfl,EL⟩:=EJ.2 om;have Gq:wr.cell? (ad GQ (GV+q))=some (.int .i64 i):=EL q _ (by rw [Bo,List.getElem?_map,ah];rfl);have GX:=EK i fQ;obtain⟨EM,EN⟩:=ai (acZ (AV.got i));rw [<- EN] at GX EH;have Gs:(i:Int) < bW:=om;have CJ:(0:Int)<=i:=om;have Gt:¬ (i:Int) < 0:=om;have CK:¬ bW<=i:=om;have BP:((EM:Int) == 1)=false:=by simpa using (show ¬ (EM:Int)=1 by omega)
    clear ah EJ EK EL EN EH ae CF;go_wp2_with fail;go_roundg (gk - 1);case rel=>exact⟨q+1,om,by go_num,EF.o⟩
    case measure=>omega
   ·have GL:¬ (q:Int) < ll:=om;clear ae CF;go_wp2_with (first|(go_at_call 7; refine jr (CL.o wr (aU EA.o EG.o)) ?_;intro Gu Ga));go_ret;exact⟨rfl,aU (aU EA.o EG.o) Ga.o⟩
end
section
open Go.ChangeAt Go.ChangeShapes Go.RowKit Go.WideShapes
variable {H:Type} {enc:TypeId × Value->H} {P:Program}
theorem aNT:ownKnob prog.godebug=none:=kr
theorem ayo (hl:laidOutB P=true) {W':aRU} (ae:Bl W W'):∀ (ts:List TypeId) (vs:aRW) (zf:List (DataW H)) (p:List MemPlace),(∀ t∈ts,P.readableRec t=true/\t < P.types.size) ->
  DataW.TrodAll enc P W 0 (fun _=>true) true ts vs zf p->(∀ x∈p,x.block < W.heap.size)->DataW.TrodAll enc P W' 0 (fun b=>decide (b < W.heap.size)) true ts vs zf p
 | [],[],[],_,_,h,_=>h
 | t :: ts,v :: vs,d :: zf,_,I,⟨p,q,h1,M,rfl⟩,J =>
  ⟨p,q,Below.trod hl (I t sp).1 (I t sp).2 h1 ae (fun x ah=>J x (by simp [ah])),ayo hl ae ts vs zf q (fun Y AA=>I Y (by simp [AA])) M (fun x ah=>J x (by simp [ah])),rfl⟩
 | [],[],_ :: _,_,_,h,_=>h.elim
 | [],_ :: _,_,_,_,h,_=>h.elim
 | _ :: _,[],_,_,_,h,_=>h.elim
 | _ :: _,_ :: _,[],_,_,h,_=>h.elim
theorem aNU {f:Func} {s:ChangeSpec} {W':aRU} {args:Array Value} {zf gs:List (DataW H)} {before:List MemPlace} {Pz:TypeId}
  (hl:laidOutB P=true) (xw:(f.params.toList.all fun t=>P.readableRec t && decide (t < P.types.size))=true) (anA:f.resultTypes=#[Pz]) (aNV:P.underlying Pz=some .bool) (oq:s.vars=[])
  (dn:DataW.Whole enc P f.params.toList s.vars false W args.toList zf gs before)
  (yO:s.fn H (zf++gs)={ results:=[.lit (.bool true)],args:=zf }) (ae:Bl W W'):s.post enc P f false true false false W args (.bool true) W':=by
 have I:=dn.lt;have J:=dn;obtain⟨p,q,hA,M,rfl,AA,AB⟩:=dn;rw [oq] at M;obtain⟨rfl,rfl⟩:=trodVars_none M;rw [List.append_nil] at I J;refine⟨zf,[],p,[],p,[],J,?_,?_,?_,World.keptBut_mono (fun x ah=>⟨ah,Or.inr (Or.inl ah)⟩) (ae.frame _),fun h=>nomatch h⟩
 ·rw [yO,anA];exact trodAll_cons_mk (shut_bool aNV _) trodAll_mk0
 ·rw [yO];exact ayo hl ae _ _ _ _ (fun t Y=>by have:=aRe.1 xw t Y;simpa using this) hA I
 ·rw [yO,oq];exact rfl
end
section
open Go.ChangeAt Go.ChangeShapes Go.RowKit Go.WideShapes
variable {H:Type} {enc:TypeId × Value->H} {W:aRU}
theorem aNW:∀ d:DataW H,1<=Rows.uptoBulk d
 | .lit (.string _)=>by simp [Rows.uptoBulk]
 | .lit (.int _ _)=>by simp [Rows.uptoBulk]
 | .lit (.bool _)=>by simp [Rows.uptoBulk]
 | .lit (.float _ _)=>by simp [Rows.uptoBulk]
 | .lit .nil=>by simp [Rows.uptoBulk]
 | .nil=>by simp [Rows.uptoBulk]
 | .ptr d=>by simp [Rows.uptoBulk]
 | .slice _ _=>by simp [Rows.uptoBulk]
 | .agg _=>by simp [Rows.uptoBulk]
 | .iface _ _=>by simp [Rows.uptoBulk]
 | .map _=>by simp [Rows.uptoBulk]
 | .held _=>by simp [Rows.uptoBulk]
theorem ayp:∀ {l:List (DataW H)} {d:DataW H},d∈l->Rows.uptoBulk d<=Rows.uptoBulkAll l
 | y :: l,d,h=>by
  rw [Rows.uptoBulkAll];rcases aQN.1 h with rfl | h
  ·omega
  ·have:=ayp h;omega
theorem ayq:∀ l:List (DataW H),l.length<=Rows.uptoBulkAll l
 | []=>by simp
 | d :: l=>by
  have h1:=ayq l;have I:=aNW d;rw [Rows.uptoBulkAll,List.length_cons];omega
theorem aNX {α:Type} {f:α->List Value} {k:Nat} (hf:∀ y,(f y).length=k) (hk:0 < k) {l:List α} {j:Nat} {u:Value} (h:(cK f l)[j]?=some u):∃ i y r,l[i]?=some y/\r < k/\(f y)[r]?=some u/\j=i * k+r:=by
 have aC:=(aQL.1 h).1;rw [aag hf] at aC;have Y:j / k < l.length:=Nat.div_lt_of_lt_mul (by rw [Nat.mul_comm];exact aC);obtain⟨y,hy⟩:∃ y,l[j / k]?=some y:=⟨_,aQI Y⟩;have I:j % k < k:=Nat.mod_lt _ hk;have J:j % k < (f y).length:=by rw [hf];exact I
 have M:=Lc hf hy (j % k) _ (aQI J);have e:j / k * k+j % k=j:=by rw [Nat.mul_comm];exact Nat.div_add_mod j k
 rw [e,h] at M;exact⟨j / k,y,j % k,hy,I,by rw [List.getElem?_eq_getElem J,<- M],e.symm⟩
theorem ahy {α:Type} {t e:TypeId} {f:α->List Value} {k:Nat} {Q:α->Nat->Prop} (az:prog.underlying t=some (.slice e)) (hc:prog.cellsOf e=k) (hf:∀ y,(f y).length=k) (hk:0 < k) (aNY:∀ y a b,Q y a->a<=b->Q y b)
  (Cg:∀ (n:Nat) (cs:aRW) (x:DataW H × List MemPlace),DataW.trod enc prog W 0 (fun _=>true) true n e cs=some x->∃ y,cs=f y/\Q y (Rows.uptoBulk x.1)) {n:Nat} {x:DataW H × List MemPlace} (bg:DataW.trod enc prog W 0 (fun _=>true) true n t [v]=some x) :
  ∃ (A:aRV) (c:Nat) (l:List α),v = .slice A l.length c/\Rd W k A l.length (cK f l)/\l.length<=Rows.uptoBulk x.1/\l.length<=maxLen/\∀ y∈l,Q y (Rows.uptoBulk x.1):=by
 rcases Go.Deep.open_slice az bg with ⟨h1,_⟩ | ⟨a,len,cap,m,Af,D,Ag,h1,_,Ah,Ak,hm,ah,AU⟩
 ·exact⟨none,0,[],by simpa using h1,Rd.none_ _ _ _,aQQ _,aQQ _,fun y hy=>by cases hy⟩
 ·have Al:len<=m:=by rw [hm];split <;> omega
  have ae:∀ i,i < len->Rows.uptoBulk (D i)<=Rows.uptoBulk x.1:=fun i I=>by
   have M:=ayp (l:=(List.range len).map D) (aQO.2 ⟨i,aQ3.2 I,rfl⟩);rw [ah,Rows.uptoBulk];omega
  have AV:len<=Rows.uptoBulk x.1:=by have M:=ayq ((List.range len).map D);rw [List.length_map,List.length_range] at M;rw [ah,Rows.uptoBulk];omega
  have AB:∀ i,i < len->∃ y:α,W.cells? 0 (a.add (i * k)) k=some (f y)/\Q y (Rows.uptoBulk x.1):=fun i I=>by
   obtain⟨cs,hcs,AX⟩:=AU i om;obtain⟨y,rfl,hy⟩:=Cg _ _ _ AX;rw [hc] at hcs;exact⟨y,hcs,aNY y _ _ hy (ae i I)⟩
  cases len with
  | zero=>exact⟨some a,cap,[],by simpa using h1,Rd.none_ _ _ _,aQQ _,aQQ _,fun y hy=>by cases hy⟩
  | succ len =>
   obtain⟨AZ,_⟩:=AB 0 om;haveI:Inhabited α:=⟨AZ⟩;obtain⟨V,Y⟩:=Go.Deep.choose_lt (α:=α) (p:=fun i y=>W.cells? 0 (a.add (i * k)) k=some (f y)/\Q y (Rows.uptoBulk x.1)) AB;have AA:((List.range (len+1)).map V).length=len+1:=by simp
   have AP:∀ i y,((List.range (len+1)).map V)[i]?=some y->i < len+1/\y=V i:=fun i y h=>by
    rw [List.getElem?_map] at h;obtain⟨q,Aa,rfl⟩:=Option.map_eq_some_iff.1 h;obtain⟨I,AQ⟩:=aQL.1 Aa;rw [List.getElem_range] at AQ;subst AQ;exact⟨by simpa using I,rfl⟩
   refine⟨some a,cap,(List.range (len+1)).map V,by rw [AA];simpa using h1,⟨aag hf _,fun Am=>?_⟩,by rw [AA];exact AV,by rw [AA];omega,fun y hy=>?_⟩
   ·obtain⟨b,o,sp⟩:=a;have J:=(World.cells?_some (Y 0 om).1).2.2 0 hk;cases sp with
    | some x =>
     exfalso;have hs:(f (V 0))[0]?=some ((f (V 0))[0]'(by rw [hf];exact hk)):=aQI _;rw [Addr.add,Addr.add,hs] at J;unfold World.cell? at J;split at J
     ·simp at J
     ·simp at J
    | none =>
     refine⟨b,o,rfl,fun j u hu=>?_⟩;obtain⟨i,y,r,M,Ac,Ad,rfl⟩:=aNX hf hk hu;obtain⟨I,rfl⟩:=AP i y M;have:=(World.cells?_some (Y i I).1).2.2 r Ac;rw [Ad,Dy,Dy] at this;rw [<- this,Nat.add_assoc]
   ·obtain⟨i,I⟩:=aRA hy;obtain⟨Ae,rfl⟩:=AP i y I;exact (Y i Ae).2
theorem ahz {n:Nat} {x:DataW H × List MemPlace} (h:DataW.trod enc prog W 0 (fun _=>true) true n 9 cs=some x):∃ s:ak,cs=[.string (aA s)]/\s.length<=Rows.uptoBulk x.1:=by obtain⟨s,rfl,rfl,_⟩:=DataW.trod_string underlying9 h;exact⟨s.data.toList,by rw [Y3],by simp [Rows.uptoBulk]⟩
def ahA (s:ak):List Value:=[.string (aA s)]
theorem an7:∀ l:List ak,cK ahA l=cB l
 | []=>rfl
 | x :: l=>by
  have:=an7 l;rw [cK,List.flatMap_cons,cB,List.map_cons] at *;rw [show List.flatMap ahA l=cK ahA l from rfl,an7 l];rfl
theorem ahB {n:Nat} {x:DataW H × List MemPlace} (bg:DataW.trod enc prog W 0 (fun _=>true) true n 24 [v]=some x) :
  ∃ (A:aRV) (c:Nat) (l:List ak),v = .slice A l.length c/\Rd W 1 A l.length (cB l)/\l.length<=Rows.uptoBulk x.1/\l.length<=maxLen/\∀ y∈l,y.length<=Rows.uptoBulk x.1:=by
 have:=ahy (f:=ahA) (Q:=fun s b=>s.length<=b) underlying24 kr (fun _=>rfl) dc (fun _ _ _ h1 I=>aQG h1 I) (fun n cs x h=>ahz h) bg;simpa only [an7] using this
theorem open_pair {t:TypeId} {f0 f1:Field} (az:prog.underlying t=some (.struct #[f0,f1])) (ag:prog.cellsOf t=2) (CF:f0.type = 9 /\ f0.offset=0) (bD:f1.type = 9 /\ f1.offset=1) {n:Nat} {x:DataW H × List MemPlace} (h:DataW.trod enc prog W 0 (fun _=>true) true n t cs=some x) :
  ∃ y:ak × ak,cs=fI y/\(y.1.length<=Rows.uptoBulk x.1/\y.2.length<=Rows.uptoBulk x.1):=by
 obtain⟨Y,AA,m,rfl,hl,I,h1⟩:=trod_struct2 az h;have hs:prog.cellsOf 9 = 1:=kr;rw [ag] at hl;rw [CF.1,CF.2,hs] at I;rw [bD.1,bD.2,hs] at h1;obtain⟨v0,v1,rfl⟩:∃ v0 v1,cs=[v0,v1]:=by
  match cs,hl with
  | [v0,v1],_=>exact⟨v0,v1,rfl⟩
 obtain⟨s0,J,z0⟩:=ahz (show DataW.trod enc prog W 0 (fun _=>true) true m 9 [v0]=some Y from I);obtain⟨s1,M,AB⟩:=ahz (show DataW.trod enc prog W 0 (fun _=>true) true m 9 [v1]=some AA from h1);refine⟨(s0,s1),?_,?_⟩
 ·simp only [List.cons.injEq,and_true] at J M;rw [J,M];rfl
 ·simp only [Rows.uptoBulk,Rows.uptoBulkAll];omega
theorem ays:∀ l:List (ak × ak),cK fI l=KS l
 | []=>rfl
 | x :: l=>by
  rw [cK,List.flatMap_cons,show List.flatMap fI l=cK fI l from rfl,ays l];rfl
def YQ (W:aRU) (y:kH) (b:Nat):Prop:=KV W y.1 y.2/\(y.2.env.length<=b/\y.2.ins.length<=b/\y.2.asks.length<=b/\y.2.outs.length<=b/\y.2.tool.length<=b)/\(∀ z∈y.2.ins,z.length<=b)/\(∀ z∈y.2.asks,z.length<=b)/\(∀ z∈y.2.outs,z.length<=b)/\∀ z∈y.2.env,z.1.length<=b/\z.2.length<=b
theorem YQ.mono {y:kH} {a b:Nat} (h:YQ W y a) (ae:a<=b):YQ W y b:=by obtain⟨h1,AB,M,Y,AA,J⟩:=h;exact⟨h1,om,fun z I=>aQG (M z I) ae,fun z I=>aQG (Y z I) ae,fun z I=>aQG (AA z I) ae,fun z I=>⟨aQG (J z I).1 ae,aQG (J z I).2 ae⟩⟩
theorem aNZ {n:Nat} {x:DataW H × List MemPlace} (bg:DataW.trod enc prog W 0 (fun _=>true) true n 43 [v]=some x) :
  ∃ (A:aRV) (c:Nat) (l:List (ak × ak)),v = .slice A l.length c/\Rd W 2 A l.length (KS l)/\l.length<=Rows.uptoBulk x.1/\l.length<=maxLen/\∀ y∈l,y.1.length<=Rows.uptoBulk x.1/\y.2.length<=Rows.uptoBulk x.1:=by
 have:=ahy (k:=2) (f:=fI) (Q:=fun s b=>s.1.length<=b/\s.2.length<=b) underlying43 kr (fun _=>rfl) dc (fun _ _ _ h1 I=>⟨aQG h1.1 I,aQG h1.2 I⟩) (fun n cs x h=>open_pair underlying194 kr ⟨rfl,rfl⟩ ⟨rfl,rfl⟩ h) bg;simpa only [ays] using this
theorem aN0 {n:Nat} {x:DataW H × List MemPlace} (bg:DataW.trod enc prog W 0 (fun _=>true) true n 22 [v]=some x) :
  ∃ (A:aRV) (c:Nat) (l:List (ak × ak)),v = .slice A l.length c/\Rd W 2 A l.length (cK fI l)/\l.length<=Rows.uptoBulk x.1/\l.length<=maxLen/\∀ y∈l,y.1.length<=Rows.uptoBulk x.1/\y.2.length<=Rows.uptoBulk x.1 :=
 ahy (f:=fI) (Q:=fun s b=>s.1.length<=b/\s.2.length<=b) underlying22 kr (fun _=>rfl) dc (fun _ _ _ h1 I=>⟨aQG h1.1 I,aQG h1.2 I⟩) (fun n cs x h=>open_pair underlying65 kr ⟨rfl,rfl⟩ ⟨rfl,rfl⟩ h) bg
theorem aN1 {n:Nat} {x:DataW H × List MemPlace} (hf:DataW.trod enc prog W 0 (fun _=>true) true n 45 cs=some x):∃ y:kH,cs=vH y/\YQ W y (Rows.uptoBulk x.1):=by
 obtain⟨xs,m,rfl,rfl,hlen,Ad,AQ⟩:=DataW.trod_struct underlying45 hf;have Ae:prog.cellsOf 45 = 7:=kr;have AV:prog.cellsOf 28 = 2:=kr;have hcs:prog.cellsOf 9 = 1:=kr;have Af:prog.cellsOf 43 = 1:=kr;have Ag:prog.cellsOf 24 = 1:=kr;rw [Ae] at hlen;match cs,hlen,xs,Ad with
 | [v0,v1,v2,v3,v4,v5,v6],_,[AP,I,J,M,Y,AA],_ =>
  have t0:DataW.trod enc prog W 0 (fun _=>true) true m 28 ((List.drop 0 [v0,v1,v2,v3,v4,v5,v6]).take (prog.cellsOf 28))=some AP:=AQ 0 _ rfl;have t1:DataW.trod enc prog W 0 (fun _=>true) true m 9 ((List.drop 2 [v0,v1,v2,v3,v4,v5,v6]).take (prog.cellsOf 9))=some I:=AQ 1 _ rfl;have t2:DataW.trod enc prog W 0 (fun _=>true) true m 43 ((List.drop 3 [v0,v1,v2,v3,v4,v5,v6]).take (prog.cellsOf 43))=some J:=AQ 2 _ rfl;have t3:DataW.trod enc prog W 0 (fun _=>true) true m 24 ((List.drop 4 [v0,v1,v2,v3,v4,v5,v6]).take (prog.cellsOf 24))=some M:=AQ 3 _ rfl;have t4:DataW.trod enc prog W 0 (fun _=>true) true m 24 ((List.drop 5 [v0,v1,v2,v3,v4,v5,v6]).take (prog.cellsOf 24))=some Y:=AQ 4 _ rfl;have t5:DataW.trod enc prog W 0 (fun _=>true) true m 24 ((List.drop 6 [v0,v1,v2,v3,v4,v5,v6]).take (prog.cellsOf 24))=some AA:=AQ 5 _ rfl;rw [AV] at t0;rw [hcs] at t1;rw [Af] at t2;rw [Ag] at t3 t4 t5;obtain⟨o,Ah,_⟩:=open_pair underlying28 AV ⟨rfl,rfl⟩ ⟨rfl,rfl⟩ (show DataW.trod enc prog W 0 (fun _=>true) true m 28 [v0,v1]=some AP from t0);obtain⟨s1,Ak,Al⟩:=ahz (show DataW.trod enc prog W 0 (fun _=>true) true m 9 [v2]=some I from t1);obtain⟨Am,KU,MB,rfl,Ao,Ap,vP,AX⟩:=aNZ (show DataW.trod enc prog W 0 (fun _=>true) true m 43 [v3]=some J from t2);obtain⟨Aq,j6,Jd,rfl,Av,Az,BB,BC⟩:=ahB (show DataW.trod enc prog W 0 (fun _=>true) true m 24 [v4]=some M from t3);obtain⟨BD,eY,Cz,rfl,BF,l8,BG,BH⟩:=ahB (show DataW.trod enc prog W 0 (fun _=>true) true m 24 [v5]=some Y from t4);obtain⟨BK,wN,AR,rfl,BL,BN,BO,BP⟩:=ahB (show DataW.trod enc prog W 0 (fun _=>true) true m 24 [v6]=some AA from t5);obtain⟨rfl,rfl⟩:v0 = .string (aA o.1)/\v1 = .string (aA o.2):=by simpa [fI] using Ah
  obtain⟨rfl⟩:v2 = .string (aA s1):=by simpa using Ak
  have BR:Rows.uptoBulk I.1<=Rows.uptoBulk (DataW.agg ([AP,I,J,M,Y,AA].map (·.1)))/\Rows.uptoBulk J.1<=Rows.uptoBulk (DataW.agg ([AP,I,J,M,Y,AA].map (·.1)))/\Rows.uptoBulk M.1<=Rows.uptoBulk (DataW.agg ([AP,I,J,M,Y,AA].map (·.1)))/\Rows.uptoBulk Y.1<=Rows.uptoBulk (DataW.agg ([AP,I,J,M,Y,AA].map (·.1)))/\Rows.uptoBulk AA.1<=Rows.uptoBulk (DataW.agg ([AP,I,J,M,Y,AA].map (·.1))):=by simp only [List.map_cons,List.map_nil,Rows.uptoBulk,Rows.uptoBulkAll];omega
  obtain⟨fo,AU,AZ,Aa,Ac⟩:=BR;exact⟨(⟨aA o.1,aA o.2,Am,Aq,BD,BK,KU,j6,eY,wN⟩,⟨s1,MB,Jd,Cz,AR⟩),rfl,⟨Ao,Av,BF,BL,vP,BB,BG,BO⟩,⟨aQG Ap AU,aQG Az AZ,aQG l8 Aa,aQG BN Ac,aQG Al fo⟩,fun z AB=>aQG (BC z AB) AZ,fun z AB=>aQG (BH z AB) Aa,fun z AB=>aQG (BP z AB) Ac,fun z AB=>⟨aQG (AX z AB).1 AU,aQG (AX z AB).2 AU⟩⟩
theorem aOd {n:Nat} {x:DataW H × List MemPlace} (bg:DataW.trod enc prog W 0 (fun _=>true) true n 23 [v]=some x) :
  ∃ (A:aRV) (c:Nat) (l:List kH),v = .slice A l.length c/\Rd W 7 A l.length (aae l)/\l.length<=Rows.uptoBulk x.1/\l.length<=maxLen/\∀ y∈l,YQ W y (Rows.uptoBulk x.1) :=
 ahy (f:=vH) (Q:=YQ W) underlying23 kr (fun _=>rfl) dc (fun _ _ _ h1 I=>h1.mono I) (fun n cs x h=>aN1 h) bg
theorem aOe {DN:Nat} {d:DataW H} {p:List MemPlace} (h:DataW.Trod enc prog W 0 (fun _=>true) true 26 v d p) (hval:Value.okWide prog W .any DN 26 v) (ae:Rows.uptoBulk d<=1048576) :
  ∃ (k:jE) (bX:x8) (keep:Bool),v = .agg (qy k bX keep).toArray/\wY W k bX/\IY k:=by
 obtain⟨fuel,hf⟩:=h;have AX:∃ cs:Array Value,v = .agg cs:=by unfold Value.okWide at hval;rw [underlying26] at hval;obtain⟨cs,rfl,_⟩:=hval;exact⟨cs,rfl⟩
 obtain⟨⟨l⟩,rfl⟩:=AX;have hf:DataW.trod enc prog W 0 (fun _=>true) true fuel 26 l=some (d,p):=hf;obtain⟨xs,m,rfl,ah,hlen,AZ,I⟩:=DataW.trod_struct underlying26 hf;have Aa:prog.cellsOf 26 = 4:=kr;have Ac:prog.cellsOf 22 = 1:=kr;have Ad:prog.cellsOf 23 = 1:=kr;have Ae:prog.cellsOf 24 = 1:=kr;have Af:prog.cellsOf 4 = 1:=kr;rw [Aa] at hlen;match l,hlen,xs,AZ with
 | [v0,v1,v2,v3],_,[J,M,Y,AA],_ =>
  have t0:DataW.trod enc prog W 0 (fun _=>true) true m 22 ((List.drop 0 [v0,v1,v2,v3]).take (prog.cellsOf 22))=some J:=I 0 _ rfl;have t1:DataW.trod enc prog W 0 (fun _=>true) true m 23 ((List.drop 1 [v0,v1,v2,v3]).take (prog.cellsOf 23))=some M:=I 1 _ rfl;have t2:DataW.trod enc prog W 0 (fun _=>true) true m 24 ((List.drop 2 [v0,v1,v2,v3]).take (prog.cellsOf 24))=some Y:=I 2 _ rfl;have t3:DataW.trod enc prog W 0 (fun _=>true) true m 4 ((List.drop 3 [v0,v1,v2,v3]).take (prog.cellsOf 4))=some AA:=I 3 _ rfl;rw [Ac] at t0;rw [Ad] at t1;rw [Ae] at t2;rw [Af] at t3;obtain⟨Ag,Ah,AB,rfl,Ak,BD,_,AP⟩:=aN0 (show DataW.trod enc prog W 0 (fun _=>true) true m 22 [v0]=some J from t0);obtain⟨Al,eY,Cz,rfl,Am,l8,_,AQ⟩:=aOd (show DataW.trod enc prog W 0 (fun _=>true) true m 23 [v1]=some M from t1);obtain⟨Ao,Ap,AU,rfl,Aq,BF,_,Av⟩:=ahB (show DataW.trod enc prog W 0 (fun _=>true) true m 24 [v2]=some Y from t2);obtain⟨keep,Az,_⟩:=DataW.trod_bool underlying4 (show DataW.trod enc prog W 0 (fun _=>true) true m 4 [v3]=some AA from t3);obtain rfl:v3 = .bool keep:=by simpa using Az
  have BB:d = .agg ([J,M,Y,AA].map (·.1)):=congrArg Prod.fst ah;rw [BB] at ae;simp only [List.map_cons,List.map_nil,Rows.uptoBulk,Rows.uptoBulkAll] at ae;have DN:Rows.uptoBulk J.1<=1048576:=om;have fo:Rows.uptoBulk M.1<=1048576:=om;have BC:Rows.uptoBulk Y.1<=1048576:=om;have AV:=fun y hy=>(AQ y hy).mono fo;exact⟨⟨AB,Cz,AU⟩,⟨Ag,Ah,Al,eY,Ao,Ap⟩,keep,rfl,⟨Ak,⟨Am,fun y hy=>(AQ y hy).1⟩,Aq⟩,⟨⟨by show AB.length<=_;omega,fun y hy=>⟨aQG (AP y hy).1 DN,aQG (AP y hy).2 DN⟩,by show Cz.length<=_;omega,fun y hy=>(AV y hy).2.1,by show AU.length<=_;omega⟩,fun y hy=>aQG (Av y hy) BC,fun y hy=>(AV y hy).2.2⟩⟩
end
section
open Go.ChangeAt Go.ChangeShapes Go.RowKit Go.WideShapes
theorem aOk (h:W.ShapedOpen prog):qQ W:=Tryz.tlSplit.s1_3 W h
theorem aOl {a b c d:String × DataW Unit} (h:laidMet prog [a,b,("internal/strconv.uint64pow10",Lib.tabData .u64 Lib.pow10Tab),c,d] W):Lib.TabBelow prog W.heap.size W "internal/strconv.uint64pow10" .u64 Lib.pow10Tab:=by have I:=h.tail.tail;refine Lib.tabBelow_of_tabIs ?_;exact Lib.tabIs_of_head (g:=3) (t:=351) (e:=168) (n:=20) kr kr underlying351 underlying168 kr kr I
theorem aOm (hl:qQ W) (az:Lib.TabBelow prog W.heap.size W "internal/strconv.uint64pow10" .u64 Lib.pow10Tab):uW W W.heap.size:=by refine⟨hl,?_,az⟩;obtain⟨m,hm⟩:=hl;exact aQR _ _ hm
end
namespace aOp
open Go.ChangeShapes Go.WideShapes Go.ChangeAt Go.RowKit
theorem reads (os:Os) {H:Type} (enc:TypeId × Value->H):∃ places,DataW.whole enc prog ((World.laidAll prog os Rows.topStopUptoRow.laid).forCall (fun _ _=>0) ⟨#[],#[.agg #[.slice none 0 0,.slice none 0 0,.slice none 0 0,.bool false]],[]⟩).memory Tryz.f5.params.toList Rows.topStopSpec.vars false #[Value.agg #[.slice none 0 0,.slice none 0 0,.slice none 0 0,.bool false]].toList 8=some ([.agg [.nil,.nil,.nil,.lit (.bool false)]],[],places) :=
 ⟨[],kr⟩
theorem lifted (os:Os) (started:os.Started) (H:Type) (enc:TypeId × Value->H) (F:Stop.Interp) :
  ReturnsInHanded {} Tryz.checked os 5 .any ((Rows.OpenSpec.upto Rows.topStopSpec).preRow enc prog Tryz.f5 Rows.topStopUptoRow.domain false Rows.topStopUptoRow.laid) (((Rows.OpenSpec.upto Rows.topStopSpec).at F).post enc prog Tryz.f5 false true false false):=by
 obtain⟨places,ah⟩:=reads os enc;have I:Input.okWideB prog ((World.laidAll prog os Rows.topStopUptoRow.laid).forCall (fun _ _=>0) ⟨#[],#[.agg #[.slice none 0 0,.slice none 0 0,.slice none 0 0,.bool false]],[]⟩) 5 ⟨#[],#[.agg #[.slice none 0 0,.slice none 0 0,.slice none 0 0,.bool false]],[]⟩=true:=kr;refine returnsInHanded_of_row (C:=Tryz.checked) (s:=Rows.OpenSpec.upto Rows.topStopSpec) aNT started kr func5
  ⟨World.laidAll prog os Rows.topStopUptoRow.laid,fun _ _=>0,⟨#[],#[.agg #[.slice none 0 0,.slice none 0 0,.slice none 0 0,.bool false]],[]⟩,World.laidAll_os _ _ _,World.shaped_of_ZipB kr kr,(Input.okWide_of_okWideB (base:=0) I).1,(Input.okWide_of_okWideB I).2,
   OpenSpec.preRow_of_cond 8 ah kr (fun k hk=>by cases hk;exact kr) kr (by rw [MakeChecks.laidMetH_plain _ _ _ kr];exact laidMet_laidAll _ kr kr),by
    simp only [Assume.holds];exact⟨by simp,by simp,fun _=>Modest.zero,by simp,by simp⟩⟩ ?_;intro W base args zf gs before Y J _ AA _ AB AP _;have hval:∀ (j:Nat) t v,Tryz.f5.params[j]?=some t->args[j]?=some v->Value.okWide prog W .any base t v:=Y;have hk:=of_decide_eq_true (AA _ rfl);have AQ:=J;obtain⟨p,q,AU,AV,rfl,Ag,Ah⟩:=J;have hA:DataW.TrodAll enc prog W 0 (fun _=>true) true Tryz.f5.params.toList args.toList zf p:=AU;rw [params5] at hA hval;obtain⟨rfl,rfl⟩:=trodVars_none AV;obtain⟨v0,Ak,d0,Al,Am,Ao,Ap,rfl,rfl,AX,AZ⟩:=trodAll_cons hA;obtain⟨rfl,rfl,rfl⟩:=trodAll_nil AZ;obtain rfl:args=#[v0]:=by cases args;simp_all
 have Aa:Rows.uptoBulk d0<=1048576:=by simp only [List.append_nil,Rows.uptoBulkAll] at hk;omega
 obtain⟨k,bX,keep,rfl,Ac,Ad⟩:=aOe AX (hval 0 26 v0 rfl rfl) Aa;have M:=AB;rw [MakeChecks.laidMetH_plain _ _ _ kr] at M;have Ae:=aOm (aOk AP) (aOl M);refine (aNz W k bX keep Ad Ae (aQF _) fun aY Af=>Ac.heap Af).mono fun e aY ⟨he,av⟩=>?_;subst he;exact⟨_,rfl,aNU kr kr (by first | rfl | exact kr) underlying4 rfl AQ rfl av⟩
end aOp
namespace aOp
open Go.ChangeShapes Go.WideShapes Go.ChangeAt Go.RowKit
theorem named : Tryz.pinned.checked.prog.funcNamed Rows.topStopUptoRow.func = some 5 := by exact kr
theorem facts : joinedFacts Tryz.pinned.checked.prog 5 Tryz.f5 (Rows.OpenSpec.upto Rows.topStopSpec).bare Rows.topStopUptoRow = true := by exact kr
theorem over : Rows.TopStopUptoSaid :=
  OpenClaim.holds_of_cond 5 Tryz.f5 rfl rfl rfl rfl rfl rfl rfl ⟨rfl, rfl, rfl, rfl, rfl⟩ rfl rfl rfl rfl rfl named func5 facts
    (of_decide_eq_true kr) (by unfold Func.isWrapper; first | (rw [if_pos (by decide +kernel)]; exact kr) | (rw [if_neg (by decide +kernel)]; exact ⟨rfl, rfl⟩))
    (fun os started H enc _ F => by rw [OpenClaim.pre_eq_preRow]; exact lifted os started H enc F)
theorem plain (f : FuncId) (fn : Func) (hf : Tryz.pinned.checked.prog.funcNamed "bloomery/bloomerytop.TopStop" = some f) (yO : Tryz.pinned.checked.prog.funcs[f]? = some fn) :
    false = Tryz.pinned.checked.prog.looks [] /\ ∀ (j : Nat) t, fn.params[j]? = some t -> Tryz.pinned.checked.prog.wantsStandIn t = false := by
  obtain rfl : f = 5 := aRb ((show prog.funcNamed "bloomery/bloomerytop.TopStop" = some 5 by exact kr).symm.trans hf) |>.symm
  obtain rfl : fn = Tryz.f5 := (aRb (func5.symm.trans yO)).symm;refine ⟨kr, fun j t I => ?_⟩;rw [params5] at I;have hm : t ∈ [26] := by simpa using Array.mem_of_getElem? I
  have J : ([26].all fun u => !prog.wantsStandIn u) = true := by exact kr
  exact (show prog.wantsStandIn t = false by simpa using aRe.1 J t hm)
end aOp
section
theorem topStop_proved : Rows.TopStopUptoCardSaid :=
  Claim7.holds_tied_plain_at .later [] _ _ _ _ aOp.over (fun _ h => by cases h) kr (fun _ h => by cases h) topStopUpto_row_tie rfl ⟨rfl, rfl⟩ kr rfl aOp.plain kr
end
end Go.Proofs.YtjkinjbkknanbaaGreatDoor
