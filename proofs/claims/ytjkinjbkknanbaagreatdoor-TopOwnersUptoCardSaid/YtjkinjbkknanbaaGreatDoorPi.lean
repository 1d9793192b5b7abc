/- Pi -/
import Derived.Test.YtjkinjbkknanbaaGreatDoorPh
set_option maxRecDepth 100000
set_option maxHeartbeats 8000000
set_option linter.unusedSimpArgs false
set_option linter.unusedVariables false
namespace Go.Proofs.YtjkinjbkknanbaaGreatDoor
open Go.Proofs.Tryz
variable {w w1 af w' W aC W':aRB}
variable {i bu base aO c2 k g j g6 m:Nat}
variable {v:Value}
variable {c:dL}
variable {σ σ':bI}
variable {aW us:aRG}
variable {aI:aRI}
variable {l:Dv}
variable {x:iP}
variable {bL:List dz}
variable {L:qh}
variable {KA A:aRC}
variable {xs Z:aRD}
variable {cs:Array Value}
variable {t ty:TypeId}
variable {bf:Nat × Nat}
section
open Go.Lib Go.Maps Go.RowKit Go.Shelf
theorem IJ.mono {n:Nat} {df:Nat->lI} {B N:Nat} (h:IJ w1 n df B i N v af) (hs:w.heap.size<=w1.heap.size):IJ w n df B i N v af:=by obtain⟨A,c,e,h1⟩:=h;refine⟨A,c,e,fun I=>?_⟩;obtain⟨L,J,M⟩:=h1 I;exact⟨L,J.mono hs,M⟩
section
variable {c:dL} {w:aRB} {σ:bI} {aW:aRG} {aI:aRI}
theorem wB.cells (h:wB c w σ aW aI):w.cell? (ad c.l.X 0)=some (.slice c.l.cK.A c.k.files.length c.l.cK.c)/\w.cell? (ad c.l.X 1)=some (.slice c.l.cK.B c.k.bZ.length c.l.cK.d)/\w.cell? (ad c.l.X 4)=some (Et c.l.S)/\w.cell? (ad c.l.X 5)=some (.slice (some ⟨c.l.zH,0,none⟩) c.n c.n)/\w.cell? (ad c.l.X 6)=some (.slice (some ⟨c.l.jA,0,none⟩) c.n c.n):=by obtain⟨cZ,rc,kQ,jy,h1,_⟩:=h.row;exact⟨h1.cell 0,h1.cell 1,h1.cell 4,h1.cell 5,h1.cell 6⟩
end
theorem ava (hc:c.Ok) {U:aRG} (hs:j6 c w U σ aW aI) {l:LJ} (aD:Cr c w l i x bL) (ay:i < c.n) (ah:c.k.bZ[i]?=some x) :
  Calls prog 118 #[pp l.bu 0,.agg (l6 (c.gm i)).toArray] w fun e w'=>∃ v,e = .returned v/\IJ w c.n c.df c.l.S.B i (if σ.bG i=true then 1 else 0) v w'/\Bl w w':=by
 obtain⟨N,Ab,dQ,AV⟩:=nq2 (if σ.bG i=true then 1 else 0) (l6 (c.gm i));obtain⟨aF,Ai⟩:=ai (w.alloc (.cells dQ.toArray 59));have AJ:=gQ Ai;have Au:=lH Ai;obtain⟨g3,Ak⟩:=ai w.heap.size;have hw:=(hs.fG.work w (fun _ _ _=>rfl)).bZ;have Bo:=hw.each x (aQr ah);have Aw:=afF hc ay;have Ay:=hc.kV.fair x (aQr ah);obtain⟨bu,KA,iq⟩:=l;simp only;obtain⟨X,aY,jN,Az,B,bg,jA,BA,Ad,Bp,on,AL⟩:=nq6 c.l.X c.l.S.jN c.l.S.B x.1.O x.1.wJ x.2.outs.length;have BF:=aa (fun af (ae:Bl aF af)=>show af.cell? (ad bu 0)=some (pp X 0)/\af.cell? (ad bu 8)=some (.slice jA on Ad)/\af.cell? (ad X 4)=some (.iface 90 (pp jN 0))/\aM af g3 dQ 59 from by
  have h1:=((aD.all AJ).all ae).row;have AB:=(((hs.all hc AJ).all hc ae).fG.cells).2.2.1;rw [aY,Az,BA,Bp,AL,Ak];exact⟨h1.cell 0,h1.cell 8,AB,Au.all ae⟩)
 have BG:=Bo.outs.gp AJ;rw [<- BA,<- AL] at BG;have Bq:=aa (ahR aF jA on Ad);obtain⟨w1,Al⟩:=ai (aF.alloc (.cells #[.slice jA on Ad] 24));have BH:=gQ Al;have Br:w1.heap[aF.heap.size]?=some (.cells #[.slice jA on Ad] 24 (0,0)):=by rw [Al];exact aQt aF _
 have BI:=apE w1 aF.heap.size jA Ad x.2.outs (by have:=Ay.outs;omega) (by rw [<- AL];exact Br) (by rw [<- AL];exact BG.gp BH);rw [<- AL] at BI;have DX:=aa BI;have BJ:=aa (show (rG x.2.outs).length=on by rw [DU,AL]);have DY:=aa (show on<=1000000 by have:=Ay.outs;omega);rw [<- Al] at Bq;obtain⟨SO,BK⟩:=ai (ny x.2.outs);have DZ:=aa (fun (W:aRB) (A:aRC) (Bt:Nat) (Da:Own W w1.heap.size 9 1 A on Bt (cu (rG x.2.outs)))=>by
  have:=ahQ W w1.heap.size A Bt (rG x.2.outs) (by rw [BJ.o];exact Da) (by rw [BJ.o];exact DY.o);rw [BJ.o,show compact (rG x.2.outs)=SO from BK.symm] at this;exact this)
 have Bu:=aa BH;have Db:=aa (fun af (ae:Bl aF af)=>show Calls prog 303 #[pp jN 0,.agg dQ.toArray] af fun e w'=>∃ v,e = .returned v/\IJ af c.n c.df B i N v w'/\Bl af w' from by
  have:=aH4 af ((hs.fG.src.all AJ).all ae) (aQn hc.base.2 (aQn hs.fG.size (aR AJ ae).size)) ay (abn c i) (by have:=Aw;omega);rw [<- AV,<- Ab,<- Az,<- bg] at this;exact this)
 have BL:0 < N->(bE c.W i).kind=1:=fun Y=>by
  rw [Ab] at Y;split at Y
  ·rename_i aT;exact hs.inv.bG i aT
  ·omega
 have Bv:i < c.X.length:=by simpa [dL.X,dL.n] using ay
 have ql:c.X.getD i mZ=x.2:=by obtain⟨y,h1,AB,_⟩:=ND c ay;rw [ah] at h1;cases h1;exact AB
 have Dc:=aa (fun (Y:0 < N)=>show (c.df i).outs.length=SO.length/\∀ (k:Nat) x y,(c.df i).outs[k]?=some x->SO[k]?=some y->x.1=y from by
  have h1:=(afv hc.work.small (BL Y)).1;rw [ql,<- BK] at h1;have AB:(c.df i).outs.map (·.1)=SO:=by rw [<- h1];show ((bE c.W i).outs.map uT).map (·.1)=_;rw [List.map_map];rfl
  refine⟨by rw [<- AB,List.length_map],fun k x y ah hy=>?_⟩;rw [<- AB,List.getElem?_map,ah] at hy;exact aQS hy)
 have De:=aa (fun (Y:0 < N)=>show Xh (c.df i) from afA hc.work Bv (BL Y));have Am:=aa AJ;have Df:=aa (show N<=1 by rw [Ab];split <;> omega);have Dg:=aa Aw;have Dh:=aa (show ∀ L,((gJ (c.df i) L).drop 0).take dQ.length=dQ from fun L=>by
  rw [AV,rf,List.drop_zero,gJ,List.take_append_of_le_length (by rw [rf];exact Nat.le_refl _),List.take_of_length_le (by rw [rf];exact Nat.le_refl _),aIG])
 have Dk:=aa (fun (W:aRB)=>show (binOp .eql 59 (.agg dQ.toArray) (.agg dQ.toArray)).run prog W = .ok (.bool true) W by
  have:=apQ (c.gm i) (c.gm i) (abn c i) (abn c i) W;rw [AV,H7 (abn c i),this];simp)
 have Dl:prog.eqGuardType prog.depth 59 = false:=kr;have Bw:(dQ.drop 0).take dQ.length=dQ:=by simp
 have BM:Sz 59 dQ.length:=by rw [AV,rf];exact kr
 have Dm:=aa (show aM aF g3 dQ 59 by rw [Ak];exact Au);rw [<- AV,<- Ab,<- bg];have Dp:=Ai.symm;have Dq:=Ak.symm;obtain⟨C8,C9,CE,_⟩:=BF.o aF (Below.refl _ _);clear hc hs aD ay ah Ab AV Ai AJ Au Ak hw Bo Aw Ay aY Az bg BA Bp AL BG BH Br BI BK BL Bv ql Al;go_enter func118,ntmps118;go_wp2_with (first
  | (go_at_call 48; refine Bq.o.mono ?_;rintro e Eg ⟨rfl,Dr⟩;obtain rfl:=Dr.symm)
  | (go_at_call 99; refine DX.o.mono ?_;rintro e af ⟨iD,c2,rfl,CJ,CK⟩;have CL:=aa CJ;have CS:=aa (aR Bu.o CK);clear CJ CK C8 C9 CE Dp)
  | (go_at_call 37; refine (DZ.o af iD c2 CL.o).mono ?_;rintro e A7 ⟨rfl,CU,CV⟩;have Dt:=aa CU;have Ae:=aa (CS.o.grown CV CS.o.size (fun k e=>aQn Bu.o.size (CL.o.block k e).1));clear CU CV))
 clear Dq;have kE:=aa fun af (aj:Bl A7 af)=>BF.o af (aR Ae.o aj);refine ng nE 11 [some (pp bu 0),some (pp bu 0),some (pp bu 0),some (pp X 0),some (pp X 0),some (pp X 4),some (.iface 90 (pp jN 0)),some (.agg dQ.toArray),none,some (.int .i64 N),some (.int .i64 0)] (fun j v af=>j=8->IJ w c.n c.df B i N v af) (Bl A7) Bl ((Below.refl _ A7).drew) (fun j v w1 af ae=>fun h e=>(h e).keep ae) ?_ (jJ:=?_)
 ·intro u af aj CW;obtain⟨cO,bF,CZ,Ca⟩:=(show 8=8->IJ w c.n c.df B i N (u 8) af from CW 8 om) rfl;clear CW;simp only [CZ];have Cb:=aa (aR Ae.o aj);have Dx:=aa Ca;have Dy:=aa (Dt.o.below aj (aQm _));clear aj Ca CZ;go_wp2_with fail;go_loopg [28,6] N (fun gk Dz E8 wr=>∃ (q:Nat) (A:aRC) (fe:Nat),q+gk=N/\Dz = .int .i64 q/\E8 = .slice A q fe/\Bl af wr/\(q=0->A=none/\fe=0)/\(0 < q->∃ L,Own wr aF.heap.size 224 34 A 1 fe (gJ (c.df i) L)/\oH wr B (c.df i) L));case atStart=>exact⟨0,none,0,om,rfl,rfl,Below.refl _ _,fun _=>⟨rfl,rfl⟩,fun h=>absurd h om⟩
  case round =>
   obtain⟨q,A,fe,Ei,rfl,rfl,AO,Ce,Cf⟩:=hrel;have Em:(0:Int)<=q:=om;by_cases En:q < N
   ·have E9:(q:Int) < N:=om;have Af:q=0:=by have:=Df.o;omega
    have Y:0 < N:=om;have Eo:q<=1:=om;obtain⟨rfl,rfl⟩:=Ce Af;obtain⟨I,Ag,AZ⟩:=Dx.o Y;have Ag:=Ag.below AO (aQm _);have AZ:=AZ.all AO;obtain⟨EB,BO,Ep,Er,rfl,Ao,Cg,_,_,Ci⟩:=Ag.at_ (by have:=Ag.2.1;omega);have Ah:=Pe (c.df i) I;have BP:=MW (c.df i) I;have hlen:=Ef (c.df i) I;have Ck:=aR Cb.o AO;have Cm:=aa (KT (W:=wr) (g:=EB) (o:=BO+q * 34) (V:=gJ (c.df i) I) (fun j v Cn=>by
     have aD:j < 1 * 34:=by have:=(aQs.1 Cn).1;rw [hlen] at this;omega
     rw [Af,show BO+0 * 34+j=BO+j by omega,World.cell?,Cg];exact (Ci j aD).trans Cn) underlying224 rfl Ah (Below.refl _ wr))
    obtain⟨V,Aa⟩:=ai (gJ (c.df i) I);rw [<- Aa] at Cm Ah BP hlen;obtain⟨AA,Ap⟩:=ai (wr.alloc (.cells V.toArray 224));have AP:=gQ Ap;have BQ:=lH Ap;have Co:=aR AO AP;have BX:=aR Ck AP;obtain⟨Aq,Cs⟩:=Dc.o Y;have ED:AA.cell? (ad wr.heap.size 33)=some (.slice I.B SO.length I.d):=by rw [<- Aq];exact afi (by rw [<- Aa];exact BQ)
    have EG:=aa (aH0 AA I.B iD I.d c2 SO.length (c.df i).outs SO (by rw [<- Aq];exact (AZ.all AP).outs.rd) (by exact ((Dy.o.below AO (aQm _)).below AP (aQm _)).rd) Aq rfl (by have:=Dg.o.2;omega) 167 #[] (enters_of func167 kr rfl) fun W ae k x y ah hy=>aH2 W x y (Cs k x y ah hy));have EH:=aa (fun W (ae:Bl AA W)=>by
     have:=aeH W (c.df i) I ((AZ.all AP).all ae).at_ (De.o Y);rw [<- Aa] at this;exact this)
    have EI:=aa BQ;have EK:=aa (fun W (ae:Bl AA W)=>show aM W g3 dQ 59 from Dm.o.all (aR BX ae));have EL:=aa BX;have Ct:=aa Co;have EM:=aa (fun W (ae:Bl AA W)=>show oH W B (c.df i) I from (AZ.all AP).all ae);have Es:(V.drop 0).take V.length=V:=by simp
    have Cv:=Dh.o I;rw [<- Aa] at Cv;have hcs:(Value.agg V.toArray).cells.size=34:=by simp [Value.cells,hlen]
    have Cw:Own AA aF.heap.size 224 34 none q 0 []:=by rw [Af];exact Own.nil _ _ _ _
    obtain⟨EO,EP,ER⟩:=hq3 Cw Aa Af;have EU:=Ap.symm;clear Ce Cf Ag AZ Ao Cg Ci AO Ck AP BQ Co BX Aq Cs Aa Ap Af Cw Y;go_wp2_with (first
     | ((with_reducible refine pY Cm.o ?_ ?_);exact rfl)
     | (with_reducible refine zo V hlen Ah BP ?_)
     | (go_at_call 166; refine EG.o.mono ?_;rintro e bS ⟨rfl,Bb⟩;have Cz:=aa Bb;have DD:=aa (EI.o.all Bb);clear Bb EU ED)
     | (with_reducible refine kv DD.o underlying224 Ah ?_)
     | (go_at_call 168; refine (EH.o bS Cz.o).mono ?_;rintro e A7 ⟨rfl,Bc⟩;have Bd:=aa (aR Cz.o Bc);have DF:=aa (DD.o.all Bc);have EW:=aa (EK.o A7 Bd.o);clear Bc)
     | ((with_reducible refine KW wr.heap.size 0 V dQ _ DF.o Cv _ underlying59 BM ?_ ?_);exact⟨⟨_,_,rfl,rfl,rfl⟩,rfl,rfl⟩)
     | ((with_reducible refine KW g3 0 dQ dQ _ EW.o Bw _ underlying59 BM ?_ ?_);exact⟨⟨_,_,rfl,rfl,rfl⟩,rfl,rfl⟩)
     | ((with_reducible refine arD dQ.toArray dQ.toArray (.bool true) Dl (Dk.o A7) ?_ ?_);exact⟨⟨_,_,rfl,rfl,rfl⟩,rfl,rfl⟩)
     | (with_reducible refine kv DF.o underlying224 Ah ?_)
     | ((with_reducible refine BV Rf (.agg V.toArray) hcs rfl ?_);intro EY Bf Bi;rw [qD] at Bf;have DL:=aa Bf;have Bn:=aa (aR Bd.o Bi);have EZ:=aa ((EO.o.below Bd.o (aQm _)).below Bi (aQm _));clear Bf Bi)
     | (at_builtin;have _t:=DL;go_must ((with_reducible refine ve 224 _ 34 80 underlying213 Rf.info Rf.zs aF.heap.size none q 0 [] EZ.o 1 V (.slice (some ⟨A7.heap.size,0,none⟩) 1 1) (Src.slice underlying213 DL.o) BP ?_ ?_ ?_ ?_ ?_);exact mO;omega;(have:=EL.o.size;have:=Bn.o.size;omega);exact⟨rfl,rfl⟩;intro A9 c9 Eu DN DR Ec;have Ee:=aa DN;have DW:=aa ((Below.refl _ EY).grown DR (aQm _) (fun k e=>by cases e));clear DN DR Ec)))
    go_roundg (gk - 1);case rel =>
     refine⟨q+1,A9,c9,om,by go_num,rfl,Ct.o.trans ((aR Bn.o DW.o).mono Ct.o.size),fun h=>absurd h om,fun _=>⟨I,?_,(EM.o _ (aR Bn.o DW.o))⟩⟩;have:=Ee.o;rw [List.nil_append,ER.o,EP.o] at this;exact this
    case measure=>omega
   ·have Ev:q=N:=om;have E9:¬ (q:Int) < N:=om;go_wp2_with fail;go_ret;refine⟨_,rfl,⟨A,fe,rfl,fun Y=>?_⟩,?_⟩
    ·obtain⟨L,h1,AB⟩:=Cf om;exact⟨L,h1.mono Am.o.size,AB⟩
    ·exact Am.o.trans ((aR Cb.o AO).mono Am.o.size)
 ·repeat' (first | exact trivial | apply And.intro)
  all_goals try exact rx
  all_goals intro eH u af aj aK bz K aS
  all_goals try simp [iY,Region.binds] at bz
  all_goals refine mf rfl ?_
  all_goals obtain⟨C8,C9,CE,kr⟩:=BF.o af (aR Ae.o aj)
  ·refine wp_load_row g3 0 dQ dQ _ kr Bw _ underlying59 BM ⟨rfl,by simp [Act.eval,aK],rfl⟩ ?_;exact aS _ _ rfl aj (Below.refl _ _)
  ·go_simp;refine (Db.o af (aR Ae.o aj)).mono ?_;rintro e aC ⟨v,rfl,h1,Ao⟩;exact aS _ _ (fun _=>(h1.mono (aQn Am.o.size (aQn Ae.o.size aj.size)))) (aR aj Ao) Ao
  ·obtain⟨A,fe,Ew,_⟩:=bz;go_simp;exact aS _ _ rfl aj (Below.refl _ _)
end
section
open Go.Maps Go.RowKit Go.Shelf
theorem aIO (hc:c.Ok) {U:aRG} (hs:j6 c w U σ aW aI) {l:LJ} (aD:Cr c w l i x bL) (ay:i < c.n) (aT:σ.bG i=true) (gY:oH w c.l.S.B (c.df i) L) :
  Calls prog 122 #[pp l.bu 0,.agg (gJ (c.df i) L).toArray] w fun e w'=>∃ A fe,e = .returned (.tuple #[.slice A (bE c.W i).outs.length fe,.bool true])/\Own w' w.heap.size 65 2 A (bE c.W i).outs.length fe (cz fO (bE c.W i).outs)/\Bl w w':=by
 obtain⟨Bn,Bo,Ab,Aw⟩:=L;have Ad:=gY.outs;simp only at Ad;obtain⟨os,AO⟩:=ai ((bE c.W i).outs);obtain⟨n,Y,Bp,Ae⟩:=nq2 os.length (gJ (c.df i) ⟨Bn,Bo,Ab,Aw⟩);obtain⟨aF,AP⟩:=ai (w.alloc (.cells Bp.toArray 224));have Ay:=gQ AP;have Az:=lH AP;obtain⟨bu,KA,iq⟩:=l;simp only;obtain⟨X,aY,jN,Af⟩:=nq2 c.l.X c.l.S.jN;have AV:(c.df i).outs=os.map uT:=by rw [AO];rfl
 have Bq:aF.cell? (ad w.heap.size 33)=some (.slice Ab n Aw):=by rw [show n=(c.df i).outs.length by rw [AV,List.length_map,Y]];exact afi (by rw [<- Ae];exact Az)
 have BA:Rd w 33 Ab n (cz mh (os.map uT)):=by have:=Ad.rd;rw [AV,List.length_map,<- Y] at this;exact this
 have DD:n<=200:=by have:=(afF hc ay).2;rw [AV,List.length_map,<- Y] at this;exact this
 have BF:∀ y∈os,σ.has y.2=true/\y.2.length<=65536/\y.1.length<=1100000:=fun y hy=>by
  rw [AO] at hy;have h1:=XM hc.work.small i y hy;obtain⟨z,Br,Bt,_⟩:=ND c ay;rw [Bt] at h1;exact⟨(hs.kept i aT).2 y hy,h1.1,(hc.kV.fair z (aQr Br)).zX _ h1.2⟩
 have BG:=aa (fun af (ae:Bl w af)=>show af.cell? (ad bu 0)=some (pp X 0)/\af.cell? (ad X 4)=some (.iface 90 (pp jN 0)) from by
  have h1:=(aD.all ae).row;have Bu:=((hs.all hc ae).fG.cells).2.2.1;rw [aY,Af];exact⟨h1.cell 0,Bu⟩)
 have Bv:=aa (fun af (ae:Bl w af) (y:ak) (hy:σ.has y=true)=>by
  have:=aH5 af (hs.fG.src.all ae) y hy;rw [<- Af] at this;exact this)
 have Bw:=aa Ay;have C8:=aa (fun af (ae:Bl w af)=>BA.gp ae);have C9:=aa BF;have Ag:=aa Y;rw [<- Ae,<- AO,<- Y];have CE:=AP.symm;clear hc hs aD ay aT gY Ad AO Y Ae AP Ay Az aY Af AV BA BF;go_enter func122,ntmps122;go_wp2_with fail;clear Bq CE;go_loopg [14,6] n (fun gk CJ CK wr=>∃ (q:Nat) (A:aRC) (fe:Nat),q+gk=n/\CJ = .int .i64 q/\CK = .slice A q fe/\Row w wr 65 2 A q fe (cz fO (os.take q)));case atStart=>exact⟨0,none,0,om,rfl,rfl,⟨Own.nil _ _ _ _,Bw.o⟩⟩
 case round =>
  obtain⟨q,A,fe,DF,rfl,rfl,AB⟩:=hrel;have Ah:=AB.low;have DL:(0:Int)<=q:=om;by_cases CL:q < n
  ·have CS:(q:Int) < n:=om;obtain⟨y,hy⟩:∃ y,os[q]?=some y:=⟨_,aQp (by rw [<- Ag.o];exact CL)⟩;obtain⟨BH,CU,hyp⟩:=C9.o y (aQr hy);have BI:(os.map uT)[q]?=some (uT y):=by rw [List.getElem?_map,hy];rfl
   obtain⟨DN,DR,rfl,Ai⟩:=vE (f:=mh) (k:=33) Ic underlying268 rfl kr (C8.o wr Ah) BI (by rw [List.length_map,<- Ag.o]);have BJ:=Um (uT y);have BK:=ZR (uT y);have hlen:=Ic (uT y);obtain⟨V,AZ,A7,AJ,S,AL,P,Ak⟩:=nq4 (mh (uT y)) (l6 (bN.sum y.2)) (az y.2) (az y.1);rw [<- AZ] at Ai BJ BK hlen;have BL:(V.drop 1).take A7.length=A7:=by rw [AZ,AJ,mh];simp [uT]
   have BM:Sz 59 A7.length:=by rw [AJ,rf];exact kr
   obtain⟨I,Aa⟩:=ai (wr.alloc (.cells V.toArray 268));have AA:=gQ Aa;have Al:=lH Aa;have Am:=aR Ah AA;have BO:=aa Am;have Ao:=aa Al;have CV:=aa (AB.on AA);have CW:=aa Ai;have CZ:=aa (fun af (ae:Bl I af)=>by
    have:=Bv.o af (aR Am ae) y.2 BH;rw [<- AJ,<- AL] at this;exact this)
   have Ca:=aa (fun (af:aRB)=>by
    have:=auy af (bN.sum y.2) (yB _) y.2 om;rw [<- AJ,<- AL,show (bN.sum y.2 == bN.sum y.2)=true by simp] at this;exact this)
   have BP:=aa (fun af (ae:Bl I af)=>show af.cell? (ad wr.heap.size 0)=some (.string P) from by
    rw [(Al.all ae).cell 0,AZ,Ak];rfl)
   have Cb:=aa hy;have Ce:=aa (show fO y=[.string P,.string S] by rw [Ak,AL];rfl);have Cf:¬ ((65536:Int) < S.size):=by rw [AL,iM];omega
   have DW:decide ((65536:Int) < S.size)=false:=aRd Cf;have Cg:∀ v∈[Value.string P,.string S],v.oneCell'=true:=by simp [Value.oneCell']
   have Ci:=aa (show prog.built 65 [(0,.string P),(1,.string S)]=some #[.string P,.string S] by exact kr);have BQ:=Aa.symm;clear Ai AB Ah BH CU hyp BI hy AZ AJ AL Ak Aa AA Al Am;go_wp2_with (first
    | ((with_reducible refine pY CW.o ?_ ?_);exact rfl)
    | (with_reducible refine zo V hlen BK BJ ?_))
   try rw [BQ]
   clear BQ;have kE:=aa fun af (aj:Bl I af)=>And.intro (BG.o af (aR BO.o aj)) (Ao.o.all aj);refine ng nE 14 [some (pp bu 0),some (pp bu 0),some (pp bu 0),some (pp X 0),some (pp X 0),some (pp X 4),some (.iface 90 (pp jN 0)),some (pp wr.heap.size 1),some (.agg A7.toArray),some (.tuple #[.string S,.bool true]),some (.tuple #[.string S,.bool true]),some (.string S),some (.bool true),some (.string S)] (fun _ _ _=>False) (Bl I) Bl ((Below.refl _ I).drew) (fun j v w1 af ae h=>h.elim) ?_ (jJ:=?_)
   ·intro u af aj Ck;clear Ck;have Cm:=aa aj;have Cn:=aa (Ao.o.all aj);have Co:=aa (CV.o.on aj);have BX:=BP.o af aj;clear aj;have hq6:q<=1000000:=om;go_wp2_with (first
     | ((with_reducible refine KW wr.heap.size 1 V A7 _ Cn.o BL _ underlying59 BM ?_ ?_);exact⟨⟨_,_,rfl,rfl,rfl⟩,rfl,rfl⟩)
     | (go_at_call 175; refine (Ca.o af).mono ?_;rintro e Cs ⟨rfl,Ap⟩;have Bb:=aa (aR Cm.o Ap);have Ct:=aa (Co.o.on Ap);clear BX;have BX:=BP.o Cs Bb.o;clear Ap)
     | ((with_reducible refine Rc (.string P) (.string S) _ Ci.o ?_ ?_);exact⟨rfl,rfl⟩)
     | ((with_reducible refine BV KM (.agg #[.string P,.string S]) rfl rfl ?_);intro DX Bc Aq;have Cv:=aa Bc;have DY:=aa (aR Bb.o Aq);have Cw:=aa (Ct.o.on Aq);clear Bc Aq)
     | (at_builtin;(with_reducible refine aqY KM w A q fe _ Cw.o _ [.string P,.string S] Cv.o Cg hq6 underlying22 ?_ ?_);exact⟨rfl,rfl⟩;intro A9 c9 DZ Bd;have Cz:=aa Bd;clear Bd))
    go_roundg (gk - 1);case rel =>
     refine⟨q+1,A9,c9,om,by go_num,rfl,?_⟩
     ·have:=Cz.o;rw [List.take_add_one,Cb.o,show cz fO (os.take q++(some y).toList)=cz fO (os.take q)++fO y by simp [cz],Ce.o];exact this
    case measure=>omega
   ·repeat' (first | exact trivial | apply And.intro)
    all_goals try exact rx
    all_goals intro eH u af aj aK bz K aS
    all_goals try simp [iY,Region.binds] at bz
    all_goals first | refine mf rfl ?_ | simp [Region.wanted,yielded,aK,bz] | simp [Region.wanted,yielded]
    all_goals obtain⟨Da,Db⟩:=BG.o af (aR BO.o aj)
    all_goals have kr:=Ao.o.all aj
    ·refine wp_load_row wr.heap.size 1 V A7 _ kr BL _ underlying59 BM ⟨rfl,by simp [Act.eval,aK,bz],rfl⟩ ?_;exact aS _ _ rfl aj (Below.refl _ _)
    ·go_simp;refine (CZ.o af aj).mono ?_;rintro e aC ⟨rfl,AA⟩;exact aS _ _ rfl (aR aj AA) AA
  ·have Bf:q=n:=om;have CS:¬ (q:Int) < n:=om;have Bi:=aa AB;have Au:=aa Bf;clear AB Bf;go_wp2_with fail;refine aQx (aQT rfl _ _ _) rfl ?_;have h1:=Bi.o.own;rw [List.take_of_length_le (by rw [Au.o,Ag.o];exact Nat.le_refl _),Au.o] at h1;exact⟨A,fe,by rw [Au.o];rfl,h1,Bi.o.low⟩
abbrev GD (L:Nat->Bool) (i:Nat):Nat->Bool:=oM L i true
structure l7 (l:Dv) (bu:Nat) (KA:aRC) (w w':aRB):Prop where
  os:w'.os=w.os
  tape:w'.tape=w.tape
  output:w'.output=w.output
  size:w.heap.size<=w'.heap.size
  keep:∀ k,k < l.T->k < w.heap.size->¬ l.C k->w'.heap[k]?=w.heap[k]?
  high:∀ (k:Nat) (o:Obj),w.heap[k]?=some o->l.T<=k->(∀ cs bf,o ≠ .cells cs 3 bf)->k≠bu->some k≠bV KA->w'.heap[k]?=w.heap[k]?
  calm:∀ (k:Nat) (cs:Array Value) (t:TypeId) (bf:Nat × Nat),w.heap[k]?=some (.cells cs t bf)->t∈XI->some k≠bV KA->w'.heap[k]?=w.heap[k]?
section
variable {l:Dv} {bu:Nat} {KA uB:aRC} {w w' af:aRB}
theorem l7.GG (h:Cq l w w'):l7 l bu KA w w':=⟨h.os,h.tape,h.output,h.size,h.keep,fun k o h1 I M _ _=>h.high k o h1 I M,fun k cs t bf h1 I _=>h.calm k cs t bf h1 I⟩
theorem l7.trans (h:l7 l bu KA w w') (k:l7 l bu uB w' af) (hf:∀ q,q < w.heap.size->some q≠bV KA->some q≠bV uB):l7 l bu KA w af :=
  ⟨k.os.trans h.os,k.tape.trans h.tape,k.output.trans h.output,aQn h.size k.size,fun j h1 I M=>(k.keep j h1 (aQq I h.size) M).trans (h.keep j h1 I M),
   fun j o h1 I M Y A7=>(k.high j o ((h.high j o h1 I M Y A7).trans h1) I M Y (hf j (ic h1) A7)).trans (h.high j o h1 I M Y A7),
   fun j cs t bf h1 I M=>(k.calm j cs t bf ((h.calm j cs t bf h1 I M).trans h1) I (hf j (ic h1) M)).trans (h.calm j cs t bf h1 I M)⟩
theorem l7.nP {dI:aRB} (h:l7 l bu KA w w') (aX:Cq l dI w) (MB:dI.heap.size<=bu) (aS:∀ q,bV KA=some q->dI.heap.size<=q):Cq l dI w' :=
  ⟨h.os.trans aX.os,h.tape.trans aX.tape,h.output.trans aX.output,aQn aX.size h.size,fun k h1 I M=>(h.keep k h1 (aQq I aX.size) M).trans (aX.keep k h1 I M),
   fun k o h1 I M=>(h.high k o ((aX.high k o h1 I M).trans h1) I M (fun e=>by have:=ic h1;omega) (fun e=>by have:=aS k e.symm;have:=ic h1;omega)).trans (aX.high k o h1 I M),
   fun k cs t bf h1 I=>(h.calm k cs t bf ((aX.calm k cs t bf h1 I).trans h1) I (fun e=>by have:=aS k e.symm;have:=ic h1;omega)).trans (aX.calm k cs t bf h1 I)⟩
theorem l7.dK (h:fU bu w w') (bY:l.T<=bu) (aB:∀ cs t bf,w.heap[bu]?=some (.cells cs t bf)->t ∉ XI):l7 l bu KA w w' :=
  ⟨h.1,h.2.1,h.2.2.1,aQL h.2.2.2.1.symm,fun k h1 _ _=>h.2.2.2.2 k om,fun k _ _ _ _ I _=>h.2.2.2.2 k I,fun k cs t bf h1 M _=>h.2.2.2.2 k fun e=>aB cs t bf (e ▸ h1) M⟩
theorem l7.grown (h:w.grownBy w' (bV KA)) (aS:∀ q,bV KA=some q->l.T<=q):l7 l bu KA w w' :=
  ⟨h.os,h.tape,h.output,h.size,fun k h1 I _=>h.block k I fun e=>by have:=aS k e.symm;omega,fun k _ h1 _ _ _ M=>h.block k (ic h1) M,fun k cs t bf h1 _ Y=>h.block k (ic h1) Y⟩
end
theorem Own.aIU (h:l7 l bu KA w w') {n:Nat} (aG:Own w base 80 aO A n c2 xs) (bJ:∀ q,bV A=some q->some q≠bV KA):Own w' base 80 aO A n c2 xs:=aG.keep fun b ae _ _=>by
  obtain⟨I,_,cur,bf,hc⟩:=aG.block b ae;exact h.calm b cur _ bf hc dc (bJ b ae)
def NG (w:aRB) (bu:Nat) (KA:aRC):Prop:=(∃ V,aM w bu V 158)/\∀ b,bV KA=some b->∃ cur bf,w.heap[b]?=some (.cells cur 80 bf)
theorem NG.afK {n iq:Nat} {V:aRD} (h1:aM w bu V 158) (ag:Own w base 80 3 KA n iq xs):NG w bu KA:=⟨⟨V,h1⟩,fun b ae=>(ag.block b ae).2.2⟩
section
variable {c:dL} {w w':aRB} {bu:Nat} {KA:aRC} (aD:NG w bu KA) (h:l7 c.l bu KA w w')
theorem l7.cells (aD:NG w bu KA) (h:l7 c.l bu KA w w') (hk:w.heap[k]?=some (.cells cs t bf)) (bY:c.l.T<=k) (h1:t ≠ 3) (ag:t ≠ 158) (au:t ≠ 80):w'.heap[k]?=w.heap[k]?:=by
  refine h.high k _ hk bY (fun Y I e=>?_) (fun e=>?_) fun e=>?_
  · injection e with _ e
    exact h1 e
  · obtain⟨V,M⟩:=aD.1
    rw [e,M] at hk;injection hk with hk
    injection hk with _ hk
    exact ag hk.symm
  · obtain⟨cur,I,ae⟩:=aD.2 k e.symm
    rw [hk] at ae;injection ae with ae
    injection ae with _ ae
    exact au ae
theorem l7.runs (aD:NG w bu KA) (h:l7 c.l bu KA w w'):Vd w w':=fun k cs t bf hk I=>h.calm k cs t bf hk (aQ4 _ I) fun e=>by
  obtain⟨cur,M,ae⟩:=aD.2 k e.symm;rw [hk] at ae;injection ae with ae
  injection ae with _ ae
  subst ae;exact absurd I dc
theorem aM.vP (aD:NG w bu KA) (h:l7 c.l bu KA w w') {V:aRD} (av:aM w g V t) (bY:c.l.T<=g) (h1:t ≠ 3) (ag:t ≠ 158) (au:t ≠ 80):aM w' g V t:=(l7.cells aD h av bY h1 ag au).trans av
theorem Own.vP (aD:NG w bu KA) (h:l7 c.l bu KA w w') {n:Nat} (aG:Own w base t aO A n c2 xs) (bY:c.l.T<=base) (h1:t ≠ 3) (ag:t ≠ 158) (au:t ≠ 80):Own w' base t aO A n c2 xs:=aG.keep fun b ae _ _=>by
  obtain⟨I,_,cur,bf,hc⟩:=aG.block b ae;exact l7.cells aD h hc om h1 ag au
theorem l7.box (aD:NG w bu KA) (h:l7 c.l bu KA w w') {l:nX} {P:nV} {ins asks:List ak} {b:dA} (ae:iF w l P ins asks b) (bY:c.l.T<=l.B):iF w' l P ins asks b:=by
  obtain⟨q,AA⟩:=ae.run;have Y:∀ {g:Nat} {y:List ak},sO w l.B g y->sO w' l.B g y:=fun {g y} hs=>by
    obtain⟨A,c2,AB,AJ⟩:=hs.row;exact⟨hs.far,A,c2,aM.vP aD h AB (aQn bY hs.far) dc dc dc,Own.vP aD h AJ bY dc dc dc⟩
  have A7:∀ (k:Nat) (o:Obj),l.B<=k->w.heap[k]?=some o->o.isCells=false->w'.heap[k]?=w.heap[k]?:=fun k o h1 I M=>h.high k o I (aQn bY h1) (fun cs bf e=>by rw [e] at M;cases M) (fun e=>by
    obtain⟨V,AL⟩:=aD.1;rw [e,AL] at I;cases I;cases M) fun e=>by
    obtain⟨cur,AP,ae⟩:=aD.2 k e.symm;rw [I] at ae;cases ae;cases M
  refine⟨aM.vP aD h ae.row (aQn bY ae.far.1) dc dc dc,ae.far,Own.vP aD h ae.outs bY dc dc dc,⟨Y ae.may.o,Y ae.may.i,Y ae.may.a⟩,ae.map.keep ?_,Own.vP aD h ae.reads bY dc dc dc,q,?_⟩
  · obtain⟨es,AV,AO,_⟩:=ae.map
    exact A7 _ _ ae.far.2.1 AO rfl
  · letI:=vL l.m
    exact jL.oI AA (l7.runs aD h) h.size fun k o h1 _ I M=>A7 k o (aQn ae.far.2.2 h1) I M
end
theorem jW.one (h:jW g g w w') (hk:k < w.heap.size) (bJ:k≠g):w'.heap[k]?=w.heap[k]?:=h.block k hk bJ bJ
theorem kY.NH {T:Nat} {C:aRI} (h:kY T C W af) (aA:jW g g af aC) (ax:W.heap.size<=g):kY T C W aC :=
  ⟨aA.os.trans h.os,aA.tape.trans h.tape,aA.output.trans h.output,aQn h.size aA.size,fun k h1 I J=>(aA.one (aQq I h.size) om).trans (h.keep k h1 I J),fun k o h1 I J=>(aA.one (aQq (ic h1) h.size) (by have:=ic h1;omega)).trans (h.high k o h1 I J),fun k cs t bf h1 I=>(aA.one (aQq (ic h1) h.size) (by have:=ic h1;omega)).trans (h.calm k cs t bf h1 I)⟩
theorem l7.NH (h:l7 l bu KA W af) (aA:jW g g af aC) (ax:W.heap.size<=g):l7 l bu KA W aC :=
  ⟨aA.os.trans h.os,aA.tape.trans h.tape,aA.output.trans h.output,aQn h.size aA.size,fun k h1 I M=>(aA.one (aQq I h.size) om).trans (h.keep k h1 I M),fun k o h1 I M Y A7=>(aA.one (aQq (ic h1) h.size) (by have:=ic h1;omega)).trans (h.high k o h1 I M Y A7),fun k cs t bf h1 I M=>(aA.one (aQq (ic h1) h.size) (by have:=ic h1;omega)).trans (h.calm k cs t bf h1 I M)⟩
theorem afL {n c:Nat} {uX:TypeId} {U:aRD} (h:Own W base t aO A n c xs) (av:aM W g U uX) (aA:jW g g W W') (bJ:t≠uX):Own W' base t aO A n c xs:=h.keep fun b ae _ hl=>aA.one hl fun e=>h.ne av bJ (by rw [ae,e])
def Fv:List TypeId:=[3,224,135,268,65]
theorem Vq {n c:Nat} {uX:TypeId} {U:aRD} (h:Own W base t aO A n c xs) (av:aM W g U uX) (aA:jW g g W W') (h1:t∈Fv) (ag:uX ∉ Fv):Own W' base t aO A n c xs:=afL h av aA (fun e=>ag (e ▸ h1))
theorem wB.dK (h:wB c w σ aW aI) (hc:c.Ok) (av:aM w g Z ty) (aA:jW g g w w') (ax:c.l.T<=g) (nO:ty ∉ Fv):wB c w' σ aW aI:=by
  obtain⟨cZ,rc,kQ,jy,h1,I,AB,aT⟩:=h.row;obtain⟨OL,AJ,J⟩:=h.outs;have AL:=(hc.low _ (.inl rfl)).2;have AO:=(hc.low _ (.inr (.inl rfl))).2;have AP:=(hc.low _ (.inr (.inr (.inl rfl)))).2;have AV:=(hc.low _ (.inr (.inr (.inr (.inl rfl))))).2;have AZ:=(hc.low _ (.inr (.inr (.inr (.inr (.inl rfl)))))).2;have Aa:=(hc.low _ (.inr (.inr (.inr (.inr (.inr rfl)))))).2;have Y:=hc.old;have hk:∀ k,k < c.l.T->w'.heap[k]?=w.heap[k]?:=fun k hk=>aA.one (aQq hk h.size) om;obtain⟨M,hm,Ab⟩:=h.src.store;obtain⟨M2,Ad,Ae,A7⟩:=h.src.bG.map;refine⟨⟨cZ,rc,kQ,jy,(hk _ AL).trans h1,Vq I av aA dc nO,Vq AB av aA dc nO,aT⟩,(hk _ AO).trans h.begun,⟨OL,(hk _ AP).trans AJ,fun i o e=>⟨⟨Vq (J i o e).1.outs av aA dc nO,Vq (J i o e).1.reads av aA dc nO⟩,(J i o e).2⟩⟩,
    ⟨(hk _ Y.1).trans h.src.row,⟨(hk _ Y.2).trans h.src.bG.obj,h.src.bG.far,M2,Ad.keep (hk _ AV),Ae,fun j aD=>⟨fun e=>?_,(A7 j aD).2⟩⟩,⟨M,⟨(hk _ AZ).trans hm.obj,hm.map.keep (hk _ Aa)⟩,Ab⟩,h.src.far,h.src.ne⟩,fun W Af=>h.work W fun k h1 I=>(Af k h1 I).trans (hk k h1),h.home.below ⟨aA.os,aA.tape,aA.output,aA.size,fun k h=>hk k (aQq h hc.base.1)⟩,aQn h.size aA.size⟩
  obtain⟨y,Ag,Ah,L,Ai,AA,Ak⟩:=(A7 j aD).1 e;exact⟨y,Ag,Ah,L,Vq Ai av aA dc nO,⟨Vq AA.reads av aA dc nO,Vq AA.outs av aA dc nO⟩,Ak⟩
theorem wB.grown (h:wB c w σ aW aI) (hc:c.Ok) {n:Nat} (aG:Own w base ty aO A n c2 xs) (bY:c.l.T<=base) (ax:w.grownBy w' (bV A)) (nO:ty ∉ Fv):wB c w' σ aW aI:=by
  obtain⟨cZ,rc,kQ,jy,h1,Y,AV,aT⟩:=h.row;obtain⟨OL,AZ,A7⟩:=h.outs;have Aa:=(hc.low _ (.inl rfl)).2;have Ab:=(hc.low _ (.inr (.inl rfl))).2;have Ad:=(hc.low _ (.inr (.inr (.inl rfl)))).2;have Ae:=(hc.low _ (.inr (.inr (.inr (.inl rfl))))).2;have Af:=(hc.low _ (.inr (.inr (.inr (.inr (.inl rfl)))))).2;have Ag:=(hc.low _ (.inr (.inr (.inr (.inr (.inr rfl)))))).2;have AA:=hc.old;have hk:∀ k,k < c.l.T->w'.heap[k]?=w.heap[k]?:=fun k hk=>ax.block k (aQq hk h.size) fun e=>by
    have:=(aG.block k e.symm).1;omega
  have I:∀ {AB AJ AL bF:Nat} {t:TypeId} {iD:aRC} {ys:aRD},Own w AB t AJ iD AL bF ys->t∈Fv->Own w' AB t AJ iD AL bF ys:=fun h h1=>h.grown ax fun b ae e=>by
    obtain⟨_,_,cur,bf,Ah⟩:=h.block b ae;obtain⟨_,_,Aw,Ay,J⟩:=aG.block b e.symm;rw [Ah] at J;injection J with J
    injection J with _ J
    exact nO (J ▸ h1)
  obtain⟨M,hm,Ai⟩:=h.src.store;obtain⟨M2,Ak,Al,AO⟩:=h.src.bG.map;refine⟨⟨cZ,rc,kQ,jy,(hk _ Aa).trans h1,I Y dc,I AV dc,aT⟩,(hk _ Ab).trans h.begun,⟨OL,(hk _ Ad).trans AZ,fun i o e=>⟨⟨I (A7 i o e).1.outs dc,I (A7 i o e).1.reads dc⟩,(A7 i o e).2⟩⟩,
    ⟨(hk _ AA.1).trans h.src.row,⟨(hk _ AA.2).trans h.src.bG.obj,h.src.bG.far,M2,Ak.keep (hk _ Ae),Al,fun j aD=>⟨fun e=>?_,(AO j aD).2⟩⟩,⟨M,⟨(hk _ Af).trans hm.obj,hm.map.keep (hk _ Ag)⟩,Ai⟩,h.src.far,h.src.ne⟩,fun W Am=>h.work W fun k h1 Y=>(Am k h1 Y).trans (hk k h1),h.home.below ⟨ax.os,ax.tape,ax.output,ax.size,fun k h=>hk k (aQq h hc.base.1)⟩,aQn h.size ax.size⟩
  obtain⟨y,Ao,Ap,L,Aq,AP,Au⟩:=(AO j aD).1 e;exact⟨y,Ao,Ap,L,I Aq dc,⟨I AP.reads dc,I AP.outs dc⟩,Au⟩
theorem j6.dK {U:aRG} (h:j6 c w U σ aW aI) (hc:c.Ok) (av:aM w g Z ty) (aA:jW g g w w') (ax:c.l.T<=g) (nO:ty ∉ Fv):j6 c w' U σ aW aI:=⟨h.fG.dK hc av aA ax nO,h.inv,h.log,h.kept⟩
theorem j6.grown {U:aRG} (h:j6 c w U σ aW aI) (hc:c.Ok) {n:Nat} (aG:Own w base ty aO A n c2 xs) (bY:c.l.T<=base) (ax:w.grownBy w' (bV A)) (nO:ty ∉ Fv):j6 c w' U σ aW aI:=⟨h.fG.grown hc aG bY ax nO,h.inv,h.log,h.kept⟩
structure aIV (c:dL) (bu:Nat) (KA:aRC) (w:aRB) (U:aRG) (σ:bI) (aW:aRG) (aI:aRI) (w':aRB) (σ':bI) (tk':aRG) (fB:aRI):Prop where
  st:j6 c w' U σ' tk' fB
  vP:l7 c.l bu KA w w'
  grow:JX σ aW σ' tk'
  wC:∀ q,fB q->aI q\/w.heap.size<=q
theorem Step.dK {U aIW:aRG} {bQ lX:bI} {gN aIX:aRG} {eY aIY:aRI} (hc:c.Ok) (aX:j6 c W aIW lX aIX aIY) (h:Step c W U σ aW aI af bQ gN eY) (av:aM af g Z ty) (aA:jW g g af aC) (ax:W.heap.size<=g) (nO:ty ∉ Fv):Step c W U σ aW aI aC bQ gN eY :=
  have I:=h.nP.NH aA ax
  ⟨⟨h.st.fG.dK hc av aA (aQn aX.fG.size ax) nO,h.st.inv,h.st.log,h.st.kept⟩,I,h.grow,h.wC⟩
def uC (a:EN) (p:ak):Nat × dz:=match a with
  | .known k=>(1,k)
  | .below=>(2,⟨p,false,[]⟩)
  | .stuck=>(3,⟨p,false,[]⟩)
def NI (c:dL) (m:Nat):Prop:=∀ (w:aRB) (U:aRG) (σ:bI) (aW:aRG) (aI:aRI) (p:ak),j6 c w U σ aW aI->rZ σ c.n<=m->p.length<=1100000 ->
  (∀ j,c.W.kK p=some j->yM c.W c.dN j/\(∀ x∈U,xM c.W x j)/\(j∈U->fI c.W p = .stuck)) ->
  CR 23 #[pp c.l.X 0,.string (az p)] w (.tuple #[.agg (iy (uC (fI c.W p) p).2).toArray,.int .i64 (uC (fI c.W p) p).1]) fun w'=>∃ σ' tk' fB,Step c w U σ aW aI w' σ' tk' fB/\∀ j,c.W.kK p=some j->σ'.begun j=true
def Dw (c:dL) (W:aRB) (U:aRG) (σ:bI) (aW:aRG) (aI:aRI) (ci a b:Nat) (Z V:aRD) (ty:TypeId) (B:bI->Prop) (L:Nat->Bool) (u:Nat->Value) (af:aRB):Prop :=
  ∃ bQ gN eY,Step c W U σ aW aI af bQ gN eY/\(L ci=true->B bQ)/\(L a=true->∃ g,u a = .pointer (some ⟨g,0,none⟩)/\W.heap.size<=g/\aM af g (if L b=true then V else Z) ty)
section
variable {c:dL} {W:aRB} {U:aRG} {σ:bI} {aW:aRG} {aI:aRI} {ci a b:Nat} {Z V:aRD} {ty:TypeId} {B:bI->Prop} {L:Nat->Bool} {u:Nat->Value} {af aC:aRB}
theorem xF (h:j≠i):GD L i j=L j:=if_neg h
theorem abq:GD L i i=true:=if_pos rfl
theorem NJ (h:j≠i):oM u i v j=u j:=if_neg h
theorem afM:oM u i v i=v:=if_pos rfl
theorem Dw.start (hc:c.Ok) (hs:j6 c W U σ aW aI):Dw c W U σ aW aI ci a b Z V ty B (fun _=>false) u W.drew:=⟨σ,aW,aI,(Step.refl hs).high hc (Below.refl _ W).drew,fun h=>(by cases h),fun h=>(by cases h)⟩
theorem Dw.plain (hc:c.Ok) (h:Dw c W U σ aW aI ci a b Z V ty B L u af) (ae:Below af.heap.size af aC) (h1:ci≠i) (ag:a≠i) (au:b≠i):Dw c W U σ aW aI ci a b Z V ty B (GD L i) (oM u i v) aC:=by obtain⟨bQ,gN,eY,hs,I,hA⟩:=h;refine⟨bQ,gN,eY,hs.high hc ae,fun h=>I (by rwa [xF h1] at h),fun h=>?_⟩;rw [xF ag] at h;obtain⟨g,e,ax,J⟩:=hA h;exact⟨g,by rw [NJ ag,e],ax,by rw [xF au];exact J.all ae⟩
theorem Dw.laid (hc:c.Ok) (h:Dw c W U σ aW aI ci a b Z V ty B L u af) (ae:L b=false) (h1:ci≠a) (au:b≠a):Dw c W U σ aW aI ci a b Z V ty B (GD L a) (oM u a (pp af.heap.size 0)) (af.alloc (.cells Z.toArray ty)):=by obtain⟨bQ,gN,eY,hs,I,hA⟩:=h;exact⟨bQ,gN,eY,hs.high hc gK,fun h=>I (by rwa [xF h1] at h),fun _=>⟨_,afM,hs.nP.size,by rw [xF au,ae];exact aM.new af Z ty⟩⟩
theorem Dw.call {Eu:bI} {Sw:aRG} {Fs:aRI} (h:Dw c W U σ aW aI ci a b Z V ty B L u af) (bY:c.l.T<=W.heap.size) (nO:ty ≠ 3) (hs:Step c W U σ aW aI aC Eu Sw Fs) (bg:B Eu) (tH:Cq c.l af aC) (ag:a≠ci) (au:b≠ci):Dw c W U σ aW aI ci a b Z V ty B (GD L ci) (oM u ci v) aC:=by obtain⟨bQ,gN,eY,_,_,hA⟩:=h;refine⟨Eu,Sw,Fs,hs,fun _=>bg,fun h=>?_⟩;rw [xF ag] at h;obtain⟨g,e,ax,I⟩:=hA h;exact⟨g,by rw [NJ ag,e],ax,by rw [xF au];exact I.nP tH (aQn bY ax) nO⟩
theorem Dw.stored (hc:c.Ok) (hs:j6 c W U σ aW aI) (h:Dw c W U σ aW aI ci a b Z V ty B L u af) (av:aM af g Z ty) (ax:W.heap.size<=g) (hu:u a = .pointer (some ⟨g,0,none⟩)) (aA:fU g af aC) (jf:aM aC g V ty) (nO:ty ∉ Fv) (h1:ci≠b) (ag:a≠b):Dw c W U σ aW aI ci a b Z V ty B (GD L b) (oM u b v) aC:=by obtain⟨bQ,gN,eY,I,J,_⟩:=h;exact⟨bQ,gN,eY,I.dK hc hs av (jW.ug aA) ax nO,fun h=>J (by rwa [xF h1] at h),fun _=>⟨g,by rw [NJ ag,hu],ax,by rw [abq];exact jf⟩⟩
end
end
section
open Go.Maps Go.RowKit Go.Shelf
def l8:List Value:=iy ⟨[],false,[]⟩
theorem aIZ:l8.toArray=#[.string ⟨#[]⟩,.bool false,.string ⟨#[]⟩]:=rfl
theorem aI0 (w:aRB) (k:dz) (g:Nat) (p:ak) (ax:w.cell? (ad g 0)=some (.string (az p))) :
    Calls prog 174 (#[.agg (iy k).toArray]++#[pp g 0]) w fun e w'=>e = .returned (.bool (k.path == p))/\Bl w w':=by
  obtain⟨aF,I⟩:=ai (w.alloc (.cells (iy k).toArray 80));have A7:=aa (gQ I);have AA:aM aF w.heap.size (iy k) 80:=by rw [I];exact aM.new w _ _
  obtain⟨P,J,AB,M,r,Y⟩:=nq3 (az p) (az k.path) (k.path == p);have AJ:g < w.heap.size:=auv ax;have AO:aF.cell? (ad w.heap.size 0)=some (.string AB):=by rw [AA.cell 0,M];rfl
  have AP:aF.cell? (ad g 0)=some (.string P):=by rw [J,<- ax];unfold World.cell?;rw [A7.o.block g AJ]
  have heq:(AB.toList == P.toList)=r:=by rw [ByteArray.toList_eq,ByteArray.toList_eq,M,J,Y,gU,gU]
  rw [<- Y];obtain⟨dQ,AL⟩:=ai (iy k);rw [<- AL] at I |-;have AV:=I.symm;clear J M Y AA ax I AJ AL;go_enter func174,ntmps174;go_wp2_with fail;go_ret;exact⟨rfl,A7.o⟩
def SB (bS:aRB) (g6:Nat) (af:aRB):Prop:=jW g6 g6 bS af/\∃ Z:List Value,Z.length=3/\aM af g6 Z 80
def afN (g6:Nat) (bH:aRD) (a b:aRB):Prop:=jW g6 g6 a b/\(∃ Z,aM a g6 Z 80)/\(aM a g6 bH 80 -> aM b g6 bH 80)
theorem SB.below {bS:aRB} (h:SB bS g6 af) (ae:Bl af aC):SB bS g6 aC:=by obtain⟨h1,Z,I,J⟩:=h;exact⟨h1.trans (jW.gT ae),Z,I,J.all ae⟩
theorem afN.below {bS:aRB} {bH:aRD} (h:SB bS g6 af) (ae:Bl af aC):afN g6 bH af aC:=by obtain⟨h1,Z,J,I⟩:=h;exact⟨jW.gT ae,⟨Z,I⟩,fun h=>h.all ae⟩
def XY (F T g6:Nat) (bH:aRD) (k y:Int) (m:Nat) (iX:aRD) (j:Nat) (v:Value) (w:aRB):Prop :=
  (j=3->∃ A c,v = .slice A m c/\Own w T 135 34 A m c iX)/\(j=4->∃ A c,v = .agg #[.int .i64 k,.int .i64 y,.slice none 0 0,.slice A m c]/\Own w T 135 34 A m c iX) /\
  (j=5->∃ g A c,v = .pointer (some ⟨g,0,none⟩)/\aM w g [.int .i64 k,.int .i64 y,.slice none 0 0,.slice A m c] 63 /\ F<=g/\Own w T 135 34 A m c iX)/\(j=6->aM w g6 bH 80)
theorem XY.keep {F T:Nat} {bH:aRD} {k y:Int} {iX:aRD} {a b:aRB} (h:XY F T g6 bH k y m iX j v a) (he:afN g6 bH a b):XY F T g6 bH k y m iX j v b:=by
  obtain⟨h1,Y,A7,AA⟩:=h;obtain⟨ae,⟨Z,M⟩,hk⟩:=he;refine⟨fun e=>?_,fun e=>?_,fun e=>?_,fun e=>hk (AA e)⟩
  · obtain⟨A,c,J,I⟩:=h1 e
    exact⟨A,c,J,afL I M ae dc⟩
  · obtain⟨A,c,J,I⟩:=Y e
    exact⟨A,c,J,afL I M ae dc⟩
  · obtain⟨g,A,c,J,I,AB,AJ⟩:=A7 e
    exact⟨g,A,c,J,(ae.one I.lt (fun e=>by rw [e,aM,M] at I;cases I)).trans I,AB,afL AJ M ae dc⟩
theorem avl {P:Prop} (h:P:=by (
  have afO:=aa (show bH=iy ⟨p,false,[]⟩ by rw [Ew.o,hA];rfl);clear hA;have Bf:(bH.drop 0).take bH.length=bH:=by simp
  obtain⟨g6,Gp,afP,tq,iX,yt⟩:=nq3 aF.heap.size rd.length (cz gZ (rd.map iA));have Cn:=aa (show aM bS g6 l8 80 by rw [Gp];exact (wL.o.all LM.o).nP xu.o.nP (by have:=hs.fG.size;have:=nu.o;omega) dc);have iO:=aa (show Own bS c.l.T 80 3 cZ rd.length rc (cz iy rd) from (av.below dG.o (aQm _)).nP xu.o.nP (aQm _) dc);have aI1:=aa (show SB bS g6 bS.drew from ⟨jW.gT (Below.refl _ bS).drew,l8,rfl,Cn.o⟩);have AA:=aa (show ∀ q,bV cZ=some q->q≠g6 from fun q aH e=>by
    have:=(av.block q aH).2.1;have:=nu.o;omega)
  have zI:=aa (fun (af:aRB) (aj:SB bS g6 af)=>by
    have:=ai4 af cZ rc rd (iO.o.keep fun b ae _ hl=>aj.1.one hl (AA.o b ae)).rd xq Sv;rw [<- tq,<- yt] at this;exact this)
  have Vr:=aa (show c.l.T<=bS.heap.size from xu.o.st.fG.size);have NK:=aa (fun (af:aRB) (aj:SB bS g6 af)=>show aM af g9 bH 80 from (aj.1.one rC.o.lt (fun e=>by have:=alO.o;have:=wL.o.lt;have:=LM.o.size;omega)).trans rC.o);obtain⟨Vs,oh,Ai⟩:=hq3 Gp tq yt;rw [<- Gp,<- tq];clear Gp tq yt;go_wp2_with fail;refine ng nE 7 [some (.agg bH.toArray),some _,some _,none,none,none,none] (XY bS.heap.size bS.heap.size g6 bH Bv.kind Bv.why afP iX) (SB bS g6) (afN g6 bH) aI1.o (fun j v w1 af ae h=>h.keep ae) ?_ (jJ:=⟨rs ?_,rx,rx,rs ?_,rs ?_,rs ?_,rs ?_,trivial⟩)
  rotate_left
  ·intro eH u af aj aK K aS bz;refine wp_load_row g9 0 bH bH _ (NK.o af aj) Bf _ underlying80 Bw.o ⟨rfl,by simp [Act.eval,aK],rfl⟩ ?_;exact aS _ _ rfl aj (.below aj (Below.refl _ _))
  ·intro eH u af aj aK K aS bz;go_simp;refine (zI.o af aj).mono ?_;rintro e aC ⟨cO,bF,rfl,jf⟩;exact aS _ _ ⟨fun _=>⟨cO,bF,rfl,jf.own.mono aj.1.size⟩,fT,fT,fT⟩ (aj.below jf.low) (.below aj jf.low)
  ·intro eH u af aj aK K aS bz;obtain⟨cO,bF,eU,jU⟩:=bz.2.1 rfl;refine afg (.int .i64 Bv.kind) (.int .i64 Bv.why) (.slice cO afP bF) _ (auh _ _ cO afP bF) rfl ⟨by rw [afQ.o.1];simp [Act.eval,aK,bz.1],by rw [afQ.o.2.1];rfl,by simp [Act.eval,aK,eU]⟩ ?_;exact aS _ _ ⟨fT,fun _=>⟨cO,bF,rfl,jU⟩,fT,fT⟩ aj (.below aj (Below.refl _ _))
  ·intro eH u af aj aK K aS bz;obtain⟨cO,bF,lg,jU⟩:=bz.2.1 rfl;rw [lg] at aK;go_simp;exact aS _ _ ⟨fT,fT,fun _=>⟨_,cO,bF,rfl,aM.new af [.int .i64 Bv.kind,.int .i64 Bv.why,.slice none 0 0,.slice cO afP bF] _,aj.1.size,jU.alloc _⟩,fT⟩ (aj.below gK) (.below aj gK)
  ·intro eH u af aj aK K aS bz;obtain⟨Vg,Z,F3,dB⟩:=id aj;refine wp_store_row g6 0 (.agg bH.toArray) bH Z bH _ dB (qD _) Bw.o (by rw [Fj.o,F3];exact aQm 3) sG.o (by rw [Fj.o,List.take_zero,List.nil_append,List.drop_of_length_le (by rw [F3];exact Nat.le_refl 3),List.append_nil]) rfl ⟨by simp [Act.eval,aK],by simp [Act.eval,aK,bz]⟩ ?_;intro tu uN zJ;exact aS _ _ ⟨fT,fT,fT,fun _=>uN⟩ ⟨Vg.trans (jW.ug zJ),bH,Fj.o,uN⟩ ⟨jW.ug zJ,⟨Z,dB⟩,fun _=>uN⟩
  · intro u7 eX aj bW
    obtain⟨g7,cO,bF,qJ,yo,afR,Ex⟩:=(show XY _ _ _ _ _ _ _ _ 5 _ _ from bW 5 om).2.2.1 rfl;have WC:=(show XY _ _ _ _ _ _ _ _ 6 _ _ from bW 6 om).2.2.2 rfl;clear bW;simp only [qJ];obtain⟨dV,abr,tC,sM⟩:=hq4 aj WC yo Ex;clear aj WC yo Ex afR qJ;go_wp2_with fail;have pU:=Bw.o;refine Ej abr.o underlying80 rfl pU ⟨rfl,rfl,rfl⟩ ⟨XZ,avm,avn,⟨xu.o.st.dK hc Cn.o dV.o.1 (by have:=hs.fG.size;have:=nu.o;have:=Vs.o;omega) dc,?_,xu.o.grow,fun q aH=>(xu.o.wC q aH).imp_right fun h=>aQn dG.o.size h⟩,X0.o,.inr ⟨g7,Bv,⟨none,0,cO,bF⟩,by rw [afO.o];rfl,?_,⟨by rw [afQ.o.2.2];exact Own.nil _ _ _ _,?_⟩,fun q aH=>aQn (aQn dG.o.size xu.o.nP.size) (sM.o.block q aH).1,afS.o⟩⟩
    · have X3:l7 c.l bu KA w bS:=.GG ((kY.gT dG.o).trans xu.o.nP)
      exact X3.NH dV.o.1 (by have:=nu.o;have:=Vs.o;omega)
    · have:=tC.o
      rw [oh.o] at this;rcases afS.o with h | h <;> rw [h.2] at this |- <;> simpa [jm,HZ,D8] using this
    · have:=sM.o
      rw [Ai.o,oh.o] at this;rw [show Bv.reads=rd.map iA by rcases afS.o with h | h <;> rw [h.2] <;> rfl,List.length_map];exact this.mono Vr.o)):P:=h
theorem avo (hc:c.Ok) (iL:NI c m) {U:aRG} (hs:j6 c w U σ aW aI) (hm:rZ σ c.n<=m) {Vt:LJ} (aD:Cr c w Vt i x bL) {p:ak} (aL:p.length<=1100000)
    (hw:∀ j,c.W.kK p=some j->yM c.W c.dN j/\(∀ x∈U,xM c.W x j)/\(j∈U->fI c.W p = .stuck)) (atb:p ∉ bL.map (·.path)) (jS:bL.length<=1000) {cZ:aRC} {rc:Nat} {rd:List dz} (av:Own w c.l.T 80 3 cZ rd.length rc (cz iy rd)) (xq:rd.length<=1000) (Sv:∀ x∈rd,x.data.length<=1000000000) :
    Calls prog 121 #[pp Vt.bu 0,.string (az p),.slice cZ rd.length rc] w fun e w'=>∃ σ' tk' fB,aIV c Vt.bu Vt.KA w U σ aW aI w' σ' tk' fB/\(∀ j,c.W.kK p=some j->σ'.begun j=true) /\
      ((∃ k KA iq,fI c.W p = .known k/\e = .returned (.tuple #[.agg (iy k).toArray,.pointer none])/\Cr c w' ⟨Vt.bu,KA,iq⟩ i x (bL++[k])/\∀ q,q < w.heap.size->some q≠bV Vt.KA->some q≠bV KA) \/
       (∃ g o L,e = .returned (.tuple #[.agg (iy ⟨p,false,[]⟩).toArray,pp g 0])/\aM w' g (jm o L) 63 /\ nC w' c.l.T o L/\(∀ q,bV L.B=some q->w.heap.size<=q)/\((fI c.W p = .below/\o=HZ (rd.map iA))\/(fI c.W p = .stuck/\o=D8 (rd.map iA))))):=by
  obtain⟨P,Ah⟩:=ai (az p);obtain⟨A7,BO⟩:=ai ((uC (fI c.W p) p).1);obtain⟨bH,BP⟩:=ai (iy (uC (fI c.W p) p).2);obtain⟨aF,AV⟩:=ai (w.alloc (.cells #[.string P] 9));obtain⟨aV,AZ⟩:=ai (aF.alloc (.cells l8.toArray 80));have BQ:=gQ AV;have BX:aF.heap.size=w.heap.size+1:=by rw [AV];simp
  have Az:=gQ AZ;have BA:aM aV w.heap.size [.string P] 9:=by refine aM.all ?_ Az;rw [AV];exact aM.new w _ _
  have Bb:=lH AZ;have Bc:=aR BQ Az;have Aa:=aD.all Bc;obtain⟨bu,KA,iq⟩:=Vt;simp only at aD Aa |-;obtain⟨X,aY,n,Ak⟩:=nq2 c.l.X bL.length;have BG:=aDH aV KA iq bL Aa.known.rd jS 174 #[pp w.heap.size 0] (enters_of func174 kr rfl) (fun k=>k.path == p) fun W ae k _=>aI0 W k w.heap.size p (by rw [<- Ah];exact (BA.all ae).cell 0);rw [ZN (row:=bL) (p:=fun k=>k.path == p) (List.any_eq_false.2 fun k hk=>by
    intro e;exact atb (List.mem_map.2 ⟨k,hk,by simpa using e⟩)),<- Ak] at BG
  have CS:=aa BG;have CU:aV.cell? (ad bu 9)=some (.slice KA n iq):=by rw [Ak];exact Aa.row.cell 9
  have CV:=aa Bc;rw [<- Ah];rw [aIZ] at AZ;have CW:=AV.symm;have CZ:=AZ.symm;obtain⟨nu,Ca,Al,Ew,Bd,AO,Am,wL,Cb⟩:=hq9 BX Ah BO BP aY Ak Aa Bb BA;clear AV AZ BG BX Ah BO BP aY Ak Aa Bb BA BQ Az;go_enter func121,ntmps121;go_upto_region 4 with (first | (go_at_call 173; refine CS.o.mono ?_;rintro e AB ⟨rfl,BH⟩;have dG:=aa (aR CV.o BH);have LM:=aa BH;clear BH CU CW CZ))
  have Ao:=hs.all hc dG.o;have Ce:=aa (show c.l.T<=AB.heap.size from Ao.fG.size);have Cf:=aa (fun (u:Nat->Value)=>show Dw c AB U σ aW aI 5 9 10 l8 bH 80 (fun bQ=>∀ j,c.W.kK p=some j->bQ.begun j=true) (fun _=>false) u AB.drew from Dw.start hc Ao);have Cg:=aa (fun (af:aRB) (ae:Cq c.l AB af)=>show af.cell? (ad bu 0)=some (pp X 0) from by rw [Bd.o];exact ((Am.o.all LM.o).nP ae).row.cell 0);have Ci:=aa (fun (af:aRB) (ae:Cq c.l AB af)=>show af.cell? (ad w.heap.size 0)=some (.string P) from ((Cb.o.all LM.o).nP ae hs.fG.size dc).cell 0);have Ck:=aa (fun (af:aRB) (bQ:bI) (gN:aRG) (eY:aRI) (ag:Step c AB U σ aW aI af bQ gN eY)=>show CR 23 #[pp X 0,.string P] af (.tuple #[.agg bH.toArray,.int .i64 A7]) fun w'=>∃ σ' tk' fB,Step c af U bQ gN eY w' σ' tk' fB/\∀ j,c.W.kK p=some j->σ'.begun j=true from by
    have:=iL af U bQ gN eY p ag.st (aQn (afH c.n ag.grow.begun) hm) aL hw;rw [<- Ew.o,<- Al.o,<- Ca.o,<- Bd.o] at this;exact this)
  have Cm:=aa Ao;have Ab:bH.length=3:=by rw [Ew.o];rfl
  have Bw:=aa (show Sz 80 bH.length by rw [Ab];exact kr);have Co:=aa (show 0+bH.length<=l8.length by rw [Ab];exact aQm 3);have sG:=aa (show ∀ v∈bH,v.oneCell'=true by rw [Ew.o];simp [iy,Value.oneCell']);have Cs:=aa (show l8.take 0++bH++l8.drop (0+bH.length)=bH by rw [Ab];simp [l8,iy]);have Fj:=aa Ab;clear Ab;clear Ao;refine Tq 11 (iY [some (pp bu 0),some (pp bu 0),some (pp bu 0),some (pp X 0),some (.string P),some (.tuple #[.agg bH.toArray,.int .i64 A7]),some (.tuple #[.agg bH.toArray,.int .i64 A7]),some (.agg bH.toArray),some (.int .i64 A7),none,none] fun _ _ _=>True) (Dw c AB U σ aW aI 5 9 10 l8 bH 80 (fun bQ=>∀ j,c.W.kK p=some j->bQ.begun j=true)) (fun _ _=>True) Cf.o (fun j v w1 af ae Ct=>iY.keep (fun _=>trivial) Ct) ?_ (jJ:=?_)
  rotate_left
  · repeat' (first | exact trivial | apply And.intro)
    all_goals intro eH u af L aj Bi Cv aK bz K aS
    all_goals simp [iY,Region.binds] at bz
    all_goals first | simp [Region.wanted,yielded,aK,bz] | simp [Region.wanted,yielded] | skip
    all_goals obtain⟨bQ,gN,eY,Ap,_,Cw⟩:=id aj
    all_goals have Dy:=Cg.o af Ap.nP
    all_goals have Dz:=Ci.o af Ap.nP
    all_goals try (first | exact aS _ _ rfl (aj.plain hc (Below.refl _ _) dc dc dc) (trivial) | (go_simp;exact aS _ _ rfl (aj.plain hc (Below.refl _ _) dc dc dc) (trivial)))
    · go_simp
      refine (Ck.o af bQ gN eY Ap).mono ?_;rintro e aC ⟨rfl,E8,E9,EB,Bn,Cz⟩;exact aS _ _ rfl (aj.call Ce.o dc (Ap.trans Bn) Cz Bn.nP dc dc) trivial
    · go_simp
      exact aS _ _ trivial (aj.laid hc (acK Cv Bi 10 [9] kr sp) dc dc) trivial
    · obtain⟨g,Bo,ax,av⟩:=Cw bz.1
      rw [Bi,if_neg dc] at av;refine wp_store_row g 0 (.agg bH.toArray) bH l8 bH _ av (qD _) Bw.o Co.o sG.o Cs.o rfl ⟨by simp [Act.eval,aK,Bo],by simp [Act.eval,aK,bz]⟩ ?_;intro bS DD DF;exact aS _ _ trivial (aj.stored hc Cm.o av ax Bo DF DD dc dc dc) trivial
  · intro u bS aj bW
    have Bp:u 8 = .int .i64 A7:=bW.at 8 dc dc;obtain⟨XZ,avm,avn,Bq,Br,Bt⟩:=aj;obtain⟨g9,Aq,Bu,Ad⟩:=Bt rfl;clear bW;simp only [Bp,Aq];rw [if_pos dc] at Ad;have xu:=aa Bq;have X0:=aa (Br dc);have rC:=aa Ad;have alO:=aa Bu;clear Bq Br Ad Bu Bt Bp Aq;cases hA:fI c.W p with
    | known k =>
      have afO:=aa (show bH=iy k by rw [Ew.o,hA];rfl);have DL:=aa hA;have AJ:A7=1:=by rw [Al.o,hA];rfl
      subst AJ;have Ae:=aa ((Am.o.all LM.o).nP xu.o.nP);have Bf:(bH.drop 0).take bH.length=bH:=by simp
      have DN:(Value.agg bH.toArray).cells.size=3:=by simp [Value.cells,Fj.o]
      obtain⟨Af,BI⟩:=ai (cz iy bL);have Ag:=aa (show Own bS c.l.T 80 3 KA n iq Af by rw [BI,AO.o];exact Ae.o.known);have DR:=aa BI;have DW:=aa (show n<=1000000 by rw [AO.o];omega);have Vr:=aa (show c.l.T<=bS.heap.size from xu.o.st.fG.size);have C8:=aa (fun (aC:aRB) (aj:nM bS c.l.T 80 3 KA n iq Af aC)=>show aC.cell? (ad bu 9)=some (.slice KA n iq)/\aM aC g9 bH 80 from by
        refine⟨?_,?_⟩
        · have:=(aj.row Ae.o.row (fun e=>Ag.o.ne Ae.o.row dc e.symm)).cell 9
          rw [this,AO.o];rfl
        · refine aj.row rC.o fun e=>?_
          have:=(Am.o.known.block g9 e.symm).2.1;have:=alO.o;have:=LM.o.size;omega)
      clear hA BI;go_wp2_with fail;have kE:=C8;refine ng nE 10 [some _,some _,some _,some _,some _,some (.agg bH.toArray),none,none,some _,some _] (wV bS.heap.size c.l.T 80 3 KA n iq Af bH 6 7) (nM bS c.l.T 80 3 KA n iq Af) (oN c.l.T 80 3 KA iq (n+1) (Af++bH)) (nM.start Ag.o) (fun j v w1 af ae h=>h.keep ae) ?_ (jJ:=⟨rx,rx,rx,rx,rx,rs ?_,rs ?_,rs ?_,rx,rx,trivial⟩)
      rotate_left
      ·intro eH u af aj aK K aS bz;refine wp_load_row g9 0 bH bH _ (C8.o af aj).2 Bf _ underlying80 Bw.o ⟨rfl,by simp [Act.eval,aK],rfl⟩ ?_;exact aS _ _ rfl aj (oN.refl _)
      ·intro eH u af aj aK K aS bz;refine Nl ZE (.agg bH.toArray) DN rfl (by simp [Act.eval,aK,bz]) ?_;exact aS _ _ ⟨⟨fun _=>⟨_,rfl,aM.new af bH _,aj.Jv⟩,fT,fun e=>absurd rfl e⟩,fT⟩ (aj.alloc _) (oN.alloc af _)
      ·intro eH u af aj aK K aS bz;obtain⟨g9,Aq,Ad,ED⟩:=(show wV _ _ _ _ _ _ _ _ _ _ _ 6 _ _ from bz.2).1.1 rfl;refine XB ZE rfl aj.2 g9 Ad Fj.o sG.o DW.o (aQn Vr.o aj.1.size) underlying156 ⟨by simp [Act.eval,aK,bz.1],by simp [Act.eval,aK,Aq]⟩ ?_;intro iD c2 aC Au C9 DX DY;exact aS _ _ ⟨⟨fT,fun _=>⟨iD,c2,rfl,Au⟩,fun _ e=>absurd rfl e⟩,fun _ cO m3 bF eU j aD BJ=>by cases eU;exact DY j (aQq aD aj.1.size) BJ⟩ ⟨F8 aj.1 C9.1,DX⟩ C9
      · intro u5 DZ aj bW
        obtain⟨I,Y,BK,Au⟩:=(show wV _ _ _ _ _ _ _ _ _ _ _ 7 _ _ from bW 7 om).1.2.1 rfl;have CE:=(show wV _ _ _ _ _ _ _ _ _ _ _ 7 _ _ from bW 7 om).2 rfl _ _ _ BK;clear bW;simp only [BK];have dV:=aa aj;have sM:=aa Au.1;have CJ:=aa CE;have AP:=aa (show aM DZ bu (NF c ⟨bu,KA,iq⟩ i x n) 158 by
          have:=aj.row Ae.o.row (fun e=>Ag.o.ne Ae.o.row dc e.symm);rw [AO.o];exact this)
        have BL:=aa (aj.row rC.o fun e=>by
          have:=(Am.o.known.block g9 e.symm).2.1;have:=alO.o;have:=LM.o.size;omega)
        have BM:=aa (aj.row ((wL.o.all LM.o).nP xu.o.nP (by have:=hs.fG.size;have:=nu.o;omega) dc) fun e=>by
          have:=(aD.known.block _ e.symm).2.1;have:=nu.o;omega)
        have Vs:=aa (show aF.heap.size≠bu from fun e=>by have h1:=BM.o;rw [e,aM,AP.o] at h1;cases h1);have Da:Sz 156 1:=kr;have EG:(Value.slice I (n+1) Y).cells.toList=[Value.slice I (n+1) Y]:=rfl;have Db:9+1<=(NF c ⟨bu,KA,iq⟩ i x n).length:=by exact Nat.le_succ 10
        have hq3:(Value.slice I (n+1) Y).oneCell'=true:=rfl;have Dc:(NF c ⟨bu,KA,iq⟩ i x n).set 9 (.slice I (n+1) Y)=NF c ⟨bu,I,Y⟩ i x (n+1):=rfl;have De:bH.length=l8.length:=Fj.o;have pU:=Bw.o;have AJ:=sG.o;clear Au aj CE BK;go_wp2_with (first
          | ((with_reducible refine BU 9 (.slice I (n+1) Y) AP.o Da Db hq3 Dc ?_);intro EH uN zJ;have Df:=aa uN;have Aw:=aa zJ;have abr:=aa (BL.o.dK zJ (fun e=>by rw [e] at BL;have h1:=BL.o;rw [aM,AP.o] at h1;cases h1));have Dg:=aa (BM.o.dK zJ Vs.o);clear uN zJ)
          | (with_reducible refine kv abr.o underlying80 pU ?_)
          | ((with_reducible refine vC bH Dg.o pU De AJ ?_);intro eX tC Ay))
        have Gp:=Vs.o;have Dh:aF.heap.size < bS.heap.size:=by have:=wL.o.lt;have:=LM.o.size;have:=xu.o.nP.size;omega
        have Dk:some aF.heap.size≠bV I:=CJ.o _ Dh fun e=>by
          have:=(aD.known.block _ e.symm).2.1;have:=nu.o;omega
        refine Ej tC.o underlying80 rfl pU ⟨rfl,rfl,rfl⟩ ⟨XZ,avm,avn,?_,X0.o,.inl ⟨k,I,Y,DL.o,by rw [afO.o];rfl,⟨Df.o.dK Ay.o (aQJ Gp) |> fun h=>(by rw [List.length_append];rw [AO.o] at h;exact h),aD.far,?_⟩,fun q aH BJ=>CJ.o q (by have:=dG.o.size;have:=xu.o.nP.size;omega) BJ⟩⟩
        · have Dl:=xu.o.st.grown hc Ag.o (aQm _) dV.o.1 dc
          have Dm:=Dl.dK hc AP.o (jW.ug Aw.o) aD.far dc;have Dp:=BM.o.dK Aw.o Gp;have Dq:c.l.T<=aF.heap.size:=by have:=hs.fG.size;have:=nu.o;omega
          have Dr:=Dm.dK hc Dp (jW.ug Ay.o) Dq dc;have X3:l7 c.l bu KA w bS:=.GG ((kY.gT dG.o).trans xu.o.nP);have Dt:=X3.trans (.grown dV.o.1 fun q aH=>(Ag.o.block q aH).1) fun _ _ h=>h;have Dx:=Dt.trans (.dK (KA:=KA) Aw.o aD.far fun cs t bf e=>by
            rw [AP.o] at e;injection e with e
            injection e with _ e
            rw [<- e];decide) fun _ _ h=>h
          exact⟨Dr,Dx.NH (jW.ug Ay.o) (by have:=nu.o;omega),xu.o.grow,fun q aH=>(xu.o.wC q aH).imp_right fun h=>aQn dG.o.size h⟩
        · have CK:=sM.o
          rw [DR.o,afO.o] at CK;have CL:Own eX c.l.T 80 3 I (n+1) Y (cz iy bL++iy k):=(iJ CK AP.o dc Aw.o).keep fun b ae _ _=>Ay.o.2.2.2.2 b fun e=>Dk (by rw [<- e];exact ae.symm);rw [AO.o] at CL;show Own eX c.l.T 80 3 I (bL++[k]).length Y (cz iy (bL++[k]));rw [List.length_append,show cz iy (bL++[k])=cz iy bL++iy k by simp [cz]];exact CL
    | below =>
      have AJ:A7=2:=by rw [Al.o,hA];rfl
      subst AJ;obtain⟨Bv,AL⟩:=ai (HZ (rd.map iA));have afQ:=aa (show Bv.kind=2/\Bv.why=16/\Bv.outs=[] by rw [AL];exact⟨rfl,rfl,rfl⟩);have afS:=aa (show (fI c.W p = .below/\Bv=HZ (rd.map iA))\/(fI c.W p = .stuck/\Bv=D8 (rd.map iA)) from .inl ⟨hA,AL⟩);clear AL;exact avl
    | stuck =>
      have AJ:A7=3:=by rw [Al.o,hA];rfl
      subst AJ;obtain⟨Bv,AL⟩:=ai (D8 (rd.map iA));have afQ:=aa (show Bv.kind=3/\Bv.why=11/\Bv.outs=[] by rw [AL];exact⟨rfl,rfl,rfl⟩);have afS:=aa (show (fI c.W p = .below/\Bv=HZ (rd.map iA))\/(fI c.W p = .stuck/\Bv=D8 (rd.map iA)) from .inr ⟨hA,AL⟩);clear AL;exact avl
theorem alR {l:nX} {P:nV} {ins asks:List ak} {b:dA} (ah:iF w l P ins asks b) (hk:w.heap[k]?=some (.cells cs t bf)) (h1:t ≠ 135):some k≠bV l.cZ:=fun e=>by
 obtain⟨_,_,cur,I,ae⟩:=ah.reads.block k e.symm;rw [hk] at ae;injection ae with ae
 injection ae with _ ae
 exact h1 ae
section
variable {c:dL} {w w':aRB} {l:nX} {P:nV} {ins asks:List ak} {b:dA} (ah:iF w l P ins asks b) (h:kD l w w')
theorem X6 (ah:iF w l P ins asks b) (h:kD l w w') (hk:w.heap[k]?=some (.cells cs t bf)) (h1:t ≠ 295) (ag:t ≠ 1) (au:t ≠ 253) (aN:some k≠bV l.cZ):w'.heap[k]?=w.heap[k]? :=
 h.cells k cs t bf hk h1 ag (fun e=>by
  rw [e,ah.row] at hk;injection hk with hk
  injection hk with _ hk
  exact au hk.symm) aN
theorem Own.Lx (ah:iF w l P ins asks b) (h:kD l w w') {n:Nat} (aG:Own w base t aO A n c2 xs) (h1:t ≠ 295) (ag:t ≠ 1) (au:t ≠ 253) (aN:t ≠ 135):Own w' base t aO A n c2 xs:=aG.keep fun k hk _ _=>by
 obtain⟨_,_,cur,bf,hc⟩:=aG.block k hk;exact X6 ah h hc h1 ag au (alR ah hc aN)
theorem wB.Lx (ah:iF w l P ins asks b) (h:kD l w w') (ae:wB c w σ aW aI) (hc:c.Ok) (bY:c.l.T<=l.B) (bW:∀ q,bV l.cZ=some q->¬ aI q):wB c w' σ aW aI:=by
 obtain⟨cZ,rc,kQ,jy,h1,AA,Aa,aT⟩:=ae.row;obtain⟨OL,Ab,J⟩:=ae.outs;have Ad:=(hc.low _ (.inl rfl)).2;have Ae:=(hc.low _ (.inr (.inl rfl))).2;have Af:=(hc.low _ (.inr (.inr (.inl rfl)))).2;have Ag:=(hc.low _ (.inr (.inr (.inr (.inl rfl))))).2;have Ah:=(hc.low _ (.inr (.inr (.inr (.inr (.inl rfl)))))).2;have Ai:=(hc.low _ (.inr (.inr (.inr (.inr (.inr rfl)))))).2;have AO:=hc.old;have hk:∀ k,k < c.l.T->w'.heap[k]?=w.heap[k]?:=fun k hk=>h.low k om;have I:∀ {base aO n c2:Nat} {t:TypeId} {A:aRC} {ys:aRD},Own w base t aO A n c2 ys->t ≠ 295 -> t ≠ 1 -> t ≠ 253 -> t ≠ 135 -> Own w' base t aO A n c2 ys:=fun Y AB AJ AL A7=>Own.Lx ah h Y AB AJ AL A7;have AP:∀ {base aO n c2:Nat} {A:aRC} {ys:aRD},Own w base 135 aO A n c2 ys->(∀ q,bV A=some q->aI q)->Own w' base 135 aO A n c2 ys:=fun Y hf=>Y.keep fun k hk _ _=>by
  obtain⟨_,_,cur,bf,Ak⟩:=Y.block k hk;exact X6 ah h Ak dc dc dc fun e=>bW k e.symm (hf k hk)
 obtain⟨M,hm,Al⟩:=ae.src.store;obtain⟨M2,Am,Ao,AV⟩:=ae.src.bG.map;refine⟨⟨cZ,rc,kQ,jy,(hk _ Ad).trans h1,I AA dc dc dc dc,I Aa dc dc dc dc,aT⟩,(hk _ Ae).trans ae.begun,⟨OL,(hk _ Af).trans Ab,fun i o e=>⟨⟨I (J i o e).1.outs dc dc dc dc,AP (J i o e).1.reads (J i o e).2⟩,(J i o e).2⟩⟩,
  ⟨(hk _ AO.1).trans ae.src.row,⟨(hk _ AO.2).trans ae.src.bG.obj,ae.src.bG.far,M2,Am.keep (hk _ Ag),Ao,fun j aD=>⟨fun e=>?_,(AV j aD).2⟩⟩,⟨M,⟨(hk _ Ah).trans hm.obj,hm.map.keep (hk _ Ai)⟩,Al⟩,ae.src.far,ae.src.ne⟩,fun W Ap=>ae.work W fun k h1 AA=>(Ap k h1 AA).trans (hk k h1),ae.home.below ⟨h.os,h.tape,h.output,h.size,fun k h=>hk k (aQq h hc.base.1)⟩,aQn ae.size h.size⟩
 obtain⟨y,AB,AJ,L,AL,A7,AZ⟩:=(AV j aD).1 e;exact⟨y,AB,AJ,L,I AL dc dc dc dc,⟨AP A7.reads AZ,I A7.outs dc dc dc dc⟩,AZ⟩
end
theorem afT:Ea prog 37 3 (.int .i64 0) 1 8:=⟨underlying37,kr,rfl,dc⟩
theorem wB.Qf (h:wB c w σ aW aI) (hc:c.Ok) {uk:aRC} {n0 lM:Nat} {uO:aRD} (aG:Own w c.l.T 3 1 uk n0 lM xs) (ax:w.grownBy af (bV uk)) (aY:aM w c.l.X uO 78) (aA:fU c.l.X af aC) {tk':aRG}
  (ae:σ'.begun=σ.begun) (zZ:σ'.got=σ.got) (Dt:σ'.bG=σ.bG) (XW:σ'.has=σ.has) (bX:∃ cZ rc kQ jy,aM aC c.l.X (Gz c cZ rc kQ jy σ'.dZ.length tk'.length) 78 /\ Own aC c.l.T 3 1 cZ σ'.dZ.length rc (AR σ'.dZ)/\Own aC c.l.T 3 1 kQ tk'.length jy (AR tk')/\∀ q,bV kQ=some q->some q≠bV cZ):wB c aC σ' tk' aI:=by
 obtain⟨OL,Aa,AL⟩:=h.outs;have Ab:=(hc.low _ (.inr (.inl rfl))).2;have Ad:=(hc.low _ (.inr (.inr (.inl rfl)))).2;have Ae:∀ k,k < c.l.T->af.heap[k]?=w.heap[k]?:=fun k hk=>ax.block k (aQq hk h.size) fun e=>by
  have:=(aG.block k e.symm).1;omega
 have hk:∀ k,k < c.l.T->k≠c.l.X->aC.heap[k]?=w.heap[k]?:=fun k h1 J=>(aA.2.2.2.2 k J).trans (Ae k h1);have AB:∀ {k:Nat} {cs:Array Value} {t:TypeId} {bf:Nat × Nat},w.heap[k]?=some (.cells cs t bf)->t ≠ 3 -> t ≠ 78 -> aC.heap[k]?=w.heap[k]?:=fun {k cs t bf} I Y A7=>(aA.2.2.2.2 k fun e=>by
  rw [e,aY] at I;injection I with I
  injection I with _ I
  exact A7 I.symm).trans (ax.block k (ic I) fun e=>by
  obtain⟨_,_,cur,Af,ae⟩:=aG.block k e.symm;rw [I] at ae;injection ae with ae
  injection ae with _ ae
  exact Y ae)
 have AP:∀ {k:Nat} {o:Obj},w.heap[k]?=some o->o.isCells=false->aC.heap[k]?=w.heap[k]?:=fun {k o} h1 J=>(aA.2.2.2.2 k fun e=>by
  rw [e,aY] at h1;cases h1;cases J).trans (ax.block k (ic h1) fun e=>by
  obtain⟨_,_,cur,Af,ae⟩:=aG.block k e.symm;rw [h1] at ae;cases ae;cases J)
 have AA:∀ {base aO n c2:Nat} {t:TypeId} {A:aRC} {ys:aRD},Own w base t aO A n c2 ys->t ≠ 3 -> t ≠ 78 -> Own aC base t aO A n c2 ys:=fun AV Y A7=>AV.keep fun b ae _ _=>by
  obtain⟨_,_,cur,bf,I⟩:=AV.block b ae;exact AB I Y A7
 obtain⟨M,hm,Ag⟩:=h.src.store;obtain⟨M2,Ah,Ai,AZ⟩:=h.src.bG.map;obtain⟨⟨Am,Y,A7⟩,⟨Ao,AO,AJ⟩,_⟩:=h.src.kinds;refine⟨bX,?_,⟨OL,?_,fun i o e=>?_⟩,⟨(AB h.src.row dc dc).trans h.src.row,⟨(AB h.src.bG.obj dc dc).trans h.src.bG.obj,h.src.bG.far,M2,Ah.keep (AP Y A7),Ai,fun j aD=>?_⟩,⟨M,⟨(AB hm.obj dc dc).trans hm.obj,hm.map.keep (AP AO AJ)⟩,by rw [XW];exact Ag⟩,h.src.far,h.src.ne⟩,fun W Ak=>?_,?_,by rw [aA.2.2.2.1];exact aQn h.size ax.size⟩
 ·rw [show yu σ' c.n=yu σ c.n by rw [yu,ae];rfl];exact (hk _ Ab (aQJ hc.ne.1)).trans h.begun
 ·rw [show uV σ' OL c.n=uV σ OL c.n by rw [uV,zZ];rfl];exact (hk _ Ad (aQJ hc.ne.2.1)).trans Aa
 ·rw [zZ] at e;exact⟨⟨AA (AL i o e).1.outs dc dc,AA (AL i o e).1.reads dc dc⟩,(AL i o e).2⟩
 ·rw [Dt];refine⟨fun e=>?_,(AZ j aD).2⟩;obtain⟨y,Y,A7,L,AO,AJ,Al⟩:=(AZ j aD).1 e;exact⟨y,Y,A7,L,AA AO dc dc,⟨AA AJ.reads dc dc,AA AJ.outs dc dc⟩,Al⟩
 ·exact h.work W fun k h1 J=>(Ak k h1 J).trans (hk k h1 fun e=>J (.inl e))
 ·exact h.home.below ⟨aA.1.trans ax.os,aA.2.1.trans ax.tape,aA.2.2.1.trans ax.output,by rw [aA.2.2.2.1];exact ax.size,fun k h1=>hk k (aQq h1 hc.base.1) fun e=>by have:=(hc.low c.l.X (.inl rfl)).1;omega⟩
theorem kY.Qf (hc:c.Ok) {uk:aRC} {n0 lM:Nat} {uO:aRD} (aG:Own w c.l.T 3 1 uk n0 lM xs) (ax:w.grownBy af (bV uk)) (aY:aM af c.l.X uO 78) (aA:fU c.l.X af aC):Cq c.l w aC :=
 (kY.aHD ax aG).trans (kY.ald aA (.inl rfl) (hc.low _ (.inl rfl)).2 aY dc)
structure SE (i:Nat) (σ:bI) (aW:aRG) (σ':bI) (tk':aRG):Prop where
 begun:∀ j,σ.begun j=true->σ'.begun j=true
 log:∀ j,j∈σ'.dZ++tk'->j∈σ.dZ++aW\/j=i\/σ.begun j=false
 got:∀ j,σ.got j≠none->σ'.got j=σ.got j
 more:∀ j,j∈σ.dZ->j∈σ'.dZ
 same:∀ j,σ.begun j=true->j≠i->σ'.bG j=σ.bG j
theorem SE.next {bQ:bI} {tk' gN:aRG} (h:SE i σ aW σ' tk') (k:JX σ' tk' bQ gN):SE i σ aW bQ gN:=⟨fun j aD=>k.begun j (h.begun j aD),fun j aD=>(by
 rcases k.log j aD with h1 | h1
 ·exact h.log j h1
 ·right;right;cases e:σ.begun j with
  | false=>rfl
  | true=>rw [h.begun j e] at h1;cases h1),fun j aD=>(by rw [k.got j (by rw [h.got j aD];exact aD),h.got j aD]),fun j aD=>k.more j (h.more j aD),fun j aD I=>(k.same j (h.begun j aD)).trans (h.same j aD I)⟩
def NN (c:dL) (bu:Nat) (KA:aRC) (i:Nat) (w:aRB) (U:aRG) (σ:bI) (aW:aRG) (aI:aRI) (e:Ending) (w':aRB):Prop :=
 ∃ σ' tk' fB L,e = .returned (.agg (jm (bE c.W i) L).toArray)/\nC w' c.l.T (bE c.W i) L/\(∀ q,bV L.B=some q->w.heap.size<=q)/\j6 c w' U σ' tk' fB/\l7 c.l bu KA w w'/\SE i σ aW σ' tk'/\(∀ q,fB q->aI q\/w.heap.size<=q)/\i∈σ'.dZ++tk'/\(∀ j,yc c.W i j->σ'.begun j=true)/\((bE c.W i).kind=1->Bh c.W σ' i)
theorem j6.cut {U:aRG} (h:j6 c w U σ aW aI):j6 c w U σ aW (fun q=>aI q/\q < w.heap.size):=by obtain⟨OL,A7,J⟩:=h.fG.outs;obtain⟨M2,AA,AB,M⟩:=h.fG.src.bG.map;refine⟨⟨h.fG.row,h.fG.begun,⟨OL,A7,fun i o e=>⟨(J i o e).1,fun q I=>⟨(J i o e).2 q I,((J i o e).1.reads.block q I).2.1⟩⟩⟩,⟨h.fG.src.row,⟨h.fG.src.bG.obj,h.fG.src.bG.far,M2,AA,AB,fun j aD=>⟨fun e=>?_,(M j aD).2⟩⟩,h.fG.src.store,h.fG.src.far,h.fG.src.ne⟩,h.fG.work,h.fG.home,h.fG.size⟩,h.inv,h.log,h.kept⟩;obtain⟨y,AJ,AL,L,AO,Y,AP⟩:=(M j aD).1 e;exact⟨y,AJ,AL,L,AO,Y,fun q I=>⟨AP q I,(Y.reads.block q I).2.1⟩⟩
def yw (c:dL) (i:Nat) (s:dA) (rs:List kJ):Prop:=∃ s':(c.W.act i).S,s'=s/\oU c.W i s' rs
noncomputable def dL.U (c:dL):List dz:=Du (Qc c.k.files c.X) (fI c.W)
section
variable {c:dL} (hc:c.Fit) {i:Nat} (fC:i < c.n) {x:iP} (ql:c.X.getD i mZ=x.2) {s:dA} {bL:List dz} (aL:yw c i s (bL.map iA))
theorem yw.start (ql:c.X.getD i mZ=x.2):yw c i (dA.start (kZ x.2) x.2.tool) []:=⟨(c.W.act i).start,by
 show dA.start (kZ (c.X.getD i mZ)) (c.X.getD i mZ).tool=_;rw [ql],oU.start⟩
theorem yw.way (hc:c.Fit) (ql:c.X.getD i mZ=x.2) (aL:yw c i s (bL.map iA)):Sq x.2 c.U s (bL.map iA):=by obtain⟨s',rfl,h⟩:=aL;have:=Vm hc.work.small h;rw [ql] at this;exact this
theorem yw.few (hc:c.Fit) (fC:i < c.n) (aL:yw c i s (bL.map iA)):bL.length<=500/\(bL.map (·.path)).Nodup:=by
 obtain⟨s',rfl,h⟩:=aL;have J:i < c.X.length:=by simpa [dL.X,dL.n] using fC
 obtain⟨_,h1,I⟩:=afz hc.work J h;rw [List.length_map] at I;rw [List.map_map] at h1;exact⟨I,h1⟩
theorem yw.asks (hc:c.Fit) (fC:i < c.n) (ql:c.X.getD i mZ=x.2) (aL:yw c i s (bL.map iA)) (gq:s.over=false):s.asks.length<=1100000/\s.asks ∉ bL.map (·.path)/\bL.length < 500:=by
 have hw:=aL.way hc ql;have J:i < c.X.length:=by simpa [dL.X,dL.n] using fC
 have h1:=hw.1.asked hw.2.1 gq;rw [hw.2.2,List.length_map,List.map_map] at h1;refine⟨?_,h1.1,h1.2⟩;rcases hw.2.1 with I | ⟨_,_,I⟩
 ·rw [gq] at I;cases I
 ·rw [<- ql] at I;have:=afx (auN hc.work J I);omega
theorem yw.waits (aL:yw c i s (bL.map iA)) (gq:s.over=false) (aD:c.W.kK s.asks=some j):yc c.W i j:=by obtain⟨s',rfl,h⟩:=aL;refine⟨s',_,_,h,?_,aD⟩;show (if s'.over=true then none else some s'.asks)=_;rw [gq];rfl
theorem yw.may (hc:c.Fit) (aL:yw c i s (bL.map iA)) (gq:s.over=false) (hs:j6 c w (i :: us) σ aW aI):∀ j,c.W.kK s.asks=some j->yM c.W c.dN j/\(∀ x∈i :: us,xM c.W x j)/\(j∈i :: us->fI c.W s.asks = .stuck):=fun j aD=>by
 have hw:=aL.waits gq aD;exact⟨(hs.inv.reach i ((hs.inv.under i).1 sp).1).next hw,hs.inv.arG rfl hw,fun h=>hs.inv.ring (IP hc.work.small).fin rfl hw h aD⟩
theorem yw.step (hc:c.Fit) (ql:c.X.getD i mZ=x.2) (aL:yw c i s (bL.map iA)) (gq:s.over=false) {k:dz} (hk:fI c.W s.asks = .known k):yw c i (s.mE (kZ x.2) k) ((bL++[k]).map iA)/\k.path=s.asks/\k.data.length<=65536/\qN k=qN (rO c.U k.path):=by
 obtain⟨s',rfl,h⟩:=aL;have I:(c.W.act i).asks s'=some (dA.asks s'):=by show (if s'.over=true then none else some s'.asks)=_;rw [gq];rfl
 have hl:=LH hc.work.small;refine⟨⟨_,?_,by rw [List.map_append];exact h.step I hk⟩,hl.path _ _ hk,hl.data _ _ hk,auD hl hk⟩;show dA.mE (kZ (c.X.getD i mZ)) s' k=_;rw [ql]
theorem yw.next (aL:yw c i s (bL.map iA)) (bn:xP c.W σ i bL.length) (aD:∀ j,c.W.kK s.asks=some j->σ.begun j=true):xP c.W σ i (bL.length+1):=by
 obtain⟨s',rfl,h⟩:=aL;intro s2 I Y j h1 AB J M;rcases aQD I.length bL.length with A7 | AJ
 ·exact bn s2 I Y j h1 A7 J M
 ·obtain⟨AA,_⟩:=h.same h1 (by rw [List.length_map];omega);subst AA;obtain⟨_,rfl⟩:=NB J;exact aD j M
theorem yw.closed (aL:yw c i s (bL.map iA)) (bn:xP c.W σ i (bL.length+1)) (dJ:∀ p k,(c.W.act i).asks s=some p->fI c.W p ≠ .known k):∀ j,yc c.W i j->σ.begun j=true:=by obtain⟨s',rfl,h⟩:=aL;exact xP.closed (rs:=bL.map iA) (by rw [List.length_map];exact bn) h dJ
theorem yw.Wz (hc:c.Fit) (aL:yw c i s (bL.map iA)) (gq:s.over=false) {o:iN} (aG:(fI c.W s.asks = .below/\o=HZ (bL.map iA))\/(fI c.W s.asks = .stuck/\o=D8 (bL.map iA))):o=bE c.W i/\o.kind≠1/\∀ {σ:bI},xP c.W σ i (bL.length+1)->∀ j,yc c.W i j->σ.begun j=true:=by
 have J:(∀ k,fI c.W s.asks ≠ .known k)->∀ {σ:bI},xP c.W σ i (bL.length+1)->∀ j,yc c.W i j->σ.begun j=true:=fun M σ I=>aL.closed I fun p k h=>by
  obtain⟨_,rfl⟩:=NB h;exact M k
 obtain⟨s',rfl,h⟩:=id aL;have I:(c.W.act i).asks s'=some (dA.asks s'):=by show (if s'.over=true then none else some s'.asks)=_;rw [gq];rfl
 have hf:=(IP hc.work.small).fin;rcases aG with ⟨h1,rfl⟩ | ⟨h1,rfl⟩
 ·exact⟨by rw [bE,h.Wz hf I h1],(by simp [HZ]),J fun k e=>by rw [h1] at e;cases e⟩
 ·exact⟨by rw [bE,h.stuck hf I h1],(by simp [D8]),J fun k e=>by rw [h1] at e;cases e⟩
theorem yw.over (hc:c.Fit) (aL:yw c i s (bL.map iA)) (gq:s.over=true):s.out=bE c.W i/\∀ {σ:bI},xP c.W σ i bL.length->∀ j,yc c.W i j->σ.begun j=true:=by
 have A7:∀ p k,(c.W.act i).asks s=some p->fI c.W p ≠ .known k:=fun p k h=>by
  obtain⟨I,_⟩:=NB h;rw [gq] at I;cases I
 refine⟨?_,fun {σ} AA=>aL.closed (fun s2 J AB j h1 I M AJ=>?_) A7⟩
 ·obtain⟨s',rfl,h⟩:=aL;rw [bE,h.done (IP hc.work.small).fin (by
   show (if s'.over=true then none else some s'.asks)=_;rw [gq];rfl)]
  rfl
 ·rcases aQD J.length bL.length with AL | AP
  ·exact AA s2 J AB j h1 AL M AJ
  ·obtain⟨s',rfl,h⟩:=aL;obtain⟨AO,_⟩:=h.same h1 (by rw [List.length_map];omega);subst AO;obtain⟨Y,_⟩:=NB M;rw [gq] at Y;cases Y
end
structure Bz (c:dL) (bu:Nat) (oq:aRC) (i:Nat) (x:iP) (w:aRB) (U:aRG) (σ:bI) (aW:aRG) (aI:aRI) (g0 gk l9 nW:Nat) (dQ:aRD) (wr:aRB) (s:dA) (bL kr gW:List dz) (iK:nX) (qE:aRC) (AU:Nat):Prop where
 all:∃ KA iq bQ gN eY,j6 c wr U bQ gN eY/\l7 c.l bu oq w wr/\SE i σ aW bQ gN/\(∀ q,eY q->aI q\/w.heap.size<=q)/\(i∈bQ.dZ/\bQ.bG i=false)/\Cr c wr ⟨bu,KA,iq⟩ i x gW/\(∀ q,q < w.heap.size->some q≠bV oq->some q≠bV KA) /\
  (∀ q,bV iK.cZ=some q->¬ eY q)/\(∀ q,bV qE=some q->some q≠bV KA)/\xP c.W bQ i gW.length
 box:iF wr iK (kZ x.2) x.2.ins x.2.asks s
 lay:iK.X=l9/\iK.B=nW/\w.heap.size<=nW/\g0 < nW/\gk < nW/\c.l.T<=w.heap.size/\w.heap.size<=gk/\w.heap.size<=g0
 read:Own wr c.l.T 80 3 qE kr.length AU (cz iy kr)
 abw:∀ q,bV qE=some q->w.heap.size<=q
 res:aM wr g0 iG 63
 key:aM wr gk dQ 59
 pos:yw c i s (bL.map iA)
 small:∀ k∈bL,k.data.length<=65536
def GH (c:dL) (bu:Nat) (KA:aRC) (i:Nat) (w:aRB) (U:aRG) (σ:bI) (aW:aRG) (aI:aRI) (w':aRB):Prop :=
 ∃ σ' tk' fB,j6 c w' U σ' tk' fB/\l7 c.l bu KA w w'/\SE i σ aW σ' tk'/\(∀ q,fB q->aI q\/w.heap.size<=q)/\(i∈σ'.dZ/\σ'.bG i=false)/\(∀ j,yc c.W i j->σ'.begun j=true)
theorem l7.aJf {iK:nX} (h:l7 l bu KA w af) (ae:kD iK af aC) (bg:w.heap.size<=iK.B):l7 l bu KA w aC :=
 ⟨ae.os.trans h.os,ae.tape.trans h.tape,ae.output.trans h.output,aQn h.size ae.size,fun k h1 I M=>(ae.low k om).trans (h.keep k h1 I M),fun k o h1 I M Y A7=>(ae.low k (by have:=ic h1;omega)).trans (h.high k o h1 I M Y A7),fun k cs t bf h1 I M=>(ae.low k (by have:=ic h1;omega)).trans (h.calm k cs t bf h1 I M)⟩
section
variable {c:dL} (hc:c.Ok) {bu:Nat} {oq:aRC} {i:Nat} {x:iP} {w:aRB} {U us:aRG} {σ:bI} {aW:aRG} {aI:aRI} {g0 gk l9 nW:Nat} {dQ:aRD} {wr w':aRB} {s:dA} {bL kr gW:List dz} {iK:nX} {qE:aRC} {AU:Nat}
theorem Bz.below (hc:c.Ok) (h:Bz c bu oq i x w U σ aW aI g0 gk l9 nW dQ wr s bL kr gW iK qE AU) (ae:Below wr.heap.size wr w'):Bz c bu oq i x w U σ aW aI g0 gk l9 nW dQ w' s bL kr gW iK qE AU:=by obtain⟨KA,iq,bQ,gN,eY,h1,I,Y,A7,AA,AB,AJ⟩:=h.all;exact⟨⟨KA,iq,bQ,gN,eY,h1.all hc ae,I.trans (.GG (kY.gT ae)) (fun _ _ h=>h),Y,A7,AA,AB.all ae,AJ⟩,h.box.below ae,h.lay,h.read.below ae (aQm _),h.abw,h.res.all ae,h.key.all ae,h.pos,h.small⟩
theorem GH.below (hc:c.Ok) (h:GH c bu KA i w U σ aW aI wr) (ae:Below wr.heap.size wr w'):GH c bu KA i w U σ aW aI w':=by obtain⟨bQ,gN,eY,h1,I,M⟩:=h;exact⟨bQ,gN,eY,h1.all hc ae,I.trans (.GG (kY.gT ae)) (fun _ _ h=>h),M⟩
theorem GH.dK (hc:c.Ok) (h:GH c bu KA i w U σ aW aI wr) (bY:c.l.T<=w.heap.size) (av:aM wr g Z ty) (aA:fU g wr w') (ax:w.heap.size<=g) (nO:ty ∉ Fv):GH c bu KA i w U σ aW aI w':=by obtain⟨bQ,gN,eY,h1,I,M⟩:=h;exact⟨bQ,gN,eY,h1.dK hc av (jW.ug aA) (aQn bY ax) nO,I.NH (jW.ug aA) ax,M⟩
theorem GH.post (h:GH c bu KA i w U σ aW aI w') {o:iN} {L:lK} (hk:o.kind≠1) (he:o=bE c.W i) (aG:nC w' c.l.T o L) (aB:∀ q,bV L.B=some q->w.heap.size<=q):NN c bu KA i w U σ aW aI (.returned (.agg (jm o L).toArray)) w':=by obtain⟨bQ,gN,eY,h1,I,M,Y,A7,AA⟩:=h;subst he;exact⟨bQ,gN,eY,L,rfl,aG,aB,h1,I,M,Y,aQU _ A7.1,AA,fun h=>absurd h hk⟩
theorem Bz.Qf (hc:c.Ok) (h:Bz c bu oq i x w U σ aW aI g0 gk l9 nW dQ wr s bL kr gW iK qE AU) {k:dz} {A9:aRC} {c9:Nat} (aG:Own w' c.l.T 80 3 A9 (kr.length+1) c9 (cz iy kr++iy k)) (ax:wr.grownBy w' (bV qE)) (hA:bV A9=bV qE\/bV A9=some wr.heap.size):Bz c bu oq i x w U σ aW aI g0 gk l9 nW dQ w' s bL (kr++[k]) gW iK A9 c9:=by
 obtain⟨KA,iq,bQ,gN,eY,h1,AA,AL,AO,AP,Y,AV,AZ,AB,Aa⟩:=h.all;have Ab:∀ q,bV qE=some q->c.l.T<=q:=fun q I=>(h.read.block q I).1;have AJ:l7 c.l bu qE wr w':=.grown ax Ab;have Ad:NG wr bu qE:=⟨⟨_,Y.row⟩,fun b ae=>(h.read.block b ae).2.2⟩;have hl:=h.lay;have A7:∀ {g:Nat} {V:aRD} {t:TypeId},aM wr g V t->t ≠ 80 -> aM w' g V t:=fun av Ae=>(ax.block _ av.lt (fun e=>h.read.ne av (aQJ Ae) e.symm)).trans av;refine⟨⟨KA,iq,bQ,gN,eY,h1.grown hc h.read (aQm _) ax dc,AA.trans AJ (fun q I _ e=>by have:=h.abw q e.symm;omega),AL,AO,AP,⟨A7 Y.row dc,Y.far,Y.known.grown ax (fun b ae e=>AB b e.symm ae.symm)⟩,AV,AZ,fun q I e=>?_,Aa⟩,l7.box Ad AJ h.box om,h.lay,?_,fun q I=>?_,A7 h.res dc,A7 h.key dc,h.pos,h.small⟩
 ·rcases hA with hA | hA
  ·exact AB q (by rw [<- hA];exact I) e
  ·rw [hA] at I;cases I;have:=(Y.known.block _ e.symm).2.1;omega
 ·rw [List.length_append,show cz iy (kr++[k])=cz iy kr++iy k by simp [cz]];exact aG
 ·rcases hA with hA | hA
  ·exact h.abw q (by rw [<- hA];exact I)
  ·rw [hA] at I;cases I;exact AA.size
theorem Bz.given (hc:c.Ok) (h:Bz c bu oq i x w U σ aW aI g0 gk l9 nW dQ wr s bL kr gW iK qE AU) {k:dz} {s':dA} (aL:yw c i s' ((bL++[k]).map iA)) (hk:k.data.length<=65536) {cZ:aRC} {rc:Nat} (ah:iF w' { iK with cZ:=cZ,rc:=rc } (kZ x.2) x.2.ins x.2.asks s') (ae:kD iK wr w') (aB:∀ q,q < wr.heap.size->some q≠bV iK.cZ->some q≠bV cZ):Bz c bu oq i x w U σ aW aI g0 gk l9 nW dQ w' s' (bL++[k]) kr gW { iK with cZ:=cZ,rc:=rc } qE AU:=by
 obtain⟨KA,iq,bQ,gN,eY,h1,AB,AJ,AL,AO,Y,AP,AA,AV,AZ⟩:=h.all;have hl:=h.lay;have A7:∀ {g:Nat} {V:aRD} {t:TypeId},aM wr g V t->t ≠ 295 -> t ≠ 1 -> t ≠ 253 -> t ≠ 135 -> aM w' g V t:=fun av Aa Ab Ad Ae=>(X6 h.box ae av Aa Ab Ad (alR h.box av Ae)).trans av;refine⟨⟨KA,iq,bQ,gN,(fun q=>eY q/\q < wr.heap.size),⟨wB.Lx h.box ae h1.cut.fG hc om (fun q I hf=>AA q I hf.1),h1.inv,h1.log,h1.kept⟩,AB.aJf ae om,AJ,fun q I=>AL q I.1,AO,⟨A7 Y.row dc dc dc dc,Y.far,Own.Lx h.box ae Y.known dc dc dc dc⟩,AP,fun q I hf=>?_,AV,AZ⟩,ah,h.lay,Own.Lx h.box ae h.read dc dc dc dc,h.abw,A7 h.res dc dc dc dc,A7 h.key dc dc dc dc,aL,fun y hy=>?_⟩
 ·by_cases e:some q=bV iK.cZ
  ·exact AA q e.symm hf.1
  ·exact aB q hf.2 e I.symm
 ·rcases aQI.1 hy with h1 | h1
  ·exact h.small y h1
  ·rw [List.mem_singleton.1 h1];exact hk
theorem Bz.asked (hc:c.Ok) (iL:NI c m) (hm:rZ σ c.n<=m) (fC:i < c.n) (ql:c.X.getD i mZ=x.2) (h:Bz c bu oq i x w (i :: us) σ aW aI g0 gk l9 nW dQ wr s bL bL bL iK qE AU) (gq:s.over=false) :
  Calls prog 121 #[pp bu 0,.string (az s.asks),.slice qE bL.length AU] wr fun e w' =>
   (∃ k,fI c.W s.asks = .known k/\e = .returned (.tuple #[.agg (iy k).toArray,.pointer none])/\Bz c bu oq i x w (i :: us) σ aW aI g0 gk l9 nW dQ w' s bL bL (bL++[k]) iK qE AU) \/
   (∃ g L,e = .returned (.tuple #[.agg (iy ⟨s.asks,false,[]⟩).toArray,pp g 0])/\aM w' g (jm (bE c.W i) L) 63 /\ nC w' c.l.T (bE c.W i) L/\(∀ q,bV L.B=some q->w.heap.size<=q)/\(bE c.W i).kind≠1/\aM w' g0 iG 63 /\ GH c bu oq i w (i :: us) σ aW aI w'/\∀ k,fI c.W s.asks ≠ .known k):=by
 obtain⟨KA,iq,bQ,gN,eY,h1,AA,AJ,Ah,AP,AL,AO,Ai,AV,AZ⟩:=h.all;have Aa:=h.pos.asks hc.toFit fC ql gq;have hl:=h.lay;refine (avo hc iL h1 (aQn (afH c.n AJ.begun) hm) AL Aa.1 (h.pos.may hc.toFit gq h1) Aa.2.1 om h.read om (fun y hy=>by have:=h.small y hy;omega)).mono ?_;rintro e w' ⟨σ',tk',fB,I,Ab,Ak⟩;have AB:NG wr bu KA:=.afK AL.row AL.known;have Ad:∀ q,fB q->aI q\/w.heap.size<=q:=fun q Y=>by
  rcases I.wC q Y with A7 | A7
  ·exact Ah q A7
  ·exact .inr (aQn AA.size A7)
 have Ae:i∈σ'.dZ/\σ'.bG i=false:=⟨I.grow.more i AP.1,(I.grow.same i ((h1.inv.under i).1 sp).1).trans AP.2⟩;rcases Ak with ⟨k,uB,Al,hk,rfl,Am,Af⟩ | ⟨g,o,L,rfl,av,Ao,Ap,Ag⟩
 ·refine .inl ⟨k,hk,rfl,⟨uB,Al,σ',tk',fB,I.st,AA.trans I.vP AO,AJ.next I.grow,Ad,Ae,Am,fun q Y Aq=>Af q (aQq Y AA.size) (AO q Y Aq),fun q Y hf=>?_,fun q Y=>Af q (h.read.block q Y).2.1 (AV q Y),?_⟩,l7.box AB I.vP h.box om,h.lay,Own.aIU I.vP h.read AV,h.abw,aM.vP AB I.vP h.res om dc dc dc,aM.vP AB I.vP h.key om dc dc dc,h.pos,h.small⟩
  ·rcases I.wC q hf with A7 | A7
   ·exact Ai q Y A7
   ·have:=(h.box.reads.block q Y).2.1;omega
  ·rw [List.length_append];exact h.pos.next (AZ.mono I.grow.begun) Ab
 ·obtain⟨rfl,hk,Au⟩:=h.pos.Wz hc.toFit gq Ag;refine .inr ⟨g,L,?_,av,Ao,fun q Y=>aQn AA.size (Ap q Y),hk,aM.vP AB I.vP h.res om dc dc dc,⟨σ',tk',fB,I.st,AA.trans I.vP AO,AJ.next I.grow,Ad,Ae,Au (h.pos.next (AZ.mono I.grow.begun) Ab)⟩,fun k e=>?_⟩
  ·rfl
  ·rcases Ag with ⟨A7,_⟩ | ⟨A7,_⟩ <;> (rw [A7] at e;cases e)
theorem Bz.over (hc:c.Ok) (fC:i < c.n) (ql:c.X.getD i mZ=x.2) (h:Bz c bu oq i x w U σ aW aI g0 gk l9 nW dQ wr s bL bL bL iK qE AU) (gq:s.over=true):GH c bu oq i w U σ aW aI wr/\s.out=bE c.W i/\s.wrote.length<=1000/\s.reads.length<=1000/\∀ y∈s.wrote,y.1.length<=1100000:=by obtain⟨KA,iq,bQ,gN,eY,h1,Y,A7,AA,AB,AV,AZ,Aa,Ab,AJ⟩:=h.all;obtain⟨AL,AO⟩:=h.pos.over hc.toFit gq;have hw:=h.pos.way hc.toFit ql;obtain⟨y,hy,I,_⟩:=ND c fC;rw [ql] at I;have hf:=hc.kV.fair y (aQr hy);rw [<- I] at hf;have Ad:=hw.1.akU;have Ae:(kZ x.2).outs.length<=200:=hf.outs;have Af:=(h.pos.few hc.toFit fC).1;refine⟨⟨bQ,gN,eY,h1,Y,A7,AA,AB,AO AJ⟩,AL,om,by rw [hw.2.2,List.length_map];omega,fun z AP=>hf.zX _ (hw.1.wrote z AP).2⟩
theorem kY.afU (hc:c.Ok) (h:wW c.l.S W W') (hs:∃ aI bG has,rY W c.l.S aI c.n c.gm c.df c.met bG has):Cq c.l W W':=by
 obtain⟨_,_,_,hs⟩:=hs;obtain⟨⟨AB,M,c1⟩,⟨AJ,Y,c2⟩,AL,A7⟩:=hs.kinds;have AO:=hc.low _ (.inr (.inr (.inr (.inl rfl))));have AP:=hc.low _ (.inr (.inr (.inr (.inr (.inl rfl)))));have AV:=hc.low _ (.inr (.inr (.inr (.inr (.inr rfl)))));refine⟨h.os,h.tape,h.output,h.size,fun k h1 J I=>h.block k J (fun e=>I (.inr (.inr (.inr (.inl e))))) (fun e=>I (.inr (.inr (.inr (.inr (.inl e)))))) (fun e=>I (.inr (.inr (.inr (.inr (.inr e)))))),fun k o h1 J _=>h.block k (ic h1) om om om,fun k cs t bf h1 AA=>h.block k (ic h1) (fun e=>?_) (fun e=>?_) (fun e=>?_)⟩
 ·rw [e,M] at h1;cases h1;cases c1
 ·rw [e,A7] at h1;cases h1;exact absurd AA dc
 ·rw [e,Y] at h1;cases h1;cases c2
theorem wB.afU (hc:c.Ok) {fB:aRI} (ae:wB c W σ aW aI) (h:wW c.l.S W W') (uY:rY W' c.l.S fB c.n c.gm c.df c.met σ'.bG σ'.has) (bW:∀ q,aI q->fB q) (h1:σ'.begun=σ.begun) (ag:σ'.got=σ.got) (au:σ'.dZ=σ.dZ):wB c W' σ' aW fB:=by
 obtain⟨cZ,rc,kQ,jy,AA,AO,AP,aT⟩:=ae.row;obtain⟨OL,AB,Y⟩:=ae.outs;obtain⟨⟨Ae,AV,c1⟩,⟨Af,AZ,c2⟩,Ag,Aa⟩:=ae.src.kinds;have AJ:=kY.afU hc h ⟨_,_,_,ae.src⟩;have I:∀ {k:Nat} {cs:Array Value} {t:TypeId} {bf:Nat × Nat},W.heap[k]?=some (.cells cs t bf)->t ≠ 89 -> W'.heap[k]?=W.heap[k]?:=fun {k cs t bf} hk A7=>h.block k (ic hk) (fun e=>by rw [e,AV] at hk;cases hk;cases c1) (fun e=>by rw [e,Aa] at hk;cases hk;exact A7 rfl) (fun e=>by rw [e,AZ] at hk;cases hk;cases c2);have J:∀ {base aO n c2:Nat} {t:TypeId} {A:aRC} {ys:aRD},Own W base t aO A n c2 ys->t ≠ 89 -> Own W' base t aO A n c2 ys:=fun AL A7=>AL.keep fun b ae _ _=>by
  obtain⟨_,_,cur,bf,Ab⟩:=AL.block b ae;exact I Ab A7
 refine⟨⟨cZ,rc,kQ,jy,?_,?_,J AP dc,aT⟩,?_,⟨OL,?_,fun j o e=>?_⟩,uY,fun V eD=>ae.work V fun k h1 ag=>(eD k h1 ag).trans (AJ.keep k h1 (aQq h1 ae.size) ag),ae.home.below ⟨h.os,h.tape,h.output,h.size,fun k hk=>AJ.keep k (aQq hk hc.base.1) (aQq hk (aQn hc.base.1 ae.size)) fun e=>by have:=(hc.low k e).1;omega⟩,aQn ae.size h.size⟩
 ·rw [au];exact (I AA dc).trans AA
 ·rw [au];exact J AO dc
 ·rw [show yu σ' c.n=yu σ c.n by rw [yu,h1];rfl];exact (I ae.begun dc).trans ae.begun
 ·rw [show uV σ' OL c.n=uV σ OL c.n by rw [uV,ag];rfl];exact (I AB dc).trans AB
 ·rw [ag] at e;exact⟨⟨J (Y j o e).1.outs dc,J (Y j o e).1.reads dc⟩,fun q Ad=>bW q ((Y j o e).2 q Ad)⟩
theorem GH.keep (hc:c.Ok) (h:GH c bu KA i w U σ aW aI wr) (fC:i < c.n) (hk:(bE c.W i).kind=1) {rU:Nat} (bg:w.heap.size<=rU/\rU<=wr.heap.size) (bY:c.l.T<=w.heap.size) (gY:oH wr rU (c.df i) L) {Ip rX:Nat} (aG:Own wr rX 65 2 A (bE c.W i).outs.length Ip (cz fO (bE c.W i).outs)) :
  CR 302 #[pp c.l.S.jN 0,.agg (gJ (c.df i) L).toArray,.slice A (bE c.W i).outs.length Ip] wr (.int .i64 0) fun w'=>Cq c.l wr w'/\wW c.l.S wr w'/\∃ σ' tk' fB,j6 c w' U σ' tk' fB/\l7 c.l bu KA w w'/\SE i σ aW σ' tk'/\(∀ q,fB q->aI q\/w.heap.size<=q)/\i∈σ'.dZ/\(∀ j,yc c.W i j->σ'.begun j=true)/\Bh c.W σ' i:=by
 obtain⟨bQ,gN,eY,h1,AP,I,AV,A7,AZ⟩:=h;have AJ:i < c.X.length:=by simpa [dL.X,dL.n] using fC
 have AL:=XM hc.work.small i;refine (aIa wr h1.fG.src ⟨aQn (aQn hc.base.2 bY) bg.1,bg.2⟩ hc.apart hc.few fC (by have:=hc.kV.nN;show c.k.bZ.length<=1000;omega) A7.2 (fun j aD Y=>hc.keys j i aD fC Y) (abn c i) rfl (afA hc.work AJ hk) gY rfl aG fun y hy=>⟨hc.outs i fC y hy,(AL y hy).1,?_⟩).mono ?_
 ·have:=(AL y hy).2;have AA:=(hc.work.bZ _ (afy AJ)).outs _ this;unfold yA at AA;simp only [Bool.and_eq_true] at AA;have:=afx AA.1;omega
 rintro e w' ⟨rfl,Aa,AB⟩;have AO:=kY.afU hc AB ⟨_,_,_,h1.fG.src⟩;refine⟨rfl,AO,AB,bQ.keep i (bE c.W i).outs,gN,fun q=>eY q\/rU<=q,⟨h1.fG.afU hc AB Aa (fun q h=>.inl h) rfl rfl rfl,h1.inv.keep hk,h1.log.keep A7.1,fun j aD=>?_⟩,AP.trans (.GG AO) (fun _ _ h=>h),⟨I.begun,I.log,I.got,I.more,fun j aD Y=>?_⟩,fun q M=>?_,A7.1,AZ,ajo⟩
 ·by_cases e:j=i
  ·rw [e];exact ajo
  ·exact (h1.kept j (by simpa [bI.keep,e] using aD)).mono (fun y hy=>by simp [bI.keep,hy]) (fun y hy=>by simp [bI.keep,hy])
 ·rw [<- I.same j aD Y];simp [bI.keep,Y]
 ·rcases M with M | M
  ·exact AV q M
  ·exact .inr (aQn bg.1 M)
end
end
section
open Go.Maps Go.RowKit Go.Shelf
theorem aJh (hc:c.Ok) (iL:NI c m) (hs:j6 c w (i :: us) σ aW aI) (hm:rZ σ c.n<=m) {l:LJ} (ah:c.k.bZ[i]?=some x) (aD:Cr c w l i x []) (ay:i ∉ σ.dZ++aW) (aT:σ.bG i=false) :
  Calls prog 124 #[pp l.bu 0,.agg (l6 (c.gm i)).toArray] w (NN c l.bu l.KA i w (i :: us) σ aW aI):=by
 obtain⟨dQ,DL⟩:=ai (l6 (c.gm i));obtain⟨aF,Bd⟩:=ai (w.alloc (.cells dQ.toArray 59));obtain⟨aV,Bf⟩:=ai (aF.alloc (.cells iG.toArray 63));have ER:=gQ Bd;have DN:aF.heap.size=w.heap.size+1:=by rw [Bd];simp
 have DR:=gQ Bf;have DW:aM aV w.heap.size dQ 59:=by refine aM.all ?_ DR;rw [Bd];exact aM.new w _ _
 have EU:=lH Bf;have CW:=aR ER DR;have CZ:=hs.all hc CW;have Bi:=aD.all CW;obtain⟨bu,KA,iq⟩:=l;simp only at aD Bi |-;obtain⟨cZ,rc,kQ,jy,Bn,DX,EW,Ca⟩:=CZ.fG.row;obtain⟨X,aY,n,Cb,iX,DY⟩:=nq3 c.l.X σ.dZ.length (AR σ.dZ);rw [<- aY,<- Cb] at Bn;rw [<- Cb,<- DY] at DX;have BJ:=aa DX;have EY:=aa (fun (aC:aRB) (aj:nM aV c.l.T 3 1 cZ n rc iX aC)=>show aC.cell? (ad bu 0)=some (pp X 0)/\aC.cell? (ad bu 1)=some (.int .i64 i)/\aC.cell? (ad X 7)=some (.slice cZ n rc) from by
  have h1:=aj.row Bi.row (fun e=>BJ.o.ne Bi.row dc e.symm);have ag:=aj.row Bn (fun e=>BJ.o.ne Bn dc e.symm);exact⟨by rw [aY];exact h1.cell 0,h1.cell 1,ag.cell 7⟩)
 have Gi:=aa (show ∀ v∈[Value.int .i64 i],v.oneCell'=true by simp [Value.oneCell']);have Gj:=aa (show n<=1000000 by have:=hs.few hc;omega);have Gm:=aa (show c.l.T<=aV.heap.size from CZ.fG.size);rw [<- DL];rw [show iG.toArray=#[.int .i64 0,.int .i64 0,.slice none 0 0,.slice none 0 0] from rfl] at Bf;have EZ:=Bd.symm;have Ec:=Bf.symm;obtain⟨BK,Ee,Eg,Gp,Gq,Gr,Ei,Gs,DZ,Em,En,Gt,Eo⟩:=hq13 DN aY Cb DY DW EU CZ Bi Bn EW Ca CW DL;clear Bd Bf DN aY Cb DY DW EU CZ Bi Bn DX EW Ca CW DL ER DR;go_enter func124,ntmps124;go_upto_region 1 with fail
 try rw [EZ]
 try rw [Ec]
 clear EZ Ec;have kE:=EY;refine ng nE 21 [some (pp bu 0),some (pp bu 0),some (pp bu 0),some (pp X 0),some (pp bu 0),some (pp bu 0),some (pp bu 0),some (pp X 0),some (pp X 0),some (pp X 6),some (pp X 7),some (.slice cZ n rc),some (pp bu 0),some (pp bu 0),some (pp bu 1),some (.int .i64 i),none,none,some (pp X 0),some (pp X 6),some (pp X 7)] (wV aV.heap.size (c.l.T) 3 1 cZ n rc iX [.int .i64 i] 16 17) (nM aV (c.l.T) 3 1 cZ n rc iX) (oN (c.l.T) 3 1 cZ rc (n+1) (iX++[.int .i64 i])) (nM.start BJ.o) (fun j v w1 af ae h=>h.keep ae) ?_ (jJ:=?_)
 ·intro u3 aC aj Bo;obtain⟨Ae,Af,Da,Ce⟩:=(show wV aV.heap.size (c.l.T) 3 1 cZ n rc iX [.int .i64 i] 16 17 17 (u3 17) aC from Bo 17 om).1.2.1 rfl;have Ep:=(show wV aV.heap.size (c.l.T) 3 1 cZ n rc iX [.int .i64 i] 16 17 17 (u3 17) aC from Bo 17 om).2 rfl _ _ _ Da;clear Bo;simp only [Da];have Db:=aa aj;have AV:=aa Ce.1;have Gu:=aa Ep;have Cf:=aa (aj.row DZ.o (fun e=>BJ.o.ne DZ.o dc e.symm));have Gv:Sz 37 1:=kr;have Jy:(Value.slice Ae (n+1) Af).cells.toList=[Value.slice Ae (n+1) Af]:=rfl;have Gw:7+1<=(Gz c cZ rc kQ jy n aW.length).length:=by show 8<=10;decide
  have Gx:(Value.slice Ae (n+1) Af).oneCell'=true:=rfl;have Gy:(Gz c cZ rc kQ jy n aW.length).set 7 (.slice Ae (n+1) Af)=Gz c Ae Af kQ jy (n+1) aW.length:=rfl;have H6:=aa (fun (Y:aRB) (Cg:aM Y X (Gz c Ae Af kQ jy (n+1) aW.length) 78) (Az:fU X aC Y)=>show j6 c Y (i :: us) (σ.runs i) aW aI/\l7 c.l bu KA w Y/\Cr c Y ⟨bu,KA,iq⟩ i x []/\aM Y w.heap.size dQ 59 /\ aM Y aF.heap.size iG 63 from by
   have aY:=Ee.o;subst aY;have Ak:=kY.Qf hc BJ.o Db.o.1 Cf.o Az;have Er:=(Ei.o.inv.under i).1 sp;have BA:=Ei.o;have H8:=hs.fG.size;refine⟨⟨BA.fG.Qf hc BJ.o Db.o.1 DZ.o Az (σ':=σ.runs i) (tk':=aW) rfl rfl rfl rfl ⟨Ae,Af,kQ,jy,?_,?_,?_,fun q AO e=>?_⟩,BA.inv.runs Er.1 (.inl fun h=>?_),BA.log.runs ay Er.1,fun j aD=>BA.kept j aD⟩,(l7.GG (kY.gT Gt.o)).trans (l7.GG (KA:=KA) Ak) fun _ _ h=>h,Gs.o.nP Ak,Gq.o.nP Ak H8 dc,Gr.o.nP Ak (by have:=BK.o;omega) dc⟩
   ·show aM Y c.l.X (Gz c Ae Af kQ jy (σ.dZ++[i]).length aW.length) _;rw [List.length_append,<- Eg.o];exact Cg
   ·show Own Y c.l.T 3 1 Ae (σ.dZ++[i]).length Af (AR (σ.dZ++[i]));rw [List.length_append,<- Eg.o,AR,List.map_append,<- AR,<- Gp.o];exact iJ AV.o Cf.o dc Az
   ·exact iJ (Em.o.grown Db.o.1 fun b ae e=>En.o b ae e) Cf.o dc Az
   ·exact Gu.o q (Em.o.block q AO).2.1 (En.o q AO) e
   ·have ag:=hs.inv.Rs i h.1;rw [aT] at ag;cases ag)
  clear Ce aj Ep Da;obtain⟨Bp,Ci,Es,Dc⟩:=nq2 (vF x) (NF c ⟨bu,KA,iq⟩ i x 0);have Bq:=aQr ah;have De:x.2∈c.X:=aQv.2 ⟨x,Bq,rfl⟩;have fC:i < c.n:=(aQs.1 ah).1;have H9:c.W.act i=IM x.2:=by obtain⟨y,h1,_,AZ⟩:=ND c fC;rw [ah] at h1;cases h1;exact AZ
  have Df:aaR (kZ x.2) x.2.ins x.2.asks:=by have h1:=hc.work.few _ De;have ag:=hc.kV.fair x Bq;exact⟨hc.env _ De,rfl,rfl,⟨om,om,by show x.2.outs.length<=1000;omega⟩,ag.BN,ag.zX⟩
  have HY:=aft (LH hc.work.small) (afu hc.work.small);have He:=aa (fun (Y:aRB) (BL:j6 c Y (i :: us) (σ.runs i) aW aI)=>show Calls prog 93 #[.agg Bp.toArray] Y fun e w'=>∃ iK:nX,iK.B=Y.heap.size/\e = .returned (.tuple #[pp iK.X 0,.int .i64 0])/\iF w' iK (kZ x.2) x.2.ins x.2.asks (dA.start (kZ x.2) x.2.tool)/\Bl Y w' from by
   have hA:=(BL.fG.work Y (fun _ _ _=>rfl)).bZ.each x Bq;rw [Ci];refine (atZ Y x hA (kZ x.2) ⟨rfl,rfl⟩ Df _ HY (hc.kV.fair x Bq).tool (BL.fG.home.up (aQn hc.base.1 BL.fG.size))).mono ?_;rintro e w' (⟨h1,_⟩ | ⟨_,iK,ag,AZ,Br,BM⟩)
   ·exact absurd (hc.work.bZ _ De).tool h1
   ·exact⟨iK,ag,AZ,Br,BM⟩)
  have Hf:(Es.drop 2).take Bp.length=Bp:=by rw [Dc,Ci];rfl
  have Hg:Sz 45 Bp.length:=by rw [Ci];exact kr
  have Hl:=aa Dc;have Hm:=aa Df;clear Ci Dc H9 Df Bq;go_wp2_with (first
   | ((with_reducible refine BU 7 (.slice Ae (n+1) Af) Cf.o Gv Gw Gx Gy ?_);intro Y Cg Az;obtain⟨BL,Eu,Dg,Ev,Ew⟩:=H6.o Y Cg Az;obtain⟨Ex,Ey,Ho⟩:=hq3 BL Eu Dg;have Hr:=aa (show aM Y bu Es 158 by rw [Hl.o];exact Dg.row);have Ez:=aa Ev;have F3:=aa Ew;clear Cg Az BL Eu Dg Ev Ew)
   | (with_reducible refine O4 2 Bp Hr.o Hf underlying45 Hg ?_)
   | (go_at_call 93; refine (He.o Y Ex.o).mono ?_;rintro e Jz ⟨iK,F4,rfl,F5,F6⟩;obtain⟨Ht,Dh,Hu⟩:=hq3 F4 F5 F6;clear F4 F5 F6;have Dk:=ak0 Dh.o;obtain⟨l9,Ck⟩:=ai iK.X;obtain⟨K3,Dl⟩:=ai (az (if (dA.start (kZ x.2) x.2.tool).over=true then [] else (dA.start (kZ x.2) x.2.tool).asks));obtain⟨K4,Dm⟩:∃ b,b = !(dA.start (kZ x.2) x.2.tool).over:=⟨_,rfl⟩;rw [<- Ck,<- Dl,<- Dm] at Dk;rw [<- Ck];obtain⟨Hw,I1,I6,I8⟩:=hq4 Dk Ck Dl Dm;clear Dk Ck Dl Dm)
   | (go_at_call 94; refine jw Hw.o ?_;intro K5 FB))
  have ql:c.X.getD i mZ=x.2:=by obtain⟨y,h1,ag,_⟩:=ND c fC;rw [ah] at h1;cases h1;exact ag
  have BF:=aa ql;clear ql;go_loopg [7,8,9] 502 (fun I9 IA IB IC wr=>∃ (s:dA) (bL:List dz) (iK:nX) (qE:aRC) (AU:Nat),bL.length+I9=502/\IA = .slice qE bL.length AU/\IB = .string (az (if s.over=true then [] else s.asks))/\IC = .bool (!s.over)/\Bz c bu KA i x w (i :: us) σ aW aI aF.heap.size w.heap.size l9 Y.heap.size dQ wr s bL bL bL iK qE AU);case atStart =>
   have Bt:=aR Hu.o FB.o;have IE:=Ey.o.size;have II:=Ht.o;have DN:=BK.o;have bY:=hs.fG.size;refine⟨dA.start (kZ x.2) x.2.tool,[],iK,none,0,rfl,rfl,by rw [I6.o],by rw [I8.o],⟨⟨KA,iq,σ.runs i,aW,(fun q=>aI q/\q < Y.heap.size),Ex.o.cut.all hc Bt,Ey.o.trans (.GG (kY.gT Bt)) fun _ _ h=>h,⟨fun _ h=>h,fun j h=>?_,fun _ _=>rfl,fun j h=>aQU _ h,fun _ _ _=>rfl⟩,fun q h=>.inl h.1,⟨aQ4 _ (aRc.2 rfl),aT⟩,Ho.o.all Bt,fun _ _ h=>h,fun q AO h=>?_,fun q AO=>(by cases AO),xP.zero⟩,Dh.o.below FB.o,⟨I1.o.symm,II,IE,F3.o.lt,Ez.o.lt,bY,aQm _,om⟩,Own.nil _ _ _ _,fun q AO=>(by cases AO),F3.o.all Bt,Ez.o.all Bt,yw.start BF.o,fun _ h=>(by cases h)⟩⟩
   ·have Ap:j∈σ.dZ++[i]++aW:=h;simp only [List.mem_append,List.mem_singleton] at Ap |-;rcases Ap with (Ap | Ap) | Ap
    ·exact .inl (.inl Ap)
    ·exact .inr (.inl Ap)
    ·exact .inl (.inr Ap)
   ·have h1:=(Dh.o.reads.block q AO).1;have ag:=h.2;omega
  case round =>
   obtain⟨s,bL,Dp,qE,AU,AO,rfl,Cm,Cn,FD⟩:=hrel;have Aa:=aa FD;clear FD;cases Ab:s.over with
   | false =>
    rw [Ab,if_neg dc] at Cm;rw [Ab,Bool.not_false] at Cn;subst Cm Cn;have has:=Aa.o.pos.asks hc.toFit fC BF.o Ab;obtain⟨P,BO,Bu,BG⟩:=nq2 (az s.asks) bL.length;have K8:Bu < 500:=om;by_cases hA:∃ k,fI c.W s.asks = .known k
    ·obtain⟨k,hA⟩:=hA;obtain⟨bH,Ad,BP,BA⟩:=nq2 (iy k) (s.mE (kZ x.2) k);obtain⟨IL,Dq⟩:=ai (az (if BP.over=true then [] else BP.asks));obtain⟨IQ,Dr⟩:∃ b,b = !BP.over:=⟨_,rfl⟩;have BQ:=aa (Aa.o.pos.step hc.toFit BF.o Ab hA);have Co:=aa (show Calls prog 121 #[pp bu 0,.string P,.slice qE Bu AU] wr fun e A7=>e = .returned (.tuple #[.agg bH.toArray,.pointer none])/\Bz c bu KA i x w (i :: us) σ aW aI aF.heap.size w.heap.size l9 Y.heap.size dQ A7 s bL bL (bL++[k]) Dp qE AU from by
      rw [BO,BG,Ad];refine (Aa.o.asked hc iL hm fC BF.o Ab).mono ?_;rintro e A7 (⟨Bv,h1,ag,AZ⟩ | ⟨_,_,_,_,_,_,_,_,_,h⟩)
      ·rw [hA] at h1;cases h1;exact⟨ag,AZ⟩
      ·exact absurd hA (h k))
     have IU:=aa (fun (I:aRB) (A9:aRC) (c9:Nat) (Aq:Bz c bu KA i x w (i :: us) σ aW aI aF.heap.size w.heap.size l9 Y.heap.size dQ I s bL (bL++[k]) (bL++[k]) Dp A9 c9)=>show CR 97 #[pp l9 0,.agg bH.toArray] I (.int .i64 0) fun w'=>∃ BX,Bz c bu KA i x w (i :: us) σ aW aI aF.heap.size w.heap.size l9 Y.heap.size dQ w' BP (bL++[k]) (bL++[k]) (bL++[k]) BX A9 c9 from by
      have hw:=Aq.pos.way hc.toFit BF.o;obtain⟨uB,IV,bQ,gN,eY,h1,_⟩:=Aq.all;have hl:=Aq.lay;rw [Ad,<- hl.1];refine (at6 Hm.o Aq.box hw.1 (h1.fG.home.up (by have:=hc.base.1;omega)) hw.2.1 Ab k BQ.o.2.1 (fun _=>BQ.o.2.2.1) (by have:=BQ.o.2.2.1;omega) BQ.o.2.2.2 (fun p _=>aQn (afs (LH hc.work.small) p) om)).mono ?_;rintro e w' ⟨rfl,cZ,rc,ag,AZ,Br⟩;refine⟨rfl,{ Dp with cZ:=cZ,rc:=rc },?_⟩;rw [BA];have BM:=Aq.given hc BQ.o.1 BQ.o.2.2.1 ag AZ Br;rw [hl.1] at BM |-;exact BM)
     have IW:=aa (fun (I:aRB) (A9:aRC) (c9:Nat) (BX:nX) (Aq:Bz c bu KA i x w (i :: us) σ aW aI aF.heap.size w.heap.size l9 Y.heap.size dQ I BP (bL++[k]) (bL++[k]) (bL++[k]) BX A9 c9)=>show CB 94 #[pp l9 0] I (.tuple #[.string IL,.bool IQ]) from by
      rw [Dq,Dr,<- Aq.lay.1];exact ak0 Aq.box)
     have hlen:bH.length=3:=by rw [Ad];rfl
     have Bw:Sz 80 bH.length:=by rw [hlen];exact kr
     have Cs:∀ v∈bH,v.oneCell'=true:=by rw [Ad];simp [iy,Value.oneCell']
     have IX:(bH.drop 0).take bH.length=bH:=by simp
     have hcs:(Value.agg bH.toArray).cells.size=3:=by simp [Value.cells,hlen]
     obtain⟨IZ,Bb,Ie,Ig⟩:=hq4 Ad BG Dq Dr;rw [<- BG,<- BO];have Dt:=aa (show c.l.T<=w.heap.size from hs.fG.size);clear Ad BO BG Dq Dr BA hA has;go_wp2_with (first
      | (go_at_call 121; refine jw Co.o ?_;intro A7 FE)
      | ((with_reducible refine rP bH hlen Bw Cs ?_);intro Au AB AP;have Ij:=aa (FE.o.below hc AB.o))
      | (with_reducible refine kv AP.o underlying80 Bw ?_)
      | ((with_reducible refine BV ZE (.agg bH.toArray) hcs rfl ?_);intro I C8 BH;rw [qD] at C8;have Bc:=aa C8;have Dx:=aa (Ij.o.below hc BH);have FF:=aa (AP.o.all BH);have Ik:=aa (show Own I c.l.T 80 3 qE Bu AU (cz iy bL) by rw [Bb.o];exact Dx.o.read);have Il:=aa (show c.l.T<=I.heap.size/\A7.heap.size<=I.heap.size by have h1:=AB.o.size;have ag:=BH.size;refine⟨?_,om⟩;obtain⟨_,_,_,_,_,_,AZ,_⟩:=Dx.o.all;exact aQn Dt.o AZ.size);clear C8 BH)
      | (at_builtin;have _t:=Bc;go_must ((with_reducible refine ve 80 _ 3 40 underlying156 ZE.info ZE.zs c.l.T qE Bu AU (cz iy bL) Ik.o 1 bH (.slice (some ⟨Au.heap.size,0,none⟩) 1 1) (Src.slice underlying156 Bc.o) Cs ?_ ?_ ?_ ?_ ?_);exact mO;omega;exact Il.o.1;exact⟨rfl,rfl⟩;intro Ct Cv Ag Dy Dz FH;have Im:=aa (Dx.o.Qf hc (k:=k) (A9:=Ct) (c9:=Cv) (by rw [IZ.o,Bb.o] at Dy;exact Dy) Dz FH);have Io:=aa (show aM Ag A7.heap.size bH 80 from (Dz.block _ FF.o.lt (fun e=>by have:=(FE.o.read.block _ e.symm).2.1;omega)).trans FF.o);clear Dy Dz FH))
      | (with_reducible refine kv Io.o underlying80 Bw ?_)
      | (go_at_call 97; refine (IU.o Ag Ct Cv Im.o).mono ?_;rintro e E8 ⟨rfl,BX,FJ⟩;have FN:=aa FJ;clear FJ)
      | (go_at_call 94; refine (IW.o E8 Ct Cv BX FN.o).mono ?_;rintro e FP ⟨rfl,FQ⟩;have Ip:=aa (FN.o.below hc FQ);clear FQ))
     go_roundg (gk - 1);case rel =>
      exact⟨BP,bL++[k],BX,Ct,Cv,by rw [List.length_append,List.length_singleton,<- Bb.o];have:=Bb.o;omega,by rw [List.length_append,List.length_singleton,<- Bb.o],by rw [Ie.o],by rw [Ig.o],Ip.o⟩
     case measure=>have:=Bb.o;omega
    ·have Co:=aa (show Calls prog 121 #[pp bu 0,.string P,.slice qE Bu AU] wr fun e A7=>∃ g L,e = .returned (.tuple #[.agg (iy ⟨s.asks,false,[]⟩).toArray,pp g 0])/\aM A7 g (jm (bE c.W i) L) 63 /\ nC A7 c.l.T (bE c.W i) L/\(∀ q,bV L.B=some q->w.heap.size<=q)/\(bE c.W i).kind≠1/\aM A7 aF.heap.size iG 63 /\ GH c bu KA i w (i :: us) σ aW aI A7 from by
      rw [BO,BG];refine (Aa.o.asked hc iL hm fC BF.o Ab).mono ?_;rintro e A7 (⟨Bv,h1,_⟩ | ⟨g,L,h1,ag,AZ,Br,BM,E9,Iq,_⟩)
      ·exact absurd ⟨Bv,h1⟩ hA
      ·exact⟨g,L,h1,ag,AZ,Br,BM,E9,Iq⟩)
     obtain⟨bH,Ad⟩:=ai (iy ⟨s.asks,false,[]⟩);rw [<- Ad] at Co;have hlen:bH.length=3:=by rw [Ad];rfl
     have Bw:Sz 80 bH.length:=by rw [hlen];exact kr
     have Cs:∀ v∈bH,v.oneCell'=true:=by rw [Ad];simp [iy,Value.oneCell']
     rw [<- BG,<- BO];have Dt:=aa (show c.l.T<=w.heap.size from hs.fG.size);clear Ad BO BG hA has;go_wp2_with (first
      | (go_at_call 121; refine Co.o.mono ?_;rintro e A7 ⟨g7,AJ,rfl,EB,Aw,FT,FV,FW,FY⟩;obtain⟨dh,AA⟩:=ai (jm (bE c.W i) AJ);rw [<- AA] at EB;have Ah:dh.length=4:=by { rw [AA];rfl };have AL:Sz 63 dh.length:=by { rw [Ah];exact kr };have BI:∀ v∈dh,v.oneCell'=true:=by { rw [AA];simp [jm,Value.oneCell'] };have Fa:(dh.drop 0).take dh.length=dh:=by { simp };have C9:dh.length=iG.length:=Ah;obtain⟨Ir,AV,Iu,Iw,Iy,J2,Ay⟩:=hq7 EB Aw FT FV FW FY AA;clear EB Aw FT FV FW FY AA)
      | ((with_reducible refine rP bH hlen Bw Cs ?_);intro Au AB _;have AP:=aa (Ir.o.all AB.o);have Al:=aa (Iy.o.all AB.o))
      | (with_reducible refine kv AP.o underlying63 AL ?_)
      | ((with_reducible refine vC dh Al.o AL C9 BI ?_);intro I Bc Am))
     refine D9 Bc.o underlying63 rfl AL ⟨rfl,rfl,rfl⟩ ?_;have ED:=(J2.o.below hc AB.o).dK hc Dt.o Al.o Am.o (by have:=BK.o;omega) dc;rw [Ay.o];exact ED.post Iw.o rfl ⟨iJ (AV.o.outs.below AB.o (aQm _)) Al.o dc Am.o,iJ (AV.o.reads.below AB.o (aQm _)) Al.o dc Am.o⟩ Iu.o
   | true =>
    rw [Ab,if_pos rfl] at Cm;rw [Ab,Bool.not_true] at Cn;subst Cm Cn;obtain⟨Fb,Ff,Fh,Fj,Cw⟩:=Aa.o.over hc fC BF.o Ab;have EG:=aa Fb;have Fs:=aa (show Calls prog 95 #[pp l9 0] wr fun e w'=>∃ L:lK,e = .returned (.tuple #[.agg (jm (bE c.W i) L).toArray,.bool true])/\nC w' wr.heap.size (bE c.W i) L/\Bl wr w' from by
     rw [<- Ff,<- Aa.o.lay.1];exact aui Aa.o.box Ab Fh Fj Cw)
    have Ao:=aa (show c.l.T<=wr.heap.size/\w.heap.size<=wr.heap.size/\c.l.T<=w.heap.size by
     obtain⟨_,_,_,h1,ag,_⟩:=EG.o;exact⟨h1.fG.size,ag.size,hs.fG.size⟩)
    obtain⟨CE,Cz⟩:∃ k:Int,k=(bE c.W i).kind:=⟨_,rfl⟩;have Fu:=aa Cz;clear Fb Ff Fh Fj Cw;have J3:CE=1\/CE≠1:=om;rcases J3 with CJ | CJ
    ·subst CJ;have CK:(bE c.W i).kind=1:=by have:=Cz.symm;omega
     have EH:i < c.X.length:=by simpa [dL.X,dL.n] using fC
     have Fw:=afF hc fC;have Fx:=Sr hc.work EH;have J4:=aa (fun (I:aRB) (L:lK) (hO:UQ I (bE c.W i) L)=>show Calls prog 176 #[.agg dQ.toArray,.agg (jm (bE c.W i) L).toArray] I fun e w'=>∃ T:qh,e = .returned (.tuple #[.agg (gJ (c.df i) T).toArray,.int .i64 0])/\oH w' I.heap.size (c.df i) T/\Bl I w' from by
      rw [Eo.o];exact aGc I (c.gm i) (bE c.W i) L hO CK ⟨aQn Fx om,Fw.1⟩ (fun y hy=>aQn (XM hc.work.small i y hy).1 om) (afA hc.work EH CK))
     have J5:=aa (fun (I:aRB) (aT:GH c bu KA i w (i :: us) σ aW aI I) (rU:Nat) (bg:w.heap.size<=rU/\rU<=I.heap.size) (T:qh) (bY:oH I rU (c.df i) T) (A:aRC) (J6 rX:Nat) (J7:Own I rX 65 2 A (bE c.W i).outs.length J6 (cz fO (bE c.W i).outs))=>aT.keep hc fC CK bg Ao.o.2.2 bY J7);obtain⟨jN,EI,no,Fy⟩:=nq2 c.l.S.jN ((bE c.W i).outs.length);have Fz:=aa (fun af (ae:Bl wr af)=>show af.cell? (ad bu 0)=some (pp X 0)/\af.cell? (ad X 4)=some (.iface 90 (pp jN 0)) from by
      obtain⟨uB,IV,bQ,gN,eY,h1,_,_,_,_,E9,_⟩:=Aa.o.all;rw [Ee.o,EI];exact⟨(E9.row.all ae).cell 0,((h1.all hc ae).fG.cells).2.2.1⟩)
     have Cw:dQ.length=32:=by rw [Eo.o];exact rf _
     have J8:Sz 59 dQ.length:=by rw [Cw];exact kr
     have IX:(dQ.drop 0).take dQ.length=dQ:=by simp
     obtain⟨JA,JB,G5⟩:=hq3 CK EI Fy;clear Cz CK EH Fw Fx EI Fy;go_upto_region 18 with (first
      | (go_at_call 95; refine Fs.o.mono ?_;rintro e A7 ⟨AJ,rfl,Aw,CL⟩;obtain⟨dh,AA⟩:=ai (jm (bE c.W i) AJ);have JC:=aa (fun (I:aRB) (hO:UQ I (bE c.W i) AJ)=>(by have:=J4.o I AJ hO;rw [<- AA] at this;exact this:Calls prog 176 #[.agg dQ.toArray,.agg dh.toArray] I fun e w'=>∃ T:qh,e = .returned (.tuple #[.agg (gJ (c.df i) T).toArray,.int .i64 0])/\oH w' I.heap.size (c.df i) T/\Bl I w'));rw [<- AA];have Ah:dh.length=4:=by { rw [AA];rfl };have AL:Sz 63 dh.length:=by { rw [Ah];exact kr };have BI:∀ v∈dh,v.oneCell'=true:=by { rw [AA];simp [jm,Value.oneCell'] };have Fa:(dh.drop 0).take dh.length=dh:=by { simp };have C9:dh.length=iG.length:=Ah;obtain⟨AV,CS,Ay⟩:=hq3 Aw CL AA;clear Aw CL AA)
      | ((with_reducible refine rP dh Ah AL BI ?_);intro Au AB AP;have G6:Au.cell? (ad A7.heap.size 0)=some (.int .i64 1):=by { rw [AP.o.cell 0,Ay.o];show some (Value.int .i64 ((bE c.W i).kind:Int))=_;rw [JA.o];rfl };have EK:=aa (aR CS.o AB.o);have JD:=aa (Aa.o.key.all EK.o))
      | (with_reducible refine kv JD.o underlying59 J8 ?_)
      | (with_reducible refine kv AP.o underlying63 AL ?_)
      | (go_at_call 176; refine (JC.o Au (AV.o.all AB.o).at_).mono ?_;rintro e I ⟨G7,rfl,GI,BH⟩;obtain⟨Ai,CU⟩:=ai (gJ (c.df i) G7);rw [<- CU];have GJ:Ai.length=34:=by { rw [CU];exact Ef _ _ };have GK:Sz 224 Ai.length:=by { rw [GJ];exact kr };have JE:∀ v∈Ai,v.oneCell'=true:=by { rw [CU];exact MW _ _ };have JI:(Ai.drop 0).take Ai.length=Ai:=by { simp };obtain⟨Am,JJ,JK⟩:=hq3 GI BH CU;clear GI BH CU G6)
      | ((with_reducible refine rP Ai GJ GK JE ?_);intro Ag GQ GR;have CV:=aa (aR JJ.o GQ.o)))
     have EL:=aa (aR EK.o CV.o);have GY:=aa (fun af (ae:Bl Ag af)=>show af.cell? (ad A7.heap.size 2)=some (.slice AJ.A no AJ.c) from by
      have:=((AP.o.all CV.o).all ae).cell 2;rw [this,Ay.o,G5.o];rfl)
     have kE:=aa fun af (aj:Bl Ag af)=>And.intro (Fz.o af (aR EL.o aj)) (And.intro (GR.o.all aj) (GY.o af aj));refine ng nE 10 [some (pp bu 0),some (pp bu 0),some (pp bu 0),some (pp X 0),some (pp X 0),some (pp X 4),some (.iface 90 (pp jN 0)),some (.agg Ai.toArray),some (pp A7.heap.size 2),some (.slice AJ.A no AJ.c)] (fun _ _ _=>False) (Bl Ag) Bl ((Below.refl _ Ag).drew) (fun j v w1 af ae h=>h.elim) ?_ (jJ:=?_)
     ·intro u11 E8 aj Bo;clear Bo;have Ga:=aa (aR EL.o aj);have JL:=aa (Aa.o.res.all Ga.o);have JO:=aa ((AP.o.all CV.o).all aj);have EM:=aa (((AV.o.all AB.o).all CV.o).all aj);have EO:=J5.o E8 (EG.o.below hc Ga.o) Au.heap.size ⟨aQn Ao.o.2.1 EK.o.size,aQn CV.o.size aj.size⟩ G7 ((Am.o.all GQ.o).all aj) AJ.A AJ.c _ EM.o.outs;rw [<- JB.o,<- JK.o,<- G5.o] at EO;have JP:=aa EO;clear aj EO;go_wp2_with (first
       | (refine aQM rfl fun K aS=>?_;go_simp;refine JP.o.mono ?_;rintro e FP ⟨rfl,Ak,JQ,Gb⟩;have Gc:=aa Ak;have JR:=aa Gb;have JS:=aa (JO.o.nP Ak (by have:=CS.o.size;have:=Ao.o;omega) dc);have DD:=aa (JL.o.nP Ak (by have:=BK.o;have:=Ao.o;omega) dc);clear Ak JQ Gb;refine aS _ _ ?_)
       | (with_reducible refine kv JS.o underlying63 AL ?_)
       | ((with_reducible refine vC dh DD.o AL C9 BI ?_);intro K9 JU DF))
      refine D9 JU.o underlying63 rfl AL ⟨rfl,rfl,rfl⟩ ?_;obtain⟨JV,JY,Ja,Jb,Bv,Jd,Jg,Jh,Jj,Jl⟩:=JR.o;have bY:=Ao.o;have Gd:w.heap.size<=aF.heap.size:=by have:=BK.o;omega
      have EP:nC FP wr.heap.size (bE c.W i) AJ:=⟨EM.o.outs.nP Gc.o bY.1 dc,EM.o.reads.nP Gc.o bY.1 dc⟩;rw [Ay.o];exact⟨JV,JY,Ja,AJ,rfl,⟨(iJ EP.outs DD.o dc DF.o).mono bY.1,(iJ EP.reads DD.o dc DF.o).mono bY.1⟩,fun q AO=>aQn bY.2.1 (EP.reads.block q AO).1,Jb.dK hc DD.o (jW.ug DF.o) (aQn bY.2.2 Gd) dc,Bv.NH (jW.ug DF.o) Gd,Jd,Jg,aQU _ Jh,Jj,fun _=>Jl⟩
     ·repeat' (first | exact trivial | apply And.intro)
      all_goals try exact rx
      all_goals intro eH u af aj aK bz K aS
      all_goals try simp [iY,Region.binds] at bz
      all_goals refine mf rfl ?_
      all_goals obtain⟨KG,KJ⟩:=Fz.o af (aR EL.o aj)
      all_goals have kr:=GR.o.all aj
      all_goals have Bv:=GY.o af aj
      ·refine wp_load_row I.heap.size 0 Ai Ai _ kr JI _ underlying224 GK ⟨rfl,by simp [Act.eval,aK],rfl⟩ ?_;exact aS _ _ rfl aj (Below.refl _ _)
    ·have DW:decide (CE=1)=false:=aRd CJ;have KN:(CE == 1)=false:=by simpa using CJ
     have Jm:=aa (show (bE c.W i).kind≠1 from fun e=>CJ (by rw [Fu.o,e];rfl));clear Cz;go_wp2_with (first
      | (go_at_call 95; refine Fs.o.mono ?_;rintro e A7 ⟨AJ,rfl,Aw,CL⟩;obtain⟨dh,AA⟩:=ai (jm (bE c.W i) AJ);rw [<- AA];have Ah:dh.length=4:=by { rw [AA];rfl };have AL:Sz 63 dh.length:=by { rw [Ah];exact kr };have BI:∀ v∈dh,v.oneCell'=true:=by { rw [AA];simp [jm,Value.oneCell'] };have Fa:(dh.drop 0).take dh.length=dh:=by { simp };have C9:dh.length=iG.length:=Ah;obtain⟨AV,CS,Ay⟩:=hq3 Aw CL AA;clear Aw CL AA)
      | ((with_reducible refine rP dh Ah AL BI ?_);intro Au AB AP;have G6:Au.cell? (ad A7.heap.size 0)=some (.int .i64 CE):=by { rw [AP.o.cell 0,Ay.o,Fu.o];rfl };have Al:=aa ((Aa.o.res.all CS.o).all AB.o))
      | (with_reducible refine kv AP.o underlying63 AL ?_)
      | ((with_reducible refine vC dh Al.o AL C9 BI ?_);intro I Bc Am))
     refine D9 Bc.o underlying63 rfl AL ⟨rfl,rfl,rfl⟩ ?_;have ED:=((EG.o.below hc CS.o).below hc AB.o).dK hc Ao.o.2.2 Al.o Am.o (by have:=BK.o;omega) dc;rw [Ay.o];refine ED.post Jm.o rfl ⟨(iJ (AV.o.outs.below AB.o (aQm _)) Al.o dc Am.o).mono Ao.o.1,(iJ (AV.o.reads.below AB.o (aQm _)) Al.o dc Am.o).mono Ao.o.1⟩ fun q AO=>aQn Ao.o.2.1 (AV.o.reads.block q AO).1
 ·repeat' (first | exact trivial | apply And.intro)
  all_goals try exact rx
  all_goals intro eH u af aj aK bz K aS
  all_goals try simp [iY,Region.binds] at bz
  all_goals refine mf rfl ?_
  all_goals obtain⟨KO,KP,KS⟩:=EY.o af aj
  ·refine Nl afT (.int .i64 i) rfl rfl (by simp [Act.eval,aK,bz]) ?_;exact aS _ _ ⟨⟨fun _=>⟨_,rfl,aM.new af [.int .i64 i] _,aj.Jv⟩,fT,fun e=>absurd rfl e⟩,fT⟩ (aj.alloc _) (oN.alloc af _)
  ·obtain⟨Jn,Jo⟩:=bz;obtain⟨g9,Jq,C8,KU⟩:=(show wV aV.heap.size (c.l.T) 3 1 cZ n rc iX [.int .i64 i] 16 17 16 _ af from Jo).1.1 rfl;refine XB afT rfl aj.2 g9 C8 rfl Gi.o Gj.o (aQn Gm.o aj.1.size) underlying37 ⟨by simp [Act.eval,aK,Jn],by simp [Act.eval,aK,Jq]⟩ ?_;intro iD c2 aC Ce Gf Jr Jt;exact aS _ _ ⟨⟨fT,fun _=>⟨iD,c2,rfl,Ce⟩,fun _ e=>absurd rfl e⟩,fun _ cO m3 bF Jw j aD Ca=>by cases Jw;exact Jt j (aQq aD aj.1.size) Ca⟩ ⟨F8 aj.1 Gf.1,Jr⟩ Gf
def abK:List Value:=[.int .i64 0,.string ⟨#[]⟩,.int .i64 0]
def VC (F n:Nat) (iX:aRD) (j:Nat) (v:Value) (w:aRB):Prop :=
 (j=5->∃ A c,v = .slice A n c/\Rd w 34 A n iX)/\(j=11->∃ g,v = .pointer (some ⟨g,0,none⟩)/\aM w g abK 216 /\ F<=g)
theorem VC.keep {F n:Nat} {iX:aRD} (h:VC F n iX j v w) (ae:Bl w w'):VC F n iX j v w' :=
 ⟨fun e=>(by obtain⟨A,c,I,J⟩:=h.1 e;exact⟨A,c,I,J.gp ae⟩),fun e=>(by obtain⟨g,I,J,M⟩:=h.2 e;exact⟨g,I,J.all ae,M⟩)⟩
theorem avD (hc:c.Ok) {U:aRG} (hs:j6 c w U σ aW aI) (ah:c.k.bZ[i]?=some x) :
  CB 117 #[.agg (vF x).toArray] w (.agg (l6 (c.gm i)).toArray):=by
 have I:=aQr ah;have fC:i < c.n:=(aQs.1 ah).1;obtain⟨y,h1,J,_⟩:=ND c fC;rw [ah] at h1;cases h1;have hA:=(hs.fG.work w (fun _ _ _=>rfl)).bZ.each x I;have hk:c.gm i=bN.sum (vU x.2):=by show auM (c.X.getD i mZ)=_;rw [J];rfl
 have M:Mm w:=(hs.fG.home.up (aQn hc.base.1 hs.fG.size)).Gg;have:=aIC w x.1 x.2 hA (hc.wide x I) M;rw [<- H7 (yB _),<- hk] at this;exact this
theorem aJz (hc:c.Ok) (iL:NI c m) (hs:j6 c w (i :: us) σ aW aI) (hm:rZ σ c.n<=m) {l:LJ} (ah:c.k.bZ[i]?=some x) (aD:Cr c w l i x []) (ay:i ∉ σ.dZ++aW) (aT:σ.bG i=false) :
  Calls prog 73 #[pp l.bu 0] w (NN c l.bu l.KA i w (i :: us) σ aW aI):=by
 have fC:i < c.n:=(aQs.1 ah).1;obtain⟨aF,AJ⟩:=ai (w.alloc (.cells iG.toArray 63));have Ae:=gQ AJ;have BJ:=lH AJ;obtain⟨bu,KA,iq⟩:=l;simp only at aD |-;obtain⟨AL,Af,BK,Az,dQ,A7⟩:=nq3 (vF x) (NF c ⟨bu,KA,iq⟩ i x 0) (l6 (c.gm i));obtain⟨AA,AO⟩:∃ V:List Value,V=[.int .i64 3,.string ⟨#[]⟩,.int .i64 0]:=⟨_,rfl⟩;obtain⟨iX,BL⟩:∃ V:List Value,V=cz gZ (([]:List dz).map iA):=⟨_,rfl⟩;have C9:(BK.drop 2).take AL.length=AL:=by rw [Az,Af];rfl
 have CE:Sz 45 AL.length:=by rw [Af];exact kr
 have BM:dQ.length=32:=by rw [A7];exact rf _
 have BA:Sz 59 dQ.length:=by rw [BM];exact kr
 have CJ:∀ v∈dQ,v.oneCell'=true:=by rw [A7];exact adX _
 have Db:(dQ.drop 0).take dQ.length=dQ:=by simp
 have CK:AA.length=abK.length:=by rw [AO];rfl
 have CL:Sz 216 AA.length:=by rw [AO];exact ZT _ _ _
 have CS:∀ v∈AA,v.oneCell'=true:=by rw [AO];exact ZU _ _ _
 have CU:=aa (show aM aF bu BK 158 by rw [Az];exact (aD.all Ae).row);have CV:=aa (by have:=avD hc (hs.all hc Ae) ah;rw [<- Af,<- A7] at this;exact this:CB 117 #[.agg AL.toArray] aF (.agg dQ.toArray));have CW:=aa (fun af (ae:Bl w af)=>show Calls prog 118 #[pp bu 0,.agg dQ.toArray] af fun e w'=>∃ cO bF,e = .returned (.slice cO 0 bF)/\Bl af w' from by
  rw [A7];refine (ava hc (hs.all hc ae) (aD.all ae) fC ah).mono ?_;rintro e w' ⟨v,rfl,⟨cO,bF,rfl,_⟩,AP⟩;rw [aT];exact⟨cO,bF,rfl,AP⟩)
 have CZ:=aa (fun af (ae:Bl w af)=>show Calls prog 124 #[pp bu 0,.agg dQ.toArray] af (NN c bu KA i af (i :: us) σ aW aI) from by
  rw [A7];exact aJh hc iL (hs.all hc ae) hm ah (aD.all ae) ay aT)
 have Ca:=aa (fun af (ae:Bl w af)=>show Calls prog 120 #[.slice KA 0 iq] af fun e w'=>∃ A' c',e = .returned (.slice A' 0 c')/\Row af w' 135 34 A' 0 c' iX from by
  rw [BL];exact ai4 af KA iq [] (aD.all ae).known.rd dc (fun _ h=>by cases h))
 have Cb:=aa (fun af (ae:Bl w af)=>show af.cell? (ad bu 9)=some (.slice KA 0 iq)/\af.cell? (ad bu 10)=some (.slice none 0 0) from ⟨(aD.all ae).row.cell 9,(aD.all ae).row.cell 10⟩);have Ce:=aa (fun af (ae:Bl w af)=>show NG af bu KA from .afK (aD.all ae).row (aD.all ae).known);obtain⟨Cf,Cg,BO⟩:=hq3 Ae BJ AO;have BP:=aa (show c.l.T<=w.heap.size from hs.fG.size);rw [show iG.toArray=#[.int .i64 0,.int .i64 0,.slice none 0 0,.slice none 0 0] from rfl] at AJ;have Ci:=AJ.symm;clear AJ Ae BJ Af Az A7 AO BL hs aD;go_enter func73,ntmps73;go_wp2_with (first
  | (with_reducible refine O4 2 AL CU.o C9 underlying45 CE ?_)
  | (go_at_call 117; refine CV.o.mono ?_;rintro e af ⟨rfl,AP⟩;have BQ:=aa (aR Cf.o AP);have Ck:=aa AP;clear AP Ci)
  | ((with_reducible refine rP dQ BM BA CJ ?_);intro aC BX Bb)
  | (with_reducible refine kv Bb.o underlying59 BA ?_)
  | (go_at_call 118; refine (CW.o aC (aR BQ.o BX.o)).mono ?_;rintro e I ⟨cO,bF,rfl,BF⟩;have Bc:=aa (aR BX.o BF);have Ag:=aa (aR BQ.o Bc.o);have Bd:=aa (Bb.o.all BF);have Bf:=aa ((Cg.o.all Ck.o).all Bc.o);clear BF))
 go_loopg [8] 1 (fun gk _ wr=>gk=1/\I=wr);case atStart=>exact⟨rfl,rfl⟩
 case round =>
  obtain⟨rfl,rfl⟩:=hrel;have Bi:=aa (fun af (ae:Bl I af)=>Cb.o af (aR Ag.o ae));have Cm:=aa (fun af (ae:Bl I af)=>Ca.o af (aR Ag.o ae));have Cn:=aa (fun af (_:Bl I af) (Y:aRC) (AB:Nat) (_:Rd af 34 Y 0 iX)=>show CB 119 #[.slice cO 0 bF,.slice Y 0 AB,.slice none 0 0] af (.agg AA.toArray) from by rw [BO.o];exact aDL af cO bF Y 0 AB none 0 0);go_upto_region 3 with fail
  have kE:=Bi;refine ng nE 12 [some (.slice cO 0 bF),some (pp bu 0),some (pp bu 0),some (pp bu 9),some (.slice KA 0 iq),none,some (pp bu 0),some (pp bu 0),some (pp bu 10),some (.slice none 0 0),some (.agg AA.toArray),none] (VC I.heap.size 0 iX) (Bl I) Bl ((Below.refl _ I).drew) (fun j v w1 af ae h=>h.keep ae) ?_ (jJ:=?_)
  ·intro u6 Co aj Bn;obtain⟨g5,Bo,Bp,Bq⟩:=(show VC I.heap.size 0 iX 11 (u6 11) Co from Bn 11 om).2 rfl;clear Bn;simp only [Bo];have Ah:=aj;have Cs:=aa (aR Ag.o Ah);have Ct:=aa Bp;have Cv:=aa (Bd.o.all Ah);have Cw:=aa (Bf.o.all Ah);have BG:=aa Bq;clear Ah aj Bp Bq Bo;go_wp2_with (first
    | ((with_reducible refine Jk AA Ct.o CL CK CS ?_);intro BH Br AV;have Dc:=aa AV;have Ai:=aa (oF Cs.o AV (aQn Ag.o.size BG.o));have Cz:=aa (Cv.o.dK AV (by have:=Bd.o.lt;have:=BG.o;omega));have DD:=aa (Cw.o.dK AV (by have:=Bf.o.lt;have:=BG.o;omega));have DF:BH.cell? (ad g5 0)=some (.int .i64 3):=(by rw [Br.cell 0,BO.o];rfl);clear Br AV)
    | (with_reducible refine kv Cz.o underlying59 BA ?_)
    | (go_at_call 124; refine (CZ.o BH Ai.o).mono ?_;rintro e De ⟨DL,DN,DR,Bt,rfl,AZ,Ak,Al,Aa,Am,Ao,Ap,Aq,Au⟩;obtain⟨dh,Ab⟩:=ai (jm (bE c.W i) Bt);rw [<- Ab];have Bu:dh.length=4:=by { rw [Ab];rfl };have Bv:Sz 63 dh.length:=by { rw [Bu];exact kr };have DW:∀ v∈dh,v.oneCell'=true:=by { rw [Ab];simp [jm,Value.oneCell'] };have DX:dh.length=iG.length:=Bu;have Aw:=aa (aM.vP (Ce.o BH Ai.o) Aa DD.o BP.o dc dc dc);have DY:=aa (And.intro AZ (And.intro Ak (And.intro Al (And.intro Aa (And.intro Am (And.intro Ao (And.intro Ap (And.intro Aq Au))))))));have DZ:=aa Ab;clear AZ Ak Al Aa Am Ao Ap Aq Au Ab DF)
    | ((with_reducible refine vC dh Aw.o Bv DX DW ?_);intro Df Da Ay))
   refine D9 Da.o underlying63 rfl Bv ⟨rfl,rfl,rfl⟩ ?_;obtain⟨AZ,Ak,Al,Aa,Am,Ao,Ap,Aq,Au⟩:=DY.o;have Bw:=Ai.o.size;rw [DZ.o];exact⟨DL,DN,DR,Bt,rfl,⟨iJ AZ.outs Aw.o dc Ay.o,iJ AZ.reads Aw.o dc Ay.o⟩,fun q BI=>aQn Bw (Ak q BI),Al.dK hc Aw.o (jW.ug Ay.o) BP.o dc,((l7.GG (kY.gT Ai.o)).trans Aa fun _ _ h=>h).NH (jW.ug Ay.o) (aQm _),Am,fun q BI=>(Ao q BI).imp_right fun h=>aQn Bw h,Ap,Aq,Au⟩
  ·repeat' (first | exact trivial | apply And.intro)
   all_goals try exact rx
   all_goals intro eH u af aj aK bz K aS
   all_goals try simp [iY,Region.binds] at bz
   all_goals refine mf rfl ?_
   all_goals obtain⟨Dg,Dh⟩:=Bi.o af aj
   ·go_simp;refine (Cm.o af aj).mono ?_;rintro e aC ⟨Y,AB,rfl,Ad⟩;exact aS _ _ ⟨fun _=>⟨Y,AB,rfl,Ad.own.rd⟩,fT⟩ (aj.trans (Ad.low.mono aj.size)) Ad.low
   ·obtain⟨Dk,Dl,Dm,ah⟩:=bz;obtain⟨Y,AB,Dp,Ad⟩:=ah.1 rfl;go_simp;refine (Cn.o af aj Y AB Ad).mono ?_;rintro e aC ⟨rfl,C8⟩;exact aS _ _ rfl (aR aj C8) C8
   ·go_simp;exact aS _ _ ⟨fT,fun _=>⟨_,rfl,aM.new af abK _,aj.size⟩⟩ (aj.alloc aj.size _) gK
theorem Own.avG (aD:NG w bu KA) (h:l7 l bu KA w w') {n:Nat} (aG:Own w base t aO A n c2 xs) (aA:t∈XI) (bJ:t ≠ 80):Own w' base t aO A n c2 xs:=aG.keep fun b ae _ _=>by
 obtain⟨_,_,cur,bf,hc⟩:=aG.block b ae;refine h.calm b cur _ bf hc aA fun e=>?_;obtain⟨I,M,hk⟩:=aD.2 b e.symm;rw [hc] at hk;injection hk with hk
 injection hk with _ hk
 exact bJ hk
theorem oH.vP (aD:NG w bu KA) (h:l7 l bu KA w w') {B:Nat} {t:lI} (aG:oH w B t L):oH w' B t L:=⟨Own.avG aD h aG.reads dc dc,Own.avG aD h aG.outs dc dc⟩
theorem avH {t:lI} {c:Nat} (h:Own w base 224 34 A 1 c (gJ t L)):∃ b o,A=some ⟨b,o,none⟩/\(loadVar 224 ⟨b,o,none⟩).run prog w = .ok (.agg (gJ t L).toArray) w:=by
 have h1:Rd w 34 A 1 (cz (fun _:Unit=>gJ t L) [()]):=by have:=h.rd;simpa [cz] using this
 obtain⟨b,o,e,I⟩:=vE (f:=fun _:Unit=>gJ t L) (k:=34) (fun _=>Ef t L) underlying224 rfl kr h1 (i:=0) (x:=()) rfl rfl;rw [Nat.zero_mul,Nat.add_zero] at I;exact⟨b,o,e,I⟩
theorem aJN (A:aRC) (n c:Nat) (B:aRC) (m d:Nat):prog.built 63 [(0,.int .i64 1),(2,.slice A n c),(3,.slice B m d)]=some #[.int .i64 1,.int .i64 0,.slice A n c,.slice B m d]:=kr
theorem aJO (hc:c.Ok) (fC:i < c.n) (hk:(bE c.W i).kind=1) (mI:bL.map iA=(bE c.W i).reads.take bL.length) (hl:bL.length < (bE c.W i).reads.length) :
  ∃ s k,yw c i s (bL.map iA)/\s.over=false/\fI c.W s.asks = .known k/\(bE c.W i).reads[bL.length]?=some (iA k)/\k.path=s.asks/\k.data.length<=65536:=by
 obtain⟨b,rs,aL,hw,AA,hy,e⟩:=XL hc.work.small hk;have J:(bE c.W i).reads=rs:=by show (bE (nQ c.k.files c.X) i).reads=rs;rw [e];exact hw.2.2
 rw [J] at mI hl |-;obtain⟨s',p,k,h1,M,I,Y⟩:=aL.ahead bL.length hl;obtain⟨A7,rfl⟩:=NB M;refine⟨s',k,⟨s',rfl,by rw [mI];exact h1⟩,A7,I,Y,(LH hc.work.small).path _ _ I,(LH hc.work.small).data _ _ I⟩
theorem aJP (hc:c.Ok) (hk:(bE c.W i).kind=1) (mI:bL.map iA=(bE c.W i).reads.take bL.length) (hl:bL.length=(bE c.W i).reads.length):∃ s,yw c i s (bL.map iA)/\s.over=true:=by
 obtain⟨b,rs,aL,hw,I,hy,e⟩:=XL hc.work.small hk;have J:(bE c.W i).reads=rs:=by show (bE (nQ c.k.files c.X) i).reads=rs;rw [e];exact hw.2.2
 rw [J] at mI hl;rw [hl,List.take_length] at mI;exact⟨b,⟨b,rfl,by rw [mI];exact aL⟩,I⟩
structure Cu (c:dL) (bu:Nat) (oq:aRC) (i:Nat) (x:iP) (w:aRB) (U:aRG) (σ:bI) (aW:aRG) (aI:aRI) (cO:aRC) (bF:Nat) (L:qh) (wr:aRB) (bL:List dz) (KA:aRC) (iq:Nat):Prop where
 all:∃ bQ gN eY,j6 c wr U bQ gN eY/\l7 c.l bu oq w wr/\SE i σ aW bQ gN/\(∀ q,eY q->aI q\/w.heap.size<=q)/\bQ.bG i=true/\i ∉ bQ.dZ++gN/\xP c.W bQ i bL.length
 BB:Cr c wr ⟨bu,KA,iq⟩ i x bL
 fresh:∀ q,q < w.heap.size->some q≠bV oq->some q≠bV KA
 way:bL.map iA=(bE c.W i).reads.take bL.length
 len:bL.length<=(bE c.W i).reads.length
 row:Own wr c.l.T 224 34 cO 1 bF (gJ (c.df i) L)
 df:oH wr c.l.S.B (c.df i) L
 res:aM wr w.heap.size iG 63
 low:c.l.T<=w.heap.size
 small:∀ k∈bL,k.data.length<=65536
section
variable {c:dL} (hc:c.Ok) {bu:Nat} {oq KA:aRC} {iq:Nat} {i:Nat} {x:iP} {w:aRB} {us:aRG} {σ:bI} {aW:aRG} {aI:aRI} {cO:aRC} {bF:Nat} {L:qh} {wr w':aRB} {bL:List dz}
theorem Cu.below (hc:c.Ok) (h:Cu c bu oq i x w (i :: us) σ aW aI cO bF L wr bL KA iq) (ae:Bl wr w'):Cu c bu oq i x w (i :: us) σ aW aI cO bF L w' bL KA iq:=by obtain⟨bQ,gN,eY,h1,I,M⟩:=h.all;exact⟨⟨bQ,gN,eY,h1.all hc ae,I.trans (.GG (kY.gT ae)) (fun _ _ h=>h),M⟩,h.BB.all ae,h.fresh,h.way,h.len,h.row.below ae (aQm _),h.df.all ae,h.res.all ae,h.low,h.small⟩
theorem Cu.dK (hc:c.Ok) (h:Cu c bu oq i x w (i :: us) σ aW aI cO bF L wr bL KA iq) (av:aM wr g Z ty) (aA:fU g wr w') (ax:w.heap.size < g) (h1:ty ∉ Fv) (ag:ty ≠ 158) (au:some g≠bV KA):Cu c bu oq i x w (i :: us) σ aW aI cO bF L w' bL KA iq:=by
 obtain⟨bQ,gN,eY,M,Y,A7⟩:=h.all;have AA:∀ {g2:Nat} {V:aRD} {t:TypeId},aM wr g2 V t->t≠ty->g2≠g:=fun I AB e=>by
  rw [e,aM,av] at I;injection I with I
  injection I with _ I
  exact AB I.symm
 refine⟨⟨bQ,gN,eY,M.dK hc av (jW.ug aA) (aQn h.low (aQ3 ax)) h1,Y.NH (jW.ug aA) (aQ3 ax),A7⟩,⟨h.BB.row.dK aA (AA h.BB.row (aQJ ag)),h.BB.far,h.BB.known.keep fun b ae _ _=>aA.2.2.2.2 b fun e=>au (by rw [<- e];exact ae.symm)⟩,h.fresh,h.way,h.len,?_,⟨?_,?_⟩,h.res.dK aA om,h.low,h.small⟩
 ·exact iJ h.row av (fun e=>h1 (by rw [<- e];decide)) aA
 ·exact iJ h.df.reads av (fun e=>h1 (by rw [<- e];decide)) aA
 ·exact iJ h.df.outs av (fun e=>h1 (by rw [<- e];decide)) aA
theorem Cu.asked (hc:c.Ok) (iL:NI c m) (hm:rZ σ c.n<=m) (fC:i < c.n) (ql:c.X.getD i mZ=x.2) (h:Cu c bu oq i x w (i :: us) σ aW aI cO bF L wr bL KA iq) {s:dA} {k:dz} (aL:yw c i s (bL.map iA)) (gq:s.over=false) (hk:fI c.W s.asks = .known k) (lh:(bE c.W i).reads[bL.length]?=some (iA k)) (aT:k.data.length<=65536) :
  CR 121 #[pp bu 0,.string (az s.asks),.slice KA bL.length iq] wr (.tuple #[.agg (iy k).toArray,.pointer none]) fun w'=>∃ uB wX,Cu c bu oq i x w (i :: us) σ aW aI cO bF L w' (bL++[k]) uB wX/\(∀ q,q < wr.heap.size->some q≠bV KA->some q≠bV uB)/\l7 c.l bu KA wr w':=by
 obtain⟨bQ,gN,eY,h1,AA,AJ,AZ,Aa,Ab,Ad⟩:=h.all;have AL:=aL.asks hc.toFit fC ql gq;refine (avo hc iL h1 (aQn (afH c.n AJ.begun) hm) h.BB AL.1 (aL.may hc.toFit gq h1) AL.2.1 om h.BB.known om (fun y hy=>by have:=h.small y hy;omega)).mono ?_;rintro e w' ⟨σ',tk',fB,I,Ae,Af⟩;have AB:NG wr bu KA:=.afK h.BB.row h.BB.known;have AO:=(h1.inv.under i).1 sp;rcases Af with ⟨Am,uB,wX,AP,rfl,Ag,AV⟩ | ⟨g,o,Ao,rfl,Ap,Aq,Au,Ah⟩
 ·rw [hk] at AP;cases AP;have Ai:=(aQs.1 lh).1;refine⟨rfl,uB,wX,⟨⟨σ',tk',fB,I.st,AA.trans I.vP h.fresh,AJ.next I.grow,fun q A7=>?_,(I.grow.same i AO.1).trans Aa,fun Ak=>?_,?_⟩,Ag,fun q A7 Al=>AV q (aQq A7 AA.size) (h.fresh q A7 Al),?_,?_,Own.vP AB I.vP h.row (aQm _) dc dc dc,h.df.vP AB I.vP,aM.vP AB I.vP h.res h.low dc dc dc,h.low,fun y hy=>?_⟩,AV,I.vP⟩
  ·rcases I.wC q A7 with Y | Y
   ·exact AZ q Y
   ·exact .inr (aQn AA.size Y)
  ·rcases I.grow.log i Ak with M | M
   ·exact Ab M
   ·rw [AO.1] at M;cases M
  ·rw [List.length_append];exact aL.next (Ad.mono I.grow.begun) Ae
  ·rw [List.map_append,h.way,List.length_append,List.length_singleton,List.take_add_one,lh];rfl
  ·rw [List.length_append,List.length_singleton];exact Ai
  ·rcases aQI.1 hy with M | M
   ·exact h.small y M
   ·rw [List.mem_singleton.1 M];exact aT
 ·rcases Ah with ⟨Y,_⟩ | ⟨Y,_⟩ <;> (rw [Y] at hk;cases hk)
end
def GL (T:World->Option Addr->Nat->Prop) (W:aRB) (Z V:aRD) (L:Nat->Bool) (u:Nat->Value) (af:aRB):Prop :=
 (L 7=false->Bl W af)/\W.heap.size<=af.heap.size/\(L 7=true->∃ KA iq,T af KA iq/\(L 11=true->∀ g,u 11 = .pointer (some ⟨g,0,none⟩)->some g≠bV KA)/\∀ q,bV KA=some q->q < af.heap.size) /\
 (L 11=true->∃ g,u 11 = .pointer (some ⟨g,0,none⟩)/\W.heap.size<=g/\aM af g (if L 12=true then V else Z) 80)
section
variable {T:World->Option Addr->Nat->Prop} {W af aC:aRB} {Z V:aRD} {L:Nat->Bool} {u:Nat->Value}
theorem GL.plain (bY:∀ a b KA iq,T a KA iq->Bl a b->T b KA iq) (h:GL T W Z V L u af) (ae:Bl af aC) (h1:7≠i) (ag:11≠i) (au:12≠i):GL T W Z V (GD L i) (oM u i v) aC:=by
 obtain⟨I,ks,J,M⟩:=h;refine⟨fun h=>?_,aQn ks ae.size,fun h=>?_,fun h=>?_⟩
 ·rw [xF h1] at h;exact (I h).trans (ae.mono ks)
 ·rw [xF h1] at h;obtain⟨KA,iq,Y,A7,AA⟩:=J h;refine⟨KA,iq,bY _ _ _ _ Y ae,fun h g e=>?_,fun q AB=>aQq (AA q AB) ae.size⟩;rw [xF ag] at h;rw [NJ ag] at e;exact A7 h g e
 ·rw [xF ag] at h;obtain⟨g,e,ax,AJ⟩:=M h;exact⟨g,by rw [NJ ag,e],ax,by rw [xF au];exact AJ.all ae⟩
theorem GL.laid (bY:∀ a b KA iq,T a KA iq->Bl a b->T b KA iq) (h:GL T W Z V L u af) (ae:L 12=false):GL T W Z V (GD L 11) (oM u 11 (pp af.heap.size 0)) (af.alloc (.cells Z.toArray 80)):=by
 obtain⟨M,ks,Y,AJ⟩:=h;have I:Below af.heap.size af (af.alloc (.cells Z.toArray 80)):=gK;refine⟨fun h=>?_,aQn ks I.size,fun h=>?_,fun _=>⟨_,afM,ks,by rw [xF dc,ae];exact aM.new af Z _⟩⟩
 ·rw [xF dc] at h;exact (M h).trans (I.mono ks)
 ·rw [xF dc] at h;obtain⟨KA,iq,A7,_,J⟩:=Y h;refine⟨KA,iq,bY _ _ _ _ A7 I,fun _ g e AA=>?_,fun q AB=>aQq (J q AB) I.size⟩;rw [afM] at e;cases e;have:=J _ AA.symm;omega
theorem GL.call {oq:aRC} {iq:Nat} (h:GL T W Z V L u af) (bY:T aC KA iq) (abx:l7 l bu oq af aC) (hf:∀ q,q < af.heap.size->some q≠bV oq->some q≠bV KA) (aX:∀ q,bV oq=some q->q < W.heap.size) (oJ:∀ q,bV KA=some q->q < aC.heap.size):GL T W Z V (GD L 7) (oM u 7 v) aC:=by
 obtain⟨AJ,ks,AL,I⟩:=h;have M:∀ g,W.heap.size<=g->some g≠bV oq:=fun g ax e=>by have:=aX g e.symm;omega
 refine⟨fun h=>(by rw [abq] at h;cases h),aQn ks abx.size,fun _=>⟨KA,iq,bY,fun h g e=>?_,oJ⟩,fun h=>?_⟩
 ·rw [xF dc] at h;rw [NJ dc] at e;obtain⟨g2,A7,AA,AB⟩:=I h;rw [A7] at e;cases e;exact hf _ AB.lt (M _ AA)
 ·rw [xF dc] at h;obtain⟨g,e,ax,Y⟩:=I h;exact⟨g,by rw [NJ dc,e],ax,by rw [xF dc];exact (abx.calm g _ _ _ Y dc (M g ax)).trans Y⟩
theorem GL.stored (bY:∀ a b KA iq g Y,T a KA iq->aM a g Y 80 -> fU g a b->W.heap.size<=g->some g≠bV KA->T b KA iq) (h:GL T W Z V L u af) (gY:L 11=true) {Y:aRD} (av:aM af g Y 80) (ax:W.heap.size<=g) (hu:u 11 = .pointer (some ⟨g,0,none⟩)) (aA:fU g af aC) (jf:aM aC g V 80):GL T W Z V (GD L 12) (oM u 12 v) aC:=by
 obtain⟨J,ks,M,AJ⟩:=h;refine⟨fun h=>?_,by rw [aA.2.2.2.1];exact ks,fun h=>?_,fun _=>⟨g,by rw [NJ dc,hu],ax,by rw [abq];exact jf⟩⟩
 ·rw [xF dc] at h;exact oF (J h) aA ax
 ·rw [xF dc] at h;obtain⟨KA,iq,A7,I,AA⟩:=M h;refine⟨KA,iq,bY _ _ _ _ _ _ A7 av aA ax (I gY g hu),fun h g2 e=>?_,fun q AB=>by rw [aA.2.2.2.1];exact AA q AB⟩;rw [NJ dc,hu] at e;cases e;exact I gY g hu
end
end
section
open Go.Maps Go.RowKit Go.Shelf
theorem aJQ (hc:c.Ok) (iL:NI c m) (hs:j6 c w (i :: us) σ aW aI) (hm:rZ σ c.n<=m) {l:LJ} (ah:c.k.bZ[i]?=some x) (aD:Cr c w l i x []) (ay:i ∉ σ.dZ++aW) (aT:σ.bG i=true) :
  Calls prog 73 #[pp l.bu 0] w (NN c l.bu l.KA i w (i :: us) σ aW aI):=by
 have fC:i < c.n:=(aQs.1 ah).1;have Dr:(bE c.W i).kind=1:=hs.inv.bG i aT;obtain⟨aF,Bb⟩:=ai (w.alloc (.cells iG.toArray 63));have CV:=gQ Bb;have Dt:=lH Bb;obtain⟨bu,oq,Ap⟩:=l;simp only at aD |-;obtain⟨Bc,CW,Dx,Cw,dQ,Bd⟩:=nq3 (vF x) (NF c ⟨bu,oq,Ap⟩ i x 0) (l6 (c.gm i));have FP:(Dx.drop 2).take Bc.length=Bc:=by rw [Cw,CW];rfl
 have FQ:Sz 45 Bc.length:=by rw [CW];exact kr
 have Dy:dQ.length=32:=by rw [Bd];exact rf _
 have Dz:Sz 59 dQ.length:=by rw [Dy];exact kr
 have FT:∀ v∈dQ,v.oneCell'=true:=by rw [Bd];exact adX _
 have Iu:(dQ.drop 0).take dQ.length=dQ:=by simp
 have ql:c.X.getD i mZ=x.2:=by obtain⟨y,h1,ag,_⟩:=ND c fC;rw [ah] at h1;cases h1;exact ag
 have FV:=aa (show aM aF bu Dx 158 by rw [Cw];exact (aD.all CV).row);have FW:=aa (by have:=avD hc (hs.all hc CV) ah;rw [<- CW,<- Bd] at this;exact this:CB 117 #[.agg Bc.toArray] aF (.agg dQ.toArray));have FY:=aa (fun af (ae:Bl w af) (Fa:aM af w.heap.size iG 63)=>show Calls prog 118 #[pp bu 0,.agg dQ.toArray] af fun e w'=>∃ cO bF L,e = .returned (.slice cO 1 bF)/\Cu c bu oq i x w (i :: us) σ aW aI cO bF L w' [] oq Ap from by
  rw [Bd];refine (ava hc (hs.all hc ae) (aD.all ae) fC ah).mono ?_;rintro e w' ⟨v,rfl,⟨cO,bF,rfl,Ai⟩,AJ⟩;rw [if_pos aT] at Ai |-;obtain⟨L,Ak,Bf⟩:=Ai dc;have Cz:=aR ae AJ;have bY:=hs.fG.size;exact⟨cO,bF,L,rfl,⟨⟨σ,aW,aI,hs.all hc Cz,.GG (kY.gT Cz),⟨fun _ h=>h,fun _ h=>.inl h,fun _ _=>rfl,fun _ h=>h,fun _ _ _=>rfl⟩,fun _ h=>.inl h,aT,ay,xP.zero⟩,aD.all Cz,fun _ _ h=>h,rfl,aQu _,Ak.mono (aQn bY ae.size),Bf,Fa.all AJ,bY,fun _ h=>by cases h⟩⟩)
 have Fb:=aa CV;have Ff:=aa Dt;have DD:=aa (show c.l.T<=w.heap.size from hs.fG.size);have Fh:=aa ql;have Bi:=aa Dr;rw [show iG.toArray=#[.int .i64 0,.int .i64 0,.slice none 0 0,.slice none 0 0] from rfl] at Bb;have Fj:=Bb.symm;clear Bb CV Dt CW Cw Bd hs aD ql Dr;go_enter func73,ntmps73;go_wp2_with (first
  | (with_reducible refine O4 2 Bc FV.o FP underlying45 FQ ?_)
  | (go_at_call 117; refine FW.o.mono ?_;rintro e af ⟨rfl,AJ⟩;have Fs:=aa (aR Fb.o AJ);have Bn:=aa AJ;clear AJ Fj)
  | ((with_reducible refine rP dQ Dy Dz FT ?_);intro aC E8 Fu)
  | (with_reducible refine kv Fu.o underlying59 Dz ?_)
  | (go_at_call 118; refine (FY.o aC (aR Fs.o E8.o) ((Ff.o.all Bn.o).all E8.o)).mono ?_;rintro e AL ⟨cO,bF,L,rfl,Bo⟩;have Fw:=aa Bo;clear Bo))
 obtain⟨R,aK⟩:=ai ((bE c.W i).reads);have CZ:=aa aK;have E9:=afF hc fC;have Iw:R.length<=500:=by rw [aK];exact E9.1
 clear aK;go_loopg [8] (R.length+1) (fun gk _ wr=>∃ (bL:List dz) (KA:aRC) (iq:Nat),bL.length+gk=R.length+1/\Cu c bu oq i x w (i :: us) σ aW aI cO bF L wr bL KA iq);case atStart=>exact⟨[],oq,Ap,by simp,Fw.o⟩
 case round =>
  obtain⟨bL,KA,iq,Al,bY⟩:=hrel;have BI:=aa bY;obtain⟨I,Aq⟩:=ai bL.length;obtain⟨iX,DF⟩:∃ V:List Value,V=cz gZ (bL.map iA):=⟨_,rfl⟩;obtain⟨Aa,Bp⟩:∃ V:List Value,V=Jp (c.df i) I:=⟨_,rfl⟩;have hlen:I<=R.length:=by rw [Aq,CZ.o];exact bY.len
  have DL:Aa.length=abK.length:=by rw [Bp];unfold Jp;split <;> rfl
  have EB:Sz 216 Aa.length:=by rw [DL];exact ZT _ _ _
  have ED:∀ v∈Aa,v.oneCell'=true:=by rw [Bp];unfold Jp;split <;> exact ZU _ _ _
  have EG:=aa (fun af (ae:Bl wr af)=>show af.cell? (ad bu 9)=some (.slice KA I iq)/\af.cell? (ad bu 10)=some (.slice none 0 0) from by
   rw [Aq];exact⟨(bY.BB.all ae).row.cell 9,(bY.BB.all ae).row.cell 10⟩)
  have Fx:=aa (fun af (ae:Bl wr af)=>show Calls prog 120 #[.slice KA I iq] af fun e w'=>∃ A' c',e = .returned (.slice A' I c')/\Row af w' 135 34 A' I c' iX from by
   rw [Aq,DF];exact ai4 af KA iq bL (bY.BB.all ae).known.rd om (fun y hy=>by have:=bY.small y hy;omega))
  have Fy:=aa (fun af (ae:Bl wr af) (Au:aRC) (BJ:Nat) (Ak:Rd af 34 Au I iX)=>show CB 119 #[.slice cO 1 bF,.slice Au I BJ,.slice none 0 0] af (.agg Aa.toArray) from by
   have Fz:i < c.X.length:=by simpa [dL.X,dL.n] using fC
   have Bq:=afA hc.work Fz Bi.o;have EH:=bY.below hc ae;have G5:iX=cz gZ ((c.df i).reads.take I):=by rw [DF,bY.way,Aq];rfl
   rw [Bp];rw [G5] at Ak;exact aDO af (c.df i) L cO bF EH.row.rd EH.df.at_ I (by rw [Aq];exact bY.len) Au BJ Ak Bq.apart (fun y hy=>⟨(Bq.reads y hy).sum,by have:=(Bq.reads y hy).small;unfold maxLen;omega⟩) (fun y hy=>by
    obtain⟨z,_,rfl⟩:=aQv.1 (show y∈(bE c.W i).outs.map uT from hy);exact yB _) (by have:=Bq.few;omega) (by have:=Bq.few;omega) 0)
  have Am:=aa Aq;have EI:=aa Bp;clear bY Aq DF Bp;go_upto_region 3 with fail
  have kE:=EG;refine ng nE 12 [some (.slice cO 1 bF),some (pp bu 0),some (pp bu 0),some (pp bu 9),some (.slice KA I iq),none,some (pp bu 0),some (pp bu 0),some (pp bu 10),some (.slice none 0 0),some (.agg Aa.toArray),none] (VC wr.heap.size I iX) (Bl wr) Bl ((Below.refl _ wr).drew) (fun j v w1 af ae h=>h.keep ae) ?_ (jJ:=?_)
  ·intro u6 G6 aj Ab;obtain⟨g5,Br,EK,Iy⟩:=(show VC wr.heap.size I iX 11 (u6 11) G6 from Ab 11 om).2 rfl;clear Ab;simp only [Br];have EL:=aj;have EM:=aa (BI.o.below hc EL);have Ca:=aa EK;have EO:=aa (show w.heap.size < g5 by have:=BI.o.res.lt;omega);have EP:=aa (show some g5≠bV KA from fun e=>by have:=(BI.o.BB.known.block _ e.symm).2.1;omega);clear EL aj EK Br;by_cases G7:I < R.length
   ·obtain⟨s,k,aL,ER,EU,DN,EW,EY⟩:=aJO hc fC Bi.o BI.o.way (by rw [<- Am.o,<- CZ.o];exact G7);obtain⟨P,DR⟩:=ai (az s.asks);have Bt:Aa=[.int .i64 1,.string P,.int .i64 0]:=by rw [EI.o,Jp,show (c.df i).reads[I]?=some (iA k) by rw [Am.o];exact DN,DR,<- EW];rfl
    have Bu:=aa Bt;obtain⟨bH,Cb⟩:=ai (iy k);have GI:=aa (fun (af:aRB) (ag:Cu c bu oq i x w (i :: us) σ aW aI cO bF L af bL KA iq)=>show CR 121 #[pp bu 0,.string P,.slice KA I iq] af (.tuple #[.agg bH.toArray,.pointer none]) fun w'=>∃ uB AA,Cu c bu oq i x w (i :: us) σ aW aI cO bF L w' (bL++[k]) uB AA/\(∀ q,q < af.heap.size->some q≠bV KA->some q≠bV uB)/\l7 c.l bu KA af w' from by
     rw [DR,Am.o,Cb];exact ag.asked hc iL hm fC Fh.o aL ER EU DN EY)
    have Ce:bH.length=3:=by rw [Cb];rfl
    have GJ:=aa (show Sz 80 bH.length by rw [Ce];exact kr);have GK:=aa (show 0+bH.length<=l8.length by rw [Ce];exact aQm 3);have GQ:=aa (show ∀ v∈bH,v.oneCell'=true by rw [Cb];simp [iy,Value.oneCell']);have GR:=aa (show l8.take 0++bH++l8.drop (0+bH.length)=bH by rw [Ce];simp [l8,iy]);clear DR Bt Cb Ce aL ER EU DN EW EY;go_upto_region 7 with (first
     | ((with_reducible refine Jk Aa Ca.o EB DL ED ?_);intro A7 Aw Bv;have Ao:=aa (EM.o.dK hc Ca.o Bv EO.o dc dc EP.o);have GY:=aa Aw;have Ap:A7.cell? (ad g5 0)=some (.int .i64 1):=(by rw [Aw.cell 0,Bu.o];rfl);clear Aw Bv)
     | fail)
    clear Ap;obtain⟨Ad,Bw⟩:∃ Ad:World->Option Addr->Nat->Prop,Ad=fun af uB AA=>Cu c bu oq i x w (i :: us) σ aW aI cO bF L af (bL++[k]) uB AA:=⟨_,rfl⟩;have DW:=aa (fun (u:Nat->Value)=>show GL Ad A7 l8 bH (fun _=>false) u A7.drew from ⟨fun _=>(Below.refl _ A7).drew,aQm _,fun h=>(by cases h),fun h=>(by cases h)⟩);have C8:=aa (fun (a b:aRB) (uB:aRC) (AA:Nat) (h:Ad a uB AA) (ae:Bl a b)=>show Ad b uB AA from by
     rw [Bw] at h |-;exact Cu.below hc h ae)
    have Ga:=aa (show w.heap.size < A7.heap.size from Ao.o.res.lt);have Gb:=aa (fun (a b:aRB) (uB:aRC) (AA g:Nat) (Y:aRD) (h:Ad a uB AA) (av:aM a g Y 80) (Gc:fU g a b) (ax:A7.heap.size<=g) (BK:some g≠bV uB)=>show Ad b uB AA from by
     rw [Bw] at h |-;exact Cu.dK hc h av Gc (by have:=Ga.o;omega) dc dc BK)
    have Gd:=aa (fun af (ae:Bl A7 af)=>show af.cell? (ad g5 1)=some (.string P) from by rw [(GY.o.all ae).cell 1,Bu.o];rfl);have Gf:=aa (fun af (ae:Bl A7 af)=>show af.cell? (ad bu 9)=some (.slice KA I iq) from by rw [Am.o];exact (Ao.o.BB.all ae).row.cell 9);have Gi:=aa (fun (q:Nat) (Al:bV KA=some q)=>show q < A7.heap.size from (Ao.o.BB.known.block q Al).2.1);have Gj:=aa (fun af (ae:Bl A7 af)=>show CR 121 #[pp bu 0,.string P,.slice KA I iq] af (.tuple #[.agg bH.toArray,.pointer none]) fun w'=>∃ uB AA,Ad w' uB AA/\(l7 c.l bu KA af w')/\(∀ q,q < af.heap.size->some q≠bV KA->some q≠bV uB)/\(∀ q,bV uB=some q->q < w'.heap.size) from by
     rw [Bw];refine (GI.o af (Ao.o.below hc ae)).mono ?_;rintro e w' ⟨rfl,uB,AA,h1,ag,Ai⟩;exact⟨rfl,uB,AA,h1,Ai,ag,fun q Al=>(h1.BB.known.block q Al).2.1⟩)
    have Gm:=aa Bw;clear Bw;refine Tq 14 (iY [some (pp bu 0),some (pp g5 1),some (.string P),some (pp bu 0),some (pp bu 0),some (pp bu 9),some (.slice KA I iq),some (.tuple #[.agg bH.toArray,.pointer none]),some (.tuple #[.agg bH.toArray,.pointer none]),some (.agg bH.toArray),some (.pointer none),none,none,some (.pointer none)] (fun _ _ _=>True)) (GL Ad A7 l8 bH) (fun _ _=>True) DW.o (fun j v w1 af ae Gp=>iY.keep (fun _=>trivial) Gp) ?_ (jJ:=?_)
    rotate_left
    ·repeat' (first | exact trivial | apply And.intro)
     all_goals intro eH u2 af J2 aj C9 DX aK bz K aS
     all_goals simp [iY,Region.binds] at bz
     all_goals first | simp [Region.wanted,yielded,aK,bz] | simp [Region.wanted,yielded] | skip
     all_goals try (first | exact aS _ _ rfl (aj.plain C8.o (Below.refl _ _) dc dc dc) (trivial) | (go_simp;exact aS _ _ rfl (aj.plain C8.o (Below.refl _ _) dc dc dc) (trivial)))
     ·have AJ:=aj.1 (acK DX C9 7 [2] kr sp);have AA:=Gd.o af AJ;go_simp;exact aS _ _ rfl (aj.plain C8.o (Below.refl _ _) dc dc dc) trivial
     ·have AJ:=aj.1 (acK DX C9 7 [6] kr sp);have AA:=Gf.o af AJ;go_simp;exact aS _ _ rfl (aj.plain C8.o (Below.refl _ _) dc dc dc) trivial
     ·have AJ:=aj.1 C9;go_simp;refine (Gj.o af AJ).mono ?_;rintro e aC ⟨rfl,uB,AA,ag,Ai,Ak,Bf⟩;exact aS _ _ rfl (aj.call ag Ai Ak Gi.o Bf) trivial
     ·go_simp;exact aS _ _ trivial (aj.laid C8.o (acK DX C9 12 [11] kr sp)) trivial
     ·have CE:=bz.1;obtain⟨g,EZ,ax,av⟩:=aj.2.2.2 CE;rw [C9,if_neg dc] at av;refine wp_store_row g 0 (.agg bH.toArray) bH l8 bH _ av (qD _) GJ.o GK.o GQ.o GR.o rfl ⟨by simp [Act.eval,aK,bz,EZ],by simp [Act.eval,aK,bz]⟩ ?_;intro bS Ae AO;exact aS _ _ trivial (aj.stored Gb.o CE av ax EZ AO Ae) trivial
    ·intro u9 Af aj Ab;have Ec:u9 13 = .pointer none:=Ab.at 13 dc dc;obtain⟨Gq,Gr,Ee,_⟩:=aj.2.2.1 rfl;obtain⟨g9,Br,_,_⟩:=aj.2.2.2 rfl;clear Ab;simp only [Ec,Br];have Gs:=aa Ee;clear Ee aj Ec Br;go_wp2_with fail;go_roundg (gk - 1);case rel =>
      have CE:=Gs.o;rw [Gm.o] at CE;exact⟨bL++[k],Gq,Gr,by rw [List.length_append,List.length_singleton,<- Am.o];have:=Am.o;omega,CE⟩
     case measure=>have:=Am.o;omega
   ·have BK:I=R.length:=om;have Bt:Aa=[.int .i64 2,.string ⟨#[]⟩,.int .i64 0]:=by rw [EI.o,Jp,List.getElem?_eq_none (by rw [BK,CZ.o];exact Nat.le_refl _)]
    have Bu:=aa Bt;have Gt:=aa (show bL.length=(bE c.W i).reads.length by rw [<- Am.o,BK,CZ.o]);obtain⟨DY,DZ,rfl,_⟩:=avH BI.o.row;obtain⟨AP,BL⟩:=ai (gJ (c.df i) L);have Eg:AP.length=34:=by rw [BL];exact Ef _ _
    have Bo:Sz 224 AP.length:=by rw [Eg];exact kr
    have Gu:∀ v∈AP,v.oneCell'=true:=by rw [BL];exact MW _ _
    have J3:(AP.drop 0).take AP.length=AP:=by simp
    have Gv:=aa (fun (af:aRB) (ag:Cu c bu oq i x w (i :: us) σ aW aI (some ⟨DY,DZ,none⟩) bF L af bL KA iq)=>show (loadVar 224 ⟨DY,DZ,none⟩).run prog af = .ok (.agg AP.toArray) af from by
     obtain⟨J4,J5,Gw,Ak⟩:=avH ag.row;cases Gw;rw [BL];exact Ak)
    obtain⟨no,Da⟩:=ai ((bE c.W i).outs.length);have Gx:=aa (fun (af:aRB) (ag:Cu c bu oq i x w (i :: us) σ aW aI (some ⟨DY,DZ,none⟩) bF L af bL KA iq)=>show Calls prog 122 #[pp bu 0,.agg AP.toArray] af fun e w'=>∃ A fe,e = .returned (.tuple #[.slice A no fe,.bool true])/\Own w' af.heap.size 65 2 A no fe (cz fO (bE c.W i).outs)/\Bl af w' from by
     obtain⟨bQ,gN,eY,Ai,_,_,_,Bf,_⟩:=ag.all;rw [BL,Da];have:=aIO hc Ai ag.BB fC Bf ag.df;exact this)
    have Ei:=aa Da;have Gy:=aa BL;clear Bt BL Da;go_upto_region 14 with (first
     | ((with_reducible refine Jk Aa Ca.o EB DL ED ?_);intro A7 Aw Bv;have Ao:=aa (EM.o.dK hc Ca.o Bv EO.o dc dc EP.o);have Ap:A7.cell? (ad g5 0)=some (.int .i64 2):=(by rw [Aw.cell 0,Bu.o];rfl);have AA:A7.cell? (ad g5 2)=some (.int .i64 0):=(by rw [Aw.cell 2,Bu.o];rfl);have H6:=aa (Gv.o A7 Ao.o);clear Aw Bv)
     | ((with_reducible refine pY H6.o ?_ ?_);exact rfl)
     | ((with_reducible refine rP AP Eg Bo Gu ?_);intro Db H8 Em;have Dc:=aa (Ao.o.below hc H8.o);clear Ap AA)
     | (with_reducible refine kv Em.o underlying224 Bo ?_)
     | (go_at_call 122; refine (Gx.o Db Dc.o).mono ?_;rintro e Af ⟨Ay,Az,rfl,En,Cf⟩;have H9:=aa En;have Eo:=aa (Em.o.all Cf);have BA:=aa (Dc.o.below hc Cf);have J6:=aa Cf;clear En Cf))
    obtain⟨bQ,gN,eY,AB,CJ,Ag,CK,BM,BO,CL⟩:=BA.o.all;have De:=aa (And.intro AB (And.intro CJ (And.intro Ag (And.intro CK (And.intro BM (And.intro BO CL))))));obtain⟨cZ,rc,kQ,jy,CS,Ep,Df,BF⟩:=AB.fG.row;have HY:=AB.few hc;clear AB CJ Ag CK BM BO CL;obtain⟨X,aY,n,Cg,BG,Dg⟩:=nq3 c.l.X gN.length (AR gN);rw [<- aY,<- Cg] at CS;rw [<- Cg,<- Dg] at Df;have Ah:=aa Df;have Er:=aa (fun (aC:aRB) (aj:nM Af c.l.T 3 1 kQ n jy BG aC)=>show aC.cell? (ad bu 0)=some (pp X 0)/\aC.cell? (ad bu 1)=some (.int .i64 i)/\aC.cell? (ad X 8)=some (.slice kQ n jy) from by
     have h1:=aj.row BA.o.BB.row (fun e=>Ah.o.ne BA.o.BB.row dc e.symm);have ag:=aj.row CS (fun e=>Ah.o.ne CS dc e.symm);exact⟨by rw [aY];exact h1.cell 0,h1.cell 1,ag.cell 8⟩)
    have He:=aa (show ∀ v∈[Value.int .i64 i],v.oneCell'=true by simp [Value.oneCell']);have Hf:=aa (show n<=1000000 by omega);have Hg:=aa (show c.l.T<=Af.heap.size from De.o.1.fG.size);obtain⟨Hl,Es,Hm,Dh,Eu,Ev⟩:=hq6 aY Cg Dg CS Ep BF;clear aY Cg Dg CS Df Ep BF HY;have kE:=Er;refine ng nE 21 [some (pp bu 0),some (pp bu 0),some (pp bu 0),some (pp X 0),some (pp bu 0),some (pp bu 0),some (pp bu 0),some (pp X 0),some (pp X 0),some (pp X 6),some (pp X 8),some (.slice kQ n jy),some (pp bu 0),some (pp bu 0),some (pp bu 1),some (.int .i64 i),none,none,some (pp X 0),some (pp X 6),some (pp X 8)] (wV Af.heap.size (c.l.T) 3 1 kQ n jy BG [.int .i64 i] 16 17) (nM Af (c.l.T) 3 1 kQ n jy BG) (oN (c.l.T) 3 1 kQ jy (n+1) (BG++[.int .i64 i])) (nM.start Ah.o) (fun j v w1 af ae h=>h.keep ae) ?_ (jJ:=?_)
    ·intro u10 Ci aj Ab;obtain⟨AV,AZ,Dk,Ck⟩:=(show wV Af.heap.size (c.l.T) 3 1 kQ n jy BG [.int .i64 i] 16 17 17 (u10 17) Ci from Ab 17 om).1.2.1 rfl;have Ew:=(show wV Af.heap.size (c.l.T) 3 1 kQ n jy BG [.int .i64 i] 16 17 17 (u10 17) Ci from Ab 17 om).2 rfl _ _ _ Dk;clear Ab;simp only [Dk];have Cm:=aa aj;have Ho:=aa Ck.1;have Hr:=aa Ew;have BH:=aa (aj.row Dh.o (fun e=>Ah.o.ne Dh.o dc e.symm));have Ht:=aa (aj.row Eo.o (fun e=>Ah.o.ne Eo.o dc e.symm));have Hu:=aa (aj.row BA.o.res (fun e=>Ah.o.ne BA.o.res dc e.symm));have Hw:Sz 37 1:=kr;have J7:(Value.slice AV (n+1) AZ).cells.toList=[Value.slice AV (n+1) AZ]:=rfl;have I1:8+1<=(Gz c cZ rc kQ jy bQ.dZ.length n).length:=by show 9<=10;decide
     have I6:(Value.slice AV (n+1) AZ).oneCell'=true:=rfl;have I8:(Gz c cZ rc kQ jy bQ.dZ.length n).set 8 (.slice AV (n+1) AZ)=Gz c cZ rc AV AZ bQ.dZ.length (n+1):=rfl;have DW:=aa (fun (AL:aRB) (Ae:aM AL X (Gz c cZ rc AV AZ bQ.dZ.length (n+1)) 78) (AO:fU X Ci AL)=>show j6 c AL (i :: us) bQ (gN++[i]) eY/\l7 c.l bu oq w AL/\aM AL A7.heap.size AP 224 /\ aM AL w.heap.size iG 63 /\ oH AL c.l.S.B (c.df i) L/\Own AL Db.heap.size 65 2 Ay no Az (cz fO (bE c.W i).outs) from by
      obtain⟨AB,CJ,Ag,CK,BM,BO,CL⟩:=De.o;have aY:=Hl.o;subst aY;have I9:=kY.Qf hc Ah.o Cm.o.1 BH.o AO;have IA:=(AB.inv.under i).1 sp;have Dl:∀ {base aO I c2:Nat} {t:TypeId} {A:aRC} {ys:aRD},Own Af base t aO A I c2 ys->t ≠ 3 -> Own Ci base t aO A I c2 ys:=fun h h1=>h.grown Cm.o.1 fun b ae e=>by
       obtain⟨_,_,cur,bf,IB⟩:=h.block b ae;obtain⟨_,_,J8,JA,BP⟩:=Ah.o.block b e.symm;rw [IB] at BP;injection BP with BP
       injection BP with _ BP
       exact h1 BP
      refine⟨⟨AB.fG.Qf hc Ah.o Cm.o.1 Dh.o AO (σ':=bQ) (tk':=gN++[i]) rfl rfl rfl rfl ⟨cZ,rc,AV,AZ,?_,?_,?_,fun q Al e=>?_⟩,AB.inv,AB.log.take BO IA.1 ?_,AB.kept⟩,CJ.trans (l7.GG (KA:=oq) I9) (fun _ _ h=>h),Ht.o.dK AO ?_,Hu.o.dK AO ?_,⟨?_,?_⟩,?_⟩
      ·show aM AL c.l.X (Gz c cZ rc AV AZ bQ.dZ.length (gN++[i]).length) _;rw [List.length_append,<- Es.o];exact Ae
      ·exact iJ (Eu.o.grown Cm.o.1 fun b ae e=>Ev.o b e.symm ae.symm) BH.o dc AO
      ·show Own AL c.l.T 3 1 AV (gN++[i]).length AZ (AR (gN++[i]));rw [List.length_append,<- Es.o,AR,List.map_append,<- AR,<- Hm.o];exact iJ Ho.o BH.o dc AO
      ·exact Hr.o q (Eu.o.block q e.symm).2.1 (fun IC=>Ev.o q IC.symm e) Al.symm
      ·rcases AB.log.bG i BM with h1 | h1
       ·exact h1
       ·exact absurd (aQU _ h1) BO
      ·have:=(hc.low _ (.inl rfl)).2;have:=DD.o;have:=Ao.o.res.lt;omega
      ·have:=(hc.low _ (.inl rfl)).2;have:=DD.o;omega
      ·exact iJ (Dl BA.o.df.reads dc) BH.o dc AO
      ·exact iJ (Dl BA.o.df.outs dc) BH.o dc AO
      ·exact iJ (Dl H9.o dc) BH.o dc AO)
     clear Ck aj Ew Dk;obtain⟨xW,BF⟩:=ai ((bE c.W i).reads.length);have JB:xW<=500:=by rw [BF];exact E9.1
     have Dm:=aa BF;have IE:=aa (fun (af:aRB) (ag:oH af c.l.S.B (c.df i) L)=>show Calls prog 123 #[.slice L.A xW L.c] af fun e w'=>∃ A' c',e = .returned (.slice A' xW c')/\Own w' af.heap.size 135 34 A' xW c' (cz gZ (bE c.W i).reads)/\Bl af w' from adU af L.A xW L.c (cz gZ (bE c.W i).reads) (by rw [BF];exact ag.reads.rd) (ZQ FZ _) om);clear BF;go_wp2_with (first
      | ((with_reducible refine BU 8 (.slice AV (n+1) AZ) BH.o Hw I1 I6 I8 ?_);intro Cn Ex Ey;obtain⟨Co,Ez,Dp,F3,F4,F5⟩:=DW.o Cn Ex Ey;have II:=aa Co;have F6:=aa Ez;have IL:Cn.cell? (ad A7.heap.size 32)=some (.slice L.A xW L.c):=(by rw [Gy.o] at Dp;rw [aun Dp,Dm.o];rfl);obtain⟨IQ,IU,IV⟩:=hq3 F3 F4 F5;clear Ex Ey Co Ez Dp F3 F4 F5)
      | (go_at_call 123; refine (IE.o Cn IU.o).mono ?_;rintro e JC ⟨BQ,BX,rfl,FB,Dq⟩;have FD:=aa FB;have Bn:=aa Dq;have Cs:=aa (IQ.o.all Dq);obtain⟨dh,CU⟩:∃ V:List Value,V=[.int .i64 1,.int .i64 0,.slice Ay no Az,.slice BQ xW BX]:=⟨_,rfl⟩;have FE:dh.length=iG.length:=(by rw [CU];rfl);have FF:Sz 63 dh.length:=(by rw [FE];exact kr);have IW:∀ v∈dh,v.oneCell'=true:=(by rw [CU];simp [Value.oneCell']);have FH:=aJN Ay no Az BQ xW BX;rw [show #[Value.int .i64 1,.int .i64 0,.slice Ay no Az,.slice BQ xW BX]=dh.toArray by rw [CU]] at FH;have IX:=aa CU;clear FB Dq IL CU)
      | ((with_reducible refine Re (.int .i64 1) (.slice Ay no Az) (.slice BQ xW BX) _ FH ?_ ?_);exact⟨rfl,rfl,rfl⟩)
      | ((with_reducible refine vC dh Cs.o FF FE IW ?_);intro JD IZ Ct))
     refine D9 IZ.o underlying63 rfl FF ⟨rfl,rfl,rfl⟩ ?_;obtain⟨AB,CJ,Ag,CK,BM,BO,CL⟩:=De.o;obtain⟨JE,Ie,Cv⟩:=aJP hc Bi.o BI.o.way Gt.o;have Co:=(F6.o).size;have bY:=DD.o;have Ig:=(II.o.all hc Bn.o).dK hc Cs.o (jW.ug Ct.o) bY dc;have Ij:=(F6.o.trans (.GG (kY.gT Bn.o)) (fun _ _ h=>h)).NH (jW.ug Ct.o) (aQm _);have Ik:jm (bE c.W i) ⟨Ay,Az,BQ,BX⟩=dh:=by
      obtain⟨b,rs,_,_,_,_,e⟩:=XL hc.work.small Bi.o;have h1:(bE c.W i).why=0:=by show (bE (nQ c.k.files c.X) i).why=0;rw [e]
      rw [IX.o,jm,Bi.o,h1,<- Ei.o,<- Dm.o];rfl
     rw [<- Ik];refine⟨bQ,gN++[i],eY,⟨Ay,Az,BQ,BX⟩,rfl,⟨?_,?_⟩,fun q Al=>aQn Co (FD.o.block q Al).1,Ig,Ij,⟨Ag.begun,fun j aD=>?_,Ag.got,Ag.more,Ag.same⟩,CK,?_,(Ie.over hc.toFit Cv).2 CL,fun _=>AB.kept i BM⟩
     ·have h1:=(iJ (IV.o.below Bn.o (aQm _)) Cs.o dc Ct.o).mono (show c.l.T<=Db.heap.size by have:=Dc.o.res.lt;omega);rw [Ei.o] at h1;exact h1
     ·have h1:=(iJ FD.o Cs.o dc Ct.o).mono (show c.l.T<=Cn.heap.size by omega);rw [Dm.o] at h1;exact h1
     ·rw [<- List.append_assoc] at aD;rcases aQI.1 aD with h1 | h1
      ·exact Ag.log j h1
      ·exact .inr (.inl (aRc.1 h1))
     ·exact aQ4 _ (aQ4 _ (aRc.2 rfl))
    ·repeat' (first | exact trivial | apply And.intro)
     all_goals try exact rx
     all_goals intro eH u af aj aK bz K aS
     all_goals try simp [iY,Region.binds] at bz
     all_goals refine mf rfl ?_
     all_goals obtain⟨JI,JJ,JK⟩:=Er.o af aj
     ·refine Nl afT (.int .i64 i) rfl rfl (by simp [Act.eval,aK,bz]) ?_;exact aS _ _ ⟨⟨fun _=>⟨_,rfl,aM.new af [.int .i64 i] _,aj.Jv⟩,fT,fun e=>absurd rfl e⟩,fT⟩ (aj.alloc _) (oN.alloc af _)
     ·obtain⟨Il,Cv⟩:=bz;obtain⟨g9,Im,Io,JL⟩:=(show wV Af.heap.size (c.l.T) 3 1 kQ n jy BG [.int .i64 i] 16 17 16 _ af from Cv).1.1 rfl;refine XB afT rfl aj.2 g9 Io rfl He.o Hf.o (aQn Hg.o aj.1.size) underlying37 ⟨by simp [Act.eval,aK,Il],by simp [Act.eval,aK,Im]⟩ ?_;intro iD c2 aC Ck FJ Ip Iq;exact aS _ _ ⟨⟨fT,fun _=>⟨iD,c2,rfl,Ck⟩,fun _ e=>absurd rfl e⟩,fun _ cO m3 bF Ir j aD BK=>by cases Ir;exact Iq j (aQq aD aj.1.size) BK⟩ ⟨F8 aj.1 FJ.1,Ip⟩ FJ
  ·repeat' (first | exact trivial | apply And.intro)
   all_goals try exact rx
   all_goals intro eH u af aj aK bz K aS
   all_goals try simp [iY,Region.binds] at bz
   all_goals refine mf rfl ?_
   all_goals obtain⟨JO,JP⟩:=EG.o af aj
   ·go_simp;refine (Fx.o af aj).mono ?_;rintro e aC ⟨Au,BJ,rfl,Ae⟩;exact aS _ _ ⟨fun _=>⟨Au,BJ,rfl,Ae.own.rd⟩,fT⟩ (aj.trans (Ae.low.mono aj.size)) Ae.low
   ·obtain⟨JQ,JR,JS,ah⟩:=bz;obtain⟨Au,BJ,Cv,Ae⟩:=ah.1 rfl;go_simp;refine (Fy.o af aj Au BJ Ae).mono ?_;rintro e aC ⟨rfl,FN⟩;exact aS _ _ rfl (aR aj FN) FN
   ·go_simp;exact aS _ _ ⟨fT,fun _=>⟨_,rfl,aM.new af abK _,aj.size⟩⟩ (aj.alloc aj.size _) gK
def avU:List TypeId:=[78,92,86,89]
theorem wB.turned (hc:c.Ok) {fB:aRI} (h:wB c w σ aW aI) {mH:aRD} (lC:aM w g mH ty) (aA:fU g w w1) (ax:c.l.C g) (h1:ty ∉ Fv) (ag:ty ∉ avU) (LP:σ'.dZ=σ.dZ) (Dt:σ'.bG=σ.bG) (XW:σ'.has=σ.has)
  (ae:aM w1 c.l.zH (yu σ' c.n) 4) (aG:∃ OL:Nat->lK,aM w1 c.l.jA (uV σ' OL c.n) 63 /\ ∀ i o,σ'.got i=some o->nC w1 c.l.T o (OL i)/\∀ q,bV (OL i).B=some q->fB q) (bW:∀ q,aI q->fB q):wB c w1 σ' aW fB:=by
 obtain⟨cZ,rc,kQ,jy,AO,AZ,Aa,aT⟩:=h.row;have Ak:=hc.low g ax;have Y:∀ {k:Nat} {cs:Array Value} {t:TypeId} {bf:Nat × Nat},w.heap[k]?=some (.cells cs t bf)->t≠ty->w1.heap[k]?=w.heap[k]?:=fun {k cs t bf} hk AB=>aA.2.2.2.2 k fun e=>by
  rw [e,lC] at hk;injection hk with hk
  injection hk with _ hk
  exact AB hk.symm
 have AP:∀ {k:Nat} {o:Obj},w.heap[k]?=some o->o.isCells=false->w1.heap[k]?=w.heap[k]?:=fun {k o} hk AB=>aA.2.2.2.2 k fun e=>by
  rw [e,lC] at hk;cases hk;cases AB
 have J:∀ {base aO n c2:Nat} {t:TypeId} {A:aRC} {ys:aRD},Own w base t aO A n c2 ys->t∈Fv->Own w1 base t aO A n c2 ys:=fun Ab e=>iJ Ab lC (fun I=>h1 (I ▸ e)) aA;have A7:∀ {t:TypeId},t∈avU->t≠ty:=fun e I=>ag (I ▸ e);obtain⟨M,hm,Ad⟩:=h.src.store;obtain⟨M2,Ae,Af,AV⟩:=h.src.bG.map;obtain⟨⟨Al,AJ,I⟩,⟨Am,AL,AA⟩,_⟩:=h.src.kinds;refine⟨⟨cZ,rc,kQ,jy,by rw [LP];exact (Y AO (A7 dc)).trans AO,by rw [LP];exact J AZ dc,J Aa dc,aT⟩,ae,aG,⟨(Y h.src.row (A7 dc)).trans h.src.row,⟨(Y h.src.bG.obj (A7 dc)).trans h.src.bG.obj,h.src.bG.far,M2,Ae.keep (AP AJ I),Af,fun j aD=>?_⟩,⟨M,⟨(Y hm.obj (A7 dc)).trans hm.obj,hm.map.keep (AP AL AA)⟩,by rw [XW];exact Ad⟩,h.src.far,h.src.ne⟩,fun V eD=>h.work V fun k Ag gB=>(eD k Ag gB).trans (aA.2.2.2.2 k fun e=>gB (by rw [e];exact ax)),h.home.below ⟨aA.1,aA.2.1,aA.2.2.1,aQL aA.2.2.2.1.symm,fun k hk=>aA.2.2.2.2 k om⟩,by rw [aA.2.2.2.1];exact h.size⟩;rw [Dt];refine⟨fun e=>?_,(AV j aD).2⟩;obtain⟨y,AJ,I,L,AL,AA,Ah⟩:=(AV j aD).1 e;exact⟨y,AJ,I,L,J AL dc,⟨J AA.reads dc,J AA.outs dc⟩,fun q Ai=>bW q (Ah q Ai)⟩
theorem aJ4 (σ:bI) {n:Nat} (ay:i < n):(yu σ n).set i (.bool true)=yu (σ.push i) n:=by
 apply List.ext_getElem?;intro j;rw [List.getElem?_set];by_cases e:i=j
 ·subst e;rw [if_pos rfl,if_pos (by simpa [yu] using ay),yu,List.getElem?_map,List.getElem?_range ay];simp [bI.push]
 ·rw [if_neg e,yu,yu,List.getElem?_map,List.getElem?_map];cases h:(List.range n)[j]? with
  | none=>rfl
  | some k =>
   have hk:k=j:=by have:=aQs.1 h;obtain⟨h1,I⟩:=this;simpa using I.symm
   subst hk;simp [bI.push,Ne.symm e]
theorem j6.amj (hc:c.Ok) {U:aRG} (h:j6 c w U σ aW aI) (fC:i < c.n) (ae:σ.begun i=false) (av:yM c.W c.dN i) (hf:∀ x∈U,xM c.W x i) (h1:aM w1 c.l.zH ((yu σ c.n).set i (.bool true)) 4) (aA:fU c.l.zH w w1):j6 c w1 (i :: U) (σ.push i) aW aI:=by rw [aJ4 σ fC] at h1;obtain⟨OL,J,I⟩:=h.fG.outs;refine⟨h.fG.turned hc h.fG.begun aA (.inr (.inl rfl)) dc dc rfl rfl rfl h1 ⟨OL,J.dK aA (aQJ hc.ne.2.2),fun j o e=>⟨⟨iJ (I j o e).1.outs h.fG.begun dc aA,iJ (I j o e).1.reads h.fG.begun dc aA⟩,(I j o e).2⟩⟩ (fun _ h=>h),h.inv.push ae av hf,h.log.push i,fun j aD=>(h.kept j aD).mono (fun _ h=>h) (fun _ h=>h)⟩
theorem SL (g:Option iN) (L:lK):(uU g L).length=4:=by cases g <;> rfl
theorem amk (σ:bI) (OL:Nat->lK) (l:aRG):(cz (fun i=>uU (σ.got i) (OL i)) l).length=l.length * 4:=by
 induction l with
 | nil=>rfl
 | cons a l I =>
  rw [show cz (fun i=>uU (σ.got i) (OL i)) (a :: l)=uU (σ.got a) (OL a)++cz (fun i=>uU (σ.got i) (OL i)) l from rfl,List.length_append,I,SL,List.length_cons];omega
theorem aJ5 (σ:bI) (OL:Nat->lK) {n:Nat} (ay:i < n) (o:iN) (L:lK):(uV σ OL n).take (i * 4)++jm o L++(uV σ OL n).drop (i * 4+(jm o L).length)=uV (σ.put i o) (fun j=>if j=i then L else OL j) n:=by
 have A7:List.range n=(List.range n).take i++i :: (List.range n).drop (i+1):=by have h:=(aRj i (List.range n)).symm;rw [List.drop_eq_getElem_cons (by simpa using ay)] at h;simpa using h
 have hl:((List.range n).take i).length=i:=by simp;omega
 have J:∀ (f:Nat->List Value) (a b:aRG),cz f (a++b)=cz f a++cz f b:=fun f a b=>by simp [cz]
 have AA:∀ j∈(List.range n).take i,j≠i:=fun j aD e=>by
  subst e;obtain⟨k,hk,I⟩:=aRu.1 aD;simp at hk I;omega
 have AB:∀ j∈(List.range n).drop (i+1),j≠i:=fun j aD e=>by
  subst e;obtain⟨k,hk,I⟩:=aRu.1 aD;simp at hk I;omega
 have M:∀ l:List Nat,(∀ j∈l,j≠i)->cz (fun j=>uU ((σ.put i o).got j) (if j=i then L else OL j)) l=cz (fun j=>uU (σ.got j) (OL j)) l:=fun l=>by
  induction l with
  | nil=>intro _;rfl
  | cons a l AJ =>
   intro h;have Y:=h a sp;show uU ((σ.put i o).got a) (if a=i then L else OL a)++_=uU (σ.got a) (OL a)++_;rw [show (σ.put i o).got a=σ.got a by simp [bI.put,Y],if_neg Y];exact congrArg _ (AJ fun j aD=>h j (by simp [aD]))
 unfold uV;rw [A7,J,J,M _ AA];have h1:=amk σ OL ((List.range n).take i);rw [hl] at h1;have key:∀ P Q S N:List Value,P.length=i * 4->Q.length=N.length->(P++(Q++S)).take (i * 4)++N++(P++(Q++S)).drop (i * 4+N.length)=P++(N++S):=fun P Q S N AL AO=>by
  rw [<- AL,List.take_left,<- List.append_assoc P Q S,show P.length+N.length=(P++Q).length by simp [AO],List.drop_left,List.append_assoc]
 have AP:=key _ (uU (σ.got i) (OL i)) (cz (fun j=>uU (σ.got j) (OL j)) ((List.range n).drop (i+1))) (jm o L) h1 (SL _ _);refine AP.trans ?_;rw [show cz (fun j=>uU ((σ.put i o).got j) (if j=i then L else OL j)) (i :: (List.range n).drop (i+1))=uU ((σ.put i o).got i) (if i=i then L else OL i)++cz (fun j=>uU ((σ.put i o).got j) (if j=i then L else OL j)) ((List.range n).drop (i+1)) from rfl,M _ AB,if_pos rfl,show (σ.put i o).got i=some o by simp [bI.put]];rfl
theorem j6.VF (hc:c.Ok) (h:j6 c w (i :: us) σ aW aI) (aB:i ∉ us) {L:lK} (aG:nC w c.l.T (bE c.W i) L) (aJ6:i∈σ.dZ++aW) (jB:∀ j,yc c.W i j->σ.begun j=true) (ax:(bE c.W i).kind=1->Bh c.W σ i)
  {OL:Nat->lK} (aN:aM w c.l.jA (uV σ OL c.n) 63) (bC:∀ i o,σ.got i=some o->nC w c.l.T o (OL i)/\∀ q,bV (OL i).B=some q->aI q) (eu:aM w1 c.l.jA (uV (σ.put i (bE c.W i)) (fun j=>if j=i then L else OL j) c.n) 63) (aA:fU c.l.jA w w1):j6 c w1 us (σ.put i (bE c.W i)) aW (fun q=>aI q\/bV L.B=some q):=by
 refine⟨h.fG.turned hc aN aA (.inr (.inr (.inl rfl))) dc dc rfl rfl rfl (h.fG.begun.dK aA hc.ne.2.2) ⟨_,eu,fun j o e=>?_⟩ (fun q h=>.inl h),h.inv.put aB jB ax,h.log.put aJ6,fun j aD=>(h.kept j aD).mono (fun _ h=>h) (fun _ h=>h)⟩;by_cases J:j=i
 ·subst J;have I:o=bE c.W j:=by simpa [bI.put] using e.symm
  subst I;simp only [if_pos];exact⟨⟨iJ aG.outs aN dc aA,iJ aG.reads aN dc aA⟩,fun q M=>.inr M⟩
 ·simp only [if_neg J];have I:σ.got j=some o:=by simpa [bI.put,J] using e
  exact⟨⟨iJ (bC j o I).1.outs aN dc aA,iJ (bC j o I).1.reads aN dc aA⟩,fun q M=>.inl ((bC j o I).2 q M)⟩
end
end Go.Proofs.YtjkinjbkknanbaaGreatDoor
