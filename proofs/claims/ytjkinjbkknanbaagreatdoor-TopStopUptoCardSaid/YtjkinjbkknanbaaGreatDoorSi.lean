/- Pi -/
import Derived.Test.YtjkinjbkknanbaaGreatDoorSh
set_option maxRecDepth 100000
set_option maxHeartbeats 8000000
set_option linter.unusedSimpArgs false
set_option linter.unusedVariables false
namespace Go.Proofs.YtjkinjbkknanbaaGreatDoor
open Go.Proofs.Tryz
variable {w w1 af w' W aD W':aRU} {i bu base aO c2 k g j g6 m:Nat} {v:Value} {c:dF} {σ σ':bE} {aW us:aRZ} {aF:aR1} {l:Dm} {x:kH} {bK:List dB} {L:qw} {KA A:aRV} {xs Z:aRW} {cs:Array Value} {t ty:TypeId} {aZ:Nat × Nat}
section
open Go.Lib Go.Maps Go.RowKit Go.Shelf
theorem IB.mono {n:Nat} {df:Nat->lS} {B N:Nat} (h:IB w1 n df B i N v af) (hs:w.heap.size<=w1.heap.size):IB w n df B i N v af:=by obtain⟨A,c,e,h1⟩:=h;refine⟨A,c,e,fun I=>?_⟩;obtain⟨L,J,M⟩:=h1 I;exact⟨L,J.mono hs,M⟩
section
variable {c:dF} {w:aRU} {σ:bE} {aW:aRZ} {aF:aR1}
theorem wG.cells (h:wG c w σ aW aF):w.cell? (ad c.l.X 0)=some (.slice c.l.bX.A c.k.files.length c.l.bX.c)/\w.cell? (ad c.l.X 1)=some (.slice c.l.bX.B c.k.dA.length c.l.bX.d)/\w.cell? (ad c.l.X 4)=some (Ep c.l.S)/\w.cell? (ad c.l.X 5)=some (.slice (some ⟨c.l.zI,0,none⟩) c.n c.n)/\w.cell? (ad c.l.X 6)=some (.slice (some ⟨c.l.eO,0,none⟩) c.n c.n):=by obtain⟨bV,rc,lK,jZ,h1,_⟩:=h.row;exact⟨h1.cell 0,h1.cell 1,h1.cell 4,h1.cell 5,h1.cell 6⟩
end
theorem avd (hc:c.Ok) {U:aRZ} (hs:kD c w U σ aW aF) {l:Ma} (aC:Ci c w l i x bK) (ay:i < c.n) (ah:c.k.dA[i]?=some x) :
  Calls prog 118 #[pp l.bu 0,.agg (l6 (c.fU i)).toArray] w fun e w'=>∃ v,e = .returned v/\IB w c.n c.df c.l.S.B i (if σ.bF i=true then 1 else 0) v w'/\Bl w w':=by
 obtain⟨N,Ad,dO,AZ⟩:=nq2 (if σ.bF i=true then 1 else 0) (l6 (c.fU i));obtain⟨aH,Al⟩:=ai (w.alloc (.cells dO.toArray 59));have AQ:=gQ Al;have BB:=kY Al;obtain⟨g3,Am⟩:=ai w.heap.size;have hw:=(hs.fO.work w (fun _ _ _=>rfl)).dA;have Bj:=hw.each x (aQK ah);have BC:=age hc ay;have BD:=hc.kE.fair x (aQK ah);obtain⟨bu,KA,iG⟩:=l;simp only;obtain⟨X,aX,jN,BF,B,bf,eO,BG,Ae,Bn,on,AU⟩:=nq6 c.l.X c.l.S.jN c.l.S.B x.1.O x.1.wN x.2.outs.length;have BH:=aa (fun af (ae:Bl aH af)=>show af.cell? (ad bu 0)=some (pp X 0)/\af.cell? (ad bu 8)=some (.slice eO on Ae)/\af.cell? (ad X 4)=some (.iface 90 (pp jN 0))/\aM af g3 dO 59 from by
  have h1:=((aC.all AQ).all ae).row;have AP:=(((hs.all hc AQ).all hc ae).fO.cells).2.2.1;rw [aX,BF,BG,Bn,AU,Am];exact⟨h1.cell 0,h1.cell 8,AP,BB.all ae⟩);have BK:=Bj.outs.gz AQ;rw [<- BG,<- AU] at BK;have Bp:=aa (aip aH eO on Ae);obtain⟨w1,Ao⟩:=ai (aH.alloc (.cells #[.slice eO on Ae] 24));have BL:=gQ Ao;have Bq:w1.heap[aH.heap.size]?=some (.cells #[.slice eO on Ae] 24 (0,0)):=by rw [Ao];exact aQM aH _
 have BN:=apM w1 aH.heap.size eO Ae x.2.outs (by have:=BD.outs;omega) (by rw [<- AU];exact Bq) (by rw [<- AU];exact BK.gz BL);rw [<- AU] at BN;have Db:=aa BN;have BO:=aa (show (qi x.2.outs).length=on by rw [Cw,AU]);have Dc:=aa (show on<=1000000 by have:=BD.outs;omega);rw [<- Ao] at Bp;obtain⟨SO,BP⟩:=ai (mP x.2.outs);have De:=aa (fun (W:aRU) (A:aRV) (Br:Nat) (Dg:Own W w1.heap.size 9 1 A on Br (cB (qi x.2.outs)))=>by
  have:=adI W w1.heap.size A Br (qi x.2.outs) (by rw [BO.o];exact Dg) (by rw [BO.o];exact Dc.o);rw [BO.o,show compact (qi x.2.outs)=SO from BP.symm] at this;exact this);have Bt:=aa BL;have Dh:=aa (fun af (ae:Bl aH af)=>show Calls prog 303 #[pp jN 0,.agg dO.toArray] af fun e w'=>∃ v,e = .returned v/\IB af c.n c.df B i N v w'/\Bl af w' from by
  have:=aIi af ((hs.fO.src.all AQ).all ae) (aQG hc.base.2 (aQG hs.fO.size (aU AQ ae).size)) ay (abR c i) (by have:=BC;omega);rw [<- AZ,<- Ad,<- BF,<- bf] at this;exact this);have BR:0 < N->(bG c.W i).kind=1:=fun Y=>by
  rw [Ad] at Y;split at Y
  ·rename_i aS;exact hs.inv.bF i aS
  ·omega
 have C8:i < c.X.length:=by simpa [dF.X,dF.n] using ay
 have sj:c.X.getD i l8=x.2:=by obtain⟨y,h1,AP,_⟩:=NP c ay;rw [ah] at h1;cases h1;exact AP
 have Di:=aa (fun (Y:0 < N)=>show (c.df i).outs.length=SO.length/\∀ (k:Nat) x y,(c.df i).outs[k]?=some x->SO[k]?=some y->x.1=y from by
  have h1:=(af4 hc.work.small (BR Y)).1;rw [sj,<- BP] at h1;have AP:(c.df i).outs.map (·.1)=SO:=by rw [<- h1];show ((bG c.W i).outs.map uV).map (·.1)=_;rw [List.map_map];rfl
  refine⟨by rw [<- AP,List.length_map],fun k x y ah hy=>?_⟩;rw [<- AP,List.getElem?_map,ah] at hy;exact aRb hy);have Dj:=aa (fun (Y:0 < N)=>show XH (c.df i) from af9 hc.work C8 (BR Y));have Ap:=aa AQ;have Dk:=aa (show N<=1 by rw [Ad];split <;> omega);have Dp:=aa BC;have Dq:=aa (show ∀ L,((gP (c.df i) L).drop 0).take dO.length=dO from fun L=>by
  rw [AZ,rC,List.drop_zero,gP,List.take_append_of_le_length (by rw [rC];exact Nat.le_refl _),List.take_of_length_le (by rw [rC];exact Nat.le_refl _),aIT]);have Dr:=aa (fun (W:aRU)=>show (binOp .eql 59 (.agg dO.toArray) (.agg dO.toArray)).run prog W = .ok (.bool true) W by
  have:=apY (c.fU i) (c.fU i) (abR c i) (abR c i) W;rw [AZ,HZ (abR c i),this];simp);have Dt:prog.eqGuardType prog.depth 59 = false:=kr;have CF:(dO.drop 0).take dO.length=dO:=by simp
 have BS:Sz 59 dO.length:=by rw [AZ,rC];exact kr
 have Du:=aa (show aM aH g3 dO 59 by rw [Am];exact BB);rw [<- AZ,<- Ad,<- bf];have Dv:=Al.symm;have Dw:=Am.symm;obtain⟨CG,CJ,CK,_⟩:=BH.o aH (Below.refl _ _);clear hc hs aC ay ah Ad AZ Al AQ BB Am hw Bj BC BD aX BF bf BG Bn AU BK BL Bq BN BP BR C8 sj Ao;go_enter func118,ntmps118;go_wp2_with (first|(go_at_call 48; refine Bp.o.mono ?_;rintro e Ei ⟨rfl,Dz⟩;obtain rfl:=Dz.symm)|(go_at_call 99; refine Db.o.mono ?_;rintro e af ⟨il,c2,rfl,CL,CQ⟩;have CS:=aa CL;have CU:=aa (aU Bt.o CQ);clear CL CQ CG CJ CK Dv)|(go_at_call 37; refine (De.o af il c2 CS.o).mono ?_;rintro e AA ⟨rfl,CV,CW⟩;have E5:=aa CV;have Af:=aa (CU.o.grown CW CU.o.size (fun k e=>aQG Bt.o.size (CS.o.block k e).1));clear CV CW));clear Dw;have kR:=aa fun af (aj:Bl AA af)=>BH.o af (aU Af.o aj);refine nz nH 11 [some (pp bu 0),some (pp bu 0),some (pp bu 0),some (pp X 0),some (pp X 0),some (pp X 4),some (.iface 90 (pp jN 0)),some (.agg dO.toArray),none,some (.int .i64 N),some (.int .i64 0)] (fun j v af=>j=8->IB w c.n c.df B i N v af) (Bl AA) Bl ((Below.refl _ AA).drew) (fun j v w1 af ae=>fun h e=>(h e).keep ae) ?_ (jI:=?_)
 ·intro u af aj CY;obtain⟨dh,bH,CZ,Ca⟩:=(show 8=8->IB w c.n c.df B i N (u 8) af from CY 8 om) rfl;clear CY;simp only [CZ];have Cc:=aa (aU Af.o aj);have E8:=aa Ca;have E9:=aa (E5.o.below aj (aQF _));clear aj Ca CZ;go_wp2_with fail;go_loopg [28,6] N (fun gk EA EC wr=>∃ (q:Nat) (A:aRV) (eY:Nat),q+gk=N/\EA = .int .i64 q/\EC = .slice A q eY/\Bl af wr/\(q=0->A=none/\eY=0)/\(0 < q->∃ L,Own wr aH.heap.size 224 34 A 1 eY (gP (c.df i) L)/\oQ wr B (c.df i) L));case atStart=>exact⟨0,none,0,om,rfl,rfl,Below.refl _ _,fun _=>⟨rfl,rfl⟩,fun h=>absurd h om⟩
  case round =>
   obtain⟨q,A,eY,Ej,rfl,rfl,AV,Ce,Cf⟩:=hrel;have El:(0:Int)<=q:=om;by_cases Em:q < N
   ·have EF:(q:Int) < N:=om;have Ag:q=0:=by have:=Dk.o;omega
    have Y:0 < N:=om;have En:q<=1:=om;obtain⟨rfl,rfl⟩:=Ce Ag;obtain⟨I,Ah,Aa⟩:=E8.o Y;have Ah:=Ah.below AV (aQF _);have Aa:=Aa.all AV;obtain⟨EG,BU,Eo,Er,rfl,Aq,Cg,_,_,Cj⟩:=Ah.at_ (by have:=Ah.2.1;omega);have Ak:=Pe (c.df i) I;have BX:=M8 (c.df i) I;have hlen:=Eb (c.df i) I;have Ck:=aU Cc.o AV;have Cm:=aa (Le (W:=wr) (g:=EG) (o:=BU+q * 34) (V:=gP (c.df i) I) (fun j v Co=>by
     have aC:j < 1 * 34:=by have:=(aQL.1 Co).1;rw [hlen] at this;omega
     rw [Ag,show BU+0 * 34+j=BU+j by omega,World.cell?,Cg];exact (Cj j aC).trans Co) underlying224 rfl Ak (Below.refl _ wr));obtain⟨V,Ac⟩:=ai (gP (c.df i) I);rw [<- Ac] at Cm Ak BX hlen;obtain⟨AB,Av⟩:=ai (wr.alloc (.cells V.toArray 224));have AX:=gQ Av;have BZ:=kY Av;have Cr:=aU AV AX;have Bb:=aU Ck AX;obtain⟨Az,Ct⟩:=Di.o Y;have EH:AB.cell? (ad wr.heap.size 33)=some (.slice I.B SO.length I.d):=by rw [<- Az];exact afT (by rw [<- Ac];exact BZ)
    have EJ:=aa (aIe AB I.B il I.d c2 SO.length (c.df i).outs SO (by rw [<- Az];exact (Aa.all AX).outs.rd) (by exact ((E9.o.below AV (aQF _)).below AX (aQF _)).rd) Az rfl (by have:=Dp.o.2;omega) 167 #[] (enters_of func167 kr rfl) fun W ae k x y ah hy=>aIg W x y (Ct k x y ah hy));have EK:=aa (fun W (ae:Bl AB W)=>by
     have:=aff W (c.df i) I ((Aa.all AX).all ae).at_ (Dj.o Y);rw [<- Ac] at this;exact this);have EL:=aa BZ;have EM:=aa (fun W (ae:Bl AB W)=>show aM W g3 dO 59 from Du.o.all (aU Bb ae));have EN:=aa Bb;have Cu:=aa Cr;have EO:=aa (fun W (ae:Bl AB W)=>show oQ W B (c.df i) I from (Aa.all AX).all ae);have Es:(V.drop 0).take V.length=V:=by simp
    have Cv:=Dq.o I;rw [<- Ac] at Cv;have hcs:(Value.agg V.toArray).cells.size=34:=by simp [Value.cells,hlen]
    have D8:Own AB aH.heap.size 224 34 none q 0 []:=by rw [Ag];exact Own.nil _ _ _ _
    obtain⟨ES,ET,EU⟩:=hq3 D8 Ac Ag;have EX:=Av.symm;clear Ce Cf Ah Aa Aq Cg Cj AV Ck AX BZ Cr Bb Az Ct Ac Av Ag D8 Y;go_wp2_with (first|((with_reducible refine pO Cm.o ?_ ?_);exact rfl)|(with_reducible refine zx V hlen Ak BX ?_)|(go_at_call 166; refine EJ.o.mono ?_;rintro e cO ⟨rfl,Bc⟩;have DF:=aa Bc;have DI:=aa (EL.o.all Bc);clear Bc EX EH)|(with_reducible refine kG DI.o underlying224 Ak ?_)|(go_at_call 168; refine (EK.o cO DF.o).mono ?_;rintro e AA ⟨rfl,Be⟩;have Bf:=aa (aU DF.o Be);have DJ:=aa (DI.o.all Be);have EY:=aa (EM.o AA Bf.o);clear Be)|((with_reducible refine Lh wr.heap.size 0 V dO _ DJ.o Cv _ underlying59 BS ?_ ?_);exact⟨⟨_,_,rfl,rfl,rfl⟩,rfl,rfl⟩)|((with_reducible refine Lh g3 0 dO dO _ EY.o CF _ underlying59 BS ?_ ?_);exact⟨⟨_,_,rfl,rfl,rfl⟩,rfl,rfl⟩)|((with_reducible refine arJ dO.toArray dO.toArray (.bool true) Dt (Dr.o AA) ?_ ?_);exact⟨⟨_,_,rfl,rfl,rfl⟩,rfl,rfl⟩)|(with_reducible refine kG DJ.o underlying224 Ak ?_)|((with_reducible refine Ba Rn (.agg V.toArray) hcs rfl ?_);intro Ea Bg Bh;rw [qK] at Bg;have DN:=aa Bg;have Bi:=aa (aU Bf.o Bh);have Ec:=aa ((ES.o.below Bf.o (aQF _)).below Bh (aQF _));clear Bg Bh)|(at_builtin;have _t:=DN;go_must ((with_reducible refine vg 224 _ 34 80 underlying213 Rn.info Rn.zs aH.heap.size none q 0 [] Ec.o 1 V (.slice (some ⟨AA.heap.size,0,none⟩) 1 1) (Src.slice underlying213 DN.o) BX ?_ ?_ ?_ ?_ ?_);exact mV;omega;(have:=EN.o.size;have:=Bi.o.size;omega);exact⟨rfl,rfl⟩;intro A9 c9 Ev DR DT Ee;have Ef:=aa DR;have DU:=aa ((Below.refl _ Ea).grown DT (aQF _) (fun k e=>by cases e));clear DR DT Ee)));go_roundg (gk - 1);case rel =>
     refine⟨q+1,A9,c9,om,by go_num,rfl,Cu.o.trans ((aU Bi.o DU.o).mono Cu.o.size),fun h=>absurd h om,fun _=>⟨I,?_,(EO.o _ (aU Bi.o DU.o))⟩⟩;have:=Ef.o;rw [List.nil_append,EU.o,ET.o] at this;exact this
    case measure=>omega
   ·have Ew:q=N:=om;have EF:¬ (q:Int) < N:=om;go_wp2_with fail;go_ret;refine⟨_,rfl,⟨A,eY,rfl,fun Y=>?_⟩,?_⟩
    ·obtain⟨L,h1,AP⟩:=Cf om;exact⟨L,h1.mono Ap.o.size,AP⟩
    ·exact Ap.o.trans ((aU Cc.o AV).mono Ap.o.size)
 ·repeat' (first | exact trivial | apply And.intro)
  all_goals try exact rx
  all_goals intro eQ u af aj aL bz K aR
  all_goals try simp [iX,Region.binds] at bz
  all_goals refine mg rfl ?_
  all_goals obtain⟨CG,CJ,CK,kr⟩:=BH.o af (aU Af.o aj)
  ·refine wp_load_row g3 0 dO dO _ kr CF _ underlying59 BS ⟨rfl,by simp [Act.eval,aL],rfl⟩ ?_;exact aR _ _ rfl aj (Below.refl _ _)
  ·go_simp;refine (Dh.o af (aU Af.o aj)).mono ?_;rintro e aD ⟨v,rfl,h1,Aq⟩;exact aR _ _ (fun _=>(h1.mono (aQG Ap.o.size (aQG Af.o.size aj.size)))) (aU aj Aq) Aq
  ·obtain⟨A,eY,Ex,_⟩:=bz;go_simp;exact aR _ _ rfl aj (Below.refl _ _)
end
section
open Go.Maps Go.RowKit Go.Shelf
theorem aI1 (hc:c.Ok) {U:aRZ} (hs:kD c w U σ aW aF) {l:Ma} (aC:Ci c w l i x bK) (ay:i < c.n) (aS:σ.bF i=true) (gY:oQ w c.l.S.B (c.df i) L) :
  Calls prog 122 #[pp l.bu 0,.agg (gP (c.df i) L).toArray] w fun e w'=>∃ A eY,e = .returned (.tuple #[.slice A (bG c.W i).outs.length eY,.bool true])/\Own w' w.heap.size 65 2 A (bG c.W i).outs.length eY (cK fI (bG c.W i).outs)/\Bl w w':=by
 obtain⟨Bi,Bj,Ad,BC⟩:=L;have Ae:=gY.outs;simp only at Ae;obtain⟨os,AV⟩:=ai ((bG c.W i).outs);obtain⟨n,Y,Bn,Af⟩:=nq2 os.length (gP (c.df i) ⟨Bi,Bj,Ad,BC⟩);obtain⟨aH,AX⟩:=ai (w.alloc (.cells Bn.toArray 224));have BD:=gQ AX;have BF:=kY AX;obtain⟨bu,KA,iG⟩:=l;simp only;obtain⟨X,aX,jN,Ag⟩:=nq2 c.l.X c.l.S.jN;have AZ:(c.df i).outs=os.map uV:=by rw [AV];rfl
 have Bp:aH.cell? (ad w.heap.size 33)=some (.slice Ad n BC):=by rw [show n=(c.df i).outs.length by rw [AZ,List.length_map,Y]];exact afT (by rw [<- Af];exact BF)
 have BG:Rd w 33 Ad n (cK mi (os.map uV)):=by have:=Ae.rd;rw [AZ,List.length_map,<- Y] at this;exact this
 have DI:n<=200:=by have:=(age hc ay).2;rw [AZ,List.length_map,<- Y] at this;exact this
 have BH:∀ y∈os,σ.has y.2=true/\y.2.length<=65536/\y.1.length<=1100000:=fun y hy=>by
  rw [AV] at hy;have h1:=Ye hc.work.small i y hy;obtain⟨z,Bq,Br,_⟩:=NP c ay;rw [Br] at h1;exact⟨(hs.kept i aS).2 y hy,h1.1,(hc.kE.fair z (aQK Bq)).AR _ h1.2⟩
 have BK:=aa (fun af (ae:Bl w af)=>show af.cell? (ad bu 0)=some (pp X 0)/\af.cell? (ad X 4)=some (.iface 90 (pp jN 0)) from by
  have h1:=(aC.all ae).row;have Bt:=((hs.all hc ae).fO.cells).2.2.1;rw [aX,Ag];exact⟨h1.cell 0,Bt⟩);have C8:=aa (fun af (ae:Bl w af) (y:ak) (hy:σ.has y=true)=>by
  have:=aIj af (hs.fO.src.all ae) y hy;rw [<- Ag] at this;exact this);have CF:=aa BD;have CG:=aa (fun af (ae:Bl w af)=>BG.gz ae);have CJ:=aa BH;have Ah:=aa Y;rw [<- Af,<- AV,<- Y];have CK:=AX.symm;clear hc hs aC ay aS gY Ae AV Y Af AX BD BF aX Ag AZ BG BH;go_enter func122,ntmps122;go_wp2_with fail;clear Bp CK;go_loopg [14,6] n (fun gk CL CQ wr=>∃ (q:Nat) (A:aRV) (eY:Nat),q+gk=n/\CL = .int .i64 q/\CQ = .slice A q eY/\Row w wr 65 2 A q eY (cK fI (os.take q)));case atStart=>exact⟨0,none,0,om,rfl,rfl,⟨Own.nil _ _ _ _,CF.o⟩⟩
 case round =>
  obtain⟨q,A,eY,DJ,rfl,rfl,AP⟩:=hrel;have Ak:=AP.low;have DN:(0:Int)<=q:=om;by_cases CS:q < n
  ·have CU:(q:Int) < n:=om;obtain⟨y,hy⟩:∃ y,os[q]?=some y:=⟨_,aQI (by rw [<- Ah.o];exact CS)⟩;obtain⟨BL,CV,hyp⟩:=CJ.o y (aQK hy);have BN:(os.map uV)[q]?=some (uV y):=by rw [List.getElem?_map,hy];rfl
   obtain⟨DR,DT,rfl,Al⟩:=vG (f:=mi) (k:=33) H8 underlying268 rfl kr (CG.o wr Ak) BN (by rw [List.length_map,<- Ah.o]);have BO:=UI (uV y);have BP:=aak (uV y);have hlen:=H8 (uV y);obtain⟨V,Aa,AA,AQ,S,AU,P,Am⟩:=nq4 (mi (uV y)) (l6 (bP.sum y.2)) (aA y.2) (aA y.1);rw [<- Aa] at Al BO BP hlen;have BR:(V.drop 1).take AA.length=AA:=by rw [Aa,AQ,mi];simp [uV]
   have BS:Sz 59 AA.length:=by rw [AQ,rC];exact kr
   obtain⟨I,Ac⟩:=ai (wr.alloc (.cells V.toArray 268));have AB:=gQ Ac;have Ao:=kY Ac;have Ap:=aU Ak AB;have BU:=aa Ap;have Aq:=aa Ao;have CW:=aa (AP.on AB);have CY:=aa Al;have CZ:=aa (fun af (ae:Bl I af)=>by
    have:=C8.o af (aU Ap ae) y.2 BL;rw [<- AQ,<- AU] at this;exact this);have Ca:=aa (fun (af:aRU)=>by
    have:=auB af (bP.sum y.2) (yK _) y.2 om;rw [<- AQ,<- AU,show (bP.sum y.2 == bP.sum y.2)=true by simp] at this;exact this);have BX:=aa (fun af (ae:Bl I af)=>show af.cell? (ad wr.heap.size 0)=some (.string P) from by
    rw [(Ao.all ae).cell 0,Aa,Am];rfl);have Cc:=aa hy;have Ce:=aa (show fI y=[.string P,.string S] by rw [Am,AU];rfl);have Cf:¬ ((65536:Int) < S.size):=by rw [AU,iP];omega
   have DU:decide ((65536:Int) < S.size)=false:=aRo Cf;have Cg:∀ v∈[Value.string P,.string S],v.oneCell'=true:=by simp [Value.oneCell']
   have Cj:=aa (show prog.built 65 [(0,.string P),(1,.string S)]=some #[.string P,.string S] by exact kr);have BZ:=Ac.symm;clear Al AP Ak BL CV hyp BN hy Aa AQ AU Am Ac AB Ao Ap;go_wp2_with (first|((with_reducible refine pO CY.o ?_ ?_);exact rfl)|(with_reducible refine zx V hlen BP BO ?_));try rw [BZ]
   clear BZ;have kR:=aa fun af (aj:Bl I af)=>And.intro (BK.o af (aU BU.o aj)) (Aq.o.all aj);refine nz nH 14 [some (pp bu 0),some (pp bu 0),some (pp bu 0),some (pp X 0),some (pp X 0),some (pp X 4),some (.iface 90 (pp jN 0)),some (pp wr.heap.size 1),some (.agg AA.toArray),some (.tuple #[.string S,.bool true]),some (.tuple #[.string S,.bool true]),some (.string S),some (.bool true),some (.string S)] (fun _ _ _=>False) (Bl I) Bl ((Below.refl _ I).drew) (fun j v w1 af ae h=>h.elim) ?_ (jI:=?_)
   ·intro u af aj Ck;clear Ck;have Cm:=aa aj;have Co:=aa (Aq.o.all aj);have Cr:=aa (CW.o.on aj);have Bb:=BX.o af aj;clear aj;have hq6:q<=1000000:=om;go_wp2_with (first|((with_reducible refine Lh wr.heap.size 1 V AA _ Co.o BR _ underlying59 BS ?_ ?_);exact⟨⟨_,_,rfl,rfl,rfl⟩,rfl,rfl⟩)|(go_at_call 175; refine (Ca.o af).mono ?_;rintro e Ct ⟨rfl,Av⟩;have Bc:=aa (aU Cm.o Av);have Cu:=aa (Cr.o.on Av);clear Bb;have Bb:=BX.o Ct Bc.o;clear Av)|((with_reducible refine Rk (.string P) (.string S) _ Cj.o ?_ ?_);exact⟨rfl,rfl⟩)|((with_reducible refine Ba K7 (.agg #[.string P,.string S]) rfl rfl ?_);intro Db Be Az;have Cv:=aa Be;have Dc:=aa (aU Bc.o Az);have D8:=aa (Cu.o.on Az);clear Be Az)|(at_builtin;(with_reducible refine aq4 K7 w A q eY _ D8.o _ [.string P,.string S] Cv.o Cg hq6 underlying22 ?_ ?_);exact⟨rfl,rfl⟩;intro A9 c9 De Bf;have DF:=aa Bf;clear Bf));go_roundg (gk - 1);case rel =>
     refine⟨q+1,A9,c9,om,by go_num,rfl,?_⟩
     ·have:=DF.o;rw [List.take_add_one,Cc.o,show cK fI (os.take q++(some y).toList)=cK fI (os.take q)++fI y by simp [cK],Ce.o];exact this
    case measure=>omega
   ·repeat' (first | exact trivial | apply And.intro)
    all_goals try exact rx
    all_goals intro eQ u af aj aL bz K aR
    all_goals try simp [iX,Region.binds] at bz
    all_goals first | refine mg rfl ?_ | simp [Region.wanted,yielded,aL,bz] | simp [Region.wanted,yielded]
    all_goals obtain⟨Dg,Dh⟩:=BK.o af (aU BU.o aj)
    all_goals have kr:=Aq.o.all aj
    ·refine wp_load_row wr.heap.size 1 V AA _ kr BR _ underlying59 BS ⟨rfl,by simp [Act.eval,aL,bz],rfl⟩ ?_;exact aR _ _ rfl aj (Below.refl _ _)
    ·go_simp;refine (CZ.o af aj).mono ?_;rintro e aD ⟨rfl,AB⟩;exact aR _ _ rfl (aU aj AB) AB
  ·have Bg:q=n:=om;have CU:¬ (q:Int) < n:=om;have Bh:=aa AP;have BB:=aa Bg;clear AP Bg;go_wp2_with fail;refine aQP (aRc rfl _ _ _) rfl ?_;have h1:=Bh.o.own;rw [List.take_of_length_le (by rw [BB.o,Ah.o];exact Nat.le_refl _),BB.o] at h1;exact⟨A,eY,by rw [BB.o];rfl,h1,Bh.o.low⟩
abbrev Gy (L:Nat->Bool) (i:Nat):Nat->Bool:=o5 L i true
structure lH (l:Dm) (bu:Nat) (KA:aRV) (w w':aRU):Prop where
  os:w'.os=w.os
  tape:w'.tape=w.tape
  output:w'.output=w.output
  size:w.heap.size<=w'.heap.size
  keep:∀ k,k < l.T->k < w.heap.size->¬ l.C k->w'.heap[k]?=w.heap[k]?
  high:∀ (k:Nat) (o:Obj),w.heap[k]?=some o->l.T<=k->(∀ cs aZ,o ≠ .cells cs 3 aZ)->k≠bu->some k≠bM KA->w'.heap[k]?=w.heap[k]?
  calm:∀ (k:Nat) (cs:Array Value) (t:TypeId) (aZ:Nat × Nat),w.heap[k]?=some (.cells cs t aZ)->t∈Yb->some k≠bM KA->w'.heap[k]?=w.heap[k]?
section
variable {l:Dm} {bu:Nat} {KA uD:aRV} {w w' af:aRU}
theorem lH.Gz (h:Ch l w w'):lH l bu KA w w':=⟨h.os,h.tape,h.output,h.size,h.keep,fun k o h1 I M _ _=>h.high k o h1 I M,fun k cs t aZ h1 I _=>h.calm k cs t aZ h1 I⟩
theorem lH.trans (h:lH l bu KA w w') (k:lH l bu uD w' af) (hf:∀ q,q < w.heap.size->some q≠bM KA->some q≠bM uD):lH l bu KA w af :=
  ⟨k.os.trans h.os,k.tape.trans h.tape,k.output.trans h.output,aQG h.size k.size,fun j h1 I M=>(k.keep j h1 (aQJ I h.size) M).trans (h.keep j h1 I M),
   fun j o h1 I M Y AA=>(k.high j o ((h.high j o h1 I M Y AA).trans h1) I M Y (hf j (iw h1) AA)).trans (h.high j o h1 I M Y AA),
   fun j cs t aZ h1 I M=>(k.calm j cs t aZ ((h.calm j cs t aZ h1 I M).trans h1) I (hf j (iw h1) M)).trans (h.calm j cs t aZ h1 I M)⟩
theorem lH.nQ {dI:aRU} (h:lH l bu KA w w') (aV:Ch l dI w) (MK:dI.heap.size<=bu) (aR:∀ q,bM KA=some q->dI.heap.size<=q):Ch l dI w' :=
  ⟨h.os.trans aV.os,h.tape.trans aV.tape,h.output.trans aV.output,aQG aV.size h.size,fun k h1 I M=>(h.keep k h1 (aQJ I aV.size) M).trans (aV.keep k h1 I M),
   fun k o h1 I M=>(h.high k o ((aV.high k o h1 I M).trans h1) I M (fun e=>by have:=iw h1;omega) (fun e=>by have:=aR k e.symm;have:=iw h1;omega)).trans (aV.high k o h1 I M),
   fun k cs t aZ h1 I=>(h.calm k cs t aZ ((aV.calm k cs t aZ h1 I).trans h1) I (fun e=>by have:=aR k e.symm;have:=iw h1;omega)).trans (aV.calm k cs t aZ h1 I)⟩
theorem lH.dG (h:fV bu w w') (bY:l.T<=bu) (aB:∀ cs t aZ,w.heap[bu]?=some (.cells cs t aZ)->t ∉ Yb):lH l bu KA w w' :=
  ⟨h.1,h.2.1,h.2.2.1,aQ1 h.2.2.2.1.symm,fun k h1 _ _=>h.2.2.2.2 k om,fun k _ _ _ _ I _=>h.2.2.2.2 k I,fun k cs t aZ h1 M _=>h.2.2.2.2 k fun e=>aB cs t aZ (e ▸ h1) M⟩
theorem lH.grown (h:w.grownBy w' (bM KA)) (aR:∀ q,bM KA=some q->l.T<=q):lH l bu KA w w' :=
  ⟨h.os,h.tape,h.output,h.size,fun k h1 I _=>h.block k I fun e=>by have:=aR k e.symm;omega,fun k _ h1 _ _ _ M=>h.block k (iw h1) M,fun k cs t aZ h1 _ Y=>h.block k (iw h1) Y⟩
end
theorem Own.aI6 (h:lH l bu KA w w') {n:Nat} (aG:Own w base 80 aO A n c2 xs) (bJ:∀ q,bM A=some q->some q≠bM KA):Own w' base 80 aO A n c2 xs:=aG.keep fun b ae _ _=>by
  obtain⟨I,_,cur,aZ,hc⟩:=aG.block b ae;exact h.calm b cur _ aZ hc dc (bJ b ae)
def Fw (w:aRU) (bu:Nat) (KA:aRV):Prop:=(∃ V,aM w bu V 158)/\∀ b,bM KA=some b->∃ cur aZ,w.heap[b]?=some (.cells cur 80 aZ)
theorem Fw.agk {n iG:Nat} {V:aRW} (h1:aM w bu V 158) (ag:Own w base 80 3 KA n iG xs):Fw w bu KA:=⟨⟨V,h1⟩,fun b ae=>(ag.block b ae).2.2⟩
section
variable {c:dF} {w w':aRU} {bu:Nat} {KA:aRV} (aC:Fw w bu KA) (h:lH c.l bu KA w w')
theorem lH.cells (aC:Fw w bu KA) (h:lH c.l bu KA w w') (hk:w.heap[k]?=some (.cells cs t aZ)) (bY:c.l.T<=k) (h1:t ≠ 3) (ag:t ≠ 158) (au:t ≠ 80):w'.heap[k]?=w.heap[k]?:=by
  refine h.high k _ hk bY (fun Y I e=>?_) (fun e=>?_) fun e=>?_
  · injection e with _ e
    exact h1 e
  · obtain⟨V,M⟩:=aC.1;rw [e,M] at hk;injection hk with hk
    injection hk with _ hk
    exact ag hk.symm
  · obtain⟨cur,I,ae⟩:=aC.2 k e.symm;rw [hk] at ae;injection ae with ae
    injection ae with _ ae
    exact au ae
theorem lH.runs (aC:Fw w bu KA) (h:lH c.l bu KA w w'):Gr w w':=fun k cs t aZ hk I=>h.calm k cs t aZ hk (aRn _ I) fun e=>by
  obtain⟨cur,M,ae⟩:=aC.2 k e.symm;rw [hk] at ae;injection ae with ae
  injection ae with _ ae
  subst ae;exact absurd I dc
theorem aM.vT (aC:Fw w bu KA) (h:lH c.l bu KA w w') {V:aRW} (ax:aM w g V t) (bY:c.l.T<=g) (h1:t ≠ 3) (ag:t ≠ 158) (au:t ≠ 80):aM w' g V t:=(lH.cells aC h ax bY h1 ag au).trans ax
theorem Own.vT (aC:Fw w bu KA) (h:lH c.l bu KA w w') {n:Nat} (aG:Own w base t aO A n c2 xs) (bY:c.l.T<=base) (h1:t ≠ 3) (ag:t ≠ 158) (au:t ≠ 80):Own w' base t aO A n c2 xs:=aG.keep fun b ae _ _=>by
  obtain⟨I,_,cur,aZ,hc⟩:=aG.block b ae;exact lH.cells aC h hc om h1 ag au
theorem lH.box (aC:Fw w bu KA) (h:lH c.l bu KA w w') {l:oh} {P:nY} {ins asks:List ak} {b:dC} (ae:iF w l P ins asks b) (bY:c.l.T<=l.B):iF w' l P ins asks b:=by
  obtain⟨q,AB⟩:=ae.run;have Y:∀ {g:Nat} {y:List ak},sZ w l.B g y->sZ w' l.B g y:=fun {g y} hs=>by
    obtain⟨A,c2,AP,AQ⟩:=hs.row;exact⟨hs.far,A,c2,aM.vT aC h AP (aQG bY hs.far) dc dc dc,Own.vT aC h AQ bY dc dc dc⟩
  have AA:∀ (k:Nat) (o:Obj),l.B<=k->w.heap[k]?=some o->o.isCells=false->w'.heap[k]?=w.heap[k]?:=fun k o h1 I M=>h.high k o I (aQG bY h1) (fun cs aZ e=>by rw [e] at M;cases M) (fun e=>by
    obtain⟨V,AU⟩:=aC.1;rw [e,AU] at I;cases I;cases M) fun e=>by
    obtain⟨cur,AX,ae⟩:=aC.2 k e.symm;rw [I] at ae;cases ae;cases M
  refine⟨aM.vT aC h ae.row (aQG bY ae.far.1) dc dc dc,ae.far,Own.vT aC h ae.outs bY dc dc dc,⟨Y ae.may.o,Y ae.may.i,Y ae.may.a⟩,ae.map.keep ?_,Own.vT aC h ae.reads bY dc dc dc,q,?_⟩
  · obtain⟨es,AZ,AV,_⟩:=ae.map;exact AA _ _ ae.far.2.1 AV rfl
  · letI:=vP l.m;exact jL.oV AB (lH.runs aC h) h.size fun k o h1 _ I M=>AA k o (aQG ae.far.2.2 h1) I M
end
theorem j3.one (h:j3 g g w w') (hk:k < w.heap.size) (bJ:k≠g):w'.heap[k]?=w.heap[k]?:=h.block k hk bJ bJ
theorem lG.NR {T:Nat} {C:aR1} (h:lG T C W af) (az:j3 g g af aD) (av:W.heap.size<=g):lG T C W aD :=
  ⟨az.os.trans h.os,az.tape.trans h.tape,az.output.trans h.output,aQG h.size az.size,fun k h1 I J=>(az.one (aQJ I h.size) om).trans (h.keep k h1 I J),fun k o h1 I J=>(az.one (aQJ (iw h1) h.size) (by have:=iw h1;omega)).trans (h.high k o h1 I J),fun k cs t aZ h1 I=>(az.one (aQJ (iw h1) h.size) (by have:=iw h1;omega)).trans (h.calm k cs t aZ h1 I)⟩
theorem lH.NR (h:lH l bu KA W af) (az:j3 g g af aD) (av:W.heap.size<=g):lH l bu KA W aD :=
  ⟨az.os.trans h.os,az.tape.trans h.tape,az.output.trans h.output,aQG h.size az.size,fun k h1 I M=>(az.one (aQJ I h.size) om).trans (h.keep k h1 I M),fun k o h1 I M Y AA=>(az.one (aQJ (iw h1) h.size) (by have:=iw h1;omega)).trans (h.high k o h1 I M Y AA),fun k cs t aZ h1 I M=>(az.one (aQJ (iw h1) h.size) (by have:=iw h1;omega)).trans (h.calm k cs t aZ h1 I M)⟩
theorem agl {n c:Nat} {uX:TypeId} {U:aRW} (h:Own W base t aO A n c xs) (ax:aM W g U uX) (az:j3 g g W W') (bJ:t≠uX):Own W' base t aO A n c xs:=h.keep fun b ae _ hl=>az.one hl fun e=>h.ne ax bJ (by rw [ae,e])
def Fx:List TypeId:=[3,224,135,268,65]
theorem VK {n c:Nat} {uX:TypeId} {U:aRW} (h:Own W base t aO A n c xs) (ax:aM W g U uX) (az:j3 g g W W') (h1:t∈Fx) (ag:uX ∉ Fx):Own W' base t aO A n c xs:=agl h ax az (fun e=>ag (e ▸ h1))
theorem wG.dG (h:wG c w σ aW aF) (hc:c.Ok) (ax:aM w g Z ty) (az:j3 g g w w') (av:c.l.T<=g) (nP:ty ∉ Fx):wG c w' σ aW aF:=by
  obtain⟨bV,rc,lK,jZ,h1,I,AP,aS⟩:=h.row;obtain⟨OL,AQ,J⟩:=h.outs;have AU:=(hc.low _ (.inl rfl)).2;have AV:=(hc.low _ (.inr (.inl rfl))).2;have AX:=(hc.low _ (.inr (.inr (.inl rfl)))).2;have AZ:=(hc.low _ (.inr (.inr (.inr (.inl rfl))))).2;have Aa:=(hc.low _ (.inr (.inr (.inr (.inr (.inl rfl)))))).2;have Ac:=(hc.low _ (.inr (.inr (.inr (.inr (.inr rfl)))))).2;have Y:=hc.old;have hk:∀ k,k < c.l.T->w'.heap[k]?=w.heap[k]?:=fun k hk=>az.one (aQJ hk h.size) om;obtain⟨M,hm,Ad⟩:=h.src.store;obtain⟨M2,Ae,Af,AA⟩:=h.src.bF.map;refine⟨⟨bV,rc,lK,jZ,(hk _ AU).trans h1,VK I ax az dc nP,VK AP ax az dc nP,aS⟩,(hk _ AV).trans h.begun,⟨OL,(hk _ AX).trans AQ,fun i o e=>⟨⟨VK (J i o e).1.outs ax az dc nP,VK (J i o e).1.reads ax az dc nP⟩,(J i o e).2⟩⟩,
    ⟨(hk _ Y.1).trans h.src.row,⟨(hk _ Y.2).trans h.src.bF.obj,h.src.bF.far,M2,Ae.keep (hk _ AZ),Af,fun j aC=>⟨fun e=>?_,(AA j aC).2⟩⟩,⟨M,⟨(hk _ Aa).trans hm.obj,hm.map.keep (hk _ Ac)⟩,Ad⟩,h.src.far,h.src.ne⟩,fun W Ag=>h.work W fun k h1 I=>(Ag k h1 I).trans (hk k h1),h.home.below ⟨az.os,az.tape,az.output,az.size,fun k h=>hk k (aQJ h hc.base.1)⟩,aQG h.size az.size⟩;obtain⟨y,Ah,Ak,L,Al,AB,Am⟩:=(AA j aC).1 e;exact⟨y,Ah,Ak,L,VK Al ax az dc nP,⟨VK AB.reads ax az dc nP,VK AB.outs ax az dc nP⟩,Am⟩
theorem wG.grown (h:wG c w σ aW aF) (hc:c.Ok) {n:Nat} (aG:Own w base ty aO A n c2 xs) (bY:c.l.T<=base) (av:w.grownBy w' (bM A)) (nP:ty ∉ Fx):wG c w' σ aW aF:=by
  obtain⟨bV,rc,lK,jZ,h1,Y,AZ,aS⟩:=h.row;obtain⟨OL,Aa,AA⟩:=h.outs;have Ac:=(hc.low _ (.inl rfl)).2;have Ad:=(hc.low _ (.inr (.inl rfl))).2;have Ae:=(hc.low _ (.inr (.inr (.inl rfl)))).2;have Af:=(hc.low _ (.inr (.inr (.inr (.inl rfl))))).2;have Ag:=(hc.low _ (.inr (.inr (.inr (.inr (.inl rfl)))))).2;have Ah:=(hc.low _ (.inr (.inr (.inr (.inr (.inr rfl)))))).2;have AB:=hc.old;have hk:∀ k,k < c.l.T->w'.heap[k]?=w.heap[k]?:=fun k hk=>av.block k (aQJ hk h.size) fun e=>by
    have:=(aG.block k e.symm).1;omega
  have I:∀ {AP AQ AU bH:Nat} {t:TypeId} {il:aRV} {ys:aRW},Own w AP t AQ il AU bH ys->t∈Fx->Own w' AP t AQ il AU bH ys:=fun h h1=>h.grown av fun b ae e=>by
    obtain⟨_,_,cur,aZ,Ak⟩:=h.block b ae;obtain⟨_,_,BC,BD,J⟩:=aG.block b e.symm;rw [Ak] at J;injection J with J
    injection J with _ J
    exact nP (J ▸ h1)
  obtain⟨M,hm,Al⟩:=h.src.store;obtain⟨M2,Am,Ao,AV⟩:=h.src.bF.map;refine⟨⟨bV,rc,lK,jZ,(hk _ Ac).trans h1,I Y dc,I AZ dc,aS⟩,(hk _ Ad).trans h.begun,⟨OL,(hk _ Ae).trans Aa,fun i o e=>⟨⟨I (AA i o e).1.outs dc,I (AA i o e).1.reads dc⟩,(AA i o e).2⟩⟩,
    ⟨(hk _ AB.1).trans h.src.row,⟨(hk _ AB.2).trans h.src.bF.obj,h.src.bF.far,M2,Am.keep (hk _ Af),Ao,fun j aC=>⟨fun e=>?_,(AV j aC).2⟩⟩,⟨M,⟨(hk _ Ag).trans hm.obj,hm.map.keep (hk _ Ah)⟩,Al⟩,h.src.far,h.src.ne⟩,fun W Ap=>h.work W fun k h1 Y=>(Ap k h1 Y).trans (hk k h1),h.home.below ⟨av.os,av.tape,av.output,av.size,fun k h=>hk k (aQJ h hc.base.1)⟩,aQG h.size av.size⟩;obtain⟨y,Aq,Av,L,Az,AX,BB⟩:=(AV j aC).1 e;exact⟨y,Aq,Av,L,I Az dc,⟨I AX.reads dc,I AX.outs dc⟩,BB⟩
theorem kD.dG {U:aRZ} (h:kD c w U σ aW aF) (hc:c.Ok) (ax:aM w g Z ty) (az:j3 g g w w') (av:c.l.T<=g) (nP:ty ∉ Fx):kD c w' U σ aW aF:=⟨h.fO.dG hc ax az av nP,h.inv,h.log,h.kept⟩
theorem kD.grown {U:aRZ} (h:kD c w U σ aW aF) (hc:c.Ok) {n:Nat} (aG:Own w base ty aO A n c2 xs) (bY:c.l.T<=base) (av:w.grownBy w' (bM A)) (nP:ty ∉ Fx):kD c w' U σ aW aF:=⟨h.fO.grown hc aG bY av nP,h.inv,h.log,h.kept⟩
structure aI7 (c:dF) (bu:Nat) (KA:aRV) (w:aRU) (U:aRZ) (σ:bE) (aW:aRZ) (aF:aR1) (w':aRU) (σ':bE) (tk':aRZ) (fe:aR1):Prop where
  st:kD c w' U σ' tk' fe
  vT:lH c.l bu KA w w'
  grow:Kb σ aW σ' tk'
  vS:∀ q,fe q->aF q\/w.heap.size<=q
theorem Step.dG {U aI8:aRZ} {bR kZ:bE} {ib aI9:aRZ} {eP aJa:aR1} (hc:c.Ok) (aV:kD c W aI8 kZ aI9 aJa) (h:Step c W U σ aW aF af bR ib eP) (ax:aM af g Z ty) (az:j3 g g af aD) (av:W.heap.size<=g) (nP:ty ∉ Fx):Step c W U σ aW aF aD bR ib eP :=
  have I:=h.nQ.NR az av
  ⟨⟨h.st.fO.dG hc ax az (aQG aV.fO.size av) nP,h.st.inv,h.st.log,h.st.kept⟩,I,h.grow,h.vS⟩
def oW (a:DZ) (p:ak):Nat × dB:=match a with
  | .known k=>(1,k)
  | .below=>(2,⟨p,false,[]⟩)
  | .stuck=>(3,⟨p,false,[]⟩)
def NS (c:dF) (m:Nat):Prop:=∀ (w:aRU) (U:aRZ) (σ:bE) (aW:aRZ) (aF:aR1) (p:ak),kD c w U σ aW aF->rJ σ c.n<=m->p.length<=1100000 ->
  (∀ j,c.W.jK p=some j->yT c.W c.dN j/\(∀ x∈U,xS c.W x j)/\(j∈U->fD c.W p = .stuck)) ->
  CR 23 #[pp c.l.X 0,.string (aA p)] w (.tuple #[.agg (iA (oW (fD c.W p) p).2).toArray,.int .i64 (oW (fD c.W p) p).1]) fun w'=>∃ σ' tk' fe,Step c w U σ aW aF w' σ' tk' fe/\∀ j,c.W.jK p=some j->σ'.begun j=true
def Dn (c:dF) (W:aRU) (U:aRZ) (σ:bE) (aW:aRZ) (aF:aR1) (ci a b:Nat) (Z V:aRW) (ty:TypeId) (B:bE->Prop) (L:Nat->Bool) (u:Nat->Value) (af:aRU):Prop :=
  ∃ bR ib eP,Step c W U σ aW aF af bR ib eP/\(L ci=true->B bR)/\(L a=true->∃ g,u a = .pointer (some ⟨g,0,none⟩)/\W.heap.size<=g/\aM af g (if L b=true then V else Z) ty)
section
variable {c:dF} {W:aRU} {U:aRZ} {σ:bE} {aW:aRZ} {aF:aR1} {ci a b:Nat} {Z V:aRW} {ty:TypeId} {B:bE->Prop} {L:Nat->Bool} {u:Nat->Value} {af aD:aRU}
theorem xJ (h:j≠i):Gy L i j=L j:=if_neg h
theorem abU:Gy L i i=true:=if_pos rfl
theorem NT (h:j≠i):o5 u i v j=u j:=if_neg h
theorem agm:o5 u i v i=v:=if_pos rfl
theorem Dn.start (hc:c.Ok) (hs:kD c W U σ aW aF):Dn c W U σ aW aF ci a b Z V ty B (fun _=>false) u W.drew:=⟨σ,aW,aF,(Step.refl hs).high hc (Below.refl _ W).drew,fun h=>(by cases h),fun h=>(by cases h)⟩
theorem Dn.plain (hc:c.Ok) (h:Dn c W U σ aW aF ci a b Z V ty B L u af) (ae:Below af.heap.size af aD) (h1:ci≠i) (ag:a≠i) (au:b≠i):Dn c W U σ aW aF ci a b Z V ty B (Gy L i) (o5 u i v) aD:=by obtain⟨bR,ib,eP,hs,I,hA⟩:=h;refine⟨bR,ib,eP,hs.high hc ae,fun h=>I (by rwa [xJ h1] at h),fun h=>?_⟩;rw [xJ ag] at h;obtain⟨g,e,av,J⟩:=hA h;exact⟨g,by rw [NT ag,e],av,by rw [xJ au];exact J.all ae⟩
theorem Dn.laid (hc:c.Ok) (h:Dn c W U σ aW aF ci a b Z V ty B L u af) (ae:L b=false) (h1:ci≠a) (au:b≠a):Dn c W U σ aW aF ci a b Z V ty B (Gy L a) (o5 u a (pp af.heap.size 0)) (af.alloc (.cells Z.toArray ty)):=by obtain⟨bR,ib,eP,hs,I,hA⟩:=h;exact⟨bR,ib,eP,hs.high hc iD,fun h=>I (by rwa [xJ h1] at h),fun _=>⟨_,agm,hs.nQ.size,by rw [xJ au,ae];exact aM.new af Z ty⟩⟩
theorem Dn.call {zJ:bE} {SF:aRZ} {Fv:aR1} (h:Dn c W U σ aW aF ci a b Z V ty B L u af) (bY:c.l.T<=W.heap.size) (nP:ty ≠ 3) (hs:Step c W U σ aW aF aD zJ SF Fv) (bf:B zJ) (tQ:Ch c.l af aD) (ag:a≠ci) (au:b≠ci):Dn c W U σ aW aF ci a b Z V ty B (Gy L ci) (o5 u ci v) aD:=by obtain⟨bR,ib,eP,_,_,hA⟩:=h;refine⟨zJ,SF,Fv,hs,fun _=>bf,fun h=>?_⟩;rw [xJ ag] at h;obtain⟨g,e,av,I⟩:=hA h;exact⟨g,by rw [NT ag,e],av,by rw [xJ au];exact I.nQ tQ (aQG bY av) nP⟩
theorem Dn.stored (hc:c.Ok) (hs:kD c W U σ aW aF) (h:Dn c W U σ aW aF ci a b Z V ty B L u af) (ax:aM af g Z ty) (av:W.heap.size<=g) (hu:u a = .pointer (some ⟨g,0,none⟩)) (az:fV g af aD) (jk:aM aD g V ty) (nP:ty ∉ Fx) (h1:ci≠b) (ag:a≠b):Dn c W U σ aW aF ci a b Z V ty B (Gy L b) (o5 u b v) aD:=by obtain⟨bR,ib,eP,I,J,_⟩:=h;exact⟨bR,ib,eP,I.dG hc hs ax (j3.um az) av nP,fun h=>J (by rwa [xJ h1] at h),fun _=>⟨g,by rw [NT ag,hu],av,by rw [abU];exact jk⟩⟩
end
end
section
open Go.Maps Go.RowKit Go.Shelf
def l9:List Value:=iA ⟨[],false,[]⟩
theorem aJb:l9.toArray=#[.string ⟨#[]⟩,.bool false,.string ⟨#[]⟩]:=rfl
theorem aJc (w:aRU) (k:dB) (g:Nat) (p:ak) (av:w.cell? (ad g 0)=some (.string (aA p))) :
    Calls prog 174 (#[.agg (iA k).toArray]++#[pp g 0]) w fun e w'=>e = .returned (.bool (k.path == p))/\Bl w w':=by
  obtain⟨aH,I⟩:=ai (w.alloc (.cells (iA k).toArray 80));have AA:=aa (gQ I);have AB:aM aH w.heap.size (iA k) 80:=by rw [I];exact aM.new w _ _
  obtain⟨P,J,AP,M,r,Y⟩:=nq3 (aA p) (aA k.path) (k.path == p);have AQ:g < w.heap.size:=auz av;have AV:aH.cell? (ad w.heap.size 0)=some (.string AP):=by rw [AB.cell 0,M];rfl
  have AX:aH.cell? (ad g 0)=some (.string P):=by rw [J,<- av];unfold World.cell?;rw [AA.o.block g AQ]
  have heq:(AP.toList == P.toList)=r:=by rw [ByteArray.toList_eq,ByteArray.toList_eq,M,J,Y,gZ,gZ]
  rw [<- Y];obtain⟨dO,AU⟩:=ai (iA k);rw [<- AU] at I |-;have AZ:=I.symm;clear J M Y AB av I AQ AU;go_enter func174,ntmps174;go_wp2_with fail;go_ret;exact⟨rfl,AA.o⟩
def SH (cO:aRU) (g6:Nat) (af:aRU):Prop:=j3 g6 g6 cO af/\∃ Z:List Value,Z.length=3/\aM af g6 Z 80
def agn (g6:Nat) (bI:aRW) (a b:aRU):Prop:=j3 g6 g6 a b/\(∃ Z,aM a g6 Z 80)/\(aM a g6 bI 80 -> aM b g6 bI 80)
theorem SH.below {cO:aRU} (h:SH cO g6 af) (ae:Bl af aD):SH cO g6 aD:=by obtain⟨h1,Z,I,J⟩:=h;exact⟨h1.trans (j3.gN ae),Z,I,J.all ae⟩
theorem agn.below {cO:aRU} {bI:aRW} (h:SH cO g6 af) (ae:Bl af aD):agn g6 bI af aD:=by obtain⟨h1,Z,J,I⟩:=h;exact⟨j3.gN ae,⟨Z,I⟩,fun h=>h.all ae⟩
def Yo (F T g6:Nat) (bI:aRW) (k y:Int) (m:Nat) (iW:aRW) (j:Nat) (v:Value) (w:aRU):Prop :=
  (j=3->∃ A c,v = .slice A m c/\Own w T 135 34 A m c iW)/\(j=4->∃ A c,v = .agg #[.int .i64 k,.int .i64 y,.slice none 0 0,.slice A m c]/\Own w T 135 34 A m c iW) /\
  (j=5->∃ g A c,v = .pointer (some ⟨g,0,none⟩)/\aM w g [.int .i64 k,.int .i64 y,.slice none 0 0,.slice A m c] 63 /\ F<=g/\Own w T 135 34 A m c iW)/\(j=6->aM w g6 bI 80)
theorem Yo.keep {F T:Nat} {bI:aRW} {k y:Int} {iW:aRW} {a b:aRU} (h:Yo F T g6 bI k y m iW j v a) (he:agn g6 bI a b):Yo F T g6 bI k y m iW j v b:=by
  obtain⟨h1,Y,AA,AB⟩:=h;obtain⟨ae,⟨Z,M⟩,hk⟩:=he;refine⟨fun e=>?_,fun e=>?_,fun e=>?_,fun e=>hk (AB e)⟩
  · obtain⟨A,c,J,I⟩:=h1 e;exact⟨A,c,J,agl I M ae dc⟩
  · obtain⟨A,c,J,I⟩:=Y e;exact⟨A,c,J,agl I M ae dc⟩
  · obtain⟨g,A,c,J,I,AP,AQ⟩:=AA e;exact⟨g,A,c,J,(ae.one I.lt (fun e=>by rw [e,aM,M] at I;cases I)).trans I,AP,agl AQ M ae dc⟩
theorem avn {P:Prop} (h:P:=by (
  have agp:=aa (show bI=iA ⟨p,false,[]⟩ by rw [IL.o,hA];rfl);clear hA;have AZ:(bI.drop 0).take bI.length=bI:=by simp
  obtain⟨g6,BZ,agq,tN,iW,yz⟩:=nq3 aH.heap.size rd.length (cK iq (rd.map gJ));have Ce:=aa (show aM cO g6 l9 80 by rw [BZ];exact (wP.o.all Qg.o).nQ xz.o.nQ (by have:=hs.fO.size;have:=mW.o;omega) dc);have jf:=aa (show Own cO c.l.T 80 3 bV rd.length rc (cK iA rd) from (ax.below dX.o (aQF _)).nQ xz.o.nQ (aQF _) dc);have aJd:=aa (show SH cO g6 cO.drew from ⟨j3.gN (Below.refl _ cO).drew,l9,rfl,Ce.o⟩);have Cc:=aa (show ∀ q,bM bV=some q->q≠g6 from fun q aJ e=>by
    have:=(ax.block q aJ).2.1;have:=mW.o;omega);have xK:=aa (fun (af:aRU) (aj:SH cO g6 af)=>by
    have:=ajC af bV rc rd (jf.o.keep fun b ae _ hl=>aj.1.one hl (Cc.o b ae)).rd xR SE;rw [<- tN,<- yz] at this;exact this);have VL:=aa (show c.l.T<=cO.heap.size from xz.o.st.fO.size);have SI:=aa (fun (af:aRU) (aj:SH cO g6 af)=>show aM af g9 bI 80 from (aj.1.one su.o.lt (fun e=>by have:=ami.o;have:=wP.o.lt;have:=Qg.o.size;omega)).trans su.o);obtain⟨Qh,oD,Aa⟩:=hq3 BZ tN yz;rw [<- BZ,<- tN];clear BZ tN yz;go_wp2_with fail;refine nz nH 7 [some (.agg bI.toArray),some _,some _,none,none,none,none] (Yo cO.heap.size cO.heap.size g6 bI Bq.kind Bq.why agq iW) (SH cO g6) (agn g6 bI) aJd.o (fun j v w1 af ae h=>h.keep ae) ?_ (jI:=⟨rs ?_,rx,rx,rs ?_,rs ?_,rs ?_,rs ?_,trivial⟩)
  rotate_left
  ·intro eQ u af aj aL K aR bz;refine wp_load_row g9 0 bI bI _ (SI.o af aj) AZ _ underlying80 Br.o ⟨rfl,by simp [Act.eval,aL],rfl⟩ ?_;exact aR _ _ rfl aj (.below aj (Below.refl _ _))
  ·intro eQ u af aj aL K aR bz;go_simp;refine (xK.o af aj).mono ?_;rintro e aD ⟨dh,bH,rfl,jk⟩;exact aR _ _ ⟨fun _=>⟨dh,bH,rfl,jk.own.mono aj.1.size⟩,gq,gq,gq⟩ (aj.below jk.low) (.below aj jk.low)
  ·intro eQ u af aj aL K aR bz;obtain⟨dh,bH,fq,ko⟩:=bz.2.1 rfl;refine afQ (.int .i64 Bq.kind) (.int .i64 Bq.why) (.slice dh agq bH) _ (aum _ _ dh agq bH) rfl ⟨by rw [agr.o.1];simp [Act.eval,aL,bz.1],by rw [agr.o.2.1];rfl,by simp [Act.eval,aL,fq]⟩ ?_;exact aR _ _ ⟨gq,fun _=>⟨dh,bH,rfl,ko⟩,gq,gq⟩ aj (.below aj (Below.refl _ _))
  ·intro eQ u af aj aL K aR bz;obtain⟨dh,bH,lQ,ko⟩:=bz.2.1 rfl;rw [lQ] at aL;go_simp;exact aR _ _ ⟨gq,gq,fun _=>⟨_,dh,bH,rfl,aM.new af [.int .i64 Bq.kind,.int .i64 Bq.why,.slice none 0 0,.slice dh agq bH] _,aj.1.size,ko.alloc _⟩,gq⟩ (aj.below iD) (.below aj iD)
  ·intro eQ u af aj aL K aR bz;obtain⟨Vy,Z,F3,dm⟩:=id aj;refine wp_store_row g6 0 (.agg bI.toArray) bI Z bI _ dm (qK _) Br.o (by rw [Fp.o,F3];exact aQF 3) sN.o (by rw [Fp.o,List.take_zero,List.nil_append,List.drop_of_length_le (by rw [F3];exact Nat.le_refl 3),List.append_nil]) rfl ⟨by simp [Act.eval,aL],by simp [Act.eval,aL,bz]⟩ ?_;intro rE sO yc;exact aR _ _ ⟨gq,gq,gq,fun _=>sO⟩ ⟨Vy.trans (j3.um yc),bI,Fp.o,sO⟩ ⟨j3.um yc,⟨Z,dm⟩,fun _=>sO⟩
  · intro u7 fE aj bZ;obtain⟨g7,dh,bH,qP,yx,VM,Bt⟩:=(show Yo _ _ _ _ _ _ _ _ 5 _ _ from bZ 5 om).2.2.1 rfl;have Xd:=(show Yo _ _ _ _ _ _ _ _ 6 _ _ from bZ 6 om).2.2.2 rfl;clear bZ;simp only [qP];obtain⟨dW,abV,wQ,qX⟩:=hq4 aj Xd yx Bt;clear aj Xd yx Bt VM qP;go_wp2_with fail;have ql:=Br.o;refine Eg abV.o underlying80 rfl ql ⟨rfl,rfl,rfl⟩ ⟨Yp,avo,avp,⟨xz.o.st.dG hc Ce.o dW.o.1 (by have:=hs.fO.size;have:=mW.o;have:=Qh.o;omega) dc,?_,xz.o.grow,fun q aJ=>(xz.o.vS q aJ).imp_right fun h=>aQG dX.o.size h⟩,SK.o,.inr ⟨g7,Bq,⟨none,0,dh,bH⟩,by rw [agp.o];rfl,?_,⟨by rw [agr.o.2.2];exact Own.nil _ _ _ _,?_⟩,fun q aJ=>aQG (aQG dX.o.size xz.o.nQ.size) (qX.o.block q aJ).1,ags.o⟩⟩
    · have Yq:lH c.l bu KA w cO:=.Gz ((lG.gN dX.o).trans xz.o.nQ);exact Yq.NR dW.o.1 (by have:=mW.o;have:=Qh.o;omega)
    · have:=wQ.o;rw [oD.o] at this;rcases ags.o with h | h <;> rw [h.2] at this |- <;> simpa [jd,Hz,DY] using this
    · have:=qX.o;rw [Aa.o,oD.o] at this;rw [show Bq.reads=rd.map gJ by rcases ags.o with h | h <;> rw [h.2] <;> rfl,List.length_map];exact this.mono VL.o)):P:=h
theorem avq (hc:c.Ok) (iK:NS c m) {U:aRZ} (hs:kD c w U σ aW aF) (hm:rJ σ c.n<=m) {VN:Ma} (aC:Ci c w VN i x bK) {p:ak} (aI:p.length<=1100000)
    (hw:∀ j,c.W.jK p=some j->yT c.W c.dN j/\(∀ x∈U,xS c.W x j)/\(j∈U->fD c.W p = .stuck)) (atg:p ∉ bK.map (·.path)) (jV:bK.length<=1000) {bV:aRV} {rc:Nat} {rd:List dB} (ax:Own w c.l.T 80 3 bV rd.length rc (cK iA rd)) (xR:rd.length<=1000) (SE:∀ x∈rd,x.data.length<=1000000000) :
    Calls prog 121 #[pp VN.bu 0,.string (aA p),.slice bV rd.length rc] w fun e w'=>∃ σ' tk' fe,aI7 c VN.bu VN.KA w U σ aW aF w' σ' tk' fe/\(∀ j,c.W.jK p=some j->σ'.begun j=true) /\
      ((∃ k KA iG,fD c.W p = .known k/\e = .returned (.tuple #[.agg (iA k).toArray,.pointer none])/\Ci c w' ⟨VN.bu,KA,iG⟩ i x (bK++[k])/\∀ q,q < w.heap.size->some q≠bM VN.KA->some q≠bM KA) \/
       (∃ g o L,e = .returned (.tuple #[.agg (iA ⟨p,false,[]⟩).toArray,pp g 0])/\aM w' g (jd o L) 63 /\ ny w' c.l.T o L/\(∀ q,bM L.B=some q->w.heap.size<=q)/\((fD c.W p = .below/\o=Hz (rd.map gJ))\/(fD c.W p = .stuck/\o=DY (rd.map gJ))))):=by
  obtain⟨P,Al⟩:=ai (aA p);obtain⟨AA,BU⟩:=ai ((oW (fD c.W p) p).1);obtain⟨bI,BX⟩:=ai (iA (oW (fD c.W p) p).2);obtain⟨aH,AX⟩:=ai (w.alloc (.cells #[.string P] 9));obtain⟨aY,Ac⟩:=ai (aH.alloc (.cells l9.toArray 80));have Bb:=gQ AX;have Bc:aH.heap.size=w.heap.size+1:=by rw [AX];simp
  have BG:=gQ Ac;have BH:aM aY w.heap.size [.string P] 9:=by refine aM.all ?_ BG;rw [AX];exact aM.new w _ _
  have Be:=kY Ac;have Bf:=aU Bb BG;have Ad:=aC.all Bf;obtain⟨bu,KA,iG⟩:=VN;simp only at aC Ad |-;obtain⟨X,aX,n,Am⟩:=nq2 c.l.X bK.length;have BK:=aDR aY KA iG bK Ad.known.rd jV 174 #[pp w.heap.size 0] (enters_of func174 kr rfl) (fun k=>k.path == p) fun W ae k _=>aJc W k w.heap.size p (by rw [<- Al];exact (BH.all ae).cell 0);rw [aaf (row:=bK) (p:=fun k=>k.path == p) (List.any_eq_false.2 fun k hk=>by
    intro e;exact atg (List.mem_map.2 ⟨k,hk,by simpa using e⟩)),<- Am] at BK;have CV:=aa BK;have CW:aY.cell? (ad bu 9)=some (.slice KA n iG):=by rw [Am];exact Ad.row.cell 9
  have CY:=aa Bf;rw [<- Al];rw [aJb] at Ac;have CZ:=AX.symm;have Ca:=Ac.symm;obtain⟨mW,Cf,Ao,IL,Bg,AU,Ap,wP,Cg⟩:=hq9 Bc Al BU BX aX Am Ad Be BH;clear AX Ac BK Bc Al BU BX aX Am Ad Be BH Bb BG;go_enter func121,ntmps121;go_upto_region 4 with (first | (go_at_call 173; refine CV.o.mono ?_;rintro e AB ⟨rfl,BL⟩;have dX:=aa (aU CY.o BL);have Qg:=aa BL;clear BL CW CZ Ca))
  have Aq:=hs.all hc dX.o;have Cj:=aa (show c.l.T<=AB.heap.size from Aq.fO.size);have Ck:=aa (fun (u:Nat->Value)=>show Dn c AB U σ aW aF 5 9 10 l9 bI 80 (fun bR=>∀ j,c.W.jK p=some j->bR.begun j=true) (fun _=>false) u AB.drew from Dn.start hc Aq);have Cm:=aa (fun (af:aRU) (ae:Ch c.l AB af)=>show af.cell? (ad bu 0)=some (pp X 0) from by rw [Bg.o];exact ((Ap.o.all Qg.o).nQ ae).row.cell 0);have Co:=aa (fun (af:aRU) (ae:Ch c.l AB af)=>show af.cell? (ad w.heap.size 0)=some (.string P) from ((Cg.o.all Qg.o).nQ ae hs.fO.size dc).cell 0);have Cr:=aa (fun (af:aRU) (bR:bE) (ib:aRZ) (eP:aR1) (ag:Step c AB U σ aW aF af bR ib eP)=>show CR 23 #[pp X 0,.string P] af (.tuple #[.agg bI.toArray,.int .i64 AA]) fun w'=>∃ σ' tk' fe,Step c af U bR ib eP w' σ' tk' fe/\∀ j,c.W.jK p=some j->σ'.begun j=true from by
    have:=iK af U bR ib eP p ag.st (aQG (agh c.n ag.grow.begun) hm) aI hw;rw [<- IL.o,<- Ao.o,<- Cf.o,<- Bg.o] at this;exact this);have Ct:=aa Aq;have Ae:bI.length=3:=by rw [IL.o];rfl
  have Br:=aa (show Sz 80 bI.length by rw [Ae];exact kr);have Cu:=aa (show 0+bI.length<=l9.length by rw [Ae];exact aQF 3);have sN:=aa (show ∀ v∈bI,v.oneCell'=true by rw [IL.o];simp [iA,Value.oneCell']);have Cv:=aa (show l9.take 0++bI++l9.drop (0+bI.length)=bI by rw [Ae];simp [l9,iA]);have Fp:=aa Ae;clear Ae;clear Aq;refine TL 11 (iX [some (pp bu 0),some (pp bu 0),some (pp bu 0),some (pp X 0),some (.string P),some (.tuple #[.agg bI.toArray,.int .i64 AA]),some (.tuple #[.agg bI.toArray,.int .i64 AA]),some (.agg bI.toArray),some (.int .i64 AA),none,none] fun _ _ _=>True) (Dn c AB U σ aW aF 5 9 10 l9 bI 80 (fun bR=>∀ j,c.W.jK p=some j->bR.begun j=true)) (fun _ _=>True) Ck.o (fun j v w1 af ae D8=>iX.keep (fun _=>trivial) D8) ?_ (jI:=?_)
  rotate_left
  · repeat' (first | exact trivial | apply And.intro)
    all_goals intro eQ u af L aj Bh DF aL bz K aR
    all_goals simp [iX,Region.binds] at bz
    all_goals first | simp [Region.wanted,yielded,aL,bz] | simp [Region.wanted,yielded] | skip
    all_goals obtain⟨bR,ib,eP,Av,_,DI⟩:=id aj
    all_goals have EA:=Cm.o af Av.nQ
    all_goals have EC:=Co.o af Av.nQ
    all_goals try (first | exact aR _ _ rfl (aj.plain hc (Below.refl _ _) dc dc dc) (trivial) | (go_simp;exact aR _ _ rfl (aj.plain hc (Below.refl _ _) dc dc dc) (trivial)))
    · go_simp;refine (Cr.o af bR ib eP Av).mono ?_;rintro e aD ⟨rfl,EF,EG,EH,Bi,DJ⟩;exact aR _ _ rfl (aj.call Cj.o dc (Av.trans Bi) DJ Bi.nQ dc dc) trivial
    · go_simp;exact aR _ _ trivial (aj.laid hc (adl DF Bh 10 [9] kr sp) dc dc) trivial
    · obtain⟨g,Bj,av,ax⟩:=DI bz.1;rw [Bh,if_neg dc] at ax;refine wp_store_row g 0 (.agg bI.toArray) bI l9 bI _ ax (qK _) Br.o Cu.o sN.o Cv.o rfl ⟨by simp [Act.eval,aL,Bj],by simp [Act.eval,aL,bz]⟩ ?_;intro cO DN DR;exact aR _ _ trivial (aj.stored hc Ct.o ax av Bj DR DN dc dc dc) trivial
  · intro u cO aj bZ;have Bn:u 8 = .int .i64 AA:=bZ.at 8 dc dc;obtain⟨Yp,avo,avp,Bp,C8,CF⟩:=aj;obtain⟨g9,Az,CG,Af⟩:=CF rfl;clear bZ;simp only [Bn,Az];rw [if_pos dc] at Af;have xz:=aa Bp;have SK:=aa (C8 dc);have su:=aa Af;have ami:=aa CG;clear Bp C8 Af CG CF Bn Az;cases hA:fD c.W p with
    | known k =>
      have agp:=aa (show bI=iA k by rw [IL.o,hA];rfl);have DT:=aa hA;have AP:AA=1:=by rw [Ao.o,hA];rfl
      subst AP;have Ag:=aa ((Ap.o.all Qg.o).nQ xz.o.nQ);have AZ:(bI.drop 0).take bI.length=bI:=by simp
      have DU:(Value.agg bI.toArray).cells.size=3:=by simp [Value.cells,Fp.o]
      obtain⟨Ah,BN⟩:=ai (cK iA bK);have Ak:=aa (show Own cO c.l.T 80 3 KA n iG Ah by rw [BN,AU.o];exact Ag.o.known);have Db:=aa BN;have Dc:=aa (show n<=1000000 by rw [AU.o];omega);have VL:=aa (show c.l.T<=cO.heap.size from xz.o.st.fO.size);have CJ:=aa (fun (aD:aRU) (aj:nN cO c.l.T 80 3 KA n iG Ah aD)=>show aD.cell? (ad bu 9)=some (.slice KA n iG)/\aM aD g9 bI 80 from by
        refine⟨?_,?_⟩
        · have:=(aj.row Ag.o.row (fun e=>Ak.o.ne Ag.o.row dc e.symm)).cell 9;rw [this,AU.o];rfl
        · refine aj.row su.o fun e=>?_;have:=(Ap.o.known.block g9 e.symm).2.1;have:=ami.o;have:=Qg.o.size;omega);clear hA BN;go_wp2_with fail;have kR:=CJ;refine nz nH 10 [some _,some _,some _,some _,some _,some (.agg bI.toArray),none,none,some _,some _] (xc cO.heap.size c.l.T 80 3 KA n iG Ah bI 6 7) (nN cO c.l.T 80 3 KA n iG Ah) (o6 c.l.T 80 3 KA iG (n+1) (Ah++bI)) (nN.start Ak.o) (fun j v w1 af ae h=>h.keep ae) ?_ (jI:=⟨rx,rx,rx,rx,rx,rs ?_,rs ?_,rs ?_,rx,rx,trivial⟩)
      rotate_left
      ·intro eQ u af aj aL K aR bz;refine wp_load_row g9 0 bI bI _ (CJ.o af aj).2 AZ _ underlying80 Br.o ⟨rfl,by simp [Act.eval,aL],rfl⟩ ?_;exact aR _ _ rfl aj (o6.refl _)
      ·intro eQ u af aj aL K aR bz;refine Nv Z5 (.agg bI.toArray) DU rfl (by simp [Act.eval,aL,bz]) ?_;exact aR _ _ ⟨⟨fun _=>⟨_,rfl,aM.new af bI _,aj.JD⟩,gq,fun e=>absurd rfl e⟩,gq⟩ (aj.alloc _) (o6.alloc af _)
      ·intro eQ u af aj aL K aR bz;obtain⟨g9,Az,Af,EJ⟩:=(show xc _ _ _ _ _ _ _ _ _ _ _ 6 _ _ from bz.2).1.1 rfl;refine X5 Z5 rfl aj.2 g9 Af Fp.o sN.o Dc.o (aQG VL.o aj.1.size) underlying156 ⟨by simp [Act.eval,aL,bz.1],by simp [Act.eval,aL,Az]⟩ ?_;intro il c2 aD BB CK De Dg;exact aR _ _ ⟨⟨gq,fun _=>⟨il,c2,rfl,BB⟩,fun _ e=>absurd rfl e⟩,fun _ dh m3 bH fq j aC BO=>by cases fq;exact Dg j (aQJ aC aj.1.size) BO⟩ ⟨F8 aj.1 CK.1,De⟩ CK
      · intro u5 bn aj bZ;obtain⟨I,Y,BP,BB⟩:=(show xc _ _ _ _ _ _ _ _ _ _ _ 7 _ _ from bZ 7 om).1.2.1 rfl;have CL:=(show xc _ _ _ _ _ _ _ _ _ _ _ 7 _ _ from bZ 7 om).2 rfl _ _ _ BP;clear bZ;simp only [BP];have dW:=aa aj;have qX:=aa BB.1;have CQ:=aa CL;have AV:=aa (show aM bn bu (NQ c ⟨bu,KA,iG⟩ i x n) 158 by
          have:=aj.row Ag.o.row (fun e=>Ak.o.ne Ag.o.row dc e.symm);rw [AU.o];exact this);have BR:=aa (aj.row su.o fun e=>by
          have:=(Ap.o.known.block g9 e.symm).2.1;have:=ami.o;have:=Qg.o.size;omega);have BS:=aa (aj.row ((wP.o.all Qg.o).nQ xz.o.nQ (by have:=hs.fO.size;have:=mW.o;omega) dc) fun e=>by
          have:=(aC.known.block _ e.symm).2.1;have:=mW.o;omega);have Qh:=aa (show aH.heap.size≠bu from fun e=>by have h1:=BS.o;rw [e,aM,AV.o] at h1;cases h1);have Dh:Sz 156 1:=kr;have EK:(Value.slice I (n+1) Y).cells.toList=[Value.slice I (n+1) Y]:=rfl;have Di:9+1<=(NQ c ⟨bu,KA,iG⟩ i x n).length:=by exact Nat.le_succ 10
        have hq3:(Value.slice I (n+1) Y).oneCell'=true:=rfl;have Dj:(NQ c ⟨bu,KA,iG⟩ i x n).set 9 (.slice I (n+1) Y)=NQ c ⟨bu,I,Y⟩ i x (n+1):=rfl;have Dk:bI.length=l9.length:=Fp.o;have ql:=Br.o;have AP:=sN.o;clear BB aj CL BP;go_wp2_with (first|((with_reducible refine A8 9 (.slice I (n+1) Y) AV.o Dh Di hq3 Dj ?_);intro EL sO yc;have Dp:=aa sO;have BC:=aa yc;have abV:=aa (BR.o.dG yc (fun e=>by rw [e] at BR;have h1:=BR.o;rw [aM,AV.o] at h1;cases h1));have Dq:=aa (BS.o.dG yc Qh.o);clear sO yc)|(with_reducible refine kG abV.o underlying80 ql ?_)|((with_reducible refine vF bI Dq.o ql Dk AP ?_);intro fE wQ BD));have BZ:=Qh.o;have Dr:aH.heap.size < cO.heap.size:=by have:=wP.o.lt;have:=Qg.o.size;have:=xz.o.nQ.size;omega
        have Dt:some aH.heap.size≠bM I:=CQ.o _ Dr fun e=>by
          have:=(aC.known.block _ e.symm).2.1;have:=mW.o;omega
        refine Eg wQ.o underlying80 rfl ql ⟨rfl,rfl,rfl⟩ ⟨Yp,avo,avp,?_,SK.o,.inl ⟨k,I,Y,DT.o,by rw [agp.o];rfl,⟨Dp.o.dG BD.o (aQ0 BZ) |> fun h=>(by rw [List.length_append];rw [AU.o] at h;exact h),aC.far,?_⟩,fun q aJ BO=>CQ.o q (by have:=dX.o.size;have:=xz.o.nQ.size;omega) BO⟩⟩
        · have Du:=xz.o.st.grown hc Ak.o (aQF _) dW.o.1 dc;have Dv:=Du.dG hc AV.o (j3.um BC.o) aC.far dc;have Dw:=BS.o.dG BC.o BZ;have Dz:c.l.T<=aH.heap.size:=by have:=hs.fO.size;have:=mW.o;omega
          have E5:=Dv.dG hc Dw (j3.um BD.o) Dz dc;have Yq:lH c.l bu KA w cO:=.Gz ((lG.gN dX.o).trans xz.o.nQ);have E8:=Yq.trans (.grown dW.o.1 fun q aJ=>(Ak.o.block q aJ).1) fun _ _ h=>h;have E9:=E8.trans (.dG (KA:=KA) BC.o aC.far fun cs t aZ e=>by
            rw [AV.o] at e;injection e with e
            injection e with _ e
            rw [<- e];decide) fun _ _ h=>h;exact⟨E5,E9.NR (j3.um BD.o) (by have:=mW.o;omega),xz.o.grow,fun q aJ=>(xz.o.vS q aJ).imp_right fun h=>aQG dX.o.size h⟩
        · have CS:=qX.o;rw [Db.o,agp.o] at CS;have CU:Own fE c.l.T 80 3 I (n+1) Y (cK iA bK++iA k):=(gX CS AV.o dc BC.o).keep fun b ae _ _=>BD.o.2.2.2.2 b fun e=>Dt (by rw [<- e];exact ae.symm);rw [AU.o] at CU;show Own fE c.l.T 80 3 I (bK++[k]).length Y (cK iA (bK++[k]));rw [List.length_append,show cK iA (bK++[k])=cK iA bK++iA k by simp [cK]];exact CU
    | below =>
      have AP:AA=2:=by rw [Ao.o,hA];rfl
      subst AP;obtain⟨Bq,AQ⟩:=ai (Hz (rd.map gJ));have agr:=aa (show Bq.kind=2/\Bq.why=16/\Bq.outs=[] by rw [AQ];exact⟨rfl,rfl,rfl⟩);have ags:=aa (show (fD c.W p = .below/\Bq=Hz (rd.map gJ))\/(fD c.W p = .stuck/\Bq=DY (rd.map gJ)) from .inl ⟨hA,AQ⟩);clear AQ;exact avn
    | stuck =>
      have AP:AA=3:=by rw [Ao.o,hA];rfl
      subst AP;obtain⟨Bq,AQ⟩:=ai (DY (rd.map gJ));have agr:=aa (show Bq.kind=3/\Bq.why=11/\Bq.outs=[] by rw [AQ];exact⟨rfl,rfl,rfl⟩);have ags:=aa (show (fD c.W p = .below/\Bq=Hz (rd.map gJ))\/(fD c.W p = .stuck/\Bq=DY (rd.map gJ)) from .inr ⟨hA,AQ⟩);clear AQ;exact avn
theorem aml {l:oh} {P:nY} {ins asks:List ak} {b:dC} (ah:iF w l P ins asks b) (hk:w.heap[k]?=some (.cells cs t aZ)) (h1:t ≠ 135):some k≠bM l.bV:=fun e=>by
 obtain⟨_,_,cur,I,ae⟩:=ah.reads.block k e.symm;rw [hk] at ae;injection ae with ae
 injection ae with _ ae
 exact h1 ae
section
variable {c:dF} {w w':aRU} {l:oh} {P:nY} {ins asks:List ak} {b:dC} (ah:iF w l P ins asks b) (h:kv l w w')
theorem Yu (ah:iF w l P ins asks b) (h:kv l w w') (hk:w.heap[k]?=some (.cells cs t aZ)) (h1:t ≠ 295) (ag:t ≠ 1) (au:t ≠ 253) (aN:some k≠bM l.bV):w'.heap[k]?=w.heap[k]? :=
 h.cells k cs t aZ hk h1 ag (fun e=>by
  rw [e,ah.row] at hk;injection hk with hk
  injection hk with _ hk
  exact au hk.symm) aN
theorem Own.LY (ah:iF w l P ins asks b) (h:kv l w w') {n:Nat} (aG:Own w base t aO A n c2 xs) (h1:t ≠ 295) (ag:t ≠ 1) (au:t ≠ 253) (aN:t ≠ 135):Own w' base t aO A n c2 xs:=aG.keep fun k hk _ _=>by
 obtain⟨_,_,cur,aZ,hc⟩:=aG.block k hk;exact Yu ah h hc h1 ag au (aml ah hc aN)
theorem wG.LY (ah:iF w l P ins asks b) (h:kv l w w') (ae:wG c w σ aW aF) (hc:c.Ok) (bY:c.l.T<=l.B) (bZ:∀ q,bM l.bV=some q->¬ aF q):wG c w' σ aW aF:=by
 obtain⟨bV,rc,lK,jZ,h1,AB,Ac,aS⟩:=ae.row;obtain⟨OL,Ad,J⟩:=ae.outs;have Ae:=(hc.low _ (.inl rfl)).2;have Af:=(hc.low _ (.inr (.inl rfl))).2;have Ag:=(hc.low _ (.inr (.inr (.inl rfl)))).2;have Ah:=(hc.low _ (.inr (.inr (.inr (.inl rfl))))).2;have Ak:=(hc.low _ (.inr (.inr (.inr (.inr (.inl rfl)))))).2;have Al:=(hc.low _ (.inr (.inr (.inr (.inr (.inr rfl)))))).2;have AV:=hc.old;have hk:∀ k,k < c.l.T->w'.heap[k]?=w.heap[k]?:=fun k hk=>h.low k om;have I:∀ {base aO n c2:Nat} {t:TypeId} {A:aRV} {ys:aRW},Own w base t aO A n c2 ys->t ≠ 295 -> t ≠ 1 -> t ≠ 253 -> t ≠ 135 -> Own w' base t aO A n c2 ys:=fun Y AP AQ AU AA=>Own.LY ah h Y AP AQ AU AA;have AX:∀ {base aO n c2:Nat} {A:aRV} {ys:aRW},Own w base 135 aO A n c2 ys->(∀ q,bM A=some q->aF q)->Own w' base 135 aO A n c2 ys:=fun Y hf=>Y.keep fun k hk _ _=>by
  obtain⟨_,_,cur,aZ,Am⟩:=Y.block k hk;exact Yu ah h Am dc dc dc fun e=>bZ k e.symm (hf k hk)
 obtain⟨M,hm,Ao⟩:=ae.src.store;obtain⟨M2,Ap,Aq,AZ⟩:=ae.src.bF.map;refine⟨⟨bV,rc,lK,jZ,(hk _ Ae).trans h1,I AB dc dc dc dc,I Ac dc dc dc dc,aS⟩,(hk _ Af).trans ae.begun,⟨OL,(hk _ Ag).trans Ad,fun i o e=>⟨⟨I (J i o e).1.outs dc dc dc dc,AX (J i o e).1.reads (J i o e).2⟩,(J i o e).2⟩⟩,
  ⟨(hk _ AV.1).trans ae.src.row,⟨(hk _ AV.2).trans ae.src.bF.obj,ae.src.bF.far,M2,Ap.keep (hk _ Ah),Aq,fun j aC=>⟨fun e=>?_,(AZ j aC).2⟩⟩,⟨M,⟨(hk _ Ak).trans hm.obj,hm.map.keep (hk _ Al)⟩,Ao⟩,ae.src.far,ae.src.ne⟩,fun W Av=>ae.work W fun k h1 AB=>(Av k h1 AB).trans (hk k h1),ae.home.below ⟨h.os,h.tape,h.output,h.size,fun k h=>hk k (aQJ h hc.base.1)⟩,aQG ae.size h.size⟩;obtain⟨y,AP,AQ,L,AU,AA,Aa⟩:=(AZ j aC).1 e;exact⟨y,AP,AQ,L,I AU dc dc dc dc,⟨AX AA.reads Aa,I AA.outs dc dc dc dc⟩,Aa⟩
end
theorem VQ:D6 prog 37 3 (.int .i64 0) 1 8:=⟨underlying37,kr,rfl,dc⟩
theorem wG.Qj (h:wG c w σ aW aF) (hc:c.Ok) {uq:aRV} {n0 mD:Nat} {zX:aRW} (aG:Own w c.l.T 3 1 uq n0 mD xs) (av:w.grownBy af (bM uq)) (aX:aM w c.l.X zX 78) (az:fV c.l.X af aD) {tk':aRZ}
  (ae:σ'.begun=σ.begun) (zS:σ'.got=σ.got) (Dk:σ'.bF=σ.bF) (Ym:σ'.has=σ.has) (bS:∃ bV rc lK jZ,aM aD c.l.X (IJ c bV rc lK jZ σ'.dY.length tk'.length) 78 /\ Own aD c.l.T 3 1 bV σ'.dY.length rc (Bo σ'.dY)/\Own aD c.l.T 3 1 lK tk'.length jZ (Bo tk')/\∀ q,bM lK=some q->some q≠bM bV):wG c aD σ' tk' aF:=by
 obtain⟨OL,Ac,AU⟩:=h.outs;have Ad:=(hc.low _ (.inr (.inl rfl))).2;have Ae:=(hc.low _ (.inr (.inr (.inl rfl)))).2;have Af:∀ k,k < c.l.T->af.heap[k]?=w.heap[k]?:=fun k hk=>av.block k (aQJ hk h.size) fun e=>by
  have:=(aG.block k e.symm).1;omega
 have hk:∀ k,k < c.l.T->k≠c.l.X->aD.heap[k]?=w.heap[k]?:=fun k h1 J=>(az.2.2.2.2 k J).trans (Af k h1);have AP:∀ {k:Nat} {cs:Array Value} {t:TypeId} {aZ:Nat × Nat},w.heap[k]?=some (.cells cs t aZ)->t ≠ 3 -> t ≠ 78 -> aD.heap[k]?=w.heap[k]?:=fun {k cs t aZ} I Y AA=>(az.2.2.2.2 k fun e=>by
  rw [e,aX] at I;injection I with I
  injection I with _ I
  exact AA I.symm).trans (av.block k (iw I) fun e=>by
  obtain⟨_,_,cur,Ag,ae⟩:=aG.block k e.symm;rw [I] at ae;injection ae with ae
  injection ae with _ ae
  exact Y ae);have AX:∀ {k:Nat} {o:Obj},w.heap[k]?=some o->o.isCells=false->aD.heap[k]?=w.heap[k]?:=fun {k o} h1 J=>(az.2.2.2.2 k fun e=>by
  rw [e,aX] at h1;cases h1;cases J).trans (av.block k (iw h1) fun e=>by
  obtain⟨_,_,cur,Ag,ae⟩:=aG.block k e.symm;rw [h1] at ae;cases ae;cases J);have AB:∀ {base aO n c2:Nat} {t:TypeId} {A:aRV} {ys:aRW},Own w base t aO A n c2 ys->t ≠ 3 -> t ≠ 78 -> Own aD base t aO A n c2 ys:=fun AZ Y AA=>AZ.keep fun b ae _ _=>by
  obtain⟨_,_,cur,aZ,I⟩:=AZ.block b ae;exact AP I Y AA
 obtain⟨M,hm,Ah⟩:=h.src.store;obtain⟨M2,Ak,Al,Aa⟩:=h.src.bF.map;obtain⟨⟨Ap,Y,AA⟩,⟨Aq,AV,AQ⟩,_⟩:=h.src.kinds;refine⟨bS,?_,⟨OL,?_,fun i o e=>?_⟩,⟨(AP h.src.row dc dc).trans h.src.row,⟨(AP h.src.bF.obj dc dc).trans h.src.bF.obj,h.src.bF.far,M2,Ak.keep (AX Y AA),Al,fun j aC=>?_⟩,⟨M,⟨(AP hm.obj dc dc).trans hm.obj,hm.map.keep (AX AV AQ)⟩,by rw [Ym];exact Ah⟩,h.src.far,h.src.ne⟩,fun W Am=>?_,?_,by rw [az.2.2.2.1];exact aQG h.size av.size⟩
 ·rw [show yB σ' c.n=yB σ c.n by rw [yB,ae];rfl];exact (hk _ Ad (aQ0 hc.ne.1)).trans h.begun
 ·rw [show pR σ' OL c.n=pR σ OL c.n by rw [pR,zS];rfl];exact (hk _ Ae (aQ0 hc.ne.2.1)).trans Ac
 ·rw [zS] at e;exact⟨⟨AB (AU i o e).1.outs dc dc,AB (AU i o e).1.reads dc dc⟩,(AU i o e).2⟩
 ·rw [Dk];refine⟨fun e=>?_,(Aa j aC).2⟩;obtain⟨y,Y,AA,L,AV,AQ,Ao⟩:=(Aa j aC).1 e;exact⟨y,Y,AA,L,AB AV dc dc,⟨AB AQ.reads dc dc,AB AQ.outs dc dc⟩,Ao⟩
 ·exact h.work W fun k h1 J=>(Am k h1 J).trans (hk k h1 fun e=>J (.inl e))
 ·exact h.home.below ⟨az.1.trans av.os,az.2.1.trans av.tape,az.2.2.1.trans av.output,by rw [az.2.2.2.1];exact av.size,fun k h1=>hk k (aQJ h1 hc.base.1) fun e=>by have:=(hc.low c.l.X (.inl rfl)).1;omega⟩
theorem lG.Qj (hc:c.Ok) {uq:aRV} {n0 mD:Nat} {zX:aRW} (aG:Own w c.l.T 3 1 uq n0 mD xs) (av:w.grownBy af (bM uq)) (aX:aM af c.l.X zX 78) (az:fV c.l.X af aD):Ch c.l w aD :=
 (lG.aHQ av aG).trans (lG.alJ az (.inl rfl) (hc.low _ (.inl rfl)).2 aX dc)
structure SQ (i:Nat) (σ:bE) (aW:aRZ) (σ':bE) (tk':aRZ):Prop where
 begun:∀ j,σ.begun j=true->σ'.begun j=true
 log:∀ j,j∈σ'.dY++tk'->j∈σ.dY++aW\/j=i\/σ.begun j=false
 got:∀ j,σ.got j≠none->σ'.got j=σ.got j
 more:∀ j,j∈σ.dY->j∈σ'.dY
 same:∀ j,σ.begun j=true->j≠i->σ'.bF j=σ.bF j
theorem SQ.next {bR:bE} {tk' ib:aRZ} (h:SQ i σ aW σ' tk') (k:Kb σ' tk' bR ib):SQ i σ aW bR ib:=⟨fun j aC=>k.begun j (h.begun j aC),fun j aC=>(by
 rcases k.log j aC with h1 | h1
 ·exact h.log j h1
 ·right;right;cases e:σ.begun j with
  | false=>rfl
  | true=>rw [h.begun j e] at h1;cases h1),fun j aC=>(by rw [k.got j (by rw [h.got j aC];exact aC),h.got j aC]),fun j aC=>k.more j (h.more j aC),fun j aC I=>(k.same j (h.begun j aC)).trans (h.same j aC I)⟩
def NW (c:dF) (bu:Nat) (KA:aRV) (i:Nat) (w:aRU) (U:aRZ) (σ:bE) (aW:aRZ) (aF:aR1) (e:Ending) (w':aRU):Prop :=
 ∃ σ' tk' fe L,e = .returned (.agg (jd (bG c.W i) L).toArray)/\ny w' c.l.T (bG c.W i) L/\(∀ q,bM L.B=some q->w.heap.size<=q)/\kD c w' U σ' tk' fe/\lH c.l bu KA w w'/\SQ i σ aW σ' tk'/\(∀ q,fe q->aF q\/w.heap.size<=q)/\i∈σ'.dY++tk'/\(∀ j,ym c.W i j->σ'.begun j=true)/\((bG c.W i).kind=1->xD c.W σ' i)
theorem kD.cut {U:aRZ} (h:kD c w U σ aW aF):kD c w U σ aW (fun q=>aF q/\q < w.heap.size):=by obtain⟨OL,AA,J⟩:=h.fO.outs;obtain⟨M2,AB,AP,M⟩:=h.fO.src.bF.map;refine⟨⟨h.fO.row,h.fO.begun,⟨OL,AA,fun i o e=>⟨(J i o e).1,fun q I=>⟨(J i o e).2 q I,((J i o e).1.reads.block q I).2.1⟩⟩⟩,⟨h.fO.src.row,⟨h.fO.src.bF.obj,h.fO.src.bF.far,M2,AB,AP,fun j aC=>⟨fun e=>?_,(M j aC).2⟩⟩,h.fO.src.store,h.fO.src.far,h.fO.src.ne⟩,h.fO.work,h.fO.home,h.fO.size⟩,h.inv,h.log,h.kept⟩;obtain⟨y,AQ,AU,L,AV,Y,AX⟩:=(M j aC).1 e;exact⟨y,AQ,AU,L,AV,Y,fun q I=>⟨AX q I,(Y.reads.block q I).2.1⟩⟩
def sw (c:dF) (i:Nat) (s:dC) (rs:List kU):Prop:=∃ s':(c.W.act i).S,s'=s/\pg c.W i s' rs
noncomputable def dF.U (c:dF):List dB:=Dl (Qc c.k.files c.X) (fD c.W)
section
variable {c:dF} (hc:c.Fit) {i:Nat} (fQ:i < c.n) {x:kH} (sj:c.X.getD i l8=x.2) {s:dC} {bK:List dB} (aI:sw c i s (bK.map gJ))
theorem sw.start (sj:c.X.getD i l8=x.2):sw c i (dC.start (lh x.2) x.2.tool) []:=⟨(c.W.act i).start,by
 show dC.start (lh (c.X.getD i l8)) (c.X.getD i l8).tool=_;rw [sj],pg.start⟩
theorem sw.way (hc:c.Fit) (sj:c.X.getD i l8=x.2) (aI:sw c i s (bK.map gJ)):SA x.2 c.U s (bK.map gJ):=by obtain⟨s',rfl,h⟩:=aI;have:=VF hc.work.small h;rw [sj] at this;exact this
theorem sw.few (hc:c.Fit) (fQ:i < c.n) (aI:sw c i s (bK.map gJ)):bK.length<=500/\(bK.map (·.path)).Nodup:=by
 obtain⟨s',rfl,h⟩:=aI;have J:i < c.X.length:=by simpa [dF.X,dF.n] using fQ
 obtain⟨_,h1,I⟩:=af8 hc.work J h;rw [List.length_map] at I;rw [List.map_map] at h1;exact⟨I,h1⟩
theorem sw.asks (hc:c.Fit) (fQ:i < c.n) (sj:c.X.getD i l8=x.2) (aI:sw c i s (bK.map gJ)) (gD:s.over=false):s.asks.length<=1100000/\s.asks ∉ bK.map (·.path)/\bK.length < 500:=by
 have hw:=aI.way hc sj;have J:i < c.X.length:=by simpa [dF.X,dF.n] using fQ
 have h1:=hw.1.asked hw.2.1 gD;rw [hw.2.2,List.length_map,List.map_map] at h1;refine⟨?_,h1.1,h1.2⟩;rcases hw.2.1 with I | ⟨_,_,I⟩
 ·rw [gD] at I;cases I
 ·rw [<- sj] at I;have:=af6 (auQ hc.work J I);omega
theorem sw.waits (aI:sw c i s (bK.map gJ)) (gD:s.over=false) (aC:c.W.jK s.asks=some j):ym c.W i j:=by obtain⟨s',rfl,h⟩:=aI;refine⟨s',_,_,h,?_,aC⟩;show (if s'.over=true then none else some s'.asks)=_;rw [gD];rfl
theorem sw.may (hc:c.Fit) (aI:sw c i s (bK.map gJ)) (gD:s.over=false) (hs:kD c w (i :: us) σ aW aF):∀ j,c.W.jK s.asks=some j->yT c.W c.dN j/\(∀ x∈i :: us,xS c.W x j)/\(j∈i :: us->fD c.W s.asks = .stuck):=fun j aC=>by
 have hw:=aI.waits gD aC;exact⟨(hs.inv.reach i ((hs.inv.under i).1 sp).1).next hw,hs.inv.arL rfl hw,fun h=>hs.inv.ring (Gw hc.work.small).fin rfl hw h aC⟩
theorem sw.step (hc:c.Fit) (sj:c.X.getD i l8=x.2) (aI:sw c i s (bK.map gJ)) (gD:s.over=false) {k:dB} (hk:fD c.W s.asks = .known k):sw c i (s.mE (lh x.2) k) ((bK++[k]).map gJ)/\k.path=s.asks/\k.data.length<=65536/\qU k=qU (rR c.U k.path):=by
 obtain⟨s',rfl,h⟩:=aI;have I:(c.W.act i).asks s'=some (dC.asks s'):=by show (if s'.over=true then none else some s'.asks)=_;rw [gD];rfl
 have hl:=L9 hc.work.small;refine⟨⟨_,?_,by rw [List.map_append];exact h.step I hk⟩,hl.path _ _ hk,hl.data _ _ hk,auG hl hk⟩;show dC.mE (lh (c.X.getD i l8)) s' k=_;rw [sj]
theorem sw.next (aI:sw c i s (bK.map gJ)) (bq:xW c.W σ i bK.length) (aC:∀ j,c.W.jK s.asks=some j->σ.begun j=true):xW c.W σ i (bK.length+1):=by
 obtain⟨s',rfl,h⟩:=aI;intro s2 I Y j h1 AP J M;rcases aQW I.length bK.length with AA | AQ
 ·exact bq s2 I Y j h1 AA J M
 ·obtain⟨AB,_⟩:=h.same h1 (by rw [List.length_map];omega);subst AB;obtain⟨_,rfl⟩:=NM J;exact aC j M
theorem sw.closed (aI:sw c i s (bK.map gJ)) (bq:xW c.W σ i (bK.length+1)) (dH:∀ p k,(c.W.act i).asks s=some p->fD c.W p ≠ .known k):∀ j,ym c.W i j->σ.begun j=true:=by obtain⟨s',rfl,h⟩:=aI;exact xW.closed (rs:=bK.map gJ) (by rw [List.length_map];exact bq) h dH
theorem sw.Xa (hc:c.Fit) (aI:sw c i s (bK.map gJ)) (gD:s.over=false) {o:iU} (aG:(fD c.W s.asks = .below/\o=Hz (bK.map gJ))\/(fD c.W s.asks = .stuck/\o=DY (bK.map gJ))):o=bG c.W i/\o.kind≠1/\∀ {σ:bE},xW c.W σ i (bK.length+1)->∀ j,ym c.W i j->σ.begun j=true:=by
 have J:(∀ k,fD c.W s.asks ≠ .known k)->∀ {σ:bE},xW c.W σ i (bK.length+1)->∀ j,ym c.W i j->σ.begun j=true:=fun M σ I=>aI.closed I fun p k h=>by
  obtain⟨_,rfl⟩:=NM h;exact M k
 obtain⟨s',rfl,h⟩:=id aI;have I:(c.W.act i).asks s'=some (dC.asks s'):=by show (if s'.over=true then none else some s'.asks)=_;rw [gD];rfl
 have hf:=(Gw hc.work.small).fin;rcases aG with ⟨h1,rfl⟩ | ⟨h1,rfl⟩
 ·exact⟨by rw [bG,h.Xa hf I h1],(by simp [Hz]),J fun k e=>by rw [h1] at e;cases e⟩
 ·exact⟨by rw [bG,h.stuck hf I h1],(by simp [DY]),J fun k e=>by rw [h1] at e;cases e⟩
theorem sw.over (hc:c.Fit) (aI:sw c i s (bK.map gJ)) (gD:s.over=true):s.out=bG c.W i/\∀ {σ:bE},xW c.W σ i bK.length->∀ j,ym c.W i j->σ.begun j=true:=by
 have AA:∀ p k,(c.W.act i).asks s=some p->fD c.W p ≠ .known k:=fun p k h=>by
  obtain⟨I,_⟩:=NM h;rw [gD] at I;cases I
 refine⟨?_,fun {σ} AB=>aI.closed (fun s2 J AP j h1 I M AQ=>?_) AA⟩
 ·obtain⟨s',rfl,h⟩:=aI;rw [bG,h.done (Gw hc.work.small).fin (by
   show (if s'.over=true then none else some s'.asks)=_;rw [gD];rfl)];rfl
 ·rcases aQW J.length bK.length with AU | AX
  ·exact AB s2 J AP j h1 AU M AQ
  ·obtain⟨s',rfl,h⟩:=aI;obtain⟨AV,_⟩:=h.same h1 (by rw [List.length_map];omega);subst AV;obtain⟨Y,_⟩:=NM M;rw [gD] at Y;cases Y
end
structure Bu (c:dF) (bu:Nat) (oG:aRV) (i:Nat) (x:kH) (w:aRU) (U:aRZ) (σ:bE) (aW:aRZ) (aF:aR1) (g0 gk ma og:Nat) (dO:aRW) (wr:aRU) (s:dC) (bK kr gL:List dB) (iO:oh) (qL:aRV) (Au:Nat):Prop where
 all:∃ KA iG bR ib eP,kD c wr U bR ib eP/\lH c.l bu oG w wr/\SQ i σ aW bR ib/\(∀ q,eP q->aF q\/w.heap.size<=q)/\(i∈bR.dY/\bR.bF i=false)/\Ci c wr ⟨bu,KA,iG⟩ i x gL/\(∀ q,q < w.heap.size->some q≠bM oG->some q≠bM KA) /\
  (∀ q,bM iO.bV=some q->¬ eP q)/\(∀ q,bM qL=some q->some q≠bM KA)/\xW c.W bR i gL.length
 box:iF wr iO (lh x.2) x.2.ins x.2.asks s
 lay:iO.X=ma/\iO.B=og/\w.heap.size<=og/\g0 < og/\gk < og/\c.l.T<=w.heap.size/\w.heap.size<=gk/\w.heap.size<=g0
 read:Own wr c.l.T 80 3 qL kr.length Au (cK iA kr)
 abZ:∀ q,bM qL=some q->w.heap.size<=q
 res:aM wr g0 iN 63
 key:aM wr gk dO 59
 pos:sw c i s (bK.map gJ)
 small:∀ k∈bK,k.data.length<=65536
def GA (c:dF) (bu:Nat) (KA:aRV) (i:Nat) (w:aRU) (U:aRZ) (σ:bE) (aW:aRZ) (aF:aR1) (w':aRU):Prop :=
 ∃ σ' tk' fe,kD c w' U σ' tk' fe/\lH c.l bu KA w w'/\SQ i σ aW σ' tk'/\(∀ q,fe q->aF q\/w.heap.size<=q)/\(i∈σ'.dY/\σ'.bF i=false)/\(∀ j,ym c.W i j->σ'.begun j=true)
theorem lH.aJr {iO:oh} (h:lH l bu KA w af) (ae:kv iO af aD) (bf:w.heap.size<=iO.B):lH l bu KA w aD :=
 ⟨ae.os.trans h.os,ae.tape.trans h.tape,ae.output.trans h.output,aQG h.size ae.size,fun k h1 I M=>(ae.low k om).trans (h.keep k h1 I M),fun k o h1 I M Y AA=>(ae.low k (by have:=iw h1;omega)).trans (h.high k o h1 I M Y AA),fun k cs t aZ h1 I M=>(ae.low k (by have:=iw h1;omega)).trans (h.calm k cs t aZ h1 I M)⟩
section
variable {c:dF} (hc:c.Ok) {bu:Nat} {oG:aRV} {i:Nat} {x:kH} {w:aRU} {U us:aRZ} {σ:bE} {aW:aRZ} {aF:aR1} {g0 gk ma og:Nat} {dO:aRW} {wr w':aRU} {s:dC} {bK kr gL:List dB} {iO:oh} {qL:aRV} {Au:Nat}
theorem Bu.below (hc:c.Ok) (h:Bu c bu oG i x w U σ aW aF g0 gk ma og dO wr s bK kr gL iO qL Au) (ae:Below wr.heap.size wr w'):Bu c bu oG i x w U σ aW aF g0 gk ma og dO w' s bK kr gL iO qL Au:=by obtain⟨KA,iG,bR,ib,eP,h1,I,Y,AA,AB,AP,AQ⟩:=h.all;exact⟨⟨KA,iG,bR,ib,eP,h1.all hc ae,I.trans (.Gz (lG.gN ae)) (fun _ _ h=>h),Y,AA,AB,AP.all ae,AQ⟩,h.box.below ae,h.lay,h.read.below ae (aQF _),h.abZ,h.res.all ae,h.key.all ae,h.pos,h.small⟩
theorem GA.below (hc:c.Ok) (h:GA c bu KA i w U σ aW aF wr) (ae:Below wr.heap.size wr w'):GA c bu KA i w U σ aW aF w':=by obtain⟨bR,ib,eP,h1,I,M⟩:=h;exact⟨bR,ib,eP,h1.all hc ae,I.trans (.Gz (lG.gN ae)) (fun _ _ h=>h),M⟩
theorem GA.dG (hc:c.Ok) (h:GA c bu KA i w U σ aW aF wr) (bY:c.l.T<=w.heap.size) (ax:aM wr g Z ty) (az:fV g wr w') (av:w.heap.size<=g) (nP:ty ∉ Fx):GA c bu KA i w U σ aW aF w':=by obtain⟨bR,ib,eP,h1,I,M⟩:=h;exact⟨bR,ib,eP,h1.dG hc ax (j3.um az) (aQG bY av) nP,I.NR (j3.um az) av,M⟩
theorem GA.post (h:GA c bu KA i w U σ aW aF w') {o:iU} {L:kI} (hk:o.kind≠1) (he:o=bG c.W i) (aG:ny w' c.l.T o L) (aB:∀ q,bM L.B=some q->w.heap.size<=q):NW c bu KA i w U σ aW aF (.returned (.agg (jd o L).toArray)) w':=by obtain⟨bR,ib,eP,h1,I,M,Y,AA,AB⟩:=h;subst he;exact⟨bR,ib,eP,L,rfl,aG,aB,h1,I,M,Y,aRd _ AA.1,AB,fun h=>absurd h hk⟩
theorem Bu.Qj (hc:c.Ok) (h:Bu c bu oG i x w U σ aW aF g0 gk ma og dO wr s bK kr gL iO qL Au) {k:dB} {A9:aRV} {c9:Nat} (aG:Own w' c.l.T 80 3 A9 (kr.length+1) c9 (cK iA kr++iA k)) (av:wr.grownBy w' (bM qL)) (hA:bM A9=bM qL\/bM A9=some wr.heap.size):Bu c bu oG i x w U σ aW aF g0 gk ma og dO w' s bK (kr++[k]) gL iO A9 c9:=by
 obtain⟨KA,iG,bR,ib,eP,h1,AB,AU,AV,AX,Y,AZ,Aa,AP,Ac⟩:=h.all;have Ad:∀ q,bM qL=some q->c.l.T<=q:=fun q I=>(h.read.block q I).1;have AQ:lH c.l bu qL wr w':=.grown av Ad;have Ae:Fw wr bu qL:=⟨⟨_,Y.row⟩,fun b ae=>(h.read.block b ae).2.2⟩;have hl:=h.lay;have AA:∀ {g:Nat} {V:aRW} {t:TypeId},aM wr g V t->t ≠ 80 -> aM w' g V t:=fun ax Af=>(av.block _ ax.lt (fun e=>h.read.ne ax (aQ0 Af) e.symm)).trans ax;refine⟨⟨KA,iG,bR,ib,eP,h1.grown hc h.read (aQF _) av dc,AB.trans AQ (fun q I _ e=>by have:=h.abZ q e.symm;omega),AU,AV,AX,⟨AA Y.row dc,Y.far,Y.known.grown av (fun b ae e=>AP b e.symm ae.symm)⟩,AZ,Aa,fun q I e=>?_,Ac⟩,lH.box Ae AQ h.box om,h.lay,?_,fun q I=>?_,AA h.res dc,AA h.key dc,h.pos,h.small⟩
 ·rcases hA with hA | hA
  ·exact AP q (by rw [<- hA];exact I) e
  ·rw [hA] at I;cases I;have:=(Y.known.block _ e.symm).2.1;omega
 ·rw [List.length_append,show cK iA (kr++[k])=cK iA kr++iA k by simp [cK]];exact aG
 ·rcases hA with hA | hA
  ·exact h.abZ q (by rw [<- hA];exact I)
  ·rw [hA] at I;cases I;exact AB.size
theorem Bu.given (hc:c.Ok) (h:Bu c bu oG i x w U σ aW aF g0 gk ma og dO wr s bK kr gL iO qL Au) {k:dB} {s':dC} (aI:sw c i s' ((bK++[k]).map gJ)) (hk:k.data.length<=65536) {bV:aRV} {rc:Nat} (ah:iF w' { iO with bV:=bV,rc:=rc } (lh x.2) x.2.ins x.2.asks s') (ae:kv iO wr w') (aB:∀ q,q < wr.heap.size->some q≠bM iO.bV->some q≠bM bV):Bu c bu oG i x w U σ aW aF g0 gk ma og dO w' s' (bK++[k]) kr gL { iO with bV:=bV,rc:=rc } qL Au:=by
 obtain⟨KA,iG,bR,ib,eP,h1,AP,AQ,AU,AV,Y,AX,AB,AZ,Aa⟩:=h.all;have hl:=h.lay;have AA:∀ {g:Nat} {V:aRW} {t:TypeId},aM wr g V t->t ≠ 295 -> t ≠ 1 -> t ≠ 253 -> t ≠ 135 -> aM w' g V t:=fun ax Ac Ad Ae Af=>(Yu h.box ae ax Ac Ad Ae (aml h.box ax Af)).trans ax;refine⟨⟨KA,iG,bR,ib,(fun q=>eP q/\q < wr.heap.size),⟨wG.LY h.box ae h1.cut.fO hc om (fun q I hf=>AB q I hf.1),h1.inv,h1.log,h1.kept⟩,AP.aJr ae om,AQ,fun q I=>AU q I.1,AV,⟨AA Y.row dc dc dc dc,Y.far,Own.LY h.box ae Y.known dc dc dc dc⟩,AX,fun q I hf=>?_,AZ,Aa⟩,ah,h.lay,Own.LY h.box ae h.read dc dc dc dc,h.abZ,AA h.res dc dc dc dc,AA h.key dc dc dc dc,aI,fun y hy=>?_⟩
 ·by_cases e:some q=bM iO.bV
  ·exact AB q e.symm hf.1
  ·exact aB q hf.2 e I.symm
 ·rcases aQ4.1 hy with h1 | h1
  ·exact h.small y h1
  ·rw [List.mem_singleton.1 h1];exact hk
theorem Bu.asked (hc:c.Ok) (iK:NS c m) (hm:rJ σ c.n<=m) (fQ:i < c.n) (sj:c.X.getD i l8=x.2) (h:Bu c bu oG i x w (i :: us) σ aW aF g0 gk ma og dO wr s bK bK bK iO qL Au) (gD:s.over=false) :
  Calls prog 121 #[pp bu 0,.string (aA s.asks),.slice qL bK.length Au] wr fun e w' =>
   (∃ k,fD c.W s.asks = .known k/\e = .returned (.tuple #[.agg (iA k).toArray,.pointer none])/\Bu c bu oG i x w (i :: us) σ aW aF g0 gk ma og dO w' s bK bK (bK++[k]) iO qL Au) \/
   (∃ g L,e = .returned (.tuple #[.agg (iA ⟨s.asks,false,[]⟩).toArray,pp g 0])/\aM w' g (jd (bG c.W i) L) 63 /\ ny w' c.l.T (bG c.W i) L/\(∀ q,bM L.B=some q->w.heap.size<=q)/\(bG c.W i).kind≠1/\aM w' g0 iN 63 /\ GA c bu oG i w (i :: us) σ aW aF w'/\∀ k,fD c.W s.asks ≠ .known k):=by
 obtain⟨KA,iG,bR,ib,eP,h1,AB,AQ,Ak,AX,AU,AV,Al,AZ,Aa⟩:=h.all;have Ac:=h.pos.asks hc.toFit fQ sj gD;have hl:=h.lay;refine (avq hc iK h1 (aQG (agh c.n AQ.begun) hm) AU Ac.1 (h.pos.may hc.toFit gD h1) Ac.2.1 om h.read om (fun y hy=>by have:=h.small y hy;omega)).mono ?_;rintro e w' ⟨σ',tk',fe,I,Ad,Am⟩;have AP:Fw wr bu KA:=.agk AU.row AU.known;have Ae:∀ q,fe q->aF q\/w.heap.size<=q:=fun q Y=>by
  rcases I.vS q Y with AA | AA
  ·exact Ak q AA
  ·exact .inr (aQG AB.size AA)
 have Af:i∈σ'.dY/\σ'.bF i=false:=⟨I.grow.more i AX.1,(I.grow.same i ((h1.inv.under i).1 sp).1).trans AX.2⟩;rcases Am with ⟨k,uD,Ao,hk,rfl,Ap,Ag⟩ | ⟨g,o,L,rfl,ax,Aq,Av,Ah⟩
 ·refine .inl ⟨k,hk,rfl,⟨uD,Ao,σ',tk',fe,I.st,AB.trans I.vT AV,AQ.next I.grow,Ae,Af,Ap,fun q Y Az=>Ag q (aQJ Y AB.size) (AV q Y Az),fun q Y hf=>?_,fun q Y=>Ag q (h.read.block q Y).2.1 (AZ q Y),?_⟩,lH.box AP I.vT h.box om,h.lay,Own.aI6 I.vT h.read AZ,h.abZ,aM.vT AP I.vT h.res om dc dc dc,aM.vT AP I.vT h.key om dc dc dc,h.pos,h.small⟩
  ·rcases I.vS q hf with AA | AA
   ·exact Al q Y AA
   ·have:=(h.box.reads.block q Y).2.1;omega
  ·rw [List.length_append];exact h.pos.next (Aa.mono I.grow.begun) Ad
 ·obtain⟨rfl,hk,BB⟩:=h.pos.Xa hc.toFit gD Ah;refine .inr ⟨g,L,?_,ax,Aq,fun q Y=>aQG AB.size (Av q Y),hk,aM.vT AP I.vT h.res om dc dc dc,⟨σ',tk',fe,I.st,AB.trans I.vT AV,AQ.next I.grow,Ae,Af,BB (h.pos.next (Aa.mono I.grow.begun) Ad)⟩,fun k e=>?_⟩
  ·rfl
  ·rcases Ah with ⟨AA,_⟩ | ⟨AA,_⟩ <;> (rw [AA] at e;cases e)
theorem Bu.over (hc:c.Ok) (fQ:i < c.n) (sj:c.X.getD i l8=x.2) (h:Bu c bu oG i x w U σ aW aF g0 gk ma og dO wr s bK bK bK iO qL Au) (gD:s.over=true):GA c bu oG i w U σ aW aF wr/\s.out=bG c.W i/\s.wrote.length<=1000/\s.reads.length<=1000/\∀ y∈s.wrote,y.1.length<=1100000:=by obtain⟨KA,iG,bR,ib,eP,h1,Y,AA,AB,AP,AZ,Aa,Ac,Ad,AQ⟩:=h.all;obtain⟨AU,AV⟩:=h.pos.over hc.toFit gD;have hw:=h.pos.way hc.toFit sj;obtain⟨y,hy,I,_⟩:=NP c fQ;rw [sj] at I;have hf:=hc.kE.fair y (aQK hy);rw [<- I] at hf;have Ae:=hw.1.alo;have Af:(lh x.2).outs.length<=200:=hf.outs;have Ag:=(h.pos.few hc.toFit fQ).1;refine⟨⟨bR,ib,eP,h1,Y,AA,AB,AP,AV AQ⟩,AU,om,by rw [hw.2.2,List.length_map];omega,fun z AX=>hf.AR _ (hw.1.wrote z AX).2⟩
theorem lG.agt (hc:c.Ok) (h:xe c.l.S W W') (hs:∃ aF bF has,qA W c.l.S aF c.n c.fU c.df c.met bF has):Ch c.l W W':=by
 obtain⟨_,_,_,hs⟩:=hs;obtain⟨⟨AP,M,c1⟩,⟨AQ,Y,c2⟩,AU,AA⟩:=hs.kinds;have AV:=hc.low _ (.inr (.inr (.inr (.inl rfl))));have AX:=hc.low _ (.inr (.inr (.inr (.inr (.inl rfl)))));have AZ:=hc.low _ (.inr (.inr (.inr (.inr (.inr rfl)))));refine⟨h.os,h.tape,h.output,h.size,fun k h1 J I=>h.block k J (fun e=>I (.inr (.inr (.inr (.inl e))))) (fun e=>I (.inr (.inr (.inr (.inr (.inl e)))))) (fun e=>I (.inr (.inr (.inr (.inr (.inr e)))))),fun k o h1 J _=>h.block k (iw h1) om om om,fun k cs t aZ h1 AB=>h.block k (iw h1) (fun e=>?_) (fun e=>?_) (fun e=>?_)⟩
 ·rw [e,M] at h1;cases h1;cases c1
 ·rw [e,AA] at h1;cases h1;exact absurd AB dc
 ·rw [e,Y] at h1;cases h1;cases c2
theorem wG.agt (hc:c.Ok) {fe:aR1} (ae:wG c W σ aW aF) (h:xe c.l.S W W') (uZ:qA W' c.l.S fe c.n c.fU c.df c.met σ'.bF σ'.has) (bZ:∀ q,aF q->fe q) (h1:σ'.begun=σ.begun) (ag:σ'.got=σ.got) (au:σ'.dY=σ.dY):wG c W' σ' aW fe:=by
 obtain⟨bV,rc,lK,jZ,AB,AV,AX,aS⟩:=ae.row;obtain⟨OL,AP,Y⟩:=ae.outs;obtain⟨⟨Af,AZ,c1⟩,⟨Ag,Aa,c2⟩,Ah,Ac⟩:=ae.src.kinds;have AQ:=lG.agt hc h ⟨_,_,_,ae.src⟩;have I:∀ {k:Nat} {cs:Array Value} {t:TypeId} {aZ:Nat × Nat},W.heap[k]?=some (.cells cs t aZ)->t ≠ 89 -> W'.heap[k]?=W.heap[k]?:=fun {k cs t aZ} hk AA=>h.block k (iw hk) (fun e=>by rw [e,AZ] at hk;cases hk;cases c1) (fun e=>by rw [e,Ac] at hk;cases hk;exact AA rfl) (fun e=>by rw [e,Aa] at hk;cases hk;cases c2);have J:∀ {base aO n c2:Nat} {t:TypeId} {A:aRV} {ys:aRW},Own W base t aO A n c2 ys->t ≠ 89 -> Own W' base t aO A n c2 ys:=fun AU AA=>AU.keep fun b ae _ _=>by
  obtain⟨_,_,cur,aZ,Ad⟩:=AU.block b ae;exact I Ad AA
 refine⟨⟨bV,rc,lK,jZ,?_,?_,J AX dc,aS⟩,?_,⟨OL,?_,fun j o e=>?_⟩,uZ,fun V ed=>ae.work V fun k h1 ag=>(ed k h1 ag).trans (AQ.keep k h1 (aQJ h1 ae.size) ag),ae.home.below ⟨h.os,h.tape,h.output,h.size,fun k hk=>AQ.keep k (aQJ hk hc.base.1) (aQJ hk (aQG hc.base.1 ae.size)) fun e=>by have:=(hc.low k e).1;omega⟩,aQG ae.size h.size⟩
 ·rw [au];exact (I AB dc).trans AB
 ·rw [au];exact J AV dc
 ·rw [show yB σ' c.n=yB σ c.n by rw [yB,h1];rfl];exact (I ae.begun dc).trans ae.begun
 ·rw [show pR σ' OL c.n=pR σ OL c.n by rw [pR,ag];rfl];exact (I AP dc).trans AP
 ·rw [ag] at e;exact⟨⟨J (Y j o e).1.outs dc,J (Y j o e).1.reads dc⟩,fun q Ae=>bZ q ((Y j o e).2 q Ae)⟩
theorem GA.keep (hc:c.Ok) (h:GA c bu KA i w U σ aW aF wr) (fQ:i < c.n) (hk:(bG c.W i).kind=1) {rW:Nat} (bf:w.heap.size<=rW/\rW<=wr.heap.size) (bY:c.l.T<=w.heap.size) (gY:oQ wr rW (c.df i) L) {Ij r9:Nat} (aG:Own wr r9 65 2 A (bG c.W i).outs.length Ij (cK fI (bG c.W i).outs)) :
  CR 302 #[pp c.l.S.jN 0,.agg (gP (c.df i) L).toArray,.slice A (bG c.W i).outs.length Ij] wr (.int .i64 0) fun w'=>Ch c.l wr w'/\xe c.l.S wr w'/\∃ σ' tk' fe,kD c w' U σ' tk' fe/\lH c.l bu KA w w'/\SQ i σ aW σ' tk'/\(∀ q,fe q->aF q\/w.heap.size<=q)/\i∈σ'.dY/\(∀ j,ym c.W i j->σ'.begun j=true)/\xD c.W σ' i:=by
 obtain⟨bR,ib,eP,h1,AX,I,AZ,AA,Aa⟩:=h;have AQ:i < c.X.length:=by simpa [dF.X,dF.n] using fQ
 have AU:=Ye hc.work.small i;refine (aIo wr h1.fO.src ⟨aQG (aQG hc.base.2 bY) bf.1,bf.2⟩ hc.apart hc.few fQ (by have:=hc.kE.nZ;show c.k.dA.length<=1000;omega) AA.2 (fun j aC Y=>hc.keys j i aC fQ Y) (abR c i) rfl (af9 hc.work AQ hk) gY rfl aG fun y hy=>⟨hc.outs i fQ y hy,(AU y hy).1,?_⟩).mono ?_
 ·have:=(AU y hy).2;have AB:=(hc.work.dA _ (af7 AQ)).outs _ this;unfold yI at AB;simp only [Bool.and_eq_true] at AB;have:=af6 AB.1;omega
 rintro e w' ⟨rfl,Ac,AP⟩;have AV:=lG.agt hc AP ⟨_,_,_,h1.fO.src⟩;refine⟨rfl,AV,AP,bR.keep i (bG c.W i).outs,ib,fun q=>eP q\/rW<=q,⟨h1.fO.agt hc AP Ac (fun q h=>.inl h) rfl rfl rfl,h1.inv.keep hk,h1.log.keep AA.1,fun j aC=>?_⟩,AX.trans (.Gz AV) (fun _ _ h=>h),⟨I.begun,I.log,I.got,I.more,fun j aC Y=>?_⟩,fun q M=>?_,AA.1,Aa,ajV⟩
 ·by_cases e:j=i
  ·rw [e];exact ajV
  ·exact (h1.kept j (by simpa [bE.keep,e] using aC)).mono (fun y hy=>by simp [bE.keep,hy]) (fun y hy=>by simp [bE.keep,hy])
 ·rw [<- I.same j aC Y];simp [bE.keep,Y]
 ·rcases M with M | M
  ·exact AZ q M
  ·exact .inr (aQG bf.1 M)
end
end
section
open Go.Maps Go.RowKit Go.Shelf
theorem aJt (hc:c.Ok) (iK:NS c m) (hs:kD c w (i :: us) σ aW aF) (hm:rJ σ c.n<=m) {l:Ma} (ah:c.k.dA[i]?=some x) (aC:Ci c w l i x []) (ay:i ∉ σ.dY++aW) (aS:σ.bF i=false) :
  Calls prog 124 #[pp l.bu 0,.agg (l6 (c.fU i)).toArray] w (NW c l.bu l.KA i w (i :: us) σ aW aF):=by
 obtain⟨dO,DN⟩:=ai (l6 (c.fU i));obtain⟨aH,Bf⟩:=ai (w.alloc (.cells dO.toArray 59));obtain⟨aY,Bg⟩:=ai (aH.alloc (.cells iN.toArray 63));have EU:=gQ Bf;have DR:aH.heap.size=w.heap.size+1:=by rw [Bf];simp
 have DT:=gQ Bg;have DU:aM aY w.heap.size dO 59:=by refine aM.all ?_ DT;rw [Bf];exact aM.new w _ _
 have EX:=kY Bg;have CY:=aU EU DT;have CZ:=hs.all hc CY;have Bh:=aC.all CY;obtain⟨bu,KA,iG⟩:=l;simp only at aC Bh |-;obtain⟨bV,rc,lK,jZ,Bi,Db,EY,Ca⟩:=CZ.fO.row;obtain⟨X,aX,n,Cc,iW,Dc⟩:=nq3 c.l.X σ.dY.length (Bo σ.dY);rw [<- aX,<- Cc] at Bi;rw [<- Cc,<- Dc] at Db;have BO:=aa Db;have Ea:=aa (fun (aD:aRU) (aj:nN aY c.l.T 3 1 bV n rc iW aD)=>show aD.cell? (ad bu 0)=some (pp X 0)/\aD.cell? (ad bu 1)=some (.int .i64 i)/\aD.cell? (ad X 7)=some (.slice bV n rc) from by
  have h1:=aj.row Bh.row (fun e=>BO.o.ne Bh.row dc e.symm);have ag:=aj.row Bi (fun e=>BO.o.ne Bi dc e.symm);exact⟨by rw [aX];exact h1.cell 0,h1.cell 1,ag.cell 7⟩);have Gp:=aa (show ∀ v∈[Value.int .i64 i],v.oneCell'=true by simp [Value.oneCell']);have Gq:=aa (show n<=1000000 by have:=hs.few hc;omega);have Gs:=aa (show c.l.T<=aY.heap.size from CZ.fO.size);rw [<- DN];rw [show iN.toArray=#[.int .i64 0,.int .i64 0,.slice none 0 0,.slice none 0 0] from rfl] at Bg;have Ec:=Bf.symm;have Ee:=Bg.symm;obtain⟨BP,Ef,Ei,Gt,Gu,Gv,Ej,H5,De,El,Em,H9,En⟩:=hq13 DR aX Cc Dc DU EX CZ Bh Bi EY Ca CY DN;clear Bf Bg DR aX Cc Dc DU EX CZ Bh Bi Db EY Ca CY DN EU DT;go_enter func124,ntmps124;go_upto_region 1 with fail
 try rw [Ec]
 try rw [Ee]
 clear Ec Ee;have kR:=Ea;refine nz nH 21 [some (pp bu 0),some (pp bu 0),some (pp bu 0),some (pp X 0),some (pp bu 0),some (pp bu 0),some (pp bu 0),some (pp X 0),some (pp X 0),some (pp X 6),some (pp X 7),some (.slice bV n rc),some (pp bu 0),some (pp bu 0),some (pp bu 1),some (.int .i64 i),none,none,some (pp X 0),some (pp X 6),some (pp X 7)] (xc aY.heap.size (c.l.T) 3 1 bV n rc iW [.int .i64 i] 16 17) (nN aY (c.l.T) 3 1 bV n rc iW) (o6 (c.l.T) 3 1 bV rc (n+1) (iW++[.int .i64 i])) (nN.start BO.o) (fun j v w1 af ae h=>h.keep ae) ?_ (jI:=?_)
 ·intro u3 aD aj Bj;obtain⟨Af,Ag,Dg,Ce⟩:=(show xc aY.heap.size (c.l.T) 3 1 bV n rc iW [.int .i64 i] 16 17 17 (u3 17) aD from Bj 17 om).1.2.1 rfl;have Eo:=(show xc aY.heap.size (c.l.T) 3 1 bV n rc iW [.int .i64 i] 16 17 17 (u3 17) aD from Bj 17 om).2 rfl _ _ _ Dg;clear Bj;simp only [Dg];have Dh:=aa aj;have AZ:=aa Ce.1;have HY:=aa Eo;have Cf:=aa (aj.row De.o (fun e=>BO.o.ne De.o dc e.symm));have Ha:Sz 37 1:=kr;have KL:(Value.slice Af (n+1) Ag).cells.toList=[Value.slice Af (n+1) Ag]:=rfl;have Hd:7+1<=(IJ c bV rc lK jZ n aW.length).length:=by show 8<=10;decide
  have He:(Value.slice Af (n+1) Ag).oneCell'=true:=rfl;have Hf:(IJ c bV rc lK jZ n aW.length).set 7 (.slice Af (n+1) Ag)=IJ c Af Ag lK jZ (n+1) aW.length:=rfl;have Hl:=aa (fun (Y:aRU) (Cg:aM Y X (IJ c Af Ag lK jZ (n+1) aW.length) 78) (BF:fV X aD Y)=>show kD c Y (i :: us) (σ.runs i) aW aF/\lH c.l bu KA w Y/\Ci c Y ⟨bu,KA,iG⟩ i x []/\aM Y w.heap.size dO 59 /\ aM Y aH.heap.size iN 63 from by
   have aX:=Ef.o;subst aX;have Am:=lG.Qj hc BO.o Dh.o.1 Cf.o BF;have Er:=(Ej.o.inv.under i).1 sp;have BG:=Ej.o;have Hm:=hs.fO.size;refine⟨⟨BG.fO.Qj hc BO.o Dh.o.1 De.o BF (σ':=σ.runs i) (tk':=aW) rfl rfl rfl rfl ⟨Af,Ag,lK,jZ,?_,?_,?_,fun q AV e=>?_⟩,BG.inv.runs Er.1 (.inl fun h=>?_),BG.log.runs ay Er.1,fun j aC=>BG.kept j aC⟩,(lH.Gz (lG.gN H9.o)).trans (lH.Gz (KA:=KA) Am) fun _ _ h=>h,H5.o.nQ Am,Gu.o.nQ Am Hm dc,Gv.o.nQ Am (by have:=BP.o;omega) dc⟩
   ·show aM Y c.l.X (IJ c Af Ag lK jZ (σ.dY++[i]).length aW.length) _;rw [List.length_append,<- Ei.o];exact Cg
   ·show Own Y c.l.T 3 1 Af (σ.dY++[i]).length Ag (Bo (σ.dY++[i]));rw [List.length_append,<- Ei.o,Bo,List.map_append,<- Bo,<- Gt.o];exact gX AZ.o Cf.o dc BF
   ·exact gX (El.o.grown Dh.o.1 fun b ae e=>Em.o b ae e) Cf.o dc BF
   ·exact HY.o q (El.o.block q AV).2.1 (Em.o q AV) e
   ·have ag:=hs.inv.Ry i h.1;rw [aS] at ag;cases ag);clear Ce aj Eo Dg;obtain⟨Bn,Cj,Es,Di⟩:=nq2 (vH x) (NQ c ⟨bu,KA,iG⟩ i x 0);have Bp:=aQK ah;have Dj:x.2∈c.X:=aQO.2 ⟨x,Bp,rfl⟩;have fQ:i < c.n:=(aQL.1 ah).1;have Ho:c.W.act i=IG x.2:=by
   obtain⟨y,h1,_,Aa⟩:=NP c fQ;rw [ah] at h1;cases h1;exact Aa
  have Dk:abk (lh x.2) x.2.ins x.2.asks:=by have h1:=hc.work.few _ Dj;have ag:=hc.kE.fair x Bp;exact⟨hc.env _ Dj,rfl,rfl,⟨om,om,by show x.2.outs.length<=1000;omega⟩,ag.Cz,ag.AR⟩
  have Hq:=af2 (L9 hc.work.small) (af3 hc.work.small);have Hr:=aa (fun (Y:aRU) (BR:kD c Y (i :: us) (σ.runs i) aW aF)=>show Calls prog 93 #[.agg Bn.toArray] Y fun e w'=>∃ iO:oh,iO.B=Y.heap.size/\e = .returned (.tuple #[pp iO.X 0,.int .i64 0])/\iF w' iO (lh x.2) x.2.ins x.2.asks (dC.start (lh x.2) x.2.tool)/\Bl Y w' from by
   have hA:=(BR.fO.work Y (fun _ _ _=>rfl)).dA.each x Bp;rw [Cj];refine (at7 Y x hA (lh x.2) ⟨rfl,rfl⟩ Dk _ Hq (hc.kE.fair x Bp).tool (BR.fO.home.up (aQG hc.base.1 BR.fO.size))).mono ?_;rintro e w' (⟨h1,_⟩ | ⟨_,iO,ag,Aa,Bq,BS⟩)
   ·exact absurd (hc.work.dA _ Dj).tool h1
   ·exact⟨iO,ag,Aa,Bq,BS⟩);have Hy:(Es.drop 2).take Bn.length=Bn:=by rw [Di,Cj];rfl
  have I1:Sz 45 Bn.length:=by rw [Cj];exact kr
  have I4:=aa Di;have I7:=aa Dk;clear Cj Di Ho Dk Bp;go_wp2_with (first|((with_reducible refine A8 7 (.slice Af (n+1) Ag) Cf.o Ha Hd He Hf ?_);intro Y Cg BF;obtain⟨BR,Ev,Dp,Ew,Ex⟩:=Hl.o Y Cg BF;obtain⟨F3,F4,I9⟩:=hq3 BR Ev Dp;have IA:=aa (show aM Y bu Es 158 by rw [I4.o];exact Dp.row);have F5:=aa Ew;have F6:=aa Ex;clear Cg BF BR Ev Dp Ew Ex)|(with_reducible refine Rm 2 Bn IA.o Hy underlying45 I1 ?_)|(go_at_call 93; refine (Hr.o Y F3.o).mono ?_;rintro e bn ⟨iO,FB,rfl,FC,FF⟩;obtain⟨IE,Dq,IK⟩:=hq3 FB FC FF;clear FB FC FF;have Dr:=alx Dq.o;obtain⟨ma,Ck⟩:=ai iO.X;obtain⟨KN,Dt⟩:=ai (aA (if (dC.start (lh x.2) x.2.tool).over=true then [] else (dC.start (lh x.2) x.2.tool).asks));obtain⟨KO,Du⟩:∃ b,b = !(dC.start (lh x.2) x.2.tool).over:=⟨_,rfl⟩;rw [<- Ck,<- Dt,<- Du] at Dr;rw [<- Ck];obtain⟨IL,IM,IP,IQ⟩:=hq4 Dr Ck Dt Du;clear Dr Ck Dt Du)|(go_at_call 94; refine jr IL.o ?_;intro KQ FI));have sj:c.X.getD i l8=x.2:=by obtain⟨y,h1,ag,_⟩:=NP c fQ;rw [ah] at h1;cases h1;exact ag
  have BH:=aa sj;clear sj;go_loopg [7,8,9] 502 (fun IU IV IX IZ wr=>∃ (s:dC) (bK:List dB) (iO:oh) (qL:aRV) (Au:Nat),bK.length+IU=502/\IV = .slice qL bK.length Au/\IX = .string (aA (if s.over=true then [] else s.asks))/\IZ = .bool (!s.over)/\Bu c bu KA i x w (i :: us) σ aW aF aH.heap.size w.heap.size ma Y.heap.size dO wr s bK bK bK iO qL Au);case atStart =>
   have Br:=aU IK.o FI.o;have Ia:=F4.o.size;have Ie:=IE.o;have DR:=BP.o;have bY:=hs.fO.size;refine⟨dC.start (lh x.2) x.2.tool,[],iO,none,0,rfl,rfl,by rw [IP.o],by rw [IQ.o],⟨⟨KA,iG,σ.runs i,aW,(fun q=>aF q/\q < Y.heap.size),F3.o.cut.all hc Br,F4.o.trans (.Gz (lG.gN Br)) fun _ _ h=>h,⟨fun _ h=>h,fun j h=>?_,fun _ _=>rfl,fun j h=>aRd _ h,fun _ _ _=>rfl⟩,fun q h=>.inl h.1,⟨aRn _ (aRw.2 rfl),aS⟩,I9.o.all Br,fun _ _ h=>h,fun q AV h=>?_,fun q AV=>(by cases AV),xW.zero⟩,Dq.o.below FI.o,⟨IM.o.symm,Ie,Ia,F6.o.lt,F5.o.lt,bY,aQF _,om⟩,Own.nil _ _ _ _,fun q AV=>(by cases AV),F6.o.all Br,F5.o.all Br,sw.start BH.o,fun _ h=>(by cases h)⟩⟩
   ·have Av:j∈σ.dY++[i]++aW:=h;simp only [List.mem_append,List.mem_singleton] at Av |-;rcases Av with (Av | Av) | Av
    ·exact .inl (.inl Av)
    ·exact .inr (.inl Av)
    ·exact .inl (.inr Av)
   ·have h1:=(Dq.o.reads.block q AV).1;have ag:=h.2;omega
  case round =>
   obtain⟨s,bK,Dv,qL,Au,AV,rfl,Cm,Co,FJ⟩:=hrel;have Ac:=aa FJ;clear FJ;cases Ad:s.over with
   | false =>
    rw [Ad,if_neg dc] at Cm;rw [Ad,Bool.not_false] at Co;subst Cm Co;have has:=Ac.o.pos.asks hc.toFit fQ BH.o Ad;obtain⟨P,BU,Bt,BK⟩:=nq2 (aA s.asks) bK.length;have KR:Bt < 500:=om;by_cases hA:∃ k,fD c.W s.asks = .known k
    ·obtain⟨k,hA⟩:=hA;obtain⟨bI,Ae,BX,BG⟩:=nq2 (iA k) (s.mE (lh x.2) k);obtain⟨Ig,Dw⟩:=ai (aA (if BX.over=true then [] else BX.asks));obtain⟨Ih,Dz⟩:∃ b,b = !BX.over:=⟨_,rfl⟩;have BZ:=aa (Ac.o.pos.step hc.toFit BH.o Ad hA);have Cr:=aa (show Calls prog 121 #[pp bu 0,.string P,.slice qL Bt Au] wr fun e AA=>e = .returned (.tuple #[.agg bI.toArray,.pointer none])/\Bu c bu KA i x w (i :: us) σ aW aF aH.heap.size w.heap.size ma Y.heap.size dO AA s bK bK (bK++[k]) Dv qL Au from by
      rw [BU,BK,Ae];refine (Ac.o.asked hc iK hm fQ BH.o Ad).mono ?_;rintro e AA (⟨C8,h1,ag,Aa⟩ | ⟨_,_,_,_,_,_,_,_,_,h⟩)
      ·rw [hA] at h1;cases h1;exact⟨ag,Aa⟩
      ·exact absurd hA (h k));have Ii:=aa (fun (I:aRU) (A9:aRV) (c9:Nat) (Az:Bu c bu KA i x w (i :: us) σ aW aF aH.heap.size w.heap.size ma Y.heap.size dO I s bK (bK++[k]) (bK++[k]) Dv A9 c9)=>show CR 97 #[pp ma 0,.agg bI.toArray] I (.int .i64 0) fun w'=>∃ Bb,Bu c bu KA i x w (i :: us) σ aW aF aH.heap.size w.heap.size ma Y.heap.size dO w' BX (bK++[k]) (bK++[k]) (bK++[k]) Bb A9 c9 from by
      have hw:=Az.pos.way hc.toFit BH.o;obtain⟨uD,Ij,bR,ib,eP,h1,_⟩:=Az.all;have hl:=Az.lay;rw [Ae,<- hl.1];refine (aud I7.o Az.box hw.1 (h1.fO.home.up (by have:=hc.base.1;omega)) hw.2.1 Ad k BZ.o.2.1 (fun _=>BZ.o.2.2.1) (by have:=BZ.o.2.2.1;omega) BZ.o.2.2.2 (fun p _=>aQG (af1 (L9 hc.work.small) p) om)).mono ?_;rintro e w' ⟨rfl,bV,rc,ag,Aa,Bq⟩;refine⟨rfl,{ Dv with bV:=bV,rc:=rc },?_⟩;rw [BG];have BS:=Az.given hc BZ.o.1 BZ.o.2.2.1 ag Aa Bq;rw [hl.1] at BS |-;exact BS);have Ik:=aa (fun (I:aRU) (A9:aRV) (c9:Nat) (Bb:oh) (Az:Bu c bu KA i x w (i :: us) σ aW aF aH.heap.size w.heap.size ma Y.heap.size dO I BX (bK++[k]) (bK++[k]) (bK++[k]) Bb A9 c9)=>show CB 94 #[pp ma 0] I (.tuple #[.string Ig,.bool Ih]) from by
      rw [Dw,Dz,<- Az.lay.1];exact alx Az.box);have hlen:bI.length=3:=by rw [Ae];rfl
     have CF:Sz 80 bI.length:=by rw [hlen];exact kr
     have Ct:∀ v∈bI,v.oneCell'=true:=by rw [Ae];simp [iA,Value.oneCell']
     have Il:(bI.drop 0).take bI.length=bI:=by simp
     have hcs:(Value.agg bI.toArray).cells.size=3:=by simp [Value.cells,hlen]
     obtain⟨Im,Bc,Ip,Iq⟩:=hq4 Ae BK Dw Dz;rw [<- BK,<- BU];have E5:=aa (show c.l.T<=w.heap.size from hs.fO.size);clear Ae BU BK Dw Dz BG hA has;go_wp2_with (first|(go_at_call 121; refine jr Cr.o ?_;intro AA FK)|((with_reducible refine qR bI hlen CF Ct ?_);intro BB AP AX;have Ir:=aa (FK.o.below hc AP.o))|(with_reducible refine kG AX.o underlying80 CF ?_)|((with_reducible refine Ba Z5 (.agg bI.toArray) hcs rfl ?_);intro I CG BL;rw [qK] at CG;have Be:=aa CG;have E8:=aa (Ir.o.below hc BL);have FO:=aa (AX.o.all BL);have Iu:=aa (show Own I c.l.T 80 3 qL Bt Au (cK iA bK) by rw [Bc.o];exact E8.o.read);have Iw:=aa (show c.l.T<=I.heap.size/\AA.heap.size<=I.heap.size by have h1:=AP.o.size;have ag:=BL.size;refine⟨?_,om⟩;obtain⟨_,_,_,_,_,_,Aa,_⟩:=E8.o.all;exact aQG E5.o Aa.size);clear CG BL)|(at_builtin;have _t:=Be;go_must ((with_reducible refine vg 80 _ 3 40 underlying156 Z5.info Z5.zs c.l.T qL Bt Au (cK iA bK) Iu.o 1 bI (.slice (some ⟨BB.heap.size,0,none⟩) 1 1) (Src.slice underlying156 Be.o) Ct ?_ ?_ ?_ ?_ ?_);exact mV;omega;exact Iw.o.1;exact⟨rfl,rfl⟩;intro Cu Cv Ah E9 EA FP;have Iy:=aa (E8.o.Qj hc (k:=k) (A9:=Cu) (c9:=Cv) (by rw [Im.o,Bc.o] at E9;exact E9) EA FP);have J3:=aa (show aM Ah AA.heap.size bI 80 from (EA.block _ FO.o.lt (fun e=>by have:=(FK.o.read.block _ e.symm).2.1;omega)).trans FO.o);clear E9 EA FP))|(with_reducible refine kG J3.o underlying80 CF ?_)|(go_at_call 97; refine (Ii.o Ah Cu Cv Iy.o).mono ?_;rintro e EC ⟨rfl,Bb,FR⟩;have FU:=aa FR;clear FR)|(go_at_call 94; refine (Ik.o EC Cu Cv Bb FU.o).mono ?_;rintro e FV ⟨rfl,FW⟩;have J4:=aa (FU.o.below hc FW);clear FW));go_roundg (gk - 1);case rel =>
      exact⟨BX,bK++[k],Bb,Cu,Cv,by rw [List.length_append,List.length_singleton,<- Bc.o];have:=Bc.o;omega,by rw [List.length_append,List.length_singleton,<- Bc.o],by rw [Ip.o],by rw [Iq.o],J4.o⟩
     case measure=>have:=Bc.o;omega
    ·have Cr:=aa (show Calls prog 121 #[pp bu 0,.string P,.slice qL Bt Au] wr fun e AA=>∃ g L,e = .returned (.tuple #[.agg (iA ⟨s.asks,false,[]⟩).toArray,pp g 0])/\aM AA g (jd (bG c.W i) L) 63 /\ ny AA c.l.T (bG c.W i) L/\(∀ q,bM L.B=some q->w.heap.size<=q)/\(bG c.W i).kind≠1/\aM AA aH.heap.size iN 63 /\ GA c bu KA i w (i :: us) σ aW aF AA from by
      rw [BU,BK];refine (Ac.o.asked hc iK hm fQ BH.o Ad).mono ?_;rintro e AA (⟨C8,h1,_⟩ | ⟨g,L,h1,ag,Aa,Bq,BS,EF,J5,_⟩)
      ·exact absurd ⟨C8,h1⟩ hA
      ·exact⟨g,L,h1,ag,Aa,Bq,BS,EF,J5⟩);obtain⟨bI,Ae⟩:=ai (iA ⟨s.asks,false,[]⟩);rw [<- Ae] at Cr;have hlen:bI.length=3:=by rw [Ae];rfl
     have CF:Sz 80 bI.length:=by rw [hlen];exact kr
     have Ct:∀ v∈bI,v.oneCell'=true:=by rw [Ae];simp [iA,Value.oneCell']
     rw [<- BK,<- BU];have E5:=aa (show c.l.T<=w.heap.size from hs.fO.size);clear Ae BU BK hA has;go_wp2_with (first|(go_at_call 121; refine Cr.o.mono ?_;rintro e AA ⟨g7,AQ,rfl,EG,BC,FY,Fa,Fe,Fh⟩;obtain⟨cz,AB⟩:=ai (jd (bG c.W i) AQ);rw [<- AB] at EG;have Ak:cz.length=4:=by { rw [AB];rfl };have AU:Sz 63 cz.length:=by { rw [Ak];exact kr };have BN:∀ v∈cz,v.oneCell'=true:=by { rw [AB];simp [jd,Value.oneCell'] };have Fj:(cz.drop 0).take cz.length=cz:=by { simp };have CJ:cz.length=iN.length:=Ak;obtain⟨J6,AZ,J7,J8,J9,JA,BD⟩:=hq7 EG BC FY Fa Fe Fh AB;clear EG BC FY Fa Fe Fh AB)|((with_reducible refine qR bI hlen CF Ct ?_);intro BB AP _;have AX:=aa (J6.o.all AP.o);have Ao:=aa (J9.o.all AP.o))|(with_reducible refine kG AX.o underlying63 AU ?_)|((with_reducible refine vF cz Ao.o AU CJ BN ?_);intro I Be Ap));refine D5 Be.o underlying63 rfl AU ⟨rfl,rfl,rfl⟩ ?_;have EH:=(JA.o.below hc AP.o).dG hc E5.o Ao.o Ap.o (by have:=BP.o;omega) dc;rw [BD.o];exact EH.post J8.o rfl ⟨gX (AZ.o.outs.below AP.o (aQF _)) Ao.o dc Ap.o,gX (AZ.o.reads.below AP.o (aQF _)) Ao.o dc Ap.o⟩ J7.o
   | true =>
    rw [Ad,if_pos rfl] at Cm;rw [Ad,Bool.not_true] at Co;subst Cm Co;obtain⟨Fq,Fu,Fv,Fy,D8⟩:=Ac.o.over hc fQ BH.o Ad;have EJ:=aa Fq;have Fz:=aa (show Calls prog 95 #[pp ma 0] wr fun e w'=>∃ L:kI,e = .returned (.tuple #[.agg (jd (bG c.W i) L).toArray,.bool true])/\ny w' wr.heap.size (bG c.W i) L/\Bl wr w' from by
     rw [<- Fu,<- Ac.o.lay.1];exact aun Ac.o.box Ad Fv Fy D8);have Aq:=aa (show c.l.T<=wr.heap.size/\w.heap.size<=wr.heap.size/\c.l.T<=w.heap.size by
     obtain⟨_,_,_,h1,ag,_⟩:=EJ.o;exact⟨h1.fO.size,ag.size,hs.fO.size⟩);obtain⟨CK,DF⟩:∃ k:Int,k=(bG c.W i).kind:=⟨_,rfl⟩;have G8:=aa DF;clear Fq Fu Fv Fy D8;have JB:CK=1\/CK≠1:=om;rcases JB with CL | CL
    ·subst CL;have CQ:(bG c.W i).kind=1:=by have:=DF.symm;omega
     have EK:i < c.X.length:=by simpa [dF.X,dF.n] using fQ
     have G9:=age hc fQ;have GD:=SB hc.work EK;have JG:=aa (fun (I:aRU) (L:kI) (hO:Ve I (bG c.W i) L)=>show Calls prog 176 #[.agg dO.toArray,.agg (jd (bG c.W i) L).toArray] I fun e w'=>∃ T:qw,e = .returned (.tuple #[.agg (gP (c.df i) T).toArray,.int .i64 0])/\oQ w' I.heap.size (c.df i) T/\Bl I w' from by
      rw [En.o];exact aGo I (c.fU i) (bG c.W i) L hO CQ ⟨aQG GD om,G9.1⟩ (fun y hy=>aQG (Ye hc.work.small i y hy).1 om) (af9 hc.work EK CQ));have JH:=aa (fun (I:aRU) (aS:GA c bu KA i w (i :: us) σ aW aF I) (rW:Nat) (bf:w.heap.size<=rW/\rW<=I.heap.size) (T:qw) (bY:oQ I rW (c.df i) T) (A:aRV) (JI r9:Nat) (JJ:Own I r9 65 2 A (bG c.W i).outs.length JI (cK fI (bG c.W i).outs))=>aS.keep hc fQ CQ bf Aq.o.2.2 bY JJ);obtain⟨jN,EL,no,GG⟩:=nq2 c.l.S.jN ((bG c.W i).outs.length);have GH:=aa (fun af (ae:Bl wr af)=>show af.cell? (ad bu 0)=some (pp X 0)/\af.cell? (ad X 4)=some (.iface 90 (pp jN 0)) from by
      obtain⟨uD,Ij,bR,ib,eP,h1,_,_,_,_,EF,_⟩:=Ac.o.all;rw [Ef.o,EL];exact⟨(EF.row.all ae).cell 0,((h1.all hc ae).fO.cells).2.2.1⟩);have D8:dO.length=32:=by rw [En.o];exact rC _
     have JK:Sz 59 dO.length:=by rw [D8];exact kr
     have Il:(dO.drop 0).take dO.length=dO:=by simp
     obtain⟨JL,JM,GI⟩:=hq3 CQ EL GG;clear DF CQ EK G9 GD EL GG;go_upto_region 18 with (first|(go_at_call 95; refine Fz.o.mono ?_;rintro e AA ⟨AQ,rfl,BC,CS⟩;obtain⟨cz,AB⟩:=ai (jd (bG c.W i) AQ);have JN:=aa (fun (I:aRU) (hO:Ve I (bG c.W i) AQ)=>(by have:=JG.o I AQ hO;rw [<- AB] at this;exact this:Calls prog 176 #[.agg dO.toArray,.agg cz.toArray] I fun e w'=>∃ T:qw,e = .returned (.tuple #[.agg (gP (c.df i) T).toArray,.int .i64 0])/\oQ w' I.heap.size (c.df i) T/\Bl I w'));rw [<- AB];have Ak:cz.length=4:=by { rw [AB];rfl };have AU:Sz 63 cz.length:=by { rw [Ak];exact kr };have BN:∀ v∈cz,v.oneCell'=true:=by { rw [AB];simp [jd,Value.oneCell'] };have Fj:(cz.drop 0).take cz.length=cz:=by { simp };have CJ:cz.length=iN.length:=Ak;obtain⟨AZ,CU,BD⟩:=hq3 BC CS AB;clear BC CS AB)|((with_reducible refine qR cz Ak AU BN ?_);intro BB AP AX;have GK:BB.cell? (ad AA.heap.size 0)=some (.int .i64 1):=by { rw [AX.o.cell 0,BD.o];show some (Value.int .i64 ((bG c.W i).kind:Int))=_;rw [JL.o];rfl };have EM:=aa (aU CU.o AP.o);have JO:=aa (Ac.o.key.all EM.o))|(with_reducible refine kG JO.o underlying59 JK ?_)|(with_reducible refine kG AX.o underlying63 AU ?_)|(go_at_call 176; refine (JN.o BB (AZ.o.all AP.o).at_).mono ?_;rintro e I ⟨GL,rfl,GQ,BL⟩;obtain⟨Al,CV⟩:=ai (gP (c.df i) GL);rw [<- CV];have GV:Al.length=34:=by { rw [CV];exact Eb _ _ };have GX:Sz 224 Al.length:=by { rw [GV];exact kr };have JR:∀ v∈Al,v.oneCell'=true:=by { rw [CV];exact M8 _ _ };have JS:(Al.drop 0).take Al.length=Al:=by { simp };obtain⟨Ap,JU,JV⟩:=hq3 GQ BL CV;clear GQ BL CV GK)|((with_reducible refine qR Al GV GX JR ?_);intro Ah Ga Gb;have CW:=aa (aU JU.o Ga.o)))
     have EN:=aa (aU EM.o CW.o);have Gc:=aa (fun af (ae:Bl Ah af)=>show af.cell? (ad AA.heap.size 2)=some (.slice AQ.A no AQ.c) from by
      have:=((AX.o.all CW.o).all ae).cell 2;rw [this,BD.o,GI.o];rfl);have kR:=aa fun af (aj:Bl Ah af)=>And.intro (GH.o af (aU EN.o aj)) (And.intro (Gb.o.all aj) (Gc.o af aj));refine nz nH 10 [some (pp bu 0),some (pp bu 0),some (pp bu 0),some (pp X 0),some (pp X 0),some (pp X 4),some (.iface 90 (pp jN 0)),some (.agg Al.toArray),some (pp AA.heap.size 2),some (.slice AQ.A no AQ.c)] (fun _ _ _=>False) (Bl Ah) Bl ((Below.refl _ Ah).drew) (fun j v w1 af ae h=>h.elim) ?_ (jI:=?_)
     ·intro u11 EC aj Bj;clear Bj;have Gd:=aa (aU EN.o aj);have JW:=aa (Ac.o.res.all Gd.o);have JX:=aa ((AX.o.all CW.o).all aj);have EO:=aa (((AZ.o.all AP.o).all CW.o).all aj);have ES:=JH.o EC (EJ.o.below hc Gd.o) BB.heap.size ⟨aQG Aq.o.2.1 EM.o.size,aQG CW.o.size aj.size⟩ GL ((Ap.o.all Ga.o).all aj) AQ.A AQ.c _ EO.o.outs;rw [<- JM.o,<- JV.o,<- GI.o] at ES;have JY:=aa ES;clear aj ES;go_wp2_with (first|(refine aQ6 rfl fun K aR=>?_;go_simp;refine JY.o.mono ?_;rintro e FV ⟨rfl,Am,Ja,Gg⟩;have Gi:=aa Am;have Jc:=aa Gg;have Je:=aa (JX.o.nQ Am (by have:=CU.o.size;have:=Aq.o;omega) dc);have DI:=aa (JW.o.nQ Am (by have:=BP.o;have:=Aq.o;omega) dc);clear Am Ja Gg;refine aR _ _ ?_)|(with_reducible refine kG Je.o underlying63 AU ?_)|((with_reducible refine vF cz DI.o AU CJ BN ?_);intro KX Jg DJ));refine D5 Jg.o underlying63 rfl AU ⟨rfl,rfl,rfl⟩ ?_;obtain⟨Jj,Jk,Jm,Jo,C8,Jp,Jq,Jr,Js,Jt⟩:=Jc.o;have bY:=Aq.o;have Gm:w.heap.size<=aH.heap.size:=by have:=BP.o;omega
      have ET:ny FV wr.heap.size (bG c.W i) AQ:=⟨EO.o.outs.nQ Gi.o bY.1 dc,EO.o.reads.nQ Gi.o bY.1 dc⟩;rw [BD.o];exact⟨Jj,Jk,Jm,AQ,rfl,⟨(gX ET.outs DI.o dc DJ.o).mono bY.1,(gX ET.reads DI.o dc DJ.o).mono bY.1⟩,fun q AV=>aQG bY.2.1 (ET.reads.block q AV).1,Jo.dG hc DI.o (j3.um DJ.o) (aQG bY.2.2 Gm) dc,C8.NR (j3.um DJ.o) Gm,Jp,Jq,aRd _ Jr,Js,fun _=>Jt⟩
     ·repeat' (first | exact trivial | apply And.intro)
      all_goals try exact rx
      all_goals intro eQ u af aj aL bz K aR
      all_goals try simp [iX,Region.binds] at bz
      all_goals refine mg rfl ?_
      all_goals obtain⟨KY,KZ⟩:=GH.o af (aU EN.o aj)
      all_goals have kr:=Gb.o.all aj
      all_goals have C8:=Gc.o af aj
      ·refine wp_load_row I.heap.size 0 Al Al _ kr JS _ underlying224 GX ⟨rfl,by simp [Act.eval,aL],rfl⟩ ?_;exact aR _ _ rfl aj (Below.refl _ _)
    ·have DU:decide (CK=1)=false:=aRo CL;have Kc:(CK == 1)=false:=by simpa using CL
     have Jv:=aa (show (bG c.W i).kind≠1 from fun e=>CL (by rw [G8.o,e];rfl));clear DF;go_wp2_with (first|(go_at_call 95; refine Fz.o.mono ?_;rintro e AA ⟨AQ,rfl,BC,CS⟩;obtain⟨cz,AB⟩:=ai (jd (bG c.W i) AQ);rw [<- AB];have Ak:cz.length=4:=by { rw [AB];rfl };have AU:Sz 63 cz.length:=by { rw [Ak];exact kr };have BN:∀ v∈cz,v.oneCell'=true:=by { rw [AB];simp [jd,Value.oneCell'] };have Fj:(cz.drop 0).take cz.length=cz:=by { simp };have CJ:cz.length=iN.length:=Ak;obtain⟨AZ,CU,BD⟩:=hq3 BC CS AB;clear BC CS AB)|((with_reducible refine qR cz Ak AU BN ?_);intro BB AP AX;have GK:BB.cell? (ad AA.heap.size 0)=some (.int .i64 CK):=by { rw [AX.o.cell 0,BD.o,G8.o];rfl };have Ao:=aa ((Ac.o.res.all CU.o).all AP.o))|(with_reducible refine kG AX.o underlying63 AU ?_)|((with_reducible refine vF cz Ao.o AU CJ BN ?_);intro I Be Ap));refine D5 Be.o underlying63 rfl AU ⟨rfl,rfl,rfl⟩ ?_;have EH:=((EJ.o.below hc CU.o).below hc AP.o).dG hc Aq.o.2.2 Ao.o Ap.o (by have:=BP.o;omega) dc;rw [BD.o];refine EH.post Jv.o rfl ⟨(gX (AZ.o.outs.below AP.o (aQF _)) Ao.o dc Ap.o).mono Aq.o.1,(gX (AZ.o.reads.below AP.o (aQF _)) Ao.o dc Ap.o).mono Aq.o.1⟩ fun q AV=>aQG Aq.o.2.1 (AZ.o.reads.block q AV).1
 ·repeat' (first | exact trivial | apply And.intro)
  all_goals try exact rx
  all_goals intro eQ u af aj aL bz K aR
  all_goals try simp [iX,Region.binds] at bz
  all_goals refine mg rfl ?_
  all_goals obtain⟨Kg,Kh,Ki⟩:=Ea.o af aj
  ·refine Nv VQ (.int .i64 i) rfl rfl (by simp [Act.eval,aL,bz]) ?_;exact aR _ _ ⟨⟨fun _=>⟨_,rfl,aM.new af [.int .i64 i] _,aj.JD⟩,gq,fun e=>absurd rfl e⟩,gq⟩ (aj.alloc _) (o6.alloc af _)
  ·obtain⟨Jw,Jy⟩:=bz;obtain⟨g9,K5,CG,Kj⟩:=(show xc aY.heap.size (c.l.T) 3 1 bV n rc iW [.int .i64 i] 16 17 16 _ af from Jy).1.1 rfl;refine X5 VQ rfl aj.2 g9 CG rfl Gp.o Gq.o (aQG Gs.o aj.1.size) underlying37 ⟨by simp [Act.eval,aL,Jw],by simp [Act.eval,aL,K5]⟩ ?_;intro il c2 aD Ce Gn K8 K9;exact aR _ _ ⟨⟨gq,fun _=>⟨il,c2,rfl,Ce⟩,fun _ e=>absurd rfl e⟩,fun _ dh m3 bH KJ j aC Ca=>by cases KJ;exact K9 j (aQJ aC aj.1.size) Ca⟩ ⟨F8 aj.1 Gn.1,K8⟩ Gn
def ace:List Value:=[.int .i64 0,.string ⟨#[]⟩,.int .i64 0]
def VY (F n:Nat) (iW:aRW) (j:Nat) (v:Value) (w:aRU):Prop :=
 (j=5->∃ A c,v = .slice A n c/\Rd w 34 A n iW)/\(j=11->∃ g,v = .pointer (some ⟨g,0,none⟩)/\aM w g ace 216 /\ F<=g)
theorem VY.keep {F n:Nat} {iW:aRW} (h:VY F n iW j v w) (ae:Bl w w'):VY F n iW j v w' :=
 ⟨fun e=>(by obtain⟨A,c,I,J⟩:=h.1 e;exact⟨A,c,I,J.gz ae⟩),fun e=>(by obtain⟨g,I,J,M⟩:=h.2 e;exact⟨g,I,J.all ae,M⟩)⟩
theorem avE (hc:c.Ok) {U:aRZ} (hs:kD c w U σ aW aF) (ah:c.k.dA[i]?=some x) :
  CB 117 #[.agg (vH x).toArray] w (.agg (l6 (c.fU i)).toArray):=by
 have I:=aQK ah;have fQ:i < c.n:=(aQL.1 ah).1;obtain⟨y,h1,J,_⟩:=NP c fQ;rw [ah] at h1;cases h1;have hA:=(hs.fO.work w (fun _ _ _=>rfl)).dA.each x I;have hk:c.fU i=bP.sum (vZ x.2):=by show auP (c.X.getD i l8)=_;rw [J];rfl
 have M:Mx w:=(hs.fO.home.up (aQG hc.base.1 hs.fO.size)).Gf;have:=aIP w x.1 x.2 hA (hc.wide x I) M;rw [<- HZ (yK _),<- hk] at this;exact this
theorem aJK (hc:c.Ok) (iK:NS c m) (hs:kD c w (i :: us) σ aW aF) (hm:rJ σ c.n<=m) {l:Ma} (ah:c.k.dA[i]?=some x) (aC:Ci c w l i x []) (ay:i ∉ σ.dY++aW) (aS:σ.bF i=false) :
  Calls prog 73 #[pp l.bu 0] w (NW c l.bu l.KA i w (i :: us) σ aW aF):=by
 have fQ:i < c.n:=(aQL.1 ah).1;obtain⟨aH,AB⟩:=ai (w.alloc (.cells iN.toArray 63));have Ad:=gQ AB;have BL:=kY AB;obtain⟨bu,KA,iG⟩:=l;simp only at aC |-;obtain⟨AP,Ae,BN,BC,dO,Y⟩:=nq3 (vH x) (NQ c ⟨bu,KA,iG⟩ i x 0) (l6 (c.fU i));obtain⟨AA,AQ⟩:∃ V:List Value,V=[.int .i64 3,.string ⟨#[]⟩,.int .i64 0]:=⟨_,rfl⟩;obtain⟨iW,BO⟩:∃ V:List Value,V=cK iq (([]:List dB).map gJ):=⟨_,rfl⟩;have CF:(BN.drop 2).take AP.length=AP:=by rw [BC,Ae];rfl
 have CG:Sz 45 AP.length:=by rw [Ae];exact kr
 have BP:dO.length=32:=by rw [Y];exact rC _
 have BD:Sz 59 dO.length:=by rw [BP];exact kr
 have CJ:∀ v∈dO,v.oneCell'=true:=by rw [Y];exact aew _
 have De:(dO.drop 0).take dO.length=dO:=by simp
 have CK:AA.length=ace.length:=by rw [AQ];rfl
 have CL:Sz 216 AA.length:=by rw [AQ];exact aal _ _ _
 have CQ:∀ v∈AA,v.oneCell'=true:=by rw [AQ];exact aam _ _ _
 have CS:=aa (show aM aH bu BN 158 by rw [BC];exact (aC.all Ad).row);have CU:=aa (by have:=avE hc (hs.all hc Ad) ah;rw [<- Ae,<- Y] at this;exact this:CB 117 #[.agg AP.toArray] aH (.agg dO.toArray));have CV:=aa (fun af (ae:Bl w af)=>show Calls prog 118 #[pp bu 0,.agg dO.toArray] af fun e w'=>∃ dh bH,e = .returned (.slice dh 0 bH)/\Bl af w' from by
  rw [Y];refine (avd hc (hs.all hc ae) (aC.all ae) fQ ah).mono ?_;rintro e w' ⟨v,rfl,⟨dh,bH,rfl,_⟩,AU⟩;rw [aS];exact⟨dh,bH,rfl,AU⟩);have CW:=aa (fun af (ae:Bl w af)=>show Calls prog 124 #[pp bu 0,.agg dO.toArray] af (NW c bu KA i af (i :: us) σ aW aF) from by
  rw [Y];exact aJt hc iK (hs.all hc ae) hm ah (aC.all ae) ay aS);have CY:=aa (fun af (ae:Bl w af)=>show Calls prog 120 #[.slice KA 0 iG] af fun e w'=>∃ A' c',e = .returned (.slice A' 0 c')/\Row af w' 135 34 A' 0 c' iW from by
  rw [BO];exact ajC af KA iG [] (aC.all ae).known.rd dc (fun _ h=>by cases h));have CZ:=aa (fun af (ae:Bl w af)=>show af.cell? (ad bu 9)=some (.slice KA 0 iG)/\af.cell? (ad bu 10)=some (.slice none 0 0) from ⟨(aC.all ae).row.cell 9,(aC.all ae).row.cell 10⟩);have Ca:=aa (fun af (ae:Bl w af)=>show Fw af bu KA from .agk (aC.all ae).row (aC.all ae).known);obtain⟨Cc,Ce,BR⟩:=hq3 Ad BL AQ;have BS:=aa (show c.l.T<=w.heap.size from hs.fO.size);rw [show iN.toArray=#[.int .i64 0,.int .i64 0,.slice none 0 0,.slice none 0 0] from rfl] at AB;have Cf:=AB.symm;clear AB Ad BL Ae BC Y AQ BO hs aC;go_enter func73,ntmps73;go_wp2_with (first|(with_reducible refine Rm 2 AP CS.o CF underlying45 CG ?_)|(go_at_call 117; refine CU.o.mono ?_;rintro e af ⟨rfl,AU⟩;have BU:=aa (aU Cc.o AU);have Cg:=aa AU;clear AU Cf)|((with_reducible refine qR dO BP BD CJ ?_);intro aD BX BZ)|(with_reducible refine kG BZ.o underlying59 BD ?_)|(go_at_call 118; refine (CV.o aD (aU BU.o BX.o)).mono ?_;rintro e I ⟨dh,bH,rfl,BF⟩;have Bb:=aa (aU BX.o BF);have Af:=aa (aU BU.o Bb.o);have Bc:=aa (BZ.o.all BF);have Be:=aa ((Ce.o.all Cg.o).all Bb.o);clear BF));go_loopg [8] 1 (fun gk _ wr=>gk=1/\I=wr);case atStart=>exact⟨rfl,rfl⟩
 case round =>
  obtain⟨rfl,rfl⟩:=hrel;have Bf:=aa (fun af (ae:Bl I af)=>CZ.o af (aU Af.o ae));have Cj:=aa (fun af (ae:Bl I af)=>CY.o af (aU Af.o ae));have Ck:=aa (fun af (_:Bl I af) (uu:aRV) (ou:Nat) (_:Rd af 34 uu 0 iW)=>show CB 119 #[.slice dh 0 bH,.slice uu 0 ou,.slice none 0 0] af (.agg AA.toArray) from by rw [BR.o];exact aDV af dh bH uu 0 ou none 0 0);go_upto_region 3 with fail
  have kR:=Bf;refine nz nH 12 [some (.slice dh 0 bH),some (pp bu 0),some (pp bu 0),some (pp bu 9),some (.slice KA 0 iG),none,some (pp bu 0),some (pp bu 0),some (pp bu 10),some (.slice none 0 0),some (.agg AA.toArray),none] (VY I.heap.size 0 iW) (Bl I) Bl ((Below.refl _ I).drew) (fun j v w1 af ae h=>h.keep ae) ?_ (jI:=?_)
  ·intro u6 Cm aj Bg;obtain⟨g5,Bh,Bi,Bj⟩:=(show VY I.heap.size 0 iW 11 (u6 11) Cm from Bg 11 om).2 rfl;clear Bg;simp only [Bh];have Ag:=aj;have Co:=aa (aU Af.o Ag);have Cr:=aa Bi;have Ct:=aa (Bc.o.all Ag);have Cu:=aa (Be.o.all Ag);have BG:=aa Bj;clear Ag aj Bi Bj Bh;go_wp2_with (first|((with_reducible refine Jn AA Cr.o CL CK CQ ?_);intro BH Bn AV;have Dg:=aa AV;have Ah:=aa (oO Co.o AV (aQG Af.o.size BG.o));have Cv:=aa (Ct.o.dG AV (by have:=Bc.o.lt;have:=BG.o;omega));have D8:=aa (Cu.o.dG AV (by have:=Be.o.lt;have:=BG.o;omega));have DF:BH.cell? (ad g5 0)=some (.int .i64 3):=(by rw [Bn.cell 0,BR.o];rfl);clear Bn AV)|(with_reducible refine kG Cv.o underlying59 BD ?_)|(go_at_call 124; refine (CW.o BH Ah.o).mono ?_;rintro e Dh ⟨DI,DJ,DN,Bp,rfl,AX,Ak,Al,AZ,Am,Ao,Ap,Aq,Av⟩;obtain⟨cz,Aa⟩:=ai (jd (bG c.W i) Bp);rw [<- Aa];have Bq:cz.length=4:=by { rw [Aa];rfl };have Br:Sz 63 cz.length:=by { rw [Bq];exact kr };have DR:∀ v∈cz,v.oneCell'=true:=by { rw [Aa];simp [jd,Value.oneCell'] };have DT:cz.length=iN.length:=Bq;have Az:=aa (aM.vT (Ca.o BH Ah.o) AZ D8.o BS.o dc dc dc);have DU:=aa (And.intro AX (And.intro Ak (And.intro Al (And.intro AZ (And.intro Am (And.intro Ao (And.intro Ap (And.intro Aq Av))))))));have Db:=aa Aa;clear AX Ak Al AZ Am Ao Ap Aq Av Aa DF)|((with_reducible refine vF cz Az.o Br DT DR ?_);intro Di Dc BB));refine D5 Dc.o underlying63 rfl Br ⟨rfl,rfl,rfl⟩ ?_;obtain⟨AX,Ak,Al,AZ,Am,Ao,Ap,Aq,Av⟩:=DU.o;have Bt:=Ah.o.size;rw [Db.o];exact⟨DI,DJ,DN,Bp,rfl,⟨gX AX.outs Az.o dc BB.o,gX AX.reads Az.o dc BB.o⟩,fun q BK=>aQG Bt (Ak q BK),Al.dG hc Az.o (j3.um BB.o) BS.o dc,((lH.Gz (lG.gN Ah.o)).trans AZ fun _ _ h=>h).NR (j3.um BB.o) (aQF _),Am,fun q BK=>(Ao q BK).imp_right fun h=>aQG Bt h,Ap,Aq,Av⟩
  ·repeat' (first | exact trivial | apply And.intro)
   all_goals try exact rx
   all_goals intro eQ u af aj aL bz K aR
   all_goals try simp [iX,Region.binds] at bz
   all_goals refine mg rfl ?_
   all_goals obtain⟨Dj,Dk⟩:=Bf.o af aj
   ·go_simp;refine (Cj.o af aj).mono ?_;rintro e aD ⟨uu,ou,rfl,Ac⟩;exact aR _ _ ⟨fun _=>⟨uu,ou,rfl,Ac.own.rd⟩,gq⟩ (aj.trans (Ac.low.mono aj.size)) Ac.low
   ·obtain⟨Dp,Dq,Dr,ah⟩:=bz;obtain⟨uu,ou,Dt,Ac⟩:=ah.1 rfl;go_simp;refine (Ck.o af aj uu ou Ac).mono ?_;rintro e aD ⟨rfl,C8⟩;exact aR _ _ rfl (aU aj C8) C8
   ·go_simp;exact aR _ _ ⟨gq,fun _=>⟨_,rfl,aM.new af ace _,aj.size⟩⟩ (aj.alloc aj.size _) iD
theorem Own.avH (aC:Fw w bu KA) (h:lH l bu KA w w') {n:Nat} (aG:Own w base t aO A n c2 xs) (az:t∈Yb) (bJ:t ≠ 80):Own w' base t aO A n c2 xs:=aG.keep fun b ae _ _=>by
 obtain⟨_,_,cur,aZ,hc⟩:=aG.block b ae;refine h.calm b cur _ aZ hc az fun e=>?_;obtain⟨I,M,hk⟩:=aC.2 b e.symm;rw [hc] at hk;injection hk with hk
 injection hk with _ hk
 exact bJ hk
theorem oQ.vT (aC:Fw w bu KA) (h:lH l bu KA w w') {B:Nat} {t:lS} (aG:oQ w B t L):oQ w' B t L:=⟨Own.avH aC h aG.reads dc dc,Own.avH aC h aG.outs dc dc⟩
theorem avI {t:lS} {c:Nat} (h:Own w base 224 34 A 1 c (gP t L)):∃ b o,A=some ⟨b,o,none⟩/\(loadVar 224 ⟨b,o,none⟩).run prog w = .ok (.agg (gP t L).toArray) w:=by
 have h1:Rd w 34 A 1 (cK (fun _:Unit=>gP t L) [()]):=by have:=h.rd;simpa [cK] using this
 obtain⟨b,o,e,I⟩:=vG (f:=fun _:Unit=>gP t L) (k:=34) (fun _=>Eb t L) underlying224 rfl kr h1 (i:=0) (x:=()) rfl rfl;rw [Nat.zero_mul,Nat.add_zero] at I;exact⟨b,o,e,I⟩
theorem aJX (A:aRV) (n c:Nat) (B:aRV) (m d:Nat):prog.built 63 [(0,.int .i64 1),(2,.slice A n c),(3,.slice B m d)]=some #[.int .i64 1,.int .i64 0,.slice A n c,.slice B m d]:=kr
theorem aJY (hc:c.Ok) (fQ:i < c.n) (hk:(bG c.W i).kind=1) (mO:bK.map gJ=(bG c.W i).reads.take bK.length) (hl:bK.length < (bG c.W i).reads.length) :
  ∃ s k,sw c i s (bK.map gJ)/\s.over=false/\fD c.W s.asks = .known k/\(bG c.W i).reads[bK.length]?=some (gJ k)/\k.path=s.asks/\k.data.length<=65536:=by
 obtain⟨b,rs,aI,hw,AB,hy,e⟩:=Yd hc.work.small hk;have J:(bG c.W i).reads=rs:=by show (bG (nR c.k.files c.X) i).reads=rs;rw [e];exact hw.2.2
 rw [J] at mO hl |-;obtain⟨s',p,k,h1,M,I,Y⟩:=aI.ahead bK.length hl;obtain⟨AA,rfl⟩:=NM M;refine⟨s',k,⟨s',rfl,by rw [mO];exact h1⟩,AA,I,Y,(L9 hc.work.small).path _ _ I,(L9 hc.work.small).data _ _ I⟩
theorem aJZ (hc:c.Ok) (hk:(bG c.W i).kind=1) (mO:bK.map gJ=(bG c.W i).reads.take bK.length) (hl:bK.length=(bG c.W i).reads.length):∃ s,sw c i s (bK.map gJ)/\s.over=true:=by
 obtain⟨b,rs,aI,hw,I,hy,e⟩:=Yd hc.work.small hk;have J:(bG c.W i).reads=rs:=by show (bG (nR c.k.files c.X) i).reads=rs;rw [e];exact hw.2.2
 rw [J] at mO hl;rw [hl,List.take_length] at mO;exact⟨b,⟨b,rfl,by rw [mO];exact aI⟩,I⟩
structure Cn (c:dF) (bu:Nat) (oG:aRV) (i:Nat) (x:kH) (w:aRU) (U:aRZ) (σ:bE) (aW:aRZ) (aF:aR1) (dh:aRV) (bH:Nat) (L:qw) (wr:aRU) (bK:List dB) (KA:aRV) (iG:Nat):Prop where
 all:∃ bR ib eP,kD c wr U bR ib eP/\lH c.l bu oG w wr/\SQ i σ aW bR ib/\(∀ q,eP q->aF q\/w.heap.size<=q)/\bR.bF i=true/\i ∉ bR.dY++ib/\xW c.W bR i bK.length
 Bv:Ci c wr ⟨bu,KA,iG⟩ i x bK
 fresh:∀ q,q < w.heap.size->some q≠bM oG->some q≠bM KA
 way:bK.map gJ=(bG c.W i).reads.take bK.length
 len:bK.length<=(bG c.W i).reads.length
 row:Own wr c.l.T 224 34 dh 1 bH (gP (c.df i) L)
 df:oQ wr c.l.S.B (c.df i) L
 res:aM wr w.heap.size iN 63
 low:c.l.T<=w.heap.size
 small:∀ k∈bK,k.data.length<=65536
section
variable {c:dF} (hc:c.Ok) {bu:Nat} {oG KA:aRV} {iG:Nat} {i:Nat} {x:kH} {w:aRU} {us:aRZ} {σ:bE} {aW:aRZ} {aF:aR1} {dh:aRV} {bH:Nat} {L:qw} {wr w':aRU} {bK:List dB}
theorem Cn.below (hc:c.Ok) (h:Cn c bu oG i x w (i :: us) σ aW aF dh bH L wr bK KA iG) (ae:Bl wr w'):Cn c bu oG i x w (i :: us) σ aW aF dh bH L w' bK KA iG:=by obtain⟨bR,ib,eP,h1,I,M⟩:=h.all;exact⟨⟨bR,ib,eP,h1.all hc ae,I.trans (.Gz (lG.gN ae)) (fun _ _ h=>h),M⟩,h.Bv.all ae,h.fresh,h.way,h.len,h.row.below ae (aQF _),h.df.all ae,h.res.all ae,h.low,h.small⟩
theorem Cn.dG (hc:c.Ok) (h:Cn c bu oG i x w (i :: us) σ aW aF dh bH L wr bK KA iG) (ax:aM wr g Z ty) (az:fV g wr w') (av:w.heap.size < g) (h1:ty ∉ Fx) (ag:ty ≠ 158) (au:some g≠bM KA):Cn c bu oG i x w (i :: us) σ aW aF dh bH L w' bK KA iG:=by
 obtain⟨bR,ib,eP,M,Y,AA⟩:=h.all;have AB:∀ {g2:Nat} {V:aRW} {t:TypeId},aM wr g2 V t->t≠ty->g2≠g:=fun I AP e=>by
  rw [e,aM,ax] at I;injection I with I
  injection I with _ I
  exact AP I.symm
 refine⟨⟨bR,ib,eP,M.dG hc ax (j3.um az) (aQG h.low (aRm av)) h1,Y.NR (j3.um az) (aRm av),AA⟩,⟨h.Bv.row.dG az (AB h.Bv.row (aQ0 ag)),h.Bv.far,h.Bv.known.keep fun b ae _ _=>az.2.2.2.2 b fun e=>au (by rw [<- e];exact ae.symm)⟩,h.fresh,h.way,h.len,?_,⟨?_,?_⟩,h.res.dG az om,h.low,h.small⟩
 ·exact gX h.row ax (fun e=>h1 (by rw [<- e];decide)) az
 ·exact gX h.df.reads ax (fun e=>h1 (by rw [<- e];decide)) az
 ·exact gX h.df.outs ax (fun e=>h1 (by rw [<- e];decide)) az
theorem Cn.asked (hc:c.Ok) (iK:NS c m) (hm:rJ σ c.n<=m) (fQ:i < c.n) (sj:c.X.getD i l8=x.2) (h:Cn c bu oG i x w (i :: us) σ aW aF dh bH L wr bK KA iG) {s:dC} {k:dB} (aI:sw c i s (bK.map gJ)) (gD:s.over=false) (hk:fD c.W s.asks = .known k) (lC:(bG c.W i).reads[bK.length]?=some (gJ k)) (aS:k.data.length<=65536) :
  CR 121 #[pp bu 0,.string (aA s.asks),.slice KA bK.length iG] wr (.tuple #[.agg (iA k).toArray,.pointer none]) fun w'=>∃ uD xf,Cn c bu oG i x w (i :: us) σ aW aF dh bH L w' (bK++[k]) uD xf/\(∀ q,q < wr.heap.size->some q≠bM KA->some q≠bM uD)/\lH c.l bu KA wr w':=by
 obtain⟨bR,ib,eP,h1,AB,AQ,Aa,Ac,Ad,Ae⟩:=h.all;have AU:=aI.asks hc.toFit fQ sj gD;refine (avq hc iK h1 (aQG (agh c.n AQ.begun) hm) h.Bv AU.1 (aI.may hc.toFit gD h1) AU.2.1 om h.Bv.known om (fun y hy=>by have:=h.small y hy;omega)).mono ?_;rintro e w' ⟨σ',tk',fe,I,Af,Ag⟩;have AP:Fw wr bu KA:=.agk h.Bv.row h.Bv.known;have AV:=(h1.inv.under i).1 sp;rcases Ag with ⟨Ap,uD,xf,AX,rfl,Ah,AZ⟩ | ⟨g,o,Aq,rfl,Av,Az,BB,Ak⟩
 ·rw [hk] at AX;cases AX;have Al:=(aQL.1 lC).1;refine⟨rfl,uD,xf,⟨⟨σ',tk',fe,I.st,AB.trans I.vT h.fresh,AQ.next I.grow,fun q AA=>?_,(I.grow.same i AV.1).trans Ac,fun Am=>?_,?_⟩,Ah,fun q AA Ao=>AZ q (aQJ AA AB.size) (h.fresh q AA Ao),?_,?_,Own.vT AP I.vT h.row (aQF _) dc dc dc,h.df.vT AP I.vT,aM.vT AP I.vT h.res h.low dc dc dc,h.low,fun y hy=>?_⟩,AZ,I.vT⟩
  ·rcases I.vS q AA with Y | Y
   ·exact Aa q Y
   ·exact .inr (aQG AB.size Y)
  ·rcases I.grow.log i Am with M | M
   ·exact Ad M
   ·rw [AV.1] at M;cases M
  ·rw [List.length_append];exact aI.next (Ae.mono I.grow.begun) Af
  ·rw [List.map_append,h.way,List.length_append,List.length_singleton,List.take_add_one,lC];rfl
  ·rw [List.length_append,List.length_singleton];exact Al
  ·rcases aQ4.1 hy with M | M
   ·exact h.small y M
   ·rw [List.mem_singleton.1 M];exact aS
 ·rcases Ak with ⟨Y,_⟩ | ⟨Y,_⟩ <;> (rw [Y] at hk;cases hk)
end
def GJ (T:World->Option Addr->Nat->Prop) (W:aRU) (Z V:aRW) (L:Nat->Bool) (u:Nat->Value) (af:aRU):Prop :=
 (L 7=false->Bl W af)/\W.heap.size<=af.heap.size/\(L 7=true->∃ KA iG,T af KA iG/\(L 11=true->∀ g,u 11 = .pointer (some ⟨g,0,none⟩)->some g≠bM KA)/\∀ q,bM KA=some q->q < af.heap.size) /\
 (L 11=true->∃ g,u 11 = .pointer (some ⟨g,0,none⟩)/\W.heap.size<=g/\aM af g (if L 12=true then V else Z) 80)
section
variable {T:World->Option Addr->Nat->Prop} {W af aD:aRU} {Z V:aRW} {L:Nat->Bool} {u:Nat->Value}
theorem GJ.plain (bY:∀ a b KA iG,T a KA iG->Bl a b->T b KA iG) (h:GJ T W Z V L u af) (ae:Bl af aD) (h1:7≠i) (ag:11≠i) (au:12≠i):GJ T W Z V (Gy L i) (o5 u i v) aD:=by
 obtain⟨I,ks,J,M⟩:=h;refine⟨fun h=>?_,aQG ks ae.size,fun h=>?_,fun h=>?_⟩
 ·rw [xJ h1] at h;exact (I h).trans (ae.mono ks)
 ·rw [xJ h1] at h;obtain⟨KA,iG,Y,AA,AB⟩:=J h;refine⟨KA,iG,bY _ _ _ _ Y ae,fun h g e=>?_,fun q AP=>aQJ (AB q AP) ae.size⟩;rw [xJ ag] at h;rw [NT ag] at e;exact AA h g e
 ·rw [xJ ag] at h;obtain⟨g,e,av,AQ⟩:=M h;exact⟨g,by rw [NT ag,e],av,by rw [xJ au];exact AQ.all ae⟩
theorem GJ.laid (bY:∀ a b KA iG,T a KA iG->Bl a b->T b KA iG) (h:GJ T W Z V L u af) (ae:L 12=false):GJ T W Z V (Gy L 11) (o5 u 11 (pp af.heap.size 0)) (af.alloc (.cells Z.toArray 80)):=by
 obtain⟨M,ks,Y,AQ⟩:=h;have I:Below af.heap.size af (af.alloc (.cells Z.toArray 80)):=iD;refine⟨fun h=>?_,aQG ks I.size,fun h=>?_,fun _=>⟨_,agm,ks,by rw [xJ dc,ae];exact aM.new af Z _⟩⟩
 ·rw [xJ dc] at h;exact (M h).trans (I.mono ks)
 ·rw [xJ dc] at h;obtain⟨KA,iG,AA,_,J⟩:=Y h;refine⟨KA,iG,bY _ _ _ _ AA I,fun _ g e AB=>?_,fun q AP=>aQJ (J q AP) I.size⟩;rw [agm] at e;cases e;have:=J _ AB.symm;omega
theorem GJ.call {oG:aRV} {iG:Nat} (h:GJ T W Z V L u af) (bY:T aD KA iG) (ab0:lH l bu oG af aD) (hf:∀ q,q < af.heap.size->some q≠bM oG->some q≠bM KA) (aV:∀ q,bM oG=some q->q < W.heap.size) (oo:∀ q,bM KA=some q->q < aD.heap.size):GJ T W Z V (Gy L 7) (o5 u 7 v) aD:=by
 obtain⟨AQ,ks,AU,I⟩:=h;have M:∀ g,W.heap.size<=g->some g≠bM oG:=fun g av e=>by have:=aV g e.symm;omega
 refine⟨fun h=>(by rw [abU] at h;cases h),aQG ks ab0.size,fun _=>⟨KA,iG,bY,fun h g e=>?_,oo⟩,fun h=>?_⟩
 ·rw [xJ dc] at h;rw [NT dc] at e;obtain⟨g2,AA,AB,AP⟩:=I h;rw [AA] at e;cases e;exact hf _ AP.lt (M _ AB)
 ·rw [xJ dc] at h;obtain⟨g,e,av,Y⟩:=I h;exact⟨g,by rw [NT dc,e],av,by rw [xJ dc];exact (ab0.calm g _ _ _ Y dc (M g av)).trans Y⟩
theorem GJ.stored (bY:∀ a b KA iG g Y,T a KA iG->aM a g Y 80 -> fV g a b->W.heap.size<=g->some g≠bM KA->T b KA iG) (h:GJ T W Z V L u af) (gY:L 11=true) {Y:aRW} (ax:aM af g Y 80) (av:W.heap.size<=g) (hu:u 11 = .pointer (some ⟨g,0,none⟩)) (az:fV g af aD) (jk:aM aD g V 80):GJ T W Z V (Gy L 12) (o5 u 12 v) aD:=by
 obtain⟨J,ks,M,AQ⟩:=h;refine⟨fun h=>?_,by rw [az.2.2.2.1];exact ks,fun h=>?_,fun _=>⟨g,by rw [NT dc,hu],av,by rw [abU];exact jk⟩⟩
 ·rw [xJ dc] at h;exact oO (J h) az av
 ·rw [xJ dc] at h;obtain⟨KA,iG,AA,I,AB⟩:=M h;refine⟨KA,iG,bY _ _ _ _ _ _ AA ax az av (I gY g hu),fun h g2 e=>?_,fun q AP=>by rw [az.2.2.2.1];exact AB q AP⟩;rw [NT dc,hu] at e;cases e;exact I gY g hu
end
end
section
open Go.Maps Go.RowKit Go.Shelf
theorem aJ0 (hc:c.Ok) (iK:NS c m) (hs:kD c w (i :: us) σ aW aF) (hm:rJ σ c.n<=m) {l:Ma} (ah:c.k.dA[i]?=some x) (aC:Ci c w l i x []) (ay:i ∉ σ.dY++aW) (aS:σ.bF i=true) :
  Calls prog 73 #[pp l.bu 0] w (NW c l.bu l.KA i w (i :: us) σ aW aF):=by
 have fQ:i < c.n:=(aQL.1 ah).1;have Du:(bG c.W i).kind=1:=hs.inv.bF i aS;obtain⟨aH,BX⟩:=ai (w.alloc (.cells iN.toArray 63));have CS:=gQ BX;have Dv:=kY BX;obtain⟨bu,oG,Av⟩:=l;simp only at aC |-;obtain⟨BZ,CU,Dw,Ct,dO,Bb⟩:=nq3 (vH x) (NQ c ⟨bu,oG,Av⟩ i x 0) (l6 (c.fU i));have FP:(Dw.drop 2).take BZ.length=BZ:=by rw [Ct,CU];rfl
 have FR:Sz 45 BZ.length:=by rw [CU];exact kr
 have Dz:dO.length=32:=by rw [Bb];exact rC _
 have E5:Sz 59 dO.length:=by rw [Dz];exact kr
 have FU:∀ v∈dO,v.oneCell'=true:=by rw [Bb];exact aew _
 have J4:(dO.drop 0).take dO.length=dO:=by simp
 have sj:c.X.getD i l8=x.2:=by obtain⟨y,h1,ag,_⟩:=NP c fQ;rw [ah] at h1;cases h1;exact ag
 have FV:=aa (show aM aH bu Dw 158 by rw [Ct];exact (aC.all CS).row);have FW:=aa (by have:=avE hc (hs.all hc CS) ah;rw [<- CU,<- Bb] at this;exact this:CB 117 #[.agg BZ.toArray] aH (.agg dO.toArray));have FY:=aa (fun af (ae:Bl w af) (Fa:aM af w.heap.size iN 63)=>show Calls prog 118 #[pp bu 0,.agg dO.toArray] af fun e w'=>∃ dh bH L,e = .returned (.slice dh 1 bH)/\Cn c bu oG i x w (i :: us) σ aW aF dh bH L w' [] oG Av from by
  rw [Bb];refine (avd hc (hs.all hc ae) (aC.all ae) fQ ah).mono ?_;rintro e w' ⟨v,rfl,⟨dh,bH,rfl,Al⟩,AQ⟩;rw [if_pos aS] at Al |-;obtain⟨L,Am,Bc⟩:=Al dc;have Cu:=aU ae AQ;have bY:=hs.fO.size;exact⟨dh,bH,L,rfl,⟨⟨σ,aW,aF,hs.all hc Cu,.Gz (lG.gN Cu),⟨fun _ h=>h,fun _ h=>.inl h,fun _ _=>rfl,fun _ h=>h,fun _ _ _=>rfl⟩,fun _ h=>.inl h,aS,ay,xW.zero⟩,aC.all Cu,fun _ _ h=>h,rfl,aQQ _,Am.mono (aQG bY ae.size),Bc,Fa.all AQ,bY,fun _ h=>by cases h⟩⟩);have Fe:=aa CS;have Fh:=aa Dv;have Cv:=aa (show c.l.T<=w.heap.size from hs.fO.size);have Fj:=aa sj;have Be:=aa Du;rw [show iN.toArray=#[.int .i64 0,.int .i64 0,.slice none 0 0,.slice none 0 0] from rfl] at BX;have Fq:=BX.symm;clear BX CS Dv CU Ct Bb hs aC sj Du;go_enter func73,ntmps73;go_wp2_with (first|(with_reducible refine Rm 2 BZ FV.o FP underlying45 FR ?_)|(go_at_call 117; refine FW.o.mono ?_;rintro e af ⟨rfl,AQ⟩;have Fu:=aa (aU Fe.o AQ);have Bf:=aa AQ;clear AQ Fq)|((with_reducible refine qR dO Dz E5 FU ?_);intro aD E8 Fv)|(with_reducible refine kG Fv.o underlying59 E5 ?_)|(go_at_call 118; refine (FY.o aD (aU Fu.o E8.o) ((Fh.o.all Bf.o).all E8.o)).mono ?_;rintro e AU ⟨dh,bH,L,rfl,Bg⟩;have Fy:=aa Bg;clear Bg));obtain⟨R,aL⟩:=ai ((bG c.W i).reads);have CV:=aa aL;have E9:=age hc fQ;have J5:R.length<=500:=by rw [aL];exact E9.1
 clear aL;go_loopg [8] (R.length+1) (fun gk _ wr=>∃ (bK:List dB) (KA:aRV) (iG:Nat),bK.length+gk=R.length+1/\Cn c bu oG i x w (i :: us) σ aW aF dh bH L wr bK KA iG);case atStart=>exact⟨[],oG,Av,by simp,Fy.o⟩
 case round =>
  obtain⟨bK,KA,iG,Ao,bY⟩:=hrel;have BK:=aa bY;obtain⟨I,Az⟩:=ai bK.length;obtain⟨iW,D8⟩:∃ V:List Value,V=cK iq (bK.map gJ):=⟨_,rfl⟩;obtain⟨Ac,Bh⟩:∃ V:List Value,V=Ju (c.df i) I:=⟨_,rfl⟩;have hlen:I<=R.length:=by rw [Az,CV.o];exact bY.len
  have DF:Ac.length=ace.length:=by rw [Bh];unfold Ju;split <;> rfl
  have EA:Sz 216 Ac.length:=by rw [DF];exact aal _ _ _
  have EC:∀ v∈Ac,v.oneCell'=true:=by rw [Bh];unfold Ju;split <;> exact aam _ _ _
  have EF:=aa (fun af (ae:Bl wr af)=>show af.cell? (ad bu 9)=some (.slice KA I iG)/\af.cell? (ad bu 10)=some (.slice none 0 0) from by
   rw [Az];exact⟨(bY.Bv.all ae).row.cell 9,(bY.Bv.all ae).row.cell 10⟩);have Fz:=aa (fun af (ae:Bl wr af)=>show Calls prog 120 #[.slice KA I iG] af fun e w'=>∃ A' c',e = .returned (.slice A' I c')/\Row af w' 135 34 A' I c' iW from by
   rw [Az,D8];exact ajC af KA iG bK (bY.Bv.all ae).known.rd om (fun y hy=>by have:=bY.small y hy;omega));have G8:=aa (fun af (ae:Bl wr af) (uu:aRV) (ou:Nat) (Am:Rd af 34 uu I iW)=>show CB 119 #[.slice dh 1 bH,.slice uu I ou,.slice none 0 0] af (.agg Ac.toArray) from by
   have G9:i < c.X.length:=by simpa [dF.X,dF.n] using fQ
   have Bi:=af9 hc.work G9 Be.o;have EG:=bY.below hc ae;have GD:iW=cK iq ((c.df i).reads.take I):=by rw [D8,bY.way,Az];rfl
   rw [Bh];rw [GD] at Am;exact aDY af (c.df i) L dh bH EG.row.rd EG.df.at_ I (by rw [Az];exact bY.len) uu ou Am Bi.apart (fun y hy=>⟨(Bi.reads y hy).sum,by have:=(Bi.reads y hy).small;unfold maxLen;omega⟩) (fun y hy=>by
    obtain⟨z,_,rfl⟩:=aQO.1 (show y∈(bG c.W i).outs.map uV from hy);exact yK _) (by have:=Bi.few;omega) (by have:=Bi.few;omega) 0);have Ap:=aa Az;have EH:=aa Bh;clear bY Az D8 Bh;go_upto_region 3 with fail
  have kR:=EF;refine nz nH 12 [some (.slice dh 1 bH),some (pp bu 0),some (pp bu 0),some (pp bu 9),some (.slice KA I iG),none,some (pp bu 0),some (pp bu 0),some (pp bu 10),some (.slice none 0 0),some (.agg Ac.toArray),none] (VY wr.heap.size I iW) (Bl wr) Bl ((Below.refl _ wr).drew) (fun j v w1 af ae h=>h.keep ae) ?_ (jI:=?_)
  ·intro u6 GG aj Ad;obtain⟨g5,Bj,EJ,J6⟩:=(show VY wr.heap.size I iW 11 (u6 11) GG from Ad 11 om).2 rfl;clear Ad;simp only [Bj];have EK:=aj;have EL:=aa (BK.o.below hc EK);have CW:=aa EJ;have EM:=aa (show w.heap.size < g5 by have:=BK.o.res.lt;omega);have EN:=aa (show some g5≠bM KA from fun e=>by have:=(BK.o.Bv.known.block _ e.symm).2.1;omega);clear EK aj EJ Bj;by_cases GH:I < R.length
   ·obtain⟨s,k,aI,EO,ES,DI,ET,EU⟩:=aJY hc fQ Be.o BK.o.way (by rw [<- Ap.o,<- CV.o];exact GH);obtain⟨P,DJ⟩:=ai (aA s.asks);have Bn:Ac=[.int .i64 1,.string P,.int .i64 0]:=by rw [EH.o,Ju,show (c.df i).reads[I]?=some (gJ k) by rw [Ap.o];exact DI,DJ,<- ET];rfl
    have Bp:=aa Bn;obtain⟨bI,CY⟩:=ai (iA k);have GI:=aa (fun (af:aRU) (ag:Cn c bu oG i x w (i :: us) σ aW aF dh bH L af bK KA iG)=>show CR 121 #[pp bu 0,.string P,.slice KA I iG] af (.tuple #[.agg bI.toArray,.pointer none]) fun w'=>∃ uD AB,Cn c bu oG i x w (i :: us) σ aW aF dh bH L w' (bK++[k]) uD AB/\(∀ q,q < af.heap.size->some q≠bM KA->some q≠bM uD)/\lH c.l bu KA af w' from by
     rw [DJ,Ap.o,CY];exact ag.asked hc iK hm fQ Fj.o aI EO ES DI EU);have CZ:bI.length=3:=by rw [CY];rfl
    have GK:=aa (show Sz 80 bI.length by rw [CZ];exact kr);have GL:=aa (show 0+bI.length<=l9.length by rw [CZ];exact aQF 3);have GQ:=aa (show ∀ v∈bI,v.oneCell'=true by rw [CY];simp [iA,Value.oneCell']);have GV:=aa (show l9.take 0++bI++l9.drop (0+bI.length)=bI by rw [CZ];simp [l9,iA]);clear DJ Bn CY CZ aI EO ES DI ET EU;go_upto_region 7 with (first|((with_reducible refine Jn Ac CW.o EA DF EC ?_);intro AA BB Bq;have Aq:=aa (EL.o.dG hc CW.o Bq EM.o dc dc EN.o);have GX:=aa BB;have Av:AA.cell? (ad g5 0)=some (.int .i64 1):=(by rw [BB.cell 0,Bp.o];rfl);clear BB Bq)|fail)
    clear Av;obtain⟨Ae,Br⟩:∃ Ae:World->Option Addr->Nat->Prop,Ae=fun af uD AB=>Cn c bu oG i x w (i :: us) σ aW aF dh bH L af (bK++[k]) uD AB:=⟨_,rfl⟩;have DN:=aa (fun (u:Nat->Value)=>show GJ Ae AA l9 bI (fun _=>false) u AA.drew from ⟨fun _=>(Below.refl _ AA).drew,aQF _,fun h=>(by cases h),fun h=>(by cases h)⟩);have Bt:=aa (fun (a b:aRU) (uD:aRV) (AB:Nat) (h:Ae a uD AB) (ae:Bl a b)=>show Ae b uD AB from by
     rw [Br] at h |-;exact Cn.below hc h ae);have Ga:=aa (show w.heap.size < AA.heap.size from Aq.o.res.lt);have Gb:=aa (fun (a b:aRU) (uD:aRV) (AB g:Nat) (Y:aRW) (h:Ae a uD AB) (ax:aM a g Y 80) (Gc:fV g a b) (av:AA.heap.size<=g) (BL:some g≠bM uD)=>show Ae b uD AB from by
     rw [Br] at h |-;exact Cn.dG hc h ax Gc (by have:=Ga.o;omega) dc dc BL);have Gd:=aa (fun af (ae:Bl AA af)=>show af.cell? (ad g5 1)=some (.string P) from by rw [(GX.o.all ae).cell 1,Bp.o];rfl);have Gg:=aa (fun af (ae:Bl AA af)=>show af.cell? (ad bu 9)=some (.slice KA I iG) from by rw [Ap.o];exact (Aq.o.Bv.all ae).row.cell 9);have Gi:=aa (fun (q:Nat) (Ao:bM KA=some q)=>show q < AA.heap.size from (Aq.o.Bv.known.block q Ao).2.1);have Gm:=aa (fun af (ae:Bl AA af)=>show CR 121 #[pp bu 0,.string P,.slice KA I iG] af (.tuple #[.agg bI.toArray,.pointer none]) fun w'=>∃ uD AB,Ae w' uD AB/\(lH c.l bu KA af w')/\(∀ q,q < af.heap.size->some q≠bM KA->some q≠bM uD)/\(∀ q,bM uD=some q->q < w'.heap.size) from by
     rw [Br];refine (GI.o af (Aq.o.below hc ae)).mono ?_;rintro e w' ⟨rfl,uD,AB,h1,ag,Al⟩;exact⟨rfl,uD,AB,h1,Al,ag,fun q Ao=>(h1.Bv.known.block q Ao).2.1⟩);have Gn:=aa Br;clear Br;refine TL 14 (iX [some (pp bu 0),some (pp g5 1),some (.string P),some (pp bu 0),some (pp bu 0),some (pp bu 9),some (.slice KA I iG),some (.tuple #[.agg bI.toArray,.pointer none]),some (.tuple #[.agg bI.toArray,.pointer none]),some (.agg bI.toArray),some (.pointer none),none,none,some (.pointer none)] (fun _ _ _=>True)) (GJ Ae AA l9 bI) (fun _ _=>True) DN.o (fun j v w1 af ae Gp=>iX.keep (fun _=>trivial) Gp) ?_ (jI:=?_)
    rotate_left
    ·repeat' (first | exact trivial | apply And.intro)
     all_goals intro eQ u2 af J7 aj C8 DR aL bz K aR
     all_goals simp [iX,Region.binds] at bz
     all_goals first | simp [Region.wanted,yielded,aL,bz] | simp [Region.wanted,yielded] | skip
     all_goals try (first | exact aR _ _ rfl (aj.plain Bt.o (Below.refl _ _) dc dc dc) (trivial) | (go_simp;exact aR _ _ rfl (aj.plain Bt.o (Below.refl _ _) dc dc dc) (trivial)))
     ·have AQ:=aj.1 (adl DR C8 7 [2] kr sp);have AB:=Gd.o af AQ;go_simp;exact aR _ _ rfl (aj.plain Bt.o (Below.refl _ _) dc dc dc) trivial
     ·have AQ:=aj.1 (adl DR C8 7 [6] kr sp);have AB:=Gg.o af AQ;go_simp;exact aR _ _ rfl (aj.plain Bt.o (Below.refl _ _) dc dc dc) trivial
     ·have AQ:=aj.1 C8;go_simp;refine (Gm.o af AQ).mono ?_;rintro e aD ⟨rfl,uD,AB,ag,Al,Am,Bc⟩;exact aR _ _ rfl (aj.call ag Al Am Gi.o Bc) trivial
     ·go_simp;exact aR _ _ trivial (aj.laid Bt.o (adl DR C8 12 [11] kr sp)) trivial
     ·have CF:=bz.1;obtain⟨g,EX,av,ax⟩:=aj.2.2.2 CF;rw [C8,if_neg dc] at ax;refine wp_store_row g 0 (.agg bI.toArray) bI l9 bI _ ax (qK _) GK.o GL.o GQ.o GV.o rfl ⟨by simp [Act.eval,aL,bz,EX],by simp [Act.eval,aL,bz]⟩ ?_;intro cO Af AV;exact aR _ _ trivial (aj.stored Gb.o CF ax av EX AV Af) trivial
    ·intro u9 Ag aj Ad;have EY:u9 13 = .pointer none:=Ad.at 13 dc dc;obtain⟨Gq,Gs,Ea,_⟩:=aj.2.2.1 rfl;obtain⟨g9,Bj,_,_⟩:=aj.2.2.2 rfl;clear Ad;simp only [EY,Bj];have Gt:=aa Ea;clear Ea aj EY Bj;go_wp2_with fail;go_roundg (gk - 1);case rel =>
      have CF:=Gt.o;rw [Gn.o] at CF;exact⟨bK++[k],Gq,Gs,by rw [List.length_append,List.length_singleton,<- Ap.o];have:=Ap.o;omega,CF⟩
     case measure=>have:=Ap.o;omega
   ·have BL:I=R.length:=om;have Bn:Ac=[.int .i64 2,.string ⟨#[]⟩,.int .i64 0]:=by rw [EH.o,Ju,List.getElem?_eq_none (by rw [BL,CV.o];exact Nat.le_refl _)]
    have Bp:=aa Bn;have Gu:=aa (show bK.length=(bG c.W i).reads.length by rw [<- Ap.o,BL,CV.o]);obtain⟨DT,DU,rfl,_⟩:=avI BK.o.row;obtain⟨AX,BN⟩:=ai (gP (c.df i) L);have Ec:AX.length=34:=by rw [BN];exact Eb _ _
    have Bg:Sz 224 AX.length:=by rw [Ec];exact kr
    have Gv:∀ v∈AX,v.oneCell'=true:=by rw [BN];exact M8 _ _
    have J8:(AX.drop 0).take AX.length=AX:=by simp
    have H5:=aa (fun (af:aRU) (ag:Cn c bu oG i x w (i :: us) σ aW aF (some ⟨DT,DU,none⟩) bH L af bK KA iG)=>show (loadVar 224 ⟨DT,DU,none⟩).run prog af = .ok (.agg AX.toArray) af from by
     obtain⟨J9,JA,H9,Am⟩:=avI ag.row;cases H9;rw [BN];exact Am);obtain⟨no,Db⟩:=ai ((bG c.W i).outs.length);have HY:=aa (fun (af:aRU) (ag:Cn c bu oG i x w (i :: us) σ aW aF (some ⟨DT,DU,none⟩) bH L af bK KA iG)=>show Calls prog 122 #[pp bu 0,.agg AX.toArray] af fun e w'=>∃ A eY,e = .returned (.tuple #[.slice A no eY,.bool true])/\Own w' af.heap.size 65 2 A no eY (cK fI (bG c.W i).outs)/\Bl af w' from by
     obtain⟨bR,ib,eP,Al,_,_,_,Bc,_⟩:=ag.all;rw [BN,Db];have:=aI1 hc Al ag.Bv fQ Bc ag.df;exact this);have Ee:=aa Db;have Ha:=aa BN;clear Bn BN Db;go_upto_region 14 with (first|((with_reducible refine Jn Ac CW.o EA DF EC ?_);intro AA BB Bq;have Aq:=aa (EL.o.dG hc CW.o Bq EM.o dc dc EN.o);have Av:AA.cell? (ad g5 0)=some (.int .i64 2):=(by rw [BB.cell 0,Bp.o];rfl);have AB:AA.cell? (ad g5 2)=some (.int .i64 0):=(by rw [BB.cell 2,Bp.o];rfl);have Hd:=aa (H5.o AA Aq.o);clear BB Bq)|((with_reducible refine pO Hd.o ?_ ?_);exact rfl)|((with_reducible refine qR AX Ec Bg Gv ?_);intro Dc He Ef;have De:=aa (Aq.o.below hc He.o);clear Av AB)|(with_reducible refine kG Ef.o underlying224 Bg ?_)|(go_at_call 122; refine (HY.o Dc De.o).mono ?_;rintro e Ag ⟨BC,BD,rfl,Ei,Ca⟩;have Hf:=aa Ei;have Ej:=aa (Ef.o.all Ca);have BF:=aa (De.o.below hc Ca);have JB:=aa Ca;clear Ei Ca))
    obtain⟨bR,ib,eP,AP,CG,Ah,CJ,BO,BP,CK⟩:=BF.o.all;have Dg:=aa (And.intro AP (And.intro CG (And.intro Ah (And.intro CJ (And.intro BO (And.intro BP CK))))));obtain⟨bV,rc,lK,jZ,CL,El,Dh,BG⟩:=AP.fO.row;have Hl:=AP.few hc;clear AP CG Ah CJ BO BP CK;obtain⟨X,aX,n,Cc,jY,Di⟩:=nq3 c.l.X ib.length (Bo ib);rw [<- aX,<- Cc] at CL;rw [<- Cc,<- Di] at Dh;have Ak:=aa Dh;have Em:=aa (fun (aD:aRU) (aj:nN Ag c.l.T 3 1 lK n jZ jY aD)=>show aD.cell? (ad bu 0)=some (pp X 0)/\aD.cell? (ad bu 1)=some (.int .i64 i)/\aD.cell? (ad X 8)=some (.slice lK n jZ) from by
     have h1:=aj.row BF.o.Bv.row (fun e=>Ak.o.ne BF.o.Bv.row dc e.symm);have ag:=aj.row CL (fun e=>Ak.o.ne CL dc e.symm);exact⟨by rw [aX];exact h1.cell 0,h1.cell 1,ag.cell 8⟩);have Hm:=aa (show ∀ v∈[Value.int .i64 i],v.oneCell'=true by simp [Value.oneCell']);have Ho:=aa (show n<=1000000 by omega);have Hq:=aa (show c.l.T<=Ag.heap.size from Dg.o.1.fO.size);obtain⟨Hr,En,Hy,Dj,Eo,Er⟩:=hq6 aX Cc Di CL El BG;clear aX Cc Di CL Dh El BG Hl;have kR:=Em;refine nz nH 21 [some (pp bu 0),some (pp bu 0),some (pp bu 0),some (pp X 0),some (pp bu 0),some (pp bu 0),some (pp bu 0),some (pp X 0),some (pp X 0),some (pp X 6),some (pp X 8),some (.slice lK n jZ),some (pp bu 0),some (pp bu 0),some (pp bu 1),some (.int .i64 i),none,none,some (pp X 0),some (pp X 6),some (pp X 8)] (xc Ag.heap.size (c.l.T) 3 1 lK n jZ jY [.int .i64 i] 16 17) (nN Ag (c.l.T) 3 1 lK n jZ jY) (o6 (c.l.T) 3 1 lK jZ (n+1) (jY++[.int .i64 i])) (nN.start Ak.o) (fun j v w1 af ae h=>h.keep ae) ?_ (jI:=?_)
    ·intro u10 Ce aj Ad;obtain⟨AZ,Aa,Dk,Cf⟩:=(show xc Ag.heap.size (c.l.T) 3 1 lK n jZ jY [.int .i64 i] 16 17 17 (u10 17) Ce from Ad 17 om).1.2.1 rfl;have Es:=(show xc Ag.heap.size (c.l.T) 3 1 lK n jZ jY [.int .i64 i] 16 17 17 (u10 17) Ce from Ad 17 om).2 rfl _ _ _ Dk;clear Ad;simp only [Dk];have Cg:=aa aj;have I1:=aa Cf.1;have I4:=aa Es;have BH:=aa (aj.row Dj.o (fun e=>Ak.o.ne Dj.o dc e.symm));have I7:=aa (aj.row Ej.o (fun e=>Ak.o.ne Ej.o dc e.symm));have I9:=aa (aj.row BF.o.res (fun e=>Ak.o.ne BF.o.res dc e.symm));have IA:Sz 37 1:=kr;have JG:(Value.slice AZ (n+1) Aa).cells.toList=[Value.slice AZ (n+1) Aa]:=rfl;have IE:8+1<=(IJ c bV rc lK jZ bR.dY.length n).length:=by show 9<=10;decide
     have IK:(Value.slice AZ (n+1) Aa).oneCell'=true:=rfl;have IL:(IJ c bV rc lK jZ bR.dY.length n).set 8 (.slice AZ (n+1) Aa)=IJ c bV rc AZ Aa bR.dY.length (n+1):=rfl;have DN:=aa (fun (AU:aRU) (Af:aM AU X (IJ c bV rc AZ Aa bR.dY.length (n+1)) 78) (AV:fV X Ce AU)=>show kD c AU (i :: us) bR (ib++[i]) eP/\lH c.l bu oG w AU/\aM AU AA.heap.size AX 224 /\ aM AU w.heap.size iN 63 /\ oQ AU c.l.S.B (c.df i) L/\Own AU Dc.heap.size 65 2 BC no BD (cK fI (bG c.W i).outs) from by
      obtain⟨AP,CG,Ah,CJ,BO,BP,CK⟩:=Dg.o;have aX:=Hr.o;subst aX;have IM:=lG.Qj hc Ak.o Cg.o.1 BH.o AV;have IP:=(AP.inv.under i).1 sp;have Dp:∀ {base aO I c2:Nat} {t:TypeId} {A:aRV} {ys:aRW},Own Ag base t aO A I c2 ys->t ≠ 3 -> Own Ce base t aO A I c2 ys:=fun h h1=>h.grown Cg.o.1 fun b ae e=>by
       obtain⟨_,_,cur,aZ,IQ⟩:=h.block b ae;obtain⟨_,_,JH,JI,BR⟩:=Ak.o.block b e.symm;rw [IQ] at BR;injection BR with BR
       injection BR with _ BR
       exact h1 BR
      refine⟨⟨AP.fO.Qj hc Ak.o Cg.o.1 Dj.o AV (σ':=bR) (tk':=ib++[i]) rfl rfl rfl rfl ⟨bV,rc,AZ,Aa,?_,?_,?_,fun q Ao e=>?_⟩,AP.inv,AP.log.take BP IP.1 ?_,AP.kept⟩,CG.trans (lH.Gz (KA:=oG) IM) (fun _ _ h=>h),I7.o.dG AV ?_,I9.o.dG AV ?_,⟨?_,?_⟩,?_⟩
      ·show aM AU c.l.X (IJ c bV rc AZ Aa bR.dY.length (ib++[i]).length) _;rw [List.length_append,<- En.o];exact Af
      ·exact gX (Eo.o.grown Cg.o.1 fun b ae e=>Er.o b e.symm ae.symm) BH.o dc AV
      ·show Own AU c.l.T 3 1 AZ (ib++[i]).length Aa (Bo (ib++[i]));rw [List.length_append,<- En.o,Bo,List.map_append,<- Bo,<- Hy.o];exact gX I1.o BH.o dc AV
      ·exact I4.o q (Eo.o.block q e.symm).2.1 (fun IU=>Er.o q IU.symm e) Ao.symm
      ·rcases AP.log.bF i BO with h1 | h1
       ·exact h1
       ·exact absurd (aRd _ h1) BP
      ·have:=(hc.low _ (.inl rfl)).2;have:=Cv.o;have:=Aq.o.res.lt;omega
      ·have:=(hc.low _ (.inl rfl)).2;have:=Cv.o;omega
      ·exact gX (Dp BF.o.df.reads dc) BH.o dc AV
      ·exact gX (Dp BF.o.df.outs dc) BH.o dc AV
      ·exact gX (Dp Hf.o dc) BH.o dc AV);clear Cf aj Es Dk;obtain⟨ll,BG⟩:=ai ((bG c.W i).reads.length);have JJ:ll<=500:=by rw [BG];exact E9.1
     have Dq:=aa BG;have IV:=aa (fun (af:aRU) (ag:oQ af c.l.S.B (c.df i) L)=>show Calls prog 123 #[.slice L.A ll L.c] af fun e w'=>∃ A' c',e = .returned (.slice A' ll c')/\Own w' af.heap.size 135 34 A' ll c' (cK iq (bG c.W i).reads)/\Bl af w' from aet af L.A ll L.c (cK iq (bG c.W i).reads) (by rw [BG];exact ag.reads.rd) (aaj FZ _) om);clear BG;go_wp2_with (first|((with_reducible refine A8 8 (.slice AZ (n+1) Aa) BH.o IA IE IK IL ?_);intro Cj Ev Ew;obtain⟨Ck,Ex,Dr,F3,F4,F5⟩:=DN.o Cj Ev Ew;have IX:=aa Ck;have F6:=aa Ex;have IZ:Cj.cell? (ad AA.heap.size 32)=some (.slice L.A ll L.c):=(by rw [Ha.o] at Dr;rw [auq Dr,Dq.o];rfl);obtain⟨Ia,Ie,Ig⟩:=hq3 F3 F4 F5;clear Ev Ew Ck Ex Dr F3 F4 F5)|(go_at_call 123; refine (IV.o Cj Ie.o).mono ?_;rintro e JK ⟨BS,BU,rfl,FB,Dt⟩;have FC:=aa FB;have Bf:=aa Dt;have Cm:=aa (Ia.o.all Dt);obtain⟨cz,CQ⟩:∃ V:List Value,V=[.int .i64 1,.int .i64 0,.slice BC no BD,.slice BS ll BU]:=⟨_,rfl⟩;have FF:cz.length=iN.length:=(by rw [CQ];rfl);have FI:Sz 63 cz.length:=(by rw [FF];exact kr);have Ih:∀ v∈cz,v.oneCell'=true:=(by rw [CQ];simp [Value.oneCell']);have FJ:=aJX BC no BD BS ll BU;rw [show #[Value.int .i64 1,.int .i64 0,.slice BC no BD,.slice BS ll BU]=cz.toArray by rw [CQ]] at FJ;have Ii:=aa CQ;clear FB Dt IZ CQ)|((with_reducible refine Rl (.int .i64 1) (.slice BC no BD) (.slice BS ll BU) _ FJ ?_ ?_);exact⟨rfl,rfl,rfl⟩)|((with_reducible refine vF cz Cm.o FI FF Ih ?_);intro JL Ij Co));refine D5 Ij.o underlying63 rfl FI ⟨rfl,rfl,rfl⟩ ?_;obtain⟨AP,CG,Ah,CJ,BO,BP,CK⟩:=Dg.o;obtain⟨JM,Ik,Cr⟩:=aJZ hc Be.o BK.o.way Gu.o;have Ck:=(F6.o).size;have bY:=Cv.o;have Il:=(IX.o.all hc Bf.o).dG hc Cm.o (j3.um Co.o) bY dc;have Im:=(F6.o.trans (.Gz (lG.gN Bf.o)) (fun _ _ h=>h)).NR (j3.um Co.o) (aQF _);have Ip:jd (bG c.W i) ⟨BC,BD,BS,BU⟩=cz:=by
      obtain⟨b,rs,_,_,_,_,e⟩:=Yd hc.work.small Be.o;have h1:(bG c.W i).why=0:=by show (bG (nR c.k.files c.X) i).why=0;rw [e]
      rw [Ii.o,jd,Be.o,h1,<- Ee.o,<- Dq.o];rfl
     rw [<- Ip];refine⟨bR,ib++[i],eP,⟨BC,BD,BS,BU⟩,rfl,⟨?_,?_⟩,fun q Ao=>aQG Ck (FC.o.block q Ao).1,Il,Im,⟨Ah.begun,fun j aC=>?_,Ah.got,Ah.more,Ah.same⟩,CJ,?_,(Ik.over hc.toFit Cr).2 CK,fun _=>AP.kept i BO⟩
     ·have h1:=(gX (Ig.o.below Bf.o (aQF _)) Cm.o dc Co.o).mono (show c.l.T<=Dc.heap.size by have:=De.o.res.lt;omega);rw [Ee.o] at h1;exact h1
     ·have h1:=(gX FC.o Cm.o dc Co.o).mono (show c.l.T<=Cj.heap.size by omega);rw [Dq.o] at h1;exact h1
     ·rw [<- List.append_assoc] at aC;rcases aQ4.1 aC with h1 | h1
      ·exact Ah.log j h1
      ·exact .inr (.inl (aRw.1 h1))
     ·exact aRn _ (aRn _ (aRw.2 rfl))
    ·repeat' (first | exact trivial | apply And.intro)
     all_goals try exact rx
     all_goals intro eQ u af aj aL bz K aR
     all_goals try simp [iX,Region.binds] at bz
     all_goals refine mg rfl ?_
     all_goals obtain⟨JN,JO,JR⟩:=Em.o af aj
     ·refine Nv VQ (.int .i64 i) rfl rfl (by simp [Act.eval,aL,bz]) ?_;exact aR _ _ ⟨⟨fun _=>⟨_,rfl,aM.new af [.int .i64 i] _,aj.JD⟩,gq,fun e=>absurd rfl e⟩,gq⟩ (aj.alloc _) (o6.alloc af _)
     ·obtain⟨Iq,Cr⟩:=bz;obtain⟨g9,Ir,Iu,JS⟩:=(show xc Ag.heap.size (c.l.T) 3 1 lK n jZ jY [.int .i64 i] 16 17 16 _ af from Cr).1.1 rfl;refine X5 VQ rfl aj.2 g9 Iu rfl Hm.o Ho.o (aQG Hq.o aj.1.size) underlying37 ⟨by simp [Act.eval,aL,Iq],by simp [Act.eval,aL,Ir]⟩ ?_;intro il c2 aD Cf FK Iw Iy;exact aR _ _ ⟨⟨gq,fun _=>⟨il,c2,rfl,Cf⟩,fun _ e=>absurd rfl e⟩,fun _ dh m3 bH J3 j aC BL=>by cases J3;exact Iy j (aQJ aC aj.1.size) BL⟩ ⟨F8 aj.1 FK.1,Iw⟩ FK
  ·repeat' (first | exact trivial | apply And.intro)
   all_goals try exact rx
   all_goals intro eQ u af aj aL bz K aR
   all_goals try simp [iX,Region.binds] at bz
   all_goals refine mg rfl ?_
   all_goals obtain⟨JU,JV⟩:=EF.o af aj
   ·go_simp;refine (Fz.o af aj).mono ?_;rintro e aD ⟨uu,ou,rfl,Af⟩;exact aR _ _ ⟨fun _=>⟨uu,ou,rfl,Af.own.rd⟩,gq⟩ (aj.trans (Af.low.mono aj.size)) Af.low
   ·obtain⟨JW,JX,JY,ah⟩:=bz;obtain⟨uu,ou,Cr,Af⟩:=ah.1 rfl;go_simp;refine (G8.o af aj uu ou Af).mono ?_;rintro e aD ⟨rfl,FO⟩;exact aR _ _ rfl (aU aj FO) FO
   ·go_simp;exact aR _ _ ⟨gq,fun _=>⟨_,rfl,aM.new af ace _,aj.size⟩⟩ (aj.alloc aj.size _) iD
def avU:List TypeId:=[78,92,86,89]
theorem wG.turned (hc:c.Ok) {fe:aR1} (h:wG c w σ aW aF) {mH:aRW} (jS:aM w g mH ty) (az:fV g w w1) (av:c.l.C g) (h1:ty ∉ Fx) (ag:ty ∉ avU) (N7:σ'.dY=σ.dY) (Dk:σ'.bF=σ.bF) (Ym:σ'.has=σ.has)
  (ae:aM w1 c.l.zI (yB σ' c.n) 4) (aG:∃ OL:Nat->kI,aM w1 c.l.eO (pR σ' OL c.n) 63 /\ ∀ i o,σ'.got i=some o->ny w1 c.l.T o (OL i)/\∀ q,bM (OL i).B=some q->fe q) (bZ:∀ q,aF q->fe q):wG c w1 σ' aW fe:=by
 obtain⟨bV,rc,lK,jZ,AV,Aa,Ac,aS⟩:=h.row;have Am:=hc.low g av;have Y:∀ {k:Nat} {cs:Array Value} {t:TypeId} {aZ:Nat × Nat},w.heap[k]?=some (.cells cs t aZ)->t≠ty->w1.heap[k]?=w.heap[k]?:=fun {k cs t aZ} hk AP=>az.2.2.2.2 k fun e=>by
  rw [e,jS] at hk;injection hk with hk
  injection hk with _ hk
  exact AP hk.symm
 have AX:∀ {k:Nat} {o:Obj},w.heap[k]?=some o->o.isCells=false->w1.heap[k]?=w.heap[k]?:=fun {k o} hk AP=>az.2.2.2.2 k fun e=>by
  rw [e,jS] at hk;cases hk;cases AP
 have J:∀ {base aO n c2:Nat} {t:TypeId} {A:aRV} {ys:aRW},Own w base t aO A n c2 ys->t∈Fx->Own w1 base t aO A n c2 ys:=fun Ad e=>gX Ad jS (fun I=>h1 (I ▸ e)) az;have AA:∀ {t:TypeId},t∈avU->t≠ty:=fun e I=>ag (I ▸ e);obtain⟨M,hm,Ae⟩:=h.src.store;obtain⟨M2,Af,Ag,AZ⟩:=h.src.bF.map;obtain⟨⟨Ao,AQ,I⟩,⟨Ap,AU,AB⟩,_⟩:=h.src.kinds;refine⟨⟨bV,rc,lK,jZ,by rw [N7];exact (Y AV (AA dc)).trans AV,by rw [N7];exact J Aa dc,J Ac dc,aS⟩,ae,aG,⟨(Y h.src.row (AA dc)).trans h.src.row,⟨(Y h.src.bF.obj (AA dc)).trans h.src.bF.obj,h.src.bF.far,M2,Af.keep (AX AQ I),Ag,fun j aC=>?_⟩,⟨M,⟨(Y hm.obj (AA dc)).trans hm.obj,hm.map.keep (AX AU AB)⟩,by rw [Ym];exact Ae⟩,h.src.far,h.src.ne⟩,fun V ed=>h.work V fun k Ah eG=>(ed k Ah eG).trans (az.2.2.2.2 k fun e=>eG (by rw [e];exact av)),h.home.below ⟨az.1,az.2.1,az.2.2.1,aQ1 az.2.2.2.1.symm,fun k hk=>az.2.2.2.2 k om⟩,by rw [az.2.2.2.1];exact h.size⟩;rw [Dk];refine⟨fun e=>?_,(AZ j aC).2⟩;obtain⟨y,AQ,I,L,AU,AB,Ak⟩:=(AZ j aC).1 e;exact⟨y,AQ,I,L,J AU dc,⟨J AB.reads dc,J AB.outs dc⟩,fun q Al=>bZ q (Ak q Al)⟩
theorem aKe (σ:bE) {n:Nat} (ay:i < n):(yB σ n).set i (.bool true)=yB (σ.push i) n:=by
 apply List.ext_getElem?;intro j;rw [List.getElem?_set];by_cases e:i=j
 ·subst e;rw [if_pos rfl,if_pos (by simpa [yB] using ay),yB,List.getElem?_map,List.getElem?_range ay];simp [bE.push]
 ·rw [if_neg e,yB,yB,List.getElem?_map,List.getElem?_map];cases h:(List.range n)[j]? with
  | none=>rfl
  | some k =>
   have hk:k=j:=by have:=aQL.1 h;obtain⟨h1,I⟩:=this;simpa using I.symm
   subst hk;simp [bE.push,Ne.symm e]
theorem kD.amP (hc:c.Ok) {U:aRZ} (h:kD c w U σ aW aF) (fQ:i < c.n) (ae:σ.begun i=false) (ax:yT c.W c.dN i) (hf:∀ x∈U,xS c.W x i) (h1:aM w1 c.l.zI ((yB σ c.n).set i (.bool true)) 4) (az:fV c.l.zI w w1):kD c w1 (i :: U) (σ.push i) aW aF:=by rw [aKe σ fQ] at h1;obtain⟨OL,J,I⟩:=h.fO.outs;refine⟨h.fO.turned hc h.fO.begun az (.inr (.inl rfl)) dc dc rfl rfl rfl h1 ⟨OL,J.dG az (aQ0 hc.ne.2.2),fun j o e=>⟨⟨gX (I j o e).1.outs h.fO.begun dc az,gX (I j o e).1.reads h.fO.begun dc az⟩,(I j o e).2⟩⟩ (fun _ h=>h),h.inv.push ae ax hf,h.log.push i,fun j aC=>(h.kept j aC).mono (fun _ h=>h) (fun _ h=>h)⟩
theorem Qr (g:Option iU) (L:kI):(tX g L).length=4:=by cases g <;> rfl
theorem agK (σ:bE) (OL:Nat->kI) (l:aRZ):(cK (fun i=>tX (σ.got i) (OL i)) l).length=l.length * 4:=by
 induction l with
 | nil=>rfl
 | cons a l I =>
  rw [show cK (fun i=>tX (σ.got i) (OL i)) (a :: l)=tX (σ.got a) (OL a)++cK (fun i=>tX (σ.got i) (OL i)) l from rfl,List.length_append,I,Qr,List.length_cons];omega
theorem avV (σ:bE) (OL:Nat->kI) {n:Nat} (ay:i < n) (o:iU) (L:kI):(pR σ OL n).take (i * 4)++jd o L++(pR σ OL n).drop (i * 4+(jd o L).length)=pR (σ.put i o) (fun j=>if j=i then L else OL j) n:=by
 have AA:List.range n=(List.range n).take i++i :: (List.range n).drop (i+1):=by have h:=(aRC i (List.range n)).symm;rw [List.drop_eq_getElem_cons (by simpa using ay)] at h;simpa using h
 have hl:((List.range n).take i).length=i:=by simp;omega
 have J:∀ (f:Nat->List Value) (a b:aRZ),cK f (a++b)=cK f a++cK f b:=fun f a b=>by simp [cK]
 have AB:∀ j∈(List.range n).take i,j≠i:=fun j aC e=>by
  subst e;obtain⟨k,hk,I⟩:=aRN.1 aC;simp at hk I;omega
 have AP:∀ j∈(List.range n).drop (i+1),j≠i:=fun j aC e=>by
  subst e;obtain⟨k,hk,I⟩:=aRN.1 aC;simp at hk I;omega
 have M:∀ l:List Nat,(∀ j∈l,j≠i)->cK (fun j=>tX ((σ.put i o).got j) (if j=i then L else OL j)) l=cK (fun j=>tX (σ.got j) (OL j)) l:=fun l=>by
  induction l with
  | nil=>intro _;rfl
  | cons a l AQ =>
   intro h;have Y:=h a sp;show tX ((σ.put i o).got a) (if a=i then L else OL a)++_=tX (σ.got a) (OL a)++_;rw [show (σ.put i o).got a=σ.got a by simp [bE.put,Y],if_neg Y];exact congrArg _ (AQ fun j aC=>h j (by simp [aC]))
 unfold pR;rw [AA,J,J,M _ AB];have h1:=agK σ OL ((List.range n).take i);rw [hl] at h1;have key:∀ P Q S N:List Value,P.length=i * 4->Q.length=N.length->(P++(Q++S)).take (i * 4)++N++(P++(Q++S)).drop (i * 4+N.length)=P++(N++S):=fun P Q S N AU AV=>by
  rw [<- AU,List.take_left,<- List.append_assoc P Q S,show P.length+N.length=(P++Q).length by simp [AV],List.drop_left,List.append_assoc]
 have AX:=key _ (tX (σ.got i) (OL i)) (cK (fun j=>tX (σ.got j) (OL j)) ((List.range n).drop (i+1))) (jd o L) h1 (Qr _ _);refine AX.trans ?_;rw [show cK (fun j=>tX ((σ.put i o).got j) (if j=i then L else OL j)) (i :: (List.range n).drop (i+1))=tX ((σ.put i o).got i) (if i=i then L else OL i)++cK (fun j=>tX ((σ.put i o).got j) (if j=i then L else OL j)) ((List.range n).drop (i+1)) from rfl,M _ AP,if_pos rfl,show (σ.put i o).got i=some o by simp [bE.put]];rfl
theorem kD.V3 (hc:c.Ok) (h:kD c w (i :: us) σ aW aF) (aB:i ∉ us) {L:kI} (aG:ny w c.l.T (bG c.W i) L) (aKf:i∈σ.dY++aW) (jH:∀ j,ym c.W i j->σ.begun j=true) (av:(bG c.W i).kind=1->xD c.W σ i)
  {OL:Nat->kI} (aN:aM w c.l.eO (pR σ OL c.n) 63) (bC:∀ i o,σ.got i=some o->ny w c.l.T o (OL i)/\∀ q,bM (OL i).B=some q->aF q) (dZ:aM w1 c.l.eO (pR (σ.put i (bG c.W i)) (fun j=>if j=i then L else OL j) c.n) 63) (az:fV c.l.eO w w1):kD c w1 us (σ.put i (bG c.W i)) aW (fun q=>aF q\/bM L.B=some q):=by
 refine⟨h.fO.turned hc aN az (.inr (.inr (.inl rfl))) dc dc rfl rfl rfl (h.fO.begun.dG az hc.ne.2.2) ⟨_,dZ,fun j o e=>?_⟩ (fun q h=>.inl h),h.inv.put aB jH av,h.log.put aKf,fun j aC=>(h.kept j aC).mono (fun _ h=>h) (fun _ h=>h)⟩;by_cases J:j=i
 ·subst J;have I:o=bG c.W j:=by simpa [bE.put] using e.symm
  subst I;simp only [if_pos];exact⟨⟨gX aG.outs aN dc az,gX aG.reads aN dc az⟩,fun q M=>.inr M⟩
 ·simp only [if_neg J];have I:σ.got j=some o:=by simpa [bE.put,J] using e
  exact⟨⟨gX (bC j o I).1.outs aN dc az,gX (bC j o I).1.reads aN dc az⟩,fun q M=>.inl ((bC j o I).2 q M)⟩
end
end Go.Proofs.YtjkinjbkknanbaaGreatDoor
