/- Pk -/
import Derived.Test.YtjkinjbkknanbaaGreatDoorSj
set_option maxRecDepth 100000
set_option maxHeartbeats 8000000
set_option linter.unusedSimpArgs false
set_option linter.unusedVariables false
namespace Go.Proofs.YtjkinjbkknanbaaGreatDoor
open Go.Proofs.Tryz
variable {cz V:aRW} {L:kI} {B i B0 q eO T:Nat} {bR σ:bE} {OL:Nat->kI} {c:dF} {l:pE} {w W w' uK:aRU} {aF:aR1} {k:jE} {bX:x8} {S:uC} {met:List ak} {bF:Nat->Bool} {has:ak->Bool} {gm:aRV} {aW:aRZ} {F fs:List (ak × ak)} {p:ak} {G:Nat->Option iU}
section
open Go.Maps Go.RowKit Go.Shelf
theorem awI (k y:Int) (A:aRV) (n c:Nat):prog.built 63 [(0,.int .i64 k),(1,.int .i64 y),(3,.slice A n c)]=some ([.int .i64 k,.int .i64 y,.slice none 0 0,.slice A n c]:aRW).toArray:=kr
section
variable {c:dF} (hc:c.Fit) {l:pE} (hl:l.Ok) {i:Nat} {x:kH} {w:aRU} {us:aRZ} {σ:bE} {aF:aR1} {gy jO ma og:Nat} {wr w':aRU} {s:dC} {bK:List dB} {nZ:Nat} {iO:oh} {kV:aRV} {qZ:Nat}
theorem vU.fin (hl:l.Ok) (h:vU c l i x w us σ aF gy jO ma og wr s bK bK nZ iO kV qZ) (ay:i ∉ us) (fQ:i < c.n) (bf:l.T<=B/\w.heap.size<=B) (heq:cz=jd (bG c.W i) L) (bU:ny wr B (bG c.W i) L) (jH:∀ bR:bE,xW c.W bR i nZ->∀ j,ym c.W i j->bR.begun j=true) (az:fV jO wr w') (bJ:gy≠jO):∃ bR eP OL n,Qv c l i w us σ aF gy jO cz 0 w' bR eP L OL n:=by obtain⟨bR,eP,h1,I,Y,AA,AB,Ac,Ad,AP⟩:=h.all;have J:=h.lay;have M:=h1.at_.own hl h.out az om dc dc;obtain⟨OL,n,AQ,AU,AV⟩:=M.over;exact⟨bR,eP,OL,n,M,AQ,AU,AV,h1.inv,⟨az.1.trans I.os,az.2.1.trans I.tape,az.2.2.1.trans I.output,by rw [az.2.2.2.1];exact I.size,fun k AX AZ=>(az.2.2.2.2 k om).trans (I.keep k AX AZ)⟩,Y,AA,AB,heq,⟨(gX bU.outs h.out dc az).mono bf.1,(gX bU.reads h.out dc az).mono bf.1⟩,fun q Aa=>aQG bf.2 (Aa.elim (fun h=>(bU.outs.block q h).1) fun h=>(bU.reads.block q h).1),jH bR AP,h.res.dG az bJ,⟨J.2.2.2.1,J.2.2.2.2.1,J.2.2.2.2.2.2,ay,fQ,om⟩⟩
theorem Qv.waited (hl:l.Ok) {eP:aR1} {n:Nat} {rZ:aRU} (h:Qv c l i w us σ aF gy jO cz 0 rZ bR eP L OL n) {mJ:Nat} {f QY:Nat->Option ByteArray} (aB:mJ+GU bR c.n<=c.n) (hm:kz rZ Value.string l.Cq mJ f) (yh:kz w' Value.string l.Cq (mJ+1) QY) (az:fV l.Cq rZ w'):Qv c l i w us σ aF gy jO cz 1 w' bR eP L OL n:=by obtain⟨M,I,J⟩:=hm.obj;have Y:=hl.low _ (.inr (.inr rfl));exact⟨h.at_.waited hl aB hm yh az,h.few,h.map.dG az hl.ne.2.1,fun j o e=>⟨(h.rows j o e).1.Oc az I J,(h.rows j o e).2⟩,h.inv,h.kJ.trans (.dG az (.inr (.inr rfl))),h.begun,h.got,h.vS,h.eq,h.own.Oc az I J,h.fresh,h.closed,h.res.dG az (by have:=h.lay;omega),by have:=h.lay;exact⟨this.1,this.2.1,this.2.2.1,this.2.2.2.1,this.2.2.2.2.1,om⟩⟩
theorem vU.over (hc:c.Fit) (h:vU c l i x w us σ aF gy jO ma og wr s bK bK nZ iO kV qZ) (fQ:i < c.n) (sj:c.X.getD i l8=x.2) (gD:s.over=true):s.out=bG c.W i/\s.wrote.length<=1000/\s.reads.length<=1000/\(∀ y∈s.wrote,y.1.length<=1100000)/\∀ bR:bE,xW c.W bR i bK.length->∀ j,ym c.W i j->bR.begun j=true:=by obtain⟨J,M⟩:=h.pos.over hc gD;have hw:=h.pos.way hc sj;obtain⟨y,hy,I,_⟩:=NP c fQ;rw [sj] at I;have hf:=hc.kE.fair y (aQK hy);rw [<- I] at hf;have AA:=hw.1.alo;have AB:(lh x.2).outs.length<=200:=hf.outs;have AP:=(h.pos.few hc fQ).1;exact⟨J,om,by rw [hw.2.2,List.length_map];omega,fun z Y=>hf.AR _ (hw.1.wrote z Y).2,fun bR h=>M h⟩
theorem Te.leave (hl:l.Ok) {rZ:aRU} {eP:aR1} (h:Te c l i w us (σ.push i) aF gy cz rZ bR eP L) (hc:c.Fit) (ax:aM rZ gy cz 63) (ay:Sz 63 cz.length) {fn:Func} {a:Act} {t:Tmp} {ty:TypeId} {co:Array Bool} {tY:Nat} (hm:tY=l.tY)
  (hf:fn.results=#[.cell t 63]/\a.tmps.getD t undef = .pointer (some ⟨gy,0,none⟩)/\a.defers=[⟨.builtin .delete #[111,3] ty co,#[.map (some tY),.int .i64 (i:Int)]⟩]):ag7 prog fn (YA c l w us σ aF i) .ret a rZ:=by
 obtain⟨AP,h1,J,M,σ',fe,Y,AA,I,AB⟩:=h.gone hl hc ax ty co;rw [hm] at hf;exact aLc J underlying63 rfl ay hf h1 ⟨M,σ',fe,Y,AA,⟨I.st,I.kJ,fun j aC=>I.begun j (by simp [bE.push,aC]),I.got,I.vS⟩,AB⟩
end
theorem aLe (hc:c.Fit) (hl:l.Ok) {us:aRZ} (hs:yF c l w us σ aF) (fQ:i < c.n) (ae:σ.begun i=false) (ax:yT c.W c.dN i) (hf:∀ x∈us,xS c.W x i) (iK:∀ k,rJ σ c.n=k+1->ag6 c l k) :
  Calls prog 60 #[pp l.X 0,.int .i64 i] w (YA c l w us σ aF i):=by
 obtain⟨x,ah,sj,_⟩:=NP c fQ;obtain⟨m,hm⟩:∃ m,rJ σ c.n=m+1:=⟨rJ σ c.n - 1,by have:=abS fQ ae;omega⟩;have iK:=iK m hm;have Fz:rJ (σ.push i) c.n<=m:=by have:=abS fQ ae;omega
 have DR:i ∉ us:=fun h=>by have:=((hs.inv.under i).1 h).1;rw [ae] at this;cases this
 have EU:σ.got i=none:=by
  cases e:σ.got i with
  | none=>rfl
  | some o=>have:=(hs.inv.right i o e).2;rw [ae] at this;cases this
 have BZ:i < 1000:=by have:c.n<=10:=hc.kE.nZ;omega
 have Co:=aQK ah;have DT:x.2∈c.X:=aQO.2 ⟨x,Co,rfl⟩;have EX:abk (lh x.2) x.2.ins x.2.asks:=by have h1:=hc.work.few _ DT;have J:=hc.kE.fair x Co;exact⟨hc.env _ DT,rfl,rfl,⟨om,om,by show x.2.outs.length<=1000;omega⟩,J.Cz,J.AR⟩
 have G8:=af2 (L9 hc.work.small) (af3 hc.work.small);obtain⟨aH,Bi⟩:=ai (w.alloc (.cells iN.toArray 63));have Bj:=gQ Bi;have EY:=kY Bi;obtain⟨X,aX,pF,Bn,tY,Bp,Cq,DU,bW,Db,G9,Ea⟩:=nq6 l.X l.pF l.tY l.Cq c.n l.bX.d;have IP:(i:Int) < bW:=by rw [Db];omega
 have IQ:(0:Int)<=i:=om;obtain⟨Bq,Cr⟩:=ai iN;have Ec:Bq.length=4:=by rw [Cr];rfl
 have GD:Sz 63 Bq.length:=by rw [Ec];exact kr
 have GG:∀ v∈Bq,v.oneCell'=true:=by rw [Cr];simp [iN,Value.oneCell']
 obtain⟨Ee,Dc⟩:=ai (vH x);have GH:aH.cell? (ad X 4)=some (.map (some pF)):=by rw [aX,Bn];exact (hs.at_.all hl Bj).cells.2.2.1
 have GI:(Instr.lookup 110 (.map (some pF)) (.int .i64 (i:Int)) true).run prog aH = .ok (.tuple #[.agg Bq.toArray,.bool false]) aH:=by obtain⟨OL,n,_,J,_⟩:=(hs.at_.all hl Bj).over;have:=J.look_ok Yz BZ underlying110 iN kr;rw [EU] at this;rw [Cr,Bn];exact this
 obtain⟨il,GK⟩:=ai l.bX.B;obtain⟨b,o,De,_⟩:=(hs.at_.work w (fun _ _ _=>rfl)).dA.load ah;have GL:=aa (fun (af aD:aRU) (J:Bl w af) (n:Nat) (GQ:n+rJ σ c.n<=c.n) (AV:kz af Value.bool tY n (fun i=>if i∈us then some true else none)) (Ak:kz aD Value.bool tY (n+1) (fun j=>if j=i then some true else if j∈us then some true else none)) (Ef:fV tY af aD)=>show yF c l aD (i :: us) (σ.push i) aF from by
  rw [Bp] at AV Ak Ef;exact⟨(hs.at_.all hl J).amP hl fQ ae GQ AV Ak Ef,hs.inv.push ae ax hf⟩);have Bb:=aa (fun (aD:aRU) (U:aRZ) (bR:bE) (eP:aR1) (kw:Nat) (h:qY c l kw aD U bR eP)=>show aD.cell? (ad X 1)=some (.slice (some ⟨b,o,none⟩) bW G9)/\aD.cell? (ad X 4)=some (.map (some pF))/\aD.cell? (ad X 5)=some (.map (some tY))/\aD.cell? (ad X 6)=some (.map (some Cq))/\(loadVar 45 ⟨b,o+i * 7,none⟩).run prog aD = .ok (.agg Ee.toArray) aD from by
  obtain⟨IU,Br,Ct,GV,GX⟩:=h.cells;obtain⟨IV,IX,Ei,Ak⟩:=(h.work aD (fun _ _ _=>rfl)).dA.load ah;rw [De] at Ei;cases Ei;rw [aX,Bn,Bp,DU,Db,Ea,Dc];refine⟨?_,Ct,GV,GX,Ak⟩;rw [Br,De];rfl);have Ga:=aa (fun (AZ:aRU) (U:aRZ) (bR:bE) (eP:aR1) (h:yF c l AZ U bR eP)=>show Calls prog 93 #[.agg Ee.toArray] AZ fun e w'=>∃ iO:oh,iO.B=AZ.heap.size/\e = .returned (.tuple #[pp iO.X 0,.int .i64 0])/\iF w' iO (lh x.2) x.2.ins x.2.asks (dC.start (lh x.2) x.2.tool)/\Bl AZ w' from by
  have hA:=(h.at_.work AZ (fun _ _ _=>rfl)).dA.each x Co;rw [Dc];refine (at7 AZ x hA (lh x.2) ⟨rfl,rfl⟩ EX _ G8 (hc.kE.fair x Co).tool (h.at_.home.up (aQG hl.base.1 h.at_.size))).mono ?_;rintro e w' (⟨h1,_⟩ | ⟨_,iO,J,AV,Ak,Cu⟩)
  ·exact absurd (hc.work.dA _ DT).tool h1
  ·exact⟨iO,J,AV,Ak,Cu⟩);have Gb:=aa (fun af (J:Bl w af)=>show af.cell? (ad X 5)=some (.map (some tY)) from (Bb.o af _ _ _ _ (hs.at_.all hl J)).2.2.1);obtain⟨mI,Gc,Dg⟩:=(hs.at_.all hl Bj).way;have Gd:mI < maxLen:=by have:c.n<=10:=hc.kE.nZ;unfold maxLen;omega
 rw [<- Bp] at Dg;obtain⟨Ej,Gg,Gi⟩:=hq3 Dg EY Bj;have Av:=aa hs.at_.size;obtain⟨Gm,AX,Bt,C8,Bc⟩:=hq5 aX Bn Bp DU sj;rw [<- aX];rw [show iN.toArray=#[.int .i64 0,.int .i64 0,.slice none 0 0,.slice none 0 0] from rfl] at Bi;have IZ:=Bi.symm;clear Bi aX Bn Bp DU EY Bj hs Db Ea Cr Dc De GK Dg sj EU ax hf;refine awG func60 rfl ?_;simp only [ntmps60,List.size_toArray,List.length_cons,List.length_nil,Nat.reduceAdd,Nat.reduceSub,Array.replicate_succ,Array.replicate_zero,List.push_toArray,List.append_toArray,List.nil_append,List.cons_append];go_wp2_with fail;go_step3;go_wp2_with (first|((with_reducible refine qR Bq Ec GD GG ?_);intro af Dh _;have El:=aa (Ej.o.keep (Dh.o.block _ Ej.o.lt));have Di:=aU Gi.o Dh.o;have Dj:=Gb.o af Di;have Em:=aa Di;clear GH GI Di)|((with_reducible refine acD anf El.o BZ underlying111 Gd true ?_ ?_);exact⟨rfl,rfl,rfl⟩;intro aD CF Cv;have D8:=aa (GL.o af aD Em.o mI Gc El.o CF Cv);clear Dj;obtain⟨Gn,_,Dj,_,En⟩:=Bb.o aD _ _ _ _ D8.o.at_;have Gp:=aa En;have Dk:=aa ((Gg.o.all Dh.o).dG Cv (by have:=(hl.low _ (.inr (.inl rfl))).2;have:=Av.o;have:=Bt.o;omega));have Eo:=aa ((tH.gN Em.o).trans (tH.dG (l:=l) Cv (by rw [Bt.o];exact .inr (.inl rfl))));clear CF Cv En)|((with_reducible refine pO Gp.o ?_ ?_);exact rfl)|(go_at_call 93; refine (Ga.o aD _ _ _ D8.o).mono ?_;rintro e AZ ⟨iO,Er,rfl,Es,Ev⟩;obtain⟨Gq,Ew,Dp⟩:=hq3 Er Es Ev;obtain⟨ma,Dq⟩:=ai iO.X;rw [<- Dq];have Gs:=aa Dq;clear Er Es Ev Dq Gn Dj));go_step3;go_wp2_with fail;obtain⟨bn,DF⟩:=ai (AZ.alloc (.cells #[.int .i64 0,.int .i64 0,.slice none 0 0,.slice none 0 0] 63));try rw [<- DF]
 obtain⟨jO,DI⟩:=ai AZ.heap.size;try rw [<- DI]
 obtain⟨gy,Dr⟩:=ai w.heap.size;try rw [<- Dr]
 have Gt:=aa DI;have Gu:=aa Dr;have Dt:=aa (show gy≠jO from fun e=>by have h1:=Dk.o.lt;have J:=Dp.o.size;omega);have Ex:=aa (gQ DF);have Gv:=aa (show aM bn jO iN 63 by rw [DF,DI];exact aM.new AZ iN _);clear DF DI Dr;go_loopg [10] 502 (fun H5 H9 wr=>∃ (s:dC) (bK:List dB) (iO:oh) (kV:aRV) (qZ:Nat),bK.length+H5=502/\H9 = .slice kV bK.length qZ/\vU c l i x w us (σ.push i) aF gy jO ma aD.heap.size wr s bK bK bK.length iO kV qZ);case atStart =>
  have Du:=aU Dp.o Ex.o;have bY:=Av.o;have Ia:=Eo.o.size;have av:=Gu.o;have Ie:=Gt.o;have Ig:=Dk.o.lt;have HY:=Gq.o;have Ak:=Dp.o.size;refine⟨dC.start (lh x.2) x.2.tool,[],iO,none,0,rfl,rfl,⟨⟨σ.push i,(fun q=>aF q/\q < aD.heap.size),⟨D8.o.at_.cut.all hl Du,D8.o.inv⟩,Eo.o.trans (.gN Du),fun _ h=>h,fun _ _=>rfl,fun q h=>.inl h.1,fun q Be h=>?_,fun q Be=>(by cases Be),xW.zero⟩,Ew.o.below Ex.o,⟨Gs.o.symm,HY,om,om,om,om,bY⟩,Own.nil _ _ _ _,fun q Be=>(by cases Be),by rw [av];exact Dk.o.all Du,Gv.o,sw.start Bc.o,fun _ h=>(by cases h)⟩⟩;have h1:=(Ew.o.reads.block q Be).1;have J:=h.2;omega
 case round =>
  obtain⟨s,bK,Aa,kV,qZ,Be,rfl,F3⟩:=hrel;have Ac:=aa F3;clear F3;obtain⟨Ao,Ad⟩:=ai bK.length;have BS:=aa (show CB 94 #[pp ma 0] wr (.tuple #[.string (aA (if s.over=true then [] else s.asks)),.bool (!s.over)]) from by
   rw [<- Ac.o.lay.1];exact alx Ac.o.box);cases Al:s.over with
  | true =>
   obtain⟨F4,F5,DJ,F6,Az⟩:=Ac.o.over hc fQ Bc.o Al;rw [Al,if_pos rfl,Bool.not_true] at BS;have Ha:=aa (fun (I:aRU) (h:vU c l i x w us (σ.push i) aF gy jO ma aD.heap.size I s bK bK bK.length Aa kV qZ)=>show Calls prog 95 #[pp ma 0] I fun e w'=>∃ L:kI,e = .returned (.tuple #[.agg (jd (bG c.W i) L).toArray,.bool true])/\ny w' I.heap.size (bG c.W i) L/\Bl I w' from by
    rw [<- F4,<- h.lay.1];exact aun h.box Al F5 DJ F6);have CG:=aa Az;rw [<- Ad];clear F4 F5 DJ F6 Az Ad;go_upto_region 21 with (first|(go_at_call 94; refine BS.o.mono ?_;rintro e I ⟨rfl,Ae⟩;have Ap:=aa (Ac.o.below hl Ae);clear Ae)|(go_at_call 95; refine (Ha.o I Ap.o).mono ?_;rintro e DN ⟨L,rfl,FB,FC⟩;obtain⟨cz,AB⟩:=ai (jd (bG c.W i) L);rw [<- AB];have CJ:=aa AB;have Hd:=aa FB;have BB:=aa (Ap.o.below hl FC);have He:=aa BB.o.out;have BC:cz.length=4:=(by rw [AB];rfl);have Af:Sz 63 cz.length:=(by rw [BC];exact kr);have Ag:∀ v∈cz,v.oneCell'=true:=(by rw [AB];simp [jd,Value.oneCell']);have BD:cz.length=iN.length:=BC;clear FB FC AB)|((with_reducible refine vF cz He.o Af BD Ag ?_);intro AA BF Hf))
   obtain⟨bR,eP,OL,n,Am⟩:=BB.o.fin hl DR fQ (by obtain⟨_,_,Br,Dv,_⟩:=Ap.o.all;exact⟨Br.at_.size,Dv.size⟩) CJ.o Hd.o CG.o Hf.o Dt.o;have BG:=aa Am;clear Am;have BH:=aa (fun af (ae:Bl AA af)=>show af.cell? (ad X 4)=some (.map (some pF)) from (Bb.o af _ _ _ _ (BG.o.at_.all hl ae)).2.1);have Bf:(cz.drop 0).take cz.length=cz:=by simp
   have AQ:=aa Af;have CK:=aa Ag;clear Af Ag;have kR:=BH;refine nz nH 6 [some (pp X 0),some (pp X 0),some (pp X 4),some (.map (some pF)),some (.int .i64 i),some (.agg cz.toArray)] (fun _ _ _=>False) (Bl AA) Bl ((Below.refl _ AA).drew) (fun j v w1 af ae h=>h.elim) ?_ (jI:=?_)
   ·intro u21 CL aj CQ;clear CQ;have Y:=aa (BG.o.below hl aj);have CS:=aa (BF.o.all aj);have CU:=aa (show kz CL FE pF n (fun j=>(bR.got j).map fun o=>jd o (OL j)) by rw [AX.o];exact Y.o.map);have CV:n < maxLen:=by have h1:=Y.o.few;have J:c.n<=10:=hc.kE.nZ;unfold maxLen;omega
    have FF:pF < w.heap.size:=by have h1:=(hl.low _ (.inl rfl)).2;have J:=Av.o;have AV:=AX.o;omega
    clear aj;go_wp2_with (first|((with_reducible refine acD Yz CU.o BZ underlying110 CV cz ?_ ?_);exact⟨rfl,rfl,rfl⟩;intro FI BK AU;obtain⟨FJ,FK,BL⟩:=Y.o.V3 hl (by rw [<- AX.o];exact AU) (by rw [<- AX.o];exact BK);have CW:=aa BL;have CY:=aa (CS.o.dG AU (by have:=Y.o.lay;omega));have BN:=aa (Y.o.res.dG AU (by have:=Y.o.lay;omega));clear BK AU BL)|(with_reducible refine kG CY.o underlying63 AQ.o ?_)|((with_reducible refine Jn cz BN.o AQ.o BD CK.o ?_);intro FO BO BP;have CZ:=aa BO;have Ca:=aa (CW.o.stored hl BN.o BP);clear BO BP));exact Ca.o.leave hl hc CZ.o AQ.o Bt.o ⟨rfl,rfl,rfl⟩
   ·repeat' (first | exact trivial | apply And.intro)
    all_goals try exact rx
    all_goals intro eQ u af aj aL bz K aR
    all_goals try simp [iX,Region.binds] at bz
    all_goals refine mg rfl ?_
    all_goals have Ct:=BH.o af aj
    ·refine wp_load_row jO 0 cz cz _ (BF.o.all aj) Bf _ underlying63 AQ.o ⟨rfl,by simp [Act.eval,aL],rfl⟩ ?_;exact aR _ _ rfl aj (Below.refl _ _)
  | false =>
   rw [Al,if_neg dc,Bool.not_false] at BS;have has:=Ac.o.pos.asks hc fQ Bc.o Al;obtain⟨P,Cc⟩:=ai (aA s.asks);have Ih:Ao < 500:=om;have Bg:=aa (fun (I:aRU) (h:vU c l i x w us (σ.push i) aF gy jO ma aD.heap.size I s bK bK bK.length Aa kV qZ)=>show Calls prog 38 #[pp X 0,.string P] I fun e w'=>e = .returned (.tuple #[.agg (iA (oW (fD c.W s.asks) s.asks).2).toArray,.int .i64 (oW (fD c.W s.asks) s.asks).1])/\vU c l i x w us (σ.push i) aF gy jO ma aD.heap.size w' s bK bK (bK.length+1) Aa kV qZ from by
    rw [Gm.o,Cc];exact h.comes hl iK Fz fQ Bc.o hc Al);rw [<- Cc] at BS;cases hA:fD c.W s.asks with
   | known k =>
    rw [hA] at Bg;obtain⟨bI,AP,jY,Ce,FP,FR⟩:=nq3 (iA k) (iq (gJ k)) (s.mE (lh x.2) k);have BU:=aa (Ac.o.pos.step hc Bc.o Al hA);have Cf:=aa (fun (I:aRU) (h:vU c l i x w us (σ.push i) aF gy jO ma aD.heap.size I s bK bK bK.length Aa kV qZ)=>show Calls prog 38 #[pp X 0,.string P] I fun e w'=>e = .returned (.tuple #[.agg bI.toArray,.int .i64 1])/\vU c l i x w us (σ.push i) aF gy jO ma aD.heap.size w' s bK bK (bK.length+1) Aa kV qZ from by
     rw [AP];exact Bg.o I h);have Hl:=aa (fun (W:aRU)=>show CB 96 #[.agg bI.toArray] W (.agg jY.toArray) from by
     rw [AP,Ce];exact aK5 W k (by have:=BU.o.2.2.1;omega));have Hm:=aa (fun (AA:aRU) (A9:aRV) (c9:Nat) (Cg:vU c l i x w us (σ.push i) aF gy jO ma aD.heap.size AA s bK (bK++[k]) (bK.length+1) Aa A9 c9)=>show CR 97 #[pp ma 0,.agg bI.toArray] AA (.int .i64 0) fun w'=>∃ Dw,vU c l i x w us (σ.push i) aF gy jO ma aD.heap.size w' FP (bK++[k]) (bK++[k]) (bK.length+1) Dw A9 c9 from by
     have hw:=Cg.pos.way hc Bc.o;obtain⟨bR,eP,h1,_⟩:=Cg.all;have FU:=Cg.lay;rw [AP,<- FU.1];refine (aud EX Cg.box hw.1 (h1.at_.home.up (by have:=hl.base.1;omega)) hw.2.1 Al k BU.o.2.1 (fun _=>BU.o.2.2.1) (by have:=BU.o.2.2.1;omega) BU.o.2.2.2 (fun p _=>aQG (af1 (L9 hc.work.small) p) om)).mono ?_;rintro e w' ⟨rfl,bV,rc,J,AV,Ak⟩;refine⟨rfl,{ Aa with bV:=bV,rc:=rc },?_⟩;rw [FR];have Cu:=Cg.given hl BU.o.1 BU.o.2.2.1 J AV Ak;rw [FU.1] at Cu |-;exact Cu);have hlen:bI.length=3:=by rw [AP];rfl
    have BX:Sz 80 bI.length:=by rw [hlen];exact JE
    have Cj:∀ v∈bI,v.oneCell'=true:=by rw [AP];simp [iA,Value.oneCell']
    have Bf:(bI.drop 0).take bI.length=bI:=by simp
    have DJ:jY.length=34:=by rw [Ce];exact zW _
    have Ho:∀ v∈jY,v.oneCell'=true:=by rw [Ce];exact FZ _
    have hcs:(Value.agg jY.toArray).cells.size=34:=by simp [Value.cells,DJ]
    have Hq:=aa Ce;have Bh:=aa Ad;rw [<- Ad];clear AP Cc Ad FR hA has Ce;go_wp2_with (first|(go_at_call 94; refine BS.o.mono ?_;rintro e I ⟨rfl,Ae⟩;have Ap:=aa (Ac.o.below hl Ae);clear Ae)|(go_at_call 38; refine jr (Cf.o I Ap.o) ?_;intro DN BB)|((with_reducible refine qR bI hlen BX Cj ?_);intro Dz Hr FV;have Ah:=aa (BB.o.below hl Hr.o))|(with_reducible refine kG FV.o underlying80 BX ?_)|(go_at_call 96; refine (Hl.o Dz).mono ?_;rintro e AA ⟨rfl,E5⟩;have Hy:=aa (Ah.o.below hl E5);have I1:=aa (FV.o.all E5);clear E5)|((with_reducible refine Ba K6 (.agg jY.toArray) hcs rfl ?_);intro BR E8 E9;rw [qK] at E8;have FW:=aa E8;have EA:=aa (Hy.o.below hl E9);have EC:=aa (I1.o.all E9);have FY:=aa (show Own BR w.heap.size 135 34 kV Ao qZ (cK iq (bK.map gJ)) by rw [Bh.o];exact EA.o.read);have I4:=aa (show w.heap.size<=BR.heap.size by obtain⟨_,_,_,AV,_⟩:=EA.o.all;exact AV.size);clear E8 E9)|(at_builtin;have _t:=FW;go_must ((with_reducible refine vg 135 _ 34 56 underlying61 K6.info K6.zs w.heap.size kV Ao qZ (cK iq (bK.map gJ)) FY.o 1 jY (.slice (some ⟨AA.heap.size,0,none⟩) 1 1) (Src.slice underlying61 FW.o) Ho ?_ ?_ ?_ ?_ ?_);exact mV;omega;exact I4.o;exact⟨rfl,rfl⟩;intro EF EG Fa EH EJ Fe;have I7:=aa (EA.o.Qj hl (k:=k) (A9:=EF) (c9:=EG) (by rw [Hq.o,Bh.o] at EH;exact EH) EJ Fe);have I9:=aa (show aM Fa DN.heap.size bI 80 from (EJ.block _ EC.o.lt (fun e=>FY.o.ne EC.o dc e.symm)).trans EC.o);clear EH EJ Fe))|(with_reducible refine kG I9.o underlying80 BX ?_)|(go_at_call 97; refine (Hm.o Fa EF EG I7.o).mono ?_;rintro e Ii ⟨rfl,Dw,Fh⟩;have IA:=aa Fh;clear Fh));go_roundg (gk - 1);case rel =>
     exact⟨FP,bK++[k],Dw,EF,EG,by rw [List.length_append,List.length_singleton,<- Bh.o];have:=Bh.o;omega,by rw [List.length_append,List.length_singleton,<- Bh.o],by rw [List.length_append,List.length_singleton];exact IA.o⟩
    case measure=>have:=Bh.o;omega
   | below =>
    rw [hA] at Bg;obtain⟨Aq,EK,Az⟩:=Ac.o.pos.Xa hc Al (o:=Hz (bK.map gJ)) (.inl ⟨hA,rfl⟩);obtain⟨bI,AP⟩:=ai (iA ⟨s.asks,false,[]⟩);have Cf:=aa (fun (I:aRU) (h:vU c l i x w us (σ.push i) aF gy jO ma aD.heap.size I s bK bK bK.length Aa kV qZ)=>show Calls prog 38 #[pp X 0,.string P] I fun e w'=>e = .returned (.tuple #[.agg bI.toArray,.int .i64 2])/\vU c l i x w us (σ.push i) aF gy jO ma aD.heap.size w' s bK bK (bK.length+1) Aa kV qZ from by
     rw [AP];exact Bg.o I h);have hlen:bI.length=3:=by rw [AP];rfl
    have BX:Sz 80 bI.length:=by rw [hlen];exact JE
    have Cj:∀ v∈bI,v.oneCell'=true:=by rw [AP];simp [iA,Value.oneCell']
    obtain⟨cz,AB⟩:=ai ([Value.int .i64 2,.int .i64 16,.slice none 0 0,.slice kV Ao qZ]);have EL:=aa (show prog.built 63 [(0,.int .i64 2),(1,.int .i64 16),(3,.slice kV Ao qZ)]=some cz.toArray by rw [AB];exact awI _ _ _ _ _);have CJ:=aa (show cz=jd (bG c.W i) ⟨none,0,kV,qZ⟩ by rw [AB,<- Aq,Ad];simp [jd,Hz]);have EM:=aa (show (bG c.W i).outs=[] by rw [<- Aq];rfl);have EN:=aa (show (bG c.W i).reads=bK.map gJ by rw [<- Aq];rfl);have BC:cz.length=4:=by rw [AB];rfl
    have Af:Sz 63 cz.length:=by rw [BC];exact kr
    have Ag:∀ v∈cz,v.oneCell'=true:=by rw [AB];simp [Value.oneCell']
    have BD:cz.length=iN.length:=BC;have CG:=aa (fun (bR:bE) (h:xW c.W bR i (bK.length+1))=>Az h);rw [<- Ad];clear AP Cc Ad hA has AB Aq EK Az;go_upto_region 21 with (first|(go_at_call 94; refine BS.o.mono ?_;rintro e I ⟨rfl,Ae⟩;have Ap:=aa (Ac.o.below hl Ae);clear Ae)|(go_at_call 38; refine jr (Cf.o I Ap.o) ?_;intro DN BB)|((with_reducible refine qR bI hlen BX Cj ?_);intro Dz EO _;have Ah:=aa (BB.o.below hl EO.o);have ES:=aa Ah.o.out)|((with_reducible refine Rl (.int .i64 2) (.int .i64 16) (.slice kV Ao qZ) _ EL.o ?_ ?_);exact⟨rfl,rfl,rfl⟩)|((with_reducible refine Jn cz ES.o Af BD Ag ?_);intro AA Ck Cm;have BF:=aa Ck;obtain⟨bR,eP,OL,n,Am⟩:=Ah.o.fin hl DR fQ (by obtain⟨_,_,Br,Dv,_⟩:=Ah.o.all;exact⟨Av.o,aQF _⟩) CJ.o ⟨by rw [EM.o];exact Own.nil _ _ _ _,by rw [EN.o,List.length_map];exact Ah.o.read⟩ CG.o Cm Dt.o;have BG:=aa Am;clear Ck Cm Am))
    have BH:=aa (fun af (ae:Bl AA af)=>show af.cell? (ad X 4)=some (.map (some pF)) from (Bb.o af _ _ _ _ (BG.o.at_.all hl ae)).2.1);have Bf:(cz.drop 0).take cz.length=cz:=by simp
    have AQ:=aa Af;have CK:=aa Ag;clear Af Ag;have kR:=BH;refine nz nH 6 [some (pp X 0),some (pp X 0),some (pp X 4),some (.map (some pF)),some (.int .i64 i),some (.agg cz.toArray)] (fun _ _ _=>False) (Bl AA) Bl ((Below.refl _ AA).drew) (fun j v w1 af ae h=>h.elim) ?_ (jI:=?_)
    ·intro u21 CL aj CQ;clear CQ;have Y:=aa (BG.o.below hl aj);have CS:=aa (BF.o.all aj);have CU:=aa (show kz CL FE pF n (fun j=>(bR.got j).map fun o=>jd o (OL j)) by rw [AX.o];exact Y.o.map);have CV:n < maxLen:=by have h1:=Y.o.few;have J:c.n<=10:=hc.kE.nZ;unfold maxLen;omega
     have FF:pF < w.heap.size:=by have h1:=(hl.low _ (.inl rfl)).2;have J:=Av.o;have AV:=AX.o;omega
     clear aj;go_wp2_with (first|((with_reducible refine acD Yz CU.o BZ underlying110 CV cz ?_ ?_);exact⟨rfl,rfl,rfl⟩;intro FI BK AU;obtain⟨FJ,FK,BL⟩:=Y.o.V3 hl (by rw [<- AX.o];exact AU) (by rw [<- AX.o];exact BK);have CW:=aa BL;have CY:=aa (CS.o.dG AU (by have:=Y.o.lay;omega));have BN:=aa (Y.o.res.dG AU (by have:=Y.o.lay;omega));clear BK AU BL)|(with_reducible refine kG CY.o underlying63 AQ.o ?_)|((with_reducible refine Jn cz BN.o AQ.o BD CK.o ?_);intro FO BO BP;have CZ:=aa BO;have Ca:=aa (CW.o.stored hl BN.o BP);clear BO BP));exact Ca.o.leave hl hc CZ.o AQ.o Bt.o ⟨rfl,rfl,rfl⟩
    ·repeat' (first | exact trivial | apply And.intro)
     all_goals try exact rx
     all_goals intro eQ u af aj aL bz K aR
     all_goals try simp [iX,Region.binds] at bz
     all_goals refine mg rfl ?_
     all_goals have Ct:=BH.o af aj
     ·refine wp_load_row jO 0 cz cz _ (BF.o.all aj) Bf _ underlying63 AQ.o ⟨rfl,by simp [Act.eval,aL],rfl⟩ ?_;exact aR _ _ rfl aj (Below.refl _ _)
   | stuck =>
    rw [hA] at Bg;obtain⟨Aq,EK,Az⟩:=Ac.o.pos.Xa hc Al (o:=DY (bK.map gJ)) (.inr ⟨hA,rfl⟩);obtain⟨bI,AP⟩:=ai (iA ⟨s.asks,false,[]⟩);have Cf:=aa (fun (I:aRU) (h:vU c l i x w us (σ.push i) aF gy jO ma aD.heap.size I s bK bK bK.length Aa kV qZ)=>show Calls prog 38 #[pp X 0,.string P] I fun e w'=>e = .returned (.tuple #[.agg bI.toArray,.int .i64 3])/\vU c l i x w us (σ.push i) aF gy jO ma aD.heap.size w' s bK bK (bK.length+1) Aa kV qZ from by
     rw [AP];exact Bg.o I h);have hlen:bI.length=3:=by rw [AP];rfl
    have BX:Sz 80 bI.length:=by rw [hlen];exact JE
    have Cj:∀ v∈bI,v.oneCell'=true:=by rw [AP];simp [iA,Value.oneCell']
    obtain⟨cz,AB⟩:=ai ([Value.int .i64 3,.int .i64 11,.slice none 0 0,.slice kV Ao qZ]);have EL:=aa (show prog.built 63 [(0,.int .i64 3),(1,.int .i64 11),(3,.slice kV Ao qZ)]=some cz.toArray by rw [AB];exact awI _ _ _ _ _);have CJ:=aa (show cz=jd (bG c.W i) ⟨none,0,kV,qZ⟩ by rw [AB,<- Aq,Ad];simp [jd,DY]);have EM:=aa (show (bG c.W i).outs=[] by rw [<- Aq];rfl);have EN:=aa (show (bG c.W i).reads=bK.map gJ by rw [<- Aq];rfl);have BC:cz.length=4:=by rw [AB];rfl
    have Af:Sz 63 cz.length:=by rw [BC];exact kr
    have Ag:∀ v∈cz,v.oneCell'=true:=by rw [AB];simp [Value.oneCell']
    have BD:cz.length=iN.length:=BC;have CG:=aa (fun (bR:bE) (h:xW c.W bR i (bK.length+1))=>Az h);rw [<- Ad];clear AP Cc Ad hA has AB Aq EK Az;go_upto_region 21 with (first|(go_at_call 94; refine BS.o.mono ?_;rintro e I ⟨rfl,Ae⟩;have Ap:=aa (Ac.o.below hl Ae);clear Ae)|(go_at_call 38; refine jr (Cf.o I Ap.o) ?_;intro DN BB)|((with_reducible refine qR bI hlen BX Cj ?_);intro Dz EO _;have Ah:=aa (BB.o.below hl EO.o);have ES:=aa Ah.o.out)|((with_reducible refine Rl (.int .i64 3) (.int .i64 11) (.slice kV Ao qZ) _ EL.o ?_ ?_);exact⟨rfl,rfl,rfl⟩)|((with_reducible refine Jn cz ES.o Af BD Ag ?_);intro AA Ck Cm;have IE:=aa Ck;obtain⟨bR,eP,OL,n,Am⟩:=Ah.o.fin hl DR fQ (by obtain⟨_,_,Br,Dv,_⟩:=Ah.o.all;exact⟨Av.o,aQF _⟩) CJ.o ⟨by rw [EM.o];exact Own.nil _ _ _ _,by rw [EN.o,List.length_map];exact Ah.o.read⟩ CG.o Cm Dt.o;have Fj:=aa Am;obtain⟨Fq,f3,Fu,CF⟩:=Am.at_.waits;have Fv:=aa (show kz AA Value.string Cq Fq f3 by rw [C8.o];exact CF);have IK:=(Bb.o AA _ _ _ _ Am.at_).2.2.2.1;have IL:Fq < maxLen:=(by have J:c.n<=10:=hc.kE.nZ;unfold maxLen;omega);have IM:=aa Fu;clear CF Fu;clear Ck Cm Am)|((with_reducible refine acD str_inj Fv.o BZ underlying112 IL P ?_ ?_);exact⟨rfl,rfl,rfl⟩;intro BR Fy ET;have BG:=aa (Fj.o.waited hl IM.o (by rw [<- C8.o];exact Fv.o) (by rw [<- C8.o];exact Fy) (by rw [<- C8.o];exact ET));have BF:=aa (IE.o.dG ET (by have h1:=(hl.low _ (.inr (.inr rfl))).2;have J:=Av.o;have AV:=C8.o;have Ak:=Fj.o.lay;omega));clear Fy ET IK))
    have BH:=aa (fun af (ae:Bl BR af)=>show af.cell? (ad X 4)=some (.map (some pF)) from (Bb.o af _ _ _ _ (BG.o.at_.all hl ae)).2.1);have Bf:(cz.drop 0).take cz.length=cz:=by simp
    have AQ:=aa Af;have CK:=aa Ag;clear Af Ag;have kR:=BH;refine nz nH 6 [some (pp X 0),some (pp X 0),some (pp X 4),some (.map (some pF)),some (.int .i64 i),some (.agg cz.toArray)] (fun _ _ _=>False) (Bl BR) Bl ((Below.refl _ BR).drew) (fun j v w1 af ae h=>h.elim) ?_ (jI:=?_)
    ·intro u21 CL aj CQ;clear CQ;have Y:=aa (BG.o.below hl aj);have CS:=aa (BF.o.all aj);have CU:=aa (show kz CL FE pF n (fun j=>(bR.got j).map fun o=>jd o (OL j)) by rw [AX.o];exact Y.o.map);have CV:n < maxLen:=by have h1:=Y.o.few;have J:c.n<=10:=hc.kE.nZ;unfold maxLen;omega
     have FF:pF < w.heap.size:=by have h1:=(hl.low _ (.inl rfl)).2;have J:=Av.o;have AV:=AX.o;omega
     clear aj;go_wp2_with (first|((with_reducible refine acD Yz CU.o BZ underlying110 CV cz ?_ ?_);exact⟨rfl,rfl,rfl⟩;intro FI BK AU;obtain⟨FJ,FK,BL⟩:=Y.o.V3 hl (by rw [<- AX.o];exact AU) (by rw [<- AX.o];exact BK);have CW:=aa BL;have CY:=aa (CS.o.dG AU (by have:=Y.o.lay;omega));have BN:=aa (Y.o.res.dG AU (by have:=Y.o.lay;omega));clear BK AU BL)|(with_reducible refine kG CY.o underlying63 AQ.o ?_)|((with_reducible refine Jn cz BN.o AQ.o BD CK.o ?_);intro FO BO BP;have CZ:=aa BO;have Ca:=aa (CW.o.stored hl BN.o BP);clear BO BP));exact Ca.o.leave hl hc CZ.o AQ.o Bt.o ⟨rfl,rfl,rfl⟩
    ·repeat' (first | exact trivial | apply And.intro)
     all_goals try exact rx
     all_goals intro eQ u af aj aL bz K aR
     all_goals try simp [iX,Region.binds] at bz
     all_goals refine mg rfl ?_
     all_goals have Ct:=BH.o af aj
     ·refine wp_load_row jO 0 cz cz _ (BF.o.all aj) Bf _ underlying63 AQ.o ⟨rfl,by simp [Act.eval,aL],rfl⟩ ?_;exact aR _ _ rfl aj (Below.refl _ _)
theorem awX (hc:c.Fit) (hl:l.Ok) {U:aRZ} (hs:yF c l w U σ aF) (fQ:i < c.n) (iE:i ∉ U) (ax:yT c.W c.dN i) (hf:∀ x∈U,xS c.W x i) (iK:∀ k,rJ σ c.n=k+1->ag6 c l k) :
  Calls prog 60 #[pp l.X 0,.int .i64 i] w (YA c l w U σ aF i):=by
 cases ae:σ.begun i with
 | true=>exact aLd hc hl hs fQ fun h=>iE ((hs.inv.under i).2 ⟨ae,h⟩)
 | false=>exact aLe hc hl hs fQ ae ax hf iK
theorem awY (hc:c.Fit) (hl:l.Ok):∀ m,ag6 c l m:=by
 intro m;induction m using Nat.strongRecOn with
 | ind m J =>
  intro w U σ aF p hs hm aI aC;cases hk:c.W.jK p with
  | none =>
   refine (aKV hc hl hs hk).mono ?_;rintro e w' ⟨rfl,h⟩;rw [aea hk];exact⟨rfl,σ,aF,h,fun j e=>by cases e⟩
  | some j =>
   obtain⟨h1,M,Y⟩:=aC j hk;by_cases I:j∈U
   ·refine (aKW hc hl hs hk I).mono ?_;rintro e w' ⟨rfl,h⟩;rw [Y I];exact⟨rfl,σ,aF,h,fun j' e=>by cases e;exact ((hs.inv.under j).1 I).1⟩
   ·refine (aKX hc hl hs hk I fun af AA=>awX hc hl AA (Ke c hk) I h1 M fun k e=>J k om).mono ?_;rintro e w' ⟨AB,σ',fe,AP,AQ⟩;exact⟨AB,σ',fe,AP,fun j' e=>by cases e;exact AQ⟩
end
section
open Go.Maps Go.RowKit Go.Shelf
theorem aLn {iZ ek nG tu:aRU} {keep:Bool} {Qn:aR1} {l:Dm} {awZ bW ku xM xI jO g2 rc jZ gV:Nat} {bV lK:aRV} {YE aLo jY:aRW}
  (Ew:l=⟨xM,xI,jO,bX,S,iZ.heap.size,B0⟩) (oZ:c=acA k keep met bF has l) (iB:bW=k.dA.length) (hs:kD c ek [] σ aW Qn) (tQ:lG c.l.T c.l.C iZ ek) (VR:∀ x,Qn x->aF x\/w.heap.size<=x) (aaC:keep=true->∀ p∈k.fP,∀ i,k.W.jK p=some i->σ.begun i=true) (rX:ku=(tF k.W σ k.fP).length)
  (Kg:Own ek awZ 65 2 gm (tF k.W σ k.fP).length gV (cK fI (tF k.W σ k.fP))) (aLp:w.heap.size<=awZ) (lW:Own ek c.l.T 3 1 bV σ.dY.length rc (Bo σ.dY)) (Md:Own ek c.l.T 3 1 lK aW.length jZ (Bo aW)) (Ck:aM ek xM YE 78) (Ev:fV xM ek nG) (ann:aM nG g2 aLo 39) (GL:fV g2 nG tu)
  (ahc:jY=Eu bW σ.dY.length aW.length ku ⟨jO,bV,rc,lK,jZ,gm,gV⟩) (jA:Bl w iZ) (gF:w.heap.size<=xM/\w.heap.size<=xI/\w.heap.size<=jO/\w.heap.size<=g2) :
  awk w k keep S aF met bF has (.returned (.tuple #[.agg jY.toArray,.int .i64 0])) tu:=by
 have bY:c.l.T=iZ.heap.size:=by rw [oZ,Ew];rfl
 have Aa:=jA.size;have Y:∀ {base aO n c2:Nat} {t:TypeId} {A:aRV} {xs:aRW},Own ek base t aO A n c2 xs->t ≠ 78 -> t ≠ 39 -> w.heap.size<=base->Own tu w.heap.size t aO A n c2 xs:=fun h h1 I ae=>(gX (gX h Ck h1 Ev) ann I GL).mono ae;have AB:∀ {g:Nat} {V:aRW} {t:TypeId},aM ek g V t->t ≠ 78 -> t ≠ 39 -> aM tu g V t:=fun {g V t} h h1 I=>by
  have AA:g≠xM:=fun e=>by
   rw [e] at h;have:=h.symm.trans Ck;injection this with this
   injection this with _ this
   exact h1 this
  have J:=h.dG Ev AA;refine J.dG GL fun e=>?_;rw [e] at J;have:=J.symm.trans ann;injection this with this
  injection this with _ this
  exact I this
 obtain⟨OL,AP,AQ⟩:=hs.fO.outs;have AU:=(hs.fO.src.turned Ck Ev dc dc).turned ann GL dc dc;refine⟨σ,aW,⟨jO,bV,rc,lK,jZ,gm,gV⟩,Qn,by rw [ahc,iB,rX],⟨gF.2.2.1,⟨OL,?_,fun i o e=>?_⟩,Y lW dc dc om,Y Md dc dc om,Y Kg dc dc aLp⟩,?_,⟨?_,?_,?_,?_,fun q AV h1 I J=>?_⟩,⟨?_,?_,?_,aaC⟩,VR⟩
 ·have h:=AB AP dc dc;subst oZ Ew;exact h
 ·have h:=(AQ i o e).1;exact⟨Y h.outs dc dc om,Y h.reads dc dc om⟩
 ·subst oZ Ew;exact AU
 ·exact GL.1.trans (Ev.1.trans (tQ.os.trans jA.os))
 ·exact GL.2.1.trans (Ev.2.1.trans (tQ.tape.trans jA.tape))
 ·exact GL.2.2.1.trans (Ev.2.2.1.trans (tQ.output.trans jA.output))
 ·have h1:=GL.2.2.2.1;have I:=Ev.2.2.2.1;have J:=tQ.size;omega
 ·have AA:q≠xM:=om;have AX:q≠g2:=om;refine (GL.2.2.2.2 q AX).trans ((Ev.2.2.2.2 q AA).trans ((tQ.keep q om om ?_).trans (jA.block q AV)));subst oZ Ew;intro AZ;rcases AZ with e | e | e | e | e | e
  ·exact AA e
  ·have e:q=xI:=e;omega
  ·have e:q=jO:=e;omega
  ·exact h1 e
  ·exact I e
  ·exact J e
 ·have h:=hs.inv;subst oZ;exact h
 ·have h:=hs.log;subst oZ;exact h
 ·have h:=hs.kept;subst oZ;exact h
theorem qA.ano {l:uC} {n:Nat} {fU:Nat->List UInt8} {df:Nat->lS} (h:qA W l aF n fU df met bF has):l.jN < W.heap.size/\l.jP < W.heap.size/\l.je < W.heap.size/\l.gs < W.heap.size/\l.lT < W.heap.size:=by obtain⟨⟨Y,I,_⟩,⟨AA,J,_⟩,cs,M⟩:=h.kinds;exact⟨h.row.lt,h.bF.obj.lt,iw I,iw M,iw J⟩
theorem aLq (w:aRU) (k:jE) (bX:x8) (keep:Bool) (S:uC) (aF:aR1) (met:List ak) (bF:Nat->Bool) (has:ak->Bool) (B0:Nat) (hk:FD k) (bq:acz k met) (jo:qb k=0)
  (hA:∀ W:World,(∀ q,q < w.heap.size->q≠S.je->q≠S.gs->q≠S.lT->W.heap[q]?=w.heap[q]?)->wY W k bX) (uZ:qA w S aF k.dA.length (NN k.X) (Yf k.files k.X) met bF has)
  (Dk:∀ i,bF i=true->xD k.W (xL bF has) i/\(bG k.W i).kind=1) (dR:uW w B0) (bf:B0<=w.heap.size/\B0<=S.je/\B0<=S.gs/\B0<=S.lT/\S.B<=w.heap.size) :
  Calls prog 9 #[.agg (qy k bX keep).toArray,Ep S] w (awk w k keep S aF met bF has):=by
 obtain⟨AA,AZ⟩:=ai (qy k bX keep);obtain⟨aH,Ae⟩:=ai (w.alloc (.cells AA.toArray 26));obtain⟨aY,Af⟩:=ai (aH.alloc (.cells Td.toArray 39));have Cu:=gQ Ae;have Bf:aH.heap.size=w.heap.size+1:=by rw [Ae];simp
 have Bg:=gQ Af;have Aq:=aU Cu Bg;have Bh:aM aY w.heap.size AA 26:=by refine aM.all ?_ Bg;rw [Ae];exact aM.new w _ _
 have Cv:=kY Af;obtain⟨bW,Av,mI,Bi⟩:=nq2 k.dA.length k.fP.length;have Gi:bW<=10:=by rw [Av];exact hk.kE.nZ
 have Gm:mI<=100:=by rw [Bi];exact hk.kE.mI
 have Ei:(AA.drop 0).take AA.length=AA:=by simp
 have D8:=aa (show Sz 26 AA.length by rw [AZ];exact kr);have Ej:=D8.o;have DF:=hA aY (fun q h1 _ _ _=>Aq.block q h1);have El:=aa (show CB 21 #[.agg AA.toArray] aY (.int .i64 0) from by
  have:=aa7 aY k bX keep DF hk.kE (dR.below (Aq.mono bf.1)).vL;rw [jo,<- AZ] at this;exact this);have w1:=Bh.cell 1;rw [AZ] at w1;have w1:aY.cell? (ad w.heap.size 1)=some (.slice bX.B bW bX.d):=by rw [Av];exact w1
 obtain⟨Ob,Bj,GR,Bn⟩:=nq2 (yB (xL bF has) bW) (pR (xL bF has) (fun _=>⟨none,0,none,0⟩) bW);have DI:=aa (fun (W:aRU)=>show (Instr.makeSlice 76 (.int .i64 (bW:Int)) (.int .i64 (bW:Int))).run prog W = .ok (.slice (some ⟨W.heap.size,0,none⟩) bW bW) (W.alloc (.cells Ob.toArray 4)) by rw [Bj];exact aKO W bW om _ fun _=>rfl);have DJ:=aa (fun (W:aRU)=>show (Instr.makeSlice 36 (.int .i64 (bW:Int)) (.int .i64 (bW:Int))).run prog W = .ok (.slice (some ⟨W.heap.size,0,none⟩) bW bW) (W.alloc (.cells GR.toArray 63)) by rw [Bn];exact awg W bW om _ _ fun _=>rfl);obtain⟨jN,Bp⟩:=ai S.jN;obtain⟨Az,Bq,BB,DN,BC,Aa,BD,Em,En,Eo,Er,Es⟩:=hq12 Bh Cv Aq Bf AZ Av Bi Bj Bn Bp dR hA;rw [<- AZ,Ep,<- Bp];rw [show Td.toArray=#[.slice none 0 0,.slice none 0 0,.slice none 0 0,.slice none 0 0] from rfl] at Af;have Ev:=Ae.symm;have Ew:=Af.symm;clear Ae Af Cu Bf Bg Aq Bh Cv Av Bi AZ Bj Bn Bp dR hA DF;go_enter func9,ntmps9;go_upto_region 7 with (first|(with_reducible refine kG Az.o underlying26 Ej ?_)|(go_at_call 21; refine El.o.mono ?_;rintro e aD ⟨rfl,BG⟩;have BH:=aa BG;have BK:=aa (Az.o.all BG);have w1:=(by have:=(Az.o.all BG).cell 1;rw [BC.o] at this;exact this:aD.cell? (ad w.heap.size 1)=some (.slice bX.B k.dA.length bX.d));rw [<- Aa.o] at w1;clear BG))
 obtain⟨g1,Ag,g2,Ah⟩:=nq2 w.heap.size aH.heap.size;rw [<- Ag,<- Ah];have Br:=BK.o;have Bt:=Bq.o.all BH.o;rw [<- Ag] at Br;rw [<- Ah] at Bt;obtain⟨Ex,C8,BK,F3⟩:=hq4 Ag Ah Br Bt;clear Ag Ah Br Bt Ev Ew w1;have kR:=aa fun af (aj:Bl aD af)=>And.intro (DI.o af) (DJ.o af);refine nz nH 7 [some (.agg AA.toArray),some (.iface 90 (pp jN 0)),some (.int .i64 bW),none,some (.int .i64 bW),none,none] (Yy aD.heap.size bW Ob GR) (Bl aD) Bl ((Below.refl _ aD).drew) (fun j v w1 af ae h=>h.keep ae) ?_ (jI:=?_)
 ·intro u7 AU aj CF;obtain⟨AB,F4,BL,DR⟩:=(show Yy aD.heap.size bW Ob GR 3 (u7 3) AU from CF 3 om).1 rfl;obtain⟨jO,DT,BN,DU⟩:=(show Yy aD.heap.size bW Ob GR 6 (u7 6) AU from CF 6 om).2.2 rfl;clear CF;simp only [F4,DT];have F5:=aa (And.intro DR DU);obtain⟨CG,CJ⟩:=ai (qy k bX keep++[Ep S,.slice (some ⟨AB,0,none⟩) bW bW,.slice (some ⟨jO,0,none⟩) bW bW,.slice none 0 0,.slice none 0 0,.slice none 0 0]);have F6:=aa (show prog.built 78 [(0,.agg AA.toArray),(1,.iface 90 (pp jN 0)),(2,.slice (some ⟨AB,0,none⟩) bW bW),(3,.agg #[.slice (some ⟨jO,0,none⟩) bW bW,.slice none 0 0,.slice none 0 0,.slice none 0 0])]=some CG.toArray by
   rw [BC.o,CJ,Eo.o];exact aKN _ _ _ _ _ _ _ _ _ _ _ _ _ _ _ _ _ _);obtain⟨J,Ak,Y,CK⟩:=nq2 (AU.alloc (.cells CG.toArray 78)) AU.heap.size;have BO:=gQ Ak;have CL:aM J Y CG 78:=by rw [Ak,CK];exact aM.new AU _ _
  have BP:=aU aj BO;have Al:=BB.o.trans ((aU BH.o BP).mono BB.o.size);obtain⟨Db,CQ,ce,Dc,De,CS⟩:=nq3 bX.C bX.e keep;have BR:=BK.o.all BP;have c2:J.cell? (ad g1 2)=some (.slice Db mI ce):=by have:=BR.cell 2;rw [BC.o] at this;rw [this,CQ,Dc,BD.o];rfl
  obtain⟨l,AQ⟩:=ai (⟨Y,AB,jO,bX,S,J.heap.size,B0⟩:Dm);obtain⟨c,AP⟩:=ai (acA k keep met bF has l);have Gn:=BH.o.size;have Gp:=BB.o.size;have Gq:=aj.size;have Gs:J.heap.size=AU.heap.size+1:=by rw [Ak];simp
  have FB:=uZ.ano;have Gt:AB < AU.heap.size:=BL.lt;have Gu:jO < AU.heap.size:=BN.lt;have CU:AB≠jO:=fun e=>by
   have h1:=BL;rw [e,aM,BN] at h1;injection h1 with h1
   injection h1 with _ h1
   exact absurd h1 dc
  have hc:c.Ok:=by
   subst AP AQ;refine { toFit:=hk.fit _ _ _ _ _,apart:=bq.apart,few:=bq.few,keys:=bq.keys,outs:=bq.outs,low:=fun q Dg=>?_,base:=⟨?_,?_⟩,old:=⟨?_,?_⟩,ne:=⟨?_,?_,CU⟩ }
   ·show B0<=q/\q < J.heap.size;rcases Dg with e | e | e | e | e | e
    ·have e:q=Y:=e;omega
    ·have e:q=AB:=e;omega
    ·have e:q=jO:=e;omega
    ·have e:q=S.je:=e;omega
    ·have e:q=S.gs:=e;omega
    ·have e:q=S.lT:=e;omega
   ·show B0<=J.heap.size;omega
   ·show S.B<=J.heap.size;omega
   ·show S.jN < J.heap.size;omega
   ·show S.jP < J.heap.size;omega
   ·show Y≠AB;omega
   ·show Y≠jO;omega
  have Dh:kD c J [] (xL bF has) [] aF:=by
   subst AP AQ;have FC:∀ q,q < w.heap.size->q≠S.je->q≠S.gs->q≠S.lT->¬ Dm.C ⟨Y,AB,jO,bX,S,J.heap.size,B0⟩ q:=fun q h1 ag CV CW h=>by
    rcases h with e | e | e | e | e | e
    ·have e:q=Y:=e;omega
    ·have e:q=AB:=e;omega
    ·have e:q=jO:=e;omega
    ·exact ag e
    ·exact CV e
    ·exact CW e
   refine⟨⟨⟨none,0,none,0,?_,Own.nil _ _ _ _,Own.nil _ _ _ _,fun q h=>by cases h⟩,?_,⟨fun _=>⟨none,0,none,0⟩,?_,fun i o e=>by cases e⟩,uZ.all Al,fun W FF=>Es.o W fun q h1 ag CV CW=>(FF q (by show q < J.heap.size;omega) (FC q h1 ag CV CW)).trans (Al.block q h1),Er.o.below (Al.mono bf.1),aQF _⟩,wu.start (fun _=>rfl) (fun _=>rfl) rfl fun i ay=>(Dk i ay).2,Ar.start rfl fun _=>rfl,fun i ay=>(Dk i ay).1⟩
   ·show aM J Y _ _;rw [CJ,Aa.o] at CL;exact CL
   ·show aM J AB (yB (xL bF has) k.dA.length) _;rw [<- Aa.o,<- Em.o];exact BL.all BO
   ·show aM J jO (pR (xL bF has) _ k.dA.length) _;rw [<- Aa.o,<- En.o];exact BN.all BO
  have FI:=aa (fun (I:aRU) (h:Ch c.l J I)=>show aM I g2 Td 39 from by
   have Di:=F3.o.all BP;have Ah:=C8.o;have Bf:=DN.o;have Dj:=Bq.o.lt;refine (h.keep g2 (by subst AP AQ;show g2 < J.heap.size;omega) Di.lt ?_).trans Di;subst AP AQ;intro CY;rcases CY with e | e | e | e | e | e
   ·have e:g2=Y:=e;omega
   ·have e:g2=AB:=e;omega
   ·have e:g2=jO:=e;omega
   ·have e:g2=S.je:=e;omega
   ·have e:g2=S.gs:=e;omega
   ·have e:g2=S.lT:=e;omega);have FJ:=aa (fun (I:aRU) (h:Ch c.l J I)=>show I.cell? (ad g1 3)=some (.bool De) from by
   have Ag:=Ex.o;have Dj:=Az.o.lt;have h1:=h.keep g1 (by subst AP AQ;show g1 < J.heap.size;omega) BR.lt (by
    subst AP AQ;intro CY;rcases CY with e | e | e | e | e | e
    ·have e:g1=Y:=e;omega
    ·have e:g1=AB:=e;omega
    ·have e:g1=jO:=e;omega
    ·have e:g1=S.je:=e;omega
    ·have e:g1=S.gs:=e;omega
    ·have e:g1=S.lT:=e;omega);have ag:aM I g1 AA 26:=h1.trans BR;rw [ag.cell 3,BC.o,CS];rfl);have FK:=aa (fun (I:aRU) (bR:bE) (ib:aRZ) (eP:aR1) (h:kD c I [] bR ib eP)=>show Calls prog 24 #[pp Y 0] I fun e w'=>∃ A c2,e = .returned (.slice A (tF k.W bR k.fP).length c2)/\Own w' I.heap.size 65 2 A (tF k.W bR k.fP).length c2 (cK fI (tF k.W bR k.fP))/\Bl I w' from by
   have:=aKM hc h;subst AP AQ;exact this);have FO:=aa (fun (I:aRU) (bR:bE) (ib:aRZ) (eP:aR1) (h:kD c I [] bR ib eP) (p:ak) (aI:p∈k.fP)=>show Calls prog 23 #[pp Y 0,.string (aA p)] I fun e w'=>∃ (bI:aRW) (AX:Int),e = .returned (.tuple #[.agg bI.toArray,.int .i64 AX])/\bI.length=3/\(∀ v∈bI,v.oneCell'=true)/\∃ σ' tk' fe,Step c I [] bR ib eP w' σ' tk' fe/\∀ j,k.W.jK p=some j->σ'.begun j=true from by
   have:=aKF hc (rJ bR c.n) I [] bR ib eP p h (aQF _) (hk.kE.Vq p aI) fun j aC=>⟨.inl ?_,fun x ah=>(by cases ah),fun ah=>(by cases ah)⟩
   ·have e:c.l.X=Y:=by subst AP AQ;rfl
    rw [e] at this;refine this.mono ?_
    ·rintro e w' ⟨rfl,σ',tk',fe,h1,ag⟩;exact⟨_,_,rfl,rfl,by simp [iA,Value.oneCell'],σ',tk',fe,h1,by subst AP;exact ag⟩
   ·subst AP;exact⟨p,aI,aC⟩);have FP:=aa (fun (I:aRU) (bR:bE) (ib:aRZ) (eP:aR1) (h:kD c I [] bR ib eP)=>show Rd I 1 Db mI (cB k.fP) from by
   have:=(h.fO.work I (fun _ _ _=>rfl)).fP;rw [CQ,BD.o];subst AP AQ;exact this);have Dp:=aa CK;have FR:=aa (show g2≠Y from fun e=>by have:=C8.o;have Dj:=Bq.o.lt;omega);obtain⟨CZ,Ca,Cc,FU,FV⟩:=hq5 AQ AP Al Dh CS;have Gv:=Ak.symm;clear aj BL BN DR DU CJ CK BO CL BP Al CQ Dc CS BR AQ AP Ak Dh FB DT;go_wp2_with (first|((with_reducible refine afJ (.agg AA.toArray) (.iface 90 (pp jN 0)) (.slice (some ⟨AB,0,none⟩) bW bW) (.agg #[.slice (some ⟨jO,0,none⟩) bW bW,.slice none 0 0,.slice none 0 0,.slice none 0 0]) _ F6.o ?_ ?_);exact⟨rfl,rfl,rfl,rfl⟩));rw [<- Dp.o];go_loopg [37] mI (fun gk FW wr=>∃ (q:Nat) (bR:bE) (ib:aRZ) (eP:aR1),q+gk=mI/\FW = .int .i64 q/\kD c wr [] bR ib eP/\Ch c.l J wr/\(∀ x,eP x->aF x\/w.heap.size<=x)/\∀ (j:Nat) (p:ak),j < q->k.fP[j]?=some p->∀ i,k.W.jK p=some i->bR.begun i=true);case atStart=>exact⟨0,xL bF has,[],aF,om,rfl,FU.o,lG.refl _,fun _ h=>.inl h,fun j p h=>absurd h (aRF _)⟩
  case round =>
   obtain⟨q,Am,Ce,H5,Dg,rfl,Dq,Dr,Dt,Du⟩:=hrel;obtain⟨Ac,Ad,BS,Dv⟩:=hq4 Dq Dr Dt Du;clear Dq Dr Dt Du;by_cases Dw:q < mI;case' neg =>
    have FY:¬ (q:Int) < mI:=om;have Dz:=aa (show keep=true->∀ p∈k.fP,∀ i,k.W.jK p=some i->Am.begun i=true from fun _ p aI i ay=>by
     obtain⟨j,aC⟩:=List.mem_iff_getElem?.1 aI;exact Dv.o j p (by have h1:=(aQL.1 aC).1;have ag:=BD.o;omega) aC i ay);clear Dw
   case' pos =>
    have FY:(q:Int) < mI:=om;have H9:(0:Int)<=q:=om;obtain⟨p,ah⟩:∃ x,k.fP[q]?=some x:=⟨_,aQI (by rw [<- BD.o];exact Dw)⟩;have E5:=aQK ah;obtain⟨b,o,Fa,Fe⟩:=KW (FP.o wr _ _ _ Ac.o) ah;subst Fa;have E8:=aa (FO.o wr _ _ _ Ac.o p E5);have Fh:=aa ah;obtain⟨P,E9⟩:=ai (aA p);rw [<- E9] at Fe E8;clear ah E5 E9;go_upto_region 12 with (first|(go_at_call 23; refine E8.o.mono ?_;rintro e I ⟨bI,AX,rfl,EA,AV,Ao,Cf,Cg,EC,EF⟩;have Fj:Sz 80 bI.length:=(by rw [EA];exact JE);have BU:=aa EC;have Fq:=aa EF;clear EC EF)|((with_reducible refine qR bI EA Fj AV ?_);intro EG EH _))
    have Cj:=aa (BU.o.st.all hc EH.o);have BX:=aa ((Ad.o.trans BU.o.nQ).trans (lG.gN EH.o));have Ck:=aa (show ∀ x,Cg x->aF x\/w.heap.size<=x from fun x ah=>by
     rcases BU.o.vS x ah with h | h
     ·exact BS.o x h
     ·exact .inr (by have h1:=Ad.o.size;have ag:=Cc.o.size;omega));have EJ:=aa (show ∀ (j:Nat) (p:ak),j < q+1->k.fP[j]?=some p->∀ i,k.W.jK p=some i->Ao.begun i=true from fun j Fu aC aI i ay=>by
     rcases aQW j q with h | h
     ·exact BU.o.grow.begun i (Dv.o j Fu h aI i ay)
     ·obtain rfl:j=q:=om;rw [Fh.o] at aI;cases aI;exact Fq.o i ay);have HY:=FJ.o EG BX.o;by_cases AV:AX=1;case' pos =>
     have Fv:decide (AX=1)=true:=decide_eq_true AV;have Fy:(AX != 1)=false:=by rw [AV];rfl
     clear AV;go_wp2_with fail;go_roundg (gk - 1);case rel=>exact⟨q+1,Ao,Cf,Cg,om,by go_num,Cj.o,BX.o,Ck.o,EJ.o⟩
     case measure=>omega
    case' neg =>
     have Fv:decide (AX=1)=false:=aRo AV;have Fy:(AX != 1)=true:=by simpa using AV
     clear AV;cases De;case' true =>
      go_wp2_with fail;go_roundg (gk - 1);case rel=>exact⟨q+1,Ao,Cf,Cg,om,by go_num,Cj.o,BX.o,Ck.o,EJ.o⟩
      case measure=>omega
     case' false =>
      have Dz:=aa (show keep=true->∀ p∈k.fP,∀ i,k.W.jK p=some i->Ao.begun i=true from fun h=>by rw [<- FV.o] at h;cases h);clear Ac Ad BS;have Ac:=Cj;have Ad:=BX;have BS:=Ck;obtain⟨Am,Fz,Ce,G8⟩:=nq2 Ao Cf;subst Fz G8
   all_goals
    go_wp2_with (first|(go_at_call 24; refine (FK.o _ _ _ _ Ac.o).mono ?_;rintro e I ⟨gm,gV,rfl,EK,Bb⟩;have G9:=aa EK;have Ha:=aa Bb;have EL:=aa (Ac.o.all hc Bb);have EM:=aa (Ad.o.trans (lG.gN Bb));obtain⟨bV,rc,lK,jZ,EN,EO,ES,CU⟩:=EL.o.fO.row;obtain⟨ku,Cm⟩:=ai ((tF k.W Am k.fP).length);rw [<- Cm];obtain⟨jY,Ap,Bc,Be⟩:=nq2 (Eu bW Am.dY.length Ce.length ku ⟨jO,bV,rc,lK,jZ,gm,gV⟩) (IJ c bV rc lK jZ Am.dY.length Ce.length);obtain⟨GD,Co⟩:=ai (Bc.set 9 (.slice gm ku gV));have Hd:Bc.length=10:=(by rw [Be];rfl);have GG:(GD.drop 6).take jY.length=jY:=(by rw [Ap,Co,Be,Ca.o,Aa.o,CZ.o];rfl);have ET:jY.length=Td.length:=(by rw [Ap];rfl);have Cr:Sz 39 jY.length:=(by rw [ET];exact kr);have GH:∀ v∈jY,v.oneCell'=true:=(by rw [Ap];simp [Eu,Value.oneCell']);have EU:=aa (show aM I Y Bc 78 by rw [Be,<- show c.l.X=Y by rw [Ca.o,CZ.o];rfl];exact EN);have GI:(Value.slice gm ku gV).cells.toList=[Value.slice gm ku gV]:=rfl;have EX:Sz 22 1:=kr;have EY:9+1<=Bc.length:=om;have Ea:(Value.slice gm ku gV).oneCell'=true:=rfl;obtain⟨GK,GL,GQ,GV⟩:=hq4 EO ES Ap Cm;have GX:=aa (FI.o I EM.o);have Ec:=Co.symm;have He:=aa (show I.cell? (ad Y 6)=I.cell? (ad Y 6) from rfl);clear EK Bb EN EO ES CU Cm Ap Be Co)|((with_reducible refine A8 9 (.slice gm ku gV) EU.o EX EY Ea Ec ?_);intro EG Ee Ct;have Ga:=aa Ee;have Gb:=aa Ct;have Ef:=aa (GX.o.dG Ct FR.o);clear Ee Ct GI EX EY Ea Ec)|(with_reducible refine Rm 6 jY Ga.o GG underlying39 Cr ?_)|((with_reducible refine vF jY Ef.o Cr ET GH ?_);intro Hf Gc Gd));refine Eg Gc.o underlying39 rfl Cr ⟨rfl,rfl,rfl⟩ ?_;exact aLn CZ.o Ca.o Aa.o EL.o EM.o BS.o Dz.o GV.o G9.o (by have:=Ad.o.size;have:=Cc.o.size;omega) GK.o GL.o EU.o Gb.o Ef.o Gd.o GQ.o Cc.o (by have:=Dp.o;have:=F5.o;have:=C8.o;have:=DN.o;have:=BB.o.size;have:=BH.o.size;omega)
 ·repeat' (first | exact trivial | apply And.intro)
  all_goals try exact rx
  all_goals intro eQ u af aj aL bz K aR
  all_goals try simp [iX,Region.binds] at bz
  all_goals refine mg rfl ?_
  all_goals have Hl:=DI.o af
  all_goals have Hm:=DJ.o af
  ·refine wp_load_row g1 0 AA AA _ (BK.o.all aj) Ei _ underlying26 D8.o ⟨rfl,by simp [Act.eval,aL],rfl⟩ ?_;exact aR _ _ rfl aj (Below.refl _ _)
  ·go_simp;exact aR _ _ ⟨fun _=>⟨_,rfl,aM.new af Ob _,aj.size⟩,gq,gq⟩ (aj.alloc aj.size _) iD
  ·go_simp;exact aR _ _ ⟨gq,fun _=>⟨_,rfl,aM.new af GR _,aj.size⟩,gq⟩ (aj.alloc aj.size _) iD
  ·have ah:=bz;obtain⟨g,Gg,ax,av⟩:=ah.2.1 rfl;refine amX (.slice (some ⟨g,0,none⟩) bW bW) _ (awf _ _ _) rfl (by simp [Act.eval,aL,Gg]) ?_;exact aR _ _ ⟨gq,gq,fun _=>⟨g,rfl,ax,av⟩⟩ aj (Below.refl _ _)
theorem aLC (A:aRV) (n c:Nat) (B:aRV) (gG d:Nat) (C:aRV) (mJ e:Nat) (keep:Bool) (m1 m2 m3:Nat):prog.built 114 [(0,.agg #[.slice A n c,.slice B gG d,.slice C mJ e,.bool keep]),(1,.map (some m1)),(2,.map (some m2)),(3,.map (some m3))]=some #[.slice A n c,.slice B gG d,.slice C mJ e,.bool keep,.map (some m1),.map (some m2),.map (some m3)]:=kr
structure Tv (w w':aRU) (k:jE) (bX:x8) (keep:Bool) (X m:Nat):Prop where
 row:aM w' X (qy k bX keep++[.map (some m),.map (some (m+1)),.map (some (m+2))]) 114
 outs:kz w' FE m 0 (fun _=>none)
 way:kz w' Value.bool (m+1) 0 (fun _=>none)
 waits:kz w' Value.string (m+2) 0 (fun _=>none)
 low:w.heap.size<=m/\X=m+3/\w'.heap.size=X+1
 below:Bl w w'
theorem axd (w:aRU) (k:jE) (bX:x8) (keep:Bool):Calls prog 34 #[.agg (qy k bX keep).toArray] w fun e w'=>∃ X m,e = .returned (pp X 0)/\Tv w w' k bX keep X m:=by
 obtain⟨I,Y⟩:=ai (qy k bX keep);obtain⟨aH,M⟩:=ai (w.alloc (.cells I.toArray 26));have AP:=gQ M;have Ac:=kY M;have Ae:aH.heap.size=w.heap.size+1:=by rw [M];simp
 obtain⟨m,hm⟩:=ai aH.heap.size;obtain⟨cO,J⟩:=ai (((aH.alloc (.map #[] 0)).alloc (.map #[] 0)).alloc (.map #[] 0));have AQ:cO.heap.size=m+3:=by rw [J,hm];simp
 have Ad:Bl aH cO:=by rw [J];exact (iD.alloc sp _).alloc (by simp;omega) _
 have AU:kz cO FE m 0 (fun _=>none):=by rw [J,hm];exact ((kz.made aH).keep (aQ5 _ _ _ sp)).keep (aQ5 _ _ _ (by simp;omega))
 have AV:kz cO Value.bool (m+1) 0 (fun _=>none):=by rw [J,hm];have:=kz.made (enc:=Value.bool) (aH.alloc (.map #[] 0));rw [World.size_alloc] at this;exact this.keep (aQ5 _ _ _ sp)
 have AX:kz cO Value.string (m+2) 0 (fun _=>none):=by rw [J,hm];have:=kz.made (enc:=Value.string) ((aH.alloc (.map #[] 0)).alloc (.map #[] 0));rw [World.size_alloc,World.size_alloc] at this;exact this
 obtain⟨AZ,Aa⟩:=ai (qy k bX keep++[.map (some m),.map (some (m+1)),.map (some (m+2))]);have Af:=aa (show prog.built 114 [(0,.agg I.toArray),(1,.map (some m)),(2,.map (some (m+1))),(3,.map (some (m+2)))]=some AZ.toArray by rw [Y,Aa];exact aLC _ _ _ _ _ _ _ _ _ _ _ _ _);have Ap:(I.drop 0).take I.length=I:=by simp
 have Ag:=aa (show Sz 26 I.length by rw [Y];exact kr);have Ah:=Ag.o;have Aq:=@run_makeMap prog;have Ak:=aa Ac;have Al:=aa (show Tv w (cO.alloc (.cells AZ.toArray 114)) k bX keep cO.heap.size m from by
  have AA:Bl cO (cO.alloc (.cells AZ.toArray 114)):=iD;refine⟨?_,AU.keep (AA.block _ AU.lt),AV.keep (AA.block _ AV.lt),AX.keep (AA.block _ AX.lt),⟨om,AQ,by simp⟩,AP.trans ((aU Ad AA).mono AP.size)⟩;rw [<- Aa];exact aM.new cO _ _);rw [<- Y];obtain⟨Am,Ao,AB⟩:=hq3 J AQ hm;have Av:=M.symm;clear M AP Ac Ae AQ Ad AU AV AX Aa Y J hm;go_enter func34,ntmps34;go_wp2_with (first|(with_reducible refine kG Ak.o underlying26 Ah ?_)|((with_reducible refine afJ (.agg I.toArray) (.map (some m)) (.map (some (m+1))) (.map (some (m+2))) _ Af.o ?_ ?_);exact⟨rfl,by rw [AB.o];rfl,by rw [AB.o];rfl,by rw [AB.o];rfl⟩));go_ret;rw [<- Am.o];exact⟨_,m,by rw [Ao.o,AB.o];rfl,Al.o⟩
theorem Tv.start {keep:Bool} {X m:Nat} (h:Tv w w' k bX keep X m) (jo:c.k=k) (aLD:c.keep=keep) (dR:uW w B0) (bf:B0<=w.heap.size) (hA:∀ W:World,(∀ q,q < w.heap.size->W.heap[q]?=w.heap[q]?)->wY W k bX) (aV:c.kZ=xL (fun _=>false) (fun _=>false)) :
  (⟨X,m,m+1,m+2,bX,w'.heap.size,B0⟩:pE).Ok/\yF c ⟨X,m,m+1,m+2,bX,w'.heap.size,B0⟩ w' [] (xL (fun _=>false) (fun _=>false)) (fun _=>False):=by
 obtain⟨AA,AB,AP⟩:=h.low;subst jo aLD;refine⟨⟨fun q I=>?_,⟨?_,?_⟩,?_⟩,⟨h.row,⟨fun _=>⟨none,0,none,0⟩,0,?_,h.outs,fun i o e=>by cases e⟩,⟨0,?_,h.way.congr fun j=>by simp⟩,⟨0,_,?_,h.waits⟩,fun W J=>hA W fun q I=>(J q (aQJ I h.below.size) fun M=>?_).trans (h.below.block q I),dR.below (h.below.mono bf),aQF _⟩,?_⟩
 ·show B0<=q/\q < w'.heap.size;rcases I with e | e | e
  ·have e:q=m:=e;omega
  ·have e:q=m+1:=e;omega
  ·have e:q=m+2:=e;omega
 ·show B0<=w'.heap.size;omega
 ·show X < w'.heap.size;omega
 ·exact⟨by show m≠m+1;omega,by show m≠m+2;omega,by show m+1≠m+2;omega⟩
 ·have:=aRi (fun i=>((xL (fun _=>false) (fun _=>false)).got i).isNone) (List.range c.n);rw [List.length_range] at this;show 0+GU _ _<=_;unfold GU;omega
 ·show 0+rJ _ _<=_;unfold rJ;refine aQG (aQ1 (Nat.zero_add _)) (aQG (aRi _ _) ?_);rw [List.length_range];exact aQF _
 ·have:=aRi (fun i=>((xL (fun _=>false) (fun _=>false)).got i).isNone) (List.range c.n);rw [List.length_range] at this;show 0+GU _ _<=_;unfold GU;omega
 ·rcases M with e | e | e
  ·have e:q=m:=e;omega
  ·have e:q=m+1:=e;omega
  ·have e:q=m+2:=e;omega
 ·rw [aV];exact wu.start (fun _=>rfl) (fun _=>rfl) rfl fun i Y=>by cases Y
theorem aLE:prog.built 63 []=some iN.toArray:=kr
theorem aLF (w:aRU) (k:jE) (bX:x8) (keep:Bool) (i:Nat) (hA:wY w k bX) (hk:Vp k) (dR:uW w B0) (bf:B0<=w.heap.size) (jo:qb k≠0) :
  CB 39 #[.agg (qy k bX keep).toArray,.int .i64 i] w (.tuple #[.agg iN.toArray,.int .i64 (qb k)]):=by
 obtain⟨I,M⟩:=ai (qy k bX keep);obtain⟨aH,Y⟩:=ai (w.alloc (.cells I.toArray 26));obtain⟨aY,J⟩:=ai (aH.alloc (.cells iN.toArray 63));have AP:=gQ Y;have AQ:=gQ J;have AA:=aU AP AQ;have AZ:aM aY w.heap.size I 26:=by refine aM.all ?_ AQ;rw [Y];exact aM.new w _ _
 have Aa:=kY J;have BD:(I.drop 0).take I.length=I:=by simp
 have Af:=aa (show Sz 26 I.length by rw [M];exact kr);have Ag:=Af.o;obtain⟨AU,AB⟩:∃ x:Int,x=qb k:=⟨_,rfl⟩;have Ah:=aa (show CB 21 #[.agg I.toArray] aY (.int .i64 AU) from by
  have:=aa7 aY k bX keep (hA.all AA) hk (dR.below (AA.mono bf)).vL;rw [<- M,<- AB] at this;exact this);have jo:AU≠0:=by rw [AB];omega
 have BF:(AU != 0)=true:=by simpa using jo
 obtain⟨Ak,Al,Am,Ao⟩:=hq4 AZ Aa AA aLE;have Ac:Sz 63 iN.length:=kr;have Ap:∀ v∈iN,v.oneCell'=true:=by simp [iN,Value.oneCell']
 obtain⟨g2,AV⟩:=ai aH.heap.size;have Aq:=aa (show w.heap.size<=g2 by rw [AV];exact AP.size);rw [<- M,<- AB];have Ad:iN.toArray=#[.int .i64 0,.int .i64 0,.slice none 0 0,.slice none 0 0]:=rfl;rw [Ad] at J;have Av:=aa AV;have BG:=Y.symm;have BH:=J.symm;clear Y J AP AQ AA AZ Aa M AB hA dR bf hk jo AV Ad;go_enter func39,ntmps39;go_wp2_with (first|(with_reducible refine kG Ak.o underlying26 Ag ?_)|(go_at_call 21; refine Ah.o.mono ?_;rintro e aD ⟨rfl,AX⟩;have Az:=aa AX;have Ae:=aa (Al.o.all AX);rw [<- Av.o] at Ae |-;clear AX)|((with_reducible refine aC3 _ Ao.o ?_))|((with_reducible refine vF iN Ae.o Ac rfl Ap ?_);intro BK BB BC));refine Eg BB.o underlying63 rfl Ac ⟨rfl,rfl,rfl⟩ ?_;exact⟨rfl,oO (aU Am.o Az.o) BC.o Aq.o⟩
theorem aLH (w:aRU) (k:jE) (bX:x8) (keep:Bool) (i:Nat) (ay:i < k.dA.length) (hA:∀ W:World,(∀ q,q < w.heap.size->W.heap[q]?=w.heap[q]?)->wY W k bX) (hk:FD k) (dR:uW w B0) (bf:B0<=w.heap.size) (jo:qb k=0) :
  Calls prog 39 #[.agg (qy k bX keep).toArray,.int .i64 i] w fun e w'=>∃ L,e = .returned (.tuple #[.agg (jd (bG k.W i) L).toArray,.int .i64 0])/\ny w' w.heap.size (bG k.W i) L/\Bl w w':=by
 obtain⟨I,M⟩:=ai (qy k bX keep);obtain⟨aH,AU⟩:=ai (w.alloc (.cells I.toArray 26));obtain⟨aY,Y⟩:=ai (aH.alloc (.cells iN.toArray 63));have Ad:=gQ AU;have Ae:=gQ Y;have AV:=aU Ad Ae;have Ao:aM aY w.heap.size I 26:=by refine aM.all ?_ Ae;rw [AU];exact aM.new w _ _
 have Ap:=kY Y;have Bp:(I.drop 0).take I.length=I:=by simp
 have BP:=aa (show Sz 26 I.length by rw [M];exact kr);have Aq:=BP.o;have BR:=aa (show CB 21 #[.agg I.toArray] aY (.int .i64 0) from by
  have:=aa7 aY k bX keep (hA aY fun q AA=>AV.block q AA) hk.kE (dR.below (AV.mono bf)).vL;rw [jo,<- M] at this;exact this);obtain⟨bW,Av⟩:=ai k.dA.length;obtain⟨ci,Af⟩:∃ x:Int,x=i:=⟨_,rfl⟩;have Bq:(0:Int)<=ci:=om;have fQ:ci < bW:=om;have w1:∀ W:World,aM W w.heap.size I 26 -> W.cell? (ad w.heap.size 1)=some (.slice bX.B bW bX.d):=fun W h=>by
  have:=h.cell 1;rw [M] at this;rw [Av];exact this
 have BS:=aa w1;have BU:=aa (fun (W:aRU)=>show Calls prog 34 #[.agg I.toArray] W fun e w'=>∃ X m,e = .returned (pp X 0)/\Tv W w' k bX keep X m from by
  have:=axd W k bX keep;rw [<- M] at this;exact this);obtain⟨c,J⟩:=ai (⟨k,keep,fun j=>j=i,xL (fun _=>false) (fun _=>false),[],⟨0,0,0,bX,⟨0,0,0,0,0,0⟩,0,0⟩⟩:dF);have hc:c.Fit:=by
  subst J;exact⟨hk.work,hk.kE,hk.env,fun j aC=>by have aC:j=i:=aC;subst aC;exact ay,hk.wide⟩
 have BX:=aa (fun (AB bn:aRU) (AX:Bl w AB) (X m:Nat) (h:Tv AB bn k bX keep X m)=>show Calls prog 60 #[pp X 0,.int .i64 ci] bn fun e w'=>∃ L,e = .returned (.agg (jd (bG k.W i) L).toArray)/\ny w' AB.heap.size (bG k.W i) L/\Bl AB w' from by
  have Ag:=h.start (c:=c) (B0:=B0) (by rw [J]) (by rw [J]) (dR.below (AX.mono bf)) (aQG bf AX.size) (fun W BZ=>hA W fun q AA=>(BZ q (aQJ AA AX.size)).trans (AX.block q AA)) (by rw [J]);rw [Af];refine (awX hc Ag.1 Ag.2 (i:=i) (by rw [J];exact ay) sp (.inl (by rw [J])) (fun x ah=>by cases ah) fun q _=>awY hc Ag.1 q).mono ?_;rintro e w' ⟨L,σ',fe,rfl,Az,AP,_⟩;have BB:=h.below.size;have Br:=h.low;rw [show c.W=k.W by rw [J];rfl] at Az |-;refine⟨L,rfl,Az.mono BB,⟨AP.kJ.os.trans h.below.os,AP.kJ.tape.trans h.below.tape,AP.kJ.output.trans h.below.output,aQG BB AP.kJ.size,fun q AA=>?_⟩⟩;refine (AP.kJ.keep q om fun Bb=>?_).trans (h.below.block q om);rcases Bb with e | e | e
  ·have e:q=m:=e;omega
  ·have e:q=m+1:=e;omega
  ·have e:q=m+2:=e;omega);obtain⟨BC,Bc,AZ⟩:=hq3 Ao Ap AV;obtain⟨g2,Ah⟩:=ai aH.heap.size;have Be:=aa (show w.heap.size<=g2 by rw [Ah];exact Ad.size);rw [<- M,<- Af];have BD:iN.toArray=#[.int .i64 0,.int .i64 0,.slice none 0 0,.slice none 0 0]:=rfl;rw [BD] at Y;have Bf:=aa Ah;have Bt:=AU.symm;have C8:=Y.symm;clear AU Y Ad Ae AV Ao Ap M hA dR bf hk jo Ah BD Av Af hc J w1 ay;go_enter func39,ntmps39;go_wp2_with (first|(with_reducible refine kG BC.o underlying26 Aq ?_)|(go_at_call 21; refine BR.o.mono ?_;rintro e aD ⟨rfl,Aa⟩;have Ac:=aa Aa;have BF:=aa (Bc.o.all Aa);have BG:=aa (BC.o.all Aa);have m1:=BS.o aD BG.o;rw [<- Bf.o] at BF |-;clear Aa)|(with_reducible refine kG BG.o underlying26 Aq ?_)|(go_at_call 34; refine (BU.o aD).mono ?_;rintro e bn ⟨X,m,rfl,BH⟩;have Bg:=aa BH;clear BH m1)|(go_at_call 60; refine (BX.o aD bn (aU AZ.o Ac.o) X m Bg.o).mono ?_;rintro e CF ⟨L,rfl,BK,Ak⟩;have BL:=aa (BK.mono (aQG AZ.o.size Ac.o.size));have Al:=aa (BF.o.all Ak);have Bh:=aa ((aU AZ.o Ac.o).trans (Ak.mono (aQG AZ.o.size Ac.o.size)));obtain⟨cz,AQ⟩:=ai (jd (bG k.W i) L);rw [<- AQ];have BN:cz.length=iN.length:=(by rw [AQ];rfl);have BO:Sz 63 cz.length:=(by rw [BN];exact kr);have Bi:∀ v∈cz,v.oneCell'=true:=(by rw [AQ];simp [jd,Value.oneCell']);have Bj:=aa AQ;clear BK Ak AQ)|((with_reducible refine vF cz Al.o BO BN Bi ?_);intro CG Bn Am));refine Eg Bn.o underlying63 rfl BO ⟨rfl,rfl,rfl⟩ ?_;rw [Bj.o];exact⟨L,rfl,⟨gX BL.o.outs Al.o dc Am.o,gX BL.o.reads Al.o dc Am.o⟩,oO Bh.o Am.o Be.o⟩
noncomputable def Tw (k:jE) (i:Nat):List ak:=vZ (k.X.getD i l8) :: (bG k.W i).outs.map (·.2)
noncomputable def uF (k:jE) (q:Nat):List ak:=k.files.map (·.2)++(List.range q).flatMap (Tw k)
noncomputable def rM (k:jE):List ak:=uF k k.dA.length
theorem anD (k:jE) (q:Nat):uF k (q+1)=uF k q++Tw k q:=by rw [uF,List.range_succ,List.flatMap_append];simp [uF,List.append_assoc]
theorem ahk (aB:Vp k):∀ q,q<=k.dA.length->(q=0\/FD k)->(uF k q).length<=1000+q * 201
 | 0,_,_=>by
  have:=aB.ku;simp [uF];omega
 | q+1,h,I=>by
  have hk:=I.resolve_left om;have h1:=ahk aB q om (.inr hk);have J:=SB hk.work (i:=q) (by simp [jE.X];omega);rw [anD,List.length_append,Tw,List.length_cons,List.length_map];have M:(bG k.W q).outs.length<=200:=J;omega
theorem anE (l:List ak) (x:ak):cB (l++[x])=cB l++[.string (aA x)]:=by simp [cB]
theorem aLI:Sz 63 iN.length:=kr
theorem aLJ:∀ v∈iN,v.oneCell'=true:=by simp [iN,Value.oneCell']
theorem Wn (P:ByteArray):(Value.string P).cells.size=1:=rfl
theorem axf {α β:Type} (f:α->β) {l:List α} {x:α} (h:l[q]?=some x):(l.take (q+1)).map f=(l.take q).map f++[f x]:=by rw [List.take_add_one,h];simp
theorem aLK (w:aRU) (k:jE) (bX:x8) (keep:Bool) (aB:Vp k) (hk:qb k=0->FD k) (dR:uW w B0) (bf:B0<=w.heap.size) (hA:∀ W:World,(∀ q,q < w.heap.size->W.heap[q]?=w.heap[q]?)->wY W k bX) :
  Calls prog 20 #[.agg (qy k bX keep).toArray] w fun e w'=>Bl w w'/\(qb k=0->∃ A c,e = .returned (.tuple #[.slice A (rM k).length c,.bool true])/\Own w' w.heap.size 9 1 A (rM k).length c (cB (rM k)))/\(qb k≠0->∃ v b,e = .returned (.tuple #[v,.bool b])):=by
 obtain⟨Ae,BC⟩:=ai (qy k bX keep);obtain⟨aH,Bh⟩:=ai (w.alloc (.cells Ae.toArray 26));obtain⟨J,Bi⟩:=ai aH.heap.size;have Bj:=gQ Bh;have Cr:=kY Bh;obtain⟨bW,Af,ku,Bn⟩:=nq2 k.dA.length k.files.length;have Fy:ku<=1000:=by rw [Bn];exact aB.ku
 have Fz:bW<=10:=by rw [Af];exact aB.nZ
 have G8:(Ae.drop 0).take Ae.length=Ae:=by simp
 have EC:=aa (show Sz 26 Ae.length by rw [BC];exact kr);have Ct:=EC.o;have AV:=aa (fun W (ae:Below J aH W)=>show Bl w W/\aM W w.heap.size Ae 26 /\ wY W k bX from by
  have h1:=Bj.trans (ae.mono (by rw [Bi];exact Bj.size));exact⟨h1,Cr.all (ae.mono (aQ1 Bi.symm)),hA W fun q Ap=>h1.block q Ap⟩);have Cu:=aa (fun W (ae:Below J aH W)=>show W.cell? (ad w.heap.size 0)=some (.slice bX.A ku bX.c)/\W.cell? (ad w.heap.size 1)=some (.slice bX.B bW bX.d) from by
  have h1:=(AV.o W ae).2.1;rw [BC] at h1;rw [Af,Bn];exact⟨h1.cell 0,h1.cell 1⟩);have EF:=aa (fun (I:qb k=0) (W:aRU) (ae:Below J aH W) (i:Nat) (ay:i < bW)=>show Calls prog 39 #[.agg Ae.toArray,.int .i64 i] W fun e w'=>∃ L,e = .returned (.tuple #[.agg (jd (bG k.W i) L).toArray,.int .i64 0])/\ny w' W.heap.size (bG k.W i) L/\Bl W w' from by
  have h1:=(AV.o W ae).1;rw [BC];exact aLH W k bX keep i (by rw [<- Af];exact ay) (fun aY Aq=>hA aY fun q Ap=>(Aq q (aQJ Ap h1.size)).trans (h1.block q Ap)) (hk I) (dR.below (h1.mono bf)) (aQG bf h1.size) I);have EG:=aa (fun (I:qb k≠0) (W:aRU) (ae:Below J aH W) (i:Nat)=>show Calls prog 39 #[.agg Ae.toArray,.int .i64 i] W fun e w'=>∃ Bp:Int,Bp≠0/\e = .returned (.tuple #[.agg iN.toArray,.int .i64 Bp])/\Bl W w' from by
  have h1:=(AV.o W ae).1;rw [BC];refine (aLF W k bX keep i (AV.o W ae).2.2 aB (dR.below (h1.mono bf)) (aQG bf h1.size) I).mono ?_;rintro e w' ⟨rfl,Aq⟩;exact⟨_,om,rfl,Aq⟩);have EH:=aa (fun (I:qb k=0) (W:aRU) (ae:Below J aH W) (i:Nat) (x:kH) (ah:k.dA[i]?=some x)=>show CB 40 #[.agg (vH x).toArray] W (.string (aA (vZ (k.X.getD i l8)))) from by
  obtain⟨h1,_,EJ⟩:=AV.o W ae;have Cv:=aQK ah;have BL:Mx W:=((dR.below (h1.mono bf)).up (aQG bf h1.size)).Gf;rw [show k.X.getD i l8=x.2 by rw [List.getD_eq_getElem?_getD,jE.X,List.getElem?_map,ah];rfl];exact au2 W x.1 x.2 (EJ.dA.each x Cv) ((hk I).wide x Cv) BL);have EK:=aa (fun (q:Nat) (h:q<=bW) (Ap:q=0\/qb k=0)=>show (uF k q).length<=1000+q * 201 from ahk aB q (by rw [<- Af];exact h) (Ap.imp_right hk));have EL:=aa (fun (I:qb k=0) (q:Nat) (h:q < bW)=>show (bG k.W q).outs.length<=200 from SB (hk I).work (i:=q) (by rw [Af] at h;simp [jE.X];omega));have M:=aa (show J<=aH.heap.size by omega);have EM:=aa (show w.heap.size<=J by rw [Bi];exact Bj.size);have EN:=aa Af;have BD:=aa Bn;have EO:=aa (show rM k=uF k bW by rw [Af];rfl);have iI:=(Cu.o aH (Below.refl _ _)).1;obtain⟨ES,BN,G9,BO⟩:=nq2 bX.A bX.B;have ET:=aa BN;have D8:=aa BO;rw [<- BN] at iI;rw [<- BC];have GD:=Bh.symm;clear Bh Bi Bj Cr BC Af Bn hk aB dR bf hA BN BO;go_enter func20,ntmps20;go_wp2_with fail;go_loopg [16,4] ku (fun gk BP BR wr=>∃ (q:Nat) (A:aRV) (c:Nat),q+gk=ku/\BP = .int .i64 q/\BR = .slice A q c/\Own wr J 9 1 A q c (cB ((k.files.take q).map (·.2)))/\Below J aH wr);case atStart=>exact⟨0,none,0,om,rfl,rfl,Own.nil _ _ _ _,Below.refl _ _⟩
 case round =>
  obtain⟨q,A,c,Ap,rfl,rfl,DF,DI⟩:=hrel;have DJ:=aa DF;have BS:=aa DI;clear DF DI;by_cases Ag:q < ku
  ·have CF:(q:Int) < ku:=om;have CG:(0:Int)<=q:=om;obtain⟨x,ah⟩:∃ x,k.files[q]?=some x:=⟨_,aQI (by rw [<- BD.o];exact Ag)⟩;obtain⟨b,o,BN,Av⟩:=vG (f:=fI) (k:=2) (fun _=>rfl) underlying65 rfl kr (show Rd wr 2 ES ku (cK fI k.files) by rw [ET.o,BD.o];exact (AV.o wr BS.o).2.2.files) ah BD.o.symm;subst BN;obtain⟨AX,AZ,P,Az⟩:=nq2 (fI x) (aA x.2);have BU:AX.length=2:=by rw [AZ];rfl
   have CJ:Sz 65 AX.length:=by rw [BU];exact kr
   have CK:∀ v∈AX,v.oneCell'=true:=by rw [AZ];exact abG _
   have CL:=aa (fun (W:aRU) (g:Nat) (h:aM W g AX 65)=>show W.cell? (ad g 1)=some (.string P) by rw [h.cell 1,AZ,Az];rfl);rw [<- AZ] at Av;obtain⟨Bq,EU,CQ⟩:=hq3 Av ah Az;have GG:q<=1000:=om;clear ah AZ Az Ag Av;go_wp2_with (first
  | ((with_reducible refine pO Bq.o ?_ ?_);exact rfl)
  | ((with_reducible refine qR AX BU CJ CK ?_);intro bn Ah EX;have GH:=CL.o bn wr.heap.size EX.o;have AU:=aa (BS.o.trans (Ah.o.mono (aQG M.o BS.o.size)));have Br:=aa (DJ.o.below Ah.o (aQF _)))
  | ((with_reducible refine Ba Aj (.string P) (Wn P) rfl ?_);intro BX Ak AA;have Aa:=aa (show Rd BX 1 (some ⟨bn.heap.size,0,none⟩) 1 [.string P] from Ak);have Y:=aa (Br.o.below AA (aQF _));have AB:=aa ((AU.o).trans (AA.mono (aQG M.o (AU.o).size)));clear Ak AA)
  | (at_builtin;have _t:=Aa;go_must ((with_reducible refine vg 9 _ 1 16 underlying24 Aj.info Aj.zs J A q c (cB ((k.files.take q).map (·.2))) Y.o 1 [.string P] (.slice (some ⟨bn.heap.size,0,none⟩) 1 1) (Src.slice underlying24 Aa.o) (by simp [Value.oneCell']) ?_ ?_ ?_ ?_ ?_);exact mV;omega;(have h1:=AB.o.size;have Aq:=M.o;omega);exact⟨rfl,rfl⟩;intro EY Ea BZ Al AQ Bb;have Ec:=aa Al;have BF:=aa (AB.o.grown AQ (aQG M.o AB.o.size) (fun k e=>(Y.o.block k e).1));clear Al AQ Bb Aa Y AB)))
   go_roundg (gk - 1);case rel =>
    refine⟨q+1,EY,Ea,om,by go_num,rfl,?_,BF.o⟩;rw [axf _ EU.o,anE,<- CQ.o];exact Ec.o
   case measure=>omega
  ·have CF:¬ (q:Int) < ku:=om;obtain rfl:q=ku:=om;have Ee:=aa (show Own wr J 9 1 A (uF k 0).length c (cB (uF k 0)) by
    have h:=DJ.o;rw [List.take_of_length_le (by rw [BD.o];exact Nat.le_refl _)] at h;have e:uF k 0=k.files.map (·.2):=by simp [uF]
    rw [e,List.length_map,<- BD.o];exact h);obtain⟨n0,CS⟩:=ai ((uF k 0).length);have CG:q=n0:=by rw [CS];simp [uF];exact BD.o
   subst CG;have DN:=aa CS;have Eh:=(Cu.o wr BS.o).2;rw [<- D8.o] at Eh;clear Ag iI CS;go_wp2_with fail;go_loopg [29,4] bW (fun Ef BP BR DR=>∃ (eG:Nat) (il:aRV) (Am c2:Nat),eG+Ef=bW/\BP = .int .i64 eG/\Am=(uF k eG).length/\(eG=0\/qb k=0)/\BR = .slice il Am c2/\Own DR J 9 1 il Am c2 (cB (uF k eG))/\Below J aH DR);case atStart=>exact⟨0,A,_,c,om,rfl,DN.o,.inl rfl,rfl,by rw [DN.o];exact Ee.o,BS.o⟩
   case round =>
    obtain⟨eG,il,Am,c2,GI,rfl,DT,DU,rfl,Db,Dc⟩:=hrel;obtain⟨Ei,CU,BG,CV⟩:=hq4 DU Db Dc DT;obtain⟨je,GK⟩:=ai gk;clear Db Dc DT DU;by_cases Ag:eG < bW
    ·have CF:(eG:Int) < bW:=om;have CG:(0:Int)<=eG:=om;obtain⟨x,ah⟩:∃ x,k.dA[eG]?=some x:=⟨_,aQI (by rw [<- EN.o];exact Ag)⟩;obtain⟨b,o,BO,Av⟩:=(AV.o wr BG.o).2.2.dA.load ah;rw [<- D8.o] at BO;subst BO;obtain⟨Ac,Bc⟩:=ai (vH x);have CW:Ac.length=7:=by rw [Bc];rfl
     have CX:Sz 45 Ac.length:=by rw [CW];exact kr
     have De:∀ v∈Ac,v.oneCell'=true:=by rw [Bc];exact arp _ _
     have GL:(Ac.drop 0).take Ac.length=Ac:=by simp
     rw [show nT x.1 x.2=Ac.toArray by rw [Bc,vH]] at Av;have Bq:=aa Av;obtain⟨T,BL⟩:=ai (aA (vZ (k.X.getD eG l8)));have Ej:=aa (fun W (ae:Below J aH W) (I:qb k=0)=>show CB 40 #[.agg Ac.toArray] W (.string T) from by rw [Bc,BL];exact EH.o I W ae eG x ah);have GQ:Am<=4000:=by have h1:=EK.o eG om Ei.o;have Aq:=CV.o;omega
     have El:=aa BL;have Dg:=aa Ag;clear ah Bc BL Ag Av;by_cases I:qb k=0
     ·have I:=aa I;go_upto_region 11 with (first
  | ((with_reducible refine pO Bq.o ?_ ?_);exact rfl)
  | ((with_reducible refine qR Ac CW CX De ?_);intro bn Ah Dh;have AU:=aa (BG.o.trans (Ah.o.mono (aQG M.o BG.o.size)));have CY:=aa (AV.o bn AU.o).2.1;have Br:=aa (CU.o.below Ah.o (aQF _)))
  | (with_reducible refine kG CY.o underlying26 Ct ?_)
  | (go_at_call 39; refine (EF.o I.o bn AU.o eG Dg.o).mono ?_;rintro e Di ⟨L,rfl,Dj,BB⟩;have Em:=aa Dj;have Be:=aa (AU.o.trans (BB.mono (aQG M.o AU.o.size)));have En:=aa (Br.o.below BB (aQF _));have Eo:=aa (Dh.o.all BB);obtain⟨cz,Bf⟩:=ai (jd (bG k.W eG) L);rw [<- Bf];have Dk:cz.length=4:=(by rw [Bf];rfl);have Er:Sz 63 cz.length:=(by rw [Dk];exact kr);have Es:∀ v∈cz,v.oneCell'=true:=(by rw [Bf];simp [jd,Value.oneCell']);have Ev:=aa Bf;clear Dj BB Bf)
  | ((with_reducible refine qR cz Dk Er Es ?_);intro BZ BF CZ;have Bg:=aa (Be.o.trans (BF.o.mono (aQG M.o Be.o.size)));have Ew:=aa (En.o.below BF.o (aQF _));have Ex:=aa (Eo.o.all BF.o);have F3:=aa (Em.o.all BF.o)))
      obtain⟨go,Ca,no,Bt⟩:=nq2 Di.heap.size ((bG k.W eG).outs.length);have BH:=aa Bt;have CZ:=aa (show aM BZ go cz 63 by rw [Ca];exact CZ.o);have GV:no<=200:=by rw [Bt];exact EL.o I.o eG Dg.o
      rw [<- Ca];have F4:=aa (fun (W:aRU) (h:aM W go cz 63)=>show W.cell? (ad go 2)=some (.slice L.A no L.c) by rw [h.cell 2,Ev.o,Bt];rfl);clear Ca Bt;go_upto_region 14 with (first
  | (with_reducible refine kG Ex.o underlying45 CX ?_)
  | (go_at_call 40; refine (Ej.o BZ Bg.o I.o).mono ?_;rintro e Dp ⟨rfl,BK⟩;have GX:=aa BK;have Dq:=aa (Bg.o.trans (BK.mono (aQG M.o Bg.o.size)));have F5:=aa (Ew.o.below BK (aQF _));have F6:=aa (F3.o.all BK);have FB:=aa (CZ.o.all BK);clear BK)
  | ((with_reducible refine Ba Aj (.string T) (Wn T) rfl ?_);intro BX Ak AA;have Aa:=aa (show Rd BX 1 (some ⟨Dp.heap.size,0,none⟩) 1 [.string T] from Ak);have Y:=aa (F5.o.below AA (aQF _));have AB:=aa ((Dq.o).trans (AA.mono (aQG M.o (Dq.o).size)));have Ad:=aa (F6.o.all AA);have Cc:=aa (FB.o.all AA);clear Ak AA)
  | (at_builtin;have _t:=Aa;go_must ((with_reducible refine vg 9 _ 1 16 underlying24 Aj.info Aj.zs J il Am c2 (cB (uF k eG)) Y.o 1 [.string T] (.slice (some ⟨Dp.heap.size,0,none⟩) 1 1) (Src.slice underlying24 Aa.o) (by simp [Value.oneCell']) ?_ ?_ ?_ ?_ ?_);exact mV;omega;(have h1:=AB.o.size;have Aq:=M.o;omega);exact⟨rfl,rfl⟩;intro A9 c9 C8 Al AQ Bb;have FC:=aa Al;have FF:=aa (AB.o.grown AQ (aQG M.o AB.o.size) (fun k e=>(Y.o.block k e).1));have FI:=aa (⟨Ad.o.outs.grown AQ (Own.apart Ad.o.outs Y.o dc),Ad.o.reads.grown AQ (Own.apart Ad.o.reads Y.o dc)⟩:ny C8 bn.heap.size (bG k.W eG) L);have FJ:=aa (show aM C8 go cz 63 from (AQ.block go Cc.o.lt (fun e=>Y.o.ne Cc.o dc e.symm)).trans Cc.o);clear Al AQ Bb Aa Y AB)))
      have FK:=F4.o C8 FJ.o;obtain⟨SO,Ce,Ga,Dr⟩:=nq2 L.A L.c;rw [<- Ce,<- Dr] at FK;have FO:=aa Ce;clear Ce Dr;have FP:=aa (show Own C8 J 9 1 A9 (Am+1+0) c9 (cB (uF k eG++[vZ (k.X.getD eG l8)]++((bG k.W eG).outs.take 0).map (·.2))) by
       rw [List.take_zero,List.map_nil,List.append_nil,anE,<- El.o];exact FC.o);go_wp2_with fail;go_loopg [50,4] no (fun gk BP BR wr=>∃ (AP:Nat) (dh:aRV) (Ao bH:Nat),AP+gk=no/\BP = .int .i64 AP/\Ao=Am+1+AP/\BR = .slice dh Ao bH/\Own wr J 9 1 dh Ao bH (cB (uF k eG++[vZ (k.X.getD eG l8)]++((bG k.W eG).outs.take AP).map (·.2)))/\Below J aH wr/\ny wr bn.heap.size (bG k.W eG) L);case atStart=>exact⟨0,A9,_,c9,om,rfl,rfl,rfl,FP.o,FF.o,FI.o⟩
      case round =>
       obtain⟨AP,dh,Ao,bH,Gb,rfl,Cf,rfl,Dt,Du,Dv⟩:=hrel;obtain⟨Dw,Cg,Dz,E5⟩:=hq4 Dt Du Dv Cf;clear Dt Du Dv;by_cases Cj:AP < no
       ·have FR:(AP:Int) < no:=om;have Gc:(0:Int)<=AP:=om;obtain⟨y,hy⟩:∃ y,(bG k.W eG).outs[AP]?=some y:=⟨_,aQI (by rw [<- BH.o];exact Cj)⟩;obtain⟨Gd,Gg,FU,Ck⟩:=vG (f:=fI) (k:=2) (fun _=>rfl) underlying65 rfl kr (show Rd wr 2 SO no (cK fI (bG k.W eG).outs) by rw [FO.o,BH.o];exact Dz.o.outs.rd) hy BH.o.symm;subst FU;obtain⟨AX,AZ,P,Az⟩:=nq2 (fI y) (aA y.2);have BU:AX.length=2:=by rw [AZ];rfl
        have CJ:Sz 65 AX.length:=by rw [BU];exact kr
        have CK:∀ v∈AX,v.oneCell'=true:=by rw [AZ];exact abG _
        have CL:=aa (fun (W:aRU) (g:Nat) (h:aM W g AX 65)=>show W.cell? (ad g 1)=some (.string P) by rw [h.cell 1,AZ,Az];rfl);rw [<- AZ] at Ck;obtain⟨FV,FW,CQ⟩:=hq3 Ck hy Az;have Gi:Ao<=5000:=om;clear Cf hy AZ Az Cj Ck;go_wp2_with (first
  | ((with_reducible refine pO FV.o ?_ ?_);exact rfl)
  | ((with_reducible refine qR AX BU CJ CK ?_);intro Cm Co FX;have iI:=CL.o Cm wr.heap.size FX.o;have E8:=aa (Cg.o.trans (Co.o.mono (aQG M.o Cg.o.size)));have FY:=aa (Dw.o.below Co.o (aQF _));have Fa:=aa (Dz.o.all Co.o))
  | ((with_reducible refine Ba Aj (.string P) (Wn P) rfl ?_);intro BX Ak AA;have Aa:=aa (show Rd BX 1 (some ⟨Cm.heap.size,0,none⟩) 1 [.string P] from Ak);have Y:=aa (FY.o.below AA (aQF _));have AB:=aa ((E8.o).trans (AA.mono (aQG M.o (E8.o).size)));have Ad:=aa (Fa.o.all AA);clear Ak AA)
  | (at_builtin;have _t:=Aa;go_must ((with_reducible refine vg 9 _ 1 16 underlying24 Aj.info Aj.zs J dh Ao bH (cB (uF k eG++[vZ (k.X.getD eG l8)]++((bG k.W eG).outs.take AP).map (·.2))) Y.o 1 [.string P] (.slice (some ⟨Cm.heap.size,0,none⟩) 1 1) (Src.slice underlying24 Aa.o) (by simp [Value.oneCell']) ?_ ?_ ?_ ?_ ?_);exact mV;omega;(have h1:=AB.o.size;have Aq:=M.o;omega);exact⟨rfl,rfl⟩;intro Fe Eh uK Al AQ Bb;have Fh:=aa Al;have Fj:=aa (AB.o.grown AQ (aQG M.o AB.o.size) (fun k e=>(Y.o.block k e).1));have Fp:=aa (⟨Ad.o.outs.grown AQ (Own.apart Ad.o.outs Y.o dc),Ad.o.reads.grown AQ (Own.apart Ad.o.reads Y.o dc)⟩:ny uK bn.heap.size (bG k.W eG) L);clear Al AQ Bb Aa Y AB)))
        go_roundg (gk - 1);case rel =>
         refine⟨AP+1,Fe,_,Eh,om,by go_num,by rw [E5.o];omega,rfl,?_,Fj.o,Fp.o⟩;rw [axf _ FW.o,<- List.append_assoc,anE,<- CQ.o];exact Fh.o
        case measure=>omega
       ·have FR:¬ (AP:Int) < no:=om;obtain rfl:AP=no:=om;have E9:=aa (show uF k eG++[vZ (k.X.getD eG l8)]++((bG k.W eG).outs.take AP).map (·.2)=uF k (eG+1) by
         rw [List.take_of_length_le (by rw [BH.o];exact Nat.le_refl _),anD,Tw,List.append_assoc];rfl);have Fq:=aa (show Ao=(uF k (eG+1)).length by
         rw [<- E9.o,List.take_of_length_le (by rw [BH.o];exact Nat.le_refl _),List.length_append,List.length_append,List.length_map,<- BH.o,<- CV.o];exact E5.o);have Fu:=aa (show Own wr J 9 1 dh Ao bH (cB (uF k (eG+1))) by rw [<- E9.o];exact Dw.o);clear Cj Cf;go_wp2_with fail;go_roundg (je - 1);case rel=>exact⟨eG+1,dh,_,bH,om,by go_num,Fq.o,.inr I.o,rfl,Fu.o,Cg.o⟩
        case measure=>omega
     ·have I:=aa I;go_upto_region 11 with (first
  | ((with_reducible refine pO Bq.o ?_ ?_);exact rfl)
  | ((with_reducible refine qR Ac CW CX De ?_);intro bn Ah Dh;have AU:=aa (BG.o.trans (Ah.o.mono (aQG M.o BG.o.size)));have CY:=aa (AV.o bn AU.o).2.1;have Br:=aa (CU.o.below Ah.o (aQF _)))
  | (with_reducible refine kG CY.o underlying26 Ct ?_)
  | (go_at_call 39; refine (EG.o I.o bn AU.o eG).mono ?_;rintro e Di ⟨Bp,EA,rfl,BB⟩;have Be:=aa (AU.o.trans (BB.mono (aQG M.o AU.o.size)));clear BB)
  | ((with_reducible refine qR iN rfl aLI aLJ ?_);intro BZ Fv _;have Bg:=aa (Be.o.trans (Fv.o.mono (aQG M.o Be.o.size)))))
      have Gm:(Bp != 0)=true:=by simpa using EA
      clear EA;go_wp2_with fail;refine aQP (aRc rfl _ _ _) rfl ?_;exact⟨(AV.o BZ Bg.o).1,fun h=>absurd h I.o,fun _=>⟨_,_,rfl⟩⟩
    ·have CF:¬ (eG:Int) < bW:=om;obtain rfl:eG=bW:=om;clear Ag;go_wp2_with fail;refine aQP (aRc rfl _ _ _) rfl ?_;rw [EO.o,<- CV.o];exact⟨(AV.o wr BG.o).1,fun _=>⟨il,c2,rfl,CU.o.mono EM.o⟩,fun _=>⟨_,.inr rfl⟩⟩
def Seen (M:fA ak) (l:List ak):Prop:=(∀ x∈l,getM M (bP.sum x)=some x)/\∀ s y,getM M s=some y->y∈l/\s=bP.sum y
theorem Seen.put {M:fA ak} {l:List ak} {x:ak} (h:Seen M l) (ah:∀ y,getM M (bP.sum x)=some y->y=x):Seen (oI M (bP.sum x) x) (l++[x]):=by
 constructor
 ·intro y hy;rcases aQ4.1 hy with h1 | h1
  ·by_cases e:bP.sum y=bP.sum x
   ·have I:=h.1 y h1;rw [e] at I;obtain rfl:=ah y I;exact ME M _ _
   ·rw [MF M _ e];exact h.1 y h1
  ·obtain rfl:=aRw.1 h1;exact ME M _ _
 ·intro s y hs;by_cases e:s=bP.sum x
  ·subst e;rw [ME] at hs;cases hs;exact⟨by simp,rfl⟩
  ·rw [MF M _ e] at hs;obtain⟨h1,I⟩:=h.2 s y hs;exact⟨aRd _ h1,I⟩
theorem Seen.apart {M:fA ak} {l:List ak} (h:Seen M l):IC l:=fun a I b ae e=>by
 have h1:=h.1 a I;rw [e,h.1 b ae] at h1;cases h1;rfl
theorem aL9 (w:aRU) (A:aRV) (c:Nat) (l:List ak) (ax:Rd w 1 A l.length (cB l)) (hl:l.length<=100000) (hs:∀ x∈l,x.length<=70368744177664) :
  Calls prog 22 #[.slice A l.length c] w fun e w'=>(∃ b,e = .returned (.bool b)/\(b=true->IC l))/\Bl w w':=by
 obtain⟨n,Ah,aH,Aa⟩:=nq2 l.length (w.alloc (.map #[] 0));have BF:=gQ Aa;obtain⟨g,av⟩:=ai w.heap.size;have BG:eU aH prog 59 encS g 0 []:=by rw [Aa,av];exact eU.made w _ _ _
 rw [<- Ah] at ax hl |-;obtain⟨Bh,BH,Bi,Bj,Bn,Ak⟩:=hq6 ax Ah hs BF BG av;have Bp:=@run_makeMap prog;have CY:=Aa.symm;clear ax Ah hs BF BG Aa av;go_enter func22,ntmps22;go_wp2_with fail;rw [<- Ak.o];go_loopg [12] n (fun gk Bq wr=>∃ (q:Nat) (M:fA ak),q+gk=n/\Bq = .int .i64 q/\eU wr prog 59 encS g q M/\Seen M (l.take q)/\Bl w wr);case atStart=>exact⟨0,[],om,rfl,Bn.o,⟨fun x ah=>(by simp at ah),fun s y h=>(by cases h)⟩,Bj.o⟩
 case round =>
  clear Bp;obtain⟨q,M,CZ,rfl,BK,BL,BN⟩:=hrel;obtain⟨BO,Al,Am⟩:=hq3 BK BL BN;clear BK BL BN;by_cases Ao:q < n
  ·have Br:(q:Int) < n:=om;have Ca:(0:Int)<=q:=om;obtain⟨x,ah⟩:∃ x,l[q]?=some x:=⟨_,aQI (by rw [<- BH.o];exact Ao)⟩;obtain⟨b,o,rfl,Bt⟩:=KW (Bh.o.gz Am.o) ah;obtain⟨P,AB,D,Ac⟩:=nq2 (aA x) (bP.sum x);obtain⟨I,AP⟩:=ai (bQ D);have Ap:D.length=32:=by rw [Ac];exact yK _
   have BP:I.length=32:=by rw [AP,<- Ap];simp [bQ]
   have Ad:Sz 59 I.length:=by rw [BP];exact kr
   have C8:∀ v∈I,v.oneCell'=true:=by rw [AP];exact GZ _
   have Cc:(I.drop 0).take I.length=I:=by simp
   have CF:=aa (fun (W:aRU) (g2:Nat) (CG:Rd W 1 (some ⟨g2,0,none⟩) 1 [.string P])=>show CB 33 #[.slice (some ⟨g2,0,none⟩) 1 1] W (.agg I.toArray) from by
    have h1:=aid W (some ⟨g2,0,none⟩) 1 1 [P] CG dc (by rw [adL,wL,AB,iP];exact Bi.o x (aQK ah));rw [adL,AB,gZ,<- Ac,<- AP] at h1;exact h1);have CJ:=aa (fun (W:aRU) (h:eU W prog 59 encS g q M)=>show (Instr.lookup 87 (.map (some g)) (.agg I.toArray) true).run prog W = .ok (.tuple #[.string (aA ((getM M D).getD [])),.bool (getM M D).isSome]) W from by
    have:=h.aqT O3 MV underlying87 [] (ZX W) (Uv Ap);rw [Ri,K4,<- AP] at this;exact this);have BR:=aa (show keyOf prog 59 (.agg I.toArray)=some (.string D) from by
    have:=Uv Ap;rw [Ri,K4,<- AP] at this;exact this);have BS:=aa (show Value.string P=encS x by rw [AB];rfl);have BU:=aa ah;have Ae:=aa (show P.toList=x by rw [AB];exact D7 _);rw [<- AB] at Bt;have Af:=aa Ac;have BX:q < maxLen:=by unfold maxLen;omega
   clear ah AB Ac AP Ao;go_upto_region 6 with (first|((with_reducible refine Ba Aj (.string P) (Wn P) rfl ?_);intro BZ Bb Bc;have CK:=aa (show Rd BZ 1 (some ⟨wr.heap.size,0,none⟩) 1 [.string P] from Bb);have CL:=aa Bc;clear Bb Bc)|(go_at_call 33; refine (CF.o BZ _ CK.o).mono ?_;rintro e bn ⟨rfl,Be⟩;have CQ:=aa (aU CL.o Be);clear Be)|((with_reducible refine qR I BP Ad C8 ?_);intro Bf CS AU;have Bg:=aa (aU CQ.o CS.o)))
   obtain⟨g5,Aq⟩:=ai bn.heap.size;have AU:=aa (show aM Bf g5 I 59 by rw [Aq];exact AU.o);rw [<- Aq];clear Aq;have Av:=aa (BO.o.below Bg.o BO.o.lt);have Az:=aa (aU Am.o Bg.o);have AV:=CJ.o Bf Av.o;cases J:getM M D with
   | none =>
    rw [J] at AV;have BB:=aa (show Seen (oI M D x) (l.take (q+1)) from by
     rw [List.take_add_one,BU.o,Af.o];exact Al.o.put fun y hy=>by rw [<- Af.o,J] at hy;cases hy);clear J;go_wp2_with (first|(with_reducible refine kG AU.o underlying59 Ad ?_)|((with_reducible refine aee Av.o O3 MV underlying87 BX (.agg I.toArray) D BR.o x ?_ ?_);exact⟨rfl,rfl,BS.o⟩;intro CU AX AZ;have BC:=aa AX;have BD:=aa AZ;clear AX AZ AV));go_roundg (gk - 1);case rel=>exact⟨q+1,_,om,by go_num,BC.o,BB.o,oO Az.o BD.o (by rw [Ak.o];exact aQF _)⟩
    case measure=>omega
   | some y =>
    rw [J,Option.getD_some,Option.isSome_some] at AV;obtain⟨Y,Ag⟩:=ai (aA y);rw [<- Ag] at AV;have AQ:Y.toList=y:=by rw [Ag];exact D7 _
    by_cases AA:y=x
    ·have BB:=aa (show Seen (oI M D x) (l.take (q+1)) from by
      rw [List.take_add_one,BU.o,Af.o];exact Al.o.put fun Ce hy=>by rw [<- Af.o,J] at hy;cases hy;exact AA);have CV:(Y.toList == P.toList)=true:=by rw [AQ,Ae.o];simp [AA]
     have CW:Y.toList=P.toList:=by rw [AQ,Ae.o,AA]
     clear J AA Ag AQ;go_wp2_with (first|(with_reducible refine kG AU.o underlying59 Ad ?_)|((with_reducible refine aee Av.o O3 MV underlying87 BX (.agg I.toArray) D BR.o x ?_ ?_);exact⟨rfl,rfl,BS.o⟩;intro CU AX AZ;have BC:=aa AX;have BD:=aa AZ;clear AX AZ AV));go_roundg (gk - 1);case rel=>exact⟨q+1,_,om,by go_num,BC.o,BB.o,oO Az.o BD.o (by rw [Ak.o];exact aQF _)⟩
     case measure=>omega
    ·have CV:(Y.toList == P.toList)=false:=by rw [AQ,Ae.o];simpa using AA
     have CW:¬ Y.toList=P.toList:=by rw [AQ,Ae.o];exact AA
     clear J AA Ag AQ;go_wp2_with (first|(with_reducible refine kG AU.o underlying59 Ad ?_));go_ret;exact⟨⟨false,rfl,fun h=>by cases h⟩,Az.o⟩
  ·have Br:¬ (q:Int) < n:=om;have CX:=aa (show IC l by
    have:=Al.o.apart;rw [List.take_of_length_le (by rw [<- BH.o];omega)] at this;exact this);clear Ao;go_wp2_with fail;go_ret;exact⟨.inr ⟨rfl,CX.o⟩,Am.o⟩
end
section
section
variable {k:jE} (h:IY k) (av:Bw k=false) (hc:qb k=0)
theorem aMa {X:List lv} (h:Qd F X) (i:Nat):(bG (nR F X) i).outs.length<=(X.getD i l8).outs.length:=by
 rcases VG h.small i with hk | hk
 ·have h1:=congrArg List.length (af4 h.small hk).1;rw [List.length_map] at h1;have I:=Mw (X.getD i l8).outs;omega
 ·rw [hk.2];exact aQQ _
theorem axu (hw:Qd k.files k.X):∀ q,q<=k.dA.length->(uF k q).length<=Aw k.files+q+Ay (k.dA.take q)
 | 0,_=>by
  have:=ag4 k.files;simp [uF];omega
 | q+1,J=>by
  have h1:=axu hw q om;obtain⟨x,ah⟩:∃ x,k.dA[q]?=some x:=⟨_,aQI om⟩;have I:=aMa hw q;rw [show k.X.getD q l8=x.2 by rw [List.getD_eq_getElem?_getD,jE.X,List.getElem?_map,ah];rfl] at I;rw [anD,List.length_append,Tw,List.length_cons,List.length_map,awo ah];have M:(bG k.W q).outs.length<=x.2.outs.length:=I;omega
theorem anN (ay:i < k.dA.length) {x:ak} (ah:x∈Tw k i):x∈rM k:=aRn _ (aRl.2 ⟨i,aQ3.2 ay,ah⟩)
theorem axv (h:IY k) (av:Bw k=false) (hc:qb k=0) (bq:IC (rM k)):acz k (rM k):=by
 have hf:=h.fit av hc;obtain⟨h1,AQ,AU⟩:=ag5 av;have hlen:=axu hf.work k.dA.length (aQF _);rw [List.take_length] at hlen;have aI:Ff [] k.dA=0:=by
  unfold qb at hc;split at hc
  ·contradiction
  ·split at hc
   ·contradiction
   ·rename_i _ h;simpa using h
 obtain⟨Y,M⟩:=alY aI aRv;rw [List.nil_append] at M;have key:∀ i j,i < k.dA.length->j < k.dA.length->j < i->NN k.X i≠NN k.X j:=fun i j I aC AA e=>by
  have AB:=bq _ (anN I (List.mem_cons_self ..)) _ (anN aC (List.mem_cons_self ..)) e;obtain⟨x,ah⟩:∃ x,k.dA[i]?=some x:=⟨_,aQI I⟩;obtain⟨y,hy⟩:∃ x,k.dA[j]?=some x:=⟨_,aQI aC⟩;refine aIx (fun x ah=>(Y x ah).some) M ah hy AA ?_;rwa [show k.X.getD i l8=x.2 by rw [List.getD_eq_getElem?_getD,jE.X,List.getElem?_map,ah];rfl,show k.X.getD j l8=y.2 by rw [List.getD_eq_getElem?_getD,jE.X,List.getElem?_map,hy];rfl] at AB
 refine⟨bq,by show (uF k _).length<=1000;omega,fun i j I aC AP=>?_,fun i I x ah=>anN I (aQ9 _ (aQO.2 ⟨x,ah,rfl⟩))⟩;rcases Nat.lt_or_gt_of_ne AP with J | J
 ·exact aQ0 (key j i aC I J)
 ·exact key i j I aC J
end
theorem aMb (hf:FD k):∀ x∈rM k,x.length<=70368744177664:=fun x ah=>by
 rcases aQ4.1 ah with h1 | h1
 ·obtain⟨y,hy,rfl⟩:=aQO.1 h1;have:=(hf.kE.Nz y hy).2;omega
 ·obtain⟨i,I,J⟩:=aRl.1 h1;have I:=aQ3.1 I;rcases aQN.1 J with rfl | J
  ·obtain⟨y,hy⟩:∃ x,k.dA[i]?=some x:=⟨_,aQI I⟩;rw [show k.X.getD i l8=y.2 by rw [List.getD_eq_getElem?_getD,jE.X,List.getElem?_map,hy];rfl];have:=(al4 (hf.wide y (aQK hy))).text;omega
  ·obtain⟨y,hy,rfl⟩:=aQO.1 J;have:=(Ye hf.work.small i y hy).1;omega
end
section
open Go.Maps Go.RowKit Go.Shelf
theorem aMc (w:aRU) (n:Nat) (fU:Nat->List UInt8) (df:Nat->lS) (met:List ak) :
  Calls prog 8 #[] w fun e w'=>∃ S:uC,e = .returned (Ep S)/\qA w' S (fun _=>False) n fU df met (fun _=>false) (fun _=>false)/\S.B=w.heap.size/\(w.heap.size<=S.jN/\w.heap.size<=S.je/\w.heap.size<=S.gs/\w.heap.size<=S.lT)/\Bl w w':=by
 have AU:=aa (aHR w n (fun _=>False) fU df);have AV:=aa (fun (W:aRU)=>aCS W);have AX:=aa (fun (W:aRU) (jP gs:Nat)=>aIh W jP gs);go_enter func8,ntmps8;go_wp2_with (first|(go_at_call 11; refine GY AU.o ?_;intro w1 Y AA)|(go_at_call 12; refine (AV.o w1).mono ?_;rintro e af ⟨rfl,AB,AP,AQ⟩;obtain⟨I,J,AZ⟩:=hq3 AB AP AQ;clear AB AP AQ)|(go_at_call 13; refine GY (AX.o af _ _) ?_;intro aD Aa M));go_ret;have h1:=AA.o.size;have Ad:=Y.o.obj.lt;have Ac:=J.o.size;have Ae:=AZ.o;refine⟨⟨w.heap.size,af.heap.size,w.heap.size+1,w.heap.size,w1.heap.size+1,w1.heap.size⟩,rfl,⟨Aa.o,(Y.o.all J.o).all M.o,⟨[],I.o.below M.o I.o.lt.1 I.o.lt.2,⟨fun x ah=>(by cases ah),fun x=>⟨fun h=>(by cases h),fun h=>(by cases h)⟩⟩⟩,⟨?_,?_,?_⟩,?_⟩,rfl,⟨?_,?_,?_,?_⟩,(AA.o.trans (J.o.mono h1)).trans (M.o.mono (aQG h1 Ac))⟩;all_goals
  simp only;omega
theorem anO:D6 prog 29 26 (.agg #[.slice none 0 0,.slice none 0 0,.slice none 0 0,.bool false]) 4 80:=⟨underlying29,kr,rfl,dc⟩
theorem aMd:Sz 22 1:=kr
theorem aMe:Sz 4 1:=kr
def axw (w:aRU) (k:jE) (bX:x8) (e:Ending) (w':aRU):Prop:=Bl w w'/\∃ v b,e = .returned (.tuple #[v,.bool b])/\(b=true->Bw k=false/\qb k=0/\IC (rM k)/\∃ A c,v = .slice A 1 c/\Own w' w.heap.size 26 4 A 1 c (qy k bX true))
theorem aMf (w:aRU) (k:jE) (bX:x8) (keep:Bool) (hk:IY k) (dR:uW w B0) (bf:B0<=w.heap.size) (hA:∀ W:World,(∀ q,q < w.heap.size->W.heap[q]?=w.heap[q]?)->wY W k bX) :
  Calls prog 6 #[.agg (qy k bX keep).toArray,.slice none 0 0] w (axw w k bX):=by
 obtain⟨J,Y,I,M,gm,BC,ku,BD,gV,BF⟩:=nq5 (qy k bX keep) (qy k bX true) bX.A k.files.length bX.c;obtain⟨aH,Al⟩:=ai (w.alloc (.cells J.toArray 26));have Bt:=gQ Al;have C8:=kY Al;have CF:J.length=4:=by rw [Y];rfl
 have DN:I.length=4:=by rw [M];rfl
 have DR:(Value.agg I.toArray).cells.size=4:=by rw [M];rfl
 have CG:(J.drop 0).take J.length=J:=by simp
 have CJ:(I.drop 0).take I.length=I:=by simp
 have Am:Sz 26 J.length:=by rw [CF];exact kr
 have AQ:Sz 26 I.length:=by rw [DN];exact kr
 have DT:∀ v∈J,v.oneCell'=true:=by rw [Y];simp [qy,Value.oneCell']
 have DU:∀ v∈I,v.oneCell'=true:=by rw [M];simp [qy,Value.oneCell']
 have BG:=aa (fun W (ae:Bl w W)=>show CB 19 #[.agg J.toArray] W (.bool (Bw k)) from by
  rw [Y];exact awp W k bX keep (hA W fun q AA=>ae.block q AA) hk.toawl);have BH:=aa (fun W (ae:Bl w W)=>show CB 19 #[.agg I.toArray] W (.bool (Bw k)) from by
  rw [M];exact awp W k bX true (hA W fun q AA=>ae.block q AA) hk.toawl);have BK:=aa (fun (av:Bw k=false) (W:aRU) (ae:Bl w W)=>show CB 21 #[.agg I.toArray] W (.int .i64 (qb k)) from by
  rw [M];exact aa7 W k bX true (hA W fun q AA=>ae.block q AA) (hk.ok av) (dR.below (ae.mono bf)).vL);have BL:=aa (fun (av:Bw k=false) (W:aRU) (ae:Bl w W)=>show Calls prog 20 #[.agg I.toArray] W fun e w'=>Bl W w'/\(qb k=0->∃ A c,e = .returned (.tuple #[.slice A (rM k).length c,.bool true])/\Own w' W.heap.size 9 1 A (rM k).length c (cB (rM k)))/\(qb k≠0->∃ v b,e = .returned (.tuple #[v,.bool b])) from by
  rw [M];exact aLK W k bX true (hk.ok av) (fun hc=>hk.fit av hc) (dR.below (ae.mono bf)) (aQG bf ae.size) fun aY ag=>hA aY fun q AA=>(ag q (aQJ AA ae.size)).trans (ae.block q AA));have BN:=aa (fun (av:Bw k=false) (hc:qb k=0) (W:aRU) (A:aRV) (c:Nat) (Db:Rd W 1 A (rM k).length (cB (rM k)))=>show Calls prog 22 #[.slice A (rM k).length c] W fun e w'=>(∃ b,e = .returned (.bool b)/\(b=true->IC (rM k)))/\Bl W w' from
  aL9 W A c _ Db (by have:=ahk (hk.ok av) k.dA.length (aQF _) (.inr (hk.fit av hc));have:=(hk.ok av).nZ;show (uF k _).length<=100000;omega) (aMb (hk.fit av hc)));have BO:=aa (fun (av:Bw k=false) (hc:qb k=0)=>show (rM k).length<=100000 from by have:=ahk (hk.ok av) k.dA.length (aQF _) (.inr (hk.fit av hc));have:=(hk.ok av).nZ;show (uF k _).length<=100000;omega);have Ao:=aa Bt;have BP:=aa C8;have Dc:=aa (fun (W:aRU) (g:Nat) (h:aM W g J 26)=>show W.cell? (ad g 0)=some (.slice gm ku gV) by rw [h.cell 0,Y,BC,BD,BF];rfl);have De:J.set 0 (.slice gm ku gV)=J:=by rw [Y,BC,BD,BF];rfl
 have Dg:J.set 3 (.bool true)=I:=by rw [Y,M];rfl
 have EX:(Value.slice gm ku gV).cells.toList=[Value.slice gm ku gV]:=rfl;have Dh:=aa M;rw [<- Y];have EY:=Al.symm;obtain⟨G,BR⟩:=ai (Bw k);rw [<- BR] at BG BH BK BL BN BO;have Di:=aa BR;clear Al Bt C8 Y M BC BD BF hk hA dR bf BR;cases G with
 | true =>
  go_enter func6,ntmps6;go_wp2_with (first|((with_reducible refine Lh w.heap.size 0 J J _ BP.o CG _ underlying26 Am ?_ ?_);exact⟨⟨_,_,rfl,rfl,rfl⟩,rfl,rfl⟩)|(go_at_call 19; refine (BG.o aH Ao.o).mono ?_;rintro e af ⟨rfl,AZ⟩;have BS:=aa (aU Ao.o AZ);clear AZ));refine aQP (aRc rfl _ _ _) rfl ?_;exact⟨BS.o,_,_,rfl,fun h=>by cases h⟩
 | false =>
  have BU:=aa (BL.o rfl);have BX:=aa (BK.o rfl);have Dj:=aa (BO.o rfl);have Dk:=aa (BN.o rfl);clear BL BK BO BN;go_enter func6,ntmps6;go_upto_region 5 with (first|((with_reducible refine Lh w.heap.size 0 J J _ BP.o CG _ underlying26 Am ?_ ?_);exact⟨⟨_,_,rfl,rfl,rfl⟩,rfl,rfl⟩)|(go_at_call 19; refine (BG.o aH Ao.o).mono ?_;rintro e af ⟨rfl,AZ⟩;have BS:=aa (aU Ao.o AZ);have CK:=aa (BP.o.all AZ);have R9:=Dc.o af w.heap.size CK.o;clear AZ))
  go_wp2_with fail;obtain⟨aD,Ap,g3,BZ⟩:=nq2 (af.alloc (.cells #[.slice gm ku gV] 22)) af.heap.size;rw [<- Ap,<- BZ];have Bb:=gQ Ap;have CL:aD.cell? (ad g3 0)=some (.slice gm ku gV):=by rw [Ap,BZ];exact (aM.new af [.slice gm ku gV] 22).cell 0
  have Dp:=aa CL;have Dq:=aa (CK.o.all Bb);have CQ:=aa (aU BS.o Bb);clear Ap BZ Bb CL R9;go_loopg [26,6,7] 1 (fun gk CS CU CV wr=>(gk=1/\CS = .int .i64 0/\CU = .slice none 0 0/\CV = .slice none 0 0/\wr=aD)\/(gk=0/\CS = .int .i64 1/\qb k=0/\∃ (A:aRV) (c:Nat) (B:aRV) (d:Nat),CU = .slice A 1 c/\CV = .slice B (rM k).length d/\Own wr w.heap.size 26 4 A 1 c I/\Own wr w.heap.size 9 1 B (rM k).length d (cB (rM k))/\Bl w wr));case atStart=>exact .inl ⟨rfl,rfl,rfl,rfl,rfl⟩
  case round =>
   obtain⟨Dr,rfl,rfl,rfl,rfl⟩ | ⟨Dr,rfl,hc,A,c,B,d,rfl,rfl,CW,CX,CY⟩:=hrel
   ·have bH:=Dp.o;go_upto_region 10 with (first|(with_reducible refine kG Dq.o underlying26 Am ?_)|((with_reducible refine qR J CF Am DT ?_);intro Dt Du CZ;obtain⟨g4,Bc⟩:=ai wr.heap.size;rw [<- Bc] at CZ |-;have Aq:=aa (aU CQ.o Du.o);have Ca:=aa (show w.heap.size<=g4 by rw [Bc];exact CQ.o.size);clear Bc bH)|((with_reducible refine A8 0 (.slice gm ku gV) CZ.o aMd om rfl De ?_);intro bn Cc Ce;have Dv:=aa Cc;have Dw:=aa (oO Aq.o Ce Ca.o);clear Cc Ce)|((with_reducible refine A8 3 (.bool true) Dv.o aMe om rfl Dg ?_);intro Cf Cg Cj;have Av:=aa Cg;have Ac:=aa (oO Dw.o Cj Ca.o);clear Cg Cj))
    obtain⟨Az,Be⟩:∃ x:Int,x=qb k:=⟨_,rfl⟩;rw [<- Be] at BX;by_cases hc:qb k=0
    ·have Ad:Az=0:=om;subst Ad;have Aa:=aa hc;have Ck:=aa (Dj.o hc);obtain⟨n,AU⟩:=ai ((rM k).length);rw [<- AU] at Ck BU;have Ea:=Ck.o;have Cm:=aa AU;clear hc Be AU;go_upto_region 13 with (first|(with_reducible refine kG Av.o underlying26 AQ ?_)|(go_at_call 20; go_loud (refine (BU.o Cf Ac.o).mono ?_;rintro e Bf ⟨AV,hm,_⟩;obtain⟨B,d,rfl,Co⟩:=hm Aa.o;have Dz:=aa (Co.mono Ac.o.size);have Ae:=aa (Av.o.all AV);have Af:=aa (aU Ac.o AV);clear AV hm Co))|(with_reducible refine kG Ae.o underlying26 AQ ?_)|(go_at_call 19; refine (BH.o Bf Af.o).mono ?_;rintro e Bg ⟨rfl,AB⟩;have Ag:=aa (Ae.o.all AB);have Ah:=aa (aU Af.o AB);have E5:=aa (Dz.o.below AB (aQF _));clear AB)|((with_reducible refine Lh g4 0 I I _ Ag.o CJ _ underlying26 AQ ?_ ?_);exact⟨⟨_,_,rfl,rfl,rfl⟩,rfl,rfl⟩)|(go_at_call 21; refine (BX.o Bg Ah.o).mono ?_;rintro e Bh ⟨rfl,AP⟩;have Cr:=aa (Ag.o.all AP);have BB:=aa (aU Ah.o AP);have Bi:=aa (E5.o.below AP (aQF _));clear AP)
)
     go_wp2_with (first|(at_builtin;have _t:=Bi;go_must ((with_reducible refine vg 9 _ 1 16 underlying24 Aj.info Aj.zs w.heap.size none 0 0 [] (Own.nil _ _ _ _) n (cB (rM k)) (.slice B n d) (Src.slice underlying24 Bi.o.rd) (XU _) ?_ ?_ ?_ ?_ ?_);exact mV;omega;exact BB.o.size;exact⟨rfl,rfl⟩;intro E8 E9 Ct AX Ak Bj;have Bn:Bl Bh Ct:=(Below.refl _ _).grown Ak (aQF _) (fun k e=>by cases e);rw [Nat.zero_add,List.nil_append] at AX;rw [Nat.zero_add];have EA:=aa AX;have EC:=aa (Cr.o.all Bn);have EF:=aa (aU BB.o Bn);clear AX Ak Bj Bn Bi))|(with_reducible refine kG EC.o underlying26 AQ ?_)|((with_reducible refine Ba anO (.agg I.toArray) DR rfl ?_);intro Cu Bp Bq;rw [qK] at Bp;have Cv:=aa Bp;have EG:=aa (EA.o.below Bq (aQF _));have D8:=aa (aU EF.o Bq);clear Bp Bq)|(at_builtin;have _t:=Cv;go_must ((with_reducible refine vg 26 _ 4 80 underlying29 anO.info anO.zs w.heap.size none 0 0 [] (Own.nil _ _ _ _) 1 I (.slice (some ⟨Ct.heap.size,0,none⟩) 1 1) (Src.slice underlying29 Cv.o) DU ?_ ?_ ?_ ?_ ?_);exact mV;omega;exact D8.o.size;exact⟨rfl,rfl⟩;intro EH EJ EK AX Ak Bj;have Br:Bl Cu EK:=(Below.refl _ _).grown Ak (aQF _) (fun k e=>by cases e);rw [List.nil_append] at AX;have EL:=aa AX;have EM:=aa (EG.o.below Br (aQF _));have EN:=aa (aU D8.o Br);clear AX Ak Bj Br)));go_roundg 0;case rel =>
      refine .inr ⟨rfl,by go_num,Aa.o,EH,EJ,E8,E9,?_,?_,EL.o,?_,EN.o⟩
      ·rfl
      ·rw [<- Cm.o]
      ·rw [<- Cm.o];exact EM.o
     case measure=>omega
    ·have Ad:Az≠0:=om;have Ec:(Az != 0)=true:=by simpa using Ad
     have Ee:decide (Az=0)=false:=aRo Ad;have Aa:=aa hc;clear hc Be Ad;go_wp2_with (first|(with_reducible refine kG Av.o underlying26 AQ ?_)|(go_at_call 20; refine (BU.o Cf Ac.o).mono ?_;rintro e Bf ⟨AV,_,hm⟩;obtain⟨Ef,Ei,rfl⟩:=hm Aa.o;have Ae:=aa (Av.o.all AV);have Af:=aa (aU Ac.o AV);clear AV hm)|(with_reducible refine kG Ae.o underlying26 AQ ?_)|(go_at_call 19; refine (BH.o Bf Af.o).mono ?_;rintro e Bg ⟨rfl,AB⟩;have Ag:=aa (Ae.o.all AB);have Ah:=aa (aU Af.o AB);clear AB)|((with_reducible refine Lh g4 0 I I _ Ag.o CJ _ underlying26 AQ ?_ ?_);exact⟨⟨_,_,rfl,rfl,rfl⟩,rfl,rfl⟩)|(go_at_call 21; refine (BX.o Bg Ah.o).mono ?_;rintro e Bh ⟨rfl,AP⟩;have Cr:=aa (Ag.o.all AP);have BB:=aa (aU Ah.o AP);clear AP)
)
     refine aQP (aRc rfl _ _ _) rfl ?_;exact⟨BB.o,_,_,rfl,fun h=>by cases h⟩
   ·obtain⟨EO,ES,ET⟩:=hq3 CW CX CY;have DF:=aa (Dk.o hc wr B d ES.o.rd);have Aa:=aa hc;obtain⟨n,AU⟩:=ai ((rM k).length);rw [<- AU] at DF;rw [<- AU];clear CW CX CY hc AU;go_wp2_with (go_at_call 22; refine DF.o.mono ?_;rintro e Dt ⟨⟨b,rfl,DI⟩,DJ⟩;have EU:=aa DI;have Aq:=aa DJ;clear DI DJ);refine aQP (aRc rfl _ _ _) rfl ?_;refine⟨aU ET.o Aq.o,_,_,rfl,fun h=>⟨Di.o.symm,Aa.o,EU.o h,A,c,rfl,?_⟩⟩;rw [<- Dh.o];exact EO.o.below Aq.o (aQF _)
end
section
def wI:ak:=[111,117,116,47,120]
def zg:ak:=[49,10]
def zK:ak:=[114,101,97,100,32,97,10,119,114,105,116,101,32,111,117,116,47,120,10]
def tZ:lv:=⟨zK,[],[[97]],[],[wI]⟩
def pU (L:vw):jE:=⟨[([97],zg)],[(L,tZ)],[wI]⟩
def anS:aK:=aK.start (qG eB (jQ zK))
def anT:Env:=⟨eB,[]⟩
def QE:aK:=anS.run anT 1
def Bz:dB:=⟨[97],true,zg⟩
def anU:aK:=(QE.next.gave Bz).2
def YL:aK:=anU.run anT 2
def acW:aK:=YL.next.run anT 1
theorem aMt:(pW eB zK).1=0:=kr
theorem aho:(qF QE).kind=1/\(qF QE).path=[97]/\QE.waits=true:=⟨kr,kr,kr⟩
theorem aMu:(QE.next.gave Bz).1=0:=kr
theorem aMv:YL.over=⟨2,wI,zg,0⟩:=kr
theorem aMw:acW.over.kind=3:=kr
theorem aMx:qF YL=⟨2,wI,zg,0⟩:=kr
theorem axB:(qF acW).kind=3:=kr
theorem aMy:xG (lh tZ).v anS=QE:=LF (n:=1) (.inr aho.2.2)
theorem aMz:xG (lh tZ).v anU=YL:=LF (n:=2) (.inl (by show YL.over.kind≠0;rw [aMv];decide))
theorem aMA:xG (lh tZ).v YL.next=acW:=LF (n:=1) (.inl (by show acW.over.kind≠0;rw [aMw];decide))
theorem aMB:(lh tZ).may [97]=true:=kr
theorem aMC:wI∈(lh tZ).outs:=by simp [lh,tZ]
theorem aMD:(lh tZ).outs.all (fun p=>(getM (oI ([]:fA ak) wI zg) p).isSome)=true:=kr
theorem aME:oI ([]:fA ak) wI zg=[(wI,zg)]:=kr
theorem anV:dC.start (lh tZ) zK=⟨QE.next,[],[],[97],false,0⟩:=by unfold dC.start;rw [if_pos aMt,show (402:Nat)=401+1 from rfl,rH];simp only [Bool.false_eq_true,if_false];rw [show aK.start (qG eB (jQ zK))=anS from rfl,aMy,aho.1,if_pos rfl,dC.did,aho.1,if_pos rfl,aho.2.1,if_pos aMB]
theorem axC:dC.mE (lh tZ) ⟨QE.next,[],[],[97],false,0⟩ Bz=⟨acW.next,[(wI,zg)],[gJ Bz],[97],true,0⟩:=by unfold dC.mE;rw [if_neg (by simp [Bz,zg])];simp only;rw [if_neg (by rw [aMu];simp),show (402:Nat)=401+1 from rfl,rH];simp only [Bool.false_eq_true,if_false];rw [show (QE.next.gave Bz).2=anU from rfl,aMz,aMx];simp only [show (2:Nat)≠1 by decide,if_false];rw [dC.did];simp only [show (2:Nat)≠1 by decide,if_false,if_true];rw [if_neg (by simp [getM,aMC]),show (401:Nat)=400+1 from rfl,rH];simp only [Bool.false_eq_true,if_false];rw [aMA,axB];simp only [show (3:Nat)≠1 by decide,if_false];rw [dC.did,axB];simp only [show (3:Nat)≠1 by decide,show (3:Nat)≠2 by decide,if_false,if_true];rw [if_pos aMD,aME,show (400:Nat)=399+1 from rfl,rH];simp only [if_true];rfl
theorem aMF {w:o9} {a:MU} {A:ak->DZ} {n:Nat} {s:a.S} {rs:List kU} (h:a.asks s=none):mF w a A (n+1) s rs=(true,a.out s):=by rw [mF,h]
theorem aMG {w:o9} {a:MU} {A:ak->DZ} {n:Nat} {s:a.S} {rs:List kU} {k:dB} (h:a.asks s=some p) (hA:A p = .known k):mF w a A (n+1) s rs=mF w a A n (a.mE s k) (rs++[w.sum k]):=by rw [mF,h];simp only;rw [hA]
theorem axD (L:vw):Jl (pU L).W 0=(true,⟨1,0,[(wI,zg)],[gJ Bz]⟩):=by
 have hm:(pU L).W.jK [97]=none:=kr;have hf:(pU L).W.file [97]=Bz:=kr;have hA:fD (pU L).W [97] = .known Bz:=by unfold fD wo;rw [hm,hf]
 have I:mF (pU L).W (LG (lh tZ) zK) (fD (pU L).W) (501+1) (LG (lh tZ) zK).start []=mF (pU L).W (LG (lh tZ) zK) (fD (pU L).W) (500+1) ((LG (lh tZ) zK).mE (LG (lh tZ) zK).start Bz) ([]++[(pU L).W.sum Bz]):=aMG (by
  show (if (dC.start (lh tZ) zK).over=true then none else some (dC.start (lh tZ) zK).asks)=some [97];rw [anV];rfl) hA;have J:=aMF (w:=(pU L).W) (a:=LG (lh tZ) zK) (A:=fD (pU L).W) (n:=500) (s:=(LG (lh tZ) zK).mE (LG (lh tZ) zK).start Bz) (rs:=[]++[(pU L).W.sum Bz]) (by
  show (if (dC.mE (lh tZ) (dC.start (lh tZ) zK) Bz).over=true then none else some (dC.mE (lh tZ) (dC.start (lh tZ) zK) Bz).asks)=none;rw [anV,axC];rfl);show mF (pU L).W (LG (lh tZ) zK) (fD (pU L).W) (501+1) (LG (lh tZ) zK).start []=_;rw [I,J];show (true,dC.out (dC.mE (lh tZ) (dC.start (lh tZ) zK) Bz))=_;rw [anV,axC];rfl
theorem axE (L:vw):bG (pU L).W 0=⟨1,0,[(wI,zg)],[gJ Bz]⟩:=by rw [bG,axD]
theorem anW (L:vw):qb (pU L)=0:=kr
theorem axF (L:vw):Bw (pU L)=false:=kr
theorem axG (L:vw):IY (pU L):=by refine⟨⟨?_,?_,?_,?_,?_⟩,?_,?_⟩;all_goals simp [pU,tZ,wI,zg,zK]
theorem aMH:(bP.sum zg == bP.sum (vZ tZ))=false:=kr
theorem aMI (L:vw):rM (pU L)=[zg,vZ tZ,zg]:=by show [zg]++(List.range 1).flatMap (Tw (pU L))=_;rw [show List.range 1=[0] from rfl,List.flatMap_cons,List.flatMap_nil,List.append_nil,Tw,axE];rfl
theorem aMJ (L:vw):IC (rM (pU L)):=by have I:=beq_eq_false_iff_ne.1 aMH;rw [aMI];intro a J b ae e;simp only [List.mem_cons,List.not_mem_nil,or_false] at J ae;rcases J with rfl | rfl | rfl <;> rcases ae with rfl | rfl | rfl <;> first | rfl | exact absurd e I | exact absurd e.symm I
end
section
open Go.RowKit Go.Shelf
theorem axH (w:aRU) (A B:aRV) (c d n:Nat) (xs:List (ak × ak)) (hA:Rd w 2 A n (cK fI xs)) (bf:Rd w 2 B n (cK fI xs)) (ah:xs.length=n) (aB:n<=1000000) (hs:∀ x∈xs,x.1.length<=maxLen/\x.2.length<=maxLen) :
  CB 32 #[.slice A n c,.slice B n d] w (.bool true):=by
 obtain⟨AV,AX,J,Ac⟩:=hq4 hA bf ah hs;clear hA bf ah hs;go_enter func32,ntmps32;go_wp2_with fail;go_loopg [13] n (fun gk Ad wr=>∃ j:Nat,j+gk=n/\Ad = .int .i64 j/\Bl w wr);case atStart=>exact⟨0,om,rfl,Below.refl _ _⟩
 case round =>
  obtain⟨j,aC,rfl,I⟩:=hrel;have Al:(0:Int)<=j:=om;by_cases Ae:j < n
  ·have Af:(j:Int) < n:=om;obtain⟨x,ah⟩:∃ x,xs[j]?=some x:=⟨_,aQI (by rw [J.o];exact Ae)⟩;have Y:=Ac.o x (aQK ah);have AA:=aa (aDM x Y.1 Y.2).run;obtain⟨fo,AB,rfl,_⟩:=vG (f:=fI) (k:=2) Su underlying65 rfl kr (AV.o.gz I) ah J.o;obtain⟨AP,AQ,rfl,_⟩:=vG (f:=fI) (k:=2) Su underlying65 rfl kr (AX.o.gz I) ah J.o;obtain⟨X,aX⟩:=ai (fI x);have AZ:=aa (fun af (ae:Bl wr af)=>show (loadVar 65 ⟨fo,AB+j * 2,none⟩).run prog af = .ok (.agg X.toArray) af by
    obtain⟨b,o,e,h⟩:=vG (f:=fI) (k:=2) Su underlying65 rfl kr (AV.o.gz (aU I ae)) ah J.o;cases e;rw [aX];exact h);have Aa:=aa (fun af (ae:Bl wr af)=>show (loadVar 65 ⟨AP,AQ+j * 2,none⟩).run prog af = .ok (.agg X.toArray) af by
    obtain⟨b,o,e,h⟩:=vG (f:=fI) (k:=2) Su underlying65 rfl kr (AX.o.gz (aU I ae)) ah J.o;cases e;rw [aX];exact h);rw [show [.string (aA x.1),.string (aA x.2)]=fI x from rfl,<- aX] at AA;have AU:=aa I;clear ah aX I Y;go_upto_region 6 with fail
   have kR:=aa fun af (aj:Bl wr af)=>And.intro (AZ.o af aj) (And.intro (Aa.o af aj) ((AA.o af).2));refine nz nH 9 [some (.slice (some ⟨fo,AB,none⟩) n c),some (.int .i64 j),some (.pointer (some ⟨fo,AB+j * 2,none⟩)),some (.agg X.toArray),some (.slice (some ⟨AP,AQ,none⟩) n d),some (.int .i64 j),some (.pointer (some ⟨AP,AQ+j * 2,none⟩)),some (.agg X.toArray),some (.bool false)] (fun _ _ _=>False) (Bl wr) Bl ((Below.refl _ wr).drew) (fun j v w1 af ae h=>h.elim) ?_ (jI:=?_)
   ·intro u6 Am aj Ag;clear Ag;have Ah:=aa (aU AU.o aj);clear aj;go_wp2_with fail;go_roundg (gk - 1);case rel=>exact⟨j+1,om,by go_num,Ah.o⟩
    case measure=>omega
   ·repeat' (first | exact trivial | apply And.intro)
    all_goals try exact rx
    all_goals intro eQ u af aj aL bz K aR
    all_goals try simp [iX,Region.binds] at bz
    all_goals refine mg rfl ?_
    all_goals have c1:=AZ.o af aj
    all_goals have c2:=Aa.o af aj
    all_goals have Ak:=(AA.o af).2
    ·refine Lb _ _ rfl c1 (by simp [Act.eval,aL,bz]) ?_;exact aR _ _ rfl aj (Below.refl _ _)
    ·refine Lb _ _ rfl c2 (by simp [Act.eval,aL,bz]) ?_;exact aR _ _ rfl aj (Below.refl _ _)
    ·unfold Oper.wp execOp;simp [Act.eval,aL,bz.1,bz.2,Ak,Result.andThen,eqGuard];exact aR _ _ rfl aj (Below.refl _ _)
  ·have Af:¬ (j:Int) < n:=om;have AU:=aa I;clear I;go_wp2_with fail;go_ret;exact⟨rfl,AU.o⟩
theorem aMK (w:aRU) (A B:aRV) (c d n:Nat) (xs:List (kU)) (hA:Rd w 34 A n (cK iq xs)) (bf:Rd w 34 B n (cK iq xs)) (ah:xs.length=n) (aB:n<=1000000) (hs:∀ x∈xs,x.path.length<=maxLen/\x.sum.length=32) :
  CB 54 #[.slice A n c,.slice B n d] w (.bool true):=by
 obtain⟨AV,AX,J,Ac⟩:=hq4 hA bf ah hs;clear hA bf ah hs;go_enter func54,ntmps54;go_wp2_with fail;go_loopg [13] n (fun gk Ad wr=>∃ j:Nat,j+gk=n/\Ad = .int .i64 j/\Bl w wr);case atStart=>exact⟨0,om,rfl,Below.refl _ _⟩
 case round =>
  obtain⟨j,aC,rfl,I⟩:=hrel;have Al:(0:Int)<=j:=om;by_cases Ae:j < n
  ·have Af:(j:Int) < n:=om;obtain⟨x,ah⟩:∃ x,xs[j]?=some x:=⟨_,aQI (by rw [J.o];exact Ae)⟩;have Y:=Ac.o x (aQK ah);have AA:=aa (arw x Y.1 Y.2).run;obtain⟨fo,AB,rfl,_⟩:=vG (f:=iq) (k:=34) zW underlying135 rfl kr (AV.o.gz I) ah J.o;obtain⟨AP,AQ,rfl,_⟩:=vG (f:=iq) (k:=34) zW underlying135 rfl kr (AX.o.gz I) ah J.o;obtain⟨X,aX⟩:=ai (iq x);have AZ:=aa (fun af (ae:Bl wr af)=>show (loadVar 135 ⟨fo,AB+j * 34,none⟩).run prog af = .ok (.agg X.toArray) af by
    obtain⟨b,o,e,h⟩:=vG (f:=iq) (k:=34) zW underlying135 rfl kr (AV.o.gz (aU I ae)) ah J.o;cases e;rw [aX];exact h);have Aa:=aa (fun af (ae:Bl wr af)=>show (loadVar 135 ⟨AP,AQ+j * 34,none⟩).run prog af = .ok (.agg X.toArray) af by
    obtain⟨b,o,e,h⟩:=vG (f:=iq) (k:=34) zW underlying135 rfl kr (AX.o.gz (aU I ae)) ah J.o;cases e;rw [aX];exact h);rw [<- aX] at AA;have AU:=aa I;clear ah aX I Y;go_upto_region 6 with fail
   have kR:=aa fun af (aj:Bl wr af)=>And.intro (AZ.o af aj) (And.intro (Aa.o af aj) ((AA.o af).2));refine nz nH 9 [some (.slice (some ⟨fo,AB,none⟩) n c),some (.int .i64 j),some (.pointer (some ⟨fo,AB+j * 34,none⟩)),some (.agg X.toArray),some (.slice (some ⟨AP,AQ,none⟩) n d),some (.int .i64 j),some (.pointer (some ⟨AP,AQ+j * 34,none⟩)),some (.agg X.toArray),some (.bool false)] (fun _ _ _=>False) (Bl wr) Bl ((Below.refl _ wr).drew) (fun j v w1 af ae h=>h.elim) ?_ (jI:=?_)
   ·intro u6 Am aj Ag;clear Ag;have Ah:=aa (aU AU.o aj);clear aj;go_wp2_with fail;go_roundg (gk - 1);case rel=>exact⟨j+1,om,by go_num,Ah.o⟩
    case measure=>omega
   ·repeat' (first | exact trivial | apply And.intro)
    all_goals try exact rx
    all_goals intro eQ u af aj aL bz K aR
    all_goals try simp [iX,Region.binds] at bz
    all_goals refine mg rfl ?_
    all_goals have c1:=AZ.o af aj
    all_goals have c2:=Aa.o af aj
    all_goals have Ak:=(AA.o af).2
    ·refine Lb _ _ rfl c1 (by simp [Act.eval,aL,bz]) ?_;exact aR _ _ rfl aj (Below.refl _ _)
    ·refine Lb _ _ rfl c2 (by simp [Act.eval,aL,bz]) ?_;exact aR _ _ rfl aj (Below.refl _ _)
    ·unfold Oper.wp execOp;simp [Act.eval,aL,bz.1,bz.2,Ak,Result.andThen,eqGuard];exact aR _ _ rfl aj (Below.refl _ _)
  ·have Af:¬ (j:Int) < n:=om;have AU:=aa I;clear I;go_wp2_with fail;go_ret;exact⟨rfl,AU.o⟩
def BA (x:Option iU × kI):List Value:=tX x.1 x.2
theorem Tz (x:Option iU × kI):(BA x).length=4:=Qr _ _
theorem axI (x:Option iU × kI):(prog.info? 63).map (·.size)=some (BA x).length:=by rw [Tz];exact kr
theorem axJ (x:Option iU × kI):∀ v∈BA x,v.oneCell'=true:=by obtain⟨o,L⟩:=x;cases o <;> simp [BA,tX,jd,iN,Value.oneCell']
theorem aML (w:aRU) (A B:aRV) (c d n:Nat) (xs:List (Option iU × kI)) (ys:List (Option iU × kI)) (hA:Rd w 4 A n (cK BA xs)) (bf:Rd w 4 B n (cK BA ys)) (ah:xs.length=n) (hy:ys.length=n) (aB:n<=1000000) (f:Nat) (iI:Array Value) (vz:Enters prog f)
  (hf:∀ W,Bl w W->∀ (k:Nat) x y,xs[k]?=some x->ys[k]?=some y->Calls prog f (#[.agg (BA x).toArray,.agg (BA y).toArray]++iI) W fun e w'=>e = .returned (.bool true)/\Bl W w') :
  CB 30 #[.slice A n c,.slice B n d,.func (.func f) #[] iI] w (.bool true):=by
 have Bb:∀ (args:Array Value) (w:aRU),(callFunc f args).run prog w = .ok (.enter f args) w:=vz;obtain⟨Ap,Aq,AZ,Aa,Av⟩:=hq5 hA bf ah hy hf;clear hA bf ah hy hf vz;go_enter func30,ntmps30;go_wp2_with fail;go_loopg [17] n (fun gk Az wr=>∃ j:Nat,j+gk=n/\Az = .int .i64 j/\Bl w wr);case atStart=>exact⟨0,om,rfl,Below.refl _ _⟩
 case round =>
  obtain⟨j,aC,rfl,M⟩:=hrel;have Bc:(0:Int)<=j:=om;by_cases Ac:j < n
  ·have BB:(j:Int) < n:=om;obtain⟨x,ah⟩:∃ x,xs[j]?=some x:=⟨_,aQI (by rw [AZ.o];exact Ac)⟩;obtain⟨y,hy⟩:∃ y,ys[j]?=some y:=⟨_,aQI (by rw [Aa.o];exact Ac)⟩;obtain⟨fo,Be,rfl,AP⟩:=vG (f:=BA) (k:=4) Tz underlying63 rfl kr (Ap.o.gz M) ah AZ.o;obtain⟨X,I⟩:=ai (BA x);obtain⟨BC,AA⟩:=ai (wr.alloc (.cells X.toArray 63));have Ad:=gQ AA;have Ae:=kY AA;have AQ:=aU M Ad;have Af:Sz 63 X.length:=by rw [I];exact axI x
   have BD:X.length=4:=by rw [I];exact (Tz) x
   have BF:∀ v∈X,v.oneCell'=true:=by rw [I];exact axJ x
   have Bf:(X.drop 0).take X.length=X:=by simp
   obtain⟨Bg,Bh,rfl,AU⟩:=vG (f:=BA) (k:=4) Tz underlying63 rfl kr (Aq.o.gz AQ) hy Aa.o;obtain⟨Y,J⟩:=ai (BA y);obtain⟨cO,AB⟩:=ai (BC.alloc (.cells Y.toArray 63));have AV:=gQ AB;have Ag:=kY AB;have Ah:=Ae.all AV;have Ak:=aU AQ AV;have Al:Sz 63 Y.length:=by rw [J];exact axI y
   have BG:Y.length=4:=by rw [J];exact (Tz) y
   have BH:∀ v∈Y,v.oneCell'=true:=by rw [J];exact axJ y
   have Bi:(Y.drop 0).take Y.length=Y:=by simp
   have AX:=fun W (ae:Bl w W)=>Av.o W ae j x y ah hy;rw [<- I,<- J] at AX;rw [<- I] at AP;rw [<- J] at AU;obtain⟨BK,BL,BN,BO,Am,BP⟩:=hq6 AP AU Ah Ag Ak AX;have BR:=AA.symm;have BS:=AB.symm;obtain⟨g3,BU⟩:=ai wr.heap.size;clear AP AU Ae Ag Ah AQ Ak ah hy I J AX AA AB M Ad AV BU;go_wp2_with (first|((with_reducible refine pO BK.o ?_ ?_);exact rfl)|(with_reducible refine zx X BD Af BF ?_)|((with_reducible refine pO BL.o ?_ ?_);exact rfl)|(with_reducible refine zx Y BG Al BH ?_)|(with_reducible refine kG BN.o underlying63 Af ?_)|(with_reducible refine kG BO.o underlying63 Al ?_)|(refine (BP.o cO Am.o).mono ?_;rintro e bn ⟨rfl,Ao⟩;have BX:=aa (aU Am.o Ao);clear Ao BR BS));go_roundg (gk - 1);case rel=>exact⟨j+1,om,by go_num,BX.o⟩
   case measure=>omega
  ·have BB:¬ (j:Int) < n:=om;have BZ:=aa M;clear M;go_wp2_with fail;go_ret;exact⟨rfl,BZ.o⟩
end
section
open Go.Maps Go.RowKit Go.Shelf
structure QF (W:aRU) (g:Option iU) (L:kI):Prop where
 outs:∀ o,g=some o->Rd W 2 L.A o.outs.length (cK fI o.outs)/\Rd W 34 L.B o.reads.length (cK iq o.reads)
def ahp (g:Option iU):Prop:=∀ o,g=some o->o.outs.length<=1000000/\o.reads.length<=1000000/\(∀ x∈o.outs,x.1.length<=maxLen/\x.2.length<=maxLen)/\∀ x∈o.reads,x.path.length<=maxLen/\x.sum.length=32
theorem QF.all {W':aRU} {g:Option iU} (h:QF W g L) (ae:Bl W W'):QF W' g L:=⟨fun o e=>⟨(h.outs o e).1.gz ae,(h.outs o e).2.gz ae⟩⟩
theorem QF.ex {g:Option iU} {iH:kI} (h:QF W g L) (ag:QF W g iH) (aG:ahp g):∃ (gW iJ:Int) (xs:List (ak × ak)) (rs:List kU) (A il:aRV) (c c2:Nat) (B r9:aRV) (d d2:Nat),
  BA (g,L)=[.int .i64 gW,.int .i64 iJ,.slice A xs.length c,.slice B rs.length d]/\BA (g,iH)=[.int .i64 gW,.int .i64 iJ,.slice il xs.length c2,.slice r9 rs.length d2]/\Rd W 2 A xs.length (cK fI xs)/\Rd W 2 il xs.length (cK fI xs)/\Rd W 34 B rs.length (cK iq rs)/\Rd W 34 r9 rs.length (cK iq rs) /\
  xs.length<=1000000/\rs.length<=1000000/\(∀ x∈xs,x.1.length<=maxLen/\x.2.length<=maxLen)/\∀ x∈rs,x.path.length<=maxLen/\x.sum.length=32:=by
 cases g with
 | none=>exact⟨0,0,[],[],none,none,0,0,none,none,0,0,rfl,rfl,(Own.nil W 0 3 2).rd,(Own.nil W 0 3 2).rd,(Own.nil W 0 3 34).rd,(Own.nil W 0 3 34).rd,dc,dc,fun x ah=>(by cases ah),fun x ah=>(by cases ah)⟩
 | some o =>
  obtain⟨I,J,M,Y⟩:=aG o rfl;exact⟨o.kind,o.why,o.outs,o.reads,L.A,iH.A,L.c,iH.c,L.B,iH.B,L.d,iH.d,rfl,rfl,(h.outs o rfl).1,(ag.outs o rfl).1,(h.outs o rfl).2,(ag.outs o rfl).2,I,J,M,Y⟩
theorem aMM (w:aRU) (g:Option iU) (L iH:kI) (h:QF w g L) (ag:QF w g iH) (aG:ahp g) :
  CB 31 #[.agg (BA (g,L)).toArray,.agg (BA (g,iH)).toArray] w (.bool true):=by
 obtain⟨I,iJ,xs,rs,A,il,c,c2,B,r9,d,d2,AU,AV,AX,AZ,Aa,Ac,Ad,Ae,s1,s2⟩:=h.ex ag aG;rw [AU,AV];obtain⟨n,AP,m,hm⟩:=nq2 xs.length rs.length;have Al:=aa (fun W (ae:Bl w W)=>show CB 32 #[.slice A n c,.slice il n c2] W (.bool true) from by
  rw [AP];exact axH W A il c c2 _ xs (AX.gz ae) (AZ.gz ae) rfl Ad s1);have Am:=aa (fun W (ae:Bl w W)=>show CB 54 #[.slice B m d,.slice r9 m d2] W (.bool true) from by
  rw [hm];exact aMK W B r9 d d2 _ rs (Aa.gz ae) (Ac.gz ae) rfl Ae s2);rw [<- AP,<- hm];obtain⟨aH,AA⟩:=ai (w.alloc (.cells #[.int .i64 I,.int .i64 iJ,.slice A n c,.slice B m d] 63));obtain⟨aY,J⟩:=ai (aH.alloc (.cells #[.int .i64 I,.int .i64 iJ,.slice il n c2,.slice r9 m d2] 63));have Af:Bl w aY:=by rw [J,AA];exact iD.alloc sp _
 have M:aM aY w.heap.size [.int .i64 I,.int .i64 iJ,.slice A n c,.slice B m d] 63:=by rw [J,AA];exact (aM.new w [.int .i64 I,.int .i64 iJ,.slice A n c,.slice B m d] _).all iD
 have Y:aM aY aH.heap.size [.int .i64 I,.int .i64 iJ,.slice il n c2,.slice r9 m d2] 63:=by rw [J];exact aM.new aH _ _
 have AQ:=aa Af;have Ag:=aa (fun W (ae:Bl aY W)=>show W.cell? (ad w.heap.size 0)=some (.int .i64 I)/\W.cell? (ad w.heap.size 1)=some (.int .i64 iJ)/\W.cell? (ad w.heap.size 2)=some (.slice A n c)/\W.cell? (ad w.heap.size 3)=some (.slice B m d) from ⟨(M.all ae).cell 0,(M.all ae).cell 1,(M.all ae).cell 2,(M.all ae).cell 3⟩);have Ah:=aa (fun W (ae:Bl aY W)=>show W.cell? (ad aH.heap.size 0)=some (.int .i64 I)/\W.cell? (ad aH.heap.size 1)=some (.int .i64 iJ)/\W.cell? (ad aH.heap.size 2)=some (.slice il n c2)/\W.cell? (ad aH.heap.size 3)=some (.slice r9 m d2) from ⟨(Y.all ae).cell 0,(Y.all ae).cell 1,(Y.all ae).cell 2,(Y.all ae).cell 3⟩);obtain⟨Az,BB,BC,Ao⟩:=Ag.o aY (Below.refl _ _);obtain⟨BD,BF,BG,Ap⟩:=Ah.o aY (Below.refl _ _);have BH:=AA.symm;have BK:=J.symm;clear AA J Af M Y AP hm h ag aG AU AV AX AZ Aa Ac Ad Ae s1 s2;go_enter func31,ntmps31;go_wp2_with (first|(go_at_call 32; refine (Al.o aY AQ.o).mono ?_;rintro e aD ⟨rfl,AB⟩;have Ak:=aa AB;obtain⟨_,_,_,Ao⟩:=Ag.o aD AB;obtain⟨_,_,_,Ap⟩:=Ah.o aD AB;clear AB)|(go_at_call 54; refine jr (Am.o aD (aU AQ.o Ak.o)) ?_;intro BL Aq));go_ret;have Av:=aU AQ.o Ak.o;exact⟨rfl,aU Av Aq.o⟩
structure Mk (W:aRU) (n:Nat) (G:Nat->Option iU) (fs:List (ak × ak)) (eO:Nat) (gm:aRV):Prop where
 outs:∃ OL:Nat->kI,Rd W 4 (some ⟨eO,0,none⟩) n (cK BA ((List.range n).map fun i=>(G i,OL i)))/\∀ i,i < n->QF W (G i) (OL i)
 files:Rd W 2 gm fs.length (cK fI fs)
theorem Mk.all {W':aRU} {n:Nat} (h:Mk W n G fs eO gm) (ae:Bl W W'):Mk W' n G fs eO gm:=by obtain⟨OL,h1,I⟩:=h.outs;exact⟨⟨OL,h1.gz ae,fun i J=>(I i J).all ae⟩,h.files.gz ae⟩
theorem axK (σ:bE) (OL:Nat->kI) (n:Nat):pR σ OL n=cK BA ((List.range n).map fun i=>(σ.got i,OL i)):=by unfold pR cK;rw [List.flatMap_map];rfl
theorem Wi.rep {n:Nat} {L:acy} (h:Wi W B n σ aW fs L):Mk W n σ.got fs L.eO L.gm:=by
 obtain⟨OL,h1,I⟩:=h.outs;refine⟨⟨OL,⟨?_,fun _=>⟨_,_,rfl,fun j u hu=>?_⟩⟩,fun i _=>⟨fun o e=>⟨(I i o e).outs.rd,(I i o e).reads.rd⟩⟩⟩,h.files.rd⟩
 ·rw [aag Tz,List.length_map,List.length_range]
 ·rw [<- axK] at hu;rw [Nat.zero_add];exact (h1.cell j).trans hu
structure axL (n:Nat) (G:Nat->Option iU) (fs:List (ak × ak)):Prop where
 cap:n<=1000000
 got:∀ i,i < n->ahp (G i)
 ku:fs.length<=1000000
 Nz:∀ x∈fs,x.1.length<=maxLen/\x.2.length<=maxLen
theorem aMN (w:aRU) {n:Nat} {acX:Nat} {YM:aRV} (h:Mk w n G fs eO gm) (ag:Mk w n G fs acX YM) (aG:axL n G fs) (v1 v2 u1 u2:Value) (bg:v1.oneCell'=true/\v2.oneCell'=true/\u1.oneCell'=true/\u2.oneCell'=true) (gV acY:Nat) :
  CB 16 #[.agg #[.slice (some ⟨eO,0,none⟩) n n,v1,v2,.slice gm fs.length gV],.agg #[.slice (some ⟨acX,0,none⟩) n n,u1,u2,.slice YM fs.length acY]] w (.bool true):=by
 obtain⟨m,hm⟩:=ai fs.length;have AV:=aa (fun W (ae:Bl w W)=>show CB 30 #[.slice (some ⟨eO,0,none⟩) n n,.slice (some ⟨acX,0,none⟩) n n,.func (.func 31) #[] #[]] W (.bool true) from by
  obtain⟨OL,Y,AX⟩:=(h.all ae).outs;obtain⟨AZ,Aa,Ac⟩:=(ag.all ae).outs;refine aML W _ _ _ _ n _ _ Y Aa sp sp aG.cap 31 #[] (enters_of func31 kr rfl) fun aY I k x y ah hy=>?_;have hk:k < n:=by have:=(aQL.1 ah).1;simpa using this
  rw [List.getElem?_map,List.getElem?_range hk] at ah hy;cases ah;cases hy;exact aMM aY (G k) (OL k) (AZ k) ((AX k hk).all I) ((Ac k hk).all I) (aG.got k hk));have Ad:=aa (fun W (ae:Bl w W)=>show CB 32 #[.slice gm m gV,.slice YM m acY] W (.bool true) from by
  rw [hm];exact axH W _ _ _ _ _ fs (h.all ae).files (ag.all ae).files rfl aG.ku aG.Nz);rw [<- hm];obtain⟨aH,M⟩:=ai (w.alloc (.cells #[.slice (some ⟨eO,0,none⟩) n n,v1,v2,.slice gm m gV] 39));obtain⟨aY,J⟩:=ai (aH.alloc (.cells #[.slice (some ⟨acX,0,none⟩) n n,u1,u2,.slice YM m acY] 39));have I:Bl w aY:=by rw [J,M];exact iD.alloc sp _
 have AA:aM aY w.heap.size [.slice (some ⟨eO,0,none⟩) n n,v1,v2,.slice gm m gV] 39:=by rw [J,M];exact (aM.new w [.slice (some ⟨eO,0,none⟩) n n,v1,v2,.slice gm m gV] _).all iD
 have AB:aM aY aH.heap.size [.slice (some ⟨acX,0,none⟩) n n,u1,u2,.slice YM m acY] 39:=by rw [J];exact aM.new aH _ _
 have AP:=aa I;have Ae:=AA.cell 0;have Af:=AB.cell 0;simp only [List.getElem?_cons_zero] at Ae Af;have Ag:=aa (fun W (ae:Bl aY W)=>show W.cell? (ad w.heap.size 3)=some (.slice gm m gV)/\W.cell? (ad aH.heap.size 3)=some (.slice YM m acY) from ⟨(AA.all ae).cell 3,(AB.all ae).cell 3⟩);have Ak:=M.symm;have Al:=J.symm;clear M J I AA AB hm h ag aG;go_enter func16,ntmps16;go_wp2_with (first|(go_at_call 30; refine (AV.o aY AP.o).mono ?_;rintro e aD ⟨rfl,AQ⟩;have AU:=aa AQ;obtain⟨Am,Ao⟩:=Ag.o aD AQ;clear AQ)|(go_at_call 32; refine jr (Ad.o aD (aU AP.o AU.o)) ?_;intro Ap Ah));go_ret;have Y:=aU AP.o AU.o;exact⟨rfl,aU Y Ah.o⟩
def acZ (g:Option iU):Nat:=match g with
 | some o=>o.kind
 | none=>0
theorem Mk.kind {n:Nat} (h:Mk W n G fs eO gm) (ay:i < n):W.cell? ⟨eO,i * 4,none⟩=some (.int .i64 (acZ (G i))):=by
 obtain⟨OL,h1,_⟩:=h.outs;obtain⟨b,o,e,I⟩:=h1.2 om;cases e;have J:=Lc (f:=BA) Tz (l:=(List.range n).map fun i=>(G i,OL i)) (i:=i) (x:=(G i,OL i)) (by rw [List.getElem?_map,List.getElem?_range ay];rfl) 0 (.int .i64 (acZ (G i))) (by
  cases av:G i <;> rfl);have:=I _ _ J;rwa [Nat.zero_add] at this
set_option maxHeartbeats 1000000 in
def FH (T:Nat) (uK w:aRU):Prop:=∀ q,q < T->w.heap[q]?=uK.heap[q]?
theorem Rd.heap {aO n:Nat} {A:aRV} {xs:aRW} (h:Rd w aO A n xs) (hk:FH w.heap.size w w'):Rd w' aO A n xs:=h.keep fun b o u _ hu=>(aRu (w:=w) (a:=ad b o) (hk b (aQR _ _ hu))).trans hu
theorem wY.heap (h:wY w k bX) (hk:FH w.heap.size w w'):wY w' k bX:=⟨h.files.heap hk,⟨h.dA.row.heap hk,fun x ah=>⟨(h.dA.each x ah).env.heap hk,(h.dA.each x ah).ins.heap hk,(h.dA.each x ah).asks.heap hk,(h.dA.each x ah).outs.heap hk,(h.dA.each x ah).MB,(h.dA.each x ah).Jd,(h.dA.each x ah).Cz,(h.dA.each x ah).AR⟩⟩,h.fP.heap hk⟩
theorem FH.of (h:FH T uK w) (ae:Below B w w') (bf:T<=B):FH T uK w':=fun q I=>(ae.block q om).trans (h q I)
structure Ml (w:aRU) (X:List lv) (F:List (ak × ak)) (S:uC) (aF:aR1) (met:List ak) (bF:Nat->Bool) (has:ak->Bool) (B0:Nat):Prop where
 src:qA w S aF X.length (NN X) (Yf F X) met bF has
 F7:∀ i,bF i=true->xD (nR F X) (xL bF has) i/\(bG (nR F X) i).kind=1
 home:uW w B0
 low:B0<=w.heap.size/\B0<=S.je/\B0<=S.gs/\B0<=S.lT/\S.B<=w.heap.size
theorem Ml.all {X:List lv} (h:Ml w X F S aF met bF has B0) (ae:Bl w w'):Ml w' X F S aF met bF has B0:=by have:=ae.size;have:=h.low;exact⟨h.src.all ae,h.F7,h.home.below (ae.mono h.low.1),om,om,om,om,om⟩
structure ahq (w:aRU) (k:jE) (keep:Bool) (S:uC) (met:List ak) (bF:Nat->Bool) (has:ak->Bool) (B0 T:Nat) (uK:aRU) (σ:bE) (aW:aRZ) (L:acy) (w':aRU):Prop where
 rep:Wi w' w.heap.size k.dA.length σ aW (tF k.W σ k.fP) L
 go:∃ fe,Ml w' k.X k.files S fe met σ.bF σ.has B0
 heap:FH T uK w'
 but:Yx S w w'
 built:IW k keep bF has σ aW
theorem aMP {keep:Bool} (hk:FD k) (bq:acz k met) (hc:qb k=0) (av:Ml w k.X k.files S aF met bF has B0) (bY:T<=S.je/\T<=S.gs/\T<=S.lT/\T<=w.heap.size) (hw:FH T uK w) (hA:∀ W:World,(∀ q,q < w.heap.size->q≠S.je->q≠S.gs->q≠S.lT->W.heap[q]?=w.heap[q]?)->wY W k bX) :
  Calls prog 9 #[.agg (qy k bX keep).toArray,Ep S] w fun e w'=>∃ σ aW L,e = .returned (.tuple #[.agg (Eu k.dA.length σ.dY.length aW.length (tF k.W σ k.fP).length L).toArray,.int .i64 0])/\ahq w k keep S met bF has B0 T uK σ aW L w':=by
 have M:k.X.length=k.dA.length:=List.length_map _;have hs:=av.src;rw [M] at hs;refine (aLq w k bX keep S aF met bF has B0 hk bq hc hA hs av.F7 av.home ⟨av.low.1,av.low.2.1,av.low.2.2.1,av.low.2.2.2.1,av.low.2.2.2.2⟩).mono ?_;rintro e w' ⟨σ,aW,L,fe,rfl,h1,Y,I,J,_⟩;rw [<- M] at Y;have AP:=I.size;have AQ:=av.low;have ae:Below B0 w w':=⟨I.os,I.tape,I.output,I.size,fun q AA=>I.keep q om om om om⟩;exact⟨σ,aW,L,rfl,h1,⟨fe,Y,fun i AB=>⟨J.kept i AB,J.inv.bF i AB⟩,av.home.below ae,om,om,om,om,om⟩,fun q AA=>(I.keep q om om om om).trans (hw q AA),I,J⟩
theorem axM {keep:Bool} (hk:FD k) (bq:acz k met) (hc:qb k=0) (av:Ml w k.X k.files S aF met bF has B0) (bY:T<=S.je/\T<=S.gs/\T<=S.lT/\T<=w.heap.size) (hw:FH T uK w) (hA:∀ W,FH T uK W->wY W k bX) :
  Calls prog 9 #[.agg (qy k bX keep).toArray,Ep S] w fun e w'=>∃ σ aW L,e = .returned (.tuple #[.agg (Eu k.dA.length σ.dY.length aW.length (tF k.W σ k.fP).length L).toArray,.int .i64 0])/\ahq w k keep S met bF has B0 T uK σ aW L w' :=
 aMP hk bq hc av bY hw fun W h=>hA W fun q I=>(h q om om om om).trans (hw q I)
theorem axN {X:List lv} (dR:uW w B0) (bf:B0<=w.heap.size) :
  Calls prog 8 #[] w fun e w'=>∃ S:uC,e = .returned (Ep S)/\Ml w' X F S (fun _=>False) met (fun _=>false) (fun _=>false) B0/\(w.heap.size<=S.je/\w.heap.size<=S.gs/\w.heap.size<=S.lT)/\Bl w w':=by
 refine (aMc w X.length (NN X) (Yf F X) met).mono ?_;rintro e w' ⟨S,rfl,h1,Y,I,J⟩;have:=J.size;exact⟨S,rfl,⟨h1,fun i M=>(by cases M),dR.below (J.mono bf),om,om,om,om,om⟩,⟨I.2.1,I.2.2.1,I.2.2.2⟩,J⟩
theorem IW.ends (h:IW k true bF has σ aW):C9 k.W k.dN True (xD k.W (xL bF has)) (xD k.W σ) σ.got σ.dY:=h.inv.built fun _ i I=>by
 obtain⟨p,aI,hm⟩:=I;exact h.full rfl p aI i hm
theorem Yx.below (h:Yx S w w') (bf:B<=w.heap.size) (h1:B<=S.je/\B<=S.gs/\B<=S.lT):Below B w w':=⟨h.os,h.tape,h.output,h.size,fun q I=>h.keep q om om om om⟩
theorem Yx.row {g:Nat} {t:TypeId} (h:Yx S w w') (ax:aM w g V t) (h1:g≠S.je/\g≠S.gs/\g≠S.lT):aM w' g V t:=(h.keep g ax.lt h1.1 h1.2.1 h1.2.2).trans ax
theorem aMQ:D6 prog 23 45 (.agg #[.string ⟨#[]⟩,.string ⟨#[]⟩,.string ⟨#[]⟩,.slice none 0 0,.slice none 0 0,.slice none 0 0,.slice none 0 0]) 7 144:=⟨underlying23,kr,rfl,dc⟩
theorem aMR (t:ByteArray) (A:aRV) (n c:Nat) (B:aRV) (m d:Nat):prog.built 45 [(1,.string t),(3,.slice A n c),(5,.slice B m d)]=some #[.string ⟨#[]⟩,.string ⟨#[]⟩,.string t,.slice none 0 0,.slice A n c,.slice none 0 0,.slice B m d]:=kr
theorem aMS (A:aRV) (n c:Nat) (B:aRV) (m d:Nat) (C:aRV) (l e:Nat):prog.built 26 [(0,.slice A n c),(1,.slice B m d),(2,.slice C l e),(3,.bool true)]=some #[.slice A n c,.slice B m d,.slice C l e,.bool true]:=kr
theorem aMT {vI iH Gt:Nat} {A C:Nat} (hf:Rd w 2 (some ⟨A,0,none⟩) 1 [.string ⟨#[97]⟩,.string ⟨#[49,10]⟩]) (ay:Rd w 1 (some ⟨iH,0,none⟩) 1 [.string ⟨#[97]⟩]) (aG:Rd w 1 (some ⟨Gt,0,none⟩) 1 [.string ⟨#[111,117,116,47,120]⟩])
  (bq:Rd w 7 (some ⟨vI,0,none⟩) 1 [.string ⟨#[]⟩,.string ⟨#[]⟩,.string ⟨#[114,101,97,100,32,97,10,119,114,105,116,101,32,111,117,116,47,120,10]⟩,.slice none 0 0,.slice (some ⟨iH,0,none⟩) 1 1,.slice none 0 0,.slice (some ⟨Gt,0,none⟩) 1 1]) (hw:Rd w 1 (some ⟨C,0,none⟩) 1 [.string ⟨#[111,117,116,47,120]⟩]) :
  wY w (pU ⟨⟨#[]⟩,⟨#[]⟩,none,some ⟨iH,0,none⟩,none,some ⟨Gt,0,none⟩,0,1,0,1⟩) ⟨some ⟨A,0,none⟩,1,some ⟨vI,0,none⟩,1,some ⟨C,0,none⟩,1⟩:=by
 refine⟨hf,⟨bq,fun x ah=>?_⟩,hw⟩;obtain rfl:=aRw.1 ah;exact⟨Rd.none_ _ _ _,ay,Rd.none_ _ _ _,aG,(by decide:(0:Nat)<=maxLen),(by decide:(1:Nat)<=maxLen),(by decide:(0:Nat)<=maxLen),(by decide:(1:Nat)<=maxLen)⟩
theorem anX (L:vw):(pU L).W.jK wI=some 0:=kr
theorem aMU (L:vw):fD (pU L).W wI = .known ⟨wI,true,zg⟩:=by
 have hl:FT (pU L).W 0=some ⟨1,0,[(wI,zg)],[gJ Bz]⟩:=by rw [aje,axD];rfl
 unfold fD wo;rw [anX];simp only;rw [hl];rfl
theorem axO (L:vw) (h:yT (pU L).W (pU L).dN i):i=0:=by
 have hm:∀ {p:ak} {j:Nat},(pU L).W.jK p=some j->j < 1:=fun {p j} h=>by
  have:=Ke (⟨pU L,true,fun _=>True,xL (fun _=>false) (fun _=>false),[],⟨0,0,0,⟨none,0,none,0,none,0⟩,⟨0,0,0,0,0,0⟩,0,0⟩⟩:dF) h;exact this
 have:=yT.least (P:=fun i=>i < 1) (fun i I=>by obtain⟨p,_,aI⟩:=I;exact hm aI) (fun i j _ hw=>by obtain⟨_,_,p,_,_,aI⟩:=hw;exact hm aI) h;omega
theorem ahr {L:vw} (h:IW (pU L) true bF has σ aW):σ.got 0=some ⟨1,0,[(wI,zg)],[gJ Bz]⟩/\0∈σ.dY++aW/\(σ.dY++aW).length=1:=by
 have ae:=h.full rfl wI (by simp [pU]) 0 (anX L);have av:σ.got 0≠none:=fun e=>by
  have:=(h.inv.under 0).2 ⟨ae,e⟩;cases this
 obtain⟨o,I⟩:=Option.ne_none_iff_exists'.1 av;have h1:=(h.inv.right 0 o I).1;rw [axE] at h1;have J:=h.log.full 0 av;refine⟨by rw [I,h1],J,?_⟩;have M:=abQ 1 _ h.log.nodup fun x ah=>by
  have:=axO L (h.inv.reach x (h.log.begun x ah));omega
 have Y:=List.length_pos_of_mem J;omega
theorem aMV {L:vw} (h:IW (pU L) true (fun _=>false) (fun _=>false) σ aW):σ.dY.length=1:=by
 have h1:=(ahr h).2.2;have I:aW=[]:=List.eq_nil_iff_forall_not_mem.2 fun i J=>by
  have:=h.log.Sw i J;cases this
 rw [I,List.append_nil] at h1;exact h1
theorem aMW {L:vw} {ib:aRZ} (h:IW (pU L) true bF has σ aW) (ag:IW (pU L) true σ.bF σ.has bR ib):bR.dY.length=0/\ib.length=1:=by
 have M:bR.dY=[]:=List.eq_nil_iff_forall_not_mem.2 fun i I=>by
  have Y:=axO L (ag.inv.reach i (ag.log.begun i (aRd _ I)));subst Y;have:=C9.again h.ends ag.ends I (ahr h).1;exact this rfl
 have J:=(ahr ag).2.2;rw [M] at J |-;exact⟨rfl,by simpa using J⟩
theorem axP {L:vw} (h:IW (pU L) true bF has σ aW):tF (pU L).W σ [wI]=[(wI,zg)]:=by
 have hs:mP [wI]=[wI]:=kr;unfold tF;rw [hs,List.filterMap_cons,fileOf,anX];simp only;have av:GN σ 0=1:=by unfold GN;rw [(ahr h).1]
 simp only [av];rw [if_neg dc,aMU];rfl
theorem aMX (w:aRU) (dR:uW w B0) (bf:B0<=w.heap.size):CB 7 #[] w (.bool true):=by
 have Dk:=aa dR;have Bn:=aa bf;clear dR bf;go_enter func7,ntmps7;go_upto_region 2 with (first|((with_reducible refine Rk (.string ⟨#[97]⟩) (.string ⟨#[49,10]⟩) _ (am4 _ _) ?_ ?_);exact⟨rfl,rfl⟩)|((with_reducible refine Ba K7 (.agg #[.string ⟨#[97]⟩,.string ⟨#[49,10]⟩]) rfl rfl ?_);intro w1 Bp AQ;have Dp:=aa (show Rd w1 2 (some ⟨w.heap.size,0,none⟩) 1 [.string ⟨#[97]⟩,.string ⟨#[49,10]⟩] from Bp);have Dq:=aa AQ;clear Bp AQ)|((with_reducible refine Ba Aj (.string ⟨#[97]⟩) (Wn _) rfl ?_);intro af Bq Aa;have Dr:=aa (show Rd af 1 (some ⟨w1.heap.size,0,none⟩) 1 [.string ⟨#[97]⟩] from Bq);have Br:=aa Aa;clear Bq Aa)|(have _t:=Bt;(with_reducible refine Ba Aj (.string ⟨#[111,117,116,47,120]⟩) (Wn _) rfl ?_);intro bn C8 CF;have Dt:=aa (show Rd bn 1 (some ⟨Ag.heap.size,0,none⟩) 1 [.string ⟨#[111,117,116,47,120]⟩] from C8);have Av:=aa CF;clear C8 CF)|((with_reducible refine Ba Aj (.string ⟨#[111,117,116,47,120]⟩) (Wn _) rfl ?_);intro aD CG CJ;have Du:=aa (show Rd aD 1 (some ⟨af.heap.size,0,none⟩) 1 [.string ⟨#[111,117,116,47,120]⟩] from CG);have Az:=aa CJ;clear CG CJ)|((with_reducible refine Rl (.string ⟨#[114,101,97,100,32,97,10,119,114,105,116,101,32,111,117,116,47,120,10]⟩) (.slice (some ⟨w1.heap.size,0,none⟩) 1 1) (.slice (some ⟨af.heap.size,0,none⟩) 1 1) _ (aMR _ _ _ _ _ _ _) ?_ ?_);exact⟨rfl,rfl,rfl⟩)|((with_reducible refine Ba aMQ (.agg #[.string ⟨#[]⟩,.string ⟨#[]⟩,.string ⟨#[114,101,97,100,32,97,10,119,114,105,116,101,32,111,117,116,47,120,10]⟩,.slice none 0 0,.slice (some ⟨w1.heap.size,0,none⟩) 1 1,.slice none 0 0,.slice (some ⟨af.heap.size,0,none⟩) 1 1]) rfl rfl ?_);intro Ag CK CL;have Bt:=aa (show Rd Ag 7 (some ⟨aD.heap.size,0,none⟩) 1 [.string ⟨#[]⟩,.string ⟨#[]⟩,.string ⟨#[114,101,97,100,32,97,10,119,114,105,116,101,32,111,117,116,47,120,10]⟩,.slice none 0 0,.slice (some ⟨w1.heap.size,0,none⟩) 1 1,.slice none 0 0,.slice (some ⟨af.heap.size,0,none⟩) 1 1] from CK);have Ac:=aa CL;clear CK CL)|((with_reducible refine afJ (.slice (some ⟨w.heap.size,0,none⟩) 1 1) (.slice (some ⟨aD.heap.size,0,none⟩) 1 1) (.slice (some ⟨Ag.heap.size,0,none⟩) 1 1) (.bool true) _ (aMS _ _ _ _ _ _ _ _ _) ?_ ?_);exact⟨rfl,rfl,rfl,rfl⟩))
 obtain⟨gL,BB⟩:=ai (pU ⟨⟨#[]⟩,⟨#[]⟩,none,some ⟨w1.heap.size,0,none⟩,none,some ⟨af.heap.size,0,none⟩,0,1,0,1⟩);obtain⟨AU,Ah⟩:∃ L:vw,gL=pU L:=⟨_,BB⟩;obtain⟨bX,BP⟩:∃ L:x8,L=⟨some ⟨w.heap.size,0,none⟩,1,some ⟨aD.heap.size,0,none⟩,1,some ⟨Ag.heap.size,0,none⟩,1⟩:=⟨_,rfl⟩;obtain⟨Y,BC⟩:=ai (qy gL bX true);have CQ:(#[.slice (some ⟨w.heap.size,0,none⟩) 1 1,.slice (some ⟨aD.heap.size,0,none⟩) 1 1,.slice (some ⟨Ag.heap.size,0,none⟩) 1 1,.bool true]:Array Value)=Y.toArray:=by rw [BC,BB,BP];rfl
 rw [CQ];obtain⟨I,BD,g1,BR⟩:=nq2 (bn.alloc (.cells Y.toArray 26)) bn.heap.size;rw [<- BD,<- BR];have Ad:=gQ BD;have CS:=aa (show aM I g1 Y 26 by rw [BD,BR];exact aM.new bn _ _);have BS:=Br.o.trans ((Az.o.trans ((Ac.o.trans ((aU Av.o Ad).mono Ac.o.size)).mono Az.o.size)).mono Br.o.size);have BF:=aU Dq.o BS;have CU:=Az.o.trans ((Ac.o.trans ((aU Av.o Ad).mono Ac.o.size)).mono Az.o.size);have CV:=Ac.o.trans ((aU Av.o Ad).mono Ac.o.size);have CW:=aU Av.o Ad;have Dv:=aa (show wY I gL bX by
  rw [BB,BP];exact aMT (Dp.o.gz BS) (Dr.o.gz CU) (Du.o.gz CV) (Bt.o.gz CW) (Dt.o.gz Ad));have CX:=aa BF;have CY:=aQG Bn.o BF.size;have Dw:=aa (axN (X:=gL.X) (F:=gL.files) (met:=rM gL) (Dk.o.below (BF.mono Bn.o)) CY);have CZ:FD gL:=by rw [Ah];exact (axG AU).fit (axF AU) (anW AU)
 have Ca:acz gL (rM gL):=by rw [Ah];exact axv (axG AU) (axF AU) (anW AU) (aMJ AU)
 have Cc:qb gL=0:=by rw [Ah];exact anW AU
 have BU:=aa (fun (W:aRU) (S:uC) (aF:aR1) (bF:Nat->Bool) (has:ak->Bool) (av:Ml W gL.X gL.files S aF (rM gL) bF has B0) (bY:I.heap.size<=S.je/\I.heap.size<=S.gs/\I.heap.size<=S.lT/\I.heap.size<=W.heap.size) (hw:FH I.heap.size I W)=>show Calls prog 9 #[.agg Y.toArray,Ep S] W fun e w'=>∃ σ aW L,e = .returned (.tuple #[.agg (Eu gL.dA.length σ.dY.length aW.length (tF gL.W σ gL.fP).length L).toArray,.int .i64 0])/\ahq W gL true S (rM gL) bF has B0 I.heap.size I σ aW L w' from by
  rw [BC];exact axM CZ Ca Cc av bY hw fun aY Ak=>Dv.o.heap Ak);have Dz:Y.length=4:=by rw [BC];rfl
 have Ei:(Y.drop 0).take Y.length=Y:=by simp
 have Ce:Sz 26 Y.length:=by rw [Dz];exact kr
 have Cf:=aa Ah;clear BD BR Ad BF BS CU CV CW BC CQ BB Ah BP CZ Ca Cc CY;go_upto_region 5 with (first|(go_at_call 8; refine Dw.o.mono ?_;rintro e BG ⟨S,rfl,Cg,Cj,BX⟩;obtain⟨Ck,AA,AV⟩:=hq3 Cg Cj BX;have Cm:=aa (CS.o.all BX);obtain⟨jN,BZ⟩:=ai S.jN;rw [Ep,<- BZ];have Co:=aa BZ;clear Cg Cj BX BZ))
 have E5:=aa (by
  have h:=BU.o BG S _ _ _ Ck.o ⟨AA.o.1,AA.o.2.1,AA.o.2.2,AV.o.size⟩ (fun q E8=>AV.o.block q E8);rw [Ep,<- Co.o] at h;exact h);have E9:=aa (fun (W:aRU) (bF:Nat->Bool) (has:ak->Bool) (av:∃ aF,Ml W gL.X gL.files S aF (rM gL) bF has B0) (hs:BG.heap.size<=W.heap.size) (hw:FH I.heap.size I W)=>by
  obtain⟨aF,av⟩:=av;have h:=BU.o W S aF bF has av ⟨AA.o.1,AA.o.2.1,AA.o.2.2,aQG AV.o.size hs⟩ hw;rw [Ep,<- Co.o] at h;exact h);have BH:=aa Ck.o.src.ano;have EA:=aa (show g1 < I.heap.size from CS.o.lt);clear BU;go_upto_region 6 with (first|(with_reducible refine kG Cm.o underlying26 Ce ?_)|(go_at_call 9; refine E5.o.mono ?_;rintro e EC ⟨AX,EF,AZ,rfl,Al⟩;have J:=aa Al;obtain⟨BK,Am⟩:=ai (Eu gL.dA.length AX.dY.length EF.length (tF gL.W AX gL.fP).length AZ);rw [<- Am];have Cr:BK.length=4:=(by rw [Am];rfl);have EG:Sz 39 BK.length:=(by rw [Cr];exact kr);have EH:∀ v∈BK,v.oneCell'=true:=(by rw [Am];simp [Eu,Value.oneCell']);have EJ:=aa Am;clear Am;clear Al)|((with_reducible refine qR BK Cr EG EH ?_);intro Bb AB Ct;obtain⟨g3,Bc⟩:=ai EC.heap.size;rw [<- Bc] at Ct |-;have EK:=aa Bc;clear Bc))
 have EL:=aa ((J.o.but.row Cm.o (by have:=EA.o;have:=AA.o;omega)).all AB.o);have EM:=aa (by obtain⟨aF,h⟩:=J.o.go;exact⟨aF,h.all AB.o⟩:∃ aF,Ml Bb gL.X gL.files S aF (rM gL) AX.bF AX.has B0);have Cu:=aa (show BG.heap.size<=Bb.heap.size from aQG J.o.but.size AB.o.size);have EN:=aa (J.o.heap.of AB.o (aQG AV.o.size J.o.but.size));go_upto_region 7 with (first|(with_reducible refine kG EL.o underlying26 Ce ?_)|(go_at_call 9; refine (E9.o Bb AX.bF AX.has EM.o Cu.o EN.o).mono ?_;rintro e EO ⟨bR,ib,AP,rfl,Al⟩;have Ae:=aa Al;obtain⟨BL,Ao⟩:=ai (Eu gL.dA.length bR.dY.length ib.length (tF gL.W bR gL.fP).length AP);rw [<- Ao];have Cv:BL.length=4:=(by rw [Ao];rfl);have ES:Sz 39 BL.length:=(by rw [Cv];exact kr);have ET:∀ v∈BL,v.oneCell'=true:=(by rw [Ao];simp [Eu,Value.oneCell']);have EU:=aa Ao;clear Ao;clear Al)|((with_reducible refine qR BL Cv ES ET ?_);intro Af Be Bf;obtain⟨g5,Bg⟩:=ai EO.heap.size;rw [<- Bg] at Bf |-;have Ej:=aa Bg;clear Bg))
 have Bh:gL.fP=[wI]:=by rw [Cf.o];rfl
 have AQ:=J.o.built;have Aa:=Ae.o.built;have BN:=J.o.rep;rw [Bh] at BN;have Ap:=EJ.o;have Aq:=EU.o;rw [Bh] at Ap Aq;obtain⟨D8,Bi,Bj,DF⟩:AX.dY.length=1/\(bR.dY.length=0/\ib.length=1)/\tF gL.W AX [wI]=[(wI,zg)]/\tF gL.W bR [wI]=[(wI,zg)]:=by rw [Cf.o] at AQ Aa |-;exact⟨aMV AQ,aMW AQ Aa,axP AQ,axP Aa⟩
 rw [D8,Bj] at Ap;rw [Bi.1,Bi.2,DF] at Aq;rw [Bj] at BN;have DI:=aa ((Ae.o.but.row Ct.o (by have:=EK.o;have:=BH.o;have:=J.o.but.size;omega)).all Be.o);have EX:Af.cell? (ad g3 1)=some (.slice AZ.bV 1 AZ.rc):=by rw [DI.o.cell 1,Ap];rfl
 have DJ:Af.cell? (ad g3 3)=some (.slice AZ.gm 1 AZ.gV):=by rw [DI.o.cell 3,Ap];rfl
 have EY:Af.cell? (ad g5 1)=some (.slice AP.bV 0 AP.rc):=by rw [Bf.o.cell 1,Aq];rfl
 have Ea:Af.cell? (ad g5 2)=some (.slice AP.lK 1 AP.jZ):=by rw [Bf.o.cell 2,Aq];rfl
 have DN:=(BN.keep (W':=Af) fun q h1 Ak=>(Be.o.block q (aQJ (aQJ Ak AB.o.size) Ae.o.but.size)).trans ((Ae.o.but.keep q (aQJ Ak AB.o.size) (by have:=BH.o;omega) (by have:=BH.o;omega) (by have:=BH.o;omega)).trans (AB.o.block q Ak))).files.rd;obtain⟨b,o,DR,DT⟩:=DN.2 sp;have El:Af.cell? (ad b (o+1))=some (.string ⟨#[49,10]⟩):=DT 1 _ rfl;rw [DR] at DJ;obtain⟨Em,DU,En,Db,Eo,Dc,Er,De,Es,Dg,Ev,Dh⟩:=nq6 AZ.bV AZ.rc AZ.gV AP.bV AP.rc AP.lK;obtain⟨Ew,Di⟩:=ai AP.jZ;rw [<- DU,<- Db] at EX;rw [<- Dc] at DJ;rw [<- De,<- Dg] at EY;rw [<- Dh,<- Di] at Ea;clear DU Db Dc De Dg Dh Di Bh AQ Aa BN Ap Aq D8 Bi Bj DF DN DR DT;go_wp2_with fail;go_ret;have BO:=CX.o.size;have Ec:Below w.heap.size I BG:=AV.o.mono BO;have Ee:=J.o.but.below (aQG BO AV.o.size) (by have:=AA.o;omega:w.heap.size<=S.je/\w.heap.size<=S.gs/\w.heap.size<=S.lT);have Ef:=Ae.o.but.below (aQG (aQG BO AV.o.size) Cu.o) (by have:=AA.o;omega:w.heap.size<=S.je/\w.heap.size<=S.gs/\w.heap.size<=S.lT);have Dj:=aQG (aQG BO AV.o.size) J.o.but.size;exact⟨rfl,CX.o.trans (Ec.trans (Ee.trans ((AB.o.mono Dj).trans (Ef.trans (Be.o.mono (aQG (aQG Dj AB.o.size) Ae.o.but.size))))))⟩

end
section
section
variable {KT nm:ByteArray} {k:jE}
end
theorem aM6 {keep:Bool} (hf:FD k) (h:IW k keep bF has σ aW) (ay:i < k.dA.length):ahp (σ.got i):=fun o AB=>by
 obtain⟨rfl,_⟩:=h.inv.right i o AB;have M:i < k.X.length:=by simpa [jE.X] using ay
 have h1:(bG k.W i).outs.length<=200:=SB hf.work M;have AP:∀ x∈(bG k.W i).outs,x.2.length<=65536/\x.1∈(k.X.getD i l8).outs:=Ye hf.work.small i;have hw:=Gw hf.work.small;obtain⟨s,rs,aI,hs⟩:=afZ hw.fin i;have Y:=af8 hf.work M aI;have AQ:(bG k.W i).reads=rs:=by
  rcases af0 hw.fin aI hs with ⟨AU,I⟩ | ⟨p,_,_,I⟩ | ⟨p,_,_,I⟩
  ·have J:(bG k.W i)=(k.W.act i).out s:=I;rw [J];exact hw.reads i s rs aI AU
  ·have J:(bG k.W i).reads=rs:=congrArg iU.reads I;exact J
  ·have J:(bG k.W i).reads=rs:=congrArg iU.reads I;exact J
 rw [AQ];refine⟨om,om,fun x ah=>?_,fun x ah=>⟨?_,(Y.1 x ah).sum⟩⟩
 ·obtain⟨AV,AA⟩:=AP x ah;obtain⟨y,hy⟩:∃ x,k.dA[i]?=some x:=⟨_,aQI ay⟩;rw [show k.X.getD i l8=y.2 by rw [List.getD_eq_getElem?_getD,jE.X,List.getElem?_map,hy];rfl] at AA;have AX:=(hf.kE.fair y (aQK hy)).AR _ AA;unfold maxLen;omega
 ·have:=(Y.1 x ah).small;unfold maxLen;omega
theorem aM7 {keep:Bool} (hf:FD k) (h:IW k keep bF has σ aW):axL k.dA.length σ.got (tF k.W σ k.fP):=by
 have hA:Sy (Qc k.files k.X) (fD k.W):=L9 hf.work.small;have hl:(tF k.W σ k.fP).length<=100:=aQG (aRT _ _) (aQG (Mw k.fP) hf.kE.mI);refine⟨by have:=hf.kE.nZ;omega,fun i I=>aM6 hf h I,om,fun x ah=>?_⟩;obtain⟨p,aI,ah⟩:=List.mem_filterMap.1 ah;have Y:=hf.kE.Vq p ((Jb k.fP).2 p |>.1 aI);have J:x=(p,(oW (fD k.W p) p).2.data):=by unfold fileOf at ah;simp at ah;exact ah.2.2.symm
 subst J;refine⟨by show p.length<=maxLen;unfold maxLen;omega,?_⟩;show (oW (fD k.W p) p).2.data.length<=maxLen;cases M:fD k.W p with
 | known gL=>have:=hA.data p gL M;show gL.data.length<=maxLen;unfold maxLen;omega
 | below=>exact aQQ _
 | stuck=>exact aQQ _
theorem aM8 {A:aRV} {n:Nat} {b o:Nat} (h:Rd w 4 A n V) (aB:n=1) (hA:A=some ⟨b,o,none⟩) (hl:V.length=4):(loadVar 26 ⟨b,o,none⟩).run prog w = .ok (.agg V.toArray) w:=by obtain⟨b',I,e,hc⟩:=h.2 om;rw [hA] at e;cases e;exact aad 26 b o V hc _ underlying26 rfl (by rw [hl];exact kr)
end
section
open Go.Maps Go.RowKit Go.Shelf
noncomputable def Ku (W:o9) (p:ak):Option (ak × ak):=if (oW (fD W p) p).2.is=true then some (p,(oW (fD W p) p).2.data) else none
noncomputable def QH (W:o9) (l:List ak):List (ak × ak):=(mP l).filterMap (Ku W)
theorem aM9 {W:o9} (h:∀ j,W.jK p=some j->σ.got j=some (bG W j)):fileOf W σ p=Ku W p:=by
 unfold fileOf;cases hm:W.jK p with
 | none =>
  simp only;rw [if_neg dc];rfl
 | some j =>
  simp only [GN,h j hm];by_cases hk:(bG W j).kind=1
  ·rw [if_neg (by simp [hk])];rfl
  ·rw [if_pos (by simpa using hk),Ku,ajf hm,if_neg hk];by_cases I:(bG W j).kind=2
   ·rw [if_pos I];simp [oW]
   ·rw [if_neg I];simp [oW]
theorem aNa {W:o9} {l:List ak} (h:∀ p∈l,∀ j,W.jK p=some j->σ.got j=some (bG W j)):tF W σ l=QH W l:=by
 unfold tF QH;have key:∀ (L:List ak),(∀ p∈L,p∈l)->L.filterMap (fileOf W σ)=L.filterMap (Ku W):=by
  intro L I;induction L with
  | nil=>rfl
  | cons x r J =>
   rw [List.filterMap_cons,List.filterMap_cons,aM9 (h x (I x sp)),J fun p aI=>I p (List.mem_cons_of_mem _ aI)]
 exact key _ fun p aI=>((Jb l).2 p).1 aI
theorem tH.up {wr:aRU} (h:tH l w wr) (NL:w'.os=wr.os) (az:w'.tape=wr.tape) (aG:w'.output=wr.output) (hs:wr.heap.size<=w'.heap.size) (hk:∀ k,k < w.heap.size->w'.heap[k]?=wr.heap[k]?):tH l w w':=⟨NL.trans h.os,az.trans h.tape,aG.trans h.output,aQG h.size hs,fun k I J=>(hk k I).trans (h.keep k I J)⟩
structure Ey (c:dF) (l:pE) (bn:aRU) (gy eO bW:Nat) (S:List ak) (uu:aRV) (ou q:Nat) (wr:aRU) (σ:bE) (aF:aR1) (gm:aRV) (gV:Nat) (kQ:List (ak × ak)):Prop where
 st:yF c l wr [] σ aF
 kJ:tH l bn wr
 rep:aM wr gy [.slice (some ⟨eO,0,none⟩) bW bW,.slice none 0 0,.slice none 0 0,.slice gm kQ.length gV] 39
 outs:aM wr eO (pR (xL (fun _=>false) (fun _=>false)) (fun _=>⟨none,0,none,0⟩) bW) 63
 txt:Own wr bn.heap.size 9 1 uu S.length ou (cB S)
 files:Own wr bn.heap.size 65 2 gm kQ.length gV (cK fI kQ)
 ac7:∀ b,bM gm=some b->¬ aF b
 eq:kQ=(S.take q).filterMap (Ku c.W)
 begun:∀ j p,j < q->S[j]?=some p->∀ i,c.W.jK p=some i->σ.begun i=true
 lay:l.T=bn.heap.size/\l.T<=eO/\eO < gy
section
variable {c:dF} {l:pE} {bn wr w':aRU} {gy eO bW:Nat} {S:List ak} {uu:aRV} {ou q:Nat} {σ σ':bE} {aF fe:aR1} {gm:aRV} {gV:Nat} {kQ:List (ak × ak)}
theorem Ey.below (hl:l.Ok) (h:Ey c l bn gy eO bW S uu ou q wr σ aF gm gV kQ) (ae:Below wr.heap.size wr w'):Ey c l bn gy eO bW S uu ou q w' σ aF gm gV kQ:=
 ⟨h.st.all hl ae,h.kJ.trans (.gN ae),h.rep.all ae,h.outs.all ae,h.txt.below ae (aQF _),h.files.below ae (aQF _),h.ac7,h.eq,h.begun,h.lay⟩
theorem Ey.come (hl:l.Ok) (h:Ey c l bn gy eO bW S uu ou q wr σ aF gm gV kQ) (hs:yG c l wr [] σ aF w' σ' fe):Ey c l bn gy eO bW S uu ou q w' σ' fe gm gV kQ:=by
 have J:=h.lay;exact⟨hs.st,h.kJ.trans hs.kJ,hs.kJ.high hl h.rep om,hs.kJ.high hl h.outs om,Own.kJ hl hs.kJ h.txt om,Own.kJ hl hs.kJ h.files om,fun b ae hf=>by
  rcases hs.vS b hf with k | k
  ·exact h.ac7 b ae k
  ·have:=(h.files.block b ae).2.1;omega,h.eq,fun j p aC aI i I=>hs.begun i (h.begun j p aC aI i I),h.lay⟩
theorem Ey.next (h:Ey c l bn gy eO bW S uu ou q wr σ aF gm gV kQ) (aI:S[q]?=some p) (aB:Ku c.W p=none) (ae:∀ i,c.W.jK p=some i->σ.begun i=true):Ey c l bn gy eO bW S uu ou (q+1) wr σ aF gm gV kQ:=
 ⟨h.st,h.kJ,h.rep,h.outs,h.txt,h.files,h.ac7,by rw [Tc _ aI,aB,<- h.eq];simp,fun j M aC I i J=>by
  rcases aQW j q with h1 | h1
  ·exact h.begun j M h1 I i J
  ·obtain rfl:j=q:=om;rw [aI] at I;cases I;exact ae i J,h.lay⟩
theorem Ey.file (hl:l.Ok) (h:Ey c l bn gy eO bW S uu ou q wr σ aF gm gV kQ) {x:ak × ak} {A9:aRV} {c9:Nat} {af:aRU} (aG:Own w' bn.heap.size 65 2 A9 (kQ.length+1) c9 (cK fI kQ++fI x)) (av:wr.grownBy w' (bM gm)) (hA:bM A9=bM gm\/bM A9=some wr.heap.size)
  (ed:V=[.slice (some ⟨eO,0,none⟩) bW bW,.slice none 0 0,.slice none 0 0,.slice A9 (kQ.length+1) c9]) (ax:aM af gy V 39) (az:fV gy w' af) (aI:S[q]?=some p) (aB:Ku c.W p=some x) (ae:∀ i,c.W.jK p=some i->σ.begun i=true):∃ eP,Ey c l bn gy eO bW S uu ou (q+1) af σ eP A9 c9 (kQ++[x]):=by
 have BC:=h.lay;have AQ:∀ {g:Nat} {V:aRW} {t:TypeId},aM wr g V t->t ≠ 65 -> aM w' g V t:=fun ax Aa=>(av.block _ ax.lt fun e=>h.files.ne ax (aQ0 Aa) e.symm).trans ax;have Ac:∀ q,bM gm=some q->bn.heap.size<=q:=fun q Ad=>(h.files.block q Ad).1;have BD:=h.kJ.size;have AU:∀ k,k < bn.heap.size->w'.heap[k]?=wr.heap[k]?:=fun k hk=>av.block k om fun e=>by have:=Ac k e.symm;omega
 have Ae:qY c l 0 w' [] σ (fun q=>aF q/\q < wr.heap.size):=by
  obtain⟨OL,n,Af,Ag,M⟩:=h.st.at_.cut.over;obtain⟨Ah,Ak,Al⟩:=h.st.at_.way;obtain⟨Am,f,Ao,Ap⟩:=h.st.at_.waits;have J:∀ k,k < l.T->w'.heap[k]?=wr.heap[k]?:=fun k hk=>AU k om;refine⟨(J _ hl.base.2).trans h.st.at_.row,⟨OL,n,Af,Ag.keep (J _ (hl.low _ (.inl rfl)).2),fun j o e=>⟨⟨?_,?_⟩,(M j o e).2⟩⟩,⟨Ah,Ak,Al.keep (J _ (hl.low _ (.inr (.inl rfl))).2)⟩,⟨Am,f,Ao,Ap.keep (J _ (hl.low _ (.inr (.inr rfl))).2)⟩,fun W Aq=>h.st.at_.work W fun k AV Y=>(Aq k AV Y).trans (J k AV),h.st.at_.home.below ⟨av.os,av.tape,av.output,av.size,fun k hk=>J k (by have:=hl.base.1;omega)⟩,aQG h.st.at_.size av.size⟩
  ·exact (M j o e).1.outs.grown av fun b ae Y=>h.ac7 b Y.symm ((M j o e).2 b (.inl ae)).1
  ·refine (M j o e).1.reads.grown av fun b ae Y=>?_;obtain⟨_,_,cur,aZ,AA⟩:=(M j o e).1.reads.block b ae;obtain⟨_,_,Av,Az,I⟩:=h.files.block b Y.symm;rw [AA] at I;injection I with I
   injection I with _ I
   exact absurd I dc
 have AB:aM w' gy _ 39:=AQ h.rep dc;have BF:=h.rep.lt;refine⟨_,⟨Ae.own hl AB az om dc dc,h.st.inv⟩,h.kJ.up (az.1.trans av.os) (az.2.1.trans av.tape) (az.2.2.1.trans av.output) (by rw [az.2.2.2.1];exact av.size) fun k hk=>(az.2.2.2.2 k om).trans (AU k hk),?_,(AQ h.outs dc).dG az om,gX (h.txt.keep fun b AX BG _=>av.block b (h.txt.block b AX).2.1 fun e=>?_) AB dc az,?_,fun b ae hf=>?_,by rw [Tc _ aI,aB,<- h.eq];rfl,fun j BB aC AP i AZ=>?_,h.lay⟩
 ·subst ed;rw [List.length_append];exact ax
 ·obtain⟨_,_,cur,aZ,AA⟩:=h.txt.block b AX;obtain⟨_,_,Av,Az,I⟩:=h.files.block b e.symm;rw [AA] at I;injection I with I
  injection I with _ I
  exact absurd I dc
 ·rw [List.length_append,show cK fI (kQ++[x])=cK fI kQ++fI x by simp [cK]];exact gX aG AB dc az
 ·rcases hA with hA | hA
  ·exact h.ac7 b (by rw [<- hA];exact ae) hf.1
  ·rw [hA] at ae;cases ae;exact Nat.lt_irrefl _ hf.2
 ·rcases aQW j q with h1 | h1
  ·exact h.begun j BB h1 AP i AZ
  ·obtain rfl:j=q:=om;rw [aI] at AP;cases AP;exact ae i AZ
end
end
section
open Go.Maps Go.RowKit Go.Shelf
def axX (w:aRU) (k:jE) (e:Ending) (w':aRU):Prop:=∃ (σ:bE) (eO:Nat) (bV gm:aRV) (ll rc gV:Nat),e = .returned (.tuple #[.agg #[.slice (some ⟨eO,0,none⟩) k.dA.length k.dA.length,.slice bV ll rc,.slice none 0 0,.slice gm (QH k.W k.fP).length gV],.int .i64 0])/\Mk w' k.dA.length σ.got (QH k.W k.fP) eO gm/\C9 k.W k.dN True (xD k.W (xL (fun _=>false) (fun _=>false))) (xD k.W σ) σ.got σ.dY/\Bl w w'
def Dx (q:Nat) (σ:bE) (OL:Nat->kI) (n:Nat):List Value:=pR { σ with got:=fun i=>if i < q then σ.got i else none } OL n
theorem aNb {n:Nat} {o:iU} (aJ:q < n) (av:σ.got q=some o):(Dx q σ OL n).take (q * 4)++jd o (OL q)++(Dx q σ OL n).drop (q * 4+(jd o (OL q)).length)=Dx (q+1) σ OL n:=by
 rw [Dx,avV _ OL aJ o (OL q)];unfold Dx pR;congr 1;funext i;by_cases h:i=q
 ·subst h;simp [bE.put,av]
 ·simp only [bE.put,if_neg h];by_cases I:i < q
  ·rw [if_pos I,if_pos om]
  ·rw [if_neg I,if_neg om]
theorem aNc {n:Nat} (av:σ.got q=none):Dx (q+1) σ OL n=Dx q σ OL n:=by
 unfold Dx pR;congr 1;funext i;by_cases h:i=q
 ·subst h;simp [av]
 ·by_cases I:i < q
  ·simp only [if_pos I,if_pos (show i < q+1 by omega)]
  ·simp only [if_neg I,if_neg (show ¬ i < q+1 by omega)]
theorem aNd {n:Nat}:Dx n σ OL n=pR σ OL n:=by unfold Dx pR cK;rw [List.flatMap_def,List.flatMap_def];congr 1;refine List.map_congr_left fun i I=>?_;simp only [if_pos (List.mem_range.1 I)]
def Oe (eO bW:Nat) (bV:aRV) (ll rc:Nat) (gm:aRV) (ku gV:Nat):List Value:=[.slice (some ⟨eO,0,none⟩) bW bW,.slice bV ll rc,.slice none 0 0,.slice gm ku gV]
structure Ez (c:dF) (l:pE) (bn:aRU) (gy eO bW:Nat) (kQ:List (ak × ak)) (gm:aRV) (gV:Nat) (σ:bE) (OL:Nat->kI) (nm q:Nat) (wr:aRU) (bV:aRV) (rc ll:Nat) (jY:aRW):Prop where
 kJ:tH l bn wr
 ac8:aM wr l.X (qy c.k l.bX c.keep++[.map (some l.pF),.map (some l.tY),.map (some l.Cq)]) 114
 rep:aM wr gy (Oe eO bW bV ll rc gm kQ.length gV) 39
 outs:aM wr eO (Dx q σ OL bW) 63
 dY:Own wr bn.heap.size 3 1 bV ll rc jY
 files:Own wr bn.heap.size 65 2 gm kQ.length gV (cK fI kQ)
 map:kz wr FE l.pF nm (fun i=>(σ.got i).map fun o=>jd o (OL i))
 own:∀ i o,σ.got i=some o->ny wr bn.heap.size o (OL i)
 lay:l.T=bn.heap.size/\l.T<=eO/\eO < gy/\l.pF < l.T/\l.X < l.T
section
variable {c:dF} {l:pE} {bn wr w':aRU} {gy eO bW:Nat} {kQ:List (ak × ak)} {gm:aRV} {gV:Nat} {σ:bE} {OL:Nat->kI} {nm q:Nat} {bV:aRV} {rc ll:Nat} {jY:aRW}
theorem Ey.done {S:List ak} {uu:aRV} {ou:Nat} (hl:l.Ok) (h:Ey c l bn gy eO bW S uu ou q wr σ aF gm gV kQ):∃ OL nm,Ez c l bn gy eO bW kQ gm gV σ OL nm 0 wr none 0 0 []:=by
 obtain⟨OL,nm,_,J,M⟩:=h.st.at_.over;have I:=h.lay;have h1:=(hl.low _ (.inl rfl)).2;have Y:=hl.base.2;refine⟨OL,nm,h.kJ,h.st.at_.row,h.rep,?_,Own.nil _ _ _ _,h.files,J,fun i o e=>(M i o e).1.mono om,⟨I.1,I.2.1,I.2.2,h1,Y⟩⟩;have e:Dx 0 σ OL bW=pR (xL (fun _=>false) (fun _=>false)) (fun _=>⟨none,0,none,0⟩) bW:=by unfold Dx pR;congr 1
 rw [e];exact h.outs
theorem Ez.below (h:Ez c l bn gy eO bW kQ gm gV σ OL nm q wr bV rc ll jY) (ae:Bl wr w'):Ez c l bn gy eO bW kQ gm gV σ OL nm q w' bV rc ll jY:=
 ⟨h.kJ.trans (.gN ae),h.ac8.all ae,h.rep.all ae,h.outs.all ae,h.dY.below ae (aQF _),h.files.below ae (aQF _),h.map.keep (ae.block _ h.map.lt),fun i o e=>(h.own i o e).all ae,h.lay⟩
theorem Ez.skip (h:Ez c l bn gy eO bW kQ gm gV σ OL nm q wr bV rc ll jY) (av:σ.got q=none):Ez c l bn gy eO bW kQ gm gV σ OL nm (q+1) wr bV rc ll jY:=
 ⟨h.kJ,h.ac8,h.rep,by rw [aNc av];exact h.outs,h.dY,h.files,h.map,h.own,h.lay⟩
theorem Ez.store (h:Ez c l bn gy eO bW kQ gm gV σ OL nm q wr bV rc ll jY) (ed:V=Dx (q+1) σ OL bW) (ax:aM w' eO V 63) (az:fV eO wr w'):Ez c l bn gy eO bW kQ gm gV σ OL nm (q+1) w' bV rc ll jY:=by have I:=h.lay;subst ed;exact⟨h.kJ.up (az.1.trans rfl) az.2.1 az.2.2.1 (by rw [az.2.2.2.1];exact aQF _) fun k hk=>az.2.2.2.2 k om,h.ac8.dG az om,h.rep.dG az om,ax,gX h.dY h.outs dc az,gX h.files h.outs dc az,h.map.keep (az.2.2.2.2 _ om),fun i o e=>⟨gX (h.own i o e).outs h.outs dc az,gX (h.own i o e).reads h.outs dc az⟩,I⟩
theorem Ez.push {af:aRU} (h:Ez c l bn gy eO bW kQ gm gV σ OL nm q wr bV rc ll jY) {A9:aRV} {c9:Nat} {FI:aRW} (aG:Own w' bn.heap.size 3 1 A9 (ll+1) c9 FI) (av:wr.grownBy w' (bM bV)) (ed:V=Oe eO bW A9 (ll+1) c9 gm kQ.length gV) (ax:aM af gy V 39) (az:fV gy w' af):Ez c l bn gy eO bW kQ gm gV σ OL nm q af A9 c9 (ll+1) FI:=by
 have AA:=h.lay;subst ed;have bY:∀ q,bM bV=some q->bn.heap.size<=q:=fun q AB=>(h.dY.block q AB).1;have AQ:=h.kJ.size;have Y:∀ k,k < bn.heap.size->w'.heap[k]?=wr.heap[k]?:=fun k hk=>av.block k om fun e=>by have:=bY k e.symm;omega
 have J:∀ {g:Nat} {V:aRW} {t:TypeId},aM wr g V t->t≠3 -> aM w' g V t:=fun ax AP=>(av.block _ ax.lt fun e=>h.dY.ne ax (aQ0 AP) e.symm).trans ax;have I:aM w' gy _ 39:=J h.rep dc;exact⟨h.kJ.up (az.1.trans av.os) (az.2.1.trans av.tape) (az.2.2.1.trans av.output) (by rw [az.2.2.2.1];exact av.size) fun k hk=>(az.2.2.2.2 k om).trans (Y k hk),(J h.ac8 dc).dG az om,ax,(J h.outs dc).dG az om,gX aG I dc az,gX (XI h.files h.dY dc av) I dc az,h.map.keep ((az.2.2.2.2 _ om).trans (Y _ om)),fun i o e=>⟨gX (XI (h.own i o e).outs h.dY dc av) I dc az,gX (XI (h.own i o e).reads h.dY dc av) I dc az⟩,AA⟩
theorem Ez.aNe {g:Nat} {Z:aRW} (h:Ez c l bn gy eO bW kQ gm gV σ OL nm bW wr bV rc ll jY) (dm:aM wr g Z 39) (az:fV g wr w'):Mk w' bW σ.got kQ eO gm:=by
 have I:eO≠g:=fun e=>by
  have h1:=h.outs;rw [e,aM,dm] at h1;injection h1 with h1
  injection h1 with _ h1
  exact absurd h1 dc
 refine⟨⟨OL,⟨?_,fun _=>⟨_,_,rfl,fun j u hu=>?_⟩⟩,fun i _=>⟨fun o e=>⟨(gX (h.own i o e).outs dm dc az).rd,(gX (h.own i o e).reads dm dc az).rd⟩⟩⟩,(gX h.files dm dc az).rd⟩
 ·rw [aag Tz,List.length_map,List.length_range]
 ·rw [<- axK] at hu;rw [Nat.zero_add];exact ((h.outs.dG az I).cell j).trans (by rw [aNd];exact hu)
end
end
end Go.Proofs.YtjkinjbkknanbaaGreatDoor
