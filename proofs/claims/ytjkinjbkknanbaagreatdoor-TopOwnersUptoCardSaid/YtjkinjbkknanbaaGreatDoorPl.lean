/- Owners, up to the said cards: whatever build starts, its answer names for each digest just the works that own it. -/
import Derived.Test.YtjkinjbkknanbaaGreatDoorPk
import Derived.Test.YtjkinjbkknanbaaGreatDoorRows
import Derived.Test.YtjkinjbkknanbaaGreatDoorCards
import Derived.Test.YtjkinjbkknanbaaGreatDoorTie
set_option maxRecDepth 100000
set_option maxHeartbeats 8000000
set_option linter.unusedSimpArgs false
set_option linter.unusedVariables false
namespace Go.Proofs.YtjkinjbkknanbaaGreatDoor
open Go.Proofs.Tryz
variable {v:Value}
variable {cs:aRD}
section
open Go.Maps Go.RowKit Go.Shelf
theorem aM5 {w:aRB} {A:aRC} {n:Nat} {V:aRD} {b o:Nat} (h:Rd w 4 A n V) (aB:n=1) (hA:A=some ⟨b,o,none⟩) (hl:V.length=4):(loadVar 26 ⟨b,o,none⟩).run prog w = .ok (.agg V.toArray) w:=by obtain⟨b',I,e,hc⟩:=h.2 om;rw [hA] at e;cases e;exact ZM 26 b o V hc _ underlying26 rfl (by rw [hl];exact kr)
theorem aM6 {w':aRB} {A:aRC} {k:jo} {pk nm:ByteArray} {cK:xU} {c:Nat} (h:wT w' k cK) (av:Rd w' 7 A k.bZ.length (yg (w9 pk nm k).bZ)):wT w' (w9 pk nm k) { cK with B:=A,d:=c }:=by refine⟨h.files,⟨by rw [VQ];exact av,fun x ah=>?_⟩,h.ib⟩;obtain⟨y,hy,e,I,J,M,Y⟩:=anQ ah;have hy:=h.bZ.each y hy;rw [e];exact⟨by rw [I];exact hy.env,by rw [J];exact hy.ins,by rw [M];exact hy.asks,by rw [Y];exact hy.outs,hy.KD,hy.FO,hy.BN,hy.zX⟩
theorem aM7:Sz 23 1:=kr
theorem aM8 (X:List iP):∀ v∈yg X,v.oneCell'=true:=fun v I=>by
 obtain⟨x,_,ah⟩:=aQY.1 I;exact ai2 _ _ v ah
theorem aM9 (w:aRB) (k:jo) (cK:xU) (keep:Bool) (pk nm:ByteArray) (hk:L9 k) {B0:Nat} (ek:vM w B0) (bg:B0<=w.heap.size) (hA:∀ W:World,(∀ q,q < w.heap.size->W.heap[q]?=w.heap[q]?)->wT W k cK) :
  CB 3 #[.agg (rA k cK keep).toArray,.agg #[.string pk,.string nm]] w (.bool true):=by
 obtain⟨AP,BH,AV,BI⟩:=nq2 (rA k cK keep) (rA k cK true);obtain⟨J,Ak⟩:∃ V:List Value,V=[.string pk,.string nm]:=⟨_,rfl⟩;have Cg:(#[.string pk,.string nm]:Array Value)=J.toArray:=by rw [Ak]
 rw [Cg];obtain⟨aF,BJ⟩:=ai (w.alloc (.cells AP.toArray 26));obtain⟨aV,BK⟩:=ai (aF.alloc (.cells J.toArray 28));have Ci:=gQ BJ;have Bi:=gQ BK;have Ag:=aR Ci Bi;have Ck:aM aV w.heap.size AP 26:=by refine aM.all ?_ Bi;rw [BJ];exact aM.new w _ _
 obtain⟨Bn,Bo⟩:=ai aF.heap.size;have Cm:aM aV Bn J 28:=by rw [BK,Bo];exact aM.new aF _ _
 have Ei:AP.length=4:=by rw [BH];rfl
 have BL:AV.length=4:=by rw [BI];rfl
 have Cn:J.length=2:=by rw [Ak];rfl
 have Hl:(AP.drop 0).take AP.length=AP:=by simp
 have Hm:(J.drop 0).take J.length=J:=by simp
 have Em:Sz 26 AP.length:=by rw [Ei];exact kr
 have En:Sz 26 AV.length:=by rw [BL];exact kr
 have Co:Sz 28 J.length:=by rw [Cn];exact kr
 have Eo:∀ v∈AV,v.oneCell'=true:=by rw [BI];simp [rA,Value.oneCell']
 have Ep:∀ v∈J,v.oneCell'=true:=by rw [Ak];simp [Value.oneCell']
 have Er:=aa (show Calls prog 6 #[.agg AP.toArray,.slice none 0 0] aV (axv aV k cK) from by
  rw [BH];exact aL6 aV k cK keep hk (ek.below (Ag.mono bg)) (aQn bg Ag.size) fun W h=>hA W fun q I=>(h q (aQq I Ag.size)).trans (Ag.block q I))
 have Cs:=aa (fun W (ae:Bl w W)=>aMP W (ek.below (ae.mono bg)) (aQn bg ae.size));have Ct:=aa (fun W (ae:Bl w W)=>show vM W B0/\B0<=W.heap.size from ⟨ek.below (ae.mono bg),aQn bg ae.size⟩);obtain⟨Bp,BM,Es,Eu,Ev,Al,Ew⟩:=hq7 hA hk Ck Cm Ag BI Ak;rw [<- BH];have Ex:=aa Bo;have Ey:=BJ.symm;have Ez:=BK.symm;clear BJ BK Ci Bi Ag Ck Cm Bo hk ek bg hA BH BI Ak Cg;go_enter func3,ntmps3;go_upto_region 2 with (first
  | (with_reducible refine kv Es.o underlying26 Em ?_)
  | (go_at_call 6; refine Er.o.mono ?_;rintro e aC ⟨Bq,v,b,rfl,Cv⟩;have F3:=aa Cv;have F4:=aa Bq;have A7:=aa (aR Ev.o Bq);clear Cv Bq))
 rw [<- Ex.o];cases b with
 | false =>
  go_wp2_with (first
   | (go_at_call 7; refine jw (Cs.o aC A7.o) ?_;intro Br Ab))
  go_ret;exact⟨rfl,aR A7.o Ab.o⟩
 | true =>
  obtain⟨AZ,Ad,Bt,A,c,rfl,Bu⟩:=F3.o rfl;have Bv:=BM.o.fit AZ Ad;have Cw:=ano BM.o AZ Ad Bt;have Cz:FC (w9 pk nm k):=(axW BM.o).fit (axV.trans AZ) (anP.trans Ad);have DD:Yf (w9 pk nm k) (oL k):=by have:=ano (axW (pk:=pk) (nm:=nm) BM.o) (axV.trans AZ) (anP.trans Ad) (by rw [axU];exact Bt);rwa [axU] at this
  have DF:=aa (Eu.o.all F4.o);obtain⟨b,o,F5,_⟩:=Bu.rd.2 dc;subst F5;have F6:=aa (show Own aC aV.heap.size 26 4 (some ⟨b,o,none⟩) 1 c AV by rw [Al.o];exact Bu);have FB:=aa (axJ (w:=aC) (X:=k.X) (F:=k.files) (met:=oL k) (Ct.o aC A7.o).1 (Ct.o aC A7.o).2);obtain⟨BO,FD,FE,FF⟩:=hq4 Bv Cz DD Ad;have DL:=aa (fun (W:aRB) (S:uA) (aI:aRI) (ax:Ka W k.X k.files S aI (oL k) (fun _=>false) (fun _=>false) B0) (bY:aC.heap.size<=S.ja/\aC.heap.size<=S.gs/\aC.heap.size<=S.lJ/\aC.heap.size<=W.heap.size) (hw:IY aC.heap.size aC W)=>show Calls prog 9 #[.agg AV.toArray,Et S] W fun e w'=>∃ σ aW L,e = .returned (.tuple #[.agg (zM k.bZ.length σ.dZ.length aW.length (o9 k.W σ k.ib).length L).toArray,.int .i64 0])/\acz W k true S (oL k) (fun _=>false) (fun _=>false) B0 aC.heap.size aC σ aW L w' from by
   rw [Al.o];exact axI Bv Cw Ad ax bY hw fun aV ag=>Bp.o aV fun q I=>(ag q (aQq I A7.o.size)).trans (A7.o.block q I))
  clear AZ Ad Bt Bu Bv Cw Cz DD Ey Ez;go_upto_region 5 with (first
   | (go_at_call 8; refine FB.o.mono ?_;rintro e Br ⟨S,rfl,DN,DR,DW⟩;obtain⟨DX,Ah,Ab⟩:=hq3 DN DR DW;obtain⟨jN,Bw⟩:=ai S.jN;rw [Et,<- Bw];have DY:=aa Bw;clear DN DR DW Bw))
  have FH:=aa (by
   have h:=DL.o Br S _ DX.o ⟨Ah.o.1,Ah.o.2.1,Ah.o.2.2,Ab.o.size⟩ (fun q I=>Ab.o.block q I);rw [Et,<- DY.o] at h;exact h)
  have DZ:=aa (fun (W:aRB) (h:IY aC.heap.size aC W)=>show (loadVar 26 ⟨b,o,none⟩).run prog W = .ok (.agg AV.toArray) W from aM5 (F6.o.rd.heap h) rfl rfl BL);have FJ:=aa (DZ.o Br fun q I=>Ab.o.block q I);have C8:=aa DX.o.src.amV;clear DL;go_upto_region 8 with (first
   | ((with_reducible refine pY FJ.o ?_ ?_);exact rfl)
   | (go_at_call 9; refine FH.o.mono ?_;rintro e FN ⟨Y,Da,BP,rfl,Am⟩;have AJ:=aa Am;obtain⟨AL,Ao⟩:=ai (zM k.bZ.length Y.dZ.length Da.length (o9 k.W Y k.ib).length BP);rw [<- Ao];have Db:AL.length=4:=(by rw [Ao];rfl);have Dc:Sz 39 AL.length:=(by rw [Db];exact kr);have FP:∀ v∈AL,v.oneCell'=true:=(by rw [Ao];simp [zM,Value.oneCell']);have FQ:(AL.drop 0).take AL.length=AL:=sp;have FT:=aa Ao;clear Ao;clear Am)
   | ((with_reducible refine rP AL Db Dc FP ?_);intro BQ Ai De;obtain⟨g8,C9⟩:=ai FN.heap.size;rw [<- C9] at De |-;have FV:=aa C9;clear C9))
  have FW:=aa (aQn AJ.o.but.size Ai.o.size);have CE:=aa (AJ.o.heap.of Ai.o (aQn Ab.o.size AJ.o.but.size));have FX:=aa (DZ.o BQ CE.o);have Df:=aa (show aM BQ Bn J 28 from (CE.o Bn DF.o.lt).trans DF.o);obtain⟨dY,CJ⟩:=ai k.bZ.length;have Ap:=aa CJ;have Ho:dY<=10:=by rw [CJ];exact BO.o.kV.nN
  have FY:=aa (Bp.o BQ fun q I=>(CE.o q (aQq I A7.o.size)).trans (A7.o.block q I));clear CJ;go_upto_region 9 with (first
   | ((with_reducible refine pY FX.o ?_ ?_);exact rfl)
   | ((with_reducible refine rP AV BL En Eo ?_);intro AA Aq BX;obtain⟨g10,CK⟩:=ai BQ.heap.size;rw [<- CK] at BX |-;have Dg:=aa CK;clear CK))
  have Fa:=aa (FY.o.all Aq.o);have CL:=aa (Df.o.all Aq.o);obtain⟨Bb,Bc⟩:=ai (AA.alloc (.cells #[] 45));have Au:=gQ Bc;have Fb:=aa Au;have Dh:=aa (show Own Bb AA.heap.size 45 7 (some ⟨AA.heap.size,0,none⟩) 0 0 [] by rw [Bc];exact Own.lit AA #[] _ 7 0 _ (aQm _) dc rfl);have Ff:=aa (BX.o.all Au);have Dk:=aa (show Rd Bb 7 cK.B dY (yg k.bZ) by rw [Ap.o];exact (Fa.o.all Au).bZ.row);obtain⟨Dl,CS,Dm,Dp⟩:=nq2 cK.B cK.d;have Fh:Bb.cell? (ad g10 1)=some (.slice Dl dY Dm):=by rw [Ff.o.cell 1,Al.o,Ap.o,CS,Dp];rfl
  rw [<- CS] at Dk;have Dq:=aa (show AA.heap.size<=Bb.heap.size from Au.size);have Dr:=aa (show g10 < AA.heap.size from BX.o.lt);have Hr:=Bc.symm;clear Bc Au CS Dp;go_upto_region 10 with (first
   | (at_builtin;have _t:=Dh;go_must ((with_reducible refine ve 45 _ 7 144 underlying23 anE.info anE.zs AA.heap.size (some ⟨AA.heap.size,0,none⟩) 0 0 [] Dh.o dY (yg k.bZ) (.slice Dl dY Dm) (Src.slice underlying23 Dk.o) (aM8 _) ?_ ?_ ?_ ?_ ?_);exact mO;omega;exact Dq.o;exact⟨rfl,rfl⟩;intro A9 c9 Ht CU AZ Fj;rw [Nat.zero_add,List.nil_append] at CU;rw [Nat.zero_add];have Fs:=aa CU;have Ae:=Fb.o.grown AZ Dq.o (fun k e=>by cases e;exact aQm _);have Fu:=aa Ae;have Dt:=aa (BX.o.below Ae Dr.o);have Fw:=aa (CL.o.below Ae CL.o.lt);obtain⟨Aa,CV⟩:=ai (AV.set 1 (.slice A9 dY c9));have Fx:=CV.symm;have CW:=aa CV;clear CU AZ Fj Ae CV))
   | ((with_reducible refine BU 1 (.slice A9 dY c9) Dt.o aM7 om rfl Fx ?_);intro Dx Dy Bd;have Dz:=aa Dy;have Fy:=aa Bd;have Fz:=aa (Fw.o.dK Bd (by have:=Dg.o;have:=Df.o.lt;omega));have G5:=aa (iJ Fs.o Dt.o dc Bd);clear Dy Bd Fh))
  have G6:=aa (oF (aR Aq.o Fu.o) Fy.o (by rw [Dg.o];exact aQm _));have E8:=aa (fun (W:aRB) (h:aM W g10 Aa 26)=>show W.cell? (ad g10 1)=some (.slice A9 dY c9) by rw [h.cell 1,CW.o,Al.o];rfl);have G7:=E8.o Dx Dz.o;go_wp2_with fail;go_loopg [44] dY (fun gk GI wr=>∃ q:Nat,q+gk=dY/\GI = .int .i64 q/\Own wr AA.heap.size 45 7 A9 dY c9 (yg (FI pk nm q k.bZ))/\Below AA.heap.size Dx wr);case atStart=>exact⟨0,om,rfl,by rw [show FI pk nm 0 k.bZ=k.bZ by simp [FI]];exact G5.o,Below.refl _ _⟩
  case round =>
   obtain⟨q,I,rfl,E9,Bf⟩:=hrel;have Aw:=aa E9;have CZ:=aa Bf;have EB:=aa (Dz.o.below Bf Dr.o);have GJ:=aa (Fz.o.below Bf (by have:=CL.o.lt;omega));have GK:=E8.o wr EB.o;clear E9 Bf G7;by_cases ED:q < dY
   ·have GQ:(q:Int) < dY:=om;have Hu:(0:Int)<=q:=om;obtain⟨Hw,I1,cur,bf,Ca,Ae,_⟩:=Aw.o.at_ (by have:=Aw.o.2.1;omega);have GR:=aa Ca;rw [Ca] at GK;have GY:=aa (show q * 7+J.length<=dY * 7 by omega);have Ga:=aa (show (Value.agg J.toArray).cells.toList=J from qD _);have Gb:=aa (show q < k.bZ.length by rw [<- Ap.o];exact ED);have Gc:=aa Ae;have Gd:0 < dY:=om;clear Ca Ae ED;go_wp2_with (first
     | (with_reducible refine kv GJ.o underlying28 Co ?_)
     | ((with_reducible refine aMY Aw.o GR.o (.agg J.toArray) J Ga.o GY.o Gd Co Ep ?_ ?_);exact⟨rfl,rfl⟩;intro ws EG EH;have Gf:=aa EG;have Gi:=aa (oF CZ.o EH Gc.o);clear EG EH))
    go_roundg (gk - 1);case rel =>
     refine⟨q+1,om,by go_num,?_,Gi.o⟩;rw [aM0 pk nm Gb.o,show ([Value.string pk,Value.string nm]:aRD)=J from Ew.o.symm,show q * 7+2=q * 7+J.length by rw [Cn]];exact Gf.o
    case measure=>omega
   ·have GQ:¬ (q:Int) < dY:=om;obtain rfl:q=dY:=om;have EI:=aa (show Own wr AA.heap.size 45 7 A9 k.bZ.length c9 (yg (w9 pk nm k).bZ) by
     have h:=Aw.o;rw [Ap.o] at h;exact h)
    have Ay:=aa (G6.o.trans (CZ.o.mono Aq.o.size));have Gj:=aa (by obtain⟨aI,h⟩:=AJ.o.go;exact⟨aI,(h.all Ai.o).all Ay.o⟩:∃ aI,Ka wr k.X k.files S aI (oL k) Y.bG Y.has B0);have Cb:=aa (show Bl w wr from by
     have Az:=aR A7.o Ab.o;have EK:=Az.trans (AJ.o.but.below Az.size (by have:=Ah.o;have:=A7.o.size;omega));have EL:=aR EK Ai.o;exact aR EL Ay.o)
    have Gm:Aa.length=4:=by rw [CW.o,List.length_set];exact BL
    have I6:(Aa.drop 0).take Aa.length=Aa:=by simp
    have Gp:Sz 26 Aa.length:=by rw [Gm];exact kr
    have Gq:=aa (show Calls prog 9 #[.agg Aa.toArray,.iface 90 (pp jN 0)] wr fun e w'=>∃ σ aW L,e = .returned (.tuple #[.agg (zM (w9 pk nm k).bZ.length σ.dZ.length aW.length (o9 (w9 pk nm k).W σ (w9 pk nm k).ib).length L).toArray,.int .i64 0])/\acz wr (w9 pk nm k) true S (oL k) Y.bG Y.has B0 0 wr σ aW L w' from by
     obtain⟨aI,ax⟩:=Gj.o;rw [DY.o,show Aa=rA (w9 pk nm k) { cK with B:=A9,d:=c9 } true by rw [CW.o,Al.o,Ap.o,<- VQ (pk:=pk) (nm:=nm) (k:=k)];rfl];refine axH FD.o FE.o (anP.trans FF.o) (by rw [anO];exact ax) ⟨aQu _,aQu _,aQu _,aQu _⟩ (fun q I=>absurd I (aRm _)) fun W EM=>?_;have bY:=Ah.o;have I8:=A7.o.size;have Gr:=C8.o;have I9:=Aq.o.size;have IA:=FW.o;refine aM6 (Bp.o W fun q I=>(EM q (aQq I Cb.o.size) om om om).trans (Cb.o.block q I)) (EI.o.keep fun b ae h1 ag=>EM b ag om om om).rd)
    clear Aw CZ EI;go_upto_region 16 with (first
     | (with_reducible refine kv EB.o underlying26 Gp ?_)
     | (go_at_call 9; refine Gq.o.mono ?_;rintro e Gs ⟨bQ,gN,BA,rfl,Am⟩;have Af:=aa Am;obtain⟨AO,BF⟩:=ai (zM (w9 pk nm k).bZ.length bQ.dZ.length gN.length (o9 (w9 pk nm k).W bQ (w9 pk nm k).ib).length BA);rw [<- BF];have EO:AO.length=4:=(by rw [BF];rfl);have EP:Sz 39 AO.length:=(by rw [EO];exact kr);have Gt:∀ v∈AO,v.oneCell'=true:=(by rw [BF];simp [zM,Value.oneCell']);have Gu:(AO.drop 0).take AO.length=AO:=sp;have Gv:=aa BF;clear BF;clear Am)
     | ((with_reducible refine rP AO EO EP Gt ?_);intro AB BG ER;obtain⟨g12,Ce⟩:=ai Gs.heap.size;rw [<- Ce] at ER |-;have IB:=aa Ce;clear Ce))
    have Gw:=aa ((Af.o.but.row (De.o.all Ay.o) (by have:=FV.o;have:=C8.o;have:=AJ.o.but.size;omega)).all BG.o);have Gx:=aa (show J9 AB k.bZ.length Y.got (o9 k.W Y k.ib) BP.jA BP.jX from by
     have EK:=AJ.o.but.size;have EL:=Ai.o.size;have IC:=Ay.o.size;have Gr:=C8.o;exact (AJ.o.rep.keep (W':=AB) fun q h1 ag=>(BG.o.block q (by have:=Af.o.but.size;omega)).trans ((Af.o.but.keep q om om om om).trans ((Ay.o.block q om).trans (Ai.o.block q ag)))).rep)
    have Gy:=aa (show J9 AB k.bZ.length bQ.got (o9 k.W bQ k.ib) BA.jA BA.jX from by
     have h:=(Af.o.rep.keep (W':=AB) fun q _ ag=>BG.o.block q ag).rep;rw [VQ,acF] at h;exact h)
    have EU:GU k true Y.bG Y.has bQ gN:=by
     obtain⟨h1,ag,EW,Az⟩:=Af.o.built;rw [acF] at h1 EW Az;have H6:(w9 pk nm k).dN=k.dN:=by unfold jo.dN;rw [acF];rfl
     rw [H6] at h1;exact⟨h1,ag,EW,Az⟩
    obtain⟨Cf,EY,H8⟩:=aM2 BO.o AJ.o.built EU;have H9:=aa (show Rd AB 1 BA.cZ bQ.dZ.length (AR bQ.dZ) from ((Af.o.rep.keep (W':=AB) fun q _ ag=>BG.o.block q ag).dZ).rd);have HY:=aa (show CB 10 #[.agg AL.toArray,.agg AO.toArray] AB (.bool true) from by
     rw [FT.o,Gv.o,VQ,acF];have ag:=Gy.o;have EZ:o9 k.W bQ k.ib=o9 k.W Y k.ib:=aMI Cf _;rw [Cf,EZ] at ag;show Calls _ _ #[.agg (zM k.bZ.length Y.dZ.length Da.length (o9 k.W Y k.ib).length BP).toArray,.agg (zM k.bZ.length bQ.dZ.length gN.length (o9 k.W bQ k.ib).length BA).toArray] _ _;rw [EZ];exact aMG AB Gx.o ag (aM4 BO.o AJ.o.built) _ _ _ ⟨rfl,rfl,rfl⟩ _ _ _ _ _ H9.o (by have:=BO.o.kV.nN;omega) EY)
    have He:=aa (show Bl w AB from by
     have h1:=Cb.o;have ag:=h1.trans (Af.o.but.below h1.size (by have:=Ah.o;have:=A7.o.size;omega));exact aR ag BG.o)
    clear Cf EY H8 EU;go_wp2_with (first
     | ((with_reducible refine KW g8 0 AL AL _ Gw.o FQ _ underlying39 Dc ?_ ?_);exact⟨⟨_,_,rfl,rfl,rfl⟩,rfl,rfl⟩)
     | ((with_reducible refine KW g12 0 AO AO _ ER.o Gu _ underlying39 EP ?_ ?_);exact⟨⟨_,_,rfl,rfl,rfl⟩,rfl,rfl⟩)
     | (go_at_call 10; refine HY.o.mono ?_;rintro e Hf ⟨rfl,Ec⟩;have Ee:=aa (aR He.o Ec);clear Ec)
     | (go_at_call 7; refine (Cs.o Hf Ee.o).mono ?_;rintro e IE ⟨rfl,Eg⟩;have Hg:=aa (aR Ee.o Eg);clear Eg))
    go_ret;exact⟨rfl,Hg.o⟩
end
section
open Go.ChangeAt Go.ChangeShapes Go.RowKit Go.WideShapes
variable {H:Type} {enc:TypeId × Value->H} {P:Program}
theorem aNz:ownKnob prog.godebug=none:=kr
theorem ayc (hl:laidOutB P=true) {W W':aRB} (ae:Bl W W'):∀ (ts:List TypeId) (vs:aRD) (yZ:List (DataW H)) (p:List MemPlace),(∀ t∈ts,P.readableRec t=true/\t < P.types.size) ->
  DataW.TrodAll enc P W 0 (fun _=>true) true ts vs yZ p->(∀ x∈p,x.block < W.heap.size)->DataW.TrodAll enc P W' 0 (fun b=>decide (b < W.heap.size)) true ts vs yZ p
 | [],[],[],_,_,h,_=>h
 | t :: ts,v :: vs,d :: yZ,_,I,⟨p,q,h1,M,rfl⟩,J =>
  ⟨p,q,Below.trod hl (I t sp).1 (I t sp).2 h1 ae (fun x ah=>J x (by simp [ah])),ayc hl ae ts vs yZ q (fun Y A7=>I Y (by simp [A7])) M (fun x ah=>J x (by simp [ah])),rfl⟩
 | [],[],_ :: _,_,_,h,_=>h.elim
 | [],_ :: _,_,_,_,h,_=>h.elim
 | _ :: _,[],_,_,_,h,_=>h.elim
 | _ :: _,_ :: _,[],_,_,h,_=>h.elim
theorem aNA {f:Func} {s:ChangeSpec} {W W':aRB} {args:Array Value} {yZ gs:List (DataW H)} {before:List MemPlace} {PG:TypeId}
  (hl:laidOutB P=true) (vo:(f.params.toList.all fun t=>P.readableRec t && decide (t < P.types.size))=true) (aco:f.resultTypes=#[PG]) (aNB:P.underlying PG=some .bool) (nD:s.vars=[])
  (dn:DataW.Whole enc P f.params.toList s.vars false W args.toList yZ gs before)
  (yF:s.fn H (yZ++gs)={ results:=[.lit (.bool true)],args:=yZ }) (ae:Bl W W'):s.post enc P f false true false false W args (.bool true) W':=by
 have I:=dn.lt;have J:=dn;obtain⟨p,q,hA,M,rfl,A7,AA⟩:=dn;rw [nD] at M;obtain⟨rfl,rfl⟩:=trodVars_none M;rw [List.append_nil] at I J;refine⟨yZ,[],p,[],p,[],J,?_,?_,?_,World.keptBut_mono (fun x ah=>⟨ah,Or.inr (Or.inl ah)⟩) (ae.frame _),fun h=>nomatch h⟩
 ·rw [yF,aco];exact trodAll_cons_mk (shut_bool aNB _) trodAll_mk0
 ·rw [yF];exact ayc hl ae _ _ _ _ (fun t Y=>by have:=aQV.1 vo t Y;simpa using this) hA I
 ·rw [yF,nD];exact rfl
end
section
open Go.ChangeAt Go.ChangeShapes Go.RowKit Go.WideShapes
variable {H:Type} {enc:TypeId × Value->H} {W:aRB}
theorem aNC:∀ d:DataW H,1<=Rows.uptoBulk d
 | .lit (.string _)=>by simp [Rows.uptoBulk]
 | .lit (.int _ _)=>by simp [Rows.uptoBulk]
 | .lit (.bool _)=>by simp [Rows.uptoBulk]
 | .lit (.float _ _)=>by simp [Rows.uptoBulk]
 | .lit .nil=>by simp [Rows.uptoBulk]
 | .nil=>by simp [Rows.uptoBulk]
 | .ptr d=>by simp [Rows.uptoBulk]
 | .slice _ _=>by simp [Rows.uptoBulk]
 | .agg _=>by simp [Rows.uptoBulk]
 | .iface _ _=>by simp [Rows.uptoBulk]
 | .map _=>by simp [Rows.uptoBulk]
 | .held _=>by simp [Rows.uptoBulk]
theorem ayd:∀ {l:List (DataW H)} {d:DataW H},d∈l->Rows.uptoBulk d<=Rows.uptoBulkAll l
 | y :: l,d,h=>by
  rw [Rows.uptoBulkAll];rcases aQw.1 h with rfl | h
  ·omega
  ·have:=ayd h;omega
theorem aye:∀ l:List (DataW H),l.length<=Rows.uptoBulkAll l
 | []=>by simp
 | d :: l=>by
  have h1:=aye l;have I:=aNC d;rw [Rows.uptoBulkAll,List.length_cons];omega
theorem aND {α:Type} {f:α->List Value} {k:Nat} (hf:∀ y,(f y).length=k) (hk:0 < k) {l:List α} {j:Nat} {u:Value} (h:(cz f l)[j]?=some u):∃ i y r,l[i]?=some y/\r < k/\(f y)[r]?=some u/\j=i * k+r:=by
 have aD:=(aQs.1 h).1;rw [adQ hf] at aD;have Y:j / k < l.length:=Nat.div_lt_of_lt_mul (by rw [Nat.mul_comm];exact aD);obtain⟨y,hy⟩:∃ y,l[j / k]?=some y:=⟨_,aQp Y⟩;have I:j % k < k:=Nat.mod_lt _ hk;have J:j % k < (f y).length:=by rw [hf];exact I
 have M:=KR hf hy (j % k) _ (aQp J);have e:j / k * k+j % k=j:=by rw [Nat.mul_comm];exact Nat.div_add_mod j k
 rw [e,h] at M;exact⟨j / k,y,j % k,hy,I,by rw [List.getElem?_eq_getElem J,<- M],e.symm⟩
theorem agY {α:Type} {t e:TypeId} {f:α->List Value} {k:Nat} {Q:α->Nat->Prop} (aA:prog.underlying t=some (.slice e)) (hc:prog.cellsOf e=k) (hf:∀ y,(f y).length=k) (hk:0 < k) (aNE:∀ y a b,Q y a->a<=b->Q y b)
  (Co:∀ (n:Nat) (cs:aRD) (x:DataW H × List MemPlace),DataW.trod enc prog W 0 (fun _=>true) true n e cs=some x->∃ y,cs=f y/\Q y (Rows.uptoBulk x.1)) {n:Nat} {x:DataW H × List MemPlace} (aZ:DataW.trod enc prog W 0 (fun _=>true) true n t [v]=some x) :
  ∃ (A:aRC) (c:Nat) (l:List α),v = .slice A l.length c/\Rd W k A l.length (cz f l)/\l.length<=Rows.uptoBulk x.1/\l.length<=maxLen/\∀ y∈l,Q y (Rows.uptoBulk x.1):=by
 rcases Go.Deep.open_slice aA aZ with ⟨h1,_⟩ | ⟨a,len,cap,m,Ae,D,Af,h1,_,Ag,Ah,hm,ah,AL⟩
 ·exact⟨none,0,[],by simpa using h1,Rd.none_ _ _ _,aQu _,aQu _,fun y hy=>by cases hy⟩
 ·have Ai:len<=m:=by rw [hm];split <;> omega
  have ae:∀ i,i < len->Rows.uptoBulk (D i)<=Rows.uptoBulk x.1:=fun i I=>by
   have M:=ayd (l:=(List.range len).map D) (aQv.2 ⟨i,aQK.2 I,rfl⟩);rw [ah,Rows.uptoBulk];omega
  have AO:len<=Rows.uptoBulk x.1:=by have M:=aye ((List.range len).map D);rw [List.length_map,List.length_range] at M;rw [ah,Rows.uptoBulk];omega
  have AA:∀ i,i < len->∃ y:α,W.cells? 0 (a.add (i * k)) k=some (f y)/\Q y (Rows.uptoBulk x.1):=fun i I=>by
   obtain⟨cs,hcs,AP⟩:=AL i om;obtain⟨y,rfl,hy⟩:=Co _ _ _ AP;rw [hc] at hcs;exact⟨y,hcs,aNE y _ _ hy (ae i I)⟩
  cases len with
  | zero=>exact⟨some a,cap,[],by simpa using h1,Rd.none_ _ _ _,aQu _,aQu _,fun y hy=>by cases hy⟩
  | succ len =>
   obtain⟨AV,_⟩:=AA 0 om;haveI:Inhabited α:=⟨AV⟩;obtain⟨V,Y⟩:=Go.Deep.choose_lt (α:=α) (p:=fun i y=>W.cells? 0 (a.add (i * k)) k=some (f y)/\Q y (Rows.uptoBulk x.1)) AA;have A7:((List.range (len+1)).map V).length=len+1:=by simp
   have AB:∀ i y,((List.range (len+1)).map V)[i]?=some y->i < len+1/\y=V i:=fun i y h=>by
    rw [List.getElem?_map] at h;obtain⟨q,AZ,rfl⟩:=Option.map_eq_some_iff.1 h;obtain⟨I,AJ⟩:=aQs.1 AZ;rw [List.getElem_range] at AJ;subst AJ;exact⟨by simpa using I,rfl⟩
   refine⟨some a,cap,(List.range (len+1)).map V,by rw [A7];simpa using h1,⟨adQ hf _,fun Ak=>?_⟩,by rw [A7];exact AO,by rw [A7];omega,fun y hy=>?_⟩
   ·obtain⟨b,o,sp⟩:=a;have J:=(World.cells?_some (Y 0 om).1).2.2 0 hk;cases sp with
    | some x =>
     exfalso;have hs:(f (V 0))[0]?=some ((f (V 0))[0]'(by rw [hf];exact hk)):=aQp _;rw [Addr.add,Addr.add,hs] at J;unfold World.cell? at J;split at J
     ·simp at J
     ·simp at J
    | none =>
     refine⟨b,o,rfl,fun j u hu=>?_⟩;obtain⟨i,y,r,M,Aa,Ab,rfl⟩:=aND hf hk hu;obtain⟨I,rfl⟩:=AB i y M;have:=(World.cells?_some (Y i I).1).2.2 r Aa;rw [Ab,DI,DI] at this;rw [<- this,Nat.add_assoc]
   ·obtain⟨i,I⟩:=aRh hy;obtain⟨Ad,rfl⟩:=AB i y I;exact (Y i Ad).2
theorem agZ {n:Nat} {x:DataW H × List MemPlace} (h:DataW.trod enc prog W 0 (fun _=>true) true n 9 cs=some x):∃ s:ak,cs=[.string (az s)]/\s.length<=Rows.uptoBulk x.1:=by obtain⟨s,rfl,rfl,_⟩:=DataW.trod_string underlying9 h;exact⟨s.data.toList,by rw [YG],by simp [Rows.uptoBulk]⟩
def ag0 (s:ak):List Value:=[.string (az s)]
theorem an0:∀ l:List ak,cz ag0 l=cu l
 | []=>rfl
 | x :: l=>by
  have:=an0 l;rw [cz,List.flatMap_cons,cu,List.map_cons] at *;rw [show List.flatMap ag0 l=cz ag0 l from rfl,an0 l];rfl
theorem ag1 {n:Nat} {x:DataW H × List MemPlace} (aZ:DataW.trod enc prog W 0 (fun _=>true) true n 24 [v]=some x) :
  ∃ (A:aRC) (c:Nat) (l:List ak),v = .slice A l.length c/\Rd W 1 A l.length (cu l)/\l.length<=Rows.uptoBulk x.1/\l.length<=maxLen/\∀ y∈l,y.length<=Rows.uptoBulk x.1:=by
 have:=agY (f:=ag0) (Q:=fun s b=>s.length<=b) underlying24 kr (fun _=>rfl) dc (fun _ _ _ h1 I=>aQn h1 I) (fun n cs x h=>agZ h) aZ;simpa only [an0] using this
theorem open_pair {t:TypeId} {f0 f1:Field} (aA:prog.underlying t=some (.struct #[f0,f1])) (ag:prog.cellsOf t=2) (Bc:f0.type = 9 /\ f0.offset=0) (bD:f1.type = 9 /\ f1.offset=1) {n:Nat} {x:DataW H × List MemPlace} (h:DataW.trod enc prog W 0 (fun _=>true) true n t cs=some x) :
  ∃ y:ak × ak,cs=fO y/\(y.1.length<=Rows.uptoBulk x.1/\y.2.length<=Rows.uptoBulk x.1):=by
 obtain⟨Y,A7,m,rfl,hl,I,h1⟩:=trod_struct2 aA h;have hs:prog.cellsOf 9 = 1:=kr;rw [ag] at hl;rw [Bc.1,Bc.2,hs] at I;rw [bD.1,bD.2,hs] at h1;obtain⟨v0,v1,rfl⟩:∃ v0 v1,cs=[v0,v1]:=by
  match cs,hl with
  | [v0,v1],_=>exact⟨v0,v1,rfl⟩
 obtain⟨s0,J,z0⟩:=agZ (show DataW.trod enc prog W 0 (fun _=>true) true m 9 [v0]=some Y from I);obtain⟨s1,M,AA⟩:=agZ (show DataW.trod enc prog W 0 (fun _=>true) true m 9 [v1]=some A7 from h1);refine⟨(s0,s1),?_,?_⟩
 ·simp only [List.cons.injEq,and_true] at J M;rw [J,M];rfl
 ·simp only [Rows.uptoBulk,Rows.uptoBulkAll];omega
theorem ayg:∀ l:List (ak × ak),cz fO l=Ky l
 | []=>rfl
 | x :: l=>by
  rw [cz,List.flatMap_cons,show List.flatMap fO l=cz fO l from rfl,ayg l];rfl
def Yt (W:aRB) (y:iP) (b:Nat):Prop:=KC W y.1 y.2/\(y.2.env.length<=b/\y.2.ins.length<=b/\y.2.asks.length<=b/\y.2.outs.length<=b/\y.2.tool.length<=b)/\(∀ z∈y.2.ins,z.length<=b)/\(∀ z∈y.2.asks,z.length<=b)/\(∀ z∈y.2.outs,z.length<=b)/\∀ z∈y.2.env,z.1.length<=b/\z.2.length<=b
theorem Yt.mono {y:iP} {a b:Nat} (h:Yt W y a) (ae:a<=b):Yt W y b:=by obtain⟨h1,AA,M,Y,A7,J⟩:=h;exact⟨h1,om,fun z I=>aQn (M z I) ae,fun z I=>aQn (Y z I) ae,fun z I=>aQn (A7 z I) ae,fun z I=>⟨aQn (J z I).1 ae,aQn (J z I).2 ae⟩⟩
theorem aNF {n:Nat} {x:DataW H × List MemPlace} (aZ:DataW.trod enc prog W 0 (fun _=>true) true n 43 [v]=some x) :
  ∃ (A:aRC) (c:Nat) (l:List (ak × ak)),v = .slice A l.length c/\Rd W 2 A l.length (Ky l)/\l.length<=Rows.uptoBulk x.1/\l.length<=maxLen/\∀ y∈l,y.1.length<=Rows.uptoBulk x.1/\y.2.length<=Rows.uptoBulk x.1:=by
 have:=agY (k:=2) (f:=fO) (Q:=fun s b=>s.1.length<=b/\s.2.length<=b) underlying43 kr (fun _=>rfl) dc (fun _ _ _ h1 I=>⟨aQn h1.1 I,aQn h1.2 I⟩) (fun n cs x h=>open_pair underlying194 kr ⟨rfl,rfl⟩ ⟨rfl,rfl⟩ h) aZ;simpa only [ayg] using this
theorem aNG {n:Nat} {x:DataW H × List MemPlace} (aZ:DataW.trod enc prog W 0 (fun _=>true) true n 22 [v]=some x) :
  ∃ (A:aRC) (c:Nat) (l:List (ak × ak)),v = .slice A l.length c/\Rd W 2 A l.length (cz fO l)/\l.length<=Rows.uptoBulk x.1/\l.length<=maxLen/\∀ y∈l,y.1.length<=Rows.uptoBulk x.1/\y.2.length<=Rows.uptoBulk x.1 :=
 agY (f:=fO) (Q:=fun s b=>s.1.length<=b/\s.2.length<=b) underlying22 kr (fun _=>rfl) dc (fun _ _ _ h1 I=>⟨aQn h1.1 I,aQn h1.2 I⟩) (fun n cs x h=>open_pair underlying65 kr ⟨rfl,rfl⟩ ⟨rfl,rfl⟩ h) aZ
theorem aNH {n:Nat} {x:DataW H × List MemPlace} (hf:DataW.trod enc prog W 0 (fun _=>true) true n 45 cs=some x):∃ y:iP,cs=vF y/\Yt W y (Rows.uptoBulk x.1):=by
 obtain⟨xs,m,rfl,rfl,hlen,Ab,AJ⟩:=DataW.trod_struct underlying45 hf;have Ad:prog.cellsOf 45 = 7:=kr;have AO:prog.cellsOf 28 = 2:=kr;have hcs:prog.cellsOf 9 = 1:=kr;have Ae:prog.cellsOf 43 = 1:=kr;have Af:prog.cellsOf 24 = 1:=kr;rw [Ad] at hlen;match cs,hlen,xs,Ab with
 | [v0,v1,v2,v3,v4,v5,v6],_,[AB,I,J,M,Y,A7],_ =>
  have t0:DataW.trod enc prog W 0 (fun _=>true) true m 28 ((List.drop 0 [v0,v1,v2,v3,v4,v5,v6]).take (prog.cellsOf 28))=some AB:=AJ 0 _ rfl;have t1:DataW.trod enc prog W 0 (fun _=>true) true m 9 ((List.drop 2 [v0,v1,v2,v3,v4,v5,v6]).take (prog.cellsOf 9))=some I:=AJ 1 _ rfl;have t2:DataW.trod enc prog W 0 (fun _=>true) true m 43 ((List.drop 3 [v0,v1,v2,v3,v4,v5,v6]).take (prog.cellsOf 43))=some J:=AJ 2 _ rfl;have t3:DataW.trod enc prog W 0 (fun _=>true) true m 24 ((List.drop 4 [v0,v1,v2,v3,v4,v5,v6]).take (prog.cellsOf 24))=some M:=AJ 3 _ rfl;have t4:DataW.trod enc prog W 0 (fun _=>true) true m 24 ((List.drop 5 [v0,v1,v2,v3,v4,v5,v6]).take (prog.cellsOf 24))=some Y:=AJ 4 _ rfl;have t5:DataW.trod enc prog W 0 (fun _=>true) true m 24 ((List.drop 6 [v0,v1,v2,v3,v4,v5,v6]).take (prog.cellsOf 24))=some A7:=AJ 5 _ rfl;rw [AO] at t0;rw [hcs] at t1;rw [Ae] at t2;rw [Af] at t3 t4 t5;obtain⟨o,Ag,_⟩:=open_pair underlying28 AO ⟨rfl,rfl⟩ ⟨rfl,rfl⟩ (show DataW.trod enc prog W 0 (fun _=>true) true m 28 [v0,v1]=some AB from t0);obtain⟨s1,Ah,Ai⟩:=agZ (show DataW.trod enc prog W 0 (fun _=>true) true m 9 [v2]=some I from t1);obtain⟨Ak,Kz,KD,rfl,Al,Am,vL,AP⟩:=aNF (show DataW.trod enc prog W 0 (fun _=>true) true m 43 [v3]=some J from t2);obtain⟨Ao,j3,FO,rfl,Ap,Aq,Au,Aw⟩:=ag1 (show DataW.trod enc prog W 0 (fun _=>true) true m 24 [v4]=some M from t3);obtain⟨Ay,fe,BN,rfl,Az,mZ,BA,BF⟩:=ag1 (show DataW.trod enc prog W 0 (fun _=>true) true m 24 [v5]=some Y from t4);obtain⟨BG,wJ,zX,rfl,BH,BI,BJ,BK⟩:=ag1 (show DataW.trod enc prog W 0 (fun _=>true) true m 24 [v6]=some A7 from t5)
  obtain⟨rfl,rfl⟩:v0 = .string (az o.1)/\v1 = .string (az o.2):=by simpa [fO] using Ag
  obtain⟨rfl⟩:v2 = .string (az s1):=by simpa using Ah
  have BL:Rows.uptoBulk I.1<=Rows.uptoBulk (DataW.agg ([AB,I,J,M,Y,A7].map (·.1)))/\Rows.uptoBulk J.1<=Rows.uptoBulk (DataW.agg ([AB,I,J,M,Y,A7].map (·.1)))/\Rows.uptoBulk M.1<=Rows.uptoBulk (DataW.agg ([AB,I,J,M,Y,A7].map (·.1)))/\Rows.uptoBulk Y.1<=Rows.uptoBulk (DataW.agg ([AB,I,J,M,Y,A7].map (·.1)))/\Rows.uptoBulk A7.1<=Rows.uptoBulk (DataW.agg ([AB,I,J,M,Y,A7].map (·.1))):=by simp only [List.map_cons,List.map_nil,Rows.uptoBulk,Rows.uptoBulkAll];omega
  obtain⟨eP,AL,AV,AZ,Aa⟩:=BL;exact⟨(⟨az o.1,az o.2,Ak,Ao,Ay,BG,Kz,j3,fe,wJ⟩,⟨s1,KD,FO,BN,zX⟩),rfl,⟨Al,Ap,Az,BH,vL,Au,BA,BJ⟩,⟨aQn Am AL,aQn Aq AV,aQn mZ AZ,aQn BI Aa,aQn Ai eP⟩,fun z AA=>aQn (Aw z AA) AV,fun z AA=>aQn (BF z AA) AZ,fun z AA=>aQn (BK z AA) Aa,fun z AA=>⟨aQn (AP z AA).1 AL,aQn (AP z AA).2 AL⟩⟩
theorem aNT {n:Nat} {x:DataW H × List MemPlace} (aZ:DataW.trod enc prog W 0 (fun _=>true) true n 23 [v]=some x) :
  ∃ (A:aRC) (c:Nat) (l:List iP),v = .slice A l.length c/\Rd W 7 A l.length (yg l)/\l.length<=Rows.uptoBulk x.1/\l.length<=maxLen/\∀ y∈l,Yt W y (Rows.uptoBulk x.1) :=
 agY (f:=vF) (Q:=Yt W) underlying23 kr (fun _=>rfl) dc (fun _ _ _ h1 I=>h1.mono I) (fun n cs x h=>aNH h) aZ
theorem aNU {BO:Nat} {d:DataW H} {p:List MemPlace} (h:DataW.Trod enc prog W 0 (fun _=>true) true 26 v d p) (hval:Value.okWide prog W .any BO 26 v) (ae:Rows.uptoBulk d<=1048576) :
  ∃ (k:jo) (cK:xU) (keep:Bool),v = .agg (rA k cK keep).toArray/\wT W k cK/\L9 k:=by
 obtain⟨fuel,hf⟩:=h;have AP:∃ cs:Array Value,v = .agg cs:=by unfold Value.okWide at hval;rw [underlying26] at hval;obtain⟨cs,rfl,_⟩:=hval;exact⟨cs,rfl⟩
 obtain⟨⟨l⟩,rfl⟩:=AP;have hf:DataW.trod enc prog W 0 (fun _=>true) true fuel 26 l=some (d,p):=hf;obtain⟨xs,m,rfl,ah,hlen,AV,I⟩:=DataW.trod_struct underlying26 hf;have AZ:prog.cellsOf 26 = 4:=kr;have Aa:prog.cellsOf 22 = 1:=kr;have Ab:prog.cellsOf 23 = 1:=kr;have Ad:prog.cellsOf 24 = 1:=kr;have Ae:prog.cellsOf 4 = 1:=kr;rw [AZ] at hlen;match l,hlen,xs,AV with
 | [v0,v1,v2,v3],_,[J,M,Y,A7],_ =>
  have t0:DataW.trod enc prog W 0 (fun _=>true) true m 22 ((List.drop 0 [v0,v1,v2,v3]).take (prog.cellsOf 22))=some J:=I 0 _ rfl;have t1:DataW.trod enc prog W 0 (fun _=>true) true m 23 ((List.drop 1 [v0,v1,v2,v3]).take (prog.cellsOf 23))=some M:=I 1 _ rfl;have t2:DataW.trod enc prog W 0 (fun _=>true) true m 24 ((List.drop 2 [v0,v1,v2,v3]).take (prog.cellsOf 24))=some Y:=I 2 _ rfl;have t3:DataW.trod enc prog W 0 (fun _=>true) true m 4 ((List.drop 3 [v0,v1,v2,v3]).take (prog.cellsOf 4))=some A7:=I 3 _ rfl;rw [Aa] at t0;rw [Ab] at t1;rw [Ad] at t2;rw [Ae] at t3;obtain⟨Af,Ag,AA,rfl,Ah,Ay,_,AB⟩:=aNG (show DataW.trod enc prog W 0 (fun _=>true) true m 22 [v0]=some J from t0);obtain⟨Ai,fe,BN,rfl,Ak,mZ,_,AJ⟩:=aNT (show DataW.trod enc prog W 0 (fun _=>true) true m 23 [v1]=some M from t1);obtain⟨Al,Am,AL,rfl,Ao,Az,_,Ap⟩:=ag1 (show DataW.trod enc prog W 0 (fun _=>true) true m 24 [v2]=some Y from t2);obtain⟨keep,Aq,_⟩:=DataW.trod_bool underlying4 (show DataW.trod enc prog W 0 (fun _=>true) true m 4 [v3]=some A7 from t3);obtain rfl:v3 = .bool keep:=by simpa using Aq
  have Au:d = .agg ([J,M,Y,A7].map (·.1)):=congrArg Prod.fst ah;rw [Au] at ae;simp only [List.map_cons,List.map_nil,Rows.uptoBulk,Rows.uptoBulkAll] at ae;have BO:Rows.uptoBulk J.1<=1048576:=om;have eP:Rows.uptoBulk M.1<=1048576:=om;have Aw:Rows.uptoBulk Y.1<=1048576:=om;have AO:=fun y hy=>(AJ y hy).mono eP;exact⟨⟨AA,BN,AL⟩,⟨Af,Ag,Ai,fe,Al,Am⟩,keep,rfl,⟨Ah,⟨Ak,fun y hy=>(AJ y hy).1⟩,Ao⟩,⟨⟨by show AA.length<=_;omega,fun y hy=>⟨aQn (AB y hy).1 BO,aQn (AB y hy).2 BO⟩,by show BN.length<=_;omega,fun y hy=>(AO y hy).2.1,by show AL.length<=_;omega⟩,fun y hy=>aQn (Ap y hy) Aw,fun y hy=>(AO y hy).2.2⟩⟩
theorem aN0 {BO:Nat} {d:DataW H} {p:List MemPlace} (h:DataW.Trod enc prog W 0 (fun _=>true) true 28 v d p) (hval:Value.okWide prog W .any BO 28 v):∃ pk nm:ByteArray,v = .agg #[.string pk,.string nm]:=by
 obtain⟨fuel,hf⟩:=h;have I:∃ cs:Array Value,v = .agg cs:=by unfold Value.okWide at hval;rw [underlying28] at hval;obtain⟨cs,rfl,_⟩:=hval;exact⟨cs,rfl⟩
 obtain⟨⟨l⟩,rfl⟩:=I;obtain⟨y,e,_⟩:=open_pair underlying28 kr ⟨rfl,rfl⟩ ⟨rfl,rfl⟩ (show DataW.trod enc prog W 0 (fun _=>true) true fuel 28 l=some (d,p) from hf);exact⟨_,_,by rw [e];rfl⟩
end
section
open Go.ChangeShapes Go.WideShapes Go.ChangeAt Go.RowKit
theorem aN1 {W:aRB} (h:W.ShapedOpen prog):qK W:=Tryz.tlSplit.s1_3 W h
theorem aN2 {W:aRB} {a b c d:String × DataW Unit} (h:laidMet prog [a,b,("internal/strconv.uint64pow10",Lib.tabData .u64 Lib.pow10Tab),c,d] W):Lib.TabBelow prog W.heap.size W "internal/strconv.uint64pow10" .u64 Lib.pow10Tab:=by have I:=h.tail.tail;refine Lib.tabBelow_of_tabIs ?_;exact Lib.tabIs_of_head (g:=3) (t:=351) (e:=168) (n:=20) kr kr underlying351 underlying168 kr kr I
theorem aN3 {W:aRB} (hl:qK W) (aA:Lib.TabBelow prog W.heap.size W "internal/strconv.uint64pow10" .u64 Lib.pow10Tab):vM W W.heap.size:=by refine⟨hl,?_,aA⟩;obtain⟨m,hm⟩:=hl;exact aQy _ _ hm
end
namespace aN6
open Go.ChangeShapes Go.WideShapes Go.ChangeAt Go.RowKit
theorem reads (os:Os) {H:Type} (enc:TypeId × Value->H):∃ places,DataW.whole enc prog ((World.laidAll prog os Rows.topOwnersUptoRow.laid).forCall (fun _ _=>0) ⟨#[],#[.agg #[.slice none 0 0,.slice none 0 0,.slice none 0 0,.bool false],.agg #[.string ⟨#[]⟩,.string ⟨#[]⟩]],[]⟩).memory Tryz.f3.params.toList Rows.topOwnersSpec.vars false #[Value.agg #[.slice none 0 0,.slice none 0 0,.slice none 0 0,.bool false],.agg #[.string ⟨#[]⟩,.string ⟨#[]⟩]].toList 8=some ([.agg [.nil,.nil,.nil,.lit (.bool false)],.agg [.lit (.string []),.lit (.string [])]],[],places) :=
 ⟨[],kr⟩
theorem lifted (os:Os) (started:os.Started) (H:Type) (enc:TypeId × Value->H) (F:Stop.Interp) :
  ReturnsInHanded {} Tryz.checked os 3 .any ((Rows.OpenSpec.upto Rows.topOwnersSpec).preRow enc prog Tryz.f3 Rows.topOwnersUptoRow.domain false Rows.topOwnersUptoRow.laid) (((Rows.OpenSpec.upto Rows.topOwnersSpec).at F).post enc prog Tryz.f3 false true false false):=by
 obtain⟨places,ah⟩:=reads os enc;have I:Input.okWideB prog ((World.laidAll prog os Rows.topOwnersUptoRow.laid).forCall (fun _ _=>0) ⟨#[],#[.agg #[.slice none 0 0,.slice none 0 0,.slice none 0 0,.bool false],.agg #[.string ⟨#[]⟩,.string ⟨#[]⟩]],[]⟩) 3 ⟨#[],#[.agg #[.slice none 0 0,.slice none 0 0,.slice none 0 0,.bool false],.agg #[.string ⟨#[]⟩,.string ⟨#[]⟩]],[]⟩=true:=kr;refine returnsInHanded_of_row (C:=Tryz.checked) (s:=Rows.OpenSpec.upto Rows.topOwnersSpec) aNz started kr func3
  ⟨World.laidAll prog os Rows.topOwnersUptoRow.laid,fun _ _=>0,⟨#[],#[.agg #[.slice none 0 0,.slice none 0 0,.slice none 0 0,.bool false],.agg #[.string ⟨#[]⟩,.string ⟨#[]⟩]],[]⟩,World.laidAll_os _ _ _,World.shaped_of_ZipB kr kr,(Input.okWide_of_okWideB (base:=0) I).1,(Input.okWide_of_okWideB I).2,
   OpenSpec.preRow_of_cond 8 ah kr (fun k hk=>by cases hk;exact kr) kr (by rw [MakeChecks.laidMetH_plain _ _ _ kr];exact laidMet_laidAll _ kr kr),by
    simp only [Assume.holds];exact⟨by simp,by simp,fun _=>Modest.zero,by simp,by simp⟩⟩ ?_
 intro W base args yZ gs before Y J _ A7 _ AA AB _;have hval:∀ (j:Nat) t v,Tryz.f3.params[j]?=some t->args[j]?=some v->Value.okWide prog W .any base t v:=Y;have hk:=of_decide_eq_true (A7 _ rfl);have AJ:=J;obtain⟨p,q,AL,AO,rfl,Ag,Ah⟩:=J;have hA:DataW.TrodAll enc prog W 0 (fun _=>true) true Tryz.f3.params.toList args.toList yZ p:=AL;rw [params3] at hA hval;obtain⟨rfl,rfl⟩:=trodVars_none AO;obtain⟨v0,Ai,d0,Ak,Al,Am,Ao,rfl,rfl,AP,AV⟩:=trodAll_cons hA;obtain⟨v1,Ap,d1,Aq,Au,Aw,Ay,rfl,rfl,h1,AZ⟩:=trodAll_cons AV;obtain⟨rfl,rfl,rfl⟩:=trodAll_nil AZ;obtain rfl:args=#[v0,v1]:=by cases args;simp_all
 have Aa:Rows.uptoBulk d0<=1048576:=by simp only [List.append_nil,Rows.uptoBulkAll] at hk;omega
 obtain⟨k,cK,keep,rfl,Ab,Ad⟩:=aNU AP (hval 0 26 v0 rfl rfl) Aa;obtain⟨pk,nm,rfl⟩:=aN0 h1 (hval 1 28 v1 rfl rfl);have M:=AA;rw [MakeChecks.laidMetH_plain _ _ _ kr] at M;have Ae:=aN3 (aN1 AB) (aN2 M);refine (aM9 W k cK keep pk nm Ad Ae (aQm _) fun aV Af=>Ab.heap Af).mono fun e aV ⟨he,ax⟩=>?_;subst he;exact⟨_,rfl,aNA kr kr (by first | rfl | exact kr) underlying4 rfl AJ rfl ax⟩
end aN6
namespace aN6
open Go.ChangeShapes Go.WideShapes Go.ChangeAt Go.RowKit
theorem named : Tryz.pinned.checked.prog.funcNamed Rows.topOwnersUptoRow.func = some 3 := by exact kr
theorem facts : joinedFacts Tryz.pinned.checked.prog 3 Tryz.f3 (Rows.OpenSpec.upto Rows.topOwnersSpec).bare Rows.topOwnersUptoRow = true := by exact kr
theorem over : Rows.TopOwnersUptoSaid :=
  OpenClaim.holds_of_cond 3 Tryz.f3 rfl rfl rfl rfl rfl rfl rfl ⟨rfl, rfl, rfl, rfl, rfl⟩ rfl rfl rfl rfl rfl named func3 facts
    (of_decide_eq_true kr) (by unfold Func.isWrapper; first | (rw [if_pos (by decide +kernel)]; exact kr) | (rw [if_neg (by decide +kernel)]; exact ⟨rfl, rfl⟩))
    (fun os started H enc _ F => by rw [OpenClaim.pre_eq_preRow]; exact lifted os started H enc F)
theorem plain (f : FuncId) (fn : Func) (hf : Tryz.pinned.checked.prog.funcNamed "bloomery/bloomerytop.TopOwners" = some f) (yF : Tryz.pinned.checked.prog.funcs[f]? = some fn) :
    false = Tryz.pinned.checked.prog.looks [] /\ ∀ (j : Nat) t, fn.params[j]? = some t -> Tryz.pinned.checked.prog.wantsStandIn t = false := by
  obtain rfl : f = 3 := aQS ((show prog.funcNamed "bloomery/bloomerytop.TopOwners" = some 3 by exact kr).symm.trans hf) |>.symm
  obtain rfl : fn = Tryz.f3 := (aQS (func3.symm.trans yF)).symm;refine ⟨kr, fun j t I => ?_⟩;rw [params3] at I;have hm : t ∈ [26, 28] := by simpa using Array.mem_of_getElem? I
  have J : ([26, 28].all fun u => !prog.wantsStandIn u) = true := by exact kr
  exact (show prog.wantsStandIn t = false by simpa using aQV.1 J t hm)
end aN6
section
theorem topOwners_proved : Rows.TopOwnersUptoCardSaid :=
  Claim7.holds_tied_plain_at .later [] _ _ _ _ aN6.over (fun _ h => by cases h) kr (fun _ h => by cases h) topOwnersUpto_row_tie rfl ⟨rfl, rfl⟩ kr rfl aN6.plain kr
end
end Go.Proofs.YtjkinjbkknanbaaGreatDoor
