/- Pk -/
import Derived.Test.YtjkinjbkknanbaaGreatDoorPj
set_option maxRecDepth 100000
set_option maxHeartbeats 8000000
set_option linter.unusedSimpArgs false
set_option linter.unusedVariables false
namespace Go.Proofs.YtjkinjbkknanbaaGreatDoor
open Go.Proofs.Tryz
variable {dh xs:aRD}
variable {L:lK}
variable {B i B0 jA aO T:Nat}
variable {bQ σ:bI}
variable {t:TypeId}
variable {c:dL}
variable {l:sP}
variable {w W w' uJ:aRB}
variable {aI:aRI}
variable {k:jo}
variable {cK:xU}
variable {S:uA}
variable {met:List ak}
variable {bG:Nat->Bool}
variable {has:ak->Bool}
variable {jX A:aRC}
variable {aW:aRG}
variable {F fs:List (ak × ak)}
variable {G:Nat->Option iN}
section
open Go.Maps Go.RowKit Go.Shelf
theorem awK (k y:Int) (A:aRC) (n c:Nat):prog.built 63 [(0,.int .i64 k),(1,.int .i64 y),(3,.slice A n c)]=some ([.int .i64 k,.int .i64 y,.slice none 0 0,.slice A n c]:aRD).toArray:=kr
section
variable {c:dL} (hc:c.Fit) {l:sP} (hl:l.Ok) {i:Nat} {x:iP} {w:aRB} {us:aRG} {σ:bI} {aI:aRI} {lL jG l9 nW:Nat} {wr w':aRB} {s:dA} {bL:List dz} {nN:Nat} {iK:nX} {kL:aRC} {qU:Nat}
theorem vQ.fin (hl:l.Ok) (h:vQ c l i x w us σ aI lL jG l9 nW wr s bL bL nN iK kL qU) (ay:i ∉ us) (fC:i < c.n) (bg:l.T<=B/\w.heap.size<=B) (heq:dh=jm (bE c.W i) L) (bU:nC wr B (bE c.W i) L) (jB:∀ bQ:bI,xP c.W bQ i nN->∀ j,yc c.W i j->bQ.begun j=true) (aA:fU jG wr w') (bJ:lL≠jG):∃ bQ eY OL n,Qr c l i w us σ aI lL jG dh 0 w' bQ eY L OL n:=by obtain⟨bQ,eY,h1,I,Y,A7,AA,Aa,Ab,AB⟩:=h.all;have J:=h.lay;have M:=h1.at_.own hl h.out aA om dc dc;obtain⟨OL,n,AJ,AL,AO⟩:=M.over;exact⟨bQ,eY,OL,n,M,AJ,AL,AO,h1.inv,⟨aA.1.trans I.os,aA.2.1.trans I.tape,aA.2.2.1.trans I.output,by rw [aA.2.2.2.1];exact I.size,fun k AP AV=>(aA.2.2.2.2 k om).trans (I.keep k AP AV)⟩,Y,A7,AA,heq,⟨(iJ bU.outs h.out dc aA).mono bg.1,(iJ bU.reads h.out dc aA).mono bg.1⟩,fun q AZ=>aQn bg.2 (bU.reads.block q AZ).1,jB bQ AB,h.res.dK aA bJ,⟨J.2.2.2.1,J.2.2.2.2.1,J.2.2.2.2.2.2,ay,fC,om⟩⟩
theorem Qr.waited (hl:l.Ok) {eY:aRI} {OL:Nat->lK} {n:Nat} {rW:aRB} (h:Qr c l i w us σ aI lL jG dh 0 rW bQ eY L OL n) {mY:Nat} {f QT:Nat->Option ByteArray} (aB:mY+GX bQ c.n<=c.n) (hm:kg rW Value.string l.DC mY f) (xZ:kg w' Value.string l.DC (mY+1) QT) (aA:fU l.DC rW w'):Qr c l i w us σ aI lL jG dh 1 w' bQ eY L OL n:=by obtain⟨M,I,J⟩:=hm.obj;have Y:=hl.low _ (.inr (.inr rfl));exact⟨h.at_.waited hl aB hm xZ aA,h.few,h.map.dK aA hl.ne.2.1,fun j o e=>⟨(h.rows j o e).1.NY aA I J,(h.rows j o e).2⟩,h.inv,h.rE.trans (.dK aA (.inr (.inr rfl))),h.begun,h.got,h.wC,h.eq,h.own.NY aA I J,h.fresh,h.closed,h.res.dK aA (by have:=h.lay;omega),by have:=h.lay;exact⟨this.1,this.2.1,this.2.2.1,this.2.2.2.1,this.2.2.2.2.1,om⟩⟩
theorem vQ.over (hc:c.Fit) (h:vQ c l i x w us σ aI lL jG l9 nW wr s bL bL nN iK kL qU) (fC:i < c.n) (ql:c.X.getD i mZ=x.2) (gq:s.over=true):s.out=bE c.W i/\s.wrote.length<=1000/\s.reads.length<=1000/\(∀ y∈s.wrote,y.1.length<=1100000)/\∀ bQ:bI,xP c.W bQ i bL.length->∀ j,yc c.W i j->bQ.begun j=true:=by obtain⟨J,M⟩:=h.pos.over hc gq;have hw:=h.pos.way hc ql;obtain⟨y,hy,I,_⟩:=ND c fC;rw [ql] at I;have hf:=hc.kV.fair y (aQr hy);rw [<- I] at hf;have A7:=hw.1.akU;have AA:(kZ x.2).outs.length<=200:=hf.outs;have AB:=(h.pos.few hc fC).1;exact⟨J,om,by rw [hw.2.2,List.length_map];omega,fun z Y=>hf.zX _ (hw.1.wrote z Y).2,fun bQ h=>M h⟩
theorem SN.leave (hl:l.Ok) {rW:aRB} {eY:aRI} (h:SN c l i w us (σ.push i) aI lL dh rW bQ eY L) (hc:c.Fit) (av:aM rW lL dh 63) (ay:Sz 63 dh.length) {fn:Func} {a:Act} {t:Tmp} {ty:TypeId} {co:Array Bool} {uE:Nat} (hm:uE=l.uE)
  (hf:fn.results=#[.cell t 63]/\a.tmps.getD t undef = .pointer (some ⟨lL,0,none⟩)/\a.defers=[⟨.builtin .delete #[111,3] ty co,#[.map (some uE),.int .i64 (i:Int)]⟩]):agA prog fn (Yg c l w us σ aI i) .ret a rW:=by
 obtain⟨AB,h1,J,M,σ',fB,Y,A7,I,AA⟩:=h.gone hl hc av ty co;rw [hm] at hf;exact aK6 J underlying63 rfl ay hf h1 ⟨M,σ',fB,Y,A7,⟨I.st,I.rE,fun j aD=>I.begun j (by simp [bI.push,aD]),I.got,I.wC⟩,AA⟩
end
theorem aK8 (hc:c.Fit) (hl:l.Ok) {us:aRG} (hs:AY c l w us σ aI) (fC:i < c.n) (ae:σ.begun i=false) (av:yM c.W c.dN i) (hf:∀ x∈us,xM c.W x i) (iL:∀ k,rZ σ c.n=k+1->agz c l k) :
  Calls prog 60 #[pp l.X 0,.int .i64 i] w (Yg c l w us σ aI i):=by
 obtain⟨x,ah,ql,_⟩:=ND c fC;obtain⟨m,hm⟩:∃ m,rZ σ c.n=m+1:=⟨rZ σ c.n - 1,by have:=abo fC ae;omega⟩;have iL:=iL m hm;have Fu:rZ (σ.push i) c.n<=m:=by have:=abo fC ae;omega
 have DR:i ∉ us:=fun h=>by have:=((hs.inv.under i).1 h).1;rw [ae] at this;cases this
 have EU:σ.got i=none:=by
  cases e:σ.got i with
  | none=>rfl
  | some o=>have:=(hs.inv.right i o e).2;rw [ae] at this;cases this
 have BQ:i < 1000:=by have:c.n<=10:=hc.kV.nN;omega
 have Co:=aQr ah;have DW:x.2∈c.X:=aQv.2 ⟨x,Co,rfl⟩;have EW:aaR (kZ x.2) x.2.ins x.2.asks:=by have h1:=hc.work.few _ DW;have J:=hc.kV.fair x Co;exact⟨hc.env _ DW,rfl,rfl,⟨om,om,by show x.2.outs.length<=1000;omega⟩,J.BN,J.zX⟩
 have Fw:=aft (LH hc.work.small) (afu hc.work.small);obtain⟨aF,Bo⟩:=ai (w.alloc (.cells iG.toArray 63));have Bp:=gQ Bo;have EY:=lH Bo;obtain⟨X,aY,sQ,Bq,uE,Br,DC,DX,dY,DY,Fx,EZ⟩:=nq6 l.X l.sQ l.uE l.DC c.n l.cK.d;have I9:(i:Int) < dY:=by rw [DY];omega
 have IA:(0:Int)<=i:=om;obtain⟨Bt,Cs⟩:=ai iG;have Ec:Bt.length=4:=by rw [Cs];rfl
 have Fy:Sz 63 Bt.length:=by rw [Ec];exact kr
 have Fz:∀ v∈Bt,v.oneCell'=true:=by rw [Cs];simp [iG,Value.oneCell']
 obtain⟨Ee,DZ⟩:=ai (vF x);have G5:aF.cell? (ad X 4)=some (.map (some sQ)):=by rw [aY,Bq];exact (hs.at_.all hl Bp).cells.2.2.1
 have G6:(Instr.lookup 110 (.map (some sQ)) (.int .i64 (i:Int)) true).run prog aF = .ok (.tuple #[.agg Bt.toArray,.bool false]) aF:=by obtain⟨OL,n,_,J,_⟩:=(hs.at_.all hl Bp).over;have:=J.look_ok ab7 BQ underlying110 iG kr;rw [EU] at this;rw [Cs,Bq];exact this
 obtain⟨iD,G7⟩:=ai l.cK.B;obtain⟨b,o,Da,_⟩:=(hs.at_.work w (fun _ _ _=>rfl)).bZ.load ah;have GI:=aa (fun (af aC:aRB) (J:Bl w af) (n:Nat) (GJ:n+rZ σ c.n<=c.n) (AO:kg af Value.bool uE n (fun i=>if i∈us then some true else none)) (Ah:kg aC Value.bool uE (n+1) (fun j=>if j=i then some true else if j∈us then some true else none)) (Eg:fU uE af aC)=>show AY c l aC (i :: us) (σ.push i) aI from by
  rw [Br] at AO Ah Eg;exact⟨(hs.at_.all hl J).amj hl fC ae GJ AO Ah Eg,hs.inv.push ae av hf⟩)
 have BX:=aa (fun (aC:aRB) (U:aRG) (bQ:bI) (eY:aRI) (kw:Nat) (h:rD c l kw aC U bQ eY)=>show aC.cell? (ad X 1)=some (.slice (some ⟨b,o,none⟩) dY Fx)/\aC.cell? (ad X 4)=some (.map (some sQ))/\aC.cell? (ad X 5)=some (.map (some uE))/\aC.cell? (ad X 6)=some (.map (some DC))/\(loadVar 45 ⟨b,o+i * 7,none⟩).run prog aC = .ok (.agg Ee.toArray) aC from by
  obtain⟨IB,Bu,Ct,GK,GQ⟩:=h.cells;obtain⟨IC,IE,Ei,Ah⟩:=(h.work aC (fun _ _ _=>rfl)).bZ.load ah;rw [Da] at Ei;cases Ei;rw [aY,Bq,Br,DX,DY,EZ,DZ];refine⟨?_,Ct,GK,GQ,Ah⟩;rw [Bu,Da];rfl)
 have GR:=aa (fun (AV:aRB) (U:aRG) (bQ:bI) (eY:aRI) (h:AY c l AV U bQ eY)=>show Calls prog 93 #[.agg Ee.toArray] AV fun e w'=>∃ iK:nX,iK.B=AV.heap.size/\e = .returned (.tuple #[pp iK.X 0,.int .i64 0])/\iF w' iK (kZ x.2) x.2.ins x.2.asks (dA.start (kZ x.2) x.2.tool)/\Bl AV w' from by
  have hA:=(h.at_.work AV (fun _ _ _=>rfl)).bZ.each x Co;rw [DZ];refine (atZ AV x hA (kZ x.2) ⟨rfl,rfl⟩ EW _ Fw (hc.kV.fair x Co).tool (h.at_.home.up (aQn hl.base.1 h.at_.size))).mono ?_;rintro e w' (⟨h1,_⟩ | ⟨_,iK,J,AO,Ah,Cv⟩)
  ·exact absurd (hc.work.bZ _ DW).tool h1
  ·exact⟨iK,J,AO,Ah,Cv⟩)
 have GY:=aa (fun af (J:Bl w af)=>show af.cell? (ad X 5)=some (.map (some uE)) from (BX.o af _ _ _ _ (hs.at_.all hl J)).2.2.1);obtain⟨qQ,Ga,Db⟩:=(hs.at_.all hl Bp).way;have Gb:qQ < maxLen:=by have:c.n<=10:=hc.kV.nN;unfold maxLen;omega
 rw [<- Br] at Db;obtain⟨Em,Gc,Gd⟩:=hq3 Db EY Bp;have Ap:=aa hs.at_.size;obtain⟨Gf,AP,Bv,Bw,Bb⟩:=hq5 aY Bq Br DX ql;rw [<- aY];rw [show iG.toArray=#[.int .i64 0,.int .i64 0,.slice none 0 0,.slice none 0 0] from rfl] at Bo;have II:=Bo.symm;clear Bo aY Bq Br DX EY Bp hs DY EZ Cs DZ Da G7 Db ql EU av hf;refine awI func60 rfl ?_;simp only [ntmps60,List.size_toArray,List.length_cons,List.length_nil,Nat.reduceAdd,Nat.reduceSub,Array.replicate_succ,Array.replicate_zero,List.push_toArray,List.append_toArray,List.nil_append,List.cons_append];go_wp2_with fail;go_step3;go_wp2_with (first
  | ((with_reducible refine rP Bt Ec Fy Fz ?_);intro af Dc _;have En:=aa (Em.o.keep (Dc.o.block _ Em.o.lt));have De:=aR Gd.o Dc.o;have Df:=GY.o af De;have Eo:=aa De;clear G5 G6 De)
  | ((with_reducible refine ab6 amI En.o BQ underlying111 Gb true ?_ ?_);exact⟨rfl,rfl,rfl⟩;intro aC C8 Cw;have Cz:=aa (GI.o af aC Eo.o qQ Ga En.o C8 Cw);clear Df;obtain⟨Gi,_,Df,_,Ep⟩:=BX.o aC _ _ _ _ Cz.o.at_;have Gj:=aa Ep;have Dg:=aa ((Gc.o.all Dc.o).dK Cw (by have:=(hl.low _ (.inr (.inl rfl))).2;have:=Ap.o;have:=Bv.o;omega));have Er:=aa ((xG.gT Eo.o).trans (xG.dK (l:=l) Cw (by rw [Bv.o];exact .inr (.inl rfl))));clear C8 Cw Ep)
  | ((with_reducible refine pY Gj.o ?_ ?_);exact rfl)
  | (go_at_call 93; refine (GR.o aC _ _ _ Cz.o).mono ?_;rintro e AV ⟨iK,Es,rfl,Eu,Ev⟩;obtain⟨Gm,Ew,Dh⟩:=hq3 Es Eu Ev;obtain⟨l9,Dk⟩:=ai iK.X;rw [<- Dk];have Gp:=aa Dk;clear Es Eu Ev Dk Gi Df))
 go_step3;go_wp2_with fail;obtain⟨Gq,DD⟩:=ai (AV.alloc (.cells #[.int .i64 0,.int .i64 0,.slice none 0 0,.slice none 0 0] 63));try rw [<- DD]
 obtain⟨jG,DF⟩:=ai AV.heap.size;try rw [<- DF]
 obtain⟨lL,Dl⟩:=ai w.heap.size;try rw [<- Dl]
 have Gr:=aa DF;have Gs:=aa Dl;have Dm:=aa (show lL≠jG from fun e=>by have h1:=Dg.o.lt;have J:=Dh.o.size;omega);have Ex:=aa (gQ DD);have Gt:=aa (show aM Gq jG iG 63 by rw [DD,DF];exact aM.new AV iG _);clear DD DF Dl;go_loopg [10] 502 (fun Gu Gv wr=>∃ (s:dA) (bL:List dz) (iK:nX) (kL:aRC) (qU:Nat),bL.length+Gu=502/\Gv = .slice kL bL.length qU/\vQ c l i x w us (σ.push i) aI lL jG l9 aC.heap.size wr s bL bL bL.length iK kL qU);case atStart =>
  have Dp:=aR Dh.o Ex.o;have bY:=Ap.o;have IL:=Er.o.size;have ax:=Gs.o;have IQ:=Gr.o;have IU:=Dg.o.lt;have Gw:=Gm.o;have Ah:=Dh.o.size;refine⟨dA.start (kZ x.2) x.2.tool,[],iK,none,0,rfl,rfl,⟨⟨σ.push i,(fun q=>aI q/\q < aC.heap.size),⟨Cz.o.at_.cut.all hl Dp,Cz.o.inv⟩,Er.o.trans (.gT Dp),fun _ h=>h,fun _ _=>rfl,fun q h=>.inl h.1,fun q Bc h=>?_,fun q Bc=>(by cases Bc),xP.zero⟩,Ew.o.below Ex.o,⟨Gp.o.symm,Gw,om,om,om,om,bY⟩,Own.nil _ _ _ _,fun q Bc=>(by cases Bc),by rw [ax];exact Dg.o.all Dp,Gt.o,yw.start Bb.o,fun _ h=>(by cases h)⟩⟩;have h1:=(Ew.o.reads.block q Bc).1;have J:=h.2;omega
 case round =>
  obtain⟨s,bL,AZ,kL,qU,Bc,rfl,Ey⟩:=hrel;have Aa:=aa Ey;clear Ey;obtain⟨Al,Ab⟩:=ai bL.length;have BM:=aa (show CB 94 #[pp l9 0] wr (.tuple #[.string (az (if s.over=true then [] else s.asks)),.bool (!s.over)]) from by
   rw [<- Aa.o.lay.1];exact ak0 Aa.o.box)
  cases Ai:s.over with
  | true =>
   obtain⟨Ez,F3,DL,F4,Aq⟩:=Aa.o.over hc fC Bb.o Ai;rw [Ai,if_pos rfl,Bool.not_true] at BM;have Gx:=aa (fun (I:aRB) (h:vQ c l i x w us (σ.push i) aI lL jG l9 aC.heap.size I s bL bL bL.length AZ kL qU)=>show Calls prog 95 #[pp l9 0] I fun e w'=>∃ L:lK,e = .returned (.tuple #[.agg (jm (bE c.W i) L).toArray,.bool true])/\nC w' I.heap.size (bE c.W i) L/\Bl I w' from by
    rw [<- Ez,<- h.lay.1];exact aui h.box Ai F3 DL F4)
   have C9:=aa Aq;rw [<- Ab];clear Ez F3 DL F4 Aq Ab;go_upto_region 21 with (first
    | (go_at_call 94; refine BM.o.mono ?_;rintro e I ⟨rfl,Ad⟩;have Am:=aa (Aa.o.below hl Ad);clear Ad)
    | (go_at_call 95; refine (Gx.o I Am.o).mono ?_;rintro e DN ⟨L,rfl,F5,F6⟩;obtain⟨dh,AA⟩:=ai (jm (bE c.W i) L);rw [<- AA];have CE:=aa AA;have Gy:=aa F5;have Au:=aa (Am.o.below hl F6);have H6:=aa Au.o.out;have Aw:dh.length=4:=(by rw [AA];rfl);have Ae:Sz 63 dh.length:=(by rw [Aw];exact kr);have Af:∀ v∈dh,v.oneCell'=true:=(by rw [AA];simp [jm,Value.oneCell']);have Ay:dh.length=iG.length:=Aw;clear F5 F6 AA)
    | ((with_reducible refine vC dh H6.o Ae Ay Af ?_);intro A7 Az H8))
   obtain⟨bQ,eY,OL,n,Ak⟩:=Au.o.fin hl DR fC (by obtain⟨_,_,Bu,Dq,_⟩:=Am.o.all;exact⟨Bu.at_.size,Dq.size⟩) CE.o Gy.o C9.o H8.o Dm.o;have BA:=aa Ak;clear Ak;have BF:=aa (fun af (ae:Bl A7 af)=>show af.cell? (ad X 4)=some (.map (some sQ)) from (BX.o af _ _ _ _ (BA.o.at_.all hl ae)).2.1);have Bd:(dh.drop 0).take dh.length=dh:=by simp
   have AJ:=aa Ae;have CJ:=aa Af;clear Ae Af;have kE:=BF;refine ng nE 6 [some (pp X 0),some (pp X 0),some (pp X 4),some (.map (some sQ)),some (.int .i64 i),some (.agg dh.toArray)] (fun _ _ _=>False) (Bl A7) Bl ((Below.refl _ A7).drew) (fun j v w1 af ae h=>h.elim) ?_ (jJ:=?_)
   ·intro u21 CK aj CL;clear CL;have Y:=aa (BA.o.below hl aj);have CS:=aa (Az.o.all aj);have CU:=aa (show kg CK GV sQ n (fun j=>(bQ.got j).map fun o=>jm o (OL j)) by rw [AP.o];exact Y.o.map);have CV:n < maxLen:=by have h1:=Y.o.few;have J:c.n<=10:=hc.kV.nN;unfold maxLen;omega
    have FB:sQ < w.heap.size:=by have h1:=(hl.low _ (.inl rfl)).2;have J:=Ap.o;have AO:=AP.o;omega
    clear aj;go_wp2_with (first
     | ((with_reducible refine ab6 ab7 CU.o BQ underlying110 CV dh ?_ ?_);exact⟨rfl,rfl,rfl⟩;intro FD BG AL;obtain⟨FE,FF,BH⟩:=Y.o.VF hl (by rw [<- AP.o];exact AL) (by rw [<- AP.o];exact BG);have CW:=aa BH;have CZ:=aa (CS.o.dK AL (by have:=Y.o.lay;omega));have BI:=aa (Y.o.res.dK AL (by have:=Y.o.lay;omega));clear BG AL BH)
     | (with_reducible refine kv CZ.o underlying63 AJ.o ?_)
     | ((with_reducible refine Jk dh BI.o AJ.o Ay CJ.o ?_);intro FH BJ BK;have Ca:=aa BJ;have Cb:=aa (CW.o.stored hl BI.o BK);clear BJ BK))
    exact Cb.o.leave hl hc Ca.o AJ.o Bv.o ⟨rfl,rfl,rfl⟩
   ·repeat' (first | exact trivial | apply And.intro)
    all_goals try exact rx
    all_goals intro eH u af aj aK bz K aS
    all_goals try simp [iY,Region.binds] at bz
    all_goals refine mf rfl ?_
    all_goals have Ct:=BF.o af aj
    ·refine wp_load_row jG 0 dh dh _ (Az.o.all aj) Bd _ underlying63 AJ.o ⟨rfl,by simp [Act.eval,aK],rfl⟩ ?_;exact aS _ _ rfl aj (Below.refl _ _)
  | false =>
   rw [Ai,if_neg dc,Bool.not_false] at BM;have has:=Aa.o.pos.asks hc fC Bb.o Ai;obtain⟨P,Ce⟩:=ai (az s.asks);have IV:Al < 500:=om;have Bf:=aa (fun (I:aRB) (h:vQ c l i x w us (σ.push i) aI lL jG l9 aC.heap.size I s bL bL bL.length AZ kL qU)=>show Calls prog 38 #[pp X 0,.string P] I fun e w'=>e = .returned (.tuple #[.agg (iy (uC (fI c.W s.asks) s.asks).2).toArray,.int .i64 (uC (fI c.W s.asks) s.asks).1])/\vQ c l i x w us (σ.push i) aI lL jG l9 aC.heap.size w' s bL bL (bL.length+1) AZ kL qU from by
    rw [Gf.o,Ce];exact h.comes hl iL Fu fC Bb.o hc Ai)
   rw [<- Ce] at BM;cases hA:fI c.W s.asks with
   | known k =>
    rw [hA] at Bf;obtain⟨bH,AB,Bi,Cf,FJ,FN⟩:=nq3 (iy k) (gZ (iA k)) (s.mE (kZ x.2) k);have BO:=aa (Aa.o.pos.step hc Bb.o Ai hA);have Cg:=aa (fun (I:aRB) (h:vQ c l i x w us (σ.push i) aI lL jG l9 aC.heap.size I s bL bL bL.length AZ kL qU)=>show Calls prog 38 #[pp X 0,.string P] I fun e w'=>e = .returned (.tuple #[.agg bH.toArray,.int .i64 1])/\vQ c l i x w us (σ.push i) aI lL jG l9 aC.heap.size w' s bL bL (bL.length+1) AZ kL qU from by
     rw [AB];exact Bf.o I h)
    have H9:=aa (fun (W:aRB)=>show CB 96 #[.agg bH.toArray] W (.agg Bi.toArray) from by
     rw [AB,Cf];exact aKZ W k (by have:=BO.o.2.2.1;omega))
    have HY:=aa (fun (A7:aRB) (A9:aRC) (c9:Nat) (Ci:vQ c l i x w us (σ.push i) aI lL jG l9 aC.heap.size A7 s bL (bL++[k]) (bL.length+1) AZ A9 c9)=>show CR 97 #[pp l9 0,.agg bH.toArray] A7 (.int .i64 0) fun w'=>∃ Dr,vQ c l i x w us (σ.push i) aI lL jG l9 aC.heap.size w' FJ (bL++[k]) (bL++[k]) (bL.length+1) Dr A9 c9 from by
     have hw:=Ci.pos.way hc Bb.o;obtain⟨bQ,eY,h1,_⟩:=Ci.all;have FP:=Ci.lay;rw [AB,<- FP.1];refine (at6 EW Ci.box hw.1 (h1.at_.home.up (by have:=hl.base.1;omega)) hw.2.1 Ai k BO.o.2.1 (fun _=>BO.o.2.2.1) (by have:=BO.o.2.2.1;omega) BO.o.2.2.2 (fun p _=>aQn (afs (LH hc.work.small) p) om)).mono ?_;rintro e w' ⟨rfl,cZ,rc,J,AO,Ah⟩;refine⟨rfl,{ AZ with cZ:=cZ,rc:=rc },?_⟩;rw [FN];have Cv:=Ci.given hl BO.o.1 BO.o.2.2.1 J AO Ah;rw [FP.1] at Cv |-;exact Cv)
    have hlen:bH.length=3:=by rw [AB];rfl
    have BP:Sz 80 bH.length:=by rw [hlen];exact KZ
    have Ck:∀ v∈bH,v.oneCell'=true:=by rw [AB];simp [iy,Value.oneCell']
    have Bd:(bH.drop 0).take bH.length=bH:=by simp
    have DL:Bi.length=34:=by rw [Cf];exact Ac _
    have He:∀ v∈Bi,v.oneCell'=true:=by rw [Cf];exact FZ _
    have hcs:(Value.agg Bi.toArray).cells.size=34:=by simp [Value.cells,DL]
    have Hf:=aa Cf;have Bn:=aa Ab;rw [<- Ab];clear AB Ce Ab FN hA has Cf;go_wp2_with (first
     | (go_at_call 94; refine BM.o.mono ?_;rintro e I ⟨rfl,Ad⟩;have Am:=aa (Aa.o.below hl Ad);clear Ad)
     | (go_at_call 38; refine jw (Cg.o I Am.o) ?_;intro DN Au)
     | ((with_reducible refine rP bH hlen BP Ck ?_);intro Dt Hg FQ;have Ag:=aa (Au.o.below hl Hg.o))
     | (with_reducible refine kv FQ.o underlying80 BP ?_)
     | (go_at_call 96; refine (H9.o Dt).mono ?_;rintro e A7 ⟨rfl,Dx⟩;have Hl:=aa (Ag.o.below hl Dx);have Hm:=aa (FQ.o.all Dx);clear Dx)
     | ((with_reducible refine BV KL (.agg Bi.toArray) hcs rfl ?_);intro BL Dy Dz;rw [qD] at Dy;have FT:=aa Dy;have E8:=aa (Hl.o.below hl Dz);have E9:=aa (Hm.o.all Dz);have FV:=aa (show Own BL w.heap.size 135 34 kL Al qU (cz gZ (bL.map iA)) by rw [Bn.o];exact E8.o.read);have Ho:=aa (show w.heap.size<=BL.heap.size by obtain⟨_,_,_,AO,_⟩:=E8.o.all;exact AO.size);clear Dy Dz)
     | (at_builtin;have _t:=FT;go_must ((with_reducible refine ve 135 _ 34 56 underlying61 KL.info KL.zs w.heap.size kL Al qU (cz gZ (bL.map iA)) FV.o 1 Bi (.slice (some ⟨A7.heap.size,0,none⟩) 1 1) (Src.slice underlying61 FT.o) He ?_ ?_ ?_ ?_ ?_);exact mO;omega;exact Ho.o;exact⟨rfl,rfl⟩;intro EB ED FW EG EH FY;have Hr:=aa (E8.o.Qf hl (k:=k) (A9:=EB) (c9:=ED) (by rw [Hf.o,Bn.o] at EG;exact EG) EH FY);have Ht:=aa (show aM FW DN.heap.size bH 80 from (EH.block _ E9.o.lt (fun e=>FV.o.ne E9.o dc e.symm)).trans E9.o);clear EG EH FY))
     | (with_reducible refine kv Ht.o underlying80 BP ?_)
     | (go_at_call 97; refine (HY.o FW EB ED Hr.o).mono ?_;rintro e IW ⟨rfl,Dr,Fa⟩;have Hu:=aa Fa;clear Fa))
    go_roundg (gk - 1);case rel =>
     exact⟨FJ,bL++[k],Dr,EB,ED,by rw [List.length_append,List.length_singleton,<- Bn.o];have:=Bn.o;omega,by rw [List.length_append,List.length_singleton,<- Bn.o],by rw [List.length_append,List.length_singleton];exact Hu.o⟩
    case measure=>have:=Bn.o;omega
   | below =>
    rw [hA] at Bf;obtain⟨Ao,EI,Aq⟩:=Aa.o.pos.Wz hc Ai (o:=HZ (bL.map iA)) (.inl ⟨hA,rfl⟩);obtain⟨bH,AB⟩:=ai (iy ⟨s.asks,false,[]⟩);have Cg:=aa (fun (I:aRB) (h:vQ c l i x w us (σ.push i) aI lL jG l9 aC.heap.size I s bL bL bL.length AZ kL qU)=>show Calls prog 38 #[pp X 0,.string P] I fun e w'=>e = .returned (.tuple #[.agg bH.toArray,.int .i64 2])/\vQ c l i x w us (σ.push i) aI lL jG l9 aC.heap.size w' s bL bL (bL.length+1) AZ kL qU from by
     rw [AB];exact Bf.o I h)
    have hlen:bH.length=3:=by rw [AB];rfl
    have BP:Sz 80 bH.length:=by rw [hlen];exact KZ
    have Ck:∀ v∈bH,v.oneCell'=true:=by rw [AB];simp [iy,Value.oneCell']
    obtain⟨dh,AA⟩:=ai ([Value.int .i64 2,.int .i64 16,.slice none 0 0,.slice kL Al qU]);have EK:=aa (show prog.built 63 [(0,.int .i64 2),(1,.int .i64 16),(3,.slice kL Al qU)]=some dh.toArray by rw [AA];exact awK _ _ _ _ _);have CE:=aa (show dh=jm (bE c.W i) ⟨none,0,kL,qU⟩ by rw [AA,<- Ao,Ab];simp [jm,HZ]);have EL:=aa (show (bE c.W i).outs=[] by rw [<- Ao];rfl);have EM:=aa (show (bE c.W i).reads=bL.map iA by rw [<- Ao];rfl);have Aw:dh.length=4:=by rw [AA];rfl
    have Ae:Sz 63 dh.length:=by rw [Aw];exact kr
    have Af:∀ v∈dh,v.oneCell'=true:=by rw [AA];simp [Value.oneCell']
    have Ay:dh.length=iG.length:=Aw;have C9:=aa (fun (bQ:bI) (h:xP c.W bQ i (bL.length+1))=>Aq h);rw [<- Ab];clear AB Ce Ab hA has AA Ao EI Aq;go_upto_region 21 with (first
     | (go_at_call 94; refine BM.o.mono ?_;rintro e I ⟨rfl,Ad⟩;have Am:=aa (Aa.o.below hl Ad);clear Ad)
     | (go_at_call 38; refine jw (Cg.o I Am.o) ?_;intro DN Au)
     | ((with_reducible refine rP bH hlen BP Ck ?_);intro Dt EO _;have Ag:=aa (Au.o.below hl EO.o);have EP:=aa Ag.o.out)
     | ((with_reducible refine Re (.int .i64 2) (.int .i64 16) (.slice kL Al qU) _ EK.o ?_ ?_);exact⟨rfl,rfl,rfl⟩)
     | ((with_reducible refine Jk dh EP.o Ae Ay Af ?_);intro A7 Cm Cn;have Az:=aa Cm;obtain⟨bQ,eY,OL,n,Ak⟩:=Ag.o.fin hl DR fC (by obtain⟨_,_,Bu,Dq,_⟩:=Ag.o.all;exact⟨Ap.o,aQm _⟩) CE.o ⟨by rw [EL.o];exact Own.nil _ _ _ _,by rw [EM.o,List.length_map];exact Ag.o.read⟩ C9.o Cn Dm.o;have BA:=aa Ak;clear Cm Cn Ak))
    have BF:=aa (fun af (ae:Bl A7 af)=>show af.cell? (ad X 4)=some (.map (some sQ)) from (BX.o af _ _ _ _ (BA.o.at_.all hl ae)).2.1);have Bd:(dh.drop 0).take dh.length=dh:=by simp
    have AJ:=aa Ae;have CJ:=aa Af;clear Ae Af;have kE:=BF;refine ng nE 6 [some (pp X 0),some (pp X 0),some (pp X 4),some (.map (some sQ)),some (.int .i64 i),some (.agg dh.toArray)] (fun _ _ _=>False) (Bl A7) Bl ((Below.refl _ A7).drew) (fun j v w1 af ae h=>h.elim) ?_ (jJ:=?_)
    ·intro u21 CK aj CL;clear CL;have Y:=aa (BA.o.below hl aj);have CS:=aa (Az.o.all aj);have CU:=aa (show kg CK GV sQ n (fun j=>(bQ.got j).map fun o=>jm o (OL j)) by rw [AP.o];exact Y.o.map);have CV:n < maxLen:=by have h1:=Y.o.few;have J:c.n<=10:=hc.kV.nN;unfold maxLen;omega
     have FB:sQ < w.heap.size:=by have h1:=(hl.low _ (.inl rfl)).2;have J:=Ap.o;have AO:=AP.o;omega
     clear aj;go_wp2_with (first
      | ((with_reducible refine ab6 ab7 CU.o BQ underlying110 CV dh ?_ ?_);exact⟨rfl,rfl,rfl⟩;intro FD BG AL;obtain⟨FE,FF,BH⟩:=Y.o.VF hl (by rw [<- AP.o];exact AL) (by rw [<- AP.o];exact BG);have CW:=aa BH;have CZ:=aa (CS.o.dK AL (by have:=Y.o.lay;omega));have BI:=aa (Y.o.res.dK AL (by have:=Y.o.lay;omega));clear BG AL BH)
      | (with_reducible refine kv CZ.o underlying63 AJ.o ?_)
      | ((with_reducible refine Jk dh BI.o AJ.o Ay CJ.o ?_);intro FH BJ BK;have Ca:=aa BJ;have Cb:=aa (CW.o.stored hl BI.o BK);clear BJ BK))
     exact Cb.o.leave hl hc Ca.o AJ.o Bv.o ⟨rfl,rfl,rfl⟩
    ·repeat' (first | exact trivial | apply And.intro)
     all_goals try exact rx
     all_goals intro eH u af aj aK bz K aS
     all_goals try simp [iY,Region.binds] at bz
     all_goals refine mf rfl ?_
     all_goals have Ct:=BF.o af aj
     ·refine wp_load_row jG 0 dh dh _ (Az.o.all aj) Bd _ underlying63 AJ.o ⟨rfl,by simp [Act.eval,aK],rfl⟩ ?_;exact aS _ _ rfl aj (Below.refl _ _)
   | stuck =>
    rw [hA] at Bf;obtain⟨Ao,EI,Aq⟩:=Aa.o.pos.Wz hc Ai (o:=D8 (bL.map iA)) (.inr ⟨hA,rfl⟩);obtain⟨bH,AB⟩:=ai (iy ⟨s.asks,false,[]⟩);have Cg:=aa (fun (I:aRB) (h:vQ c l i x w us (σ.push i) aI lL jG l9 aC.heap.size I s bL bL bL.length AZ kL qU)=>show Calls prog 38 #[pp X 0,.string P] I fun e w'=>e = .returned (.tuple #[.agg bH.toArray,.int .i64 3])/\vQ c l i x w us (σ.push i) aI lL jG l9 aC.heap.size w' s bL bL (bL.length+1) AZ kL qU from by
     rw [AB];exact Bf.o I h)
    have hlen:bH.length=3:=by rw [AB];rfl
    have BP:Sz 80 bH.length:=by rw [hlen];exact KZ
    have Ck:∀ v∈bH,v.oneCell'=true:=by rw [AB];simp [iy,Value.oneCell']
    obtain⟨dh,AA⟩:=ai ([Value.int .i64 3,.int .i64 11,.slice none 0 0,.slice kL Al qU]);have EK:=aa (show prog.built 63 [(0,.int .i64 3),(1,.int .i64 11),(3,.slice kL Al qU)]=some dh.toArray by rw [AA];exact awK _ _ _ _ _);have CE:=aa (show dh=jm (bE c.W i) ⟨none,0,kL,qU⟩ by rw [AA,<- Ao,Ab];simp [jm,D8]);have EL:=aa (show (bE c.W i).outs=[] by rw [<- Ao];rfl);have EM:=aa (show (bE c.W i).reads=bL.map iA by rw [<- Ao];rfl);have Aw:dh.length=4:=by rw [AA];rfl
    have Ae:Sz 63 dh.length:=by rw [Aw];exact kr
    have Af:∀ v∈dh,v.oneCell'=true:=by rw [AA];simp [Value.oneCell']
    have Ay:dh.length=iG.length:=Aw;have C9:=aa (fun (bQ:bI) (h:xP c.W bQ i (bL.length+1))=>Aq h);rw [<- Ab];clear AB Ce Ab hA has AA Ao EI Aq;go_upto_region 21 with (first
     | (go_at_call 94; refine BM.o.mono ?_;rintro e I ⟨rfl,Ad⟩;have Am:=aa (Aa.o.below hl Ad);clear Ad)
     | (go_at_call 38; refine jw (Cg.o I Am.o) ?_;intro DN Au)
     | ((with_reducible refine rP bH hlen BP Ck ?_);intro Dt EO _;have Ag:=aa (Au.o.below hl EO.o);have EP:=aa Ag.o.out)
     | ((with_reducible refine Re (.int .i64 3) (.int .i64 11) (.slice kL Al qU) _ EK.o ?_ ?_);exact⟨rfl,rfl,rfl⟩)
     | ((with_reducible refine Jk dh EP.o Ae Ay Af ?_);intro A7 Cm Cn;have Hw:=aa Cm;obtain⟨bQ,eY,OL,n,Ak⟩:=Ag.o.fin hl DR fC (by obtain⟨_,_,Bu,Dq,_⟩:=Ag.o.all;exact⟨Ap.o,aQm _⟩) CE.o ⟨by rw [EL.o];exact Own.nil _ _ _ _,by rw [EM.o,List.length_map];exact Ag.o.read⟩ C9.o Cn Dm.o;have Fb:=aa Ak;obtain⟨Ff,f3,Fh,C8⟩:=Ak.at_.waits;have Fj:=aa (show kg A7 Value.string DC Ff f3 by rw [Bw.o];exact C8);have I1:=(BX.o A7 _ _ _ _ Ak.at_).2.2.2.1;have I6:Ff < maxLen:=(by have J:c.n<=10:=hc.kV.nN;unfold maxLen;omega);have I8:=aa Fh;clear C8 Fh;clear Cm Cn Ak)
     | ((with_reducible refine ab6 str_inj Fj.o BQ underlying112 I6 P ?_ ?_);exact⟨rfl,rfl,rfl⟩;intro BL Fs ER;have BA:=aa (Fb.o.waited hl I8.o (by rw [<- Bw.o];exact Fj.o) (by rw [<- Bw.o];exact Fs) (by rw [<- Bw.o];exact ER));have Az:=aa (Hw.o.dK ER (by have h1:=(hl.low _ (.inr (.inr rfl))).2;have J:=Ap.o;have AO:=Bw.o;have Ah:=Fb.o.lay;omega));clear Fs ER I1))
    have BF:=aa (fun af (ae:Bl BL af)=>show af.cell? (ad X 4)=some (.map (some sQ)) from (BX.o af _ _ _ _ (BA.o.at_.all hl ae)).2.1);have Bd:(dh.drop 0).take dh.length=dh:=by simp
    have AJ:=aa Ae;have CJ:=aa Af;clear Ae Af;have kE:=BF;refine ng nE 6 [some (pp X 0),some (pp X 0),some (pp X 4),some (.map (some sQ)),some (.int .i64 i),some (.agg dh.toArray)] (fun _ _ _=>False) (Bl BL) Bl ((Below.refl _ BL).drew) (fun j v w1 af ae h=>h.elim) ?_ (jJ:=?_)
    ·intro u21 CK aj CL;clear CL;have Y:=aa (BA.o.below hl aj);have CS:=aa (Az.o.all aj);have CU:=aa (show kg CK GV sQ n (fun j=>(bQ.got j).map fun o=>jm o (OL j)) by rw [AP.o];exact Y.o.map);have CV:n < maxLen:=by have h1:=Y.o.few;have J:c.n<=10:=hc.kV.nN;unfold maxLen;omega
     have FB:sQ < w.heap.size:=by have h1:=(hl.low _ (.inl rfl)).2;have J:=Ap.o;have AO:=AP.o;omega
     clear aj;go_wp2_with (first
      | ((with_reducible refine ab6 ab7 CU.o BQ underlying110 CV dh ?_ ?_);exact⟨rfl,rfl,rfl⟩;intro FD BG AL;obtain⟨FE,FF,BH⟩:=Y.o.VF hl (by rw [<- AP.o];exact AL) (by rw [<- AP.o];exact BG);have CW:=aa BH;have CZ:=aa (CS.o.dK AL (by have:=Y.o.lay;omega));have BI:=aa (Y.o.res.dK AL (by have:=Y.o.lay;omega));clear BG AL BH)
      | (with_reducible refine kv CZ.o underlying63 AJ.o ?_)
      | ((with_reducible refine Jk dh BI.o AJ.o Ay CJ.o ?_);intro FH BJ BK;have Ca:=aa BJ;have Cb:=aa (CW.o.stored hl BI.o BK);clear BJ BK))
     exact Cb.o.leave hl hc Ca.o AJ.o Bv.o ⟨rfl,rfl,rfl⟩
    ·repeat' (first | exact trivial | apply And.intro)
     all_goals try exact rx
     all_goals intro eH u af aj aK bz K aS
     all_goals try simp [iY,Region.binds] at bz
     all_goals refine mf rfl ?_
     all_goals have Ct:=BF.o af aj
     ·refine wp_load_row jG 0 dh dh _ (Az.o.all aj) Bd _ underlying63 AJ.o ⟨rfl,by simp [Act.eval,aK],rfl⟩ ?_;exact aS _ _ rfl aj (Below.refl _ _)
theorem awZ (hc:c.Fit) (hl:l.Ok) {U:aRG} (hs:AY c l w U σ aI) (fC:i < c.n) (ik:i ∉ U) (av:yM c.W c.dN i) (hf:∀ x∈U,xM c.W x i) (iL:∀ k,rZ σ c.n=k+1->agz c l k) :
  Calls prog 60 #[pp l.X 0,.int .i64 i] w (Yg c l w U σ aI i):=by
 cases ae:σ.begun i with
 | true=>exact aK7 hc hl hs fC fun h=>ik ((hs.inv.under i).2 ⟨ae,h⟩)
 | false=>exact aK8 hc hl hs fC ae av hf iL
theorem aLh (hc:c.Fit) (hl:l.Ok):∀ m,agz c l m:=by
 intro m;induction m using Nat.strongRecOn with
 | ind m J =>
  intro w U σ aI p hs hm aL aD;cases hk:c.W.kK p with
  | none =>
   refine (aKP hc hl hs hk).mono ?_;rintro e w' ⟨rfl,h⟩;rw [ady hk];exact⟨rfl,σ,aI,h,fun j e=>by cases e⟩
  | some j =>
   obtain⟨h1,M,Y⟩:=aD j hk;by_cases I:j∈U
   ·refine (aKQ hc hl hs hk I).mono ?_;rintro e w' ⟨rfl,h⟩;rw [Y I];exact⟨rfl,σ,aI,h,fun j' e=>by cases e;exact ((hs.inv.under j).1 I).1⟩
   ·refine (aKR hc hl hs hk I fun af A7=>awZ hc hl A7 (JZ c hk) I h1 M fun k e=>J k om).mono ?_;rintro e w' ⟨AA,σ',fB,AB,AJ⟩;exact⟨AA,σ',fB,AB,fun j' e=>by cases e;exact AJ⟩
end
section
open Go.Maps Go.RowKit Go.Shelf
theorem aw0 {jT ed ou uD:aRB} {keep:Bool} {Qj:aRI} {l:Dv} {aw1 dY jv uW xD jG g2 rc jy kC:Nat} {cZ kQ:aRC} {Ma aLi lu:aRD}
  (EB:l=⟨uW,xD,jG,cK,S,jT.heap.size,B0⟩) (sS:c=agv k keep met bG has l) (iI:dY=k.bZ.length) (hs:j6 c ed [] σ aW Qj) (tH:kY c.l.T c.l.C jT ed) (Vw:∀ x,Qj x->aI x\/w.heap.size<=x) (aad:keep=true->∀ p∈k.ib,∀ i,k.W.kK p=some i->σ.begun i=true) (qj:jv=(o9 k.W σ k.ib).length)
  (Fu:Own ed aw1 65 2 jX (o9 k.W σ k.ib).length kC (cz fO (o9 k.W σ k.ib))) (aLj:w.heap.size<=aw1) (lv:Own ed c.l.T 3 1 cZ σ.dZ.length rc (AR σ.dZ)) (GI:Own ed c.l.T 3 1 kQ aW.length jy (AR aW)) (zK:aM ed uW Ma 78) (xH:fU uW ed ou) (amU:aM ou g2 aLi 39) (LY:fU g2 ou uD)
  (aLk:lu=zM dY σ.dZ.length aW.length jv ⟨jG,cZ,rc,kQ,jy,jX,kC⟩) (jV:Bl w jT) (gG:w.heap.size<=uW/\w.heap.size<=xD/\w.heap.size<=jG/\w.heap.size<=g2) :
  awm w k keep S aI met bG has (.returned (.tuple #[.agg lu.toArray,.int .i64 0])) uD:=by
 have bY:c.l.T=jT.heap.size:=by rw [sS,EB];rfl
 have AZ:=jV.size;have Y:∀ {base aO n c2:Nat} {t:TypeId} {A:aRC} {xs:aRD},Own ed base t aO A n c2 xs->t ≠ 78 -> t ≠ 39 -> w.heap.size<=base->Own uD w.heap.size t aO A n c2 xs:=fun h h1 I ae=>(iJ (iJ h zK h1 xH) amU I LY).mono ae;have AA:∀ {g:Nat} {V:aRD} {t:TypeId},aM ed g V t->t ≠ 78 -> t ≠ 39 -> aM uD g V t:=fun {g V t} h h1 I=>by
  have A7:g≠uW:=fun e=>by
   rw [e] at h;have:=h.symm.trans zK;injection this with this
   injection this with _ this
   exact h1 this
  have J:=h.dK xH A7;refine J.dK LY fun e=>?_;rw [e] at J;have:=J.symm.trans amU;injection this with this
  injection this with _ this
  exact I this
 obtain⟨OL,AB,AJ⟩:=hs.fG.outs;have AL:=(hs.fG.src.turned zK xH dc dc).turned amU LY dc dc;refine⟨σ,aW,⟨jG,cZ,rc,kQ,jy,jX,kC⟩,Qj,by rw [aLk,iI,qj],⟨gG.2.2.1,⟨OL,?_,fun i o e=>?_⟩,Y lv dc dc om,Y GI dc dc om,Y Fu dc dc aLj⟩,?_,⟨?_,?_,?_,?_,fun q AO h1 I J=>?_⟩,⟨?_,?_,?_,aad⟩,Vw⟩
 ·have h:=AA AB dc dc;subst sS EB;exact h
 ·have h:=(AJ i o e).1;exact⟨Y h.outs dc dc om,Y h.reads dc dc om⟩
 ·subst sS EB;exact AL
 ·exact LY.1.trans (xH.1.trans (tH.os.trans jV.os))
 ·exact LY.2.1.trans (xH.2.1.trans (tH.tape.trans jV.tape))
 ·exact LY.2.2.1.trans (xH.2.2.1.trans (tH.output.trans jV.output))
 ·have h1:=LY.2.2.2.1;have I:=xH.2.2.2.1;have J:=tH.size;omega
 ·have A7:q≠uW:=om;have AP:q≠g2:=om;refine (LY.2.2.2.2 q AP).trans ((xH.2.2.2.2 q A7).trans ((tH.keep q om om ?_).trans (jV.block q AO)));subst sS EB;intro AV;rcases AV with e | e | e | e | e | e
  ·exact A7 e
  ·have e:q=xD:=e;omega
  ·have e:q=jG:=e;omega
  ·exact h1 e
  ·exact I e
  ·exact J e
 ·have h:=hs.inv;subst sS;exact h
 ·have h:=hs.log;subst sS;exact h
 ·have h:=hs.kept;subst sS;exact h
theorem rY.amV {l:uA} {n:Nat} {gm:Nat->List UInt8} {df:Nat->lI} (h:rY W l aI n gm df met bG has):l.jN < W.heap.size/\l.jO < W.heap.size/\l.ja < W.heap.size/\l.gs < W.heap.size/\l.lJ < W.heap.size:=by obtain⟨⟨Y,I,_⟩,⟨A7,J,_⟩,cs,M⟩:=h.kinds;exact⟨h.row.lt,h.bG.obj.lt,ic I,ic M,ic J⟩
theorem aLl (w:aRB) (k:jo) (cK:xU) (keep:Bool) (S:uA) (aI:aRI) (met:List ak) (bG:Nat->Bool) (has:ak->Bool) (B0:Nat) (hk:FC k) (bn:Yf k met) (jq:o7 k=0)
  (hA:∀ W:World,(∀ q,q < w.heap.size->q≠S.ja->q≠S.gs->q≠S.lJ->W.heap[q]?=w.heap[q]?)->wT W k cK) (uY:rY w S aI k.bZ.length (NC k.X) (XN k.files k.X) met bG has)
  (Dt:∀ i,bG i=true->Bh k.W (Cx bG has) i/\(bE k.W i).kind=1) (ek:vM w B0) (bg:B0<=w.heap.size/\B0<=S.ja/\B0<=S.gs/\B0<=S.lJ/\S.B<=w.heap.size) :
  Calls prog 9 #[.agg (rA k cK keep).toArray,Et S] w (awm w k keep S aI met bG has):=by
 obtain⟨AA,Ao⟩:=ai (rA k cK keep);obtain⟨aF,Au⟩:=ai (w.alloc (.cells AA.toArray 26));obtain⟨aV,Aw⟩:=ai (aF.alloc (.cells ab2.toArray 39));have ED:=gQ Au;have Cb:aF.heap.size=w.heap.size+1:=by rw [Au];simp
 have Ce:=gQ Aw;have Bu:=aR ED Ce;have Cf:aM aV w.heap.size AA 26:=by refine aM.all ?_ Ce;rw [Au];exact aM.new w _ _
 have EG:=lH Aw;obtain⟨dY,Bv,qQ,Cg⟩:=nq2 k.bZ.length k.ib.length;have Gj:dY<=10:=by rw [Bv];exact hk.kV.nN
 have Gm:qQ<=100:=by rw [Cg];exact hk.kV.qQ
 have FB:(AA.drop 0).take AA.length=AA:=by simp
 have EH:=aa (show Sz 26 AA.length by rw [Ao];exact kr);have FD:=EH.o;have EI:=hA aV (fun q h1 _ _ _=>Bu.block q h1);have FE:=aa (show CB 21 #[.agg AA.toArray] aV (.int .i64 0) from by
  have:=aeO aV k cK keep EI hk.kV (ek.below (Bu.mono bg.1)).wh;rw [jq,<- Ao] at this;exact this)
 have w1:=Cf.cell 1;rw [Ao] at w1;have w1:aV.cell? (ad w.heap.size 1)=some (.slice cK.B dY cK.d):=by rw [Bv];exact w1
 obtain⟨NW,Ci,L8,Ck⟩:=nq2 (yu (Cx bG has) dY) (uV (Cx bG has) (fun _=>⟨none,0,none,0⟩) dY);have EK:=aa (fun (W:aRB)=>show (Instr.makeSlice 76 (.int .i64 (dY:Int)) (.int .i64 (dY:Int))).run prog W = .ok (.slice (some ⟨W.heap.size,0,none⟩) dY dY) (W.alloc (.cells NW.toArray 4)) by rw [Ci];exact aKH W dY om _ fun _=>rfl);have EL:=aa (fun (W:aRB)=>show (Instr.makeSlice 36 (.int .i64 (dY:Int)) (.int .i64 (dY:Int))).run prog W = .ok (.slice (some ⟨W.heap.size,0,none⟩) dY dY) (W.alloc (.cells L8.toArray 63)) by rw [Ck];exact aKI W dY om _ _ fun _=>rfl);obtain⟨jN,Cm⟩:=ai S.jN;obtain⟨Bw,Cn,Ay,Co,C8,Aa,C9,FF,FH,FJ,FN,FP⟩:=hq12 Cf EG Bu Cb Ao Bv Cg Ci Ck Cm ek hA;rw [<- Ao,Et,<- Cm];rw [show ab2.toArray=#[.slice none 0 0,.slice none 0 0,.slice none 0 0,.slice none 0 0] from rfl] at Aw;have FQ:=Au.symm;have FT:=Aw.symm;clear Au Aw ED Cb Ce Bu Cf EG Bv Cg Ao Ci Ck Cm ek hA EI;go_enter func9,ntmps9;go_upto_region 7 with (first
  | (with_reducible refine kv Bw.o underlying26 FD ?_)
  | (go_at_call 21; refine FE.o.mono ?_;rintro e aC ⟨rfl,CE⟩;have Az:=aa CE;have CJ:=aa (Bw.o.all CE);have w1:=(by have:=(Bw.o.all CE).cell 1;rw [C8.o] at this;exact this:aC.cell? (ad w.heap.size 1)=some (.slice cK.B k.bZ.length cK.d));rw [<- Aa.o] at w1;clear CE))
 obtain⟨g1,BA,g2,BG⟩:=nq2 w.heap.size aF.heap.size;rw [<- BA,<- BG];have Cs:=CJ.o;have Ct:=Cn.o.all Az.o;rw [<- BA] at Cs;rw [<- BG] at Ct;obtain⟨FV,CK,CJ,FW⟩:=hq4 BA BG Cs Ct;clear BA BG Cs Ct FQ FT w1;have kE:=aa fun af (aj:Bl aC af)=>And.intro (EK.o af) (EL.o af);refine ng nE 7 [some (.agg AA.toArray),some (.iface 90 (pp jN 0)),some (.int .i64 dY),none,some (.int .i64 dY),none,none] (Ye aC.heap.size dY NW L8) (Bl aC) Bl ((Below.refl _ aC).drew) (fun j v w1 af ae h=>h.keep ae) ?_ (jJ:=?_)
 ·intro u7 Ab aj Cv;obtain⟨AB,FY,CL,EM⟩:=(show Ye aC.heap.size dY NW L8 3 (u7 3) Ab from Cv 3 om).1 rfl;obtain⟨jG,EO,CS,EP⟩:=(show Ye aC.heap.size dY NW L8 6 (u7 6) Ab from Cv 6 om).2.2 rfl;clear Cv;simp only [FY,EO];have ER:=aa (And.intro EM EP);obtain⟨Cw,Cz⟩:=ai (rA k cK keep++[Et S,.slice (some ⟨AB,0,none⟩) dY dY,.slice (some ⟨jG,0,none⟩) dY dY,.slice none 0 0,.slice none 0 0,.slice none 0 0]);have Fa:=aa (show prog.built 78 [(0,.agg AA.toArray),(1,.iface 90 (pp jN 0)),(2,.slice (some ⟨AB,0,none⟩) dY dY),(3,.agg #[.slice (some ⟨jG,0,none⟩) dY dY,.slice none 0 0,.slice none 0 0,.slice none 0 0])]=some Cw.toArray by
   rw [C8.o,Cz,FJ.o];exact aKG _ _ _ _ _ _ _ _ _ _ _ _ _ _ _ _ _ _)
  obtain⟨Y,BH,J,DD⟩:=nq2 (Ab.alloc (.cells Cw.toArray 78)) Ab.heap.size;have CU:=gQ BH;have DF:aM Y J Cw 78:=by rw [BH,DD];exact aM.new Ab _ _
  have CV:=aR aj CU;have BI:=Ay.o.trans ((aR Az.o CV).mono Ay.o.size);obtain⟨EU,DL,ce,EW,EY,DN⟩:=nq3 cK.C cK.e keep;have CW:=CJ.o.all CV;have c2:Y.cell? (ad g1 2)=some (.slice EU qQ ce):=by have:=CW.cell 2;rw [C8.o] at this;rw [this,DL,EW,C9.o];rfl
  obtain⟨l,AL⟩:=ai (⟨J,AB,jG,cK,S,Y.heap.size,B0⟩:Dv);obtain⟨c,AJ⟩:=ai (agv k keep met bG has l);have Gp:=Az.o.size;have Gq:=Ay.o.size;have Gr:=aj.size;have Gs:Y.heap.size=Ab.heap.size+1:=by rw [BH];simp
  have Fb:=uY.amV;have Gt:AB < Ab.heap.size:=CL.lt;have Gu:jG < Ab.heap.size:=CS.lt;have BJ:AB≠jG:=fun e=>by
   have h1:=CL;rw [e,aM,CS] at h1;injection h1 with h1
   injection h1 with _ h1
   exact absurd h1 dc
  have hc:c.Ok:=by
   subst AJ AL;refine { toFit:=hk.fit _ _ _ _ _,apart:=bn.apart,few:=bn.few,keys:=bn.keys,outs:=bn.outs,low:=fun q EZ=>?_,base:=⟨?_,?_⟩,old:=⟨?_,?_⟩,ne:=⟨?_,?_,BJ⟩ }
   ·show B0<=q/\q < Y.heap.size;rcases EZ with e | e | e | e | e | e
    ·have e:q=J:=e;omega
    ·have e:q=AB:=e;omega
    ·have e:q=jG:=e;omega
    ·have e:q=S.ja:=e;omega
    ·have e:q=S.gs:=e;omega
    ·have e:q=S.lJ:=e;omega
   ·show B0<=Y.heap.size;omega
   ·show S.B<=Y.heap.size;omega
   ·show S.jN < Y.heap.size;omega
   ·show S.jO < Y.heap.size;omega
   ·show J≠AB;omega
   ·show J≠jG;omega
  have Ec:j6 c Y [] (Cx bG has) [] aI:=by
   subst AJ AL;have Ff:∀ q,q < w.heap.size->q≠S.ja->q≠S.gs->q≠S.lJ->¬ Dv.C ⟨J,AB,jG,cK,S,Y.heap.size,B0⟩ q:=fun q h1 ag DR DW h=>by
    rcases h with e | e | e | e | e | e
    ·have e:q=J:=e;omega
    ·have e:q=AB:=e;omega
    ·have e:q=jG:=e;omega
    ·exact ag e
    ·exact DR e
    ·exact DW e
   refine⟨⟨⟨none,0,none,0,?_,Own.nil _ _ _ _,Own.nil _ _ _ _,fun q h=>by cases h⟩,?_,⟨fun _=>⟨none,0,none,0⟩,?_,fun i o e=>by cases e⟩,uY.all BI,fun W Fh=>FP.o W fun q h1 ag DR DW=>(Fh q (by show q < Y.heap.size;omega) (Ff q h1 ag DR DW)).trans (BI.block q h1),FN.o.below (BI.mono bg.1),aQm _⟩,vZ.start (fun _=>rfl) (fun _=>rfl) rfl fun i ay=>(Dt i ay).2,AQ.start rfl fun _=>rfl,fun i ay=>(Dt i ay).1⟩
   ·show aM Y J _ _;rw [Cz,Aa.o] at DF;exact DF
   ·show aM Y AB (yu (Cx bG has) k.bZ.length) _;rw [<- Aa.o,<- FF.o];exact CL.all CU
   ·show aM Y jG (uV (Cx bG has) _ k.bZ.length) _;rw [<- Aa.o,<- FH.o];exact CS.all CU
  have Ee:=aa (fun (I:aRB) (h:Cq c.l Y I)=>show aM I g2 ab2 39 from by
   have Eg:=FW.o.all CV;have BG:=CK.o;have Cb:=Co.o;have Ei:=Cn.o.lt;refine (h.keep g2 (by subst AJ AL;show g2 < Y.heap.size;omega) Eg.lt ?_).trans Eg;subst AJ AL;intro DX;rcases DX with e | e | e | e | e | e
   ·have e:g2=J:=e;omega
   ·have e:g2=AB:=e;omega
   ·have e:g2=jG:=e;omega
   ·have e:g2=S.ja:=e;omega
   ·have e:g2=S.gs:=e;omega
   ·have e:g2=S.lJ:=e;omega)
  have Fj:=aa (fun (I:aRB) (h:Cq c.l Y I)=>show I.cell? (ad g1 3)=some (.bool EY) from by
   have BA:=FV.o;have Ei:=Bw.o.lt;have h1:=h.keep g1 (by subst AJ AL;show g1 < Y.heap.size;omega) CW.lt (by
    subst AJ AL;intro DX;rcases DX with e | e | e | e | e | e
    ·have e:g1=J:=e;omega
    ·have e:g1=AB:=e;omega
    ·have e:g1=jG:=e;omega
    ·have e:g1=S.ja:=e;omega
    ·have e:g1=S.gs:=e;omega
    ·have e:g1=S.lJ:=e;omega)
   have ag:aM I g1 AA 26:=h1.trans CW;rw [ag.cell 3,C8.o,DN];rfl)
  have Em:=aa (fun (I:aRB) (bQ:bI) (gN:aRG) (eY:aRI) (h:j6 c I [] bQ gN eY)=>show Calls prog 24 #[pp J 0] I fun e w'=>∃ A c2,e = .returned (.slice A (o9 k.W bQ k.ib).length c2)/\Own w' I.heap.size 65 2 A (o9 k.W bQ k.ib).length c2 (cz fO (o9 k.W bQ k.ib))/\Bl I w' from by
   have:=aKE hc h;subst AJ AL;exact this)
  have Fs:=aa (fun (I:aRB) (bQ:bI) (gN:aRG) (eY:aRI) (h:j6 c I [] bQ gN eY) (p:ak) (aL:p∈k.ib)=>show Calls prog 23 #[pp J 0,.string (az p)] I fun e w'=>∃ (bH:aRD) (Ah:Int),e = .returned (.tuple #[.agg bH.toArray,.int .i64 Ah])/\bH.length=3/\(∀ v∈bH,v.oneCell'=true)/\∃ σ' tk' fB,Step c I [] bQ gN eY w' σ' tk' fB/\∀ j,k.W.kK p=some j->σ'.begun j=true from by
   have:=aKx hc (rZ bQ c.n) I [] bQ gN eY p h (aQm _) (hk.kV.U6 p aL) fun j aD=>⟨.inl ?_,fun x ah=>(by cases ah),fun ah=>(by cases ah)⟩
   ·have e:c.l.X=J:=by subst AJ AL;rfl
    rw [e] at this;refine this.mono ?_
    ·rintro e w' ⟨rfl,σ',tk',fB,h1,ag⟩;exact⟨_,_,rfl,rfl,by simp [iy,Value.oneCell'],σ',tk',fB,h1,by subst AJ;exact ag⟩
   ·subst AJ;exact⟨p,aL,aD⟩)
  have Fu:=aa (fun (I:aRB) (bQ:bI) (gN:aRG) (eY:aRI) (h:j6 c I [] bQ gN eY)=>show Rd I 1 EU qQ (cu k.ib) from by
   have:=(h.fG.work I (fun _ _ _=>rfl)).ib;rw [DL,C9.o];subst AJ AL;exact this)
  have DY:=aa DD;have En:=aa (show g2≠J from fun e=>by have:=CK.o;have Ei:=Cn.o.lt;omega);obtain⟨Ap,Aq,BK,Fw,Fx⟩:=hq5 AL AJ BI Ec DN;have Gv:=BH.symm;clear aj CL CS EM EP Cz DD CU DF CV BI DL EW DN CW AL AJ BH Ec Fb EO;go_wp2_with (first
   | ((with_reducible refine ae9 (.agg AA.toArray) (.iface 90 (pp jN 0)) (.slice (some ⟨AB,0,none⟩) dY dY) (.agg #[.slice (some ⟨jG,0,none⟩) dY dY,.slice none 0 0,.slice none 0 0,.slice none 0 0]) _ Fa.o ?_ ?_);exact⟨rfl,rfl,rfl,rfl⟩))
  rw [<- DY.o];go_loopg [37] qQ (fun gk Fy wr=>∃ (q:Nat) (bQ:bI) (gN:aRG) (eY:aRI),q+gk=qQ/\Fy = .int .i64 q/\j6 c wr [] bQ gN eY/\Cq c.l Y wr/\(∀ x,eY x->aI x\/w.heap.size<=x)/\∀ (j:Nat) (p:ak),j < q->k.ib[j]?=some p->∀ i,k.W.kK p=some i->bQ.begun i=true);case atStart=>exact⟨0,Cx bG has,[],aI,om,rfl,Fw.o,kY.refl _,fun _ h=>.inl h,fun j p h=>absurd h (aRm _)⟩
  case round =>
   obtain⟨q,Ad,BL,Gw,EZ,rfl,Eo,Ep,Er,Es⟩:=hrel;obtain⟨Ae,Af,BM,Eu⟩:=hq4 Eo Ep Er Es;clear Eo Ep Er Es;by_cases Ev:q < qQ
   ·have Fz:(q:Int) < qQ:=om;have Gx:(0:Int)<=q:=om;obtain⟨p,ah⟩:∃ x,k.ib[q]?=some x:=⟨_,aQp (by rw [<- C9.o];exact Ev)⟩;have Ew:=aQr ah;obtain⟨b,o,G5,G6⟩:=Mt (Fu.o wr _ _ _ Ae.o) ah;subst G5;have Ex:=aa (Fs.o wr _ _ _ Ae.o p Ew);have G7:=aa ah;obtain⟨P,Ey⟩:=ai (az p);rw [<- Ey] at G6 Ex;clear ah Ew Ey;go_upto_region 12 with (first
     | (go_at_call 23; refine Ex.o.mono ?_;rintro e I ⟨bH,Ah,rfl,Ez,Ag,BO,DZ,Da,F3,F4⟩;have GI:Sz 80 bH.length:=(by rw [Ez];exact KZ);have CZ:=aa F3;have GJ:=aa F4;clear F3 F4)
     | ((with_reducible refine rP bH Ez GI Ag ?_);intro Db F5 _))
    have Dc:=aa (CZ.o.st.all hc F5.o);have Ca:=aa ((Af.o.trans CZ.o.nP).trans (kY.gT F5.o));have De:=aa (show ∀ x,Da x->aI x\/w.heap.size<=x from fun x ah=>by
     rcases CZ.o.wC x ah with h | h
     ·exact BM.o x h
     ·exact .inr (by have h1:=Af.o.size;have ag:=BK.o.size;omega))
    have F6:=aa (show ∀ (j:Nat) (p:ak),j < q+1->k.ib[j]?=some p->∀ i,k.W.kK p=some i->BO.begun i=true from fun j GK aD aL i ay=>by
     rcases aQD j q with h | h
     ·exact CZ.o.grow.begun i (Eu.o j GK h aL i ay)
     ·obtain rfl:j=q:=om;rw [G7.o] at aL;cases aL;exact GJ.o i ay)
    have Gy:=Fj.o Db Ca.o;by_cases Ag:Ah=1
    ·have GQ:decide (Ah=1)=true:=decide_eq_true Ag;have GR:(Ah != 1)=false:=by rw [Ag];rfl
     clear Ag;go_wp2_with fail;go_roundg (gk - 1);case rel=>exact⟨q+1,BO,DZ,Da,om,by go_num,Dc.o,Ca.o,De.o,F6.o⟩
     case measure=>omega
    ·have GQ:decide (Ah=1)=false:=aRd Ag;have GR:(Ah != 1)=true:=by simpa using Ag
     clear Ag;cases EY with
     | true =>
      go_wp2_with fail;go_roundg (gk - 1);case rel=>exact⟨q+1,BO,DZ,Da,om,by go_num,Dc.o,Ca.o,De.o,F6.o⟩
      case measure=>omega
     | false =>
      have Df:=aa (show keep=true->∀ p∈k.ib,∀ i,k.W.kK p=some i->BO.begun i=true from fun h=>by rw [<- Fx.o] at h;cases h);clear Ae Af BM;have Ae:=Dc;have Af:=Ca;have BM:=De;obtain⟨Ad,GY,BL,Ga⟩:=nq2 BO DZ;subst GY Ga;go_wp2_with (first
       | (go_at_call 24; refine (Em.o _ _ _ _ Ae.o).mono ?_;rintro e I ⟨jX,kC,rfl,BP,AP⟩;have Dg:=aa BP;have Gb:=aa AP;have BQ:=aa (Ae.o.all hc AP);have BX:=aa (Af.o.trans (kY.gT AP));obtain⟨cZ,rc,kQ,jy,Bb,Bc,Bd,BJ⟩:=BQ.o.fG.row;obtain⟨jv,Ai⟩:=ai ((o9 k.W Ad k.ib).length);rw [<- Ai];obtain⟨A7,AO,AV,AZ⟩:=nq2 (zM dY Ad.dZ.length BL.length jv ⟨jG,cZ,rc,kQ,jy,jX,kC⟩) (Gz c cZ rc kQ jy Ad.dZ.length BL.length);obtain⟨Dh,Ak⟩:=ai (AV.set 9 (.slice jX jv kC));have Gc:AV.length=10:=(by rw [AZ];rfl);have Dk:(Dh.drop 6).take A7.length=A7:=(by rw [AO,Ak,AZ,Aq.o,Aa.o,Ap.o];rfl);have Bf:A7.length=ab2.length:=(by rw [AO];rfl);have Al:Sz 39 A7.length:=(by rw [Bf];exact kr);have Dl:∀ v∈A7,v.oneCell'=true:=(by rw [AO];simp [zM,Value.oneCell']);have Bi:=aa (show aM I J AV 78 by rw [AZ,<- show c.l.X=J by rw [Aq.o,Ap.o];rfl];exact Bb);have Dm:(Value.slice jX jv kC).cells.toList=[Value.slice jX jv kC]:=rfl;have Bn:Sz 22 1:=kr;have Bo:9+1<=AV.length:=om;have Bp:(Value.slice jX jv kC).oneCell'=true:=rfl;obtain⟨Dp,Dq,Dr,Dx⟩:=hq4 Bc Bd AO Ai;have Dy:=aa (Ee.o I BX.o);have Bq:=Ak.symm;have Gd:=aa (show I.cell? (ad J 6)=I.cell? (ad J 6) from rfl);clear BP AP Bb Bc Bd BJ Ai AO AZ Ak)
       | ((with_reducible refine BU 9 (.slice jX jv kC) Bi.o Bn Bo Bp Bq ?_);intro Db Br Am;have Dz:=aa Br;have E8:=aa Am;have Bt:=aa (Dy.o.dK Am En.o);clear Br Am Dm Bn Bo Bp Bq)
       | (with_reducible refine O4 6 A7 Dz.o Dk underlying39 Al ?_)
       | ((with_reducible refine vC A7 Bt.o Al Bf Dl ?_);intro Gf E9 EB))
      refine Ej E9.o underlying39 rfl Al ⟨rfl,rfl,rfl⟩ ?_;exact aw0 Ap.o Aq.o Aa.o BQ.o BX.o BM.o Df.o Dx.o Dg.o (by have:=Af.o.size;have:=BK.o.size;omega) Dp.o Dq.o Bi.o E8.o Bt.o EB.o Dr.o BK.o (by have:=DY.o;have:=ER.o;have:=CK.o;have:=Co.o;have:=Ay.o.size;have:=Az.o.size;omega)
   ·have Fz:¬ (q:Int) < qQ:=om;have Df:=aa (show keep=true->∀ p∈k.ib,∀ i,k.W.kK p=some i->Ad.begun i=true from fun _ p aL i ay=>by
     obtain⟨j,aD⟩:=List.mem_iff_getElem?.1 aL;exact Eu.o j p (by have h1:=(aQs.1 aD).1;have ag:=C9.o;omega) aD i ay)
    clear Ev;go_wp2_with (first
     | (go_at_call 24; refine (Em.o _ _ _ _ Ae.o).mono ?_;rintro e I ⟨jX,kC,rfl,BP,AP⟩;have Dg:=aa BP;have Gb:=aa AP;have BQ:=aa (Ae.o.all hc AP);have BX:=aa (Af.o.trans (kY.gT AP));obtain⟨cZ,rc,kQ,jy,Bb,Bc,Bd,BJ⟩:=BQ.o.fG.row;obtain⟨jv,Ai⟩:=ai ((o9 k.W Ad k.ib).length);rw [<- Ai];obtain⟨A7,AO,AV,AZ⟩:=nq2 (zM dY Ad.dZ.length BL.length jv ⟨jG,cZ,rc,kQ,jy,jX,kC⟩) (Gz c cZ rc kQ jy Ad.dZ.length BL.length);obtain⟨Dh,Ak⟩:=ai (AV.set 9 (.slice jX jv kC));have Gc:AV.length=10:=(by rw [AZ];rfl);have Dk:(Dh.drop 6).take A7.length=A7:=(by rw [AO,Ak,AZ,Aq.o,Aa.o,Ap.o];rfl);have Bf:A7.length=ab2.length:=(by rw [AO];rfl);have Al:Sz 39 A7.length:=(by rw [Bf];exact kr);have Dl:∀ v∈A7,v.oneCell'=true:=(by rw [AO];simp [zM,Value.oneCell']);have Bi:=aa (show aM I J AV 78 by rw [AZ,<- show c.l.X=J by rw [Aq.o,Ap.o];rfl];exact Bb);have Dm:(Value.slice jX jv kC).cells.toList=[Value.slice jX jv kC]:=rfl;have Bn:Sz 22 1:=kr;have Bo:9+1<=AV.length:=om;have Bp:(Value.slice jX jv kC).oneCell'=true:=rfl;obtain⟨Dp,Dq,Dr,Dx⟩:=hq4 Bc Bd AO Ai;have Dy:=aa (Ee.o I BX.o);have Bq:=Ak.symm;have Gd:=aa (show I.cell? (ad J 6)=I.cell? (ad J 6) from rfl);clear BP AP Bb Bc Bd BJ Ai AO AZ Ak)
     | ((with_reducible refine BU 9 (.slice jX jv kC) Bi.o Bn Bo Bp Bq ?_);intro Db Br Am;have Dz:=aa Br;have E8:=aa Am;have Bt:=aa (Dy.o.dK Am En.o);clear Br Am Dm Bn Bo Bp Bq)
     | (with_reducible refine O4 6 A7 Dz.o Dk underlying39 Al ?_)
     | ((with_reducible refine vC A7 Bt.o Al Bf Dl ?_);intro Gf E9 EB))
    refine Ej E9.o underlying39 rfl Al ⟨rfl,rfl,rfl⟩ ?_;exact aw0 Ap.o Aq.o Aa.o BQ.o BX.o BM.o Df.o Dx.o Dg.o (by have:=Af.o.size;have:=BK.o.size;omega) Dp.o Dq.o Bi.o E8.o Bt.o EB.o Dr.o BK.o (by have:=DY.o;have:=ER.o;have:=CK.o;have:=Co.o;have:=Ay.o.size;have:=Az.o.size;omega)
 ·repeat' (first | exact trivial | apply And.intro)
  all_goals try exact rx
  all_goals intro eH u af aj aK bz K aS
  all_goals try simp [iY,Region.binds] at bz
  all_goals refine mf rfl ?_
  all_goals have H6:=EK.o af
  all_goals have H8:=EL.o af
  ·refine wp_load_row g1 0 AA AA _ (CJ.o.all aj) FB _ underlying26 EH.o ⟨rfl,by simp [Act.eval,aK],rfl⟩ ?_;exact aS _ _ rfl aj (Below.refl _ _)
  ·go_simp;exact aS _ _ ⟨fun _=>⟨_,rfl,aM.new af NW _,aj.size⟩,fT,fT⟩ (aj.alloc aj.size _) gK
  ·go_simp;exact aS _ _ ⟨fT,fun _=>⟨_,rfl,aM.new af L8 _,aj.size⟩,fT⟩ (aj.alloc aj.size _) gK
  ·have ah:=bz;obtain⟨g,Gi,av,ax⟩:=ah.2.1 rfl;refine amr (.slice (some ⟨g,0,none⟩) dY dY) _ (aKF _ _ _) rfl (by simp [Act.eval,aK,Gi]) ?_;exact aS _ _ ⟨fT,fT,fun _=>⟨g,rfl,av,ax⟩⟩ aj (Below.refl _ _)
theorem aLs (A:aRC) (n c:Nat) (B:aRC) (gH d:Nat) (C:aRC) (mY e:Nat) (keep:Bool) (m1 m2 m3:Nat):prog.built 114 [(0,.agg #[.slice A n c,.slice B gH d,.slice C mY e,.bool keep]),(1,.map (some m1)),(2,.map (some m2)),(3,.map (some m3))]=some #[.slice A n c,.slice B gH d,.slice C mY e,.bool keep,.map (some m1),.map (some m2),.map (some m3)]:=kr
structure Yk (w w':aRB) (k:jo) (cK:xU) (keep:Bool) (X m:Nat):Prop where
 row:aM w' X (rA k cK keep++[.map (some m),.map (some (m+1)),.map (some (m+2))]) 114
 outs:kg w' GV m 0 (fun _=>none)
 way:kg w' Value.bool (m+1) 0 (fun _=>none)
 waits:kg w' Value.string (m+2) 0 (fun _=>none)
 low:w.heap.size<=m/\X=m+3/\w'.heap.size=X+1
 below:Bl w w'
theorem aLt (w:aRB) (k:jo) (cK:xU) (keep:Bool):Calls prog 34 #[.agg (rA k cK keep).toArray] w fun e w'=>∃ X m,e = .returned (pp X 0)/\Yk w w' k cK keep X m:=by
 obtain⟨I,Y⟩:=ai (rA k cK keep);obtain⟨aF,M⟩:=ai (w.alloc (.cells I.toArray 26));have AB:=gQ M;have Aa:=lH M;have Ad:aF.heap.size=w.heap.size+1:=by rw [M];simp
 obtain⟨m,hm⟩:=ai aF.heap.size;obtain⟨bS,J⟩:=ai (((aF.alloc (.map #[] 0)).alloc (.map #[] 0)).alloc (.map #[] 0));have AJ:bS.heap.size=m+3:=by rw [J,hm];simp
 have Ab:Bl aF bS:=by rw [J];exact (gK.alloc sp _).alloc (by simp;omega) _
 have AL:kg bS GV m 0 (fun _=>none):=by rw [J,hm];exact ((kg.made aF).keep (aQN _ _ _ sp)).keep (aQN _ _ _ (by simp;omega))
 have AO:kg bS Value.bool (m+1) 0 (fun _=>none):=by rw [J,hm];have:=kg.made (enc:=Value.bool) (aF.alloc (.map #[] 0));rw [World.size_alloc] at this;exact this.keep (aQN _ _ _ sp)
 have AP:kg bS Value.string (m+2) 0 (fun _=>none):=by rw [J,hm];have:=kg.made (enc:=Value.string) ((aF.alloc (.map #[] 0)).alloc (.map #[] 0));rw [World.size_alloc,World.size_alloc] at this;exact this
 obtain⟨AV,AZ⟩:=ai (rA k cK keep++[.map (some m),.map (some (m+1)),.map (some (m+2))]);have Ae:=aa (show prog.built 114 [(0,.agg I.toArray),(1,.map (some m)),(2,.map (some (m+1))),(3,.map (some (m+2)))]=some AV.toArray by rw [Y,AZ];exact aLs _ _ _ _ _ _ _ _ _ _ _ _ _);have Am:(I.drop 0).take I.length=I:=by simp
 have Af:=aa (show Sz 26 I.length by rw [Y];exact kr);have Ag:=Af.o;have Ao:=@run_makeMap prog;have Ah:=aa Aa;have Ai:=aa (show Yk w (bS.alloc (.cells AV.toArray 114)) k cK keep bS.heap.size m from by
  have A7:Bl bS (bS.alloc (.cells AV.toArray 114)):=gK;refine⟨?_,AL.keep (A7.block _ AL.lt),AO.keep (A7.block _ AO.lt),AP.keep (A7.block _ AP.lt),⟨om,AJ,by simp⟩,AB.trans ((aR Ab A7).mono AB.size)⟩;rw [<- AZ];exact aM.new bS _ _)
 rw [<- Y];obtain⟨Ak,Al,AA⟩:=hq3 J AJ hm;have Ap:=M.symm;clear M AB Aa Ad AJ Ab AL AO AP AZ Y J hm;go_enter func34,ntmps34;go_wp2_with (first
  | (with_reducible refine kv Ah.o underlying26 Ag ?_)
  | ((with_reducible refine ae9 (.agg I.toArray) (.map (some m)) (.map (some (m+1))) (.map (some (m+2))) _ Ae.o ?_ ?_);exact⟨rfl,by rw [AA.o];rfl,by rw [AA.o];rfl,by rw [AA.o];rfl⟩))
 go_ret;rw [<- Ak.o];exact⟨_,m,by rw [Al.o,AA.o];rfl,Ai.o⟩
theorem Yk.start {keep:Bool} {X m:Nat} (h:Yk w w' k cK keep X m) (jq:c.k=k) (aLu:c.keep=keep) (ek:vM w B0) (bg:B0<=w.heap.size) (hA:∀ W:World,(∀ q,q < w.heap.size->W.heap[q]?=w.heap[q]?)->wT W k cK) (aX:c.lX=Cx (fun _=>false) (fun _=>false)) :
  (⟨X,m,m+1,m+2,cK,w'.heap.size,B0⟩:sP).Ok/\AY c ⟨X,m,m+1,m+2,cK,w'.heap.size,B0⟩ w' [] (Cx (fun _=>false) (fun _=>false)) (fun _=>False):=by
 obtain⟨A7,AA,AB⟩:=h.low;subst jq aLu;refine⟨⟨fun q I=>?_,⟨?_,?_⟩,?_⟩,⟨h.row,⟨fun _=>⟨none,0,none,0⟩,0,?_,h.outs,fun i o e=>by cases e⟩,⟨0,?_,h.way.congr fun j=>by simp⟩,⟨0,_,?_,h.waits⟩,fun W J=>hA W fun q I=>(J q (aQq I h.below.size) fun M=>?_).trans (h.below.block q I),ek.below (h.below.mono bg),aQm _⟩,?_⟩
 ·show B0<=q/\q < w'.heap.size;rcases I with e | e | e
  ·have e:q=m:=e;omega
  ·have e:q=m+1:=e;omega
  ·have e:q=m+2:=e;omega
 ·show B0<=w'.heap.size;omega
 ·show X < w'.heap.size;omega
 ·exact⟨by show m≠m+1;omega,by show m≠m+2;omega,by show m+1≠m+2;omega⟩
 ·have:=aQ0 (fun i=>((Cx (fun _=>false) (fun _=>false)).got i).isNone) (List.range c.n);rw [List.length_range] at this;show 0+GX _ _<=_;unfold GX;omega
 ·show 0+rZ _ _<=_;unfold rZ;refine aQn (aQL (Nat.zero_add _)) (aQn (aQ0 _ _) ?_);rw [List.length_range];exact aQm _
 ·have:=aQ0 (fun i=>((Cx (fun _=>false) (fun _=>false)).got i).isNone) (List.range c.n);rw [List.length_range] at this;show 0+GX _ _<=_;unfold GX;omega
 ·rcases M with e | e | e
  ·have e:q=m:=e;omega
  ·have e:q=m+1:=e;omega
  ·have e:q=m+2:=e;omega
 ·rw [aX];exact vZ.start (fun _=>rfl) (fun _=>rfl) rfl fun i Y=>by cases Y
theorem aLv:prog.built 63 []=some iG.toArray:=kr
theorem aLw (w:aRB) (k:jo) (cK:xU) (keep:Bool) (i:Nat) (hA:wT w k cK) (hk:U5 k) (ek:vM w B0) (bg:B0<=w.heap.size) (jq:o7 k≠0) :
  CB 39 #[.agg (rA k cK keep).toArray,.int .i64 i] w (.tuple #[.agg iG.toArray,.int .i64 (o7 k)]):=by
 obtain⟨I,M⟩:=ai (rA k cK keep);obtain⟨aF,Y⟩:=ai (w.alloc (.cells I.toArray 26));obtain⟨aV,J⟩:=ai (aF.alloc (.cells iG.toArray 63));have AB:=gQ Y;have AJ:=gQ J;have A7:=aR AB AJ;have AV:aM aV w.heap.size I 26:=by refine aM.all ?_ AJ;rw [Y];exact aM.new w _ _
 have AZ:=lH J;have Ay:(I.drop 0).take I.length=I:=by simp
 have Ae:=aa (show Sz 26 I.length by rw [M];exact kr);have Af:=Ae.o;obtain⟨AL,AA⟩:∃ x:Int,x=o7 k:=⟨_,rfl⟩;have Ag:=aa (show CB 21 #[.agg I.toArray] aV (.int .i64 AL) from by
  have:=aeO aV k cK keep (hA.all A7) hk (ek.below (A7.mono bg)).wh;rw [<- M,<- AA] at this;exact this)
 have jq:AL≠0:=by rw [AA];omega
 have Az:(AL != 0)=true:=by simpa using jq
 obtain⟨Ah,Ai,Ak,Al⟩:=hq4 AV AZ A7 aLv;have Aa:Sz 63 iG.length:=kr;have Am:∀ v∈iG,v.oneCell'=true:=by simp [iG,Value.oneCell']
 obtain⟨g2,AO⟩:=ai aF.heap.size;have Ao:=aa (show w.heap.size<=g2 by rw [AO];exact AB.size);rw [<- M,<- AA];have Ab:iG.toArray=#[.int .i64 0,.int .i64 0,.slice none 0 0,.slice none 0 0]:=rfl;rw [Ab] at J;have Ap:=aa AO;have BA:=Y.symm;have BF:=J.symm;clear Y J AB AJ A7 AV AZ M AA hA ek bg hk jq AO Ab;go_enter func39,ntmps39;go_wp2_with (first
  | (with_reducible refine kv Ah.o underlying26 Af ?_)
  | (go_at_call 21; refine Ag.o.mono ?_;rintro e aC ⟨rfl,AP⟩;have Aq:=aa AP;have Ad:=aa (Ai.o.all AP);rw [<- Ap.o] at Ad |-;clear AP)
  | ((with_reducible refine aCT _ Al.o ?_))
  | ((with_reducible refine vC iG Ad.o Aa rfl Am ?_);intro BG Au Aw))
 refine Ej Au.o underlying63 rfl Aa ⟨rfl,rfl,rfl⟩ ?_;exact⟨rfl,oF (aR Ak.o Aq.o) Aw.o Ao.o⟩
theorem aLy (w:aRB) (k:jo) (cK:xU) (keep:Bool) (i:Nat) (ay:i < k.bZ.length) (hA:∀ W:World,(∀ q,q < w.heap.size->W.heap[q]?=w.heap[q]?)->wT W k cK) (hk:FC k) (ek:vM w B0) (bg:B0<=w.heap.size) (jq:o7 k=0) :
  Calls prog 39 #[.agg (rA k cK keep).toArray,.int .i64 i] w fun e w'=>∃ L,e = .returned (.tuple #[.agg (jm (bE k.W i) L).toArray,.int .i64 0])/\nC w' w.heap.size (bE k.W i) L/\Bl w w':=by
 obtain⟨I,M⟩:=ai (rA k cK keep);obtain⟨aF,AL⟩:=ai (w.alloc (.cells I.toArray 26));obtain⟨aV,Y⟩:=ai (aF.alloc (.cells iG.toArray 63));have Ad:=gQ AL;have Ae:=gQ Y;have AO:=aR Ad Ae;have Am:aM aV w.heap.size I 26:=by refine aM.all ?_ Ae;rw [AL];exact aM.new w _ _
 have Ao:=lH Y;have Br:(I.drop 0).take I.length=I:=by simp
 have BL:=aa (show Sz 26 I.length by rw [M];exact kr);have Ap:=BL.o;have BM:=aa (show CB 21 #[.agg I.toArray] aV (.int .i64 0) from by
  have:=aeO aV k cK keep (hA aV fun q A7=>AO.block q A7) hk.kV (ek.below (AO.mono bg)).wh;rw [jq,<- M] at this;exact this)
 obtain⟨dY,Aq⟩:=ai k.bZ.length;obtain⟨ci,Af⟩:∃ x:Int,x=i:=⟨_,rfl⟩;have Bt:(0:Int)<=ci:=om;have fC:ci < dY:=om;have w1:∀ W:World,aM W w.heap.size I 26 -> W.cell? (ad w.heap.size 1)=some (.slice cK.B dY cK.d):=fun W h=>by
  have:=h.cell 1;rw [M] at this;rw [Aq];exact this
 have BO:=aa w1;have BP:=aa (fun (W:aRB)=>show Calls prog 34 #[.agg I.toArray] W fun e w'=>∃ X m,e = .returned (pp X 0)/\Yk W w' k cK keep X m from by
  have:=aLt W k cK keep;rw [<- M] at this;exact this)
 obtain⟨c,J⟩:=ai (⟨k,keep,fun j=>j=i,Cx (fun _=>false) (fun _=>false),[],⟨0,0,0,cK,⟨0,0,0,0,0,0⟩,0,0⟩⟩:dL);have hc:c.Fit:=by subst J;exact⟨hk.work,hk.kV,hk.env,fun j aD=>by have aD:j=i:=aD;subst aD;exact ay,hk.wide⟩
 have BQ:=aa (fun (AA AP:aRB) (AV:Bl w AA) (X m:Nat) (h:Yk AA AP k cK keep X m)=>show Calls prog 60 #[pp X 0,.int .i64 ci] AP fun e w'=>∃ L,e = .returned (.agg (jm (bE k.W i) L).toArray)/\nC w' AA.heap.size (bE k.W i) L/\Bl AA w' from by
  have Ag:=h.start (c:=c) (B0:=B0) (by rw [J]) (by rw [J]) (ek.below (AV.mono bg)) (aQn bg AV.size) (fun W BX=>hA W fun q A7=>(BX q (aQq A7 AV.size)).trans (AV.block q A7)) (by rw [J]);rw [Af];refine (awZ hc Ag.1 Ag.2 (i:=i) (by rw [J];exact ay) sp (.inl (by rw [J])) (fun x ah=>by cases ah) fun q _=>aLh hc Ag.1 q).mono ?_;rintro e w' ⟨L,σ',fB,rfl,Au,AB,_⟩;have Aw:=h.below.size;have Bu:=h.low;rw [show c.W=k.W by rw [J];rfl] at Au |-;refine⟨L,rfl,Au.mono Aw,⟨AB.rE.os.trans h.below.os,AB.rE.tape.trans h.below.tape,AB.rE.output.trans h.below.output,aQn Aw AB.rE.size,fun q A7=>?_⟩⟩;refine (AB.rE.keep q om fun Bb=>?_).trans (h.below.block q om);rcases Bb with e | e | e
  ·have e:q=m:=e;omega
  ·have e:q=m+1:=e;omega
  ·have e:q=m+2:=e;omega)
 obtain⟨Ay,Bc,AZ⟩:=hq3 Am Ao AO;obtain⟨g2,Ah⟩:=ai aF.heap.size;have Bd:=aa (show w.heap.size<=g2 by rw [Ah];exact Ad.size);rw [<- M,<- Af];have Az:iG.toArray=#[.int .i64 0,.int .i64 0,.slice none 0 0,.slice none 0 0]:=rfl;rw [Az] at Y;have Bf:=aa Ah;have Bv:=AL.symm;have Bw:=Y.symm;clear AL Y Ad Ae AO Am Ao M hA ek bg hk jq Ah Az Aq Af hc J w1 ay;go_enter func39,ntmps39;go_wp2_with (first
  | (with_reducible refine kv Ay.o underlying26 Ap ?_)
  | (go_at_call 21; refine BM.o.mono ?_;rintro e aC ⟨rfl,Aa⟩;have Ab:=aa Aa;have BA:=aa (Bc.o.all Aa);have BF:=aa (Ay.o.all Aa);have m1:=BO.o aC BF.o;rw [<- Bf.o] at BA |-;clear Aa)
  | (with_reducible refine kv BF.o underlying26 Ap ?_)
  | (go_at_call 34; refine (BP.o aC).mono ?_;rintro e AP ⟨X,m,rfl,BG⟩;have Bi:=aa BG;clear BG m1)
  | (go_at_call 60; refine (BQ.o aC AP (aR AZ.o Ab.o) X m Bi.o).mono ?_;rintro e C8 ⟨L,rfl,BH,Ai⟩;have BI:=aa (BH.mono (aQn AZ.o.size Ab.o.size));have Ak:=aa (BA.o.all Ai);have Bn:=aa ((aR AZ.o Ab.o).trans (Ai.mono (aQn AZ.o.size Ab.o.size)));obtain⟨dh,AJ⟩:=ai (jm (bE k.W i) L);rw [<- AJ];have BJ:dh.length=iG.length:=(by rw [AJ];rfl);have BK:Sz 63 dh.length:=(by rw [BJ];exact kr);have Bo:∀ v∈dh,v.oneCell'=true:=(by rw [AJ];simp [jm,Value.oneCell']);have Bp:=aa AJ;clear BH Ai AJ)
  | ((with_reducible refine vC dh Ak.o BK BJ Bo ?_);intro C9 Bq Al))
 refine Ej Bq.o underlying63 rfl BK ⟨rfl,rfl,rfl⟩ ?_;rw [Bp.o];exact⟨L,rfl,⟨iJ BI.o.outs Ak.o dc Al.o,iJ BI.o.reads Ak.o dc Al.o⟩,oF Bn.o Al.o Bd.o⟩
noncomputable def GZ (k:jo) (i:Nat):List ak:=vU (k.X.getD i mZ) :: (bE k.W i).outs.map (·.2)
noncomputable def sU (k:jo) (q:Nat):List ak:=k.files.map (·.2)++(List.range q).flatMap (GZ k)
noncomputable def oL (k:jo):List ak:=sU k k.bZ.length
theorem anb (k:jo) (q:Nat):sU k (q+1)=sU k q++GZ k q:=by rw [sU,List.range_succ,List.flatMap_append];simp [sU,List.append_assoc]
theorem agL (aB:U5 k):∀ q,q<=k.bZ.length->(q=0\/FC k)->(sU k q).length<=1000+q * 201
 | 0,_,_=>by
  have:=aB.jv;simp [sU];omega
 | q+1,h,I=>by
  have hk:=I.resolve_left om;have h1:=agL aB q om (.inr hk);have J:=Sr hk.work (i:=q) (by simp [jo.X];omega);rw [anb,List.length_append,GZ,List.length_cons,List.length_map];have M:(bE k.W q).outs.length<=200:=J;omega
theorem anc (l:List ak) (x:ak):cu (l++[x])=cu l++[.string (az x)]:=by simp [cu]
theorem aLz:Sz 63 iG.length:=kr
theorem aLA:∀ v∈iG,v.oneCell'=true:=by simp [iG,Value.oneCell']
theorem VO (P:ByteArray):(Value.string P).cells.size=1:=rfl
theorem axe {α β:Type} (f:α->β) {l:List α} {q:Nat} {x:α} (h:l[q]?=some x):(l.take (q+1)).map f=(l.take q).map f++[f x]:=by rw [List.take_add_one,h];simp
theorem aLB (w:aRB) (k:jo) (cK:xU) (keep:Bool) (aB:U5 k) (hk:o7 k=0->FC k) (ek:vM w B0) (bg:B0<=w.heap.size) (hA:∀ W:World,(∀ q,q < w.heap.size->W.heap[q]?=w.heap[q]?)->wT W k cK) :
  Calls prog 20 #[.agg (rA k cK keep).toArray] w fun e w'=>Bl w w'/\(o7 k=0->∃ A c,e = .returned (.tuple #[.slice A (oL k).length c,.bool true])/\Own w' w.heap.size 9 1 A (oL k).length c (cu (oL k)))/\(o7 k≠0->∃ v b,e = .returned (.tuple #[v,.bool b])):=by
 obtain⟨Ae,Ay⟩:=ai (rA k cK keep);obtain⟨aF,Bn⟩:=ai (w.alloc (.cells Ae.toArray 26));obtain⟨J,Bo⟩:=ai aF.heap.size;have Bp:=gQ Bn;have Ct:=lH Bn;obtain⟨dY,Af,jv,Bq⟩:=nq2 k.bZ.length k.files.length;have Fu:jv<=1000:=by rw [Bq];exact aB.jv
 have Fw:dY<=10:=by rw [Af];exact aB.nN
 have Fx:(Ae.drop 0).take Ae.length=Ae:=by simp
 have EB:=aa (show Sz 26 Ae.length by rw [Ay];exact kr);have Cv:=EB.o;have AP:=aa (fun W (ae:Below J aF W)=>show Bl w W/\aM W w.heap.size Ae 26 /\ wT W k cK from by
  have h1:=Bp.trans (ae.mono (by rw [Bo];exact Bp.size));exact⟨h1,Ct.all (ae.mono (aQL Bo.symm)),hA W fun q Ao=>h1.block q Ao⟩)
 have Cw:=aa (fun W (ae:Below J aF W)=>show W.cell? (ad w.heap.size 0)=some (.slice cK.A jv cK.c)/\W.cell? (ad w.heap.size 1)=some (.slice cK.B dY cK.d) from by
  have h1:=(AP.o W ae).2.1;rw [Ay] at h1;rw [Af,Bq];exact⟨h1.cell 0,h1.cell 1⟩)
 have ED:=aa (fun (I:o7 k=0) (W:aRB) (ae:Below J aF W) (i:Nat) (ay:i < dY)=>show Calls prog 39 #[.agg Ae.toArray,.int .i64 i] W fun e w'=>∃ L,e = .returned (.tuple #[.agg (jm (bE k.W i) L).toArray,.int .i64 0])/\nC w' W.heap.size (bE k.W i) L/\Bl W w' from by
  have h1:=(AP.o W ae).1;rw [Ay];exact aLy W k cK keep i (by rw [<- Af];exact ay) (fun aV Ap=>hA aV fun q Ao=>(Ap q (aQq Ao h1.size)).trans (h1.block q Ao)) (hk I) (ek.below (h1.mono bg)) (aQn bg h1.size) I)
 have EG:=aa (fun (I:o7 k≠0) (W:aRB) (ae:Below J aF W) (i:Nat)=>show Calls prog 39 #[.agg Ae.toArray,.int .i64 i] W fun e w'=>∃ Br:Int,Br≠0/\e = .returned (.tuple #[.agg iG.toArray,.int .i64 Br])/\Bl W w' from by
  have h1:=(AP.o W ae).1;rw [Ay];refine (aLw W k cK keep i (AP.o W ae).2.2 aB (ek.below (h1.mono bg)) (aQn bg h1.size) I).mono ?_;rintro e w' ⟨rfl,Ap⟩;exact⟨_,om,rfl,Ap⟩)
 have EH:=aa (fun (I:o7 k=0) (W:aRB) (ae:Below J aF W) (i:Nat) (x:iP) (ah:k.bZ[i]?=some x)=>show CB 40 #[.agg (vF x).toArray] W (.string (az (vU (k.X.getD i mZ)))) from by
  obtain⟨h1,_,EI⟩:=AP.o W ae;have Cz:=aQr ah;have BI:Mm W:=((ek.below (h1.mono bg)).up (aQn bg h1.size)).Gg;rw [show k.X.getD i mZ=x.2 by rw [List.getD_eq_getElem?_getD,jo.X,List.getElem?_map,ah];rfl];exact auZ W x.1 x.2 (EI.bZ.each x Cz) ((hk I).wide x Cz) BI)
 have EK:=aa (fun (q:Nat) (h:q<=dY) (Ao:q=0\/o7 k=0)=>show (sU k q).length<=1000+q * 201 from agL aB q (by rw [<- Af];exact h) (Ao.imp_right hk));have EL:=aa (fun (I:o7 k=0) (q:Nat) (h:q < dY)=>show (bE k.W q).outs.length<=200 from Sr (hk I).work (i:=q) (by rw [Af] at h;simp [jo.X];omega));have M:=aa (show J<=aF.heap.size by omega);have EM:=aa (show w.heap.size<=J by rw [Bo];exact Bp.size);have EO:=aa Af;have Az:=aa Bq;have EP:=aa (show oL k=sU k dY by rw [Af];rfl);have iC:=(Cw.o aF (Below.refl _ _)).1;obtain⟨ER,BJ,Fy,BK⟩:=nq2 cK.A cK.B;have EU:=aa BJ;have DD:=aa BK;rw [<- BJ] at iC;rw [<- Ay];have Fz:=Bn.symm;clear Bn Bo Bp Ct Ay Af Bq hk aB ek bg hA BJ BK;go_enter func20,ntmps20;go_wp2_with fail;go_loopg [16,4] jv (fun gk BL BM wr=>∃ (q:Nat) (A:aRC) (c:Nat),q+gk=jv/\BL = .int .i64 q/\BM = .slice A q c/\Own wr J 9 1 A q c (cu ((k.files.take q).map (·.2)))/\Below J aF wr);case atStart=>exact⟨0,none,0,om,rfl,rfl,Own.nil _ _ _ _,Below.refl _ _⟩
 case round =>
  obtain⟨q,A,c,Ao,rfl,rfl,DF,DL⟩:=hrel;have DN:=aa DF;have BO:=aa DL;clear DF DL;by_cases Ag:q < jv
  ·have C8:(q:Int) < jv:=om;have C9:(0:Int)<=q:=om;obtain⟨x,ah⟩:∃ x,k.files[q]?=some x:=⟨_,aQp (by rw [<- Az.o];exact Ag)⟩;obtain⟨b,o,BJ,Aq⟩:=vE (f:=fO) (k:=2) (fun _=>rfl) underlying65 rfl kr (show Rd wr 2 ER jv (cz fO k.files) by rw [EU.o,Az.o];exact (AP.o wr BO.o).2.2.files) ah Az.o.symm;subst BJ;obtain⟨AV,AZ,P,Au⟩:=nq2 (fO x) (az x.2);have BP:AV.length=2:=by rw [AZ];rfl
   have CE:Sz 65 AV.length:=by rw [BP];exact kr
   have CJ:∀ v∈AV,v.oneCell'=true:=by rw [AZ];exact afl _
   have CK:=aa (fun (W:aRB) (g:Nat) (h:aM W g AV 65)=>show W.cell? (ad g 1)=some (.string P) by rw [h.cell 1,AZ,Au];rfl);rw [<- AZ] at Aq;obtain⟨Bt,EW,CL⟩:=hq3 Aq ah Au;have G5:q<=1000:=om;clear ah AZ Au Ag Aq;go_wp2_with (first
  | ((with_reducible refine pY Bt.o ?_ ?_);exact rfl)
  | ((with_reducible refine rP AV BP CE CJ ?_);intro AL Ah EY;have G6:=CK.o AL wr.heap.size EY.o;have AO:=aa (BO.o.trans (Ah.o.mono (aQn M.o BO.o.size)));have Bu:=aa (DN.o.below Ah.o (aQm _)))
  | ((with_reducible refine BV Av (.string P) (VO P) rfl ?_);intro BQ Ai A7;have Aa:=aa (show Rd BQ 1 (some ⟨AL.heap.size,0,none⟩) 1 [.string P] from Ai);have Y:=aa (Bu.o.below A7 (aQm _));have AA:=aa ((AO.o).trans (A7.mono (aQn M.o (AO.o).size)));clear Ai A7)
  | (at_builtin;have _t:=Aa;go_must ((with_reducible refine ve 9 _ 1 16 underlying24 Av.info Av.zs J A q c (cu ((k.files.take q).map (·.2))) Y.o 1 [.string P] (.slice (some ⟨AL.heap.size,0,none⟩) 1 1) (Src.slice underlying24 Aa.o) (by simp [Value.oneCell']) ?_ ?_ ?_ ?_ ?_);exact mO;omega;(have h1:=AA.o.size;have Ap:=M.o;omega);exact⟨rfl,rfl⟩;intro EZ Ec BX Ak AJ Bb;have Ee:=aa Ak;have BA:=aa (AA.o.grown AJ (aQn M.o AA.o.size) (fun k e=>(Y.o.block k e).1));clear Ak AJ Bb Aa Y AA)))
   go_roundg (gk - 1);case rel =>
    refine⟨q+1,EZ,Ec,om,by go_num,rfl,?_,BA.o⟩;rw [axe _ EW.o,anc,<- CL.o];exact Ee.o
   case measure=>omega
  ·have C8:¬ (q:Int) < jv:=om;obtain rfl:q=jv:=om;have Eg:=aa (show Own wr J 9 1 A (sU k 0).length c (cu (sU k 0)) by
    have h:=DN.o;rw [List.take_of_length_le (by rw [Az.o];exact Nat.le_refl _)] at h;have e:sU k 0=k.files.map (·.2):=by simp [sU]
    rw [e,List.length_map,<- Az.o];exact h)
   obtain⟨n0,CS⟩:=ai ((sU k 0).length);have C9:q=n0:=by rw [CS];simp [sU];exact Az.o
   subst C9;have DR:=aa CS;have El:=(Cw.o wr BO.o).2;rw [<- DD.o] at El;clear Ag iC CS;go_wp2_with fail;go_loopg [29,4] dY (fun Ei BL BM DW=>∃ (gB:Nat) (iD:aRC) (Al c2:Nat),gB+Ei=dY/\BL = .int .i64 gB/\Al=(sU k gB).length/\(gB=0\/o7 k=0)/\BM = .slice iD Al c2/\Own DW J 9 1 iD Al c2 (cu (sU k gB))/\Below J aF DW);case atStart=>exact⟨0,A,_,c,om,rfl,DR.o,.inl rfl,rfl,by rw [DR.o];exact Eg.o,BO.o⟩
   case round =>
    obtain⟨gB,iD,Al,c2,G7,rfl,DX,DY,rfl,DZ,Da⟩:=hrel;obtain⟨Em,CU,BF,CV⟩:=hq4 DY DZ Da DX;obtain⟨ja,GI⟩:=ai gk;clear DZ Da DX DY;by_cases Ag:gB < dY
    ·have C8:(gB:Int) < dY:=om;have C9:(0:Int)<=gB:=om;obtain⟨x,ah⟩:∃ x,k.bZ[gB]?=some x:=⟨_,aQp (by rw [<- EO.o];exact Ag)⟩;obtain⟨b,o,BK,Aq⟩:=(AP.o wr BF.o).2.2.bZ.load ah;rw [<- DD.o] at BK;subst BK;obtain⟨Ab,Bc⟩:=ai (vF x);have CW:Ab.length=7:=by rw [Bc];rfl
     have CZ:Sz 45 Ab.length:=by rw [CW];exact kr
     have Db:∀ v∈Ab,v.oneCell'=true:=by rw [Bc];exact ai2 _ _
     have GJ:(Ab.drop 0).take Ab.length=Ab:=by simp
     rw [show nz x.1 x.2=Ab.toArray by rw [Bc,vF]] at Aq;have Bt:=aa Aq;obtain⟨T,BI⟩:=ai (az (vU (k.X.getD gB mZ)));have En:=aa (fun W (ae:Below J aF W) (I:o7 k=0)=>show CB 40 #[.agg Ab.toArray] W (.string T) from by rw [Bc,BI];exact EH.o I W ae gB x ah);have GK:Al<=4000:=by have h1:=EK.o gB om Em.o;have Ap:=CV.o;omega
     have Eo:=aa BI;have Dc:=aa Ag;clear ah Bc BI Ag Aq;by_cases I:o7 k=0
     ·have I:=aa I;go_upto_region 11 with (first
  | ((with_reducible refine pY Bt.o ?_ ?_);exact rfl)
  | ((with_reducible refine rP Ab CW CZ Db ?_);intro AL Ah De;have AO:=aa (BF.o.trans (Ah.o.mono (aQn M.o BF.o.size)));have Ca:=aa (AP.o AL AO.o).2.1;have Bu:=aa (CU.o.below Ah.o (aQm _)))
  | (with_reducible refine kv Ca.o underlying26 Cv ?_)
  | (go_at_call 39; refine (ED.o I.o AL AO.o gB Dc.o).mono ?_;rintro e Df ⟨L,rfl,Dg,Aw⟩;have Ep:=aa Dg;have Bd:=aa (AO.o.trans (Aw.mono (aQn M.o AO.o.size)));have Er:=aa (Bu.o.below Aw (aQm _));have Es:=aa (De.o.all Aw);obtain⟨dh,Bf⟩:=ai (jm (bE k.W gB) L);rw [<- Bf];have Dh:dh.length=4:=(by rw [Bf];rfl);have Eu:Sz 63 dh.length:=(by rw [Dh];exact kr);have Ev:∀ v∈dh,v.oneCell'=true:=(by rw [Bf];simp [jm,Value.oneCell']);have Ew:=aa Bf;clear Dg Aw Bf)
  | ((with_reducible refine rP dh Dh Eu Ev ?_);intro BX BA Cb;have Bi:=aa (Bd.o.trans (BA.o.mono (aQn M.o Bd.o.size)));have Ex:=aa (Er.o.below BA.o (aQm _));have Ey:=aa (Es.o.all BA.o);have Ez:=aa (Ep.o.all BA.o)))
      obtain⟨go,Ce,no,Bv⟩:=nq2 Df.heap.size ((bE k.W gB).outs.length);have BG:=aa Bv;have Cb:=aa (show aM BX go dh 63 by rw [Ce];exact Cb.o);have GQ:no<=200:=by rw [Bv];exact EL.o I.o gB Dc.o
      rw [<- Ce];have F3:=aa (fun (W:aRB) (h:aM W go dh 63)=>show W.cell? (ad go 2)=some (.slice L.A no L.c) by rw [h.cell 2,Ew.o,Bv];rfl);clear Ce Bv;go_upto_region 14 with (first
  | (with_reducible refine kv Ey.o underlying45 CZ ?_)
  | (go_at_call 40; refine (En.o BX Bi.o I.o).mono ?_;rintro e Dk ⟨rfl,BH⟩;have GR:=aa BH;have Dl:=aa (Bi.o.trans (BH.mono (aQn M.o Bi.o.size)));have F4:=aa (Ex.o.below BH (aQm _));have F5:=aa (Ez.o.all BH);have F6:=aa (Cb.o.all BH);clear BH)
  | ((with_reducible refine BV Av (.string T) (VO T) rfl ?_);intro BQ Ai A7;have Aa:=aa (show Rd BQ 1 (some ⟨Dk.heap.size,0,none⟩) 1 [.string T] from Ai);have Y:=aa (F4.o.below A7 (aQm _));have AA:=aa ((Dl.o).trans (A7.mono (aQn M.o (Dl.o).size)));have Ad:=aa (F5.o.all A7);have Cf:=aa (F6.o.all A7);clear Ai A7)
  | (at_builtin;have _t:=Aa;go_must ((with_reducible refine ve 9 _ 1 16 underlying24 Av.info Av.zs J iD Al c2 (cu (sU k gB)) Y.o 1 [.string T] (.slice (some ⟨Dk.heap.size,0,none⟩) 1 1) (Src.slice underlying24 Aa.o) (by simp [Value.oneCell']) ?_ ?_ ?_ ?_ ?_);exact mO;omega;(have h1:=AA.o.size;have Ap:=M.o;omega);exact⟨rfl,rfl⟩;intro A9 c9 Bw Ak AJ Bb;have FB:=aa Ak;have FD:=aa (AA.o.grown AJ (aQn M.o AA.o.size) (fun k e=>(Y.o.block k e).1));have FE:=aa (⟨Ad.o.outs.grown AJ (Own.apart Ad.o.outs Y.o dc),Ad.o.reads.grown AJ (Own.apart Ad.o.reads Y.o dc)⟩:nC Bw AL.heap.size (bE k.W gB) L);have FF:=aa (show aM Bw go dh 63 from (AJ.block go Cf.o.lt (fun e=>Y.o.ne Cf.o dc e.symm)).trans Cf.o);clear Ak AJ Bb Aa Y AA)))
      have FH:=F3.o Bw FF.o;obtain⟨SO,Cg,GY,Dm⟩:=nq2 L.A L.c;rw [<- Cg,<- Dm] at FH;have FJ:=aa Cg;clear Cg Dm;have FN:=aa (show Own Bw J 9 1 A9 (Al+1+0) c9 (cu (sU k gB++[vU (k.X.getD gB mZ)]++((bE k.W gB).outs.take 0).map (·.2))) by
       rw [List.take_zero,List.map_nil,List.append_nil,anc,<- Eo.o];exact FB.o)
      go_wp2_with fail;go_loopg [50,4] no (fun gk BL BM wr=>∃ (AB:Nat) (cO:aRC) (Am bF:Nat),AB+gk=no/\BL = .int .i64 AB/\Am=Al+1+AB/\BM = .slice cO Am bF/\Own wr J 9 1 cO Am bF (cu (sU k gB++[vU (k.X.getD gB mZ)]++((bE k.W gB).outs.take AB).map (·.2)))/\Below J aF wr/\nC wr AL.heap.size (bE k.W gB) L);case atStart=>exact⟨0,A9,_,c9,om,rfl,rfl,rfl,FN.o,FD.o,FE.o⟩
      case round =>
       obtain⟨AB,cO,Am,bF,Ga,rfl,Ci,rfl,Dp,Dq,Dr⟩:=hrel;obtain⟨Dt,Ck,Dx,Dy⟩:=hq4 Dp Dq Dr Ci;clear Dp Dq Dr;by_cases Cm:AB < no
       ·have FP:(AB:Int) < no:=om;have Gb:(0:Int)<=AB:=om;obtain⟨y,hy⟩:∃ y,(bE k.W gB).outs[AB]?=some y:=⟨_,aQp (by rw [<- BG.o];exact Cm)⟩;obtain⟨Gc,Gd,FQ,Cn⟩:=vE (f:=fO) (k:=2) (fun _=>rfl) underlying65 rfl kr (show Rd wr 2 SO no (cz fO (bE k.W gB).outs) by rw [FJ.o,BG.o];exact Dx.o.outs.rd) hy BG.o.symm;subst FQ;obtain⟨AV,AZ,P,Au⟩:=nq2 (fO y) (az y.2);have BP:AV.length=2:=by rw [AZ];rfl
        have CE:Sz 65 AV.length:=by rw [BP];exact kr
        have CJ:∀ v∈AV,v.oneCell'=true:=by rw [AZ];exact afl _
        have CK:=aa (fun (W:aRB) (g:Nat) (h:aM W g AV 65)=>show W.cell? (ad g 1)=some (.string P) by rw [h.cell 1,AZ,Au];rfl);rw [<- AZ] at Cn;obtain⟨FT,FV,CL⟩:=hq3 Cn hy Au;have Gf:Am<=5000:=om;clear Ci hy AZ Au Cm Cn;go_wp2_with (first
  | ((with_reducible refine pY FT.o ?_ ?_);exact rfl)
  | ((with_reducible refine rP AV BP CE CJ ?_);intro Co Cs FW;have iC:=CK.o Co wr.heap.size FW.o;have Dz:=aa (Ck.o.trans (Cs.o.mono (aQn M.o Ck.o.size)));have FX:=aa (Dt.o.below Cs.o (aQm _));have FY:=aa (Dx.o.all Cs.o))
  | ((with_reducible refine BV Av (.string P) (VO P) rfl ?_);intro BQ Ai A7;have Aa:=aa (show Rd BQ 1 (some ⟨Co.heap.size,0,none⟩) 1 [.string P] from Ai);have Y:=aa (FX.o.below A7 (aQm _));have AA:=aa ((Dz.o).trans (A7.mono (aQn M.o (Dz.o).size)));have Ad:=aa (FY.o.all A7);clear Ai A7)
  | (at_builtin;have _t:=Aa;go_must ((with_reducible refine ve 9 _ 1 16 underlying24 Av.info Av.zs J cO Am bF (cu (sU k gB++[vU (k.X.getD gB mZ)]++((bE k.W gB).outs.take AB).map (·.2))) Y.o 1 [.string P] (.slice (some ⟨Co.heap.size,0,none⟩) 1 1) (Src.slice underlying24 Aa.o) (by simp [Value.oneCell']) ?_ ?_ ?_ ?_ ?_);exact mO;omega;(have h1:=AA.o.size;have Ap:=M.o;omega);exact⟨rfl,rfl⟩;intro Fa El uJ Ak AJ Bb;have Fb:=aa Ak;have Ff:=aa (AA.o.grown AJ (aQn M.o AA.o.size) (fun k e=>(Y.o.block k e).1));have Fh:=aa (⟨Ad.o.outs.grown AJ (Own.apart Ad.o.outs Y.o dc),Ad.o.reads.grown AJ (Own.apart Ad.o.reads Y.o dc)⟩:nC uJ AL.heap.size (bE k.W gB) L);clear Ak AJ Bb Aa Y AA)))
        go_roundg (gk - 1);case rel =>
         refine⟨AB+1,Fa,_,El,om,by go_num,by rw [Dy.o];omega,rfl,?_,Ff.o,Fh.o⟩;rw [axe _ FV.o,<- List.append_assoc,anc,<- CL.o];exact Fb.o
        case measure=>omega
       ·have FP:¬ (AB:Int) < no:=om;obtain rfl:AB=no:=om;have E8:=aa (show sU k gB++[vU (k.X.getD gB mZ)]++((bE k.W gB).outs.take AB).map (·.2)=sU k (gB+1) by
         rw [List.take_of_length_le (by rw [BG.o];exact Nat.le_refl _),anb,GZ,List.append_assoc];rfl)
        have Fj:=aa (show Am=(sU k (gB+1)).length by
         rw [<- E8.o,List.take_of_length_le (by rw [BG.o];exact Nat.le_refl _),List.length_append,List.length_append,List.length_map,<- BG.o,<- CV.o];exact Dy.o)
        have Fp:=aa (show Own wr J 9 1 cO Am bF (cu (sU k (gB+1))) by rw [<- E8.o];exact Dt.o);clear Cm Ci;go_wp2_with fail;go_roundg (ja - 1);case rel=>exact⟨gB+1,cO,_,bF,om,by go_num,Fj.o,.inr I.o,rfl,Fp.o,Ck.o⟩
        case measure=>omega
     ·have I:=aa I;go_upto_region 11 with (first
  | ((with_reducible refine pY Bt.o ?_ ?_);exact rfl)
  | ((with_reducible refine rP Ab CW CZ Db ?_);intro AL Ah De;have AO:=aa (BF.o.trans (Ah.o.mono (aQn M.o BF.o.size)));have Ca:=aa (AP.o AL AO.o).2.1;have Bu:=aa (CU.o.below Ah.o (aQm _)))
  | (with_reducible refine kv Ca.o underlying26 Cv ?_)
  | (go_at_call 39; refine (EG.o I.o AL AO.o gB).mono ?_;rintro e Df ⟨Br,E9,rfl,Aw⟩;have Bd:=aa (AO.o.trans (Aw.mono (aQn M.o AO.o.size)));clear Aw)
  | ((with_reducible refine rP iG rfl aLz aLA ?_);intro BX Fs _;have Bi:=aa (Bd.o.trans (Fs.o.mono (aQn M.o Bd.o.size)))))
      have Gi:(Br != 0)=true:=by simpa using E9
      clear E9;go_wp2_with fail;refine aQx (aQT rfl _ _ _) rfl ?_;exact⟨(AP.o BX Bi.o).1,fun h=>absurd h I.o,fun _=>⟨_,_,rfl⟩⟩
    ·have C8:¬ (gB:Int) < dY:=om;obtain rfl:gB=dY:=om;clear Ag;go_wp2_with fail;refine aQx (aQT rfl _ _ _) rfl ?_;rw [EP.o,<- CV.o];exact⟨(AP.o wr BF.o).1,fun _=>⟨iD,c2,rfl,CU.o.mono EM.o⟩,fun _=>⟨_,.inr rfl⟩⟩
def Seen (M:fu ak) (l:List ak):Prop:=(∀ x∈l,getM M (bN.sum x)=some x)/\∀ s y,getM M s=some y->y∈l/\s=bN.sum y
theorem Seen.put {M:fu ak} {l:List ak} {x:ak} (h:Seen M l) (ah:∀ y,getM M (bN.sum x)=some y->y=x):Seen (oz M (bN.sum x) x) (l++[x]):=by
 constructor
 ·intro y hy;rcases aQI.1 hy with h1 | h1
  ·by_cases e:bN.sum y=bN.sum x
   ·have I:=h.1 y h1;rw [e] at I;obtain rfl:=ah y I;exact Mq M _ _
   ·rw [Mr M _ e];exact h.1 y h1
  ·obtain rfl:=aRc.1 h1;exact Mq M _ _
 ·intro s y hs;by_cases e:s=bN.sum x
  ·subst e;rw [Mq] at hs;cases hs;exact⟨by simp,rfl⟩
  ·rw [Mr M _ e] at hs;obtain⟨h1,I⟩:=h.2 s y hs;exact⟨aQU _ h1,I⟩
theorem Seen.apart {M:fu ak} {l:List ak} (h:Seen M l):IK l:=fun a I b ae e=>by
 have h1:=h.1 a I;rw [e,h.1 b ae] at h1;cases h1;rfl
theorem aL0 (w:aRB) (A:aRC) (c:Nat) (l:List ak) (av:Rd w 1 A l.length (cu l)) (hl:l.length<=100000) (hs:∀ x∈l,x.length<=70368744177664) :
  Calls prog 22 #[.slice A l.length c] w fun e w'=>(∃ b,e = .returned (.bool b)/\(b=true->IK l))/\Bl w w':=by
 obtain⟨n,Ag,aF,AZ⟩:=nq2 l.length (w.alloc (.map #[] 0));have Az:=gQ AZ;obtain⟨g,ax⟩:=ai w.heap.size;have BA:eQ aF prog 59 encS g 0 []:=by rw [AZ,ax];exact eQ.made w _ _ _
 rw [<- Ag] at av hl |-;obtain⟨Bi,BF,Bn,Bo,Bp,Ah⟩:=hq6 av Ag hs Az BA ax;have Bq:=@run_makeMap prog;have Ca:=AZ.symm;clear av Ag hs Az BA AZ ax;go_enter func22,ntmps22;go_wp2_with fail;rw [<- Ah.o];go_loopg [12] n (fun gk Br wr=>∃ (q:Nat) (M:fu ak),q+gk=n/\Br = .int .i64 q/\eQ wr prog 59 encS g q M/\Seen M (l.take q)/\Bl w wr);case atStart=>exact⟨0,[],om,rfl,Bp.o,⟨fun x ah=>(by simp at ah),fun s y h=>(by cases h)⟩,Bo.o⟩
 case round =>
  clear Bq;obtain⟨q,M,Cb,rfl,BG,BH,BI⟩:=hrel;obtain⟨BJ,Ai,Ak⟩:=hq3 BG BH BI;clear BG BH BI;by_cases Al:q < n
  ·have Bt:(q:Int) < n:=om;have Ce:(0:Int)<=q:=om;obtain⟨x,ah⟩:∃ x,l[q]?=some x:=⟨_,aQp (by rw [<- BF.o];exact Al)⟩;obtain⟨b,o,rfl,Bu⟩:=Mt (Bi.o.gp Ak.o) ah;obtain⟨P,AA,D,Aa⟩:=nq2 (az x) (bN.sum x);obtain⟨I,AB⟩:=ai (bO D);have Am:D.length=32:=by rw [Aa];exact yB _
   have BK:I.length=32:=by rw [AB,<- Am];simp [bO]
   have Ab:Sz 59 I.length:=by rw [BK];exact kr
   have Bv:∀ v∈I,v.oneCell'=true:=by rw [AB];exact G8 _
   have Cf:(I.drop 0).take I.length=I:=by simp
   have Bw:=aa (fun (W:aRB) (g2:Nat) (C8:Rd W 1 (some ⟨g2,0,none⟩) 1 [.string P])=>show CB 33 #[.slice (some ⟨g2,0,none⟩) 1 1] W (.agg I.toArray) from by
    have h1:=ahF W (some ⟨g2,0,none⟩) 1 1 [P] C8 dc (by rw [ac8,wG,AA,iM];exact Bn.o x (aQr ah));rw [ac8,AA,gU,<- Aa,<- AB] at h1;exact h1)
   have C9:=aa (fun (W:aRB) (h:eQ W prog 59 encS g q M)=>show (Instr.lookup 87 (.map (some g)) (.agg I.toArray) true).run prog W = .ok (.tuple #[.string (az ((getM M D).getD [])),.bool (getM M D).isSome]) W from by
    have:=h.aqM O1 MM underlying87 [] (Zy W) (Ua Am);rw [Ra,KI,<- AB] at this;exact this)
   have BL:=aa (show keyOf prog 59 (.agg I.toArray)=some (.string D) from by
    have:=Ua Am;rw [Ra,KI,<- AB] at this;exact this)
   have BM:=aa (show Value.string P=encS x by rw [AA];rfl);have BO:=aa ah;have Ad:=aa (show P.toList=x by rw [AA];exact Eb _);rw [<- AA] at Bu;have Ae:=aa Aa;have BP:q < maxLen:=by unfold maxLen;omega
   clear ah AA Aa AB Al;go_upto_region 6 with (first
    | ((with_reducible refine BV Av (.string P) (VO P) rfl ?_);intro BQ BX Bb;have CE:=aa (show Rd BQ 1 (some ⟨wr.heap.size,0,none⟩) 1 [.string P] from BX);have CJ:=aa Bb;clear BX Bb)
    | (go_at_call 33; refine (Bw.o BQ _ CE.o).mono ?_;rintro e CK ⟨rfl,Bc⟩;have CL:=aa (aR CJ.o Bc);clear Bc)
    | ((with_reducible refine rP I BK Ab Bv ?_);intro Bd CS AL;have Bf:=aa (aR CL.o CS.o)))
   obtain⟨g5,Ao⟩:=ai CK.heap.size;have AL:=aa (show aM Bd g5 I 59 by rw [Ao];exact AL.o);rw [<- Ao];clear Ao;have Ap:=aa (BJ.o.below Bf.o BJ.o.lt);have Aq:=aa (aR Ak.o Bf.o);have AO:=C9.o Bd Ap.o;cases J:getM M D with
   | none =>
    rw [J] at AO;have Au:=aa (show Seen (oz M D x) (l.take (q+1)) from by
     rw [List.take_add_one,BO.o,Ae.o];exact Ai.o.put fun y hy=>by rw [<- Ae.o,J] at hy;cases hy)
    clear J;go_wp2_with (first
     | (with_reducible refine kv AL.o underlying59 Ab ?_)
     | ((with_reducible refine adC Ap.o O1 MM underlying87 BP (.agg I.toArray) D BL.o x ?_ ?_);exact⟨rfl,rfl,BM.o⟩;intro CU AP AV;have Aw:=aa AP;have Ay:=aa AV;clear AP AV AO))
    go_roundg (gk - 1);case rel=>exact⟨q+1,_,om,by go_num,Aw.o,Au.o,oF Aq.o Ay.o (by rw [Ah.o];exact aQm _)⟩
    case measure=>omega
   | some y =>
    rw [J,Option.getD_some,Option.isSome_some] at AO;obtain⟨Y,Af⟩:=ai (az y);rw [<- Af] at AO;have AJ:Y.toList=y:=by rw [Af];exact Eb _
    by_cases A7:y=x
    ·have Au:=aa (show Seen (oz M D x) (l.take (q+1)) from by
      rw [List.take_add_one,BO.o,Ae.o];exact Ai.o.put fun Cg hy=>by rw [<- Ae.o,J] at hy;cases hy;exact A7)
     have CV:(Y.toList == P.toList)=true:=by rw [AJ,Ad.o];simp [A7]
     have CW:Y.toList=P.toList:=by rw [AJ,Ad.o,A7]
     clear J A7 Af AJ;go_wp2_with (first
      | (with_reducible refine kv AL.o underlying59 Ab ?_)
      | ((with_reducible refine adC Ap.o O1 MM underlying87 BP (.agg I.toArray) D BL.o x ?_ ?_);exact⟨rfl,rfl,BM.o⟩;intro CU AP AV;have Aw:=aa AP;have Ay:=aa AV;clear AP AV AO))
     go_roundg (gk - 1);case rel=>exact⟨q+1,_,om,by go_num,Aw.o,Au.o,oF Aq.o Ay.o (by rw [Ah.o];exact aQm _)⟩
     case measure=>omega
    ·have CV:(Y.toList == P.toList)=false:=by rw [AJ,Ad.o];simpa using A7
     have CW:¬ Y.toList=P.toList:=by rw [AJ,Ad.o];exact A7
     clear J A7 Af AJ;go_wp2_with (first
      | (with_reducible refine kv AL.o underlying59 Ab ?_))
     go_ret;exact⟨⟨false,rfl,fun h=>by cases h⟩,Aq.o⟩
  ·have Bt:¬ (q:Int) < n:=om;have CZ:=aa (show IK l by
    have:=Ai.o.apart;rw [List.take_of_length_le (by rw [<- BF.o];omega)] at this;exact this)
   clear Al;go_wp2_with fail;go_ret;exact⟨.inr ⟨rfl,CZ.o⟩,Ak.o⟩
end
section
section
variable {k:jo} (h:L9 k) (ax:Cy k=false) (hc:o7 k=0)
theorem aL1 {X:List kI} (h:abg F X) (i:Nat):(bE (nQ F X) i).outs.length<=(X.getD i mZ).outs.length:=by
 rcases Vn h.small i with hk | hk
 ·have h1:=congrArg List.length (afv h.small hk).1;rw [List.length_map] at h1;have I:=Ou (X.getD i mZ).outs;omega
 ·rw [hk.2];exact aQu _
theorem axu (hw:abg k.files k.X):∀ q,q<=k.bZ.length->(sU k q).length<=AX k.files+q+wZ (k.bZ.take q)
 | 0,_=>by
  have:=agx k.files;simp [sU];omega
 | q+1,J=>by
  have h1:=axu hw q om;obtain⟨x,ah⟩:∃ x,k.bZ[q]?=some x:=⟨_,aQp om⟩;have I:=aL1 hw q;rw [show k.X.getD q mZ=x.2 by rw [List.getD_eq_getElem?_getD,jo.X,List.getElem?_map,ah];rfl] at I;rw [anb,List.length_append,GZ,List.length_cons,List.length_map,awq ah];have M:(bE k.W q).outs.length<=x.2.outs.length:=I;omega
theorem ann (ay:i < k.bZ.length) {x:ak} (ah:x∈GZ k i):x∈oL k:=aQ4 _ (aQY.2 ⟨i,aQK.2 ay,ah⟩)
theorem ano (h:L9 k) (ax:Cy k=false) (hc:o7 k=0) (bn:IK (oL k)):Yf k (oL k):=by
 have hf:=h.fit ax hc;obtain⟨h1,AJ,AL⟩:=agy ax;have hlen:=axu hf.work k.bZ.length (aQm _);rw [List.take_length] at hlen;have aL:zD [] k.bZ=0:=by
  unfold o7 at hc;split at hc
  ·contradiction
  ·split at hc
   ·contradiction
   ·rename_i _ h;simpa using h
 obtain⟨Y,M⟩:=als aL aRb;rw [List.nil_append] at M;have key:∀ i j,i < k.bZ.length->j < k.bZ.length->j < i->NC k.X i≠NC k.X j:=fun i j I aD A7 e=>by
  have AA:=bn _ (ann I (List.mem_cons_self ..)) _ (ann aD (List.mem_cons_self ..)) e;obtain⟨x,ah⟩:∃ x,k.bZ[i]?=some x:=⟨_,aQp I⟩;obtain⟨y,hy⟩:∃ x,k.bZ[j]?=some x:=⟨_,aQp aD⟩;refine aIk (fun x ah=>(Y x ah).some) M ah hy A7 ?_;rwa [show k.X.getD i mZ=x.2 by rw [List.getD_eq_getElem?_getD,jo.X,List.getElem?_map,ah];rfl,show k.X.getD j mZ=y.2 by rw [List.getD_eq_getElem?_getD,jo.X,List.getElem?_map,hy];rfl] at AA
 refine⟨bn,by show (sU k _).length<=1000;omega,fun i j I aD AB=>?_,fun i I x ah=>ann I (aQQ _ (aQv.2 ⟨x,ah,rfl⟩))⟩;rcases Nat.lt_or_gt_of_ne AB with J | J
 ·exact aQJ (key j i aD I J)
 ·exact key i j I aD J
end
theorem aL2 (hf:FC k):∀ x∈oL k,x.length<=70368744177664:=fun x ah=>by
 rcases aQI.1 ah with h1 | h1
 ·obtain⟨y,hy,rfl⟩:=aQv.1 h1;have:=(hf.kV.Lm y hy).2;omega
 ·obtain⟨i,I,J⟩:=aQY.1 h1;have I:=aQK.1 I;rcases aQw.1 J with rfl | J
  ·obtain⟨y,hy⟩:∃ x,k.bZ[i]?=some x:=⟨_,aQp I⟩;rw [show k.X.getD i mZ=y.2 by rw [List.getD_eq_getElem?_getD,jo.X,List.getElem?_map,hy];rfl];have:=(alA (hf.wide y (aQr hy))).text;omega
  ·obtain⟨y,hy,rfl⟩:=aQv.1 J;have:=(XM hf.work.small i y hy).1;omega
end
section
open Go.Maps Go.RowKit Go.Shelf
theorem aL3 (w:aRB) (n:Nat) (gm:Nat->List UInt8) (df:Nat->lI) (met:List ak) :
  Calls prog 8 #[] w fun e w'=>∃ S:uA,e = .returned (Et S)/\rY w' S (fun _=>False) n gm df met (fun _=>false) (fun _=>false)/\S.B=w.heap.size/\(w.heap.size<=S.jN/\w.heap.size<=S.ja/\w.heap.size<=S.gs/\w.heap.size<=S.lJ)/\Bl w w':=by
 have AL:=aa (aHE w n (fun _=>False) gm df);have AO:=aa (fun (W:aRB)=>aCI W);have AP:=aa (fun (W:aRB) (jO gs:Nat)=>aH3 W jO gs);go_enter func8,ntmps8;go_wp2_with (first
  | (go_at_call 11; refine CG AL.o ?_;intro w1 Y A7)
  | (go_at_call 12; refine (AO.o w1).mono ?_;rintro e af ⟨rfl,AA,AB,AJ⟩;obtain⟨I,J,AV⟩:=hq3 AA AB AJ;clear AA AB AJ)
  | (go_at_call 13; refine CG (AP.o af _ _) ?_;intro aC AZ M))
 go_ret;have h1:=A7.o.size;have Ab:=Y.o.obj.lt;have Aa:=J.o.size;have Ad:=AV.o;refine⟨⟨w.heap.size,af.heap.size,w.heap.size+1,w.heap.size,w1.heap.size+1,w1.heap.size⟩,rfl,⟨AZ.o,(Y.o.all J.o).all M.o,⟨[],I.o.below M.o I.o.lt.1 I.o.lt.2,⟨fun x ah=>(by cases ah),fun x=>⟨fun h=>(by cases h),fun h=>(by cases h)⟩⟩⟩,⟨?_,?_,?_⟩,?_⟩,rfl,⟨?_,?_,?_,?_⟩,(A7.o.trans (J.o.mono h1)).trans (M.o.mono (aQn h1 Aa))⟩;all_goals
  simp only;omega
theorem anp:Ea prog 29 26 (.agg #[.slice none 0 0,.slice none 0 0,.slice none 0 0,.bool false]) 4 80:=⟨underlying29,kr,rfl,dc⟩
theorem aL4:Sz 22 1:=kr
theorem aL5:Sz 4 1:=kr
def axv (w:aRB) (k:jo) (cK:xU) (e:Ending) (w':aRB):Prop:=Bl w w'/\∃ v b,e = .returned (.tuple #[v,.bool b])/\(b=true->Cy k=false/\o7 k=0/\IK (oL k)/\∃ A c,v = .slice A 1 c/\Own w' w.heap.size 26 4 A 1 c (rA k cK true))
theorem aL6 (w:aRB) (k:jo) (cK:xU) (keep:Bool) (hk:L9 k) (ek:vM w B0) (bg:B0<=w.heap.size) (hA:∀ W:World,(∀ q,q < w.heap.size->W.heap[q]?=w.heap[q]?)->wT W k cK) :
  Calls prog 6 #[.agg (rA k cK keep).toArray,.slice none 0 0] w (axv w k cK):=by
 obtain⟨J,Y,I,M,jX,Aw,jv,Ay,kC,Az⟩:=nq5 (rA k cK keep) (rA k cK true) cK.A k.files.length cK.c;obtain⟨aF,Ai⟩:=ai (w.alloc (.cells J.toArray 26));have Bu:=gQ Ai;have Bv:=lH Ai;have Bw:J.length=4:=by rw [Y];rfl
 have DN:I.length=4:=by rw [M];rfl
 have DR:(Value.agg I.toArray).cells.size=4:=by rw [M];rfl
 have C8:(J.drop 0).take J.length=J:=by simp
 have C9:(I.drop 0).take I.length=I:=by simp
 have Ak:Sz 26 J.length:=by rw [Bw];exact kr
 have AJ:Sz 26 I.length:=by rw [DN];exact kr
 have DW:∀ v∈J,v.oneCell'=true:=by rw [Y];simp [rA,Value.oneCell']
 have DX:∀ v∈I,v.oneCell'=true:=by rw [M];simp [rA,Value.oneCell']
 have BA:=aa (fun W (ae:Bl w W)=>show CB 19 #[.agg J.toArray] W (.bool (Cy k)) from by
  rw [Y];exact awr W k cK keep (hA W fun q A7=>ae.block q A7) hk.toawn)
 have BF:=aa (fun W (ae:Bl w W)=>show CB 19 #[.agg I.toArray] W (.bool (Cy k)) from by
  rw [M];exact awr W k cK true (hA W fun q A7=>ae.block q A7) hk.toawn)
 have BG:=aa (fun (ax:Cy k=false) (W:aRB) (ae:Bl w W)=>show CB 21 #[.agg I.toArray] W (.int .i64 (o7 k)) from by
  rw [M];exact aeO W k cK true (hA W fun q A7=>ae.block q A7) (hk.ok ax) (ek.below (ae.mono bg)).wh)
 have BH:=aa (fun (ax:Cy k=false) (W:aRB) (ae:Bl w W)=>show Calls prog 20 #[.agg I.toArray] W fun e w'=>Bl W w'/\(o7 k=0->∃ A c,e = .returned (.tuple #[.slice A (oL k).length c,.bool true])/\Own w' W.heap.size 9 1 A (oL k).length c (cu (oL k)))/\(o7 k≠0->∃ v b,e = .returned (.tuple #[v,.bool b])) from by
  rw [M];exact aLB W k cK true (hk.ok ax) (fun hc=>hk.fit ax hc) (ek.below (ae.mono bg)) (aQn bg ae.size) fun aV ag=>hA aV fun q A7=>(ag q (aQq A7 ae.size)).trans (ae.block q A7))
 have BI:=aa (fun (ax:Cy k=false) (hc:o7 k=0) (W:aRB) (A:aRC) (c:Nat) (DY:Rd W 1 A (oL k).length (cu (oL k)))=>show Calls prog 22 #[.slice A (oL k).length c] W fun e w'=>(∃ b,e = .returned (.bool b)/\(b=true->IK (oL k)))/\Bl W w' from
  aL0 W A c _ DY (by have:=agL (hk.ok ax) k.bZ.length (aQm _) (.inr (hk.fit ax hc));have:=(hk.ok ax).nN;show (sU k _).length<=100000;omega) (aL2 (hk.fit ax hc)))
 have BJ:=aa (fun (ax:Cy k=false) (hc:o7 k=0)=>show (oL k).length<=100000 from by have:=agL (hk.ok ax) k.bZ.length (aQm _) (.inr (hk.fit ax hc));have:=(hk.ok ax).nN;show (sU k _).length<=100000;omega);have Al:=aa Bu;have BK:=aa Bv;have DZ:=aa (fun (W:aRB) (g:Nat) (h:aM W g J 26)=>show W.cell? (ad g 0)=some (.slice jX jv kC) by rw [h.cell 0,Y,Aw,Ay,Az];rfl);have Da:J.set 0 (.slice jX jv kC)=J:=by rw [Y,Aw,Ay,Az];rfl
 have Db:J.set 3 (.bool true)=I:=by rw [Y,M];rfl
 have EW:(Value.slice jX jv kC).cells.toList=[Value.slice jX jv kC]:=rfl;have Dc:=aa M;rw [<- Y];have EY:=Ai.symm;obtain⟨G,BL⟩:=ai (Cy k);rw [<- BL] at BA BF BG BH BI BJ;have De:=aa BL;clear Ai Bu Bv Y M Aw Ay Az hk hA ek bg BL;cases G with
 | true =>
  go_enter func6,ntmps6;go_wp2_with (first
   | ((with_reducible refine KW w.heap.size 0 J J _ BK.o C8 _ underlying26 Ak ?_ ?_);exact⟨⟨_,_,rfl,rfl,rfl⟩,rfl,rfl⟩)
   | (go_at_call 19; refine (BA.o aF Al.o).mono ?_;rintro e af ⟨rfl,AV⟩;have BM:=aa (aR Al.o AV);clear AV))
  refine aQx (aQT rfl _ _ _) rfl ?_;exact⟨BM.o,_,_,rfl,fun h=>by cases h⟩
 | false =>
  have BO:=aa (BH.o rfl);have BP:=aa (BG.o rfl);have Df:=aa (BJ.o rfl);have Dg:=aa (BI.o rfl);clear BH BG BJ BI;go_enter func6,ntmps6;go_upto_region 5 with (first
   | ((with_reducible refine KW w.heap.size 0 J J _ BK.o C8 _ underlying26 Ak ?_ ?_);exact⟨⟨_,_,rfl,rfl,rfl⟩,rfl,rfl⟩)
   | (go_at_call 19; refine (BA.o aF Al.o).mono ?_;rintro e af ⟨rfl,AV⟩;have BM:=aa (aR Al.o AV);have CE:=aa (BK.o.all AV);have R4:=DZ.o af w.heap.size CE.o;clear AV))
  go_wp2_with fail;obtain⟨aC,Am,g3,BQ⟩:=nq2 (af.alloc (.cells #[.slice jX jv kC] 22)) af.heap.size;rw [<- Am,<- BQ];have BX:=gQ Am;have CJ:aC.cell? (ad g3 0)=some (.slice jX jv kC):=by rw [Am,BQ];exact (aM.new af [.slice jX jv kC] 22).cell 0
  have Dh:=aa CJ;have Dk:=aa (CE.o.all BX);have CK:=aa (aR BM.o BX);clear Am BQ BX CJ R4;go_loopg [26,6,7] 1 (fun gk CL CS CU wr=>(gk=1/\CL = .int .i64 0/\CS = .slice none 0 0/\CU = .slice none 0 0/\wr=aC)\/(gk=0/\CL = .int .i64 1/\o7 k=0/\∃ (A:aRC) (c:Nat) (B:aRC) (d:Nat),CS = .slice A 1 c/\CU = .slice B (oL k).length d/\Own wr w.heap.size 26 4 A 1 c I/\Own wr w.heap.size 9 1 B (oL k).length d (cu (oL k))/\Bl w wr));case atStart=>exact .inl ⟨rfl,rfl,rfl,rfl,rfl⟩
  case round =>
   obtain⟨Dl,rfl,rfl,rfl,rfl⟩ | ⟨Dl,rfl,hc,A,c,B,d,rfl,rfl,CV,CW,CZ⟩:=hrel
   ·have bF:=Dh.o;go_upto_region 10 with (first
     | (with_reducible refine kv Dk.o underlying26 Ak ?_)
     | ((with_reducible refine rP J Bw Ak DW ?_);intro Dm Dp Ca;obtain⟨g4,Bb⟩:=ai wr.heap.size;rw [<- Bb] at Ca |-;have Ao:=aa (aR CK.o Dp.o);have Cb:=aa (show w.heap.size<=g4 by rw [Bb];exact CK.o.size);clear Bb bF)
     | ((with_reducible refine BU 0 (.slice jX jv kC) Ca.o aL4 om rfl Da ?_);intro EZ Ce Cf;have Dq:=aa Ce;have Dr:=aa (oF Ao.o Cf Cb.o);clear Ce Cf)
     | ((with_reducible refine BU 3 (.bool true) Dq.o aL5 om rfl Db ?_);intro Cg Ci Ck;have Ap:=aa Ci;have Aa:=aa (oF Dr.o Ck Cb.o);clear Ci Ck))
    obtain⟨Aq,Bc⟩:∃ x:Int,x=o7 k:=⟨_,rfl⟩;rw [<- Bc] at BP;by_cases hc:o7 k=0
    ·have Ab:Aq=0:=om;subst Ab;have AZ:=aa hc;have Cm:=aa (Df.o hc);obtain⟨n,AL⟩:=ai ((oL k).length);rw [<- AL] at Cm BO;have Ec:=Cm.o;have Cn:=aa AL;clear hc Bc AL;go_upto_region 13 with (first
     | (with_reducible refine kv Ap.o underlying26 AJ ?_)
     | (go_at_call 20; go_loud (refine (BO.o Cg Aa.o).mono ?_;rintro e Bd ⟨AO,hm,_⟩;obtain⟨B,d,rfl,Co⟩:=hm AZ.o;have Dt:=aa (Co.mono Aa.o.size);have Ad:=aa (Ap.o.all AO);have Ae:=aa (aR Aa.o AO);clear AO hm Co))
     | (with_reducible refine kv Ad.o underlying26 AJ ?_)
     | (go_at_call 19; refine (BF.o Bd Ae.o).mono ?_;rintro e Bf ⟨rfl,AA⟩;have Af:=aa (Ad.o.all AA);have Ag:=aa (aR Ae.o AA);have Dx:=aa (Dt.o.below AA (aQm _));clear AA)
     | ((with_reducible refine KW g4 0 I I _ Af.o C9 _ underlying26 AJ ?_ ?_);exact⟨⟨_,_,rfl,rfl,rfl⟩,rfl,rfl⟩)
     | (go_at_call 21; refine (BP.o Bf Ag.o).mono ?_;rintro e Bi ⟨rfl,AB⟩;have Cs:=aa (Af.o.all AB);have Au:=aa (aR Ag.o AB);have Bn:=aa (Dx.o.below AB (aQm _));clear AB)
)
     go_wp2_with (first
     | (at_builtin;have _t:=Bn;go_must ((with_reducible refine ve 9 _ 1 16 underlying24 Av.info Av.zs w.heap.size none 0 0 [] (Own.nil _ _ _ _) n (cu (oL k)) (.slice B n d) (Src.slice underlying24 Bn.o.rd) (aaL _) ?_ ?_ ?_ ?_ ?_);exact mO;omega;exact Au.o.size;exact⟨rfl,rfl⟩;intro Dy Dz Ct AP Ah Bo;have Bp:Bl Bi Ct:=(Below.refl _ _).grown Ah (aQm _) (fun k e=>by cases e);rw [Nat.zero_add,List.nil_append] at AP;rw [Nat.zero_add];have E8:=aa AP;have E9:=aa (Cs.o.all Bp);have EB:=aa (aR Au.o Bp);clear AP Ah Bo Bp Bn))
     | (with_reducible refine kv E9.o underlying26 AJ ?_)
     | ((with_reducible refine BV anp (.agg I.toArray) DR rfl ?_);intro Cv Bq Br;rw [qD] at Bq;have Cw:=aa Bq;have ED:=aa (E8.o.below Br (aQm _));have Cz:=aa (aR EB.o Br);clear Bq Br)
     | (at_builtin;have _t:=Cw;go_must ((with_reducible refine ve 26 _ 4 80 underlying29 anp.info anp.zs w.heap.size none 0 0 [] (Own.nil _ _ _ _) 1 I (.slice (some ⟨Ct.heap.size,0,none⟩) 1 1) (Src.slice underlying29 Cw.o) DX ?_ ?_ ?_ ?_ ?_);exact mO;omega;exact Cz.o.size;exact⟨rfl,rfl⟩;intro EG EH EI AP Ah Bo;have Bt:Bl Cv EI:=(Below.refl _ _).grown Ah (aQm _) (fun k e=>by cases e);rw [List.nil_append] at AP;have EK:=aa AP;have EL:=aa (ED.o.below Bt (aQm _));have EM:=aa (aR Cz.o Bt);clear AP Ah Bo Bt)))
     go_roundg 0;case rel =>
      refine .inr ⟨rfl,by go_num,AZ.o,EG,EH,Dy,Dz,?_,?_,EK.o,?_,EM.o⟩
      ·rfl
      ·rw [<- Cn.o]
      ·rw [<- Cn.o];exact EL.o
     case measure=>omega
    ·have Ab:Aq≠0:=om;have Ee:(Aq != 0)=true:=by simpa using Ab
     have Eg:decide (Aq=0)=false:=aRd Ab;have AZ:=aa hc;clear hc Bc Ab;go_wp2_with (first
     | (with_reducible refine kv Ap.o underlying26 AJ ?_)
     | (go_at_call 20; refine (BO.o Cg Aa.o).mono ?_;rintro e Bd ⟨AO,_,hm⟩;obtain⟨Ei,Em,rfl⟩:=hm AZ.o;have Ad:=aa (Ap.o.all AO);have Ae:=aa (aR Aa.o AO);clear AO hm)
     | (with_reducible refine kv Ad.o underlying26 AJ ?_)
     | (go_at_call 19; refine (BF.o Bd Ae.o).mono ?_;rintro e Bf ⟨rfl,AA⟩;have Af:=aa (Ad.o.all AA);have Ag:=aa (aR Ae.o AA);clear AA)
     | ((with_reducible refine KW g4 0 I I _ Af.o C9 _ underlying26 AJ ?_ ?_);exact⟨⟨_,_,rfl,rfl,rfl⟩,rfl,rfl⟩)
     | (go_at_call 21; refine (BP.o Bf Ag.o).mono ?_;rintro e Bi ⟨rfl,AB⟩;have Cs:=aa (Af.o.all AB);have Au:=aa (aR Ag.o AB);clear AB)
)
     refine aQx (aQT rfl _ _ _) rfl ?_;exact⟨Au.o,_,_,rfl,fun h=>by cases h⟩
   ·obtain⟨EO,EP,ER⟩:=hq3 CV CW CZ;have DD:=aa (Dg.o hc wr B d EP.o.rd);have AZ:=aa hc;obtain⟨n,AL⟩:=ai ((oL k).length);rw [<- AL] at DD;rw [<- AL];clear CV CW CZ hc AL;go_wp2_with (go_at_call 22; refine DD.o.mono ?_;rintro e Dm ⟨⟨b,rfl,DF⟩,DL⟩;have EU:=aa DF;have Ao:=aa DL;clear DF DL);refine aQx (aQT rfl _ _ _) rfl ?_;refine⟨aR ER.o Ao.o,_,_,rfl,fun h=>⟨De.o.symm,AZ.o,EU.o h,A,c,rfl,?_⟩⟩;rw [<- Dc.o];exact EO.o.below Ao.o (aQm _)
end
section
def wE:ak:=[111,117,116,47,120]
def y5:ak:=[49,10]
def zO:ak:=[114,101,97,100,32,97,10,119,114,105,116,101,32,111,117,116,47,120,10]
def tO:kI:=⟨zO,[],[[97]],[],[wE]⟩
def pM (L:vv):jo:=⟨[([97],y5)],[(L,tO)],[wE]⟩
def anx:aJ:=aJ.start (qx eF (jP zO))
def anz:Env:=⟨eF,[]⟩
def QB:aJ:=anx.run anz 1
def BC:dz:=⟨[97],true,y5⟩
def anA:aJ:=(QB.next.gave BC).2
def Yp:aJ:=anA.run anz 2
def acy:aJ:=Yp.next.run anz 1
theorem aMj:(pR eF zO).1=0:=kr
theorem agO:(qw QB).kind=1/\(qw QB).path=[97]/\QB.waits=true:=⟨kr,kr,kr⟩
theorem aMk:(QB.next.gave BC).1=0:=kr
theorem aMl:Yp.over=⟨2,wE,y5,0⟩:=kr
theorem aMm:acy.over.kind=3:=kr
theorem aMn:qw Yp=⟨2,wE,y5,0⟩:=kr
theorem axy:(qw acy).kind=3:=kr
theorem aMo:xA (kZ tO).v anx=QB:=Lg (n:=1) (.inr agO.2.2)
theorem aMp:xA (kZ tO).v anA=Yp:=Lg (n:=2) (.inl (by show Yp.over.kind≠0;rw [aMl];decide))
theorem aMq:xA (kZ tO).v Yp.next=acy:=Lg (n:=1) (.inl (by show acy.over.kind≠0;rw [aMm];decide))
theorem aMr:(kZ tO).may [97]=true:=kr
theorem aMs:wE∈(kZ tO).outs:=by simp [kZ,tO]
theorem aMt:(kZ tO).outs.all (fun p=>(getM (oz ([]:fu ak) wE y5) p).isSome)=true:=kr
theorem aMu:oz ([]:fu ak) wE y5=[(wE,y5)]:=kr
theorem anB:dA.start (kZ tO) zO=⟨QB.next,[],[],[97],false,0⟩:=by unfold dA.start;rw [if_pos aMj,show (402:Nat)=401+1 from rfl,rz];simp only [Bool.false_eq_true,if_false];rw [show aJ.start (qx eF (jP zO))=anx from rfl,aMo,agO.1,if_pos rfl,dA.did,agO.1,if_pos rfl,agO.2.1,if_pos aMr]
theorem axz:dA.mE (kZ tO) ⟨QB.next,[],[],[97],false,0⟩ BC=⟨acy.next,[(wE,y5)],[iA BC],[97],true,0⟩:=by unfold dA.mE;rw [if_neg (by simp [BC,y5])];simp only;rw [if_neg (by rw [aMk];simp),show (402:Nat)=401+1 from rfl,rz];simp only [Bool.false_eq_true,if_false];rw [show (QB.next.gave BC).2=anA from rfl,aMp,aMn];simp only [show (2:Nat)≠1 by decide,if_false];rw [dA.did];simp only [show (2:Nat)≠1 by decide,if_false,if_true];rw [if_neg (by simp [getM,aMs]),show (401:Nat)=400+1 from rfl,rz];simp only [Bool.false_eq_true,if_false];rw [aMq,axy];simp only [show (3:Nat)≠1 by decide,if_false];rw [dA.did,axy];simp only [show (3:Nat)≠1 by decide,show (3:Nat)≠2 by decide,if_false,if_true];rw [if_pos aMt,aMu,show (400:Nat)=399+1 from rfl,rz];simp only [if_true];rfl
theorem aMv {w:pV} {a:ML} {A:ak->EN} {n:Nat} {s:a.S} {rs:List kJ} (h:a.asks s=none):mF w a A (n+1) s rs=(true,a.out s):=by rw [mF,h]
theorem aMw {w:pV} {a:ML} {A:ak->EN} {n:Nat} {s:a.S} {rs:List kJ} {p:ak} {k:dz} (h:a.asks s=some p) (hA:A p = .known k):mF w a A (n+1) s rs=mF w a A n (a.mE s k) (rs++[w.sum k]):=by rw [mF,h];simp only;rw [hA]
theorem axA (L:vv):Ji (pM L).W 0=(true,⟨1,0,[(wE,y5)],[iA BC]⟩):=by
 have hm:(pM L).W.kK [97]=none:=kr;have hf:(pM L).W.file [97]=BC:=kr;have hA:fI (pM L).W [97] = .known BC:=by unfold fI vX;rw [hm,hf]
 have I:mF (pM L).W (Lh (kZ tO) zO) (fI (pM L).W) (501+1) (Lh (kZ tO) zO).start []=mF (pM L).W (Lh (kZ tO) zO) (fI (pM L).W) (500+1) ((Lh (kZ tO) zO).mE (Lh (kZ tO) zO).start BC) ([]++[(pM L).W.sum BC]):=aMw (by
  show (if (dA.start (kZ tO) zO).over=true then none else some (dA.start (kZ tO) zO).asks)=some [97];rw [anB];rfl) hA
 have J:=aMv (w:=(pM L).W) (a:=Lh (kZ tO) zO) (A:=fI (pM L).W) (n:=500) (s:=(Lh (kZ tO) zO).mE (Lh (kZ tO) zO).start BC) (rs:=[]++[(pM L).W.sum BC]) (by
  show (if (dA.mE (kZ tO) (dA.start (kZ tO) zO) BC).over=true then none else some (dA.mE (kZ tO) (dA.start (kZ tO) zO) BC).asks)=none;rw [anB,axz];rfl)
 show mF (pM L).W (Lh (kZ tO) zO) (fI (pM L).W) (501+1) (Lh (kZ tO) zO).start []=_;rw [I,J];show (true,dA.out (dA.mE (kZ tO) (dA.start (kZ tO) zO) BC))=_;rw [anB,axz];rfl
theorem axB (L:vv):bE (pM L).W 0=⟨1,0,[(wE,y5)],[iA BC]⟩:=by rw [bE,axA]
theorem anC (L:vv):o7 (pM L)=0:=kr
theorem axC (L:vv):Cy (pM L)=false:=kr
theorem axD (L:vv):L9 (pM L):=by refine⟨⟨?_,?_,?_,?_,?_⟩,?_,?_⟩;all_goals simp [pM,tO,wE,y5,zO]
theorem aMx:(bN.sum y5 == bN.sum (vU tO))=false:=kr
theorem aMy (L:vv):oL (pM L)=[y5,vU tO,y5]:=by show [y5]++(List.range 1).flatMap (GZ (pM L))=_;rw [show List.range 1=[0] from rfl,List.flatMap_cons,List.flatMap_nil,List.append_nil,GZ,axB];rfl
theorem aMz (L:vv):IK (oL (pM L)):=by have I:=beq_eq_false_iff_ne.1 aMx;rw [aMy];intro a J b ae e;simp only [List.mem_cons,List.not_mem_nil,or_false] at J ae;rcases J with rfl | rfl | rfl <;> rcases ae with rfl | rfl | rfl <;> first | rfl | exact absurd e I | exact absurd e.symm I
end
section
open Go.RowKit Go.Shelf
theorem axE (w:aRB) (A B:aRC) (c d n:Nat) (xs:List (ak × ak)) (hA:Rd w 2 A n (cz fO xs)) (bg:Rd w 2 B n (cz fO xs)) (ah:xs.length=n) (aB:n<=1000000) (hs:∀ x∈xs,x.1.length<=maxLen/\x.2.length<=maxLen) :
  CB 32 #[.slice A n c,.slice B n d] w (.bool true):=by
 obtain⟨AO,AP,J,Aa⟩:=hq4 hA bg ah hs;clear hA bg ah hs;go_enter func32,ntmps32;go_wp2_with fail;go_loopg [13] n (fun gk Ab wr=>∃ j:Nat,j+gk=n/\Ab = .int .i64 j/\Bl w wr);case atStart=>exact⟨0,om,rfl,Below.refl _ _⟩
 case round =>
  obtain⟨j,aD,rfl,I⟩:=hrel;have Ai:(0:Int)<=j:=om;by_cases Ad:j < n
  ·have Ae:(j:Int) < n:=om;obtain⟨x,ah⟩:∃ x,xs[j]?=some x:=⟨_,aQp (by rw [J.o];exact Ad)⟩;have Y:=Aa.o x (aQr ah);have A7:=aa (aDC x Y.1 Y.2).run;obtain⟨eP,AA,rfl,_⟩:=vE (f:=fO) (k:=2) Sk underlying65 rfl kr (AO.o.gp I) ah J.o;obtain⟨AB,AJ,rfl,_⟩:=vE (f:=fO) (k:=2) Sk underlying65 rfl kr (AP.o.gp I) ah J.o;obtain⟨X,aY⟩:=ai (fO x);have AV:=aa (fun af (ae:Bl wr af)=>show (loadVar 65 ⟨eP,AA+j * 2,none⟩).run prog af = .ok (.agg X.toArray) af by
    obtain⟨b,o,e,h⟩:=vE (f:=fO) (k:=2) Sk underlying65 rfl kr (AO.o.gp (aR I ae)) ah J.o;cases e;rw [aY];exact h)
   have AZ:=aa (fun af (ae:Bl wr af)=>show (loadVar 65 ⟨AB,AJ+j * 2,none⟩).run prog af = .ok (.agg X.toArray) af by
    obtain⟨b,o,e,h⟩:=vE (f:=fO) (k:=2) Sk underlying65 rfl kr (AP.o.gp (aR I ae)) ah J.o;cases e;rw [aY];exact h)
   rw [show [.string (az x.1),.string (az x.2)]=fO x from rfl,<- aY] at A7;have AL:=aa I;clear ah aY I Y;go_upto_region 6 with fail
   have kE:=aa fun af (aj:Bl wr af)=>And.intro (AV.o af aj) (And.intro (AZ.o af aj) ((A7.o af).2));refine ng nE 9 [some (.slice (some ⟨eP,AA,none⟩) n c),some (.int .i64 j),some (.pointer (some ⟨eP,AA+j * 2,none⟩)),some (.agg X.toArray),some (.slice (some ⟨AB,AJ,none⟩) n d),some (.int .i64 j),some (.pointer (some ⟨AB,AJ+j * 2,none⟩)),some (.agg X.toArray),some (.bool false)] (fun _ _ _=>False) (Bl wr) Bl ((Below.refl _ wr).drew) (fun j v w1 af ae h=>h.elim) ?_ (jJ:=?_)
   ·intro u6 Ak aj Af;clear Af;have Ag:=aa (aR AL.o aj);clear aj;go_wp2_with fail;go_roundg (gk - 1);case rel=>exact⟨j+1,om,by go_num,Ag.o⟩
    case measure=>omega
   ·repeat' (first | exact trivial | apply And.intro)
    all_goals try exact rx
    all_goals intro eH u af aj aK bz K aS
    all_goals try simp [iY,Region.binds] at bz
    all_goals refine mf rfl ?_
    all_goals have c1:=AV.o af aj
    all_goals have c2:=AZ.o af aj
    all_goals have Ah:=(A7.o af).2
    ·refine KQ _ _ rfl c1 (by simp [Act.eval,aK,bz]) ?_;exact aS _ _ rfl aj (Below.refl _ _)
    ·refine KQ _ _ rfl c2 (by simp [Act.eval,aK,bz]) ?_;exact aS _ _ rfl aj (Below.refl _ _)
    ·unfold Oper.wp execOp;simp [Act.eval,aK,bz.1,bz.2,Ah,Result.andThen,eqGuard];exact aS _ _ rfl aj (Below.refl _ _)
  ·have Ae:¬ (j:Int) < n:=om;have AL:=aa I;clear I;go_wp2_with fail;go_ret;exact⟨rfl,AL.o⟩
theorem aMA (w:aRB) (A B:aRC) (c d n:Nat) (xs:List (kJ)) (hA:Rd w 34 A n (cz gZ xs)) (bg:Rd w 34 B n (cz gZ xs)) (ah:xs.length=n) (aB:n<=1000000) (hs:∀ x∈xs,x.path.length<=maxLen/\x.sum.length=32) :
  CB 54 #[.slice A n c,.slice B n d] w (.bool true):=by
 obtain⟨AO,AP,J,Aa⟩:=hq4 hA bg ah hs;clear hA bg ah hs;go_enter func54,ntmps54;go_wp2_with fail;go_loopg [13] n (fun gk Ab wr=>∃ j:Nat,j+gk=n/\Ab = .int .i64 j/\Bl w wr);case atStart=>exact⟨0,om,rfl,Below.refl _ _⟩
 case round =>
  obtain⟨j,aD,rfl,I⟩:=hrel;have Ai:(0:Int)<=j:=om;by_cases Ad:j < n
  ·have Ae:(j:Int) < n:=om;obtain⟨x,ah⟩:∃ x,xs[j]?=some x:=⟨_,aQp (by rw [J.o];exact Ad)⟩;have Y:=Aa.o x (aQr ah);have A7:=aa (arp x Y.1 Y.2).run;obtain⟨eP,AA,rfl,_⟩:=vE (f:=gZ) (k:=34) Ac underlying135 rfl kr (AO.o.gp I) ah J.o;obtain⟨AB,AJ,rfl,_⟩:=vE (f:=gZ) (k:=34) Ac underlying135 rfl kr (AP.o.gp I) ah J.o;obtain⟨X,aY⟩:=ai (gZ x);have AV:=aa (fun af (ae:Bl wr af)=>show (loadVar 135 ⟨eP,AA+j * 34,none⟩).run prog af = .ok (.agg X.toArray) af by
    obtain⟨b,o,e,h⟩:=vE (f:=gZ) (k:=34) Ac underlying135 rfl kr (AO.o.gp (aR I ae)) ah J.o;cases e;rw [aY];exact h)
   have AZ:=aa (fun af (ae:Bl wr af)=>show (loadVar 135 ⟨AB,AJ+j * 34,none⟩).run prog af = .ok (.agg X.toArray) af by
    obtain⟨b,o,e,h⟩:=vE (f:=gZ) (k:=34) Ac underlying135 rfl kr (AP.o.gp (aR I ae)) ah J.o;cases e;rw [aY];exact h)
   rw [<- aY] at A7;have AL:=aa I;clear ah aY I Y;go_upto_region 6 with fail
   have kE:=aa fun af (aj:Bl wr af)=>And.intro (AV.o af aj) (And.intro (AZ.o af aj) ((A7.o af).2));refine ng nE 9 [some (.slice (some ⟨eP,AA,none⟩) n c),some (.int .i64 j),some (.pointer (some ⟨eP,AA+j * 34,none⟩)),some (.agg X.toArray),some (.slice (some ⟨AB,AJ,none⟩) n d),some (.int .i64 j),some (.pointer (some ⟨AB,AJ+j * 34,none⟩)),some (.agg X.toArray),some (.bool false)] (fun _ _ _=>False) (Bl wr) Bl ((Below.refl _ wr).drew) (fun j v w1 af ae h=>h.elim) ?_ (jJ:=?_)
   ·intro u6 Ak aj Af;clear Af;have Ag:=aa (aR AL.o aj);clear aj;go_wp2_with fail;go_roundg (gk - 1);case rel=>exact⟨j+1,om,by go_num,Ag.o⟩
    case measure=>omega
   ·repeat' (first | exact trivial | apply And.intro)
    all_goals try exact rx
    all_goals intro eH u af aj aK bz K aS
    all_goals try simp [iY,Region.binds] at bz
    all_goals refine mf rfl ?_
    all_goals have c1:=AV.o af aj
    all_goals have c2:=AZ.o af aj
    all_goals have Ah:=(A7.o af).2
    ·refine KQ _ _ rfl c1 (by simp [Act.eval,aK,bz]) ?_;exact aS _ _ rfl aj (Below.refl _ _)
    ·refine KQ _ _ rfl c2 (by simp [Act.eval,aK,bz]) ?_;exact aS _ _ rfl aj (Below.refl _ _)
    ·unfold Oper.wp execOp;simp [Act.eval,aK,bz.1,bz.2,Ah,Result.andThen,eqGuard];exact aS _ _ rfl aj (Below.refl _ _)
  ·have Ae:¬ (j:Int) < n:=om;have AL:=aa I;clear I;go_wp2_with fail;go_ret;exact⟨rfl,AL.o⟩
def BD (x:Option iN × lK):List Value:=uU x.1 x.2
theorem VP (x:Option iN × lK):(BD x).length=4:=SL _ _
theorem axF (x:Option iN × lK):(prog.info? 63).map (·.size)=some (BD x).length:=by rw [VP];exact kr
theorem axG (x:Option iN × lK):∀ v∈BD x,v.oneCell'=true:=by obtain⟨o,L⟩:=x;cases o <;> simp [BD,uU,jm,iG,Value.oneCell']
theorem aMB (w:aRB) (A B:aRC) (c d n:Nat) (xs:List (Option iN × lK)) (ys:List (Option iN × lK)) (hA:Rd w 4 A n (cz BD xs)) (bg:Rd w 4 B n (cz BD ys)) (ah:xs.length=n) (hy:ys.length=n) (aB:n<=1000000) (f:Nat) (iC:Array Value) (vw:Enters prog f)
  (hf:∀ W,Bl w W->∀ (k:Nat) x y,xs[k]?=some x->ys[k]?=some y->Calls prog f (#[.agg (BD x).toArray,.agg (BD y).toArray]++iC) W fun e w'=>e = .returned (.bool true)/\Bl W w') :
  CB 30 #[.slice A n c,.slice B n d,.func (.func f) #[] iC] w (.bool true):=by
 have BX:∀ (args:Array Value) (w:aRB),(callFunc f args).run prog w = .ok (.enter f args) w:=vw;obtain⟨Am,Ao,AV,AZ,Ap⟩:=hq5 hA bg ah hy hf;clear hA bg ah hy hf vw;go_enter func30,ntmps30;go_wp2_with fail;go_loopg [17] n (fun gk Aq wr=>∃ j:Nat,j+gk=n/\Aq = .int .i64 j/\Bl w wr);case atStart=>exact⟨0,om,rfl,Below.refl _ _⟩
 case round =>
  obtain⟨j,aD,rfl,M⟩:=hrel;have Bb:(0:Int)<=j:=om;by_cases Aa:j < n
  ·have Au:(j:Int) < n:=om;obtain⟨x,ah⟩:∃ x,xs[j]?=some x:=⟨_,aQp (by rw [AV.o];exact Aa)⟩;obtain⟨y,hy⟩:∃ y,ys[j]?=some y:=⟨_,aQp (by rw [AZ.o];exact Aa)⟩;obtain⟨eP,Bc,rfl,AB⟩:=vE (f:=BD) (k:=4) VP underlying63 rfl kr (Am.o.gp M) ah AV.o;obtain⟨X,I⟩:=ai (BD x);obtain⟨Aw,A7⟩:=ai (wr.alloc (.cells X.toArray 63));have Ab:=gQ A7;have Ad:=lH A7;have AJ:=aR M Ab;have Ae:Sz 63 X.length:=by rw [I];exact axF x
   have Ay:X.length=4:=by rw [I];exact (VP) x
   have Az:∀ v∈X,v.oneCell'=true:=by rw [I];exact axG x
   have Bd:(X.drop 0).take X.length=X:=by simp
   obtain⟨Bf,Bi,rfl,AL⟩:=vE (f:=BD) (k:=4) VP underlying63 rfl kr (Ao.o.gp AJ) hy AZ.o;obtain⟨Y,J⟩:=ai (BD y);obtain⟨bS,AA⟩:=ai (Aw.alloc (.cells Y.toArray 63));have AO:=gQ AA;have Af:=lH AA;have Ag:=Ad.all AO;have Ah:=aR AJ AO;have Ai:Sz 63 Y.length:=by rw [J];exact axF y
   have BA:Y.length=4:=by rw [J];exact (VP) y
   have BF:∀ v∈Y,v.oneCell'=true:=by rw [J];exact axG y
   have Bn:(Y.drop 0).take Y.length=Y:=by simp
   have AP:=fun W (ae:Bl w W)=>Ap.o W ae j x y ah hy;rw [<- I,<- J] at AP;rw [<- I] at AB;rw [<- J] at AL;obtain⟨BG,BH,BI,BJ,Ak,BK⟩:=hq6 AB AL Ag Af Ah AP;have BL:=A7.symm;have BM:=AA.symm;obtain⟨g3,BO⟩:=ai wr.heap.size;clear AB AL Ad Af Ag AJ Ah ah hy I J AP A7 AA M Ab AO BO;go_wp2_with (first
    | ((with_reducible refine pY BG.o ?_ ?_);exact rfl)
    | (with_reducible refine zo X Ay Ae Az ?_)
    | ((with_reducible refine pY BH.o ?_ ?_);exact rfl)
    | (with_reducible refine zo Y BA Ai BF ?_)
    | (with_reducible refine kv BI.o underlying63 Ae ?_)
    | (with_reducible refine kv BJ.o underlying63 Ai ?_)
    | (refine (BK.o bS Ak.o).mono ?_;rintro e Bo ⟨rfl,Al⟩;have BP:=aa (aR Ak.o Al);clear Al BL BM))
   go_roundg (gk - 1);case rel=>exact⟨j+1,om,by go_num,BP.o⟩
   case measure=>omega
  ·have Au:¬ (j:Int) < n:=om;have BQ:=aa M;clear M;go_wp2_with fail;go_ret;exact⟨rfl,BQ.o⟩
end
section
open Go.Maps Go.RowKit Go.Shelf
structure QC (W:aRB) (g:Option iN) (L:lK):Prop where
 outs:∀ o,g=some o->Rd W 2 L.A o.outs.length (cz fO o.outs)/\Rd W 34 L.B o.reads.length (cz gZ o.reads)
def agP (g:Option iN):Prop:=∀ o,g=some o->o.outs.length<=1000000/\o.reads.length<=1000000/\(∀ x∈o.outs,x.1.length<=maxLen/\x.2.length<=maxLen)/\∀ x∈o.reads,x.path.length<=maxLen/\x.sum.length=32
theorem QC.all {W':aRB} {g:Option iN} (h:QC W g L) (ae:Bl W W'):QC W' g L:=⟨fun o e=>⟨(h.outs o e).1.gp ae,(h.outs o e).2.gp ae⟩⟩
theorem QC.ex {g:Option iN} {il:lK} (h:QC W g L) (ag:QC W g il) (aG:agP g):∃ (fQ gM:Int) (xs:List (ak × ak)) (rs:List kJ) (A iD:aRC) (c c2:Nat) (B rX:aRC) (d d2:Nat),
  BD (g,L)=[.int .i64 fQ,.int .i64 gM,.slice A xs.length c,.slice B rs.length d]/\BD (g,il)=[.int .i64 fQ,.int .i64 gM,.slice iD xs.length c2,.slice rX rs.length d2]/\Rd W 2 A xs.length (cz fO xs)/\Rd W 2 iD xs.length (cz fO xs)/\Rd W 34 B rs.length (cz gZ rs)/\Rd W 34 rX rs.length (cz gZ rs) /\
  xs.length<=1000000/\rs.length<=1000000/\(∀ x∈xs,x.1.length<=maxLen/\x.2.length<=maxLen)/\∀ x∈rs,x.path.length<=maxLen/\x.sum.length=32:=by
 cases g with
 | none=>exact⟨0,0,[],[],none,none,0,0,none,none,0,0,rfl,rfl,(Own.nil W 0 3 2).rd,(Own.nil W 0 3 2).rd,(Own.nil W 0 3 34).rd,(Own.nil W 0 3 34).rd,dc,dc,fun x ah=>(by cases ah),fun x ah=>(by cases ah)⟩
 | some o =>
  obtain⟨I,J,M,Y⟩:=aG o rfl;exact⟨o.kind,o.why,o.outs,o.reads,L.A,il.A,L.c,il.c,L.B,il.B,L.d,il.d,rfl,rfl,(h.outs o rfl).1,(ag.outs o rfl).1,(h.outs o rfl).2,(ag.outs o rfl).2,I,J,M,Y⟩
theorem aMC (w:aRB) (g:Option iN) (L il:lK) (h:QC w g L) (ag:QC w g il) (aG:agP g) :
  CB 31 #[.agg (BD (g,L)).toArray,.agg (BD (g,il)).toArray] w (.bool true):=by
 obtain⟨I,gM,xs,rs,A,iD,c,c2,B,rX,d,d2,AL,AO,AP,AV,AZ,Aa,Ab,Ad,s1,s2⟩:=h.ex ag aG;rw [AL,AO];obtain⟨n,AB,m,hm⟩:=nq2 xs.length rs.length;have Ai:=aa (fun W (ae:Bl w W)=>show CB 32 #[.slice A n c,.slice iD n c2] W (.bool true) from by
  rw [AB];exact axE W A iD c c2 _ xs (AP.gp ae) (AV.gp ae) rfl Ab s1)
 have Ak:=aa (fun W (ae:Bl w W)=>show CB 54 #[.slice B m d,.slice rX m d2] W (.bool true) from by
  rw [hm];exact aMA W B rX d d2 _ rs (AZ.gp ae) (Aa.gp ae) rfl Ad s2)
 rw [<- AB,<- hm];obtain⟨aF,A7⟩:=ai (w.alloc (.cells #[.int .i64 I,.int .i64 gM,.slice A n c,.slice B m d] 63));obtain⟨aV,J⟩:=ai (aF.alloc (.cells #[.int .i64 I,.int .i64 gM,.slice iD n c2,.slice rX m d2] 63));have Ae:Bl w aV:=by rw [J,A7];exact gK.alloc sp _
 have M:aM aV w.heap.size [.int .i64 I,.int .i64 gM,.slice A n c,.slice B m d] 63:=by rw [J,A7];exact (aM.new w [.int .i64 I,.int .i64 gM,.slice A n c,.slice B m d] _).all gK
 have Y:aM aV aF.heap.size [.int .i64 I,.int .i64 gM,.slice iD n c2,.slice rX m d2] 63:=by rw [J];exact aM.new aF _ _
 have AJ:=aa Ae;have Af:=aa (fun W (ae:Bl aV W)=>show W.cell? (ad w.heap.size 0)=some (.int .i64 I)/\W.cell? (ad w.heap.size 1)=some (.int .i64 gM)/\W.cell? (ad w.heap.size 2)=some (.slice A n c)/\W.cell? (ad w.heap.size 3)=some (.slice B m d) from ⟨(M.all ae).cell 0,(M.all ae).cell 1,(M.all ae).cell 2,(M.all ae).cell 3⟩);have Ag:=aa (fun W (ae:Bl aV W)=>show W.cell? (ad aF.heap.size 0)=some (.int .i64 I)/\W.cell? (ad aF.heap.size 1)=some (.int .i64 gM)/\W.cell? (ad aF.heap.size 2)=some (.slice iD n c2)/\W.cell? (ad aF.heap.size 3)=some (.slice rX m d2) from ⟨(Y.all ae).cell 0,(Y.all ae).cell 1,(Y.all ae).cell 2,(Y.all ae).cell 3⟩);obtain⟨Aq,Au,Aw,Al⟩:=Af.o aV (Below.refl _ _);obtain⟨Ay,Az,BA,Am⟩:=Ag.o aV (Below.refl _ _);have BF:=A7.symm;have BG:=J.symm;clear A7 J Ae M Y AB hm h ag aG AL AO AP AV AZ Aa Ab Ad s1 s2;go_enter func31,ntmps31;go_wp2_with (first
  | (go_at_call 32; refine (Ai.o aV AJ.o).mono ?_;rintro e aC ⟨rfl,AA⟩;have Ah:=aa AA;obtain⟨_,_,_,Al⟩:=Af.o aC AA;obtain⟨_,_,_,Am⟩:=Ag.o aC AA;clear AA)
  | (go_at_call 54; refine jw (Ak.o aC (aR AJ.o Ah.o)) ?_;intro BH Ao))
 go_ret;have Ap:=aR AJ.o Ah.o;exact⟨rfl,aR Ap Ao.o⟩
structure J9 (W:aRB) (n:Nat) (G:Nat->Option iN) (fs:List (ak × ak)) (jA:Nat) (jX:aRC):Prop where
 outs:∃ OL:Nat->lK,Rd W 4 (some ⟨jA,0,none⟩) n (cz BD ((List.range n).map fun i=>(G i,OL i)))/\∀ i,i < n->QC W (G i) (OL i)
 files:Rd W 2 jX fs.length (cz fO fs)
theorem J9.all {W':aRB} {n:Nat} (h:J9 W n G fs jA jX) (ae:Bl W W'):J9 W' n G fs jA jX:=by obtain⟨OL,h1,I⟩:=h.outs;exact⟨⟨OL,h1.gp ae,fun i J=>(I i J).all ae⟩,h.files.gp ae⟩
theorem aMD (σ:bI) (OL:Nat->lK) (n:Nat):uV σ OL n=cz BD ((List.range n).map fun i=>(σ.got i,OL i)):=by unfold uV cz;rw [List.flatMap_map];rfl
theorem VM.rep {n:Nat} {L:ab1} (h:VM W B n σ aW fs L):J9 W n σ.got fs L.jA L.jX:=by
 obtain⟨OL,h1,I⟩:=h.outs;refine⟨⟨OL,⟨?_,fun _=>⟨_,_,rfl,fun j u hu=>?_⟩⟩,fun i _=>⟨fun o e=>⟨(I i o e).outs.rd,(I i o e).reads.rd⟩⟩⟩,h.files.rd⟩
 ·rw [adQ VP,List.length_map,List.length_range]
 ·rw [<- aMD] at hu;rw [Nat.zero_add];exact (h1.cell j).trans hu
structure anD (n:Nat) (G:Nat->Option iN) (fs:List (ak × ak)):Prop where
 cap:n<=1000000
 got:∀ i,i < n->agP (G i)
 jv:fs.length<=1000000
 Lm:∀ x∈fs,x.1.length<=maxLen/\x.2.length<=maxLen
theorem aME (w:aRB) {n:Nat} {N8:Nat} {Me:aRC} (h:J9 w n G fs jA jX) (ag:J9 w n G fs N8 Me) (aG:anD n G fs) (v1 v2 u1 u2:Value) (aZ:v1.oneCell'=true/\v2.oneCell'=true/\u1.oneCell'=true/\u2.oneCell'=true) (kC N9:Nat) :
  CB 16 #[.agg #[.slice (some ⟨jA,0,none⟩) n n,v1,v2,.slice jX fs.length kC],.agg #[.slice (some ⟨N8,0,none⟩) n n,u1,u2,.slice Me fs.length N9]] w (.bool true):=by
 obtain⟨m,hm⟩:=ai fs.length;have AO:=aa (fun W (ae:Bl w W)=>show CB 30 #[.slice (some ⟨jA,0,none⟩) n n,.slice (some ⟨N8,0,none⟩) n n,.func (.func 31) #[] #[]] W (.bool true) from by
  obtain⟨OL,Y,AP⟩:=(h.all ae).outs;obtain⟨AV,AZ,Aa⟩:=(ag.all ae).outs;refine aMB W _ _ _ _ n _ _ Y AZ sp sp aG.cap 31 #[] (enters_of func31 kr rfl) fun aV I k x y ah hy=>?_;have hk:k < n:=by have:=(aQs.1 ah).1;simpa using this
  rw [List.getElem?_map,List.getElem?_range hk] at ah hy;cases ah;cases hy;exact aMC aV (G k) (OL k) (AV k) ((AP k hk).all I) ((Aa k hk).all I) (aG.got k hk))
 have Ab:=aa (fun W (ae:Bl w W)=>show CB 32 #[.slice jX m kC,.slice Me m N9] W (.bool true) from by
  rw [hm];exact axE W _ _ _ _ _ fs (h.all ae).files (ag.all ae).files rfl aG.jv aG.Lm)
 rw [<- hm];obtain⟨aF,M⟩:=ai (w.alloc (.cells #[.slice (some ⟨jA,0,none⟩) n n,v1,v2,.slice jX m kC] 39));obtain⟨aV,J⟩:=ai (aF.alloc (.cells #[.slice (some ⟨N8,0,none⟩) n n,u1,u2,.slice Me m N9] 39));have I:Bl w aV:=by rw [J,M];exact gK.alloc sp _
 have A7:aM aV w.heap.size [.slice (some ⟨jA,0,none⟩) n n,v1,v2,.slice jX m kC] 39:=by rw [J,M];exact (aM.new w [.slice (some ⟨jA,0,none⟩) n n,v1,v2,.slice jX m kC] _).all gK
 have AA:aM aV aF.heap.size [.slice (some ⟨N8,0,none⟩) n n,u1,u2,.slice Me m N9] 39:=by rw [J];exact aM.new aF _ _
 have AB:=aa I;have Ad:=A7.cell 0;have Ae:=AA.cell 0;simp only [List.getElem?_cons_zero] at Ad Ae;have Af:=aa (fun W (ae:Bl aV W)=>show W.cell? (ad w.heap.size 3)=some (.slice jX m kC)/\W.cell? (ad aF.heap.size 3)=some (.slice Me m N9) from ⟨(A7.all ae).cell 3,(AA.all ae).cell 3⟩);have Ah:=M.symm;have Ai:=J.symm;clear M J I A7 AA hm h ag aG;go_enter func16,ntmps16;go_wp2_with (first
  | (go_at_call 30; refine (AO.o aV AB.o).mono ?_;rintro e aC ⟨rfl,AJ⟩;have AL:=aa AJ;obtain⟨Ak,Al⟩:=Af.o aC AJ;clear AJ)
  | (go_at_call 32; refine jw (Ab.o aC (aR AB.o AL.o)) ?_;intro Am Ag))
 go_ret;have Y:=aR AB.o AL.o;exact⟨rfl,aR Y Ag.o⟩
def Yq (g:Option iN):Nat:=match g with
 | some o=>o.kind
 | none=>0
theorem J9.kind {n:Nat} (h:J9 W n G fs jA jX) (ay:i < n):W.cell? ⟨jA,i * 4,none⟩=some (.int .i64 (Yq (G i))):=by
 obtain⟨OL,h1,_⟩:=h.outs;obtain⟨b,o,e,I⟩:=h1.2 om;cases e;have J:=KR (f:=BD) VP (l:=(List.range n).map fun i=>(G i,OL i)) (i:=i) (x:=(G i,OL i)) (by rw [List.getElem?_map,List.getElem?_range ay];rfl) 0 (.int .i64 (Yq (G i))) (by
  cases ax:G i <;> rfl)
 have:=I _ _ J;rwa [Nat.zero_add] at this
theorem aMG (w:aRB) {n:Nat} {N8:Nat} {Me:aRC} (h:J9 w n G fs jA jX) (ag:J9 w n G fs N8 Me) (aG:anD n G fs) (v1 v2 u2:Value) (aZ:v1.oneCell'=true/\v2.oneCell'=true/\u2.oneCell'=true) (kC N9:Nat)
  (cZ:aRC) (rc:Nat) (dZ:aRG) (av:Rd w 1 cZ dZ.length (AR dZ)) (xq:dZ.length<=1000) (LP:∀ i∈dZ,i < n/\Yq (G i)≠1) :
  CB 10 #[.agg #[.slice (some ⟨jA,0,none⟩) n n,v1,v2,.slice jX fs.length kC],.agg #[.slice (some ⟨N8,0,none⟩) n n,.slice cZ dZ.length rc,u2,.slice Me fs.length N9]] w (.bool true):=by
 obtain⟨m,hm,xW,Y⟩:=nq2 fs.length dZ.length;rw [<- Y] at xq;rw [<- hm,<- Y];obtain⟨I,A7⟩:∃ V:List Value,V=[.slice (some ⟨jA,0,none⟩) n n,v1,v2,.slice jX m kC]:=⟨_,rfl⟩;obtain⟨J,AA⟩:∃ V:List Value,V=[.slice (some ⟨N8,0,none⟩) n n,.slice cZ xW rc,u2,.slice Me m N9]:=⟨_,rfl⟩;have Aq:=aa (fun W (ae:Bl w W)=>show CB 16 #[.agg I.toArray,.agg J.toArray] W (.bool true) from by
  rw [A7,AA,hm];exact aME W (h.all ae) (ag.all ae) aG v1 v2 _ u2 ⟨aZ.1,aZ.2.1,rfl,aZ.2.2⟩ kC N9)
 obtain⟨aF,AJ⟩:=ai (w.alloc (.cells I.toArray 39));obtain⟨aV,AB⟩:=ai (aF.alloc (.cells J.toArray 39));have AL:Bl w aV:=by rw [AB,AJ];exact gK.alloc sp _
 have AO:aM aV w.heap.size I 39:=by rw [AB,AJ];exact (aM.new w I _).all gK
 have AP:aM aV aF.heap.size J 39:=by rw [AB];exact aM.new aF _ _
 obtain⟨Aa,Au,Aw⟩:=hq3 AL AO AP;have BK:(I.drop 0).take I.length=I:=by simp
 have BL:(J.drop 0).take J.length=J:=by simp
 have Ab:Sz 39 I.length:=by rw [A7];exact kr
 have Ad:Sz 39 J.length:=by rw [AA];exact kr
 have Ae:=aa (fun W (ae:Bl aV W)=>show W.cell? (ad w.heap.size 0)=some (.slice (some ⟨jA,0,none⟩) n n)/\W.cell? (ad aF.heap.size 1)=some (.slice cZ xW rc)/\Rd W 1 cZ xW (AR dZ)/\∀ i,i < n->W.cell? ⟨jA,i * 4,none⟩=some (.int .i64 (Yq (G i))) from by
  have Af:=aR AL ae;refine⟨?_,?_,by rw [Y];exact av.gp Af,fun i ay=>(h.all Af).kind ay⟩
  ·rw [(AO.all ae).cell 0,A7];rfl
  ·rw [(AP.all ae).cell 1,AA];rfl)
 have Ay:=aa LP;have Az:=aa Y;have BM:=AJ.symm;have BO:=AB.symm;rw [show (#[.slice (some ⟨jA,0,none⟩) n n,v1,v2,.slice jX m kC]:Array Value)=I.toArray by rw [A7],show (#[.slice (some ⟨N8,0,none⟩) n n,.slice cZ xW rc,u2,.slice Me m N9]:Array Value)=J.toArray by rw [AA]];clear AJ AB AL AO AP A7 AA hm Y h ag aG av LP;go_enter func10,ntmps10;go_upto_region 3 with (first
  | (with_reducible refine kv Au.o underlying39 Ab ?_)
  | (with_reducible refine kv Aw.o underlying39 Ad ?_)
  | (go_at_call 16; refine (Aq.o aV Aa.o).mono ?_;rintro e aC ⟨rfl,AV⟩;have BA:=aa AV;obtain⟨_,BF,_,_⟩:=Ae.o aC AV;clear AV))
 go_wp2_with fail;go_loopg [14] xW (fun gk BG wr=>∃ q:Nat,q+gk=xW/\BG = .int .i64 q/\Bl aC wr);case atStart=>exact⟨0,om,rfl,Below.refl _ _⟩
 case round =>
  obtain⟨q,BP,rfl,Ag⟩:=hrel;have Ah:=aa Ag;clear Ag BF;have ae:=aR BA.o Ah.o;have BH:=aa ae;by_cases AZ:q < xW
  ·have BI:(q:Int) < xW:=om;have BQ:(0:Int)<=q:=om;obtain⟨i,ah⟩:∃ x,dZ[q]?=some x:=⟨_,aQp (by rw [<- Az.o];exact AZ)⟩;obtain⟨fC,Ai⟩:=Ay.o i (aQr ah);obtain⟨BX,_,Ak,Al⟩:=Ae.o wr ae;obtain⟨b,o,rfl,Am⟩:=Ak.2 om;have Bb:wr.cell? (ad b (o+q))=some (.int .i64 i):=Am q _ (by rw [AR,List.getElem?_map,ah];rfl);have BJ:=Al i fC;obtain⟨Ao,Ap⟩:=ai (Yq (G i));rw [<- Ap] at BJ Ai;have Bc:(i:Int) < n:=om;have Bd:(0:Int)<=i:=om;have Ab:¬ (i:Int) < 0:=om;have Ad:¬ n<=i:=om;have Bf:((Ao:Int) == 1)=false:=by simpa using (show ¬ (Ao:Int)=1 by omega)
   clear ah Ak Al Am Ap Ai ae AZ;go_wp2_with fail;go_roundg (gk - 1);case rel=>exact⟨q+1,om,by go_num,Ah.o⟩
   case measure=>omega
  ·have BI:¬ (q:Int) < xW:=om;clear ae AZ;go_wp2_with fail;go_ret;exact⟨rfl,aR Aa.o BH.o⟩
def IY (T:Nat) (uJ w:aRB):Prop:=∀ q,q < T->w.heap[q]?=uJ.heap[q]?
theorem Rd.heap {n:Nat} (h:Rd w aO A n xs) (hk:IY w.heap.size w w'):Rd w' aO A n xs:=h.keep fun b o u _ hu=>(aRa (w:=w) (a:=ad b o) (hk b (aQy _ _ hu))).trans hu
theorem wT.heap (h:wT w k cK) (hk:IY w.heap.size w w'):wT w' k cK:=⟨h.files.heap hk,⟨h.bZ.row.heap hk,fun x ah=>⟨(h.bZ.each x ah).env.heap hk,(h.bZ.each x ah).ins.heap hk,(h.bZ.each x ah).asks.heap hk,(h.bZ.each x ah).outs.heap hk,(h.bZ.each x ah).KD,(h.bZ.each x ah).FO,(h.bZ.each x ah).BN,(h.bZ.each x ah).zX⟩⟩,h.ib.heap hk⟩
theorem IY.of (h:IY T uJ w) (ae:Below B w w') (bg:T<=B):IY T uJ w':=fun q I=>(ae.block q om).trans (h q I)
structure Ka (w:aRB) (X:List kI) (F:List (ak × ak)) (S:uA) (aI:aRI) (met:List ak) (bG:Nat->Bool) (has:ak->Bool) (B0:Nat):Prop where
 src:rY w S aI X.length (NC X) (XN F X) met bG has
 F7:∀ i,bG i=true->Bh (nQ F X) (Cx bG has) i/\(bE (nQ F X) i).kind=1
 home:vM w B0
 low:B0<=w.heap.size/\B0<=S.ja/\B0<=S.gs/\B0<=S.lJ/\S.B<=w.heap.size
theorem Ka.all {X:List kI} (h:Ka w X F S aI met bG has B0) (ae:Bl w w'):Ka w' X F S aI met bG has B0:=by have:=ae.size;have:=h.low;exact⟨h.src.all ae,h.F7,h.home.below (ae.mono h.low.1),om,om,om,om,om⟩
structure acz (w:aRB) (k:jo) (keep:Bool) (S:uA) (met:List ak) (bG:Nat->Bool) (has:ak->Bool) (B0 T:Nat) (uJ:aRB) (σ:bI) (aW:aRG) (L:ab1) (w':aRB):Prop where
 rep:VM w' w.heap.size k.bZ.length σ aW (o9 k.W σ k.ib) L
 go:∃ fB,Ka w' k.X k.files S fB met σ.bG σ.has B0
 heap:IY T uJ w'
 but:Yd S w w'
 built:GU k keep bG has σ aW
theorem axH {keep:Bool} (hk:FC k) (bn:Yf k met) (hc:o7 k=0) (ax:Ka w k.X k.files S aI met bG has B0) (bY:T<=S.ja/\T<=S.gs/\T<=S.lJ/\T<=w.heap.size) (hw:IY T uJ w) (hA:∀ W:World,(∀ q,q < w.heap.size->q≠S.ja->q≠S.gs->q≠S.lJ->W.heap[q]?=w.heap[q]?)->wT W k cK) :
  Calls prog 9 #[.agg (rA k cK keep).toArray,Et S] w fun e w'=>∃ σ aW L,e = .returned (.tuple #[.agg (zM k.bZ.length σ.dZ.length aW.length (o9 k.W σ k.ib).length L).toArray,.int .i64 0])/\acz w k keep S met bG has B0 T uJ σ aW L w':=by
 have M:k.X.length=k.bZ.length:=List.length_map _;have hs:=ax.src;rw [M] at hs;refine (aLl w k cK keep S aI met bG has B0 hk bn hc hA hs ax.F7 ax.home ⟨ax.low.1,ax.low.2.1,ax.low.2.2.1,ax.low.2.2.2.1,ax.low.2.2.2.2⟩).mono ?_;rintro e w' ⟨σ,aW,L,fB,rfl,h1,Y,I,J,_⟩;rw [<- M] at Y;have AB:=I.size;have AJ:=ax.low;have ae:Below B0 w w':=⟨I.os,I.tape,I.output,I.size,fun q A7=>I.keep q om om om om⟩;exact⟨σ,aW,L,rfl,h1,⟨fB,Y,fun i AA=>⟨J.kept i AA,J.inv.bG i AA⟩,ax.home.below ae,om,om,om,om,om⟩,fun q A7=>(I.keep q om om om om).trans (hw q A7),I,J⟩
theorem axI {keep:Bool} (hk:FC k) (bn:Yf k met) (hc:o7 k=0) (ax:Ka w k.X k.files S aI met bG has B0) (bY:T<=S.ja/\T<=S.gs/\T<=S.lJ/\T<=w.heap.size) (hw:IY T uJ w) (hA:∀ W,IY T uJ W->wT W k cK) :
  Calls prog 9 #[.agg (rA k cK keep).toArray,Et S] w fun e w'=>∃ σ aW L,e = .returned (.tuple #[.agg (zM k.bZ.length σ.dZ.length aW.length (o9 k.W σ k.ib).length L).toArray,.int .i64 0])/\acz w k keep S met bG has B0 T uJ σ aW L w' :=
 axH hk bn hc ax bY hw fun W h=>hA W fun q I=>(h q om om om om).trans (hw q I)
theorem axJ {X:List kI} (ek:vM w B0) (bg:B0<=w.heap.size) :
  Calls prog 8 #[] w fun e w'=>∃ S:uA,e = .returned (Et S)/\Ka w' X F S (fun _=>False) met (fun _=>false) (fun _=>false) B0/\(w.heap.size<=S.ja/\w.heap.size<=S.gs/\w.heap.size<=S.lJ)/\Bl w w':=by
 refine (aL3 w X.length (NC X) (XN F X) met).mono ?_;rintro e w' ⟨S,rfl,h1,Y,I,J⟩;have:=J.size;exact⟨S,rfl,⟨h1,fun i M=>(by cases M),ek.below (J.mono bg),om,om,om,om,om⟩,⟨I.2.1,I.2.2.1,I.2.2.2⟩,J⟩
theorem GU.ends (h:GU k true bG has σ aW):Di k.W k.dN True (Bh k.W (Cx bG has)) (Bh k.W σ) σ.got σ.dZ:=h.inv.built fun _ i I=>by
 obtain⟨p,aL,hm⟩:=I;exact h.full rfl p aL i hm
theorem aMI {W:pV} {σ':bI} (h:σ.got=σ'.got) (l:List ak):o9 W σ l=o9 W σ' l:=by
 have:fileOf W σ=fileOf W σ':=by funext p;unfold fileOf GN;rw [h]
 rw [o9,o9,this]
theorem Yd.below (h:Yd S w w') (bg:B<=w.heap.size) (h1:B<=S.ja/\B<=S.gs/\B<=S.lJ):Below B w w':=⟨h.os,h.tape,h.output,h.size,fun q I=>h.keep q om om om om⟩
theorem Yd.row {g:Nat} {V:aRD} (h:Yd S w w') (av:aM w g V t) (h1:g≠S.ja/\g≠S.gs/\g≠S.lJ):aM w' g V t:=(h.keep g av.lt h1.1 h1.2.1 h1.2.2).trans av
theorem anE:Ea prog 23 45 (.agg #[.string ⟨#[]⟩,.string ⟨#[]⟩,.string ⟨#[]⟩,.slice none 0 0,.slice none 0 0,.slice none 0 0,.slice none 0 0]) 7 144:=⟨underlying23,kr,rfl,dc⟩
theorem aMJ (t:ByteArray) (A:aRC) (n c:Nat) (B:aRC) (m d:Nat):prog.built 45 [(1,.string t),(3,.slice A n c),(5,.slice B m d)]=some #[.string ⟨#[]⟩,.string ⟨#[]⟩,.string t,.slice none 0 0,.slice A n c,.slice none 0 0,.slice B m d]:=kr
theorem aMK (A:aRC) (n c:Nat) (B:aRC) (m d:Nat) (C:aRC) (l e:Nat):prog.built 26 [(0,.slice A n c),(1,.slice B m d),(2,.slice C l e),(3,.bool true)]=some #[.slice A n c,.slice B m d,.slice C l e,.bool true]:=kr
theorem aML {vG il Gw:Nat} {A C:Nat} (hf:Rd w 2 (some ⟨A,0,none⟩) 1 [.string ⟨#[97]⟩,.string ⟨#[49,10]⟩]) (ay:Rd w 1 (some ⟨il,0,none⟩) 1 [.string ⟨#[97]⟩]) (aG:Rd w 1 (some ⟨Gw,0,none⟩) 1 [.string ⟨#[111,117,116,47,120]⟩])
  (bn:Rd w 7 (some ⟨vG,0,none⟩) 1 [.string ⟨#[]⟩,.string ⟨#[]⟩,.string ⟨#[114,101,97,100,32,97,10,119,114,105,116,101,32,111,117,116,47,120,10]⟩,.slice none 0 0,.slice (some ⟨il,0,none⟩) 1 1,.slice none 0 0,.slice (some ⟨Gw,0,none⟩) 1 1]) (hw:Rd w 1 (some ⟨C,0,none⟩) 1 [.string ⟨#[111,117,116,47,120]⟩]) :
  wT w (pM ⟨⟨#[]⟩,⟨#[]⟩,none,some ⟨il,0,none⟩,none,some ⟨Gw,0,none⟩,0,1,0,1⟩) ⟨some ⟨A,0,none⟩,1,some ⟨vG,0,none⟩,1,some ⟨C,0,none⟩,1⟩:=by
 refine⟨hf,⟨bn,fun x ah=>?_⟩,hw⟩;obtain rfl:=aRc.1 ah;exact⟨Rd.none_ _ _ _,ay,Rd.none_ _ _ _,aG,(by decide:(0:Nat)<=maxLen),(by decide:(1:Nat)<=maxLen),(by decide:(0:Nat)<=maxLen),(by decide:(1:Nat)<=maxLen)⟩
theorem anF (L:vv):(pM L).W.kK wE=some 0:=kr
theorem aMM (L:vv):fI (pM L).W wE = .known ⟨wE,true,y5⟩:=by
 have hl:FU (pM L).W 0=some ⟨1,0,[(wE,y5)],[iA BC]⟩:=by rw [aiI,axA];rfl
 unfold fI vX;rw [anF];simp only;rw [hl];rfl
theorem axK (L:vv) (h:yM (pM L).W (pM L).dN i):i=0:=by
 have hm:∀ {p:ak} {j:Nat},(pM L).W.kK p=some j->j < 1:=fun {p j} h=>by
  have:=JZ (⟨pM L,true,fun _=>True,Cx (fun _=>false) (fun _=>false),[],⟨0,0,0,⟨none,0,none,0,none,0⟩,⟨0,0,0,0,0,0⟩,0,0⟩⟩:dL) h;exact this
 have:=yM.least (P:=fun i=>i < 1) (fun i I=>by obtain⟨p,_,aL⟩:=I;exact hm aL) (fun i j _ hw=>by obtain⟨_,_,p,_,_,aL⟩:=hw;exact hm aL) h;omega
theorem agQ {L:vv} (h:GU (pM L) true bG has σ aW):σ.got 0=some ⟨1,0,[(wE,y5)],[iA BC]⟩/\0∈σ.dZ++aW/\(σ.dZ++aW).length=1:=by
 have ae:=h.full rfl wE (by simp [pM]) 0 (anF L);have ax:σ.got 0≠none:=fun e=>by
  have:=(h.inv.under 0).2 ⟨ae,e⟩;cases this
 obtain⟨o,I⟩:=Option.ne_none_iff_exists'.1 ax;have h1:=(h.inv.right 0 o I).1;rw [axB] at h1;have J:=h.log.full 0 ax;refine⟨by rw [I,h1],J,?_⟩;have M:=abm 1 _ h.log.nodup fun x ah=>by
  have:=axK L (h.inv.reach x (h.log.begun x ah));omega
 have Y:=List.length_pos_of_mem J;omega
theorem aMN {L:vv} (h:GU (pM L) true (fun _=>false) (fun _=>false) σ aW):σ.dZ.length=1:=by
 have h1:=(agQ h).2.2;have I:aW=[]:=List.eq_nil_iff_forall_not_mem.2 fun i J=>by
  have:=h.log.Sm i J;cases this
 rw [I,List.append_nil] at h1;exact h1
theorem aMO {L:vv} {gN:aRG} (h:GU (pM L) true bG has σ aW) (ag:GU (pM L) true σ.bG σ.has bQ gN):bQ.dZ.length=0/\gN.length=1:=by
 have M:bQ.dZ=[]:=List.eq_nil_iff_forall_not_mem.2 fun i I=>by
  have Y:=axK L (ag.inv.reach i (ag.log.begun i (aQU _ I)));subst Y;have:=Di.again h.ends ag.ends I (agQ h).1;exact this rfl
 have J:=(agQ ag).2.2;rw [M] at J |-;exact⟨rfl,by simpa using J⟩
theorem axL {L:vv} (h:GU (pM L) true bG has σ aW):o9 (pM L).W σ [wE]=[(wE,y5)]:=by
 have hs:ny [wE]=[wE]:=kr;unfold o9;rw [hs,List.filterMap_cons,fileOf,anF];simp only;have ax:GN σ 0=1:=by unfold GN;rw [(agQ h).1]
 simp only [ax];rw [if_neg dc,aMM];rfl
theorem aMP (w:aRB) (ek:vM w B0) (bg:B0<=w.heap.size):CB 7 #[] w (.bool true):=by
 have Dh:=aa ek;have Bq:=aa bg;clear ek bg;go_enter func7,ntmps7;go_upto_region 2 with (first
  | ((with_reducible refine Rc (.string ⟨#[97]⟩) (.string ⟨#[49,10]⟩) _ (awc _ _) ?_ ?_);exact⟨rfl,rfl⟩)
  | ((with_reducible refine BV KM (.agg #[.string ⟨#[97]⟩,.string ⟨#[49,10]⟩]) rfl rfl ?_);intro w1 Br AJ;have Dk:=aa (show Rd w1 2 (some ⟨w.heap.size,0,none⟩) 1 [.string ⟨#[97]⟩,.string ⟨#[49,10]⟩] from Br);have Dl:=aa AJ;clear Br AJ)
  | ((with_reducible refine BV Av (.string ⟨#[97]⟩) (VO _) rfl ?_);intro af Bt AZ;have Dm:=aa (show Rd af 1 (some ⟨w1.heap.size,0,none⟩) 1 [.string ⟨#[97]⟩] from Bt);have Bu:=aa AZ;clear Bt AZ)
  | (have _t:=Bv;(with_reducible refine BV Av (.string ⟨#[111,117,116,47,120]⟩) (VO _) rfl ?_);intro Ap Bw C8;have Dp:=aa (show Rd Ap 1 (some ⟨Af.heap.size,0,none⟩) 1 [.string ⟨#[111,117,116,47,120]⟩] from Bw);have Aq:=aa C8;clear Bw C8)
  | ((with_reducible refine BV Av (.string ⟨#[111,117,116,47,120]⟩) (VO _) rfl ?_);intro aC C9 CE;have Dq:=aa (show Rd aC 1 (some ⟨af.heap.size,0,none⟩) 1 [.string ⟨#[111,117,116,47,120]⟩] from C9);have Au:=aa CE;clear C9 CE)
  | ((with_reducible refine Re (.string ⟨#[114,101,97,100,32,97,10,119,114,105,116,101,32,111,117,116,47,120,10]⟩) (.slice (some ⟨w1.heap.size,0,none⟩) 1 1) (.slice (some ⟨af.heap.size,0,none⟩) 1 1) _ (aMJ _ _ _ _ _ _ _) ?_ ?_);exact⟨rfl,rfl,rfl⟩)
  | ((with_reducible refine BV anE (.agg #[.string ⟨#[]⟩,.string ⟨#[]⟩,.string ⟨#[114,101,97,100,32,97,10,119,114,105,116,101,32,111,117,116,47,120,10]⟩,.slice none 0 0,.slice (some ⟨w1.heap.size,0,none⟩) 1 1,.slice none 0 0,.slice (some ⟨af.heap.size,0,none⟩) 1 1]) rfl rfl ?_);intro Af CJ CK;have Bv:=aa (show Rd Af 7 (some ⟨aC.heap.size,0,none⟩) 1 [.string ⟨#[]⟩,.string ⟨#[]⟩,.string ⟨#[114,101,97,100,32,97,10,119,114,105,116,101,32,111,117,116,47,120,10]⟩,.slice none 0 0,.slice (some ⟨w1.heap.size,0,none⟩) 1 1,.slice none 0 0,.slice (some ⟨af.heap.size,0,none⟩) 1 1] from CJ);have Aa:=aa CK;clear CJ CK)
  | ((with_reducible refine ae9 (.slice (some ⟨w.heap.size,0,none⟩) 1 1) (.slice (some ⟨aC.heap.size,0,none⟩) 1 1) (.slice (some ⟨Af.heap.size,0,none⟩) 1 1) (.bool true) _ (aMK _ _ _ _ _ _ _ _ _) ?_ ?_);exact⟨rfl,rfl,rfl,rfl⟩))
 obtain⟨gW,Aw⟩:=ai (pM ⟨⟨#[]⟩,⟨#[]⟩,none,some ⟨w1.heap.size,0,none⟩,none,some ⟨af.heap.size,0,none⟩,0,1,0,1⟩);obtain⟨AL,Ag⟩:∃ L:vv,gW=pM L:=⟨_,Aw⟩;obtain⟨cK,BL⟩:∃ L:xU,L=⟨some ⟨w.heap.size,0,none⟩,1,some ⟨aC.heap.size,0,none⟩,1,some ⟨Af.heap.size,0,none⟩,1⟩:=⟨_,rfl⟩;obtain⟨Y,Ay⟩:=ai (rA gW cK true);have CL:(#[.slice (some ⟨w.heap.size,0,none⟩) 1 1,.slice (some ⟨aC.heap.size,0,none⟩) 1 1,.slice (some ⟨Af.heap.size,0,none⟩) 1 1,.bool true]:Array Value)=Y.toArray:=by rw [Ay,Aw,BL];rfl
 rw [CL];obtain⟨I,Az,g1,BM⟩:=nq2 (Ap.alloc (.cells Y.toArray 26)) Ap.heap.size;rw [<- Az,<- BM];have Ab:=gQ Az;have CS:=aa (show aM I g1 Y 26 by rw [Az,BM];exact aM.new Ap _ _);have BO:=Bu.o.trans ((Au.o.trans ((Aa.o.trans ((aR Aq.o Ab).mono Aa.o.size)).mono Au.o.size)).mono Bu.o.size);have BA:=aR Dl.o BO;have CU:=Au.o.trans ((Aa.o.trans ((aR Aq.o Ab).mono Aa.o.size)).mono Au.o.size);have CV:=Aa.o.trans ((aR Aq.o Ab).mono Aa.o.size);have CW:=aR Aq.o Ab;have Dr:=aa (show wT I gW cK by
  rw [Aw,BL];exact aML (Dk.o.gp BO) (Dm.o.gp CU) (Dq.o.gp CV) (Bv.o.gp CW) (Dp.o.gp Ab))
 have CZ:=aa BA;have Ca:=aQn Bq.o BA.size;have Dt:=aa (axJ (X:=gW.X) (F:=gW.files) (met:=oL gW) (Dh.o.below (BA.mono Bq.o)) Ca);have Cb:FC gW:=by rw [Ag];exact (axD AL).fit (axC AL) (anC AL)
 have Ce:Yf gW (oL gW):=by rw [Ag];exact ano (axD AL) (axC AL) (anC AL) (aMz AL)
 have Cf:o7 gW=0:=by rw [Ag];exact anC AL
 have BP:=aa (fun (W:aRB) (S:uA) (aI:aRI) (bG:Nat->Bool) (has:ak->Bool) (ax:Ka W gW.X gW.files S aI (oL gW) bG has B0) (bY:I.heap.size<=S.ja/\I.heap.size<=S.gs/\I.heap.size<=S.lJ/\I.heap.size<=W.heap.size) (hw:IY I.heap.size I W)=>show Calls prog 9 #[.agg Y.toArray,Et S] W fun e w'=>∃ σ aW L,e = .returned (.tuple #[.agg (zM gW.bZ.length σ.dZ.length aW.length (o9 gW.W σ gW.ib).length L).toArray,.int .i64 0])/\acz W gW true S (oL gW) bG has B0 I.heap.size I σ aW L w' from by
  rw [Ay];exact axI Cb Ce Cf ax bY hw fun aV Ah=>Dr.o.heap Ah)
 have Dx:Y.length=4:=by rw [Ay];rfl
 have Em:(Y.drop 0).take Y.length=Y:=by simp
 have Cg:Sz 26 Y.length:=by rw [Dx];exact kr
 have Ci:=aa Ag;clear Az BM Ab BA BO CU CV CW Ay CL Aw Ag BL Cb Ce Cf Ca;go_upto_region 5 with (first
  | (go_at_call 8; refine Dt.o.mono ?_;rintro e BF ⟨S,rfl,Ck,Cm,BQ⟩;obtain⟨Cn,A7,AO⟩:=hq3 Ck Cm BQ;have Co:=aa (CS.o.all BQ);obtain⟨jN,BX⟩:=ai S.jN;rw [Et,<- BX];have Cs:=aa BX;clear Ck Cm BQ BX))
 have Dy:=aa (by
  have h:=BP.o BF S _ _ _ Cn.o ⟨A7.o.1,A7.o.2.1,A7.o.2.2,AO.o.size⟩ (fun q Dz=>AO.o.block q Dz);rw [Et,<- Cs.o] at h;exact h)
 have E8:=aa (fun (W:aRB) (bG:Nat->Bool) (has:ak->Bool) (ax:∃ aI,Ka W gW.X gW.files S aI (oL gW) bG has B0) (hs:BF.heap.size<=W.heap.size) (hw:IY I.heap.size I W)=>by
  obtain⟨aI,ax⟩:=ax;have h:=BP.o W S aI bG has ax ⟨A7.o.1,A7.o.2.1,A7.o.2.2,aQn AO.o.size hs⟩ hw;rw [Et,<- Cs.o] at h;exact h)
 have BG:=aa Cn.o.src.amV;have E9:=aa (show g1 < I.heap.size from CS.o.lt);clear BP;go_upto_region 6 with (first
  | (with_reducible refine kv Co.o underlying26 Cg ?_)
  | (go_at_call 9; refine Dy.o.mono ?_;rintro e EB ⟨AP,ED,AV,rfl,Ai⟩;have J:=aa Ai;obtain⟨BH,Ak⟩:=ai (zM gW.bZ.length AP.dZ.length ED.length (o9 gW.W AP gW.ib).length AV);rw [<- Ak];have Ct:BH.length=4:=(by rw [Ak];rfl);have EG:Sz 39 BH.length:=(by rw [Ct];exact kr);have EH:∀ v∈BH,v.oneCell'=true:=(by rw [Ak];simp [zM,Value.oneCell']);have EI:=aa Ak;clear Ak;clear Ai)
  | ((with_reducible refine rP BH Ct EG EH ?_);intro Bb AA Cv;obtain⟨g3,Bc⟩:=ai EB.heap.size;rw [<- Bc] at Cv |-;have EK:=aa Bc;clear Bc))
 have EL:=aa ((J.o.but.row Co.o (by have:=E9.o;have:=A7.o;omega)).all AA.o);have EM:=aa (by obtain⟨aI,h⟩:=J.o.go;exact⟨aI,h.all AA.o⟩:∃ aI,Ka Bb gW.X gW.files S aI (oL gW) AP.bG AP.has B0);have Cw:=aa (show BF.heap.size<=Bb.heap.size from aQn J.o.but.size AA.o.size);have EO:=aa (J.o.heap.of AA.o (aQn AO.o.size J.o.but.size));go_upto_region 7 with (first
  | (with_reducible refine kv EL.o underlying26 Cg ?_)
  | (go_at_call 9; refine (E8.o Bb AP.bG AP.has EM.o Cw.o EO.o).mono ?_;rintro e EP ⟨bQ,gN,AB,rfl,Ai⟩;have Ad:=aa Ai;obtain⟨BI,Al⟩:=ai (zM gW.bZ.length bQ.dZ.length gN.length (o9 gW.W bQ gW.ib).length AB);rw [<- Al];have Cz:BI.length=4:=(by rw [Al];rfl);have ER:Sz 39 BI.length:=(by rw [Cz];exact kr);have EU:∀ v∈BI,v.oneCell'=true:=(by rw [Al];simp [zM,Value.oneCell']);have EW:=aa Al;clear Al;clear Ai)
  | ((with_reducible refine rP BI Cz ER EU ?_);intro Ae Bd Bf;obtain⟨g5,Bi⟩:=ai EP.heap.size;rw [<- Bi] at Bf |-;have En:=aa Bi;clear Bi))
 have Bn:gW.ib=[wE]:=by rw [Ci.o];rfl
 have AJ:=J.o.built;have AZ:=Ad.o.built;have BJ:=J.o.rep;rw [Bn] at BJ;have Am:=EI.o;have Ao:=EW.o;rw [Bn] at Am Ao;obtain⟨DD,Bo,Bp,DF⟩:AP.dZ.length=1/\(bQ.dZ.length=0/\gN.length=1)/\o9 gW.W AP [wE]=[(wE,y5)]/\o9 gW.W bQ [wE]=[(wE,y5)]:=by rw [Ci.o] at AJ AZ |-;exact⟨aMN AJ,aMO AJ AZ,axL AJ,axL AZ⟩
 rw [DD,Bp] at Am;rw [Bo.1,Bo.2,DF] at Ao;rw [Bp] at BJ;have DL:=aa ((Ad.o.but.row Cv.o (by have:=EK.o;have:=BG.o;have:=J.o.but.size;omega)).all Bd.o);have EY:Ae.cell? (ad g3 1)=some (.slice AV.cZ 1 AV.rc):=by rw [DL.o.cell 1,Am];rfl
 have DN:Ae.cell? (ad g3 3)=some (.slice AV.jX 1 AV.kC):=by rw [DL.o.cell 3,Am];rfl
 have EZ:Ae.cell? (ad g5 1)=some (.slice AB.cZ 0 AB.rc):=by rw [Bf.o.cell 1,Ao];rfl
 have Ec:Ae.cell? (ad g5 2)=some (.slice AB.kQ 1 AB.jy):=by rw [Bf.o.cell 2,Ao];rfl
 have DR:=(BJ.keep (W':=Ae) fun q h1 Ah=>(Bd.o.block q (aQq (aQq Ah AA.o.size) Ad.o.but.size)).trans ((Ad.o.but.keep q (aQq Ah AA.o.size) (by have:=BG.o;omega) (by have:=BG.o;omega) (by have:=BG.o;omega)).trans (AA.o.block q Ah))).files.rd;obtain⟨b,o,DW,DX⟩:=DR.2 sp;have Eo:Ae.cell? (ad b (o+1))=some (.string ⟨#[49,10]⟩):=DX 1 _ rfl;rw [DW] at DN;obtain⟨Ep,DY,Er,DZ,Es,Da,Eu,Db,Ev,Dc,Ew,De⟩:=nq6 AV.cZ AV.rc AV.kC AB.cZ AB.rc AB.kQ;obtain⟨Ex,Df⟩:=ai AB.jy;rw [<- DY,<- DZ] at EY;rw [<- Da] at DN;rw [<- Db,<- Dc] at EZ;rw [<- De,<- Df] at Ec;clear DY DZ Da Db Dc De Df Bn AJ AZ BJ Am Ao DD Bo Bp DF DR DW DX;go_wp2_with fail;go_ret;have BK:=CZ.o.size;have Ee:Below w.heap.size I BF:=AO.o.mono BK;have Eg:=J.o.but.below (aQn BK AO.o.size) (by have:=A7.o;omega:w.heap.size<=S.ja/\w.heap.size<=S.gs/\w.heap.size<=S.lJ);have Ei:=Ad.o.but.below (aQn (aQn BK AO.o.size) Cw.o) (by have:=A7.o;omega:w.heap.size<=S.ja/\w.heap.size<=S.gs/\w.heap.size<=S.lJ);have Dg:=aQn (aQn BK AO.o.size) J.o.but.size;exact⟨rfl,CZ.o.trans (Ee.trans (Eg.trans ((AA.o.mono Dg).trans (Ei.trans (Bd.o.mono (aQn (aQn Dg AA.o.size) Ad.o.but.size))))))⟩
theorem aMX {base n c:Nat} (P:Program) (h:Own w base t aO A n c xs) {off:Nat} {b o:Nat} (hA:A=some ⟨b,o,none⟩) (vs:aRD) (hm:off+vs.length<=n * aO) (aB:0 < n) (h1:∀ v∈vs,v.oneCell'=true) :
  ∃ aV,(storeCells ⟨b,o+off,none⟩ vs 0).run P w = .ok () aV/\fU b w aV/\Own aV base t aO A n c (xs.take off++vs++xs.drop (off+vs.length)):=by
 have Y:=h.2.1;have AP:=h.1;obtain⟨b',AV,cur,bf,e,ae,hc,hf,hs,ah⟩:=h.at_ om;rw [hA] at e;cases e;have AZ:n * aO<=c * aO:=aQP _ Y;have Aa:cur.toList.length=cur.size:=Array.length_toList;refine⟨_,Yv P b (o+off) t bf vs 0 cur w hf hc om h1,adE w b _,by simp;omega,Y,h.2.2.1,.inr ⟨b,o,_,bf,hA,ae,aQB w b cur _ t bf hc,?_,?_,fun i AJ=>?_⟩⟩
 ·rw [show (cur.toList.take (o+off+0)++vs++cur.toList.drop (o+off+0+vs.length)).toArray.size=cur.size by simp;omega];exact hf
 ·rw [show (cur.toList.take (o+off+0)++vs++cur.toList.drop (o+off+0+vs.length)).toArray.size=cur.size by simp;omega];exact hs
 ·have J:=ah i AJ;rw [List.getElem?_toArray];rw [<- Array.getElem?_toList] at J;have AL:(cur.toList.take (o+off+0)).length=o+off:=by rw [List.length_take];omega
  have AO:(xs.take off).length=off:=by rw [List.length_take];omega
  obtain⟨A7,a2,a3⟩:=afk (cur.toList.take (o+off+0)) vs (cur.toList.drop (o+off+0+vs.length)) (o+i);obtain⟨eP,AA,AB⟩:=afk (xs.take off) vs (xs.drop (off+vs.length)) i;rw [AL] at A7 a2 a3;rw [AO] at eP AA AB;rcases aQD i off with I | I
  ·rw [A7 om,eP I,List.getElem?_take_of_lt om,List.getElem?_take_of_lt I];exact J
  ·rcases aQD i (off+vs.length) with M | M
   ·rw [a2 om om,AA I M,show o+i - (o+off)=i - off by omega]
   ·rw [a3 om,AB M,List.getElem?_drop,List.getElem?_drop,show o+off+0+vs.length+(o+i - (o+off) - vs.length)=o+i by omega,show off+vs.length+(i - off - vs.length)=i by omega];exact J
theorem aMY {P:Program} {a:Act} {Q:aRE} {ty gP:TypeId} {x v:Operand} {ops:Array Oper} {rest:List Oper} {dst:Option Tmp} {pos:String} {after:Array Edge} {base n c:Nat} (h:Own W base t aO A n c xs) {off:Nat} {b o:Nat} (hA:A=some ⟨b,o,none⟩) (val:Value) (vs:aRD) (nD:val.cells.toList=vs)
  (hm:off+vs.length<=n * aO) (aB:0 < n) (ay:(P.info? ty).map (·.size)=some vs.length) (h1:∀ v∈vs,v.oneCell'=true) (uZ:a.eval x = .pointer (some ⟨b,o+off,none⟩)/\a.eval v=val)
  (hk:∀ aV,Own aV base t aO A n c (xs.take off++vs++xs.drop (off+vs.length))->fU b W aV->wpList P ops Q rest (a.put dst undef) aV):wpList P ops Q (⟨dst,.store ty x v,gP,pos,after,none⟩ :: rest) a W :=
 aQM rfl fun _ I=>by
  obtain⟨aV,J,M,Y⟩:=aMX P h hA vs hm aB h1;exact auq rfl uZ.1 val uZ.2 vs nD ay J (I _ _ (hk aV Y M))
def Tf (pk nm:ByteArray) (x:iP):iP:=({ x.1 with pk:=pk,nm:=nm },x.2)
def FI (pk nm:ByteArray) (q:Nat) (l:List iP):List iP:=(l.take q).map (Tf pk nm)++l.drop q
theorem aMZ (pk nm:ByteArray) (q:Nat) (l:List iP):(FI pk nm q l).length=l.length:=by simp [FI];omega
theorem anN (pk nm:ByteArray) (q:Nat) (l:List iP):(FI pk nm q l).map (·.2)=l.map (·.2):=by rw [FI,List.map_append,List.map_map,show ((·.2) ∘ Tf pk nm:iP->kI)=(·.2) from rfl,<- List.map_append,List.take_append_drop]
theorem aM0 (pk nm:ByteArray) {q:Nat} {l:List iP} (aH:q < l.length):yg (FI pk nm (q+1) l)=(yg (FI pk nm q l)).take (q * 7)++[.string pk,.string nm]++(yg (FI pk nm q l)).drop (q * 7+2):=by
 obtain⟨x,ah⟩:∃ x,l[q]?=some x:=⟨_,aQp aH⟩;have h1:FI pk nm q l=(l.take q).map (Tf pk nm)++x :: l.drop (q+1):=by rw [FI,List.drop_eq_getElem_cons aH];rw [List.getElem?_eq_getElem aH] at ah;cases ah;rfl
 have I:FI pk nm (q+1) l=(l.take q).map (Tf pk nm)++Tf pk nm x :: l.drop (q+1):=by rw [FI,List.take_add_one,ah,List.map_append];simp
 have hl:(yg ((l.take q).map (Tf pk nm))).length=q * 7:=by rw [arh,List.length_map,List.length_take];omega
 rw [h1,I];have e:∀ (A:List iP) (y:iP) (R:List iP),yg (A++y :: R)=yg A++((nz y.1 y.2).toList++yg R):=fun A y R=>by simp [yg]
 rw [e,e];generalize yg ((l.take q).map (Tf pk nm))=A at hl;generalize yg (l.drop (q+1))=R;obtain⟨L,a⟩:=x;rw [<- hl,List.take_left',List.drop_append]
 ·simp [nz,Tf]
 ·rfl
end
section
def w9 (pk nm:ByteArray) (k:jo):jo:={ k with bZ:=FI pk nm k.bZ.length k.bZ }
theorem axT:∀ {X Y:List iP} (H:List fA),X.map (·.2)=Y.map (·.2)->zD H X=zD H Y
 | [],[],_,_=>rfl
 | [],_ :: _,_,h=>by cases h
 | _ :: _,[],_,h=>by cases h
 | x :: X,y :: Y,H,h=>by
  simp only [List.map_cons,List.cons.injEq] at h;rw [zD,zD,h.1,axT _ h.2]
theorem aM1 {X Y:List iP} (h:X.map (·.2)=Y.map (·.2)):wZ X=wZ Y:=by
 have e:∀ Z:List iP,wZ Z=((Z.map (·.2)).map fun a:kI=>a.env.length+a.ins.length+a.asks.length+a.outs.length+a.tool.length / 64).sum:=fun Z=>by rw [wZ,List.map_map];rfl
 rw [e,e,h]
section
variable {pk nm:ByteArray} {k:jo}
theorem anO:(w9 pk nm k).X=k.X:=anN pk nm _ _
theorem acF:(w9 pk nm k).W=k.W:=by rw [jo.W,anO];rfl
theorem VQ:(w9 pk nm k).bZ.length=k.bZ.length:=aMZ _ _ _ _
theorem axU:oL (w9 pk nm k)=oL k:=by
 have h:∀ i,GZ (w9 pk nm k) i=GZ k i:=fun i=>by rw [GZ,GZ,anO,acF]
 rw [oL,oL,sU,sU,VQ,show GZ (w9 pk nm k)=GZ k from funext h];rfl
theorem axV:Cy (w9 pk nm k)=Cy k:=by rw [Cy,Cy,VQ,show wZ (w9 pk nm k).bZ=wZ k.bZ from aM1 (anN pk nm _ _)];rfl
theorem anP:o7 (w9 pk nm k)=o7 k:=by rw [o7,o7,show zD [] (w9 pk nm k).bZ=zD [] k.bZ from axT [] (anN pk nm _ _)];rfl
theorem anQ {x:iP} (ah:x∈(w9 pk nm k).bZ):∃ y∈k.bZ,x.2=y.2/\x.1.E=y.1.E/\x.1.lG=y.1.lG/\x.1.A=y.1.A/\x.1.O=y.1.O:=by
 rcases aQI.1 ah with h | h
 ·obtain⟨y,hy,rfl⟩:=aQv.1 h;exact⟨y,List.mem_of_mem_take hy,rfl,rfl,rfl,rfl,rfl⟩
 ·exact⟨x,aRz h,rfl,rfl,rfl,rfl,rfl⟩
theorem axW (h:L9 k):L9 (w9 pk nm k):=by
 refine⟨⟨h.jv,h.Lm,by rw [VQ];exact h.nN,fun x ah=>?_,h.qQ⟩,h.U6,fun x ah=>?_⟩
 ·obtain⟨y,hy,e,_⟩:=anQ ah;rw [e];exact h.xX y hy
 ·obtain⟨y,hy,e,_⟩:=anQ ah;rw [e];exact h.FO y hy
end
theorem aM2 {gN:aRG} (hf:FC k) (h:GU k true bG has σ aW) (ag:GU k true σ.bG σ.has bQ gN):bQ.got=σ.got/\(∀ i∈bQ.dZ,i < k.bZ.length/\Yq (σ.got i)≠1)/\bQ.dZ.length<=k.bZ.length:=by have J:∀ i,i∈bQ.dZ->i < k.bZ.length:=fun i I=>au9 (hf.fit true [] (fun _=>false) (fun _=>false) ⟨0,0,0,⟨none,0,none,0,none,0⟩,⟨0,0,0,0,0,0⟩,0,0⟩) (ag.inv.reach i (ag.log.begun i (aQU _ I)));refine⟨Di.same ag.ends h.ends,fun i I=>⟨J i I,?_⟩,abm _ _ (List.nodup_append.1 ag.log.nodup).1 J⟩;have M:=Di.aD8 h.ends ag.ends I;have Y:=Di.again h.ends ag.ends I M;rw [M];exact Y
theorem aM3 {keep:Bool} (hf:FC k) (h:GU k keep bG has σ aW) (ay:i < k.bZ.length):agP (σ.got i):=fun o AA=>by
 obtain⟨rfl,_⟩:=h.inv.right i o AA;have M:i < k.X.length:=by simpa [jo.X] using ay
 have h1:(bE k.W i).outs.length<=200:=Sr hf.work M;have AB:∀ x∈(bE k.W i).outs,x.2.length<=65536/\x.1∈(k.X.getD i mZ).outs:=XM hf.work.small i;have hw:=IP hf.work.small;obtain⟨s,rs,aL,hs⟩:=afq hw.fin i;have Y:=afz hf.work M aL;have AJ:(bE k.W i).reads=rs:=by
  rcases afr hw.fin aL hs with ⟨AL,I⟩ | ⟨p,_,_,I⟩ | ⟨p,_,_,I⟩
  ·have J:(bE k.W i)=(k.W.act i).out s:=I;rw [J];exact hw.reads i s rs aL AL
  ·have J:(bE k.W i).reads=rs:=congrArg iN.reads I;exact J
  ·have J:(bE k.W i).reads=rs:=congrArg iN.reads I;exact J
 rw [AJ];refine⟨om,om,fun x ah=>?_,fun x ah=>⟨?_,(Y.1 x ah).sum⟩⟩
 ·obtain⟨AO,A7⟩:=AB x ah;obtain⟨y,hy⟩:∃ x,k.bZ[i]?=some x:=⟨_,aQp ay⟩;rw [show k.X.getD i mZ=y.2 by rw [List.getD_eq_getElem?_getD,jo.X,List.getElem?_map,hy];rfl] at A7;have AP:=(hf.kV.fair y (aQr hy)).zX _ A7;unfold maxLen;omega
 ·have:=(Y.1 x ah).small;unfold maxLen;omega
theorem aM4 {keep:Bool} (hf:FC k) (h:GU k keep bG has σ aW):anD k.bZ.length σ.got (o9 k.W σ k.ib):=by
 have hA:Sn (Qc k.files k.X) (fI k.W):=LH hf.work.small;have hl:(o9 k.W σ k.ib).length<=100:=aQn (List.length_filterMap_le _ _) (aQn (Ou k.ib) hf.kV.qQ);refine⟨by have:=hf.kV.nN;omega,fun i I=>aM3 hf h I,om,fun x ah=>?_⟩;obtain⟨p,aL,ah⟩:=List.mem_filterMap.1 ah;have Y:=hf.kV.U6 p ((Ot k.ib).2 p |>.1 aL);have J:x=(p,(uC (fI k.W p) p).2.data):=by unfold fileOf at ah;simp at ah;exact ah.2.2.symm
 subst J;refine⟨by show p.length<=maxLen;unfold maxLen;omega,?_⟩;show (uC (fI k.W p) p).2.data.length<=maxLen;cases M:fI k.W p with
 | known gW=>have:=hA.data p gW M;show gW.data.length<=maxLen;unfold maxLen;omega
 | below=>exact aQu _
 | stuck=>exact aQu _
end
end Go.Proofs.YtjkinjbkknanbaaGreatDoor
