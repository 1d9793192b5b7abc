/- Ph -/
import Derived.Test.YtjkinjbkknanbaaGreatDoorPg
set_option maxRecDepth 100000
set_option maxHeartbeats 8000000
set_option linter.unusedSimpArgs false
set_option linter.unusedVariables false
namespace Go.Proofs.YtjkinjbkknanbaaGreatDoor
open Go.Proofs.Tryz
variable {a:kI}
variable {B j g4 q c b g aO k base jO ja i rX:Nat}
variable {gM:Int}
variable {iX V xs:aRD}
variable {v:Value}
variable {w w' aF wr af W':aRB}
variable {M:fu ak}
variable {A:aRC}
variable {x p:ak}
variable {t:TypeId}
variable {aI:aRI}
variable {bG:Nat->Bool}
variable {L:qh}
variable {met:List ak}
variable {has:ak->Bool}
variable {U aW:aRG}
variable {σ σ':bI}
section
open Go.Maps Go.RowKit Go.Shelf
def iG:List Value:=[.int .i64 0,.int .i64 0,.slice none 0 0,.slice none 0 0]
theorem auh (k y:Int) (A:aRC) (n c:Nat):prog.built 63 [(0,.int .i64 k),(1,.int .i64 y),(3,.slice A n c)]=some #[.int .i64 k,.int .i64 y,.slice none 0 0,.slice A n c]:=kr
theorem afg {P:Program} {W:aRB} {o:Oper} {a:Act} {K:Act->World->Prop} {Q:aRE} {t0:TypeId} {oW lN ui:Operand} {i0 i1 i2:Nat} (v0 v1 v2:Value) (cells:Array Value) (hf:P.built t0 [(i0,v0),(i1,v1),(i2,v2)]=some cells) (aG:o.op = .build t0 #[(i0,oW),(i1,lN),(i2,ui)]) (ah:a.eval oW=v0/\a.eval lN=v1/\a.eval ui=v2) (h:K (a.put o.dst (.agg cells)) W):o.wp P a W K Q :=
 wp_build t0 _ aG (by simp [ah,hf]) (by simpa [ah,hf] using h)
def XD (B F:Nat) (gM:Int) (n:Nat) (iX:aRD) (j:Nat) (v:Value) (w:aRB):Prop :=
 (j=8->∃ A c,v = .slice A n c/\Own w B 135 34 A n c iX)/\(j=9->∃ A c,v = .agg #[.int .i64 2,.int .i64 gM,.slice none 0 0,.slice A n c]/\Own w B 135 34 A n c iX) /\
 (j=10->∃ g,v = .pointer (some ⟨g,0,none⟩)/\aM w g iG 63 /\ F<=g)
theorem XD.keep {F:Nat} {n:Nat} (h:XD B F gM n iX j v w) (ae:Below w.heap.size w w'):XD B F gM n iX j v w' :=
 ⟨fun e=>(by obtain⟨A,c,I,J⟩:=h.1 e;exact⟨A,c,I,J.below ae (aQm _)⟩),fun e=>(by obtain⟨A,c,I,J⟩:=h.2.1 e;exact⟨A,c,I,J.below ae (aQm _)⟩),fun e=>(by obtain⟨g,I,J,M⟩:=h.2.2 e;exact⟨g,I,J.all ae,M⟩)⟩
theorem aHz {W:aRB} {m n:Nat} (h:eQ W prog 9 encS m n M) (hl:M.length<=1000) :
  Calls prog 99 #[.func (.func 152) #[] #[pp W.heap.size 0]] (W.alloc (.cells #[.map (some m)] 189)) fun e w'=>∃ A c,e = .returned (.slice A M.length c)/\Own w' (W.heap.size+1) 9 1 A M.length c (cu (M.map (·.1)))/\Bl W w':=by
 have A7:=h.A8 (string_keyed underlying9);refine (aQG.1 (Tryz.slices_Sorted_keys_99_100 m n (mapD M) (Oe encS) W h (by rw [Ty];unfold maxLen;omega) (by rw [Ty];omega))).mono ?_;rintro e w' ⟨v,AA,rfl,I,J,AJ,ae⟩;rw [aox] at I;have AB:AA.length=M.length:=by rw [I.length_eq,List.length_map]
 rw [aoz A7 I,AB] at J;obtain⟨iD,c2,rfl,Y⟩:=ahL J;have hs:(W.alloc (.cells #[.map (some m)] 189)).heap.size=W.heap.size+1:=by simp
 rw [hs] at Y ae;exact⟨iD,c2,rfl,Y,((Below.refl _ W).alloc (aQm _) _).trans (ae.mono om)⟩
structure XE (w aF wr:aRB) (g4:Nat) (gM:Int) (M:fu ak) (iX:aRD) (A9:aRC) (n c9:Nat) (iD:aRC) (q:Nat) (A:aRC) (c:Nat):Prop where
 XF:Bl aF wr
 row:aM wr g4 [.int .i64 1,.int .i64 gM,.slice A q c,.slice A9 n c9] 63
 outs:Own wr w.heap.size 65 2 A q c (cz fO (M.take q))
 reads:Own wr w.heap.size 135 34 A9 n c9 iX
 res:aM wr w.heap.size iG 63
 keys:∃ c2,Own wr w.heap.size 9 1 iD M.length c2 (cu (M.map (·.1)))
theorem XE.next {bK:aRB} {A9:aRC} {n c9:Nat} {iD:aRC} {fK:aRC} {fH:Nat} {x:ak × ak} (h:XE w aF wr g4 gM M iX A9 n c9 iD q A c) (hw:aF.heap.size=w.heap.size+1) (ax:aF.heap.size<=g4)
  (ah:M[q]?=some x) (hm:nM wr w.heap.size 65 2 A q c (cz fO (M.take q)) af) (aG:Own af w.heap.size 65 2 fK (q+1) fH (cz fO (M.take q)++fO x)) (av:aM bK g4 [.int .i64 1,.int .i64 gM,.slice fK (q+1) fH,.slice A9 n c9] 63) (aA:fU g4 af bK):XE w aF bK g4 gM M iX A9 n c9 iD (q+1) fK fH:=by
 have I:=hm.row h.row (h.outs.ne h.row dc).symm;obtain⟨c2,hk⟩:=h.keys;refine⟨oF (h.XF.grown hm.1 h.XF.size fun b e=>by
  have h1:=(h.outs.block b e).1;have Y:b≠w.heap.size:=fun J=>h.outs.ne h.res dc (by rw [e,J]);omega) aA ax,av,?_,iJ (akj h.reads h.outs dc hm.1) I dc aA,(hm.row h.res (h.outs.ne h.res dc).symm).dK aA om,c2,iJ (akj hk h.outs dc hm.1) I dc aA⟩
 have:=iJ aG I dc aA;rw [List.take_add_one,ah,show cz fO (M.take q++(some x).toList)=cz fO (M.take q)++fO x by simp [cz]];exact this
theorem XE.aHA {A9:aRC} {n c9:Nat} {iD:aRC} (h:XE w aF wr g4 gM M iX A9 n c9 iD q A c) (hw:aF.heap.size=w.heap.size+1) (hm:nM wr w.heap.size 65 2 A q c V af):Bl aF af :=
 h.XF.grown hm.1 h.XF.size fun b e=>by
  have h1:=(h.outs.block b e).1;have J:b≠w.heap.size:=fun I=>h.outs.ne h.res dc (by rw [e,I]);omega
theorem aui {l:nX} {P:nV} {ins asks:List ak} {b:dA} (h:iF w l P ins asks b) (gq:b.over=true) (vk:b.wrote.length<=1000) (xq:b.reads.length<=1000) (jS:∀ x∈b.wrote,x.1.length<=1100000) :
  Calls prog 95 #[pp l.X 0] w fun e w'=>∃ L:lK,e = .returned (.tuple #[.agg (jm b.out L).toArray,.bool true])/\nC w' w.heap.size b.out L/\Bl w w':=by
 obtain⟨aF,AV⟩:=ai (w.alloc (.cells iG.toArray 63));have Ak:=gQ AV;have C8:=lH AV;have C9:aF.heap.size=w.heap.size+1:=by rw [AV];simp
 obtain⟨X,aY,cZ,BK,rc,CE,m,hm,n,AZ,iX,Aw⟩:=nq6 l.X l.cZ l.rc l.m b.reads.length (cz gZ b.reads);obtain⟨gM,BL⟩:∃ k:Int,k=b.why:=⟨_,rfl⟩;have Aa:=fun W (ae:Below aF.heap.size aF W)=>show W.cell? (ad X 7)=some (.int .i64 gM)/\W.cell? (ad X 4)=some (.slice cZ n rc)/\W.cell? (ad X 6)=some (.bool true)/\W.cell? (ad X 3)=some (.map (some m)) by
  have ah:=(h.below (aR Ak ae)).row;rw [aY,BK,CE,hm,AZ,BL,<- gq];exact⟨ah.cell 7,ah.cell 4,ah.cell 6,ah.cell 3⟩
 have CJ:=fun W (ae:Below aF.heap.size aF W)=>adU W cZ n rc iX (by rw [BK,AZ,Aw];exact (h.below (aR Ak ae)).reads.rd) (by rw [Aw];exact ZQ FZ _) om;have CK:=fun W (ae:Below aF.heap.size aF W)=>show eQ W prog 9 encS m b.wrote.length b.wrote by rw [hm];exact (h.below (aR Ak ae)).map
 obtain⟨Al,CL,DX,BM⟩:=Aa aF (Below.refl _ _);have CS:iG.toArray=#[.int .i64 0,.int .i64 0,.slice none 0 0,.slice none 0 0]:=rfl;rw [CS] at AV;rw [<- aY];obtain⟨Ab,DY,BO,Am,CU,Ad,Ay,CV,BP,BQ,CW⟩:=hq11 Aa CJ CK Ak C8 C9 AZ Aw BL vk jS;have CZ:=aa (h.map.A8 (string_keyed underlying9));have DZ:=AV.symm;clear h gq vk xq jS Ak C8 C9 aY BK CE hm AZ Aw BL Aa CJ CK AV CS;go_enter func95,ntmps95;go_wp2_with fail;clear Al CL DX BM DZ;have kE:=Ab;refine ng nE 11 [some (pp X 0),some (pp X 0),some (pp X 7),some (.int .i64 gM),some (pp X 0),some (pp X 0),some (pp X 4),some (.slice cZ n rc),none,none,none] (XD w.heap.size aF.heap.size gM n iX) (Bl aF) Bl ((Below.refl _ aF).drew) (fun j v w1 af ae h=>h.keep ae) ?_ (jJ:=?_)
 ·intro u af aj Ae;obtain⟨A9,c9,Ca,Cb⟩:=(show XD w.heap.size aF.heap.size gM n iX 9 (u 9) af from Ae 9 om).2.1 rfl;obtain⟨g4,Ce,AA,Cf⟩:=(show XD w.heap.size aF.heap.size gM n iX 10 (u 10) af from Ae 10 om).2.2 rfl;clear Ae;simp only [Ca,Ce];obtain⟨Az,Cg,BA,AJ⟩:=hq4 aj Cb AA Cf;clear aj Cb AA Cf Ca Ce;have Ci:=fun (a b c d:Value)=>show (prog.info? 63).map (·.size)=some [a,b,c,d].length by exact kr
  have Ao:=Ci (.int .i64 2) (.int .i64 gM) (.slice none 0 0) (.slice A9 n c9);have BX:[Value.int .i64 2,.int .i64 gM,.slice none 0 0,.slice A9 n c9].length=iG.length:=rfl;have Bb:∀ v∈[Value.int .i64 2,.int .i64 gM,.slice none 0 0,.slice A9 n c9],v.oneCell'=true:=by simp [Value.oneCell']
  by_cases hy:gM=0
  ·have Da:(gM == 0)=true:=by rw [hy];rfl
   have Db:=aa hy;have Af:=aa (show b.out=⟨1,0,b.wrote,b.reads⟩ by rw [dA.out,if_pos (by have:=BP.o;omega)]);obtain⟨M,aj⟩:=ai b.wrote;rw [<- aj] at BO BQ CW CZ Af;obtain⟨N,BF⟩:=ai M.length;have Ag:=aa BF;have Ck:=aa (fun (W:aRB)=>aQG.1 (Tryz.maps_Keys_100 (some m) W));have Cm:=aa (fun W (ae:Below aF.heap.size aF W)=>by
    have:=aHz (BO.o W ae) BQ.o;rw [<- BF] at this;exact this)
   have Ei:N<=1000:=by rw [BF];exact BQ.o
   have Dc:[Value.int .i64 2,.int .i64 gM,.slice none 0 0,.slice A9 n c9].set 0 (.int .i64 1)=[.int .i64 1,.int .i64 gM,.slice none 0 0,.slice A9 n c9]:=rfl;have De:Sz 3 1:=kr;have Df:0+1<=[Value.int .i64 2,.int .i64 gM,.slice none 0 0,.slice A9 n c9].length:=by simp
   have Em:(Value.int .i64 1).cells.toList=[.int .i64 1]:=rfl;have Dg:(Value.int .i64 1).oneCell'=true:=rfl;clear hy aj BF;go_wp2_with (first
    | ((with_reducible refine Jk [.int .i64 2,.int .i64 gM,.slice none 0 0,.slice A9 n c9] BA.o Ao BX Bb ?_);intro bS AA A7;have AL:=oF Az.o A7 AJ.o;obtain⟨Al,_,_,_⟩:=Ab.o bS AL;obtain⟨BG,Bc,Bd⟩:=hq3 AA A7 AL;have BH:=aa ((CU.o.all Az.o).dK A7 (by have:=Ad.o;have:=AJ.o;omega));clear AA A7 AL)
    | ((with_reducible refine BU 0 (.int .i64 1) BG.o De Df Dg Dc ?_);intro Bf Cn Bi;have Bn:=oF Bd.o Bi AJ.o;clear Al;obtain⟨_,_,_,BM⟩:=Ab.o Bf Bn;obtain⟨Bo,Co,Bp⟩:=hq3 Cn Bi Bn;clear Cn Bi Bn)
    | (go_at_call 100; refine (Ck.o Bf).mono ?_;rintro e w1 ⟨rfl,rfl⟩;clear BM)
    | (go_at_call 99; refine (Cm.o Bf Bp.o).mono ?_;rintro e Dh ⟨iD,c2,rfl,Ah,Cs⟩;have Dk:=aa Ah;have BI:=aa Cs;clear Ah Cs))
   clear Cm Ck;go_loopg [36] N (fun gk Dl wr=>∃ q:Nat,q+gk=N/\Dl = .int .i64 q/\∃ A c,XE w aF wr g4 gM M iX A9 n c9 iD q A c);case atStart =>
    exact⟨0,om,rfl,none,0,aR Bp.o BI.o,Bo.o.all BI.o,Own.nil _ _ _ _,(iJ (iJ Cg.o BA.o dc Bc.o) BG.o dc Co.o).below BI.o (aQm _),(BH.o.dK Co.o (by have:=Ad.o;have:=AJ.o;omega)).all BI.o,_,by have:=Dk.o.mono (base':=w.heap.size) (by have:=Am.o.size;have:=Bp.o.size;omega);rw [Ag.o] at this;exact this⟩
   case round =>
    obtain⟨q,En,rfl,A,c,Y⟩:=hrel;by_cases Dm:q < N
    ·have Dp:(q:Int) < N:=om;have Eo:(0:Int)<=q:=om;obtain⟨x,ah⟩:∃ x,M[q]?=some x:=⟨_,aQp (by rw [<- Ag.o];exact Dm)⟩;have Ct:=aHx CZ.o ah;have Dq:=CW.o x (aQr ah);obtain⟨Ep,Cv⟩:=Y.keys;obtain⟨Dr,Dt,rfl,Cw⟩:=Cv.rd.2 (by rw [<- Ag.o];omega);have Aa:wr.cell? (ad Dr (Dt+q))=some (.string (az x.1)):=Cw q _ (by simp [cu,ah]);obtain⟨AB,Ap,Aq,Bq⟩:=nq2 (az x.1) (az x.2);have Cz:=aa (fun (af:aRB) (aj:nM wr w.heap.size 65 2 A q c (cz fO (M.take q)) af)=>show af.cell? (ad g4 2)=some (.slice A q c)/\af.cell? (ad X 3)=some (.map (some m))/\(Instr.lookup 189 (.map (some m)) (.string AB) false).run prog af = .ok (.string Aq) af from by
      have hl:=Y.aHA Ad.o aj;refine⟨(aj.row Y.row (Y.outs.ne Y.row dc).symm).cell 2,(Ab.o af hl).2.2.2,?_⟩;have:=(BO.o af hl).look O1 underlying9 underlying189 [] (Zy af) AB (by rw [Ap,iM];unfold maxLen;omega);rw [show AB.data.toList=x.1 by rw [Ap,gU],Ct] at this;rw [Bq];exact this)
     have Dx:=aa Y.outs;obtain⟨I,Ai⟩:=ai ([Value.string AB,.string Aq]);have Dy:I.length=2:=by rw [Ai];rfl
     have Dz:∀ v∈I,v.oneCell'=true:=by rw [Ai];simp [Value.oneCell']
     have E8:(Value.agg I.toArray).cells.size=2:=by rw [Ai];rfl
     have AZ:q<=1000000:=om;have bg:w.heap.size<=wr.heap.size:=by have:=Y.XF.size;have:=Ad.o;omega
     have E9:=aa (show prog.built 65 [(0,.string AB),(1,.string Aq)]=some I.toArray by rw [Ai];exact kr);have EB:=aa (show fO x=I by rw [Ai,Ap,Bq];rfl);have J:=aa Y;have ED:=aa ah;rw [<- Ap] at Aa;clear Y ah Ct Dq Cv Cw Ap Bq Ai;go_wp2_with fail;clear Aa;have kE:=Cz;refine ng nE 13 [some (pp g4 2),some (.slice A q c),some (.string AB),some (pp X 0),some (pp X 0),some (pp X 3),some (.map (some m)),some (.string AB),some (.string Aq),some (.agg I.toArray),none,none,some (pp g4 2)] (wV wr.heap.size (w.heap.size) 65 2 A q c (cz fO (M.take q)) I 10 11) (nM wr (w.heap.size) 65 2 A q c (cz fO (M.take q))) (oN (w.heap.size) 65 2 A c (q+1) ((cz fO (M.take q))++I)) (nM.start Dx.o) (fun j v w1 af ae h=>h.keep ae) ?_ (jJ:=?_)
     ·intro u af aj Ae;obtain⟨AO,AP,EG,BJ⟩:=(show wV wr.heap.size (w.heap.size) 65 2 A q c (cz fO (M.take q)) I 10 11 11 (u 11) af from Ae 11 om).1.2.1 rfl;clear Ae;simp only [EG];have DD:=aa aj;have EH:=aa BJ;have DF:=DD.o.row J.o.row (J.o.outs.ne J.o.row dc).symm;have EI:=aa DF;have EK:Sz 22 1:=kr;have Er:(Value.slice AO (q+1) AP).cells.toList=[Value.slice AO (q+1) AP]:=rfl;have EL:2+1<=[Value.int .i64 1,.int .i64 gM,.slice A q c,.slice A9 n c9].length:=by simp
      have hq3:(Value.slice AO (q+1) AP).oneCell'=true:=rfl;have EM:[Value.int .i64 1,.int .i64 gM,.slice A q c,.slice A9 n c9].set 2 (.slice AO (q+1) AP)=[.int .i64 1,.int .i64 gM,.slice AO (q+1) AP,.slice A9 n c9]:=rfl;clear DF BJ aj;go_wp2_with (first
       | ((with_reducible refine BU 2 (.slice AO (q+1) AP) EI.o EK EL hq3 EM ?_);refine zR ?_;intro bS Br Au))
      go_roundg (gk - 1);case rel=>exact⟨q+1,om,by go_num,AO,AP,J.o.next Ad.o AJ.o ED.o DD.o (by rw [EB.o];exact EH.o.1) Br.o Au.o⟩
      case measure=>omega
     ·repeat' (first | exact trivial | apply And.intro)
      all_goals try exact rx
      all_goals intro eH u af aj aK bz K aS
      all_goals try simp [iY,Region.binds] at bz
      all_goals refine mf rfl ?_
      all_goals obtain⟨Es,Eu,Ev⟩:=Cz.o af aj
      ·refine aki (.string AB) (.string Aq) _ E9.o rfl ⟨by simp [Act.eval,aK,bz],by simp [Act.eval,aK,bz]⟩ ?_;exact aS _ _ rfl aj (oN.refl _)
      ·refine Nl KM (.agg I.toArray) E8 rfl (by simp [Act.eval,aK,bz]) ?_;exact aS _ _ ⟨⟨fun _=>⟨_,rfl,aM.new af I _,aj.Jv⟩,fT,fun e=>absurd rfl e⟩,fT⟩ (aj.alloc _) (oN.alloc af _)
      ·obtain⟨EO,Bt⟩:=bz;obtain⟨g9,EP,ER,Ew⟩:=(show wV wr.heap.size (w.heap.size) 65 2 A q c (cz fO (M.take q)) I 10 11 10 _ af from Bt).1.1 rfl;refine XB KM rfl aj.2 g9 ER Dy Dz AZ (aQn bg aj.1.size) underlying22 ⟨by simp [Act.eval,aK,EO],by simp [Act.eval,aK,EP]⟩ ?_;intro iD c2 aC BJ DL EU EW;exact aS _ _ ⟨⟨fT,fun _=>⟨iD,c2,rfl,BJ⟩,fun _ e=>absurd rfl e⟩,fun _ cO m3 bF EY j aD EZ=>by cases EY;exact EW j (aQq aD aj.1.size) EZ⟩ ⟨F8 aj.1 DL.1,EU⟩ DL
    ·have DN:q=N:=om;have Dp:¬ (q:Int) < N:=om;have J:=aa Y;have Bu:=aa DN;have Bv:=Ci (.int .i64 1) (.int .i64 gM) (.slice A q c) (.slice A9 n c9);have Ec:[Value.int .i64 1,.int .i64 gM,.slice A q c,.slice A9 n c9].length=iG.length:=rfl;have Ah:∀ v∈[Value.int .i64 1,.int .i64 gM,.slice A q c,.slice A9 n c9],v.oneCell'=true:=by simp [Value.oneCell']
     clear Y DN;go_wp2_with (first
      | ((with_reducible refine wpList_load_row g4 0 [.int .i64 1,.int .i64 gM,.slice A q c,.slice A9 n c9] [.int .i64 1,.int .i64 gM,.slice A q c,.slice A9 n c9] _ J.o.row ?_ _ underlying63 Bv ?_ ?_);exact rfl;exact⟨rfl,rfl⟩)
      | ((with_reducible refine vC [.int .i64 1,.int .i64 gM,.slice A q c,.slice A9 n c9] J.o.res Bv Ec Ah ?_);intro rW Br Au))
     refine Ej Br.o underlying63 rfl Bv ⟨rfl,rfl,rfl⟩ ⟨⟨A,c,A9,c9⟩,?_,?_,oF (Am.o.trans (J.o.XF.mono Am.o.size)) Au.o (aQm _)⟩
     ·have gq:jm ⟨1,0,M,b.reads⟩ ⟨A,c,A9,c9⟩=[.int .i64 1,.int .i64 gM,.slice A q c,.slice A9 n c9]:=by rw [Bu.o,Ag.o,Ay.o,Db.o];rfl
      rw [Af.o,gq];rfl
     ·rw [Af.o];have h1:=iJ J.o.outs J.o.res dc Au.o;have ag:=iJ J.o.reads J.o.res dc Au.o;rw [List.take_of_length_le (by rw [Bu.o,Ag.o];exact Nat.le_refl _),Bu.o,Ag.o] at h1;rw [CV.o,Ay.o] at ag;exact⟨h1,ag⟩
  ·have Da:(gM == 0)=false:=by simpa using hy
   have Af:=aa (show b.out=⟨2,b.why,[],b.reads⟩ by rw [dA.out,if_neg (fun e=>hy (by rw [BP.o,e];rfl))]);clear hy;go_wp2_with (first
    | ((with_reducible refine Jk [.int .i64 2,.int .i64 gM,.slice none 0 0,.slice A9 n c9] BA.o Ao BX Bb ?_);intro bS AA A7;have AL:=oF Az.o A7 AJ.o;obtain⟨Al,_,_,_⟩:=Ab.o bS AL;obtain⟨BG,Bc,Bd⟩:=hq3 AA A7 AL;have BH:=aa ((CU.o.all Az.o).dK A7 (by have:=Ad.o;have:=AJ.o;omega));clear AA A7 AL)
    | ((with_reducible refine wpList_load_row g4 0 [.int .i64 2,.int .i64 gM,.slice none 0 0,.slice A9 n c9] [.int .i64 2,.int .i64 gM,.slice none 0 0,.slice A9 n c9] _ BG.o ?_ _ underlying63 Ao ?_ ?_);exact rfl;exact⟨rfl,rfl⟩)
    | ((with_reducible refine vC [.int .i64 2,.int .i64 gM,.slice none 0 0,.slice A9 n c9] BH.o Ao BX Bb ?_);intro Dh Bo DR))
   have Ah:=iJ (iJ Cg.o BA.o dc Bc.o) BH.o dc DR.o;have Ee:=oF (aR Am.o Bd.o) DR.o (aQm _);refine Ej Bo.o underlying63 rfl Ao ⟨rfl,rfl,rfl⟩ ⟨⟨none,0,A9,c9⟩,?_,?_,Ee⟩
   ·rw [Af.o,Ay.o,BP.o];rfl
   ·rw [Af.o];exact⟨Own.nil _ _ _ _,by have:=Ah;rw [Ay.o,CV.o] at this;exact this⟩
 ·repeat' (first | exact trivial | apply And.intro)
  all_goals try exact rx
  all_goals intro eH u af aj aK bz K aS
  all_goals try simp [iY,Region.binds] at bz
  all_goals refine mf rfl ?_
  all_goals obtain⟨Al,CL,_⟩:=Ab.o af aj
  ·go_simp;refine (DY.o af aj).mono ?_;rintro e aC ⟨cO,bF,rfl,Bw,DW⟩;exact aS _ _ ⟨fun _=>⟨cO,bF,rfl,Bw.mono (aQn Am.o.size aj.size)⟩,fT,fT⟩ (aR aj DW) DW
  ·obtain⟨Eg,ah⟩:=bz;obtain⟨cO,bF,Bt,Bw⟩:=ah.1 rfl;refine afg (.int .i64 2) (.int .i64 gM) (.slice cO n bF) _ (auh 2 gM cO n bF) rfl ⟨rfl,by simp [Act.eval,aK,Eg],by simp [Act.eval,aK,Bt]⟩ ?_;exact aS _ _ ⟨fT,fun _=>⟨cO,bF,rfl,Bw⟩,fT⟩ aj (Below.refl _ _)
  ·go_simp;exact aS _ _ ⟨fT,fT,fun _=>⟨_,rfl,aM.new af iG _,aj.size⟩⟩ (aj.alloc aj.size _) gK
theorem wp_store_row {P:Program} {W:aRB} {o:Oper} {a:Act} {K:Act->World->Prop} {Q:aRE} {ty:TypeId} {x v:Operand} (g off:Nat) (val:Value) (vs V uO:aRD) (t:TypeId) (ax:aM W g V t) (nD:val.cells.toList=vs)
  (ay:(P.info? ty).map (·.size)=some vs.length) (tQ:off+vs.length<=V.length) (h1:∀ v∈vs,v.oneCell'=true) (ag:V.take off++vs++V.drop (off+vs.length)=uO)
  (aG:o.op = .store ty x v) (uZ:a.eval x = .pointer (some ⟨g,off,none⟩)/\a.eval v=val) (h:∀ aV,aM aV g uO t->fU g W aV->K (a.put o.dst undef) aV):o.wp P a W K Q :=
 an3 ty x v aG g off uZ.1 val uZ.2 vs nD V.toArray t ax ay (by simpa using tQ) h1 (h _ (by
  have:=aQB W g _ (laid V.toArray off vs) _ _ ax;rw [aM,<- ag];exact this) (adE W g _))
def XI:List TypeId:=[135,268,65,80,45]++aeZ
def aHC (w w':aRB):Prop:=∀ (k:Nat) (cs:Array Value) (t:TypeId) (bf:Nat × Nat),w.heap[k]?=some (.cells cs t bf)->t∈XI->w'.heap[k]?=w.heap[k]?
structure kY (T:Nat) (C:aRI) (w w':aRB):Prop where
 os:w'.os=w.os
 tape:w'.tape=w.tape
 output:w'.output=w.output
 size:w.heap.size<=w'.heap.size
 keep:∀ k,k < T->k < w.heap.size->¬ C k->w'.heap[k]?=w.heap[k]?
 high:∀ (k:Nat) (o:Obj),w.heap[k]?=some o->T<=k->(∀ cs bf,o ≠ .cells cs 3 bf)->w'.heap[k]?=w.heap[k]?
 calm:aHC w w'
section
variable {T:Nat} {C:aRI} {w w' af:aRB}
theorem kY.refl (w:aRB):kY T C w w:=⟨rfl,rfl,rfl,aQm _,fun _ _ _ _=>rfl,fun _ _ _ _ _=>rfl,fun _ _ _ _ _ _=>rfl⟩
theorem kY.trans (h:kY T C w w') (k:kY T C w' af):kY T C w af :=
 ⟨k.os.trans h.os,k.tape.trans h.tape,k.output.trans h.output,aQn h.size k.size,fun j h1 I J=>(k.keep j h1 (aQq I h.size) J).trans (h.keep j h1 I J),fun j o h1 I J=>(k.high j o ((h.high j o h1 I J).trans h1) I J).trans (h.high j o h1 I J),fun j cs t bf h1 I=>(k.calm j cs t bf ((h.calm j cs t bf h1 I).trans h1) I).trans (h.calm j cs t bf h1 I)⟩
theorem kY.gT (h:Bl w w'):kY T C w w':=⟨h.os,h.tape,h.output,h.size,fun k _ hk _=>h.block k hk,fun k o hk _ _=>h.block k (ic hk),fun k cs t bf hk _=>h.block k (ic hk)⟩
theorem kY.ug (h:fU g w w') (ax:C g) (bY:g < T) (aB:∀ cs t bf,w.heap[g]?=some (.cells cs t bf)->t ∉ XI):kY T C w w':=⟨h.1,h.2.1,h.2.2.1,aQL h.2.2.2.1.symm,fun k _ _ hc=>h.2.2.2.2 k fun e=>hc (e ▸ ax),fun k o _ hk _=>h.2.2.2.2 k fun e=>om,fun k cs t bf hk I=>h.2.2.2.2 k fun e=>aB cs t bf (e ▸ hk) I⟩
theorem kY.ald (h:fU g w w') (ax:C g) (bY:g < T) (av:aM w g V t) (aA:t ∉ XI):kY T C w w':=.ug h ax bY fun cs t2 bf e=>by
 rw [av] at e;injection e with e
 injection e with _ e
 rwa [<- e]
theorem kY.aHD {n:Nat} (h:w.grownBy w' (bV A)) (aG:Own w T 3 aO A n c xs):kY T C w w' :=
 ⟨h.os,h.tape,h.output,h.size,fun k hk hs _=>h.block k hs fun e=>by
  have:=(aG.block k e.symm).1;omega,fun k o hk M I=>h.block k (ic hk) fun e=>by
  obtain⟨_,_,cur,bf,ae⟩:=aG.block k e.symm;rw [hk] at ae;exact I _ _ (aQS ae),fun k cs t bf hk J=>h.block k (ic hk) fun e=>by
  obtain⟨_,_,cur,Y,ae⟩:=aG.block k e.symm;rw [hk] at ae;injection ae with ae
  injection ae with _ ae
  subst ae;exact absurd J dc⟩
theorem kY.cells (h:kY T C w w') {cs:Array Value} {bf:Nat × Nat} (hk:w.heap[k]?=some (.cells cs t bf)) (bY:T<=k) (aA:t ≠ 3):w'.heap[k]?=w.heap[k]?:=h.high k _ hk bY fun zw I e=>by
 injection e with _ e
 exact aA e
theorem aM.nP (hk:kY T C w w') (h:aM w g V t) (bY:T<=g) (aA:t ≠ 3):aM w' g V t:=(hk.cells h bY aA).trans h
theorem Own.nP (hk:kY T C w w') {n:Nat} (h:Own w base t aO A n c xs) (bY:T<=base) (aA:t ≠ 3):Own w' base t aO A n c xs:=h.keep fun b ae _ _=>by
 obtain⟨h1,_,cur,bf,hc⟩:=h.block b ae;exact hk.cells hc om aA
end
end
section
open Go.Maps Go.RowKit Go.Shelf
abbrev aa8:=Option Addr × Nat × Nat
def Si (x:aa8):Value:=.slice x.1 x.2.1 x.2.2
theorem ale (a b:aa8) (h:Si a=Si b):a=b:=by
 obtain⟨M,a2,a3⟩:=a;obtain⟨eP,Y,A7⟩:=b;simp only [Si] at h;injection h with h1 I J
 rw [h1,I,J]
def afh (W:aRB) (B:Nat) (aI:aRI) (t:lI) (x:aa8):Prop:=x.2.1=1/\∃ L,Own W B 224 34 x.1 1 x.2.2 (gJ t L)/\oH W B t L/\∀ q,bV L.A=some q->aI q
theorem afh.all {W:aRB} {t:lI} {x:aa8} (h:afh W B aI t x) (ae:Bl W W'):afh W' B aI t x:=by obtain⟨I,L,h1,J,M⟩:=h;exact⟨I,L,h1.below ae (aQm _),J.all ae,M⟩
structure LD (W:aRB) (B:Nat) (aI:aRI) (jO ja:Nat) (n:Nat) (gm:Nat->List UInt8) (df:Nat->lI) (bG:Nat->Bool):Prop where
 obj:aM W jO [.int .i64 8,.map (some ja)] 86
 far:B<=jO/\B<=ja
 map:∃ M:fu aa8,eQ W prog 59 Si ja M.length M/\(∀ x∈M,∃ j,j < n/\x.1=gm j)/\∀ i,i < n->(bG i=true->∃ x,getM M (gm i)=some x/\afh W B aI (df i) x)/\(bG i=false->getM M (gm i)=none)
theorem LD.all {W:aRB} {n:Nat} {gm:Nat->List UInt8} {df:Nat->lI} (h:LD W B aI jO ja n gm df bG) (ae:Bl W W'):LD W' B aI jO ja n gm df bG:=by obtain⟨M,h1,hs,I⟩:=h.map;refine⟨h.obj.all ae,h.far,M,h1.below ae h1.lt,hs,fun i J=>⟨fun e=>?_,(I i J).2⟩⟩;obtain⟨x,Y,A7⟩:=(I i J).1 e;exact⟨x,Y,A7.all ae⟩
theorem aHE (w:aRB) (n:Nat) (aI:aRI) (gm:Nat->List UInt8) (df:Nat->lI):CR 11 #[.int .i64 8] w (.tuple #[pp (w.heap.size+1) 0,.int .i64 0]) fun w'=>LD w' w.heap.size aI (w.heap.size+1) w.heap.size n gm df (fun _=>false)/\Bl w w':=by have I:=@run_makeMap prog;go_enter func11,ntmps11;go_wp2;refine aQx (aQT rfl _ _ _) rfl ?_;refine⟨rfl,⟨?_,⟨Nat.le_succ _,aQm _⟩,[],(eQ.made w _ _ _).alloc _,fun x ah=>(by cases ah),fun i _=>⟨fun e=>(by cases e),fun _=>rfl⟩⟩,((Below.refl _ w).alloc (aQm _) _).alloc sp _⟩;have:=aQz (w.alloc (.map #[] 0)) (.cells #[.int .i64 8,.map (some w.heap.size)] 86);rwa [World.size_alloc] at this
section
variable {W W':aRB} {B g:Nat} {t:lI} {L:qh}
theorem aun (h:aM W g (gJ t L) 224):W.cell? (ad g 32)=some (.slice L.A t.reads.length L.c):=(h.cell 32).trans (ai9 t L)
theorem afi (h:aM W g (gJ t L) 224):W.cell? (ad g 33)=some (.slice L.B t.outs.length L.d):=(h.cell 33).trans (adY t L)
theorem aHF (t:lI) (L:qh) (A:aRC) (c:Nat):(gJ t L).take 32++[Value.slice A t.reads.length c]++(gJ t L).drop (32+[Value.slice A t.reads.length c].length)=gJ t ⟨A,c,L.B,L.d⟩:=by have h:=rf t.key;simp only [gJ];rw [List.take_append,List.drop_append,h,List.take_of_length_le om,List.drop_of_length_le (by simp [h])];simp
theorem aHG (t:lI) (L:qh) (A:aRC) (c:Nat):(gJ t L).take 33++[Value.slice A t.outs.length c]++(gJ t L).drop (33+[Value.slice A t.outs.length c].length)=gJ t ⟨L.A,L.c,A,c⟩:=by have h:=rf t.key;simp only [gJ];rw [List.take_append,List.drop_append,h,List.take_of_length_le om,List.drop_of_length_le (by simp [h])];simp
end
def IG (B:Nat) (w aV:aRB) (g1:Nat) (t:lI) (af:aRB):Prop:=Bl w af/\aM af (w.heap.size+1) Gn 224 /\ ∃ L,aM af g1 (gJ t L) 224 /\ oH af B t L
def afj (B:Nat) (t:lI) (j:Nat) (v:Value) (w:aRB):Prop :=
 (j < 3->∃ A c,v = .slice A t.reads.length c/\Own w B 135 34 A t.reads.length c (cz gZ t.reads))/\(3 < j/\j < 6->∃ A c,v = .slice A t.outs.length c/\Own w B 268 33 A t.outs.length c (cz mh t.outs))
theorem auo {W:aRB} {n:Nat} (h:Own W B t aO A n c xs) (ae:Bl W W'\/fU g W W'/\∃ V,aM W g V 224) (aA:t ≠ 224):Own W' B t aO A n c xs:=by
 rcases ae with ae | ⟨h1,V,I⟩
 ·exact h.below ae (aQm _)
 ·exact iJ h I aA h1
theorem afj.keep {t:lI} (h:afj B t j v w) (ae:Bl w w'\/fU g w w'/\∃ V,aM w g V 224):afj B t j v w' :=
 ⟨fun e=>(by obtain⟨A,c,I,J⟩:=h.1 e;exact⟨A,c,I,auo J ae dc⟩),fun e=>(by obtain⟨A,c,I,J⟩:=h.2 e;exact⟨A,c,I,auo J ae dc⟩)⟩
section
variable {B:Nat} {w aV af aC:aRB} {g1:Nat} {t:lI}
theorem IG.below (h:IG B w aV g1 t af) (ae:Bl af aC):IG B w aV g1 t aC:=by obtain⟨h1,I,L,J,M⟩:=h;exact⟨aR h1 ae,I.all ae,L,J.all ae,M.all ae⟩
theorem IG.aiJ (h:IG B w aV g1 t af) (av:aM af g1 (gJ t L) 224) (hA:oH af B t L) (aG:Own af B 135 34 A t.reads.length c (cz gZ t.reads)) (jf:aM aC g1 (gJ t ⟨A,c,L.B,L.d⟩) 224) (aA:fU g1 af aC) (ax:g1=w.heap.size):IG B w aV g1 t aC :=
 ⟨oF h.1 aA om,h.2.1.dK aA om,_,jf,iJ aG av dc aA,iJ hA.outs av dc aA⟩
theorem IG.aHH (h:IG B w aV g1 t af) (av:aM af g1 (gJ t L) 224) (hA:oH af B t L) (aG:Own af B 268 33 A t.outs.length c (cz mh t.outs)) (jf:aM aC g1 (gJ t ⟨L.A,L.c,A,c⟩) 224) (aA:fU g1 af aC) (ax:g1=w.heap.size):IG B w aV g1 t aC :=
 ⟨oF h.1 aA om,h.2.1.dK aA om,_,jf,iJ hA.reads av dc aA,iJ aG av dc aA⟩
end
theorem aup (w:aRB) (B:Nat) (t:lI) (L:qh) (h:oH w B t L) (bg:B<=w.heap.size) (hl:t.reads.length<=1000/\t.outs.length<=1000) :
  Calls prog 313 #[.agg (gJ t L).toArray] w fun e w'=>∃ QJ,e = .returned (.agg (gJ t QJ).toArray)/\oH w' B t QJ/\Bl w w':=by
 obtain⟨aF,AB⟩:∃ W,W=w.alloc (.cells (gJ t L).toArray 224):=⟨_,rfl⟩;obtain⟨aV,AL⟩:∃ W,W=aF.alloc (.cells Gn.toArray 224):=⟨_,rfl⟩;have Ae:=gQ AB;have Ay:aF.heap.size=w.heap.size+1:=by rw [AB];simp
 have AZ:=gQ AL;have Am:aM aF w.heap.size (gJ t L) 224:=by rw [AB];exact aM.new w _ _
 have A7:aM aV (w.heap.size+1) Gn 224:=by rw [AL,<- Ay];exact aM.new aF _ _
 obtain⟨g1,Aa⟩:∃ g,g=w.heap.size:=⟨_,rfl⟩;have Az:=aa (show IG B w aV g1 t aV.drew from ⟨(aR Ae AZ).drew,A7,L,by rw [Aa];exact Am.all AZ.drew,(h.all Ae).all AZ.drew⟩);have BA:=aa (fun (W:aRB) (A:aRC) (c:Nat) (av:Rd W 34 A t.reads.length (cz gZ t.reads))=>adU W A t.reads.length c _ av (ZQ FZ _) om);have BF:=aa (fun (W:aRB) (A:aRC) (c:Nat) (av:Rd W 33 A t.outs.length (cz mh t.outs))=>aDy W A t.outs.length c _ av (ZQ Um _) om);have Ao:=aa bg;have Ab:=aa Aa;obtain⟨V,Af⟩:=ai (gJ t L);rw [<- Af];rw [<- Af] at AB;rw [atc] at AL;have BG:=AB.symm;have BH:=AL.symm;clear h bg hl Ae AZ Am A7 AB AL Af;have BI:=Aa.symm;clear Aa;go_enter func313,ntmps313;go_wp2_with fail;clear BI BG BH;refine ng nE 10 [some _,none,none,some _,none,none,some _,none,some _,none] (afj B t) (IG B w aV g1 t) (fun a b=>Bl a b\/fU g1 a b/\∃ V,aM a g1 V 224) Az.o (fun j v w1 af ae h=>h.keep ae) ?_ (jJ:=⟨rx,rs ?_,rs ?_,rx,rs ?_,rs ?_,rx,rs ?_,rx,rs ?_,trivial⟩)
 rotate_left
 ·intro eH u af aj aK K aS bz;obtain⟨AJ,A7,I,J,Y⟩:=id aj;have BX:=aun J;go_simp;exact aS _ _ ⟨fun _=>⟨_,_,rfl,Y.reads⟩,fT⟩ aj (.inl (Below.refl _ _))
 ·intro eH u af aj aK K aS bz;obtain⟨A,c,AO,AA⟩:=bz.1 dc;go_simp;refine (BA.o af A c AA.rd).mono ?_;rintro e aC ⟨cO,bF,rfl,Ag,AP⟩;exact aS _ _ ⟨fun _=>⟨cO,bF,rfl,Ag.mono (aQn Ao.o aj.1.size)⟩,fT⟩ (aj.below AP) (.inl AP)
 ·intro eH u af aj aK K aS bz;obtain⟨AJ,A7,I,J,Y⟩:=id aj;have Bb:=afi J;go_simp;exact aS _ _ ⟨fT,fun _=>⟨_,_,rfl,Y.outs⟩⟩ aj (.inl (Below.refl _ _))
 ·intro eH u af aj aK K aS bz;obtain⟨A,c,AO,AA⟩:=bz.1.2 dc;go_simp;refine (BF.o af A c AA.rd).mono ?_;rintro e aC ⟨cO,bF,rfl,Ag,AP⟩;exact aS _ _ ⟨fT,fun _=>⟨cO,bF,rfl,Ag.mono (aQn Ao.o aj.1.size)⟩⟩ (aj.below AP) (.inl AP)
 ·intro eH u af aj aK K aS bz;obtain⟨AJ,A7,I,J,Y⟩:=id aj;obtain⟨A,c,AO,AA⟩:=bz.2.1.1 dc;refine wp_store_row g1 32 (.slice A t.reads.length c) [.slice A t.reads.length c] _ _ _ J rfl rfl (by rw [Ef];exact Nat.le_succ 33) (by simp;rfl) (aHF t I A c) rfl ⟨by simp [Act.eval,aK,bz.1],by simp [Act.eval,aK,AO]⟩ ?_;intro BJ Ah AV;exact aS _ _ ⟨fT,fT⟩ (IG.aiJ aj J Y AA Ah AV Ab.o) (.inr ⟨AV,_,J⟩)
 ·intro eH u af aj aK K aS bz;obtain⟨AJ,A7,I,J,Y⟩:=id aj;obtain⟨A,c,AO,AA⟩:=bz.2.1.2 dc;refine wp_store_row g1 33 (.slice A t.outs.length c) [.slice A t.outs.length c] _ _ _ J rfl rfl (by rw [Ef];exact aQm 34) (by simp;rfl) (aHG t I A c) rfl ⟨by simp [Act.eval,aK,bz.1],by simp [Act.eval,aK,AO]⟩ ?_;intro BJ Ah AV;exact aS _ _ ⟨fT,fT⟩ (IG.aHH aj J Y AA Ah AV Ab.o) (.inr ⟨AV,_,J⟩)
 ·intro u af aj BK;clear BK;obtain⟨AJ,A7,I,J,Y⟩:=aj;have BL:=aa AJ;have Ap:=aa J;have Ai:=aa (show aM af (g1+1) Gn 224 by rw [Ab.o];exact A7);have Aq:=aa Y;have Ad:=Pe t I;have Au:(gJ t I).length=Gn.length:=by rw [Ef];rfl
  have Aw:=MW t I;have BM:((gJ t I).drop 0).take (gJ t I).length=gJ t I:=by simp
  obtain⟨BO,Ak⟩:∃ V,V=gJ t I:=⟨_,rfl⟩;rw [<- Ak] at Ad Au Aw Ap BM;have BP:=aa Ak;clear AJ A7 J Y Ak;go_wp2_with (first
   | (with_reducible refine kv Ap.o underlying224 Ad ?_)
   | ((with_reducible refine vC BO Ai.o Ad Au Aw ?_);intro Bc BQ Al))
  refine D9 BQ.o underlying224 rfl Ad ⟨rfl,rfl,rfl⟩ ⟨I,by rw [BP.o],⟨iJ Aq.o.reads Ai.o dc Al.o,iJ Aq.o.outs Ai.o dc Al.o⟩,oF BL.o Al.o (by rw [Ab.o];exact Nat.le_succ _)⟩
end
section
open Go.ChangeMaps Go.MapKept Go.Maps Go.RowKit Go.Shelf Go.WideAt Go.WideMaps
theorem afk {α:Type} (a v c:List α) (k:Nat):(k < a.length->(a++v++c)[k]?=a[k]?)/\(a.length<=k->k < a.length+v.length->(a++v++c)[k]?=v[k - a.length]?)/\(a.length+v.length<=k->(a++v++c)[k]?=c[k - a.length - v.length]?):=by
 rw [List.append_assoc];refine⟨fun h=>List.getElem?_append_left h,fun h1 I=>?_,fun h1=>?_⟩
 ·rw [List.getElem?_append_right h1,List.getElem?_append_left om]
 ·rw [List.getElem?_append_right om,List.getElem?_append_right om]
theorem aHJ {n:Nat} (P:Program) (h:Own w base t aO A n c xs) (aD:j < n) {o:Nat} (hA:A=some ⟨b,o,none⟩) (vs:aRD) (hl:vs.length=aO) (h1:∀ v∈vs,v.oneCell'=true) :
  ∃ aV,(storeCells ⟨b,o+j * aO,none⟩ vs 0).run P w = .ok () aV/\fU b w aV/\Own aV base t aO A n c (xs.take (j * aO)++vs++xs.drop (j * aO+aO)):=by
 have Y:=h.2.1;have AP:=h.1;obtain⟨b',AV,cur,bf,e,ae,hc,hf,hs,ah⟩:=h.at_ om;rw [hA] at e;cases e;have hm:j * aO+aO<=n * aO:=by rw [<- Nat.succ_mul];exact aQP _ aD
 have AZ:n * aO<=c * aO:=aQP _ Y;have Aa:cur.toList.length=cur.size:=Array.length_toList;refine⟨_,Yv P b (o+j * aO) t bf vs 0 cur w hf hc om h1,adE w b _,by simp;omega,Y,h.2.2.1,.inr ⟨b,o,_,bf,hA,ae,aQB w b cur _ t bf hc,?_,?_,fun i AO=>?_⟩⟩
 ·rw [show (cur.toList.take (o+j * aO+0)++vs++cur.toList.drop (o+j * aO+0+vs.length)).toArray.size=cur.size by simp;omega];exact hf
 ·rw [show (cur.toList.take (o+j * aO+0)++vs++cur.toList.drop (o+j * aO+0+vs.length)).toArray.size=cur.size by simp;omega];exact hs
 ·have J:=ah i AO;rw [List.getElem?_toArray];rw [<- Array.getElem?_toList] at J;have A7:(cur.toList.take (o+j * aO+0)).length=o+j * aO:=by rw [List.length_take];omega
  have AA:(xs.take (j * aO)).length=j * aO:=by rw [List.length_take];omega
  obtain⟨AB,a2,a3⟩:=afk (cur.toList.take (o+j * aO+0)) vs (cur.toList.drop (o+j * aO+0+vs.length)) (o+i);obtain⟨eP,AJ,AL⟩:=afk (xs.take (j * aO)) vs (xs.drop (j * aO+aO)) i;rw [A7,hl] at a2 a3;rw [A7,hl] at AB;rw [AA,hl] at AJ AL;rw [AA] at eP;rcases aQD i (j * aO) with I | I
  ·rw [hl,AB om,eP I,List.getElem?_take_of_lt om,List.getElem?_take_of_lt I];exact J
  ·rcases aQD i (j * aO+aO) with M | M
   ·rw [hl,a2 om om,AJ I M,show o+i - (o+j * aO)=i - j * aO by omega]
   ·rw [hl,a3 om,AL M,List.getElem?_drop,List.getElem?_drop,show o+j * aO+0+aO+(o+i - (o+j * aO) - aO)=o+i by omega,show j * aO+aO+(i - j * aO - aO)=i by omega];exact J
section
variable {P:Program} {W:aRB} {a:Act} {K:Act->World->Prop} {Q:aRE} {ty gP:TypeId} {x v:Operand}
theorem auq {o:Oper} (aG:o.op = .store ty x v) {p:Addr} (ah:a.eval x = .pointer (some p)) (val:Value) (aZ:a.eval v=val) (vs:aRD) (nD:val.cells.toList=vs)
  (ay:(P.info? ty).map (·.size)=some vs.length) {aV:aRB} (dJ:(storeCells p vs).run P W = .ok () aV) (h:K (a.put o.dst undef) aV):o.wp P a W K Q:=by
 cases I:P.info? ty with
 | none=>simp [I] at ay
 | some i =>
  have hs:i.size=vs.length:=by simpa [I] using ay
  have hcs:val.cells.size=vs.length:=by rw [<- nD];simp
  unfold Oper.wp execOp;simp [aG,ah,aZ,Instr.storeAt,Instr.sureAddr,storeVar,sizeOf,typeInfo,I,hs,hcs,nD,dJ];exact h
theorem aHK {o:Oper} (aG:o.op = .store ty x v) {n:Nat} (h:Own W base t aO A n c xs) (aD:j < n) (hA:A=some ⟨b,q,none⟩) (val:Value) (vs:aRD) (nD:val.cells.toList=vs) (hl:vs.length=aO)
  (ay:(P.info? ty).map (·.size)=some aO) (h1:∀ v∈vs,v.oneCell'=true) (uZ:a.eval x = .pointer (some ⟨b,q+j * aO,none⟩)/\a.eval v=val)
  (hk:∀ aV,Own aV base t aO A n c (xs.take (j * aO)++vs++xs.drop (j * aO+aO))->fU b W aV->K (a.put o.dst undef) aV):o.wp P a W K Q:=by
 obtain⟨aV,I,J,M⟩:=aHJ P h aD hA vs hl h1;exact auq aG uZ.1 val uZ.2 vs nD (by rw [hl];exact ay) I (hk aV M J)
theorem aHL {ops:Array Oper} {rest:List Oper} {dst:Option Tmp} {pos:String} {after:Array Edge} {n:Nat} (h:Own W base t aO A n c xs) (aD:j < n) (hA:A=some ⟨b,q,none⟩) (val:Value) (vs:aRD) (nD:val.cells.toList=vs) (hl:vs.length=aO)
  (ay:(P.info? ty).map (·.size)=some aO) (h1:∀ v∈vs,v.oneCell'=true) (uZ:a.eval x = .pointer (some ⟨b,q+j * aO,none⟩)/\a.eval v=val)
  (hk:∀ aV,Own aV base t aO A n c (xs.take (j * aO)++vs++xs.drop (j * aO+aO))->fU b W aV->wpList P ops Q rest (a.put dst undef) aV):wpList P ops Q (⟨dst,.store ty x v,gP,pos,after,none⟩ :: rest) a W :=
 aQM rfl fun _ I=>aHK rfl h aD hA val vs nD hl ay h1 uZ fun aV J M=>I _ _ (hk aV J M)
end
section
variable {α:Type} {enc:α->Value} {w:aRB} {P:Program} {k t e:TypeId} {b n:Nat} {M:fu α}
theorem eQ.aur (h:eQ w P k enc b n M) (wH:∀ a b,enc a=enc b->a=b) (K:Keyed P k) (aA:P.underlying t=some (.map k e)) (z0:α) (dB:(zeroValue e).run P w = .ok (enc z0) w) {gW:aRH} (hk:keyOf P k v=some (.string gW)) :
  (Instr.lookup t (.map (some b)) v false).run P w = .ok (enc ((getM M gW).getD z0)) w:=by
 obtain⟨u,ps,Y,J⟩:=aRr h K aA dB (Kl wH z0) hk;rw [YN] at J;obtain⟨a,rfl,I⟩:=Tx J;rw [Y];cases ax:getM M gW with
 | none=>rw [ax] at I;injection I with I;subst I;rfl
 | some x=>rw [ax] at I;injection I with I;subst I;rfl
end
end
section
open Go.Maps Go.RowKit Go.Shelf
theorem aus (w:aRB):(zeroValue 213).run prog w = .ok (Si (none,0,0)) w:=by rw [zeroValue213];rfl
theorem LD.look {W:aRB} {n:Nat} {gm:Nat->List UInt8} {df:Nat->lI} (h:LD W B aI jO ja n gm df bG) (ay:i < n) (yh:(gm i).length=32) :
  ∃ A c L,(∀ W',Bl W W'->(Instr.lookup 84 (.map (some ja)) (.agg (l6 (gm i)).toArray) false).run prog W' = .ok (.slice A (if bG i=true then 1 else 0) c) W') /\
   (bG i=true->Own W B 224 34 A 1 c (gJ (df i) L)/\oH W B (df i) L)/\(bG i=false->A=none/\c=0):=by
 obtain⟨M,h1,_,I⟩:=h.map;have key:∀ W',Bl W W'->(Instr.lookup 84 (.map (some ja)) (.agg (l6 (gm i)).toArray) false).run prog W' = .ok (Si ((getM M (gm i)).getD (none,0,0))) W':=fun W' ae=>by
  have:=(h1.below ae h1.lt).aur ale MM underlying84 (none,0,0) (aus W') (Ua yh);rw [Ra] at this;rw [H7 yh];exact this
 cases J:bG i with
 | true =>
  obtain⟨⟨A,m,c⟩,ax,hm,L,Y,A7,_⟩:=(I i ay).1 J;simp only at hm Y;subst hm;exact⟨A,c,L,fun W' ae=>by rw [key W' ae,ax];rfl,fun _=>⟨Y,A7⟩,fun e=>(by cases e)⟩
 | false =>
  have ax:=(I i ay).2 J;exact⟨none,0,⟨none,0,none,0⟩,fun W' ae=>by rw [key W' ae,ax];rfl,fun e=>(by cases e),fun _=>⟨rfl,rfl⟩⟩
theorem aut {W:aRB} {Mk Xi n gH c2 o:Nat} {t2:TypeId} {ys:aRD} (h:Own W base t aO A n c xs) (aG:Own W Mk t2 Xi (some ⟨b,o,none⟩) gH c2 ys) (bJ:t≠t2) (k:fU b W W'):Own W' base t aO A n c xs:=h.keep fun b' I _ _=>k.2.2.2.2 b' (by
 rintro rfl;obtain⟨_,_,cur,bf,hc⟩:=aG.block b' rfl;exact h.ne hc bJ I)
theorem aHM (w:aRB) {n:Nat} {gm:Nat->List UInt8} {df:Nat->lI} (h:LD w B aI jO ja n gm df bG) (bg:B<=w.heap.size) (ay:i < n) (yh:(gm i).length=32) (hl:(df i).reads.length<=1000/\(df i).outs.length<=1000) :
  Calls prog 308 #[pp jO 0,.agg (l6 (gm i)).toArray] w fun e w'=>∃ A c,e = .returned (.slice A (if bG i=true then 1 else 0) c)/\(bG i=true->∃ L,Own w' w.heap.size 224 34 A 1 c (gJ (df i) L)/\oH w' B (df i) L)/\Bl w w':=by
 obtain⟨AJ,Ae,Af,AL,Ag,Au⟩:=h.look ay yh;obtain⟨N,J,mW,AO,dQ,AP⟩:=nq3 (if bG i=true then 1 else 0) (if bG i=true then gJ (df i) Af else []) (l6 (gm i));rw [<- AP,<- J] at AL;rw [<- AP,<- J];obtain⟨aF,A7⟩:=ai (w.alloc (.cells dQ.toArray 59));have Y:=gQ A7;have Bb:aF.heap.size=w.heap.size+1:=by rw [A7];simp
 have Aw:=lH A7;obtain⟨g1,AV⟩:=ai w.heap.size;have Ay:∀ W,Bl w W->Rd W 34 AJ N mW:=fun W ae=>by
  rw [J,AO];cases aT:bG i with
  | true=>exact ((Ag aT).1.below ae (aQm _)).rd
  | false=>rw [(Au aT).1];exact Rd.none_ _ _ _
 have Az:∀ v∈mW,v.oneCell'=true:=by
  rw [AO];split
  ·exact MW _ _
  ·intro v AZ;cases AZ
 have Ck:N<=1:=by rw [J];split <;> omega
 have BA:=aa (fun af (ae:Bl aF af)=>show af.cell? (ad jO 1)=some (.map (some ja))/\aM af g1 dQ 59 /\ (Instr.lookup 84 (.map (some ja)) (.agg dQ.toArray) false).run prog af = .ok (.slice AJ N Ae) af from
  ⟨((h.obj.all Y).all ae).cell 1,by rw [AV];exact Aw.all ae,AL af (aR Y ae)⟩)
 have Bc:=aa (fun af (ae:Bl aF af)=>aDz af AJ N Ae mW (Ay af (aR Y ae)) Az om);have Bd:=aa (fun (aT:bG i=true) (af:aRB) (ae:Bl aF af)=>show oH af B (df i) Af from ((Ag aT).2.all Y).all ae);obtain⟨Ah,Bf,Bi⟩:=hq3 Y AO J;have Cm:=aa (show N < 1->bG i=false from fun AA=>by
  rw [J] at AA;split at AA
  ·omega
  ·rename_i aT;simpa using aT)
 have Bn:=aa (show 0 < N->bG i=true/\N=1 from fun AA=>by
  rw [J] at AA |-;split at AA
  ·rename_i aT;exact⟨aT,if_pos aT⟩
  ·omega)
 obtain⟨Bo,Bp,Bq⟩:=hq3 bg hl AV;have Br:(dQ.drop 0).take dQ.length=dQ:=by simp
 have Bt:Sz 59 dQ.length:=by rw [AP,rf];exact kr
 have Bu:=A7.symm;have Bv:=AV.symm;clear h bg ay yh hl AL Ag Au J AO AP A7 Y Bb Aw Ay Az AV;go_enter func308,ntmps308;go_wp2_with fail;clear Bv Bu;have kE:=BA;refine ng nE 7 [some (pp jO 0),some (pp jO 0),some (pp jO 1),some (.map (some ja)),some (.agg dQ.toArray),some (.slice AJ N Ae),none] (fun j v af=>j=6->∃ A c,v = .slice A N c/\Own af aF.heap.size 224 34 A N c mW) (Bl aF) Bl ((Below.refl _ aF).drew) (fun j v w1 af ae=>fun h e=>(by obtain⟨A,c,Bw,C8⟩:=h e;exact⟨A,c,Bw,C8.below ae (aQm _)⟩)) ?_ (jJ:=?_)
 ·intro u af aj BF;obtain⟨cO,bF,BG,Aa⟩:=(show 6=6->∃ A c,u 6 = .slice A N c/\Own af aF.heap.size 224 34 A N c mW from BF 6 om) rfl;clear BF;simp only [BG];have BH:=aa aj;have C9:=aa Aa;clear aj Aa BG;go_wp2_with fail;go_loopg [18] N (fun gk CE wr=>∃ q:Nat,q+gk=N/\CE = .int .i64 q/\Bl aF wr/\(bG i=true->∃ L,Own wr aF.heap.size 224 34 cO 1 bF (gJ (df i) L)/\oH wr B (df i) L));case atStart=>exact⟨0,om,rfl,BH.o,fun aT=>⟨Af,by have:=C9.o;rw [Bf.o,if_pos aT,(Bi.o.trans (if_pos aT))] at this;exact this,Bd.o aT _ BH.o⟩⟩
  case round =>
   obtain⟨q,Cn,rfl,Ab,Ai⟩:=hrel;by_cases Co:q < N
   ·obtain⟨aT,CJ⟩:=Bn.o om;have Ak:q=0:=om;obtain⟨L,Ad,BI⟩:=Ai aT;obtain⟨CK,Al,Cs,Ct,rfl,AB,BJ,_,_,BK⟩:=Ad.at_ (by have:=Ad.2.1;omega);have CL:(q:Int) < N:=om;have Cv:(0:Int)<=q:=om;have CS:q < 1:=om;have BL:=Pe (df i) L;have BM:=aa (KT (W:=wr) (g:=CK) (o:=Al+q * 34) (V:=gJ (df i) L) (fun j v AZ=>by
     have aD:j < 1 * 34:=by have:=(aQs.1 AZ).1;rw [Ef] at this;omega
     rw [Ak,show Al+0 * 34+j=Al+j by omega,World.cell?,BJ];exact (BK j aD).trans AZ) underlying224 rfl BL (Below.refl _ wr))
    have BO:=aa (aup wr B (df i) L BI (aQn Bo.o (aQn Ah.o.size Ab.size)) Bp.o);obtain⟨BP,CU,CV,CW⟩:=hq4 Ad Ab Ak AB;have CZ:Sz 224 34:=kr;have hcs:∀ I,(Value.agg (gJ (df i) I).toArray).cells.toList=gJ (df i) I:=fun I=>qD _;have Ca:∀ I,(gJ (df i) I).length=34:=fun I=>Ef _ _;have Cb:∀ I,∀ v∈gJ (df i) I,v.oneCell'=true:=fun I=>MW _ _;obtain⟨V,Am⟩:=ai (gJ (df i) L);rw [<- Am] at BM BO BP;have Ce:=aa (show V.length=34 by rw [Am];exact Ef _ _);clear Ai Ad BI BJ BK Ab BL Am Ak AB CJ;go_wp2_with (first
     | ((with_reducible refine pY BM.o ?_ ?_);exact rfl)
     | (go_at_call 313; refine BO.o.mono ?_;rintro e Cw ⟨I,rfl,BQ,Ao⟩;have BX:=aa BQ;have Cf:=aa Ao;have Ap:=aa (BP.o.below Ao (aQm _));clear BQ Ao)
     | ((with_reducible refine aHL Ap.o CS rfl (.agg (gJ (df i) I).toArray) (gJ (df i) I) (hcs I) (Ca I) CZ (Cb I) ?_ ?_);exact⟨rfl,rfl⟩;refine zR ?_;intro Cz Cg Aq))
    go_roundg (gk - 1);case rel =>
     refine⟨q+1,om,by go_num,oF (aR CU.o Cf.o) Aq.o CW.o,fun _=>⟨I,?_,aut BX.o.reads Ap.o dc Aq.o,aut BX.o.outs Ap.o dc Aq.o⟩⟩;have:=Cg.o;rw [CV.o,Nat.zero_mul,List.take_zero,List.nil_append,List.drop_of_length_le (by rw [Ce.o];exact Nat.le_refl _),List.append_nil] at this;exact this
    case measure=>omega
   ·have DD:q=N:=om;have CL:¬ (q:Int) < N:=om;go_wp2_with fail;go_ret;rw [Bq.o];exact⟨cO,bF,rfl,fun aT=>by
     obtain⟨L,h1,Ci⟩:=Ai aT;exact⟨L,h1.mono Ah.o.size,Ci⟩,aR Ah.o Ab⟩
 ·repeat' (first | exact trivial | apply And.intro)
  all_goals try exact rx
  all_goals intro eH u af aj aK bz K aS
  all_goals try simp [iY,Region.binds] at bz
  all_goals refine mf rfl ?_
  all_goals obtain⟨DF,kr,AL⟩:=BA.o af aj
  ·refine wp_load_row g1 0 dQ dQ _ kr Br _ underlying59 Bt ⟨rfl,by simp [Act.eval,aK],rfl⟩ ?_;exact aS _ _ rfl aj (Below.refl _ _)
  ·go_simp;refine (Bc.o af aj).mono ?_;rintro e aC ⟨cO,bF,rfl,Aa,AB⟩;exact aS _ _ (fun _=>⟨cO,bF,rfl,Aa.mono aj.size⟩) (aR aj AB) AB
theorem aHT (w:aRB) (c f:Nat) (El:Array Value):CB 309 #[.slice none 0 c,.func (.func f) #[] El] w (.slice none 0 c):=by
 have ah:∀ (W:aRB),CB 315 #[.slice none 0 c,.func (.func f) #[] El] W (.int .i64 (-1)):=by
  intro W;go_enter func315,ntmps315;go_wp2_with fail;go_loopg [8] 0 (fun gk J wr=>J = .int .i64 0/\Bl W wr);case atStart=>exact⟨rfl,Below.refl _ _⟩
  case round =>
   obtain⟨rfl,I⟩:=hrel;have M:=aa I;clear I;go_wp2_with fail;go_ret;exact⟨rfl,M.o⟩
 have Y:=aa ah;clear ah;go_enter func309,ntmps309;go_wp2_with (first | (go_at_call 315; refine jw (Y.o w) ?_;intro af A7));go_ret;exact⟨rfl,A7.o⟩
theorem aHU (w:aRB) (B g:Nat) (V:aRD) (av:Rd w 34 (some ⟨g,0,none⟩) 1 V) (iV:∀ v∈V,v.oneCell'=true) (bg:B<=w.heap.size) :
  Calls prog 312 #[.slice none 0 0,.int .i64 0,.slice (some ⟨g,0,none⟩) 1 1] w fun e w'=>∃ A c,e = .returned (.slice A 1 c)/\Own w' B 224 34 A 1 c V/\Bl w w':=by
 go_enter func312,ntmps312;go_wp2_with (at_builtin;have _t:=av;go_must ((with_reducible refine ve 224 _ 34 80 underlying213 Rf.info Rf.zs B none 0 0 [] (Own.nil _ _ _ _) 1 V (.slice (some ⟨g,0,none⟩) 1 1) (Src.slice underlying213 av) iV ?_ ?_ ?_ ?_ ?_);exact mO;omega;exact bg;exact⟨rfl,rfl⟩;intro cO bF aC I J M));refine aQx (aQX rfl _ _ _) rfl ?_;rw [List.nil_append,Nat.zero_add] at I;exact⟨cO,bF,rfl,I,(Below.refl _ w).grown J (aQm _) (fun k e=>by cases e)⟩
theorem aHV (w:aRB) {n:Nat} {gm:Nat->List UInt8} {df:Nat->lI} (h:LD w B aI jO ja n gm df bG) (bg:B<=rX/\rX<=w.heap.size) (ay:i < n) (aB:n<=1000) (Dt:bG i=false) (aa9:∀ j,j < n->j≠i->gm j≠gm i) (yh:(gm i).length=32) (Rb:(df i).key=gm i)
  (gY:oH w rX (df i) L) (fo:Xh (df i)) :
  CR 307 #[pp jO 0,.agg (gJ (df i) L).toArray] w (.int .i64 0) fun w'=>LD w' B (fun q=>aI q\/rX<=q) jO ja n gm df (fun j=>j == i || bG j)/\jW ja ja w w':=by
 obtain⟨M,tT,Af,Ag⟩:=h.map;have Aw:=(Ag i ay).2 Dt;obtain⟨dQ,AL,V,AO⟩:=nq2 (l6 (gm i)) (gJ (df i) L);obtain⟨aV,Ad⟩:=ai (w.alloc (.cells V.toArray 224));have I:=gQ Ad;have Ay:=lH Ad;obtain⟨g1,Ah⟩:=ai w.heap.size;have Az:∀ W,Bl w W->(Instr.lookup 84 (.map (some ja)) (.agg dQ.toArray) false).run prog W = .ok (.slice none 0 0) W:=fun W ae=>by
  have:=(tT.below ae tT.lt).aur ale MM underlying84 (none,0,0) (aus W) (Ua yh);rw [Ra,Aw] at this;rw [AL,H7 yh];exact this
 have AA:=aa (fun af (ae:Bl aV af)=>show af.cell? (ad jO 1)=some (.map (some ja))/\af.cell? (ad jO 0)=some (.int .i64 8)/\aM af g1 V 224 /\ (Instr.lookup 84 (.map (some ja)) (.agg dQ.toArray) false).run prog af = .ok (.slice none 0 0) af from
  ⟨((h.obj.all I).all ae).cell 1,((h.obj.all I).all ae).cell 0,by rw [Ah];exact Ay.all ae,Az af (aR I ae)⟩)
 have BA:=aa (fun af (ae:Bl aV af)=>aeH af (df i) L ((gY.all I).all ae).at_ fo);have BF:=aa (fun af (ae:Bl aV af)=>aup af rX (df i) L ((gY.all I).all ae) (aQn bg.2 (aR I ae).size) ⟨by have:=fo.few.1;omega,fo.few.2⟩);have Bf:=aa (fun af (ae:Bl aV af)=>show eQ af prog 59 Si ja M.length M from tT.below (aR I ae) tT.lt);have Bi:M.length<=n:=by
  have Bn:=akd (tT.A8 MM);have:=Xa (l:=M.map (·.1)) (m:=(List.range n).map gm) Bn fun x ah=>by
   obtain⟨y,hy,rfl⟩:=aQv.1 ah;obtain⟨j,aD,e⟩:=Af y hy;exact aQv.2 ⟨j,aQK.2 aD,e.symm⟩
  simpa using this
 have Bo:M.length < maxLen:=by unfold maxLen;omega
 have Bp:keyOf prog 59 (.agg dQ.toArray)=some (.string (gm i)):=by have:=Ua yh;rw [Ra] at this;rw [AL,H7 yh];exact this
 have Bq:=aa (fun (AB AP:aRB) (A:aRC) (c:Nat) (J:qh) (ae:Bl aV AB) (Br:Own AB B 224 34 A 1 c (gJ (df i) J)) (Ai:oH AB rX (df i) J) (hm:eQ AP prog 59 Si ja (M.length+1) (oz M (gm i) (A,1,c))) (Ak:fU ja AB AP) =>
   show LD AP B (fun q=>aI q\/rX<=q) jO ja n gm df (fun j=>j == i || bG j)/\jW ja ja w AP from by
  have Y:=aR I ae;have BG:∃ o,AB.heap[ja]?=some o/\o.isCells=false:=by obtain⟨es,Ct,Bt,_⟩:=tT.below Y tT.lt;exact⟨_,Bt,rfl⟩
  have AJ:∀ {aO n c:Nat} {t:TypeId} {A:aRC} {xs:aRD},Own AB B t aO A n c xs->Own AP B t aO A n c xs:=fun {aO n c t A xs} ah=>ah.keep fun k hk _ _=>Ak.2.2.2.2 k (by
   rintro rfl;obtain⟨_,_,cur,bf,hc⟩:=ah.block k hk;obtain⟨o,AV,Al⟩:=BG;rw [hc] at AV;cases AV;cases Al)
  refine⟨⟨(h.obj.all Y).dK Ak (by
   rintro rfl;obtain⟨o,AV,Al⟩:=BG;rw [h.obj.all Y] at AV;cases AV;cases Al),h.far,_,hm.tight,fun x ah=>?_,fun j aD=>?_⟩,(jW.gT Y).trans (jW.ug Ak)⟩
  ·rcases Xf ah with rfl | ah
   ·exact⟨i,ay,rfl⟩
   ·exact Af x (aQ8.1 ah).1
  ·by_cases Ae:j=i
   ·subst Ae;refine⟨fun _=>⟨_,Mq _ _ _,rfl,J,AJ Br,⟨AJ (Ai.mono bg.1).reads,AJ (Ai.mono bg.1).outs⟩,fun q Am=>.inr (Ai.reads.block q Am).1⟩,fun e=>?_⟩;simp at e
   ·have BH:=aa9 j aD Ae;obtain⟨h1,Bu⟩:=Ag j aD;refine⟨fun e=>?_,fun e=>?_⟩
    ·obtain⟨x,Bv,Bw,C8,C9,BI,CE⟩:=h1 (by simpa [Ae] using e);exact⟨x,by rw [Mr _ _ BH,Bv],Bw,C8,AJ (C9.below Y (aQm _)),⟨AJ (BI.all Y).reads,AJ (BI.all Y).outs⟩,fun q Am=>.inl (CE q Am)⟩
    ·rw [Mr _ _ BH];exact Bu (by simpa [Ae] using e))
 have CJ:=aa I;have BJ:=aa bg;have BK:(V.drop 0).take dQ.length=dQ:=by rw [AO,AL,rf,<- Rb,List.drop_zero,gJ,List.take_append_of_le_length (by rw [rf];exact Nat.le_refl _),List.take_of_length_le (by rw [rf];exact Nat.le_refl _)]
 have BL:Sz 59 dQ.length:=by rw [AL,rf];exact kr
 have BM:Sz 224 V.length:=by rw [AO];exact Pe _ _
 have Cv:(V.drop 0).take V.length=V:=by simp
 rw [<- AO];rw [<- AO] at BA BF;have CK:=Ad.symm;have CL:=Ah.symm;clear h bg ay aB Dt aa9 yh Rb gY fo tT Af Ag Aw AL AO Ad I Ay Az Bi Ah;go_enter func307,ntmps307;have CS:=aa (AA.o aV (Below.refl _ _)).2.2.1;go_wp2_with (first
  | (with_reducible refine kv CS.o underlying224 BM ?_)
  | (go_at_call 168; refine jw (BA.o aV (Below.refl _ _)) ?_;intro AZ Ao))
 clear CL CK;have kE:=aa fun af (aj:Bl AZ af)=>AA.o af (aR Ao.o aj);refine ng nE 9 [some (pp jO 0),some (pp jO 0),some (pp jO 1),some (.map (some ja)),some (pp g1 0),some (.agg dQ.toArray),some (.slice none 0 0),some (.func (.func 310) #[] #[pp g1 0]),some (.slice none 0 0)] (fun _ _ _=>False) (Bl AZ) Bl ((Below.refl _ AZ).drew) (fun j v w1 af ae h=>h.elim) ?_ (jJ:=?_)
 ·intro u af aj Ap;clear Ap;have Aq:=aa (aR Ao.o aj);clear aj;have CU:=aa (AA.o af Aq.o).2.2.1;have hcs:∀ J,(Value.agg (gJ (df i) J).toArray).cells.size=34:=fun J=>by simp [Value.cells,Ef]
  go_wp2_with (first
   | (with_reducible refine kv CU.o underlying224 BM ?_)
   | (go_at_call 313; refine (BF.o af Aq.o).mono ?_;rintro e CV ⟨J,rfl,BO,BP⟩;have CW:=aa BO;have Aa:=aa (aR Aq.o BP);clear BO BP)
   | ((with_reducible refine BV Rf (.agg (gJ (df i) J).toArray) (hcs J) rfl ?_);intro CZ Au A7;rw [qD] at Au;have Ca:=aa Au;have Cb:=aa (CW.o.all A7);have BQ:=aa (aR Aa.o A7);clear Au A7)
   | (go_at_call 312; refine (aHU CZ B CV.heap.size _ Ca.o (MW _ _) (aQn (aQn BJ.o.1 BJ.o.2) (aR CJ.o BQ.o).size)).mono ?_;rintro e Ab ⟨cO,bF,rfl,BX,A7⟩;have Bb:=aa BX;have Ce:=aa (Cb.o.all A7);have Aa:=aa (aR BQ.o A7);clear BX A7))
  have Cf:(1:Int)<=bF:=by have:=Bb.o.2.1;omega
  have kE:=aa fun af (aj:Bl Ab af)=>AA.o af (aR Aa.o aj);refine ng nE 15 [some (pp jO 0),some (pp jO 0),some (pp jO 1),some (.map (some ja)),some (pp g1 0),some (.agg dQ.toArray),some (.slice cO 1 bF),some (.slice cO 1 bF),some (.int .i64 1),some (pp jO 0),some (pp jO 0),some (pp jO 0),some (.int .i64 8),some (.int .i64 1),some (.slice cO 1 bF)] (fun _ _ _=>False) (Bl Ab) Bl ((Below.refl _ Ab).drew) (fun j v w1 af ae h=>h.elim) ?_ (jJ:=?_)
  ·intro u af aj Ap;clear Ap;have Bc:=aa (aR Aa.o aj);have Cg:=aa (Bb.o.below aj (aQm _));have Ci:=aa (Ce.o.all aj);clear aj Cf;go_wp2_with (first
    | ((with_reducible refine adC (Bf.o _ Bc.o) ale MM underlying84 Bo (.agg dQ.toArray) (gm i) Bp (cO,1,bF) ?_ ?_);exact⟨rfl,rfl,rfl⟩;refine zR ?_;intro rW Ck Cm))
   go_ret;exact⟨rfl,Bq.o _ rW cO bF J Bc.o Cg.o Ci.o Ck.o Cm.o⟩
  ·repeat' (first | exact trivial | apply And.intro)
   all_goals try exact rx
   all_goals intro eH u af aj aK bz K aS
   all_goals try simp [iY,Region.binds] at bz
   all_goals refine mf rfl ?_
   all_goals obtain⟨Cn,Co,kr,Cs⟩:=AA.o af (aR Aa.o aj)
   ·refine wp_load_row g1 0 V dQ _ kr BK _ underlying59 BL ⟨rfl,by simp [Act.eval,aK,bz],rfl⟩ ?_;exact aS _ _ rfl aj (Below.refl _ _)
 ·repeat' (first | exact trivial | apply And.intro)
  all_goals try exact rx
  all_goals intro eH u af aj aK bz K aS
  all_goals try simp [iY,Region.binds] at bz
  all_goals refine mf rfl ?_
  all_goals obtain⟨Cn,Co,kr,Cs⟩:=AA.o af (aR Ao.o aj)
  ·refine wp_load_row g1 0 V dQ _ kr BK _ underlying59 BL ⟨rfl,by simp [Act.eval,aK,bz],rfl⟩ ?_;exact aS _ _ rfl aj (Below.refl _ _)
  ·go_simp;refine (aHT af 0 310 #[pp g1 0]).mono ?_;rintro e aC ⟨rfl,Bd⟩;exact aS _ _ rfl (aR aj Bd) Bd
end
section
open Go.RowKit Go.Shelf
theorem auv {o:Nat} (h:w.cell? (ad b o)=some v):b < w.heap.size:=by
 rcases aQD b w.heap.size with h1 | h1
 ·exact h1
 ·unfold World.cell? at h;rw [Array.getElem?_eq_none h1] at h;cases h
theorem aHY (x:ak × ak):(prog.info? 65).map (·.size)=some (fO x).length:=kr
theorem afl (x:ak × ak):∀ v∈fO x,v.oneCell'=true:=by simp [fO,Value.oneCell']
theorem Sk (x:ak × ak):(fO x).length=2:=rfl
theorem aHZ (w:aRB) (A B:aRC) (c d n:Nat) (xs:List (ak × List UInt8)) (ys:List (ak × ak)) (hA:Rd w 33 A n (cz mh xs)) (bg:Rd w 2 B n (cz fO ys)) (ah:xs.length=n) (hy:ys.length=n) (aB:n<=1000000) (f:Nat) (iC:Array Value) (vw:Enters prog f)
  (hf:∀ W,Bl w W->∀ (k:Nat) x y,xs[k]?=some x->ys[k]?=some y->Calls prog f (#[.agg (mh x).toArray,.agg (fO y).toArray]++iC) W fun e w'=>e = .returned (.bool true)/\Bl W w') :
  CB 305 #[.slice A n c,.slice B n d,.func (.func f) #[] iC] w (.bool true):=by
 have BX:∀ (args:Array Value) (w:aRB),(callFunc f args).run prog w = .ok (.enter f args) w:=vw;obtain⟨Am,Ao,AV,AZ,Ap⟩:=hq5 hA bg ah hy hf;clear hA bg ah hy hf vw;go_enter func305,ntmps305;go_wp2_with fail;go_loopg [17] n (fun gk Aq wr=>∃ j:Nat,j+gk=n/\Aq = .int .i64 j/\Bl w wr);case atStart=>exact⟨0,om,rfl,Below.refl _ _⟩
 case round =>
  obtain⟨j,aD,rfl,M⟩:=hrel;have Bb:(0:Int)<=j:=om;by_cases Aa:j < n
  ·have Au:(j:Int) < n:=om;obtain⟨x,ah⟩:∃ x,xs[j]?=some x:=⟨_,aQp (by rw [AV.o];exact Aa)⟩;obtain⟨y,hy⟩:∃ y,ys[j]?=some y:=⟨_,aQp (by rw [AZ.o];exact Aa)⟩;obtain⟨eP,Bc,rfl,AB⟩:=vE (f:=mh) (k:=33) Ic underlying268 rfl kr (Am.o.gp M) ah AV.o;obtain⟨X,I⟩:=ai (mh x);obtain⟨Aw,A7⟩:=ai (wr.alloc (.cells X.toArray 268));have Ab:=gQ A7;have Ad:=lH A7;have AJ:=aR M Ab;have Ae:Sz 268 X.length:=by rw [I];exact ZR x
   have Ay:X.length=33:=by rw [I];exact (Ic) x
   have Az:∀ v∈X,v.oneCell'=true:=by rw [I];exact Um x
   have Bd:(X.drop 0).take X.length=X:=by simp
   obtain⟨Bf,Bi,rfl,AL⟩:=vE (f:=fO) (k:=2) Sk underlying65 rfl kr (Ao.o.gp AJ) hy AZ.o;obtain⟨Y,J⟩:=ai (fO y);obtain⟨bS,AA⟩:=ai (Aw.alloc (.cells Y.toArray 65));have AO:=gQ AA;have Af:=lH AA;have Ag:=Ad.all AO;have Ah:=aR AJ AO;have Ai:Sz 65 Y.length:=by rw [J];exact aHY y
   have BA:Y.length=2:=by rw [J];exact (Sk) y
   have BF:∀ v∈Y,v.oneCell'=true:=by rw [J];exact afl y
   have Bn:(Y.drop 0).take Y.length=Y:=by simp
   have AP:=fun W (ae:Bl w W)=>Ap.o W ae j x y ah hy;rw [<- I,<- J] at AP;rw [<- I] at AB;rw [<- J] at AL;obtain⟨BG,BH,BI,BJ,Ak,BK⟩:=hq6 AB AL Ag Af Ah AP;have BL:=A7.symm;have BM:=AA.symm;obtain⟨g3,BO⟩:=ai wr.heap.size;clear AB AL Ad Af Ag AJ Ah ah hy I J AP A7 AA M Ab AO BO;go_wp2_with (first
    | ((with_reducible refine pY BG.o ?_ ?_);exact rfl)
    | (with_reducible refine zo X Ay Ae Az ?_)
    | ((with_reducible refine pY BH.o ?_ ?_);exact rfl)
    | (with_reducible refine zo Y BA Ai BF ?_)
    | (with_reducible refine kv BI.o underlying268 Ae ?_)
    | (with_reducible refine kv BJ.o underlying65 Ai ?_)
    | (refine (BK.o bS Ak.o).mono ?_;rintro e Bo ⟨rfl,Al⟩;have BP:=aa (aR Ak.o Al);clear Al BL BM))
   go_roundg (gk - 1);case rel=>exact⟨j+1,om,by go_num,BP.o⟩
   case measure=>omega
  ·have Au:¬ (j:Int) < n:=om;have BQ:=aa M;clear M;go_wp2_with fail;go_ret;exact⟨rfl,BQ.o⟩
theorem aH0 (w:aRB) (A B:aRC) (c d n:Nat) (xs:List (ak × List UInt8)) (ys:List (ak)) (hA:Rd w 33 A n (cz mh xs)) (bg:Rd w 1 B n (cu ys)) (ah:xs.length=n) (hy:ys.length=n) (aB:n<=1000000) (f:Nat) (iC:Array Value) (vw:Enters prog f)
  (hf:∀ W,Bl w W->∀ (k:Nat) x y,xs[k]?=some x->ys[k]?=some y->Calls prog f (#[.agg (mh x).toArray,.string (az y)]++iC) W fun e w'=>e = .returned (.bool true)/\Bl W w') :
  CB 166 #[.slice A n c,.slice B n d,.func (.func f) #[] iC] w (.bool true):=by
 have BJ:∀ (args:Array Value) (w:aRB),(callFunc f args).run prog w = .ok (.enter f args) w:=vw;obtain⟨Ak,Al,AP,Am,Ao⟩:=hq5 hA bg ah hy hf;clear hA bg ah hy hf vw;go_enter func166,ntmps166;go_wp2_with fail;go_loopg [17] n (fun gk Ap wr=>∃ j:Nat,j+gk=n/\Ap = .int .i64 j/\Bl w wr);case atStart=>exact⟨0,om,rfl,Below.refl _ _⟩
 case round =>
  obtain⟨j,aD,rfl,I⟩:=hrel;have BK:(0:Int)<=j:=om;by_cases AV:j < n
  ·have Aq:(j:Int) < n:=om;obtain⟨x,ah⟩:∃ x,xs[j]?=some x:=⟨_,aQp (by rw [AP.o];exact AV)⟩;obtain⟨y,hy⟩:∃ y,ys[j]?=some y:=⟨_,aQp (by rw [Am.o];exact AV)⟩;obtain⟨eP,BL,rfl,AA⟩:=vE (f:=mh) (k:=33) Ic underlying268 rfl kr (Ak.o.gp I) ah AP.o;obtain⟨X,J⟩:=ai (mh x);obtain⟨AZ,M⟩:=ai (wr.alloc (.cells X.toArray 268));have AB:=gQ M;have Aa:=lH M;have Ab:=aR I AB;have Ad:Sz 268 X.length:=by rw [J];exact ZR x
   have Au:X.length=33:=by rw [J];exact (Ic) x
   have Aw:∀ v∈X,v.oneCell'=true:=by rw [J];exact Um x
   have BM:(X.drop 0).take X.length=X:=by simp
   obtain⟨A7,Ae,rfl,Af⟩:=(Al.o.gp I).2 om;have AJ:wr.cell? (ad A7 (Ae+j))=some (.string (az y)):=Af j _ (by simp [cu,hy]);have Ag:AZ.cell? (ad A7 (Ae+j))=some (.string (az y)):=by have Ay:A7 < wr.heap.size:=auv AJ;rw [<- AJ];unfold World.cell?;rw [AB.block A7 Ay]
   obtain⟨Y,AL⟩:=ai (az y);have AO:=fun W (ae:Bl w W)=>Ao.o W ae j x y ah hy;rw [<- J,<- AL] at AO;rw [<- J] at AA;rw [<- AL] at Ag;obtain⟨Az,BA,Ah,BF⟩:=hq4 AA Aa Ab AO;have BG:=M.symm;clear AA Aa Ab ah hy J AL AO M I Af AJ AB;go_wp2_with (first
    | ((with_reducible refine pY Az.o ?_ ?_);exact rfl)
    | (with_reducible refine zo X Au Ad Aw ?_)
    | (with_reducible refine kv BA.o underlying268 Ad ?_)
    | (refine (BF.o AZ Ah.o).mono ?_;rintro e BO ⟨rfl,Ai⟩;have BH:=aa (aR Ah.o Ai);clear Ai BG Ag))
   go_roundg (gk - 1);case rel=>exact⟨j+1,om,by go_num,BH.o⟩
   case measure=>omega
  ·have Aq:¬ (j:Int) < n:=om;have BI:=aa I;clear I;go_wp2_with fail;go_ret;exact⟨rfl,BI.o⟩
end
section
open Go.Maps Go.RowKit Go.Shelf
theorem auy (w:aRB) (d:aRH) (aT:d.length=32) (x:ak) (hs:x.length<=1000000000):CB 175 #[.agg (l6 d).toArray,.string (az x)] w (.bool (bN.sum x == d)):=by
 obtain⟨I,J,dQ,Y,AB,AJ,r,av⟩:=nq4 (az x) (l6 d) (bO (bN.sum x)) (bN.sum x == d);obtain⟨aF,A7⟩:=ai (w.alloc (.cells dQ.toArray 59));have AL:=gQ A7;obtain⟨g1,AA⟩:=ai w.heap.size;have AO:=aa (show aM aF g1 dQ 59 by rw [AA,A7];exact aM.new w _ _);have AV:=aa (fun (W:aRB) (g:Nat) (h:Rd W 1 (some ⟨g,0,none⟩) 1 [.string I])=>by
  have:=WA W g I (by rw [J,iM];exact hs) h;rw [show I.data.toList=x by rw [J,gU],<- AJ] at this;exact this)
 have AZ:=aa (fun (W:aRB)=>show (binOp .eql 59 (.agg AB.toArray) (.agg dQ.toArray)).run prog W = .ok (.bool r) W by rw [AJ,Y,av,H7 aT];exact apQ _ _ (yB _) aT W);have Aa:prog.eqGuardType prog.depth 59 = false:=kr;have Ab:(dQ.drop 0).take dQ.length=dQ:=by simp
 have Ad:Sz 59 dQ.length:=by rw [Y,rf];exact kr
 have Ae:=aa AL;rw [<- J,<- Y,<- av];have Af:=A7.symm;have Ag:=AA.symm;have Ah:=aa AA;clear J Y AJ av A7 AL AA hs aT;go_enter func175,ntmps175;go_wp2_with fail;clear Ag Af;have kE:=aa fun af (aj:Bl aF af)=>AO.o.all aj;refine ng nE 5 [some (.string I),none,some (.agg AB.toArray),some (.agg dQ.toArray),some (.bool r)] (fun j v af=>j=1->∃ g,v = .slice (some ⟨g,0,none⟩) 1 1/\aM af g [.string I] 9) (Bl aF) Bl ((Below.refl _ aF).drew) (fun j v w1 af ae=>fun h e=>(by obtain⟨g,Ai,Ak⟩:=h e;exact⟨g,Ai,Ak.all ae⟩)) ?_ (jJ:=?_)
 ·intro u af aj Al;clear Al;have Am:=aa aj;clear aj;go_wp2_with fail;go_ret;rw [Ah.o];exact⟨rfl,aR Ae.o Am.o⟩
 ·repeat' (first | exact trivial | apply And.intro)
  all_goals try exact rx
  all_goals intro eH u af aj aK bz K aS
  all_goals try simp [iY,Region.binds] at bz
  all_goals refine mf rfl ?_
  all_goals have kr:=AO.o.all aj
  ·refine Nl Av (.string I) rfl rfl (by simp [Act.eval,aK,bz]) ?_;exact aS _ _ (fun _=>⟨_,rfl,aM.new af [.string I] _⟩) (aj.alloc aj.size _) gK
  ·obtain⟨g,Ao,ax⟩:=bz;go_simp;refine (AV.o af g (aeJ ax rfl)).mono ?_;rintro e aC ⟨rfl,AP⟩;exact aS _ _ rfl (aR aj AP) AP
  ·refine wp_load_row g1 0 dQ dQ _ kr Ab _ underlying59 Ad ⟨rfl,by simp [Act.eval,aK],rfl⟩ ?_;exact aS _ _ rfl aj (Below.refl _ _)
  ·refine arC AB.toArray dQ.toArray (.bool r) Aa (AZ.o af) ⟨rfl,by simp [Act.eval,aK,bz],by simp [Act.eval,aK,bz]⟩ ?_;exact aS _ _ rfl aj (Below.refl _ _)
theorem aH1 (w:aRB) (x:ak × List UInt8) (y:ak × ak) (h1:x.1=y.1) (ag:x.2=bN.sum y.2) (hl:y.1.length<=1000000/\y.2.length<=1000000000) :
  Calls prog 304 (#[.agg (mh x).toArray,.agg (fO y).toArray]++#[]) w fun e w'=>e = .returned (.bool true)/\Bl w w':=by
 have AV:x.2.length=32:=by rw [ag];exact yB _
 obtain⟨I,J,P,AB,M,AJ,dQ,Y⟩:=nq4 (mh x) (az y.1) (az y.2) (l6 x.2);have hf:fO y=[.string P,.string M]:=by rw [AB,AJ];rfl
 obtain⟨aF,A7⟩:=ai (w.alloc (.cells I.toArray 268));obtain⟨aV,AA⟩:=ai (aF.alloc (.cells #[.string P,.string M] 65));have AZ:=gQ A7;have AL:=gQ AA;have AO:aM aV w.heap.size I 268:=by refine aM.all ?_ AL;rw [A7];exact aM.new w _ _
 have AP:=lH AA;have Ai:aV.cell? (ad w.heap.size 0)=some (.string P):=by rw [AO.cell 0,J,AB,<- h1];rfl
 have Ak:=AP.cell 0;have Al:=AP.cell 1;have Ab:(I.drop 1).take dQ.length=dQ:=by rw [J,Y,mh];simp
 have Ad:Sz 59 dQ.length:=by rw [Y,rf];exact kr
 have Ae:=aa (fun (W:aRB)=>by
  have:=auy W x.2 AV y.2 hl.2;rw [show (bN.sum y.2 == x.2)=true by rw [ag];simp,<- Y,<- AJ] at this;exact this)
 have Af:=aa (aR AZ AL);have Ag:=aa AO;rw [<- J,hf,show [Value.string P,Value.string M].toArray=#[.string P,.string M] from rfl];have Am:=A7.symm;have Ao:=AA.symm;clear J AB AJ Y hf A7 AA AZ AL AO AP h1 ag AV hl;go_enter func304,ntmps304;go_wp2_with (first
  | ((with_reducible refine KW w.heap.size 1 I dQ _ Ag.o Ab _ underlying59 Ad ?_ ?_);exact⟨⟨_,_,rfl,rfl,rfl⟩,rfl,rfl⟩)
  | (go_at_call 175; refine (Ae.o aV).mono ?_;rintro e aC ⟨rfl,Aa⟩;have Ah:=aa (aR Af.o Aa);clear Aa))
 go_ret;exact⟨rfl,Ah.o⟩
theorem aH2 (w:aRB) (x:ak × List UInt8) (y:ak) (h1:x.1=y):Calls prog 167 (#[.agg (mh x).toArray,.string (az y)]++#[]) w fun e w'=>e = .returned (.bool true)/\Bl w w':=by
 obtain⟨A7,J,P,M⟩:=nq2 (mh x) (az y);obtain⟨aF,I⟩:=ai (w.alloc (.cells A7.toArray 268));have AA:=aa (gQ I);have Y:=lH I;have AB:aF.cell? (ad w.heap.size 0)=some (.string P):=by rw [Y.cell 0,J,M,<- h1];rfl
 rw [<- J,<- M];have AJ:=I.symm;clear J M I Y h1;go_enter func167,ntmps167;go_wp2_with fail;go_ret;exact⟨rfl,AA.o⟩
structure uA where
 B:Nat
 jN:Nat
 jO:Nat
 ja:Nat
 gs:Nat
 lJ:Nat
def Et (l:uA):Value:=.iface 90 (pp l.jN 0)
def JW (M:fu ak):Nat:=(M.map (·.2.length)).sum
structure Sl (met:List ak) (M:fu ak) (has:ak->Bool):Prop where
 all:∀ x∈M,x.2∈met/\x.1=bN.sum x.2/\x.2.length<=65536
 has:∀ x,has x=true ↔ getM M (bN.sum x)=some x
structure rY (W:aRB) (l:uA) (aI:aRI) (n:Nat) (gm:Nat->List UInt8) (df:Nat->lI) (met:List ak) (bG:Nat->Bool) (has:ak->Bool):Prop where
 row:aM W l.jN [pp l.jO 0,pp l.gs 0] 92
 bG:LD W l.B aI l.jO l.ja n gm df bG
 store:∃ M:fu ak,BS W l.gs l.lJ M.length M (JW M:Int)/\Sl met M has
 far:l.B<=l.jN/\l.B<=l.gs/\l.B<=l.lJ
 ne:l.ja≠l.lJ
theorem rY.all {W:aRB} {l:uA} {n:Nat} {gm:Nat->List UInt8} {df:Nat->lI} (h:rY W l aI n gm df met bG has) (ae:Bl W W'):rY W' l aI n gm df met bG has:=by obtain⟨M,h1,I⟩:=h.store;exact⟨h.row.all ae,h.bG.all ae,⟨M,h1.below ae h1.lt.1 h1.lt.2,I⟩,h.far,h.ne⟩
theorem aH3 (w:aRB) (jO gs:Nat):CR 13 #[pp jO 0,pp gs 0] w (.iface 90 (pp w.heap.size 0)) fun w'=>aM w' w.heap.size [pp jO 0,pp gs 0] 92 /\ Bl w w':=by go_enter func13,ntmps13;go_wp2_with fail;go_ret;exact⟨rfl,aM.new w _ _,gK⟩
def IJ (w:aRB) (n:Nat) (df:Nat->lI) (B i N:Nat) (v:Value) (w':aRB):Prop:=∃ A c,v = .slice A N c/\(0 < N->∃ L,Own w' w.heap.size 224 34 A 1 c (gJ (df i) L)/\oH w' B (df i) L)
theorem IJ.keep {w1:aRB} {n:Nat} {df:Nat->lI} {N:Nat} (h:IJ w n df B i N v w1) (ae:Bl w1 af):IJ w n df B i N v af:=by obtain⟨A,c,e,h1⟩:=h;refine⟨A,c,e,fun I=>?_⟩;obtain⟨L,J,M⟩:=h1 I;exact⟨L,J.below ae (aQm _),M.all ae⟩
theorem aH4 (w:aRB) {l:uA} {n:Nat} {gm:Nat->List UInt8} {df:Nat->lI} (h:rY w l aI n gm df met bG has) (bg:l.B<=w.heap.size) (ay:i < n) (yh:(gm i).length=32) (hl:(df i).reads.length<=1000/\(df i).outs.length<=1000) :
  Calls prog 303 #[pp l.jN 0,.agg (l6 (gm i)).toArray] w fun e w'=>∃ v,e = .returned v/\IJ w n df l.B i (if bG i=true then 1 else 0) v w'/\Bl w w':=by
 obtain⟨N,J,dQ,Y⟩:=nq2 (if bG i=true then 1 else 0) (l6 (gm i));obtain⟨aF,A7⟩:=ai (w.alloc (.cells dQ.toArray 59));have I:=gQ A7;have AP:=lH A7;obtain⟨g1,AA⟩:=ai w.heap.size;obtain⟨B,jN,jO,ja,gs,lJ⟩:=l;simp only at bg |-;have AB:=h.row;have AL:=h.bG;simp only at AB AL;have AV:=aa (fun af (ae:Bl aF af)=>show af.cell? (ad jN 0)=some (pp jO 0)/\af.cell? (ad jN 1)=some (pp gs 0)/\aM af g1 dQ 59 from
  ⟨((AB.all I).all ae).cell 0,((AB.all I).all ae).cell 1,by rw [AA];exact AP.all ae⟩)
 have Af:=aa (fun af (ae:Bl aF af)=>show Calls prog 308 #[pp jO 0,.agg dQ.toArray] af fun e w'=>∃ A c,e = .returned (.slice A N c)/\(0 < N->∃ L,Own w' af.heap.size 224 34 A 1 c (gJ (df i) L)/\oH w' B (df i) L)/\Bl af w' from by
  have:=aHM af ((AL.all I).all ae) (aQn bg (aR I ae).size) ay yh hl;rw [<- Y,<- J] at this;refine this.mono ?_;rintro e aC ⟨A,c,Ag,h1,AO⟩;exact⟨A,c,Ag,fun AZ=>h1 (by rw [J] at AZ;split at AZ;assumption;omega),AO⟩)
 have Aa:=aa I;have Ah:=aa AA;have Ai:(dQ.drop 0).take dQ.length=dQ:=by simp
 have Ak:Sz 59 dQ.length:=by rw [Y,rf];exact kr
 rw [<- Y,<- J];have Al:=A7.symm;have Am:=AA.symm;clear h bg ay yh hl J Y A7 I AP AA AB AL;go_enter func303,ntmps303;go_wp2_with fail;clear Am Al;have kE:=AV;refine ng nE 6 [some (pp jN 0),some (pp jN 0),some (pp jN 0),some (pp jO 0),some (.agg dQ.toArray),none] (fun j v af=>j=5->IJ w n df B i N v af) (Bl aF) Bl ((Below.refl _ aF).drew) (fun j v w1 af ae=>fun h e=>(h e).keep ae) ?_ (jJ:=?_)
 ·intro u af aj Ab;obtain⟨cO,bF,Ad,AJ⟩:=(show 5=5->IJ w n df B i N (u 5) af from Ab 5 om) rfl;clear Ab;simp only [Ad];have Ao:=aa aj;have Ap:=aa AJ;clear aj AJ Ad;go_wp2_with fail;go_ret;rw [Ah.o];exact⟨_,rfl,⟨cO,bF,rfl,Ap.o⟩,aR Aa.o Ao.o⟩
 ·repeat' (first | exact trivial | apply And.intro)
  all_goals try exact rx
  all_goals intro eH u af aj aK bz K aS
  all_goals try simp [iY,Region.binds] at bz
  all_goals refine mf rfl ?_
  all_goals obtain⟨Aq,Au,kr⟩:=AV.o af aj
  ·refine wp_load_row g1 0 dQ dQ _ kr Ai _ underlying59 Ak ⟨rfl,by simp [Act.eval,aK],rfl⟩ ?_;exact aS _ _ rfl aj (Below.refl _ _)
  ·go_simp;refine (Af.o af aj).mono ?_;rintro e aC ⟨A,c,rfl,h1,Ae⟩;exact aS _ _ (fun _=>⟨A,c,rfl,fun h=>(by obtain⟨L,AO,AJ⟩:=h1 h;exact⟨L,AO.mono (aQn Aa.o.size aj.size),AJ⟩)⟩) (aR aj Ae) Ae
theorem aH5 (w:aRB) {l:uA} {n:Nat} {gm:Nat->List UInt8} {df:Nat->lI} (h:rY w l aI n gm df met bG has) (x:ak) (ah:has x=true) :
  CB 301 #[pp l.jN 0,.agg (l6 (bN.sum x)).toArray] w (.tuple #[.string (az x),.bool true]):=by
 obtain⟨M,I,AO⟩:=h.store;have ax:=(AO.has x).1 ah;obtain⟨S,AJ,b,AL,dQ,Y⟩:=nq3 (az x) true (l6 (bN.sum x));obtain⟨aF,A7⟩:=ai (w.alloc (.cells dQ.toArray 59));have J:=gQ A7;have AP:=lH A7;obtain⟨g1,AA⟩:=ai w.heap.size;obtain⟨B,jN,jO,ja,gs,lJ⟩:=l;have AB:=h.row;simp only at AB I |-;have AV:=aa (fun af (ae:Bl aF af)=>show af.cell? (ad jN 0)=some (pp jO 0)/\af.cell? (ad jN 1)=some (pp gs 0)/\aM af g1 dQ 59 from
  ⟨((AB.all J).all ae).cell 0,((AB.all J).all ae).cell 1,by rw [AA];exact AP.all ae⟩)
 have Aa:=aa (fun af (ae:Bl aF af)=>show CB 29 #[pp gs 0,.agg dQ.toArray] af (.tuple #[.string S,.bool b]) from by
  have:=aCJ af gs lJ M.length M _ ((I.below J I.lt.1 I.lt.2).below ae (aQq I.lt.1 J.size) (aQq I.lt.2 J.size)) (bN.sum x) (yB _);rw [ax] at this;rw [Y,AJ,AL,H7 (yB _)];exact this)
 have Ab:=aa J;have Ad:=aa AA;have Ae:(dQ.drop 0).take dQ.length=dQ:=by simp
 have Af:Sz 59 dQ.length:=by rw [Y,rf];exact kr
 rw [<- Y,<- AJ];have Ag:=A7.symm;have Ah:=AA.symm;have Ai:=aa AL;clear h I AO ax ah Y AJ AL A7 J AP AA AB;go_enter func301,ntmps301;go_wp2_with fail;clear Ah Ag;have kE:=AV;refine ng nE 8 [some (pp jN 0),some (pp jN 0),some (pp jN 1),some (pp gs 0),some (.agg dQ.toArray),some (.tuple #[.string S,.bool b]),some (.string S),some (.bool b)] (fun _ _ _=>False) (Bl aF) Bl ((Below.refl _ aF).drew) (fun j v w1 af ae h=>h.elim) ?_ (jJ:=?_)
 ·intro u af aj Ak;clear Ak;have Al:=aa aj;clear aj;go_wp2_with fail;refine aQx (aQT rfl _ _ _) rfl ?_;rw [Ad.o];exact⟨by rw [Ai.o];rfl,aR Ab.o Al.o⟩
 ·repeat' (first | exact trivial | apply And.intro)
  all_goals try exact rx
  all_goals intro eH u af aj aK bz K aS
  all_goals try simp [iY,Region.binds] at bz
  all_goals refine mf rfl ?_
  all_goals obtain⟨Am,Ao,kr⟩:=AV.o af aj
  ·refine wp_load_row g1 0 dQ dQ _ kr Ae _ underlying59 Af ⟨rfl,by simp [Act.eval,aK],rfl⟩ ?_;exact aS _ _ rfl aj (Below.refl _ _)
  ·go_simp;refine (Aa.o af aj).mono ?_;rintro e aC ⟨rfl,AZ⟩;exact aS _ _ rfl (aR aj AZ) AZ
structure wW (l:uA) (w w':aRB):Prop where
 os:w'.os=w.os
 tape:w'.tape=w.tape
 output:w'.output=w.output
 size:w.heap.size<=w'.heap.size
 block:∀ k,k < w.heap.size->k≠l.ja->k≠l.gs->k≠l.lJ->w'.heap[k]?=w.heap[k]?
section
variable {l:uA} {x y z:aRB}
theorem wW.gT (h:Bl x y):wW l x y:=⟨h.os,h.tape,h.output,h.size,fun k hk _ _ _=>h.block k hk⟩
theorem wW.trans (h:wW l x y) (k:wW l y z):wW l x z:=⟨k.os.trans h.os,k.tape.trans h.tape,k.output.trans h.output,aQn h.size k.size,fun i h1 I J M=>(k.block i (aQq h1 h.size) I J M).trans (h.block i h1 I J M)⟩
theorem wW.store (h:jW l.gs l.lJ x y):wW l x y:=⟨h.os,h.tape,h.output,h.size,fun k hk _ I J=>h.block k hk I J⟩
theorem wW.Rs (h:jW l.ja l.ja x y):wW l x y:=⟨h.os,h.tape,h.output,h.size,fun k hk h1 _ _=>h.block k hk h1 h1⟩
end
section
variable {w w':aRB} {l:uA} {aI:aRI} {n:Nat} {gm:Nat->List UInt8} {df:Nat->lI} {met:List ak} {bG:Nat->Bool} {has:ak->Bool} (h:rY w l aI n gm df met bG has)
theorem rY.kinds (h:rY w l aI n gm df met bG has):(∃ o,w.heap[l.ja]?=some o/\o.isCells=false)/\(∃ o,w.heap[l.lJ]?=some o/\o.isCells=false)/\∃ cs,w.heap[l.gs]?=some (.cells cs 89 (0,0)):=by obtain⟨M,hm,_⟩:=h.bG.map;obtain⟨es,Y,I,_⟩:=hm;obtain⟨M2,hs,_⟩:=h.store;obtain⟨A7,AA,J,_⟩:=hs.map;exact⟨⟨_,I,rfl⟩,⟨_,J,rfl⟩,_,hs.obj⟩
theorem rY.stays (h:rY w l aI n gm df met bG has) (hs:wW l w w') {cs:Array Value} {bf:Nat × Nat} (hk:w.heap[k]?=some (.cells cs t bf)) (aA:t ≠ 89):w'.heap[k]?=w.heap[k]?:=by
 obtain⟨⟨M,h1,c1⟩,⟨Y,J,c2⟩,A7,I⟩:=h.kinds;refine hs.block k (ic hk) ?_ ?_ ?_
 ·rintro rfl;rw [hk] at h1;cases h1;cases c1
 ·rintro rfl;rw [hk] at I;injection I with I;injection I with _ I;exact aA I
 ·rintro rfl;rw [hk] at J;cases J;cases c2
theorem rY.own (h:rY w l aI n gm df met bG has) (hs:wW l w w') {n:Nat} (aG:Own w base t aO A n c xs) (aA:t ≠ 89):Own w' base t aO A n c xs:=aG.keep fun k hk _ _=>by
 obtain⟨_,_,cur,bf,hc⟩:=aG.block k hk;exact h.stays hs hc aA
theorem rY.afn (h:rY w l aI n gm df met bG has) (hs:wW l w w') (av:aM w g V t) (aA:t ≠ 89):aM w' g V t:=(h.stays hs av aA).trans av
end
theorem aH7 {k:ak} (h:getM M k=none):I4 M k=M:=by unfold I4;refine List.filter_eq_self.2 fun x ah=>?_;unfold getM at h;have:=List.find?_eq_none.1 (Option.map_eq_none_iff.1 h) x ah;simpa using this
theorem auz (x:ak × ak):∀ M:fu ak,JW (zb x M)=JW M+x.2.length
 | []=>by simp [zb,JW]
 | y :: r=>by
  have:=auz x r;unfold zb;split
  ·simp [JW];omega
  ·simp only [JW,List.map_cons,List.sum_cons] at this |-;omega
theorem aH8 (h:∀ x∈M,x.2.length<=65536):JW M<=M.length * 65536:=by
 induction M with
 | nil=>simp [JW]
 | cons y r I =>
  have h1:=I fun x ah=>h x (by simp [ah]);have J:=h y sp;simp only [JW,List.map_cons,List.sum_cons,List.length_cons] at h1 |-;omega
def afo (M:fu ak) (x:ak):fu ak:=if (getM M (bN.sum x)).isSome=true then M else oz M (bN.sum x) x
def IK (met:List ak):Prop:=∀ a∈met,∀ b∈met,bN.sum a=bN.sum b->a=b
theorem Sl.some (h:Sl met M has) (bn:IK met) (ah:x∈met) (ax:(getM M (bN.sum x)).isSome=true):has x=true:=by obtain⟨y,hy⟩:=aRl.1 ax;obtain⟨h1,I,_⟩:=h.all _ (aHy hy);simp only at h1 I;have:=bn x ah y h1 I;subst this;exact (h.has x).2 hy
theorem Sl.put (h:Sl met M has) (bn:IK met) (ah:x∈met) (hl:x.length<=65536):Sl met (afo M x) (fun y=>x == y || has y):=by
 unfold afo;split
 ·rename_i ax;have I:=h.some bn ah ax;refine⟨h.all,fun y=>?_⟩;rw [<- h.has y];by_cases e:x=y
  ·subst e;simp [I]
  ·simp [e]
 ·rename_i ax;have Y:getM M (bN.sum x)=none:=by simpa using ax
  refine⟨fun z J=>?_,fun y=>?_⟩
  ·rcases Xf J with rfl | J
   ·exact⟨ah,rfl,hl⟩
   ·exact h.all z (aQ8.1 J).1
  ·by_cases e:bN.sum y=bN.sum x
   ·rw [e,Mq];have hy:has y=false:=by
     cases I:has y with
     | false=>rfl
     | true=>have:=(h.has y).1 I;rw [e,Y] at this;cases this
    rw [hy];simp
   ·rw [Mr _ _ e,<- h.has y];have:(x == y)=false:=by rw [beq_eq_false_iff_ne];rintro rfl;exact e rfl
    rw [this,Bool.false_or]
theorem Sl.few (h:Sl met M has) (av:Ha M):M.length<=met.length:=by
 have h1:(M.map (·.2)).Nodup:=by rw [List.Nodup,List.pairwise_map];refine List.Pairwise.imp_of_mem ?_ av;intro a b J Y I e;rw [(h.all a J).2.1,(h.all b Y).2.1,e,aaA] at I;cases I
 have:=Xa h1 fun x ah=>by
  obtain⟨y,hy,rfl⟩:=aQv.1 ah;exact (h.all y hy).1
 simpa using this
theorem aH9 {l:uA} {n:Nat} {gm:Nat->List UInt8} {df:Nat->lI} (h:rY w l aI n gm df met bG has) (bn:IK met) (hm:met.length<=1000) (ah:x∈met) (hl:x.length<=65536) :
  Calls prog 306 #[pp l.gs 0,.string (az x)] w fun e w'=>(∃ v,e = .returned v)/\rY w' l aI n gm df met bG (fun y=>x == y || has y)/\wW l w w':=by
 obtain⟨M,AA,J⟩:=h.store;have AP:=AA.map.A8 MM;have hf:=J.few AP;have Ad:=aH8 fun x ah=>(J.all x ah).2.2;refine (aCO w l.gs l.lJ M.length M (JW M) AA om ⟨om,om⟩ (az x) (by rw [iM];omega)).mono ?_;rw [gU];rintro e w' ⟨rfl,h1,AB⟩;have ae:wW l w w':=.store AB;refine⟨⟨_,rfl⟩,⟨h.afn ae h.row dc,?_,⟨afo M x,?_,J.put bn ah hl⟩,h.far,h.ne⟩,ae⟩
 ·obtain⟨M2,AJ,AV,AL⟩:=h.bG.map;refine⟨h.afn ae h.bG.obj dc,h.bG.far,M2,AJ.keep ?_,AV,fun j aD=>⟨fun e=>?_,(AL j aD).2⟩⟩
  ·refine AB.block _ AJ.lt ?_ h.ne;rintro e;obtain⟨⟨o,I,Y⟩,_,cs,A7⟩:=h.kinds;rw [e,A7] at I;cases I;cases Y
  ·obtain⟨y,I,Y,L,A7,AO,AZ⟩:=(AL j aD).1 e;exact⟨y,I,Y,L,h.own ae A7 dc,⟨h.own ae AO.reads dc,h.own ae AO.outs dc⟩,AZ⟩
 ·unfold afo;split
  ·rename_i ax;rw [if_pos ax,if_pos ax,if_pos ax] at h1;exact h1
  ·rename_i ax;rw [if_neg ax,if_neg ax,if_neg ax,iM] at h1;have Aa:getM M (bN.sum x)=none:=by simpa using ax
   have Ab:(JW M:Int)+x.length=(JW (oz M (bN.sum x) x):Nat):=by rw [oz,auz,aH7 Aa];simp
   rw [Ab] at h1;exact⟨h1.obj,h1.map.tight⟩
structure afp (aF wr:aRB) (l:uA) (aI:aRI) (rU:Nat) (n:Nat) (gm:Nat->List UInt8) (df:Nat->lI) (met:List ak) (bG:Nat->Bool) (has:ak->Bool) (i rX g4:Nat) (L:qh) (V:aRD) (os:List (ak × ak)) (A:aRC) (N c q:Nat) (zG:ak->Bool):Prop where
 src:rY wr l aI n gm df met bG zG
 eq:∀ y,zG y=((os.take q).any (fun f=>f.2 == y) || has y)
 but:wW l aF wr
 files:Own wr rX 65 2 A N c (cz fO os)
 alk:oH wr rU (df i) L
 row:aM wr g4 V 224
theorem afp.next {aC:aRB} {l:uA} {rU n:Nat} {gm:Nat->List UInt8} {df:Nat->lI} {os:List (ak × ak)} {N:Nat} {zG:ak->Bool} (h:afp aF wr l aI rU n gm df met bG has i rX g4 L V os A N c q zG) (ae:Bl wr af) {x:ak × ak} (ah:os[q]?=some x)
  (au:rY aC l aI n gm df met bG (fun y=>x.2 == y || zG y)) (hs:wW l af aC):afp aF aC l aI rU n gm df met bG has i rX g4 L V os A N c (q+1) (fun y=>x.2 == y || zG y):=by
 have I:=h.src.all ae;refine⟨au,fun y=>?_,h.but.trans ((wW.gT ae).trans hs),I.own hs (h.files.below ae (aQm _)) dc,⟨I.own hs (h.alk.all ae).reads dc,I.own hs (h.alk.all ae).outs dc⟩,I.afn hs (h.row.all ae) dc⟩;rw [h.eq y,List.take_add_one,ah,Option.toList_some,List.any_append];simp only [List.any_cons,List.any_nil,Bool.or_false];cases (x.2 == y) <;> simp
theorem aIa (w:aRB) {l:uA} {n:Nat} {gm:Nat->List UInt8} {df:Nat->lI} (h:rY w l aI n gm df met bG has) {rU:Nat} (bg:l.B<=rU/\rU<=w.heap.size) (bn:IK met) (hm:met.length<=1000) (ay:i < n) (aB:n<=1000) (Dt:bG i=false) (aa9:∀ j,j < n->j≠i->gm j≠gm i) (yh:(gm i).length=32) (Rb:(df i).key=gm i) (fo:Xh (df i))
  (gY:oH w rU (df i) L) {os:List (ak × ak)} (IL:(df i).outs=os.map uT) (aG:Own w rX 65 2 A os.length c (cz fO os)) (LG:∀ x∈os,x.2∈met/\x.2.length<=65536/\x.1.length<=1000000) :
  CR 302 #[pp l.jN 0,.agg (gJ (df i) L).toArray,.slice A os.length c] w (.int .i64 0) fun w'=>rY w' l (fun q=>aI q\/rU<=q) n gm df met (fun j=>j == i || bG j) (fun x=>os.any (fun f=>f.2 == x) || has x)/\wW l w w':=by
 obtain⟨N,AA,V,AJ⟩:=nq2 os.length (gJ (df i) L);obtain⟨aF,Ad⟩:=ai (w.alloc (.cells V.toArray 224));have AV:=gQ Ad;obtain⟨g4,Am⟩:=ai w.heap.size;have Ae:aM aF g4 V 224:=by rw [Am,Ad];exact aM.new w _ _
 have AZ:(df i).outs.length=N:=by rw [IL,List.length_map,AA]
 have Cm:N<=1000:=by rw [<- AZ];exact fo.few.2
 have h1:=h.all AV;have Ao:=aG.below AV (aQm _);have Af:=gY.all AV;obtain⟨B,jN,jO,ja,gs,lJ⟩:=l;have Ap:=fun (aV:aRB) (zG:ak->Bool) (I:rY aV ⟨B,jN,jO,ja,gs,lJ⟩ aI n gm df met bG zG)=>show aV.cell? (ad jN 0)=some (pp jO 0)/\aV.cell? (ad jN 1)=some (pp gs 0) from ⟨I.row.cell 0,I.row.cell 1⟩
 have BG:=aa (fun aV (ae:Bl aF aV)=>show aM aV g4 V 224 /\ aV.cell? (ad g4 33)=some (.slice L.B N L.d) from
  ⟨Ae.all ae,by rw [<- AZ];exact afi (by rw [<- AJ];exact Ae.all ae)⟩)
 have BH:=aa Ap;obtain⟨AL,AO⟩:=Ap aF has h1;have BI:=aa (aeH aF (df i) L Af.at_ fo);have Bn:=aa (fun aV (ae:Bl aF aV)=>aHZ aV L.B A L.d c N (df i).outs os (by rw [<- AZ];exact (Af.all ae).outs.rd) (by rw [AA];exact (Ao.below ae (aQm _)).rd) AZ AA.symm om 304 #[] (enters_of func304 kr rfl) fun W Ag k x y ah hy=>aH1 W x y (by
   rw [IL,List.getElem?_map,hy] at ah;cases ah;rfl) (by rw [IL,List.getElem?_map,hy] at ah;cases ah;rfl) (by have:=LG y (aQr hy);omega))
 have Bo:=aa LG;have Bp:=aa (show ∀ aV,Bl aF aV->rY aV ⟨B,jN,jO,ja,gs,lJ⟩ aI n gm df met bG has/\Own aV rX 65 2 A N c (cz fO os)/\oH aV rU (df i) L from fun aV ae=>⟨h1.all ae,by rw [AA];exact Ao.below ae (aQm _),Af.all ae⟩);have Bq:=aa (fun (aV:aRB) (zG:ak->Bool) (I:rY aV ⟨B,jN,jO,ja,gs,lJ⟩ aI n gm df met bG zG) (x:ak) (ah:x∈met) (hl:x.length<=65536)=>aH9 I bn hm ah hl);have Br:=aa (fun (aV:aRB) (zG:ak->Bool) (I:rY aV ⟨B,jN,jO,ja,gs,lJ⟩ aI n gm df met bG zG) (Bt:rU<=aV.heap.size) (Bu:oH aV rU (df i) L)=>show CR 307 #[pp jO 0,.agg V.toArray] aV (.int .i64 0) fun w'=>rY w' ⟨B,jN,jO,ja,gs,lJ⟩ (fun q=>aI q\/rU<=q) n gm df met (fun j=>j == i || bG j) zG/\wW ⟨B,jN,jO,ja,gs,lJ⟩ aV w' from by
  rw [AJ];refine (aHV aV I.bG ⟨bg.1,Bt⟩ ay aB Dt aa9 yh Rb Bu fo).mono ?_;rintro e w' ⟨rfl,AB,Aa⟩;have ae:wW ⟨B,jN,jO,ja,gs,lJ⟩ aV w':=.Rs Aa;obtain⟨M,Ah,Bv⟩:=I.store;refine⟨rfl,⟨I.afn ae I.row dc,AB,⟨M,⟨?_,Ah.map.keep ?_⟩,Bv⟩,I.far,I.ne⟩,ae⟩
  ·refine (Aa.block _ Ah.lt.1 ?_ ?_).trans Ah.obj <;>
   ·rintro e;obtain⟨⟨o,AB,Aa⟩,_,cs,A7⟩:=I.kinds;simp only at e AB A7;rw [<- e,A7] at AB;cases AB;cases Aa
  ·exact Aa.block _ Ah.lt.2 (fun e=>I.ne e.symm) (fun e=>I.ne e.symm))
 obtain⟨BJ,Bw,Aq⟩:=hq3 AV bg AA;have BK:Sz 224 V.length:=by rw [AJ];exact Pe _ _
 have C8:(V.drop 0).take V.length=V:=by simp
 have C9:=aa Ae;rw [<- AJ,<- AA];rw [<- AJ] at BI;have Ai:=Ad.symm;have Cn:=Am.symm;clear h bg bn hm ay aB Dt aa9 yh Rb fo gY IL aG LG AA AJ Ad AV Am Ae AZ h1 Ao Af Ap;go_enter func302,ntmps302;go_wp2_with (first
  | (with_reducible refine kv C9.o underlying224 BK ?_)
  | (go_at_call 168; refine BI.o.mono ?_;rintro e aV ⟨rfl,Ag⟩;have BL:=aa Ag;have CE:=(BG.o aV Ag).2;clear Ag AL AO Ai)
  | (go_at_call 305; refine (Bn.o aV BL.o).mono ?_;rintro e bS ⟨rfl,BM⟩;have Au:=aa (aR BL.o BM);clear BM CE))
 go_loopg [36] N (fun gk CJ wr=>∃ q:Nat,q+gk=N/\CJ = .int .i64 q/\∃ zG,afp aF wr ⟨B,jN,jO,ja,gs,lJ⟩ aI rU n gm df met bG has i rX g4 L V os A N c q zG);case atStart =>
  obtain⟨h1,I,AB⟩:=Bp.o bS Au.o;exact⟨0,om,rfl,has,⟨h1,fun y=>by simp,.gT Au.o,I,AB,(BG.o bS Au.o).1⟩⟩
 case round =>
  obtain⟨q,Co,rfl,zG,J⟩:=hrel;have Cs:(0:Int)<=q:=om;by_cases BO:q < N
  ·have CK:(q:Int) < N:=om;obtain⟨x,ah⟩:∃ x,os[q]?=some x:=⟨_,aQp (by rw [<- Aq.o];exact BO)⟩;obtain⟨BP,BQ,CL⟩:=Bo.o x (aQr ah);obtain⟨eP,Ct,rfl,Aw⟩:=vE (f:=fO) (k:=2) Sk underlying65 rfl kr J.files.rd ah Aq.o.symm;obtain⟨P,BX,Y,Ay⟩:=nq2 (az x.1) (az x.2);rw [show fO x=[.string P,.string Y] by rw [BX,Ay];rfl] at Aw;obtain⟨AP,Ak⟩:=ai (wr.alloc (.cells #[.string P,.string Y] 65));have Al:=gQ Ak;have Bb:=lH Ak;have CS:=aa (fun af (ae:Bl AP af)=>show af.cell? (ad jN 0)=some (pp jO 0)/\af.cell? (ad jN 1)=some (pp gs 0)/\af.cell? (ad wr.heap.size 1)=some (.string Y) from by
    obtain⟨AL,AO⟩:=BH.o af zG ((J.src.all Al).all ae);exact⟨AL,AO,(Bb.all ae).cell 1⟩)
   have CU:[Value.string P,.string Y].length=2:=rfl;have CV:(prog.info? 65).map (·.size)=some [Value.string P,.string Y].length:=kr;have CW:∀ v∈[Value.string P,.string Y],v.oneCell'=true:=by simp [Value.oneCell']
   obtain⟨CZ,Az,Ca,Cb⟩:=hq4 Aw J ah Al;have Ce:=aa (fun af (ae:Bl AP af)=>by
    have:=Bq.o af zG ((J.src.all Al).all ae) x.2 BP BQ;rw [<- Ay] at this;exact this)
   have Ai:=Ak.symm;clear Aw J ah BP BQ CL BX Ay Ak Al Bb BO;go_wp2_with (first
    | ((with_reducible refine pY CZ.o ?_ ?_);exact rfl)
    | (with_reducible refine zo [.string P,.string Y] CU CV CW ?_))
   rw [show [Value.string P,.string Y].toArray=#[.string P,.string Y] from rfl,Ai];clear Ai;have kE:=aa fun af (aj:Bl AP af)=>CS.o af aj;refine Kj 6 [_,_,_,_,_,_] ?_;refine an5 ?_;intro af Ab;go_wp2_with (first | (go_at_call 306; refine (Ce.o _ Ab.o).mono ?_;rintro e Cf ⟨⟨v5,rfl⟩,A7,Bc⟩;have BA:=aa A7;have BF:=aa Bc;clear A7 Bc));go_roundg (gk - 1);case rel=>exact⟨q+1,om,by go_num,_,Az.o.next (aR Cb.o Ab.o) Ca.o BA.o BF.o⟩
   case measure=>omega
  ·have Bd:q=N:=om;have CK:¬ (q:Int) < N:=om;have Bf:zG=fun x=>os.any (fun f=>f.2 == x) || has x:=funext fun y=>by rw [J.eq y,List.take_of_length_le (by rw [Bd,Aq.o];exact Nat.le_refl _)]
   have Bi:=aa (fun af (ae:Bl wr af)=>show af.cell? (ad jN 0)=some (pp jO 0)/\af.cell? (ad jN 1)=some (pp gs 0)/\aM af g4 V 224 from by
    obtain⟨AL,AO⟩:=BH.o af zG (J.src.all ae);exact⟨AL,AO,J.row.all ae⟩)
   have Az:=aa J;have Cg:=aa Bf;have Ci:=aa (fun af (ae:Bl wr af)=>Br.o af zG (J.src.all ae) (aQn Bw.o.2 (aQn BJ.o.size (aQn J.but.size ae.size))) (J.alk.all ae));clear J Bf Bd;go_wp2_with fail;have kE:=Bi;refine ng nE 5 [some (pp jN 0),some (pp jN 0),some (pp jN 0),some (pp jO 0),some (.agg V.toArray)] (fun _ _ _=>False) (Bl wr) Bl ((Below.refl _ wr).drew) (fun j v w1 af ae h=>h.elim) ?_ (jJ:=?_)
   ·intro u af aj Ck;clear Ck;have Ab:=aa aj;clear aj;go_wp2_with (first | (go_at_call 307; refine CG (Ci.o _ Ab.o) ?_;intro Cf BA BF));go_ret;have A7:=BA.o;rw [Cg.o] at A7;exact⟨rfl,A7,(wW.gT BJ.o).trans (Az.o.but.trans ((wW.gT Ab.o).trans BF.o))⟩
   ·repeat' (first | exact trivial | apply And.intro)
    all_goals try exact rx
    all_goals intro eH u af aj aK bz K aS
    all_goals try simp [iY,Region.binds] at bz
    all_goals refine mf rfl ?_
    all_goals obtain⟨AL,AO,kr⟩:=Bi.o af aj
    ·refine wp_load_row g4 0 V V _ kr C8 _ underlying224 BK ⟨rfl,by simp [Act.eval,aK],rfl⟩ ?_;exact aS _ _ rfl aj (Below.refl _ _)
end
section
variable {w:pV}
structure alq (w:pV):Prop where
 fin:H5 w
 reads:∀ i s rs,oU w i s rs->(w.act i).asks s=none->((w.act i).out s).reads=rs
 apart:∀ i s rs,oU w i s rs->(rs.map (·.path)).Nodup
 sum:∀ k,(w.sum k).path=k.path
 file:∀ p,(w.file p).path=p
theorem aIf (h:alq w) {k:T9} (hk:fI w p = .known k):k.path=p:=by
 cases hm:w.kK p with
 | none =>
  rw [ady hm] at hk;cases hk;exact h.file p
 | some j =>
  rw [aqL hm] at hk;split at hk
  ·cases hk;unfold iN.at_;split <;> rfl
  ·split at hk <;> cases hk
theorem afq (hf:H5 w) (i:Nat):∃ s rs,oU w i s rs/\Us w i s:=by
 have key:∀ (n:Nat) (s:(w.act i).S) (rs:List kJ),oU w i s rs->w.most<=rs.length+n->∃ s rs,oU w i s rs/\Us w i s:=by
  intro n;induction n with
  | zero =>
   intro s rs h I;have:=hf i s rs h;omega
  | succ n J =>
   intro s rs h I;by_cases hs:Us w i s
   ·exact⟨s,rs,h,hs⟩
   ·simp only [Us,Classical.not_forall,Classical.not_not] at hs;obtain⟨p,k,aL,hk⟩:=hs;exact J _ _ (h.step aL hk) (by simp;omega)
 exact key w.most _ _ .start sp
theorem afr (hf:H5 w) {s:(w.act i).S} {rs:List kJ} (h:oU w i s rs) (hs:Us w i s) :
  ((w.act i).asks s=none/\bE w i=(w.act i).out s)\/(∃ p,(w.act i).asks s=some p/\fI w p = .below/\bE w i=HZ rs)\/∃ p,(w.act i).asks s=some p/\fI w p = .stuck/\bE w i=D8 rs:=by
 cases I:(w.act i).asks s with
 | none=>exact .inl ⟨rfl,by rw [bE,h.done hf I]⟩
 | some p =>
  cases aL:fI w p with
  | known k=>exact absurd aL (hs p k I)
  | below=>exact .inr (.inl ⟨p,rfl,aL,by rw [bE,h.Wz hf I aL]⟩)
  | stuck=>exact .inr (.inr ⟨p,rfl,aL,by rw [bE,h.stuck hf I aL]⟩)
theorem aIg (h:alq w) (hk:(bE w i).kind=1):∃ s,oU w i s (bE w i).reads/\(w.act i).asks s=none/\bE w i=(w.act i).out s:=by
 obtain⟨s,rs,aL,hs⟩:=afq h.fin i;rcases afr h.fin aL hs with ⟨h1,I⟩ | ⟨p,_,_,I⟩ | ⟨p,_,_,I⟩
 ·have:=h.reads i s rs aL h1;refine⟨s,?_,h1,I⟩;rw [I,this];exact aL
 ·rw [I] at hk;cases hk
 ·rw [I] at hk;cases hk
theorem oU.ahead {s:(w.act i).S} {rs:List kJ} (h:oU w i s rs):∀ q,q < rs.length->∃ s' p k,oU w i s' (rs.take q)/\(w.act i).asks s'=some p/\fI w p = .known k/\rs[q]?=some (w.sum k):=by
 induction h with
 | start=>intro q I;simp at I
 | @step s rs p k h aL hk M =>
  intro q I;rcases aQD q rs.length with J | AL
  ·obtain⟨s',Y,A7,h1,AA,AB,AJ⟩:=M q J;refine⟨s',Y,A7,?_,AA,AB,?_⟩
   ·rw [List.take_append_of_le_length om];exact h1
   ·rw [List.getElem?_append_left J];exact AJ
  ·have e:q=rs.length:=by simp at I;omega
   subst e;exact⟨s,p,k,by simpa using h,aL,hk,by simp⟩
theorem oU.known {s:(w.act i).S} {rs:List kJ} (h:oU w i s rs):∀ r∈rs,∃ k,r=w.sum k/\∃ p,fI w p = .known k:=by
 induction h with
 | start=>intro r I;simp at I
 | @step s rs p k h aL hk J =>
  intro r I;rcases aQI.1 I with I | I
  ·exact J r I
  ·rw [List.mem_singleton.1 I];exact⟨k,rfl,p,hk⟩
end
section
structure AQ (lX σ:bI) (aW:aRG):Prop where
 nodup:(σ.dZ++aW).Nodup
 begun:∀ i∈σ.dZ++aW,σ.begun i=true
 full:∀ i,σ.got i≠none->i∈σ.dZ++aW
 Sm:∀ i∈aW,lX.bG i=true
 bG:∀ i,σ.bG i=true->lX.bG i=true\/i∈σ.dZ
structure JX (σ:bI) (aW:aRG) (σ':bI) (tk':aRG):Prop where
 begun:∀ i,σ.begun i=true->σ'.begun i=true
 log:∀ i,i∈σ'.dZ++tk'->i∈σ.dZ++aW\/σ.begun i=false
 got:∀ i,σ.got i≠none->σ'.got i=σ.got i
 more:∀ i,i∈σ.dZ->i∈σ'.dZ
 same:∀ i,σ.begun i=true->σ'.bG i=σ.bG i
section
variable {lX σ σ' bQ:bI} {aW tk' gN:aRG}
theorem JX.refl (σ:bI) (aW:aRG):JX σ aW σ aW:=⟨fun _ h=>h,fun _ h=>.inl h,fun _ _=>rfl,fun _ h=>h,fun _ _=>rfl⟩
theorem JX.trans (h:JX σ aW σ' tk') (k:JX σ' tk' bQ gN):JX σ aW bQ gN:=⟨fun i I=>k.begun i (h.begun i I),fun i I=>(by
 rcases k.log i I with h1 | h1
 ·exact h.log i h1
 ·right;cases e:σ.begun i with
  | false=>rfl
  | true=>rw [h.begun i e] at h1;cases h1),fun i I=>(by rw [k.got i (by rw [h.got i I];exact I),h.got i I]),fun i I=>k.more i (h.more i I),fun i I=>(k.same i (h.begun i I)).trans (h.same i I)⟩
theorem AQ.start (h1:lX.dZ=[]) (ag:∀ i,lX.got i=none):AQ lX lX []:=⟨by rw [h1];exact aRb,fun i I=>(by rw [h1] at I;cases I),fun i I=>absurd (ag i) I,fun i I=>(by cases I),fun i I=>.inl I⟩
theorem AQ.push (h:AQ lX σ aW) (i:Nat):AQ lX (σ.push i) aW:=⟨h.nodup,fun j aD=>by simp [bI.push,h.begun j aD],h.full,h.Sm,h.bG⟩
theorem AQ.runs (h:AQ lX σ aW) (ay:i ∉ σ.dZ++aW) (ae:σ.begun i=true):AQ lX (σ.runs i) aW:=by
 have I:=h.nodup;simp only [List.mem_append,not_or] at ay;refine⟨?_,fun j aD=>?_,fun j aD=>?_,h.Sm,fun j aD=>?_⟩
 ·show (σ.dZ++[i]++aW).Nodup;rw [List.append_assoc];rw [List.nodup_append] at I |-;refine⟨I.1,?_,fun a M b J=>?_⟩
  ·exact List.nodup_cons.2 ⟨ay.2,I.2.1⟩
  ·rcases aQw.1 J with rfl | J
   ·rintro rfl;exact ay.1 M
   ·exact I.2.2 a M b J
 ·have Y:j∈σ.dZ++[i]++aW:=aD;simp only [List.mem_append,List.mem_singleton] at Y;rcases Y with (h1 | h1) | h1
  ·exact h.begun j (aQU _ h1)
  ·rw [h1];exact ae
  ·exact h.begun j (aQ4 _ h1)
 ·have:=h.full j aD;show j∈σ.dZ++[i]++aW;simp only [List.mem_append] at this |-;rcases this with h1 | h1
  ·exact .inl (.inl h1)
  ·exact .inr h1
 ·rcases h.bG j aD with h1 | h1
  ·exact .inl h1
  ·exact .inr (aQU _ h1)
theorem AQ.take (h:AQ lX σ aW) (ay:i ∉ σ.dZ++aW) (ae:σ.begun i=true) (aT:lX.bG i=true):AQ lX σ (aW++[i]):=by
 refine⟨?_,fun j aD=>?_,fun j aD=>?_,fun j aD=>?_,h.bG⟩
 ·rw [<- List.append_assoc,List.nodup_append];refine⟨h.nodup,by simp,fun a I b J=>?_⟩;rw [List.mem_singleton.1 J];rintro rfl;exact ay I
 ·rw [<- List.append_assoc] at aD;rcases aQI.1 aD with h1 | h1
  ·exact h.begun j h1
  ·rw [List.mem_singleton.1 h1];exact ae
 ·rw [<- List.append_assoc];exact aQU _ (h.full j aD)
 ·rcases aQI.1 aD with h1 | h1
  ·exact h.Sm j h1
  ·rw [List.mem_singleton.1 h1];exact aT
theorem AQ.put (h:AQ lX σ aW) {o:iN} (ay:i∈σ.dZ++aW):AQ lX (σ.put i o) aW:=⟨h.nodup,h.begun,fun j aD=>(by
 by_cases e:j=i
 ·rw [e];exact ay
 ·exact h.full j (by simpa [bI.put,e] using aD)),h.Sm,h.bG⟩
theorem AQ.keep (h:AQ lX σ aW) {l:List (ak × ak)} (ay:i∈σ.dZ):AQ lX (σ.keep i l) aW:=⟨h.nodup,h.begun,h.full,h.Sm,fun j aD=>by
 by_cases e:j=i
 ·rw [e];exact .inr ay
 ·exact h.bG j (by simpa [bI.keep,e] using aD)⟩
end
end
section
def kZ (a:kI):nV:=⟨⟨eF,a.env⟩,U8 a.ins a.asks a.outs,a.outs,iA⟩
def mZ:kI:=⟨[],[],[],[],[]⟩
noncomputable def IM (a:kI):ML:=Lh (kZ a) a.tool
def Fq (l:List (ak × ak)) (p:ak):dz:=match fileAt l p with
 | some x=>⟨p,true,x.2⟩
 | none=>⟨p,false,[]⟩
noncomputable def nQ (F:List (ak × ak)) (X:List kI):pV:=⟨X.length,fun i=>IM (X.getD i mZ),fun p=>X.findIdx? fun a=>a.outs.contains p,Fq F,iA,502⟩
structure auA (F:List (ak × ak)) (X:List kI):Prop where
 few:(F.map (·.1)).length+(X.flatMap (·.outs)).length<=150
 data:∀ x∈F,x.2.length<=65536
 tool:∀ a∈X,a.tool.length<=100000
def Qc (F:List (ak × ak)) (X:List kI):List ak:=X.flatMap (·.outs)++F.map (·.1)
def abf (A:ak->EN) (p:ak):dz:=match A p with
 | .known k=>⟨p,k.is,k.data⟩
 | _=>⟨p,false,[]⟩
def Du (ps:List ak) (A:ak->EN):List dz:=ps.map (abf A)
structure Sn (ps:List ak) (A:ak->EN):Prop where
 path:∀ p k,A p = .known k->k.path=p
 data:∀ p k,A p = .known k->k.data.length<=65536
 out:∀ p k,A p = .known k->p ∉ ps->k.is=false
theorem auB (A:ak->EN) (p:ak):(abf A p).path=p:=by unfold abf;split <;> rfl
theorem auC (ps:List ak) (f:ak->dz) (hf:∀ p,(f p).path=p) (p:ak):rO (ps.map f) p=if p∈ps then f p else ⟨p,false,[]⟩:=by
 unfold rO;induction ps with
 | nil=>rfl
 | cons q ps I =>
  rw [List.map_cons,List.find?_cons,hf];by_cases h:q=p
  ·subst h;simp
  ·rw [show (q == p)=false by simpa using h];simp only [I,List.mem_cons];simp [show ¬ p=q from fun e=>h e.symm]
section
variable {ps:List ak} {A:ak->EN}
theorem auD (h:Sn ps A) {k:dz} (hk:A p = .known k):qN k=qN (rO (Du ps A) k.path):=by
 rw [h.path p k hk,Du,auC _ _ (auB A)];split
 ·rw [abf,hk];rfl
 ·rename_i aL;have:=h.out p k hk aL;unfold qN;rw [this];rfl
theorem afs (h:Sn ps A) (p:ak):(rO (Du ps A) p).data.length<=65536:=by
 rw [Du,auC _ _ (auB A)];split
 ·unfold abf;cases hA:A p with
  | known k=>exact h.data p k hA
  | below=>exact aQu _
  | stuck=>exact aQu _
 ·exact aQu _
theorem aft (h:Sn ps A) (hl:ps.length<=150):CY (Du ps A)<=20000000:=by
 have key:∀ l:List dz,(l.map (KH (Du ps A))).sum<=l.length * 131076:=by
  intro l;induction l with
  | nil=>simp
  | cons u l J =>
   rw [List.map_cons,List.sum_cons,List.length_cons];have h1:KH (Du ps A) u<=131076:=by have I:=QH (rO (Du ps A) u.path).data;have M:=afs h u.path;unfold KH OX;omega
   omega
 have h1:=key (Du ps A);have I:(Du ps A).length<=150:=by simpa [Du] using hl
 unfold CY;omega
def Sq (a:kI) (U:List dz) (b:dA) (rs:List kJ):Prop:=uS (kZ a) U b/\UO (kZ a) b/\b.reads=rs
theorem auE {U:List dz} (aA:a.tool.length<=100000) (ik:CY U<=20000000):Sq a U (IM a).start []:=uS.start aA ik
theorem NB {b:dA} (h:(IM a).asks b=some p):b.over=false/\b.asks=p:=by
 change (if b.over=true then none else some b.asks)=some p at h;split at h
 ·cases h
 ·rename_i I;exact⟨by simpa using I,aQS h⟩
theorem auF (h:Sn ps A) {b:dA} {rs:List kJ} {k:dz} (ay:Sq a (Du ps A) b rs) (aL:(IM a).asks b=some p) (hk:A p = .known k):Sq a (Du ps A) ((IM a).mE b k) (rs++[iA k]):=by obtain⟨I,rfl⟩:=NB aL;have:=ay.1.mE ay.2.1 I (h.path _ _ hk) (fun _=>h.data _ _ hk) (auD h hk) (fun p _=>aQn (afs h p) om) rfl;rw [ay.2.2] at this;exact this
theorem aIh {U:List dz} {b:dA} {rs:List kJ} (ay:Sq a U b rs):∀ x∈b.out.outs,x.2.length<=65536/\x.1∈a.outs:=by
 intro x ah;unfold dA.out at ah;split at ah
 ·exact ay.1.wrote x ah
 ·cases ah
theorem aIi (W:pV) (a:ML) (A:ak->EN) (n:Nat) (s:a.S) (rs:List kJ):mF W a A (n+1) s rs=match a.asks s with
 | none=>(true,a.out s)
 | some p=>match A p with
  | .known k=>mF W a A n (a.mE s k) (rs++[W.sum k])
  | .below=>(true,HZ rs)
  | .stuck=>(false,D8 rs):=rfl
theorem auG {W:pV} (dn:W.sum=iA) (h:Sn ps A):∀ (n:Nat) (b:(IM a).S) (rs:List kJ),Sq a (Du ps A) b rs->(mF W (IM a) A n b rs).1=true->∀ x∈(mF W (IM a) A n b rs).2.outs,x.2.length<=65536/\x.1∈a.outs
 | 0,b,rs,_,I=>by cases I
 | n+1,b,rs,J,I=>by
  rw [aIi W (IM a)] at I |-;cases aL:(IM a).asks b with
  | none=>exact aIh J
  | some p =>
   rw [aL] at I;simp only at I |-;cases hA:A p with
   | known k =>
    rw [hA] at I;have:=auF h J aL hA;rw [dn] at I |-;exact auG dn h n _ _ this I
   | below=>intro x ah;cases ah
   | stuck=>rw [hA] at I;cases I
end
section
variable {F:List (ak × ak)} {X:List kI} (hs:auA F X)
theorem afu (hs:auA F X):(Qc F X).length<=150:=by have:=hs.few;simp only [Qc,List.length_append];omega
theorem auH (hs:auA F X) {O:Nat->Option iN} (hO:∀ i o,O i=some o->∀ x∈o.outs,x.2.length<=65536):Sn (Qc F X) (vX (nQ F X) O):=by
 have hf:∀ p,(Fq F p).data.length<=65536/\(Fq F p).path=p/\(p ∉ F.map (·.1)->(Fq F p).is=false):=fun p=>by
  unfold Fq;cases ah:fileAt F p with
  | none=>exact⟨aQu _,rfl,fun _=>rfl⟩
  | some x =>
   refine⟨hs.data x (aQ7 ah),rfl,fun I=>absurd (aQv.2 ⟨x,aQ7 ah,?_⟩) I⟩;simpa using List.find?_some ah
 have Y:∀ o:iN,(∀ x∈o.outs,x.2.length<=65536)->∀ p,(o.at_ p).data.length<=65536/\(o.at_ p).path=p:=fun o h p=>by
  unfold iN.at_;cases ah:o.outs.find? fun x=>x.1 == p with
  | none=>exact⟨aQu _,rfl⟩
  | some x=>exact⟨h x (aQ7 ah),rfl⟩
 have key:∀ p k,vX (nQ F X) O p = .known k->k.path=p/\k.data.length<=65536/\(p ∉ Qc F X->k.is=false):=fun p k hk=>by
  unfold vX at hk;cases hm:(nQ F X).kK p with
  | none =>
   rw [hm] at hk;cases hk;obtain⟨h1,J,A7⟩:=hf p;exact⟨J,h1,fun I=>A7 fun ah=>I (aQ4 _ ah)⟩
  | some j =>
   rw [hm] at hk;simp only at hk;cases M:O j with
   | none=>rw [M] at hk;cases hk
   | some o =>
    rw [M] at hk;simp only at hk;split at hk
    ·cases hk;obtain⟨h1,J⟩:=Y o (hO j o M) p;refine⟨J,h1,fun I=>?_⟩;obtain⟨aD,hc,_⟩:=aRy.1 hm;exact absurd (aQU _ (aQY.2 ⟨X[j],List.getElem_mem aD,by simpa using hc⟩)) I
    ·split at hk <;> cases hk
 exact⟨fun p k h=>(key p k h).1,fun p k h=>(key p k h).2.1,fun p k h=>(key p k h).2.2⟩
theorem auI (hs:auA F X) (i:Nat):(X.getD i mZ).tool.length<=100000:=by
 rw [List.getD_eq_getElem?_getD];cases ah:X[i]? with
 | none=>exact aQu _
 | some a=>exact hs.tool a (aQr ah)
theorem auJ (hs:auA F X):∀ (n i:Nat) (o:iN),qd (nQ F X) n i=some o->∀ x∈o.outs,x.2.length<=65536/\x.1∈(X.getD i mZ).outs
 | 0,i,o,h=>by cases h
 | n+1,i,o,h=>by
  rw [qd] at h;have I:=auH hs fun i o h x ah=>(auJ hs n i o h x ah).1;have hw:=auE (a:=X.getD i mZ) (auI hs i) (aft I (afu hs));split at h
  ·rename_i J;cases h;exact auG rfl I _ _ _ hw J
  ·cases h
theorem LH (hs:auA F X):Sn (Qc F X) (fI (nQ F X)):=auH hs fun i o h x ah=>by
 obtain⟨n,I⟩:=Wy.1 h;exact (auJ hs n i o I x ah).1
theorem Vm (hs:auA F X) {s:((nQ F X).act i).S} {rs:List kJ} (h:oU (nQ F X) i s rs):Sq (X.getD i mZ) (Du (Qc F X) (fI (nQ F X))) s rs:=by
 induction h with
 | start=>exact auE (auI hs i) (aft (LH hs) (afu hs))
 | step h aL hk I=>exact auF (LH hs) I aL hk
theorem IP (hs:auA F X):alq (nQ F X) where
 fin:=fun i s rs h=>by
  cases h with
  | start=>exact Nat.zero_lt_succ _
  | @step s1 I p k h1 aL hk =>
   have hw:=Vm hs h1;have:=(hw.1.asked hw.2.1 (NB aL).1).2;rw [hw.2.2] at this;show (I++[_]).length < 502;simp;omega
 reads:=fun i s rs h A7=>by
  have hw:=Vm hs h;show (dA.out s).reads=rs;unfold dA.out;split <;> exact hw.2.2
 apart:=fun i s rs h=>by
  induction h with
  | start=>exact aRb
  | @step s1 I p k h1 aL hk M =>
   have hw:=Vm hs h1;have J:=(hw.1.asked hw.2.1 (NB aL).1).1;rw [hw.2.2,(NB aL).2] at J;rw [List.map_append,List.nodup_append];refine⟨M,by simp,fun x ah y hy=>?_⟩;have Y:y=p:=by rw [List.mem_singleton.1 hy];exact (LH hs).path p k hk
   rintro rfl;exact J (Y ▸ ah)
 sum:=fun k=>rfl
 file:=fun p=>by
  show (Fq F p).path=p;unfold Fq;split <;> rfl
theorem XL (hs:auA F X) (h:(bE (nQ F X) i).kind=1):∃ (b:dA) (rs:List kJ),oU (nQ F X) i b rs/\Sq (X.getD i mZ) (Du (Qc F X) (fI (nQ F X))) b rs/\b.over=true/\b.why=0/\bE (nQ F X) i=⟨1,0,b.wrote,b.reads⟩:=by
 obtain⟨s,aL,I,M⟩:=aIg (IP hs) h;have hw:=Vm hs aL;have Y:dA.over s=true:=by
  change (if dA.over s=true then none else some (dA.asks s))=none at I;split at I
  ·assumption
  ·cases I
 have J:bE (nQ F X) i=dA.out s:=M;have hy:dA.why s=0:=by
  rw [J] at h;unfold dA.out at h;split at h
  ·assumption
  ·cases h
 exact⟨s,_,aL,hw,Y,hy,by rw [J];unfold dA.out;exact if_pos hy⟩
theorem Vn (hs:auA F X) (i:Nat):(bE (nQ F X) i).kind=1\/((bE (nQ F X) i).kind=2\/(bE (nQ F X) i).kind=3)/\(bE (nQ F X) i).outs=[]:=by
 obtain⟨s,rs,aL,I⟩:=afq (IP hs).fin i;rcases afr (IP hs).fin aL I with ⟨_,h⟩ | ⟨p,_,_,h⟩ | ⟨p,_,_,h⟩
 ·have J:bE (nQ F X) i=dA.out s:=h;rw [J];unfold dA.out;split
  ·exact .inl rfl
  ·exact .inr ⟨.inl rfl,rfl⟩
 ·rw [h];exact .inr ⟨.inl rfl,rfl⟩
 ·rw [h];exact .inr ⟨.inr rfl,rfl⟩
theorem XM (hs:auA F X) (i:Nat):∀ x∈(bE (nQ F X) i).outs,x.2.length<=65536/\x.1∈(X.getD i mZ).outs:=by
 rcases Vn hs i with h | h
 ·obtain⟨b,rs,_,hw,_,_,e⟩:=XL hs h;rw [e];exact hw.1.wrote
 ·rw [h.2];intro x ah;cases ah
theorem afv (hs:auA F X) (h:(bE (nQ F X) i).kind=1):(bE (nQ F X) i).outs.map (·.1)=ny (X.getD i mZ).outs/\Ha (bE (nQ F X) i).outs:=by
 obtain⟨b,rs,_,hw,I,hy,e⟩:=XL hs h;rw [e];refine⟨We.one ⟨?_,fun x=>⟨fun ah=>?_,fun ah=>?_⟩⟩ (Ot _),hw.1.A8⟩
 ·have:=hw.1.A8;rw [List.pairwise_map];exact this.imp fun {a b} h=>by rwa [Og] at h
 ·obtain⟨y,hy,rfl⟩:=aQv.1 ah;exact (hw.1.wrote y hy).2
 ·have:=hw.1.full I hy x ah;unfold getM at this;cases ax:b.wrote.find? fun y=>y.1 == x with
  | none=>rw [ax] at this;cases this
  | some y=>exact aQv.2 ⟨y,aQ7 ax,by simpa using List.find?_some ax⟩
end
end
section
theorem aIk {X:List iP} (bJ:∀ x∈X,x.2.outs≠[]) (xe:(BZ X).Nodup) {x y:iP} (ah:X[i]?=some x) (hy:X[k]?=some y) (afw:k < i):vU x.2≠vU y.2:=by
 intro he;have h1:=(aAx.1 he).2;have I:ny x.2.outs=ny y.2.outs:=by simp only [CP,List.cons.injEq,and_true] at h1;exact h1.2.2.2
 have J:=(aQs.1 ah).1;obtain⟨p,aL⟩:=List.exists_mem_of_ne_nil _ (bJ x (aQr ah));have M:p∈y.2.outs:=((Ot y.2.outs).2 p).1 (I ▸ ((Ot x.2.outs).2 p).2 aL);have Y:X=X.take i++x :: X.drop (i+1):=by have:=(aRj i X).symm;rw [List.drop_eq_getElem_cons J,(List.getElem?_eq_some_iff.1 ah).2] at this;exact this
 have A7:y∈X.take i:=by rw [List.mem_iff_getElem?];exact⟨k,by rw [List.getElem?_take,if_pos afw];exact hy⟩
 rw [Y,BZ,List.flatMap_append,List.nodup_append] at xe;exact xe.2.2 p (aQY.2 ⟨y,A7,M⟩) p (aQY.2 ⟨x,by simp,aL⟩) rfl
theorem auL (p:UInt8->Bool):∀ s:ak,((jg p s).map (·.length+1)).sum=s.length+1
 | []=>rfl
 | c :: s=>by
  have I:=auL p s;obtain⟨x,r,h1,J⟩:=VU p c s;rw [h1] at I;rw [J];split <;> simp at I |- <;> omega
theorem afx {s:ak} (h:eF s=true):s.length<=16100:=by
 obtain⟨h1,I⟩:=atB h;have M:=auL (· == 47) s;have key:∀ l:List ak,(∀ x∈l,x.length<=1000)->(l.map (·.length+1)).sum<=l.length * 1001:=by
  intro l;induction l with
  | nil=>intro _;simp
  | cons x l J =>
   intro hl;have:=J fun y hy=>hl y (by simp [hy]);have:=hl x sp;simp only [List.map_cons,List.sum_cons,List.length_cons];omega
 have:=key _ I;omega
structure alr (a:kI):Prop where
 tool:(pR eF a.tool).1=0
 some:a.outs≠[]
 outs:∀ x∈a.outs,yA x [111,117,116]=true
 ins:∀ x∈a.ins,eF x=true
 asks:∀ x∈a.asks,G9 x=true
theorem look_ok {H:List fA} (h:Np H a=0):alr a:=by
 unfold Np JM at h;split at h
 ·contradiction
 ·rename_i h1;split at h
  ·cases h
  ·rename_i I;simp only [not_or,Bool.not_eq_true] at I;obtain⟨J,M,Y,A7⟩:=I;refine⟨om,fun e=>J (by rw [e];rfl),fun x ah=>?_,fun x ah=>?_,fun x ah=>?_⟩
   ·have:=aQ2.1 M x ah;simpa using this
   ·have:=aQ2.1 Y x ah;simpa using this
   ·have:=aQ2.1 A7 x ah;simpa using this
theorem als:∀ {X:List iP} {H:List fA},zD H X=0->H.Nodup->(∀ x∈X,alr x.2)/\(H++BZ X).Nodup
 | [],H,_,I=>⟨(fun x ah=>by cases ah),by simpa [BZ] using I⟩
 | x :: X,H,h,I=>by
  rw [zD] at h;split at h
  ·rename_i hl;obtain⟨h1,J⟩:=als h (atj hl);refine⟨fun y hy=>?_,by simpa [BZ] using J⟩;rcases aQw.1 hy with rfl | hy
   ·exact look_ok hl
   ·exact h1 y hy
  ·contradiction
structure abg (F:List (ak × ak)) (X:List kI):Prop where
 small:auA F X
 bZ:∀ a∈X,alr a
 apart:(X.flatMap (·.outs)).Nodup
 few:∀ a∈X,a.env.length<=200/\a.ins.length<=200/\a.asks.length<=200/\a.outs.length<=200
def auM (a:kI):List UInt8:=bN.sum (vU a)
def NC (X:List kI) (i:Nat):List UInt8:=auM (X.getD i mZ)
noncomputable def XN (F:List (ak × ak)) (X:List kI) (i:Nat):lI:=Li (NC X i) (bE (nQ F X) i)
theorem afy {X:List kI} (ay:i < X.length):X.getD i mZ∈X:=by rw [List.getD_eq_getElem?_getD,List.getElem?_eq_getElem ay];exact List.getElem_mem ay
section
variable {F:List (ak × ak)} {X:List kI} (h:abg F X)
theorem auN (h:abg F X) (ay:i < X.length) (aL:(kZ (X.getD i mZ)).may p=true):eF p=true:=by
 change U8 _ _ _ p=true at aL;have I:=h.bZ _ (afy ay);unfold U8 at aL;split at aL
 ·cases aL
 ·rcases Bool.or_eq_true_iff.1 aL with h1 | h1
  ·exact I.ins p (by simpa using h1)
  ·obtain⟨x,_,ah⟩:=aRq.1 h1;unfold PW at ah;simp only [Bool.and_eq_true] at ah;exact ah.1.2
theorem afz (h:abg F X) (ay:i < X.length) {s:((nQ F X).act i).S} {rs:List kJ} (aL:oU (nQ F X) i s rs):(∀ r∈rs,ajj r)/\(rs.map (·.path)).Nodup/\rs.length<=500:=by
 have hf:=IP h.small;have hw:=Vm h.small aL;refine⟨fun r I=>?_,hf.apart i s rs aL,?_⟩
 ·have hm:=auN h ay (hw.1.RL r (by rw [hw.2.2];exact I));obtain⟨k,rfl,p,_⟩:=aL.known r I;have hl:=afx hm;refine⟨hm,om,?_,fun e=>?_⟩
  ·show (if k.is=true then bN.sum k.data else Bg).length=32;split
   ·exact yB _
   ·rfl
  ·have J:k.is=false:=e;show (if k.is=true then bN.sum k.data else Bg)=Bg;rw [J];rfl
 ·cases aL with
  | start=>exact aQu _
  | @step s1 M p k h1 aL hk =>
   have hw:=Vm h.small h1;have:=(hw.1.asked hw.2.1 (NB aL).1).2;rw [hw.2.2] at this;show (M++[_]).length<=500;simp;omega
theorem Sr (h:abg F X) (ay:i < X.length):(bE (nQ F X) i).outs.length<=200:=by
 rcases Vn h.small i with hk | hk
 ·have h1:=congrArg List.length (afv h.small hk).1;rw [List.length_map] at h1;have I:=Ou (X.getD i mZ).outs;have:=(h.few _ (afy ay)).2.2.2;omega
 ·rw [hk.2];exact aQu _
theorem afA (h:abg F X) (ay:i < X.length) (hk:(bE (nQ F X) i).kind=1):Xh (XN F X i):=by
 obtain⟨b,rs,aL,hw,_,_,e⟩:=XL h.small hk;have I:=afz h ay aL;have M:=afv h.small hk;have hs:=XM h.small i;have J:(bE (nQ F X) i).reads=rs:=by rw [e];exact hw.2.2
 refine⟨fun r ah=>I.1 r (by rw [<- J];exact ah),by have:=I.2.1;rw [<- J] at this;exact this,⟨fun x ah=>?_,?_⟩,by have:=I.2.2;rw [<- J] at this;exact this,?_⟩
 ·obtain⟨y,hy,rfl⟩:=aQv.1 ah;have hu:=(h.bZ _ (afy ay)).outs _ (hs y hy).2;have hm:eF y.1=true:=by unfold yA at hu;simp only [Bool.and_eq_true] at hu;exact hu.1
  exact⟨hu,by have:=afx hm;show y.1.length<=_;omega,yB _⟩
 ·show ((bE (nQ F X) i).outs.map uT).Pairwise _;rw [List.pairwise_map];exact M.2
 ·show ((bE (nQ F X) i).outs.map uT).length<=1000;rw [List.length_map];have:=Sr h ay;omega
end
end
section
section
open Go.RowKit Go.Shelf
open Go.Lib (decDigits itoa_nonneg below_grow)
theorem auO (w:aRB) (base g:Nat) (l:aRH) (h:DT w base g l) (s:ByteArray) (hlen:l.length+s.size<=2000000000) (sj:base<=w.heap.size) :
  CR 101 #[pp g 0,.string s] w (.tuple #[.int .i64 s.size,.nilIface]) fun w'=>DT w' base g (l++s.data.toList)/\Below base w w':=by
 obtain⟨AJ,p,A,c,ax,aL,J⟩:=h;have Ad:=ic ax;have AL:=J.ne ax dc;obtain⟨n,Y⟩:=ai l.length;rw [<- Y] at ax J hlen;have AO:=aa Y;have AZ:n+s.size<=maxLen:=by unfold maxLen;omega
 clear Y;go_enter func101,ntmps101;go_wp2_with (first
  | (go_at_call 153; refine (ahG w g _ p ax aL).mono ?_;rintro e w1 ⟨rfl,A7,I⟩;have Ae:w1.cell? (ad g 1)=some (.slice A n c):=aQo w1 g 1 _ _ _ A7;have Af:w1.frozen? ⟨g,1,none⟩=false:=aQF w1 g 1 _ _ A7;have AA:=J.grown I (fun b ae e=>AL (ae.trans e));clear J)
  | (at_builtin;have _t:=AA;go_must ((with_reducible refine ve 5 (.int .u8 0) 1 1 underlying48 QK rfl base A n c (bO l) AA s.size (bO s.data.toList) (.string s) (Src.str underlying9) (G8 _) AZ om (by have:=I.size;omega) ?_ ?_);exact⟨rfl,rfl⟩;intro cO bF aC AP AV Ag;clear AA;have M:=(AV.block g (by have:=I.size;omega) (fun e=>AL e.symm)).trans A7;have Ah:aC.cell? (ad g 1)=some (.slice A n c):=aQo aC g 1 _ _ _ M;have Ai:aC.frozen? ⟨g,1,none⟩=false:=aQF aC g 1 _ _ M)))
 go_ret2;have Aa:Below base w w1:=(Below.refl base w).grown I sj (fun k e=>by injection e with e;omega);have Ab:Below base w aC:=Aa.grown AV (by have:=I.size;omega) (fun k e=>(_t.block k e).1);refine⟨rfl,⟨AJ,_,cO,bF,?_,.inr rfl,?_⟩,Ab.setCell (p:=ad g 1) (by exact AJ) _⟩
 ·have:=ahH _ M (.slice cO (n+s.size) bF);rw [List.length_append,wG];rw [AO.o] at this |-;exact this
 ·have AB:=AP.setOther (p:=ad g 1) (AP.ne M dc) (.slice cO (n+s.size) bF);rw [<- ahe] at AB;rw [List.length_append,wG];rw [AO.o] at AB |-;exact AB
theorem auP (w:aRB) (A:aRC) (c:Nat) (l:List (List UInt8)) (hl:l.length<=1000) (av:Rd w 1 A l.length (cu l)) (bY:Mm w) (hlen:(nG l).length<=900000000) :
  CB 63 #[.slice A l.length c] w (.string (az (nG l))):=by
 obtain⟨dI,A7⟩:=ai (w.alloc (.cells #[.pointer none,.slice none 0 0] 198));have Af:Below w.heap.size w dI:=by rw [A7];exact (Below.refl _ w).alloc (aQm _) _
 have Y:I7 dI w.heap.size:=by rw [A7];exact aQt w _
 obtain⟨n,AO⟩:=ai l.length;rw [<- AO] at av hl |-;obtain⟨BA,BF,AA,BG⟩:=hq4 av bY AO hlen;clear av bY AO hlen;go_enter func63,ntmps63;go_wp2;rw [<- A7];clear A7;go_loopw [8] (fun i wr=>∃ k:Nat,k<=n/\i = .int .i64 k/\DT wr w.heap.size w.heap.size (nG (l.take k))/\Bl w wr/\(k=0->I7 wr w.heap.size)) (fun i _=>n - (intOf i).toNat);case atStart=>exact⟨0,om,rfl,Y.at_ (aQm _),Af,fun _=>Y⟩
 case round =>
  clear Af Y;obtain⟨k,hk,rfl,J,M,AP⟩:=hrel;by_cases BH:k < n
  ·have BI:(k:Int) < n:=om;obtain⟨x,ah⟩:∃ x,l[k]?=some x:=⟨_,aQp (by rw [<- AA.o];exact BH)⟩;have Ag:l.take (k+1)=l.take k++[x]:=by rw [List.take_add_one,ah];rfl
   obtain⟨b,o,rfl,hcell⟩:=(BA.o.gp M).2 om;have Bn:wr.cell? (ad b (o+k))=some (.string (az x)):=hcell k _ (by rw [cu,List.getElem?_map,ah];rfl);have AV:nG (l.take (k+1))=nG (l.take k)++decDigits x.length++[58]++x:=by rw [Ag,aAu];simp
   have hle:(nG (l.take (k+1))).length<=900000000:=by have h:=congrArg (fun z=>(nG z).length) (aRj (k+1) l);simp only [aAz,List.length_append] at h;have:=BG.o;omega
   rw [AV] at hle;simp only [List.length_append,List.length_cons,List.length_nil] at hle;have AB:(az x).size=x.length:=iM x;have AZ:(az (decDigits x.length)).size=(decDigits x.length).length:=iM _;have Ah:=gU x;have Aa:=gU (decDigits x.length);obtain⟨R,Ab,D,AJ,L,Ad⟩:=nq3 (nG (l.take k)) (decDigits x.length) x.length;rw [<- Ab] at J hle;rw [<- AJ] at hle AZ Aa;rw [<- Ad] at hle AB AJ;have Bo:(L:Int)<=900000000:=om;obtain⟨BJ,BK,Ai,BL,AL,BM,BO,BP,BQ,Ak⟩:=hq10 AV Ab AJ Ad hle AB AZ Ah Aa M;have BX:=M.size;have Bp:(az x).size=L:=AB;clear AP AV ah Ab AJ Ad Ag hcell hle AZ Ah Aa M AB;go_wp2_with (first
    | (go_at_call 102; refine (aAA wr L (by have:=AL.o;omega) (BF.o.on Ak.o)).mono ?_;rintro e w1 ⟨rfl,I⟩;rw [<- Ai.o];have Al:=J.below I (aQm _);have Bq:=I.size;clear J)
    | (go_at_call 101; refine (auO w1 _ _ _ Al (az D) (by have:=AL.o;have:=BO.o;omega) om).mono ?_;rintro e af ⟨rfl,Ae,Am⟩;rw [BQ.o] at Ae;have Br:=Am.size;clear Al)
    | (go_at_call 103; refine (aAf af _ _ _ Ae 58 (by have:=AL.o;rw [List.length_append];omega) om).mono ?_;rintro e aC ⟨rfl,Ao,Ap⟩;have Bt:=Ap.size;clear Ae)
    | (go_at_call 101; refine (auO aC _ _ _ Ao (az x) (by have:=AL.o;have:=BM.o;rw [List.length_append,List.length_append,List.length_singleton];omega) om).mono ?_;rintro e Bu ⟨rfl,Aq,Au⟩;rw [BP.o] at Aq;have Bv:=Au.size;clear Ao))
   go_roundw;case rel =>
    refine⟨k+1,om,by go_num,by rw [BJ.o,<- BK.o,<- BL.o,<- Ai.o];exact Aq,(((Ak.o.trans (I.mono BX)).trans Am).trans Ap).trans Au,fun h=>om⟩
   case measure=>simp [intOf];omega
  ·have Bb:k=n:=om;have BI:¬ (k:Int) < n:=om;have Aw:l.take k=l:=by rw [Bb,AA.o,List.take_length]
   rw [Aw] at J;have Ay:=aa M;have Bc:=aa AP;clear M AP Aw;rcases aQH n with Az | Az
   ·have Bd:k=0:=om;have Y:=Bc.o Bd;have Bf:l=[]:=aQC (by rw [<- AA.o];exact Az);clear J;go_wp2_with (first
     | (go_at_call 104; refine (aps wr w.heap.size _ Y).mono ?_;rintro e w1 ⟨rfl,I⟩))
    go_ret;exact⟨by rw [Bf];rfl,Ay.o.trans I⟩
   ·have Bi:nG l≠[]:=by
     obtain⟨x,t,rfl⟩:∃ x t,l=x :: t:=by
      cases l with
      | nil=>have:=AA.o;simp at this;omega
      | cons x t=>exact⟨x,t,rfl⟩
     rw [V9];simp
    go_wp2_with (first
     | (go_at_call 104; refine (apr wr w.heap.size _ _ J Bi).mono ?_;rintro e w1 ⟨rfl,I⟩))
    go_ret;exact⟨rfl,Ay.o.trans I⟩
end
section
open Go.RowKit Go.Shelf Go.Maps Go.WideMaps Go.WideAt Go.MapKept Go.ChangeMaps
attribute [local go_sem] Oper.semAt_some
abbrev abh:={ x:Int × xL // x.2.1.length<=1100000 }
def afB (x:abh):Array Value:=#[.int .i64 x.1.1,Y7 x.1.2]
theorem aIo (n:Nat) (aB:1<=n) (l ji n0 b:Nat) (A:aRC) (cap:Nat) (zs:List xL) (EI:zs.length<=1000000000) (lY:∀ p∈zs,p.1.length<=1100000) (bu vS:List abh->World->Prop)
  (fM:∀ pre x W,bu pre W->pre.length < zs.length->YieldAt Fence.wide (n - 1) prog l (afB x) W fun e W'=>(e = .returned (.bool true)/\bu (pre++[x]) W'/\tZ n0 b W W')\/(e = .returned (.bool false)/\vS (pre++[x]) W'))
  (W:aRB) (vT:W.cell? (ad ji 0)=some (.slice A zs.length cap)) (hc:∀ W',tZ n0 b W W'->W'.cell? (ad ji 0)=some (.slice A zs.length cap)) (av:∀ W',tZ n0 b W W'->Rd W' 2 A zs.length (Ky zs)) (aX:bu [] W) :
  CallsIn Fence.wide n prog 151 #[.func (.yield l) #[] #[],pp ji 0] W fun e W'=>(∃ v,e = .returned v)/\((∃ ys,ys.map (·.1.2)=zs.reverse/\bu ys W')\/(∃ pre,True/\vS pre W')):=by
 have AP:=V8 151;obtain⟨len,hlen⟩:=ai zs.length;rw [<- hlen] at EI fM vT hc av;refine aQ1 func151 rfl AP ?_ rfl;simp only [ntmps151,List.size_toArray,List.length_cons,List.length_nil,Nat.reduceAdd,Nat.reduceSub,Array.replicate_succ,Array.replicate_zero,List.push_toArray,List.append_toArray,List.nil_append,List.cons_append]
 gi_wp2
 gi_loopw [3] (fun i wr=>∃ (q:Nat) (ys:List abh) (M:Int),i = .int .i64 M/\M=(q:Int) - 1/\q<=len/\ys.map (·.1.2)=(zs.drop q).reverse/\bu ys wr/\tZ n0 b W wr) (fun i _=>(intOf i+1).toNat)
 case atStart=>exact⟨len,[],_,rfl,om,aQm _,by rw [hlen,List.drop_length];rfl,aX,tZ.refl _ _ _⟩
 case round =>
  obtain⟨q,ys,M,rfl,A7,Ag,I,AA,AB⟩:=hrel;by_cases Ah:0 < q
  ·obtain⟨p,rfl⟩:∃ p,q=p+1:=⟨q - 1,om⟩;obtain rfl:M=(p:Int):=om;clear A7;obtain⟨x,ah⟩:∃ x,zs[p]?=some x:=⟨_,aQp om⟩;have AJ:(zs.drop p).reverse=(zs.drop (p+1)).reverse++[x]:=by obtain⟨aL,rfl⟩:=aQs.1 ah;rw [List.drop_eq_getElem_cons aL,List.reverse_cons]
   obtain⟨b',o,rfl,hcell⟩:=(av wr AB).2 om;have Ai:wr.cell? ⟨b',o+p * 2,none⟩=some (.string (az x.1)):=hcell (p * 2) _ (ahT ah).1;have Ak:wr.cell? ⟨b',o+p * 2+1,none⟩=some (.string (az x.2)):=hcell (p * 2+1) _ (ahT ah).2;have AL:=lY x (aQr ah);have AV:ys.length < len:=by have:=congrArg List.length I;rw [List.length_map,List.length_reverse,List.length_drop] at this;omega
   have Y:=fM ys ⟨((p:Int),x),AL⟩ wr AA AV;have AO:(ys++[(⟨((p:Int),x),AL⟩:abh)]).map (·.1.2)=(zs.drop p).reverse:=by rw [List.map_append,I,AJ];rfl
   unfold afB Y7 at Y;simp only at Y;obtain⟨fn,tmps,assign,body,hy,AZ⟩:=Y;have Al:(0:Int)<=p:=om;have Aa:=aa AO;clear ah AJ hcell I AO
   gi_wp2
   refine AZ.mono ?_;rintro e Am (⟨rfl,Ab,Ad⟩ | ⟨rfl,Ae⟩)
   ·gi_wp2
    go_roundw;case rel=>exact⟨p,_,_,rfl,om,om,Aa.o,Ab,AB.trans Ad⟩
    case measure=>simp [intOf]
   ·gi_wp2
    refine qm ?_;exact⟨⟨_,rfl⟩,.inr ⟨_,trivial,Ae⟩⟩
  ·obtain rfl:q=0:=om;obtain rfl:M = -1:=om;clear A7;rw [List.drop_zero] at I;have Af:=aa I;clear I
   gi_wp2
   go_end0;exact⟨⟨_,rfl⟩,.inl ⟨_,Af.o,AA⟩⟩
theorem aIp (n:Nat) (aB:1<=n) (ji n0 b:Nat) (A:aRC) (cap:Nat) (zs:List xL) (EI:zs.length<=1000000000) (lY:∀ p∈zs,p.1.length<=1100000) (w:aRB) (vT:ji < n0) (aIq:ji≠b) (CE:n0<=w.heap.size)
  (hc:w.heap[ji]?=some (.cells #[.slice A zs.length cap] 43 (0,0))) (av:∀ W',tZ n0 b w W'->Rd W' 2 A zs.length (Ky zs)) :
  SeqStopsK Fence.wide n prog 151 #[pp ji 0] afB (tZ n0 b) (fun ys=>ys.map (·.1.2)=zs.reverse) (fun _=>True) zs.length w:=fun l bu Y W A7 _ _ AA AB=>by
 have I:∀ W',tZ n0 b W W'->tZ n0 b w W':=fun W' h=>(tZ.gT (A7.mono CE)).trans h;have M:∀ W',tZ n0 b W W'->W'.cell? (ad ji 0)=some (.slice A zs.length cap):=fun W' h=>aQo W' ji 0 _ _ _ (((I W' h).keep ji vT aIq).trans hc);refine (aIo n aB l ji n0 b A cap zs EI lY bu Y AA W (M W (tZ.refl _ _ _)) M (fun W' h=>av W' (I W' h)) AB).mono ?_;rintro e W' ⟨he,⟨ys,aL,aD⟩ | ⟨pre,aL,aD⟩⟩
 ·exact⟨he,.inl ⟨_,aL,aD⟩⟩
 ·exact⟨he,.inr ⟨pre,aL,aD⟩⟩
theorem aIr (w:aRB) (A:aRC) (c:Nat) (l:List xL) (hl:l.length<=1000) (lY:∀ p∈l,p.1.length<=1100000) (av:Rd w 2 A l.length (Ky l)) :
  Calls prog 61 #[.slice A l.length c] w fun e w'=>∃ A' c',e = .returned (.slice A' (CO l).length c')/\Own w' w.heap.size 9 1 A' (CO l).length c' (cu (CO l))/\Bl w w':=by
 have Dq:=@run_makeMap prog;have Dr:=V8 98;have Dt:=V8 100;have Dx:=V8 99;refine (aQG (n:=6)).1 ?_;refine aRf func61 rfl trivial ?_ rfl;simp only [ntmps61,List.size_toArray,List.length_cons,List.length_nil,Nat.reduceAdd,Nat.reduceSub,Array.replicate_succ,Array.replicate_zero,List.push_toArray,List.append_toArray,List.nil_append,List.cons_append]
 gi_wp2_with (first
  | (gi_at_call 98; refine (aQG.2 (aAM _ A l.length c)).mono ?_;rintro e w' ⟨rfl,rfl⟩))
 obtain⟨b,ae⟩:=ai w.heap.size;obtain⟨dN,AO⟩:=ai (((w.alloc (.map #[] 0)).alloc (.cells #[.map (some w.heap.size)] 189)).alloc (.cells #[.slice A l.length c] 43));have Aq:eQ dN prog 9 TS b 0 ([]:fu fA):=by rw [AO,ae];exact ((eQ.made w prog 9 TS).alloc _).alloc _
 have Dy:dN.heap.size=b+3:=by rw [AO,ae];simp
 have Ae:dN.heap[b+1]?=some (.cells #[.map (some b)] 189 (0,0)):=by rw [AO,ae];refine (aQN _ _ _ sp).trans ?_;have:=aQt (w.alloc (.map #[] 0)) (.cells #[.map (some w.heap.size)] 189);rwa [World.size_alloc] at this
 have Au:dN.heap[b+2]?=some (.cells #[.slice A l.length c] 43 (0,0)):=by rw [AO,ae];have:=aQt ((w.alloc (.map #[] 0)).alloc (.cells #[.map (some w.heap.size)] 189)) (.cells #[.slice A l.length c] 43);rwa [World.size_alloc,World.size_alloc] at this
 have Af:Below w.heap.size w dN:=by rw [AO];exact (((Below.refl _ w).alloc (aQm _) _).alloc sp _).alloc (by simp;omega) _
 rw [<- AO,<- ae];rw [<- ae] at Af;have BX:∀ W,tZ (b+3) b dN W->Rd W 2 A l.length (Ky l):=fun W Ci=>av.keep fun Bb Dz u E8 hu=>by
  have Ag:=aQy _ _ hu;simp only at Ag;exact (aRa ((Ci.keep Bb om om).trans (Af.block Bb om))).trans hu
 have Bc:=aIp 5 om (b+2) (b+3) b A c l om lY dN om om om Au BX;have Ck:=aa ae;have Bd:Below w.heap.size w dN:=by rw [<- ae];exact Af
 have Cm:=aa Bd;have E9:w.heap.size < b+3:=om;clear ae AO av Af Bd BX;refine wpIn_rangeFunc_ownH rfl om (gf:=151) (lb:=#[pp (b+1+1) 0]) rfl trivial (enters_of func151 kr rfl)
  Bc tZ.trans (tZ.put om) (Below.refl _ _) (fun _=>rfl)
  (fun pre W=>eQ W prog 9 TS b pre.length (Ms (pre.map (·.1.2)))/\tZ (b+3) b dN W/\Bl w W)
  (fun _ _ _=>False)
  ?Cn (fun _ _ _ _ _ hs _ _=>hs) ⟨Aq,tZ.refl _ _ _,Cm.o⟩
  (fun x Aw W=>∃ Y,b+3<=Y/\W.heap[Y]?=some (.cells #[.string (az x.1.2.1),.string (az x.1.2.2)] 194 (0,0))/\Aw={ tmps:=#[.slice A l.length c,undef,.slice none 0 0,pp (b+1) 0,undef,pp Y 0,undef,undef,undef,.map (some b),.slice A l.length c,.func (.func 151) #[] #[pp (b+1+1) 0],.int .i64 x.1.1,Y7 x.1.2,undef,undef,undef,undef,undef,undef,undef,undef,undef,undef,undef,undef,undef,undef,undef,undef,undef,undef,undef,undef,undef,undef],defers:=[] })
  ?Co ?assign ?body ?done ?stop
 case Cn =>
  rintro pre W W' row ⟨h1,I,J⟩ ax AB;refine⟨h1.grown ax (fun e=>by have:=(AB b e.symm).1;omega),I.trans ⟨ax.size,fun k hk _=>ax.block k (by have:=I.size;omega) (fun e=>by have:=(AB k e.symm).1;omega)⟩,J.grown ax J.size (fun k e=>by have:=(AB k e).1;omega)⟩
 case Co =>
  rintro x Aw _ W W' row ⟨Y,h1,I,J⟩ ax AB;refine⟨Y,h1,(ax.block Y (ic I) (fun e=>?_)).trans I,J⟩;obtain⟨o,Bf,hc⟩:=(AB Y e.symm).2;rw [I] at Bf;cases Bf;cases hc
 case assign =>
  rintro Ju pre ⟨⟨Bi,nm,AP⟩,ah⟩ W K ⟨h1,I,J⟩ Aa;simp only [afB,Y7];obtain⟨H1,Ay,AA⟩:=hq3 h1 I J;have Bn:=I.size;clear h1 I J
  gi_wp2
  exact Aa _ _ ((KeepsOthers.alloc _ _).from _) (tZ.gT ((Below.refl _ W).alloc om _)) ⟨H1.o.alloc _,Ay.o.trans (tZ.gT ((Below.refl _ W).alloc om _)),AA.o.alloc AA.o.size _⟩ ⟨W.heap.size,om,aQt W _,rfl⟩
 case body =>
  rintro Ju pre ⟨⟨Bi,nm,AP⟩,ah⟩ Aw W EB ED ⟨h1,I,J⟩ ⟨Y,EG,AV,rfl⟩ Ag;simp only at AV ah;have EH:W.cell? (ad Y 0)=some (.string (az nm)):=aQo W Y 0 _ _ _ AV;have EI:W.cell? (ad Y 1)=some (.string (az AP)):=aQo W Y 1 _ _ _ AV;have Az:W.cell? (ad (b+1) 0)=some (.map (some b)):=aQo W (b+1) 0 _ _ _ ((I.keep (b+1) om om).trans Ae);have Bn:=I.size;simp only [Y7];obtain⟨H1,Ay,AA⟩:=hq3 h1 I J;clear h1 I J AV Aq Ae Au
  gi_wp2_with (first
   | (gi_at_mapUpdate;go_must (refine wpListIn_mapUpdate_own _ rfl _ _ _ 189 rfl 9 9 (string_keyed underlying9) underlying189 (Oe TS) b pre.length _ rfl H1.o mO _ _ _ rfl rfl (keyOf_string_mk underlying9 (by rw [iM];unfold maxLen;omega)) (.held AP) [] (Kl apN AP) ?_;intro w1 Bo AZ)))
  refine⟨KeepsFrom.of_grownBy AZ (fun j e=>by cases e;omega),⟨AZ.size,fun k hk BA=>AZ.block k om (fun e=>BA (by cases e;rfl))⟩,?_,Ay.o.trans ⟨AZ.size,fun k hk BA=>AZ.block k om (fun e=>BA (by cases e;rfl))⟩,AA.o.grown AZ AA.o.size (fun k e=>by cases e;exact aQL Ck.o.symm)⟩;rw [ahj,gU] at Bo;rw [List.map_append,List.length_append,show ([⟨(Bi,nm,AP),ah⟩]:List abh).map (·.1.2)=[(nm,AP)] from rfl,apM];exact Bo
 case done =>
  rintro D ys W EK BF ⟨h1,I,J⟩ Aa;rw [BF] at h1;have Bp:ys.length=l.length:=by have:=congrArg List.length BF;rwa [List.length_map,List.length_reverse] at this
  rw [Bp] at h1;have Ah:=eQ.A8 h1 (string_keyed underlying9);have Ab:=aAL Ah;have Ai:=apJ l;have BG:=ahU l;have Ak:=apI l;have BH:=fun (k:Nat) (n:fA) h=>aAB (l:=l) (k:=k) (n:=n) h;have Al:=Ou (l.map (·.1));rw [List.length_map] at Al;have BI:=fun n=>aAJ l n;have Am:(Ms l.reverse).length=(ny (l.map (·.1))).length:=by rw [<- Ab,List.length_map]
  have BJ:∀ x∈ny (l.map (·.1)),x.length<=1100000:=fun x ah=>by
   obtain⟨p,aL,rfl⟩:=aQv.1 (((Ot _).2 x).1 ah);exact lY p aL
  obtain⟨M,Bq⟩:=ai (Ms l.reverse);obtain⟨Br,Bt⟩:=ai (ny (l.map (·.1)));obtain⟨m,hm⟩:=ai Br.length;rw [<- Bq] at h1 Ah Ab BI Am;rw [<- Bt] at Ab Ai BG Ak BH Al Am BJ;rw [<- hm] at Ai BG Ak Al Am;have A7:=h1;unfold eQ at A7;have Bu:=Tryz.maps_Keys_100 (some b) W;have Bv:=Tryz.slices_Sorted_keys_99_100 b l.length (mapD M) (Oe TS) W A7 (by rw [Ty];unfold maxLen;omega) (by rw [Ty];omega);have Az:W.cell? (ad (b+1) 0)=some (.map (some b)):=aQo W (b+1) 0 _ _ _ ((I.keep (b+1) om om).trans Ae);have EL:b+1 < W.heap.size:=by have:=I.size;omega
  have Cs:=ic Aa;obtain⟨Bw,H1,AA,C8,Ct,C9,Cv,Cw,Cz,DD,DF,CE⟩:=hq12 Aa h1 J hm Ah Ab Ai Ak BH BI BJ Az;have EM:m<=1000:=om;clear A7 h1 I J Aa hm Bt Ah Ab Ai BG Ak BH BI BJ Bq Am Al Ae Au Aq Bc BF Bp
  gi_wp2_with (first
   | (gi_at_call 100; refine Bu.mono ?_;rintro e w1 ⟨rfl,rfl⟩;clear Bu)
   | (gi_at_call 99; refine Bv.mono ?_;rintro e af ⟨v,DL,rfl,Ao,AB,DN,AL⟩;rw [aox] at Ao;have CJ:DL.length=m:=(by rw [Ao.length_eq,C9.o,<- C8.o]);rw [aoz Ct.o Ao,CJ,C9.o] at AB;obtain⟨iD,c2,rfl,CK⟩:=ahL AB;have CL:=aa AL;have CS:=aa CK;clear AB DN AL CK Ao Bv CJ))
  refine wpIn_wide.2 ?_;have AL:=CL.o;have EO:(W.alloc (.cells #[.map (some b)] 189)).heap.size=W.heap.size+1:=by simp
  have M2:eQ af prog 9 TS b l.length M:=(H1.o.alloc _).below AL om;have CU:af.cell? (ad (b+1) 0)=some (.map (some b)):=(AL.cell (p:=ad (b+1) 0) (by show b+1 < _;omega)).trans ((World.cell?_alloc_lt W _ ⟨b+1,0,none⟩ (by show b+1 < _;omega)).trans CE.o);have d2:af.heap[D]?=some (.deferred (some [])):=(AL.block D om).trans ((aQN _ _ _ Cs).trans Bw.o);have rX:Bl w af:=(AA.o.alloc AA.o.size _).trans (AL.mono (by have:=AA.o.size;omega));have CV:=rX.size;obtain⟨CW,CZ,BK,DR⟩:=hq4 M2 CU d2 rX;have DW:=aa CS.o.rd;clear AL M2 CU d2 rX CL CS Bw H1 AA CE;go_loopg [6,23] m (fun gk DX DY wr=>∃ (k j:Nat) (Ad:aRC) (c1:Nat),k+gk=m/\j=2 * k/\DY = .int .i64 k/\DX = .slice Ad j c1/\Own wr af.heap.size 9 1 Ad j c1 (cu (Mo l k))/\Bl af wr);case atStart=>exact⟨0,0,none,0,om,rfl,rfl,rfl,Own.nil _ _ _ _,Below.refl _ _⟩
  case round =>
   obtain⟨k,j,Ad,c1,hk,aD,rfl,rfl,A7,AJ⟩:=hrel;have EP:j<=2000:=om;have Ca:=aa aD;clear aD;by_cases Ag:k < m
   ·have DZ:(k:Int) < m:=om;have ER:(0:Int)<=k:=om;obtain⟨x,ah⟩:∃ x,Br[k]?=some x:=⟨_,aQp (by rw [<- C8.o];exact Ag)⟩;have Cb:=Cz.o k x ah;have Da:=DF.o x (aQr ah);obtain⟨Db,o,rfl,hcell⟩:=(DW.o.gp AJ).2 om;have AV:wr.cell? (ad Db (o+k))=some (.string (az x)):=hcell k _ (Y3 ah);have Az:wr.cell? (ad (b+1) 0)=some (.map (some b)):=(AJ.cell (p:=ad (b+1) 0) (aQy _ _ CZ.o)).trans CZ.o;have Ap:=(CW.o.below AJ CW.o.lt).look apN underlying9 underlying189 ([]:fA) (aAN wr) (az x) (by rw [iM];unfold maxLen;omega);rw [gU,DD.o x] at Ap;unfold TS at Ap;obtain⟨X,BL,U,BM⟩:=nq2 (az x) (az (valOf l x));rw [<- BL] at AV Ap;rw [<- BM] at Ap;obtain⟨V,BO⟩:=ai (cu (Mo l k));rw [<- BO] at A7;obtain⟨Dc,De,Df,Dg,BP⟩:=hq5 BL BM BO Cb AJ;have Bn:=AJ.size;have Dh:∀ v∈[Value.string X,Value.string U],v.oneCell'=true:=by simp [Value.oneCell']
    clear ah Cb hcell AJ BL BM BO Da;go_wp2_with (at_builtin;have _t:=A7;go_must ((with_reducible refine ve 9 (.string ⟨#[]⟩) 1 16 underlying24 ahf rfl af.heap.size Ad j c1 V (A7.alloc _) 2 [.string X,.string U] (.slice (some ⟨wr.heap.size,0,none⟩) 2 2) (Src.slice underlying24 (Rd.acH wr _ _ 1 2 dc rfl)) Dh ?_ ?_ ?_ ?_ ?_);exact mO;omega;(simp;omega);exact⟨rfl,rfl⟩;intro cO bF aC Dk Dl EU;clear A7;have Dm:Bl af aC:=(BP.o.alloc om _).grown Dl (by simp;omega) (fun g e=>(_t.block g e).1)));go_roundg (gk - 1);case rel =>
     refine⟨k+1,j+2,cO,bF,om,by have:=Ca.o;omega,by go_num,rfl,?_,Dm⟩;rw [Dg.o,show cu (Mo l k++[x,valOf l x])=V++[.string X,.string U] by rw [Df.o,Dc.o,De.o];simp [cu]];exact Dk
    case measure=>omega
   ·have BQ:k=m:=om;have DZ:¬ (k:Int) < m:=om;rw [BQ,Cw.o] at A7;have Ce:=aa (show j=(CO l).length by rw [Cv.o,<- BQ];exact Ca.o);have Dp:=(AJ.block D (ic BK.o)).trans BK.o;have Cf:=aa A7;have BP:=aa AJ;clear BQ A7 AJ;go_wp2_with fail;refine wpIn_wide.2 ?_;go_wp2_with fail;have EW:=ic BK.o;have Cg:=DR.o.trans (BP.o.mono CV);refine⟨by simp,.inl ⟨_,_,rfl,aQ5 Dp,?_⟩⟩;refine⟨_,aQX rfl _ _ _,Ad,c1,by rw [<- Ce.o];rfl,?_,Cg.grown (aQR wr D _) Cg.size (fun k e=>by cases e;omega)⟩;rw [<- Ce.o];exact (Cf.o.grown (aQR wr D _) (fun b ae e=>by have:=(Cf.o.block b ae).1;cases e;omega)).mono CV
 case stop =>
  rintro D EY pre W _ _ h _;exact h.elim
end
end
section
section
open Go.Lib (decDigits)
structure XR (a:kI):Prop where
 env:a.env.length<=150
 tool:a.tool.length<=100000
 ins:a.ins.length<=150
 asks:a.asks.length<=150
 outs:a.outs.length<=150
 FO:∀ x∈a.ins,x.length<=1100000
 BN:∀ x∈a.asks,x.length<=1100000
 zX:∀ x∈a.outs,x.length<=1100000
 KD:∀ p∈a.env,p.1.length<=1100000/\p.2.length<=1100000
structure auY (a:kI):Prop where
 env:(nG (CO a.env)).length<=330003300
 ins:(nG (ny a.ins)).length<=165001650
 asks:(nG (ny a.asks)).length<=165001650
 outs:(nG (ny a.outs)).length<=165001650
 Cj:(CO a.env).length<=300
 yS:(ny a.ins).length<=150
 yT:(ny a.asks).length<=150
 qi:(ny a.outs).length<=150
 text:(vU a).length<=900000000
theorem alA (h:XR a):auY a:=by
 have Cj:(CO a.env).length<=300:=by rw [apJ];have:=Ou (a.env.map (·.1));rw [List.length_map] at this;have:=h.env;omega
 have yS:=aQn (Ou a.ins) h.ins;have yT:=aQn (Ou a.asks) h.asks;have qi:=aQn (Ou a.outs) h.outs;have I:=Y6 (M:=1100000) om _ _ Cj (aAD h.KD);have J:=Y6 (M:=1100000) om _ _ yS (ahV h.FO);have Y:=Y6 (M:=1100000) om _ _ yT (ahV h.BN);have A7:=Y6 (M:=1100000) om _ _ qi (ahV h.zX);refine⟨I,J,Y,A7,Cj,yS,yT,qi,?_⟩;have d0:=Wi (n:=a.tool.length) (by have:=h.tool;omega);have d1:=Wi (n:=(nG (CO a.env)).length) om;have d2:=Wi (n:=(nG (ny a.ins)).length) om;have d3:=Wi (n:=(nG (ny a.asks)).length) om;have d4:=Wi (n:=(nG (ny a.outs)).length) om;have AA:=h.tool;rw [vU,CP];simp only [List.map_cons,List.map_nil];rw [Wh,Wh,Wh,Wh,Wh,ac5];simp only [List.length_nil];omega
theorem aIx (h:auY a) {x:List fA} (ah:([a.tool] :: CP a)[k+1]?=some x):(nG x).length<=330003300/\x.length<=300:=by
 rw [List.getElem?_cons_succ] at ah;have:=h.env;have:=h.ins;have:=h.asks;have:=h.outs;have:=h.Cj;have:=h.yS;have:=h.yT;have:=h.qi;match k,ah with
 | 0,ah=>cases ah;omega
 | 1,ah=>cases ah;omega
 | 2,ah=>cases ah;omega
 | 3,ah=>cases ah;omega
 | k+4,ah=>simp [CP] at ah
end
section
open Go.RowKit Go.Shelf
def aIy (w:aRB) (v:Value) (l:List fA):Prop:=∃ A c,v = .slice A l.length c/\Rd w 1 A l.length (cu l)
def abk (a:kI) (j:Nat) (v:Value) (w:aRB):Prop:=aIy w v ([[],[],CO a.env,[],[],ny a.ins,[],[],ny a.asks,[],[],ny a.outs].getD j [])
theorem auZ (w:aRB) (L:vv) (a:kI) (h:KC w L a) (Gs:XR a) (abl:Mm w) :
  CB 40 #[.agg (nz L a)] w (.string (az (vU a))):=by
 have Ak:=alA Gs;have BL:∀ k,∀ x,(CP a)[k]?=some x->(nG x).length<=330003300/\x.length<=300:=fun k x ah=>aIx Ak (k:=k) (by rw [List.getElem?_cons_succ];exact ah);have BM:∀ k,∀ x,(CP a)[k]?=some x->CQ a (k+2)=CQ a (k+1)++[nG x]:=fun k x ah=>aAE (by rw [List.getElem?_cons_succ];exact ah);have BO:=fun (k:Nat) (h1:1<=k) (CZ:k<=5)=>aAG (a:=a) h1 CZ;have BP:(vU a).length<=900000000:=Ak.text;have AA:=aAF a;have BQ:(CP a).length=4:=rfl;obtain⟨pk,nm,E,lG,A,O,Kz,j3,fe,wJ⟩:=L;have bz:=h.env;have Al:=h.ins;have hA:=h.asks;have hO:=h.outs;have KD:=Gs.env;have FO:=Gs.ins;have BN:=Gs.asks;have zX:=Gs.outs;simp only at bz Al hA hO;unfold nz;simp only;obtain⟨W,Y⟩:=ai (w.alloc (.cells #[.string pk,.string nm,.string (az a.tool),.slice E a.env.length Kz,.slice lG a.ins.length j3,.slice A a.asks.length fe,.slice O a.outs.length wJ] 45));obtain⟨AO,Am⟩:=ai w.heap.size;have AP:Bl w W:=by rw [Y];exact (Below.refl _ w).alloc (aQm _) _
 have AB:W.heap[AO]?=some (.cells #[.string pk,.string nm,.string (az a.tool),.slice E a.env.length Kz,.slice lG a.ins.length j3,.slice A a.asks.length fe,.slice O a.outs.length wJ] 45 (0,0)):=by rw [Y,Am];exact aQt w _
 have Ao:=aa (fun af (ae:Bl W af)=>aIr af E Kz a.env om (fun p aL=>by have:=(Gs.KD p aL).1;omega) ((bz.gp AP).gp ae));have Ap:=aa (fun af (ae:Bl W af)=>ahS af lG j3 a.ins om ((Al.gp AP).gp ae));have Aq:=aa (fun af (ae:Bl W af)=>ahS af A fe a.asks om ((hA.gp AP).gp ae));have Au:=aa (fun af (ae:Bl W af)=>ahS af O wJ a.outs om ((hO.gp AP).gp ae));have BX:=aa (show cu [a.tool]=[.string (az a.tool)] from rfl);obtain⟨T,bY,Cj,Bb,yS,Bc,yT,Bd,qi,Bf⟩:=nq5 (az a.tool) a.env.length a.ins.length a.asks.length a.outs.length;rw [<- bY] at Y AB BX |-;rw [<- Bb] at Y AB Ao KD |-;rw [<- Bc] at Y AB Ap FO |-;rw [<- Bd] at Y AB Aq BN |-;rw [<- Bf] at Y AB Au zX |-;have Bi:=ic AB;have Aw:=aa (show ∀ af,Bl W af->af.cell? (ad AO 2)=some (.string T)/\af.cell? (ad AO 3)=some (.slice E Cj Kz)/\af.cell? (ad AO 4)=some (.slice lG yS j3)/\af.cell? (ad AO 5)=some (.slice A yT fe)/\af.cell? (ad AO 6)=some (.slice O qi wJ) from fun af ae=>by
  have Ab:=(ae.block AO Bi).trans AB;exact⟨aQo af _ 2 _ _ _ Ab,aQo af _ 3 _ _ _ Ab,aQo af _ 4 _ _ _ Ab,aQo af _ 5 _ _ _ Ab,aQo af _ 6 _ _ _ Ab⟩)
 obtain⟨Ca,Cb,Ce⟩:=hq3 Y AP Am;have Bn:=aa (show Mm W from abl.on AP);obtain⟨Bo,Bp,Cf,Cg,Bq,Br⟩:=hq6 BL BM BO BP AA BQ;have Ci:=aa (show ∀ Aa:World,Own (Aa.alloc (.cells #[.string T] 9)) Aa.heap.size 9 1 (some ⟨Aa.heap.size,0,none⟩) 1 1 (cu (CQ a 1)) from fun Aa=>by
  rw [show cu (CQ a 1)=[.string T] from BX.o];exact Own.lit Aa #[.string T] 9 1 1 Aa.heap.size (aQm _) dc rfl)
 clear Ak BL BM BO BP AA BQ abl h Gs bz Al hA hO bY Bb Bc Bd Bf AB AP Bi Y Am;go_enter func40,ntmps40;go_wp2_with fail;rw [<- Ca.o,<- Ce.o];have kE:=Aw;refine ng nE 12 [some _,some _,none,some _,some _,none,some _,some _,none,some _,some _,none] (abk a) (Bl W) Bl (Below.refl _ W).drew (fun j v w1 af ae h=>Exists.imp (fun A=>Exists.imp fun c h=>⟨h.1,h.2.gp ae⟩) h) ?_ (jJ:=⟨rx,rx,fun eH u af aj aK bz K aS=>?_,rx,rx,fun eH u af aj aK bz K aS=>?_,rx,rx,fun eH u af aj aK bz K aS=>?_,rx,rx,fun eH u af aj aK bz K aS=>?_,trivial⟩)
 rotate_left
 iterate 4
  focus
   simp [iY,Region.binds] at bz;refine mf rfl ?_;go_simp;first | refine (Ao.o af aj).mono ?_ | refine (Ap.o af aj).mono ?_ | refine (Aq.o af aj).mono ?_ | refine (Au.o af aj).mono ?_
   rintro e aC ⟨cO,bF,rfl,Ck,Bt⟩;exact aS _ _ ⟨cO,bF,rfl,Ck.rd⟩ (aR aj Bt) Bt
 ·intro u af aj Ad;obtain⟨Ag,Ah,Cm,Bu⟩:=show abk a 2 _ _ from Ad 2 om
  obtain⟨AV,c1,Cn,Bv⟩:=show abk a 5 _ _ from Ad 5 om
  obtain⟨iD,c2,Co,Bw⟩:=show abk a 8 _ _ from Ad 8 om
  obtain⟨cO,bF,Cs,C8⟩:=show abk a 11 _ _ from Ad 11 om
  clear Ad;simp only [Cm,Cn,Co,Cs];have A7:=aQt af (.cells #[.slice Ag (CO a.env).length Ah,.slice AV (ny a.ins).length c1,.slice iD (ny a.asks).length c2,.slice cO (ny a.outs).length bF] 24);obtain⟨J,Ae⟩:=ai (af.alloc (.cells #[.slice Ag (CO a.env).length Ah,.slice AV (ny a.ins).length c1,.slice iD (ny a.asks).length c2,.slice cO (ny a.outs).length bF] 24));have Ay:Bl W J:=by rw [Ae];exact aj.alloc aj.size _
  have AA:∀ (A:aRC) (x:List fA),Rd af 1 A x.length (cu x)->Rd J 1 A x.length (cu x):=fun A x h=>by rw [Ae];exact h.alloc _
  rw [<- Ae] at A7;have C9:ac6 J af.heap.size (CP a) (fun i=>[Ag,AV,iD,cO].getD i none) (fun i=>[Ah,c1,c2,bF].getD i 0):=by
   intro i x ah;match i,ah with
   | 0,ah=>cases ah;exact⟨aQo _ _ 0 _ _ _ A7,AA _ _ Bu⟩
   | 1,ah=>cases ah;exact⟨aQo _ _ 1 _ _ _ A7,AA _ _ Bv⟩
   | 2,ah=>cases ah;exact⟨aQo _ _ 2 _ _ _ A7,AA _ _ Bw⟩
   | 3,ah=>cases ah;exact⟨aQo _ _ 3 _ _ _ A7,AA _ _ C8⟩
   | i+4,ah=>simp [CP] at ah
  have Dp:=(Aw.o J Ay).1;obtain⟨Ct,Az,BA⟩:=hq3 Ae C9 Ay;obtain⟨g,ax⟩:=ai af.heap.size;obtain⟨Ow,CE⟩:∃ Ow:Nat->Option Addr,Ow=fun i=>[Ag,AV,iD,cO].getD i none:=⟨_,rfl⟩;obtain⟨cs,hcs⟩:∃ cs:Nat->Nat,cs=fun i=>[Ah,c1,c2,bF].getD i 0:=⟨_,rfl⟩;rw [<- ax,<- CE,<- hcs] at Az;obtain⟨Cv,CJ⟩:=ai (CP a);rw [<- CJ] at Az Bo Bp Br;have Cw:=aa ax;clear A7 AA C9 aj Ay Ae CE hcs Bu Bv Bw C8 Ao Ap Aq Au Aw ax CJ;go_wp2_with (first
   | (rw [<- Ct.o,<- Cw.o])
   | fail)
  go_loopg [4,25] 4 (fun gk Cz DD wr=>∃ (k j:Nat) (AV:aRC) (c1:Nat),k+gk=4/\j=k+1/\DD = .int .i64 k/\Cz = .slice AV j c1/\Own wr J.heap.size 9 1 AV j c1 (cu (CQ a j))/\Bl J wr);case atStart=>exact⟨0,1,_,_,om,rfl,rfl,rfl,Ci.o J,gK⟩
  case round =>
   obtain⟨k,j,CK,CL,hk,aD,rfl,rfl,Af,AJ⟩:=hrel;have BF:=aa aD;have Dq:j<=5:=om;clear aD;by_cases DF:k < 4
   ·have DL:(k:Int) < 4:=om;have Dr:(0:Int)<=k:=om;obtain⟨x,ah⟩:∃ x,Cv[k]?=some x:=⟨_,aQp (by rw [Br.o];exact DF)⟩;have CS:CQ a (j+1)=CQ a j++[nG x]:=by rw [BF.o];exact Bp.o k x ah
    obtain⟨DN,DR⟩:=Bo.o k x ah;obtain⟨DW,CU⟩:=(Az.o.below AJ) k x ah;have AL:=auP wr (Ow k) (cs k) x om CU ((Bn.o.on BA.o).on AJ) om;have DX:=AJ.size;obtain⟨R,aK⟩:=ai (az (nG x));rw [<- aK] at AL;obtain⟨n,A7⟩:=ai x.length;rw [<- A7] at AL DW;obtain⟨DY,BG⟩:=ai (cu (CQ a j));rw [<- BG] at Af;obtain⟨DZ,BH,Da,Db⟩:=hq4 CS AJ aK BG;clear ah CS DN DR CU aK A7 BG AJ;go_wp2_with (first
     | (go_at_call 63; refine AL.mono ?_;rintro e BI ⟨rfl,AZ⟩;have BJ:=Af.below AZ (aQm _);have Dt:=AZ.size;have BK:=aa AZ;clear AL Af AZ)
     | (at_builtin;have _t:=BJ;go_must ((with_reducible refine ve 9 (.string ⟨#[]⟩) 1 16 underlying24 ahf rfl J.heap.size CK j CL DY (BJ.alloc _) 1 [.string R] (.slice (some ⟨BI.heap.size,0,none⟩) 1 1) (Src.slice underlying24 (Rd.one BI _ _)) ayL ?_ ?_ ?_ ?_ ?_);exact mO;omega;(simp;omega);exact⟨rfl,rfl⟩;intro Dc De Df Dg Dh Dx;clear BJ;have Dk:Bl J Df:=(((BH.o.trans (BK.o.mono DX))).alloc om _).grown Dh (by simp;omega) (fun g e=>(_t.block g e).1))))
    go_roundg (gk - 1);case rel=>exact⟨k+1,j+1,Dc,De,om,by have:=BF.o;omega,by go_num,rfl,by rw [DZ.o,<- aol,<- Db.o,<- Da.o];exact Dg,Dk⟩
    case measure=>omega
   ·have Dl:k=4:=om;have DL:¬ (k:Int) < 4:=om;obtain rfl:j=5:=by have:=BF.o;omega
    have Ai:=Cf.o 5 om om;have CV:=Af.rd;have CW:(nG (CQ a 5)).length<=900000000:=by rw [Bq.o];have:=Cg.o;omega
    have AL:=auP wr CK CL (CQ a 5) (by rw [Ai];omega) (by rw [Ai];exact CV) ((Bn.o.on BA.o).on AJ) CW;rw [Ai,Bq.o] at AL;have BH:=aa AJ;clear CV CW Af Ai AJ Dl;go_wp2_with (first
     | (go_at_call 63; refine AL.mono ?_;rintro e BI ⟨rfl,AZ⟩;have BK:=aa AZ;clear AL AZ))
    go_ret;have eP:=aR Cb.o BA.o;have Dm:=aR eP BH.o;exact⟨rfl,aR Dm BK.o⟩
end
end
section
open Go.RowKit Go.Shelf
theorem aIC (w:aRB) (L:vv) (a:kI) (h:KC w L a) (Gs:XR a) (abl:Mm w) :
  CB 117 #[.agg (nz L a)] w (.agg (bO (bN.sum (vU a))).toArray):=by
 have BA:(vU a).length<=900000000:=(alA Gs).text;obtain⟨uJ,J⟩:=ai (w.alloc (.cells (nz L a) 45));have Aa:Bl w uJ:=by rw [J];exact (Below.refl _ w).alloc (aQm _) _
 have Ab:w.heap.size+1=uJ.heap.size:=by rw [J];simp
 have Ad:uJ.heap[w.heap.size]?=some (.cells (nz L a) 45 (0,0)):=by rw [J];exact aQt w _
 have M:=uH.start uJ;obtain⟨W,AJ⟩:=ai (uJ.alloc (.cells (bO (List.replicate 32 0)).toArray 59));rw [<- AJ] at M;have Y:Bl w W:=Aa.trans (M.below.mono om);have A7:=auZ W L a (h.below Y) Gs (abl.on Y);have Ae:W.heap[w.heap.size]?=some (.cells (nz L a) 45 (0,0)):=(M.below.block _ om).trans Ad;have Af:∃ V:List Value,V=(nz L a).toList/\V.length=7:=⟨_,rfl,rfl⟩;have AL:∀ j,(nz L a)[0+j]?=(nz L a).toList[j]?:=aAO L a;have AO:(nz L a).toList.toArray=nz L a:=by simp
 obtain⟨AP,Ag⟩:=ai (nz L a);rw [<- Ag] at J Ae A7 Af AL AO |-;obtain⟨V,AV,Ah⟩:=Af;have BF:=aa (show ∀ j,j < V.length->AP[0+j]?=V[j]? from fun j _=>by rw [AL j,AV]);have BG:=aa (show V.toArray=AP from (congrArg List.toArray AV).trans AO);have BH:=aa (show Sz 45 V.length from by rw [Ah];exact ac7);have BI:=aa Ab;have Ai:=aa (show (w.alloc (.cells AP 45)).alloc (.cells (bO (List.replicate 32 0)).toArray 59)=W from by rw [AJ,J]);have Ak:=aa Y;have BJ:=aa M;obtain⟨s,hs⟩:=ai (az (vU a));have BP:s.size<=900000000:=by rw [hs,iM];omega
 have Al:s.data.toList=vU a:=by rw [hs,gU]
 rw [<- hs] at A7;obtain⟨S,AA⟩:=ai (bN.sum s.data.toList);have Am:S.length=32:=by rw [AA];exact yB _
 have BK:=aa AA;have AB:=aa Am;have Ao:S=bN.sum (vU a):=by rw [AA,Al]
 rw [<- Ao];clear abl Aa Ad h Gs Ag AV Ah AL AO hs Al BA Am AJ J Y Ae M Ab Ao AA;go_enter func117,ntmps117;go_wp2_with (first
  | ((with_reducible refine QE w.heap.size 0 _ _ _ (heap_alloc2_old w _ _) V BF.o _ underlying45 BH.o ?_ ?_);exact⟨rfl,rfl⟩;rw [BG.o])
  | (go_at_call 40; refine (Ai.o ▸ A7).mono ?_;rintro e w1 ⟨rfl,I⟩;have Ap:=aa (show Bl W w1 from Ai.o ▸ I);have Aq:=Rd.one w1 (.string s) 9; clear I A7)
  | (go_at_call 33; refine (ahF _ _ 1 1 [s] Aq mO (by rw [ac8,wG];omega)).mono ?_;rw [ac8,<- BK.o];rintro e af ⟨rfl,AZ⟩;have I:=Ap.o.alloc Ap.o.size (.cells #[.string s] 9);have Au:=(BJ.o.ext I).ext AZ;have Aw:=(aR Ak.o I).trans (AZ.mono (aQn Ak.o.size I.size));obtain⟨BL,Ay,Az⟩:=aAP w uJ af S AB.o BI.o Au Aw;have BM:=aa Ay;have BO:=aa Az;clear AZ Au Aw Ay Az I Aq)
  | (refine aoh (fun aC=>aC=af) rfl ?_;rintro aC rfl;(with_reducible refine yz (w.heap.size+1) 0 (.agg (bO S).toArray) (bO S) (qD _) _ _ BL (zk AB.o) (V3 AB.o) (G8 _) ?_ ?_);exact⟨rfl,rfl⟩))
 exact aQx (v:=.agg (bO S).toArray) (aQO rfl _ _ _ 59 _ (0,0) _ rfl BM.o underlying59 rfl (by rw [List.size_toArray];exact zk AB.o)) rfl ⟨rfl,BO.o⟩
end
section
open Go.Maps Go.RowKit Go.Shelf
structure Dv where
 X:Nat
 zH:Nat
 jA:Nat
 cK:xU
 S:uA
 T:Nat
 B0:Nat
def Dv.C (l:Dv) (k:Nat):Prop:=k=l.X\/k=l.zH\/k=l.jA\/k=l.S.ja\/k=l.S.gs\/k=l.S.lJ
abbrev Cq (l:Dv):=kY l.T l.C
structure dL where
 k:jo
 keep:Bool
 dN:Nat->Prop
 lX:bI
 met:List ak
 l:Dv
def dL.X (c:dL):List kI:=c.k.bZ.map (·.2)
noncomputable def dL.W (c:dL):pV:=nQ c.k.files c.X
def dL.n (c:dL):Nat:=c.k.bZ.length
def dL.gm (c:dL):Nat->List UInt8:=NC c.X
noncomputable def dL.df (c:dL):Nat->lI:=XN c.k.files c.X
structure dL.Fit (c:dL):Prop where
 work:abg c.k.files c.X
 kV:U5 c.k
 env:∀ a∈c.X,Gh ⟨eF,a.env⟩
 ib:∀ i,c.dN i->i < c.n
 wide:∀ x∈c.k.bZ,XR x.2
structure dL.Ok (c:dL):Prop extends dL.Fit c where
 apart:IK c.met
 few:c.met.length<=1000
 keys:∀ i j,i < c.n->j < c.n->i≠j->c.gm i≠c.gm j
 outs:∀ i,i < c.n->∀ x∈(bE c.W i).outs,x.2∈c.met
 low:∀ k,c.l.C k->c.l.B0<=k/\k < c.l.T
 base:c.l.B0<=c.l.T/\c.l.S.B<=c.l.T
 old:c.l.S.jN < c.l.T/\c.l.S.jO < c.l.T
 ne:c.l.X≠c.l.zH/\c.l.X≠c.l.jA/\c.l.zH≠c.l.jA
def AR (l:aRG):List Value:=l.map fun (i:Nat)=>Value.int .i64 i
def yu (σ:bI) (n:Nat):List Value:=(List.range n).map fun i=>Value.bool (σ.begun i)
def uU (g:Option iN) (L:lK):List Value:=match g with
 | some o=>jm o L
 | none=>iG
def uV (σ:bI) (OL:Nat->lK) (n:Nat):List Value:=cz (fun i=>uU (σ.got i) (OL i)) (List.range n)
def Gz (c:dL) (cZ:aRC) (rc:Nat) (kQ:aRC) (jy xW alF:Nat):List Value :=
 rA c.k c.l.cK c.keep++[Et c.l.S,.slice (some ⟨c.l.zH,0,none⟩) c.n c.n,.slice (some ⟨c.l.jA,0,none⟩) c.n c.n,.slice cZ xW rc,.slice kQ alF jy,.slice none 0 0]
structure wB (c:dL) (w:aRB) (σ:bI) (aW:aRG) (aI:aRI):Prop where
 row:∃ cZ rc kQ jy,aM w c.l.X (Gz c cZ rc kQ jy σ.dZ.length aW.length) 78 /\ Own w c.l.T 3 1 cZ σ.dZ.length rc (AR σ.dZ)/\Own w c.l.T 3 1 kQ aW.length jy (AR aW)/\∀ q,bV kQ=some q->some q≠bV cZ
 begun:aM w c.l.zH (yu σ c.n) 4
 outs:∃ OL:Nat->lK,aM w c.l.jA (uV σ OL c.n) 63 /\ ∀ i o,σ.got i=some o->nC w c.l.T o (OL i)/\∀ q,bV (OL i).B=some q->aI q
 src:rY w c.l.S aI c.n c.gm c.df c.met σ.bG σ.has
 work:∀ W:World,(∀ k,k < c.l.T->¬ c.l.C k->W.heap[k]?=w.heap[k]?)->wT W c.k c.l.cK
 home:vM w c.l.B0
 size:c.l.T<=w.heap.size
theorem wB.all {c:dL} (h:wB c w σ aW aI) (hc:c.Ok) (ae:Bl w w'):wB c w' σ aW aI:=by obtain⟨cZ,rc,kQ,jy,h1,I,Y,aT⟩:=h.row;obtain⟨OL,A7,J⟩:=h.outs;exact⟨⟨cZ,rc,kQ,jy,h1.all ae,I.below ae (aQm _),Y.below ae (aQm _),aT⟩,h.begun.all ae,⟨OL,A7.all ae,fun i o e=>⟨(J i o e).1.all ae,(J i o e).2⟩⟩,h.src.all ae,fun W AA=>h.work W fun k h1 I=>(AA k h1 I).trans (ae.block k (aQq h1 h.size)),h.home.below (ae.mono (aQn hc.base.1 h.size)),aQn h.size ae.size⟩
structure j6 (c:dL) (w:aRB) (U:aRG) (σ:bI) (aW:aRG) (aI:aRI):Prop where
 fG:wB c w σ aW aI
 inv:vZ c.W c.dN c.lX U σ
 log:AQ c.lX σ aW
 kept:∀ i,σ.bG i=true->Bh c.W σ i
theorem j6.all {c:dL} (h:j6 c w U σ aW aI) (hc:c.Ok) (ae:Bl w w'):j6 c w' U σ aW aI:=⟨h.fG.all hc ae,h.inv,h.log,h.kept⟩
structure Step (c:dL) (w:aRB) (U:aRG) (σ:bI) (aW:aRG) (aI:aRI) (w':aRB) (σ':bI) (tk':aRG) (fB:aRI):Prop where
 st:j6 c w' U σ' tk' fB
 nP:Cq c.l w w'
 grow:JX σ aW σ' tk'
 wC:∀ q,fB q->aI q\/w.heap.size<=q
theorem Step.refl {c:dL} (h:j6 c w U σ aW aI):Step c w U σ aW aI w σ aW aI:=⟨h,kY.refl _,JX.refl _ _,fun _ h=>.inl h⟩
theorem Step.low {c:dL} {tk':aRG} {fB:aRI} (h:Step c af U σ aW aI w' σ' tk' fB) (ae:Bl w af):Step c w U σ aW aI w' σ' tk' fB:=⟨h.st,(kY.gT ae).trans h.nP,h.grow,fun q I=>(h.wC q I).imp_right fun h=>aQn ae.size h⟩
theorem Step.high {c:dL} {tk':aRG} {fB:aRI} (hc:c.Ok) (h:Step c w U σ aW aI af σ' tk' fB) (ae:Bl af w'):Step c w U σ aW aI w' σ' tk' fB:=⟨h.st.all hc ae,h.nP.trans (kY.gT ae),h.grow,h.wC⟩
theorem Step.trans {c:dL} {aC:aRB} {bQ Eu:bI} {gN Sw:aRG} {eY Fs:aRI} (h:Step c w U σ aW aI af bQ gN eY) (k:Step c af U bQ gN eY aC Eu Sw Fs):Step c w U σ aW aI aC Eu Sw Fs:=⟨k.st,h.nP.trans k.nP,h.grow.trans k.grow,fun q I=>by
 rcases k.wC q I with h1 | h1
 ·exact h.wC q h1
 ·exact .inr (aQn h.nP.size h1)⟩
theorem abm:∀ (N:Nat) (l:aRG),l.Nodup->(∀ x∈l,x < N)->l.length<=N
 | 0,[],_,_=>aQm _
 | 0,a :: l,_,h=>by have:=h a sp;omega
 | N+1,l,I,h=>by
  by_cases hm:N∈l
  ·have h1:=abm N (l.erase N) (I.erase N) fun x ah=>by
    have J:=h x (List.mem_of_mem_erase ah);have M:x≠N:=fun e=>by
     subst e;exact absurd ah (by rw [I.mem_erase_iff];simp)
    omega
   rw [List.length_erase_of_mem hm] at h1;omega
  ·have:=abm N l I fun x ah=>by
    have J:=h x ah;have M:x≠N:=fun e=>hm (e ▸ ah);omega
   omega
section
variable {c:dL} {w:aRB} {U:aRG} {σ:bI} {aW:aRG} {aI:aRI}
theorem ND (c:dL) (ay:i < c.n):∃ x:iP,c.k.bZ[i]?=some x/\c.X.getD i mZ=x.2/\c.W.act i=IM x.2:=by
 refine⟨c.k.bZ[i]'ay,aQp ay,?_,?_⟩
 ·rw [List.getD_eq_getElem?_getD,dL.X,List.getElem?_map,List.getElem?_eq_getElem ay];rfl
 ·show IM (c.X.getD i mZ)=_;rw [List.getD_eq_getElem?_getD,dL.X,List.getElem?_map,List.getElem?_eq_getElem ay];rfl
theorem XV (c:dL) (p:ak):Pd c.k.bZ p=match c.W.kK p with | some j=>(j:Int) | none=>-1:=by
 show _=match (c.k.bZ.map (·.2)).findIdx? (fun a=>a.outs.contains p) with | some j=>(j:Int) | none=>-1
 rw [List.findIdx?_map];rfl
theorem JZ (c:dL) (h:c.W.kK p=some j):j < c.n:=by obtain⟨aD,_⟩:=aRy.1 h;simpa [dL.X,dL.n] using aD
theorem au9 (hc:c.Fit) (h:yM c.W c.dN i):i < c.n:=yM.least (P:=(· < c.n)) hc.ib (fun _ _ _ hw=>by
 obtain⟨_,_,_,_,_,h⟩:=hw;exact JZ c h) h
theorem j6.few (h:j6 c w U σ aW aI) (hc:c.Ok):σ.dZ.length+aW.length<=10:=by have:=abm c.n _ h.log.nodup fun i I=>au9 hc.toFit (h.inv.reach i (h.log.begun i I));rw [List.length_append] at this;exact aQn this hc.kV.nN
theorem aIG (c:dL) (i:Nat):(c.df i).key=c.gm i:=rfl
theorem abn (c:dL) (i:Nat):(c.gm i).length=32:=yB _
theorem afF (hc:c.Ok) (ay:i < c.n):(c.df i).reads.length<=500/\(c.df i).outs.length<=200:=by
 have M:i < c.X.length:=by simpa [dL.X,dL.n] using ay
 obtain⟨s,rs,aL,hs⟩:=afq (IP hc.work.small).fin i;have h1:=Sr hc.work M;refine⟨?_,by show ((bE c.W i).outs.map uT).length<=200;rw [List.length_map];exact h1⟩;show (bE c.W i).reads.length<=500;have J:=(afz hc.work M aL).2.2;rcases afr (IP hc.work.small).fin aL hs with ⟨Y,I⟩ | ⟨p,_,_,I⟩ | ⟨p,_,_,I⟩
 ·have:=(IP hc.work.small).reads i s rs aL Y;show (bE (nQ c.k.files c.X) i).reads.length<=500;rw [I,this];exact J
 ·show (bE (nQ c.k.files c.X) i).reads.length<=500;rw [I];exact J
 ·show (bE (nQ c.k.files c.X) i).reads.length<=500;rw [I];exact J
end
structure LJ where
 bu:Nat
 KA:Option Addr
 iq:Nat
def NF (c:dL) (l:LJ) (i:Nat) (x:iP) (Ch:Nat):List Value:=[Value.pointer (some ⟨c.l.X,0,none⟩),.int .i64 i]++vF x++[.slice l.KA Ch l.iq,.slice none 0 0]
structure Cr (c:dL) (w:aRB) (l:LJ) (i:Nat) (x:iP) (bL:List dz):Prop where
 row:aM w l.bu (NF c l i x bL.length) 158
 far:c.l.T<=l.bu
 known:Own w c.l.T 80 3 l.KA bL.length l.iq (cz iy bL)
theorem Cr.nP {c:dL} {l:LJ} {x:iP} {bL:List dz} (h:Cr c w l i x bL) (hk:Cq c.l w w'):Cr c w' l i x bL:=⟨h.row.nP hk h.far dc,h.far,h.known.nP hk (aQm _) dc⟩
theorem Cr.all {c:dL} {l:LJ} {x:iP} {bL:List dz} (h:Cr c w l i x bL) (ae:Bl w w'):Cr c w' l i x bL:=h.nP (kY.gT ae)
def rZ (σ:bI) (n:Nat):Nat:=((List.range n).filter fun i=>!σ.begun i).length
theorem afG {p q:Nat->Bool} (h:∀ i,p i=true->q i=true):∀ l:List Nat,(l.filter p).length<=(l.filter q).length
 | []=>aQm _
 | a :: l=>by
  have I:=afG h l;rw [List.filter_cons,List.filter_cons];by_cases aL:p a=true
  ·rw [if_pos aL,if_pos (h a aL)];simp only [List.length_cons];omega
  ·rw [if_neg aL];split
   ·simp only [List.length_cons];omega
   ·exact I
theorem afH (n:Nat) (h:∀ i,σ.begun i=true->σ'.begun i=true):rZ σ' n<=rZ σ n:=afG (fun i I=>by
 cases e:σ.begun i with
 | false=>rfl
 | true=>rw [h i e] at I;cases I) _
theorem abo {n:Nat} (ay:i < n) (ae:σ.begun i=false):rZ (σ.push i) n < rZ σ n:=by
 unfold rZ;have key:∀ l:List Nat,i∈l->l.Nodup->(l.filter fun j=>!(σ.push i).begun j).length < (l.filter fun j=>!σ.begun j).length:=by
  intro l;induction l with
  | nil=>intro h;cases h
  | cons a l Y =>
   intro h A7;rw [List.filter_cons,List.filter_cons];have hle:=afG (p:=fun j=>!(σ.push i).begun j) (q:=fun j=>!σ.begun j) (fun j aD=>by
    cases e:σ.begun j with
    | false=>rfl
    | true=>simp [bI.push,e] at aD) l
   by_cases I:a=i
   ·subst I;rw [if_neg (by simp [bI.push]),if_pos (by simp [ae])];simp only [List.length_cons];omega
   ·have:=Y (by simpa [Ne.symm I] using h) (List.nodup_cons.1 A7).2;by_cases J:σ.begun a=true
    ·rw [if_neg (by simp [bI.push,J]),if_neg (by simp [J])];exact this
    ·have M:σ.begun a=false:=by simpa using J
     rw [if_pos (by simp [bI.push,I,M]),if_pos (by simp [M])];simp only [List.length_cons];omega
 exact key _ (aQK.2 ay) List.nodup_range
end
end Go.Proofs.YtjkinjbkknanbaaGreatDoor
