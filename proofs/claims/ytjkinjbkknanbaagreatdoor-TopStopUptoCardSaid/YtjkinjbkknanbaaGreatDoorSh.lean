/- Ph -/
import Derived.Test.YtjkinjbkknanbaaGreatDoorSg
set_option maxRecDepth 100000
set_option maxHeartbeats 8000000
set_option linter.unusedSimpArgs false
set_option linter.unusedVariables false
namespace Go.Proofs.YtjkinjbkknanbaaGreatDoor
open Go.Proofs.Tryz
variable {a:lv} {B j g4 q c b g aO k base jP je i r9:Nat} {iJ:Int} {iW V xs:aRW} {v:Value} {w w' aH wr af W':aRU} {M:fA ak} {A:aRV} {x p:ak} {t:TypeId} {aF:aR1} {bF:Nat->Bool} {L:qw} {met:List ak} {has:ak->Bool} {U aW:aRZ} {σ σ':bE}
section
open Go.Maps Go.RowKit Go.Shelf
def iN:List Value:=[.int .i64 0,.int .i64 0,.slice none 0 0,.slice none 0 0]
theorem aum (k y:Int) (A:aRV) (n c:Nat):prog.built 63 [(0,.int .i64 k),(1,.int .i64 y),(3,.slice A n c)]=some #[.int .i64 k,.int .i64 y,.slice none 0 0,.slice A n c]:=kr
theorem afQ {P:Program} {W:aRU} {o:Oper} {a:Act} {K:Act->World->Prop} {Q:aRX} {t0:TypeId} {pq l7 uo:Operand} {i0 i1 i2:Nat} (v0 v1 v2:Value) (cells:Array Value) (hf:P.built t0 [(i0,v0),(i1,v1),(i2,v2)]=some cells) (aG:o.op = .build t0 #[(i0,pq),(i1,l7),(i2,uo)]) (ah:a.eval pq=v0/\a.eval l7=v1/\a.eval uo=v2) (h:K (a.put o.dst (.agg cells)) W):o.wp P a W K Q :=
 wp_build t0 _ aG (by simp [ah,hf]) (by simpa [ah,hf] using h)
def X7 (B F:Nat) (iJ:Int) (n:Nat) (iW:aRW) (j:Nat) (v:Value) (w:aRU):Prop :=
 (j=8->∃ A c,v = .slice A n c/\Own w B 135 34 A n c iW)/\(j=9->∃ A c,v = .agg #[.int .i64 2,.int .i64 iJ,.slice none 0 0,.slice A n c]/\Own w B 135 34 A n c iW) /\
 (j=10->∃ g,v = .pointer (some ⟨g,0,none⟩)/\aM w g iN 63 /\ F<=g)
theorem X7.keep {F:Nat} {n:Nat} (h:X7 B F iJ n iW j v w) (ae:Below w.heap.size w w'):X7 B F iJ n iW j v w' :=
 ⟨fun e=>(by obtain⟨A,c,I,J⟩:=h.1 e;exact⟨A,c,I,J.below ae (aQF _)⟩),fun e=>(by obtain⟨A,c,I,J⟩:=h.2.1 e;exact⟨A,c,I,J.below ae (aQF _)⟩),fun e=>(by obtain⟨g,I,J,M⟩:=h.2.2 e;exact⟨g,I,J.all ae,M⟩)⟩
theorem aHM {W:aRU} {m n:Nat} (h:eU W prog 9 encS m n M) (hl:M.length<=1000) :
  Calls prog 99 #[.func (.func 152) #[] #[pp W.heap.size 0]] (W.alloc (.cells #[.map (some m)] 189)) fun e w'=>∃ A c,e = .returned (.slice A M.length c)/\Own w' (W.heap.size+1) 9 1 A M.length c (cB (M.map (·.1)))/\Bl W w':=by
 have AA:=h.AL (string_keyed underlying9);refine (aQZ.1 (Tryz.slices_Sorted_keys_99_100 m n (mapD M) (Ol encS) W h (by rw [TS];unfold maxLen;omega) (by rw [TS];omega))).mono ?_;rintro e w' ⟨v,AB,rfl,I,J,AQ,ae⟩;rw [aoE] at I;have AP:AB.length=M.length:=by rw [I.length_eq,List.length_map]
 rw [aoG AA I,AP] at J;obtain⟨il,c2,rfl,Y⟩:=aik J;have hs:(W.alloc (.cells #[.map (some m)] 189)).heap.size=W.heap.size+1:=by simp
 rw [hs] at Y ae;exact⟨il,c2,rfl,Y,((Below.refl _ W).alloc (aQF _) _).trans (ae.mono om)⟩
structure X8 (w aH wr:aRU) (g4:Nat) (iJ:Int) (M:fA ak) (iW:aRW) (A9:aRV) (n c9:Nat) (il:aRV) (q:Nat) (A:aRV) (c:Nat):Prop where
 X9:Bl aH wr
 row:aM wr g4 [.int .i64 1,.int .i64 iJ,.slice A q c,.slice A9 n c9] 63
 outs:Own wr w.heap.size 65 2 A q c (cK fI (M.take q))
 reads:Own wr w.heap.size 135 34 A9 n c9 iW
 res:aM wr w.heap.size iN 63
 keys:∃ c2,Own wr w.heap.size 9 1 il M.length c2 (cB (M.map (·.1)))
theorem X8.next {bN:aRU} {A9:aRV} {n c9:Nat} {il:aRV} {fZ:aRV} {fT:Nat} {x:ak × ak} (h:X8 w aH wr g4 iJ M iW A9 n c9 il q A c) (hw:aH.heap.size=w.heap.size+1) (av:aH.heap.size<=g4)
  (ah:M[q]?=some x) (hm:nN wr w.heap.size 65 2 A q c (cK fI (M.take q)) af) (aG:Own af w.heap.size 65 2 fZ (q+1) fT (cK fI (M.take q)++fI x)) (ax:aM bN g4 [.int .i64 1,.int .i64 iJ,.slice fZ (q+1) fT,.slice A9 n c9] 63) (az:fV g4 af bN):X8 w aH bN g4 iJ M iW A9 n c9 il (q+1) fZ fT:=by
 have I:=hm.row h.row (h.outs.ne h.row dc).symm;obtain⟨c2,hk⟩:=h.keys;refine⟨oO (h.X9.grown hm.1 h.X9.size fun b e=>by
  have h1:=(h.outs.block b e).1;have Y:b≠w.heap.size:=fun J=>h.outs.ne h.res dc (by rw [e,J]);omega) az av,ax,?_,gX (XI h.reads h.outs dc hm.1) I dc az,(hm.row h.res (h.outs.ne h.res dc).symm).dG az om,c2,gX (XI hk h.outs dc hm.1) I dc az⟩;have:=gX aG I dc az;rw [List.take_add_one,ah,show cK fI (M.take q++(some x).toList)=cK fI (M.take q)++fI x by simp [cK]];exact this
theorem X8.aHN {A9:aRV} {n c9:Nat} {il:aRV} (h:X8 w aH wr g4 iJ M iW A9 n c9 il q A c) (hw:aH.heap.size=w.heap.size+1) (hm:nN wr w.heap.size 65 2 A q c V af):Bl aH af :=
 h.X9.grown hm.1 h.X9.size fun b e=>by
  have h1:=(h.outs.block b e).1;have J:b≠w.heap.size:=fun I=>h.outs.ne h.res dc (by rw [e,I]);omega
theorem aun {l:oh} {P:nY} {ins asks:List ak} {b:dC} (h:iF w l P ins asks b) (gD:b.over=true) (vv:b.wrote.length<=1000) (xR:b.reads.length<=1000) (jV:∀ x∈b.wrote,x.1.length<=1100000) :
  Calls prog 95 #[pp l.X 0] w fun e w'=>∃ L:kI,e = .returned (.tuple #[.agg (jd b.out L).toArray,.bool true])/\ny w' w.heap.size b.out L/\Bl w w':=by
 obtain⟨aH,AZ⟩:=ai (w.alloc (.cells iN.toArray 63));have Am:=gQ AZ;have CG:=kY AZ;have CJ:aH.heap.size=w.heap.size+1:=by rw [AZ];simp
 obtain⟨X,aX,bV,BP,rc,CK,m,hm,n,Aa,iW,BC⟩:=nq6 l.X l.bV l.rc l.m b.reads.length (cK iq b.reads);obtain⟨iJ,BR⟩:∃ k:Int,k=b.why:=⟨_,rfl⟩;have Ac:=fun W (ae:Below aH.heap.size aH W)=>show W.cell? (ad X 7)=some (.int .i64 iJ)/\W.cell? (ad X 4)=some (.slice bV n rc)/\W.cell? (ad X 6)=some (.bool true)/\W.cell? (ad X 3)=some (.map (some m)) by
  have ah:=(h.below (aU Am ae)).row;rw [aX,BP,CK,hm,Aa,BR,<- gD];exact⟨ah.cell 7,ah.cell 4,ah.cell 6,ah.cell 3⟩
 have CL:=fun W (ae:Below aH.heap.size aH W)=>aet W bV n rc iW (by rw [BP,Aa,BC];exact (h.below (aU Am ae)).reads.rd) (by rw [BC];exact aaj FZ _) om;have CQ:=fun W (ae:Below aH.heap.size aH W)=>show eU W prog 9 encS m b.wrote.length b.wrote by rw [hm];exact (h.below (aU Am ae)).map
 obtain⟨Ao,CS,Db,BS⟩:=Ac aH (Below.refl _ _);have CU:iN.toArray=#[.int .i64 0,.int .i64 0,.slice none 0 0,.slice none 0 0]:=rfl;rw [CU] at AZ;rw [<- aX];obtain⟨Ad,Dc,BU,Ap,CV,Ae,BD,CW,BX,BZ,CY⟩:=hq11 Ac CL CQ Am CG CJ Aa BC BR vv jV;have CZ:=aa (h.map.AL (string_keyed underlying9));have De:=AZ.symm;clear h gD vv xR jV Am CG CJ aX BP CK hm Aa BC BR Ac CL CQ AZ CU;go_enter func95,ntmps95;go_wp2_with fail;clear Ao CS Db BS De;have kR:=Ad;refine nz nH 11 [some (pp X 0),some (pp X 0),some (pp X 7),some (.int .i64 iJ),some (pp X 0),some (pp X 0),some (pp X 4),some (.slice bV n rc),none,none,none] (X7 w.heap.size aH.heap.size iJ n iW) (Bl aH) Bl ((Below.refl _ aH).drew) (fun j v w1 af ae h=>h.keep ae) ?_ (jI:=?_)
 ·intro u af aj Af;obtain⟨A9,c9,Ca,Cc⟩:=(show X7 w.heap.size aH.heap.size iJ n iW 9 (u 9) af from Af 9 om).2.1 rfl;obtain⟨g4,Ce,AB,Cf⟩:=(show X7 w.heap.size aH.heap.size iJ n iW 10 (u 10) af from Af 10 om).2.2 rfl;clear Af;simp only [Ca,Ce];obtain⟨BF,Cg,BG,AQ⟩:=hq4 aj Cc AB Cf;clear aj Cc AB Cf Ca Ce;have Cj:=fun (a b c d:Value)=>show (prog.info? 63).map (·.size)=some [a,b,c,d].length by exact kr
  have Aq:=Cj (.int .i64 2) (.int .i64 iJ) (.slice none 0 0) (.slice A9 n c9);have Bb:[Value.int .i64 2,.int .i64 iJ,.slice none 0 0,.slice A9 n c9].length=iN.length:=rfl;have Bc:∀ v∈[Value.int .i64 2,.int .i64 iJ,.slice none 0 0,.slice A9 n c9],v.oneCell'=true:=by simp [Value.oneCell']
  by_cases hy:iJ=0
  ·have Dg:(iJ == 0)=true:=by rw [hy];rfl
   have Dh:=aa hy;have Ag:=aa (show b.out=⟨1,0,b.wrote,b.reads⟩ by rw [dC.out,if_pos (by have:=BX.o;omega)]);obtain⟨M,aj⟩:=ai b.wrote;rw [<- aj] at BU BZ CY CZ Ag;obtain⟨N,BH⟩:=ai M.length;have Ah:=aa BH;have Ck:=aa (fun (W:aRU)=>aQZ.1 (Tryz.maps_Keys_100 (some m) W));have Cm:=aa (fun W (ae:Below aH.heap.size aH W)=>by
    have:=aHM (BU.o W ae) BZ.o;rw [<- BH] at this;exact this);have Ej:N<=1000:=by rw [BH];exact BZ.o
   have Di:[Value.int .i64 2,.int .i64 iJ,.slice none 0 0,.slice A9 n c9].set 0 (.int .i64 1)=[.int .i64 1,.int .i64 iJ,.slice none 0 0,.slice A9 n c9]:=rfl;have Dj:Sz 3 1:=kr;have Dk:0+1<=[Value.int .i64 2,.int .i64 iJ,.slice none 0 0,.slice A9 n c9].length:=by simp
   have El:(Value.int .i64 1).cells.toList=[.int .i64 1]:=rfl;have Dp:(Value.int .i64 1).oneCell'=true:=rfl;clear hy aj BH;go_wp2_with (first|((with_reducible refine Jn [.int .i64 2,.int .i64 iJ,.slice none 0 0,.slice A9 n c9] BG.o Aq Bb Bc ?_);intro cO AB AA;have AU:=oO BF.o AA AQ.o;obtain⟨Ao,_,_,_⟩:=Ad.o cO AU;obtain⟨BK,Be,Bf⟩:=hq3 AB AA AU;have BL:=aa ((CV.o.all BF.o).dG AA (by have:=Ae.o;have:=AQ.o;omega));clear AB AA AU)|((with_reducible refine A8 0 (.int .i64 1) BK.o Dj Dk Dp Di ?_);intro Bg Co Bh;have Bi:=oO Bf.o Bh AQ.o;clear Ao;obtain⟨_,_,_,BS⟩:=Ad.o Bg Bi;obtain⟨Bj,Cr,Bn⟩:=hq3 Co Bh Bi;clear Co Bh Bi)|(go_at_call 100; refine (Ck.o Bg).mono ?_;rintro e w1 ⟨rfl,rfl⟩;clear BS)|(go_at_call 99; refine (Cm.o Bg Bn.o).mono ?_;rintro e Dq ⟨il,c2,rfl,Ak,Ct⟩;have Dr:=aa Ak;have BN:=aa Ct;clear Ak Ct));clear Cm Ck;go_loopg [36] N (fun gk Dt wr=>∃ q:Nat,q+gk=N/\Dt = .int .i64 q/\∃ A c,X8 w aH wr g4 iJ M iW A9 n c9 il q A c);case atStart =>
    exact⟨0,om,rfl,none,0,aU Bn.o BN.o,Bj.o.all BN.o,Own.nil _ _ _ _,(gX (gX Cg.o BG.o dc Be.o) BK.o dc Cr.o).below BN.o (aQF _),(BL.o.dG Cr.o (by have:=Ae.o;have:=AQ.o;omega)).all BN.o,_,by have:=Dr.o.mono (base':=w.heap.size) (by have:=Ap.o.size;have:=Bn.o.size;omega);rw [Ah.o] at this;exact this⟩
   case round =>
    obtain⟨q,Em,rfl,A,c,Y⟩:=hrel;by_cases Du:q < N
    ·have Dv:(q:Int) < N:=om;have En:(0:Int)<=q:=om;obtain⟨x,ah⟩:∃ x,M[q]?=some x:=⟨_,aQI (by rw [<- Ah.o];exact Du)⟩;have Cu:=aHK CZ.o ah;have Dw:=CY.o x (aQK ah);obtain⟨Eo,Cv⟩:=Y.keys;obtain⟨Dz,E5,rfl,D8⟩:=Cv.rd.2 (by rw [<- Ah.o];omega);have Ac:wr.cell? (ad Dz (E5+q))=some (.string (aA x.1)):=D8 q _ (by simp [cB,ah]);obtain⟨AP,Av,Az,Bp⟩:=nq2 (aA x.1) (aA x.2);have DF:=aa (fun (af:aRU) (aj:nN wr w.heap.size 65 2 A q c (cK fI (M.take q)) af)=>show af.cell? (ad g4 2)=some (.slice A q c)/\af.cell? (ad X 3)=some (.map (some m))/\(Instr.lookup 189 (.map (some m)) (.string AP) false).run prog af = .ok (.string Az) af from by
      have hl:=Y.aHN Ae.o aj;refine⟨(aj.row Y.row (Y.outs.ne Y.row dc).symm).cell 2,(Ad.o af hl).2.2.2,?_⟩;have:=(BU.o af hl).look O3 underlying9 underlying189 [] (ZX af) AP (by rw [Av,iP];unfold maxLen;omega);rw [show AP.data.toList=x.1 by rw [Av,gZ],Cu] at this;rw [Bp];exact this);have E8:=aa Y.outs;obtain⟨I,Al⟩:=ai ([Value.string AP,.string Az]);have E9:I.length=2:=by rw [Al];rfl
     have EA:∀ v∈I,v.oneCell'=true:=by rw [Al];simp [Value.oneCell']
     have EC:(Value.agg I.toArray).cells.size=2:=by rw [Al];rfl
     have Aa:q<=1000000:=om;have bf:w.heap.size<=wr.heap.size:=by have:=Y.X9.size;have:=Ae.o;omega
     have EF:=aa (show prog.built 65 [(0,.string AP),(1,.string Az)]=some I.toArray by rw [Al];exact kr);have EG:=aa (show fI x=I by rw [Al,Av,Bp];rfl);have J:=aa Y;have EH:=aa ah;rw [<- Av] at Ac;clear Y ah Cu Dw Cv D8 Av Bp Al;go_wp2_with fail;clear Ac;have kR:=DF;refine nz nH 13 [some (pp g4 2),some (.slice A q c),some (.string AP),some (pp X 0),some (pp X 0),some (pp X 3),some (.map (some m)),some (.string AP),some (.string Az),some (.agg I.toArray),none,none,some (pp g4 2)] (xc wr.heap.size (w.heap.size) 65 2 A q c (cK fI (M.take q)) I 10 11) (nN wr (w.heap.size) 65 2 A q c (cK fI (M.take q))) (o6 (w.heap.size) 65 2 A c (q+1) ((cK fI (M.take q))++I)) (nN.start E8.o) (fun j v w1 af ae h=>h.keep ae) ?_ (jI:=?_)
     ·intro u af aj Af;obtain⟨AV,AX,EJ,BO⟩:=(show xc wr.heap.size (w.heap.size) 65 2 A q c (cK fI (M.take q)) I 10 11 11 (u 11) af from Af 11 om).1.2.1 rfl;clear Af;simp only [EJ];have DI:=aa aj;have EK:=aa BO;have DJ:=DI.o.row J.o.row (J.o.outs.ne J.o.row dc).symm;have EL:=aa DJ;have EM:Sz 22 1:=kr;have Er:(Value.slice AV (q+1) AX).cells.toList=[Value.slice AV (q+1) AX]:=rfl;have EN:2+1<=[Value.int .i64 1,.int .i64 iJ,.slice A q c,.slice A9 n c9].length:=by simp
      have hq3:(Value.slice AV (q+1) AX).oneCell'=true:=rfl;have EO:[Value.int .i64 1,.int .i64 iJ,.slice A q c,.slice A9 n c9].set 2 (.slice AV (q+1) AX)=[.int .i64 1,.int .i64 iJ,.slice AV (q+1) AX,.slice A9 n c9]:=rfl;clear DJ BO aj;go_wp2_with (first|((with_reducible refine A8 2 (.slice AV (q+1) AX) EL.o EM EN hq3 EO ?_);refine zN ?_;intro cO Bq BB));go_roundg (gk - 1);case rel=>exact⟨q+1,om,by go_num,AV,AX,J.o.next Ae.o AQ.o EH.o DI.o (by rw [EG.o];exact EK.o.1) Bq.o BB.o⟩
      case measure=>omega
     ·repeat' (first | exact trivial | apply And.intro)
      all_goals try exact rx
      all_goals intro eQ u af aj aL bz K aR
      all_goals try simp [iX,Region.binds] at bz
      all_goals refine mg rfl ?_
      all_goals obtain⟨Es,Ev,Ew⟩:=DF.o af aj
      ·refine akN (.string AP) (.string Az) _ EF.o rfl ⟨by simp [Act.eval,aL,bz],by simp [Act.eval,aL,bz]⟩ ?_;exact aR _ _ rfl aj (o6.refl _)
      ·refine Nv K7 (.agg I.toArray) EC rfl (by simp [Act.eval,aL,bz]) ?_;exact aR _ _ ⟨⟨fun _=>⟨_,rfl,aM.new af I _,aj.JD⟩,gq,fun e=>absurd rfl e⟩,gq⟩ (aj.alloc _) (o6.alloc af _)
      ·obtain⟨ES,Br⟩:=bz;obtain⟨g9,ET,EU,Ex⟩:=(show xc wr.heap.size (w.heap.size) 65 2 A q c (cK fI (M.take q)) I 10 11 10 _ af from Br).1.1 rfl;refine X5 K7 rfl aj.2 g9 EU E9 EA Aa (aQG bf aj.1.size) underlying22 ⟨by simp [Act.eval,aL,ES],by simp [Act.eval,aL,ET]⟩ ?_;intro il c2 aD BO DN EX EY;exact aR _ _ ⟨⟨gq,fun _=>⟨il,c2,rfl,BO⟩,fun _ e=>absurd rfl e⟩,fun _ dh m3 bH Ea j aC Ec=>by cases Ea;exact EY j (aQJ aC aj.1.size) Ec⟩ ⟨F8 aj.1 DN.1,EX⟩ DN
    ·have DR:q=N:=om;have Dv:¬ (q:Int) < N:=om;have J:=aa Y;have Bt:=aa DR;have C8:=Cj (.int .i64 1) (.int .i64 iJ) (.slice A q c) (.slice A9 n c9);have Ee:[Value.int .i64 1,.int .i64 iJ,.slice A q c,.slice A9 n c9].length=iN.length:=rfl;have Ak:∀ v∈[Value.int .i64 1,.int .i64 iJ,.slice A q c,.slice A9 n c9],v.oneCell'=true:=by simp [Value.oneCell']
     clear Y DR;go_wp2_with (first|((with_reducible refine wpList_load_row g4 0 [.int .i64 1,.int .i64 iJ,.slice A q c,.slice A9 n c9] [.int .i64 1,.int .i64 iJ,.slice A q c,.slice A9 n c9] _ J.o.row ?_ _ underlying63 C8 ?_ ?_);exact rfl;exact⟨rfl,rfl⟩)|((with_reducible refine vF [.int .i64 1,.int .i64 iJ,.slice A q c,.slice A9 n c9] J.o.res C8 Ee Ak ?_);intro rZ Bq BB));refine Eg Bq.o underlying63 rfl C8 ⟨rfl,rfl,rfl⟩ ⟨⟨A,c,A9,c9⟩,?_,?_,oO (Ap.o.trans (J.o.X9.mono Ap.o.size)) BB.o (aQF _)⟩
     ·have gD:jd ⟨1,0,M,b.reads⟩ ⟨A,c,A9,c9⟩=[.int .i64 1,.int .i64 iJ,.slice A q c,.slice A9 n c9]:=by rw [Bt.o,Ah.o,BD.o,Dh.o];rfl
      rw [Ag.o,gD];rfl
     ·rw [Ag.o];have h1:=gX J.o.outs J.o.res dc BB.o;have ag:=gX J.o.reads J.o.res dc BB.o;rw [List.take_of_length_le (by rw [Bt.o,Ah.o];exact Nat.le_refl _),Bt.o,Ah.o] at h1;rw [CW.o,BD.o] at ag;exact⟨h1,ag⟩
  ·have Dg:(iJ == 0)=false:=by simpa using hy
   have Ag:=aa (show b.out=⟨2,b.why,[],b.reads⟩ by rw [dC.out,if_neg (fun e=>hy (by rw [BX.o,e];rfl))]);clear hy;go_wp2_with (first|((with_reducible refine Jn [.int .i64 2,.int .i64 iJ,.slice none 0 0,.slice A9 n c9] BG.o Aq Bb Bc ?_);intro cO AB AA;have AU:=oO BF.o AA AQ.o;obtain⟨Ao,_,_,_⟩:=Ad.o cO AU;obtain⟨BK,Be,Bf⟩:=hq3 AB AA AU;have BL:=aa ((CV.o.all BF.o).dG AA (by have:=Ae.o;have:=AQ.o;omega));clear AB AA AU)|((with_reducible refine wpList_load_row g4 0 [.int .i64 2,.int .i64 iJ,.slice none 0 0,.slice A9 n c9] [.int .i64 2,.int .i64 iJ,.slice none 0 0,.slice A9 n c9] _ BK.o ?_ _ underlying63 Aq ?_ ?_);exact rfl;exact⟨rfl,rfl⟩)|((with_reducible refine vF [.int .i64 2,.int .i64 iJ,.slice none 0 0,.slice A9 n c9] BL.o Aq Bb Bc ?_);intro Dq Bj DT));have Ak:=gX (gX Cg.o BG.o dc Be.o) BL.o dc DT.o;have Ef:=oO (aU Ap.o Bf.o) DT.o (aQF _);refine Eg Bj.o underlying63 rfl Aq ⟨rfl,rfl,rfl⟩ ⟨⟨none,0,A9,c9⟩,?_,?_,Ef⟩
   ·rw [Ag.o,BD.o,BX.o];rfl
   ·rw [Ag.o];exact⟨Own.nil _ _ _ _,by have:=Ak;rw [BD.o,CW.o] at this;exact this⟩
 ·repeat' (first | exact trivial | apply And.intro)
  all_goals try exact rx
  all_goals intro eQ u af aj aL bz K aR
  all_goals try simp [iX,Region.binds] at bz
  all_goals refine mg rfl ?_
  all_goals obtain⟨Ao,CS,_⟩:=Ad.o af aj
  ·go_simp;refine (Dc.o af aj).mono ?_;rintro e aD ⟨dh,bH,rfl,CF,DU⟩;exact aR _ _ ⟨fun _=>⟨dh,bH,rfl,CF.mono (aQG Ap.o.size aj.size)⟩,gq,gq⟩ (aU aj DU) DU
  ·obtain⟨Ei,ah⟩:=bz;obtain⟨dh,bH,Br,CF⟩:=ah.1 rfl;refine afQ (.int .i64 2) (.int .i64 iJ) (.slice dh n bH) _ (aum 2 iJ dh n bH) rfl ⟨rfl,by simp [Act.eval,aL,Ei],by simp [Act.eval,aL,Br]⟩ ?_;exact aR _ _ ⟨gq,fun _=>⟨dh,bH,rfl,CF⟩,gq⟩ aj (Below.refl _ _)
  ·go_simp;exact aR _ _ ⟨gq,gq,fun _=>⟨_,rfl,aM.new af iN _,aj.size⟩⟩ (aj.alloc aj.size _) iD
theorem wp_store_row {P:Program} {W:aRU} {o:Oper} {a:Act} {K:Act->World->Prop} {Q:aRX} {ty:TypeId} {x v:Operand} (g off:Nat) (val:Value) (vs V zX:aRW) (t:TypeId) (av:aM W g V t) (oq:val.cells.toList=vs)
  (ay:(P.info? ty).map (·.size)=some vs.length) (rO:off+vs.length<=V.length) (h1:∀ v∈vs,v.oneCell'=true) (ag:V.take off++vs++V.drop (off+vs.length)=zX)
  (aG:o.op = .store ty x v) (xk:a.eval x = .pointer (some ⟨g,off,none⟩)/\a.eval v=val) (h:∀ aY,aM aY g zX t->fV g W aY->K (a.put o.dst undef) aY):o.wp P a W K Q :=
 aoa ty x v aG g off xk.1 val xk.2 vs oq V.toArray t av ay (by simpa using rO) h1 (h _ (by
  have:=aQU W g _ (laid V.toArray off vs) _ _ av;rw [aM,<- ag];exact this) (ajl W g _))
def Yb:List TypeId:=[135,268,65,80,45]++afy
def aHP (w w':aRU):Prop:=∀ (k:Nat) (cs:Array Value) (t:TypeId) (aZ:Nat × Nat),w.heap[k]?=some (.cells cs t aZ)->t∈Yb->w'.heap[k]?=w.heap[k]?
structure lG (T:Nat) (C:aR1) (w w':aRU):Prop where
 os:w'.os=w.os
 tape:w'.tape=w.tape
 output:w'.output=w.output
 size:w.heap.size<=w'.heap.size
 keep:∀ k,k < T->k < w.heap.size->¬ C k->w'.heap[k]?=w.heap[k]?
 high:∀ (k:Nat) (o:Obj),w.heap[k]?=some o->T<=k->(∀ cs aZ,o ≠ .cells cs 3 aZ)->w'.heap[k]?=w.heap[k]?
 calm:aHP w w'
section
variable {T:Nat} {C:aR1} {w w' af:aRU}
theorem lG.refl (w:aRU):lG T C w w:=⟨rfl,rfl,rfl,aQF _,fun _ _ _ _=>rfl,fun _ _ _ _ _=>rfl,fun _ _ _ _ _ _=>rfl⟩
theorem lG.trans (h:lG T C w w') (k:lG T C w' af):lG T C w af :=
 ⟨k.os.trans h.os,k.tape.trans h.tape,k.output.trans h.output,aQG h.size k.size,fun j h1 I J=>(k.keep j h1 (aQJ I h.size) J).trans (h.keep j h1 I J),fun j o h1 I J=>(k.high j o ((h.high j o h1 I J).trans h1) I J).trans (h.high j o h1 I J),fun j cs t aZ h1 I=>(k.calm j cs t aZ ((h.calm j cs t aZ h1 I).trans h1) I).trans (h.calm j cs t aZ h1 I)⟩
theorem lG.gN (h:Bl w w'):lG T C w w':=⟨h.os,h.tape,h.output,h.size,fun k _ hk _=>h.block k hk,fun k o hk _ _=>h.block k (iw hk),fun k cs t aZ hk _=>h.block k (iw hk)⟩
theorem lG.um (h:fV g w w') (av:C g) (bY:g < T) (aB:∀ cs t aZ,w.heap[g]?=some (.cells cs t aZ)->t ∉ Yb):lG T C w w':=⟨h.1,h.2.1,h.2.2.1,aQ1 h.2.2.2.1.symm,fun k _ _ hc=>h.2.2.2.2 k fun e=>hc (e ▸ av),fun k o _ hk _=>h.2.2.2.2 k fun e=>om,fun k cs t aZ hk I=>h.2.2.2.2 k fun e=>aB cs t aZ (e ▸ hk) I⟩
theorem lG.alJ (h:fV g w w') (av:C g) (bY:g < T) (ax:aM w g V t) (az:t ∉ Yb):lG T C w w':=.um h av bY fun cs t2 aZ e=>by
 rw [ax] at e;injection e with e
 injection e with _ e
 rwa [<- e]
theorem lG.aHQ {n:Nat} (h:w.grownBy w' (bM A)) (aG:Own w T 3 aO A n c xs):lG T C w w' :=
 ⟨h.os,h.tape,h.output,h.size,fun k hk hs _=>h.block k hs fun e=>by
  have:=(aG.block k e.symm).1;omega,fun k o hk M I=>h.block k (iw hk) fun e=>by
  obtain⟨_,_,cur,aZ,ae⟩:=aG.block k e.symm;rw [hk] at ae;exact I _ _ (aRb ae),fun k cs t aZ hk J=>h.block k (iw hk) fun e=>by
  obtain⟨_,_,cur,Y,ae⟩:=aG.block k e.symm;rw [hk] at ae;injection ae with ae
  injection ae with _ ae
  subst ae;exact absurd J dc⟩
theorem lG.cells (h:lG T C w w') {cs:Array Value} {aZ:Nat × Nat} (hk:w.heap[k]?=some (.cells cs t aZ)) (bY:T<=k) (az:t ≠ 3):w'.heap[k]?=w.heap[k]?:=h.high k _ hk bY fun zB I e=>by
 injection e with _ e
 exact az e
theorem aM.nQ (hk:lG T C w w') (h:aM w g V t) (bY:T<=g) (az:t ≠ 3):aM w' g V t:=(hk.cells h bY az).trans h
theorem Own.nQ (hk:lG T C w w') {n:Nat} (h:Own w base t aO A n c xs) (bY:T<=base) (az:t ≠ 3):Own w' base t aO A n c xs:=h.keep fun b ae _ _=>by
 obtain⟨h1,_,cur,aZ,hc⟩:=h.block b ae;exact hk.cells hc om az
end
end
section
open Go.Maps Go.RowKit Go.Shelf
abbrev abD:=Option Addr × Nat × Nat
def Sn (x:abD):Value:=.slice x.1 x.2.1 x.2.2
theorem alK (a b:abD) (h:Sn a=Sn b):a=b:=by
 obtain⟨M,a2,a3⟩:=a;obtain⟨fo,Y,AA⟩:=b;simp only [Sn] at h;injection h with h1 I J
 rw [h1,I,J]
def afS (W:aRU) (B:Nat) (aF:aR1) (t:lS) (x:abD):Prop:=x.2.1=1/\∃ L,Own W B 224 34 x.1 1 x.2.2 (gP t L)/\oQ W B t L/\∀ q,bM L.A=some q->aF q
theorem afS.all {W:aRU} {t:lS} {x:abD} (h:afS W B aF t x) (ae:Bl W W'):afS W' B aF t x:=by obtain⟨I,L,h1,J,M⟩:=h;exact⟨I,L,h1.below ae (aQF _),J.all ae,M⟩
structure L6 (W:aRU) (B:Nat) (aF:aR1) (jP je:Nat) (n:Nat) (fU:Nat->List UInt8) (df:Nat->lS) (bF:Nat->Bool):Prop where
 obj:aM W jP [.int .i64 8,.map (some je)] 86
 far:B<=jP/\B<=je
 map:∃ M:fA abD,eU W prog 59 Sn je M.length M/\(∀ x∈M,∃ j,j < n/\x.1=fU j)/\∀ i,i < n->(bF i=true->∃ x,getM M (fU i)=some x/\afS W B aF (df i) x)/\(bF i=false->getM M (fU i)=none)
theorem L6.all {W:aRU} {n:Nat} {fU:Nat->List UInt8} {df:Nat->lS} (h:L6 W B aF jP je n fU df bF) (ae:Bl W W'):L6 W' B aF jP je n fU df bF:=by obtain⟨M,h1,hs,I⟩:=h.map;refine⟨h.obj.all ae,h.far,M,h1.below ae h1.lt,hs,fun i J=>⟨fun e=>?_,(I i J).2⟩⟩;obtain⟨x,Y,AA⟩:=(I i J).1 e;exact⟨x,Y,AA.all ae⟩
theorem aHR (w:aRU) (n:Nat) (aF:aR1) (fU:Nat->List UInt8) (df:Nat->lS):CR 11 #[.int .i64 8] w (.tuple #[pp (w.heap.size+1) 0,.int .i64 0]) fun w'=>L6 w' w.heap.size aF (w.heap.size+1) w.heap.size n fU df (fun _=>false)/\Bl w w':=by have I:=@run_makeMap prog;go_enter func11,ntmps11;go_wp2;refine aQP (aRc rfl _ _ _) rfl ?_;refine⟨rfl,⟨?_,⟨Nat.le_succ _,aQF _⟩,[],(eU.made w _ _ _).alloc _,fun x ah=>(by cases ah),fun i _=>⟨fun e=>(by cases e),fun _=>rfl⟩⟩,((Below.refl _ w).alloc (aQF _) _).alloc sp _⟩;have:=aQS (w.alloc (.map #[] 0)) (.cells #[.int .i64 8,.map (some w.heap.size)] 86);rwa [World.size_alloc] at this
section
variable {W W':aRU} {B g:Nat} {t:lS} {L:qw}
theorem auq (h:aM W g (gP t L) 224):W.cell? (ad g 32)=some (.slice L.A t.reads.length L.c):=(h.cell 32).trans (ajH t L)
theorem afT (h:aM W g (gP t L) 224):W.cell? (ad g 33)=some (.slice L.B t.outs.length L.d):=(h.cell 33).trans (aex t L)
theorem aHS (t:lS) (L:qw) (A:aRV) (c:Nat):(gP t L).take 32++[Value.slice A t.reads.length c]++(gP t L).drop (32+[Value.slice A t.reads.length c].length)=gP t ⟨A,c,L.B,L.d⟩:=by have h:=rC t.key;simp only [gP];rw [List.take_append,List.drop_append,h,List.take_of_length_le om,List.drop_of_length_le (by simp [h])];simp
theorem aHT (t:lS) (L:qw) (A:aRV) (c:Nat):(gP t L).take 33++[Value.slice A t.outs.length c]++(gP t L).drop (33+[Value.slice A t.outs.length c].length)=gP t ⟨L.A,L.c,A,c⟩:=by have h:=rC t.key;simp only [gP];rw [List.take_append,List.drop_append,h,List.take_of_length_le om,List.drop_of_length_le (by simp [h])];simp
end
def Iz (B:Nat) (w aY:aRU) (g1:Nat) (t:lS) (af:aRU):Prop:=Bl w af/\aM af (w.heap.size+1) Gl 224 /\ ∃ L,aM af g1 (gP t L) 224 /\ oQ af B t L
def afU (B:Nat) (t:lS) (j:Nat) (v:Value) (w:aRU):Prop :=
 (j < 3->∃ A c,v = .slice A t.reads.length c/\Own w B 135 34 A t.reads.length c (cK iq t.reads))/\(3 < j/\j < 6->∃ A c,v = .slice A t.outs.length c/\Own w B 268 33 A t.outs.length c (cK mi t.outs))
theorem aur {W:aRU} {n:Nat} (h:Own W B t aO A n c xs) (ae:Bl W W'\/fV g W W'/\∃ V,aM W g V 224) (az:t ≠ 224):Own W' B t aO A n c xs:=by
 rcases ae with ae | ⟨h1,V,I⟩
 ·exact h.below ae (aQF _)
 ·exact gX h I az h1
theorem afU.keep {t:lS} (h:afU B t j v w) (ae:Bl w w'\/fV g w w'/\∃ V,aM w g V 224):afU B t j v w' :=
 ⟨fun e=>(by obtain⟨A,c,I,J⟩:=h.1 e;exact⟨A,c,I,aur J ae dc⟩),fun e=>(by obtain⟨A,c,I,J⟩:=h.2 e;exact⟨A,c,I,aur J ae dc⟩)⟩
section
variable {B:Nat} {w aY af aD:aRU} {g1:Nat} {t:lS}
theorem Iz.below (h:Iz B w aY g1 t af) (ae:Bl af aD):Iz B w aY g1 t aD:=by obtain⟨h1,I,L,J,M⟩:=h;exact⟨aU h1 ae,I.all ae,L,J.all ae,M.all ae⟩
theorem Iz.ajg (h:Iz B w aY g1 t af) (ax:aM af g1 (gP t L) 224) (hA:oQ af B t L) (aG:Own af B 135 34 A t.reads.length c (cK iq t.reads)) (jk:aM aD g1 (gP t ⟨A,c,L.B,L.d⟩) 224) (az:fV g1 af aD) (av:g1=w.heap.size):Iz B w aY g1 t aD :=
 ⟨oO h.1 az om,h.2.1.dG az om,_,jk,gX aG ax dc az,gX hA.outs ax dc az⟩
theorem Iz.aHU (h:Iz B w aY g1 t af) (ax:aM af g1 (gP t L) 224) (hA:oQ af B t L) (aG:Own af B 268 33 A t.outs.length c (cK mi t.outs)) (jk:aM aD g1 (gP t ⟨L.A,L.c,A,c⟩) 224) (az:fV g1 af aD) (av:g1=w.heap.size):Iz B w aY g1 t aD :=
 ⟨oO h.1 az om,h.2.1.dG az om,_,jk,gX hA.reads ax dc az,gX aG ax dc az⟩
end
theorem aus (w:aRU) (B:Nat) (t:lS) (L:qw) (h:oQ w B t L) (bf:B<=w.heap.size) (hl:t.reads.length<=1000/\t.outs.length<=1000) :
  Calls prog 313 #[.agg (gP t L).toArray] w fun e w'=>∃ QO,e = .returned (.agg (gP t QO).toArray)/\oQ w' B t QO/\Bl w w':=by
 obtain⟨aH,AP⟩:∃ W,W=w.alloc (.cells (gP t L).toArray 224):=⟨_,rfl⟩;obtain⟨aY,AU⟩:∃ W,W=aH.alloc (.cells Gl.toArray 224):=⟨_,rfl⟩;have Af:=gQ AP;have BD:aH.heap.size=w.heap.size+1:=by rw [AP];simp
 have Aa:=gQ AU;have Ap:aM aH w.heap.size (gP t L) 224:=by rw [AP];exact aM.new w _ _
 have AA:aM aY (w.heap.size+1) Gl 224:=by rw [AU,<- BD];exact aM.new aH _ _
 obtain⟨g1,Ac⟩:∃ g,g=w.heap.size:=⟨_,rfl⟩;have BF:=aa (show Iz B w aY g1 t aY.drew from ⟨(aU Af Aa).drew,AA,L,by rw [Ac];exact Ap.all Aa.drew,(h.all Af).all Aa.drew⟩);have BG:=aa (fun (W:aRU) (A:aRV) (c:Nat) (ax:Rd W 34 A t.reads.length (cK iq t.reads))=>aet W A t.reads.length c _ ax (aaj FZ _) om);have BH:=aa (fun (W:aRU) (A:aRV) (c:Nat) (ax:Rd W 33 A t.outs.length (cK mi t.outs))=>aDI W A t.outs.length c _ ax (aaj UI _) om);have Aq:=aa bf;have Ad:=aa Ac;obtain⟨V,Ag⟩:=ai (gP t L);rw [<- Ag];rw [<- Ag] at AP;rw [ath] at AU;have BK:=AP.symm;have BL:=AU.symm;clear h bf hl Af Aa Ap AA AP AU Ag;have BN:=Ac.symm;clear Ac;go_enter func313,ntmps313;go_wp2_with fail;clear BN BK BL;refine nz nH 10 [some _,none,none,some _,none,none,some _,none,some _,none] (afU B t) (Iz B w aY g1 t) (fun a b=>Bl a b\/fV g1 a b/\∃ V,aM a g1 V 224) BF.o (fun j v w1 af ae h=>h.keep ae) ?_ (jI:=⟨rx,rs ?_,rs ?_,rx,rs ?_,rs ?_,rx,rs ?_,rx,rs ?_,trivial⟩)
 rotate_left
 ·intro eQ u af aj aL K aR bz;obtain⟨AQ,AA,I,J,Y⟩:=id aj;have Bb:=auq J;go_simp;exact aR _ _ ⟨fun _=>⟨_,_,rfl,Y.reads⟩,gq⟩ aj (.inl (Below.refl _ _))
 ·intro eQ u af aj aL K aR bz;obtain⟨A,c,AV,AB⟩:=bz.1 dc;go_simp;refine (BG.o af A c AB.rd).mono ?_;rintro e aD ⟨dh,bH,rfl,Ah,AX⟩;exact aR _ _ ⟨fun _=>⟨dh,bH,rfl,Ah.mono (aQG Aq.o aj.1.size)⟩,gq⟩ (aj.below AX) (.inl AX)
 ·intro eQ u af aj aL K aR bz;obtain⟨AQ,AA,I,J,Y⟩:=id aj;have Bc:=afT J;go_simp;exact aR _ _ ⟨gq,fun _=>⟨_,_,rfl,Y.outs⟩⟩ aj (.inl (Below.refl _ _))
 ·intro eQ u af aj aL K aR bz;obtain⟨A,c,AV,AB⟩:=bz.1.2 dc;go_simp;refine (BH.o af A c AB.rd).mono ?_;rintro e aD ⟨dh,bH,rfl,Ah,AX⟩;exact aR _ _ ⟨gq,fun _=>⟨dh,bH,rfl,Ah.mono (aQG Aq.o aj.1.size)⟩⟩ (aj.below AX) (.inl AX)
 ·intro eQ u af aj aL K aR bz;obtain⟨AQ,AA,I,J,Y⟩:=id aj;obtain⟨A,c,AV,AB⟩:=bz.2.1.1 dc;refine wp_store_row g1 32 (.slice A t.reads.length c) [.slice A t.reads.length c] _ _ _ J rfl rfl (by rw [Eb];exact Nat.le_succ 33) (by simp;rfl) (aHS t I A c) rfl ⟨by simp [Act.eval,aL,bz.1],by simp [Act.eval,aL,AV]⟩ ?_;intro BO Ak AZ;exact aR _ _ ⟨gq,gq⟩ (Iz.ajg aj J Y AB Ak AZ Ad.o) (.inr ⟨AZ,_,J⟩)
 ·intro eQ u af aj aL K aR bz;obtain⟨AQ,AA,I,J,Y⟩:=id aj;obtain⟨A,c,AV,AB⟩:=bz.2.1.2 dc;refine wp_store_row g1 33 (.slice A t.outs.length c) [.slice A t.outs.length c] _ _ _ J rfl rfl (by rw [Eb];exact aQF 34) (by simp;rfl) (aHT t I A c) rfl ⟨by simp [Act.eval,aL,bz.1],by simp [Act.eval,aL,AV]⟩ ?_;intro BO Ak AZ;exact aR _ _ ⟨gq,gq⟩ (Iz.aHU aj J Y AB Ak AZ Ad.o) (.inr ⟨AZ,_,J⟩)
 ·intro u af aj BP;clear BP;obtain⟨AQ,AA,I,J,Y⟩:=aj;have BR:=aa AQ;have Av:=aa J;have Al:=aa (show aM af (g1+1) Gl 224 by rw [Ad.o];exact AA);have Az:=aa Y;have Ae:=Pe t I;have BB:(gP t I).length=Gl.length:=by rw [Eb];rfl
  have BC:=M8 t I;have BS:((gP t I).drop 0).take (gP t I).length=gP t I:=by simp
  obtain⟨BU,Am⟩:∃ V,V=gP t I:=⟨_,rfl⟩;rw [<- Am] at Ae BB BC Av BS;have BX:=aa Am;clear AQ AA J Y Am;go_wp2_with (first|(with_reducible refine kG Av.o underlying224 Ae ?_)|((with_reducible refine vF BU Al.o Ae BB BC ?_);intro Be BZ Ao));refine D5 BZ.o underlying224 rfl Ae ⟨rfl,rfl,rfl⟩ ⟨I,by rw [BX.o],⟨gX Az.o.reads Al.o dc Ao.o,gX Az.o.outs Al.o dc Ao.o⟩,oO BR.o Ao.o (by rw [Ad.o];exact Nat.le_succ _)⟩
end
section
open Go.ChangeMaps Go.MapKept Go.Maps Go.RowKit Go.Shelf Go.WideAt Go.WideMaps
theorem aut {α:Type} (a v c:List α) (k:Nat):(k < a.length->(a++v++c)[k]?=a[k]?)/\(a.length<=k->k < a.length+v.length->(a++v++c)[k]?=v[k - a.length]?)/\(a.length+v.length<=k->(a++v++c)[k]?=c[k - a.length - v.length]?):=by
 rw [List.append_assoc];refine⟨fun h=>List.getElem?_append_left h,fun h1 I=>?_,fun h1=>?_⟩
 ·rw [List.getElem?_append_right h1,List.getElem?_append_left om]
 ·rw [List.getElem?_append_right om,List.getElem?_append_right om]
theorem aHW {n:Nat} (P:Program) (h:Own w base t aO A n c xs) (aC:j < n) {o:Nat} (hA:A=some ⟨b,o,none⟩) (vs:aRW) (hl:vs.length=aO) (h1:∀ v∈vs,v.oneCell'=true) :
  ∃ aY,(storeCells ⟨b,o+j * aO,none⟩ vs 0).run P w = .ok () aY/\fV b w aY/\Own aY base t aO A n c (xs.take (j * aO)++vs++xs.drop (j * aO+aO)):=by
 have Y:=h.2.1;have AX:=h.1;obtain⟨b',AZ,cur,aZ,e,ae,hc,hf,hs,ah⟩:=h.at_ om;rw [hA] at e;cases e;have hm:j * aO+aO<=n * aO:=by rw [<- Nat.succ_mul];exact aQ8 _ aC
 have Aa:n * aO<=c * aO:=aQ8 _ Y;have Ac:cur.toList.length=cur.size:=Array.length_toList;refine⟨_,adh P b (o+j * aO) t aZ vs 0 cur w hf hc om h1,ajl w b _,by simp;omega,Y,h.2.2.1,.inr ⟨b,o,_,aZ,hA,ae,aQU w b cur _ t aZ hc,?_,?_,fun i AV=>?_⟩⟩
 ·rw [show (cur.toList.take (o+j * aO+0)++vs++cur.toList.drop (o+j * aO+0+vs.length)).toArray.size=cur.size by simp;omega];exact hf
 ·rw [show (cur.toList.take (o+j * aO+0)++vs++cur.toList.drop (o+j * aO+0+vs.length)).toArray.size=cur.size by simp;omega];exact hs
 ·have J:=ah i AV;rw [List.getElem?_toArray];rw [<- Array.getElem?_toList] at J;have AA:(cur.toList.take (o+j * aO+0)).length=o+j * aO:=by rw [List.length_take];omega
  have AB:(xs.take (j * aO)).length=j * aO:=by rw [List.length_take];omega
  obtain⟨AP,a2,a3⟩:=aut (cur.toList.take (o+j * aO+0)) vs (cur.toList.drop (o+j * aO+0+vs.length)) (o+i);obtain⟨fo,AQ,AU⟩:=aut (xs.take (j * aO)) vs (xs.drop (j * aO+aO)) i;rw [AA,hl] at a2 a3;rw [AA,hl] at AP;rw [AB,hl] at AQ AU;rw [AB] at fo;rcases aQW i (j * aO) with I | I
  ·rw [hl,AP om,fo I,List.getElem?_take_of_lt om,List.getElem?_take_of_lt I];exact J
  ·rcases aQW i (j * aO+aO) with M | M
   ·rw [hl,a2 om om,AQ I M,show o+i - (o+j * aO)=i - j * aO by omega]
   ·rw [hl,a3 om,AU M,List.getElem?_drop,List.getElem?_drop,show o+j * aO+0+aO+(o+i - (o+j * aO) - aO)=o+i by omega,show j * aO+aO+(i - j * aO - aO)=i by omega];exact J
section
variable {P:Program} {W:aRU} {a:Act} {K:Act->World->Prop} {Q:aRX} {ty ic:TypeId} {x v:Operand}
theorem aHX {o:Oper} (aG:o.op = .store ty x v) {p:Addr} (ah:a.eval x = .pointer (some p)) (val:Value) (bg:a.eval v=val) (vs:aRW) (oq:val.cells.toList=vs)
  (ay:(P.info? ty).map (·.size)=some vs.length) {aY:aRU} (dH:(storeCells p vs).run P W = .ok () aY) (h:K (a.put o.dst undef) aY):o.wp P a W K Q:=by
 cases I:P.info? ty with
 | none=>simp [I] at ay
 | some i =>
  have hs:i.size=vs.length:=by simpa [I] using ay
  have hcs:val.cells.size=vs.length:=by rw [<- oq];simp
  unfold Oper.wp execOp;simp [aG,ah,bg,Instr.storeAt,Instr.sureAddr,storeVar,sizeOf,typeInfo,I,hs,hcs,oq,dH];exact h
theorem aHY {o:Oper} (aG:o.op = .store ty x v) {n:Nat} (h:Own W base t aO A n c xs) (aC:j < n) (hA:A=some ⟨b,q,none⟩) (val:Value) (vs:aRW) (oq:val.cells.toList=vs) (hl:vs.length=aO)
  (ay:(P.info? ty).map (·.size)=some aO) (h1:∀ v∈vs,v.oneCell'=true) (xk:a.eval x = .pointer (some ⟨b,q+j * aO,none⟩)/\a.eval v=val)
  (hk:∀ aY,Own aY base t aO A n c (xs.take (j * aO)++vs++xs.drop (j * aO+aO))->fV b W aY->K (a.put o.dst undef) aY):o.wp P a W K Q:=by
 obtain⟨aY,I,J,M⟩:=aHW P h aC hA vs hl h1;exact aHX aG xk.1 val xk.2 vs oq (by rw [hl];exact ay) I (hk aY M J)
theorem aHZ {ops:Array Oper} {rest:List Oper} {dst:Option Tmp} {pos:String} {after:Array Edge} {n:Nat} (h:Own W base t aO A n c xs) (aC:j < n) (hA:A=some ⟨b,q,none⟩) (val:Value) (vs:aRW) (oq:val.cells.toList=vs) (hl:vs.length=aO)
  (ay:(P.info? ty).map (·.size)=some aO) (h1:∀ v∈vs,v.oneCell'=true) (xk:a.eval x = .pointer (some ⟨b,q+j * aO,none⟩)/\a.eval v=val)
  (hk:∀ aY,Own aY base t aO A n c (xs.take (j * aO)++vs++xs.drop (j * aO+aO))->fV b W aY->wpList P ops Q rest (a.put dst undef) aY):wpList P ops Q (⟨dst,.store ty x v,ic,pos,after,none⟩ :: rest) a W :=
 aQ6 rfl fun _ I=>aHY rfl h aC hA val vs oq hl ay h1 xk fun aY J M=>I _ _ (hk aY J M)
end
section
variable {α:Type} {enc:α->Value} {w:aRU} {P:Program} {k t e:TypeId} {b n:Nat} {M:fA α}
theorem eU.auu (h:eU w P k enc b n M) (vo:∀ a b,enc a=enc b->a=b) (K:Keyed P k) (az:P.underlying t=some (.map k e)) (z0:α) (dm:(zeroValue e).run P w = .ok (enc z0) w) {gL:aR0} (hk:keyOf P k v=some (.string gL)) :
  (Instr.lookup t (.map (some b)) v false).run P w = .ok (enc ((getM M gL).getD z0)) w:=by
 obtain⟨u,ps,Y,J⟩:=aRK h K az dm (KG vo z0) hk;rw [Za] at J;obtain⟨a,rfl,I⟩:=TR J;rw [Y];cases av:getM M gL with
 | none=>rw [av] at I;injection I with I;subst I;rfl
 | some x=>rw [av] at I;injection I with I;subst I;rfl
end
end
section
open Go.Maps Go.RowKit Go.Shelf
theorem auv (w:aRU):(zeroValue 213).run prog w = .ok (Sn (none,0,0)) w:=by rw [zeroValue213];rfl
theorem L6.look {W:aRU} {n:Nat} {fU:Nat->List UInt8} {df:Nat->lS} (h:L6 W B aF jP je n fU df bF) (ay:i < n) (yn:(fU i).length=32) :
  ∃ A c L,(∀ W',Bl W W'->(Instr.lookup 84 (.map (some je)) (.agg (l6 (fU i)).toArray) false).run prog W' = .ok (.slice A (if bF i=true then 1 else 0) c) W') /\
   (bF i=true->Own W B 224 34 A 1 c (gP (df i) L)/\oQ W B (df i) L)/\(bF i=false->A=none/\c=0):=by
 obtain⟨M,h1,_,I⟩:=h.map;have key:∀ W',Bl W W'->(Instr.lookup 84 (.map (some je)) (.agg (l6 (fU i)).toArray) false).run prog W' = .ok (Sn ((getM M (fU i)).getD (none,0,0))) W':=fun W' ae=>by
  have:=(h1.below ae h1.lt).auu alK MV underlying84 (none,0,0) (auv W') (Uv yn);rw [Ri] at this;rw [HZ yn];exact this
 cases J:bF i with
 | true =>
  obtain⟨⟨A,m,c⟩,av,hm,L,Y,AA,_⟩:=(I i ay).1 J;simp only at hm Y;subst hm;exact⟨A,c,L,fun W' ae=>by rw [key W' ae,av];rfl,fun _=>⟨Y,AA⟩,fun e=>(by cases e)⟩
 | false =>
  have av:=(I i ay).2 J;exact⟨none,0,⟨none,0,none,0⟩,fun W' ae=>by rw [key W' ae,av];rfl,fun e=>(by cases e),fun _=>⟨rfl,rfl⟩⟩
theorem auw {W:aRU} {Mt XJ n gG c2 o:Nat} {t2:TypeId} {ys:aRW} (h:Own W base t aO A n c xs) (aG:Own W Mt t2 XJ (some ⟨b,o,none⟩) gG c2 ys) (bJ:t≠t2) (k:fV b W W'):Own W' base t aO A n c xs:=h.keep fun b' I _ _=>k.2.2.2.2 b' (by
 rintro rfl;obtain⟨_,_,cur,aZ,hc⟩:=aG.block b' rfl;exact h.ne hc bJ I)
theorem aH0 (w:aRU) {n:Nat} {fU:Nat->List UInt8} {df:Nat->lS} (h:L6 w B aF jP je n fU df bF) (bf:B<=w.heap.size) (ay:i < n) (yn:(fU i).length=32) (hl:(df i).reads.length<=1000/\(df i).outs.length<=1000) :
  Calls prog 308 #[pp jP 0,.agg (l6 (fU i)).toArray] w fun e w'=>∃ A c,e = .returned (.slice A (if bF i=true then 1 else 0) c)/\(bF i=true->∃ L,Own w' w.heap.size 224 34 A 1 c (gP (df i) L)/\oQ w' B (df i) L)/\Bl w w':=by
 obtain⟨AQ,Af,Ag,AU,Ah,BB⟩:=h.look ay yn;obtain⟨N,J,nu,AV,dO,AX⟩:=nq3 (if bF i=true then 1 else 0) (if bF i=true then gP (df i) Ag else []) (l6 (fU i));rw [<- AX,<- J] at AU;rw [<- AX,<- J];obtain⟨aH,AA⟩:=ai (w.alloc (.cells dO.toArray 59));have Y:=gQ AA;have Bc:aH.heap.size=w.heap.size+1:=by rw [AA];simp
 have BC:=kY AA;obtain⟨g1,AZ⟩:=ai w.heap.size;have BD:∀ W,Bl w W->Rd W 34 AQ N nu:=fun W ae=>by
  rw [J,AV];cases aS:bF i with
  | true=>exact ((Ah aS).1.below ae (aQF _)).rd
  | false=>rw [(BB aS).1];exact Rd.none_ _ _ _
 have BF:∀ v∈nu,v.oneCell'=true:=by
  rw [AV];split
  ·exact M8 _ _
  ·intro v Aa;cases Aa
 have Ck:N<=1:=by rw [J];split <;> omega
 have BG:=aa (fun af (ae:Bl aH af)=>show af.cell? (ad jP 1)=some (.map (some je))/\aM af g1 dO 59 /\ (Instr.lookup 84 (.map (some je)) (.agg dO.toArray) false).run prog af = .ok (.slice AQ N Af) af from
  ⟨((h.obj.all Y).all ae).cell 1,by rw [AZ];exact BC.all ae,AU af (aU Y ae)⟩);have Be:=aa (fun af (ae:Bl aH af)=>aDJ af AQ N Af nu (BD af (aU Y ae)) BF om);have Bf:=aa (fun (aS:bF i=true) (af:aRU) (ae:Bl aH af)=>show oQ af B (df i) Ag from ((Ah aS).2.all Y).all ae);obtain⟨Ak,Bg,Bh⟩:=hq3 Y AV J;have Cm:=aa (show N < 1->bF i=false from fun AB=>by
  rw [J] at AB;split at AB
  ·omega
  ·rename_i aS;simpa using aS);have Bi:=aa (show 0 < N->bF i=true/\N=1 from fun AB=>by
  rw [J] at AB |-;split at AB
  ·rename_i aS;exact⟨aS,if_pos aS⟩
  ·omega);obtain⟨Bj,Bn,Bp⟩:=hq3 bf hl AZ;have Bq:(dO.drop 0).take dO.length=dO:=by simp
 have Br:Sz 59 dO.length:=by rw [AX,rC];exact kr
 have Bt:=AA.symm;have C8:=AZ.symm;clear h bf ay yn hl AU Ah BB J AV AX AA Y Bc BC BD BF AZ;go_enter func308,ntmps308;go_wp2_with fail;clear C8 Bt;have kR:=BG;refine nz nH 7 [some (pp jP 0),some (pp jP 0),some (pp jP 1),some (.map (some je)),some (.agg dO.toArray),some (.slice AQ N Af),none] (fun j v af=>j=6->∃ A c,v = .slice A N c/\Own af aH.heap.size 224 34 A N c nu) (Bl aH) Bl ((Below.refl _ aH).drew) (fun j v w1 af ae=>fun h e=>(by obtain⟨A,c,CF,CG⟩:=h e;exact⟨A,c,CF,CG.below ae (aQF _)⟩)) ?_ (jI:=?_)
 ·intro u af aj BH;obtain⟨dh,bH,BK,Ac⟩:=(show 6=6->∃ A c,u 6 = .slice A N c/\Own af aH.heap.size 224 34 A N c nu from BH 6 om) rfl;clear BH;simp only [BK];have BL:=aa aj;have CJ:=aa Ac;clear aj Ac BK;go_wp2_with fail;go_loopg [18] N (fun gk CK wr=>∃ q:Nat,q+gk=N/\CK = .int .i64 q/\Bl aH wr/\(bF i=true->∃ L,Own wr aH.heap.size 224 34 dh 1 bH (gP (df i) L)/\oQ wr B (df i) L));case atStart=>exact⟨0,om,rfl,BL.o,fun aS=>⟨Ag,by have:=CJ.o;rw [Bg.o,if_pos aS,(Bh.o.trans (if_pos aS))] at this;exact this,Bf.o aS _ BL.o⟩⟩
  case round =>
   obtain⟨q,Co,rfl,Ad,Al⟩:=hrel;by_cases Cr:q < N
   ·obtain⟨aS,CL⟩:=Bi.o om;have Am:q=0:=om;obtain⟨L,Ae,BN⟩:=Al aS;obtain⟨CQ,Ao,Ct,Cu,rfl,AP,BO,_,_,BP⟩:=Ae.at_ (by have:=Ae.2.1;omega);have CS:(q:Int) < N:=om;have Cv:(0:Int)<=q:=om;have CU:q < 1:=om;have BR:=Pe (df i) L;have BS:=aa (Le (W:=wr) (g:=CQ) (o:=Ao+q * 34) (V:=gP (df i) L) (fun j v Aa=>by
     have aC:j < 1 * 34:=by have:=(aQL.1 Aa).1;rw [Eb] at this;omega
     rw [Am,show Ao+0 * 34+j=Ao+j by omega,World.cell?,BO];exact (BP j aC).trans Aa) underlying224 rfl BR (Below.refl _ wr));have BU:=aa (aus wr B (df i) L BN (aQG Bj.o (aQG Ak.o.size Ad.size)) Bn.o);obtain⟨BX,CV,CW,CY⟩:=hq4 Ae Ad Am AP;have CZ:Sz 224 34:=kr;have hcs:∀ I,(Value.agg (gP (df i) I).toArray).cells.toList=gP (df i) I:=fun I=>qK _;have Ca:∀ I,(gP (df i) I).length=34:=fun I=>Eb _ _;have Cc:∀ I,∀ v∈gP (df i) I,v.oneCell'=true:=fun I=>M8 _ _;obtain⟨V,Ap⟩:=ai (gP (df i) L);rw [<- Ap] at BS BU BX;have Ce:=aa (show V.length=34 by rw [Ap];exact Eb _ _);clear Al Ae BN BO BP Ad BR Ap Am AP CL;go_wp2_with (first|((with_reducible refine pO BS.o ?_ ?_);exact rfl)|(go_at_call 313; refine BU.o.mono ?_;rintro e D8 ⟨I,rfl,BZ,Aq⟩;have Bb:=aa BZ;have Cf:=aa Aq;have Av:=aa (BX.o.below Aq (aQF _));clear BZ Aq)|((with_reducible refine aHZ Av.o CU rfl (.agg (gP (df i) I).toArray) (gP (df i) I) (hcs I) (Ca I) CZ (Cc I) ?_ ?_);exact⟨rfl,rfl⟩;refine zN ?_;intro DF Cg Az));go_roundg (gk - 1);case rel =>
     refine⟨q+1,om,by go_num,oO (aU CV.o Cf.o) Az.o CY.o,fun _=>⟨I,?_,auw Bb.o.reads Av.o dc Az.o,auw Bb.o.outs Av.o dc Az.o⟩⟩;have:=Cg.o;rw [CW.o,Nat.zero_mul,List.take_zero,List.nil_append,List.drop_of_length_le (by rw [Ce.o];exact Nat.le_refl _),List.append_nil] at this;exact this
    case measure=>omega
   ·have DI:q=N:=om;have CS:¬ (q:Int) < N:=om;go_wp2_with fail;go_ret;rw [Bp.o];exact⟨dh,bH,rfl,fun aS=>by
     obtain⟨L,h1,Cj⟩:=Al aS;exact⟨L,h1.mono Ak.o.size,Cj⟩,aU Ak.o Ad⟩
 ·repeat' (first | exact trivial | apply And.intro)
  all_goals try exact rx
  all_goals intro eQ u af aj aL bz K aR
  all_goals try simp [iX,Region.binds] at bz
  all_goals refine mg rfl ?_
  all_goals obtain⟨DJ,kr,AU⟩:=BG.o af aj
  ·refine wp_load_row g1 0 dO dO _ kr Bq _ underlying59 Br ⟨rfl,by simp [Act.eval,aL],rfl⟩ ?_;exact aR _ _ rfl aj (Below.refl _ _)
  ·go_simp;refine (Be.o af aj).mono ?_;rintro e aD ⟨dh,bH,rfl,Ac,AP⟩;exact aR _ _ (fun _=>⟨dh,bH,rfl,Ac.mono aj.size⟩) (aU aj AP) AP
theorem aH7 (w:aRU) (c f:Nat) (Eh:Array Value):CB 309 #[.slice none 0 c,.func (.func f) #[] Eh] w (.slice none 0 c):=by
 have ah:∀ (W:aRU),CB 315 #[.slice none 0 c,.func (.func f) #[] Eh] W (.int .i64 (-1)):=by
  intro W;go_enter func315,ntmps315;go_wp2_with fail;go_loopg [8] 0 (fun gk J wr=>J = .int .i64 0/\Bl W wr);case atStart=>exact⟨rfl,Below.refl _ _⟩
  case round =>
   obtain⟨rfl,I⟩:=hrel;have M:=aa I;clear I;go_wp2_with fail;go_ret;exact⟨rfl,M.o⟩
 have Y:=aa ah;clear ah;go_enter func309,ntmps309;go_wp2_with (first | (go_at_call 315; refine jr (Y.o w) ?_;intro af AA));go_ret;exact⟨rfl,AA.o⟩
theorem aH8 (w:aRU) (B g:Nat) (V:aRW) (ax:Rd w 34 (some ⟨g,0,none⟩) 1 V) (iQ:∀ v∈V,v.oneCell'=true) (bf:B<=w.heap.size) :
  Calls prog 312 #[.slice none 0 0,.int .i64 0,.slice (some ⟨g,0,none⟩) 1 1] w fun e w'=>∃ A c,e = .returned (.slice A 1 c)/\Own w' B 224 34 A 1 c V/\Bl w w':=by
 go_enter func312,ntmps312;go_wp2_with (at_builtin;have _t:=ax;go_must ((with_reducible refine vg 224 _ 34 80 underlying213 Rn.info Rn.zs B none 0 0 [] (Own.nil _ _ _ _) 1 V (.slice (some ⟨g,0,none⟩) 1 1) (Src.slice underlying213 ax) iQ ?_ ?_ ?_ ?_ ?_);exact mV;omega;exact bf;exact⟨rfl,rfl⟩;intro dh bH aD I J M));refine aQP (aRg rfl _ _ _) rfl ?_;rw [List.nil_append,Nat.zero_add] at I;exact⟨dh,bH,rfl,I,(Below.refl _ w).grown J (aQF _) (fun k e=>by cases e)⟩
theorem aH9 (w:aRU) {n:Nat} {fU:Nat->List UInt8} {df:Nat->lS} (h:L6 w B aF jP je n fU df bF) (bf:B<=r9/\r9<=w.heap.size) (ay:i < n) (aB:n<=1000) (Dk:bF i=false) (abE:∀ j,j < n->j≠i->fU j≠fU i) (yn:(fU i).length=32) (Rj:(df i).key=fU i)
  (gY:oQ w r9 (df i) L) (eZ:XH (df i)) :
  CR 307 #[pp jP 0,.agg (gP (df i) L).toArray] w (.int .i64 0) fun w'=>L6 w' B (fun q=>aF q\/r9<=q) jP je n fU df (fun j=>j == i || bF j)/\j3 je je w w':=by
 obtain⟨M,uf,Ag,Ah⟩:=h.map;have BC:=(Ah i ay).2 Dk;obtain⟨dO,AU,V,AV⟩:=nq2 (l6 (fU i)) (gP (df i) L);obtain⟨aY,Ae⟩:=ai (w.alloc (.cells V.toArray 224));have I:=gQ Ae;have BD:=kY Ae;obtain⟨g1,Ak⟩:=ai w.heap.size;have BF:∀ W,Bl w W->(Instr.lookup 84 (.map (some je)) (.agg dO.toArray) false).run prog W = .ok (.slice none 0 0) W:=fun W ae=>by
  have:=(uf.below ae uf.lt).auu alK MV underlying84 (none,0,0) (auv W) (Uv yn);rw [Ri,BC] at this;rw [AU,HZ yn];exact this
 have AB:=aa (fun af (ae:Bl aY af)=>show af.cell? (ad jP 1)=some (.map (some je))/\af.cell? (ad jP 0)=some (.int .i64 8)/\aM af g1 V 224 /\ (Instr.lookup 84 (.map (some je)) (.agg dO.toArray) false).run prog af = .ok (.slice none 0 0) af from
  ⟨((h.obj.all I).all ae).cell 1,((h.obj.all I).all ae).cell 0,by rw [Ak];exact BD.all ae,BF af (aU I ae)⟩);have BG:=aa (fun af (ae:Bl aY af)=>aff af (df i) L ((gY.all I).all ae).at_ eZ);have BH:=aa (fun af (ae:Bl aY af)=>aus af r9 (df i) L ((gY.all I).all ae) (aQG bf.2 (aU I ae).size) ⟨by have:=eZ.few.1;omega,eZ.few.2⟩);have Bg:=aa (fun af (ae:Bl aY af)=>show eU af prog 59 Sn je M.length M from uf.below (aU I ae) uf.lt);have Bh:M.length<=n:=by
  have Bi:=akI (uf.AL MV);have:=XA (l:=M.map (·.1)) (m:=(List.range n).map fU) Bi fun x ah=>by
   obtain⟨y,hy,rfl⟩:=aQO.1 ah;obtain⟨j,aC,e⟩:=Ag y hy;exact aQO.2 ⟨j,aQ3.2 aC,e.symm⟩
  simpa using this
 have Bj:M.length < maxLen:=by unfold maxLen;omega
 have Bn:keyOf prog 59 (.agg dO.toArray)=some (.string (fU i)):=by have:=Uv yn;rw [Ri] at this;rw [AU,HZ yn];exact this
 have Bp:=aa (fun (AP AX:aRU) (A:aRV) (c:Nat) (J:qw) (ae:Bl aY AP) (Bq:Own AP B 224 34 A 1 c (gP (df i) J)) (Al:oQ AP r9 (df i) J) (hm:eU AX prog 59 Sn je (M.length+1) (oI M (fU i) (A,1,c))) (Am:fV je AP AX) =>
   show L6 AX B (fun q=>aF q\/r9<=q) jP je n fU df (fun j=>j == i || bF j)/\j3 je je w AX from by
  have Y:=aU I ae;have BK:∃ o,AP.heap[je]?=some o/\o.isCells=false:=by obtain⟨es,Ct,Br,_⟩:=uf.below Y uf.lt;exact⟨_,Br,rfl⟩
  have AQ:∀ {aO n c:Nat} {t:TypeId} {A:aRV} {xs:aRW},Own AP B t aO A n c xs->Own AX B t aO A n c xs:=fun {aO n c t A xs} ah=>ah.keep fun k hk _ _=>Am.2.2.2.2 k (by
   rintro rfl;obtain⟨_,_,cur,aZ,hc⟩:=ah.block k hk;obtain⟨o,AZ,Ao⟩:=BK;rw [hc] at AZ;cases AZ;cases Ao);refine⟨⟨(h.obj.all Y).dG Am (by
   rintro rfl;obtain⟨o,AZ,Ao⟩:=BK;rw [h.obj.all Y] at AZ;cases AZ;cases Ao),h.far,_,hm.tight,fun x ah=>?_,fun j aC=>?_⟩,(j3.gN Y).trans (j3.um Am)⟩
  ·rcases XF ah with rfl | ah
   ·exact⟨i,ay,rfl⟩
   ·exact Ag x (aRs.1 ah).1
  ·by_cases Af:j=i
   ·subst Af;refine⟨fun _=>⟨_,ME _ _ _,rfl,J,AQ Bq,⟨AQ (Al.mono bf.1).reads,AQ (Al.mono bf.1).outs⟩,fun q Ap=>.inr (Al.reads.block q Ap).1⟩,fun e=>?_⟩;simp at e
   ·have BL:=abE j aC Af;obtain⟨h1,Bt⟩:=Ah j aC;refine⟨fun e=>?_,fun e=>?_⟩
    ·obtain⟨x,C8,CF,CG,CJ,BN,CK⟩:=h1 (by simpa [Af] using e);exact⟨x,by rw [MF _ _ BL,C8],CF,CG,AQ (CJ.below Y (aQF _)),⟨AQ (BN.all Y).reads,AQ (BN.all Y).outs⟩,fun q Ap=>.inl (CK q Ap)⟩
    ·rw [MF _ _ BL];exact Bt (by simpa [Af] using e));have CL:=aa I;have BO:=aa bf;have BP:(V.drop 0).take dO.length=dO:=by
  rw [AV,AU,rC,<- Rj,List.drop_zero,gP,List.take_append_of_le_length (by rw [rC];exact Nat.le_refl _),List.take_of_length_le (by rw [rC];exact Nat.le_refl _)]
 have BR:Sz 59 dO.length:=by rw [AU,rC];exact kr
 have BS:Sz 224 V.length:=by rw [AV];exact Pe _ _
 have Cu:(V.drop 0).take V.length=V:=by simp
 rw [<- AV];rw [<- AV] at BG BH;have CQ:=Ae.symm;have CS:=Ak.symm;clear h bf ay aB Dk abE yn Rj gY eZ uf Ag Ah BC AU AV Ae I BD BF Bh Ak;go_enter func307,ntmps307;have CU:=aa (AB.o aY (Below.refl _ _)).2.2.1;go_wp2_with (first|(with_reducible refine kG CU.o underlying224 BS ?_)|(go_at_call 168; refine jr (BG.o aY (Below.refl _ _)) ?_;intro Aa Aq));clear CS CQ;have kR:=aa fun af (aj:Bl Aa af)=>AB.o af (aU Aq.o aj);refine nz nH 9 [some (pp jP 0),some (pp jP 0),some (pp jP 1),some (.map (some je)),some (pp g1 0),some (.agg dO.toArray),some (.slice none 0 0),some (.func (.func 310) #[] #[pp g1 0]),some (.slice none 0 0)] (fun _ _ _=>False) (Bl Aa) Bl ((Below.refl _ Aa).drew) (fun j v w1 af ae h=>h.elim) ?_ (jI:=?_)
 ·intro u af aj Av;clear Av;have Az:=aa (aU Aq.o aj);clear aj;have CV:=aa (AB.o af Az.o).2.2.1;have hcs:∀ J,(Value.agg (gP (df i) J).toArray).cells.size=34:=fun J=>by simp [Value.cells,Eb]
  go_wp2_with (first|(with_reducible refine kG CV.o underlying224 BS ?_)|(go_at_call 313; refine (BH.o af Az.o).mono ?_;rintro e CW ⟨J,rfl,BU,BX⟩;have CY:=aa BU;have Ac:=aa (aU Az.o BX);clear BU BX)|((with_reducible refine Ba Rn (.agg (gP (df i) J).toArray) (hcs J) rfl ?_);intro bn BB AA;rw [qK] at BB;have CZ:=aa BB;have Ca:=aa (CY.o.all AA);have BZ:=aa (aU Ac.o AA);clear BB AA)|(go_at_call 312; refine (aH8 bn B CW.heap.size _ CZ.o (M8 _ _) (aQG (aQG BO.o.1 BO.o.2) (aU CL.o BZ.o).size)).mono ?_;rintro e Ad ⟨dh,bH,rfl,Bb,AA⟩;have Bc:=aa Bb;have Cc:=aa (Ca.o.all AA);have Ac:=aa (aU BZ.o AA);clear Bb AA));have Ce:(1:Int)<=bH:=by have:=Bc.o.2.1;omega
  have kR:=aa fun af (aj:Bl Ad af)=>AB.o af (aU Ac.o aj);refine nz nH 15 [some (pp jP 0),some (pp jP 0),some (pp jP 1),some (.map (some je)),some (pp g1 0),some (.agg dO.toArray),some (.slice dh 1 bH),some (.slice dh 1 bH),some (.int .i64 1),some (pp jP 0),some (pp jP 0),some (pp jP 0),some (.int .i64 8),some (.int .i64 1),some (.slice dh 1 bH)] (fun _ _ _=>False) (Bl Ad) Bl ((Below.refl _ Ad).drew) (fun j v w1 af ae h=>h.elim) ?_ (jI:=?_)
  ·intro u af aj Av;clear Av;have Be:=aa (aU Ac.o aj);have Cf:=aa (Bc.o.below aj (aQF _));have Cg:=aa (Cc.o.all aj);clear aj Ce;go_wp2_with (first|((with_reducible refine aee (Bg.o _ Be.o) alK MV underlying84 Bj (.agg dO.toArray) (fU i) Bn (dh,1,bH) ?_ ?_);exact⟨rfl,rfl,rfl⟩;refine zN ?_;intro rZ Cj Ck));go_ret;exact⟨rfl,Bp.o _ rZ dh bH J Be.o Cf.o Cg.o Cj.o Ck.o⟩
  ·repeat' (first | exact trivial | apply And.intro)
   all_goals try exact rx
   all_goals intro eQ u af aj aL bz K aR
   all_goals try simp [iX,Region.binds] at bz
   all_goals refine mg rfl ?_
   all_goals obtain⟨Cm,Co,kr,Cr⟩:=AB.o af (aU Ac.o aj)
   ·refine wp_load_row g1 0 V dO _ kr BP _ underlying59 BR ⟨rfl,by simp [Act.eval,aL,bz],rfl⟩ ?_;exact aR _ _ rfl aj (Below.refl _ _)
 ·repeat' (first | exact trivial | apply And.intro)
  all_goals try exact rx
  all_goals intro eQ u af aj aL bz K aR
  all_goals try simp [iX,Region.binds] at bz
  all_goals refine mg rfl ?_
  all_goals obtain⟨Cm,Co,kr,Cr⟩:=AB.o af (aU Aq.o aj)
  ·refine wp_load_row g1 0 V dO _ kr BP _ underlying59 BR ⟨rfl,by simp [Act.eval,aL,bz],rfl⟩ ?_;exact aR _ _ rfl aj (Below.refl _ _)
  ·go_simp;refine (aH7 af 0 310 #[pp g1 0]).mono ?_;rintro e aD ⟨rfl,Bf⟩;exact aR _ _ rfl (aU aj Bf) Bf
end
section
open Go.RowKit Go.Shelf
theorem auz {o:Nat} (h:w.cell? (ad b o)=some v):b < w.heap.size:=by
 rcases aQW b w.heap.size with h1 | h1
 ·exact h1
 ·unfold World.cell? at h;rw [Array.getElem?_eq_none h1] at h;cases h
theorem aIc (x:ak × ak):(prog.info? 65).map (·.size)=some (fI x).length:=kr
theorem abG (x:ak × ak):∀ v∈fI x,v.oneCell'=true:=by simp [fI,Value.oneCell']
theorem Su (x:ak × ak):(fI x).length=2:=rfl
theorem aId (w:aRU) (A B:aRV) (c d n:Nat) (xs:List (ak × List UInt8)) (ys:List (ak × ak)) (hA:Rd w 33 A n (cK mi xs)) (bf:Rd w 2 B n (cK fI ys)) (ah:xs.length=n) (hy:ys.length=n) (aB:n<=1000000) (f:Nat) (iI:Array Value) (vz:Enters prog f)
  (hf:∀ W,Bl w W->∀ (k:Nat) x y,xs[k]?=some x->ys[k]?=some y->Calls prog f (#[.agg (mi x).toArray,.agg (fI y).toArray]++iI) W fun e w'=>e = .returned (.bool true)/\Bl W w') :
  CB 305 #[.slice A n c,.slice B n d,.func (.func f) #[] iI] w (.bool true):=by
 have Bb:∀ (args:Array Value) (w:aRU),(callFunc f args).run prog w = .ok (.enter f args) w:=vz;obtain⟨Ap,Aq,AZ,Aa,Av⟩:=hq5 hA bf ah hy hf;clear hA bf ah hy hf vz;go_enter func305,ntmps305;go_wp2_with fail;go_loopg [17] n (fun gk Az wr=>∃ j:Nat,j+gk=n/\Az = .int .i64 j/\Bl w wr);case atStart=>exact⟨0,om,rfl,Below.refl _ _⟩
 case round =>
  obtain⟨j,aC,rfl,M⟩:=hrel;have Bc:(0:Int)<=j:=om;by_cases Ac:j < n
  ·have BB:(j:Int) < n:=om;obtain⟨x,ah⟩:∃ x,xs[j]?=some x:=⟨_,aQI (by rw [AZ.o];exact Ac)⟩;obtain⟨y,hy⟩:∃ y,ys[j]?=some y:=⟨_,aQI (by rw [Aa.o];exact Ac)⟩;obtain⟨fo,Be,rfl,AP⟩:=vG (f:=mi) (k:=33) H8 underlying268 rfl kr (Ap.o.gz M) ah AZ.o;obtain⟨X,I⟩:=ai (mi x);obtain⟨BC,AA⟩:=ai (wr.alloc (.cells X.toArray 268));have Ad:=gQ AA;have Ae:=kY AA;have AQ:=aU M Ad;have Af:Sz 268 X.length:=by rw [I];exact aak x
   have BD:X.length=33:=by rw [I];exact (H8) x
   have BF:∀ v∈X,v.oneCell'=true:=by rw [I];exact UI x
   have Bf:(X.drop 0).take X.length=X:=by simp
   obtain⟨Bg,Bh,rfl,AU⟩:=vG (f:=fI) (k:=2) Su underlying65 rfl kr (Aq.o.gz AQ) hy Aa.o;obtain⟨Y,J⟩:=ai (fI y);obtain⟨cO,AB⟩:=ai (BC.alloc (.cells Y.toArray 65));have AV:=gQ AB;have Ag:=kY AB;have Ah:=Ae.all AV;have Ak:=aU AQ AV;have Al:Sz 65 Y.length:=by rw [J];exact aIc y
   have BG:Y.length=2:=by rw [J];exact (Su) y
   have BH:∀ v∈Y,v.oneCell'=true:=by rw [J];exact abG y
   have Bi:(Y.drop 0).take Y.length=Y:=by simp
   have AX:=fun W (ae:Bl w W)=>Av.o W ae j x y ah hy;rw [<- I,<- J] at AX;rw [<- I] at AP;rw [<- J] at AU;obtain⟨BK,BL,BN,BO,Am,BP⟩:=hq6 AP AU Ah Ag Ak AX;have BR:=AA.symm;have BS:=AB.symm;obtain⟨g3,BU⟩:=ai wr.heap.size;clear AP AU Ae Ag Ah AQ Ak ah hy I J AX AA AB M Ad AV BU;go_wp2_with (first|((with_reducible refine pO BK.o ?_ ?_);exact rfl)|(with_reducible refine zx X BD Af BF ?_)|((with_reducible refine pO BL.o ?_ ?_);exact rfl)|(with_reducible refine zx Y BG Al BH ?_)|(with_reducible refine kG BN.o underlying268 Af ?_)|(with_reducible refine kG BO.o underlying65 Al ?_)|(refine (BP.o cO Am.o).mono ?_;rintro e bn ⟨rfl,Ao⟩;have BX:=aa (aU Am.o Ao);clear Ao BR BS));go_roundg (gk - 1);case rel=>exact⟨j+1,om,by go_num,BX.o⟩
   case measure=>omega
  ·have BB:¬ (j:Int) < n:=om;have BZ:=aa M;clear M;go_wp2_with fail;go_ret;exact⟨rfl,BZ.o⟩
theorem aIe (w:aRU) (A B:aRV) (c d n:Nat) (xs:List (ak × List UInt8)) (ys:List (ak)) (hA:Rd w 33 A n (cK mi xs)) (bf:Rd w 1 B n (cB ys)) (ah:xs.length=n) (hy:ys.length=n) (aB:n<=1000000) (f:Nat) (iI:Array Value) (vz:Enters prog f)
  (hf:∀ W,Bl w W->∀ (k:Nat) x y,xs[k]?=some x->ys[k]?=some y->Calls prog f (#[.agg (mi x).toArray,.string (aA y)]++iI) W fun e w'=>e = .returned (.bool true)/\Bl W w') :
  CB 166 #[.slice A n c,.slice B n d,.func (.func f) #[] iI] w (.bool true):=by
 have BO:∀ (args:Array Value) (w:aRU),(callFunc f args).run prog w = .ok (.enter f args) w:=vz;obtain⟨Am,Ao,AX,Ap,Aq⟩:=hq5 hA bf ah hy hf;clear hA bf ah hy hf vz;go_enter func166,ntmps166;go_wp2_with fail;go_loopg [17] n (fun gk Av wr=>∃ j:Nat,j+gk=n/\Av = .int .i64 j/\Bl w wr);case atStart=>exact⟨0,om,rfl,Below.refl _ _⟩
 case round =>
  obtain⟨j,aC,rfl,I⟩:=hrel;have BP:(0:Int)<=j:=om;by_cases AZ:j < n
  ·have Az:(j:Int) < n:=om;obtain⟨x,ah⟩:∃ x,xs[j]?=some x:=⟨_,aQI (by rw [AX.o];exact AZ)⟩;obtain⟨y,hy⟩:∃ y,ys[j]?=some y:=⟨_,aQI (by rw [Ap.o];exact AZ)⟩;obtain⟨fo,BR,rfl,AB⟩:=vG (f:=mi) (k:=33) H8 underlying268 rfl kr (Am.o.gz I) ah AX.o;obtain⟨X,J⟩:=ai (mi x);obtain⟨Aa,M⟩:=ai (wr.alloc (.cells X.toArray 268));have AP:=gQ M;have Ac:=kY M;have Ad:=aU I AP;have Ae:Sz 268 X.length:=by rw [J];exact aak x
   have BB:X.length=33:=by rw [J];exact (H8) x
   have BC:∀ v∈X,v.oneCell'=true:=by rw [J];exact UI x
   have BS:(X.drop 0).take X.length=X:=by simp
   obtain⟨AA,Af,rfl,Ag⟩:=(Ao.o.gz I).2 om;have AQ:wr.cell? (ad AA (Af+j))=some (.string (aA y)):=Ag j _ (by simp [cB,hy]);have Ah:Aa.cell? (ad AA (Af+j))=some (.string (aA y)):=by have BD:AA < wr.heap.size:=auz AQ;rw [<- AQ];unfold World.cell?;rw [AP.block AA BD]
   obtain⟨Y,AU⟩:=ai (aA y);have AV:=fun W (ae:Bl w W)=>Aq.o W ae j x y ah hy;rw [<- J,<- AU] at AV;rw [<- J] at AB;rw [<- AU] at Ah;obtain⟨BF,BG,Ak,BH⟩:=hq4 AB Ac Ad AV;have BK:=M.symm;clear AB Ac Ad ah hy J AU AV M I Ag AQ AP;go_wp2_with (first|((with_reducible refine pO BF.o ?_ ?_);exact rfl)|(with_reducible refine zx X BB Ae BC ?_)|(with_reducible refine kG BG.o underlying268 Ae ?_)|(refine (BH.o Aa Ak.o).mono ?_;rintro e bn ⟨rfl,Al⟩;have BL:=aa (aU Ak.o Al);clear Al BK Ah));go_roundg (gk - 1);case rel=>exact⟨j+1,om,by go_num,BL.o⟩
   case measure=>omega
  ·have Az:¬ (j:Int) < n:=om;have BN:=aa I;clear I;go_wp2_with fail;go_ret;exact⟨rfl,BN.o⟩
end
section
open Go.Maps Go.RowKit Go.Shelf
theorem auB (w:aRU) (d:aR0) (aS:d.length=32) (x:ak) (hs:x.length<=1000000000):CB 175 #[.agg (l6 d).toArray,.string (aA x)] w (.bool (bP.sum x == d)):=by
 obtain⟨I,J,dO,Y,AP,AQ,r,ax⟩:=nq4 (aA x) (l6 d) (bQ (bP.sum x)) (bP.sum x == d);obtain⟨aH,AA⟩:=ai (w.alloc (.cells dO.toArray 59));have AU:=gQ AA;obtain⟨g1,AB⟩:=ai w.heap.size;have AV:=aa (show aM aH g1 dO 59 by rw [AB,AA];exact aM.new w _ _);have AZ:=aa (fun (W:aRU) (g:Nat) (h:Rd W 1 (some ⟨g,0,none⟩) 1 [.string I])=>by
  have:=Xb W g I (by rw [J,iP];exact hs) h;rw [show I.data.toList=x by rw [J,gZ],<- AQ] at this;exact this);have Aa:=aa (fun (W:aRU)=>show (binOp .eql 59 (.agg AP.toArray) (.agg dO.toArray)).run prog W = .ok (.bool r) W by rw [AQ,Y,ax,HZ aS];exact apY _ _ (yK _) aS W);have Ac:prog.eqGuardType prog.depth 59 = false:=kr;have Ad:(dO.drop 0).take dO.length=dO:=by simp
 have Ae:Sz 59 dO.length:=by rw [Y,rC];exact kr
 have Af:=aa AU;rw [<- J,<- Y,<- ax];have Ag:=AA.symm;have Ah:=AB.symm;have Ak:=aa AB;clear J Y AQ ax AA AU AB hs aS;go_enter func175,ntmps175;go_wp2_with fail;clear Ah Ag;have kR:=aa fun af (aj:Bl aH af)=>AV.o.all aj;refine nz nH 5 [some (.string I),none,some (.agg AP.toArray),some (.agg dO.toArray),some (.bool r)] (fun j v af=>j=1->∃ g,v = .slice (some ⟨g,0,none⟩) 1 1/\aM af g [.string I] 9) (Bl aH) Bl ((Below.refl _ aH).drew) (fun j v w1 af ae=>fun h e=>(by obtain⟨g,Al,Am⟩:=h e;exact⟨g,Al,Am.all ae⟩)) ?_ (jI:=?_)
 ·intro u af aj Ao;clear Ao;have Ap:=aa aj;clear aj;go_wp2_with fail;go_ret;rw [Ak.o];exact⟨rfl,aU Af.o Ap.o⟩
 ·repeat' (first | exact trivial | apply And.intro)
  all_goals try exact rx
  all_goals intro eQ u af aj aL bz K aR
  all_goals try simp [iX,Region.binds] at bz
  all_goals refine mg rfl ?_
  all_goals have kr:=AV.o.all aj
  ·refine Nv Aj (.string I) rfl rfl (by simp [Act.eval,aL,bz]) ?_;exact aR _ _ (fun _=>⟨_,rfl,aM.new af [.string I] _⟩) (aj.alloc aj.size _) iD
  ·obtain⟨g,Aq,av⟩:=bz;go_simp;refine (AZ.o af g (afh av rfl)).mono ?_;rintro e aD ⟨rfl,AX⟩;exact aR _ _ rfl (aU aj AX) AX
  ·refine wp_load_row g1 0 dO dO _ kr Ad _ underlying59 Ae ⟨rfl,by simp [Act.eval,aL],rfl⟩ ?_;exact aR _ _ rfl aj (Below.refl _ _)
  ·refine arI AP.toArray dO.toArray (.bool r) Ac (Aa.o af) ⟨rfl,by simp [Act.eval,aL,bz],by simp [Act.eval,aL,bz]⟩ ?_;exact aR _ _ rfl aj (Below.refl _ _)
theorem aIf (w:aRU) (x:ak × List UInt8) (y:ak × ak) (h1:x.1=y.1) (ag:x.2=bP.sum y.2) (hl:y.1.length<=1000000/\y.2.length<=1000000000) :
  Calls prog 304 (#[.agg (mi x).toArray,.agg (fI y).toArray]++#[]) w fun e w'=>e = .returned (.bool true)/\Bl w w':=by
 have AZ:x.2.length=32:=by rw [ag];exact yK _
 obtain⟨I,J,P,AP,M,AQ,dO,Y⟩:=nq4 (mi x) (aA y.1) (aA y.2) (l6 x.2);have hf:fI y=[.string P,.string M]:=by rw [AP,AQ];rfl
 obtain⟨aH,AA⟩:=ai (w.alloc (.cells I.toArray 268));obtain⟨aY,AB⟩:=ai (aH.alloc (.cells #[.string P,.string M] 65));have Aa:=gQ AA;have AU:=gQ AB;have AV:aM aY w.heap.size I 268:=by refine aM.all ?_ AU;rw [AA];exact aM.new w _ _
 have AX:=kY AB;have Al:aY.cell? (ad w.heap.size 0)=some (.string P):=by rw [AV.cell 0,J,AP,<- h1];rfl
 have Am:=AX.cell 0;have Ao:=AX.cell 1;have Ad:(I.drop 1).take dO.length=dO:=by rw [J,Y,mi];simp
 have Ae:Sz 59 dO.length:=by rw [Y,rC];exact kr
 have Af:=aa (fun (W:aRU)=>by
  have:=auB W x.2 AZ y.2 hl.2;rw [show (bP.sum y.2 == x.2)=true by rw [ag];simp,<- Y,<- AQ] at this;exact this);have Ag:=aa (aU Aa AU);have Ah:=aa AV;rw [<- J,hf,show [Value.string P,Value.string M].toArray=#[.string P,.string M] from rfl];have Ap:=AA.symm;have Aq:=AB.symm;clear J AP AQ Y hf AA AB Aa AU AV AX h1 ag AZ hl;go_enter func304,ntmps304;go_wp2_with (first|((with_reducible refine Lh w.heap.size 1 I dO _ Ah.o Ad _ underlying59 Ae ?_ ?_);exact⟨⟨_,_,rfl,rfl,rfl⟩,rfl,rfl⟩)|(go_at_call 175; refine (Af.o aY).mono ?_;rintro e aD ⟨rfl,Ac⟩;have Ak:=aa (aU Ag.o Ac);clear Ac));go_ret;exact⟨rfl,Ak.o⟩
theorem aIg (w:aRU) (x:ak × List UInt8) (y:ak) (h1:x.1=y):Calls prog 167 (#[.agg (mi x).toArray,.string (aA y)]++#[]) w fun e w'=>e = .returned (.bool true)/\Bl w w':=by
 obtain⟨AA,J,P,M⟩:=nq2 (mi x) (aA y);obtain⟨aH,I⟩:=ai (w.alloc (.cells AA.toArray 268));have AB:=aa (gQ I);have Y:=kY I;have AP:aH.cell? (ad w.heap.size 0)=some (.string P):=by rw [Y.cell 0,J,M,<- h1];rfl
 rw [<- J,<- M];have AQ:=I.symm;clear J M I Y h1;go_enter func167,ntmps167;go_wp2_with fail;go_ret;exact⟨rfl,AB.o⟩
structure uC where
 B:Nat
 jN:Nat
 jP:Nat
 je:Nat
 gs:Nat
 lT:Nat
def Ep (l:uC):Value:=.iface 90 (pp l.jN 0)
def Ka (M:fA ak):Nat:=(M.map (·.2.length)).sum
structure Sv (met:List ak) (M:fA ak) (has:ak->Bool):Prop where
 all:∀ x∈M,x.2∈met/\x.1=bP.sum x.2/\x.2.length<=65536
 has:∀ x,has x=true ↔ getM M (bP.sum x)=some x
structure qA (W:aRU) (l:uC) (aF:aR1) (n:Nat) (fU:Nat->List UInt8) (df:Nat->lS) (met:List ak) (bF:Nat->Bool) (has:ak->Bool):Prop where
 row:aM W l.jN [pp l.jP 0,pp l.gs 0] 92
 bF:L6 W l.B aF l.jP l.je n fU df bF
 store:∃ M:fA ak,BJ W l.gs l.lT M.length M (Ka M:Int)/\Sv met M has
 far:l.B<=l.jN/\l.B<=l.gs/\l.B<=l.lT
 ne:l.je≠l.lT
theorem qA.all {W:aRU} {l:uC} {n:Nat} {fU:Nat->List UInt8} {df:Nat->lS} (h:qA W l aF n fU df met bF has) (ae:Bl W W'):qA W' l aF n fU df met bF has:=by obtain⟨M,h1,I⟩:=h.store;exact⟨h.row.all ae,h.bF.all ae,⟨M,h1.below ae h1.lt.1 h1.lt.2,I⟩,h.far,h.ne⟩
theorem aIh (w:aRU) (jP gs:Nat):CR 13 #[pp jP 0,pp gs 0] w (.iface 90 (pp w.heap.size 0)) fun w'=>aM w' w.heap.size [pp jP 0,pp gs 0] 92 /\ Bl w w':=by go_enter func13,ntmps13;go_wp2_with fail;go_ret;exact⟨rfl,aM.new w _ _,iD⟩
def IB (w:aRU) (n:Nat) (df:Nat->lS) (B i N:Nat) (v:Value) (w':aRU):Prop:=∃ A c,v = .slice A N c/\(0 < N->∃ L,Own w' w.heap.size 224 34 A 1 c (gP (df i) L)/\oQ w' B (df i) L)
theorem IB.keep {w1:aRU} {n:Nat} {df:Nat->lS} {N:Nat} (h:IB w n df B i N v w1) (ae:Bl w1 af):IB w n df B i N v af:=by obtain⟨A,c,e,h1⟩:=h;refine⟨A,c,e,fun I=>?_⟩;obtain⟨L,J,M⟩:=h1 I;exact⟨L,J.below ae (aQF _),M.all ae⟩
theorem aIi (w:aRU) {l:uC} {n:Nat} {fU:Nat->List UInt8} {df:Nat->lS} (h:qA w l aF n fU df met bF has) (bf:l.B<=w.heap.size) (ay:i < n) (yn:(fU i).length=32) (hl:(df i).reads.length<=1000/\(df i).outs.length<=1000) :
  Calls prog 303 #[pp l.jN 0,.agg (l6 (fU i)).toArray] w fun e w'=>∃ v,e = .returned v/\IB w n df l.B i (if bF i=true then 1 else 0) v w'/\Bl w w':=by
 obtain⟨N,J,dO,Y⟩:=nq2 (if bF i=true then 1 else 0) (l6 (fU i));obtain⟨aH,AA⟩:=ai (w.alloc (.cells dO.toArray 59));have I:=gQ AA;have AX:=kY AA;obtain⟨g1,AB⟩:=ai w.heap.size;obtain⟨B,jN,jP,je,gs,lT⟩:=l;simp only at bf |-;have AP:=h.row;have AU:=h.bF;simp only at AP AU;have AZ:=aa (fun af (ae:Bl aH af)=>show af.cell? (ad jN 0)=some (pp jP 0)/\af.cell? (ad jN 1)=some (pp gs 0)/\aM af g1 dO 59 from
  ⟨((AP.all I).all ae).cell 0,((AP.all I).all ae).cell 1,by rw [AB];exact AX.all ae⟩);have Ag:=aa (fun af (ae:Bl aH af)=>show Calls prog 308 #[pp jP 0,.agg dO.toArray] af fun e w'=>∃ A c,e = .returned (.slice A N c)/\(0 < N->∃ L,Own w' af.heap.size 224 34 A 1 c (gP (df i) L)/\oQ w' B (df i) L)/\Bl af w' from by
  have:=aH0 af ((AU.all I).all ae) (aQG bf (aU I ae).size) ay yn hl;rw [<- Y,<- J] at this;refine this.mono ?_;rintro e aD ⟨A,c,Ah,h1,AV⟩;exact⟨A,c,Ah,fun Aa=>h1 (by rw [J] at Aa;split at Aa;assumption;omega),AV⟩);have Ac:=aa I;have Ak:=aa AB;have Al:(dO.drop 0).take dO.length=dO:=by simp
 have Am:Sz 59 dO.length:=by rw [Y,rC];exact kr
 rw [<- Y,<- J];have Ao:=AA.symm;have Ap:=AB.symm;clear h bf ay yn hl J Y AA I AX AB AP AU;go_enter func303,ntmps303;go_wp2_with fail;clear Ap Ao;have kR:=AZ;refine nz nH 6 [some (pp jN 0),some (pp jN 0),some (pp jN 0),some (pp jP 0),some (.agg dO.toArray),none] (fun j v af=>j=5->IB w n df B i N v af) (Bl aH) Bl ((Below.refl _ aH).drew) (fun j v w1 af ae=>fun h e=>(h e).keep ae) ?_ (jI:=?_)
 ·intro u af aj Ad;obtain⟨dh,bH,Ae,AQ⟩:=(show 5=5->IB w n df B i N (u 5) af from Ad 5 om) rfl;clear Ad;simp only [Ae];have Aq:=aa aj;have Av:=aa AQ;clear aj AQ Ae;go_wp2_with fail;go_ret;rw [Ak.o];exact⟨_,rfl,⟨dh,bH,rfl,Av.o⟩,aU Ac.o Aq.o⟩
 ·repeat' (first | exact trivial | apply And.intro)
  all_goals try exact rx
  all_goals intro eQ u af aj aL bz K aR
  all_goals try simp [iX,Region.binds] at bz
  all_goals refine mg rfl ?_
  all_goals obtain⟨Az,BB,kr⟩:=AZ.o af aj
  ·refine wp_load_row g1 0 dO dO _ kr Al _ underlying59 Am ⟨rfl,by simp [Act.eval,aL],rfl⟩ ?_;exact aR _ _ rfl aj (Below.refl _ _)
  ·go_simp;refine (Ag.o af aj).mono ?_;rintro e aD ⟨A,c,rfl,h1,Af⟩;exact aR _ _ (fun _=>⟨A,c,rfl,fun h=>(by obtain⟨L,AV,AQ⟩:=h1 h;exact⟨L,AV.mono (aQG Ac.o.size aj.size),AQ⟩)⟩) (aU aj Af) Af
theorem aIj (w:aRU) {l:uC} {n:Nat} {fU:Nat->List UInt8} {df:Nat->lS} (h:qA w l aF n fU df met bF has) (x:ak) (ah:has x=true) :
  CB 301 #[pp l.jN 0,.agg (l6 (bP.sum x)).toArray] w (.tuple #[.string (aA x),.bool true]):=by
 obtain⟨M,I,AV⟩:=h.store;have av:=(AV.has x).1 ah;obtain⟨S,AQ,b,AU,dO,Y⟩:=nq3 (aA x) true (l6 (bP.sum x));obtain⟨aH,AA⟩:=ai (w.alloc (.cells dO.toArray 59));have J:=gQ AA;have AX:=kY AA;obtain⟨g1,AB⟩:=ai w.heap.size;obtain⟨B,jN,jP,je,gs,lT⟩:=l;have AP:=h.row;simp only at AP I |-;have AZ:=aa (fun af (ae:Bl aH af)=>show af.cell? (ad jN 0)=some (pp jP 0)/\af.cell? (ad jN 1)=some (pp gs 0)/\aM af g1 dO 59 from
  ⟨((AP.all J).all ae).cell 0,((AP.all J).all ae).cell 1,by rw [AB];exact AX.all ae⟩);have Ac:=aa (fun af (ae:Bl aH af)=>show CB 29 #[pp gs 0,.agg dO.toArray] af (.tuple #[.string S,.bool b]) from by
  have:=aCT af gs lT M.length M _ ((I.below J I.lt.1 I.lt.2).below ae (aQJ I.lt.1 J.size) (aQJ I.lt.2 J.size)) (bP.sum x) (yK _);rw [av] at this;rw [Y,AQ,AU,HZ (yK _)];exact this);have Ad:=aa J;have Ae:=aa AB;have Af:(dO.drop 0).take dO.length=dO:=by simp
 have Ag:Sz 59 dO.length:=by rw [Y,rC];exact kr
 rw [<- Y,<- AQ];have Ah:=AA.symm;have Ak:=AB.symm;have Al:=aa AU;clear h I AV av ah Y AQ AU AA J AX AB AP;go_enter func301,ntmps301;go_wp2_with fail;clear Ak Ah;have kR:=AZ;refine nz nH 8 [some (pp jN 0),some (pp jN 0),some (pp jN 1),some (pp gs 0),some (.agg dO.toArray),some (.tuple #[.string S,.bool b]),some (.string S),some (.bool b)] (fun _ _ _=>False) (Bl aH) Bl ((Below.refl _ aH).drew) (fun j v w1 af ae h=>h.elim) ?_ (jI:=?_)
 ·intro u af aj Am;clear Am;have Ao:=aa aj;clear aj;go_wp2_with fail;refine aQP (aRc rfl _ _ _) rfl ?_;rw [Ae.o];exact⟨by rw [Al.o];rfl,aU Ad.o Ao.o⟩
 ·repeat' (first | exact trivial | apply And.intro)
  all_goals try exact rx
  all_goals intro eQ u af aj aL bz K aR
  all_goals try simp [iX,Region.binds] at bz
  all_goals refine mg rfl ?_
  all_goals obtain⟨Ap,Aq,kr⟩:=AZ.o af aj
  ·refine wp_load_row g1 0 dO dO _ kr Af _ underlying59 Ag ⟨rfl,by simp [Act.eval,aL],rfl⟩ ?_;exact aR _ _ rfl aj (Below.refl _ _)
  ·go_simp;refine (Ac.o af aj).mono ?_;rintro e aD ⟨rfl,Aa⟩;exact aR _ _ rfl (aU aj Aa) Aa
structure xe (l:uC) (w w':aRU):Prop where
 os:w'.os=w.os
 tape:w'.tape=w.tape
 output:w'.output=w.output
 size:w.heap.size<=w'.heap.size
 block:∀ k,k < w.heap.size->k≠l.je->k≠l.gs->k≠l.lT->w'.heap[k]?=w.heap[k]?
section
variable {l:uC} {x y z:aRU}
theorem xe.gN (h:Bl x y):xe l x y:=⟨h.os,h.tape,h.output,h.size,fun k hk _ _ _=>h.block k hk⟩
theorem xe.trans (h:xe l x y) (k:xe l y z):xe l x z:=⟨k.os.trans h.os,k.tape.trans h.tape,k.output.trans h.output,aQG h.size k.size,fun i h1 I J M=>(k.block i (aQJ h1 h.size) I J M).trans (h.block i h1 I J M)⟩
theorem xe.store (h:j3 l.gs l.lT x y):xe l x y:=⟨h.os,h.tape,h.output,h.size,fun k hk _ I J=>h.block k hk I J⟩
theorem xe.Ry (h:j3 l.je l.je x y):xe l x y:=⟨h.os,h.tape,h.output,h.size,fun k hk h1 _ _=>h.block k hk h1 h1⟩
end
section
variable {w w':aRU} {l:uC} {aF:aR1} {n:Nat} {fU:Nat->List UInt8} {df:Nat->lS} {met:List ak} {bF:Nat->Bool} {has:ak->Bool} (h:qA w l aF n fU df met bF has)
theorem qA.kinds (h:qA w l aF n fU df met bF has):(∃ o,w.heap[l.je]?=some o/\o.isCells=false)/\(∃ o,w.heap[l.lT]?=some o/\o.isCells=false)/\∃ cs,w.heap[l.gs]?=some (.cells cs 89 (0,0)):=by obtain⟨M,hm,_⟩:=h.bF.map;obtain⟨es,Y,I,_⟩:=hm;obtain⟨M2,hs,_⟩:=h.store;obtain⟨AA,AB,J,_⟩:=hs.map;exact⟨⟨_,I,rfl⟩,⟨_,J,rfl⟩,_,hs.obj⟩
theorem qA.stays (h:qA w l aF n fU df met bF has) (hs:xe l w w') {cs:Array Value} {aZ:Nat × Nat} (hk:w.heap[k]?=some (.cells cs t aZ)) (az:t ≠ 89):w'.heap[k]?=w.heap[k]?:=by
 obtain⟨⟨M,h1,c1⟩,⟨Y,J,c2⟩,AA,I⟩:=h.kinds;refine hs.block k (iw hk) ?_ ?_ ?_
 ·rintro rfl;rw [hk] at h1;cases h1;cases c1
 ·rintro rfl;rw [hk] at I;injection I with I;injection I with _ I;exact az I
 ·rintro rfl;rw [hk] at J;cases J;cases c2
theorem qA.own (h:qA w l aF n fU df met bF has) (hs:xe l w w') {n:Nat} (aG:Own w base t aO A n c xs) (az:t ≠ 89):Own w' base t aO A n c xs:=aG.keep fun k hk _ _=>by
 obtain⟨_,_,cur,aZ,hc⟩:=aG.block k hk;exact h.stays hs hc az
theorem qA.afW (h:qA w l aF n fU df met bF has) (hs:xe l w w') (ax:aM w g V t) (az:t ≠ 89):aM w' g V t:=(h.stays hs ax az).trans ax
end
theorem aIl {k:ak} (h:getM M k=none):I5 M k=M:=by unfold I5;refine List.filter_eq_self.2 fun x ah=>?_;unfold getM at h;have:=List.find?_eq_none.1 (Option.map_eq_none_iff.1 h) x ah;simpa using this
theorem auC (x:ak × ak):∀ M:fA ak,Ka (zk x M)=Ka M+x.2.length
 | []=>by simp [zk,Ka]
 | y :: r=>by
  have:=auC x r;unfold zk;split
  ·simp [Ka];omega
  ·simp only [Ka,List.map_cons,List.sum_cons] at this |-;omega
theorem aIm (h:∀ x∈M,x.2.length<=65536):Ka M<=M.length * 65536:=by
 induction M with
 | nil=>simp [Ka]
 | cons y r I =>
  have h1:=I fun x ah=>h x (by simp [ah]);have J:=h y sp;simp only [Ka,List.map_cons,List.sum_cons,List.length_cons] at h1 |-;omega
def afX (M:fA ak) (x:ak):fA ak:=if (getM M (bP.sum x)).isSome=true then M else oI M (bP.sum x) x
def IC (met:List ak):Prop:=∀ a∈met,∀ b∈met,bP.sum a=bP.sum b->a=b
theorem Sv.some (h:Sv met M has) (bq:IC met) (ah:x∈met) (av:(getM M (bP.sum x)).isSome=true):has x=true:=by obtain⟨y,hy⟩:=aRE.1 av;obtain⟨h1,I,_⟩:=h.all _ (aHL hy);simp only at h1 I;have:=bq x ah y h1 I;subst this;exact (h.has x).2 hy
theorem Sv.put (h:Sv met M has) (bq:IC met) (ah:x∈met) (hl:x.length<=65536):Sv met (afX M x) (fun y=>x == y || has y):=by
 unfold afX;split
 ·rename_i av;have I:=h.some bq ah av;refine⟨h.all,fun y=>?_⟩;rw [<- h.has y];by_cases e:x=y
  ·subst e;simp [I]
  ·simp [e]
 ·rename_i av;have Y:getM M (bP.sum x)=none:=by simpa using av
  refine⟨fun z J=>?_,fun y=>?_⟩
  ·rcases XF J with rfl | J
   ·exact⟨ah,rfl,hl⟩
   ·exact h.all z (aRs.1 J).1
  ·by_cases e:bP.sum y=bP.sum x
   ·rw [e,ME];have hy:has y=false:=by
     cases I:has y with
     | false=>rfl
     | true=>have:=(h.has y).1 I;rw [e,Y] at this;cases this
    rw [hy];simp
   ·rw [MF _ _ e,<- h.has y];have:(x == y)=false:=by rw [beq_eq_false_iff_ne];rintro rfl;exact e rfl
    rw [this,Bool.false_or]
theorem Sv.few (h:Sv met M has) (ax:G6 M):M.length<=met.length:=by
 have h1:(M.map (·.2)).Nodup:=by rw [List.Nodup,List.pairwise_map];refine List.Pairwise.imp_of_mem ?_ ax;intro a b J Y I e;rw [(h.all a J).2.1,(h.all b Y).2.1,e,aa0] at I;cases I
 have:=XA h1 fun x ah=>by
  obtain⟨y,hy,rfl⟩:=aQO.1 ah;exact (h.all y hy).1
 simpa using this
theorem aIn {l:uC} {n:Nat} {fU:Nat->List UInt8} {df:Nat->lS} (h:qA w l aF n fU df met bF has) (bq:IC met) (hm:met.length<=1000) (ah:x∈met) (hl:x.length<=65536) :
  Calls prog 306 #[pp l.gs 0,.string (aA x)] w fun e w'=>(∃ v,e = .returned v)/\qA w' l aF n fU df met bF (fun y=>x == y || has y)/\xe l w w':=by
 obtain⟨M,AB,J⟩:=h.store;have AX:=AB.map.AL MV;have hf:=J.few AX;have Ae:=aIm fun x ah=>(J.all x ah).2.2;refine (aCY w l.gs l.lT M.length M (Ka M) AB om ⟨om,om⟩ (aA x) (by rw [iP];omega)).mono ?_;rw [gZ];rintro e w' ⟨rfl,h1,AP⟩;have ae:xe l w w':=.store AP;refine⟨⟨_,rfl⟩,⟨h.afW ae h.row dc,?_,⟨afX M x,?_,J.put bq ah hl⟩,h.far,h.ne⟩,ae⟩
 ·obtain⟨M2,AQ,AZ,AU⟩:=h.bF.map;refine⟨h.afW ae h.bF.obj dc,h.bF.far,M2,AQ.keep ?_,AZ,fun j aC=>⟨fun e=>?_,(AU j aC).2⟩⟩
  ·refine AP.block _ AQ.lt ?_ h.ne;rintro e;obtain⟨⟨o,I,Y⟩,_,cs,AA⟩:=h.kinds;rw [e,AA] at I;cases I;cases Y
  ·obtain⟨y,I,Y,L,AA,AV,Aa⟩:=(AU j aC).1 e;exact⟨y,I,Y,L,h.own ae AA dc,⟨h.own ae AV.reads dc,h.own ae AV.outs dc⟩,Aa⟩
 ·unfold afX;split
  ·rename_i av;rw [if_pos av,if_pos av,if_pos av] at h1;exact h1
  ·rename_i av;rw [if_neg av,if_neg av,if_neg av,iP] at h1;have Ac:getM M (bP.sum x)=none:=by simpa using av
   have Ad:(Ka M:Int)+x.length=(Ka (oI M (bP.sum x) x):Nat):=by rw [oI,auC,aIl Ac];simp
   rw [Ad] at h1;exact⟨h1.obj,h1.map.tight⟩
structure afY (aH wr:aRU) (l:uC) (aF:aR1) (rW:Nat) (n:Nat) (fU:Nat->List UInt8) (df:Nat->lS) (met:List ak) (bF:Nat->Bool) (has:ak->Bool) (i r9 g4:Nat) (L:qw) (V:aRW) (os:List (ak × ak)) (A:aRV) (N c q:Nat) (zH:ak->Bool):Prop where
 src:qA wr l aF n fU df met bF zH
 eq:∀ y,zH y=((os.take q).any (fun f=>f.2 == y) || has y)
 but:xe l aH wr
 files:Own wr r9 65 2 A N c (cK fI os)
 alR:oQ wr rW (df i) L
 row:aM wr g4 V 224
theorem afY.next {aD:aRU} {l:uC} {rW n:Nat} {fU:Nat->List UInt8} {df:Nat->lS} {os:List (ak × ak)} {N:Nat} {zH:ak->Bool} (h:afY aH wr l aF rW n fU df met bF has i r9 g4 L V os A N c q zH) (ae:Bl wr af) {x:ak × ak} (ah:os[q]?=some x)
  (au:qA aD l aF n fU df met bF (fun y=>x.2 == y || zH y)) (hs:xe l af aD):afY aH aD l aF rW n fU df met bF has i r9 g4 L V os A N c (q+1) (fun y=>x.2 == y || zH y):=by
 have I:=h.src.all ae;refine⟨au,fun y=>?_,h.but.trans ((xe.gN ae).trans hs),I.own hs (h.files.below ae (aQF _)) dc,⟨I.own hs (h.alR.all ae).reads dc,I.own hs (h.alR.all ae).outs dc⟩,I.afW hs (h.row.all ae) dc⟩;rw [h.eq y,List.take_add_one,ah,Option.toList_some,List.any_append];simp only [List.any_cons,List.any_nil,Bool.or_false];cases (x.2 == y) <;> simp
theorem aIo (w:aRU) {l:uC} {n:Nat} {fU:Nat->List UInt8} {df:Nat->lS} (h:qA w l aF n fU df met bF has) {rW:Nat} (bf:l.B<=rW/\rW<=w.heap.size) (bq:IC met) (hm:met.length<=1000) (ay:i < n) (aB:n<=1000) (Dk:bF i=false) (abE:∀ j,j < n->j≠i->fU j≠fU i) (yn:(fU i).length=32) (Rj:(df i).key=fU i) (eZ:XH (df i))
  (gY:oQ w rW (df i) L) {os:List (ak × ak)} (IE:(df i).outs=os.map uV) (aG:Own w r9 65 2 A os.length c (cK fI os)) (NL:∀ x∈os,x.2∈met/\x.2.length<=65536/\x.1.length<=1000000) :
  CR 302 #[pp l.jN 0,.agg (gP (df i) L).toArray,.slice A os.length c] w (.int .i64 0) fun w'=>qA w' l (fun q=>aF q\/rW<=q) n fU df met (fun j=>j == i || bF j) (fun x=>os.any (fun f=>f.2 == x) || has x)/\xe l w w':=by
 obtain⟨N,AB,V,AQ⟩:=nq2 os.length (gP (df i) L);obtain⟨aH,Ae⟩:=ai (w.alloc (.cells V.toArray 224));have AZ:=gQ Ae;obtain⟨g4,Ap⟩:=ai w.heap.size;have Af:aM aH g4 V 224:=by rw [Ap,Ae];exact aM.new w _ _
 have Aa:(df i).outs.length=N:=by rw [IE,List.length_map,AB]
 have Ck:N<=1000:=by rw [<- Aa];exact eZ.few.2
 have h1:=h.all AZ;have Aq:=aG.below AZ (aQF _);have Ag:=gY.all AZ;obtain⟨B,jN,jP,je,gs,lT⟩:=l;have Av:=fun (aY:aRU) (zH:ak->Bool) (I:qA aY ⟨B,jN,jP,je,gs,lT⟩ aF n fU df met bF zH)=>show aY.cell? (ad jN 0)=some (pp jP 0)/\aY.cell? (ad jN 1)=some (pp gs 0) from ⟨I.row.cell 0,I.row.cell 1⟩
 have BK:=aa (fun aY (ae:Bl aH aY)=>show aM aY g4 V 224 /\ aY.cell? (ad g4 33)=some (.slice L.B N L.d) from
  ⟨Af.all ae,by rw [<- Aa];exact afT (by rw [<- AQ];exact Af.all ae)⟩);have BL:=aa Av;obtain⟨AU,AV⟩:=Av aH has h1;have BN:=aa (aff aH (df i) L Ag.at_ eZ);have Bi:=aa (fun aY (ae:Bl aH aY)=>aId aY L.B A L.d c N (df i).outs os (by rw [<- Aa];exact (Ag.all ae).outs.rd) (by rw [AB];exact (Aq.below ae (aQF _)).rd) Aa AB.symm om 304 #[] (enters_of func304 kr rfl) fun W Ah k x y ah hy=>aIf W x y (by
   rw [IE,List.getElem?_map,hy] at ah;cases ah;rfl) (by rw [IE,List.getElem?_map,hy] at ah;cases ah;rfl) (by have:=NL y (aQK hy);omega));have Bj:=aa NL;have Bn:=aa (show ∀ aY,Bl aH aY->qA aY ⟨B,jN,jP,je,gs,lT⟩ aF n fU df met bF has/\Own aY r9 65 2 A N c (cK fI os)/\oQ aY rW (df i) L from fun aY ae=>⟨h1.all ae,by rw [AB];exact Aq.below ae (aQF _),Ag.all ae⟩);have Bp:=aa (fun (aY:aRU) (zH:ak->Bool) (I:qA aY ⟨B,jN,jP,je,gs,lT⟩ aF n fU df met bF zH) (x:ak) (ah:x∈met) (hl:x.length<=65536)=>aIn I bq hm ah hl);have Bq:=aa (fun (aY:aRU) (zH:ak->Bool) (I:qA aY ⟨B,jN,jP,je,gs,lT⟩ aF n fU df met bF zH) (Br:rW<=aY.heap.size) (Bt:oQ aY rW (df i) L)=>show CR 307 #[pp jP 0,.agg V.toArray] aY (.int .i64 0) fun w'=>qA w' ⟨B,jN,jP,je,gs,lT⟩ (fun q=>aF q\/rW<=q) n fU df met (fun j=>j == i || bF j) zH/\xe ⟨B,jN,jP,je,gs,lT⟩ aY w' from by
  rw [AQ];refine (aH9 aY I.bF ⟨bf.1,Br⟩ ay aB Dk abE yn Rj Bt eZ).mono ?_;rintro e w' ⟨rfl,AP,Ac⟩;have ae:xe ⟨B,jN,jP,je,gs,lT⟩ aY w':=.Ry Ac;obtain⟨M,Ak,C8⟩:=I.store;refine⟨rfl,⟨I.afW ae I.row dc,AP,⟨M,⟨?_,Ak.map.keep ?_⟩,C8⟩,I.far,I.ne⟩,ae⟩
  ·refine (Ac.block _ Ak.lt.1 ?_ ?_).trans Ak.obj <;>
   ·rintro e;obtain⟨⟨o,AP,Ac⟩,_,cs,AA⟩:=I.kinds;simp only at e AP AA;rw [<- e,AA] at AP;cases AP;cases Ac
  ·exact Ac.block _ Ak.lt.2 (fun e=>I.ne e.symm) (fun e=>I.ne e.symm));obtain⟨BO,CF,Az⟩:=hq3 AZ bf AB;have BP:Sz 224 V.length:=by rw [AQ];exact Pe _ _
 have CG:(V.drop 0).take V.length=V:=by simp
 have CJ:=aa Af;rw [<- AQ,<- AB];rw [<- AQ] at BN;have Al:=Ae.symm;have Cm:=Ap.symm;clear h bf bq hm ay aB Dk abE yn Rj eZ gY IE aG NL AB AQ Ae AZ Ap Af Aa h1 Aq Ag Av;go_enter func302,ntmps302;go_wp2_with (first|(with_reducible refine kG CJ.o underlying224 BP ?_)|(go_at_call 168; refine BN.o.mono ?_;rintro e aY ⟨rfl,Ah⟩;have BR:=aa Ah;have CK:=(BK.o aY Ah).2;clear Ah AU AV Al)|(go_at_call 305; refine (Bi.o aY BR.o).mono ?_;rintro e cO ⟨rfl,BS⟩;have BB:=aa (aU BR.o BS);clear BS CK));go_loopg [36] N (fun gk CL wr=>∃ q:Nat,q+gk=N/\CL = .int .i64 q/\∃ zH,afY aH wr ⟨B,jN,jP,je,gs,lT⟩ aF rW n fU df met bF has i r9 g4 L V os A N c q zH);case atStart =>
  obtain⟨h1,I,AP⟩:=Bn.o cO BB.o;exact⟨0,om,rfl,has,⟨h1,fun y=>by simp,.gN BB.o,I,AP,(BK.o cO BB.o).1⟩⟩
 case round =>
  obtain⟨q,Co,rfl,zH,J⟩:=hrel;have Cr:(0:Int)<=q:=om;by_cases BU:q < N
  ·have CQ:(q:Int) < N:=om;obtain⟨x,ah⟩:∃ x,os[q]?=some x:=⟨_,aQI (by rw [<- Az.o];exact BU)⟩;obtain⟨BX,BZ,CS⟩:=Bj.o x (aQK ah);obtain⟨fo,Ct,rfl,BC⟩:=vG (f:=fI) (k:=2) Su underlying65 rfl kr J.files.rd ah Az.o.symm;obtain⟨P,Bb,Y,BD⟩:=nq2 (aA x.1) (aA x.2);rw [show fI x=[.string P,.string Y] by rw [Bb,BD];rfl] at BC;obtain⟨AX,Am⟩:=ai (wr.alloc (.cells #[.string P,.string Y] 65));have Ao:=gQ Am;have Bc:=kY Am;have CU:=aa (fun af (ae:Bl AX af)=>show af.cell? (ad jN 0)=some (pp jP 0)/\af.cell? (ad jN 1)=some (pp gs 0)/\af.cell? (ad wr.heap.size 1)=some (.string Y) from by
    obtain⟨AU,AV⟩:=BL.o af zH ((J.src.all Ao).all ae);exact⟨AU,AV,(Bc.all ae).cell 1⟩);have CV:[Value.string P,.string Y].length=2:=rfl;have CW:(prog.info? 65).map (·.size)=some [Value.string P,.string Y].length:=kr;have CY:∀ v∈[Value.string P,.string Y],v.oneCell'=true:=by simp [Value.oneCell']
   obtain⟨CZ,BF,Ca,Cc⟩:=hq4 BC J ah Ao;have Ce:=aa (fun af (ae:Bl AX af)=>by
    have:=Bp.o af zH ((J.src.all Ao).all ae) x.2 BX BZ;rw [<- BD] at this;exact this);have Al:=Am.symm;clear BC J ah BX BZ CS Bb BD Am Ao Bc BU;go_wp2_with (first|((with_reducible refine pO CZ.o ?_ ?_);exact rfl)|(with_reducible refine zx [.string P,.string Y] CV CW CY ?_));rw [show [Value.string P,.string Y].toArray=#[.string P,.string Y] from rfl,Al];clear Al;have kR:=aa fun af (aj:Bl AX af)=>CU.o af aj;refine KE 6 [_,_,_,_,_,_] ?_;refine aoc ?_;intro af Ad;go_wp2_with (first | (go_at_call 306; refine (Ce.o _ Ad.o).mono ?_;rintro e bn ⟨⟨v5,rfl⟩,AA,Be⟩;have BG:=aa AA;have BH:=aa Be;clear AA Be));go_roundg (gk - 1);case rel=>exact⟨q+1,om,by go_num,_,BF.o.next (aU Cc.o Ad.o) Ca.o BG.o BH.o⟩
   case measure=>omega
  ·have Bf:q=N:=om;have CQ:¬ (q:Int) < N:=om;have Bg:zH=fun x=>os.any (fun f=>f.2 == x) || has x:=funext fun y=>by rw [J.eq y,List.take_of_length_le (by rw [Bf,Az.o];exact Nat.le_refl _)]
   have Bh:=aa (fun af (ae:Bl wr af)=>show af.cell? (ad jN 0)=some (pp jP 0)/\af.cell? (ad jN 1)=some (pp gs 0)/\aM af g4 V 224 from by
    obtain⟨AU,AV⟩:=BL.o af zH (J.src.all ae);exact⟨AU,AV,J.row.all ae⟩);have BF:=aa J;have Cf:=aa Bg;have Cg:=aa (fun af (ae:Bl wr af)=>Bq.o af zH (J.src.all ae) (aQG CF.o.2 (aQG BO.o.size (aQG J.but.size ae.size))) (J.alR.all ae));clear J Bg Bf;go_wp2_with fail;have kR:=Bh;refine nz nH 5 [some (pp jN 0),some (pp jN 0),some (pp jN 0),some (pp jP 0),some (.agg V.toArray)] (fun _ _ _=>False) (Bl wr) Bl ((Below.refl _ wr).drew) (fun j v w1 af ae h=>h.elim) ?_ (jI:=?_)
   ·intro u af aj Cj;clear Cj;have Ad:=aa aj;clear aj;go_wp2_with (first | (go_at_call 307; refine GY (Cg.o _ Ad.o) ?_;intro bn BG BH));go_ret;have AA:=BG.o;rw [Cf.o] at AA;exact⟨rfl,AA,(xe.gN BO.o).trans (BF.o.but.trans ((xe.gN Ad.o).trans BH.o))⟩
   ·repeat' (first | exact trivial | apply And.intro)
    all_goals try exact rx
    all_goals intro eQ u af aj aL bz K aR
    all_goals try simp [iX,Region.binds] at bz
    all_goals refine mg rfl ?_
    all_goals obtain⟨AU,AV,kr⟩:=Bh.o af aj
    ·refine wp_load_row g4 0 V V _ kr CG _ underlying224 BP ⟨rfl,by simp [Act.eval,aL],rfl⟩ ?_;exact aR _ _ rfl aj (Below.refl _ _)
end
section
variable {w:o9}
structure alW (w:o9):Prop where
 fin:HV w
 reads:∀ i s rs,pg w i s rs->(w.act i).asks s=none->((w.act i).out s).reads=rs
 apart:∀ i s rs,pg w i s rs->(rs.map (·.path)).Nodup
 sum:∀ k,(w.sum k).path=k.path
 file:∀ p,(w.file p).path=p
theorem auD (h:alW w) {k:Uu} (hk:fD w p = .known k):k.path=p:=by
 cases hm:w.jK p with
 | none =>
  rw [aea hm] at hk;cases hk;exact h.file p
 | some j =>
  rw [ajf hm] at hk;split at hk
  ·cases hk;unfold iU.at_;split <;> rfl
  ·split at hk <;> cases hk
theorem afZ (hf:HV w) (i:Nat):∃ s rs,pg w i s rs/\UM w i s:=by
 have key:∀ (n:Nat) (s:(w.act i).S) (rs:List kU),pg w i s rs->w.most<=rs.length+n->∃ s rs,pg w i s rs/\UM w i s:=by
  intro n;induction n with
  | zero =>
   intro s rs h I;have:=hf i s rs h;omega
  | succ n J =>
   intro s rs h I;by_cases hs:UM w i s
   ·exact⟨s,rs,h,hs⟩
   ·simp only [UM,Classical.not_forall,Classical.not_not] at hs;obtain⟨p,k,aI,hk⟩:=hs;exact J _ _ (h.step aI hk) (by simp;omega)
 exact key w.most _ _ .start sp
theorem af0 (hf:HV w) {s:(w.act i).S} {rs:List kU} (h:pg w i s rs) (hs:UM w i s) :
  ((w.act i).asks s=none/\bG w i=(w.act i).out s)\/(∃ p,(w.act i).asks s=some p/\fD w p = .below/\bG w i=Hz rs)\/∃ p,(w.act i).asks s=some p/\fD w p = .stuck/\bG w i=DY rs:=by
 cases I:(w.act i).asks s with
 | none=>exact .inl ⟨rfl,by rw [bG,h.done hf I]⟩
 | some p =>
  cases aI:fD w p with
  | known k=>exact absurd aI (hs p k I)
  | below=>exact .inr (.inl ⟨p,rfl,aI,by rw [bG,h.Xa hf I aI]⟩)
  | stuck=>exact .inr (.inr ⟨p,rfl,aI,by rw [bG,h.stuck hf I aI]⟩)
theorem aIt (h:alW w) (hk:(bG w i).kind=1):∃ s,pg w i s (bG w i).reads/\(w.act i).asks s=none/\bG w i=(w.act i).out s:=by
 obtain⟨s,rs,aI,hs⟩:=afZ h.fin i;rcases af0 h.fin aI hs with ⟨h1,I⟩ | ⟨p,_,_,I⟩ | ⟨p,_,_,I⟩
 ·have:=h.reads i s rs aI h1;refine⟨s,?_,h1,I⟩;rw [I,this];exact aI
 ·rw [I] at hk;cases hk
 ·rw [I] at hk;cases hk
theorem pg.ahead {s:(w.act i).S} {rs:List kU} (h:pg w i s rs):∀ q,q < rs.length->∃ s' p k,pg w i s' (rs.take q)/\(w.act i).asks s'=some p/\fD w p = .known k/\rs[q]?=some (w.sum k):=by
 induction h with
 | start=>intro q I;simp at I
 | @step s rs p k h aI hk M =>
  intro q I;rcases aQW q rs.length with J | AU
  ·obtain⟨s',Y,AA,h1,AB,AP,AQ⟩:=M q J;refine⟨s',Y,AA,?_,AB,AP,?_⟩
   ·rw [List.take_append_of_le_length om];exact h1
   ·rw [List.getElem?_append_left J];exact AQ
  ·have e:q=rs.length:=by simp at I;omega
   subst e;exact⟨s,p,k,by simpa using h,aI,hk,by simp⟩
theorem pg.known {s:(w.act i).S} {rs:List kU} (h:pg w i s rs):∀ r∈rs,∃ k,r=w.sum k/\∃ p,fD w p = .known k:=by
 induction h with
 | start=>intro r I;simp at I
 | @step s rs p k h aI hk J =>
  intro r I;rcases aQ4.1 I with I | I
  ·exact J r I
  ·rw [List.mem_singleton.1 I];exact⟨k,rfl,p,hk⟩
end
section
structure Ar (kZ σ:bE) (aW:aRZ):Prop where
 nodup:(σ.dY++aW).Nodup
 begun:∀ i∈σ.dY++aW,σ.begun i=true
 full:∀ i,σ.got i≠none->i∈σ.dY++aW
 Sw:∀ i∈aW,kZ.bF i=true
 bF:∀ i,σ.bF i=true->kZ.bF i=true\/i∈σ.dY
structure Kb (σ:bE) (aW:aRZ) (σ':bE) (tk':aRZ):Prop where
 begun:∀ i,σ.begun i=true->σ'.begun i=true
 log:∀ i,i∈σ'.dY++tk'->i∈σ.dY++aW\/σ.begun i=false
 got:∀ i,σ.got i≠none->σ'.got i=σ.got i
 more:∀ i,i∈σ.dY->i∈σ'.dY
 same:∀ i,σ.begun i=true->σ'.bF i=σ.bF i
section
variable {kZ σ σ' bR:bE} {aW tk' ib:aRZ}
theorem Kb.refl (σ:bE) (aW:aRZ):Kb σ aW σ aW:=⟨fun _ h=>h,fun _ h=>.inl h,fun _ _=>rfl,fun _ h=>h,fun _ _=>rfl⟩
theorem Kb.trans (h:Kb σ aW σ' tk') (k:Kb σ' tk' bR ib):Kb σ aW bR ib:=⟨fun i I=>k.begun i (h.begun i I),fun i I=>(by
 rcases k.log i I with h1 | h1
 ·exact h.log i h1
 ·right;cases e:σ.begun i with
  | false=>rfl
  | true=>rw [h.begun i e] at h1;cases h1),fun i I=>(by rw [k.got i (by rw [h.got i I];exact I),h.got i I]),fun i I=>k.more i (h.more i I),fun i I=>(k.same i (h.begun i I)).trans (h.same i I)⟩
theorem Ar.start (h1:kZ.dY=[]) (ag:∀ i,kZ.got i=none):Ar kZ kZ []:=⟨by rw [h1];exact aRv,fun i I=>(by rw [h1] at I;cases I),fun i I=>absurd (ag i) I,fun i I=>(by cases I),fun i I=>.inl I⟩
theorem Ar.push (h:Ar kZ σ aW) (i:Nat):Ar kZ (σ.push i) aW:=⟨h.nodup,fun j aC=>by simp [bE.push,h.begun j aC],h.full,h.Sw,h.bF⟩
theorem Ar.runs (h:Ar kZ σ aW) (ay:i ∉ σ.dY++aW) (ae:σ.begun i=true):Ar kZ (σ.runs i) aW:=by
 have I:=h.nodup;simp only [List.mem_append,not_or] at ay;refine⟨?_,fun j aC=>?_,fun j aC=>?_,h.Sw,fun j aC=>?_⟩
 ·show (σ.dY++[i]++aW).Nodup;rw [List.append_assoc];rw [List.nodup_append] at I |-;refine⟨I.1,?_,fun a M b J=>?_⟩
  ·exact List.nodup_cons.2 ⟨ay.2,I.2.1⟩
  ·rcases aQN.1 J with rfl | J
   ·rintro rfl;exact ay.1 M
   ·exact I.2.2 a M b J
 ·have Y:j∈σ.dY++[i]++aW:=aC;simp only [List.mem_append,List.mem_singleton] at Y;rcases Y with (h1 | h1) | h1
  ·exact h.begun j (aRd _ h1)
  ·rw [h1];exact ae
  ·exact h.begun j (aRn _ h1)
 ·have:=h.full j aC;show j∈σ.dY++[i]++aW;simp only [List.mem_append] at this |-;rcases this with h1 | h1
  ·exact .inl (.inl h1)
  ·exact .inr h1
 ·rcases h.bF j aC with h1 | h1
  ·exact .inl h1
  ·exact .inr (aRd _ h1)
theorem Ar.take (h:Ar kZ σ aW) (ay:i ∉ σ.dY++aW) (ae:σ.begun i=true) (aS:kZ.bF i=true):Ar kZ σ (aW++[i]):=by
 refine⟨?_,fun j aC=>?_,fun j aC=>?_,fun j aC=>?_,h.bF⟩
 ·rw [<- List.append_assoc,List.nodup_append];refine⟨h.nodup,by simp,fun a I b J=>?_⟩;rw [List.mem_singleton.1 J];rintro rfl;exact ay I
 ·rw [<- List.append_assoc] at aC;rcases aQ4.1 aC with h1 | h1
  ·exact h.begun j h1
  ·rw [List.mem_singleton.1 h1];exact ae
 ·rw [<- List.append_assoc];exact aRd _ (h.full j aC)
 ·rcases aQ4.1 aC with h1 | h1
  ·exact h.Sw j h1
  ·rw [List.mem_singleton.1 h1];exact aS
theorem Ar.put (h:Ar kZ σ aW) {o:iU} (ay:i∈σ.dY++aW):Ar kZ (σ.put i o) aW:=⟨h.nodup,h.begun,fun j aC=>(by
 by_cases e:j=i
 ·rw [e];exact ay
 ·exact h.full j (by simpa [bE.put,e] using aC)),h.Sw,h.bF⟩
theorem Ar.keep (h:Ar kZ σ aW) {l:List (ak × ak)} (ay:i∈σ.dY):Ar kZ (σ.keep i l) aW:=⟨h.nodup,h.begun,h.full,h.Sw,fun j aC=>by
 by_cases e:j=i
 ·rw [e];exact .inr ay
 ·exact h.bF j (by simpa [bE.keep,e] using aC)⟩
end
end
section
def lh (a:lv):nY:=⟨⟨eB,a.env⟩,Vs a.ins a.asks a.outs,a.outs,gJ⟩
def l8:lv:=⟨[],[],[],[],[]⟩
noncomputable def IG (a:lv):MU:=LG (lh a) a.tool
def Fs (l:List (ak × ak)) (p:ak):dB:=match fileAt l p with
 | some x=>⟨p,true,x.2⟩
 | none=>⟨p,false,[]⟩
noncomputable def nR (F:List (ak × ak)) (X:List lv):o9:=⟨X.length,fun i=>IG (X.getD i l8),fun p=>X.findIdx? fun a=>a.outs.contains p,Fs F,gJ,502⟩
structure II (F:List (ak × ak)) (X:List lv):Prop where
 few:(F.map (·.1)).length+(X.flatMap (·.outs)).length<=150
 data:∀ x∈F,x.2.length<=65536
 tool:∀ a∈X,a.tool.length<=100000
def Qc (F:List (ak × ak)) (X:List lv):List ak:=X.flatMap (·.outs)++F.map (·.1)
def abK (A:ak->DZ) (p:ak):dB:=match A p with
 | .known k=>⟨p,k.is,k.data⟩
 | _=>⟨p,false,[]⟩
def Dl (ps:List ak) (A:ak->DZ):List dB:=ps.map (abK A)
structure Sy (ps:List ak) (A:ak->DZ):Prop where
 path:∀ p k,A p = .known k->k.path=p
 data:∀ p k,A p = .known k->k.data.length<=65536
 out:∀ p k,A p = .known k->p ∉ ps->k.is=false
theorem auE (A:ak->DZ) (p:ak):(abK A p).path=p:=by unfold abK;split <;> rfl
theorem auF (ps:List ak) (f:ak->dB) (hf:∀ p,(f p).path=p) (p:ak):rR (ps.map f) p=if p∈ps then f p else ⟨p,false,[]⟩:=by
 unfold rR;induction ps with
 | nil=>rfl
 | cons q ps I =>
  rw [List.map_cons,List.find?_cons,hf];by_cases h:q=p
  ·subst h;simp
  ·rw [show (q == p)=false by simpa using h];simp only [I,List.mem_cons];simp [show ¬ p=q from fun e=>h e.symm]
section
variable {ps:List ak} {A:ak->DZ}
theorem auG (h:Sy ps A) {k:dB} (hk:A p = .known k):qU k=qU (rR (Dl ps A) k.path):=by
 rw [h.path p k hk,Dl,auF _ _ (auE A)];split
 ·rw [abK,hk];rfl
 ·rename_i aI;have:=h.out p k hk aI;unfold qU;rw [this];rfl
theorem af1 (h:Sy ps A) (p:ak):(rR (Dl ps A) p).data.length<=65536:=by
 rw [Dl,auF _ _ (auE A)];split
 ·unfold abK;cases hA:A p with
  | known k=>exact h.data p k hA
  | below=>exact aQQ _
  | stuck=>exact aQQ _
 ·exact aQQ _
theorem af2 (h:Sy ps A) (hl:ps.length<=150):CP (Dl ps A)<=20000000:=by
 have key:∀ l:List dB,(l.map (K3 (Dl ps A))).sum<=l.length * 131076:=by
  intro l;induction l with
  | nil=>simp
  | cons u l J =>
   rw [List.map_cons,List.sum_cons,List.length_cons];have h1:K3 (Dl ps A) u<=131076:=by have I:=QM (rR (Dl ps A) u.path).data;have M:=af1 h u.path;unfold K3 OY;omega
   omega
 have h1:=key (Dl ps A);have I:(Dl ps A).length<=150:=by simpa [Dl] using hl
 unfold CP;omega
def SA (a:lv) (U:List dB) (b:dC) (rs:List kU):Prop:=uU (lh a) U b/\Vd (lh a) b/\b.reads=rs
theorem auH {U:List dB} (az:a.tool.length<=100000) (iE:CP U<=20000000):SA a U (IG a).start []:=uU.start az iE
theorem NM {b:dC} (h:(IG a).asks b=some p):b.over=false/\b.asks=p:=by
 change (if b.over=true then none else some b.asks)=some p at h;split at h
 ·cases h
 ·rename_i I;exact⟨by simpa using I,aRb h⟩
theorem auI (h:Sy ps A) {b:dC} {rs:List kU} {k:dB} (ay:SA a (Dl ps A) b rs) (aI:(IG a).asks b=some p) (hk:A p = .known k):SA a (Dl ps A) ((IG a).mE b k) (rs++[gJ k]):=by obtain⟨I,rfl⟩:=NM aI;have:=ay.1.mE ay.2.1 I (h.path _ _ hk) (fun _=>h.data _ _ hk) (auG h hk) (fun p _=>aQG (af1 h p) om) rfl;rw [ay.2.2] at this;exact this
theorem aIu {U:List dB} {b:dC} {rs:List kU} (ay:SA a U b rs):∀ x∈b.out.outs,x.2.length<=65536/\x.1∈a.outs:=by
 intro x ah;unfold dC.out at ah;split at ah
 ·exact ay.1.wrote x ah
 ·cases ah
theorem aIv (W:o9) (a:MU) (A:ak->DZ) (n:Nat) (s:a.S) (rs:List kU):mF W a A (n+1) s rs=match a.asks s with
 | none=>(true,a.out s)
 | some p=>match A p with
  | .known k=>mF W a A n (a.mE s k) (rs++[W.sum k])
  | .below=>(true,Hz rs)
  | .stuck=>(false,DY rs):=rfl
theorem auJ {W:o9} (dn:W.sum=gJ) (h:Sy ps A):∀ (n:Nat) (b:(IG a).S) (rs:List kU),SA a (Dl ps A) b rs->(mF W (IG a) A n b rs).1=true->∀ x∈(mF W (IG a) A n b rs).2.outs,x.2.length<=65536/\x.1∈a.outs
 | 0,b,rs,_,I=>by cases I
 | n+1,b,rs,J,I=>by
  rw [aIv W (IG a)] at I |-;cases aI:(IG a).asks b with
  | none=>exact aIu J
  | some p =>
   rw [aI] at I;simp only at I |-;cases hA:A p with
   | known k =>
    rw [hA] at I;have:=auI h J aI hA;rw [dn] at I |-;exact auJ dn h n _ _ this I
   | below=>intro x ah;cases ah
   | stuck=>rw [hA] at I;cases I
end
section
variable {F:List (ak × ak)} {X:List lv} (hs:II F X)
theorem af3 (hs:II F X):(Qc F X).length<=150:=by have:=hs.few;simp only [Qc,List.length_append];omega
theorem auK (hs:II F X) {O:Nat->Option iU} (hO:∀ i o,O i=some o->∀ x∈o.outs,x.2.length<=65536):Sy (Qc F X) (wo (nR F X) O):=by
 have hf:∀ p,(Fs F p).data.length<=65536/\(Fs F p).path=p/\(p ∉ F.map (·.1)->(Fs F p).is=false):=fun p=>by
  unfold Fs;cases ah:fileAt F p with
  | none=>exact⟨aQQ _,rfl,fun _=>rfl⟩
  | some x =>
   refine⟨hs.data x (aRr ah),rfl,fun I=>absurd (aQO.2 ⟨x,aRr ah,?_⟩) I⟩;simpa using List.find?_some ah
 have Y:∀ o:iU,(∀ x∈o.outs,x.2.length<=65536)->∀ p,(o.at_ p).data.length<=65536/\(o.at_ p).path=p:=fun o h p=>by
  unfold iU.at_;cases ah:o.outs.find? fun x=>x.1 == p with
  | none=>exact⟨aQQ _,rfl⟩
  | some x=>exact⟨h x (aRr ah),rfl⟩
 have key:∀ p k,wo (nR F X) O p = .known k->k.path=p/\k.data.length<=65536/\(p ∉ Qc F X->k.is=false):=fun p k hk=>by
  unfold wo at hk;cases hm:(nR F X).jK p with
  | none =>
   rw [hm] at hk;cases hk;obtain⟨h1,J,AA⟩:=hf p;exact⟨J,h1,fun I=>AA fun ah=>I (aRn _ ah)⟩
  | some j =>
   rw [hm] at hk;simp only at hk;cases M:O j with
   | none=>rw [M] at hk;cases hk
   | some o =>
    rw [M] at hk;simp only at hk;split at hk
    ·cases hk;obtain⟨h1,J⟩:=Y o (hO j o M) p;refine⟨J,h1,fun I=>?_⟩;obtain⟨aC,hc,_⟩:=aRR.1 hm;exact absurd (aRd _ (aRl.2 ⟨X[j],List.getElem_mem aC,by simpa using hc⟩)) I
    ·split at hk <;> cases hk
 exact⟨fun p k h=>(key p k h).1,fun p k h=>(key p k h).2.1,fun p k h=>(key p k h).2.2⟩
theorem auL (hs:II F X) (i:Nat):(X.getD i l8).tool.length<=100000:=by
 rw [List.getD_eq_getElem?_getD];cases ah:X[i]? with
 | none=>exact aQQ _
 | some a=>exact hs.tool a (aQK ah)
theorem auM (hs:II F X):∀ (n i:Nat) (o:iU),qm (nR F X) n i=some o->∀ x∈o.outs,x.2.length<=65536/\x.1∈(X.getD i l8).outs
 | 0,i,o,h=>by cases h
 | n+1,i,o,h=>by
  rw [qm] at h;have I:=auK hs fun i o h x ah=>(auM hs n i o h x ah).1;have hw:=auH (a:=X.getD i l8) (auL hs i) (af2 I (af3 hs));split at h
  ·rename_i J;cases h;exact auJ rfl I _ _ _ hw J
  ·cases h
theorem L9 (hs:II F X):Sy (Qc F X) (fD (nR F X)):=auK hs fun i o h x ah=>by
 obtain⟨n,I⟩:=W9.1 h;exact (auM hs n i o I x ah).1
theorem VF (hs:II F X) {s:((nR F X).act i).S} {rs:List kU} (h:pg (nR F X) i s rs):SA (X.getD i l8) (Dl (Qc F X) (fD (nR F X))) s rs:=by
 induction h with
 | start=>exact auH (auL hs i) (af2 (L9 hs) (af3 hs))
 | step h aI hk I=>exact auI (L9 hs) I aI hk
theorem Gw (hs:II F X):alW (nR F X) where
 fin:=fun i s rs h=>by
  cases h with
  | start=>exact Nat.zero_lt_succ _
  | @step s1 I p k h1 aI hk =>
   have hw:=VF hs h1;have:=(hw.1.asked hw.2.1 (NM aI).1).2;rw [hw.2.2] at this;show (I++[_]).length < 502;simp;omega
 reads:=fun i s rs h AA=>by
  have hw:=VF hs h;show (dC.out s).reads=rs;unfold dC.out;split <;> exact hw.2.2
 apart:=fun i s rs h=>by
  induction h with
  | start=>exact aRv
  | @step s1 I p k h1 aI hk M =>
   have hw:=VF hs h1;have J:=(hw.1.asked hw.2.1 (NM aI).1).1;rw [hw.2.2,(NM aI).2] at J;rw [List.map_append,List.nodup_append];refine⟨M,by simp,fun x ah y hy=>?_⟩;have Y:y=p:=by rw [List.mem_singleton.1 hy];exact (L9 hs).path p k hk
   rintro rfl;exact J (Y ▸ ah)
 sum:=fun k=>rfl
 file:=fun p=>by
  show (Fs F p).path=p;unfold Fs;split <;> rfl
theorem Yd (hs:II F X) (h:(bG (nR F X) i).kind=1):∃ (b:dC) (rs:List kU),pg (nR F X) i b rs/\SA (X.getD i l8) (Dl (Qc F X) (fD (nR F X))) b rs/\b.over=true/\b.why=0/\bG (nR F X) i=⟨1,0,b.wrote,b.reads⟩:=by
 obtain⟨s,aI,I,M⟩:=aIt (Gw hs) h;have hw:=VF hs aI;have Y:dC.over s=true:=by
  change (if dC.over s=true then none else some (dC.asks s))=none at I;split at I
  ·assumption
  ·cases I
 have J:bG (nR F X) i=dC.out s:=M;have hy:dC.why s=0:=by
  rw [J] at h;unfold dC.out at h;split at h
  ·assumption
  ·cases h
 exact⟨s,_,aI,hw,Y,hy,by rw [J];unfold dC.out;exact if_pos hy⟩
theorem VG (hs:II F X) (i:Nat):(bG (nR F X) i).kind=1\/((bG (nR F X) i).kind=2\/(bG (nR F X) i).kind=3)/\(bG (nR F X) i).outs=[]:=by
 obtain⟨s,rs,aI,I⟩:=afZ (Gw hs).fin i;rcases af0 (Gw hs).fin aI I with ⟨_,h⟩ | ⟨p,_,_,h⟩ | ⟨p,_,_,h⟩
 ·have J:bG (nR F X) i=dC.out s:=h;rw [J];unfold dC.out;split
  ·exact .inl rfl
  ·exact .inr ⟨.inl rfl,rfl⟩
 ·rw [h];exact .inr ⟨.inl rfl,rfl⟩
 ·rw [h];exact .inr ⟨.inr rfl,rfl⟩
theorem Ye (hs:II F X) (i:Nat):∀ x∈(bG (nR F X) i).outs,x.2.length<=65536/\x.1∈(X.getD i l8).outs:=by
 rcases VG hs i with h | h
 ·obtain⟨b,rs,_,hw,_,_,e⟩:=Yd hs h;rw [e];exact hw.1.wrote
 ·rw [h.2];intro x ah;cases ah
theorem af4 (hs:II F X) (h:(bG (nR F X) i).kind=1):(bG (nR F X) i).outs.map (·.1)=mP (X.getD i l8).outs/\G6 (bG (nR F X) i).outs:=by
 obtain⟨b,rs,_,hw,I,hy,e⟩:=Yd hs h;rw [e];refine⟨WJ.one ⟨?_,fun x=>⟨fun ah=>?_,fun ah=>?_⟩⟩ (Jb _),hw.1.AL⟩
 ·have:=hw.1.AL;rw [List.pairwise_map];exact this.imp fun {a b} h=>by rwa [Om] at h
 ·obtain⟨y,hy,rfl⟩:=aQO.1 ah;exact (hw.1.wrote y hy).2
 ·have:=hw.1.full I hy x ah;unfold getM at this;cases av:b.wrote.find? fun y=>y.1 == x with
  | none=>rw [av] at this;cases this
  | some y=>exact aQO.2 ⟨y,aRr av,by simpa using List.find?_some av⟩
end
end
section
theorem aIx {X:List kH} (bJ:∀ x∈X,x.2.outs≠[]) (xm:(BM X).Nodup) {x y:kH} (ah:X[i]?=some x) (hy:X[k]?=some y) (af5:k < i):vZ x.2≠vZ y.2:=by
 intro he;have h1:=(aAI.1 he).2;have I:mP x.2.outs=mP y.2.outs:=by simp only [Cy,List.cons.injEq,and_true] at h1;exact h1.2.2.2
 have J:=(aQL.1 ah).1;obtain⟨p,aI⟩:=List.exists_mem_of_ne_nil _ (bJ x (aQK ah));have M:p∈y.2.outs:=((Jb y.2.outs).2 p).1 (I ▸ ((Jb x.2.outs).2 p).2 aI);have Y:X=X.take i++x :: X.drop (i+1):=by have:=(aRC i X).symm;rw [List.drop_eq_getElem_cons J,(List.getElem?_eq_some_iff.1 ah).2] at this;exact this
 have AA:y∈X.take i:=by rw [List.mem_iff_getElem?];exact⟨k,by rw [List.getElem?_take,if_pos af5];exact hy⟩
 rw [Y,BM,List.flatMap_append,List.nodup_append] at xm;exact xm.2.2 p (aRl.2 ⟨y,AA,M⟩) p (aRl.2 ⟨x,by simp,aI⟩) rfl
theorem auO (p:UInt8->Bool):∀ s:ak,((jl p s).map (·.length+1)).sum=s.length+1
 | []=>rfl
 | c :: s=>by
  have I:=auO p s;obtain⟨x,r,h1,J⟩:=Wu p c s;rw [h1] at I;rw [J];split <;> simp at I |- <;> omega
theorem af6 {s:ak} (h:eB s=true):s.length<=16100:=by
 obtain⟨h1,I⟩:=atG h;have M:=auO (· == 47) s;have key:∀ l:List ak,(∀ x∈l,x.length<=1000)->(l.map (·.length+1)).sum<=l.length * 1001:=by
  intro l;induction l with
  | nil=>intro _;simp
  | cons x l J =>
   intro hl;have:=J fun y hy=>hl y (by simp [hy]);have:=hl x sp;simp only [List.map_cons,List.sum_cons,List.length_cons];omega
 have:=key _ I;omega
structure alX (a:lv):Prop where
 tool:(pW eB a.tool).1=0
 some:a.outs≠[]
 outs:∀ x∈a.outs,yI x [111,117,116]=true
 ins:∀ x∈a.ins,eB x=true
 asks:∀ x∈a.asks,G5 x=true
theorem look_ok {H:List fC} (h:Ny H a=0):alX a:=by
 unfold Ny PQ at h;split at h
 ·contradiction
 ·rename_i h1;split at h
  ·cases h
  ·rename_i I;simp only [not_or,Bool.not_eq_true] at I;obtain⟨J,M,Y,AA⟩:=I;refine⟨om,fun e=>J (by rw [e];rfl),fun x ah=>?_,fun x ah=>?_,fun x ah=>?_⟩
   ·have:=aRk.1 M x ah;simpa using this
   ·have:=aRk.1 Y x ah;simpa using this
   ·have:=aRk.1 AA x ah;simpa using this
theorem alY:∀ {X:List kH} {H:List fC},Ff H X=0->H.Nodup->(∀ x∈X,alX x.2)/\(H++BM X).Nodup
 | [],H,_,I=>⟨(fun x ah=>by cases ah),by simpa [BM] using I⟩
 | x :: X,H,h,I=>by
  rw [Ff] at h;split at h
  ·rename_i hl;obtain⟨h1,J⟩:=alY h (atp hl);refine⟨fun y hy=>?_,by simpa [BM] using J⟩;rcases aQN.1 hy with rfl | hy
   ·exact look_ok hl
   ·exact h1 y hy
  ·contradiction
structure Qd (F:List (ak × ak)) (X:List lv):Prop where
 small:II F X
 dA:∀ a∈X,alX a
 apart:(X.flatMap (·.outs)).Nodup
 few:∀ a∈X,a.env.length<=200/\a.ins.length<=200/\a.asks.length<=200/\a.outs.length<=200
def auP (a:lv):List UInt8:=bP.sum (vZ a)
def NN (X:List lv) (i:Nat):List UInt8:=auP (X.getD i l8)
noncomputable def Yf (F:List (ak × ak)) (X:List lv) (i:Nat):lS:=LH (NN X i) (bG (nR F X) i)
theorem af7 {X:List lv} (ay:i < X.length):X.getD i l8∈X:=by rw [List.getD_eq_getElem?_getD,List.getElem?_eq_getElem ay];exact List.getElem_mem ay
section
variable {F:List (ak × ak)} {X:List lv} (h:Qd F X)
theorem auQ (h:Qd F X) (ay:i < X.length) (aI:(lh (X.getD i l8)).may p=true):eB p=true:=by
 change Vs _ _ _ p=true at aI;have I:=h.dA _ (af7 ay);unfold Vs at aI;split at aI
 ·cases aI
 ·rcases Bool.or_eq_true_iff.1 aI with h1 | h1
  ·exact I.ins p (by simpa using h1)
  ·obtain⟨x,_,ah⟩:=aRJ.1 h1;unfold PW at ah;simp only [Bool.and_eq_true] at ah;exact ah.1.2
theorem af8 (h:Qd F X) (ay:i < X.length) {s:((nR F X).act i).S} {rs:List kU} (aI:pg (nR F X) i s rs):(∀ r∈rs,ajR r)/\(rs.map (·.path)).Nodup/\rs.length<=500:=by
 have hf:=Gw h.small;have hw:=VF h.small aI;refine⟨fun r I=>?_,hf.apart i s rs aI,?_⟩
 ·have hm:=auQ h ay (hw.1.RS r (by rw [hw.2.2];exact I));obtain⟨k,rfl,p,_⟩:=aI.known r I;have hl:=af6 hm;refine⟨hm,om,?_,fun e=>?_⟩
  ·show (if k.is=true then bP.sum k.data else A7).length=32;split
   ·exact yK _
   ·rfl
  ·have J:k.is=false:=e;show (if k.is=true then bP.sum k.data else A7)=A7;rw [J];rfl
 ·cases aI with
  | start=>exact aQQ _
  | @step s1 M p k h1 aI hk =>
   have hw:=VF h.small h1;have:=(hw.1.asked hw.2.1 (NM aI).1).2;rw [hw.2.2] at this;show (M++[_]).length<=500;simp;omega
theorem SB (h:Qd F X) (ay:i < X.length):(bG (nR F X) i).outs.length<=200:=by
 rcases VG h.small i with hk | hk
 ·have h1:=congrArg List.length (af4 h.small hk).1;rw [List.length_map] at h1;have I:=Mw (X.getD i l8).outs;have:=(h.few _ (af7 ay)).2.2.2;omega
 ·rw [hk.2];exact aQQ _
theorem af9 (h:Qd F X) (ay:i < X.length) (hk:(bG (nR F X) i).kind=1):XH (Yf F X i):=by
 obtain⟨b,rs,aI,hw,_,_,e⟩:=Yd h.small hk;have I:=af8 h ay aI;have M:=af4 h.small hk;have hs:=Ye h.small i;have J:(bG (nR F X) i).reads=rs:=by rw [e];exact hw.2.2
 refine⟨fun r ah=>I.1 r (by rw [<- J];exact ah),by have:=I.2.1;rw [<- J] at this;exact this,⟨fun x ah=>?_,?_⟩,by have:=I.2.2;rw [<- J] at this;exact this,?_⟩
 ·obtain⟨y,hy,rfl⟩:=aQO.1 ah;have hu:=(h.dA _ (af7 ay)).outs _ (hs y hy).2;have hm:eB y.1=true:=by unfold yI at hu;simp only [Bool.and_eq_true] at hu;exact hu.1
  exact⟨hu,by have:=af6 hm;show y.1.length<=_;omega,yK _⟩
 ·show ((bG (nR F X) i).outs.map uV).Pairwise _;rw [List.pairwise_map];exact M.2
 ·show ((bG (nR F X) i).outs.map uV).length<=1000;rw [List.length_map];have:=SB h ay;omega
end
end
section
section
open Go.RowKit Go.Shelf
open Go.Lib (decDigits itoa_nonneg below_grow)
theorem auR (w:aRU) (base g:Nat) (l:aR0) (h:DK w base g l) (s:ByteArray) (hlen:l.length+s.size<=2000000000) (sF:base<=w.heap.size) :
  CR 101 #[pp g 0,.string s] w (.tuple #[.int .i64 s.size,.nilIface]) fun w'=>DK w' base g (l++s.data.toList)/\Below base w w':=by
 obtain⟨AQ,p,A,c,av,aI,J⟩:=h;have Ae:=iw av;have AU:=J.ne av dc;obtain⟨n,Y⟩:=ai l.length;rw [<- Y] at av J hlen;have AV:=aa Y;have Aa:n+s.size<=maxLen:=by unfold maxLen;omega
 clear Y;go_enter func101,ntmps101;go_wp2_with (first|(go_at_call 153; refine (aie w g _ p av aI).mono ?_;rintro e w1 ⟨rfl,AA,I⟩;have Af:w1.cell? (ad g 1)=some (.slice A n c):=aQH w1 g 1 _ _ _ AA;have Ag:w1.frozen? ⟨g,1,none⟩=false:=aQY w1 g 1 _ _ AA;have AB:=J.grown I (fun b ae e=>AU (ae.trans e));clear J)|(at_builtin;have _t:=AB;go_must ((with_reducible refine vg 5 (.int .u8 0) 1 1 underlying48 QP rfl base A n c (bQ l) AB s.size (bQ s.data.toList) (.string s) (Src.str underlying9) (GZ _) Aa om (by have:=I.size;omega) ?_ ?_);exact⟨rfl,rfl⟩;intro dh bH aD AX AZ Ah;clear AB;have M:=(AZ.block g (by have:=I.size;omega) (fun e=>AU e.symm)).trans AA;have Ak:aD.cell? (ad g 1)=some (.slice A n c):=aQH aD g 1 _ _ _ M;have Al:aD.frozen? ⟨g,1,none⟩=false:=aQY aD g 1 _ _ M)));go_ret2;have Ac:Below base w w1:=(Below.refl base w).grown I sF (fun k e=>by injection e with e;omega);have Ad:Below base w aD:=Ac.grown AZ (by have:=I.size;omega) (fun k e=>(_t.block k e).1);refine⟨rfl,⟨AQ,_,dh,bH,?_,.inr rfl,?_⟩,Ad.setCell (p:=ad g 1) (by exact AQ) _⟩
 ·have:=aif _ M (.slice dh (n+s.size) bH);rw [List.length_append,wL];rw [AV.o] at this |-;exact this
 ·have AP:=AX.setOther (p:=ad g 1) (AX.ne M dc) (.slice dh (n+s.size) bH);rw [<- ahN] at AP;rw [List.length_append,wL];rw [AV.o] at AP |-;exact AP
theorem auS (w:aRU) (A:aRV) (c:Nat) (l:List (List UInt8)) (hl:l.length<=1000) (ax:Rd w 1 A l.length (cB l)) (bY:Mx w) (hlen:(nI l).length<=900000000) :
  CB 63 #[.slice A l.length c] w (.string (aA (nI l))):=by
 obtain⟨dI,AA⟩:=ai (w.alloc (.cells #[.pointer none,.slice none 0 0] 198));have Ag:Below w.heap.size w dI:=by rw [AA];exact (Below.refl _ w).alloc (aQF _) _
 have Y:I8 dI w.heap.size:=by rw [AA];exact aQM w _
 obtain⟨n,AV⟩:=ai l.length;rw [<- AV] at ax hl |-;obtain⟨BG,BH,AB,BK⟩:=hq4 ax bY AV hlen;clear ax bY AV hlen;go_enter func63,ntmps63;go_wp2;rw [<- AA];clear AA;go_loopw [8] (fun i wr=>∃ k:Nat,k<=n/\i = .int .i64 k/\DK wr w.heap.size w.heap.size (nI (l.take k))/\Bl w wr/\(k=0->I8 wr w.heap.size)) (fun i _=>n - (intOf i).toNat);case atStart=>exact⟨0,om,rfl,Y.at_ (aQF _),Ag,fun _=>Y⟩
 case round =>
  clear Ag Y;obtain⟨k,hk,rfl,J,M,AX⟩:=hrel;by_cases BL:k < n
  ·have BN:(k:Int) < n:=om;obtain⟨x,ah⟩:∃ x,l[k]?=some x:=⟨_,aQI (by rw [<- AB.o];exact BL)⟩;have Ah:l.take (k+1)=l.take k++[x]:=by rw [List.take_add_one,ah];rfl
   obtain⟨b,o,rfl,hcell⟩:=(BG.o.gz M).2 om;have Bi:wr.cell? (ad b (o+k))=some (.string (aA x)):=hcell k _ (by rw [cB,List.getElem?_map,ah];rfl);have AZ:nI (l.take (k+1))=nI (l.take k)++decDigits x.length++[58]++x:=by rw [Ah,aAF];simp
   have hle:(nI (l.take (k+1))).length<=900000000:=by have h:=congrArg (fun z=>(nI z).length) (aRC (k+1) l);simp only [aAJ,List.length_append] at h;have:=BK.o;omega
   rw [AZ] at hle;simp only [List.length_append,List.length_cons,List.length_nil] at hle;have AP:(aA x).size=x.length:=iP x;have Aa:(aA (decDigits x.length)).size=(decDigits x.length).length:=iP _;have Ak:=gZ x;have Ac:=gZ (decDigits x.length);obtain⟨R,Ad,D,AQ,L,Ae⟩:=nq3 (nI (l.take k)) (decDigits x.length) x.length;rw [<- Ad] at J hle;rw [<- AQ] at hle Aa Ac;rw [<- Ae] at hle AP AQ;have Bj:(L:Int)<=900000000:=om;obtain⟨BO,BP,Al,BR,AU,BS,BU,BX,BZ,Am⟩:=hq10 AZ Ad AQ Ae hle AP Aa Ak Ac M;have Bb:=M.size;have Bn:(aA x).size=L:=AP;clear AX AZ ah Ad AQ Ae Ah hcell hle Aa Ak Ac M AP;go_wp2_with (first|(go_at_call 102; refine (aAK wr L (by have:=AU.o;omega) (BH.o.on Am.o)).mono ?_;rintro e w1 ⟨rfl,I⟩;rw [<- Al.o];have Ao:=J.below I (aQF _);have Bp:=I.size;clear J)|(go_at_call 101; refine (auR w1 _ _ _ Ao (aA D) (by have:=AU.o;have:=BU.o;omega) om).mono ?_;rintro e af ⟨rfl,Af,Ap⟩;rw [BZ.o] at Af;have Bq:=Ap.size;clear Ao)|(go_at_call 103; refine (aAq af _ _ _ Af 58 (by have:=AU.o;rw [List.length_append];omega) om).mono ?_;rintro e aD ⟨rfl,Aq,Av⟩;have Br:=Av.size;clear Af)|(go_at_call 101; refine (auR aD _ _ _ Aq (aA x) (by have:=AU.o;have:=BS.o;rw [List.length_append,List.length_append,List.length_singleton];omega) om).mono ?_;rintro e Bt ⟨rfl,Az,BB⟩;rw [BX.o] at Az;have C8:=BB.size;clear Aq));go_roundw;case rel =>
    refine⟨k+1,om,by go_num,by rw [BO.o,<- BP.o,<- BR.o,<- Al.o];exact Az,(((Am.o.trans (I.mono Bb)).trans Ap).trans Av).trans BB,fun h=>om⟩
   case measure=>simp [intOf];omega
  ·have Bc:k=n:=om;have BN:¬ (k:Int) < n:=om;have BC:l.take k=l:=by rw [Bc,AB.o,List.take_length]
   rw [BC] at J;have BD:=aa M;have Be:=aa AX;clear M AX BC;rcases aQ2 n with BF | BF
   ·have Bf:k=0:=om;have Y:=Be.o Bf;have Bg:l=[]:=aQV (by rw [<- AB.o];exact BF);clear J;go_wp2_with (first|(go_at_call 104; refine (apz wr w.heap.size _ Y).mono ?_;rintro e w1 ⟨rfl,I⟩));go_ret;exact⟨by rw [Bg];rfl,BD.o.trans I⟩
   ·have Bh:nI l≠[]:=by
     obtain⟨x,t,rfl⟩:∃ x t,l=x :: t:=by
      cases l with
      | nil=>have:=AB.o;simp at this;omega
      | cons x t=>exact⟨x,t,rfl⟩
     rw [WH];simp
    go_wp2_with (first|(go_at_call 104; refine (apy wr w.heap.size _ _ J Bh).mono ?_;rintro e w1 ⟨rfl,I⟩));go_ret;exact⟨rfl,BD.o.trans I⟩
end
section
open Go.RowKit Go.Shelf Go.Maps Go.WideMaps Go.WideAt Go.MapKept Go.ChangeMaps
attribute [local go_sem] Oper.semAt_some
abbrev abL:={ x:Int × xQ // x.2.1.length<=1100000 }
def aga (x:abL):Array Value:=#[.int .i64 x.1.1,Zv x.1.2]
theorem aIB (n:Nat) (aB:1<=n) (l jq n0 b:Nat) (A:aRV) (cap:Nat) (zs:List xQ) (EH:zs.length<=1000000000) (lU:∀ p∈zs,p.1.length<=1100000) (bu vX:List abL->World->Prop)
  (gp:∀ pre x W,bu pre W->pre.length < zs.length->YieldAt Fence.wide (n - 1) prog l (aga x) W fun e W'=>(e = .returned (.bool true)/\bu (pre++[x]) W'/\uj n0 b W W')\/(e = .returned (.bool false)/\vX (pre++[x]) W'))
  (W:aRU) (vY:W.cell? (ad jq 0)=some (.slice A zs.length cap)) (hc:∀ W',uj n0 b W W'->W'.cell? (ad jq 0)=some (.slice A zs.length cap)) (ax:∀ W',uj n0 b W W'->Rd W' 2 A zs.length (KS zs)) (aV:bu [] W) :
  CallsIn Fence.wide n prog 151 #[.func (.yield l) #[] #[],pp jq 0] W fun e W'=>(∃ v,e = .returned v)/\((∃ ys,ys.map (·.1.2)=zs.reverse/\bu ys W')\/(∃ pre,True/\vX pre W')):=by
 have AX:=WG 151;obtain⟨len,hlen⟩:=ai zs.length;rw [<- hlen] at EH gp vY hc ax;refine aRj func151 rfl AX ?_ rfl;simp only [ntmps151,List.size_toArray,List.length_cons,List.length_nil,Nat.reduceAdd,Nat.reduceSub,Array.replicate_succ,Array.replicate_zero,List.push_toArray,List.append_toArray,List.nil_append,List.cons_append]
 gi_wp2
 gi_loopw [3] (fun i wr=>∃ (q:Nat) (ys:List abL) (M:Int),i = .int .i64 M/\M=(q:Int) - 1/\q<=len/\ys.map (·.1.2)=(zs.drop q).reverse/\bu ys wr/\uj n0 b W wr) (fun i _=>(intOf i+1).toNat)
 case atStart=>exact⟨len,[],_,rfl,om,aQF _,by rw [hlen,List.drop_length];rfl,aV,uj.refl _ _ _⟩
 case round =>
  obtain⟨q,ys,M,rfl,AA,Ah,I,AB,AP⟩:=hrel;by_cases Ak:0 < q
  ·obtain⟨p,rfl⟩:∃ p,q=p+1:=⟨q - 1,om⟩;obtain rfl:M=(p:Int):=om;clear AA;obtain⟨x,ah⟩:∃ x,zs[p]?=some x:=⟨_,aQI om⟩;have AQ:(zs.drop p).reverse=(zs.drop (p+1)).reverse++[x]:=by obtain⟨aI,rfl⟩:=aQL.1 ah;rw [List.drop_eq_getElem_cons aI,List.reverse_cons]
   obtain⟨b',o,rfl,hcell⟩:=(ax wr AP).2 om;have Al:wr.cell? ⟨b',o+p * 2,none⟩=some (.string (aA x.1)):=hcell (p * 2) _ (air ah).1;have Am:wr.cell? ⟨b',o+p * 2+1,none⟩=some (.string (aA x.2)):=hcell (p * 2+1) _ (air ah).2;have AU:=lU x (aQK ah);have AZ:ys.length < len:=by have:=congrArg List.length I;rw [List.length_map,List.length_reverse,List.length_drop] at this;omega
   have Y:=gp ys ⟨((p:Int),x),AU⟩ wr AB AZ;have AV:(ys++[(⟨((p:Int),x),AU⟩:abL)]).map (·.1.2)=(zs.drop p).reverse:=by rw [List.map_append,I,AQ];rfl
   unfold aga Zv at Y;simp only at Y;obtain⟨fn,tmps,assign,body,hy,Aa⟩:=Y;have Ao:(0:Int)<=p:=om;have Ac:=aa AV;clear ah AQ hcell I AV
   gi_wp2
   refine Aa.mono ?_;rintro e Ap (⟨rfl,Ad,Ae⟩ | ⟨rfl,Af⟩)
   ·gi_wp2
    go_roundw;case rel=>exact⟨p,_,_,rfl,om,om,Ac.o,Ad,AP.trans Ae⟩
    case measure=>simp [intOf]
   ·gi_wp2
    refine qB ?_;exact⟨⟨_,rfl⟩,.inr ⟨_,trivial,Af⟩⟩
  ·obtain rfl:q=0:=om;obtain rfl:M = -1:=om;clear AA;rw [List.drop_zero] at I;have Ag:=aa I;clear I
   gi_wp2
   go_end0;exact⟨⟨_,rfl⟩,.inl ⟨_,Ag.o,AB⟩⟩
theorem aIC (n:Nat) (aB:1<=n) (jq n0 b:Nat) (A:aRV) (cap:Nat) (zs:List xQ) (EH:zs.length<=1000000000) (lU:∀ p∈zs,p.1.length<=1100000) (w:aRU) (vY:jq < n0) (aID:jq≠b) (EA:n0<=w.heap.size)
  (hc:w.heap[jq]?=some (.cells #[.slice A zs.length cap] 43 (0,0))) (ax:∀ W',uj n0 b w W'->Rd W' 2 A zs.length (KS zs)) :
  SeqStopsK Fence.wide n prog 151 #[pp jq 0] aga (uj n0 b) (fun ys=>ys.map (·.1.2)=zs.reverse) (fun _=>True) zs.length w:=fun l bu Y W AA _ _ AB AP=>by
 have I:∀ W',uj n0 b W W'->uj n0 b w W':=fun W' h=>(uj.gN (AA.mono EA)).trans h;have M:∀ W',uj n0 b W W'->W'.cell? (ad jq 0)=some (.slice A zs.length cap):=fun W' h=>aQH W' jq 0 _ _ _ (((I W' h).keep jq vY aID).trans hc);refine (aIB n aB l jq n0 b A cap zs EH lU bu Y AB W (M W (uj.refl _ _ _)) M (fun W' h=>ax W' (I W' h)) AP).mono ?_;rintro e W' ⟨he,⟨ys,aI,aC⟩ | ⟨pre,aI,aC⟩⟩
 ·exact⟨he,.inl ⟨_,aI,aC⟩⟩
 ·exact⟨he,.inr ⟨pre,aI,aC⟩⟩
theorem aIE (w:aRU) (A:aRV) (c:Nat) (l:List xQ) (hl:l.length<=1000) (lU:∀ p∈l,p.1.length<=1100000) (ax:Rd w 2 A l.length (KS l)) :
  Calls prog 61 #[.slice A l.length c] w fun e w'=>∃ A' c',e = .returned (.slice A' (Cx l).length c')/\Own w' w.heap.size 9 1 A' (Cx l).length c' (cB (Cx l))/\Bl w w':=by
 have Dv:=@run_makeMap prog;have Dw:=WG 98;have Dz:=WG 100;have E5:=WG 99;refine (aQZ (n:=6)).1 ?_;refine aRy func61 rfl trivial ?_ rfl;simp only [ntmps61,List.size_toArray,List.length_cons,List.length_nil,Nat.reduceAdd,Nat.reduceSub,Array.replicate_succ,Array.replicate_zero,List.push_toArray,List.append_toArray,List.nil_append,List.cons_append]
 gi_wp2_with (first|(gi_at_call 98; refine (aQZ.2 (aAW _ A l.length c)).mono ?_;rintro e w' ⟨rfl,rfl⟩))
 obtain⟨b,ae⟩:=ai w.heap.size;obtain⟨dN,AV⟩:=ai (((w.alloc (.map #[] 0)).alloc (.cells #[.map (some w.heap.size)] 189)).alloc (.cells #[.slice A l.length c] 43));have Az:eU dN prog 9 Ul b 0 ([]:fA fC):=by rw [AV,ae];exact ((eU.made w prog 9 Ul).alloc _).alloc _
 have E8:dN.heap.size=b+3:=by rw [AV,ae];simp
 have Af:dN.heap[b+1]?=some (.cells #[.map (some b)] 189 (0,0)):=by rw [AV,ae];refine (aQ5 _ _ _ sp).trans ?_;have:=aQM (w.alloc (.map #[] 0)) (.cells #[.map (some w.heap.size)] 189);rwa [World.size_alloc] at this
 have BB:dN.heap[b+2]?=some (.cells #[.slice A l.length c] 43 (0,0)):=by rw [AV,ae];have:=aQM ((w.alloc (.map #[] 0)).alloc (.cells #[.map (some w.heap.size)] 189)) (.cells #[.slice A l.length c] 43);rwa [World.size_alloc,World.size_alloc] at this
 have Ag:Below w.heap.size w dN:=by rw [AV];exact (((Below.refl _ w).alloc (aQF _) _).alloc sp _).alloc (by simp;omega) _
 rw [<- AV,<- ae];rw [<- ae] at Ag;have Bb:∀ W,uj (b+3) b dN W->Rd W 2 A l.length (KS l):=fun W Cg=>ax.keep fun Bc E9 u EA hu=>by
  have Ah:=aQR _ _ hu;simp only at Ah;exact (aRu ((Cg.keep Bc om om).trans (Ag.block Bc om))).trans hu
 have Be:=aIC 5 om (b+2) (b+3) b A c l om lU dN om om om BB Bb;have Cj:=aa ae;have Bf:Below w.heap.size w dN:=by rw [<- ae];exact Ag
 have Ck:=aa Bf;have EC:w.heap.size < b+3:=om;clear ae AV ax Ag Bf Bb;refine wpIn_rangeFunc_ownH rfl om (gf:=151) (lb:=#[pp (b+1+1) 0]) rfl trivial (enters_of func151 kr rfl)
  Be uj.trans (uj.put om) (Below.refl _ _) (fun _=>rfl)
  (fun pre W=>eU W prog 9 Ul b pre.length (MG (pre.map (·.1.2)))/\uj (b+3) b dN W/\Bl w W)
  (fun _ _ _=>False)
  ?Cm (fun _ _ _ _ _ hs _ _=>hs) ⟨Az,uj.refl _ _ _,Ck.o⟩
  (fun x BC W=>∃ Y,b+3<=Y/\W.heap[Y]?=some (.cells #[.string (aA x.1.2.1),.string (aA x.1.2.2)] 194 (0,0))/\BC={ tmps:=#[.slice A l.length c,undef,.slice none 0 0,pp (b+1) 0,undef,pp Y 0,undef,undef,undef,.map (some b),.slice A l.length c,.func (.func 151) #[] #[pp (b+1+1) 0],.int .i64 x.1.1,Zv x.1.2,undef,undef,undef,undef,undef,undef,undef,undef,undef,undef,undef,undef,undef,undef,undef,undef,undef,undef,undef,undef,undef,undef],defers:=[] })
  ?Co ?assign ?body ?done ?stop;case Cm =>
  rintro pre W W' row ⟨h1,I,J⟩ av AP;refine⟨h1.grown av (fun e=>by have:=(AP b e.symm).1;omega),I.trans ⟨av.size,fun k hk _=>av.block k (by have:=I.size;omega) (fun e=>by have:=(AP k e.symm).1;omega)⟩,J.grown av J.size (fun k e=>by have:=(AP k e).1;omega)⟩
 case Co =>
  rintro x BC _ W W' row ⟨Y,h1,I,J⟩ av AP;refine⟨Y,h1,(av.block Y (iw I) (fun e=>?_)).trans I,J⟩;obtain⟨o,Bg,hc⟩:=(AP Y e.symm).2;rw [I] at Bg;cases Bg;cases hc
 case assign =>
  rintro JC pre ⟨⟨Bh,nm,AX⟩,ah⟩ W K ⟨h1,I,J⟩ Ac;simp only [aga,Zv];obtain⟨H1,BD,AB⟩:=hq3 h1 I J;have Bi:=I.size;clear h1 I J
  gi_wp2
  exact Ac _ _ ((KeepsOthers.alloc _ _).from _) (uj.gN ((Below.refl _ W).alloc om _)) ⟨H1.o.alloc _,BD.o.trans (uj.gN ((Below.refl _ W).alloc om _)),AB.o.alloc AB.o.size _⟩ ⟨W.heap.size,om,aQM W _,rfl⟩
 case body =>
  rintro JC pre ⟨⟨Bh,nm,AX⟩,ah⟩ BC W EF EG ⟨h1,I,J⟩ ⟨Y,EH,AZ,rfl⟩ Ah;simp only at AZ ah;have EJ:W.cell? (ad Y 0)=some (.string (aA nm)):=aQH W Y 0 _ _ _ AZ;have EK:W.cell? (ad Y 1)=some (.string (aA AX)):=aQH W Y 1 _ _ _ AZ;have BF:W.cell? (ad (b+1) 0)=some (.map (some b)):=aQH W (b+1) 0 _ _ _ ((I.keep (b+1) om om).trans Af);have Bi:=I.size;simp only [Zv];obtain⟨H1,BD,AB⟩:=hq3 h1 I J;clear h1 I J AZ Az Af BB
  gi_wp2_with (first|(gi_at_mapUpdate;go_must (refine wpListIn_mapUpdate_own _ rfl _ _ _ 189 rfl 9 9 (string_keyed underlying9) underlying189 (Ol Ul) b pre.length _ rfl H1.o mV _ _ _ rfl rfl (keyOf_string_mk underlying9 (by rw [iP];unfold maxLen;omega)) (.held AX) [] (KG apV AX) ?_;intro w1 Bj Aa)))
  refine⟨KeepsFrom.of_grownBy Aa (fun j e=>by cases e;omega),⟨Aa.size,fun k hk BG=>Aa.block k om (fun e=>BG (by cases e;rfl))⟩,?_,BD.o.trans ⟨Aa.size,fun k hk BG=>Aa.block k om (fun e=>BG (by cases e;rfl))⟩,AB.o.grown Aa AB.o.size (fun k e=>by cases e;exact aQ1 Cj.o.symm)⟩;rw [ahS,gZ] at Bj;rw [List.map_append,List.length_append,show ([⟨(Bh,nm,AX),ah⟩]:List abL).map (·.1.2)=[(nm,AX)] from rfl,apU];exact Bj
 case done =>
  rintro D ys W EL BH ⟨h1,I,J⟩ Ac;rw [BH] at h1;have Bn:ys.length=l.length:=by have:=congrArg List.length BH;rwa [List.length_map,List.length_reverse] at this
  rw [Bn] at h1;have Ak:=eU.AL h1 (string_keyed underlying9);have Ad:=aAV Ak;have Al:=apR l;have BK:=ais l;have Am:=apQ l;have BL:=fun (k:Nat) (n:fC) h=>aAL (l:=l) (k:=k) (n:=n) h;have Ao:=Mw (l.map (·.1));rw [List.length_map] at Ao;have BN:=fun n=>aAT l n;have Ap:(MG l.reverse).length=(mP (l.map (·.1))).length:=by rw [<- Ad,List.length_map]
  have BO:∀ x∈mP (l.map (·.1)),x.length<=1100000:=fun x ah=>by
   obtain⟨p,aI,rfl⟩:=aQO.1 (((Jb _).2 x).1 ah);exact lU p aI
  obtain⟨M,Bp⟩:=ai (MG l.reverse);obtain⟨Bq,Br⟩:=ai (mP (l.map (·.1)));obtain⟨m,hm⟩:=ai Bq.length;rw [<- Bp] at h1 Ak Ad BN Ap;rw [<- Br] at Ad Al BK Am BL Ao Ap BO;rw [<- hm] at Al BK Am Ao Ap;have AA:=h1;unfold eU at AA;have Bt:=Tryz.maps_Keys_100 (some b) W;have C8:=Tryz.slices_Sorted_keys_99_100 b l.length (mapD M) (Ol Ul) W AA (by rw [TS];unfold maxLen;omega) (by rw [TS];omega);have BF:W.cell? (ad (b+1) 0)=some (.map (some b)):=aQH W (b+1) 0 _ _ _ ((I.keep (b+1) om om).trans Af);have EM:b+1 < W.heap.size:=by have:=I.size;omega
  have Cr:=iw Ac;obtain⟨CF,H1,AB,CG,Ct,CJ,Cu,Cv,D8,DF,DI,CK⟩:=hq12 Ac h1 J hm Ak Ad Al Am BL BN BO BF;have EN:m<=1000:=om;clear AA h1 I J Ac hm Br Ak Ad Al BK Am BL BN BO Bp Ap Ao Af BB Az Be BH Bn
  gi_wp2_with (first|(gi_at_call 100; refine Bt.mono ?_;rintro e w1 ⟨rfl,rfl⟩;clear Bt)|(gi_at_call 99; refine C8.mono ?_;rintro e af ⟨v,DJ,rfl,Aq,AP,DN,AU⟩;rw [aoE] at Aq;have CL:DJ.length=m:=(by rw [Aq.length_eq,CJ.o,<- CG.o]);rw [aoG Ct.o Aq,CL,CJ.o] at AP;obtain⟨il,c2,rfl,CQ⟩:=aik AP;have CS:=aa AU;have CU:=aa CQ;clear AP DN AU CQ Aq C8 CL))
  refine wpIn_wide.2 ?_;have AU:=CS.o;have EO:(W.alloc (.cells #[.map (some b)] 189)).heap.size=W.heap.size+1:=by simp
  have M2:eU af prog 9 Ul b l.length M:=(H1.o.alloc _).below AU om;have CV:af.cell? (ad (b+1) 0)=some (.map (some b)):=(AU.cell (p:=ad (b+1) 0) (by show b+1 < _;omega)).trans ((World.cell?_alloc_lt W _ ⟨b+1,0,none⟩ (by show b+1 < _;omega)).trans CK.o);have d2:af.heap[D]?=some (.deferred (some [])):=(AU.block D om).trans ((aQ5 _ _ _ Cr).trans CF.o);have r9:Bl w af:=(AB.o.alloc AB.o.size _).trans (AU.mono (by have:=AB.o.size;omega));have CW:=r9.size;obtain⟨CX,CY,BP,DR⟩:=hq4 M2 CV d2 r9;have DT:=aa CU.o.rd;clear AU M2 CV d2 r9 CS CU CF H1 AB CK;go_loopg [6,23] m (fun gk DU Db wr=>∃ (k j:Nat) (Ae:aRV) (c1:Nat),k+gk=m/\j=2 * k/\Db = .int .i64 k/\DU = .slice Ae j c1/\Own wr af.heap.size 9 1 Ae j c1 (cB (MC l k))/\Bl af wr);case atStart=>exact⟨0,0,none,0,om,rfl,rfl,rfl,Own.nil _ _ _ _,Below.refl _ _⟩
  case round =>
   obtain⟨k,j,Ae,c1,hk,aC,rfl,rfl,AA,AQ⟩:=hrel;have ES:j<=2000:=om;have CZ:=aa aC;clear aC;by_cases Ah:k < m
   ·have Dc:(k:Int) < m:=om;have ET:(0:Int)<=k:=om;obtain⟨x,ah⟩:∃ x,Bq[k]?=some x:=⟨_,aQI (by rw [<- CG.o];exact Ah)⟩;have Ca:=D8.o k x ah;have De:=DI.o x (aQK ah);obtain⟨Dg,o,rfl,hcell⟩:=(DT.o.gz AQ).2 om;have AZ:wr.cell? (ad Dg (o+k))=some (.string (aA x)):=hcell k _ (Zq ah);have BF:wr.cell? (ad (b+1) 0)=some (.map (some b)):=(AQ.cell (p:=ad (b+1) 0) (aQR _ _ CY.o)).trans CY.o;have Av:=(CX.o.below AQ CX.o.lt).look apV underlying9 underlying189 ([]:fC) (aAX wr) (aA x) (by rw [iP];unfold maxLen;omega);rw [gZ,DF.o x] at Av;unfold Ul at Av;obtain⟨X,BR,U,BS⟩:=nq2 (aA x) (aA (valOf l x));rw [<- BR] at AZ Av;rw [<- BS] at Av;obtain⟨V,BU⟩:=ai (cB (MC l k));rw [<- BU] at AA;obtain⟨Dh,Di,Dj,Dk,BX⟩:=hq5 BR BS BU Ca AQ;have Bi:=AQ.size;have Dp:∀ v∈[Value.string X,Value.string U],v.oneCell'=true:=by simp [Value.oneCell']
    clear ah Ca hcell AQ BR BS BU De;go_wp2_with (at_builtin;have _t:=AA;go_must ((with_reducible refine vg 9 (.string ⟨#[]⟩) 1 16 underlying24 ahO rfl af.heap.size Ae j c1 V (AA.alloc _) 2 [.string X,.string U] (.slice (some ⟨wr.heap.size,0,none⟩) 2 2) (Src.slice underlying24 (Rd.adi wr _ _ 1 2 dc rfl)) Dp ?_ ?_ ?_ ?_ ?_);exact mV;omega;(simp;omega);exact⟨rfl,rfl⟩;intro dh bH aD Dq Dr EU;clear AA;have Dt:Bl af aD:=(BX.o.alloc om _).grown Dr (by simp;omega) (fun g e=>(_t.block g e).1)));go_roundg (gk - 1);case rel =>
     refine⟨k+1,j+2,dh,bH,om,by have:=CZ.o;omega,by go_num,rfl,?_,Dt⟩;rw [Dk.o,show cB (MC l k++[x,valOf l x])=V++[.string X,.string U] by rw [Dj.o,Dh.o,Di.o];simp [cB]];exact Dq
    case measure=>omega
   ·have BZ:k=m:=om;have Dc:¬ (k:Int) < m:=om;rw [BZ,Cv.o] at AA;have Cc:=aa (show j=(Cx l).length by rw [Cu.o,<- BZ];exact CZ.o);have Du:=(AQ.block D (iw BP.o)).trans BP.o;have Ce:=aa AA;have BX:=aa AQ;clear BZ AA AQ;go_wp2_with fail;refine wpIn_wide.2 ?_;go_wp2_with fail;have EX:=iw BP.o;have Cf:=DR.o.trans (BX.o.mono CW);refine⟨by simp,.inl ⟨_,_,rfl,aRp Du,?_⟩⟩;refine⟨_,aRg rfl _ _ _,Ae,c1,by rw [<- Cc.o];rfl,?_,Cf.grown (aRa wr D _) Cf.size (fun k e=>by cases e;omega)⟩;rw [<- Cc.o];exact (Ce.o.grown (aRa wr D _) (fun b ae e=>by have:=(Ce.o.block b ae).1;cases e;omega)).mono CW
 case stop =>
  rintro D EY pre W _ _ h _;exact h.elim
end
end
section
section
open Go.Lib (decDigits)
structure Yi (a:lv):Prop where
 env:a.env.length<=150
 tool:a.tool.length<=100000
 ins:a.ins.length<=150
 asks:a.asks.length<=150
 outs:a.outs.length<=150
 Jd:∀ x∈a.ins,x.length<=1100000
 Cz:∀ x∈a.asks,x.length<=1100000
 AR:∀ x∈a.outs,x.length<=1100000
 MB:∀ p∈a.env,p.1.length<=1100000/\p.2.length<=1100000
structure au1 (a:lv):Prop where
 env:(nI (Cx a.env)).length<=330003300
 ins:(nI (mP a.ins)).length<=165001650
 asks:(nI (mP a.asks)).length<=165001650
 outs:(nI (mP a.outs)).length<=165001650
 Cb:(Cx a.env).length<=300
 JZ:(mP a.ins).length<=150
 J2:(mP a.asks).length<=150
 wC:(mP a.outs).length<=150
 text:(vZ a).length<=900000000
theorem al4 (h:Yi a):au1 a:=by
 have Cb:(Cx a.env).length<=300:=by rw [apR];have:=Mw (a.env.map (·.1));rw [List.length_map] at this;have:=h.env;omega
 have JZ:=aQG (Mw a.ins) h.ins;have J2:=aQG (Mw a.asks) h.asks;have wC:=aQG (Mw a.outs) h.outs;have I:=Zu (M:=1100000) om _ _ Cb (aAN h.MB);have J:=Zu (M:=1100000) om _ _ JZ (ait h.Jd);have Y:=Zu (M:=1100000) om _ _ J2 (ait h.Cz);have AA:=Zu (M:=1100000) om _ _ wC (ait h.AR);refine⟨I,J,Y,AA,Cb,JZ,J2,wC,?_⟩;have d0:=WL (n:=a.tool.length) (by have:=h.tool;omega);have d1:=WL (n:=(nI (Cx a.env)).length) om;have d2:=WL (n:=(nI (mP a.ins)).length) om;have d3:=WL (n:=(nI (mP a.asks)).length) om;have d4:=WL (n:=(nI (mP a.outs)).length) om;have AB:=h.tool;rw [vZ,Cy];simp only [List.map_cons,List.map_nil];rw [WK,WK,WK,WK,WK,adH];simp only [List.length_nil];omega
theorem aIK (h:au1 a) {x:List fC} (ah:([a.tool] :: Cy a)[k+1]?=some x):(nI x).length<=330003300/\x.length<=300:=by
 rw [List.getElem?_cons_succ] at ah;have:=h.env;have:=h.ins;have:=h.asks;have:=h.outs;have:=h.Cb;have:=h.JZ;have:=h.J2;have:=h.wC;match k,ah with
 | 0,ah=>cases ah;omega
 | 1,ah=>cases ah;omega
 | 2,ah=>cases ah;omega
 | 3,ah=>cases ah;omega
 | k+4,ah=>simp [Cy] at ah
end
section
open Go.RowKit Go.Shelf
def aIL (w:aRU) (v:Value) (l:List fC):Prop:=∃ A c,v = .slice A l.length c/\Rd w 1 A l.length (cB l)
def abN (a:lv) (j:Nat) (v:Value) (w:aRU):Prop:=aIL w v ([[],[],Cx a.env,[],[],mP a.ins,[],[],mP a.asks,[],[],mP a.outs].getD j [])
theorem au2 (w:aRU) (L:vw) (a:lv) (h:KV w L a) (Gn:Yi a) (abO:Mx w) :
  CB 40 #[.agg (nT L a)] w (.string (aA (vZ a))):=by
 have Am:=al4 Gn;have BP:∀ k,∀ x,(Cy a)[k]?=some x->(nI x).length<=330003300/\x.length<=300:=fun k x ah=>aIK Am (k:=k) (by rw [List.getElem?_cons_succ];exact ah);have BR:∀ k,∀ x,(Cy a)[k]?=some x->CE a (k+2)=CE a (k+1)++[nI x]:=fun k x ah=>aAO (by rw [List.getElem?_cons_succ];exact ah);have BS:=fun (k:Nat) (h1:1<=k) (CY:k<=5)=>aAQ (a:=a) h1 CY;have BU:(vZ a).length<=900000000:=Am.text;have AB:=aAP a;have BX:(Cy a).length=4:=rfl;obtain⟨KT,nm,E,oK,A,O,KU,j6,eY,wN⟩:=L;have bz:=h.env;have Ao:=h.ins;have hA:=h.asks;have hO:=h.outs;have MB:=Gn.env;have Jd:=Gn.ins;have Cz:=Gn.asks;have AR:=Gn.outs;simp only at bz Ao hA hO;unfold nT;simp only;obtain⟨W,Y⟩:=ai (w.alloc (.cells #[.string KT,.string nm,.string (aA a.tool),.slice E a.env.length KU,.slice oK a.ins.length j6,.slice A a.asks.length eY,.slice O a.outs.length wN] 45));obtain⟨AV,Ap⟩:=ai w.heap.size;have AX:Bl w W:=by rw [Y];exact (Below.refl _ w).alloc (aQF _) _
 have AP:W.heap[AV]?=some (.cells #[.string KT,.string nm,.string (aA a.tool),.slice E a.env.length KU,.slice oK a.ins.length j6,.slice A a.asks.length eY,.slice O a.outs.length wN] 45 (0,0)):=by rw [Y,Ap];exact aQM w _
 have Aq:=aa (fun af (ae:Bl W af)=>aIE af E KU a.env om (fun p aI=>by have:=(Gn.MB p aI).1;omega) ((bz.gz AX).gz ae));have Av:=aa (fun af (ae:Bl W af)=>aiq af oK j6 a.ins om ((Ao.gz AX).gz ae));have Az:=aa (fun af (ae:Bl W af)=>aiq af A eY a.asks om ((hA.gz AX).gz ae));have BB:=aa (fun af (ae:Bl W af)=>aiq af O wN a.outs om ((hO.gz AX).gz ae));have BZ:=aa (show cB [a.tool]=[.string (aA a.tool)] from rfl);obtain⟨T,bY,Cb,Bb,JZ,Bc,J2,Be,wC,Bf⟩:=nq5 (aA a.tool) a.env.length a.ins.length a.asks.length a.outs.length;rw [<- bY] at Y AP BZ |-;rw [<- Bb] at Y AP Aq MB |-;rw [<- Bc] at Y AP Av Jd |-;rw [<- Be] at Y AP Az Cz |-;rw [<- Bf] at Y AP BB AR |-;have Bg:=iw AP;have BC:=aa (show ∀ af,Bl W af->af.cell? (ad AV 2)=some (.string T)/\af.cell? (ad AV 3)=some (.slice E Cb KU)/\af.cell? (ad AV 4)=some (.slice oK JZ j6)/\af.cell? (ad AV 5)=some (.slice A J2 eY)/\af.cell? (ad AV 6)=some (.slice O wC wN) from fun af ae=>by
  have Ad:=(ae.block AV Bg).trans AP;exact⟨aQH af _ 2 _ _ _ Ad,aQH af _ 3 _ _ _ Ad,aQH af _ 4 _ _ _ Ad,aQH af _ 5 _ _ _ Ad,aQH af _ 6 _ _ _ Ad⟩);obtain⟨CZ,Ca,Cc⟩:=hq3 Y AX Ap;have Bh:=aa (show Mx W from abO.on AX);obtain⟨Bi,Bj,Ce,Cf,Bn,Bp⟩:=hq6 BP BR BS BU AB BX;have Cg:=aa (show ∀ Ac:World,Own (Ac.alloc (.cells #[.string T] 9)) Ac.heap.size 9 1 (some ⟨Ac.heap.size,0,none⟩) 1 1 (cB (CE a 1)) from fun Ac=>by
  rw [show cB (CE a 1)=[.string T] from BZ.o];exact Own.lit Ac #[.string T] 9 1 1 Ac.heap.size (aQF _) dc rfl);clear Am BP BR BS BU AB BX abO h Gn bz Ao hA hO bY Bb Bc Be Bf AP AX Bg Y Ap;go_enter func40,ntmps40;go_wp2_with fail;rw [<- CZ.o,<- Cc.o];have kR:=BC;refine nz nH 12 [some _,some _,none,some _,some _,none,some _,some _,none,some _,some _,none] (abN a) (Bl W) Bl (Below.refl _ W).drew (fun j v w1 af ae h=>Exists.imp (fun A=>Exists.imp fun c h=>⟨h.1,h.2.gz ae⟩) h) ?_ (jI:=⟨rx,rx,fun eQ u af aj aL bz K aR=>?_,rx,rx,fun eQ u af aj aL bz K aR=>?_,rx,rx,fun eQ u af aj aL bz K aR=>?_,rx,rx,fun eQ u af aj aL bz K aR=>?_,trivial⟩)
 rotate_left
 iterate 4
  focus
   simp [iX,Region.binds] at bz;refine mg rfl ?_;go_simp;first | refine (Aq.o af aj).mono ?_ | refine (Av.o af aj).mono ?_ | refine (Az.o af aj).mono ?_ | refine (BB.o af aj).mono ?_
   rintro e aD ⟨dh,bH,rfl,Cj,Bq⟩;exact aR _ _ ⟨dh,bH,rfl,Cj.rd⟩ (aU aj Bq) Bq
 ·intro u af aj Ae;obtain⟨Ah,Ak,Ck,Br⟩:=show abN a 2 _ _ from Ae 2 om
  obtain⟨AZ,c1,Cm,Bt⟩:=show abN a 5 _ _ from Ae 5 om
  obtain⟨il,c2,Co,C8⟩:=show abN a 8 _ _ from Ae 8 om
  obtain⟨dh,bH,Cr,CF⟩:=show abN a 11 _ _ from Ae 11 om
  clear Ae;simp only [Ck,Cm,Co,Cr];have AA:=aQM af (.cells #[.slice Ah (Cx a.env).length Ak,.slice AZ (mP a.ins).length c1,.slice il (mP a.asks).length c2,.slice dh (mP a.outs).length bH] 24);obtain⟨J,Af⟩:=ai (af.alloc (.cells #[.slice Ah (Cx a.env).length Ak,.slice AZ (mP a.ins).length c1,.slice il (mP a.asks).length c2,.slice dh (mP a.outs).length bH] 24));have BD:Bl W J:=by rw [Af];exact aj.alloc aj.size _
  have AB:∀ (A:aRV) (x:List fC),Rd af 1 A x.length (cB x)->Rd J 1 A x.length (cB x):=fun A x h=>by rw [Af];exact h.alloc _
  rw [<- Af] at AA;have CG:adJ J af.heap.size (Cy a) (fun i=>[Ah,AZ,il,dh].getD i none) (fun i=>[Ak,c1,c2,bH].getD i 0):=by
   intro i x ah;match i,ah with
   | 0,ah=>cases ah;exact⟨aQH _ _ 0 _ _ _ AA,AB _ _ Br⟩
   | 1,ah=>cases ah;exact⟨aQH _ _ 1 _ _ _ AA,AB _ _ Bt⟩
   | 2,ah=>cases ah;exact⟨aQH _ _ 2 _ _ _ AA,AB _ _ C8⟩
   | 3,ah=>cases ah;exact⟨aQH _ _ 3 _ _ _ AA,AB _ _ CF⟩
   | i+4,ah=>simp [Cy] at ah
  have Du:=(BC.o J BD).1;obtain⟨Ct,BF,BG⟩:=hq3 Af CG BD;obtain⟨g,av⟩:=ai af.heap.size;obtain⟨Oy,CJ⟩:∃ Oy:Nat->Option Addr,Oy=fun i=>[Ah,AZ,il,dh].getD i none:=⟨_,rfl⟩;obtain⟨cs,hcs⟩:∃ cs:Nat->Nat,cs=fun i=>[Ak,c1,c2,bH].getD i 0:=⟨_,rfl⟩;rw [<- av,<- CJ,<- hcs] at BF;obtain⟨Cu,CK⟩:=ai (Cy a);rw [<- CK] at BF Bi Bj Bp;have Cv:=aa av;clear AA AB CG aj BD Af CJ hcs Br Bt C8 CF Aq Av Az BB BC av CK;go_wp2_with (first|(rw [<- Ct.o,<- Cv.o])|fail);go_loopg [4,25] 4 (fun gk D8 DF wr=>∃ (k j:Nat) (AZ:aRV) (c1:Nat),k+gk=4/\j=k+1/\DF = .int .i64 k/\D8 = .slice AZ j c1/\Own wr J.heap.size 9 1 AZ j c1 (cB (CE a j))/\Bl J wr);case atStart=>exact⟨0,1,_,_,om,rfl,rfl,rfl,Cg.o J,iD⟩
  case round =>
   obtain⟨k,j,CL,CQ,hk,aC,rfl,rfl,Ag,AQ⟩:=hrel;have BH:=aa aC;have Dv:j<=5:=om;clear aC;by_cases DI:k < 4
   ·have DJ:(k:Int) < 4:=om;have Dw:(0:Int)<=k:=om;obtain⟨x,ah⟩:∃ x,Cu[k]?=some x:=⟨_,aQI (by rw [Bp.o];exact DI)⟩;have CS:CE a (j+1)=CE a j++[nI x]:=by rw [BH.o];exact Bj.o k x ah
    obtain⟨DN,DR⟩:=Bi.o k x ah;obtain⟨DT,CU⟩:=(BF.o.below AQ) k x ah;have AU:=auS wr (Oy k) (cs k) x om CU ((Bh.o.on BG.o).on AQ) om;have DU:=AQ.size;obtain⟨R,aL⟩:=ai (aA (nI x));rw [<- aL] at AU;obtain⟨n,AA⟩:=ai x.length;rw [<- AA] at AU DT;obtain⟨Db,BK⟩:=ai (cB (CE a j));rw [<- BK] at Ag;obtain⟨Dc,BL,De,Dg⟩:=hq4 CS AQ aL BK;clear ah CS DN DR CU aL AA BK AQ;go_wp2_with (first|(go_at_call 63; refine AU.mono ?_;rintro e bn ⟨rfl,Aa⟩;have BN:=Ag.below Aa (aQF _);have Dz:=Aa.size;have BO:=aa Aa;clear AU Ag Aa)|(at_builtin;have _t:=BN;go_must ((with_reducible refine vg 9 (.string ⟨#[]⟩) 1 16 underlying24 ahO rfl J.heap.size CL j CQ Db (BN.alloc _) 1 [.string R] (.slice (some ⟨bn.heap.size,0,none⟩) 1 1) (Src.slice underlying24 (Rd.one bn _ _)) ayX ?_ ?_ ?_ ?_ ?_);exact mV;omega;(simp;omega);exact⟨rfl,rfl⟩;intro Dh Di Dj Dk Dp E5;clear BN;have Dq:Bl J Dj:=(((BL.o.trans (BO.o.mono DU))).alloc om _).grown Dp (by simp;omega) (fun g e=>(_t.block g e).1))));go_roundg (gk - 1);case rel=>exact⟨k+1,j+1,Dh,Di,om,by have:=BH.o;omega,by go_num,rfl,by rw [Dc.o,<- aos,<- Dg.o,<- De.o];exact Dk,Dq⟩
    case measure=>omega
   ·have Dr:k=4:=om;have DJ:¬ (k:Int) < 4:=om;obtain rfl:j=5:=by have:=BH.o;omega
    have Al:=Ce.o 5 om om;have CV:=Ag.rd;have CW:(nI (CE a 5)).length<=900000000:=by rw [Bn.o];have:=Cf.o;omega
    have AU:=auS wr CL CQ (CE a 5) (by rw [Al];omega) (by rw [Al];exact CV) ((Bh.o.on BG.o).on AQ) CW;rw [Al,Bn.o] at AU;have BL:=aa AQ;clear CV CW Ag Al AQ Dr;go_wp2_with (first|(go_at_call 63; refine AU.mono ?_;rintro e bn ⟨rfl,Aa⟩;have BO:=aa Aa;clear AU Aa));go_ret;have fo:=aU Ca.o BG.o;have Dt:=aU fo BL.o;exact⟨rfl,aU Dt BO.o⟩
end
end
section
open Go.RowKit Go.Shelf
theorem aIP (w:aRU) (L:vw) (a:lv) (h:KV w L a) (Gn:Yi a) (abO:Mx w) :
  CB 117 #[.agg (nT L a)] w (.agg (bQ (bP.sum (vZ a))).toArray):=by
 have BG:(vZ a).length<=900000000:=(al4 Gn).text;obtain⟨uK,J⟩:=ai (w.alloc (.cells (nT L a) 45));have Ac:Bl w uK:=by rw [J];exact (Below.refl _ w).alloc (aQF _) _
 have Ad:w.heap.size+1=uK.heap.size:=by rw [J];simp
 have Ae:uK.heap[w.heap.size]?=some (.cells (nT L a) 45 (0,0)):=by rw [J];exact aQM w _
 have M:=uI.start uK;obtain⟨W,AQ⟩:=ai (uK.alloc (.cells (bQ (List.replicate 32 0)).toArray 59));rw [<- AQ] at M;have Y:Bl w W:=Ac.trans (M.below.mono om);have AA:=au2 W L a (h.below Y) Gn (abO.on Y);have Af:W.heap[w.heap.size]?=some (.cells (nT L a) 45 (0,0)):=(M.below.block _ om).trans Ae;have Ag:∃ V:List Value,V=(nT L a).toList/\V.length=7:=⟨_,rfl,rfl⟩;have AU:∀ j,(nT L a)[0+j]?=(nT L a).toList[j]?:=aAY L a;have AV:(nT L a).toList.toArray=nT L a:=by simp
 obtain⟨AX,Ah⟩:=ai (nT L a);rw [<- Ah] at J Af AA Ag AU AV |-;obtain⟨V,AZ,Ak⟩:=Ag;have BH:=aa (show ∀ j,j < V.length->AX[0+j]?=V[j]? from fun j _=>by rw [AU j,AZ]);have BK:=aa (show V.toArray=AX from (congrArg List.toArray AZ).trans AV);have BL:=aa (show Sz 45 V.length from by rw [Ak];exact adK);have BN:=aa Ad;have Al:=aa (show (w.alloc (.cells AX 45)).alloc (.cells (bQ (List.replicate 32 0)).toArray 59)=W from by rw [AQ,J]);have Am:=aa Y;have BO:=aa M;obtain⟨s,hs⟩:=ai (aA (vZ a));have BX:s.size<=900000000:=by rw [hs,iP];omega
 have Ao:s.data.toList=vZ a:=by rw [hs,gZ]
 rw [<- hs] at AA;obtain⟨S,AB⟩:=ai (bP.sum s.data.toList);have Ap:S.length=32:=by rw [AB];exact yK _
 have BP:=aa AB;have AP:=aa Ap;have Aq:S=bP.sum (vZ a):=by rw [AB,Ao]
 rw [<- Aq];clear abO Ac Ae h Gn Ah AZ Ak AU AV hs Ao BG Ap AQ J Y Af M Ad Aq AB;go_enter func117,ntmps117;go_wp2_with (first|((with_reducible refine QJ w.heap.size 0 _ _ _ (heap_alloc2_old w _ _) V BH.o _ underlying45 BL.o ?_ ?_);exact⟨rfl,rfl⟩;rw [BK.o])|(go_at_call 40; refine (Al.o ▸ AA).mono ?_;rintro e w1 ⟨rfl,I⟩;have Av:=aa (show Bl W w1 from Al.o ▸ I);have Az:=Rd.one w1 (.string s) 9; clear I AA)|(go_at_call 33; refine (aid _ _ 1 1 [s] Az mV (by rw [adL,wL];omega)).mono ?_;rw [adL,<- BP.o];rintro e af ⟨rfl,Aa⟩;have I:=Av.o.alloc Av.o.size (.cells #[.string s] 9);have BB:=(BO.o.ext I).ext Aa;have BC:=(aU Am.o I).trans (Aa.mono (aQG Am.o.size I.size));obtain⟨BR,BD,BF⟩:=aAZ w uK af S AP.o BN.o BB BC;have BS:=aa BD;have BU:=aa BF;clear Aa BB BC BD BF I Az)|(refine aoo (fun aD=>aD=af) rfl ?_;rintro aD rfl;(with_reducible refine yH (w.heap.size+1) 0 (.agg (bQ S).toArray) (bQ S) (qK _) _ _ BR (zt AP.o) (Wz AP.o) (GZ _) ?_ ?_);exact⟨rfl,rfl⟩));exact aQP (v:=.agg (bQ S).toArray) (aQ7 rfl _ _ _ 59 _ (0,0) _ rfl BS.o underlying59 rfl (by rw [List.size_toArray];exact zt AP.o)) rfl ⟨rfl,BU.o⟩
end
section
open Go.Maps Go.RowKit Go.Shelf
structure Dm where
 X:Nat
 zI:Nat
 eO:Nat
 bX:x8
 S:uC
 T:Nat
 B0:Nat
def Dm.C (l:Dm) (k:Nat):Prop:=k=l.X\/k=l.zI\/k=l.eO\/k=l.S.je\/k=l.S.gs\/k=l.S.lT
abbrev Ch (l:Dm):=lG l.T l.C
structure dF where
 k:jE
 keep:Bool
 dN:Nat->Prop
 kZ:bE
 met:List ak
 l:Dm
def dF.X (c:dF):List lv:=c.k.dA.map (·.2)
noncomputable def dF.W (c:dF):o9:=nR c.k.files c.X
def dF.n (c:dF):Nat:=c.k.dA.length
def dF.fU (c:dF):Nat->List UInt8:=NN c.X
noncomputable def dF.df (c:dF):Nat->lS:=Yf c.k.files c.X
structure dF.Fit (c:dF):Prop where
 work:Qd c.k.files c.X
 kE:Vp c.k
 env:∀ a∈c.X,Gh ⟨eB,a.env⟩
 fP:∀ i,c.dN i->i < c.n
 wide:∀ x∈c.k.dA,Yi x.2
structure dF.Ok (c:dF):Prop extends dF.Fit c where
 apart:IC c.met
 few:c.met.length<=1000
 keys:∀ i j,i < c.n->j < c.n->i≠j->c.fU i≠c.fU j
 outs:∀ i,i < c.n->∀ x∈(bG c.W i).outs,x.2∈c.met
 low:∀ k,c.l.C k->c.l.B0<=k/\k < c.l.T
 base:c.l.B0<=c.l.T/\c.l.S.B<=c.l.T
 old:c.l.S.jN < c.l.T/\c.l.S.jP < c.l.T
 ne:c.l.X≠c.l.zI/\c.l.X≠c.l.eO/\c.l.zI≠c.l.eO
def Bo (l:aRZ):List Value:=l.map fun (i:Nat)=>Value.int .i64 i
def yB (σ:bE) (n:Nat):List Value:=(List.range n).map fun i=>Value.bool (σ.begun i)
def tX (g:Option iU) (L:kI):List Value:=match g with
 | some o=>jd o L
 | none=>iN
def pR (σ:bE) (OL:Nat->kI) (n:Nat):List Value:=cK (fun i=>tX (σ.got i) (OL i)) (List.range n)
def IJ (c:dF) (bV:aRV) (rc:Nat) (lK:aRV) (jZ ll al8:Nat):List Value :=
 qy c.k c.l.bX c.keep++[Ep c.l.S,.slice (some ⟨c.l.zI,0,none⟩) c.n c.n,.slice (some ⟨c.l.eO,0,none⟩) c.n c.n,.slice bV ll rc,.slice lK al8 jZ,.slice none 0 0]
structure wG (c:dF) (w:aRU) (σ:bE) (aW:aRZ) (aF:aR1):Prop where
 row:∃ bV rc lK jZ,aM w c.l.X (IJ c bV rc lK jZ σ.dY.length aW.length) 78 /\ Own w c.l.T 3 1 bV σ.dY.length rc (Bo σ.dY)/\Own w c.l.T 3 1 lK aW.length jZ (Bo aW)/\∀ q,bM lK=some q->some q≠bM bV
 begun:aM w c.l.zI (yB σ c.n) 4
 outs:∃ OL:Nat->kI,aM w c.l.eO (pR σ OL c.n) 63 /\ ∀ i o,σ.got i=some o->ny w c.l.T o (OL i)/\∀ q,bM (OL i).B=some q->aF q
 src:qA w c.l.S aF c.n c.fU c.df c.met σ.bF σ.has
 work:∀ W:World,(∀ k,k < c.l.T->¬ c.l.C k->W.heap[k]?=w.heap[k]?)->wY W c.k c.l.bX
 home:uW w c.l.B0
 size:c.l.T<=w.heap.size
theorem wG.all {c:dF} (h:wG c w σ aW aF) (hc:c.Ok) (ae:Bl w w'):wG c w' σ aW aF:=by obtain⟨bV,rc,lK,jZ,h1,I,Y,aS⟩:=h.row;obtain⟨OL,AA,J⟩:=h.outs;exact⟨⟨bV,rc,lK,jZ,h1.all ae,I.below ae (aQF _),Y.below ae (aQF _),aS⟩,h.begun.all ae,⟨OL,AA.all ae,fun i o e=>⟨(J i o e).1.all ae,(J i o e).2⟩⟩,h.src.all ae,fun W AB=>h.work W fun k h1 I=>(AB k h1 I).trans (ae.block k (aQJ h1 h.size)),h.home.below (ae.mono (aQG hc.base.1 h.size)),aQG h.size ae.size⟩
structure kD (c:dF) (w:aRU) (U:aRZ) (σ:bE) (aW:aRZ) (aF:aR1):Prop where
 fO:wG c w σ aW aF
 inv:wu c.W c.dN c.kZ U σ
 log:Ar c.kZ σ aW
 kept:∀ i,σ.bF i=true->xD c.W σ i
theorem kD.all {c:dF} (h:kD c w U σ aW aF) (hc:c.Ok) (ae:Bl w w'):kD c w' U σ aW aF:=⟨h.fO.all hc ae,h.inv,h.log,h.kept⟩
structure Step (c:dF) (w:aRU) (U:aRZ) (σ:bE) (aW:aRZ) (aF:aR1) (w':aRU) (σ':bE) (tk':aRZ) (fe:aR1):Prop where
 st:kD c w' U σ' tk' fe
 nQ:Ch c.l w w'
 grow:Kb σ aW σ' tk'
 vS:∀ q,fe q->aF q\/w.heap.size<=q
theorem Step.refl {c:dF} (h:kD c w U σ aW aF):Step c w U σ aW aF w σ aW aF:=⟨h,lG.refl _,Kb.refl _ _,fun _ h=>.inl h⟩
theorem Step.low {c:dF} {tk':aRZ} {fe:aR1} (h:Step c af U σ aW aF w' σ' tk' fe) (ae:Bl w af):Step c w U σ aW aF w' σ' tk' fe:=⟨h.st,(lG.gN ae).trans h.nQ,h.grow,fun q I=>(h.vS q I).imp_right fun h=>aQG ae.size h⟩
theorem Step.high {c:dF} {tk':aRZ} {fe:aR1} (hc:c.Ok) (h:Step c w U σ aW aF af σ' tk' fe) (ae:Bl af w'):Step c w U σ aW aF w' σ' tk' fe:=⟨h.st.all hc ae,h.nQ.trans (lG.gN ae),h.grow,h.vS⟩
theorem Step.trans {c:dF} {aD:aRU} {bR zJ:bE} {ib SF:aRZ} {eP Fv:aR1} (h:Step c w U σ aW aF af bR ib eP) (k:Step c af U bR ib eP aD zJ SF Fv):Step c w U σ aW aF aD zJ SF Fv:=⟨k.st,h.nQ.trans k.nQ,h.grow.trans k.grow,fun q I=>by
 rcases k.vS q I with h1 | h1
 ·exact h.vS q h1
 ·exact .inr (aQG h.nQ.size h1)⟩
theorem abQ:∀ (N:Nat) (l:aRZ),l.Nodup->(∀ x∈l,x < N)->l.length<=N
 | 0,[],_,_=>aQF _
 | 0,a :: l,_,h=>by have:=h a sp;omega
 | N+1,l,I,h=>by
  by_cases hm:N∈l
  ·have h1:=abQ N (l.erase N) (I.erase N) fun x ah=>by
    have J:=h x (List.mem_of_mem_erase ah);have M:x≠N:=fun e=>by
     subst e;exact absurd ah (by rw [I.mem_erase_iff];simp)
    omega
   rw [List.length_erase_of_mem hm] at h1;omega
  ·have:=abQ N l I fun x ah=>by
    have J:=h x ah;have M:x≠N:=fun e=>hm (e ▸ ah);omega
   omega
section
variable {c:dF} {w:aRU} {U:aRZ} {σ:bE} {aW:aRZ} {aF:aR1}
theorem NP (c:dF) (ay:i < c.n):∃ x:kH,c.k.dA[i]?=some x/\c.X.getD i l8=x.2/\c.W.act i=IG x.2:=by
 refine⟨c.k.dA[i]'ay,aQI ay,?_,?_⟩
 ·rw [List.getD_eq_getElem?_getD,dF.X,List.getElem?_map,List.getElem?_eq_getElem ay];rfl
 ·show IG (c.X.getD i l8)=_;rw [List.getD_eq_getElem?_getD,dF.X,List.getElem?_map,List.getElem?_eq_getElem ay];rfl
theorem Yl (c:dF) (p:ak):Pd c.k.dA p=match c.W.jK p with | some j=>(j:Int) | none=>-1:=by
 show _=match (c.k.dA.map (·.2)).findIdx? (fun a=>a.outs.contains p) with | some j=>(j:Int) | none=>-1
 rw [List.findIdx?_map];rfl
theorem Ke (c:dF) (h:c.W.jK p=some j):j < c.n:=by obtain⟨aC,_⟩:=aRR.1 h;simpa [dF.X,dF.n] using aC
theorem avc (hc:c.Fit) (h:yT c.W c.dN i):i < c.n:=yT.least (P:=(· < c.n)) hc.fP (fun _ _ _ hw=>by
 obtain⟨_,_,_,_,_,h⟩:=hw;exact Ke c h) h
theorem kD.few (h:kD c w U σ aW aF) (hc:c.Ok):σ.dY.length+aW.length<=10:=by have:=abQ c.n _ h.log.nodup fun i I=>avc hc.toFit (h.inv.reach i (h.log.begun i I));rw [List.length_append] at this;exact aQG this hc.kE.nZ
theorem aIT (c:dF) (i:Nat):(c.df i).key=c.fU i:=rfl
theorem abR (c:dF) (i:Nat):(c.fU i).length=32:=yK _
theorem age (hc:c.Ok) (ay:i < c.n):(c.df i).reads.length<=500/\(c.df i).outs.length<=200:=by
 have M:i < c.X.length:=by simpa [dF.X,dF.n] using ay
 obtain⟨s,rs,aI,hs⟩:=afZ (Gw hc.work.small).fin i;have h1:=SB hc.work M;refine⟨?_,by show ((bG c.W i).outs.map uV).length<=200;rw [List.length_map];exact h1⟩;show (bG c.W i).reads.length<=500;have J:=(af8 hc.work M aI).2.2;rcases af0 (Gw hc.work.small).fin aI hs with ⟨Y,I⟩ | ⟨p,_,_,I⟩ | ⟨p,_,_,I⟩
 ·have:=(Gw hc.work.small).reads i s rs aI Y;show (bG (nR c.k.files c.X) i).reads.length<=500;rw [I,this];exact J
 ·show (bG (nR c.k.files c.X) i).reads.length<=500;rw [I];exact J
 ·show (bG (nR c.k.files c.X) i).reads.length<=500;rw [I];exact J
end
structure Ma where
 bu:Nat
 KA:Option Addr
 iG:Nat
def NQ (c:dF) (l:Ma) (i:Nat) (x:kH) (BV:Nat):List Value:=[Value.pointer (some ⟨c.l.X,0,none⟩),.int .i64 i]++vH x++[.slice l.KA BV l.iG,.slice none 0 0]
structure Ci (c:dF) (w:aRU) (l:Ma) (i:Nat) (x:kH) (bK:List dB):Prop where
 row:aM w l.bu (NQ c l i x bK.length) 158
 far:c.l.T<=l.bu
 known:Own w c.l.T 80 3 l.KA bK.length l.iG (cK iA bK)
theorem Ci.nQ {c:dF} {l:Ma} {x:kH} {bK:List dB} (h:Ci c w l i x bK) (hk:Ch c.l w w'):Ci c w' l i x bK:=⟨h.row.nQ hk h.far dc,h.far,h.known.nQ hk (aQF _) dc⟩
theorem Ci.all {c:dF} {l:Ma} {x:kH} {bK:List dB} (h:Ci c w l i x bK) (ae:Bl w w'):Ci c w' l i x bK:=h.nQ (lG.gN ae)
def rJ (σ:bE) (n:Nat):Nat:=((List.range n).filter fun i=>!σ.begun i).length
theorem agf {p q:Nat->Bool} (h:∀ i,p i=true->q i=true):∀ l:List Nat,(l.filter p).length<=(l.filter q).length
 | []=>aQF _
 | a :: l=>by
  have I:=agf h l;rw [List.filter_cons,List.filter_cons];by_cases aI:p a=true
  ·rw [if_pos aI,if_pos (h a aI)];simp only [List.length_cons];omega
  ·rw [if_neg aI];split
   ·simp only [List.length_cons];omega
   ·exact I
theorem agh (n:Nat) (h:∀ i,σ.begun i=true->σ'.begun i=true):rJ σ' n<=rJ σ n:=agf (fun i I=>by
 cases e:σ.begun i with
 | false=>rfl
 | true=>rw [h i e] at I;cases I) _
theorem abS {n:Nat} (ay:i < n) (ae:σ.begun i=false):rJ (σ.push i) n < rJ σ n:=by
 unfold rJ;have key:∀ l:List Nat,i∈l->l.Nodup->(l.filter fun j=>!(σ.push i).begun j).length < (l.filter fun j=>!σ.begun j).length:=by
  intro l;induction l with
  | nil=>intro h;cases h
  | cons a l Y =>
   intro h AA;rw [List.filter_cons,List.filter_cons];have hle:=agf (p:=fun j=>!(σ.push i).begun j) (q:=fun j=>!σ.begun j) (fun j aC=>by
    cases e:σ.begun j with
    | false=>rfl
    | true=>simp [bE.push,e] at aC) l;by_cases I:a=i
   ·subst I;rw [if_neg (by simp [bE.push]),if_pos (by simp [ae])];simp only [List.length_cons];omega
   ·have:=Y (by simpa [Ne.symm I] using h) (List.nodup_cons.1 AA).2;by_cases J:σ.begun a=true
    ·rw [if_neg (by simp [bE.push,J]),if_neg (by simp [J])];exact this
    ·have M:σ.begun a=false:=by simpa using J
     rw [if_pos (by simp [bE.push,I,M]),if_pos (by simp [M])];simp only [List.length_cons];omega
 exact key _ (aQ3.2 ay) List.nodup_range
end
end Go.Proofs.YtjkinjbkknanbaaGreatDoor
