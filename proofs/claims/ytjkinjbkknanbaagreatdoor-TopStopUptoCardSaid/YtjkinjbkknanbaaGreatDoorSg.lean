/- Pg -/
import Derived.Test.YtjkinjbkknanbaaGreatDoorSf
set_option maxRecDepth 100000
set_option maxHeartbeats 8000000
set_option linter.unusedSimpArgs false
set_option linter.unusedVariables false
namespace Go.Proofs.YtjkinjbkknanbaaGreatDoor
open Go.Proofs.Tryz
variable {i k g B c j m B':Nat} {w w' W W':aRU} {M:fA Bool} {ps ns l ins outs:List ak} {v:Env} {α:Type} {P:nY} {b:dC} {s:aK} {A:aRV} {L:iV} {u:Value} {V:aRW} {t:TypeId} {U:List dB} {text:ak}
section
open Go.ChangeMaps Go.MapKept Go.Maps Go.RowKit Go.Shelf Go.WideAt Go.WideMaps
theorem aGM {wW ui:Nat} (ay:i<=1000) (hk:k<=1000) (qj:wW<=1000) (LB:ui<=1000) (h:Fg i k=Fg wW ui):i=wW/\k=ui:=by have:=keyBytes_inj (l:=[Lit.int .i64 (i:Int),.int .i64 (k:Int)]) (l':=[Lit.int .i64 (wW:Int),.int .i64 (ui:Int)]) ⟨rfl,rfl,trivial⟩ (by simp [Lit.keyWf,XN ay,XN hk]) (by simp [Lit.keyWf,XN qj,XN LB]) h;simp at this;omega
theorem aGN {n:Nat} (h:eU w prog 330 Value.bool g n M) (ay:i<=1000) (hk:k<=1000) :
  (Instr.lookup 328 (.map (some g)) (XM i k) false).run prog w = .ok (.bool ((getM M (Fg i k)).getD false)) w:=by
 have vo:∀ a b,Value.bool a=Value.bool b->a=b:=fun a b e=>by injection e
 obtain⟨v,ps,Y,J⟩:=aRK h aa8 underlying328 (z:=.bool false) kr (KG vo false) (keyOf_pair ay hk);rw [Za] at J;obtain⟨a,rfl,I⟩:=TR J;rw [Y];cases av:getM M (Fg i k) with
 | none=>rw [av] at I;injection I with I;subst I;rfl
 | some x=>rw [av] at I;injection I with I;subst I;rfl
def XO (ps ns:List ak) (M:fA Bool):Prop:=∀ i k,i<=16->k<=16->getM M (Fg i k)=some true->wD (ps.drop i) (ns.drop k)=false
theorem XO.put (h:XO ps ns M) (ay:i<=16) (hk:k<=16):XO ps ns (oI M (Fg i k) (!wD (ps.drop i) (ns.drop k))):=fun I J Y AA e=>by
 by_cases he:Fg I J=Fg i k
 ·obtain⟨rfl,rfl⟩:=aGM om om om om he;rw [ME] at e;injection e with e
  simpa using e
 ·rw [MF _ _ he] at e;exact h I J Y AA e
structure Df where
 a:Nat
 b:Nat
 m:Nat
 f:Nat
 A:Option Addr
 c:Nat
 B:Option Addr
 d:Nat
 g:Nat
def Df.ptrs (L:Df):Array Value:=#[pp L.a 0,pp L.b 0,pp L.m 0,pp L.f 0]
structure afq (w:aRU) (L:Df) (ps ns:List ak):Prop where
 iI:w.cell? (ad L.a 0)=some (.slice L.A ps.length L.c)
 Eh:w.cell? (ad L.b 0)=some (.slice L.B ns.length L.d)
 D9:w.cell? (ad L.m 0)=some (.map (some L.g))
 R9:w.cell? (ad L.f 0)=some (.func (.func 230) #[] L.ptrs)
 ak0:Rd w 1 L.A ps.length (cB ps)
 rn:Rd w 1 L.B ns.length (cB ns)
theorem cell_grown {es:Array MapEntry} {nA:Nat} (hm:w.heap[g]?=some (.map es nA)) (av:w.grownBy w' (some g)) {p:Addr} {v:Value} (h:w.cell? p=some v):w'.cell? p=some v:=by
 have I:p.block≠g:=fun e=>by
  unfold World.cell? at h;rw [e,hm] at h;cases h
 have J:=aQR _ _ h;have:=av.block p.block J (fun e=>I (by injection e));unfold World.cell? at h |-;rw [this];exact h
theorem afq.grown {L:Df} (h:afq w L ps ns) {n:Nat} (hm:eU w prog 330 Value.bool L.g n M) (av:w.grownBy w' (some L.g)):afq w' L ps ns:=by obtain⟨es,J,I,_⟩:=hm;exact⟨cell_grown I av h.iI,cell_grown I av h.Eh,cell_grown I av h.D9,cell_grown I av h.R9,h.ak0.keep fun b o u _ hu=>cell_grown I av hu,h.rn.keep fun b o u _ hu=>cell_grown I av hu⟩
theorem atx {r:Option Nat} (ae:Below B w w') (bf:w.heap.size<=B):w.grownBy w' r:=⟨ae.os,ae.tape,ae.output,ae.size,fun i I _=>ae.block i om⟩
theorem eU.tight {enc:α->Value} {P:Program} {k:TypeId} {b n:Nat} {M:fA α} (h:eU w P k enc b n M):eU w P k enc b M.length M:=by obtain⟨es,clock,J,F,hs,I⟩:=h;refine⟨es,clock,J,F,?_,I⟩;have h1:=congrArg Maps.size I;rw [TS] at h1;rw [h1,size_eq,length_sorted,List.length_map,Array.length_toList];exact aQF _
def XP:List ak:=(List.range 17).flatMap fun i=>(List.range 17).map (Fg i)
theorem aGO:XP.length=289:=by rfl
theorem aGP (ay:i<=16) (hk:k<=16):Fg i k∈XP:=aRl.2 ⟨i,aQ3.2 om,aQO.2 ⟨k,aQ3.2 om,rfl⟩⟩
structure tT (dN w:aRU) (L:Df) (ps ns:List ak):Prop where
 at_:afq w L ps ns
 map:∃ M,eU w prog 330 Value.bool L.g M.length M/\XO ps ns M/\∀ x∈M,x.1∈XP
 grown:dN.grownBy w (some L.g)
theorem tT.below {dN:aRU} {L:Df} (h:tT dN w L ps ns) (ae:Bl w w'):tT dN w' L ps ns:=by obtain⟨M,hm,I⟩:=h.map;exact⟨h.at_.grown hm (atx ae (aQF _)),⟨M,hm.below ae hm.lt,I⟩,F8 h.grown (atx ae (aQF _))⟩
theorem tT.self {dN:aRU} {L:Df} (h:tT dN w L ps ns):tT w w L ps ns:=⟨h.at_,h.map,⟨rfl,rfl,rfl,aQF _,fun _ _ _=>rfl⟩⟩
theorem tT.trans {dN aH:aRU} {L:Df} (h:tT dN aH L ps ns) (mZ:tT aH w L ps ns):tT dN w L ps ns:=⟨mZ.at_,mZ.map,F8 h.grown mZ.grown⟩
theorem tT.small {dN:aRU} {L:Df} (h:tT dN w L ps ns):∃ M n,eU w prog 330 Value.bool L.g n M/\n < maxLen/\XO ps ns M/\∀ x∈M,x.1∈XP:=by
 obtain⟨M,hm,I,hk⟩:=h.map;refine⟨M,_,hm,?_,I,hk⟩;have:=XA (akI (hm.AL aa8)) (m:=XP) fun x ah=>by
  obtain⟨y,hy,rfl⟩:=aQO.1 ah;exact hk y hy
 rw [aGO,List.length_map] at this;unfold maxLen;omega
theorem tT.note {dN:aRU} {L:Df} {n:Nat} {b:Bool} (h:tT dN w L ps ns) (apI:eU w prog 330 Value.bool L.g n M) (aj:XO ps ns M) (aI:∀ x∈M,x.1∈XP) (ay:i<=16) (hk:k<=16)
  (hm:eU w' prog 330 Value.bool L.g (n+1) (oI M (Fg i k) b)) (ae:b = !wD (ps.drop i) (ns.drop k)) (az:fV L.g w w'):tT dN w' L ps ns:=by
 have av:w.grownBy w' (some L.g):=⟨az.1,az.2.1,az.2.2.1,aQ1 az.2.2.2.1.symm,fun b _ I=>az.2.2.2.2 b fun e=>I (by rw [e])⟩;refine⟨h.at_.grown apI av,⟨_,hm.tight,by rw [ae];exact aj.put ay hk,fun x ah=>?_⟩,F8 h.grown av⟩;rcases XF ah with rfl | ah
 ·exact aGP ay hk
 ·exact aI x (aRs.1 ah).1
theorem aty {b o n:Nat} {row:List fC} (h:Rd w 1 (some ⟨b,o,none⟩) n (cB row)) {q:Nat} {x:fC} (ah:row[q]?=some x):w.cell? (ad b (o+q))=some (.string (aA x)):=by obtain⟨b',I,e,hc⟩:=KW h ah;cases e;exact hc
theorem afr {l:List α} {x:α} (h:l[i]?=some x):l.drop i=x :: l.drop (i+1):=by obtain⟨hl,rfl⟩:=aQL.1 h;exact List.drop_eq_getElem_cons hl
theorem ak1 (q:ak) (ps ns:List ak):wD (q :: ps) ns=if q≠[42,42] then (match ns with | []=>false | x :: xs=>Ut q x && wD ps xs) else if ps.isEmpty then !ns.isEmpty else wD ps ns || (match ns with | []=>false | _ :: xs=>wD (q :: ps) xs):=by rw [wD.eq_def];rfl
theorem aGQ (ay:i=ps.length) (hk:k<=ns.length):wD (ps.drop i) (ns.drop k)=((k:Int) == (ns.length:Int)):=by rw [ay,List.drop_length,wD,Bool.eq_iff_iff,List.isEmpty_iff,List.drop_eq_nil_iff];simp;omega
theorem aGR {p:ak} (aI:ps[i]?=some p) (h:p≠[42,42]):wD (ps.drop i) (ns.drop k)=match ns[k]? with | none=>false | some x=>Ut p x && wD (ps.drop (i+1)) (ns.drop (k+1)):=by
 rw [afr aI,ak1,if_pos h];cases ah:ns[k]? with
 | none=>rw [List.drop_of_length_le (List.getElem?_eq_none_iff.1 ah)]
 | some x=>rw [afr ah]
theorem aGS (aI:ps[i]?=some [42,42]) (h:i+1=ps.length):wD (ps.drop i) (ns.drop k)=decide (k < ns.length):=by rw [afr aI,ak1,if_neg sp,h,List.drop_length,if_pos (show ([]:List ak).isEmpty=true from rfl)];rw [Bool.eq_iff_iff];simp [List.drop_eq_nil_iff]
theorem aGT (aI:ps[i]?=some [42,42]) (h:i+1 < ps.length):wD (ps.drop i) (ns.drop k)=(wD (ps.drop (i+1)) (ns.drop k) || (decide (k < ns.length) && wD (ps.drop i) (ns.drop (k+1)))):=by
 rw [afr aI,ak1,if_neg sp,if_neg (by rw [List.isEmpty_iff,List.drop_eq_nil_iff];omega)];by_cases hk:k < ns.length
 ·rw [List.drop_eq_getElem_cons hk];simp [hk]
 ·have e:=List.drop_of_length_le (show ns.length<=k by omega);rw [e];simp [hk]
theorem atz (L:Df) (ps ns:List ak) (i k:Nat) (w:aRU) (ay:i=ps.length) (hk:k<=ns.length) (wX:tT w w L ps ns) :
  Calls prog 230 #[.int .i64 i,.int .i64 k,pp L.a 0,pp L.b 0,pp L.m 0,pp L.f 0] w fun e w'=>e = .returned (.bool (wD (ps.drop i) (ns.drop k)))/\tT w w' L ps ns:=by
 obtain⟨a,b,m,f,A,c,B,d,g⟩:=L;rw [aGQ ay hk];have I:=wX.at_.iI;have c1:=wX.at_.Eh;obtain⟨M,J,N,Y⟩:=nq2 ps.length ns.length;rw [<- J] at I ay;rw [<- Y] at c1 |-;have AB:((i:Int) == (M:Int))=true:=by simp;omega
 have AA:=aa wX;simp only at I c1 |-;clear wX J Y hk ay;go_enter func230,ntmps230;go_wp2_with fail;go_ret;exact⟨rfl,AA.o⟩
theorem aGU (L:Df) (ps ns:List ak) (aI:ps.length<=16) (aB:ns.length<=16) (yN:∀ x∈ps,x.length<=1000) (GX:∀ x∈ns,x.length<=1000):∀ (s i k:Nat) (w:aRU),i<=ps.length->k<=ns.length->(ps.length - i)+(ns.length - k)<=s->tT w w L ps ns ->
  Calls prog 230 #[.int .i64 i,.int .i64 k,pp L.a 0,pp L.b 0,pp L.m 0,pp L.f 0] w fun e w'=>e = .returned (.bool (wD (ps.drop i) (ns.drop k)))/\tT w w' L ps ns:=by
 intro s;induction s with
 | zero =>
  intro i k w Av hk hs Y;exact atz L ps ns i k w om hk Y
 | succ s Bb =>
  intro i k w Av hk hs Y;by_cases BC:i=ps.length
  ·exact atz L ps ns i k w BC hk Y
  ·obtain⟨p,AQ⟩:∃ p,ps[i]?=some p:=⟨_,aQI om⟩;obtain⟨M,hm,aj,_⟩:=Y.map;obtain⟨v,AU⟩:=ai ((getM M (Fg i k)).getD false);have Bg:=aGN hm (i:=i) (k:=k) om om;rw [<- AU] at Bg;obtain⟨R,aL⟩:=ai (wD (ps.drop i) (ns.drop k));rw [<- aL];have BD:v=true->R=false:=fun h=>by
    rw [aL];exact aj i k om om (by
     rw [h] at AU;cases av:getM M (Fg i k) with
     | none=>rw [av] at AU;cases AU
     | some x=>rw [av] at AU;exact congrArg some AU.symm)
   have Ad:=fun (W:aRU) (h:tT W W L ps ns)=>Bb (i+1) k W om hk om h;have Ae:=fun (W:aRU) (AZ:k < ns.length) (h:tT W W L ps ns)=>Bb i (k+1) W Av om om h;have Af:=fun (W:aRU) (AZ:k < ns.length) (h:tT W W L ps ns)=>Bb (i+1) (k+1) W om om om h;clear Bb;simp only [Int.natCast_add,Int.cast_ofNat_Int] at Ad Ae Af;obtain⟨iD,AA,hA,BL⟩:=KW Y.at_.ak0 AQ;obtain⟨a,b,m,f,A,c,B,d,g⟩:=L;simp only at hA;subst hA;have Az:=Y.at_.iI;have c1:=Y.at_.Eh;have c2:=Y.at_.D9;have bH:=Y.at_.R9;obtain⟨Ag,BB⟩:∃ M,M=ps.length:=⟨_,rfl⟩;obtain⟨I,Aa⟩:∃ N,N=ns.length:=⟨_,rfl⟩;rw [<- BB] at Az;rw [<- Aa] at c1;have DJ:((i:Int) == (Ag:Int))=false:=by simp;omega
   have DN:(i:Int) < Ag:=om;have DR:(0:Int)<=i:=om;have DT:(0:Int)<=k:=om;simp only [Df.ptrs] at Az c1 c2 bH Bg Ad Ae Af |-;rw [XM] at Bg;have Ah:=aa Y;have Co:=aa BD;cases v with
   | true =>
    clear Y BD hm aj AU aL yN GX BB Aa aI aB AQ BL BC Av hk hs Ad Ae Af;go_enter func230,ntmps230;go_wp2_with fail;go_ret;exact⟨by rw [Co.o trivial];rfl,Ah.o⟩
   | false =>
    by_cases BF:p=[42,42]
    ·have Bh:((aA p).toList == ([42,42]:aR0))=true:=by rw [ByteArray.toList_eq,gZ,BF];rfl
     obtain⟨P,Ac⟩:=ai (aA p);rw [<- Ac] at BL Bh;subst BF;by_cases CW:i+1=Ag
     ·have Cr:((i:Int) == wrap64 ((Ag:Int) - 1))=true:=by rw [IntWalk.wrap64_in _ om];simp;omega
      have AB:=aa (aL.trans (aGS AQ om));have BN:=aa Aa;clear Y BD hm aj AU aL yN GX BB Aa aI aB AQ BC Av hk hs CW Ac Ad Ae Af;go_enter func230,ntmps230;go_wp2_with fail;go_ret;exact⟨by rw [AB.o,<- BN.o];rfl,Ah.o⟩
     ·have Cr:((i:Int) == wrap64 ((Ag:Int) - 1))=false:=by rw [IntWalk.wrap64_in _ om];simp;omega
      have AB:=aa (aL.trans (aGT AQ om));obtain⟨Bi,Bj,Bn,BN⟩:=hq4 aL Ad Ae Aa;have BG:=aa (show i<=16/\k<=16 by omega);have Ct:(i:Int)<=16:=om;have Cu:(k:Int)<=16:=om;obtain⟨Cv,Bp⟩:=ai (wD (ps.drop (i+1)) (ns.drop k));obtain⟨CY,Bq⟩:=ai (wD (ps.drop i) (ns.drop (k+1)));skip;have Br:=aa Bp.symm;have D8:=aa Bq.symm;rw [<- Bp,<- Bq] at AB;have Bt:=aa (show ∀ a b,Value.bool a=Value.bool b->a=b from fun a b e=>by injection e);have Bc:=aa (keyOf_pair (show i<=1000 by omega) (show k<=1000 by omega));rw [XM] at Bc;have C8:=aa (fun (af:aRU) (h:tT w af ⟨a,b,m,f,some ⟨iD,AA,none⟩,c,B,d,g⟩ ps ns)=>show af.cell? (ad b 0)=some (.slice B I d) by rw [BN.o];exact h.at_.Eh);have CZ:=aa (show decide (k < ns.length)=decide (k < I) by rw [BN.o]);clear Y BD hm aj AU aL yN GX BB aI aB AQ BC Av hk hs CW Ac Ad Ae Af Bp Bq Aa;cases Cv with
      | true =>
       clear Bn;go_enter func230,ntmps230;go_wp2_with (first|((with_reducible refine (Bj.o w Ah.o).mono ?_);rintro e w1 ⟨Ak,Al⟩;rw [Br.o] at Ak;subst Ak;have J:=aa Al;clear Al Az c1 c2 bH;have c1:=C8.o w1 J.o;have c2:=J.o.at_.D9;have bH:=J.o.at_.R9;simp only [Df.ptrs] at c2 bH;obtain⟨Ca,Cc,AV,AX,Am,Ao⟩:=J.o.small;obtain⟨BO,Ce,BP,BR⟩:=hq4 AV AX Am Ao;obtain⟨bn,Cf,Ap,Aq⟩:=AV.aeb Bt.o aa8 underlying328 AX Bc.o (false);have BS:=aa Ap;have BU:=aa Aq;clear Ap Aq AV AX Am Ao));go_ret;exact⟨by rw [AB.o];rfl,J.o.note BO.o BP.o BR.o BG.o.1 BG.o.2 BS.o (by rw [<- Bi.o,AB.o];rfl) BU.o⟩
      | false =>
       by_cases AZ:k < I
       ·have DF:=aa (show k < ns.length by rw [<- BN.o];exact AZ);have Cg:(k:Int) < I:=om;have BX:=aa (show R=CY by rw [AB.o,CZ.o,decide_eq_true AZ];rfl);go_enter func230,ntmps230;go_wp2_with (first|((with_reducible refine (Bj.o w Ah.o).mono ?_);rintro e w1 ⟨Ak,Al⟩;rw [Br.o] at Ak;subst Ak;have J:=aa Al;clear Al Az c1 c2 bH;have c1:=C8.o w1 J.o;have c2:=J.o.at_.D9;have bH:=J.o.at_.R9;simp only [Df.ptrs] at c2 bH)|((with_reducible refine (Bn.o w1 DF.o J.o.self).mono ?_);rintro e af ⟨Cj,Ck⟩;rw [D8.o] at Cj;subst Cj;have CF:=aa (J.o.trans Ck);clear Ck c1 c2 bH;have c2:=CF.o.at_.D9;simp only at c2;obtain⟨Ca,Cc,AV,AX,Am,Ao⟩:=CF.o.small;obtain⟨BO,Ce,BP,BR⟩:=hq4 AV AX Am Ao;obtain⟨bn,Cf,Ap,Aq⟩:=AV.aeb Bt.o aa8 underlying328 AX Bc.o (!CY);have BS:=aa Ap;have BU:=aa Aq;clear Ap Aq AV AX Am Ao));go_ret;exact⟨by rw [BX.o];rfl,CF.o.note BO.o BP.o BR.o BG.o.1 BG.o.2 BS.o (by rw [<- Bi.o,BX.o]) BU.o⟩
       ·have Cg:¬ (k:Int) < I:=om;have BX:=aa (show R=false by rw [AB.o,CZ.o,decide_eq_false AZ];rfl);clear Bn;go_enter func230,ntmps230;go_wp2_with (first|((with_reducible refine (Bj.o w Ah.o).mono ?_);rintro e w1 ⟨Ak,Al⟩;rw [Br.o] at Ak;subst Ak;have J:=aa Al;clear Al Az c1 c2 bH;have c1:=C8.o w1 J.o;have c2:=J.o.at_.D9;have bH:=J.o.at_.R9;simp only [Df.ptrs] at c2 bH;obtain⟨Ca,Cc,AV,AX,Am,Ao⟩:=J.o.small;obtain⟨BO,Ce,BP,BR⟩:=hq4 AV AX Am Ao;obtain⟨bn,Cf,Ap,Aq⟩:=AV.aeb Bt.o aa8 underlying328 AX Bc.o (true);have BS:=aa Ap;have BU:=aa Aq;clear Ap Aq AV AX Am Ao));go_ret;exact⟨by rw [BX.o];rfl,J.o.note BO.o BP.o BR.o BG.o.1 BG.o.2 BS.o (by rw [<- Bi.o,BX.o];rfl) BU.o⟩
    ·have Bh:((aA p).toList == ([42,42]:aR0))=false:=by rw [ByteArray.toList_eq,gZ];simpa using BF
     obtain⟨P,Ac⟩:=ai (aA p);rw [<- Ac] at BL Bh;have AB:=aa (aL.trans (aGR AQ BF));by_cases AZ:k < I
     ·have DI:decide (k < I)=true:=by simpa using AZ
      have Cg:(k:Int) < I:=om;have CG:k < ns.length:=om;obtain⟨x,ah⟩:∃ x,ns[k]?=some x:=⟨_,aQI CG⟩;obtain⟨og,AP,bf,CJ⟩:=KW Y.at_.rn ah;simp only at bf;subst bf;obtain⟨S,CK,o,CL⟩:=nq2 (aA x) (Ut p x);obtain⟨Be,CQ⟩:=ai (wD (ps.drop (i+1)) (ns.drop (k+1)));have Bf:=aa (show R=(o && Be) by rw [AB.o,ah,CL,CQ]);have CS:=fun (W:aRU)=>aCA W p x (yN p (aQK AQ)) (GX x (aQK ah));have CU:=aa (fun (W:aRU) (h:tT W W ⟨a,b,m,f,some ⟨iD,AA,none⟩,c,some ⟨og,AP,none⟩,d,g⟩ ps ns)=>Af W CG h);have BH:=fun (af:aRU) (h:tT w af ⟨a,b,m,f,some ⟨iD,AA,none⟩,c,some ⟨og,AP,none⟩,d,g⟩ ps ns)=>show af.cell? (ad a 0)=some (.slice (some ⟨iD,AA,none⟩) Ag c)/\af.cell? (ad b 0)=some (.slice (some ⟨og,AP,none⟩) I d)/\af.cell? (ad f 0)=_/\af.cell? (ad iD (AA+i))=some (.string P)/\af.cell? (ad og (AP+k))=some (.string S) from
       ⟨by rw [BB];exact h.at_.iI,by rw [Aa];exact h.at_.Eh,h.at_.R9,by rw [Ac];exact aty h.at_.ak0 AQ,by rw [CK];exact aty h.at_.rn ah⟩
      simp only [Df.ptrs] at BH;rw [<- Ac,<- CK,<- CL] at CS;rw [<- CQ] at CU;have Cm:=aa CS;have BK:=aa BH;have Ct:(i:Int)<=16:=om;have Cu:(k:Int)<=16:=om;clear Y BD hm aj AU aL yN GX BB Aa aI aB AQ BC Av hk hs Ac BF AB AZ Ad Ae Af BH CS ah CJ CK CL CQ CG;cases o with
      | false =>
       clear CU;go_enter func230,ntmps230;go_wp2_with fail;have kR:=BK;refine nz nH 24 [some (.int .i64 k),some (.slice (some ⟨og,AP,none⟩) I d),some (.int .i64 I),some (.bool true),some (.bool true),some (.slice (some ⟨iD,AA,none⟩) Ag c),some (.int .i64 i),some (pp iD (AA+i)),some (.string P),some (.slice (some ⟨og,AP,none⟩) I d),some (.int .i64 k),some (pp og (AP+k)),some (.string S),some (.bool false),some (.bool false),some (.bool false),some (undef),some (undef),some (undef),some (undef),some (undef),some (undef),some (.bool false),some (.bool false)] (fun _ _ _=>False) (fun af=>tT w af ⟨a,b,m,f,some ⟨iD,AA,none⟩,c,some ⟨og,AP,none⟩,d,g⟩ ps ns) (fun _ _=>True) (Ah.o.below (below_drewN (Below.refl _ _) 1)) (fun j v w1 af ae h=>h.elim) ?_ (jI:=?_)
       ·intro u af aj CV;clear CV;go_wp2_with fail;go_ret;exact⟨by rw [Bf.o];rfl,aj⟩
       ·repeat' (first | exact trivial | apply And.intro)
        all_goals try exact rx
        all_goals intro eQ u af aj aL bz K aR
        all_goals try simp [iX,Region.binds] at bz
        all_goals first | refine mg rfl ?_ | simp [Region.wanted,yielded,aL,bz] | simp [Region.wanted,yielded]
        all_goals obtain⟨Az,c1,bH,BL,CJ⟩:=BK.o af aj
        ·go_simp;refine (Cm.o af).mono ?_;rintro e aD ⟨rfl,BZ⟩;exact aR _ _ rfl (aj.below BZ) trivial
      | true =>
       go_enter func230,ntmps230;go_wp2_with fail;have kR:=BK;refine nz nH 24 [some (.int .i64 k),some (.slice (some ⟨og,AP,none⟩) I d),some (.int .i64 I),some (.bool true),some (.bool true),some (.slice (some ⟨iD,AA,none⟩) Ag c),some (.int .i64 i),some (pp iD (AA+i)),some (.string P),some (.slice (some ⟨og,AP,none⟩) I d),some (.int .i64 k),some (pp og (AP+k)),some (.string S),some (.bool true),some (.bool true),some (.bool true),some (.func (.func 230) #[] #[pp a 0,pp b 0,pp m 0,pp f 0]),some (.int .i64 i),some (.int .i64 ((i:Int)+1)),some (.int .i64 k),some (.int .i64 ((k:Int)+1)),some (.bool Be),some (.bool Be),some (.bool Be)] (fun _ _ _=>False) (fun af=>tT w af ⟨a,b,m,f,some ⟨iD,AA,none⟩,c,some ⟨og,AP,none⟩,d,g⟩ ps ns) (fun _ _=>True) (Ah.o.below (below_drewN (Below.refl _ _) 1)) (fun j v w1 af ae h=>h.elim) ?_ (jI:=?_)
       ·intro u af aj CV;clear CV;go_wp2_with fail;go_ret;exact⟨by rw [Bf.o];rfl,aj⟩
       ·repeat' (first | exact trivial | apply And.intro)
        all_goals try exact rx
        all_goals intro eQ u af aj aL bz K aR
        all_goals try simp [iX,Region.binds] at bz
        all_goals first | refine mg rfl ?_ | simp [Region.wanted,yielded,aL,bz] | simp [Region.wanted,yielded]
        all_goals obtain⟨Az,c1,bH,BL,CJ⟩:=BK.o af aj
        ·go_simp;refine (Cm.o af).mono ?_;rintro e aD ⟨rfl,BZ⟩;exact aR _ _ rfl (aj.below BZ) trivial
        ·go_simp;rw [IntWalk.i64_left,IntWalk.wrap64_in _ om];exact aR _ _ rfl aj trivial
        ·go_simp;rw [IntWalk.i64_left,IntWalk.wrap64_in _ om];exact aR _ _ rfl aj trivial
        ·go_simp;refine (CU.o af aj.self).mono ?_;rintro e aD ⟨rfl,BZ⟩;exact aR _ _ rfl (aj.trans BZ) trivial
     ·have DI:decide (k < I)=false:=by simpa using AZ
      have Bf:=aa (show R=false by rw [AB.o,List.getElem?_eq_none om]);have BH:=fun (af:aRU) (h:tT w af ⟨a,b,m,f,some ⟨iD,AA,none⟩,c,B,d,g⟩ ps ns)=>show af.cell? (ad b 0)=some (.slice B I d) by have:=h.at_.Eh;rwa [<- Aa] at this
      have BK:=aa BH;clear Y BD hm aj AU aL yN GX BB Aa aI aB AQ BC Av hk hs Ac BF AB AZ Ad Ae Af BH;go_enter func230,ntmps230;go_wp2_with fail;have kR:=aa fun (af:aRU) (aj:tT w af ⟨a,b,m,f,some ⟨iD,AA,none⟩,c,B,d,g⟩ ps ns)=>BK.o af aj;refine qL 24 [_,_,_,_,_,_,_,_,_,_,_,_,_,_,_,_,_,_,_,_,_,_,_,_] (fun af=>tT w af ⟨a,b,m,f,some ⟨iD,AA,none⟩,c,B,d,g⟩ ps ns) (Ah.o.below (below_drewN (Below.refl _ _) 1)) ?_;intro af aj;go_wp2_with fail;go_ret;exact⟨by rw [Bf.o];rfl,aj⟩
theorem atF:∀ l:List UInt8,vk l=jl (· == 47) l
 | []=>rfl
 | c :: l=>by
  unfold vk jl;rw [atF l];by_cases h:c=47
  ·simp [h]
  ·rw [if_neg h,if_neg (by simpa using h)];cases jl (· == 47) l <;> rfl
theorem atG {s:ak} (h:eB s=true):(jl (· == 47) s).length<=16/\∀ x∈jl (· == 47) s,x.length<=1000:=by rw [eB,atF,Bool.and_eq_true,List.all_eq_true] at h;refine⟨by simpa using h.2,fun x ah=>?_⟩;have:=h.1 x ah;simp only [DC,Bool.and_eq_true,decide_eq_true_eq] at this;omega
theorem aGX {s:ak} (h:G5 s=true):(jl (· == 47) s).length<=16/\∀ x∈jl (· == 47) s,x.length<=1000:=by
 rw [G5,Bool.and_eq_true,Bool.not_eq_true',List.any_eq_false] at h;refine⟨by simpa using h.1,fun x ah=>?_⟩;have:=h.2 x ah;rw [Bool.not_eq_true',Bool.not_eq_false] at this;unfold EE at this;split at this
 ·rename_i e;subst e;decide
 ·split at this
  ·cases this
  ·simp only [Y9,Bool.and_eq_true,decide_eq_true_eq] at this;omega
theorem aGY {jc nK y7 Nb:Obj} (h:W=(((w.alloc jc).alloc nK).alloc y7).alloc Nb):W.heap[w.heap.size]?=some jc/\W.heap[w.heap.size+1]?=some nK/\W.heap[w.heap.size+1+1]?=some y7/\W.heap[w.heap.size+1+1+1]?=some Nb/\Bl w W:=by
 subst h;have s1:(w.alloc jc).heap.size=w.heap.size+1:=by simp
 have s2:((w.alloc jc).alloc nK).heap.size=w.heap.size+1+1:=by simp
 have I:(((w.alloc jc).alloc nK).alloc y7).heap.size=w.heap.size+1+1+1:=by simp
 have k:=fun (w:aRU) (o x:Obj) (b:Nat) (h:w.heap[b]?=some x)=>show (w.alloc o).heap[b]?=some x from (aQ5 w o b (iw h)).trans h
 have J:=aQM w jc;have a2:=aQM (w.alloc jc) nK;have a3:=aQM ((w.alloc jc).alloc nK) y7;have a4:=aQM (((w.alloc jc).alloc nK).alloc y7) Nb;rw [s1] at a2;rw [s2] at a3;rw [I] at a4;exact⟨k _ _ _ _ (k _ _ _ _ (k _ _ _ _ J)),k _ _ _ _ (k _ _ _ _ a2),k _ _ _ _ a3,a4,(((iD.alloc om _).alloc om _).alloc om _)⟩
theorem aGZ {aD bN:aRU} {B:aRV} {d:Nat} (CL:Rd aD 1 A ps.length (cB ps)) (OH:Rd bN 1 B ns.length (cB ns)) (ae:Below (aD.heap.size+1) (aD.alloc (.cells #[.slice A ps.length c] 24)) bN) (gu:aRU)
  (bC:gu=(((bN.alloc (.cells #[.slice B ns.length d] 24)).alloc (.map #[] 0)).alloc (.cells #[.map (some (bN.heap.size+1))] 328)).alloc (.cells #[.func (.func 230) #[] #[pp aD.heap.size 0,pp bN.heap.size 0,pp (bN.heap.size+1+1) 0,pp (bN.heap.size+1+1+1) 0]] 329)) :
  tT gu gu ⟨aD.heap.size,bN.heap.size,bN.heap.size+1+1,bN.heap.size+1+1+1,A,c,B,d,bN.heap.size+1⟩ ps ns/\Bl bN gu:=by
 obtain⟨g1,g2,g3,g4,I⟩:=aGY bC;have M:aD.heap.size+1<=bN.heap.size:=by have:=ae.size;simpa using this
 have J:bN.heap[aD.heap.size]?=some (.cells #[.slice A ps.length c] 24):=(ae.block _ om).trans (aQM aD _);have g0:=(I.block _ om).trans J;refine⟨⟨⟨(aQH gu _ 0 _ _ _ g0).trans rfl,(aQH gu _ 0 _ _ _ g1).trans rfl,(aQH gu _ 0 _ _ _ g3).trans rfl,(aQH gu _ 0 _ _ _ g4).trans rfl,?_,OH.gz I⟩,⟨[],?_,fun i k _ _ e=>by simp [getM] at e,by simp⟩,⟨rfl,rfl,rfl,aQF _,fun _ _ _=>rfl⟩⟩,I⟩
 ·exact ((CL.alloc _).below ae fun b _ h=>by simpa using h).gz I
 ·exact⟨#[],0,g2,⟨by simp,stamped_empty 0,by simp⟩,aQF _,rfl⟩
theorem aG0 (w:aRU) (p s:fC) (aI:p.length<=1100000) (hs:s.length<=1100000) (aj:qQ w) :
  CB 195 #[.string (aA p),.string (aA s)] w (.bool (PW p s)):=by
 have h1:=aqG w p aI aj;have Af:=fun (W:aRU)=>O0 (v:=eB s) W (aA s) s (by rw [iP];exact hs) (gZ s) rfl;have M:=fun W (ae:Below w.heap.size w W)=>ai7 W p om (aj.on ae);have Ag:=fun W (ae:Below w.heap.size w W)=>ai7 W s om (aj.on ae);obtain⟨R,Ah⟩:=ai (PW p s);have AP:=Ah;rw [PW] at AP;rw [<- Ah];have av:=aGX (s:=p);have ae:=atG (s:=s);obtain⟨ps,AQ,ns,AU,a,AV⟩:=nq3 (jl (· == 47) p) (jl (· == 47) s) (G5 p);obtain⟨b,AX⟩:∃ a,a=eB s:=⟨_,rfl⟩;obtain⟨P,AZ,S,Aa⟩:=nq2 (aA p) (aA s);rw [<- AQ,<- AZ] at M;rw [<- AU,<- Aa] at Ag;rw [<- AQ,<- AU,<- AV,<- AX] at AP;rw [<- AV,<- AZ] at h1;rw [<- AX,<- Aa] at Af;rw [<- AV,<- AQ] at av;rw [<- AX,<- AU] at ae;rw [<- AZ,<- Aa];obtain⟨H1,Ap,BF,BG,Aq,Av,Ak⟩:=hq7 h1 Af M Ag av ae AP;clear h1 Af M Ag av ae AP Ah AQ AU AV AX AZ Aa aj;cases a with
 | false =>
  have Y:=aa (show R=false by rw [Ak.o];rfl);go_enter func195,ntmps195;go_wp2_with (first | (go_at_call 110; refine jr H1.o ?_;intro w1 AA));go_ret;exact⟨by rw [Y.o];rfl,AA.o⟩
 | true =>
  cases b with
  | false =>
   have Y:=aa (show R=false by rw [Ak.o];rfl);go_enter func195,ntmps195;go_wp2_with (first|(go_at_call 110; refine jr H1.o ?_;intro w1 AA)|(go_at_call 43; refine (Ap.o _).mono ?_;rintro e af ⟨rfl,AB⟩;have Ac:=aa (aU AA.o AB);clear AB));go_ret;exact⟨by rw [Y.o];rfl,Ac.o⟩
  | true =>
   have BP:=@run_makeMap prog;have BR:=fun (a:Addr) (f:Fn) (mU iI:Array Value) (w:aRU) (m:Mode)=>run_store prog w a (.func f mU iI) m rfl;have Y:=aa (show R=wD (ps.drop 0) (ns.drop 0) by rw [Ak.o];rfl);go_enter func195,ntmps195;go_wp2_with (first|(go_at_call 110; refine jr H1.o ?_;intro w1 AA)|(go_at_call 43; refine (Ap.o _).mono ?_;rintro e af ⟨rfl,AB⟩;have Ac:=aa (aU AA.o AB);clear AB)|((with_reducible refine (BF.o af Ac.o).mono ?_);rintro e aD ⟨A,c,rfl,Az,BB⟩;have BH:=aa Az;have Ad:=aa (aU Ac.o BB);clear Az BB)|((with_reducible refine (BG.o (aD.alloc (.cells #[.slice A ps.length c] 24)) (Ad.o.alloc Ad.o.size _)).mono ?_);rintro e I ⟨B,d,rfl,BC,J⟩;have BK:=aa BC;have BL:=aa J;clear BC J));obtain⟨Ae,Al⟩:=ai ((((I.alloc (.cells #[.slice B ns.length d] 24)).alloc (.map #[] 0)).alloc (.cells #[.map (some (I.heap.size+1))] 328)).alloc (.cells #[.func (.func 230) #[] #[pp aD.heap.size 0,pp I.heap.size 0,pp (I.heap.size+1+1) 0,pp (I.heap.size+1+1+1) 0]] 329));have J:Below (aD.heap.size+1) (aD.alloc (.cells #[.slice A ps.length c] 24)) I:=BL.o.mono (aQ1 sp);have Am:=aGZ BH.o.rd BK.o.rd J Ae Al;rw [<- Al];have hc:=aGU _ ps ns (Aq.o trivial).1 (Av.o trivial).1 (Aq.o trivial).2 (Av.o trivial).2 (ps.length+ns.length) 0 0 Ae (aQQ _) (aQQ _) om Am.1;refine Calls.mono (show Calls prog 230 #[.int .i64 0,.int .i64 0,pp aD.heap.size 0,pp I.heap.size 0,pp (I.heap.size+1+1) 0,pp (I.heap.size+1+1+1) 0] Ae _ from hc) ?_;rintro e BS ⟨rfl,BD⟩;rw [<- Y.o];have M:=Ad.o.size;have Ao:Bl w Ae:=((Ad.o.alloc M _).trans (J.mono om)).trans (Am.2.mono (by have:=J.size;simp at this;omega));have BN:=aa (Ao.grown BD.grown Ao.size fun b e=>by have BO:=aRb e;have:=J.size;simp at this BO;omega);clear BD Ao hc Am J Al;go_wp2_with fail;go_ret;exact⟨rfl,BN.o⟩
end
section
open Go.RowKit Go.Shelf
theorem aa9 (w:aRU) (A:aRV) (n c:Nat) (X:aRW) (ax:Rd w 1 A n X) (iQ:∀ v∈X,v.oneCell'=true) (hl:n<=1000000) :
  Calls prog 35 #[.slice A n c] w fun e w'=>∃ A' c',e = .returned (.slice A' n c')/\Own w' w.heap.size 9 1 A' n c' X/\Bl w w':=by
 have I:∀ (W:aRU),(binOp .eql 24 (.slice A n c) (.slice none 0 0)).run prog W = .ok (.bool A.isNone) W:=fun W=>aRG W _ _ A n c 0 0 underlying24;cases A with
 | none =>
  obtain⟨rfl,rfl⟩:=aes ax;have M:∀ (W:aRU),(binOp .eql 24 (.slice none 0 c) (.slice none 0 0)).run prog W = .ok (.bool true) W:=I;clear I ax;go_enter func35,ntmps35;go_wp2_with fail;go_ret;exact⟨none,0,rfl,Own.nil _ _ _ _,Below.refl _ _⟩
 | some a =>
  have M:∀ (W:aRU),(binOp .eql 24 (.slice (some a) n c) (.slice none 0 0)).run prog W = .ok (.bool false) W:=I;clear I;go_enter func35,ntmps35;go_wp2_with (at_builtin;have _t:=ax;go_must ((with_reducible refine vg 9 _ 1 16 underlying24 Aj.info Aj.zs w.heap.size (some ⟨w.heap.size,0,none⟩) 0 0 [] (Own.lit w #[] _ 1 0 _ (aQF _) dc rfl) n X (.slice (some a) n c) (Src.slice underlying24 (ax.gz ((Below.refl _ w).alloc (aQF _) _))) iQ ?_ ?_ ?_ ?_ ?_);exact mV;omega;simp;exact⟨rfl,rfl⟩;intro dh bH aD J Y AA));refine aQP (aRg rfl _ _ _) rfl ?_;rw [List.nil_append,Nat.zero_add] at J;exact⟨dh,bH,rfl,J,((Below.refl _ w).alloc (aQF _) _).grown Y sp (fun k e=>by cases e;exact aQF _)⟩
def Vs (ins asks outs:List ak) (p:ak):Bool:=if outs.contains p then false else ins.contains p || asks.any (fun x=>PW x p)
structure LQ where
 o:Nat
 i:Nat
 a:Nat
def LQ.fn (l:LQ):Value:=.func (.func 193) #[] #[pp l.o 0,pp l.i 0,pp l.a 0]
structure sZ (w:aRU) (B g:Nat) (l:List ak):Prop where
 far:B<=g
 row:∃ A c,aM w g [.slice A l.length c] 24 /\ Own w B 9 1 A l.length c (cB l)
structure LU (w:aRU) (B:Nat) (l:LQ) (ins asks outs:List ak):Prop where
 o:sZ w B l.o outs
 i:sZ w B l.i ins
 a:sZ w B l.a asks
theorem sZ.below (h:sZ w B g l) (ae:Bl w w'):sZ w' B g l:=by obtain⟨A,c,h1,I⟩:=h.row;exact⟨h.far,A,c,h1.all ae,I.below ae (aQF _)⟩
theorem LU.below {l:LQ} {asks:List ak} (h:LU w B l ins asks outs) (ae:Bl w w'):LU w' B l ins asks outs:=⟨h.o.below ae,h.i.below ae,h.a.below ae⟩
theorem aG1 (w:aRU) (p:ak) (x:ak) (g:Nat) (av:w.cell? (ad g 0)=some (.string (aA x))) (aI:p.length<=1100000) (ah:x.length<=1100000) (aj:qQ w) :
  Calls prog 194 (#[.string (aA p)]++#[pp g 0]) w fun e w'=>e = .returned (.bool (PW p x))/\Bl w w':=by
 have h:=aG0 w p x aI ah aj;obtain⟨P,I,X,J,r,M⟩:=nq3 (aA p) (aA x) (PW p x);rw [<- I,<- J,<- M] at h;rw [<- J] at av;rw [<- I,<- M];have H:=aa h;clear I J M h aj;go_enter func194,ntmps194;go_wp2_with (first | (go_at_call 195; refine jr H.o ?_;intro af Y));go_ret;exact⟨rfl,Y.o⟩
theorem aG2 (w:aRU) (B:Nat) (l:LQ) (ins asks outs:List ak) (h:LU w B l ins asks outs) (hl:ins.length<=1000/\asks.length<=1000/\outs.length<=1000) (bq:∀ p∈asks,p.length<=1100000) (x:ak) (ah:x.length<=1100000) (aj:qQ w) :
  CB 193 #[.string (aA x),pp l.o 0,pp l.i 0,pp l.a 0] w (.bool (Vs ins asks outs x)):=by
 obtain⟨aH,Y⟩:=ai (w.alloc (.cells #[.string (aA x)] 9));have J:=gQ Y;have AU:=kY Y;obtain⟨BN,co,ro,Ap⟩:=h.o.row;obtain⟨Aq,ci,Av,Az⟩:=h.i.row;obtain⟨BB,iI,BC,Sb⟩:=h.a.row;have c1:=fun W (ae:Bl w W)=>aev W BN co outs (Ap.rd.gz ae) hl.2.2 x;have c2:=fun W (ae:Bl w W)=>aev W Aq ci ins (Az.rd.gz ae) hl.1 x;have bH:=fun W (ae:Bl aH W)=>WM W BB iI asks (Sb.rd.gz (aU J ae)) hl.2.1 194 #[pp w.heap.size 0] (enters_of func194 kr rfl) (fun p=>PW p x) fun aY I p aI =>
  aG1 aY p x w.heap.size ((AU.all (aU ae I)).cell 0) (bq p aI) ah (aj.on (J.trans ((aU ae I).mono J.size)));have AX:=fun W (ae:Bl aH W)=>show W.cell? (ad w.heap.size 0)=some (.string (aA x))/\W.cell? (ad l.i 0)=some (.slice Aq ins.length ci)/\W.cell? (ad l.a 0)=some (.slice BB asks.length iI) from
  ⟨(AU.all ae).cell 0,(Av.all (aU J ae)).cell 0,(BC.all (aU J ae)).cell 0⟩
 have AZ:=(ro.all J).cell 0;have Aa:=AU.cell 0;obtain⟨R,Ac⟩:=ai (Vs ins asks outs x);obtain⟨fo,Ad⟩:∃ b,b=outs.contains x:=⟨_,rfl⟩;obtain⟨BD,Ae⟩:∃ b,b=ins.contains x:=⟨_,rfl⟩;obtain⟨BF,Af⟩:∃ b,b=asks.any (fun p=>PW p x):=⟨_,rfl⟩;have BG:R=if fo then false else BD || BF:=by rw [Ac,Vs,Ad,Ae,Af]
 rw [<- Ac];rw [<- Ad] at c1;rw [<- Ae] at c2;rw [<- Af] at bH;obtain⟨X,Ag⟩:=ai (aA x);rw [<- Ag] at c1 c2 Aa AX Y;rw [<- Ag];have AA:=aa J;have Ah:=aa (c1 aH J);obtain⟨BH,BO,AV,Ak⟩:=hq4 c2 bH AX BG;obtain⟨o,i,a⟩:=l;simp only at AZ;simp only at AV;have BK:=Y.symm;clear aj c1 c2 bH AX BG Ac Ad Ae Af Ag AU J ro Av BC Ap Az Sb hl bq h Y;cases fo with
 | true =>
  have AB:=aa (show R=false by rw [Ak.o];rfl);go_enter func193,ntmps193;go_wp2_with (first | (go_at_call 70; refine Ah.o.mono ?_;rintro e af ⟨rfl,I⟩;have M:=aa (aU AA.o I);clear I));go_ret;exact⟨by rw [AB.o];rfl,M.o⟩
 | false =>
  cases BD with
  | true =>
   have AB:=aa (show R=true by rw [Ak.o];rfl);go_enter func193,ntmps193;go_wp2_with (first|((with_reducible refine Ah.o.mono ?_);rintro e af ⟨rfl,I⟩;have M:=aa I;obtain⟨Al,Am,Ao⟩:=AV.o af I;clear I BK AZ Aa)|((with_reducible refine (BH.o af (aU AA.o M.o)).mono ?_);rintro e aD ⟨rfl,AP⟩;have AQ:=aa (aU M.o AP);clear AP));go_ret;exact⟨by rw [AB.o];rfl,aU AA.o AQ.o⟩
  | false =>
   have AB:=aa (show R=BF by rw [Ak.o];rfl);go_enter func193,ntmps193;go_wp2_with (first|((with_reducible refine Ah.o.mono ?_);rintro e af ⟨rfl,I⟩;have M:=aa I;obtain⟨Al,Am,Ao⟩:=AV.o af I;clear I BK AZ Aa)|((with_reducible refine (BH.o af (aU AA.o M.o)).mono ?_);rintro e aD ⟨rfl,AP⟩;have AQ:=aa (aU M.o AP);clear AP Al Am Ao;obtain⟨Al,Am,Ao⟩:=AV.o aD AQ.o)|((with_reducible refine (BO.o aD AQ.o).mono ?_);rintro e BR ⟨rfl,BL⟩;have BP:=aa (aU AQ.o BL);clear BL));go_ret;exact⟨by rw [AB.o];rfl,aU AA.o BP.o⟩
def Io (B:Nat) (ins asks outs:List ak) (j:Nat) (v:Value) (w:aRU):Prop :=
  (j=2->∃ A c,v = .slice A ins.length c/\Own w B 9 1 A ins.length c (cB ins)) /\
  (j=5->∃ A c,v = .slice A asks.length c/\Own w B 9 1 A asks.length c (cB asks)) /\
  (j=8->∃ A c,v = .slice A outs.length c/\Own w B 9 1 A outs.length c (cB outs)) /\
  (9<=j->∃ g,v = .pointer (some ⟨g,0,none⟩)/\aM w g [.slice none 0 0] 24 /\ B<=g)
theorem Io.keep {asks:List ak} {v:Value} (h:Io B ins asks outs j v w) (ae:Bl w w'):Io B ins asks outs j v w' :=
  ⟨fun e=>(by obtain⟨A,c,I,J⟩:=h.1 e;exact⟨A,c,I,J.below ae (aQF _)⟩),fun e=>(by obtain⟨A,c,I,J⟩:=h.2.1 e;exact⟨A,c,I,J.below ae (aQF _)⟩),
   fun e=>(by obtain⟨A,c,I,J⟩:=h.2.2.1 e;exact⟨A,c,I,J.below ae (aQF _)⟩),fun e=>(by obtain⟨g,I,J,M⟩:=h.2.2.2 e;exact⟨g,I,J.all ae,M⟩)⟩
def afx (aH:aRU) (B:Nat) (ins asks outs:List ak) (L:Nat->Bool) (u:Nat->Value) (w:aRU):Prop:=
 Bl aH w/\(∀ j,9<=j->L j=true->Io B ins asks outs j (u j) w)/\∀ j k,9<=j->9<=k->j≠k->L j=true->L k=true->u j≠u k
theorem afx.step {aH:aRU} {asks:List ak} {L:Nat->Bool} {u:Nat->Value} {v:Value} (h:afx aH B ins asks outs L u w) (ae:Bl w w') (bg:9<=i->Io B ins asks outs i v w'/\∀ g V,aM w g V 24 -> v ≠ .pointer (some ⟨g,0,none⟩)):afx aH B ins asks outs (o5 L i true) (o5 u i v) w':=by
 have M:∀ j,9<=i->9<=j->L j=true->v≠u j:=fun j AA aC hl=>by
  obtain⟨g,e,AB,_⟩:=(h.2.1 j aC hl).2.2.2 aC;rw [e];exact (bg AA).2 g _ AB
 refine⟨h.1.trans (ae.mono h.1.size),fun j aC hl=>?_,fun j k aC hk Y hl J=>?_⟩
 ·unfold o5 at hl |-;split
  ·rename_i e;rw [e];exact (bg (e ▸ aC)).1
  ·rename_i e;rw [if_neg e] at hl;exact (h.2.1 j aC hl).keep ae
 ·unfold o5 at hl J |-;by_cases e:j=i
  ·have I:k≠i:=fun I=>Y (e.trans I.symm);rw [if_neg I] at J;rw [if_pos e,if_neg I];exact M k (e ▸ aC) hk J
  ·rw [if_neg e] at hl;rw [if_neg e];by_cases I:k=i
   ·rw [if_pos I];exact (M j (I ▸ hk) aC hl).symm
   ·rw [if_neg I] at J |-;exact h.2.2 j k aC hk Y hl J
theorem XU (l:List ak):∀ v∈cB l,v.oneCell'=true:=fun v I=>by
  obtain⟨x,_,rfl⟩:=aQO.1 I;rfl
theorem alb {P:Program} {ops:Array Oper} {rest:List Oper} {a:Act} {Q:aRX} {dst:Option Tmp} {ty ic:TypeId} {x v:Operand} {pos:String} {after:Array Edge} {z:Value} (g:Nat) (A:aRV) (n c:Nat) (ax:aM W g [z] ty) (ay:(P.info? ty).map (·.size)=some 1)
    (xk:a.eval x = .pointer (some ⟨g,0,none⟩)/\a.eval v = .slice A n c) (h:∀ aY,aM aY g [.slice A n c] ty->fV g W aY->wpList P ops Q rest (a.put dst undef) aY):wpList P ops Q (⟨dst,.store ty x v,ic,pos,after,none⟩ :: rest) a W :=
  wpList_store_row g 0 (.slice A n c) [.slice A n c] [z] [.slice A n c] ty ax rfl ay (aQF _) (by simp;rfl) rfl xk h
theorem sZ.put (aG:Own W B 9 1 A l.length c (cB l)) (jS:aM W g [.slice none 0 0] 24) (ax:aM W' g [.slice A l.length c] 24) (az:fV g W W') (bf:B<=g):sZ W' B g l :=
  ⟨bf,A,c,ax,gX aG jS dc az⟩
theorem sZ.dG {BF:Nat} (h:sZ W B g l) (ax:aM W BF V 24) (az:fV BF W W') (bJ:g≠BF):sZ W' B g l:=by obtain⟨A,c,h1,I⟩:=h.row;exact⟨h.far,A,c,h1.dG az bJ,gX I ax dc az⟩
theorem aG3 (w:aRU) (x:kH) (hA:KV w x.1 x.2) (hl:x.2.ins.length<=1000/\x.2.asks.length<=1000/\x.2.outs.length<=1000) :
    Calls prog 147 #[.agg (vH x).toArray] w fun e w'=>∃ l:LQ,e = .returned l.fn/\LU w' w.heap.size l x.2.ins x.2.asks x.2.outs/\Bl w w':=by
  obtain⟨L,a⟩:=x;simp only at hA hl |-;obtain⟨aH,Y⟩:=ai (w.alloc (.cells (nT L a) 45));have AX:=gQ Y;have Ag:aM aH w.heap.size (vH (L,a)) 45:=by rw [Y];exact aM.new w (vH (L,a)) _
  have c1:=fun W (ae:Bl aH W)=>aa9 W L.oK a.ins.length L.j6 (cB a.ins) (hA.ins.gz (aU AX ae)) (XU _) om;have c2:=fun W (ae:Bl aH W)=>aa9 W L.A a.asks.length L.eY (cB a.asks) (hA.asks.gz (aU AX ae)) (XU _) om;have bH:=fun W (ae:Bl aH W)=>aa9 W L.O a.outs.length L.wN (cB a.outs) (hA.outs.gz (aU AX ae)) (XU _) om;have hc:=fun W (ae:Bl aH W)=>show W.cell? (ad w.heap.size 4)=some (.slice L.oK a.ins.length L.j6)/\W.cell? (ad w.heap.size 5)=some (.slice L.A a.asks.length L.eY)/\W.cell? (ad w.heap.size 6)=some (.slice L.O a.outs.length L.wN) from
    ⟨(Ag.all ae).cell 4,(Ag.all ae).cell 5,(Ag.all ae).cell 6⟩
  have BH:(vH (L,a)).toArray=nT L a:=rfl;rw [BH];unfold nT at Y |-;obtain⟨KT,nm,E,oK,A,O,Ca,Bc,Be,Bf⟩:=L;simp only at c1 c2 bH hc Y |-;obtain⟨ins,Az,asks,BB,outs,BC⟩:=nq3 a.ins a.asks a.outs;rw [<- Az,<- BB,<- BC] at Y hc |-;rw [<- Az] at c1;rw [<- BB] at c2;rw [<- BC] at bH;obtain⟨Cb,BK,T,bY⟩:=nq2 a.env.length (aA a.tool);rw [<- BK,<- bY] at Y |-;obtain⟨AQ,Bg,Bh,Bi,Bj⟩:=hq5 AX c1 c2 bH hc;have Bn:=Y.symm;clear hA hl Ag BH AX c1 c2 bH hc Az BB BC BK bY Y;go_enter func147,ntmps147;go_wp2_with fail;clear Bn;refine TL 12 (iX [some (pp w.heap.size 4),some (.slice oK ins.length Bc),none,some (pp w.heap.size 5),some (.slice A asks.length Be),none,some (pp w.heap.size 6),some (.slice O outs.length Bf),none,none,none,none] (Io w.heap.size ins asks outs)) (afx aH w.heap.size ins asks outs) Bl (fun u=>⟨(Below.refl _ aH).drew,fun _ _ h=>(by cases h),fun _ _ _ _ _ h=>(by cases h)⟩) (fun j v w1 af ae Bp=>iX.keep (fun h=>h.keep ae) Bp) ?_ (jI:=?_)
  rotate_left
  · repeat' (first | exact trivial | apply And.intro)
    all_goals intro eQ u af Cc J Ce Cf Bq BL K AU
    all_goals simp [iX,Region.binds] at BL
    all_goals first | simp [Region.wanted,yielded,Bq,BL] | simp [Region.wanted,yielded] | skip
    all_goals obtain⟨Cg,Cj,Ck⟩:=Bj.o af J.1
    all_goals try (first | exact AU _ _ rfl (J.step (Below.refl _ _) fun h=>absurd h dc) (Below.refl _ _) | (go_simp;exact AU _ _ rfl (J.step (Below.refl _ _) fun h=>absurd h dc) (Below.refl _ _)))
    · go_simp;refine (Bg.o af J.1).mono ?_;rintro e aD ⟨dh,bH,rfl,AZ,AA⟩;exact AU _ _ ⟨fun _=>⟨dh,bH,rfl,AZ.mono (aQG AQ.o.size J.1.size)⟩,gq,gq,gq⟩ (J.step AA fun h=>absurd h dc) AA
    · go_simp;refine (Bh.o af J.1).mono ?_;rintro e aD ⟨dh,bH,rfl,AZ,AA⟩;exact AU _ _ ⟨gq,fun _=>⟨dh,bH,rfl,AZ.mono (aQG AQ.o.size J.1.size)⟩,gq,gq⟩ (J.step AA fun h=>absurd h dc) AA
    · go_simp;refine (Bi.o af J.1).mono ?_;rintro e aD ⟨dh,bH,rfl,AZ,AA⟩;exact AU _ _ ⟨gq,gq,fun _=>⟨dh,bH,rfl,AZ.mono (aQG AQ.o.size J.1.size)⟩,gq⟩ (J.step AA fun h=>absurd h dc) AA
    all_goals
      go_simp;have BN:=(Below.refl af.heap.size af).alloc (aQF _) (.cells [Value.slice none 0 0].toArray 24);have ah:∀ j,9<=j->Io w.heap.size ins asks outs j (pp af.heap.size 0) (af.alloc (.cells [Value.slice none 0 0].toArray 24)):=fun j h=>⟨fun e=>om,fun e=>om,fun e=>om,fun _=>⟨_,rfl,aM.new af [.slice none 0 0] _,aQG AQ.o.size J.1.size⟩⟩;exact AU _ _ (ah _ dc) (J.step BN fun h=>⟨ah _ h,fun g V ax e=>by
        injection e with e
        have Ah:=congrArg Addr.block (aRb e);have Cm:=ax.lt;simp only at Ah;omega⟩) BN
  · intro u af J Ak;obtain⟨Br,ci,Ah,BO⟩:=(show Io w.heap.size ins asks outs 2 (u 2) af from Ak.at 2 dc dc).1 rfl;obtain⟨Bt,iI,BP,Sb⟩:=(show Io w.heap.size ins asks outs 5 (u 5) af from Ak.at 5 dc dc).2.1 rfl;obtain⟨C8,co,BR,BS⟩:=(show Io w.heap.size ins asks outs 8 (u 8) af from Ak.at 8 dc dc).2.2.1 rfl;obtain⟨zA,Al,BU,mU⟩:=(show Io w.heap.size ins asks outs 9 (u 9) af from J.2.1 9 dc rfl).2.2.2 om;obtain⟨AB,Am,BX,Aa⟩:=(show Io w.heap.size ins asks outs 10 (u 10) af from J.2.1 10 dc rfl).2.2.2 om;obtain⟨go,Ao,ro,Ac⟩:=(show Io w.heap.size ins asks outs 11 (u 11) af from J.2.1 11 dc rfl).2.2.2 om;have Ad:zA≠AB:=fun e=>J.2.2 9 10 dc dc dc rfl rfl (by rw [Al,Am,e]);have Ae:zA≠go:=fun e=>J.2.2 9 11 dc dc dc rfl rfl (by rw [Al,Ao,e]);have Af:AB≠go:=fun e=>J.2.2 10 11 dc dc dc rfl rfl (by rw [Am,Ao,e]);clear Ak;simp only [Ah,BP,BR,Al,Am,Ao];have BD:Sz 24 1:=kr;have CF:=aa (AQ.o.trans (J.1.mono AQ.o.size));obtain⟨CG,CJ,CK,Ap,BZ,Bb⟩:=hq6 BO Sb BS BU BX ro;have Aq:=aa (⟨Ad,Ae,Af⟩:zA≠AB/\zA≠go/\AB≠go);have CL:=aa (⟨mU,Aa,Ac⟩:w.heap.size<=zA/\w.heap.size<=AB/\w.heap.size<=go);clear J BO Sb BS BU BX ro Ad Ae Af mU Aa Ac Ah BP BR Al Am Ao;go_wp2_with (first|((with_reducible refine alb zA Br ins.length ci Ap.o BD ?_ ?_);exact⟨rfl,rfl⟩;refine zN ?_;intro CQ CS AP)|((with_reducible refine alb AB Bt asks.length iI (BZ.o.dG AP.o Aq.o.1.symm) BD ?_ ?_);exact⟨rfl,rfl⟩;refine zN ?_;intro cO CU AV)|((with_reducible refine alb go C8 outs.length co ((Bb.o.dG AP.o Aq.o.2.1.symm).dG AV.o Aq.o.2.2.symm) BD ?_ ?_);exact⟨rfl,rfl⟩;refine zN ?_;intro CV CW Av));go_ret;obtain⟨Ad,Ae,Af⟩:=Aq.o;obtain⟨mU,Aa,Ac⟩:=CL.o;have BF:=BZ.o.dG AP.o Ad.symm;have BG:=(Bb.o.dG AP.o Ae.symm).dG AV.o Af.symm;have CX:sZ CQ w.heap.size zA ins:=sZ.put CG.o Ap.o CS.o AP.o mU;have CY:sZ cO w.heap.size AB asks:=sZ.put (gX CJ.o Ap.o dc AP.o) BF CU.o AV.o Aa;have CZ:sZ CV w.heap.size go outs:=sZ.put (gX (gX CK.o Ap.o dc AP.o) BF dc AV.o) BG CW.o Av.o Ac;exact⟨⟨go,zA,AB⟩,rfl,⟨CZ,(CX.dG BF AV.o Ad).dG BG Av.o Ae,CY.dG BG Av.o Af⟩,oO (oO (oO CF.o AP.o mU) AV.o Aa) Av.o Ac⟩
end
section
open Go.RowKit Go.Shelf
attribute [local go_sem] Oper.semAt_some
theorem alh:∀ {l:List wT} {k:Nat} {p:wT},l[k]?=some p->(M0 l)[k * 2]?=some (.slice p.A p.c.ws.length p.eY)/\(M0 l)[k * 2+1]?=some (.string (aA p.c.rest))
 | [],_,_,h=>by simp at h
 | x :: l,0,p,h=>by
  rw [List.getElem?_cons_zero] at h;cases h;exact⟨rfl,rfl⟩
 | x :: l,k+1,p,h=>by
  rw [List.getElem?_cons_succ] at h;have:=alh h;have I:(k+1) * 2=k * 2+2:=om;rw [I];exact this
abbrev FM (P:wT->Prop):={ x:Int × wT // P x.2 }
def abf {P:wT->Prop} (x:FM P):Array Value:=#[.int .i64 x.1.1,.agg #[.slice x.1.2.A x.1.2.c.ws.length x.1.2.eY,.string (aA x.1.2.c.rest)]]
theorem aG7 [dS] (P:wT->Prop) (n:Nat) (aB:1<=n) (l jq B:Nat) (A:aRV) (cap:Nat) (zs:List wT) (EH:zs.length<=1000000000) (lU:∀ p∈zs,P p) (bu vX:List (FM P)->World->Prop)
  (gp:∀ pre x W,bu pre W->pre.length < zs.length->YieldAt Fence.wide (n - 1) prog l (abf x) W fun e W'=>(e = .returned (.bool true)/\bu (pre++[x]) W'/\dz B W W')\/(e = .returned (.bool false)/\vX (pre++[x]) W'))
  (W:aRU) (vY:W.cell? (ad jq 0)=some (.slice A zs.length cap)) (hc:∀ W',dz B W W'->W'.cell? (ad jq 0)=some (.slice A zs.length cap)) (ax:∀ W',dz B W W'->Rd W' 2 A zs.length (M0 zs)) (aV:bu [] W) :
  CallsIn Fence.wide n prog 218 #[.func (.yield l) #[] #[],pp jq 0] W fun e W'=>(∃ v,e = .returned v)/\((∃ ys,ys.map (·.1.2)=zs.reverse/\bu ys W')\/(∃ pre,True/\vX pre W')):=by
 have AX:=MJ 218;obtain⟨len,hlen⟩:=ai zs.length;rw [<- hlen] at EH gp vY hc ax;refine aRj func218 rfl AX ?_ rfl;simp only [ntmps218,List.size_toArray,List.length_cons,List.length_nil,Nat.reduceAdd,Nat.reduceSub,Array.replicate_succ,Array.replicate_zero,List.push_toArray,List.append_toArray,List.nil_append,List.cons_append]
 gi_wp2
 gi_loopw [3] (fun i wr=>∃ (q:Nat) (ys:List (FM P)) (M:Int),i = .int .i64 M/\M=(q:Int) - 1/\q<=len/\ys.map (·.1.2)=(zs.drop q).reverse/\bu ys wr/\dz B W wr) (fun i _=>(intOf i+1).toNat)
 case atStart=>exact⟨len,[],_,rfl,om,aQF _,by rw [hlen,List.drop_length];rfl,aV,dz.refl _ _⟩
 case round =>
  obtain⟨q,ys,M,rfl,AA,Ah,I,AB,AP⟩:=hrel;by_cases Ak:0 < q
  ·obtain⟨p,rfl⟩:∃ p,q=p+1:=⟨q - 1,om⟩;obtain rfl:M=(p:Int):=om;clear AA;obtain⟨x,ah⟩:∃ x,zs[p]?=some x:=⟨_,aQI om⟩;have AQ:(zs.drop p).reverse=(zs.drop (p+1)).reverse++[x]:=by obtain⟨aI,rfl⟩:=aQL.1 ah;rw [List.drop_eq_getElem_cons aI,List.reverse_cons]
   obtain⟨b',o,rfl,hcell⟩:=(ax wr AP).2 om;have Al:wr.cell? ⟨b',o+p * 2,none⟩=some (.slice x.A x.c.ws.length x.eY):=hcell (p * 2) _ (alh ah).1;have Am:wr.cell? ⟨b',o+p * 2+1,none⟩=some (.string (aA x.c.rest)):=hcell (p * 2+1) _ (alh ah).2;have AU:=lU x (aQK ah);have AZ:ys.length < len:=by have:=congrArg List.length I;rw [List.length_map,List.length_reverse,List.length_drop] at this;omega
   have Y:=gp ys ⟨((p:Int),x),AU⟩ wr AB AZ;have AV:(ys++[(⟨((p:Int),x),AU⟩:FM P)]).map (·.1.2)=(zs.drop p).reverse:=by rw [List.map_append,I,AQ];rfl
   unfold abf at Y;simp only at Y;obtain⟨fn,tmps,assign,body,hy,Aa⟩:=Y;have Ao:(0:Int)<=p:=om;have Ac:=aa AV;clear ah AQ hcell I AV
   gi_wp2
   refine Aa.mono ?_;rintro e Ap (⟨rfl,Ad,Ae⟩ | ⟨rfl,Af⟩)
   ·gi_wp2
    go_roundw;case rel=>exact⟨p,_,_,rfl,om,om,Ac.o,Ad,AP.trans Ae⟩
    case measure=>simp [intOf]
   ·gi_wp2
    refine qB ?_;exact⟨⟨_,rfl⟩,.inr ⟨_,trivial,Af⟩⟩
  ·obtain rfl:q=0:=om;obtain rfl:M = -1:=om;clear AA;rw [List.drop_zero] at I;have Ag:=aa I;clear I
   gi_wp2
   go_end0;exact⟨⟨_,rfl⟩,.inl ⟨_,Ag.o,AB⟩⟩
theorem aG9 (w:aRU) (a:aRV) (len cap:Nat) :
  Calls prog 190 #[.slice a len cap] w fun e w'=>e = .returned (.func (.func 218) #[] #[pp w.heap.size 0])/\w'=w.alloc (.cells #[.slice a len cap] 257):=by
 go_enter func190,ntmps190;go_wp2;go_ret;exact⟨rfl,rfl⟩
theorem aHa [dS] (P:wT->Prop) (n:Nat) (aB:1<=n) (jq B:Nat) (A:aRV) (cap:Nat) (zs:List wT) (EH:zs.length<=1000000000) (lU:∀ p∈zs,P p) (w:aRU) (bf:B<=w.heap.size)
  (hc:eT w jq #[.slice A zs.length cap] 257) (ax:∀ W',dz B w W'->Rd W' 2 A zs.length (M0 zs)) :
  SeqStopsK Fence.wide n prog 218 #[pp jq 0] (abf (P:=P)) (dz B) (fun ys=>ys.map (·.1.2)=zs.reverse) (fun _=>True) zs.length w:=fun l bu Y W AA _ _ AB AP=>by
 have I:∀ W',dz B W W'->dz B w W':=fun W' h=>(dz.gN AA bf).trans h;have M:∀ W',dz B W W'->W'.cell? (ad jq 0)=some (.slice A zs.length cap):=fun W' h=>(hc.keep (I W' h) dc dc).cell 0;refine (aG7 P n aB l jq B A cap zs EH lU bu Y AB W (M W (dz.refl _ _)) M (fun W' h=>ax W' (I W' h)) AP).mono ?_;rintro e W' ⟨he,⟨ys,aI,aC⟩ | ⟨pre,aI,aC⟩⟩
 ·exact⟨he,.inl ⟨_,aI,aC⟩⟩
 ·exact⟨he,.inr ⟨pre,aI,aC⟩⟩
end
section
open Go.Maps Go.RowKit Go.Shelf
attribute [local go_sem] Oper.semAt_some
theorem aHb:(prog.info? 194).map (fun i=>(i.zero,i.size,i.bytes))=some (some (.agg #[.string ⟨#[]⟩,.string ⟨#[]⟩]),2,32):=kr
theorem aHc:∀ (l:List (ak × ak)),∀ v∈BQ l,v.oneCell'=true:=fun l v I=>by
 rw [BQ,List.mem_flatMap] at I;obtain⟨p,_,aI⟩:=I;simp at aI;rcases aI with rfl | rfl <;> rfl
theorem atH (w:aRU) (A:aRV) (c:Nat) (l:List (ak × ak)) (ax:Rd w 2 A l.length (BQ l)) (hl:l.length<=1000000) :
  Calls prog 146 #[.slice A l.length c] w fun e w'=>∃ A' c',e = .returned (.slice A' l.length c')/\Own w' w.heap.size 194 2 A' l.length c' (BQ l)/\Bl w w':=by
 cases A with
 | none =>
  have I:l.length=0:=by
   rcases aQ2 l.length with I | I
   ·exact I
   ·obtain⟨b,o,e,_⟩:=ax.2 I;cases e
  have AA:l=[]:=aQV I;subst AA;refine (AnyE.slices_Clone_nil Tryz.tlClone 0 c w).mono ?_;rintro e w' ⟨rfl,rfl⟩;exact⟨none,0,rfl,Own.nil _ _ _ _,Below.refl _ _⟩
 | some a =>
  have AB:∀ (W:aRU),(binOp .eql 43 (.slice (some a) l.length c) (.slice none 0 0)).run prog W = .ok (.bool false) W:=fun W=>aRG W _ _ (some a) l.length c 0 0 underlying43;obtain⟨n,M,X,J⟩:=nq2 l.length (BQ l);have AP:∀ v∈X,v.oneCell'=true:=by rw [J];exact aHc l
  rw [<- M,<- J] at ax;rw [<- M] at hl AB |-;rw [<- J];clear M J;go_enter func146,ntmps146;go_wp2_with (at_builtin;have _t:=ax;go_must ((with_reducible refine vg 194 (.agg #[.string ⟨#[]⟩,.string ⟨#[]⟩]) 2 32 underlying43 aHb rfl w.heap.size (some ⟨w.heap.size,0,none⟩) 0 0 [] (Own.lit w #[] _ 2 0 _ (aQF _) dc rfl) n X (.slice (some a) n c) (Src.slice underlying43 (ax.gz ((Below.refl _ w).alloc (aQF _) _))) AP ?_ ?_ ?_ ?_ ?_);exact mV;omega;(simp);exact⟨rfl,rfl⟩;intro dh bH aD Y AQ AU;clear ax));refine aQP (aRg rfl _ _ _) rfl ?_;rw [List.nil_append,Nat.zero_add] at Y;exact⟨dh,bH,rfl,Y,((Below.refl _ w).alloc (aQF _) _).grown AQ sp (fun k e=>by cases e;exact aQF _)⟩
def LX {P:wT->Prop} (pre:List (FM P)):List iT:=pre.reverse.map fun x=>iT.cmd x.1.2.c
theorem aHd {P:wT->Prop} (pre:List (FM P)) (x:FM P):LX (pre++[x]) = .cmd x.1.2.c :: LX pre:=by simp [LX]
theorem aHe {P:wT->Prop} {ys:List (FM P)} {l:List wT} (h:ys.map (·.1.2)=l.reverse):LX ys=(l.map (·.c)).map iT.cmd:=by
 have:ys.reverse.map (·.1.2)=l:=by rw [List.map_reverse,h,List.reverse_reverse]
 rw [<- this,LX,List.map_map,List.map_map];rfl
def aK.begun (l:List iT):aK:=⟨l,[],[],[],false,pM.none,[]⟩
def XV [dS] {P:wT->Prop} (w:aRU) (L:iV) (v:Env) (pre:List (FM P)) (W:aRU):Prop:=jL W L v none (aK.begun (LX pre))/\dz L.B w W
theorem XV.below [dS] {P:wT->Prop} {pre:List (FM P)} (h:XV w L v pre W) (ae:Bl W W'):XV w L v pre W':=⟨h.1.below ae,h.2.trans (dz.gN ae h.1.size)⟩
theorem aHf [dS] {w1:aRU} (bf:B<=w1.heap.size) (he:Own w1 B 194 2 A v.env.length c (BQ v.env)) (aI:∀ k,dS.E k->k < w1.heap.size) :
  nV ((w1.alloc (.map #[] 0)).alloc (.cells (uw none 0 0 A v.env.length c [] w1.heap.size [] false pM.none) 295)) ⟨B,w1.heap.size+1,w1.heap.size,A,c⟩ v none (aK.begun []) none 0 []:=by
 refine⟨?_,Nat.le_succ_of_le bf,Own.nil _ _ _ _,fun i t I=>by simp [aK.begun] at I,((he.alloc _).alloc _),⟨bf,[],(eU.made w1 prog 9 xE).alloc _,rfl,fun p=>rfl⟩,.inl fun t I=>by simp [aK.begun] at I,⟨fun e=>Nat.lt_irrefl _ (aI _ e),fun g e=>(by cases e),fun k hk=>by have:=aI k hk;simp;omega⟩⟩;have:=aQM (w1.alloc (.map #[] 0)) (.cells (uw none 0 0 A v.env.length c [] w1.heap.size [] false pM.none) 295);rw [World.size_alloc] at this;exact this
def abg [dS] (w:aRU) (v:Env) (text:ak) (e:Ending) (w':aRU):Prop :=
 ((pW eB text).1≠0/\e = .returned (.tuple #[.pointer none,.int .i64 (pW eB text).1])/\Bl w w') \/
 ((pW eB text).1=0/\∃ L:iV,e = .returned (.tuple #[fG L.R,.int .i64 0])/\L.B=w.heap.size/\jL w' L v none (aK.start (qG eB (jQ text)))/\dz L.B w w')
theorem aHg [dS] (w:aRU) (v:Env) (text:ak) (hs:text.length<=1000000) (aj:qQ w) (OP:(pW eB text).1≠0) (A:aRV) (n c:Nat) :
  Calls prog 145 #[.string (aA text),.slice A n c] w (abg w v text):=by
 have AA:=ajy w text hs aj;obtain⟨AU,J,X,M⟩:=nq2 (abg w v text) (aA text);obtain⟨I,Y⟩:=ai (((pW eB text).1:Int):Int);obtain⟨AV,AB⟩:=ai (((pW eB text).2:Int):Int);have AP:∀ w',Bl w w'->AU (.returned (.tuple #[.pointer none,.int .i64 I])) w':=fun w' ae=>by
  rw [J,Y];exact .inl ⟨OP,rfl,ae⟩
 have AQ:Calls prog 156 #[.string X] w fun e w'=>∃ (A:aRV) (n c:Nat),e = .returned (.tuple #[.slice A n c,.int .i64 I,.int .i64 AV])/\Bl w w':=by rw [M,Y,AB];refine AA.mono fun e w' k=>?_;obtain⟨A,c,X,h1,_,_,AX⟩:=k;exact⟨A,X.length,c,h1,AX⟩
 have AZ:I≠0:=om;have Ae:(I != 0)=true:=by simpa using AZ
 have Aa:=aa AP;have Ac:=aa AQ;rw [<- J,<- M];clear AA AQ AP J M Y AB aj hs OP;go_enter func145,ntmps145;go_wp2_with (go_at_call 156; refine Ac.o.mono ?_;rintro e w1 ⟨Af,Ag,c1,rfl,ae⟩;have Ad:=aa ae;clear ae);exact Aa.o _ Ad.o
theorem aHh [dS] (w:aRU) (v:Env) (bg:Gh v) (text:ak) (hs:text.length<=1000000) (aj:qQ w) (aI:∀ k,dS.E k->k < w.heap.size) (eZ:(pW eB text).1=0) (mo:aRV) (nk:Nat) (ax:Rd w 2 mo v.env.length (BQ v.env)) :
  Calls prog 145 #[.string (aA text),.slice mo v.env.length nk] w (abg w v text):=by
 have Bb:=ajy w text hs aj;have DF:=ZV eB (jQ text);have Bc:=QM text;have Be:(adW eB text).1=qG eB (jQ text):=by rw [ai1,if_pos eZ]
 obtain⟨DI,Aq,nu,AQ,Ab,Ak⟩:=nq3 (abg w v text) (aA text) v.env.length;have Bf:Calls prog 156 #[.string nu] w fun e w'=>∃ (A:aRV) (n c:Nat) (X:List wT) (AU:Int),e = .returned (.tuple #[.slice A n c,.int .i64 0,.int .i64 AU])/\n=X.length/\M3 w' w.heap.size A c X/\X.map (·.c)=qG eB (jQ text)/\Bl w w':=by rw [AQ];refine Bb.mono fun e w' k=>?_;obtain⟨A,c,X,h1,Ac,I,DJ⟩:=k;rw [eZ] at h1;exact⟨A,X.length,c,X,_,h1,rfl,Ac,I.trans Be,DJ⟩
 have DN:=aa (fun af (ae:Bl w af)=>show Calls prog 146 #[.slice mo Ab nk] af fun e w'=>∃ A' c',e = .returned (.slice A' Ab c')/\Own w' af.heap.size 194 2 A' Ab c' (BQ v.env)/\Bl af w' from by
  rw [Ak];exact atH af mo nk v.env (ax.gz ae) bg.len);obtain⟨DR,DT,Bg,DU,AV⟩:=hq5 Bf Aq Ak eZ aI;have Db:=aa (show (qG eB (jQ text)).length<=1000001 by omega);rw [<- Aq,<- AQ,<- Ak];clear Bb Bf Aq AQ aj hs eZ ax bg DF Bc Be Ak aI;have EO:=MJ 190;have ES:=MJ 156;have ET:=MJ 146;have Bh:=@run_makeMap prog;refine (aQZ (n:=6)).1 ?_;refine aRy func145 rfl trivial ?_ rfl;simp only [ntmps145,List.size_toArray,List.length_cons,List.length_nil,Nat.reduceAdd,Nat.reduceSub,Array.replicate_succ,Array.replicate_zero,List.push_toArray,List.append_toArray,List.nil_append,List.cons_append]
 gi_wp2_with (first|(gi_at_call 156; refine (aQZ.2 DR.o).mono ?_;rintro e w1 ⟨A,n,c,X,AU,rfl,Av,aX,Bi,ae⟩;obtain⟨Az,Bj,Bn,Dc⟩:=hq4 ae aX Bi Av;clear ae aX Bi Av)|(gi_at_call 146; refine (aQZ.2 (DN.o w1 Az.o)).mono ?_;rintro e af ⟨il,c2,rfl,Ad,ae⟩;have De:=aa Ad;have Al:=aa ae;clear Ad ae)|(gi_at_call 190; refine (aQZ.2 (aG9 _ A n c)).mono ?_;rintro e w' ⟨rfl,rfl⟩))
 obtain⟨L,Ae⟩:=ai (⟨w.heap.size,af.heap.size+1,af.heap.size,il,c2⟩:iV);have BB:Bl w af:=aU Az.o Al.o;have BC:w.heap.size<=af.heap.size:=BB.size;have BD:=aHf (w1:=af) (B:=w.heap.size) (v:=v) (A:=il) (c:=c2) BC (by have:=De.o.mono Az.o.size;rw [Bg.o] at this;exact this) (fun k hk=>aQJ (AV.o k hk) BC);rw [<- Ae,<- Bg.o] at BD;obtain⟨Y,AX⟩:=ai ((af.alloc (.map #[] 0)).alloc (.cells #[.slice none 0 0,.slice il Ab c2,.string ⟨#[]⟩,.map (some af.heap.size),.string ⟨#[]⟩,.bool false,.int .i64 0,.string ⟨#[]⟩,.string ⟨#[]⟩,.int .i64 0] 295));have Bp:nV Y L v none (aK.begun []) none 0 []:=by rw [AX];exact BD
 have Am:Y.heap.size=af.heap.size+1+1:=by rw [AX];simp
 have Bq:Bl w Y:=by rw [AX];exact (BB.alloc BC _).alloc (by simp;omega) _
 have Br:Bl af Y:=by rw [AX];exact iD.alloc sp _
 obtain⟨dN,AZ⟩:=ai ((Y.alloc (.cells #[pp (af.heap.size+1) 0] 247)).alloc (.cells #[.slice A n c] 257));have Ao:Bl Y dN:=by rw [AZ];exact iD.alloc sp _
 have Af:eT dN (af.heap.size+1+1) #[pp (af.heap.size+1) 0] 247:=by rw [AZ,<- Am];unfold eT;rw [Below.heap_alloc _ _ _ sp];exact aQM Y _
 have Bt:eT dN (af.heap.size+1+1+1) #[.slice A n c] 257:=by rw [AZ,<- Am];have:=aQM (Y.alloc (.cells #[pp (af.heap.size+1) 0] 247)) (.cells #[.slice A n c] 257);rwa [World.size_alloc] at this
 have C8:Bl w1 dN:=(aU Al.o Br).trans (Ao.mono (by have:=Al.o.size;omega));have AQ:=Bj.o.below C8;have BF:Bl w dN:=aU Bq Ao;have BG:=Dc.o;have EU:n<=1000001:=by have h1:=congrArg List.length Bn.o;rw [List.length_map] at h1;have:=Db.o;omega
 have CF:L.B=w.heap.size:=by rw [Ae]
 have BH:L.R=af.heap.size+1:=by rw [Ae]
 have Dg:L.m=af.heap.size:=by rw [Ae]
 have Dh:dN.heap.size=af.heap.size+1+1+1+1:=by rw [AZ];simp [Am]
 rw [show (((af.alloc (.map #[] 0)).alloc (.cells #[.slice none 0 0,.slice il Ab c2,.string ⟨#[]⟩,.map (some af.heap.size),.string ⟨#[]⟩,.bool false,.int .i64 0,.string ⟨#[]⟩,.string ⟨#[]⟩,.int .i64 0] 295)).alloc (.cells #[pp (af.heap.size+1) 0] 247)).alloc (.cells #[.slice A n c] 257)=dN by rw [AZ,AX]];have AA:=Bp.below Ao;obtain⟨P,BK⟩:∃ P:wT->Prop,P=fun x=>Own dN 0 9 1 x.A x.c.ws.length x.eY (cB x.c.ws)/\∀ b,bM x.A=some b->b < L.R:=⟨_,rfl⟩;have CG:∀ x∈X,P x:=fun x ah=>by
  rw [BK];refine⟨(AQ.words x ah).mono (aQQ _),fun b ae=>?_⟩;have h1:=((Bj.o.words x ah).block b ae).2.1;have Ac:=Al.o.size;rw [BH];omega
 have CJ:L.B<=dN.heap.size:=by rw [CF];exact BF.size
 have BL:SeqStopsK Fence.wide 5 prog 218 #[pp (af.heap.size+1+1+1) 0] (abf (P:=P)) (dz L.B) (fun ys=>ys.map (·.1.2)=X.reverse) (fun _=>True) n dN:=by have:=aHa P 5 om (af.heap.size+1+1+1) L.B A c X om CG dN CJ (by rw [<- BG];exact Bt) (fun W' Di=>(AQ.row.uR Di dc dc).rd);rwa [<- BG] at this
 have BN:XV (P:=P) dN L v [] dN:=⟨⟨none,0,[],AA⟩,dz.refl _ _⟩;obtain⟨Aa,CK,CL,BO,CQ,CS,Ag⟩:=hq7 BF Af BK BH CF Dh CJ;have EX:L.m < af.heap.size+1:=om;obtain⟨R,aL⟩:=ai (af.heap.size+1);clear BD Bp AX AZ Ao Af Bt C8 AQ BF Bq Br Am BB AA BK CG Ae Dg BH BG;refine wpIn_rangeFunc_ownH rfl om (gf:=218) (lb:=#[pp (af.heap.size+1+1+1) 0]) rfl trivial (enters_of func218 kr rfl)
  BL dz.trans (fun W l o Dj hl h h1 _=>dz.put W l o Dj (aQG Ag.o hl) h h1 (fun e=>by have Ac:=AV.o _ e;have I:=Aa.o.size;omega)) (Below.refl _ _) (fun _=>rfl)
  (XV dN L v)
  (fun _ _ _=>False)
  ?Dk (fun _ _ _ _ _ hs _ _=>hs) BN
  (fun y BP W=>∃ AB,eT W AB #[.slice y.1.2.A y.1.2.c.ws.length y.1.2.eY,.string (aA y.1.2.c.rest)] 300 /\ BP={ tmps:=#[.string nu,.slice mo Ab nk,undef,undef,.pointer none,.int .i64 0,.slice A n c,.int .i64 0,.int .i64 AU,pp (af.heap.size+1+1) 0,undef,pp AB 0,.tuple #[.slice A n c,.int .i64 0,.int .i64 AU],.string nu,.tuple #[.slice A n c,.int .i64 0,.int .i64 AU],.slice A n c,.int .i64 0,.int .i64 AU,.int .i64 0,.bool false,undef,.slice mo Ab nk,.slice il Ab c2,.map (some af.heap.size),.agg #[.slice none 0 0,.slice il Ab c2,.string ⟨#[]⟩,.map (some af.heap.size),.string ⟨#[]⟩,.bool false,.int .i64 0,.string ⟨#[]⟩,.string ⟨#[]⟩,.int .i64 0],pp (af.heap.size+1) 0,.slice A n c,.func (.func 218) #[] #[pp (af.heap.size+1+1+1) 0],.int .i64 y.1.1,.agg #[.slice y.1.2.A y.1.2.c.ws.length y.1.2.eY,.string (aA y.1.2.c.rest)],undef,undef,undef,undef,undef,undef,undef,undef,undef,undef,undef],defers:=[] })
  ?Dp ?assign ?body ?done ?stop;case Dk =>
  rintro pre W W' row ⟨⟨J,c1,us,h1⟩,I⟩ av AP;exact⟨⟨J,c1,us,h1.grow (n0:=dN.heap.size) av AP Ag.o I.size (by rw [CS.o];omega) (fun g e=>by cases e) (fun k hk=>aQJ (AV.o k hk) Aa.o.size)⟩,I.trans (dz.grow (n0:=dN.heap.size) av AP Ag.o I.size (fun k hk=>aQJ (AV.o k hk) Aa.o.size))⟩
 case Dp =>
  rintro y BP _ W W' row ⟨AB,h1,Ac⟩ av AP;refine⟨AB,?_,Ac⟩;unfold eT at h1 |-;refine (av.block AB (iw h1) fun e=>?_).trans h1;obtain⟨o,Ad,hc⟩:=(AP AB e.symm).2;rw [h1] at Ad;cases Ad;cases hc
 case assign =>
  rintro JC pre ⟨⟨CU,jZ⟩,ah⟩ W K ⟨h1,I⟩ aR;simp only [abf];have Dq:=aa (show XV (P:=P) dN L v pre W from ⟨h1,I⟩);have Dr:L.B<=W.heap.size:=h1.size;clear h1 I
  gi_wp2
  exact aR _ _ ((KeepsOthers.alloc _ _).from _) ((dz.refl _ W).alloc Dr _) (Dq.o.below ((Below.refl _ W).alloc (aQF _) _)) ⟨W.heap.size,aQM W _,rfl⟩
 case body =>
  rintro JC pre ⟨⟨CU,jZ⟩,ah⟩ BP W EY Bc ⟨⟨J,c1,us,h1⟩,I⟩ ⟨AB,CV,rfl⟩ Ea;obtain⟨m,hm⟩:=ai ((LX pre).length);have CW:m<=1000000000000:=by rw [hm,LX,List.length_map,List.length_reverse];omega
  obtain⟨V,BR⟩:=ai us.reverse;have bf:L.B<=W.heap.size:=h1.size;have CY:Own W L.B 1 1 J m c1 V:=by rw [hm,BR];exact h1.row
  have Ah:=aa CY;have Af:yU W (af.heap.size+1+1) R:=by rw [aL];exact (eT.keep CK.o I dc dc)
  have CZ:=aa Af;have AA:=h1.run;rw [BO.o,<- aL] at AA;have Ca:=aa (show ∀ aD,tO W L.B J m c1 V aD->eT aD R (uw J (LX pre).length c1 L.mo v.env.length L.nk [] L.m [] false pM.none) 295 from fun aD hm=>(hm.1.block R AA.lt fun e=>Ah.o.ne AA dc e.symm).trans AA);have Dt:=aa (show ∀ aD,tO W L.B J m c1 V aD->aD.cell? (ad (af.heap.size+1+1) 0)=some (pp R 0) from fun aD hm=>(CZ.o.keep (hm.uR Ah.o bf)).cell);have BS:=aa (show ∀ aD,tO W L.B J m c1 V aD->aD.cell? (ad R 0)=some (.slice J m c1)/\aD.frozen? ⟨R,0,none⟩=false from fun aD Bh=>by
   have ax:=Ca.o aD Bh;rw [<- hm] at ax;exact⟨aQH aD R 0 _ _ _ ax,aQY aD R 0 _ _ ax⟩);have Cc:Own W 0 9 1 jZ.A jZ.c.ws.length jZ.eY (cB jZ.c.ws):=by
   rw [CL.o] at ah;exact Own.uR ah.1 I dc dc
  have Du:=aa (show ∀ b,bM jZ.A=some b->b < L.R from by
   rw [CL.o] at ah;exact ah.2);obtain⟨Dv,Dw,Dz,E5,Ce,E8,E9⟩:=hq7 Cc h1 I CV hm BR aL;clear hm;have Av:=CW;clear h1 I CV CY Af AA BR CW Cc;clear BN BL;clear aL
  gi_wp2
  have kR:=aa fun aD (aj:tO W L.B J m c1 V aD)=>And.intro (Dt.o aD aj) (BS.o aD aj).1;refine nz arR 10 [some _,some _,some _,some _,some _,some _,none,none,some _,some _] (F9 L.B J m c1 V (.func (.func 191) #[] #[pp (af.heap.size+1+1) 0,pp AB 0])) (tO W L.B J m c1 V) (o6 L.B 1 1 J c1 (m+1) (V++[_])) (tO.start Ah.o) (fun j v w1 af ae h=>h.keep ae) ?_ (jI:=⟨rx,rx,rx,rx,rx,rx,fun eQ u af aj aL bz K aR=>?_,fun eQ u af aj aL bz K aR=>?_,rx,rx,trivial⟩)
  rotate_left
  ·simp [iX,Region.binds] at bz;refine mg rfl ?_;go_simp;exact aR _ _ ⟨fun _=>⟨_,rfl,aQM af _,aj.JD⟩,gq⟩ (aj.alloc _) (o6.alloc af _)
  ·simp [iX,Region.binds] at bz;exact mg rfl (aj1 aj (show F9 _ _ _ _ _ _ 6 _ _ from bz.2) rfl om bf rfl ⟨by simp [Act.eval,aL,bz.1],by simp [Act.eval,aL]⟩ aR)
  ·intro u aD aj Cf;obtain⟨Cg,Cj,EC,Ck⟩:=(show F9 _ _ _ _ _ _ 7 _ _ from Cf 7 om).2 rfl;clear Cf;simp only [EC];have Ec:=(BS.o aD aj).1;have Ee:=(BS.o aD aj).2;have Ap:=aa aj;have EF:=aa Ck;clear aj Ck;go_wp2_with fail;have BU:=Ap.o.uR Ah.o bf;have Cm:=Ap.o;have Co:=EF.o;rw [Ce.o,E8.o] at Cm Co;have BX:R=L.R:=E9.o.trans BO.o.symm;have Cr:(aK.begun (LX pre)).todo.length=m:=Ce.o.symm;have EG:yU aD (af.heap.size+1+1) L.R:=by rw [<- BX];exact CZ.o.keep BU
   have hf:=Dw.o.push Cm Co (t:=.cmd jZ.c) ⟨_,_,rfl,EG,jZ.A,jZ.eY,eT.keep E5.o BU dc dc,Dv.o.uR BU dc dc,Du.o⟩ (.inl rfl);have EH:=KeepsFrom.push (B':=dN.heap.size) Ap.o Ah.o (Ca.o aD Ap.o) 0 (.slice Cg (m+1) Cj);have EJ:jL (aD.setCell ⟨R,0,none⟩ (.slice Cg (m+1) Cj)) L v none (aK.begun (LX (pre++[⟨(CU,jZ),ah⟩]))):=by have Ct:=hf.1;rw [Cr,<- BX] at Ct;rw [aHd];exact⟨_,_,_,Ct⟩
   have BZ:=hf.2;rw [Cr,<- BX] at BZ;exact⟨EH,BZ,EJ,Dz.o.trans BZ⟩
 case done =>
  rintro D ys W EK Cu ⟨h1,I⟩ aR;have AP:∀ r,some D=some r->dN.heap.size<=r/\∃ o:Obj,W.heap[r]?=some o/\o.isCells=false:=fun r e=>by cases e;exact⟨EK,_,aR,rfl⟩
  have Cv:DI (.returned (.tuple #[pp R 0,.int .i64 0])) (W.putObj D (.deferred none)):=by
   obtain⟨J,c1,us,h1⟩:=h1;rw [DT.o];refine .inr ⟨DU.o,L,by rw [fG,BO.o,aL],CQ.o,?_,?_⟩
   ·have D8:=h1.grow (n0:=dN.heap.size) (aRa W D (.deferred none)) AP Ag.o I.size (by rw [CS.o];omega) (fun g e=>by cases e) (fun k hk=>aQJ (AV.o k hk) Aa.o.size);rw [aHe Cu,Bn.o] at D8;exact⟨_,_,_,D8⟩
   ·have EL:=(dz.gN Aa.o (by rw [CQ.o];exact aQF _):dz L.B w dN);exact (EL.trans I).trans (dz.grow (n0:=dN.heap.size) (aRa W D _) AP Ag.o I.size (fun k hk=>aQJ (AV.o k hk) Aa.o.size))
  have EM:=aa Cv;have Ef:W.cell? (ad (af.heap.size+1+1) 0)=some (pp R 0):=by rw [aL];exact (eT.keep CK.o I dc dc).cell 0
  have EN:=aa aR;clear h1 I Cv BN BL AP Cu aR
  gi_wp2
  refine⟨by simp,.inl ⟨_,_,rfl,aRp EN.o,?_⟩⟩;refine⟨_,aRc rfl _ _ _,?_⟩;have hf:=EM.o;rw [aL] at hf;exact hf
 case stop =>
  rintro D Ei pre W _ _ h _;exact h.elim
theorem aHk [dS] (w:aRU) (v:Env) (bg:Gh v) (text:ak) (hs:text.length<=1000000) (aj:qQ w) (aI:∀ k,dS.E k->k < w.heap.size) (mo:aRV) (nk:Nat) (ax:Rd w 2 mo v.env.length (BQ v.env)) :
  Calls prog 145 #[.string (aA text),.slice mo v.env.length nk] w (abg w v text):=by
 by_cases I:(pW eB text).1=0
 ·exact aHh w v bg text hs aj aI I mo nk ax
 ·exact aHg w v text hs aj I mo v.env.length nk
end
section
open Go.Maps Go.RowKit Go.Shelf
def afy:List TypeId:=[295,1,247,9,147,138,300,322,194]
def Gr (w w':aRU):Prop:=∀ (k:Nat) (cs:Array Value) (t:TypeId) (aZ:Nat × Nat),w.heap[k]?=some (.cells cs t aZ)->t∈afy->w'.heap[k]?=w.heap[k]?
section
variable {w w':aRU} {R:Nat} {q:Option Nat} (hk:Gr w w')
theorem eT.oV (hk:Gr w w') {cs:Array Value} (h:eT w g cs t) (az:t∈afy):eT w' g cs t:=(hk g cs t _ h az).trans h
theorem Own.oV (hk:Gr w w') {base aO n:Nat} {xs:aRW} (h:Own w base t aO A n c xs) (az:t∈afy):Own w' base t aO A n c xs:=h.keep fun b ae _ _=>by
 obtain⟨_,_,cur,aZ,hc⟩:=h.block b ae;exact hk b cur t aZ hc az
theorem EP.oV (hk:Gr w w') (h:EP w g q):EP w' g q:=by obtain⟨m,h1,I⟩:=h;exact⟨m,h1,eT.oV hk I dc⟩
theorem Da.oV (hk:Gr w w') {d:Bd} (h:Da w R q u d):Da w' R q u d:=by
 cases d with
 | add=>exact h
 | scan x =>
  obtain⟨g1,g2,g3,e,h1,I,J⟩:=h;exact⟨g1,g2,g3,e,eT.oV hk h1 dc,eT.oV hk I dc,EP.oV hk J⟩
theorem wy.oV (hk:Gr w w') {d:Bd} (h:wy w R q u d):wy w' R q u d:=by obtain⟨g1,g2,v,e,h1,I,J⟩:=h;exact⟨g1,g2,v,e,eT.oV hk h1 dc,eT.oV hk I dc,Da.oV hk J⟩
theorem yV.oV (hk:Gr w w') {th:rQ} (h:yV w R q u th):yV w' R q u th:=by
 cases th with
 | add=>exact wy.oV hk h
 | DV =>
  obtain⟨g1,e,h1⟩:=h;exact⟨g1,e,eT.oV hk h1 dc⟩
 | scan x=>exact wy.oV hk h
theorem ER.oV (hk:Gr w w') {t:iT} (h:ER w R q u t):ER w' R q u t:=by
 cases t with
 | cmd c =>
  obtain⟨g1,g2,e,h1,A,eY,I,J,M⟩:=h;exact⟨g1,g2,e,eT.oV hk h1 dc,A,eY,eT.oV hk I dc,Own.oV hk J dc,M⟩
 | tK p th =>
  obtain⟨g1,g2,g3,v,e,h1,I,J,M⟩:=h;exact⟨g1,g2,g3,v,e,eT.oV hk h1 dc,yV.oV hk I,eT.oV hk J dc,eT.oV hk M dc⟩
 | line x y =>
  obtain⟨g1,g2,g3,g4,e,h1,I,J,M⟩:=h;exact⟨g1,g2,g3,g4,e,eT.oV hk h1 dc,eT.oV hk I dc,eT.oV hk J dc,EP.oV hk M⟩
end
@[reducible] def vP (m:Nat):dS:=⟨fun k=>k=m⟩
@[reducible] def Cb:dS:=⟨fun _=>False⟩
theorem nV.oV [oK:dS] {q:Option Nat} {us:aRW} (h:nV w L v q s A c us) (hk:Gr w w') (hs:w.heap.size<=w'.heap.size)
  (hm:∀ (k:Nat) (o:Obj),L.B<=k->¬ dS.E k->w.heap[k]?=some o->o.isCells=false->w'.heap[k]?=w.heap[k]?):nV w' L v q s A c us:=by
 have AA:∀ {α:Type} {enc:α->Value} {n m:Nat} {M:fA α},L.B<=m->¬ dS.E m->eU w prog 9 enc m n M->eU w' prog 9 enc m n M:=fun AP he AB=>AB.keep (by
  obtain⟨es,AZ,AQ,_⟩:=AB;exact hm _ _ AP he AQ rfl);refine⟨eT.oV hk h.run dc,h.base,Own.oV hk h.row dc,fun i t AU=>?_,Own.oV hk h.env dc,?_,?_,h.free.size hs⟩
 ·obtain⟨u,h1,J⟩:=h.tasks i t AU;exact⟨u,h1,ER.oV hk J⟩
 ·obtain⟨h1,M,J,Y⟩:=h.known;exact⟨h1,M,AA h1 h.free.map J,Y⟩
 ·rcases h.seen with h1 | ⟨g,M,h1,J,Y,AV,AX⟩
  ·exact .inl h1
  ·exact .inr ⟨g,M,h1,J,Y,AA J (h.free.seen g h1) AV,AX⟩
theorem jL.oV [oK:dS] {q:Option Nat} (h:jL w L v q s) (hk:Gr w w') (hs:w.heap.size<=w'.heap.size)
  (hm:∀ (k:Nat) (o:Obj),L.B<=k->¬ dS.E k->w.heap[k]?=some o->o.isCells=false->w'.heap[k]?=w.heap[k]?):jL w' L v q s:=by
 obtain⟨A,c,us,h⟩:=h;exact⟨A,c,us,h.oV hk hs hm⟩
theorem jL.guard (h:@jL Cb w L v none s) (hm:m < w.heap.size) (bJ:L.m≠m):@jL (vP m) w L v none s:=by obtain⟨A,c,us,h1,I,J,M,Y,AA,AB,_⟩:=h;letI:=vP m;exact⟨A,c,us,⟨h1,I,J,M,Y,AA,AB,⟨bJ,fun g e=>(by cases e),fun k e=>(by rw [show k=m from e];exact hm)⟩⟩⟩
structure oh where
 B:Nat
 X:Nat
 L:iV
 A:Option Addr
 c:Nat
 may:LQ
 m:Nat
 bV:Option Addr
 rc:Nat
def pz (l:oh) (P:nY) (b:dC):List Value:=[pp l.L.R 0,.slice l.A P.outs.length l.c,l.may.fn,.map (some l.m),.slice l.bV b.reads.length l.rc,.string (aA b.asks),.bool b.over,.int .i64 b.why]
structure iF (w:aRU) (l:oh) (P:nY) (ins asks:List ak) (b:dC):Prop where
 row:aM w l.X (pz l P b) 253
 far:l.B<=l.X/\l.B<=l.m/\l.B<=l.L.B
 outs:Own w l.B 9 1 l.A P.outs.length l.c (cB P.outs)
 may:LU w l.B l.may ins asks P.outs
 map:eU w prog 9 encS l.m b.wrote.length b.wrote
 reads:Own w l.B 135 34 l.bV b.reads.length l.rc (cK iq b.reads)
 run:∃ q,@jL (vP l.m) w l.L P.v q b.ps
structure kv (l:oh) (w w':aRU):Prop where
 os:w'.os=w.os
 tape:w'.tape=w.tape
 output:w'.output=w.output
 size:w.heap.size<=w'.heap.size
 low:∀ k,k < l.B->w'.heap[k]?=w.heap[k]?
 cells:∀ (k:Nat) (cs:Array Value) (t:TypeId) (aZ:Nat × Nat),w.heap[k]?=some (.cells cs t aZ)->t ≠ 295 -> t ≠ 1 -> k≠l.X->some k≠bM l.bV->w'.heap[k]?=w.heap[k]?
theorem kv.trans {l l':oh} {x y z:aRU} (h:kv l x y) (k:kv l' y z) (bf:l'.B=l.B) (aX:l'.X=l.X) (aL:∀ j,j < x.heap.size->some j≠bM l.bV->some j≠bM l'.bV):kv l x z :=
 ⟨k.os.trans h.os,k.tape.trans h.tape,k.output.trans h.output,aQG h.size k.size,fun j aC=>(k.low j om).trans (h.low j aC),fun j cs t aZ aC h1 I J Y =>
  (k.cells j cs t aZ ((h.cells j cs t aZ aC h1 I J Y).trans aC) h1 I (by rw [aX];exact J) (aL j (iw aC) Y)).trans (h.cells j cs t aZ aC h1 I J Y)⟩
theorem kv.gN {l:oh} (h:Below w.heap.size w w') (bf:l.B<=w.heap.size):kv l w w':=⟨h.os,h.tape,h.output,h.size,fun k hk=>h.block k om,fun k cs t aZ hk _ _ _ _=>h.block k (iw hk)⟩
theorem kv.um {l:oh} (h:fV l.X w w') (aX:l.B<=l.X):kv l w w':=⟨h.1,h.2.1,h.2.2.1,aQ1 h.2.2.2.1.symm,fun k hk=>h.2.2.2.2 k om,fun k cs t aZ hk _ _ I _=>h.2.2.2.2 k I⟩
theorem kv.below {l:oh} (h:kv l w w'):Below l.B w w':=⟨h.os,h.tape,h.output,h.size,h.low⟩
section
variable {w w':aRU} {l:oh} {P:nY} {ins asks:List ak} {b b':dC}
theorem iF.size (h:iF w l P ins asks b):l.B<=w.heap.size:=aQG h.far.1 (aRm h.row.lt)
theorem aM.aHl {n:Nat} {k:TypeId} {enc:α->Value} {M:fA α} (h:aM w g V t) (hm:eU w prog k enc m n M):m≠g:=by obtain⟨es,J,I,_⟩:=hm;rintro rfl;rw [aM,I] at h;cases h
theorem iF.below (h:iF w l P ins asks b) (ae:Bl w w'):iF w' l P ins asks b:=by obtain⟨q,I⟩:=h.run;exact⟨h.row.all ae,h.far,h.outs.below ae (aQF _),h.may.below ae,h.map.below ae h.map.lt,h.reads.below ae (aQF _),q,by letI:=vP l.m;exact jL.below I ae⟩
theorem iF.dG (h:iF w l P ins asks b) (ax:aM w' l.X (pz l P b') 253) (az:fV l.X w w') (h1:b'.ps=b.ps) (ag:b'.wrote=b.wrote) (au:b'.reads=b.reads):iF w' l P ins asks b':=by
 obtain⟨q,M⟩:=h.run;have I:∀ {g:Nat} {x:List ak},sZ w l.B g x->sZ w' l.B g x:=fun {g x} hs=>by
  obtain⟨A,c,J,Y⟩:=hs.row;refine⟨hs.far,A,c,J.dG az ?_,gX Y h.row dc az⟩;rintro rfl;have:=J.symm.trans h.row;injection this with this
  injection this with _ this
  exact absurd this dc
 refine⟨ax,h.far,gX h.outs h.row dc az,⟨I h.may.o,I h.may.i,I h.may.a⟩,?_,?_,q,?_⟩
 ·rw [ag];exact h.map.keep (az.2.2.2.2 _ (h.row.aHl h.map))
 ·rw [au];exact gX h.reads h.row dc az
 ·rw [h1];letI:=vP l.m;refine jL.oV M (fun k cs t aZ hk AA=>az.2.2.2.2 k ?_) (aQ1 az.2.2.2.1.symm) fun k o _ _ hk hc=>az.2.2.2.2 k ?_
  ·rintro rfl;rw [h.row] at hk;injection hk with hk
   injection hk with _ hk
   subst hk;exact absurd AA dc
  ·rintro rfl;rw [h.row] at hk;injection hk with hk
   subst hk;cases hc
end
end
section
open Go.Maps Go.RowKit Go.Shelf
theorem fV.trans {x y z:aRU} (h:fV g x y) (k:fV g y z):fV g x z:=⟨k.1.trans h.1,k.2.1.trans h.2.1,k.2.2.1.trans h.2.2.1,k.2.2.2.1.trans h.2.2.2.1,fun j aC=>(k.2.2.2.2 j aC).trans (h.2.2.2.2 j aC)⟩
variable {w:aRU} {l:oh} {P:nY} {ins asks:List ak} {b:dC}
theorem alm (h:iF w l P ins asks b) (y:Nat):CR 150 #[pp l.X 0,.int .i64 y] w (.tuple #[]) fun w'=>iF w' l P ins asks (b.fail y)/\kv l w w':=by
 have I:=h.row;have M:(pz l P b).set 6 (.bool true)=pz l P { b with over:=true }:=rfl;have Y:(pz l P { b with over:=true }).set 7 (.int .i64 y)=pz l P (b.fail y):=rfl;have AA:6+1<=(pz l P b).length:=by show 7<=8;omega
 have AB:7+1<=(pz l P { b with over:=true }).length:=by show 8<=8;omega
 have J:=fun (W:aRU) (AZ:aM W l.X (pz l P (b.fail y)) 253) (AP:fV l.X w W)=>show iF W l P ins asks (b.fail y)/\kv l w W from ⟨h.dG AZ AP rfl rfl rfl,kv.um AP h.far.1⟩
 obtain⟨Ao,AQ⟩:=ai (pz l P b);obtain⟨Ap,AU⟩:∃ V,V=pz l P { b with over:=true }:=⟨_,rfl⟩;obtain⟨zX,AV,X,AX⟩:=nq2 (pz l P (b.fail y)) l.X;have Aa:Sz 4 1:=kr;have Ac:Sz 40 1:=kr;have Aq:(Value.bool true).cells.toList=[.bool true]:=rfl;have Av:(Value.int .i64 (y:Int)).cells.toList=[.int .i64 y]:=rfl;have Ad:(Value.bool true).oneCell'=true:=rfl;have Ae:(Value.int .i64 (y:Int)).oneCell'=true:=rfl;rw [<- AQ] at I AA M;rw [<- AU] at M Y AB;rw [<- AV] at Y J;rw [<- AX] at I J |-;have Af:=aa I;have Ag:=aa J;clear J I AQ AU AV AX h;go_enter func150,ntmps150;go_wp2_with (first|((with_reducible refine A8 6 (.bool true) Af.o Aa AA Ad M ?_);refine zN ?_;intro aH Ah Ak)|((with_reducible refine A8 7 (.int .i64 y) Ah.o Ac AB Ae Y ?_);refine zN ?_;intro aY Al Am));refine bodyPost_end (aRx rfl _ _ _) rfl ?_;exact⟨rfl,Ag.o aY Al.o (Ak.o.trans Am.o)⟩
theorem aHn (h:iF w l P ins asks b) (g:Nat) (av:w.cell? (ad g 0)=some (pp l.X 0)) (p:ak) (aI:p.length<=1100000) :
  Calls prog 198 (#[.string (aA p)]++#[pp g 0]) w fun e w'=>e = .returned (.bool (!(getM b.wrote p).isSome))/\Bl w w':=by
 have M:=h.map.look_ok O3 underlying9 underlying189 [] (ZX w) (aA p) (by rw [iP];unfold maxLen;omega);rw [gZ] at M;have bH:=h.row.cell 3;obtain⟨r,I⟩:=ai ((getM b.wrote p).isSome);obtain⟨d,Y⟩:=ai (encS ((getM b.wrote p).getD []));obtain⟨S,J⟩:=ai (aA p);rw [<- I,<- Y,<- J] at M;rw [<- I,<- J];simp only [pz,List.getElem?_cons_succ,List.getElem?_cons_zero] at bH;clear h I Y J;go_enter func198,ntmps198;go_wp2_with fail;go_ret;exact⟨rfl,Below.refl _ _⟩
def dC.put (P:nY) (b:dC) (p d:ak):dC:=if (getM b.wrote p).isSome=true\/p ∉ P.outs then b.fail 14 else { b with wrote:=oI b.wrote p d }
theorem aHo {M:fA α} {p:ak} (a:α) (h:getM M p=none):(oI M p a).length=M.length+1:=by
 have h1:∀ (x:ak × α) (M:fA α),(zk x M).length=M.length+1:=fun x M=>by
  induction M with
  | nil=>rfl
  | cons y r I =>
   unfold zk;split
   ·rfl
   ·rw [List.length_cons,I,List.length_cons]
 have J:I5 M p=M:=by rw [I5,List.filter_eq_self];intro y hy;rw [getM,Option.map_eq_none_iff,List.find?_eq_none] at h;simpa using h y hy
 rw [oI,h1,J]
theorem iF.wrote (h:iF w l P ins asks b) {M:fA ak} (hm:eU w' prog 9 encS l.m M.length M) (az:fV l.m w w'):iF w' l P ins asks { b with wrote:=M }/\kv l w w':=by
 obtain⟨es,AU,AA,_⟩:=h.map;have hc:∀ (k:Nat) (cs:Array Value) (t:TypeId) (aZ:Nat × Nat),w.heap[k]?=some (.cells cs t aZ)->w'.heap[k]?=w.heap[k]?:=fun k cs t aZ hk=>az.2.2.2.2 k (by
  rintro rfl;rw [AA] at hk;cases hk);have I:∀ {base aO n c:Nat} {t:TypeId} {A:aRV} {xs:aRW},Own w base t aO A n c xs->Own w' base t aO A n c xs:=fun ah=>ah.keep fun k hk _ _=>by
  obtain⟨_,_,cur,aZ,ae⟩:=ah.block k hk;exact hc k cur _ aZ ae
 have J:∀ {g:Nat} {x:List ak},sZ w l.B g x->sZ w' l.B g x:=fun {g x} hs=>by
  obtain⟨A,c,Y,AB⟩:=hs.row;exact⟨hs.far,A,c,(hc g _ _ _ Y).trans Y,I AB⟩
 obtain⟨q,AP⟩:=h.run;refine⟨⟨(hc _ _ _ _ h.row).trans h.row,h.far,I h.outs,⟨J h.may.o,J h.may.i,J h.may.a⟩,hm,I h.reads,q,?_⟩,⟨az.1,az.2.1,az.2.2.1,aQ1 az.2.2.2.1.symm,fun k hk=>az.2.2.2.2 k (by have:=h.far.2.1;omega),fun k cs t aZ hk _ _ _ _=>hc k cs t aZ hk⟩⟩;letI:=vP l.m;exact jL.oV AP (fun k cs t aZ hk _=>hc k cs t aZ hk) (aQ1 az.2.2.2.1.symm) fun k o _ AQ hk _=>az.2.2.2.2 k AQ
theorem aHp (h:iF w l P ins asks b) (p d:ak) (aI:p.length<=1100000) (hl:P.outs.length<=1000) (aB:b.wrote.length < maxLen) :
  CR 197 #[pp l.X 0,.string (aA p),.string (aA d)] w (.tuple #[]) fun w'=>iF w' l P ins asks (b.put P p d)/\kv l w w':=by
 have AU:=h.map.look_ok O3 underlying9 underlying189 [] (ZX w) (aA p) (by rw [iP];unfold maxLen;omega);have AV:=alm h 14;have Y:=aev w l.A l.c P.outs h.outs.rd hl p;rw [gZ] at AU;have bH:=h.row.cell 3;have c1:=h.row.cell 1;simp only [pz,List.getElem?_cons_succ,List.getElem?_cons_zero] at bH c1;obtain⟨r,AA⟩:=ai ((getM b.wrote p).isSome);obtain⟨z,Aa⟩:=ai (encS ((getM b.wrote p).getD []));obtain⟨o,I,Am,AX⟩:=nq2 (P.outs.contains p) (b.put P p d);have J:=AX;rw [dC.put,<- AA] at J;have Ac:o=false->p ∉ P.outs:=fun e ah=>by rw [e] at I;simp at I;exact I ah
 have Ad:o=true->p∈P.outs:=fun e=>by rw [e] at I;simpa using I.symm
 rw [<- AA,<- Aa] at AU;rw [<- I] at Y;rw [<- AX];obtain⟨S,AB,X,AP,m,hm⟩:=nq3 (aA p) l.X l.m;rw [<- AP] at AV c1 bH |-;rw [<- hm] at AU bH;rw [<- AB] at AU Y;rw [<- AB];have Ao:=aa Y;cases r with
 | true =>
  have AZ:=aa (show Am=b.fail 14 by rw [J,if_pos (.inl rfl)]);have Ae:=aa AV;clear Y AV J Ac Ad Aa I AX AB AP hm AA h Ao aB;go_enter func197,ntmps197;go_wp2_with (first | (go_at_call 150; refine jr Ae.o ?_;intro af Af));refine qB ?_;exact⟨rfl,by rw [AZ.o];exact Af.o⟩
 | false =>
  have AQ:∀ W:World,Bl w W->iF W l P ins asks b:=fun W ae=>h.below ae;have Ag:=h.size;cases o with
  | false =>
   have AZ:=aa (show Am=b.fail 14 by rw [J,if_pos (.inr (Ac rfl))]);have Ae:=aa (fun W (ae:Bl w W)=>alm (AQ W ae) 14);rw [<- AP] at Ae;have BD:=aa Ag;clear Y AV J Ac Ad Aa I AX AB AP hm AA h AQ Ag aB;go_enter func197,ntmps197;go_wp2_with (first|(go_at_call 70; refine jr Ao.o ?_;intro w1 Ah)|(go_at_call 150; refine jr (Ae.o w1 Ah.o) ?_;intro af Af));refine qB ?_;exact⟨rfl,by rw [AZ.o];exact⟨Af.o.1,(kv.gN Ah.o BD.o).trans Af.o.2 rfl rfl fun _ _ h=>h⟩⟩
  | true =>
   have AZ:=aa (show Am={ b with wrote:=oI b.wrote p d } by rw [J,if_neg (by simpa using Ad rfl)]);have Aq:getM b.wrote p=none:=by rw [<- Option.not_isSome_iff_eq_none,<- AA];decide
   have Ap:=aa (fun W (ae:Bl w W)=>(AQ W ae).map.update O3 underlying9 underlying189 aB (aA p) (by rw [iP];unfold maxLen;omega) d);have BF:=aa (fun (W aY:aRU) (ae:Bl w W) (h1:eU aY prog 9 encS l.m (b.wrote.length+1) (oI b.wrote p d)) (BG:fV l.m W aY)=>show iF aY l P ins asks { b with wrote:=oI b.wrote p d }/\kv l w aY from by
    have:=(AQ W ae).wrote (M:=oI b.wrote p d) (by rw [aHo d Aq];exact h1) BG;exact⟨this.1,(kv.gN ae Ag).trans this.2 rfl rfl fun _ _ h=>h⟩);rw [gZ,<- AB,<- hm] at Ap;have BH:=aa (fun W (ae:Bl w W)=>show W.cell? (ad X 3)=some (.map (some m)) by
    have:=(AQ W ae).row.cell 3;rw [AP,hm];exact this);have BK:=aa hm;clear AV J Ac Ad Aa I AX AB AA h AQ Ag aB Y Aq AP hm;obtain⟨BL,Ak⟩:=ai (encS d);rw [<- Ak] at Ap;rw [encS] at Ak;rw [<- Ak];clear Ak;go_enter func197,ntmps197;go_wp2_with (first|(go_at_call 70; refine Ao.o.mono ?_;rintro e w1 ⟨rfl,Al⟩;have Ah:=aa Al;obtain⟨bn,BN,Av,Az⟩:=Ap.o w1 Al;have ou:=BH.o w1 Al;have BB:=aa Av;have BC:=aa Az;clear Al Av Az bH c1 AU));refine bodyPost_end (aRx rfl _ _ _) rfl ?_;rw [BK.o] at BB BC;exact⟨rfl,by rw [AZ.o];exact BF.o w1 bn Ah.o BB.o BC.o⟩
end
section
open Go.Maps Go.RowKit Go.Shelf
def afC (d:pM):Prop:=d.kind=2->d.path.length<=1000000
theorem aHr {n a:ak} (h:(s.dG n a l).over.kind=2):s.over.kind=2:=by
 unfold aK.dG at h;repeat' split at h
 all_goals first|exact aaZ (s:={ s with buf:=[] }) h|exact h
theorem aHs {c:sK} (h:(s.wO v c).over.kind=2):s.over.kind=2\/(s.wO v c).over.path=(c.ws.drop 1).headD []:=by
 unfold aK.wO at h |-;simp only at h |-;repeat' split at h
 all_goals first|exact .inl (as4 h)|exact .inl (as5 (s:={ s with seen:=[] }) h)|exact .inl (aaZ h)|exact .inl (aHr h)|exact .inl h|(cases h;done)|skip
 all_goals (right;simp_all)
theorem aHt (h:afC s.over) (hl:∀ t∈s.todo,aiY t):afC (s.step v).over:=by
 by_cases hs:s.Still
 ·rw [aK.Ht hs];exact h
 ·cases I:s.todo with
  | nil=>rw [Ji hs I];exact fun e=>(by cases e)
  | cons t r =>
   rw [step_cons hs I];intro J;have AA:=(Rc hs).1;cases t with
   | cmd c =>
    rcases aHs (s:={ s with todo:=r }) J with M | M
    ·simp only at M;omega
    ·have hc:WY c:=hl (.cmd c) (by rw [I];simp);show (aK.wO v { s with todo:=r } c).over.path.length<=_;rw [M];cases Y:c.ws.drop 1 with
     | nil=>simp
     | cons x y=>exact hc.2.2.1 x (List.mem_of_mem_drop (by rw [Y];simp))
   | tK p th=>have:=akH (t:=.tK p th) rfl J;simp only at this;omega
   | line x w=>have:=akH (t:=.line x w) rfl J;simp only at this;omega
theorem atP:∀ (n:Nat) {s:aK},Inv U s->afC s.over->afC (s.run v n).over
 | 0,_,_,h=>h
 | n+1,_,I,h=>atP n (I.step v) (aHt h I.ord.lim.tasks)
theorem aHu (ay:Inv U s) (hf:s.over.kind≠2):(qF (xG v s)).path.length<=1000000\/(qF (xG v s)).kind≠1/\(qF (xG v s)).kind≠2:=by
 obtain⟨n,J⟩:=ay.stands v;rw [LF J,qF];split
 ·exact .inl (ay.run n).ord.lim.asks
 ·rename_i hw;by_cases I:(s.run v n).over.kind=2
  ·exact .inl (atP n ay (fun e=>absurd e hf) I)
  ·refine .inr ⟨?_,I⟩;rcases (ay.run n).ord.over with e | e | e | e
   ·rw [e];decide
   ·exact absurd e I
   ·rw [e];decide
   ·rw [e];decide
theorem aHv (h:uU P U b) (gD:b.over=false) {f:Nat} (hf:qa b.ps.todo < f+1) (hs:s=xG P.v b.ps) {b':dC} (ae:b'=dC.did P { b with ps:=s.next } (qF s)) :
  (b'.over=true->rH P (f+1) b=b')/\((qF s).kind=1->rH P (f+1) b=b')/\((qF s).kind≠1->b'.over=false->rH P (f+1) b=rH P f b'/\qa b'.ps.todo < f):=by
 subst hs ae;have M:∀ (n:Nat) (x:dC),x.over=true->rH P n x=x:=fun n x ah=>by
  cases n with
  | zero=>rw [rH]
  | succ n=>rw [rH,if_pos ah]
 rw [rH,if_neg (by rw [gD];decide)];simp only;refine⟨fun J=>?_,fun h1=>if_pos h1,fun h1 J=>?_⟩
 ·split
  ·rfl
  ·exact M _ _ J
 ·rw [if_neg h1];refine⟨rfl,?_⟩;obtain⟨m,hm⟩:=h.inv.stands P.v;obtain⟨f1,f2⟩:=dC.atd P { b with ps:=(xG P.v b.ps).next } (qF (xG P.v b.ps));rw [f1];show qa (aK.next _).todo < f;rw [akJ,LF hm];have I:(qF (xG P.v b.ps)).kind=2:=by
   by_cases I:(qF (xG P.v b.ps)).kind=2
   ·exact I
   ·have:(dC.did P { b with ps:=(xG P.v b.ps).next } (qF (xG P.v b.ps))).over=true:=by unfold dC.did;rw [if_neg h1,if_neg I];split <;> rfl
    rw [this] at J;cases J
  have Y:qa (b.ps.run P.v m).todo < qa b.ps.todo:=by
   refine (ae9 P.v m b.ps h.fresh).2 ?_;rw [LF hm,qF] at I;split at I
   ·cases I
   ·exact I
  omega
structure abk (P:nY) (ins asks:List ak):Prop where
 env:Gh P.v
 may:P.may=Vs ins asks P.outs
 sum:P.sum=gJ
 n:ins.length<=1000/\asks.length<=1000/\P.outs.length<=1000
 Cz:∀ p∈asks,p.length<=1100000
 AR:∀ p∈P.outs,p.length<=1100000
theorem uU.alo (h:uU P U b):b.wrote.length<=P.outs.length:=by
 have:=XA (akI h.AL) (m:=P.outs) fun x ah=>by
  obtain⟨y,hy,rfl⟩:=aQO.1 ah;exact (h.wrote y hy).2
 rwa [List.length_map] at this
theorem iF.tool {l:oh} {asks:List ak} (h:iF w l P ins asks b) (ae:@dz (vP l.m) l.L.B w w') (aJ:∃ q,@jL (vP l.m) w' l.L P.v q s):iF w' l P ins asks { b with ps:=s }/\kv l w w':=by
 have hc:∀ (k:Nat) (cs:Array Value) (t:TypeId) (aZ:Nat × Nat),w.heap[k]?=some (.cells cs t aZ)->t ≠ 295 -> t ≠ 1 -> w'.heap[k]?=w.heap[k]?:=fun k cs t aZ hk h1 I=>@dz.cells (vP l.m) _ _ _ ae k cs t aZ hk h1 I;have J:∀ {base aO n c:Nat} {t:TypeId} {A:aRV} {xs:aRW},Own w base t aO A n c xs->t ≠ 295 -> t ≠ 1 -> Own w' base t aO A n c xs:=fun ah h1 I=>ah.keep fun k hk _ _=>by
  obtain⟨_,_,cur,aZ,ae⟩:=ah.block k hk;exact hc k cur _ aZ ae h1 I
 have M:∀ {g:Nat} {x:List ak},sZ w l.B g x->sZ w' l.B g x:=fun {g x} hs=>by
  obtain⟨A,c,Y,AA⟩:=hs.row;exact⟨hs.far,A,c,(hc g _ _ _ Y dc dc).trans Y,J AA dc dc⟩
 have AB:w'.heap[l.m]?=w.heap[l.m]?:=by obtain⟨es,AQ,AP,_⟩:=h.map;exact @dz.maps (vP l.m) _ _ _ ae l.m _ AP rfl rfl
 exact⟨⟨(hc _ _ _ _ h.row dc dc).trans h.row,h.far,J h.outs dc dc,⟨M h.may.o,M h.may.i,M h.may.a⟩,h.map.keep AB,J h.reads dc dc,aJ⟩,
  ⟨@dz.os (vP l.m) _ _ _ ae,@dz.tape (vP l.m) _ _ _ ae,@dz.output (vP l.m) _ _ _ ae,@dz.size (vP l.m) _ _ _ ae,fun k hk=>@dz.low (vP l.m) _ _ _ ae k (by have:=h.far.2.2;omega),fun k cs t aZ hk h1 I _ _=>hc k cs t aZ hk h1 I⟩⟩
theorem aHw {l:oh} {asks:List ak} (h:iF w l P ins asks b) (ay:Inv U b.ps) (bg:Gh P.v) (hw:Home w l.L) (hs:s=xG P.v b.ps) :
  CR 196 #[pp l.L.R 0] w (ae3 (qF s)) fun w'=>iF w' l P ins asks { b with ps:=s.next }/\kv l w w':=by
 obtain⟨q,J⟩:=h.run;obtain⟨n,I⟩:=ay.stands P.v;rw [hs,LF I];have M:Calls prog 196 #[pp l.L.R 0] w (@ae4 (vP l.m) w l.L P.v (b.ps.run P.v n)):=by letI:=vP l.m;exact aF2 w l.L P.v bg q b.ps J hw (fun k=>(ay.run k).sound) n I
 exact M.mono fun e w' ⟨he,Y,ae⟩=>⟨he,h.tool ae Y⟩
theorem aHx {l:oh} {asks:List ak} (h:iF w l P ins asks b) (ay:Inv U b.ps) (bg:Gh P.v) (hw:Home w l.L) (k:dB) (hk:k.path.length<=1000000000/\k.data.length<=1000000000) (sV:b.ps.waits=true) :
  CR 149 #[pp l.L.R 0,xE k] w (.int .i64 (b.ps.gave k).1) fun w'=>iF w' l P ins asks { b with ps:=(b.ps.gave k).2 }/\kv l w w':=by
 obtain⟨q,I⟩:=h.run;have J:Calls prog 149 #[pp l.L.R 0,xE k] w (@XD (vP l.m) w l.L P.v b.ps k):=by letI:=vP l.m;exact aF4 w l.L P.v bg q b.ps I hw (fun k=>(ay.run k).sound) 0 (.inr sV) k hk fun _=>(ay.ord.waits sV).2.1
 exact J.mono fun e w' ⟨he,M,ae⟩=>⟨he,h.tool ae M⟩
structure uW (w:aRU) (B:Nat):Prop where
 vL:qQ w
 EW:0 < B
 Gf:Lib.TabBelow prog B w "internal/strconv.uint64pow10" .u64 Lib.pow10Tab
theorem qQ.low (h:qQ w) (ae:Below B w w') (av:0 < B):qQ w':=by obtain⟨m,hm⟩:=h;exact⟨m,(ae.cell (p:=ad 0 0) av).trans hm⟩
theorem uW.below (h:uW w B) (ae:Below B w w'):uW w' B:=⟨h.vL.low ae h.EW,h.EW,h.Gf.on ae⟩
theorem uW.up (h:uW w B) (bf:B<=B'):uW w B':=⟨h.vL,aQJ h.EW bf,fun w' ae=>h.Gf w' (ae.mono bf)⟩
theorem uW.home (h:uW w B) (bf:B<=L.B) (hs:L.B<=w.heap.size):Home w L:=⟨h.vL,(h.up bf).EW,hs,(h.up bf).Gf⟩
structure abl (dI wr:aRU) (l:oh) (P:nY) (ins asks:List ak) (U:List dB) (g0:Nat) (R b:dC) (f:Nat):Prop where
 at_:iF wr l P ins asks b
 inv:uU P U b
 but:kv l dI wr
 box:aM wr g0 [pp l.X 0] 182
 goal:(b.over=true/\R=b)\/(b.over=false/\R=rH P f b/\qa b.ps.todo < f)
 home:uW wr l.B
theorem aM.LY {l:oh} (h:aM w g V t) (ae:kv l w w') (h1:t ≠ 295) (ag:t ≠ 1) (au:g≠l.X) (aN:some g≠bM l.bV):aM w' g V t:=(ae.cells _ _ _ _ h h1 ag au aN).trans h
theorem iF.afE {l:oh} {asks:List ak} (h:iF w l P ins asks b) (ax:aM w g V t) (az:t ≠ 135):some g≠bM l.bV:=fun e=>h.reads.ne ax (fun e=>az e.symm) e.symm
theorem iF.atQ {l:oh} {asks:List ak} (h:iF w l P ins asks b) (ax:aM w g V t) (az:t ≠ 253):g≠l.X:=by
 rintro rfl;have:=ax.symm.trans h.row;injection this with this
 injection this with _ this
 exact az this
theorem abl.next {dI wr:aRU} {l:oh} {asks:List ak} {g0:Nat} {R b':dC} {f:Nat} (h:abl dI wr l P ins asks U g0 R b f) (ng:iF w' l P ins asks b') (ay:uU P U b') (ae:kv l wr w') (av:(b'.over=true/\R=b')\/(b'.over=false/\R=rH P (f - 1) b'/\qa b'.ps.todo < f - 1)):abl dI w' l P ins asks U g0 R b' (f - 1) :=
 ⟨ng,ay,h.but.trans ae rfl rfl fun _ _ h=>h,h.box.LY ae dc dc (h.at_.atQ h.box dc) (h.at_.afE h.box dc),av,h.home.below ae.below⟩
theorem atS {l:oh} {asks:List ak} (hk:abk P ins asks) (h:iF w l P ins asks b) (ay:uU P U b) (dR:uW w l.B) (n:Nat) (aB:qa b.ps.todo < n) :
  CR 148 #[pp l.X 0] w (.tuple #[]) fun w'=>iF w' l P ins asks (rH P n b)/\kv l w w':=by
 obtain⟨aH,Be⟩:=ai (w.alloc (.cells #[pp l.X 0] 182));have Ah:=gQ Be;have Dp:=kY Be;obtain⟨R,aL⟩:=ai (rH P n b);have Dq:∀ (k:Nat) (x:dC),x.over=true->rH P k x=x:=fun k x ah=>by
  cases k with
  | zero=>rw [rH]
  | succ k=>rw [rH,if_pos ah]
 have I:abl w aH l P ins asks U w.heap.size R b n:=⟨h.below Ah,ay,kv.gN Ah h.size,Dp,by
  cases Ad:b.over with
  | true=>exact .inl ⟨rfl,by rw [aL];exact Dq n b Ad⟩
  | false=>exact .inr ⟨rfl,aL,aB⟩,dR.below (Ah.mono h.size)⟩;rw [<- aL];obtain⟨X,aX,g0,Ca⟩:=nq2 l.X w.heap.size;rw [<- Ca] at I;rw [<- aX] at Be |-;obtain⟨Cc,Aq,AV,Ce⟩:=hq4 I hk aX Ca;have Bf:=Be.symm;clear I hk aX Ca Be aL Dq Dp Ah h ay dR aB;go_enter func148,ntmps148;go_wp2_with fail;rw [<- Ce.o];clear Bf;go_loopg [2] n (fun gk FI wr=>∃ b',abl w wr l P ins asks U g0 R b' gk);case atStart=>exact⟨b,Cc.o⟩
 case round =>
  obtain⟨b',I⟩:=hrel;have Cf:=I.box.cell 0;have Bg:=I.at_.row.cell 6;simp only [pz,List.getElem?_cons_succ,List.getElem?_cons_zero] at Cf Bg;rw [<- AV.o] at Cf Bg;cases Ad:b'.over with
  | true =>
   rw [Ad] at Bg;have El:=aa (show iF wr l P ins asks R/\kv l w wr from ⟨(by
    rcases I.goal with ⟨_,e⟩ | ⟨e,_⟩
    ·rw [e];exact I.at_
    ·rw [Ad] at e;cases e),I.but⟩);clear I Ad;go_wp2_with fail;refine bodyPost_end (aRx rfl _ _ _) rfl ?_;exact⟨rfl,El.o⟩
  | false =>
   rw [Ad] at Bg;have CF:R=rH P gk b'/\qa b'.ps.todo < gk:=by
    rcases I.goal with ah | ah
    ·rw [Ad] at ah;cases ah.1
    ·exact ah.2
   obtain⟨f,rfl⟩:∃ f,gk=f+1:=⟨gk - 1,om⟩;obtain⟨s,hs⟩:=ai (xG P.v b'.ps);obtain⟨d,aS⟩:=ai (qF s);obtain⟨J,Bh⟩:∃ x:dC,x={ b' with ps:=s.next }:=⟨_,rfl⟩;obtain⟨AP,CG⟩:∃ x:dC,x=dC.did P J d:=⟨_,rfl⟩;have hid:=I.inv.did Ad;rw [<- hs,<- aS,<- Bh,<- CG] at hid;obtain⟨g1,g2,g3⟩:=aHv I.inv Ad CF.2 hs (b':=AP) (by rw [CG,Bh,aS]);rw [<- CF.1,<- aS] at g2;rw [<- CF.1] at g1 g3;rw [<- aS] at g3;have Cg:=aHu (v:=P.v) I.inv.inv I.inv.fresh;rw [<- hs,<- aS] at Cg;have BN:=aHw I.at_ I.inv.inv Aq.o.env (I.home.home I.at_.far.2.2 (aQG (by obtain⟨q,Em⟩:=I.at_.run;letI:=vP l.m;exact jL.size Em) (aQF _))) hs;rw [<- aS,<- Bh] at BN;have Dr:J.wrote.length < maxLen:=by have h1:=I.inv.alo;have ag:=Aq.o.n.2.2;rw [Bh];show b'.wrote.length < maxLen;unfold maxLen;omega
   have Dt:d.kind≠1\/AP.over=true->(AP.over=true/\R=AP)\/(AP.over=false/\R=rH P (f+1 - 1) AP/\qa AP.ps.todo < f+1 - 1):=fun ah=>by
    rw [Nat.add_sub_cancel];cases Cj:AP.over with
    | true=>exact .inl ⟨rfl,g1 Cj⟩
    | false=>exact .inr ⟨rfl,g3 (ah.resolve_right (by rw [Cj];decide)) Cj⟩
   have BO:=aa (fun (BP:aRU) (CJ:iF BP l P ins asks AP) (ae:kv l wr BP) (ah:d.kind≠1\/AP.over=true)=>I.next CJ hid ae (Dt ah));have Du:d.kind=1->R=AP:=g2;have Dv:=I.but;have Dw:=fun (BP:aRU) (ae:kv l wr BP)=>(I.box.LY ae dc dc (I.at_.atQ I.box dc) (I.at_.afE I.box dc)).cell 0;have Dz:=fun (BP:aRU) (ae:kv l wr BP)=>I.home.below ae.below;have CK:=I.at_.row.cell 0;simp only [pz,List.getElem?_cons_succ,List.getElem?_cons_zero] at CK;rw [<- AV.o] at CK;obtain⟨kV,E5⟩:=ai l.L.R;rw [<- E5] at CK BN;have E8:ae3 d = .agg #[.int .i64 d.kind,.string (aA d.path),.string (aA d.data),.int .i64 d.why]:=rfl;rw [E8] at BN;obtain⟨AX,Ck⟩:=ai (d.kind:Int);obtain⟨iJ,Cm⟩:∃ k:Int,k=d.why:=⟨_,rfl⟩;obtain⟨Ae,Co,E9,Cr⟩:=nq2 (aA d.path) (aA d.data);rw [<- Ck,<- Cm,<- Co,<- Cr] at BN;obtain⟨EA,Av,Af,Bi,Az,Bj,EC,EF,EG,EH,Ct,EJ⟩:=hq12 BN CG Ck Cm Co Cr Du Dv Dw Dz Cg Dr;clear CF g1 g2 g3 BN Dt Du Dv Dw Dz E8 Cg hid Dr;clear I;clear hs aS Bh;clear CG Ck Cm Co Cr E5 Ad;have Cu:=aa (fun (aD:aRU) (AQ:iF aD l P ins asks J) (ae:kv l wr aD) (W:aRU) (Bn:Bl aD W)=>show W.cell? (ad g0 0)=some (pp X 0)/\W.cell? (ad X 1)=some (.slice l.A P.outs.length l.c)/\W.cell? (ad X 2)=some l.may.fn from by
    have En:kv l wr W:=ae.trans (kv.gN Bn AQ.size) rfl rfl fun _ _ h=>h;rw [AV.o];exact⟨EG.o W En,(AQ.below Bn).row.cell 1,(AQ.below Bn).row.cell 2⟩);have BG:=aa (fun (aD:aRU) (ae:kv l wr aD) (AQ:iF aD l P ins asks J) (W:aRU) (Bn:Bl aD W)=>show kv l wr W from ae.trans (kv.gN Bn AQ.size) rfl rfl fun _ _ h=>h);have BR:=aa (fun (W:aRU) (AQ:iF W l P ins asks J) (ag:d.kind=2)=>aHp AQ d.path d.data (by
    rcases Ct.o with h | h
    ·omega
    ·exact absurd ag h.2) Aq.o.n.2.2 EJ.o);have BS:=aa (fun (W:aRU) (x:dC) (AQ:iF W l P ins asks x) (y:Nat)=>alm AQ y);rw [<- AV.o] at BS BR;rw [<- Az.o,<- Bj.o] at BR;have BU:=aa (fun (W:aRU) (AQ:iF W l P ins asks J) (ae:kv l wr W) (h1:d.kind=1)=>show Calls prog 193 #[.string Ae,pp l.may.o 0,pp l.may.i 0,pp l.may.a 0] W fun e w'=>e = .returned (.bool (P.may d.path))/\Bl W w' by
    have:=aG2 W l.B l.may ins asks P.outs AQ.may Aq.o.n Aq.o.Cz d.path (by
     rcases Ct.o with h | h
     ·omega
     ·exact absurd h1 h.1) (EH.o W ae).vL;rw [<- Az.o,<- Aq.o.may] at this;exact this);have BX:=aa (fun (W:aRU) (h:iF W l P ins asks AP) (ae:kv l wr W) (h1:d.kind=1)=>show iF W l P ins asks R/\kv l w W by
    rw [EC.o h1];exact⟨h,EF.o.trans ae rfl rfl fun _ _ h=>h⟩);clear EF EC EH Ct EJ EG;go_upto_region 5 with ((with_reducible refine GY EA.o ?_);intro aD AZ Ag;obtain⟨cO,CL⟩:=ai (aD.alloc (.cells #[.int .i64 AX,.string Ae,.string E9,.int .i64 iJ] 293));have CQ:Bl aD cO:=(by rw [CL];exact iD);have BZ:aM cO aD.heap.size [.int .i64 AX,.string Ae,.string E9,.int .i64 iJ] 293:=(by rw [CL];exact aM.new aD _ _);have BB:=aa CQ;have EK:=aa BZ;have AU:=aa (AZ.o.below CQ);obtain⟨AB,Cv,_⟩:=Cu.o aD AZ.o Ag.o cO CQ;have d0:=BZ.cell 0;have d1:=BZ.cell 1;have d2:=BZ.cell 2;have d3:=BZ.cell 3;have Bf:=CL.symm;clear CQ BZ CL Cf Bg CK)
   by_cases BH:AX=1
   ·have Eo:(AX == 1)=true:=by rw [BH];rfl
    have D8:=aa (show d.kind=1 by have:=Af.o;omega);clear BH;obtain⟨m,DF⟩:=ai (P.may d.path);have Aa:=aa (show AP=if m=true then { J with asks:=d.path } else J.fail 13 by rw [Av.o,dC.did,if_pos D8.o,DF]);rw [<- DF] at BU;clear DF BR Af Bi Bj Av;go_wp2_with fail;have Bb:=aa (fun W (ae:Bl cO W)=>show W.cell? (ad g0 0)=some (pp X 0)/\W.cell? (ad X 2)=some (.func (.func 193) #[] #[pp l.may.o 0,pp l.may.i 0,pp l.may.a 0])/\W.cell? (ad aD.heap.size 1)=some (.string Ae) by
     have h1:=Cu.o aD AZ.o Ag.o W (aU BB.o ae);exact⟨h1.1,h1.2.2,(EK.o.all ae).cell 1⟩);have DI:=aa (fun W (ae:Bl cO W)=>BU.o W (AU.o.below ae) (BG.o aD Ag.o AZ.o W (aU BB.o ae)) D8.o);have DJ:=aa (fun Y (ae:Bl cO Y)=>BG.o aD Ag.o AZ.o Y (aU BB.o ae));clear BB EK AB Cv d0 d1 d2 d3 Bf Cu BG EA BU;obtain⟨g4,EL⟩:=ai aD.heap.size;rw [<- EL] at Bb |-;clear EL;have kR:=Bb;refine nz nH 7 [some (pp X 0),some (pp X 0),some (pp X 2),some (.func (.func 193) #[] #[pp l.may.o 0,pp l.may.i 0,pp l.may.a 0]),some (pp g4 1),some (.string Ae),some (.bool m)] (fun _ _ _=>False) (Bl cO) Bl ((Below.refl _ cO).drew) (fun j v w1 af ae h=>h.elim) ?_ (jI:=?_)
    ·intro u af aj Er;clear Er;have Bp:=aa (AU.o.below aj);have DN:=aa (DJ.o af aj);obtain⟨AB,BC,Es⟩:=Bb.o af aj;clear aj;cases m with
     | true =>
      have AA:=Aa.o;rw [if_pos rfl] at AA;subst AA;have DR:=Bp.o.row;have Bc:(pz l P J).set 5 (.string Ae)=pz l P { J with asks:=d.path }:=by rw [Az.o];rfl
      have DT:=fun (W:aRU) (h1:aM W l.X (pz l P { J with asks:=d.path }) 253) (ag:fV l.X af W)=>BX.o W (Bp.o.dG h1 ag rfl rfl rfl) (DN.o.trans (kv.um ag Bp.o.far.1) rfl rfl fun _ _ h=>h) D8.o;obtain⟨CS,Ak⟩:=ai (pz l P J);obtain⟨EM,BD⟩:∃ V,V=pz l P { J with asks:=d.path }:=⟨_,rfl⟩;have CU:5+1<=CS.length:=by rw [Ak];show 6<=8;omega
      have Ah:Sz 9 1:=kr;have Ev:(Value.string Ae).cells.toList=[.string Ae]:=rfl;have CV:(Value.string Ae).oneCell'=true:=rfl;rw [<- Ak,<- BD] at Bc;rw [<- Ak,<- AV.o] at DR;rw [<- BD,<- AV.o] at DT;have Ew:=aa DR;have Ex:=aa DT;clear DR DT Ak BD Bp DN BO BX BS Bb DI DJ AU AZ Ag Aa Az Cc Ce;go_wp2_with (first|((with_reducible refine A8 5 (.string Ae) Ew.o Ah CU CV Bc ?_);refine zN ?_;intro Y DU Bq));refine qB ?_;exact⟨rfl,Ex.o Y DU.o Bq.o⟩
     | false =>
      have AA:=Aa.o;rw [if_neg dc] at AA;subst AA;clear BX Bb DI DJ AU AZ Ag Aa Az Cc Ce;go_wp2_with (first|(go_at_call 150; refine GY (BS.o af J Bp.o 13) ?_;intro bn Ac Db));go_roundg f;case rel=>exact⟨_,BO.o bn Ac.o (DN.o.trans Db.o rfl rfl fun _ _ h=>h) (.inr rfl)⟩
      case measure=>omega
    ·repeat' (first | exact trivial | apply And.intro)
     all_goals try exact rx
     all_goals intro eQ u af aj aL bz K aR
     all_goals try simp [iX,Region.binds] at bz
     all_goals refine mg rfl ?_
     all_goals obtain⟨AB,BC,Es⟩:=Bb.o af aj
     ·go_simp;refine (DI.o af aj).mono ?_;rintro e bn ⟨rfl,EN⟩;exact aR _ _ rfl (aU aj EN) EN
   ·have Eo:(AX == 1)=false:=by simpa using BH
    have BF:d.kind≠1:=fun e=>BH (by rw [Af.o,e];rfl);by_cases BC:AX=2
    ·have F3:(AX == 2)=true:=by rw [BC];rfl
     have EO:=aa (show d.kind=2 by have:=Af.o;omega);have AA:=Av.o;rw [dC.did,if_neg BF,if_pos EO.o] at AA;have Aa:=aa (show AP=dC.put P J d.path d.data from AA);have Br:=aa BF;clear BH BC AA BF Af Bi Av BU BX BS Az Bj;go_wp2_with (first|(go_at_call 197; refine GY (BR.o cO AU.o EO.o) ?_;intro bn Ac Db));go_roundg f;case rel=>exact⟨_,BO.o bn (by rw [Aa.o];exact Ac.o) ((BG.o aD Ag.o AZ.o cO BB.o).trans Db.o rfl rfl fun _ _ h=>h) (.inl Br.o)⟩
     case measure=>omega
    ·have F3:(AX == 2)=false:=by simpa using BC
     have CW:d.kind≠2:=fun e=>BC (by rw [Af.o,e];rfl);have Br:=aa BF;by_cases Bt:AX=3
     ·have F4:(AX == 3)=true:=by rw [Bt];rfl
      have CJ:d.kind=3:=by have:=Af.o;omega
      obtain⟨a,AQ⟩:=ai (P.outs.all fun p=>(getM J.wrote p).isSome);obtain⟨Al,BK⟩:∃ x:dC,x={ J with over:=true }:=⟨_,rfl⟩;have AA:=Av.o;rw [dC.did,if_neg BF,if_neg CW,if_pos CJ,<- AQ] at AA;have Aa:=aa (show AP=if a=true then Al else Al.fail 14 by rw [AA,BK];cases a <;> rfl);have ES:AP.over=true:=by rw [AA]
      have FJ:=aa ES;have ET:(P.outs.any fun p=>!(getM J.wrote p).isSome) = !a:=by rw [AQ,List.not_all_eq_any_not]
      have Bc:(pz l P J).set 6 (.bool true)=pz l P Al:=by rw [BK];rfl
      have CY:=aa (fun (W Y:aRU) (ah:iF W l P ins asks J) (h1:aM Y l.X (pz l P Al) 253) (ag:fV l.X W Y)=>show iF Y l P ins asks Al from ah.dG h1 ag (by rw [BK]) (by rw [BK]) (by rw [BK]));have Dc:=aa (fun (W:aRU) (ah:iF W l P ins asks Al) (av:W.cell? (ad g0 0)=some (pp l.X 0)) (F5:∀ aY,Bl W aY->aY.cell? (ad g0 0)=some (pp l.X 0)) =>
       show Calls prog 111 #[.slice l.A P.outs.length l.c,.func (.func 198) #[] #[pp g0 0]] W fun e w'=>e = .returned (.bool (!a))/\Bl W w' by
       rw [<- ET];have F6:Al.wrote=J.wrote:=by rw [BK]
       exact WM W l.A l.c P.outs ah.outs.rd Aq.o.n.2.2 198 #[pp g0 0] (enters_of func198 kr rfl) (fun p=>!(getM J.wrote p).isSome) fun aY EU p aI=>by
        have:=aHn (ah.below EU) g0 (F5 aY EU) p (Aq.o.AR p aI);rw [F6] at this;exact this);rw [<- AV.o] at CY Dc;obtain⟨CS,Ak,EM,BD⟩:=nq2 (pz l P J) (pz l P Al);have CU:6+1<=CS.length:=by rw [Ak];show 7<=8;omega
      have Ah:Sz 4 1:=kr;have Ev:(Value.bool true).cells.toList=[.bool true]:=rfl;have CV:(Value.bool true).oneCell'=true:=rfl;rw [<- Ak,<- BD] at Bc;rw [<- BD] at CY;have EX:=aa (fun (W:aRU) (ah:iF W l P ins asks J)=>show aM W X CS 253 by rw [Ak,AV.o];exact ah.row);have EY:=aa (fun (cO Y:aRU) (ah:iF cO l P ins asks J) (AB:cO.cell? (ad g0 0)=some (pp X 0)) (h1:aM Y X EM 253) (De:fV X cO Y)=>show Y.cell? (ad g0 0)=some (pp X 0)/\Y.cell? (ad X 1)=some (.slice l.A P.outs.length l.c) from ⟨by
       have FB:g0≠X:=by
        rintro rfl;have Ea:=ah.row.cell 0;rw [<- AV.o] at Ea;rw [Ea] at AB;have FC:l.L.R=g0:=by injection AB with AB;injection AB with AB;injection AB with AB;injection AB with AB
        obtain⟨q,A,c,us,FF⟩:=ah.run;have Ec:=@nV.run (vP l.m) _ _ _ _ _ _ _ _ FF;have BL:=ah.row;rw [<- AV.o] at BL;rw [eT,FC] at Ec;rw [aM,Ec] at BL;injection BL with BL
        injection BL with _ BL
        exact absurd BL dc
       have:=De.2.2.2.2 g0 FB;unfold World.cell? at AB |-;rw [this];exact AB,by rw [h1.cell 1,BD];rfl⟩);have Ee:=aa (fun (W Y:aRU) (ah:iF W l P ins asks J) (De:fV X W Y)=>show kv l W Y from kv.um (by rw [<- AV.o];exact De) ah.far.1);clear BH BC Bt AA BF CW CJ AQ BK ES ET Ak BD Af Bi Av BU BX Az Bj BR;cases a with
      | true =>
       have AA:=Aa.o;rw [if_pos rfl] at AA;subst AA;go_wp2_with (first|((with_reducible refine A8 6 (.bool true) (EX.o cO AU.o) Ah CU CV Bc ?_);intro Y Am Ao;have DU:=aa Am;have Bq:=aa Ao;have Ac:=aa (CY.o cO Y AU.o Am Ao);obtain⟨CZ,Ef⟩:=EY.o cO Y AU.o AB Am Ao;have Ap:=aa CZ;clear Am Ao AB Cv d0 d1 d2 d3 Bf)|(go_at_call 111; refine jr (Dc.o Y Ac.o Ap.o (fun aY ag=>(ag.cell (p:=ad g0 0) (aQR _ _ Ap.o)).trans Ap.o)) ?_;intro Dg C8));go_roundg f;case rel=>exact⟨_,BO.o Dg (Ac.o.below C8.o) ((BG.o aD Ag.o AZ.o cO BB.o).trans ((Ee.o cO Y AU.o Bq.o).trans (kv.gN C8.o Ac.o.size) rfl rfl fun _ _ h=>h) rfl rfl fun _ _ h=>h) (.inl Br.o)⟩
       case measure=>omega
      | false =>
       have AA:=Aa.o;rw [if_neg dc] at AA;subst AA;go_wp2_with (first|((with_reducible refine A8 6 (.bool true) (EX.o cO AU.o) Ah CU CV Bc ?_);intro Y Am Ao;have DU:=aa Am;have Bq:=aa Ao;have Ac:=aa (CY.o cO Y AU.o Am Ao);obtain⟨CZ,Ef⟩:=EY.o cO Y AU.o AB Am Ao;have Ap:=aa CZ;clear Am Ao AB Cv d0 d1 d2 d3 Bf)|(go_at_call 111; refine (Dc.o Y Ac.o Ap.o (fun aY ag=>(ag.cell (p:=ad g0 0) (aQR _ _ Ap.o)).trans Ap.o)).mono ?_;rintro e Dg ⟨rfl,Dh⟩;have C8:=aa Dh;have FK:=(Dh.cell (p:=ad g0 0) (aQR _ _ Ap.o)).trans Ap.o;clear Dh CZ Ef)|(go_at_call 150; refine GY (BS.o Dg Al (Ac.o.below C8.o) 14) ?_;intro Di Dj Dk));go_roundg f;case rel=>exact⟨_,BO.o Di Dj.o ((BG.o aD Ag.o AZ.o cO BB.o).trans (((Ee.o cO Y AU.o Bq.o).trans (kv.gN C8.o Ac.o.size) rfl rfl fun _ _ h=>h).trans Dk.o rfl rfl fun _ _ h=>h) rfl rfl fun _ _ h=>h) (.inl Br.o)⟩
       case measure=>omega
     ·have F4:(AX == 3)=false:=by simpa using Bt
      have Ei:d.kind≠3:=fun e=>Bt (by rw [Af.o,e];rfl);have AA:=Av.o;rw [dC.did,if_neg BF,if_neg CW,if_neg Ei] at AA;have Aa:=aa AA;have Ej:=aa (fun (W:aRU) (h:iF W l P ins asks J)=>BS.o W J h d.why);rw [<- Bi.o] at Ej;clear BH BC Bt AA BF CW Ei Af Bi Av BU BX Az Bj BR;go_wp2_with (first|(go_at_call 150; refine GY (Ej.o cO AU.o) ?_;intro Di Dj Dk));go_roundg f;case rel=>exact⟨_,BO.o Di (by rw [Aa.o];exact Dj.o) ((BG.o aD Ag.o AZ.o cO BB.o).trans Dk.o rfl rfl fun _ _ h=>h) (.inl Br.o)⟩
      case measure=>omega
def afI (text:ak):dC:=⟨aK.start (qG eB (jQ text)),[],[],[],false,0⟩
theorem aHz (hc:(pW eB text).1=0) (az:text.length<=100000) (iE:CP U<=20000000):uU P U (afI text)/\qa (afI text).ps.todo < 402:=by
 have hl:(qG eB (jQ text)).length<=400:=by
  have h1:=ZV eB (jQ text);unfold pW at hc;split at hc
  ·cases hc
  ·omega
 have hs:=akx (asI az) hl iE;refine⟨⟨hs,fun e=>(by cases e),⟨fun e=>(by cases e),fun e=>(by cases e)⟩,rfl,fun x ah=>(by cases ah),fun _=>rfl,fun e=>(by cases e),fun r I=>(by cases I),by show qa (aK.start _).todo<=401;rw [afc];omega,List.Pairwise.nil⟩,?_⟩;show qa (aK.start _).todo < 402;rw [afc];omega
theorem aHA (p:aRV) (A:aRV) (n c:Nat) (f:Nat) (iI:Array Value) (m:Nat):prog.built 253 [(0,.pointer p),(1,.slice A n c),(2,.func (.func f) #[] iI),(3,.map (some m))]=some #[.pointer p,.slice A n c,.func (.func f) #[] iI,.map (some m),.slice none 0 0,.string ⟨#[]⟩,.bool false,.int .i64 0]:=kr
theorem sZ.mono (h:sZ w B g l) (bf:B'<=B):sZ w B' g l:=by obtain⟨A,c,h1,I⟩:=h.row;exact⟨aQG bf h.far,A,c,h1,I.mono bf⟩
theorem LU.mono {l:LQ} {asks:List ak} (h:LU w B l ins asks outs) (bf:B'<=B):LU w B' l ins asks outs:=⟨h.o.mono bf,h.i.mono bf,h.a.mono bf⟩
theorem afJ {P:Program} {ops:Array Oper} {rest:List Oper} {a:Act} {Q:aRX} {dst:Option Tmp} {ic:TypeId} {pos:String} {after:Array Edge} {t0:TypeId} {pq l7 uo qE:Operand} {i0 i1 i2 i3:Nat} (v0 v1 v2 v3:Value) (cells:Array Value) (hf:P.built t0 [(i0,v0),(i1,v1),(i2,v2),(i3,v3)]=some cells) (ah:a.eval pq=v0/\a.eval l7=v1/\a.eval uo=v2/\a.eval qE=v3)
  (h:wpList P ops Q rest (a.put dst (.agg cells)) W):wpList P ops Q (⟨dst,.build t0 #[(i0,pq),(i1,l7),(i2,uo),(i3,qE)],ic,pos,after,none⟩ :: rest) a W :=
 Wq cells (by simp [ah,hf]) h
def Vx (B F:Nat) (ins asks outs:List ak) (j:Nat) (u:Value) (w:aRU):Prop :=
 (j=3->∃ A c,u = .slice A outs.length c/\Own w B 9 1 A outs.length c (cB outs))/\(j=5->∃ l:LQ,u=l.fn/\LU w B l ins asks outs) /\
 (j=6->∃ m,u = .map (some m)/\eU w prog 9 encS m 0 ([]:fA ak)/\F<=m)
theorem Vx.keep {F:Nat} {asks:List ak} (h:Vx B F ins asks outs j u w) (ae:Bl w w'):Vx B F ins asks outs j u w' :=
 ⟨fun e=>(by obtain⟨A,c,J,I⟩:=h.1 e;exact⟨A,c,J,I.below ae (aQF _)⟩),fun e=>(by obtain⟨l,J,I⟩:=h.2.1 e;exact⟨l,J,I.below ae⟩),fun e=>(by obtain⟨m,J,I,M⟩:=h.2.2 e;exact⟨m,J,I.below ae I.lt,M⟩)⟩
theorem aHB {gu:aRU} {asks:List ak} {l:LQ} (ax:@jL Cb W L P.v none (aK.start (qG eB (jQ text)))) (gY:B<=L.B) (aG:Own W B 9 1 A P.outs.length c (cB P.outs)) (hl:LU W B l ins asks P.outs) (hm:eU W prog 9 encS m 0 ([]:fA ak)) (bJ:L.m≠m) (bf:B<=m)
  (bC:gu=W.alloc (.cells #[pp L.R 0,.slice A P.outs.length c,.func (.func 193) #[] #[pp l.o 0,pp l.i 0,pp l.a 0],.map (some m),.slice none 0 0,.string ⟨#[]⟩,.bool false,.int .i64 0] 253)):iF gu ⟨B,W.heap.size,L,A,c,l,m,none,0⟩ P ins asks (afI text):=by
 have ae:=gQ bC;have I:=hm.lt;refine⟨?_,⟨by show B<=W.heap.size;omega,bf,gY⟩,aG.below ae (aQF _),hl.below ae,hm.below ae I,Own.nil _ _ _ _,none,?_⟩
 ·rw [bC];exact aM.new W _ _
 ·letI:=vP m;exact jL.below (jL.guard ax I bJ) ae
def X4 (B:Nat) (v:Env) (text:ak) (j:Nat) (u:Value) (w:aRU):Prop :=
 (j=4->∃ A c,u = .slice A v.env.length c/\Own w B 194 2 A v.env.length c (BQ v.env)) /\
 (j=5\/j=6->∃ L:iV,u = .tuple #[pp L.R 0,.int .i64 0]/\B<=L.B/\@jL Cb w L v none (aK.start (qG eB (jQ text)))) /\
 (j=7\/j=9->∃ L:iV,u = .pointer (some ⟨L.R,0,none⟩)/\B<=L.B/\@jL Cb w L v none (aK.start (qG eB (jQ text))))
theorem X4.keep (h:X4 B v text j u w) (ae:Bl w w'):X4 B v text j u w':=by letI:=Cb;exact⟨fun e=>(by obtain⟨A,c,I,J⟩:=h.1 e;exact⟨A,c,I,J.below ae (aQF _)⟩),fun e=>(by obtain⟨L,I,J,M⟩:=h.2.1 e;exact⟨L,I,J,jL.below M ae⟩),fun e=>(by obtain⟨L,I,J,M⟩:=h.2.2 e;exact⟨L,I,J,jL.below M ae⟩)⟩
def at6 (w:aRU) (P:nY) (ins asks:List ak) (text:ak) (e:Ending) (w':aRU):Prop :=
 ((pW eB text).1≠0/\e = .returned (.tuple #[.pointer none,.int .i64 (pW eB text).1])/\Bl w w') \/
 ((pW eB text).1=0/\∃ l:oh,l.B=w.heap.size/\e = .returned (.tuple #[pp l.X 0,.int .i64 0])/\iF w' l P ins asks (dC.start P text)/\Bl w w')
theorem at7 (w:aRU) (x:kH) (hA:KV w x.1 x.2) (P:nY) (bO:P.v.env=x.2.env/\P.outs=x.2.outs) (hk:abk P x.2.ins x.2.asks) (U:List dB) (iE:CP U<=20000000) (az:x.2.tool.length<=100000) (dR:uW w w.heap.size) :
  Calls prog 93 #[.agg (vH x).toArray] w (at6 w P x.2.ins x.2.asks x.2.tool):=by
 obtain⟨L,a⟩:=x;simp only at hA bO hk az |-;obtain⟨aH,AP⟩:=ai (w.alloc (.cells (nT L a) 45));have AV:=gQ AP;have Al:aM aH w.heap.size (vH (L,a)) 45:=by rw [AP];exact aM.new w (vH (L,a)) _
 have hc:=fun W (ae:Bl aH W)=>show W.cell? (ad w.heap.size 2)=some (.string (aA a.tool))/\W.cell? (ad w.heap.size 3)=some (.slice L.E a.env.length L.KU)/\W.cell? (ad w.heap.size 6)=some (.slice L.O a.outs.length L.wN) from
  ⟨(Al.all ae).cell 2,(Al.all ae).cell 3,(Al.all ae).cell 6⟩
 have hle:=hk.env.len;rw [bO.1] at hle;have c1:=fun W (ae:Bl aH W)=>atH W L.E L.KU a.env (hA.env.gz (aU AV ae)) hle;have c2:=fun W (ae:Bl aH W) (A:aRV) (c:Nat) (ax:Rd W 2 A a.env.length (BQ a.env))=>by
  letI:=Cb;have:=aHk W P.v hk.env a.tool om ((dR.below (aU AV ae)).vL) (fun k (e:False)=>e.elim) A c (by rw [bO.1];exact ax);rw [bO.1] at this;exact this
 have Av:(vH (L,a)).toArray=nT L a:=rfl;have AX:=fun W (ae:Bl aH W)=>aG3 W (L,a) (hA.below (aU AV ae)) (by have:=hk.n;rw [bO.2] at this;exact this);have wN:=fun W (ae:Bl aH W)=>aa9 W L.O a.outs.length L.wN (cB a.outs) (hA.outs.gz (aU AV ae)) (XU _) (by have:=hk.n.2.2;rw [bO.2] at this;omega);rw [Av] at AX;rw [Av];have AZ:=fun W (ae:Bl aH W)=>Le (W:=aH) (g:=w.heap.size) (o:=0) (V:=vH (L,a)) (fun i v Bj=>by rw [Nat.zero_add,Al.cell i];exact Bj) underlying45 rfl (show (prog.info? 45).map (·.size)=some (vH (L,a)).length by exact kr) ae;rw [Av] at AZ;unfold nT at AP AX AZ |-;obtain⟨KT,nm,E,oK,A,O,BH,Bn,Bp,BR⟩:=L;simp only at c1 c2 hc AP AX wN AZ |-;obtain⟨n,BC,T,bY,Ck,BD⟩:=nq3 a.env.length (aA a.tool) (at6 w P a.ins a.asks a.tool);rw [<- BD];have BS:=aa BD;rw [<- BC] at c1 c2 hc AP AX AZ |-;rw [<- bY] at c2 hc AP AX AZ |-;obtain⟨Aa,Am,BU,Ac⟩:=hq4 AV hc c1 bO;have BK:=AP.symm;have Ao:=aa BC;by_cases Ad:(pW eB a.tool).1=0
 ·have hinv:=aHz (P:=P) (U:=U) Ad az iE;obtain⟨BX,Bq,Br,BF⟩:=hq4 hinv hk dR Ad;have BL:=aa (fun W (ae:Bl aH W) (A:aRV) (c:Nat) (ax:Rd W 2 A n (BQ a.env))=>(c2 W ae A c ax).mono fun e w' h=>show ∃ L:iV,e = .returned (.tuple #[pp L.R 0,.int .i64 0])/\w.heap.size<=L.B/\@jL Cb w' L P.v none (aK.start (qG eB (jQ a.tool)))/\Bl W w' by
   rcases h with ⟨h1,_⟩ | ⟨_,L,h1,Ae,BN,Bt⟩
   ·exact absurd Ad h1
   ·exact⟨L,h1,by rw [Ae];exact aQG AV.size ae.size,BN,by show Below _ _ _;rw [<- Ae];letI:=Cb;exact dz.below Bt⟩);obtain⟨CR,C8,CF⟩:=hq3 AX wN AZ;clear hA hk az iE dR AV Al hc hle c1 c2 Av bO bY BD BC AP Ad AX wN AZ hinv;go_enter func93,ntmps93;go_wp2_with fail;clear BK;have kR:=Am;refine nz nH 11 [some (pp w.heap.size 2),some (.string T),some (pp w.heap.size 3),some (.slice E n BH),none,none,none,none,some (.int .i64 0),none,some (.int .i64 0)] (X4 w.heap.size P.v a.tool) (Bl aH) Bl ((Below.refl _ aH).drew) (fun j v w1 af ae h=>h.keep ae) ?_ (jI:=?_)
  ·intro u af aj AQ;obtain⟨Ap,BZ,Bb,BO⟩:=(show X4 w.heap.size P.v a.tool 9 (u 9) af from AQ 9 om).2.2 dc;clear AQ;simp only [BZ];obtain⟨AA,CG,CJ⟩:=hq3 aj Bb BO;have CK:=aa (show Ap.m < af.heap.size by obtain⟨A,c,us,CL⟩:=BO;obtain⟨_,_,_,_,_,⟨_,M,hm,_⟩,_⟩:=CL;exact hm.lt);clear aj Bb BO BZ;have CQ:=@run_makeMap prog;go_wp2_with fail
   rename World=>AU
   have kR:=aa fun af (aj:Bl AU af)=>Am.o af (aU AA.o aj);refine nz nH 7 [some (pp Ap.R 0),some (pp w.heap.size 6),some (.slice O a.outs.length BR),none,some (.agg #[.string KT,.string nm,.string T,.slice E n BH,.slice oK a.ins.length Bn,.slice A a.asks.length Bp,.slice O a.outs.length BR]),none,none] (Vx w.heap.size AU.heap.size a.ins a.asks a.outs) (Bl AU) Bl ((Below.refl _ AU).drew) (fun j v w1 af ae h=>h.keep ae) ?_ (jI:=?_)
   ·intro u af aj AQ;obtain⟨dh,bH,Bc,Y⟩:=(show Vx w.heap.size AU.heap.size a.ins a.asks a.outs 3 (u 3) af from AQ 3 om).1 rfl;obtain⟨AB,Be,Az⟩:=(show Vx w.heap.size AU.heap.size a.ins a.asks a.outs 5 (u 5) af from AQ 5 om).2.1 rfl;obtain⟨m6,Bf,Bg,CS⟩:=(show Vx w.heap.size AU.heap.size a.ins a.asks a.outs 6 (u 6) af from AQ 6 om).2.2 rfl;clear AQ;simp only [Bc,Be,Bf];simp only [LQ.fn];have CU:=aHA (some ⟨Ap.R,0,none⟩) dh a.outs.length bH 193 #[pp AB.o 0,pp AB.i 0,pp AB.a 0] m6;obtain⟨CV,Aq⟩:=ai (af.alloc (.cells #[pp Ap.R 0,.slice dh a.outs.length bH,.func (.func 193) #[] #[pp AB.o 0,pp AB.i 0,pp AB.a 0],.map (some m6),.slice none 0 0,.string ⟨#[]⟩,.bool false,.int .i64 0] 253));rw [<- Ac.o.2] at Y Az Aq;have Bh:=aHB (B:=w.heap.size) (text:=a.tool) (by letI:=Cb;exact jL.below CJ.o aj) CG.o Y Az Bg (by have:=CK.o;omega) (by have h1:=Aa.o.size;have Ae:=AA.o.size;omega) Aq;have Bi:=gQ Aq;have BP:Bl w CV:=(aU Aa.o AA.o).trans ((aU aj Bi).mono (by have h1:=Aa.o.size;have Ae:=AA.o.size;omega));have CW:=aa (atS Bq.o Bh BX.o.1 (Br.o.below BP) 402 BX.o.2);have CY:=aa BP;rw [Ac.o.2] at Aq;have BK:=Aq.symm;clear aj Y Az Bg CS Bh Bi BP Aq Bc Be Bf CQ;go_wp2_with (first|((with_reducible refine afJ (pp Ap.R 0) (.slice dh a.outs.length bH) (.func (.func 193) #[] #[pp AB.o 0,pp AB.i 0,pp AB.a 0]) (.map (some m6)) _ CU ?_ ?_);exact⟨rfl,rfl,rfl,rfl⟩)|(go_at_call 148; refine GY CW.o ?_;intro Cm CZ Ca));rw [BS.o];refine .inr ⟨BF.o,⟨w.heap.size,af.heap.size,Ap,dh,bH,AB,m6,none,0⟩,rfl,rfl,?_,CY.o.trans Ca.o.below⟩;have:=CZ.o;rwa [show rH P 402 (afI a.tool)=dC.start P a.tool by rw [dC.start,if_pos BF.o];rfl] at this
   ·repeat' (first | exact trivial | apply And.intro)
    all_goals try exact rx
    all_goals intro eQ u af aj aL bz K aR
    all_goals try simp [iX,Region.binds] at bz
    all_goals refine mg rfl ?_
    all_goals obtain⟨_,_,Co⟩:=Am.o af (aU AA.o aj)
    ·go_simp;refine (C8.o af (aU AA.o aj)).mono ?_;rintro e aD ⟨dh,bH,rfl,Y,J⟩;exact aR _ _ ⟨fun _=>⟨dh,bH,rfl,Y.mono (by have h1:=Aa.o.size;have Ae:=AA.o.size;have BN:=aj.size;omega)⟩,gq,gq⟩ (aU aj J) J
    ·refine Lb _ _ rfl (CF.o af (aU AA.o aj)) (by simp [Act.eval,aL]) ?_;exact aR _ _ rfl aj (Below.refl _ _)
    ·go_simp;refine (CR.o af (aU AA.o aj)).mono ?_;rintro e aD ⟨AB,rfl,Az,J⟩;exact aR _ _ ⟨gq,fun _=>⟨AB,rfl,Az.mono (by have h1:=Aa.o.size;have Ae:=AA.o.size;have BN:=aj.size;omega)⟩,gq⟩ (aU aj J) J
    ·go_simp;exact aR _ _ ⟨gq,gq,fun _=>⟨_,rfl,eU.made af _ _ _,aj.size⟩⟩ (aj.alloc aj.size _) iD
  ·repeat' (first | exact trivial | apply And.intro)
   all_goals try exact rx
   all_goals intro eQ u af aj aL bz K aR
   all_goals try simp [iX,Region.binds] at bz
   all_goals first | refine mg rfl ?_ | simp [Region.wanted,yielded,aL,bz] | simp [Region.wanted,yielded]
   all_goals obtain⟨Cc,Ce,_⟩:=Am.o af aj
   ·go_simp;refine (BU.o af aj).mono ?_;rintro e aD ⟨dh,bH,rfl,Y,J⟩;exact aR _ _ ⟨fun _=>⟨dh,bH,by rw [Ac.o.1,<- Ao.o],by rw [Ac.o.1,<- Ao.o];exact Y.mono (aQG Aa.o.size aj.size)⟩,gq,gq⟩ (aU aj J) J
   ·obtain⟨Cf,ah⟩:=bz;obtain⟨dh,bH,Ak,Y⟩:=ah.1 rfl;rw [Ac.o.1,<- Ao.o] at Ak Y;go_simp;refine (BL.o af aj dh bH Y.rd).mono ?_;rintro e aD ⟨Af,rfl,Ag,Ah,J⟩;exact aR _ _ ⟨gq,fun _=>⟨Af,rfl,Ag,Ah⟩,gq⟩ (aU aj J) J
   ·have ah:=bz;obtain⟨Af,Ak,Ag,Ah⟩:=ah.2.1 (.inl rfl);go_simp;exact aR _ _ ⟨gq,fun _=>⟨Af,rfl,Ag,Ah⟩,gq⟩ aj (Below.refl _ _)
   ·have ah:=bz;obtain⟨Af,Ak,Ag,Ah⟩:=ah.2.1 (.inr rfl);go_simp;exact aR _ _ ⟨gq,gq,fun _=>⟨Af,rfl,Ag,Ah⟩⟩ aj (Below.refl _ _)
   ·have ah:=bz;obtain⟨Af,Ak,Ag,Ah⟩:=ah.2.1 (.inr rfl);go_simp;exact aR _ _ rfl aj (Below.refl _ _)
   ·obtain⟨_,_,_,_,_,_,_,_,_,ah⟩:=bz;obtain⟨Af,Ak,Ag,Ah⟩:=ah.2.2 (.inl rfl);go_simp;exact aR _ _ ⟨gq,gq,fun _=>⟨Af,rfl,Ag,Ah⟩⟩ aj (Below.refl _ _)
 ·have Cg:((((pW eB a.tool).1:Nat):Int) != 0)=true:=by simpa using Ad
  obtain⟨BB,BG⟩:∃ k:Int,k=((pW eB a.tool).1:Nat):=⟨_,rfl⟩;rw [<- BG] at Cg;have BF:=aa Ad;have Cj:=aa BG;have BL:=aa (fun W (ae:Bl aH W) (A:aRV) (c:Nat) (ax:Rd W 2 A n (BQ a.env))=>(c2 W ae A c ax).mono fun e w' h=>show e = .returned (.tuple #[.pointer none,.int .i64 BB])/\Bl W w' by
   rcases h with ⟨_,h1,Ae⟩ | ⟨h1,_⟩
   ·exact⟨by rw [h1,BG],Ae⟩
   ·exact absurd h1 Ad);clear hA hk az iE dR AV Al hc hle c1 c2 Av bO bY BD BC AP Ad AX wN AZ BG;go_enter func93,ntmps93;go_wp2_with fail;clear BK;have kR:=Am;refine nz nH 11 [some (pp w.heap.size 2),some (.string T),some (pp w.heap.size 3),some (.slice E n BH),none,some (.tuple #[.pointer none,.int .i64 BB]),some (.tuple #[.pointer none,.int .i64 BB]),some (.pointer none),some (.int .i64 BB),some (.pointer none),some (.int .i64 BB)] (X4 w.heap.size P.v a.tool) (Bl aH) Bl ((Below.refl _ aH).drew) (fun j v w1 af ae h=>h.keep ae) ?_ (jI:=?_)
  ·intro u af aj AQ;clear AQ;have AA:=aa aj;clear aj;go_wp2_with fail;rw [BS.o];exact .inl ⟨BF.o,by rw [<- Cj.o];rfl,aU Aa.o AA.o⟩
  ·repeat' (first | exact trivial | apply And.intro)
   all_goals try exact rx
   all_goals intro eQ u af aj aL bz K aR
   all_goals try simp [iX,Region.binds] at bz
   all_goals first | refine mg rfl ?_ | simp [Region.wanted,yielded,aL,bz] | simp [Region.wanted,yielded]
   all_goals obtain⟨Cc,Ce,_⟩:=Am.o af aj
   ·go_simp;refine (BU.o af aj).mono ?_;rintro e aD ⟨dh,bH,rfl,Y,J⟩;exact aR _ _ ⟨fun _=>⟨dh,bH,by rw [Ac.o.1,<- Ao.o],by rw [Ac.o.1,<- Ao.o];exact Y.mono (aQG Aa.o.size aj.size)⟩,gq,gq⟩ (aU aj J) J
   ·obtain⟨Cf,ah⟩:=bz;obtain⟨dh,bH,Ak,Y⟩:=ah.1 rfl;rw [Ac.o.1,<- Ao.o] at Ak Y;go_simp;refine (BL.o af aj dh bH Y.rd).mono ?_;rintro e aD ⟨rfl,J⟩;exact aR _ _ rfl (aU aj J) J
def xc (F B:Nat) (e:TypeId) (aO:Nat) (A:aRV) (n c:Nat) (V news:aRW) (i k j:Nat) (v:Value) (w:aRU):Prop :=
 PI B e aO A n c V news i k (fun _ _ _=>True) j v w/\(j=k->∀ A' m c',v = .slice A' m c'->∀ q,q < F->some q≠bM A->some q≠bM A')
section
variable {w af:aRU} {B aO n c i k j F:Nat} {e:TypeId} {A:aRV} {V news:aRW} {v:Value}
theorem xc.keep (h:xc F B e aO A n c V news i k j v w) (hk:o6 B e aO A c (n+1) (V++news) w w'):xc F B e aO A n c V news i k j v w':=⟨h.1.keep (fun h=>h) hk,h.2⟩
variable {P:Program} {t:TypeId} {z:Value} {bytes:Nat} {o:Oper} {a:Act} {K:Act->World->Prop} {Q:aRX}
theorem X5 {u:TypeId} (h:D6 P t e z aO bytes) {s x:Operand} (aG:o.op = .call { callee:=.builtin .append,args:=#[s,x],argTypes:=#[t,u] }) (bU:Own w B e aO A n c V) (g:Nat) (ax:aM w g news e) (hl:news.length=aO) (h1:∀ v∈news,v.oneCell'=true)
  (aB:n<=1000000) (sF:B<=w.heap.size) (hu:P.underlying u=some (.slice e)) (zM:a.eval s = .slice A n c/\a.eval x = .slice (some ⟨g,0,none⟩) 1 1)
  (aJ:∀ A' c' w',RA B e aO A c (n+1) (V++news) A' c' w'->o6 B e aO A c (n+1) (V++news) w w'->Own w' B e aO A n c V->(∀ q,q < w.heap.size->some q≠bM A->some q≠bM A')->K (a.put o.dst (.slice A' (n+1) c')) w'):o.wp P a w K Q:=by
 obtain⟨i,AP,AQ,AU,AV⟩:=info_parts h.info;have AX:Src P w u aO (.slice (some ⟨g,0,none⟩) 1 1) 1 news:=Src.slice hu (afh ax hl);obtain⟨A',c',w',AZ,I,M,Aa⟩:=arS (P:=P) t u o.type e i z aO bytes h.Z4 AP AQ AU AV h.zs bU AX h1 mV (by have:=h.small;have:(n+1) * bytes<=1000001 * 1000:=Nat.mul_le_mul om om;omega) sF;unfold Oper.wp execOp;simp only [aG,resolve,invoke,builtin,Sem.run_bind,Sem.run_pure,Result.andThen_ok,List.map_toArray,List.map_cons,List.map_nil,zM.1,zM.2,AZ];have hlen:=bU.1;rcases Aa with ⟨rfl,rfl⟩ | ⟨Y,AA⟩
 ·refine aJ A' c' w' ⟨I,.inl ⟨rfl,rfl⟩⟩ ⟨M,fun B Ac J=>?_⟩ ?_ (fun _ _ h=>h)
  ·rcases J with ⟨Ad,⟨rfl,rfl⟩ | AB⟩
   ·exact⟨I,.inl ⟨rfl,rfl⟩⟩
   ·exact⟨Ad.grown M fun b ae e=>AB (by rw [ae,e]),.inr AB⟩
  ·have:=I.take (k:=n) om;rwa [List.take_append_of_le_length om,List.take_of_length_le om] at this
 ·have Ae:bM A'≠bM A:=fun e=>by
   rw [Y] at e;have:=(bU.block _ e.symm).2.1;omega
  refine aJ A' c' w' ⟨I,.inr Ae⟩ ⟨M,fun B Ac J=>⟨J.1.below AA (aQF _),J.2⟩⟩ (bU.below AA (aQF _)) fun q aJ _ e=>?_;rw [Y] at e;have:=aRb e;omega
end
theorem alx {l:oh} {asks:List ak} (h:iF w l P ins asks b) :
  CB 94 #[pp l.X 0] w (.tuple #[.string (aA (if b.over=true then [] else b.asks)),.bool (!b.over)]):=by
 have J:=h.row.cell 5;have M:=h.row.cell 6;simp only [pz,List.getElem?_cons_succ,List.getElem?_cons_zero] at J M;obtain⟨o,Y⟩:=ai b.over;rw [<- Y] at M |-;clear h Y;cases o with
 | true =>
  go_enter func94,ntmps94;go_wp2_with fail;refine aQP (aRc rfl _ _ _) rfl ?_;exact⟨rfl,Below.refl _ _⟩
 | false =>
  obtain⟨S,I⟩:=ai (aA b.asks);rw [if_neg dc,<- I];rw [<- I] at J;clear I;go_enter func94,ntmps94;go_wp2_with fail;refine aQP (aRc rfl _ _ _) rfl ?_;exact⟨rfl,Below.refl _ _⟩
end
section
open Go.Maps Go.RowKit Go.Shelf
theorem iF.aHG {af bn:aRU} {l:oh} {asks:List ak} (h:iF w l P ins asks b) {r:kU} {fZ:aRV} {fT:Nat} (hm:nN w l.B 135 34 l.bV b.reads.length l.rc (cK iq b.reads) af) (aG:Own af l.B 135 34 fZ (b.reads.length+1) fT (cK iq b.reads++iq r))
  (ax:aM bn l.X (pz { l with bV:=fZ,rc:=fT } P { b with reads:=b.reads++[r] }) 253) (az:fV l.X af bn):iF bn { l with bV:=fZ,rc:=fT } P ins asks { b with reads:=b.reads++[r] }/\kv l w bn:=by
 have av:=hm.1;have AV:∀ {g:Nat} {V:aRW} {t:TypeId},aM w g V t->t ≠ 135 -> some g≠bM l.bV:=fun ah h1=>h.afE ah h1;have AX:aM af l.X (pz l P b) 253:=(av.block _ h.row.lt (AV h.row dc)).trans h.row;have hc:∀ (k:Nat) (cs:Array Value) (t:TypeId) (aZ:Nat × Nat),w.heap[k]?=some (.cells cs t aZ)->some k≠bM l.bV->k≠l.X->bn.heap[k]?=w.heap[k]?:=fun k cs t aZ hk h1 I=>(az.2.2.2.2 k I).trans (av.block k (iw hk) h1);have Y:∀ {k:Nat} {cs:Array Value} {t:TypeId} {aZ:Nat × Nat},w.heap[k]?=some (.cells cs t aZ)->t ≠ 135 -> t ≠ 253 -> bn.heap[k]?=w.heap[k]?:=fun {k cs t aZ} hk h1 I=>hc k cs t aZ hk (fun e=>by
  obtain⟨_,_,cur,AZ,ae⟩:=h.reads.block k e.symm;rw [hk] at ae;injection ae with ae
  injection ae with _ ae
  exact h1 ae) (by
  rintro rfl;rw [h.row] at hk;injection hk with hk
  injection hk with _ hk
  exact I hk.symm);have AB:∀ {base aO n c:Nat} {t:TypeId} {A:aRV} {xs:aRW},Own w base t aO A n c xs->t ≠ 135 -> t ≠ 253 -> Own bn base t aO A n c xs:=fun ah h1 I=>ah.keep fun k hk _ _=>by
  obtain⟨_,_,cur,aZ,ae⟩:=ah.block k hk;exact Y ae h1 I
 have AA:∀ {g:Nat} {x:List ak},sZ w l.B g x->sZ bn l.B g x:=fun {g x} hs=>by
  obtain⟨A,c,AP,Aa⟩:=hs.row;exact⟨hs.far,A,c,(Y AP dc dc).trans AP,AB Aa dc dc⟩
 have AQ:∀ (k:Nat) (o:Obj),w.heap[k]?=some o->o.isCells=false->bn.heap[k]?=w.heap[k]?:=fun k o hk J=>(az.2.2.2.2 k (by
  rintro rfl;rw [h.row] at hk;cases hk;cases J)).trans (av.block k (iw hk) fun e=>by
   obtain⟨_,_,cur,AZ,ae⟩:=h.reads.block k e.symm;rw [hk] at ae;cases ae;cases J);obtain⟨q,Ac⟩:=h.run;refine⟨⟨ax,h.far,AB h.outs dc dc,⟨AA h.may.o,AA h.may.i,AA h.may.a⟩,h.map.keep ?_,?_,q,?_⟩,⟨az.1.trans av.os,az.2.1.trans av.tape,az.2.2.1.trans av.output,by rw [az.2.2.2.1];exact av.size,fun k hk=>?_,fun k cs t aZ hk _ _ Ad Ae=>hc k cs t aZ hk Ae Ad⟩⟩
 ·obtain⟨es,Ag,Af,_⟩:=h.map;exact AQ _ _ Af rfl
 ·have:=gX aG AX dc az;rw [show (b.reads++[r]).length=b.reads.length+1 by simp,show cK iq (b.reads++[r])=cK iq b.reads++iq r by simp [cK]];exact this
 ·letI:=vP l.m;exact jL.oV Ac (fun k cs t aZ hk AU=>Y hk (fun e=>by subst e;exact absurd AU dc) (fun e=>by subst e;exact absurd AU dc)) (by rw [az.2.2.2.1];exact av.size) fun k o _ _ hk J=>AQ k o hk J
 ·refine (az.2.2.2.2 k (by have:=h.far.1;omega)).trans (av.block k (by have:=h.size;omega) fun e=>?_);have:=(h.reads.block k e.symm).1;omega
theorem aud {l:oh} {asks:List ak} (hk:abk P ins asks) (h:iF w l P ins asks b) (ay:uU P U b) (dR:uW w l.B) (ax:Vd P b) (gD:b.over=false) (k:dB) (BC:k.path=b.asks) (hl:k.is=true->k.data.length<=65536) (aS:k.data.length<=1000000000) (aB:qU k=qU (rR U k.path)) (iE:∀ p,(rR U p).is=true->(rR U p).data.length<=1000000) :
  CR 97 #[pp l.X 0,.agg (iA k).toArray] w (.int .i64 0) fun w'=>∃ bV rc,iF w' { l with bV:=bV,rc:=rc } P ins asks (b.mE P k)/\kv l w w'/\∀ q,q < w.heap.size->some q≠bM l.bV->some q≠bM bV:=by
 have G8:=ax;rcases G8 with e | ⟨hw,Bg,hm⟩
 ·rw [gD] at e;cases e
 have av:b.ps.gave k=(0,b.ps.mE (qU (rR U b.ps.asks))):=by rw [aK.gave,if_neg (by rw [hw];decide),if_neg (by rw [BC,Bg];simp),if_neg (fun⟨h1,ag⟩=>by have:=hl h1;omega),aB,BC,Bg]
 obtain⟨fo,BB⟩:∃ x:dC,x={ b with reads:=b.reads++[P.sum k] }:=⟨_,rfl⟩;obtain⟨Bb,Ak⟩:∃ x:dC,x={ fo with ps:=(b.ps.gave k).2 }:=⟨_,rfl⟩;have he:b.mE P k=rH P 402 Bb:=by
  rw [dC.mE,if_neg]
  ·simp only;rw [if_neg (by rw [av];exact fun h=>h rfl),Ak,BB]
  ·rintro (e | e | ⟨h1,ag⟩)
   ·rw [gD] at e;cases e
   ·exact e BC
   ·have:=hl h1;omega
 have Dg:uU P U Bb/\qa Bb.ps.todo < 402:=by
  rw [Ak,BB,av];refine⟨⟨ay.inv.mE hw iE,ay.fresh,ay.ok,?_,ay.wrote,ay.why,ay.full,fun r ah=>?_,ay.few,ay.AL⟩,by have:=ay.few;show qa b.ps.todo < 402;omega⟩
  ·show (b.ps.known++[(b.ps.asks,qU (rR U b.ps.asks))]).map (fun x=>x.1)=(b.reads++[P.sum k]).map (fun x=>x.path);rw [List.map_append,List.map_append,ay.keys,hk.sum];simp [gJ,BC,Bg]
  ·rcases aQ4.1 ah with ah | ah
   ·exact ay.RS r ah
   ·rw [List.mem_singleton.1 ah,hk.sum];show P.may k.path=true;rw [BC];exact hm
 have Er:k.path.length<=1000000000:=by rw [BC,Bg];have:=ay.inv.ord.lim.asks;omega
 obtain⟨AB,BD,AP,BF,nU,BG,V,ed,X,aX,B,bf⟩:=nq6 (aA k.path) (aA k.data) k.is (iq (P.sum k)) l.X l.B;obtain⟨bV,BH,rc,Ck,n,Ad,iW,Dh,kV,Di⟩:=nq5 l.bV l.rc b.reads.length (cK iq b.reads) l.L.R;have Es:Value.agg (iA k).toArray = .agg #[.string AB,.bool nU,.string AP]:=by rw [BD,BF,BG];rfl
 obtain⟨aH,Bh⟩:=ai (w.alloc (.cells #[.string AB,.bool nU,.string AP] 80));have Ev:=gQ Bh;have Ew:aH.heap.size=w.heap.size+1:=by rw [Bh];simp
 have Ex:=kY Bh;have Bc:=FZ (P.sum k);have hlen:=zW (P.sum k);have Be:=Xe (P.sum k);rw [<- ed] at Bc hlen Be;have Cm:(Value.agg V.toArray).cells.size=34:=by simp [Value.cells,hlen]
 have Co:n<=1000000:=by rw [Ad];have:=(ay.asked ax gD).2;omega
 have Dj:P.sum k=gJ k:=by rw [hk.sum]
 rw [Dj] at ed;have BK:=fun W (ae:Below w.heap.size w W)=>h.below ae;have F3:=fun W (ae:Below w.heap.size w W)=>show W.cell? (ad X 6)=some (.bool false)/\W.cell? (ad X 5)=some (.string AB) by
  have Dk:=(BK W ae).row.cell 5;have Dp:=(BK W ae).row.cell 6;simp only [pz,List.getElem?_cons_succ,List.getElem?_cons_zero] at Dk Dp;rw [gD] at Dp;rw [<- BC] at Dk;rw [aX,BD];exact⟨Dp,Dk⟩
 have F4:=fun W (ae:Below w.heap.size w W)=>show Own W B 135 34 bV n rc iW by rw [bf,BH,Ad,Ck,Dh];exact (BK W ae).reads
 have Cr:B<=w.heap.size:=by rw [bf];exact h.size
 have F5:=fun (W af bn:aRU) (Y:aRV) (AA:Nat) (ae:Below w.heap.size w W) (hm:nN W B 135 34 bV n rc iW af) (F6:Own af B 135 34 Y (n+1) AA (iW++V)) (Am:aM bn X (pz { l with bV:=Y,rc:=AA } P fo) 253) (G9:fV X af bn)=>show iF bn { l with bV:=Y,rc:=AA } P ins asks fo/\kv l w bn by
  subst BB bf BH Ck Ad Dh aX;rw [ed,<- Dj] at F6;have:=(BK W ae).aHG hm F6 Am G9;exact⟨this.1,(kv.gN ae h.size).trans this.2 rfl rfl fun _ _ h=>h⟩
 have FB:=fun (Y:aRV) (AA:Nat)=>show (pz l P b).set 4 (.slice Y (n+1) AA)=pz { l with bV:=Y,rc:=AA } P fo by
  rw [BB,Ad,pz,pz];simp
 have FC:=fun (W af:aRU) (ae:Below w.heap.size w W) (hm:nN W B 135 34 bV n rc iW af)=>show aM af X (pz l P b) 253 /\ af.cell? (ad X 4)=some (.slice bV n rc) by
  have ah:=(BK W ae).row;have Dq:=hm.row ah (by rw [BH];exact (BK W ae).afE ah dc);rw [<- aX] at Dq;refine⟨Dq,(Dq.cell 4).trans ?_⟩;rw [BH,Ad,Ck];rfl
 have FF:=fun (W af:aRU) (ae:Below w.heap.size w W) (hm:nN W B 135 34 bV n rc iW af) (g:Nat) (V:aRW) (t:TypeId) (ax:aM W g V t) (Gg:w.heap.size<=g)=>show aM af g V t from hm.row ax (by
  rw [BH];intro e;have:=h.reads.block g e.symm;omega)
 have FI:∀ g,w.heap.size<=g->g≠X:=fun g av e=>by rw [e,aX] at av;have:=h.row.lt;omega
 have FJ:Bb={ fo with ps:=b.ps.mE (qU (rR U b.ps.asks)) }:=by rw [Ak,av]
 have FK:=fun (W:aRU) (I:oh) (FO:I.B=l.B) (FP:I.L=l.L) (ah:iF W I P ins asks fo) (ae:uW W l.B)=>show CR 149 #[pp kV 0,.agg #[.string AB,.bool nU,.string AP]] W (.int .i64 0) fun w'=>iF w' I P ins asks Bb/\kv I W w' by
  have h1:=aHx (U:=U) ah (by rw [BB];exact ay.inv) hk.env (ae.home (by rw [FP];exact h.far.2.2) (by obtain⟨q,AZ⟩:=ah.run;letI:=vP I.m;exact jL.size AZ)) k ⟨Er,aS⟩ (by rw [BB];exact hw);rw [show fo.ps=b.ps by rw [BB],FP,<- Di,av] at h1;rw [show xE k = .agg #[.string AB,.bool nU,.string AP] by rw [BD,BF,BG];rfl] at h1;rw [FJ];exact h1
 have FR:=fun (W:aRU) (I:oh) (FO:I.B=l.B) (GD:I.X=X) (ah:iF W I P ins asks Bb) (ae:uW W l.B)=>show CR 148 #[pp X 0] W (.tuple #[]) fun w'=>iF w' I P ins asks (b.mE P k)/\kv I W w' by
  have:=atS hk ah Dg.1 (by rw [FO];exact ae) 402 Dg.2;rw [GD,<- he] at this;exact this
 have Ct:=aa (fun (W:aRU) (ae:kv l w W)=>dR.below ae.below);obtain⟨Cu,Cv,FU,FV,FW,FY,D8,DF,DI,Fa,Fe,Bf,DJ,Fh,Fj⟩:=hq15 Ev Ex F3 F4 F5 FB FC FF FI FK FR aX BH Di Ew;have Dr:nU=true->¬ ((AP.size:Int) > 65536):=fun e=>by rw [BF,iP];have:=hl (by rw [<- BG];exact e);omega
 have Bi:=fun (W:aRU) (g:Nat) (ax:Rd W 1 (some ⟨g,0,none⟩) 1 [.string AP])=>Xb W g AP (by rw [BF,iP];exact aS) ax;rw [show AP.data.toList=k.data by rw [BF,gZ]] at Bi;rw [Es,<- aX];have Fp:=Bh.symm;clear BK F3 F4 F5 FB FC FF FI FK FR av he Dg Ev Ex ay dR ax gD BC hl aB iE hw Bg hm BB Ak FJ bf aX BH Ck Ad Dh Di Dj Er Bh Es h hk Ew aS;cases nU with
 | false =>
  have BL:=ajp BG.symm;rw [<- BD,<- ed] at BL;have Dt:=aa (show prog.built 135 [(0,.string AB),(1,.bool false)]=some V.toArray by rw [BL];exact aeh AB false);clear BL BG ed BD BF Dr Bi;obtain⟨Du,Dv⟩:=FU.o aH Cu.o;have d0:=Cv.o.cell 0;go_enter func97,ntmps97;go_wp2_with fail;go_quiet (fail);obtain⟨aY,Ae⟩:=ai (aH.drewN nq);have Ak:Bl w aY:=by rw [Ae];exact below_drewN Cu.o nq
  have Af:aM aY w.heap.size [.string AB,.bool false,.string AP] 80:=by rw [Ae];exact Cv.o
  have BN:aY.heap.size=w.heap.size+1:=by rw [Ae];exact Fj.o
  obtain⟨cO,DN⟩:=ai (aY.alloc (.cells V.toArray 135));have Dw:=gQ DN;have Dz:=aa (show aM cO (w.heap.size+1) V 135 by rw [DN,<- BN];exact aM.new aY V _);have DR:=aa (Af.all Dw);have AU:=aa (aU Ak Dw);rw [<- Ae];have E5:=Af.cell 0;have E8:=Af.cell 1;have E9:=Af.cell 2;have f1:=DR.o.cell 1;have GG:=DN.symm;have EA:=aa BN;clear d0 Dv Du Ae Fp Af Ak Dw DN BN;go_wp2_with (first|((with_reducible refine Rk (.string AB) (.bool false) V.toArray Dt.o ?_ ?_);exact⟨rfl,rfl⟩)|(with_reducible refine zx V hlen Be Bc ?_));clear E5 E8 E9 f1 GG;rw [EA.o];obtain⟨g3,BO,g5,BP⟩:=nq2 w.heap.size (w.heap.size+1);have EC:=aa (show aM cO g3 [.string AB,.bool false,.string AP] 80 by rw [BO];exact DR.o);have EF:=aa (show aM cO g5 V 135 by rw [BP];exact Dz.o);have BR:=aa (show w.heap.size<=g3/\w.heap.size<=g5/\g3≠X/\g5≠X by refine⟨om,om,DI.o _ om,DI.o _ om⟩);rw [<- BP,<- BO];clear BO BP;have Bj:=aa (FV.o cO AU.o);have Bn:=hlen;have Bp:=Bc;have Bq:=Cm;have Ad:=Co;have Br:B<=cO.heap.size:=aQG Cr AU.o.size;have BS:=aa (fun (af:aRU) (aj:nN cO B 135 34 bV n rc iW af)=>(D8.o cO af AU.o aj).2);have Aa:=aa (fun (af:aRU) (aj:nN cO B 135 34 bV n rc iW af)=>Le (W:=af) (g:=g5) (o:=0) (V:=V) (fun i v BU=>by rw [Nat.zero_add,(DF.o cO af AU.o aj g5 V _ EF.o BR.o.2.1).cell i];exact BU) underlying135 rfl Be (Below.refl af.heap.size af));have kR:=aa fun af (aj:(nN cO (B) 135 34 bV n rc iW) af)=>And.intro (BS.o af aj) (Aa.o af aj);refine nz nH 8 [some (pp X 0),some (pp X 0),some (pp X 0),some (pp X 4),some (.slice bV n rc),some (.agg V.toArray),none,none] (xc cO.heap.size (B) 135 34 bV n rc iW V 6 7) (nN cO (B) 135 34 bV n rc iW) (o6 (B) 135 34 bV rc (n+1) (iW++V)) (nN.start Bj.o) (fun j v w1 af ae h=>h.keep ae) ?_ (jI:=?_)
  ·intro u af aj Ag;obtain⟨Y,AA,BX,Ao⟩:=(show xc cO.heap.size (B) 135 34 bV n rc iW V 6 7 7 (u 7) af from Ag 7 om).1.2.1 rfl;have Bt:=(show xc cO.heap.size (B) 135 34 bV n rc iW V 6 7 7 (u 7) af from Ag 7 om).2 rfl _ _ _ BX;clear Ag;simp only [BX];obtain⟨I,BZ⟩:∃ x:oh,x={ l with bV:=Y,rc:=AA }:=⟨_,rfl⟩;have EG:=aa aj;have EH:=aa Ao.1;have C8:=aa (fun q (AZ:q < w.heap.size)=>Bt q (aQJ AZ AU.o.size));have CF:=aa (D8.o cO af AU.o aj).1;have CG:Sz 61 1:=kr;have Ap:=FY.o Y AA;rw [<- BZ] at Ap;obtain⟨AV,AX,GH,Al⟩:=nq2 (pz l P b) (pz I P fo);have CJ:4+1<=AV.length:=by rw [AX];show 5<=8;omega
   have EJ:(Value.slice Y (n+1) AA).cells.toList=[.slice Y (n+1) AA]:=rfl;have CK:(Value.slice Y (n+1) AA).oneCell'=true:=rfl;rw [<- AX,<- Al] at Ap;rw [<- AX] at CF;have EK:=aa Al;have Ac:=aa BZ;have EL:=aa (DF.o cO af AU.o aj g3 _ _ EC.o BR.o.1);clear aj Ao Bt AX Al BZ BX Bj BS Aa Bn Bp Bq Ad Br;go_wp2_with (first|((with_reducible refine A8 4 (.slice Y (n+1) AA) CF.o CG CJ CK Ap ?_);refine zN ?_;intro J EM CL));have Am:=EM.o;rw [EK.o,Ac.o] at Am;obtain⟨Aq,CQ⟩:=FW.o cO af J Y AA AU.o EG.o EH.o Am CL.o;rw [<- Ac.o] at Aq;have EN:=aa CQ;have EO:=aa (EL.o.dG CL.o BR.o.2.2.1);have CS:=aa (fun Av (ae:Below J.heap.size J Av)=>show Av.cell? (ad X 0)=some (pp kV 0) by
    have CU:=(Aq.below ae).row.cell 0;rw [Bf.o,Fh.o];rw [Ac.o] at CU;exact CU);have CV:(prog.info? 80).map (·.size)=some [Value.string AB,.bool false,.string AP].length:=kr;have Aa:=aa (fun Av (ae:Below J.heap.size J Av)=>Le (W:=J) (g:=g3) (o:=0) (V:=[.string AB,.bool false,.string AP]) (fun i v BU=>by rw [Nat.zero_add,EO.o.cell i];exact BU) underlying80 rfl CV ae);have AQ:=aa (show I.B=l.B/\I.L=l.L/\I.X=X/\I.X=l.X by rw [Ac.o,Bf.o];exact⟨rfl,rfl,rfl,rfl⟩);have CW:=aa (fun q (AZ:q < w.heap.size) (Ah:some q≠bM l.bV)=>show some q≠bM I.bV by rw [Ac.o];exact C8.o q AZ (by rw [DJ.o];exact Ah));have CY:=aa (show iF J I P ins asks fo from Aq);clear Am Aq CQ CV Be hlen Bc Cm Co Cr Ap EJ CK CJ CG;simp only [Act.put];have kR:=aa fun af (aj:Bl J af)=>And.intro (CS.o af aj) (Aa.o af aj);refine nz nH 5 [some (pp X 0),some (pp X 0),some (pp X 0),some (pp kV 0),some (.agg #[.string AB,.bool false,.string AP])] (fun _ _ _=>False) (Bl J) Bl ((Below.refl _ J).drew) (fun j v w1 af ae h=>h.elim) ?_ (jI:=?_)
   ·intro u af aj Ag;clear Ag;have ES:=aa (CY.o.below aj);have Az:=aa (EN.o.trans (kv.gN aj (by have:=CY.o.size;rw [AQ.o.1] at this;exact this)) rfl rfl fun _ _ h=>h);clear aj;go_wp2_with (first|((with_reducible refine (Fa.o af I AQ.o.1 AQ.o.2.1 ES.o (Ct.o af Az.o)).mono ?_);rintro e CZ ⟨rfl,Ca,Cc⟩;have ET:=aa Ca;have Ce:=aa (Az.o.trans Cc AQ.o.1 AQ.o.2.2.2 CW.o);clear Ca Cc)|((with_reducible refine (Fe.o CZ I AQ.o.1 AQ.o.2.2.1 ET.o (Ct.o CZ Ce.o)).mono ?_);rintro e GI ⟨rfl,Cf,Cg⟩;have EU:=aa Cf;have EX:=aa (Ce.o.trans Cg AQ.o.1 AQ.o.2.2.2 CW.o);clear Cf Cg));go_ret;exact⟨rfl,Y,AA,by have:=EU.o;rw [Ac.o] at this;rw [Bf.o];exact this,EX.o,fun q AZ Ah=>C8.o q AZ (by rw [DJ.o];exact Ah)⟩
   ·repeat' (first | exact trivial | apply And.intro)
    all_goals try exact rx
    all_goals intro eQ u af aj aL bz K aR
    all_goals try simp [iX,Region.binds] at bz
    all_goals refine mg rfl ?_
    all_goals have GK:=CS.o af aj
    all_goals have EY:=Aa.o af aj
    ·refine Lb _ _ rfl EY (by simp [Act.eval,aL]) ?_;exact aR _ _ rfl aj (Below.refl _ _)
  ·repeat' (first | exact trivial | apply And.intro)
   all_goals try exact rx
   all_goals intro eQ u af aj aL bz K aR
   all_goals try simp [iX,Region.binds] at bz
   all_goals refine mg rfl ?_
   all_goals have GL:=BS.o af aj
   all_goals have Ea:=Aa.o af aj
   ·refine Lb _ _ rfl Ea (by simp [Act.eval,aL]) ?_;exact aR _ _ rfl aj (o6.refl _)
   ·refine Nv K6 (.agg V.toArray) Bq rfl (by simp [Act.eval,aL,bz]) ?_;exact aR _ _ ⟨⟨fun _=>⟨_,rfl,aM.new af V _,aj.JD⟩,gq,fun e=>absurd rfl e⟩,gq⟩ (aj.alloc _) (o6.alloc af _)
   ·obtain⟨Ec,Ee⟩:=bz;obtain⟨g9,Ef,Ei,GQ⟩:=(show xc cO.heap.size (B) 135 34 bV n rc iW V 6 7 6 _ af from Ee).1.1 rfl;refine X5 K6 rfl aj.2 g9 Ei Bn Bp Ad (aQG Br aj.1.size) underlying61 ⟨by simp [Act.eval,aL,Ec],by simp [Act.eval,aL,Ef]⟩ ?_;intro il c2 aD Ao Cj Ej El;exact aR _ _ ⟨⟨gq,fun _=>⟨il,c2,rfl,Ao⟩,fun _ e=>absurd rfl e⟩,fun _ dh m3 bH Em j aC Ah=>by cases Em;exact El j (aQJ aC aj.1.size) Ah⟩ ⟨F8 aj.1 Cj.1,Ej⟩ Cj
 | true =>
  have BL:=ajo BG.symm;obtain⟨S,DT⟩:=ai (bP.sum k.data);have DU:S.length=32:=by rw [DT];exact yK _
  rw [<- BD,<- ed,<- DT] at BL;rw [<- DT] at Bi;have GV:=Dr rfl;obtain⟨AV,AX⟩:=ai (Value.string AB :: Value.bool true :: l6 A7);have Db:AV.length=34:=by rw [AX];simp [rC]
  have Fq:Sz 135 AV.length:=by rw [Db];exact ajn
  have Fu:∀ v∈AV,v.oneCell'=true:=by rw [AX,BD];exact FZ ⟨k.path,true,A7⟩
  have Al:AV.take 2++bQ S++AV.drop (2+(bQ S).length)=V:=by rw [BL,AX,xn,DU];simp [rC]
  have Fv:2+(bQ S).length<=AV.length:=by rw [xn,DU,Db];decide
  have Dt:=aa (show prog.built 135 [(0,.string AB),(1,.bool true)]=some AV.toArray by rw [AX];exact aeh AB true);have GX:=aa Bi;clear BL BG ed BD BF Dr Bi AX DT;obtain⟨Du,Dv⟩:=FU.o aH Cu.o;have d0:=Cv.o.cell 0;go_enter func97,ntmps97;go_wp2_with fail;go_quiet (fail);obtain⟨aY,Ae⟩:=ai (aH.drewN nq);have Ak:Bl w aY:=by rw [Ae];exact below_drewN Cu.o nq
  have Af:aM aY w.heap.size [.string AB,.bool true,.string AP] 80:=by rw [Ae];exact Cv.o
  have BN:aY.heap.size=w.heap.size+1:=by rw [Ae];exact Fj.o
  obtain⟨Dc,De⟩:=ai (aY.alloc (.cells AV.toArray 135));have En:=gQ De;have Ga:=aa (show aM Dc (w.heap.size+1) AV 135 by rw [De,<- BN];exact aM.new aY AV _);have Eo:=aa (Af.all En);have Gb:=aa (aU Ak En);rw [<- Ae];have E5:=Af.cell 0;have E8:=Af.cell 1;have E9:=Af.cell 2;have f1:=Eo.o.cell 1;have f2:=Eo.o.cell 2;have Gc:=De.symm;have EA:=aa BN;clear d0 Dv Du Ae Fp Af Ak En De BN;go_wp2_with (first|((with_reducible refine Rk (.string AB) (.bool true) AV.toArray Dt.o ?_ ?_);exact⟨rfl,rfl⟩)|(with_reducible refine zx AV Db Fq Fu ?_)|(go_at_call 33; refine (GX.o _ _ (Rd.one Dc (.string AP) 9)).mono ?_;rintro e Gd ⟨rfl,Fy⟩;have Az:=aa (show Bl Dc Gd from iD.trans (Fy.mono sp));clear Fy f1 f2 Gc;rw [EA.o])|((with_reducible refine Ux 2 (.agg (bQ S).toArray) (Ga.o.all Az.o) (qK _) (zt DU) Fv (GZ _) Al ?_);refine zN ?_;intro cO Dz Fz));have AU:=aa (oO (aU Gb.o Az.o) Fz.o om);have DR:=aa ((Eo.o.all Az.o).dG Fz.o om);clear E5 E8 E9 Db Fq Fu Al Fv DU GV;simp only [Act.put];obtain⟨g3,BO,g5,BP⟩:=nq2 w.heap.size (w.heap.size+1);have EC:=aa (show aM cO g3 [.string AB,.bool true,.string AP] 80 by rw [BO];exact DR.o);have EF:=aa (show aM cO g5 V 135 by rw [BP];exact Dz.o);have BR:=aa (show w.heap.size<=g3/\w.heap.size<=g5/\g3≠X/\g5≠X by refine⟨om,om,DI.o _ om,DI.o _ om⟩);rw [<- BP,<- BO];clear BO BP;have Bj:=aa (FV.o cO AU.o);have Bn:=hlen;have Bp:=Bc;have Bq:=Cm;have Ad:=Co;have Br:B<=cO.heap.size:=aQG Cr AU.o.size;have BS:=aa (fun (af:aRU) (aj:nN cO B 135 34 bV n rc iW af)=>(D8.o cO af AU.o aj).2);have Aa:=aa (fun (af:aRU) (aj:nN cO B 135 34 bV n rc iW af)=>Le (W:=af) (g:=g5) (o:=0) (V:=V) (fun i v BU=>by rw [Nat.zero_add,(DF.o cO af AU.o aj g5 V _ EF.o BR.o.2.1).cell i];exact BU) underlying135 rfl Be (Below.refl af.heap.size af));have kR:=aa fun af (aj:(nN cO (B) 135 34 bV n rc iW) af)=>And.intro (BS.o af aj) (Aa.o af aj);refine nz nH 8 [some (pp X 0),some (pp X 0),some (pp X 0),some (pp X 4),some (.slice bV n rc),some (.agg V.toArray),none,none] (xc cO.heap.size (B) 135 34 bV n rc iW V 6 7) (nN cO (B) 135 34 bV n rc iW) (o6 (B) 135 34 bV rc (n+1) (iW++V)) (nN.start Bj.o) (fun j v w1 af ae h=>h.keep ae) ?_ (jI:=?_)
  ·intro u af aj Ag;obtain⟨Y,AA,BX,Ao⟩:=(show xc cO.heap.size (B) 135 34 bV n rc iW V 6 7 7 (u 7) af from Ag 7 om).1.2.1 rfl;have Bt:=(show xc cO.heap.size (B) 135 34 bV n rc iW V 6 7 7 (u 7) af from Ag 7 om).2 rfl _ _ _ BX;clear Ag;simp only [BX];obtain⟨I,BZ⟩:∃ x:oh,x={ l with bV:=Y,rc:=AA }:=⟨_,rfl⟩;have EG:=aa aj;have EH:=aa Ao.1;have C8:=aa (fun q (AZ:q < w.heap.size)=>Bt q (aQJ AZ AU.o.size));have CF:=aa (D8.o cO af AU.o aj).1;have CG:Sz 61 1:=kr;have Ap:=FY.o Y AA;rw [<- BZ] at Ap;obtain⟨AV,AX,GH,Al⟩:=nq2 (pz l P b) (pz I P fo);have CJ:4+1<=AV.length:=by rw [AX];show 5<=8;omega
   have EJ:(Value.slice Y (n+1) AA).cells.toList=[.slice Y (n+1) AA]:=rfl;have CK:(Value.slice Y (n+1) AA).oneCell'=true:=rfl;rw [<- AX,<- Al] at Ap;rw [<- AX] at CF;have EK:=aa Al;have Ac:=aa BZ;have EL:=aa (DF.o cO af AU.o aj g3 _ _ EC.o BR.o.1);clear aj Ao Bt AX Al BZ BX Bj BS Aa Bn Bp Bq Ad Br;go_wp2_with (first|((with_reducible refine A8 4 (.slice Y (n+1) AA) CF.o CG CJ CK Ap ?_);refine zN ?_;intro J EM CL));have Am:=EM.o;rw [EK.o,Ac.o] at Am;obtain⟨Aq,CQ⟩:=FW.o cO af J Y AA AU.o EG.o EH.o Am CL.o;rw [<- Ac.o] at Aq;have EN:=aa CQ;have EO:=aa (EL.o.dG CL.o BR.o.2.2.1);have CS:=aa (fun Av (ae:Below J.heap.size J Av)=>show Av.cell? (ad X 0)=some (pp kV 0) by
    have CU:=(Aq.below ae).row.cell 0;rw [Bf.o,Fh.o];rw [Ac.o] at CU;exact CU);have CV:(prog.info? 80).map (·.size)=some [Value.string AB,.bool true,.string AP].length:=kr;have Aa:=aa (fun Av (ae:Below J.heap.size J Av)=>Le (W:=J) (g:=g3) (o:=0) (V:=[.string AB,.bool true,.string AP]) (fun i v BU=>by rw [Nat.zero_add,EO.o.cell i];exact BU) underlying80 rfl CV ae);have AQ:=aa (show I.B=l.B/\I.L=l.L/\I.X=X/\I.X=l.X by rw [Ac.o,Bf.o];exact⟨rfl,rfl,rfl,rfl⟩);have CW:=aa (fun q (AZ:q < w.heap.size) (Ah:some q≠bM l.bV)=>show some q≠bM I.bV by rw [Ac.o];exact C8.o q AZ (by rw [DJ.o];exact Ah));have CY:=aa (show iF J I P ins asks fo from Aq);clear Am Aq CQ CV Be hlen Bc Cm Co Cr Ap EJ CK CJ CG;simp only [Act.put];have kR:=aa fun af (aj:Bl J af)=>And.intro (CS.o af aj) (Aa.o af aj);refine nz nH 5 [some (pp X 0),some (pp X 0),some (pp X 0),some (pp kV 0),some (.agg #[.string AB,.bool true,.string AP])] (fun _ _ _=>False) (Bl J) Bl ((Below.refl _ J).drew) (fun j v w1 af ae h=>h.elim) ?_ (jI:=?_)
   ·intro u af aj Ag;clear Ag;have ES:=aa (CY.o.below aj);have Az:=aa (EN.o.trans (kv.gN aj (by have:=CY.o.size;rw [AQ.o.1] at this;exact this)) rfl rfl fun _ _ h=>h);clear aj;go_wp2_with (first|((with_reducible refine (Fa.o af I AQ.o.1 AQ.o.2.1 ES.o (Ct.o af Az.o)).mono ?_);rintro e CZ ⟨rfl,Ca,Cc⟩;have ET:=aa Ca;have Ce:=aa (Az.o.trans Cc AQ.o.1 AQ.o.2.2.2 CW.o);clear Ca Cc)|((with_reducible refine (Fe.o CZ I AQ.o.1 AQ.o.2.2.1 ET.o (Ct.o CZ Ce.o)).mono ?_);rintro e GI ⟨rfl,Cf,Cg⟩;have EU:=aa Cf;have EX:=aa (Ce.o.trans Cg AQ.o.1 AQ.o.2.2.2 CW.o);clear Cf Cg));go_ret;exact⟨rfl,Y,AA,by have:=EU.o;rw [Ac.o] at this;rw [Bf.o];exact this,EX.o,fun q AZ Ah=>C8.o q AZ (by rw [DJ.o];exact Ah)⟩
   ·repeat' (first | exact trivial | apply And.intro)
    all_goals try exact rx
    all_goals intro eQ u af aj aL bz K aR
    all_goals try simp [iX,Region.binds] at bz
    all_goals refine mg rfl ?_
    all_goals have GK:=CS.o af aj
    all_goals have EY:=Aa.o af aj
    ·refine Lb _ _ rfl EY (by simp [Act.eval,aL]) ?_;exact aR _ _ rfl aj (Below.refl _ _)
  ·repeat' (first | exact trivial | apply And.intro)
   all_goals try exact rx
   all_goals intro eQ u af aj aL bz K aR
   all_goals try simp [iX,Region.binds] at bz
   all_goals refine mg rfl ?_
   all_goals have GL:=BS.o af aj
   all_goals have Ea:=Aa.o af aj
   ·refine Lb _ _ rfl Ea (by simp [Act.eval,aL]) ?_;exact aR _ _ rfl aj (o6.refl _)
   ·refine Nv K6 (.agg V.toArray) Bq rfl (by simp [Act.eval,aL,bz]) ?_;exact aR _ _ ⟨⟨fun _=>⟨_,rfl,aM.new af V _,aj.JD⟩,gq,fun e=>absurd rfl e⟩,gq⟩ (aj.alloc _) (o6.alloc af _)
   ·obtain⟨Ec,Ee⟩:=bz;obtain⟨g9,Ef,Ei,GQ⟩:=(show xc cO.heap.size (B) 135 34 bV n rc iW V 6 7 6 _ af from Ee).1.1 rfl;refine X5 K6 rfl aj.2 g9 Ei Bn Bp Ad (aQG Br aj.1.size) underlying61 ⟨by simp [Act.eval,aL,Ec],by simp [Act.eval,aL,Ef]⟩ ?_;intro il c2 aD Ao Cj Ej El;exact aR _ _ ⟨⟨gq,fun _=>⟨il,c2,rfl,Ao⟩,fun _ e=>absurd rfl e⟩,fun _ dh m3 bH Em j aC Ah=>by cases Em;exact El j (aQJ aC aj.1.size) Ah⟩ ⟨F8 aj.1 Cj.1,Ej⟩ Cj
end
section
variable {α:Type}
theorem aHK {M:fA α} (ax:G6 M) {x:List UInt8 × α} (h:M[k]?=some x):getM M x.1=some x.2:=by
 induction M generalizing k with
 | nil=>simp at h
 | cons y r I =>
  rw [G6,List.pairwise_cons] at ax;cases k with
  | zero =>
   simp only [List.getElem?_cons_zero,Option.some.injEq] at h;subst h;simp [getM]
  | succ k =>
   simp only [List.getElem?_cons_succ] at h;have ae:=ax.1 x (aQK h);have J:(y.1 == x.1)=false:=by rw [beq_eq_false_iff_ne];intro e;rw [e,aa0] at ae;cases ae
   have:=I ax.2 h;unfold getM at this |-;rw [List.find?_cons,J];exact this
theorem aHL {M:fA α} {k:aR0} {a:α} (h:getM M k=some a):(k,a)∈M:=by
 unfold getM at h;obtain⟨x,ah,rfl⟩:=Option.map_eq_some_iff.1 h;have h1:=aRr ah;have I:=List.find?_some ah;have:x.1=k:=by simpa using I
 rw [<- this];exact h1
end
end Go.Proofs.YtjkinjbkknanbaaGreatDoor
