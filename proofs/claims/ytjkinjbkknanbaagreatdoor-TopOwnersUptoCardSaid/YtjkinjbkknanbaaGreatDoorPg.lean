/- Pg -/
import Derived.Test.YtjkinjbkknanbaaGreatDoorPf
set_option maxRecDepth 100000
set_option maxHeartbeats 8000000
set_option linter.unusedSimpArgs false
set_option linter.unusedVariables false
namespace Go.Proofs.YtjkinjbkknanbaaGreatDoor
open Go.Proofs.Tryz
variable {i k g B c j m B':Nat}
variable {w w' W W':aRB}
variable {M:fu Bool}
variable {ps ns l ins outs:List ak}
variable {v:Env}
variable {α:Type}
variable {P:nV}
variable {b:dA}
variable {s:aJ}
variable {A:aRC}
variable {L:iW}
variable {u:Value}
variable {V:aRD}
variable {t:TypeId}
variable {U:List dz}
variable {text:ak}
section
open Go.ChangeMaps Go.MapKept Go.Maps Go.RowKit Go.Shelf Go.WideAt Go.WideMaps
theorem aGz {wR tY:Nat} (ay:i<=1000) (hk:k<=1000) (oP:wR<=1000) (Ld:tY<=1000) (h:Fg i k=Fg wR tY):i=wR/\k=tY:=by have:=keyBytes_inj (l:=[Lit.int .i64 (i:Int),.int .i64 (k:Int)]) (l':=[Lit.int .i64 (wR:Int),.int .i64 (tY:Int)]) ⟨rfl,rfl,trivial⟩ (by simp [Lit.keyWf,Xn ay,Xn hk]) (by simp [Lit.keyWf,Xn oP,Xn Ld]) h;simp at this;omega
theorem aGA {n:Nat} (h:eQ w prog 330 Value.bool g n M) (ay:i<=1000) (hk:k<=1000) :
  (Instr.lookup 328 (.map (some g)) (Xm i k) false).run prog w = .ok (.bool ((getM M (Fg i k)).getD false)) w:=by
 have wH:∀ a b,Value.bool a=Value.bool b->a=b:=fun a b e=>by injection e
 obtain⟨v,ps,Y,J⟩:=aRr h aaH underlying328 (z:=.bool false) kr (Kl wH false) (keyOf_pair ay hk);rw [YN] at J;obtain⟨a,rfl,I⟩:=Tx J;rw [Y];cases ax:getM M (Fg i k) with
 | none=>rw [ax] at I;injection I with I;subst I;rfl
 | some x=>rw [ax] at I;injection I with I;subst I;rfl
def Xo (ps ns:List ak) (M:fu Bool):Prop:=∀ i k,i<=16->k<=16->getM M (Fg i k)=some true->wy (ps.drop i) (ns.drop k)=false
theorem Xo.put (h:Xo ps ns M) (ay:i<=16) (hk:k<=16):Xo ps ns (oz M (Fg i k) (!wy (ps.drop i) (ns.drop k))):=fun I J Y A7 e=>by
 by_cases he:Fg I J=Fg i k
 ·obtain⟨rfl,rfl⟩:=aGz om om om om he;rw [Mq] at e;injection e with e
  simpa using e
 ·rw [Mr _ _ he] at e;exact h I J Y A7 e
structure Dn where
 a:Nat
 b:Nat
 m:Nat
 f:Nat
 A:Option Addr
 c:Nat
 B:Option Addr
 d:Nat
 g:Nat
def Dn.ptrs (L:Dn):Array Value:=#[pp L.a 0,pp L.b 0,pp L.m 0,pp L.f 0]
structure aeQ (w:aRB) (L:Dn) (ps ns:List ak):Prop where
 iC:w.cell? (ad L.a 0)=some (.slice L.A ps.length L.c)
 El:w.cell? (ad L.b 0)=some (.slice L.B ns.length L.d)
 Ed:w.cell? (ad L.m 0)=some (.map (some L.g))
 R4:w.cell? (ad L.f 0)=some (.func (.func 230) #[] L.ptrs)
 akx:Rd w 1 L.A ps.length (cu ps)
 rn:Rd w 1 L.B ns.length (cu ns)
theorem cell_grown {es:Array MapEntry} {nk:Nat} (hm:w.heap[g]?=some (.map es nk)) (ax:w.grownBy w' (some g)) {p:Addr} {v:Value} (h:w.cell? p=some v):w'.cell? p=some v:=by
 have I:p.block≠g:=fun e=>by
  unfold World.cell? at h;rw [e,hm] at h;cases h
 have J:=aQy _ _ h;have:=ax.block p.block J (fun e=>I (by injection e));unfold World.cell? at h |-;rw [this];exact h
theorem aeQ.grown {L:Dn} (h:aeQ w L ps ns) {n:Nat} (hm:eQ w prog 330 Value.bool L.g n M) (ax:w.grownBy w' (some L.g)):aeQ w' L ps ns:=by obtain⟨es,J,I,_⟩:=hm;exact⟨cell_grown I ax h.iC,cell_grown I ax h.El,cell_grown I ax h.Ed,cell_grown I ax h.R4,h.akx.keep fun b o u _ hu=>cell_grown I ax hu,h.rn.keep fun b o u _ hu=>cell_grown I ax hu⟩
theorem atr {r:Option Nat} (ae:Below B w w') (bg:w.heap.size<=B):w.grownBy w' r:=⟨ae.os,ae.tape,ae.output,ae.size,fun i I _=>ae.block i om⟩
theorem eQ.tight {enc:α->Value} {P:Program} {k:TypeId} {b n:Nat} {M:fu α} (h:eQ w P k enc b n M):eQ w P k enc b M.length M:=by obtain⟨es,clock,J,F,hs,I⟩:=h;refine⟨es,clock,J,F,?_,I⟩;have h1:=congrArg Maps.size I;rw [Ty] at h1;rw [h1,size_eq,length_sorted,List.length_map,Array.length_toList];exact aQm _
def Xp:List ak:=(List.range 17).flatMap fun i=>(List.range 17).map (Fg i)
theorem aGB:Xp.length=289:=by rfl
theorem aGC (ay:i<=16) (hk:k<=16):Fg i k∈Xp:=aQY.2 ⟨i,aQK.2 om,aQv.2 ⟨k,aQK.2 om,rfl⟩⟩
structure tK (dN w:aRB) (L:Dn) (ps ns:List ak):Prop where
 at_:aeQ w L ps ns
 map:∃ M,eQ w prog 330 Value.bool L.g M.length M/\Xo ps ns M/\∀ x∈M,x.1∈Xp
 grown:dN.grownBy w (some L.g)
theorem tK.below {dN:aRB} {L:Dn} (h:tK dN w L ps ns) (ae:Bl w w'):tK dN w' L ps ns:=by obtain⟨M,hm,I⟩:=h.map;exact⟨h.at_.grown hm (atr ae (aQm _)),⟨M,hm.below ae hm.lt,I⟩,F8 h.grown (atr ae (aQm _))⟩
theorem tK.self {dN:aRB} {L:Dn} (h:tK dN w L ps ns):tK w w L ps ns:=⟨h.at_,h.map,⟨rfl,rfl,rfl,aQm _,fun _ _ _=>rfl⟩⟩
theorem tK.trans {dN aF:aRB} {L:Dn} (h:tK dN aF L ps ns) (mR:tK aF w L ps ns):tK dN w L ps ns:=⟨mR.at_,mR.map,F8 h.grown mR.grown⟩
theorem tK.small {dN:aRB} {L:Dn} (h:tK dN w L ps ns):∃ M n,eQ w prog 330 Value.bool L.g n M/\n < maxLen/\Xo ps ns M/\∀ x∈M,x.1∈Xp:=by
 obtain⟨M,hm,I,hk⟩:=h.map;refine⟨M,_,hm,?_,I,hk⟩;have:=Xa (akd (hm.A8 aaH)) (m:=Xp) fun x ah=>by
  obtain⟨y,hy,rfl⟩:=aQv.1 ah;exact hk y hy
 rw [aGB,List.length_map] at this;unfold maxLen;omega
theorem tK.note {dN:aRB} {L:Dn} {n:Nat} {b:Bool} (h:tK dN w L ps ns) (apB:eQ w prog 330 Value.bool L.g n M) (aj:Xo ps ns M) (aL:∀ x∈M,x.1∈Xp) (ay:i<=16) (hk:k<=16)
  (hm:eQ w' prog 330 Value.bool L.g (n+1) (oz M (Fg i k) b)) (ae:b = !wy (ps.drop i) (ns.drop k)) (aA:fU L.g w w'):tK dN w' L ps ns:=by
 have ax:w.grownBy w' (some L.g):=⟨aA.1,aA.2.1,aA.2.2.1,aQL aA.2.2.2.1.symm,fun b _ I=>aA.2.2.2.2 b fun e=>I (by rw [e])⟩;refine⟨h.at_.grown apB ax,⟨_,hm.tight,by rw [ae];exact aj.put ay hk,fun x ah=>?_⟩,F8 h.grown ax⟩;rcases Xf ah with rfl | ah
 ·exact aGC ay hk
 ·exact aL x (aQ8.1 ah).1
theorem att {b o n:Nat} {row:List fA} (h:Rd w 1 (some ⟨b,o,none⟩) n (cu row)) {q:Nat} {x:fA} (ah:row[q]?=some x):w.cell? (ad b (o+q))=some (.string (az x)):=by obtain⟨b',I,e,hc⟩:=Mt h ah;cases e;exact hc
theorem aeR {l:List α} {x:α} (h:l[i]?=some x):l.drop i=x :: l.drop (i+1):=by obtain⟨hl,rfl⟩:=aQs.1 h;exact List.drop_eq_getElem_cons hl
theorem aky (q:ak) (ps ns:List ak):wy (q :: ps) ns=if q≠[42,42] then (match ns with | []=>false | x :: xs=>TZ q x && wy ps xs) else if ps.isEmpty then !ns.isEmpty else wy ps ns || (match ns with | []=>false | _ :: xs=>wy (q :: ps) xs):=by rw [wy.eq_def];rfl
theorem aGD (ay:i=ps.length) (hk:k<=ns.length):wy (ps.drop i) (ns.drop k)=((k:Int) == (ns.length:Int)):=by rw [ay,List.drop_length,wy,Bool.eq_iff_iff,List.isEmpty_iff,List.drop_eq_nil_iff];simp;omega
theorem aGE {p:ak} (aL:ps[i]?=some p) (h:p≠[42,42]):wy (ps.drop i) (ns.drop k)=match ns[k]? with | none=>false | some x=>TZ p x && wy (ps.drop (i+1)) (ns.drop (k+1)):=by
 rw [aeR aL,aky,if_pos h];cases ah:ns[k]? with
 | none=>rw [List.drop_of_length_le (List.getElem?_eq_none_iff.1 ah)]
 | some x=>rw [aeR ah]
theorem aGF (aL:ps[i]?=some [42,42]) (h:i+1=ps.length):wy (ps.drop i) (ns.drop k)=decide (k < ns.length):=by rw [aeR aL,aky,if_neg sp,h,List.drop_length,if_pos (show ([]:List ak).isEmpty=true from rfl)];rw [Bool.eq_iff_iff];simp [List.drop_eq_nil_iff]
theorem aGG (aL:ps[i]?=some [42,42]) (h:i+1 < ps.length):wy (ps.drop i) (ns.drop k)=(wy (ps.drop (i+1)) (ns.drop k) || (decide (k < ns.length) && wy (ps.drop i) (ns.drop (k+1)))):=by
 rw [aeR aL,aky,if_neg sp,if_neg (by rw [List.isEmpty_iff,List.drop_eq_nil_iff];omega)];by_cases hk:k < ns.length
 ·rw [List.drop_eq_getElem_cons hk];simp [hk]
 ·have e:=List.drop_of_length_le (show ns.length<=k by omega);rw [e];simp [hk]
theorem atu (L:Dn) (ps ns:List ak) (i k:Nat) (w:aRB) (ay:i=ps.length) (hk:k<=ns.length) (wS:tK w w L ps ns) :
  Calls prog 230 #[.int .i64 i,.int .i64 k,pp L.a 0,pp L.b 0,pp L.m 0,pp L.f 0] w fun e w'=>e = .returned (.bool (wy (ps.drop i) (ns.drop k)))/\tK w w' L ps ns:=by
 obtain⟨a,b,m,f,A,c,B,d,g⟩:=L;rw [aGD ay hk];have I:=wS.at_.iC;have c1:=wS.at_.El;obtain⟨M,J,N,Y⟩:=nq2 ps.length ns.length;rw [<- J] at I ay;rw [<- Y] at c1 |-;have AA:((i:Int) == (M:Int))=true:=by simp;omega
 have A7:=aa wS;simp only at I c1 |-;clear wS J Y hk ay;go_enter func230,ntmps230;go_wp2_with fail;go_ret;exact⟨rfl,A7.o⟩
theorem aGH (L:Dn) (ps ns:List ak) (aL:ps.length<=16) (aB:ns.length<=16) (yE:∀ x∈ps,x.length<=1000) (G7:∀ x∈ns,x.length<=1000):∀ (s i k:Nat) (w:aRB),i<=ps.length->k<=ns.length->(ps.length - i)+(ns.length - k)<=s->tK w w L ps ns ->
  Calls prog 230 #[.int .i64 i,.int .i64 k,pp L.a 0,pp L.b 0,pp L.m 0,pp L.f 0] w fun e w'=>e = .returned (.bool (wy (ps.drop i) (ns.drop k)))/\tK w w' L ps ns:=by
 intro s;induction s with
 | zero =>
  intro i k w Ap hk hs Y;exact atu L ps ns i k w om hk Y
 | succ s BX =>
  intro i k w Ap hk hs Y;by_cases Aw:i=ps.length
  ·exact atu L ps ns i k w Aw hk Y
  ·obtain⟨p,AJ⟩:∃ p,ps[i]?=some p:=⟨_,aQp om⟩;obtain⟨M,hm,aj,_⟩:=Y.map;obtain⟨v,AL⟩:=ai ((getM M (Fg i k)).getD false);have Bf:=aGA hm (i:=i) (k:=k) om om;rw [<- AL] at Bf;obtain⟨R,aK⟩:=ai (wy (ps.drop i) (ns.drop k));rw [<- aK];have Ay:v=true->R=false:=fun h=>by
    rw [aK];exact aj i k om om (by
     rw [h] at AL;cases ax:getM M (Fg i k) with
     | none=>rw [ax] at AL;cases AL
     | some x=>rw [ax] at AL;exact congrArg some AL.symm)
   have Ab:=fun (W:aRB) (h:tK W W L ps ns)=>BX (i+1) k W om hk om h;have Ad:=fun (W:aRB) (AV:k < ns.length) (h:tK W W L ps ns)=>BX i (k+1) W Ap om om h;have Ae:=fun (W:aRB) (AV:k < ns.length) (h:tK W W L ps ns)=>BX (i+1) (k+1) W om om om h;clear BX;simp only [Int.natCast_add,Int.cast_ofNat_Int] at Ab Ad Ae;obtain⟨gK,A7,hA,BH⟩:=Mt Y.at_.akx AJ;obtain⟨a,b,m,f,A,c,B,d,g⟩:=L;simp only at hA;subst hA;have Aq:=Y.at_.iC;have c1:=Y.at_.El;have c2:=Y.at_.Ed;have bF:=Y.at_.R4;obtain⟨Af,Au⟩:∃ M,M=ps.length:=⟨_,rfl⟩;obtain⟨I,AZ⟩:∃ N,N=ns.length:=⟨_,rfl⟩;rw [<- Au] at Aq;rw [<- AZ] at c1;have DL:((i:Int) == (Af:Int))=false:=by simp;omega
   have DN:(i:Int) < Af:=om;have DR:(0:Int)<=i:=om;have DW:(0:Int)<=k:=om;simp only [Dn.ptrs] at Aq c1 c2 bF Bf Ab Ad Ae |-;rw [Xm] at Bf;have Ag:=aa Y;have Co:=aa Ay;cases v with
   | true =>
    clear Y Ay hm aj AL aK yE G7 Au AZ aL aB AJ BH Aw Ap hk hs Ab Ad Ae;go_enter func230,ntmps230;go_wp2_with fail;go_ret;exact⟨by rw [Co.o trivial];rfl,Ag.o⟩
   | false =>
    by_cases Az:p=[42,42]
    ·have Bi:((az p).toList == ([42,42]:aRH))=true:=by rw [ByteArray.toList_eq,gU,Az];rfl
     obtain⟨P,Aa⟩:=ai (az p);rw [<- Aa] at BH Bi;subst Az;by_cases CV:i+1=Af
     ·have Cs:((i:Int) == wrap64 ((Af:Int) - 1))=true:=by rw [IntWalk.wrap64_in _ om];simp;omega
      have AA:=aa (aK.trans (aGF AJ om));have BI:=aa AZ;clear Y Ay hm aj AL aK yE G7 Au AZ aL aB AJ Aw Ap hk hs CV Aa Ab Ad Ae;go_enter func230,ntmps230;go_wp2_with fail;go_ret;exact⟨by rw [AA.o,<- BI.o];rfl,Ag.o⟩
     ·have Cs:((i:Int) == wrap64 ((Af:Int) - 1))=false:=by rw [IntWalk.wrap64_in _ om];simp;omega
      have AA:=aa (aK.trans (aGG AJ om));obtain⟨Bn,Bo,Bp,BI⟩:=hq4 aK Ab Ad AZ;have BA:=aa (show i<=16/\k<=16 by omega);have Ct:(i:Int)<=16:=om;have Cv:(k:Int)<=16:=om;obtain⟨Cw,Bq⟩:=ai (wy (ps.drop (i+1)) (ns.drop k));obtain⟨CW,Br⟩:=ai (wy (ps.drop i) (ns.drop (k+1)));skip;have Bt:=aa Bq.symm;have Cz:=aa Br.symm;rw [<- Bq,<- Br] at AA;have Bu:=aa (show ∀ a b,Value.bool a=Value.bool b->a=b from fun a b e=>by injection e);have Bb:=aa (keyOf_pair (show i<=1000 by omega) (show k<=1000 by omega));rw [Xm] at Bb;have Bv:=aa (fun (af:aRB) (h:tK w af ⟨a,b,m,f,some ⟨gK,A7,none⟩,c,B,d,g⟩ ps ns)=>show af.cell? (ad b 0)=some (.slice B I d) by rw [BI.o];exact h.at_.El);have CZ:=aa (show decide (k < ns.length)=decide (k < I) by rw [BI.o]);clear Y Ay hm aj AL aK yE G7 Au aL aB AJ Aw Ap hk hs CV Aa Ab Ad Ae Bq Br AZ;cases Cw with
      | true =>
       clear Bp;go_enter func230,ntmps230;go_wp2_with (first
        | ((with_reducible refine (Bo.o w Ag.o).mono ?_);rintro e w1 ⟨Ah,Ai⟩;rw [Bt.o] at Ah;subst Ah;have J:=aa Ai;clear Ai Aq c1 c2 bF;have c1:=Bv.o w1 J.o;have c2:=J.o.at_.Ed;have bF:=J.o.at_.R4;simp only [Dn.ptrs] at c2 bF;obtain⟨Ca,Cb,AO,AP,Ak,Al⟩:=J.o.small;obtain⟨BJ,Ce,BK,BL⟩:=hq4 AO AP Ak Al;obtain⟨Cf,Cg,Am,Ao⟩:=AO.adz Bu.o aaH underlying328 AP Bb.o (false);have BM:=aa Am;have BO:=aa Ao;clear Am Ao AO AP Ak Al))
       go_ret;exact⟨by rw [AA.o];rfl,J.o.note BJ.o BK.o BL.o BA.o.1 BA.o.2 BM.o (by rw [<- Bn.o,AA.o];rfl) BO.o⟩
      | false =>
       by_cases AV:k < I
       ·have DD:=aa (show k < ns.length by rw [<- BI.o];exact AV);have Ci:(k:Int) < I:=om;have BP:=aa (show R=CW by rw [AA.o,CZ.o,decide_eq_true AV];rfl);go_enter func230,ntmps230;go_wp2_with (first
         | ((with_reducible refine (Bo.o w Ag.o).mono ?_);rintro e w1 ⟨Ah,Ai⟩;rw [Bt.o] at Ah;subst Ah;have J:=aa Ai;clear Ai Aq c1 c2 bF;have c1:=Bv.o w1 J.o;have c2:=J.o.at_.Ed;have bF:=J.o.at_.R4;simp only [Dn.ptrs] at c2 bF)
         | ((with_reducible refine (Bp.o w1 DD.o J.o.self).mono ?_);rintro e af ⟨Ck,Cm⟩;rw [Cz.o] at Ck;subst Ck;have Bw:=aa (J.o.trans Cm);clear Cm c1 c2 bF;have c2:=Bw.o.at_.Ed;simp only at c2;obtain⟨Ca,Cb,AO,AP,Ak,Al⟩:=Bw.o.small;obtain⟨BJ,Ce,BK,BL⟩:=hq4 AO AP Ak Al;obtain⟨Cf,Cg,Am,Ao⟩:=AO.adz Bu.o aaH underlying328 AP Bb.o (!CW);have BM:=aa Am;have BO:=aa Ao;clear Am Ao AO AP Ak Al))
        go_ret;exact⟨by rw [BP.o];rfl,Bw.o.note BJ.o BK.o BL.o BA.o.1 BA.o.2 BM.o (by rw [<- Bn.o,BP.o]) BO.o⟩
       ·have Ci:¬ (k:Int) < I:=om;have BP:=aa (show R=false by rw [AA.o,CZ.o,decide_eq_false AV];rfl);clear Bp;go_enter func230,ntmps230;go_wp2_with (first
         | ((with_reducible refine (Bo.o w Ag.o).mono ?_);rintro e w1 ⟨Ah,Ai⟩;rw [Bt.o] at Ah;subst Ah;have J:=aa Ai;clear Ai Aq c1 c2 bF;have c1:=Bv.o w1 J.o;have c2:=J.o.at_.Ed;have bF:=J.o.at_.R4;simp only [Dn.ptrs] at c2 bF;obtain⟨Ca,Cb,AO,AP,Ak,Al⟩:=J.o.small;obtain⟨BJ,Ce,BK,BL⟩:=hq4 AO AP Ak Al;obtain⟨Cf,Cg,Am,Ao⟩:=AO.adz Bu.o aaH underlying328 AP Bb.o (true);have BM:=aa Am;have BO:=aa Ao;clear Am Ao AO AP Ak Al))
        go_ret;exact⟨by rw [BP.o];rfl,J.o.note BJ.o BK.o BL.o BA.o.1 BA.o.2 BM.o (by rw [<- Bn.o,BP.o];rfl) BO.o⟩
    ·have Bi:((az p).toList == ([42,42]:aRH))=false:=by rw [ByteArray.toList_eq,gU];simpa using Az
     obtain⟨P,Aa⟩:=ai (az p);rw [<- Aa] at BH Bi;have AA:=aa (aK.trans (aGE AJ Az));by_cases AV:k < I
     ·have DF:decide (k < I)=true:=by simpa using AV
      have Ci:(k:Int) < I:=om;have C8:k < ns.length:=om;obtain⟨x,ah⟩:∃ x,ns[k]?=some x:=⟨_,aQp C8⟩;obtain⟨nW,AB,bg,C9⟩:=Mt Y.at_.rn ah;simp only at bg;subst bg;obtain⟨S,CE,o,CJ⟩:=nq2 (az x) (TZ p x);obtain⟨Bc,CK⟩:=ai (wy (ps.drop (i+1)) (ns.drop (k+1)));have Bd:=aa (show R=(o && Bc) by rw [AA.o,ah,CJ,CK]);have CL:=fun (W:aRB)=>aCq W p x (yE p (aQr AJ)) (G7 x (aQr ah));have CS:=aa (fun (W:aRB) (h:tK W W ⟨a,b,m,f,some ⟨gK,A7,none⟩,c,some ⟨nW,AB,none⟩,d,g⟩ ps ns)=>Ae W C8 h);have BF:=fun (af:aRB) (h:tK w af ⟨a,b,m,f,some ⟨gK,A7,none⟩,c,some ⟨nW,AB,none⟩,d,g⟩ ps ns)=>show af.cell? (ad a 0)=some (.slice (some ⟨gK,A7,none⟩) Af c)/\af.cell? (ad b 0)=some (.slice (some ⟨nW,AB,none⟩) I d)/\af.cell? (ad f 0)=_/\af.cell? (ad gK (A7+i))=some (.string P)/\af.cell? (ad nW (AB+k))=some (.string S) from
       ⟨by rw [Au];exact h.at_.iC,by rw [AZ];exact h.at_.El,h.at_.R4,by rw [Aa];exact att h.at_.akx AJ,by rw [CE];exact att h.at_.rn ah⟩
      simp only [Dn.ptrs] at BF;rw [<- Aa,<- CE,<- CJ] at CL;rw [<- CK] at CS;have Cn:=aa CL;have BG:=aa BF;have Ct:(i:Int)<=16:=om;have Cv:(k:Int)<=16:=om;clear Y Ay hm aj AL aK yE G7 Au AZ aL aB AJ Aw Ap hk hs Aa Az AA AV Ab Ad Ae BF CL ah C9 CE CJ CK C8;cases o with
      | false =>
       clear CS;go_enter func230,ntmps230;go_wp2_with fail;have kE:=BG;refine ng nE 24 [some (.int .i64 k),some (.slice (some ⟨nW,AB,none⟩) I d),some (.int .i64 I),some (.bool true),some (.bool true),some (.slice (some ⟨gK,A7,none⟩) Af c),some (.int .i64 i),some (pp gK (A7+i)),some (.string P),some (.slice (some ⟨nW,AB,none⟩) I d),some (.int .i64 k),some (pp nW (AB+k)),some (.string S),some (.bool false),some (.bool false),some (.bool false),some (undef),some (undef),some (undef),some (undef),some (undef),some (undef),some (.bool false),some (.bool false)] (fun _ _ _=>False) (fun af=>tK w af ⟨a,b,m,f,some ⟨gK,A7,none⟩,c,some ⟨nW,AB,none⟩,d,g⟩ ps ns) (fun _ _=>True) (Ag.o.below (below_drewN (Below.refl _ _) 1)) (fun j v w1 af ae h=>h.elim) ?_ (jJ:=?_)
       ·intro u af aj CU;clear CU;go_wp2_with fail;go_ret;exact⟨by rw [Bd.o];rfl,aj⟩
       ·repeat' (first | exact trivial | apply And.intro)
        all_goals try exact rx
        all_goals intro eH u af aj aK bz K aS
        all_goals try simp [iY,Region.binds] at bz
        all_goals first | refine mf rfl ?_ | simp [Region.wanted,yielded,aK,bz] | simp [Region.wanted,yielded]
        all_goals obtain⟨Aq,c1,bF,BH,C9⟩:=BG.o af aj
        ·go_simp;refine (Cn.o af).mono ?_;rintro e aC ⟨rfl,BQ⟩;exact aS _ _ rfl (aj.below BQ) trivial
      | true =>
       go_enter func230,ntmps230;go_wp2_with fail;have kE:=BG;refine ng nE 24 [some (.int .i64 k),some (.slice (some ⟨nW,AB,none⟩) I d),some (.int .i64 I),some (.bool true),some (.bool true),some (.slice (some ⟨gK,A7,none⟩) Af c),some (.int .i64 i),some (pp gK (A7+i)),some (.string P),some (.slice (some ⟨nW,AB,none⟩) I d),some (.int .i64 k),some (pp nW (AB+k)),some (.string S),some (.bool true),some (.bool true),some (.bool true),some (.func (.func 230) #[] #[pp a 0,pp b 0,pp m 0,pp f 0]),some (.int .i64 i),some (.int .i64 ((i:Int)+1)),some (.int .i64 k),some (.int .i64 ((k:Int)+1)),some (.bool Bc),some (.bool Bc),some (.bool Bc)] (fun _ _ _=>False) (fun af=>tK w af ⟨a,b,m,f,some ⟨gK,A7,none⟩,c,some ⟨nW,AB,none⟩,d,g⟩ ps ns) (fun _ _=>True) (Ag.o.below (below_drewN (Below.refl _ _) 1)) (fun j v w1 af ae h=>h.elim) ?_ (jJ:=?_)
       ·intro u af aj CU;clear CU;go_wp2_with fail;go_ret;exact⟨by rw [Bd.o];rfl,aj⟩
       ·repeat' (first | exact trivial | apply And.intro)
        all_goals try exact rx
        all_goals intro eH u af aj aK bz K aS
        all_goals try simp [iY,Region.binds] at bz
        all_goals first | refine mf rfl ?_ | simp [Region.wanted,yielded,aK,bz] | simp [Region.wanted,yielded]
        all_goals obtain⟨Aq,c1,bF,BH,C9⟩:=BG.o af aj
        ·go_simp;refine (Cn.o af).mono ?_;rintro e aC ⟨rfl,BQ⟩;exact aS _ _ rfl (aj.below BQ) trivial
        ·go_simp;rw [IntWalk.i64_left,IntWalk.wrap64_in _ om];exact aS _ _ rfl aj trivial
        ·go_simp;rw [IntWalk.i64_left,IntWalk.wrap64_in _ om];exact aS _ _ rfl aj trivial
        ·go_simp;refine (CS.o af aj.self).mono ?_;rintro e aC ⟨rfl,BQ⟩;exact aS _ _ rfl (aj.trans BQ) trivial
     ·have DF:decide (k < I)=false:=by simpa using AV
      have Bd:=aa (show R=false by rw [AA.o,List.getElem?_eq_none om]);have BF:=fun (af:aRB) (h:tK w af ⟨a,b,m,f,some ⟨gK,A7,none⟩,c,B,d,g⟩ ps ns)=>show af.cell? (ad b 0)=some (.slice B I d) by have:=h.at_.El;rwa [<- AZ] at this
      have BG:=aa BF;clear Y Ay hm aj AL aK yE G7 Au AZ aL aB AJ Aw Ap hk hs Aa Az AA AV Ab Ad Ae BF;go_enter func230,ntmps230;go_wp2_with fail;have kE:=aa fun (af:aRB) (aj:tK w af ⟨a,b,m,f,some ⟨gK,A7,none⟩,c,B,d,g⟩ ps ns)=>BG.o af aj;refine qE 24 [_,_,_,_,_,_,_,_,_,_,_,_,_,_,_,_,_,_,_,_,_,_,_,_] (fun af=>tK w af ⟨a,b,m,f,some ⟨gK,A7,none⟩,c,B,d,g⟩ ps ns) (Ag.o.below (below_drewN (Below.refl _ _) 1)) ?_;intro af aj;go_wp2_with fail;go_ret;exact⟨by rw [Bd.o];rfl,aj⟩
theorem atA:∀ l:List UInt8,vg l=jg (· == 47) l
 | []=>rfl
 | c :: l=>by
  unfold vg jg;rw [atA l];by_cases h:c=47
  ·simp [h]
  ·rw [if_neg h,if_neg (by simpa using h)];cases jg (· == 47) l <;> rfl
theorem atB {s:ak} (h:eF s=true):(jg (· == 47) s).length<=16/\∀ x∈jg (· == 47) s,x.length<=1000:=by rw [eF,atA,Bool.and_eq_true,List.all_eq_true] at h;refine⟨by simpa using h.2,fun x ah=>?_⟩;have:=h.1 x ah;simp only [DJ,Bool.and_eq_true,decide_eq_true_eq] at this;omega
theorem aGK {s:ak} (h:G9 s=true):(jg (· == 47) s).length<=16/\∀ x∈jg (· == 47) s,x.length<=1000:=by
 rw [G9,Bool.and_eq_true,Bool.not_eq_true',List.any_eq_false] at h;refine⟨by simpa using h.1,fun x ah=>?_⟩;have:=h.2 x ah;rw [Bool.not_eq_true',Bool.not_eq_false] at this;unfold EF at this;split at this
 ·rename_i e;subst e;decide
 ·split at this
  ·cases this
  ·simp only [YM,Bool.and_eq_true,decide_eq_true_eq] at this;omega
theorem aGL {iZ nZ yU M0:Obj} (h:W=(((w.alloc iZ).alloc nZ).alloc yU).alloc M0):W.heap[w.heap.size]?=some iZ/\W.heap[w.heap.size+1]?=some nZ/\W.heap[w.heap.size+1+1]?=some yU/\W.heap[w.heap.size+1+1+1]?=some M0/\Bl w W:=by
 subst h;have s1:(w.alloc iZ).heap.size=w.heap.size+1:=by simp
 have s2:((w.alloc iZ).alloc nZ).heap.size=w.heap.size+1+1:=by simp
 have I:(((w.alloc iZ).alloc nZ).alloc yU).heap.size=w.heap.size+1+1+1:=by simp
 have k:=fun (w:aRB) (o x:Obj) (b:Nat) (h:w.heap[b]?=some x)=>show (w.alloc o).heap[b]?=some x from (aQN w o b (ic h)).trans h
 have J:=aQt w iZ;have a2:=aQt (w.alloc iZ) nZ;have a3:=aQt ((w.alloc iZ).alloc nZ) yU;have a4:=aQt (((w.alloc iZ).alloc nZ).alloc yU) M0;rw [s1] at a2;rw [s2] at a3;rw [I] at a4;exact⟨k _ _ _ _ (k _ _ _ _ (k _ _ _ _ J)),k _ _ _ _ (k _ _ _ _ a2),k _ _ _ _ a3,a4,(((gK.alloc om _).alloc om _).alloc om _)⟩
theorem aGM {aC bK:aRB} {B:aRC} {d:Nat} (CW:Rd aC 1 A ps.length (cu ps)) (OG:Rd bK 1 B ns.length (cu ns)) (ae:Below (aC.heap.size+1) (aC.alloc (.cells #[.slice A ps.length c] 24)) bK) (fV:aRB)
  (bC:fV=(((bK.alloc (.cells #[.slice B ns.length d] 24)).alloc (.map #[] 0)).alloc (.cells #[.map (some (bK.heap.size+1))] 328)).alloc (.cells #[.func (.func 230) #[] #[pp aC.heap.size 0,pp bK.heap.size 0,pp (bK.heap.size+1+1) 0,pp (bK.heap.size+1+1+1) 0]] 329)) :
  tK fV fV ⟨aC.heap.size,bK.heap.size,bK.heap.size+1+1,bK.heap.size+1+1+1,A,c,B,d,bK.heap.size+1⟩ ps ns/\Bl bK fV:=by
 obtain⟨g1,g2,g3,g4,I⟩:=aGL bC;have M:aC.heap.size+1<=bK.heap.size:=by have:=ae.size;simpa using this
 have J:bK.heap[aC.heap.size]?=some (.cells #[.slice A ps.length c] 24):=(ae.block _ om).trans (aQt aC _);have g0:=(I.block _ om).trans J;refine⟨⟨⟨(aQo fV _ 0 _ _ _ g0).trans rfl,(aQo fV _ 0 _ _ _ g1).trans rfl,(aQo fV _ 0 _ _ _ g3).trans rfl,(aQo fV _ 0 _ _ _ g4).trans rfl,?_,OG.gp I⟩,⟨[],?_,fun i k _ _ e=>by simp [getM] at e,by simp⟩,⟨rfl,rfl,rfl,aQm _,fun _ _ _=>rfl⟩⟩,I⟩
 ·exact ((CW.alloc _).below ae fun b _ h=>by simpa using h).gp I
 ·exact⟨#[],0,g2,⟨by simp,stamped_empty 0,by simp⟩,aQm _,rfl⟩
theorem aGN (w:aRB) (p s:fA) (aL:p.length<=1100000) (hs:s.length<=1100000) (aj:qK w) :
  CB 195 #[.string (az p),.string (az s)] w (.bool (PW p s)):=by
 have h1:=aqy w p aL aj;have Ae:=fun (W:aRB)=>OZ (v:=eF s) W (az s) s (by rw [iM];exact hs) (gU s) rfl;have M:=fun W (ae:Below w.heap.size w W)=>aiB W p om (aj.on ae);have Af:=fun W (ae:Below w.heap.size w W)=>aiB W s om (aj.on ae);obtain⟨R,Ag⟩:=ai (PW p s);have AB:=Ag;rw [PW] at AB;rw [<- Ag];have ax:=aGK (s:=p);have ae:=atB (s:=s);obtain⟨ps,AJ,ns,AL,a,AO⟩:=nq3 (jg (· == 47) p) (jg (· == 47) s) (G9 p);obtain⟨b,AP⟩:∃ a,a=eF s:=⟨_,rfl⟩;obtain⟨P,AV,S,AZ⟩:=nq2 (az p) (az s);rw [<- AJ,<- AV] at M;rw [<- AL,<- AZ] at Af;rw [<- AJ,<- AL,<- AO,<- AP] at AB;rw [<- AO,<- AV] at h1;rw [<- AP,<- AZ] at Ae;rw [<- AO,<- AJ] at ax;rw [<- AP,<- AL] at ae;rw [<- AV,<- AZ];obtain⟨H1,Am,Az,BA,Ao,Ap,Ah⟩:=hq7 h1 Ae M Af ax ae AB;clear h1 Ae M Af ax ae AB Ag AJ AL AO AP AV AZ aj;cases a with
 | false =>
  have Y:=aa (show R=false by rw [Ah.o];rfl);go_enter func195,ntmps195;go_wp2_with (first | (go_at_call 110; refine jw H1.o ?_;intro w1 A7));go_ret;exact⟨by rw [Y.o];rfl,A7.o⟩
 | true =>
  cases b with
  | false =>
   have Y:=aa (show R=false by rw [Ah.o];rfl);go_enter func195,ntmps195;go_wp2_with (first
    | (go_at_call 110; refine jw H1.o ?_;intro w1 A7)
    | (go_at_call 43; refine (Am.o _).mono ?_;rintro e af ⟨rfl,AA⟩;have Aa:=aa (aR A7.o AA);clear AA))
   go_ret;exact⟨by rw [Y.o];rfl,Aa.o⟩
  | true =>
   have BK:=@run_makeMap prog;have BL:=fun (a:Addr) (f:Fn) (mM iC:Array Value) (w:aRB) (m:Mode)=>run_store prog w a (.func f mM iC) m rfl;have Y:=aa (show R=wy (ps.drop 0) (ns.drop 0) by rw [Ah.o];rfl);go_enter func195,ntmps195;go_wp2_with (first
    | (go_at_call 110; refine jw H1.o ?_;intro w1 A7)
    | (go_at_call 43; refine (Am.o _).mono ?_;rintro e af ⟨rfl,AA⟩;have Aa:=aa (aR A7.o AA);clear AA)
    | ((with_reducible refine (Az.o af Aa.o).mono ?_);rintro e aC ⟨A,c,rfl,Aq,Au⟩;have BF:=aa Aq;have Ab:=aa (aR Aa.o Au);clear Aq Au)
    | ((with_reducible refine (BA.o (aC.alloc (.cells #[.slice A ps.length c] 24)) (Ab.o.alloc Ab.o.size _)).mono ?_);rintro e I ⟨B,d,rfl,Aw,J⟩;have BG:=aa Aw;have BH:=aa J;clear Aw J))
   obtain⟨Ad,Ai⟩:=ai ((((I.alloc (.cells #[.slice B ns.length d] 24)).alloc (.map #[] 0)).alloc (.cells #[.map (some (I.heap.size+1))] 328)).alloc (.cells #[.func (.func 230) #[] #[pp aC.heap.size 0,pp I.heap.size 0,pp (I.heap.size+1+1) 0,pp (I.heap.size+1+1+1) 0]] 329));have J:Below (aC.heap.size+1) (aC.alloc (.cells #[.slice A ps.length c] 24)) I:=BH.o.mono (aQL sp);have Ak:=aGM BF.o.rd BG.o.rd J Ad Ai;rw [<- Ai];have hc:=aGH _ ps ns (Ao.o trivial).1 (Ap.o trivial).1 (Ao.o trivial).2 (Ap.o trivial).2 (ps.length+ns.length) 0 0 Ad (aQu _) (aQu _) om Ak.1;refine Calls.mono (show Calls prog 230 #[.int .i64 0,.int .i64 0,pp aC.heap.size 0,pp I.heap.size 0,pp (I.heap.size+1+1) 0,pp (I.heap.size+1+1+1) 0] Ad _ from hc) ?_;rintro e BM ⟨rfl,Ay⟩;rw [<- Y.o];have M:=Ab.o.size;have Al:Bl w Ad:=((Ab.o.alloc M _).trans (J.mono om)).trans (Ak.2.mono (by have:=J.size;simp at this;omega));have BI:=aa (Al.grown Ay.grown Al.size fun b e=>by have BJ:=aQS e;have:=J.size;simp at this BJ;omega);clear Ay Al hc Ak J Ai;go_wp2_with fail;go_ret;exact⟨rfl,BI.o⟩
end
section
open Go.RowKit Go.Shelf
theorem aeV (w:aRB) (A:aRC) (n c:Nat) (X:aRD) (av:Rd w 1 A n X) (iV:∀ v∈X,v.oneCell'=true) (hl:n<=1000000) :
  Calls prog 35 #[.slice A n c] w fun e w'=>∃ A' c',e = .returned (.slice A' n c')/\Own w' w.heap.size 9 1 A' n c' X/\Bl w w':=by
 have I:∀ (W:aRB),(binOp .eql 24 (.slice A n c) (.slice none 0 0)).run prog W = .ok (.bool A.isNone) W:=fun W=>aRn W _ _ A n c 0 0 underlying24;cases A with
 | none =>
  obtain⟨rfl,rfl⟩:=adT av;have M:∀ (W:aRB),(binOp .eql 24 (.slice none 0 c) (.slice none 0 0)).run prog W = .ok (.bool true) W:=I;clear I av;go_enter func35,ntmps35;go_wp2_with fail;go_ret;exact⟨none,0,rfl,Own.nil _ _ _ _,Below.refl _ _⟩
 | some a =>
  have M:∀ (W:aRB),(binOp .eql 24 (.slice (some a) n c) (.slice none 0 0)).run prog W = .ok (.bool false) W:=I;clear I;go_enter func35,ntmps35;go_wp2_with (at_builtin;have _t:=av;go_must ((with_reducible refine ve 9 _ 1 16 underlying24 Av.info Av.zs w.heap.size (some ⟨w.heap.size,0,none⟩) 0 0 [] (Own.lit w #[] _ 1 0 _ (aQm _) dc rfl) n X (.slice (some a) n c) (Src.slice underlying24 (av.gp ((Below.refl _ w).alloc (aQm _) _))) iV ?_ ?_ ?_ ?_ ?_);exact mO;omega;simp;exact⟨rfl,rfl⟩;intro cO bF aC J Y A7));refine aQx (aQX rfl _ _ _) rfl ?_;rw [List.nil_append,Nat.zero_add] at J;exact⟨cO,bF,rfl,J,((Below.refl _ w).alloc (aQm _) _).grown Y sp (fun k e=>by cases e;exact aQm _)⟩
def U8 (ins asks outs:List ak) (p:ak):Bool:=if outs.contains p then false else ins.contains p || asks.any (fun x=>PW x p)
structure Lr where
 o:Nat
 i:Nat
 a:Nat
def Lr.fn (l:Lr):Value:=.func (.func 193) #[] #[pp l.o 0,pp l.i 0,pp l.a 0]
structure sO (w:aRB) (B g:Nat) (l:List ak):Prop where
 far:B<=g
 row:∃ A c,aM w g [.slice A l.length c] 24 /\ Own w B 9 1 A l.length c (cu l)
structure Ls (w:aRB) (B:Nat) (l:Lr) (ins asks outs:List ak):Prop where
 o:sO w B l.o outs
 i:sO w B l.i ins
 a:sO w B l.a asks
theorem sO.below (h:sO w B g l) (ae:Bl w w'):sO w' B g l:=by obtain⟨A,c,h1,I⟩:=h.row;exact⟨h.far,A,c,h1.all ae,I.below ae (aQm _)⟩
theorem Ls.below {l:Lr} {asks:List ak} (h:Ls w B l ins asks outs) (ae:Bl w w'):Ls w' B l ins asks outs:=⟨h.o.below ae,h.i.below ae,h.a.below ae⟩
theorem aGO (w:aRB) (p:ak) (x:ak) (g:Nat) (ax:w.cell? (ad g 0)=some (.string (az x))) (aL:p.length<=1100000) (ah:x.length<=1100000) (aj:qK w) :
  Calls prog 194 (#[.string (az p)]++#[pp g 0]) w fun e w'=>e = .returned (.bool (PW p x))/\Bl w w':=by
 have h:=aGN w p x aL ah aj;obtain⟨P,I,X,J,r,M⟩:=nq3 (az p) (az x) (PW p x);rw [<- I,<- J,<- M] at h;rw [<- J] at ax;rw [<- I,<- M];have H:=aa h;clear I J M h aj;go_enter func194,ntmps194;go_wp2_with (first | (go_at_call 195; refine jw H.o ?_;intro af Y));go_ret;exact⟨rfl,Y.o⟩
theorem aGP (w:aRB) (B:Nat) (l:Lr) (ins asks outs:List ak) (h:Ls w B l ins asks outs) (hl:ins.length<=1000/\asks.length<=1000/\outs.length<=1000) (bn:∀ p∈asks,p.length<=1100000) (x:ak) (ah:x.length<=1100000) (aj:qK w) :
  CB 193 #[.string (az x),pp l.o 0,pp l.i 0,pp l.a 0] w (.bool (U8 ins asks outs x)):=by
 obtain⟨aF,Y⟩:=ai (w.alloc (.cells #[.string (az x)] 9));have J:=gQ Y;have AL:=lH Y;obtain⟨BI,co,ro,Am⟩:=h.o.row;obtain⟨Ao,ci,Ap,Aq⟩:=h.i.row;obtain⟨Au,iC,Aw,R6⟩:=h.a.row;have c1:=fun W (ae:Bl w W)=>adW W BI co outs (Am.rd.gp ae) hl.2.2 x;have c2:=fun W (ae:Bl w W)=>adW W Ao ci ins (Aq.rd.gp ae) hl.1 x;have bF:=fun W (ae:Bl aF W)=>Wj W Au iC asks (R6.rd.gp (aR J ae)) hl.2.1 194 #[pp w.heap.size 0] (enters_of func194 kr rfl) (fun p=>PW p x) fun aV I p aL =>
  aGO aV p x w.heap.size ((AL.all (aR ae I)).cell 0) (bn p aL) ah (aj.on (J.trans ((aR ae I).mono J.size)))
 have AP:=fun W (ae:Bl aF W)=>show W.cell? (ad w.heap.size 0)=some (.string (az x))/\W.cell? (ad l.i 0)=some (.slice Ao ins.length ci)/\W.cell? (ad l.a 0)=some (.slice Au asks.length iC) from
  ⟨(AL.all ae).cell 0,(Ap.all (aR J ae)).cell 0,(Aw.all (aR J ae)).cell 0⟩
 have AV:=(ro.all J).cell 0;have AZ:=AL.cell 0;obtain⟨R,Aa⟩:=ai (U8 ins asks outs x);obtain⟨eP,Ab⟩:∃ b,b=outs.contains x:=⟨_,rfl⟩;obtain⟨Ay,Ad⟩:∃ b,b=ins.contains x:=⟨_,rfl⟩;obtain⟨Az,Ae⟩:∃ b,b=asks.any (fun p=>PW p x):=⟨_,rfl⟩;have BA:R=if eP then false else Ay || Az:=by rw [Aa,U8,Ab,Ad,Ae]
 rw [<- Aa];rw [<- Ab] at c1;rw [<- Ad] at c2;rw [<- Ae] at bF;obtain⟨X,Af⟩:=ai (az x);rw [<- Af] at c1 c2 AZ AP Y;rw [<- Af];have A7:=aa J;have Ag:=aa (c1 aF J);obtain⟨BF,BJ,AO,Ah⟩:=hq4 c2 bF AP BA;obtain⟨o,i,a⟩:=l;simp only at AV;simp only at AO;have BG:=Y.symm;clear aj c1 c2 bF AP BA Aa Ab Ad Ae Af AL J ro Ap Aw Am Aq R6 hl bn h Y;cases eP with
 | true =>
  have AA:=aa (show R=false by rw [Ah.o];rfl);go_enter func193,ntmps193;go_wp2_with (first | (go_at_call 70; refine Ag.o.mono ?_;rintro e af ⟨rfl,I⟩;have M:=aa (aR A7.o I);clear I));go_ret;exact⟨by rw [AA.o];rfl,M.o⟩
 | false =>
  cases Ay with
  | true =>
   have AA:=aa (show R=true by rw [Ah.o];rfl);go_enter func193,ntmps193;go_wp2_with (first
    | ((with_reducible refine Ag.o.mono ?_);rintro e af ⟨rfl,I⟩;have M:=aa I;obtain⟨Ai,Ak,Al⟩:=AO.o af I;clear I BG AV AZ)
    | ((with_reducible refine (BF.o af (aR A7.o M.o)).mono ?_);rintro e aC ⟨rfl,AB⟩;have AJ:=aa (aR M.o AB);clear AB))
   go_ret;exact⟨by rw [AA.o];rfl,aR A7.o AJ.o⟩
  | false =>
   have AA:=aa (show R=Az by rw [Ah.o];rfl);go_enter func193,ntmps193;go_wp2_with (first
    | ((with_reducible refine Ag.o.mono ?_);rintro e af ⟨rfl,I⟩;have M:=aa I;obtain⟨Ai,Ak,Al⟩:=AO.o af I;clear I BG AV AZ)
    | ((with_reducible refine (BF.o af (aR A7.o M.o)).mono ?_);rintro e aC ⟨rfl,AB⟩;have AJ:=aa (aR M.o AB);clear AB Ai Ak Al;obtain⟨Ai,Ak,Al⟩:=AO.o aC AJ.o)
    | ((with_reducible refine (BJ.o aC AJ.o).mono ?_);rintro e BL ⟨rfl,BH⟩;have BK:=aa (aR AJ.o BH);clear BH))
   go_ret;exact⟨by rw [AA.o];rfl,aR A7.o BK.o⟩
def Iz (B:Nat) (ins asks outs:List ak) (j:Nat) (v:Value) (w:aRB):Prop :=
  (j=2->∃ A c,v = .slice A ins.length c/\Own w B 9 1 A ins.length c (cu ins)) /\
  (j=5->∃ A c,v = .slice A asks.length c/\Own w B 9 1 A asks.length c (cu asks)) /\
  (j=8->∃ A c,v = .slice A outs.length c/\Own w B 9 1 A outs.length c (cu outs)) /\
  (9<=j->∃ g,v = .pointer (some ⟨g,0,none⟩)/\aM w g [.slice none 0 0] 24 /\ B<=g)
theorem Iz.keep {asks:List ak} {v:Value} (h:Iz B ins asks outs j v w) (ae:Bl w w'):Iz B ins asks outs j v w' :=
  ⟨fun e=>(by obtain⟨A,c,I,J⟩:=h.1 e;exact⟨A,c,I,J.below ae (aQm _)⟩),fun e=>(by obtain⟨A,c,I,J⟩:=h.2.1 e;exact⟨A,c,I,J.below ae (aQm _)⟩),
   fun e=>(by obtain⟨A,c,I,J⟩:=h.2.2.1 e;exact⟨A,c,I,J.below ae (aQm _)⟩),fun e=>(by obtain⟨g,I,J,M⟩:=h.2.2.2 e;exact⟨g,I,J.all ae,M⟩)⟩
def aeY (aF:aRB) (B:Nat) (ins asks outs:List ak) (L:Nat->Bool) (u:Nat->Value) (w:aRB):Prop:=
 Bl aF w/\(∀ j,9<=j->L j=true->Iz B ins asks outs j (u j) w)/\∀ j k,9<=j->9<=k->j≠k->L j=true->L k=true->u j≠u k
theorem aeY.step {aF:aRB} {asks:List ak} {L:Nat->Bool} {u:Nat->Value} {v:Value} (h:aeY aF B ins asks outs L u w) (ae:Bl w w') (aZ:9<=i->Iz B ins asks outs i v w'/\∀ g V,aM w g V 24 -> v ≠ .pointer (some ⟨g,0,none⟩)):aeY aF B ins asks outs (oM L i true) (oM u i v) w':=by
 have M:∀ j,9<=i->9<=j->L j=true->v≠u j:=fun j A7 aD hl=>by
  obtain⟨g,e,AA,_⟩:=(h.2.1 j aD hl).2.2.2 aD;rw [e];exact (aZ A7).2 g _ AA
 refine⟨h.1.trans (ae.mono h.1.size),fun j aD hl=>?_,fun j k aD hk Y hl J=>?_⟩
 ·unfold oM at hl |-;split
  ·rename_i e;rw [e];exact (aZ (e ▸ aD)).1
  ·rename_i e;rw [if_neg e] at hl;exact (h.2.1 j aD hl).keep ae
 ·unfold oM at hl J |-;by_cases e:j=i
  ·have I:k≠i:=fun I=>Y (e.trans I.symm);rw [if_neg I] at J;rw [if_pos e,if_neg I];exact M k (e ▸ aD) hk J
  ·rw [if_neg e] at hl;rw [if_neg e];by_cases I:k=i
   ·rw [if_pos I];exact (M j (I ▸ hk) aD hl).symm
   ·rw [if_neg I] at J |-;exact h.2.2 j k aD hk Y hl J
theorem aaL (l:List ak):∀ v∈cu l,v.oneCell'=true:=fun v I=>by
  obtain⟨x,_,rfl⟩:=aQv.1 I;rfl
theorem akI {P:Program} {ops:Array Oper} {rest:List Oper} {a:Act} {Q:aRE} {dst:Option Tmp} {ty gP:TypeId} {x v:Operand} {pos:String} {after:Array Edge} {z:Value} (g:Nat) (A:aRC) (n c:Nat) (av:aM W g [z] ty) (ay:(P.info? ty).map (·.size)=some 1)
    (uZ:a.eval x = .pointer (some ⟨g,0,none⟩)/\a.eval v = .slice A n c) (h:∀ aV,aM aV g [.slice A n c] ty->fU g W aV->wpList P ops Q rest (a.put dst undef) aV):wpList P ops Q (⟨dst,.store ty x v,gP,pos,after,none⟩ :: rest) a W :=
  wpList_store_row g 0 (.slice A n c) [.slice A n c] [z] [.slice A n c] ty av rfl ay (aQm _) (by simp;rfl) rfl uZ h
theorem sO.put (aG:Own W B 9 1 A l.length c (cu l)) (lC:aM W g [.slice none 0 0] 24) (av:aM W' g [.slice A l.length c] 24) (aA:fU g W W') (bg:B<=g):sO W' B g l :=
  ⟨bg,A,c,av,iJ aG lC dc aA⟩
theorem sO.dK {BL:Nat} (h:sO W B g l) (av:aM W BL V 24) (aA:fU BL W W') (bJ:g≠BL):sO W' B g l:=by obtain⟨A,c,h1,I⟩:=h.row;exact⟨h.far,A,c,h1.dK aA bJ,iJ I av dc aA⟩
theorem aGQ (w:aRB) (x:iP) (hA:KC w x.1 x.2) (hl:x.2.ins.length<=1000/\x.2.asks.length<=1000/\x.2.outs.length<=1000) :
    Calls prog 147 #[.agg (vF x).toArray] w fun e w'=>∃ l:Lr,e = .returned l.fn/\Ls w' w.heap.size l x.2.ins x.2.asks x.2.outs/\Bl w w':=by
  obtain⟨L,a⟩:=x;simp only at hA hl |-;obtain⟨aF,Y⟩:=ai (w.alloc (.cells (nz L a) 45));have AP:=gQ Y;have Af:aM aF w.heap.size (vF (L,a)) 45:=by rw [Y];exact aM.new w (vF (L,a)) _
  have c1:=fun W (ae:Bl aF W)=>aeV W L.lG a.ins.length L.j3 (cu a.ins) (hA.ins.gp (aR AP ae)) (aaL _) om;have c2:=fun W (ae:Bl aF W)=>aeV W L.A a.asks.length L.fe (cu a.asks) (hA.asks.gp (aR AP ae)) (aaL _) om;have bF:=fun W (ae:Bl aF W)=>aeV W L.O a.outs.length L.wJ (cu a.outs) (hA.outs.gp (aR AP ae)) (aaL _) om;have hc:=fun W (ae:Bl aF W)=>show W.cell? (ad w.heap.size 4)=some (.slice L.lG a.ins.length L.j3)/\W.cell? (ad w.heap.size 5)=some (.slice L.A a.asks.length L.fe)/\W.cell? (ad w.heap.size 6)=some (.slice L.O a.outs.length L.wJ) from
    ⟨(Af.all ae).cell 4,(Af.all ae).cell 5,(Af.all ae).cell 6⟩
  have BF:(vF (L,a)).toArray=nz L a:=rfl;rw [BF];unfold nz at Y |-;obtain⟨pk,nm,E,lG,A,O,Cb,Bb,Bc,Bd⟩:=L;simp only at c1 c2 bF hc Y |-;obtain⟨ins,Aq,asks,Au,outs,Aw⟩:=nq3 a.ins a.asks a.outs;rw [<- Aq,<- Au,<- Aw] at Y hc |-;rw [<- Aq] at c1;rw [<- Au] at c2;rw [<- Aw] at bF;obtain⟨Cj,BG,T,bY⟩:=nq2 a.env.length (az a.tool);rw [<- BG,<- bY] at Y |-;obtain⟨AJ,Bf,Bi,Bn,Bo⟩:=hq5 AP c1 c2 bF hc;have Bp:=Y.symm;clear hA hl Af BF AP c1 c2 bF hc Aq Au Aw BG bY Y;go_enter func147,ntmps147;go_wp2_with fail;clear Bp;refine Tq 12 (iY [some (pp w.heap.size 4),some (.slice lG ins.length Bb),none,some (pp w.heap.size 5),some (.slice A asks.length Bc),none,some (pp w.heap.size 6),some (.slice O outs.length Bd),none,none,none,none] (Iz w.heap.size ins asks outs)) (aeY aF w.heap.size ins asks outs) Bl (fun u=>⟨(Below.refl _ aF).drew,fun _ _ h=>(by cases h),fun _ _ _ _ _ h=>(by cases h)⟩) (fun j v w1 af ae Bq=>iY.keep (fun h=>h.keep ae) Bq) ?_ (jJ:=?_)
  rotate_left
  · repeat' (first | exact trivial | apply And.intro)
    all_goals intro eH u af Ce J Cf Cg Br BH K AL
    all_goals simp [iY,Region.binds] at BH
    all_goals first | simp [Region.wanted,yielded,Br,BH] | simp [Region.wanted,yielded] | skip
    all_goals obtain⟨Ci,Ck,Cm⟩:=Bo.o af J.1
    all_goals try (first | exact AL _ _ rfl (J.step (Below.refl _ _) fun h=>absurd h dc) (Below.refl _ _) | (go_simp;exact AL _ _ rfl (J.step (Below.refl _ _) fun h=>absurd h dc) (Below.refl _ _)))
    · go_simp
      refine (Bf.o af J.1).mono ?_;rintro e aC ⟨cO,bF,rfl,AV,A7⟩;exact AL _ _ ⟨fun _=>⟨cO,bF,rfl,AV.mono (aQn AJ.o.size J.1.size)⟩,fT,fT,fT⟩ (J.step A7 fun h=>absurd h dc) A7
    · go_simp
      refine (Bi.o af J.1).mono ?_;rintro e aC ⟨cO,bF,rfl,AV,A7⟩;exact AL _ _ ⟨fT,fun _=>⟨cO,bF,rfl,AV.mono (aQn AJ.o.size J.1.size)⟩,fT,fT⟩ (J.step A7 fun h=>absurd h dc) A7
    · go_simp
      refine (Bn.o af J.1).mono ?_;rintro e aC ⟨cO,bF,rfl,AV,A7⟩;exact AL _ _ ⟨fT,fT,fun _=>⟨cO,bF,rfl,AV.mono (aQn AJ.o.size J.1.size)⟩,fT⟩ (J.step A7 fun h=>absurd h dc) A7
    all_goals
      go_simp;have BI:=(Below.refl af.heap.size af).alloc (aQm _) (.cells [Value.slice none 0 0].toArray 24);have ah:∀ j,9<=j->Iz w.heap.size ins asks outs j (pp af.heap.size 0) (af.alloc (.cells [Value.slice none 0 0].toArray 24)):=fun j h=>⟨fun e=>om,fun e=>om,fun e=>om,fun _=>⟨_,rfl,aM.new af [.slice none 0 0] _,aQn AJ.o.size J.1.size⟩⟩;exact AL _ _ (ah _ dc) (J.step BI fun h=>⟨ah _ h,fun g V av e=>by
        injection e with e
        have Ag:=congrArg Addr.block (aQS e);have Cn:=av.lt;simp only at Ag;omega⟩) BI
  · intro u af J Ah
    obtain⟨Bt,ci,Ag,BJ⟩:=(show Iz w.heap.size ins asks outs 2 (u 2) af from Ah.at 2 dc dc).1 rfl;obtain⟨Bu,iC,BK,R6⟩:=(show Iz w.heap.size ins asks outs 5 (u 5) af from Ah.at 5 dc dc).2.1 rfl;obtain⟨Bv,co,BL,BM⟩:=(show Iz w.heap.size ins asks outs 8 (u 8) af from Ah.at 8 dc dc).2.2.1 rfl;obtain⟨zu,Ai,BO,mM⟩:=(show Iz w.heap.size ins asks outs 9 (u 9) af from J.2.1 9 dc rfl).2.2.2 om;obtain⟨AA,Ak,BP,AZ⟩:=(show Iz w.heap.size ins asks outs 10 (u 10) af from J.2.1 10 dc rfl).2.2.2 om;obtain⟨go,Al,ro,Aa⟩:=(show Iz w.heap.size ins asks outs 11 (u 11) af from J.2.1 11 dc rfl).2.2.2 om;have Ab:zu≠AA:=fun e=>J.2.2 9 10 dc dc dc rfl rfl (by rw [Ai,Ak,e]);have Ad:zu≠go:=fun e=>J.2.2 9 11 dc dc dc rfl rfl (by rw [Ai,Al,e]);have Ae:AA≠go:=fun e=>J.2.2 10 11 dc dc dc rfl rfl (by rw [Ak,Al,e]);clear Ah;simp only [Ag,BK,BL,Ai,Ak,Al];have Ay:Sz 24 1:=kr;have Bw:=aa (AJ.o.trans (J.1.mono AJ.o.size));obtain⟨C8,C9,CE,Am,BQ,BX⟩:=hq6 BJ R6 BM BO BP ro;have Ao:=aa (⟨Ab,Ad,Ae⟩:zu≠AA/\zu≠go/\AA≠go);have CJ:=aa (⟨mM,AZ,Aa⟩:w.heap.size<=zu/\w.heap.size<=AA/\w.heap.size<=go);clear J BJ R6 BM BO BP ro Ab Ad Ae mM AZ Aa Ag BK BL Ai Ak Al;go_wp2_with (first
      | ((with_reducible refine akI zu Bt ins.length ci Am.o Ay ?_ ?_);exact⟨rfl,rfl⟩;refine zR ?_;intro CK CL AB)
      | ((with_reducible refine akI AA Bu asks.length iC (BQ.o.dK AB.o Ao.o.1.symm) Ay ?_ ?_);exact⟨rfl,rfl⟩;refine zR ?_;intro bS CS AO)
      | ((with_reducible refine akI go Bv outs.length co ((BX.o.dK AB.o Ao.o.2.1.symm).dK AO.o Ao.o.2.2.symm) Ay ?_ ?_);exact⟨rfl,rfl⟩;refine zR ?_;intro CU CV Ap))
    go_ret;obtain⟨Ab,Ad,Ae⟩:=Ao.o;obtain⟨mM,AZ,Aa⟩:=CJ.o;have Az:=BQ.o.dK AB.o Ab.symm;have BA:=(BX.o.dK AB.o Ad.symm).dK AO.o Ae.symm;have CW:sO CK w.heap.size zu ins:=sO.put C8.o Am.o CL.o AB.o mM;have CZ:sO bS w.heap.size AA asks:=sO.put (iJ C9.o Am.o dc AB.o) Az CS.o AO.o AZ;have Ca:sO CU w.heap.size go outs:=sO.put (iJ (iJ CE.o Am.o dc AB.o) Az dc AO.o) BA CV.o Ap.o Aa;exact⟨⟨go,zu,AA⟩,rfl,⟨Ca,(CW.dK Az AO.o Ab).dK BA Ap.o Ad,CZ.dK BA Ap.o Ae⟩,oF (oF (oF Bw.o AB.o mM) AO.o AZ) Ap.o Aa⟩
end
section
open Go.RowKit Go.Shelf
attribute [local go_sem] Oper.semAt_some
theorem akO:∀ {l:List wO} {k:Nat} {p:wO},l[k]?=some p->(MQ l)[k * 2]?=some (.slice p.A p.c.ws.length p.fe)/\(MQ l)[k * 2+1]?=some (.string (az p.c.rest))
 | [],_,_,h=>by simp at h
 | x :: l,0,p,h=>by
  rw [List.getElem?_cons_zero] at h;cases h;exact⟨rfl,rfl⟩
 | x :: l,k+1,p,h=>by
  rw [List.getElem?_cons_succ] at h;have:=akO h;have I:(k+1) * 2=k * 2+2:=om;rw [I];exact this
abbrev FL (P:wO->Prop):={ x:Int × wO // P x.2 }
def aaN {P:wO->Prop} (x:FL P):Array Value:=#[.int .i64 x.1.1,.agg #[.slice x.1.2.A x.1.2.c.ws.length x.1.2.fe,.string (az x.1.2.c.rest)]]
theorem aGU [dR] (P:wO->Prop) (n:Nat) (aB:1<=n) (l ji B:Nat) (A:aRC) (cap:Nat) (zs:List wO) (EI:zs.length<=1000000000) (lY:∀ p∈zs,P p) (bu vS:List (FL P)->World->Prop)
  (fM:∀ pre x W,bu pre W->pre.length < zs.length->YieldAt Fence.wide (n - 1) prog l (aaN x) W fun e W'=>(e = .returned (.bool true)/\bu (pre++[x]) W'/\dw B W W')\/(e = .returned (.bool false)/\vS (pre++[x]) W'))
  (W:aRB) (vT:W.cell? (ad ji 0)=some (.slice A zs.length cap)) (hc:∀ W',dw B W W'->W'.cell? (ad ji 0)=some (.slice A zs.length cap)) (av:∀ W',dw B W W'->Rd W' 2 A zs.length (MQ zs)) (aX:bu [] W) :
  CallsIn Fence.wide n prog 218 #[.func (.yield l) #[] #[],pp ji 0] W fun e W'=>(∃ v,e = .returned v)/\((∃ ys,ys.map (·.1.2)=zs.reverse/\bu ys W')\/(∃ pre,True/\vS pre W')):=by
 have AP:=Mx 218;obtain⟨len,hlen⟩:=ai zs.length;rw [<- hlen] at EI fM vT hc av;refine aQ1 func218 rfl AP ?_ rfl;simp only [ntmps218,List.size_toArray,List.length_cons,List.length_nil,Nat.reduceAdd,Nat.reduceSub,Array.replicate_succ,Array.replicate_zero,List.push_toArray,List.append_toArray,List.nil_append,List.cons_append]
 gi_wp2
 gi_loopw [3] (fun i wr=>∃ (q:Nat) (ys:List (FL P)) (M:Int),i = .int .i64 M/\M=(q:Int) - 1/\q<=len/\ys.map (·.1.2)=(zs.drop q).reverse/\bu ys wr/\dw B W wr) (fun i _=>(intOf i+1).toNat)
 case atStart=>exact⟨len,[],_,rfl,om,aQm _,by rw [hlen,List.drop_length];rfl,aX,dw.refl _ _⟩
 case round =>
  obtain⟨q,ys,M,rfl,A7,Ag,I,AA,AB⟩:=hrel;by_cases Ah:0 < q
  ·obtain⟨p,rfl⟩:∃ p,q=p+1:=⟨q - 1,om⟩;obtain rfl:M=(p:Int):=om;clear A7;obtain⟨x,ah⟩:∃ x,zs[p]?=some x:=⟨_,aQp om⟩;have AJ:(zs.drop p).reverse=(zs.drop (p+1)).reverse++[x]:=by obtain⟨aL,rfl⟩:=aQs.1 ah;rw [List.drop_eq_getElem_cons aL,List.reverse_cons]
   obtain⟨b',o,rfl,hcell⟩:=(av wr AB).2 om;have Ai:wr.cell? ⟨b',o+p * 2,none⟩=some (.slice x.A x.c.ws.length x.fe):=hcell (p * 2) _ (akO ah).1;have Ak:wr.cell? ⟨b',o+p * 2+1,none⟩=some (.string (az x.c.rest)):=hcell (p * 2+1) _ (akO ah).2;have AL:=lY x (aQr ah);have AV:ys.length < len:=by have:=congrArg List.length I;rw [List.length_map,List.length_reverse,List.length_drop] at this;omega
   have Y:=fM ys ⟨((p:Int),x),AL⟩ wr AA AV;have AO:(ys++[(⟨((p:Int),x),AL⟩:FL P)]).map (·.1.2)=(zs.drop p).reverse:=by rw [List.map_append,I,AJ];rfl
   unfold aaN at Y;simp only at Y;obtain⟨fn,tmps,assign,body,hy,AZ⟩:=Y;have Al:(0:Int)<=p:=om;have Aa:=aa AO;clear ah AJ hcell I AO
   gi_wp2
   refine AZ.mono ?_;rintro e Am (⟨rfl,Ab,Ad⟩ | ⟨rfl,Ae⟩)
   ·gi_wp2
    go_roundw;case rel=>exact⟨p,_,_,rfl,om,om,Aa.o,Ab,AB.trans Ad⟩
    case measure=>simp [intOf]
   ·gi_wp2
    refine qm ?_;exact⟨⟨_,rfl⟩,.inr ⟨_,trivial,Ae⟩⟩
  ·obtain rfl:q=0:=om;obtain rfl:M = -1:=om;clear A7;rw [List.drop_zero] at I;have Af:=aa I;clear I
   gi_wp2
   go_end0;exact⟨⟨_,rfl⟩,.inl ⟨_,Af.o,AA⟩⟩
theorem aGW (w:aRB) (a:aRC) (len cap:Nat) :
  Calls prog 190 #[.slice a len cap] w fun e w'=>e = .returned (.func (.func 218) #[] #[pp w.heap.size 0])/\w'=w.alloc (.cells #[.slice a len cap] 257):=by
 go_enter func190,ntmps190;go_wp2;go_ret;exact⟨rfl,rfl⟩
theorem aGX [dR] (P:wO->Prop) (n:Nat) (aB:1<=n) (ji B:Nat) (A:aRC) (cap:Nat) (zs:List wO) (EI:zs.length<=1000000000) (lY:∀ p∈zs,P p) (w:aRB) (bg:B<=w.heap.size)
  (hc:eO w ji #[.slice A zs.length cap] 257) (av:∀ W',dw B w W'->Rd W' 2 A zs.length (MQ zs)) :
  SeqStopsK Fence.wide n prog 218 #[pp ji 0] (aaN (P:=P)) (dw B) (fun ys=>ys.map (·.1.2)=zs.reverse) (fun _=>True) zs.length w:=fun l bu Y W A7 _ _ AA AB=>by
 have I:∀ W',dw B W W'->dw B w W':=fun W' h=>(dw.gT A7 bg).trans h;have M:∀ W',dw B W W'->W'.cell? (ad ji 0)=some (.slice A zs.length cap):=fun W' h=>(hc.keep (I W' h) dc dc).cell 0;refine (aGU P n aB l ji B A cap zs EI lY bu Y AA W (M W (dw.refl _ _)) M (fun W' h=>av W' (I W' h)) AB).mono ?_;rintro e W' ⟨he,⟨ys,aL,aD⟩ | ⟨pre,aL,aD⟩⟩
 ·exact⟨he,.inl ⟨_,aL,aD⟩⟩
 ·exact⟨he,.inr ⟨pre,aL,aD⟩⟩
end
section
open Go.Maps Go.RowKit Go.Shelf
attribute [local go_sem] Oper.semAt_some
theorem aGY:(prog.info? 194).map (fun i=>(i.zero,i.size,i.bytes))=some (some (.agg #[.string ⟨#[]⟩,.string ⟨#[]⟩]),2,32):=kr
theorem aGZ:∀ (l:List (ak × ak)),∀ v∈Cc l,v.oneCell'=true:=fun l v I=>by
 rw [Cc,List.mem_flatMap] at I;obtain⟨p,_,aL⟩:=I;simp at aL;rcases aL with rfl | rfl <;> rfl
theorem atC (w:aRB) (A:aRC) (c:Nat) (l:List (ak × ak)) (av:Rd w 2 A l.length (Cc l)) (hl:l.length<=1000000) :
  Calls prog 146 #[.slice A l.length c] w fun e w'=>∃ A' c',e = .returned (.slice A' l.length c')/\Own w' w.heap.size 194 2 A' l.length c' (Cc l)/\Bl w w':=by
 cases A with
 | none =>
  have I:l.length=0:=by
   rcases aQH l.length with I | I
   ·exact I
   ·obtain⟨b,o,e,_⟩:=av.2 I;cases e
  have A7:l=[]:=aQC I;subst A7;refine (AnyE.slices_Clone_nil Tryz.tlClone 0 c w).mono ?_;rintro e w' ⟨rfl,rfl⟩;exact⟨none,0,rfl,Own.nil _ _ _ _,Below.refl _ _⟩
 | some a =>
  have AA:∀ (W:aRB),(binOp .eql 43 (.slice (some a) l.length c) (.slice none 0 0)).run prog W = .ok (.bool false) W:=fun W=>aRn W _ _ (some a) l.length c 0 0 underlying43;obtain⟨n,M,X,J⟩:=nq2 l.length (Cc l);have AB:∀ v∈X,v.oneCell'=true:=by rw [J];exact aGZ l
  rw [<- M,<- J] at av;rw [<- M] at hl AA |-;rw [<- J];clear M J;go_enter func146,ntmps146;go_wp2_with (at_builtin;have _t:=av;go_must ((with_reducible refine ve 194 (.agg #[.string ⟨#[]⟩,.string ⟨#[]⟩]) 2 32 underlying43 aGY rfl w.heap.size (some ⟨w.heap.size,0,none⟩) 0 0 [] (Own.lit w #[] _ 2 0 _ (aQm _) dc rfl) n X (.slice (some a) n c) (Src.slice underlying43 (av.gp ((Below.refl _ w).alloc (aQm _) _))) AB ?_ ?_ ?_ ?_ ?_);exact mO;omega;(simp);exact⟨rfl,rfl⟩;intro cO bF aC Y AJ AL;clear av));refine aQx (aQX rfl _ _ _) rfl ?_;rw [List.nil_append,Nat.zero_add] at Y;exact⟨cO,bF,rfl,Y,((Below.refl _ w).alloc (aQm _) _).grown AJ sp (fun k e=>by cases e;exact aQm _)⟩
def Lv {P:wO->Prop} (pre:List (FL P)):List iU:=pre.reverse.map fun x=>iU.cmd x.1.2.c
theorem aG0 {P:wO->Prop} (pre:List (FL P)) (x:FL P):Lv (pre++[x]) = .cmd x.1.2.c :: Lv pre:=by simp [Lv]
theorem aG1 {P:wO->Prop} {ys:List (FL P)} {l:List wO} (h:ys.map (·.1.2)=l.reverse):Lv ys=(l.map (·.c)).map iU.cmd:=by
 have:ys.reverse.map (·.1.2)=l:=by rw [List.map_reverse,h,List.reverse_reverse]
 rw [<- this,Lv,List.map_map,List.map_map];rfl
def aJ.begun (l:List iU):aJ:=⟨l,[],[],[],false,pF.none,[]⟩
def Xu [dR] {P:wO->Prop} (w:aRB) (L:iW) (v:Env) (pre:List (FL P)) (W:aRB):Prop:=jL W L v none (aJ.begun (Lv pre))/\dw L.B w W
theorem Xu.below [dR] {P:wO->Prop} {pre:List (FL P)} (h:Xu w L v pre W) (ae:Bl W W'):Xu w L v pre W':=⟨h.1.below ae,h.2.trans (dw.gT ae h.1.size)⟩
theorem aG2 [dR] {w1:aRB} (bg:B<=w1.heap.size) (he:Own w1 B 194 2 A v.env.length c (Cc v.env)) (aL:∀ k,dR.E k->k < w1.heap.size) :
  nT ((w1.alloc (.map #[] 0)).alloc (.cells (um none 0 0 A v.env.length c [] w1.heap.size [] false pF.none) 295)) ⟨B,w1.heap.size+1,w1.heap.size,A,c⟩ v none (aJ.begun []) none 0 []:=by
 refine⟨?_,Nat.le_succ_of_le bg,Own.nil _ _ _ _,fun i t I=>by simp [aJ.begun] at I,((he.alloc _).alloc _),⟨bg,[],(eQ.made w1 prog 9 xy).alloc _,rfl,fun p=>rfl⟩,.inl fun t I=>by simp [aJ.begun] at I,⟨fun e=>Nat.lt_irrefl _ (aL _ e),fun g e=>(by cases e),fun k hk=>by have:=aL k hk;simp;omega⟩⟩;have:=aQt (w1.alloc (.map #[] 0)) (.cells (um none 0 0 A v.env.length c [] w1.heap.size [] false pF.none) 295);rw [World.size_alloc] at this;exact this
def aaO [dR] (w:aRB) (v:Env) (text:ak) (e:Ending) (w':aRB):Prop :=
 ((pR eF text).1≠0/\e = .returned (.tuple #[.pointer none,.int .i64 (pR eF text).1])/\Bl w w') \/
 ((pR eF text).1=0/\∃ L:iW,e = .returned (.tuple #[fE L.R,.int .i64 0])/\L.B=w.heap.size/\jL w' L v none (aJ.start (qx eF (jP text)))/\dw L.B w w')
theorem aG3 [dR] (w:aRB) (v:Env) (text:ak) (hs:text.length<=1000000) (aj:qK w) (OO:(pR eF text).1≠0) (A:aRC) (n c:Nat) :
  Calls prog 145 #[.string (az text),.slice A n c] w (aaO w v text):=by
 have A7:=aiZ w text hs aj;obtain⟨AL,J,X,M⟩:=nq2 (aaO w v text) (az text);obtain⟨I,Y⟩:=ai (((pR eF text).1:Int):Int);obtain⟨AO,AA⟩:=ai (((pR eF text).2:Int):Int);have AB:∀ w',Bl w w'->AL (.returned (.tuple #[.pointer none,.int .i64 I])) w':=fun w' ae=>by
  rw [J,Y];exact .inl ⟨OO,rfl,ae⟩
 have AJ:Calls prog 156 #[.string X] w fun e w'=>∃ (A:aRC) (n c:Nat),e = .returned (.tuple #[.slice A n c,.int .i64 I,.int .i64 AO])/\Bl w w':=by rw [M,Y,AA];refine A7.mono fun e w' k=>?_;obtain⟨A,c,X,h1,_,_,AP⟩:=k;exact⟨A,X.length,c,h1,AP⟩
 have AV:I≠0:=om;have Ad:(I != 0)=true:=by simpa using AV
 have AZ:=aa AB;have Aa:=aa AJ;rw [<- J,<- M];clear A7 AJ AB J M Y AA aj hs OO;go_enter func145,ntmps145;go_wp2_with (go_at_call 156; refine Aa.o.mono ?_;rintro e w1 ⟨Ae,Af,c1,rfl,ae⟩;have Ab:=aa ae;clear ae);exact AZ.o _ Ab.o
theorem aG4 [dR] (w:aRB) (v:Env) (aZ:Gh v) (text:ak) (hs:text.length<=1000000) (aj:qK w) (aL:∀ k,dR.E k->k < w.heap.size) (fo:(pR eF text).1=0) (mi:aRC) (mV:Nat) (av:Rd w 2 mi v.env.length (Cc v.env)) :
  Calls prog 145 #[.string (az text),.slice mi v.env.length mV] w (aaO w v text):=by
 have BX:=aiZ w text hs aj;have Cz:=Zw eF (jP text);have Bb:=QH text;have Bc:(adl eF text).1=qx eF (jP text):=by rw [aiv,if_pos fo]
 obtain⟨DD,Ao,mW,AJ,Aj,Ah⟩:=nq3 (aaO w v text) (az text) v.env.length;have Bd:Calls prog 156 #[.string mW] w fun e w'=>∃ (A:aRC) (n c:Nat) (X:List wO) (AL:Int),e = .returned (.tuple #[.slice A n c,.int .i64 0,.int .i64 AL])/\n=X.length/\MR w' w.heap.size A c X/\X.map (·.c)=qx eF (jP text)/\Bl w w':=by rw [AJ];refine BX.mono fun e w' k=>?_;obtain⟨A,c,X,h1,Aa,I,DF⟩:=k;rw [fo] at h1;exact⟨A,X.length,c,X,_,h1,rfl,Aa,I.trans Bc,DF⟩
 have DL:=aa (fun af (ae:Bl w af)=>show Calls prog 146 #[.slice mi Aj mV] af fun e w'=>∃ A' c',e = .returned (.slice A' Aj c')/\Own w' af.heap.size 194 2 A' Aj c' (Cc v.env)/\Bl af w' from by
  rw [Ah];exact atC af mi mV v.env (av.gp ae) aZ.len)
 obtain⟨DN,DR,Bf,DW,AO⟩:=hq5 Bd Ao Ah fo aL;have DX:=aa (show (qx eF (jP text)).length<=1000001 by omega);rw [<- Ao,<- AJ,<- Ah];clear BX Bd Ao AJ aj hs fo av aZ Cz Bb Bc Ah aL;have EL:=Mx 190;have EM:=Mx 156;have EO:=Mx 146;have Bi:=@run_makeMap prog;refine (aQG (n:=6)).1 ?_;refine aRf func145 rfl trivial ?_ rfl;simp only [ntmps145,List.size_toArray,List.length_cons,List.length_nil,Nat.reduceAdd,Nat.reduceSub,Array.replicate_succ,Array.replicate_zero,List.push_toArray,List.append_toArray,List.nil_append,List.cons_append]
 gi_wp2_with (first
  | (gi_at_call 156; refine (aQG.2 DN.o).mono ?_;rintro e w1 ⟨A,n,c,X,AL,rfl,Ap,aY,Bn,ae⟩;obtain⟨Aq,Bo,Bp,DY⟩:=hq4 ae aY Bn Ap;clear ae aY Bn Ap)
  | (gi_at_call 146; refine (aQG.2 (DL.o w1 Aq.o)).mono ?_;rintro e af ⟨iD,c2,rfl,Ab,ae⟩;have DZ:=aa Ab;have Ai:=aa ae;clear Ab ae)
  | (gi_at_call 190; refine (aQG.2 (aGW _ A n c)).mono ?_;rintro e w' ⟨rfl,rfl⟩))
 obtain⟨L,Ad⟩:=ai (⟨w.heap.size,af.heap.size+1,af.heap.size,iD,c2⟩:iW);have Au:Bl w af:=aR Aq.o Ai.o;have Aw:w.heap.size<=af.heap.size:=Au.size;have Ay:=aG2 (w1:=af) (B:=w.heap.size) (v:=v) (A:=iD) (c:=c2) Aw (by have:=DZ.o.mono Aq.o.size;rw [Bf.o] at this;exact this) (fun k hk=>aQq (AO.o k hk) Aw);rw [<- Ad,<- Bf.o] at Ay;obtain⟨Y,AP⟩:=ai ((af.alloc (.map #[] 0)).alloc (.cells #[.slice none 0 0,.slice iD Aj c2,.string ⟨#[]⟩,.map (some af.heap.size),.string ⟨#[]⟩,.bool false,.int .i64 0,.string ⟨#[]⟩,.string ⟨#[]⟩,.int .i64 0] 295));have Bq:nT Y L v none (aJ.begun []) none 0 []:=by rw [AP];exact Ay
 have Ak:Y.heap.size=af.heap.size+1+1:=by rw [AP];simp
 have Br:Bl w Y:=by rw [AP];exact (Au.alloc Aw _).alloc (by simp;omega) _
 have Bt:Bl af Y:=by rw [AP];exact gK.alloc sp _
 obtain⟨dN,AV⟩:=ai ((Y.alloc (.cells #[pp (af.heap.size+1) 0] 247)).alloc (.cells #[.slice A n c] 257));have Al:Bl Y dN:=by rw [AV];exact gK.alloc sp _
 have Ae:eO dN (af.heap.size+1+1) #[pp (af.heap.size+1) 0] 247:=by rw [AV,<- Ak];unfold eO;rw [Below.heap_alloc _ _ _ sp];exact aQt Y _
 have Bu:eO dN (af.heap.size+1+1+1) #[.slice A n c] 257:=by rw [AV,<- Ak];have:=aQt (Y.alloc (.cells #[pp (af.heap.size+1) 0] 247)) (.cells #[.slice A n c] 257);rwa [World.size_alloc] at this
 have Bv:Bl w1 dN:=(aR Ai.o Bt).trans (Al.mono (by have:=Ai.o.size;omega));have AJ:=Bo.o.below Bv;have Az:Bl w dN:=aR Br Al;have BA:=DY.o;have EP:n<=1000001:=by have h1:=congrArg List.length Bp.o;rw [List.length_map] at h1;have:=DX.o;omega
 have Bw:L.B=w.heap.size:=by rw [Ad]
 have BF:L.R=af.heap.size+1:=by rw [Ad]
 have Da:L.m=af.heap.size:=by rw [Ad]
 have Db:dN.heap.size=af.heap.size+1+1+1+1:=by rw [AV];simp [Ak]
 rw [show (((af.alloc (.map #[] 0)).alloc (.cells #[.slice none 0 0,.slice iD Aj c2,.string ⟨#[]⟩,.map (some af.heap.size),.string ⟨#[]⟩,.bool false,.int .i64 0,.string ⟨#[]⟩,.string ⟨#[]⟩,.int .i64 0] 295)).alloc (.cells #[pp (af.heap.size+1) 0] 247)).alloc (.cells #[.slice A n c] 257)=dN by rw [AV,AP]];have A7:=Bq.below Al;obtain⟨P,BG⟩:∃ P:wO->Prop,P=fun x=>Own dN 0 9 1 x.A x.c.ws.length x.fe (cu x.c.ws)/\∀ b,bV x.A=some b->b < L.R:=⟨_,rfl⟩;have C8:∀ x∈X,P x:=fun x ah=>by
  rw [BG];refine⟨(AJ.words x ah).mono (aQu _),fun b ae=>?_⟩;have h1:=((Bo.o.words x ah).block b ae).2.1;have Aa:=Ai.o.size;rw [BF];omega
 have C9:L.B<=dN.heap.size:=by rw [Bw];exact Az.size
 have BH:SeqStopsK Fence.wide 5 prog 218 #[pp (af.heap.size+1+1+1) 0] (aaN (P:=P)) (dw L.B) (fun ys=>ys.map (·.1.2)=X.reverse) (fun _=>True) n dN:=by have:=aGX P 5 om (af.heap.size+1+1+1) L.B A c X om C8 dN C9 (by rw [<- BA];exact Bu) (fun W' Dc=>(AJ.row.uP Dc dc dc).rd);rwa [<- BA] at this
 have BI:Xu (P:=P) dN L v [] dN:=⟨⟨none,0,[],A7⟩,dw.refl _ _⟩;obtain⟨AZ,CE,CJ,BJ,CK,CL,Af⟩:=hq7 Az Ae BG BF Bw Db C9;have ER:L.m < af.heap.size+1:=om;obtain⟨R,aK⟩:=ai (af.heap.size+1);clear Ay Bq AP AV Al Ae Bu Bv AJ Az Br Bt Ak Au A7 BG C8 Ad Da BF BA;refine wpIn_rangeFunc_ownH rfl om (gf:=218) (lb:=#[pp (af.heap.size+1+1+1) 0]) rfl trivial (enters_of func218 kr rfl)
  BH dw.trans (fun W l o De hl h h1 _=>dw.put W l o De (aQn Af.o hl) h h1 (fun e=>by have Aa:=AO.o _ e;have I:=AZ.o.size;omega)) (Below.refl _ _) (fun _=>rfl)
  (Xu dN L v)
  (fun _ _ _=>False)
  ?Df (fun _ _ _ _ _ hs _ _=>hs) BI
  (fun y BK W=>∃ AA,eO W AA #[.slice y.1.2.A y.1.2.c.ws.length y.1.2.fe,.string (az y.1.2.c.rest)] 300 /\ BK={ tmps:=#[.string mW,.slice mi Aj mV,undef,undef,.pointer none,.int .i64 0,.slice A n c,.int .i64 0,.int .i64 AL,pp (af.heap.size+1+1) 0,undef,pp AA 0,.tuple #[.slice A n c,.int .i64 0,.int .i64 AL],.string mW,.tuple #[.slice A n c,.int .i64 0,.int .i64 AL],.slice A n c,.int .i64 0,.int .i64 AL,.int .i64 0,.bool false,undef,.slice mi Aj mV,.slice iD Aj c2,.map (some af.heap.size),.agg #[.slice none 0 0,.slice iD Aj c2,.string ⟨#[]⟩,.map (some af.heap.size),.string ⟨#[]⟩,.bool false,.int .i64 0,.string ⟨#[]⟩,.string ⟨#[]⟩,.int .i64 0],pp (af.heap.size+1) 0,.slice A n c,.func (.func 218) #[] #[pp (af.heap.size+1+1+1) 0],.int .i64 y.1.1,.agg #[.slice y.1.2.A y.1.2.c.ws.length y.1.2.fe,.string (az y.1.2.c.rest)],undef,undef,undef,undef,undef,undef,undef,undef,undef,undef,undef],defers:=[] })
  ?Dg ?assign ?body ?done ?stop
 case Df =>
  rintro pre W W' row ⟨⟨J,c1,us,h1⟩,I⟩ ax AB;exact⟨⟨J,c1,us,h1.grow (n0:=dN.heap.size) ax AB Af.o I.size (by rw [CL.o];omega) (fun g e=>by cases e) (fun k hk=>aQq (AO.o k hk) AZ.o.size)⟩,I.trans (dw.grow (n0:=dN.heap.size) ax AB Af.o I.size (fun k hk=>aQq (AO.o k hk) AZ.o.size))⟩
 case Dg =>
  rintro y BK _ W W' row ⟨AA,h1,Aa⟩ ax AB;refine⟨AA,?_,Aa⟩;unfold eO at h1 |-;refine (ax.block AA (ic h1) fun e=>?_).trans h1;obtain⟨o,Ab,hc⟩:=(AB AA e.symm).2;rw [h1] at Ab;cases Ab;cases hc
 case assign =>
  rintro Ju pre ⟨⟨CS,jy⟩,ah⟩ W K ⟨h1,I⟩ aS;simp only [aaN];have Dh:=aa (show Xu (P:=P) dN L v pre W from ⟨h1,I⟩);have Dk:L.B<=W.heap.size:=h1.size;clear h1 I
  gi_wp2
  exact aS _ _ ((KeepsOthers.alloc _ _).from _) ((dw.refl _ W).alloc Dk _) (Dh.o.below ((Below.refl _ W).alloc (aQm _) _)) ⟨W.heap.size,aQt W _,rfl⟩
 case body =>
  rintro Ju pre ⟨⟨CS,jy⟩,ah⟩ BK W EU Bb ⟨⟨J,c1,us,h1⟩,I⟩ ⟨AA,CU,rfl⟩ EW;obtain⟨m,hm⟩:=ai ((Lv pre).length);have CV:m<=1000000000000:=by rw [hm,Lv,List.length_map,List.length_reverse];omega
  obtain⟨V,BL⟩:=ai us.reverse;have bg:L.B<=W.heap.size:=h1.size;have CW:Own W L.B 1 1 J m c1 V:=by rw [hm,BL];exact h1.row
  have Ag:=aa CW;have Ae:yN W (af.heap.size+1+1) R:=by rw [aK];exact (eO.keep CE.o I dc dc)
  have CZ:=aa Ae;have A7:=h1.run;rw [BJ.o,<- aK] at A7;have Ca:=aa (show ∀ aC,tF W L.B J m c1 V aC->eO aC R (um J (Lv pre).length c1 L.mi v.env.length L.mV [] L.m [] false pF.none) 295 from fun aC hm=>(hm.1.block R A7.lt fun e=>Ag.o.ne A7 dc e.symm).trans A7);have Dl:=aa (show ∀ aC,tF W L.B J m c1 V aC->aC.cell? (ad (af.heap.size+1+1) 0)=some (pp R 0) from fun aC hm=>(CZ.o.keep (hm.uP Ag.o bg)).cell);have BM:=aa (show ∀ aC,tF W L.B J m c1 V aC->aC.cell? (ad R 0)=some (.slice J m c1)/\aC.frozen? ⟨R,0,none⟩=false from fun aC Bi=>by
   have av:=Ca.o aC Bi;rw [<- hm] at av;exact⟨aQo aC R 0 _ _ _ av,aQF aC R 0 _ _ av⟩)
  have Cb:Own W 0 9 1 jy.A jy.c.ws.length jy.fe (cu jy.c.ws):=by rw [CJ.o] at ah;exact Own.uP ah.1 I dc dc
  have Dm:=aa (show ∀ b,bV jy.A=some b->b < L.R from by
   rw [CJ.o] at ah;exact ah.2)
  obtain⟨Dp,Dq,Dr,Dt,Ce,Dx,Dy⟩:=hq7 Cb h1 I CU hm BL aK;clear hm;have Ap:=CV;clear h1 I CU CW Ae A7 BL CV Cb;clear BI BH;clear aK
  gi_wp2
  have kE:=aa fun aC (aj:tF W L.B J m c1 V aC)=>And.intro (Dl.o aC aj) (BM.o aC aj).1;refine ng arN 10 [some _,some _,some _,some _,some _,some _,none,none,some _,some _] (F9 L.B J m c1 V (.func (.func 191) #[] #[pp (af.heap.size+1+1) 0,pp AA 0])) (tF W L.B J m c1 V) (oN L.B 1 1 J c1 (m+1) (V++[_])) (tF.start Ag.o) (fun j v w1 af ae h=>h.keep ae) ?_ (jJ:=⟨rx,rx,rx,rx,rx,rx,fun eH u af aj aK bz K aS=>?_,fun eH u af aj aK bz K aS=>?_,rx,rx,trivial⟩)
  rotate_left
  ·simp [iY,Region.binds] at bz;refine mf rfl ?_;go_simp;exact aS _ _ ⟨fun _=>⟨_,rfl,aQt af _,aj.Jv⟩,fT⟩ (aj.alloc _) (oN.alloc af _)
  ·simp [iY,Region.binds] at bz;exact mf rfl (aju aj (show F9 _ _ _ _ _ _ 6 _ _ from bz.2) rfl om bg rfl ⟨by simp [Act.eval,aK,bz.1],by simp [Act.eval,aK]⟩ aS)
  ·intro u aC aj Cf;obtain⟨Cg,Ci,Dz,Ck⟩:=(show F9 _ _ _ _ _ _ 7 _ _ from Cf 7 om).2 rfl;clear Cf;simp only [Dz];have EY:=(BM.o aC aj).1;have EZ:=(BM.o aC aj).2;have Am:=aa aj;have E8:=aa Ck;clear aj Ck;go_wp2_with fail;have BO:=Am.o.uP Ag.o bg;have Cm:=Am.o;have Cn:=E8.o;rw [Ce.o,Dx.o] at Cm Cn;have BP:R=L.R:=Dy.o.trans BJ.o.symm;have Co:(aJ.begun (Lv pre)).todo.length=m:=Ce.o.symm;have E9:yN aC (af.heap.size+1+1) L.R:=by rw [<- BP];exact CZ.o.keep BO
   have hf:=Dq.o.push Cm Cn (t:=.cmd jy.c) ⟨_,_,rfl,E9,jy.A,jy.fe,eO.keep Dt.o BO dc dc,Dp.o.uP BO dc dc,Dm.o⟩ (.inl rfl);have EB:=KeepsFrom.push (B':=dN.heap.size) Am.o Ag.o (Ca.o aC Am.o) 0 (.slice Cg (m+1) Ci);have ED:jL (aC.setCell ⟨R,0,none⟩ (.slice Cg (m+1) Ci)) L v none (aJ.begun (Lv (pre++[⟨(CS,jy),ah⟩]))):=by have Cs:=hf.1;rw [Co,<- BP] at Cs;rw [aG0];exact⟨_,_,_,Cs⟩
   have BQ:=hf.2;rw [Co,<- BP] at BQ;exact⟨EB,BQ,ED,Dr.o.trans BQ⟩
 case done =>
  rintro D ys W EG Ct ⟨h1,I⟩ aS;have AB:∀ r,some D=some r->dN.heap.size<=r/\∃ o:Obj,W.heap[r]?=some o/\o.isCells=false:=fun r e=>by cases e;exact⟨EG,_,aS,rfl⟩
  have Cv:DD (.returned (.tuple #[pp R 0,.int .i64 0])) (W.putObj D (.deferred none)):=by
   obtain⟨J,c1,us,h1⟩:=h1;rw [DR.o];refine .inr ⟨DW.o,L,by rw [fE,BJ.o,aK],CK.o,?_,?_⟩
   ·have Cw:=h1.grow (n0:=dN.heap.size) (aQR W D (.deferred none)) AB Af.o I.size (by rw [CL.o];omega) (fun g e=>by cases e) (fun k hk=>aQq (AO.o k hk) AZ.o.size);rw [aG1 Ct,Bp.o] at Cw;exact⟨_,_,_,Cw⟩
   ·have EH:=(dw.gT AZ.o (by rw [CK.o];exact aQm _):dw L.B w dN);exact (EH.trans I).trans (dw.grow (n0:=dN.heap.size) (aQR W D _) AB Af.o I.size (fun k hk=>aQq (AO.o k hk) AZ.o.size))
  have EI:=aa Cv;have Ec:W.cell? (ad (af.heap.size+1+1) 0)=some (pp R 0):=by rw [aK];exact (eO.keep CE.o I dc dc).cell 0
  have EK:=aa aS;clear h1 I Cv BI BH AB Ct aS
  gi_wp2
  refine⟨by simp,.inl ⟨_,_,rfl,aQ5 EK.o,?_⟩⟩;refine⟨_,aQT rfl _ _ _,?_⟩;have hf:=EI.o;rw [aK] at hf;exact hf
 case stop =>
  rintro D Ee pre W _ _ h _;exact h.elim
theorem aG7 [dR] (w:aRB) (v:Env) (aZ:Gh v) (text:ak) (hs:text.length<=1000000) (aj:qK w) (aL:∀ k,dR.E k->k < w.heap.size) (mi:aRC) (mV:Nat) (av:Rd w 2 mi v.env.length (Cc v.env)) :
  Calls prog 145 #[.string (az text),.slice mi v.env.length mV] w (aaO w v text):=by
 by_cases I:(pR eF text).1=0
 ·exact aG4 w v aZ text hs aj aL I mi mV av
 ·exact aG3 w v text hs aj I mi v.env.length mV
end
section
open Go.Maps Go.RowKit Go.Shelf
def aeZ:List TypeId:=[295,1,247,9,147,138,300,322,194]
def Vd (w w':aRB):Prop:=∀ (k:Nat) (cs:Array Value) (t:TypeId) (bf:Nat × Nat),w.heap[k]?=some (.cells cs t bf)->t∈aeZ->w'.heap[k]?=w.heap[k]?
section
variable {w w':aRB} {R:Nat} {q:Option Nat} (hk:Vd w w')
theorem eO.oI (hk:Vd w w') {cs:Array Value} (h:eO w g cs t) (aA:t∈aeZ):eO w' g cs t:=(hk g cs t _ h aA).trans h
theorem Own.oI (hk:Vd w w') {base aO n:Nat} {xs:aRD} (h:Own w base t aO A n c xs) (aA:t∈aeZ):Own w' base t aO A n c xs:=h.keep fun b ae _ _=>by
 obtain⟨_,_,cur,bf,hc⟩:=h.block b ae;exact hk b cur t bf hc aA
theorem ES.oI (hk:Vd w w') (h:ES w g q):ES w' g q:=by obtain⟨m,h1,I⟩:=h;exact⟨m,h1,eO.oI hk I dc⟩
theorem Dj.oI (hk:Vd w w') {d:Bj} (h:Dj w R q u d):Dj w' R q u d:=by
 cases d with
 | add=>exact h
 | scan x =>
  obtain⟨g1,g2,g3,e,h1,I,J⟩:=h;exact⟨g1,g2,g3,e,eO.oI hk h1 dc,eO.oI hk I dc,ES.oI hk J⟩
theorem wm.oI (hk:Vd w w') {d:Bj} (h:wm w R q u d):wm w' R q u d:=by obtain⟨g1,g2,v,e,h1,I,J⟩:=h;exact⟨g1,g2,v,e,eO.oI hk h1 dc,eO.oI hk I dc,Dj.oI hk J⟩
theorem yO.oI (hk:Vd w w') {th:rM} (h:yO w R q u th):yO w' R q u th:=by
 cases th with
 | add=>exact wm.oI hk h
 | D5 =>
  obtain⟨g1,e,h1⟩:=h;exact⟨g1,e,eO.oI hk h1 dc⟩
 | scan x=>exact wm.oI hk h
theorem ET.oI (hk:Vd w w') {t:iU} (h:ET w R q u t):ET w' R q u t:=by
 cases t with
 | cmd c =>
  obtain⟨g1,g2,e,h1,A,fe,I,J,M⟩:=h;exact⟨g1,g2,e,eO.oI hk h1 dc,A,fe,eO.oI hk I dc,Own.oI hk J dc,M⟩
 | sW p th =>
  obtain⟨g1,g2,g3,v,e,h1,I,J,M⟩:=h;exact⟨g1,g2,g3,v,e,eO.oI hk h1 dc,yO.oI hk I,eO.oI hk J dc,eO.oI hk M dc⟩
 | line x y =>
  obtain⟨g1,g2,g3,g4,e,h1,I,J,M⟩:=h;exact⟨g1,g2,g3,g4,e,eO.oI hk h1 dc,eO.oI hk I dc,eO.oI hk J dc,ES.oI hk M⟩
end
@[reducible] def vL (m:Nat):dR:=⟨fun k=>k=m⟩
@[reducible] def Cj:dR:=⟨fun _=>False⟩
theorem nT.oI [lG:dR] {q:Option Nat} {us:aRD} (h:nT w L v q s A c us) (hk:Vd w w') (hs:w.heap.size<=w'.heap.size)
  (hm:∀ (k:Nat) (o:Obj),L.B<=k->¬ dR.E k->w.heap[k]?=some o->o.isCells=false->w'.heap[k]?=w.heap[k]?):nT w' L v q s A c us:=by
 have A7:∀ {α:Type} {enc:α->Value} {n m:Nat} {M:fu α},L.B<=m->¬ dR.E m->eQ w prog 9 enc m n M->eQ w' prog 9 enc m n M:=fun AB he AA=>AA.keep (by
  obtain⟨es,AV,AJ,_⟩:=AA;exact hm _ _ AB he AJ rfl)
 refine⟨eO.oI hk h.run dc,h.base,Own.oI hk h.row dc,fun i t AL=>?_,Own.oI hk h.env dc,?_,?_,h.free.size hs⟩
 ·obtain⟨u,h1,J⟩:=h.tasks i t AL;exact⟨u,h1,ET.oI hk J⟩
 ·obtain⟨h1,M,J,Y⟩:=h.known;exact⟨h1,M,A7 h1 h.free.map J,Y⟩
 ·rcases h.seen with h1 | ⟨g,M,h1,J,Y,AO,AP⟩
  ·exact .inl h1
  ·exact .inr ⟨g,M,h1,J,Y,A7 J (h.free.seen g h1) AO,AP⟩
theorem jL.oI [lG:dR] {q:Option Nat} (h:jL w L v q s) (hk:Vd w w') (hs:w.heap.size<=w'.heap.size)
  (hm:∀ (k:Nat) (o:Obj),L.B<=k->¬ dR.E k->w.heap[k]?=some o->o.isCells=false->w'.heap[k]?=w.heap[k]?):jL w' L v q s:=by
 obtain⟨A,c,us,h⟩:=h;exact⟨A,c,us,h.oI hk hs hm⟩
theorem jL.guard (h:@jL Cj w L v none s) (hm:m < w.heap.size) (bJ:L.m≠m):@jL (vL m) w L v none s:=by obtain⟨A,c,us,h1,I,J,M,Y,A7,AA,_⟩:=h;letI:=vL m;exact⟨A,c,us,⟨h1,I,J,M,Y,A7,AA,⟨bJ,fun g e=>(by cases e),fun k e=>(by rw [show k=m from e];exact hm)⟩⟩⟩
structure nX where
 B:Nat
 X:Nat
 L:iW
 A:Option Addr
 c:Nat
 may:Lr
 m:Nat
 cZ:Option Addr
 rc:Nat
def o8 (l:nX) (P:nV) (b:dA):List Value:=[pp l.L.R 0,.slice l.A P.outs.length l.c,l.may.fn,.map (some l.m),.slice l.cZ b.reads.length l.rc,.string (az b.asks),.bool b.over,.int .i64 b.why]
structure iF (w:aRB) (l:nX) (P:nV) (ins asks:List ak) (b:dA):Prop where
 row:aM w l.X (o8 l P b) 253
 far:l.B<=l.X/\l.B<=l.m/\l.B<=l.L.B
 outs:Own w l.B 9 1 l.A P.outs.length l.c (cu P.outs)
 may:Ls w l.B l.may ins asks P.outs
 map:eQ w prog 9 encS l.m b.wrote.length b.wrote
 reads:Own w l.B 135 34 l.cZ b.reads.length l.rc (cz gZ b.reads)
 run:∃ q,@jL (vL l.m) w l.L P.v q b.ps
structure kD (l:nX) (w w':aRB):Prop where
 os:w'.os=w.os
 tape:w'.tape=w.tape
 output:w'.output=w.output
 size:w.heap.size<=w'.heap.size
 low:∀ k,k < l.B->w'.heap[k]?=w.heap[k]?
 cells:∀ (k:Nat) (cs:Array Value) (t:TypeId) (bf:Nat × Nat),w.heap[k]?=some (.cells cs t bf)->t ≠ 295 -> t ≠ 1 -> k≠l.X->some k≠bV l.cZ->w'.heap[k]?=w.heap[k]?
theorem kD.trans {l l':nX} {x y z:aRB} (h:kD l x y) (k:kD l' y z) (bg:l'.B=l.B) (aY:l'.X=l.X) (aK:∀ j,j < x.heap.size->some j≠bV l.cZ->some j≠bV l'.cZ):kD l x z :=
 ⟨k.os.trans h.os,k.tape.trans h.tape,k.output.trans h.output,aQn h.size k.size,fun j aD=>(k.low j om).trans (h.low j aD),fun j cs t bf aD h1 I J Y =>
  (k.cells j cs t bf ((h.cells j cs t bf aD h1 I J Y).trans aD) h1 I (by rw [aY];exact J) (aK j (ic aD) Y)).trans (h.cells j cs t bf aD h1 I J Y)⟩
theorem kD.gT {l:nX} (h:Below w.heap.size w w') (bg:l.B<=w.heap.size):kD l w w':=⟨h.os,h.tape,h.output,h.size,fun k hk=>h.block k om,fun k cs t bf hk _ _ _ _=>h.block k (ic hk)⟩
theorem kD.ug {l:nX} (h:fU l.X w w') (aY:l.B<=l.X):kD l w w':=⟨h.1,h.2.1,h.2.2.1,aQL h.2.2.2.1.symm,fun k hk=>h.2.2.2.2 k om,fun k cs t bf hk _ _ I _=>h.2.2.2.2 k I⟩
theorem kD.below {l:nX} (h:kD l w w'):Below l.B w w':=⟨h.os,h.tape,h.output,h.size,h.low⟩
section
variable {w w':aRB} {l:nX} {P:nV} {ins asks:List ak} {b b':dA}
theorem iF.size (h:iF w l P ins asks b):l.B<=w.heap.size:=aQn h.far.1 (aQ3 h.row.lt)
theorem aM.aG8 {n:Nat} {k:TypeId} {enc:α->Value} {M:fu α} (h:aM w g V t) (hm:eQ w prog k enc m n M):m≠g:=by obtain⟨es,J,I,_⟩:=hm;rintro rfl;rw [aM,I] at h;cases h
theorem iF.below (h:iF w l P ins asks b) (ae:Bl w w'):iF w' l P ins asks b:=by obtain⟨q,I⟩:=h.run;exact⟨h.row.all ae,h.far,h.outs.below ae (aQm _),h.may.below ae,h.map.below ae h.map.lt,h.reads.below ae (aQm _),q,by letI:=vL l.m;exact jL.below I ae⟩
theorem iF.dK (h:iF w l P ins asks b) (av:aM w' l.X (o8 l P b') 253) (aA:fU l.X w w') (h1:b'.ps=b.ps) (ag:b'.wrote=b.wrote) (au:b'.reads=b.reads):iF w' l P ins asks b':=by
 obtain⟨q,M⟩:=h.run;have I:∀ {g:Nat} {x:List ak},sO w l.B g x->sO w' l.B g x:=fun {g x} hs=>by
  obtain⟨A,c,J,Y⟩:=hs.row;refine⟨hs.far,A,c,J.dK aA ?_,iJ Y h.row dc aA⟩;rintro rfl;have:=J.symm.trans h.row;injection this with this
  injection this with _ this
  exact absurd this dc
 refine⟨av,h.far,iJ h.outs h.row dc aA,⟨I h.may.o,I h.may.i,I h.may.a⟩,?_,?_,q,?_⟩
 ·rw [ag];exact h.map.keep (aA.2.2.2.2 _ (h.row.aG8 h.map))
 ·rw [au];exact iJ h.reads h.row dc aA
 ·rw [h1];letI:=vL l.m;refine jL.oI M (fun k cs t bf hk A7=>aA.2.2.2.2 k ?_) (aQL aA.2.2.2.1.symm) fun k o _ _ hk hc=>aA.2.2.2.2 k ?_
  ·rintro rfl;rw [h.row] at hk;injection hk with hk
   injection hk with _ hk
   subst hk;exact absurd A7 dc
  ·rintro rfl;rw [h.row] at hk;injection hk with hk
   subst hk;cases hc
end
end
section
open Go.Maps Go.RowKit Go.Shelf
theorem fU.trans {x y z:aRB} (h:fU g x y) (k:fU g y z):fU g x z:=⟨k.1.trans h.1,k.2.1.trans h.2.1,k.2.2.1.trans h.2.2.1,k.2.2.2.1.trans h.2.2.2.1,fun j aD=>(k.2.2.2.2 j aD).trans (h.2.2.2.2 j aD)⟩
variable {w:aRB} {l:nX} {P:nV} {ins asks:List ak} {b:dA}
theorem akS (h:iF w l P ins asks b) (y:Nat):CR 150 #[pp l.X 0,.int .i64 y] w (.tuple #[]) fun w'=>iF w' l P ins asks (b.fail y)/\kD l w w':=by
 have I:=h.row;have M:(o8 l P b).set 6 (.bool true)=o8 l P { b with over:=true }:=rfl;have Y:(o8 l P { b with over:=true }).set 7 (.int .i64 y)=o8 l P (b.fail y):=rfl;have A7:6+1<=(o8 l P b).length:=by show 7<=8;omega
 have AA:7+1<=(o8 l P { b with over:=true }).length:=by show 8<=8;omega
 have J:=fun (W:aRB) (AV:aM W l.X (o8 l P (b.fail y)) 253) (AB:fU l.X w W)=>show iF W l P ins asks (b.fail y)/\kD l w W from ⟨h.dK AV AB rfl rfl rfl,kD.ug AB h.far.1⟩
 obtain⟨Al,AJ⟩:=ai (o8 l P b);obtain⟨Am,AL⟩:∃ V,V=o8 l P { b with over:=true }:=⟨_,rfl⟩;obtain⟨uO,AO,X,AP⟩:=nq2 (o8 l P (b.fail y)) l.X;have AZ:Sz 4 1:=kr;have Aa:Sz 40 1:=kr;have Ao:(Value.bool true).cells.toList=[.bool true]:=rfl;have Ap:(Value.int .i64 (y:Int)).cells.toList=[.int .i64 y]:=rfl;have Ab:(Value.bool true).oneCell'=true:=rfl;have Ad:(Value.int .i64 (y:Int)).oneCell'=true:=rfl;rw [<- AJ] at I A7 M;rw [<- AL] at M Y AA;rw [<- AO] at Y J;rw [<- AP] at I J |-;have Ae:=aa I;have Af:=aa J;clear J I AJ AL AO AP h;go_enter func150,ntmps150;go_wp2_with (first
  | ((with_reducible refine BU 6 (.bool true) Ae.o AZ A7 Ab M ?_);refine zR ?_;intro aF Ag Ah)
  | ((with_reducible refine BU 7 (.int .i64 y) Ag.o Aa AA Ad Y ?_);refine zR ?_;intro aV Ai Ak))
 refine bodyPost_end (aRe rfl _ _ _) rfl ?_;exact⟨rfl,Af.o aV Ai.o (Ah.o.trans Ak.o)⟩
theorem aHa (h:iF w l P ins asks b) (g:Nat) (ax:w.cell? (ad g 0)=some (pp l.X 0)) (p:ak) (aL:p.length<=1100000) :
  Calls prog 198 (#[.string (az p)]++#[pp g 0]) w fun e w'=>e = .returned (.bool (!(getM b.wrote p).isSome))/\Bl w w':=by
 have M:=h.map.look_ok O1 underlying9 underlying189 [] (Zy w) (az p) (by rw [iM];unfold maxLen;omega);rw [gU] at M;have bF:=h.row.cell 3;obtain⟨r,I⟩:=ai ((getM b.wrote p).isSome);obtain⟨d,Y⟩:=ai (encS ((getM b.wrote p).getD []));obtain⟨S,J⟩:=ai (az p);rw [<- I,<- Y,<- J] at M;rw [<- I,<- J];simp only [o8,List.getElem?_cons_succ,List.getElem?_cons_zero] at bF;clear h I Y J;go_enter func198,ntmps198;go_wp2_with fail;go_ret;exact⟨rfl,Below.refl _ _⟩
def dA.put (P:nV) (b:dA) (p d:ak):dA:=if (getM b.wrote p).isSome=true\/p ∉ P.outs then b.fail 14 else { b with wrote:=oz b.wrote p d }
theorem aHb {M:fu α} {p:ak} (a:α) (h:getM M p=none):(oz M p a).length=M.length+1:=by
 have h1:∀ (x:ak × α) (M:fu α),(zb x M).length=M.length+1:=fun x M=>by
  induction M with
  | nil=>rfl
  | cons y r I =>
   unfold zb;split
   ·rfl
   ·rw [List.length_cons,I,List.length_cons]
 have J:I4 M p=M:=by rw [I4,List.filter_eq_self];intro y hy;rw [getM,Option.map_eq_none_iff,List.find?_eq_none] at h;simpa using h y hy
 rw [oz,h1,J]
theorem iF.wrote (h:iF w l P ins asks b) {M:fu ak} (hm:eQ w' prog 9 encS l.m M.length M) (aA:fU l.m w w'):iF w' l P ins asks { b with wrote:=M }/\kD l w w':=by
 obtain⟨es,AL,A7,_⟩:=h.map;have hc:∀ (k:Nat) (cs:Array Value) (t:TypeId) (bf:Nat × Nat),w.heap[k]?=some (.cells cs t bf)->w'.heap[k]?=w.heap[k]?:=fun k cs t bf hk=>aA.2.2.2.2 k (by
  rintro rfl;rw [A7] at hk;cases hk)
 have I:∀ {base aO n c:Nat} {t:TypeId} {A:aRC} {xs:aRD},Own w base t aO A n c xs->Own w' base t aO A n c xs:=fun ah=>ah.keep fun k hk _ _=>by
  obtain⟨_,_,cur,bf,ae⟩:=ah.block k hk;exact hc k cur _ bf ae
 have J:∀ {g:Nat} {x:List ak},sO w l.B g x->sO w' l.B g x:=fun {g x} hs=>by
  obtain⟨A,c,Y,AA⟩:=hs.row;exact⟨hs.far,A,c,(hc g _ _ _ Y).trans Y,I AA⟩
 obtain⟨q,AB⟩:=h.run;refine⟨⟨(hc _ _ _ _ h.row).trans h.row,h.far,I h.outs,⟨J h.may.o,J h.may.i,J h.may.a⟩,hm,I h.reads,q,?_⟩,⟨aA.1,aA.2.1,aA.2.2.1,aQL aA.2.2.2.1.symm,fun k hk=>aA.2.2.2.2 k (by have:=h.far.2.1;omega),fun k cs t bf hk _ _ _ _=>hc k cs t bf hk⟩⟩;letI:=vL l.m;exact jL.oI AB (fun k cs t bf hk _=>hc k cs t bf hk) (aQL aA.2.2.2.1.symm) fun k o _ AJ hk _=>aA.2.2.2.2 k AJ
theorem aHc (h:iF w l P ins asks b) (p d:ak) (aL:p.length<=1100000) (hl:P.outs.length<=1000) (aB:b.wrote.length < maxLen) :
  CR 197 #[pp l.X 0,.string (az p),.string (az d)] w (.tuple #[]) fun w'=>iF w' l P ins asks (b.put P p d)/\kD l w w':=by
 have AL:=h.map.look_ok O1 underlying9 underlying189 [] (Zy w) (az p) (by rw [iM];unfold maxLen;omega);have AO:=akS h 14;have Y:=adW w l.A l.c P.outs h.outs.rd hl p;rw [gU] at AL;have bF:=h.row.cell 3;have c1:=h.row.cell 1;simp only [o8,List.getElem?_cons_succ,List.getElem?_cons_zero] at bF c1;obtain⟨r,A7⟩:=ai ((getM b.wrote p).isSome);obtain⟨z,AZ⟩:=ai (encS ((getM b.wrote p).getD []));obtain⟨o,I,Ak,AP⟩:=nq2 (P.outs.contains p) (b.put P p d);have J:=AP;rw [dA.put,<- A7] at J;have Aa:o=false->p ∉ P.outs:=fun e ah=>by rw [e] at I;simp at I;exact I ah
 have Ab:o=true->p∈P.outs:=fun e=>by rw [e] at I;simpa using I.symm
 rw [<- A7,<- AZ] at AL;rw [<- I] at Y;rw [<- AP];obtain⟨S,AA,X,AB,m,hm⟩:=nq3 (az p) l.X l.m;rw [<- AB] at AO c1 bF |-;rw [<- hm] at AL bF;rw [<- AA] at AL Y;rw [<- AA];have Al:=aa Y;cases r with
 | true =>
  have AV:=aa (show Ak=b.fail 14 by rw [J,if_pos (.inl rfl)]);have Ad:=aa AO;clear Y AO J Aa Ab AZ I AP AA AB hm A7 h Al aB;go_enter func197,ntmps197;go_wp2_with (first | (go_at_call 150; refine jw Ad.o ?_;intro af Ae));refine qm ?_;exact⟨rfl,by rw [AV.o];exact Ae.o⟩
 | false =>
  have AJ:∀ W:World,Bl w W->iF W l P ins asks b:=fun W ae=>h.below ae;have Af:=h.size;cases o with
  | false =>
   have AV:=aa (show Ak=b.fail 14 by rw [J,if_pos (.inr (Aa rfl))]);have Ad:=aa (fun W (ae:Bl w W)=>akS (AJ W ae) 14);rw [<- AB] at Ad;have Ay:=aa Af;clear Y AO J Aa Ab AZ I AP AA AB hm A7 h AJ Af aB;go_enter func197,ntmps197;go_wp2_with (first
    | (go_at_call 70; refine jw Al.o ?_;intro w1 Ag)
    | (go_at_call 150; refine jw (Ad.o w1 Ag.o) ?_;intro af Ae))
   refine qm ?_;exact⟨rfl,by rw [AV.o];exact⟨Ae.o.1,(kD.gT Ag.o Ay.o).trans Ae.o.2 rfl rfl fun _ _ h=>h⟩⟩
  | true =>
   have AV:=aa (show Ak={ b with wrote:=oz b.wrote p d } by rw [J,if_neg (by simpa using Ab rfl)]);have Ao:getM b.wrote p=none:=by rw [<- Option.not_isSome_iff_eq_none,<- A7];decide
   have Am:=aa (fun W (ae:Bl w W)=>(AJ W ae).map.update O1 underlying9 underlying189 aB (az p) (by rw [iM];unfold maxLen;omega) d);have Az:=aa (fun (W aV:aRB) (ae:Bl w W) (h1:eQ aV prog 9 encS l.m (b.wrote.length+1) (oz b.wrote p d)) (BA:fU l.m W aV)=>show iF aV l P ins asks { b with wrote:=oz b.wrote p d }/\kD l w aV from by
    have:=(AJ W ae).wrote (M:=oz b.wrote p d) (by rw [aHb d Ao];exact h1) BA;exact⟨this.1,(kD.gT ae Af).trans this.2 rfl rfl fun _ _ h=>h⟩)
   rw [gU,<- AA,<- hm] at Am;have BF:=aa (fun W (ae:Bl w W)=>show W.cell? (ad X 3)=some (.map (some m)) by
    have:=(AJ W ae).row.cell 3;rw [AB,hm];exact this)
   have BG:=aa hm;clear AO J Aa Ab AZ I AP AA A7 h AJ Af aB Y Ao AB hm;obtain⟨BI,Ah⟩:=ai (encS d);rw [<- Ah] at Am;rw [encS] at Ah;rw [<- Ah];clear Ah;go_enter func197,ntmps197;go_wp2_with (first
    | (go_at_call 70; refine Al.o.mono ?_;rintro e w1 ⟨rfl,Ai⟩;have Ag:=aa Ai;obtain⟨BH,BJ,Ap,Aq⟩:=Am.o w1 Ai;have BK:=BF.o w1 Ai;have Au:=aa Ap;have Aw:=aa Aq;clear Ai Ap Aq bF c1 AL))
   refine bodyPost_end (aRe rfl _ _ _) rfl ?_;rw [BG.o] at Au Aw;exact⟨rfl,by rw [AV.o];exact Az.o w1 BH Ag.o Au.o Aw.o⟩
end
section
open Go.Maps Go.RowKit Go.Shelf
def ae3 (d:pF):Prop:=d.kind=2->d.path.length<=1000000
theorem aHe {n a:ak} (h:(s.dK n a l).over.kind=2):s.over.kind=2:=by
 unfold aJ.dK at h;repeat' split at h
 all_goals first
  | exact aaz (s:={ s with buf:=[] }) h
  | exact h
theorem aHf {c:sD} (h:(s.wK v c).over.kind=2):s.over.kind=2\/(s.wK v c).over.path=(c.ws.drop 1).headD []:=by
 unfold aJ.wK at h |-;simp only at h |-;repeat' split at h
 all_goals first
  | exact .inl (asZ h)
  | exact .inl (as0 (s:={ s with seen:=[] }) h)
  | exact .inl (aaz h)
  | exact .inl (aHe h)
  | exact .inl h
  | (cases h;done)
  | skip
 all_goals (right;simp_all)
theorem aHg (h:ae3 s.over) (hl:∀ t∈s.todo,air t):ae3 (s.step v).over:=by
 by_cases hs:s.Still
 ·rw [aJ.Hy hs];exact h
 ·cases I:s.todo with
  | nil=>rw [Jf hs I];exact fun e=>(by cases e)
  | cons t r =>
   rw [step_cons hs I];intro J;have A7:=(Q6 hs).1;cases t with
   | cmd c =>
    rcases aHf (s:={ s with todo:=r }) J with M | M
    ·simp only at M;omega
    ·have hc:Ww c:=hl (.cmd c) (by rw [I];simp);show (aJ.wK v { s with todo:=r } c).over.path.length<=_;rw [M];cases Y:c.ws.drop 1 with
     | nil=>simp
     | cons x y=>exact hc.2.2.1 x (aRz (by rw [Y];simp))
   | sW p th=>have:=akc (t:=.sW p th) rfl J;simp only at this;omega
   | line x w=>have:=akc (t:=.line x w) rfl J;simp only at this;omega
theorem atK:∀ (n:Nat) {s:aJ},Inv U s->ae3 s.over->ae3 (s.run v n).over
 | 0,_,_,h=>h
 | n+1,_,I,h=>atK n (I.step v) (aHg h I.ord.lim.tasks)
theorem aHh (ay:Inv U s) (hf:s.over.kind≠2):(qw (xA v s)).path.length<=1000000\/(qw (xA v s)).kind≠1/\(qw (xA v s)).kind≠2:=by
 obtain⟨n,J⟩:=ay.stands v;rw [Lg J,qw];split
 ·exact .inl (ay.run n).ord.lim.asks
 ·rename_i hw;by_cases I:(s.run v n).over.kind=2
  ·exact .inl (atK n ay (fun e=>absurd e hf) I)
  ·refine .inr ⟨?_,I⟩;rcases (ay.run n).ord.over with e | e | e | e
   ·rw [e];decide
   ·exact absurd e I
   ·rw [e];decide
   ·rw [e];decide
theorem aHi (h:uS P U b) (gq:b.over=false) {f:Nat} (hf:p9 b.ps.todo < f+1) (hs:s=xA P.v b.ps) {b':dA} (ae:b'=dA.did P { b with ps:=s.next } (qw s)) :
  (b'.over=true->rz P (f+1) b=b')/\((qw s).kind=1->rz P (f+1) b=b')/\((qw s).kind≠1->b'.over=false->rz P (f+1) b=rz P f b'/\p9 b'.ps.todo < f):=by
 subst hs ae;have M:∀ (n:Nat) (x:dA),x.over=true->rz P n x=x:=fun n x ah=>by
  cases n with
  | zero=>rw [rz]
  | succ n=>rw [rz,if_pos ah]
 rw [rz,if_neg (by rw [gq];decide)];simp only;refine⟨fun J=>?_,fun h1=>if_pos h1,fun h1 J=>?_⟩
 ·split
  ·rfl
  ·exact M _ _ J
 ·rw [if_neg h1];refine⟨rfl,?_⟩;obtain⟨m,hm⟩:=h.inv.stands P.v;obtain⟨f1,f2⟩:=dA.as8 P { b with ps:=(xA P.v b.ps).next } (qw (xA P.v b.ps));rw [f1];show p9 (aJ.next _).todo < f;rw [ake,Lg hm];have I:(qw (xA P.v b.ps)).kind=2:=by
   by_cases I:(qw (xA P.v b.ps)).kind=2
   ·exact I
   ·have:(dA.did P { b with ps:=(xA P.v b.ps).next } (qw (xA P.v b.ps))).over=true:=by unfold dA.did;rw [if_neg h1,if_neg I];split <;> rfl
    rw [this] at J;cases J
  have Y:p9 (b.ps.run P.v m).todo < p9 b.ps.todo:=by
   refine (aeB P.v m b.ps h.fresh).2 ?_;rw [Lg hm,qw] at I;split at I
   ·cases I
   ·exact I
  omega
structure aaR (P:nV) (ins asks:List ak):Prop where
 env:Gh P.v
 may:P.may=U8 ins asks P.outs
 sum:P.sum=iA
 n:ins.length<=1000/\asks.length<=1000/\P.outs.length<=1000
 BN:∀ p∈asks,p.length<=1100000
 zX:∀ p∈P.outs,p.length<=1100000
theorem uS.akU (h:uS P U b):b.wrote.length<=P.outs.length:=by
 have:=Xa (akd h.A8) (m:=P.outs) fun x ah=>by
  obtain⟨y,hy,rfl⟩:=aQv.1 ah;exact (h.wrote y hy).2
 rwa [List.length_map] at this
theorem iF.tool {l:nX} {asks:List ak} (h:iF w l P ins asks b) (ae:@dw (vL l.m) l.L.B w w') (aH:∃ q,@jL (vL l.m) w' l.L P.v q s):iF w' l P ins asks { b with ps:=s }/\kD l w w':=by
 have hc:∀ (k:Nat) (cs:Array Value) (t:TypeId) (bf:Nat × Nat),w.heap[k]?=some (.cells cs t bf)->t ≠ 295 -> t ≠ 1 -> w'.heap[k]?=w.heap[k]?:=fun k cs t bf hk h1 I=>@dw.cells (vL l.m) _ _ _ ae k cs t bf hk h1 I;have J:∀ {base aO n c:Nat} {t:TypeId} {A:aRC} {xs:aRD},Own w base t aO A n c xs->t ≠ 295 -> t ≠ 1 -> Own w' base t aO A n c xs:=fun ah h1 I=>ah.keep fun k hk _ _=>by
  obtain⟨_,_,cur,bf,ae⟩:=ah.block k hk;exact hc k cur _ bf ae h1 I
 have M:∀ {g:Nat} {x:List ak},sO w l.B g x->sO w' l.B g x:=fun {g x} hs=>by
  obtain⟨A,c,Y,A7⟩:=hs.row;exact⟨hs.far,A,c,(hc g _ _ _ Y dc dc).trans Y,J A7 dc dc⟩
 have AA:w'.heap[l.m]?=w.heap[l.m]?:=by obtain⟨es,AJ,AB,_⟩:=h.map;exact @dw.maps (vL l.m) _ _ _ ae l.m _ AB rfl rfl
 exact⟨⟨(hc _ _ _ _ h.row dc dc).trans h.row,h.far,J h.outs dc dc,⟨M h.may.o,M h.may.i,M h.may.a⟩,h.map.keep AA,J h.reads dc dc,aH⟩,
  ⟨@dw.os (vL l.m) _ _ _ ae,@dw.tape (vL l.m) _ _ _ ae,@dw.output (vL l.m) _ _ _ ae,@dw.size (vL l.m) _ _ _ ae,fun k hk=>@dw.low (vL l.m) _ _ _ ae k (by have:=h.far.2.2;omega),fun k cs t bf hk h1 I _ _=>hc k cs t bf hk h1 I⟩⟩
theorem aHj {l:nX} {asks:List ak} (h:iF w l P ins asks b) (ay:Inv U b.ps) (aZ:Gh P.v) (hw:Home w l.L) (hs:s=xA P.v b.ps) :
  CR 196 #[pp l.L.R 0] w (aev (qw s)) fun w'=>iF w' l P ins asks { b with ps:=s.next }/\kD l w w':=by
 obtain⟨q,J⟩:=h.run;obtain⟨n,I⟩:=ay.stands P.v;rw [hs,Lg I];have M:Calls prog 196 #[pp l.L.R 0] w (@aew (vL l.m) w l.L P.v (b.ps.run P.v n)):=by letI:=vL l.m;exact aFP w l.L P.v aZ q b.ps J hw (fun k=>(ay.run k).sound) n I
 exact M.mono fun e w' ⟨he,Y,ae⟩=>⟨he,h.tool ae Y⟩
theorem aHk {l:nX} {asks:List ak} (h:iF w l P ins asks b) (ay:Inv U b.ps) (aZ:Gh P.v) (hw:Home w l.L) (k:dz) (hk:k.path.length<=1000000000/\k.data.length<=1000000000) (sN:b.ps.waits=true) :
  CR 149 #[pp l.L.R 0,xy k] w (.int .i64 (b.ps.gave k).1) fun w'=>iF w' l P ins asks { b with ps:=(b.ps.gave k).2 }/\kD l w w':=by
 obtain⟨q,I⟩:=h.run;have J:Calls prog 149 #[pp l.L.R 0,xy k] w (@Xd (vL l.m) w l.L P.v b.ps k):=by letI:=vL l.m;exact aFR w l.L P.v aZ q b.ps I hw (fun k=>(ay.run k).sound) 0 (.inr sN) k hk fun _=>(ay.ord.waits sN).2.1
 exact J.mono fun e w' ⟨he,M,ae⟩=>⟨he,h.tool ae M⟩
structure vM (w:aRB) (B:Nat):Prop where
 wh:qK w
 EX:0 < B
 Gg:Lib.TabBelow prog B w "internal/strconv.uint64pow10" .u64 Lib.pow10Tab
theorem qK.low (h:qK w) (ae:Below B w w') (ax:0 < B):qK w':=by obtain⟨m,hm⟩:=h;exact⟨m,(ae.cell (p:=ad 0 0) ax).trans hm⟩
theorem vM.below (h:vM w B) (ae:Below B w w'):vM w' B:=⟨h.wh.low ae h.EX,h.EX,h.Gg.on ae⟩
theorem vM.up (h:vM w B) (bg:B<=B'):vM w B':=⟨h.wh,aQq h.EX bg,fun w' ae=>h.Gg w' (ae.mono bg)⟩
theorem vM.home (h:vM w B) (bg:B<=L.B) (hs:L.B<=w.heap.size):Home w L:=⟨h.wh,(h.up bg).EX,hs,(h.up bg).Gg⟩
structure aaS (dI wr:aRB) (l:nX) (P:nV) (ins asks:List ak) (U:List dz) (g0:Nat) (R b:dA) (f:Nat):Prop where
 at_:iF wr l P ins asks b
 inv:uS P U b
 but:kD l dI wr
 box:aM wr g0 [pp l.X 0] 182
 goal:(b.over=true/\R=b)\/(b.over=false/\R=rz P f b/\p9 b.ps.todo < f)
 home:vM wr l.B
theorem aM.Lx {l:nX} (h:aM w g V t) (ae:kD l w w') (h1:t ≠ 295) (ag:t ≠ 1) (au:g≠l.X) (aN:some g≠bV l.cZ):aM w' g V t:=(ae.cells _ _ _ _ h h1 ag au aN).trans h
theorem iF.ae5 {l:nX} {asks:List ak} (h:iF w l P ins asks b) (av:aM w g V t) (aA:t ≠ 135):some g≠bV l.cZ:=fun e=>h.reads.ne av (fun e=>aA e.symm) e.symm
theorem iF.atL {l:nX} {asks:List ak} (h:iF w l P ins asks b) (av:aM w g V t) (aA:t ≠ 253):g≠l.X:=by
 rintro rfl;have:=av.symm.trans h.row;injection this with this
 injection this with _ this
 exact aA this
theorem aaS.next {dI wr:aRB} {l:nX} {asks:List ak} {g0:Nat} {R b':dA} {f:Nat} (h:aaS dI wr l P ins asks U g0 R b f) (nI:iF w' l P ins asks b') (ay:uS P U b') (ae:kD l wr w') (ax:(b'.over=true/\R=b')\/(b'.over=false/\R=rz P (f - 1) b'/\p9 b'.ps.todo < f - 1)):aaS dI w' l P ins asks U g0 R b' (f - 1) :=
 ⟨nI,ay,h.but.trans ae rfl rfl fun _ _ h=>h,h.box.Lx ae dc dc (h.at_.atL h.box dc) (h.at_.ae5 h.box dc),ax,h.home.below ae.below⟩
theorem atM {l:nX} {asks:List ak} (hk:aaR P ins asks) (h:iF w l P ins asks b) (ay:uS P U b) (ek:vM w l.B) (n:Nat) (aB:p9 b.ps.todo < n) :
  CR 148 #[pp l.X 0] w (.tuple #[]) fun w'=>iF w' l P ins asks (rz P n b)/\kD l w w':=by
 obtain⟨aF,Bv⟩:=ai (w.alloc (.cells #[pp l.X 0] 182));have Am:=gQ Bv;have Dm:=lH Bv;obtain⟨R,aK⟩:=ai (rz P n b);have Dp:∀ (k:Nat) (x:dA),x.over=true->rz P k x=x:=fun k x ah=>by
  cases k with
  | zero=>rw [rz]
  | succ k=>rw [rz,if_pos ah]
 have J:aaS w aF l P ins asks U w.heap.size R b n:=⟨h.below Am,ay,kD.gT Am h.size,Dm,by
  cases Ai:b.over with
  | true=>exact .inl ⟨rfl,by rw [aK];exact Dp n b Ai⟩
  | false=>exact .inr ⟨rfl,aK,aB⟩,ek.below (Am.mono h.size)⟩
 rw [<- aK];obtain⟨X,aY,g0,Cm⟩:=nq2 l.X w.heap.size;rw [<- Cm] at J;rw [<- aY] at Bv |-;obtain⟨Cn,BA,Af,Co⟩:=hq4 J hk aY Cm;have Ao:=Bv.symm;clear J hk aY Cm Bv aK Dp Dm Am h ay ek aB;go_enter func148,ntmps148;go_wp2_with fail;rw [<- Co.o];clear Ao;go_loopg [2] n (fun gk FD wr=>∃ b',aaS w wr l P ins asks U g0 R b' gk);case atStart=>exact⟨b,Cn.o⟩
 case round =>
  obtain⟨b',J⟩:=hrel;have BL:=J.box.cell 0;have Ap:=J.at_.row.cell 6;simp only [o8,List.getElem?_cons_succ,List.getElem?_cons_zero] at BL Ap;rw [<- Af.o] at BL Ap;cases Ai:b'.over with
  | true =>
   rw [Ai] at Ap;have En:=aa (show iF wr l P ins asks R/\kD l w wr from ⟨(by
    rcases J.goal with ⟨_,e⟩ | ⟨e,_⟩
    ·rw [e];exact J.at_
    ·rw [Ai] at e;cases e),J.but⟩)
   clear J Ai;go_wp2_with fail;refine bodyPost_end (aRe rfl _ _ _) rfl ?_;exact⟨rfl,En.o⟩
  | false =>
   rw [Ai] at Ap;have CV:R=rz P gk b'/\p9 b'.ps.todo < gk:=by
    rcases J.goal with ah | ah
    ·rw [Ai] at ah;cases ah.1
    ·exact ah.2
   obtain⟨f,rfl⟩:∃ f,gk=f+1:=⟨gk - 1,om⟩;obtain⟨s,hs⟩:=ai (xA P.v b'.ps);obtain⟨d,aT⟩:=ai (qw s);obtain⟨Y,Bw⟩:∃ x:dA,x={ b' with ps:=s.next }:=⟨_,rfl⟩;obtain⟨Ab,CW⟩:∃ x:dA,x=dA.did P Y d:=⟨_,rfl⟩;have hid:=J.inv.did Ai;rw [<- hs,<- aT,<- Bw,<- CW] at hid;obtain⟨g1,g2,g3⟩:=aHi J.inv Ai CV.2 hs (b':=Ab) (by rw [CW,Bw,aT]);rw [<- CV.1,<- aT] at g2;rw [<- CV.1] at g1 g3;rw [<- aT] at g3;have Cs:=aHh (v:=P.v) J.inv.inv J.inv.fresh;rw [<- hs,<- aT] at Cs;have Bc:=aHj J.at_ J.inv.inv BA.o.env (J.home.home J.at_.far.2.2 (aQn (by obtain⟨q,Eo⟩:=J.at_.run;letI:=vL l.m;exact jL.size Eo) (aQm _))) hs;rw [<- aT,<- Bw] at Bc;have Dq:Y.wrote.length < maxLen:=by have h1:=J.inv.akU;have ag:=BA.o.n.2.2;rw [Bw];show b'.wrote.length < maxLen;unfold maxLen;omega
   have Dr:d.kind≠1\/Ab.over=true->(Ab.over=true/\R=Ab)\/(Ab.over=false/\R=rz P (f+1 - 1) Ab/\p9 Ab.ps.todo < f+1 - 1):=fun ah=>by
    rw [Nat.add_sub_cancel];cases Ct:Ab.over with
    | true=>exact .inl ⟨rfl,g1 Ct⟩
    | false=>exact .inr ⟨rfl,g3 (ah.resolve_right (by rw [Ct];decide)) Ct⟩
   have Bd:=aa (fun (Bf:aRB) (CZ:iF Bf l P ins asks Ab) (ae:kD l wr Bf) (ah:d.kind≠1\/Ab.over=true)=>J.next CZ hid ae (Dr ah));have Dt:d.kind=1->R=Ab:=g2;have Dx:=J.but;have Dy:=fun (Bf:aRB) (ae:kD l wr Bf)=>(J.box.Lx ae dc dc (J.at_.atL J.box dc) (J.at_.ae5 J.box dc)).cell 0;have Dz:=fun (Bf:aRB) (ae:kD l wr Bf)=>J.home.below ae.below;have BF:=J.at_.row.cell 0;simp only [o8,List.getElem?_cons_succ,List.getElem?_cons_zero] at BF;rw [<- Af.o] at BF;obtain⟨kL,E8⟩:=ai l.L.R;rw [<- E8] at BF Bc;have E9:aev d = .agg #[.int .i64 d.kind,.string (az d.path),.string (az d.data),.int .i64 d.why]:=rfl;rw [E9] at Bc;obtain⟨AP,Cv⟩:=ai (d.kind:Int);obtain⟨gM,Cw⟩:∃ k:Int,k=d.why:=⟨_,rfl⟩;obtain⟨AV,Cz,Ak,DD⟩:=nq2 (az d.path) (az d.data);rw [<- Cv,<- Cw,<- Cz,<- DD] at Bc;obtain⟨Bi,BG,Al,C8,BH,C9,EB,ED,EG,EH,DF,EI⟩:=hq12 Bc CW Cv Cw Cz DD Dt Dx Dy Dz Cs Dq;clear CV g1 g2 g3 Bc Dr Dt Dx Dy Dz E9 Cs hid Dq;clear J;clear hs aT Bw;clear CW Cv Cw Cz DD E8 Ai;have BM:=aa (fun (aC:aRB) (Ad:iF aC l P ins asks Y) (ae:kD l wr aC) (W:aRB) (CE:Bl aC W)=>show W.cell? (ad g0 0)=some (pp X 0)/\W.cell? (ad X 1)=some (.slice l.A P.outs.length l.c)/\W.cell? (ad X 2)=some l.may.fn from by
    have Ep:kD l wr W:=ae.trans (kD.gT CE Ad.size) rfl rfl fun _ _ h=>h;rw [Af.o];exact⟨EG.o W Ep,(Ad.below CE).row.cell 1,(Ad.below CE).row.cell 2⟩)
   have BO:=aa (fun (aC:aRB) (ae:kD l wr aC) (Ad:iF aC l P ins asks Y) (W:aRB) (CE:Bl aC W)=>show kD l wr W from ae.trans (kD.gT CE Ad.size) rfl rfl fun _ _ h=>h);have Bn:=aa (fun (W:aRB) (Ad:iF W l P ins asks Y) (ag:d.kind=2)=>aHc Ad d.path d.data (by
    rcases DF.o with h | h
    ·omega
    ·exact absurd ag h.2) BA.o.n.2.2 EI.o)
   have Bo:=aa (fun (W:aRB) (x:dA) (Ad:iF W l P ins asks x) (y:Nat)=>akS Ad y);rw [<- Af.o] at Bo Bn;rw [<- BH.o,<- C9.o] at Bn;have Bp:=aa (fun (W:aRB) (Ad:iF W l P ins asks Y) (ae:kD l wr W) (h1:d.kind=1)=>show Calls prog 193 #[.string AV,pp l.may.o 0,pp l.may.i 0,pp l.may.a 0] W fun e w'=>e = .returned (.bool (P.may d.path))/\Bl W w' by
    have:=aGP W l.B l.may ins asks P.outs Ad.may BA.o.n BA.o.BN d.path (by
     rcases DF.o with h | h
     ·omega
     ·exact absurd h1 h.1) (EH.o W ae).wh
    rw [<- BH.o,<- BA.o.may] at this;exact this)
   have Bq:=aa (fun (W:aRB) (h:iF W l P ins asks Ab) (ae:kD l wr W) (h1:d.kind=1)=>show iF W l P ins asks R/\kD l w W by
    rw [EB.o h1];exact⟨h,ED.o.trans ae rfl rfl fun _ _ h=>h⟩)
   clear ED EB EH DF EI EG;by_cases BP:AP=1
   ·have Er:(AP == 1)=true:=by rw [BP];rfl
    have DL:=aa (show d.kind=1 by have:=Al.o;omega);clear BP;obtain⟨m,DN⟩:=ai (P.may d.path);have Ag:=aa (show Ab=if m=true then { Y with asks:=d.path } else Y.fail 13 by rw [BG.o,dA.did,if_pos DL.o,DN]);rw [<- DN] at Bp;clear DN Bn Al C8 C9 BG;go_wp2_with (first
     | ((with_reducible refine CG Bi.o ?_);intro aC AL AZ;obtain⟨bS,AA⟩:=ai (aC.alloc (.cells #[.int .i64 AP,.string AV,.string Ak,.int .i64 gM] 293));have AB:Bl aC bS:=(by rw [AA];exact gK);have I:aM bS aC.heap.size [.int .i64 AP,.string AV,.string Ak,.int .i64 gM] 293:=(by rw [AA];exact aM.new aC _ _);have Ae:=aa AB;have Br:=aa I;have Aa:=aa (AL.o.below AB);obtain⟨AO,BQ,_⟩:=BM.o aC AL.o AZ.o bS AB;have d0:=I.cell 0;have d1:=I.cell 1;have d2:=I.cell 2;have d3:=I.cell 3;have Ao:=AA.symm;clear AB I AA BL Ap BF))
    have Bt:=aa (fun W (ae:Bl bS W)=>show W.cell? (ad g0 0)=some (pp X 0)/\W.cell? (ad X 2)=some (.func (.func 193) #[] #[pp l.may.o 0,pp l.may.i 0,pp l.may.a 0])/\W.cell? (ad aC.heap.size 1)=some (.string AV) by
     have h1:=BM.o aC AL.o AZ.o W (aR Ae.o ae);exact⟨h1.1,h1.2.2,(Br.o.all ae).cell 1⟩)
    have DR:=aa (fun W (ae:Bl bS W)=>Bp.o W (Aa.o.below ae) (BO.o aC AZ.o AL.o W (aR Ae.o ae)) DL.o);have DW:=aa (fun A7 (ae:Bl bS A7)=>BO.o aC AZ.o AL.o A7 (aR Ae.o ae));clear Ae Br AO BQ d0 d1 d2 d3 Ao BM BO Bi Bp;obtain⟨g4,EK⟩:=ai aC.heap.size;rw [<- EK] at Bt |-;clear EK;have kE:=Bt;refine ng nE 7 [some (pp X 0),some (pp X 0),some (pp X 2),some (.func (.func 193) #[] #[pp l.may.o 0,pp l.may.i 0,pp l.may.a 0]),some (pp g4 1),some (.string AV),some (.bool m)] (fun _ _ _=>False) (Bl bS) Bl ((Below.refl _ bS).drew) (fun j v w1 af ae h=>h.elim) ?_ (jJ:=?_)
    ·intro u af aj Es;clear Es;have CJ:=aa (Aa.o.below aj);have DX:=aa (DW.o af aj);obtain⟨AO,BI,Eu⟩:=Bt.o af aj;clear aj;cases m with
     | true =>
      have AJ:=Ag.o;rw [if_pos rfl] at AJ;subst AJ;have DY:=CJ.o.row;have Bu:(o8 l P Y).set 5 (.string AV)=o8 l P { Y with asks:=d.path }:=by rw [BH.o];rfl
      have DZ:=fun (W:aRB) (h1:aM W l.X (o8 l P { Y with asks:=d.path }) 253) (ag:fU l.X af W)=>Bq.o W (CJ.o.dK h1 ag rfl rfl rfl) (DX.o.trans (kD.ug ag CJ.o.far.1) rfl rfl fun _ _ h=>h) DL.o;obtain⟨Ca,Aq⟩:=ai (o8 l P Y);obtain⟨EL,BJ⟩:∃ V,V=o8 l P { Y with asks:=d.path }:=⟨_,rfl⟩;have Cb:5+1<=Ca.length:=by rw [Aq];show 6<=8;omega
      have Am:Sz 9 1:=kr;have Ev:(Value.string AV).cells.toList=[.string AV]:=rfl;have Ce:(Value.string AV).oneCell'=true:=rfl;rw [<- Aq,<- BJ] at Bu;rw [<- Aq,<- Af.o] at DY;rw [<- BJ,<- Af.o] at DZ;have Ew:=aa DY;have Ex:=aa DZ;clear DY DZ Aq BJ CJ DX Bd Bq Bo Bt DR DW Aa AL AZ Ag BH Cn Co;go_wp2_with (first
       | ((with_reducible refine BU 5 (.string AV) Ew.o Am Cb Ce Bu ?_);refine zR ?_;intro A7 Da CK))
      refine qm ?_;exact⟨rfl,Ex.o A7 Da.o CK.o⟩
     | false =>
      have AJ:=Ag.o;rw [if_neg dc] at AJ;subst AJ;clear Bq Bt DR DW Aa AL AZ Ag BH Cn Co;go_wp2_with (first
       | (go_at_call 150; refine CG (Bo.o af Y CJ.o 13) ?_;intro Cf Ah Db))
      go_roundg f;case rel=>exact⟨_,Bd.o Cf Ah.o (DX.o.trans Db.o rfl rfl fun _ _ h=>h) (.inr rfl)⟩
      case measure=>omega
    ·repeat' (first | exact trivial | apply And.intro)
     all_goals try exact rx
     all_goals intro eH u af aj aK bz K aS
     all_goals try simp [iY,Region.binds] at bz
     all_goals refine mf rfl ?_
     all_goals obtain⟨AO,BI,Eu⟩:=Bt.o af aj
     ·go_simp;refine (DR.o af aj).mono ?_;rintro e Cf ⟨rfl,EM⟩;exact aS _ _ rfl (aR aj EM) EM
   ·have Er:(AP == 1)=false:=by simpa using BP
    have BK:d.kind≠1:=fun e=>BP (by rw [Al.o,e];rfl);by_cases BI:AP=2
    ·have Ey:(AP == 2)=true:=by rw [BI];rfl
     have EO:=aa (show d.kind=2 by have:=Al.o;omega);have AJ:=BG.o;rw [dA.did,if_neg BK,if_pos EO.o] at AJ;have Ag:=aa (show Ab=dA.put P Y d.path d.data from AJ);have CL:=aa BK;clear BP BI AJ BK Al C8 BG Bp Bq Bo BH C9;go_wp2_with (first
      | ((with_reducible refine CG Bi.o ?_);intro aC AL AZ;obtain⟨bS,AA⟩:=ai (aC.alloc (.cells #[.int .i64 AP,.string AV,.string Ak,.int .i64 gM] 293));have AB:Bl aC bS:=(by rw [AA];exact gK);have I:aM bS aC.heap.size [.int .i64 AP,.string AV,.string Ak,.int .i64 gM] 293:=(by rw [AA];exact aM.new aC _ _);have Ae:=aa AB;have Br:=aa I;have Aa:=aa (AL.o.below AB);obtain⟨AO,BQ,_⟩:=BM.o aC AL.o AZ.o bS AB;have d0:=I.cell 0;have d1:=I.cell 1;have d2:=I.cell 2;have d3:=I.cell 3;have Ao:=AA.symm;clear AB I AA BL Ap BF)
      | (go_at_call 197; refine CG (Bn.o bS Aa.o EO.o) ?_;intro Cf Ah Db))
     go_roundg f;case rel=>exact⟨_,Bd.o Cf (by rw [Ag.o];exact Ah.o) ((BO.o aC AZ.o AL.o bS Ae.o).trans Db.o rfl rfl fun _ _ h=>h) (.inl CL.o)⟩
     case measure=>omega
    ·have Ey:(AP == 2)=false:=by simpa using BI
     have Cg:d.kind≠2:=fun e=>BI (by rw [Al.o,e];rfl);have CL:=aa BK;by_cases CS:AP=3
     ·have Ez:(AP == 3)=true:=by rw [CS];rfl
      have CZ:d.kind=3:=by have:=Al.o;omega
      obtain⟨a,Ad⟩:=ai (P.outs.all fun p=>(getM Y.wrote p).isSome);obtain⟨Au,BX⟩:∃ x:dA,x={ Y with over:=true }:=⟨_,rfl⟩;have AJ:=BG.o;rw [dA.did,if_neg BK,if_neg Cg,if_pos CZ,<- Ad] at AJ;have Ag:=aa (show Ab=if a=true then Au else Au.fail 14 by rw [AJ,BX];cases a <;> rfl);have EP:Ab.over=true:=by rw [AJ]
      have FE:=aa EP;have ER:(P.outs.any fun p=>!(getM Y.wrote p).isSome) = !a:=by rw [Ad,List.not_all_eq_any_not]
      have Bu:(o8 l P Y).set 6 (.bool true)=o8 l P Au:=by rw [BX];rfl
      have Ci:=aa (fun (W A7:aRB) (ah:iF W l P ins asks Y) (h1:aM A7 l.X (o8 l P Au) 253) (ag:fU l.X W A7)=>show iF A7 l P ins asks Au from ah.dK h1 ag (by rw [BX]) (by rw [BX]) (by rw [BX]));have Dc:=aa (fun (W:aRB) (ah:iF W l P ins asks Au) (ax:W.cell? (ad g0 0)=some (pp l.X 0)) (F3:∀ aV,Bl W aV->aV.cell? (ad g0 0)=some (pp l.X 0)) =>
       show Calls prog 111 #[.slice l.A P.outs.length l.c,.func (.func 198) #[] #[pp g0 0]] W fun e w'=>e = .returned (.bool (!a))/\Bl W w' by
       rw [<- ER];have F4:Au.wrote=Y.wrote:=by rw [BX]
       exact Wj W l.A l.c P.outs ah.outs.rd BA.o.n.2.2 198 #[pp g0 0] (enters_of func198 kr rfl) (fun p=>!(getM Y.wrote p).isSome) fun aV EU p aL=>by
        have:=aHa (ah.below EU) g0 (F3 aV EU) p (BA.o.zX p aL);rw [F4] at this;exact this)
      rw [<- Af.o] at Ci Dc;obtain⟨Ca,Aq,EL,BJ⟩:=nq2 (o8 l P Y) (o8 l P Au);have Cb:6+1<=Ca.length:=by rw [Aq];show 7<=8;omega
      have Am:Sz 4 1:=kr;have Ev:(Value.bool true).cells.toList=[.bool true]:=rfl;have Ce:(Value.bool true).oneCell'=true:=rfl;rw [<- Aq,<- BJ] at Bu;rw [<- BJ] at Ci;have EW:=aa (fun (W:aRB) (ah:iF W l P ins asks Y)=>show aM W X Ca 253 by rw [Aq,Af.o];exact ah.row);have EY:=aa (fun (bS A7:aRB) (ah:iF bS l P ins asks Y) (AO:bS.cell? (ad g0 0)=some (pp X 0)) (h1:aM A7 X EL 253) (De:fU X bS A7)=>show A7.cell? (ad g0 0)=some (pp X 0)/\A7.cell? (ad X 1)=some (.slice l.A P.outs.length l.c) from ⟨by
       have F5:g0≠X:=by
        rintro rfl;have EZ:=ah.row.cell 0;rw [<- Af.o] at EZ;rw [EZ] at AO;have F6:l.L.R=g0:=by injection AO with AO;injection AO with AO;injection AO with AO;injection AO with AO
        obtain⟨q,A,c,us,FB⟩:=ah.run;have Ec:=@nT.run (vL l.m) _ _ _ _ _ _ _ _ FB;have Bb:=ah.row;rw [<- Af.o] at Bb;rw [eO,F6] at Ec;rw [aM,Ec] at Bb;injection Bb with Bb
        injection Bb with _ Bb
        exact absurd Bb dc
       have:=De.2.2.2.2 g0 F5;unfold World.cell? at AO |-;rw [this];exact AO,by rw [h1.cell 1,BJ];rfl⟩)
      have Ee:=aa (fun (W A7:aRB) (ah:iF W l P ins asks Y) (De:fU X W A7)=>show kD l W A7 from kD.ug (by rw [<- Af.o];exact De) ah.far.1);clear BP BI CS AJ BK Cg CZ Ad BX EP ER Aq BJ Al C8 BG Bp Bq BH C9 Bn;cases a with
      | true =>
       have AJ:=Ag.o;rw [if_pos rfl] at AJ;subst AJ;go_wp2_with (first
        | ((with_reducible refine CG Bi.o ?_);intro aC AL AZ;obtain⟨bS,AA⟩:=ai (aC.alloc (.cells #[.int .i64 AP,.string AV,.string Ak,.int .i64 gM] 293));have AB:Bl aC bS:=(by rw [AA];exact gK);have I:aM bS aC.heap.size [.int .i64 AP,.string AV,.string Ak,.int .i64 gM] 293:=(by rw [AA];exact aM.new aC _ _);have Ae:=aa AB;have Br:=aa I;have Aa:=aa (AL.o.below AB);obtain⟨AO,BQ,_⟩:=BM.o aC AL.o AZ.o bS AB;have d0:=I.cell 0;have d1:=I.cell 1;have d2:=I.cell 2;have d3:=I.cell 3;have Ao:=AA.symm;clear AB I AA BL Ap BF)
        | ((with_reducible refine BU 6 (.bool true) (EW.o bS Aa.o) Am Cb Ce Bu ?_);intro A7 Aw Ay;have Da:=aa Aw;have CK:=aa Ay;have Ah:=aa (Ci.o bS A7 Aa.o Aw Ay);obtain⟨Ck,Eg⟩:=EY.o bS A7 Aa.o AO Aw Ay;have Az:=aa Ck;clear Aw Ay AO BQ d0 d1 d2 d3 Ao)
        | (go_at_call 111; refine jw (Dc.o A7 Ah.o Az.o (fun aV ag=>(ag.cell (p:=ad g0 0) (aQy _ _ Az.o)).trans Az.o)) ?_;intro Df CU))
       go_roundg f;case rel=>exact⟨_,Bd.o Df (Ah.o.below CU.o) ((BO.o aC AZ.o AL.o bS Ae.o).trans ((Ee.o bS A7 Aa.o CK.o).trans (kD.gT CU.o Ah.o.size) rfl rfl fun _ _ h=>h) rfl rfl fun _ _ h=>h) (.inl CL.o)⟩
       case measure=>omega
      | false =>
       have AJ:=Ag.o;rw [if_neg dc] at AJ;subst AJ;go_wp2_with (first
        | ((with_reducible refine CG Bi.o ?_);intro aC AL AZ;obtain⟨bS,AA⟩:=ai (aC.alloc (.cells #[.int .i64 AP,.string AV,.string Ak,.int .i64 gM] 293));have AB:Bl aC bS:=(by rw [AA];exact gK);have I:aM bS aC.heap.size [.int .i64 AP,.string AV,.string Ak,.int .i64 gM] 293:=(by rw [AA];exact aM.new aC _ _);have Ae:=aa AB;have Br:=aa I;have Aa:=aa (AL.o.below AB);obtain⟨AO,BQ,_⟩:=BM.o aC AL.o AZ.o bS AB;have d0:=I.cell 0;have d1:=I.cell 1;have d2:=I.cell 2;have d3:=I.cell 3;have Ao:=AA.symm;clear AB I AA BL Ap BF)
        | ((with_reducible refine BU 6 (.bool true) (EW.o bS Aa.o) Am Cb Ce Bu ?_);intro A7 Aw Ay;have Da:=aa Aw;have CK:=aa Ay;have Ah:=aa (Ci.o bS A7 Aa.o Aw Ay);obtain⟨Ck,Eg⟩:=EY.o bS A7 Aa.o AO Aw Ay;have Az:=aa Ck;clear Aw Ay AO BQ d0 d1 d2 d3 Ao)
        | (go_at_call 111; refine (Dc.o A7 Ah.o Az.o (fun aV ag=>(ag.cell (p:=ad g0 0) (aQy _ _ Az.o)).trans Az.o)).mono ?_;rintro e Df ⟨rfl,Dg⟩;have CU:=aa Dg;have FF:=(Dg.cell (p:=ad g0 0) (aQy _ _ Az.o)).trans Az.o;clear Dg Ck Eg)
        | (go_at_call 150; refine CG (Bo.o Df Au (Ah.o.below CU.o) 14) ?_;intro Dh Dk Dl))
       go_roundg f;case rel=>exact⟨_,Bd.o Dh Dk.o ((BO.o aC AZ.o AL.o bS Ae.o).trans (((Ee.o bS A7 Aa.o CK.o).trans (kD.gT CU.o Ah.o.size) rfl rfl fun _ _ h=>h).trans Dl.o rfl rfl fun _ _ h=>h) rfl rfl fun _ _ h=>h) (.inl CL.o)⟩
       case measure=>omega
     ·have Ez:(AP == 3)=false:=by simpa using CS
      have Ei:d.kind≠3:=fun e=>CS (by rw [Al.o,e];rfl);have AJ:=BG.o;rw [dA.did,if_neg BK,if_neg Cg,if_neg Ei] at AJ;have Ag:=aa AJ;have Em:=aa (fun (W:aRB) (h:iF W l P ins asks Y)=>Bo.o W Y h d.why);rw [<- C8.o] at Em;clear BP BI CS AJ BK Cg Ei Al C8 BG Bp Bq BH C9 Bn;go_wp2_with (first
       | ((with_reducible refine CG Bi.o ?_);intro aC AL AZ;obtain⟨bS,AA⟩:=ai (aC.alloc (.cells #[.int .i64 AP,.string AV,.string Ak,.int .i64 gM] 293));have AB:Bl aC bS:=(by rw [AA];exact gK);have I:aM bS aC.heap.size [.int .i64 AP,.string AV,.string Ak,.int .i64 gM] 293:=(by rw [AA];exact aM.new aC _ _);have Ae:=aa AB;have Br:=aa I;have Aa:=aa (AL.o.below AB);obtain⟨AO,BQ,_⟩:=BM.o aC AL.o AZ.o bS AB;have d0:=I.cell 0;have d1:=I.cell 1;have d2:=I.cell 2;have d3:=I.cell 3;have Ao:=AA.symm;clear AB I AA BL Ap BF)
       | (go_at_call 150; refine CG (Em.o bS Aa.o) ?_;intro Dh Dk Dl))
      go_roundg f;case rel=>exact⟨_,Bd.o Dh (by rw [Ag.o];exact Dk.o) ((BO.o aC AZ.o AL.o bS Ae.o).trans Dl.o rfl rfl fun _ _ h=>h) (.inl CL.o)⟩
      case measure=>omega
def ae8 (text:ak):dA:=⟨aJ.start (qx eF (jP text)),[],[],[],false,0⟩
theorem aHm (hc:(pR eF text).1=0) (aA:text.length<=100000) (ik:CY U<=20000000):uS P U (ae8 text)/\p9 (ae8 text).ps.todo < 402:=by
 have hl:(qx eF (jP text)).length<=400:=by
  have h1:=Zw eF (jP text);unfold pR at hc;split at hc
  ·cases hc
  ·omega
 have hs:=aj1 (asC aA) hl ik;refine⟨⟨hs,fun e=>(by cases e),⟨fun e=>(by cases e),fun e=>(by cases e)⟩,rfl,fun x ah=>(by cases ah),fun _=>rfl,fun e=>(by cases e),fun r I=>(by cases I),by show p9 (aJ.start _).todo<=401;rw [aeE];omega,List.Pairwise.nil⟩,?_⟩;show p9 (aJ.start _).todo < 402;rw [aeE];omega
theorem aHn (p:aRC) (A:aRC) (n c:Nat) (f:Nat) (iC:Array Value) (m:Nat):prog.built 253 [(0,.pointer p),(1,.slice A n c),(2,.func (.func f) #[] iC),(3,.map (some m))]=some #[.pointer p,.slice A n c,.func (.func f) #[] iC,.map (some m),.slice none 0 0,.string ⟨#[]⟩,.bool false,.int .i64 0]:=kr
theorem sO.mono (h:sO w B g l) (bg:B'<=B):sO w B' g l:=by obtain⟨A,c,h1,I⟩:=h.row;exact⟨aQn bg h.far,A,c,h1,I.mono bg⟩
theorem Ls.mono {l:Lr} {asks:List ak} (h:Ls w B l ins asks outs) (bg:B'<=B):Ls w B' l ins asks outs:=⟨h.o.mono bg,h.i.mono bg,h.a.mono bg⟩
theorem ae9 {P:Program} {ops:Array Oper} {rest:List Oper} {a:Act} {Q:aRE} {dst:Option Tmp} {gP:TypeId} {pos:String} {after:Array Edge} {t0:TypeId} {oW lN ui qp:Operand} {i0 i1 i2 i3:Nat} (v0 v1 v2 v3:Value) (cells:Array Value) (hf:P.built t0 [(i0,v0),(i1,v1),(i2,v2),(i3,v3)]=some cells) (ah:a.eval oW=v0/\a.eval lN=v1/\a.eval ui=v2/\a.eval qp=v3)
  (h:wpList P ops Q rest (a.put dst (.agg cells)) W):wpList P ops Q (⟨dst,.build t0 #[(i0,oW),(i1,lN),(i2,ui),(i3,qp)],gP,pos,after,none⟩ :: rest) a W :=
 VR cells (by simp [ah,hf]) h
def Vf (B F:Nat) (ins asks outs:List ak) (j:Nat) (u:Value) (w:aRB):Prop :=
 (j=3->∃ A c,u = .slice A outs.length c/\Own w B 9 1 A outs.length c (cu outs))/\(j=5->∃ l:Lr,u=l.fn/\Ls w B l ins asks outs) /\
 (j=6->∃ m,u = .map (some m)/\eQ w prog 9 encS m 0 ([]:fu ak)/\F<=m)
theorem Vf.keep {F:Nat} {asks:List ak} (h:Vf B F ins asks outs j u w) (ae:Bl w w'):Vf B F ins asks outs j u w' :=
 ⟨fun e=>(by obtain⟨A,c,J,I⟩:=h.1 e;exact⟨A,c,J,I.below ae (aQm _)⟩),fun e=>(by obtain⟨l,J,I⟩:=h.2.1 e;exact⟨l,J,I.below ae⟩),fun e=>(by obtain⟨m,J,I,M⟩:=h.2.2 e;exact⟨m,J,I.below ae I.lt,M⟩)⟩
theorem aHo {fV:aRB} {asks:List ak} {l:Lr} (av:@jL Cj W L P.v none (aJ.start (qx eF (jP text)))) (gY:B<=L.B) (aG:Own W B 9 1 A P.outs.length c (cu P.outs)) (hl:Ls W B l ins asks P.outs) (hm:eQ W prog 9 encS m 0 ([]:fu ak)) (bJ:L.m≠m) (bg:B<=m)
  (bC:fV=W.alloc (.cells #[pp L.R 0,.slice A P.outs.length c,.func (.func 193) #[] #[pp l.o 0,pp l.i 0,pp l.a 0],.map (some m),.slice none 0 0,.string ⟨#[]⟩,.bool false,.int .i64 0] 253)):iF fV ⟨B,W.heap.size,L,A,c,l,m,none,0⟩ P ins asks (ae8 text):=by
 have ae:=gQ bC;have I:=hm.lt;refine⟨?_,⟨by show B<=W.heap.size;omega,bg,gY⟩,aG.below ae (aQm _),hl.below ae,hm.below ae I,Own.nil _ _ _ _,none,?_⟩
 ·rw [bC];exact aM.new W _ _
 ·letI:=vL m;exact jL.below (jL.guard av I bJ) ae
def XA (B:Nat) (v:Env) (text:ak) (j:Nat) (u:Value) (w:aRB):Prop :=
 (j=4->∃ A c,u = .slice A v.env.length c/\Own w B 194 2 A v.env.length c (Cc v.env)) /\
 (j=5\/j=6->∃ L:iW,u = .tuple #[pp L.R 0,.int .i64 0]/\B<=L.B/\@jL Cj w L v none (aJ.start (qx eF (jP text)))) /\
 (j=7\/j=9->∃ L:iW,u = .pointer (some ⟨L.R,0,none⟩)/\B<=L.B/\@jL Cj w L v none (aJ.start (qx eF (jP text))))
theorem XA.keep (h:XA B v text j u w) (ae:Bl w w'):XA B v text j u w':=by letI:=Cj;exact⟨fun e=>(by obtain⟨A,c,I,J⟩:=h.1 e;exact⟨A,c,I,J.below ae (aQm _)⟩),fun e=>(by obtain⟨L,I,J,M⟩:=h.2.1 e;exact⟨L,I,J,jL.below M ae⟩),fun e=>(by obtain⟨L,I,J,M⟩:=h.2.2 e;exact⟨L,I,J,jL.below M ae⟩)⟩
def atY (w:aRB) (P:nV) (ins asks:List ak) (text:ak) (e:Ending) (w':aRB):Prop :=
 ((pR eF text).1≠0/\e = .returned (.tuple #[.pointer none,.int .i64 (pR eF text).1])/\Bl w w') \/
 ((pR eF text).1=0/\∃ l:nX,l.B=w.heap.size/\e = .returned (.tuple #[pp l.X 0,.int .i64 0])/\iF w' l P ins asks (dA.start P text)/\Bl w w')
theorem atZ (w:aRB) (x:iP) (hA:KC w x.1 x.2) (P:nV) (bR:P.v.env=x.2.env/\P.outs=x.2.outs) (hk:aaR P x.2.ins x.2.asks) (U:List dz) (ik:CY U<=20000000) (aA:x.2.tool.length<=100000) (ek:vM w w.heap.size) :
  Calls prog 93 #[.agg (vF x).toArray] w (atY w P x.2.ins x.2.asks x.2.tool):=by
 obtain⟨L,a⟩:=x;simp only at hA bR hk aA |-;obtain⟨aF,AB⟩:=ai (w.alloc (.cells (nz L a) 45));have AO:=gQ AB;have Ai:aM aF w.heap.size (vF (L,a)) 45:=by rw [AB];exact aM.new w (vF (L,a)) _
 have hc:=fun W (ae:Bl aF W)=>show W.cell? (ad w.heap.size 2)=some (.string (az a.tool))/\W.cell? (ad w.heap.size 3)=some (.slice L.E a.env.length L.Kz)/\W.cell? (ad w.heap.size 6)=some (.slice L.O a.outs.length L.wJ) from
  ⟨(Ai.all ae).cell 2,(Ai.all ae).cell 3,(Ai.all ae).cell 6⟩
 have hle:=hk.env.len;rw [bR.1] at hle;have c1:=fun W (ae:Bl aF W)=>atC W L.E L.Kz a.env (hA.env.gp (aR AO ae)) hle;have c2:=fun W (ae:Bl aF W) (A:aRC) (c:Nat) (av:Rd W 2 A a.env.length (Cc a.env))=>by
  letI:=Cj;have:=aG7 W P.v hk.env a.tool om ((ek.below (aR AO ae)).wh) (fun k (e:False)=>e.elim) A c (by rw [bR.1];exact av);rw [bR.1] at this;exact this
 have Ap:(vF (L,a)).toArray=nz L a:=rfl;have AP:=fun W (ae:Bl aF W)=>aGQ W (L,a) (hA.below (aR AO ae)) (by have:=hk.n;rw [bR.2] at this;exact this);have wJ:=fun W (ae:Bl aF W)=>aeV W L.O a.outs.length L.wJ (cu a.outs) (hA.outs.gp (aR AO ae)) (aaL _) (by have:=hk.n.2.2;rw [bR.2] at this;omega);rw [Ap] at AP;rw [Ap];have AV:=fun W (ae:Bl aF W)=>KT (W:=aF) (g:=w.heap.size) (o:=0) (V:=vF (L,a)) (fun i v Bo=>by rw [Nat.zero_add,Ai.cell i];exact Bo) underlying45 rfl (show (prog.info? 45).map (·.size)=some (vF (L,a)).length by exact kr) ae;rw [Ap] at AV;unfold nz at AB AP AV |-;obtain⟨pk,nm,E,lG,A,O,BF,Bp,Bq,BL⟩:=L;simp only at c1 c2 hc AB AP wJ AV |-;obtain⟨n,Aw,T,bY,Ck,Ay⟩:=nq3 a.env.length (az a.tool) (atY w P a.ins a.asks a.tool);rw [<- Ay];have BM:=aa Ay;rw [<- Aw] at c1 c2 hc AB AP AV |-;rw [<- bY] at c2 hc AB AP AV |-;obtain⟨AZ,Ak,BO,Aa⟩:=hq4 AO hc c1 bR;have BG:=AB.symm;have Al:=aa Aw;by_cases Ab:(pR eF a.tool).1=0
 ·have hinv:=aHm (P:=P) (U:=U) Ab aA ik;obtain⟨BP,Br,Bt,Az⟩:=hq4 hinv hk ek Ab;have BH:=aa (fun W (ae:Bl aF W) (A:aRC) (c:Nat) (av:Rd W 2 A n (Cc a.env))=>(c2 W ae A c av).mono fun e w' h=>show ∃ L:iW,e = .returned (.tuple #[pp L.R 0,.int .i64 0])/\w.heap.size<=L.B/\@jL Cj w' L P.v none (aJ.start (qx eF (jP a.tool)))/\Bl W w' by
   rcases h with ⟨h1,_⟩ | ⟨_,L,h1,Ad,BI,Bu⟩
   ·exact absurd Ab h1
   ·exact⟨L,h1,by rw [Ad];exact aQn AO.size ae.size,BI,by show Below _ _ _;rw [<- Ad];letI:=Cj;exact dw.below Bu⟩)
  obtain⟨CR,Bv,Bw⟩:=hq3 AP wJ AV;clear hA hk aA ik ek AO Ai hc hle c1 c2 Ap bR bY Ay Aw AB Ab AP wJ AV hinv;go_enter func93,ntmps93;go_wp2_with fail;clear BG;have kE:=Ak;refine ng nE 11 [some (pp w.heap.size 2),some (.string T),some (pp w.heap.size 3),some (.slice E n BF),none,none,none,none,some (.int .i64 0),none,some (.int .i64 0)] (XA w.heap.size P.v a.tool) (Bl aF) Bl ((Below.refl _ aF).drew) (fun j v w1 af ae h=>h.keep ae) ?_ (jJ:=?_)
  ·intro u af aj AJ;obtain⟨Am,BQ,BX,BJ⟩:=(show XA w.heap.size P.v a.tool 9 (u 9) af from AJ 9 om).2.2 dc;clear AJ;simp only [BQ];obtain⟨A7,C8,C9⟩:=hq3 aj BX BJ;have CE:=aa (show Am.m < af.heap.size by obtain⟨A,c,us,CJ⟩:=BJ;obtain⟨_,_,_,_,_,⟨_,M,hm,_⟩,_⟩:=CJ;exact hm.lt);clear aj BX BJ BQ;have CK:=@run_makeMap prog;go_wp2_with fail
   rename World=>AL
   have kE:=aa fun af (aj:Bl AL af)=>Ak.o af (aR A7.o aj);refine ng nE 7 [some (pp Am.R 0),some (pp w.heap.size 6),some (.slice O a.outs.length BL),none,some (.agg #[.string pk,.string nm,.string T,.slice E n BF,.slice lG a.ins.length Bp,.slice A a.asks.length Bq,.slice O a.outs.length BL]),none,none] (Vf w.heap.size AL.heap.size a.ins a.asks a.outs) (Bl AL) Bl ((Below.refl _ AL).drew) (fun j v w1 af ae h=>h.keep ae) ?_ (jJ:=?_)
   ·intro u af aj AJ;obtain⟨cO,bF,Bb,Y⟩:=(show Vf w.heap.size AL.heap.size a.ins a.asks a.outs 3 (u 3) af from AJ 3 om).1 rfl;obtain⟨AA,Bc,Aq⟩:=(show Vf w.heap.size AL.heap.size a.ins a.asks a.outs 5 (u 5) af from AJ 5 om).2.1 rfl;obtain⟨m6,Bd,Bf,CL⟩:=(show Vf w.heap.size AL.heap.size a.ins a.asks a.outs 6 (u 6) af from AJ 6 om).2.2 rfl;clear AJ;simp only [Bb,Bc,Bd];simp only [Lr.fn];have CS:=aHn (some ⟨Am.R,0,none⟩) cO a.outs.length bF 193 #[pp AA.o 0,pp AA.i 0,pp AA.a 0] m6;obtain⟨CU,Ao⟩:=ai (af.alloc (.cells #[pp Am.R 0,.slice cO a.outs.length bF,.func (.func 193) #[] #[pp AA.o 0,pp AA.i 0,pp AA.a 0],.map (some m6),.slice none 0 0,.string ⟨#[]⟩,.bool false,.int .i64 0] 253));rw [<- Aa.o.2] at Y Aq Ao;have Bi:=aHo (B:=w.heap.size) (text:=a.tool) (by letI:=Cj;exact jL.below C9.o aj) C8.o Y Aq Bf (by have:=CE.o;omega) (by have h1:=AZ.o.size;have Ad:=A7.o.size;omega) Ao;have Bn:=gQ Ao;have BK:Bl w CU:=(aR AZ.o A7.o).trans ((aR aj Bn).mono (by have h1:=AZ.o.size;have Ad:=A7.o.size;omega));have CV:=aa (atM Br.o Bi BP.o.1 (Bt.o.below BK) 402 BP.o.2);have CW:=aa BK;rw [Aa.o.2] at Ao;have BG:=Ao.symm;clear aj Y Aq Bf CL Bi Bn BK Ao Bb Bc Bd CK;go_wp2_with (first
     | ((with_reducible refine ae9 (pp Am.R 0) (.slice cO a.outs.length bF) (.func (.func 193) #[] #[pp AA.o 0,pp AA.i 0,pp AA.a 0]) (.map (some m6)) _ CS ?_ ?_);exact⟨rfl,rfl,rfl,rfl⟩)
     | (go_at_call 148; refine CG CV.o ?_;intro Cm CZ Ca))
    rw [BM.o];refine .inr ⟨Az.o,⟨w.heap.size,af.heap.size,Am,cO,bF,AA,m6,none,0⟩,rfl,rfl,?_,CW.o.trans Ca.o.below⟩;have:=CZ.o;rwa [show rz P 402 (ae8 a.tool)=dA.start P a.tool by rw [dA.start,if_pos Az.o];rfl] at this
   ·repeat' (first | exact trivial | apply And.intro)
    all_goals try exact rx
    all_goals intro eH u af aj aK bz K aS
    all_goals try simp [iY,Region.binds] at bz
    all_goals refine mf rfl ?_
    all_goals obtain⟨_,_,Cn⟩:=Ak.o af (aR A7.o aj)
    ·go_simp;refine (Bv.o af (aR A7.o aj)).mono ?_;rintro e aC ⟨cO,bF,rfl,Y,J⟩;exact aS _ _ ⟨fun _=>⟨cO,bF,rfl,Y.mono (by have h1:=AZ.o.size;have Ad:=A7.o.size;have BI:=aj.size;omega)⟩,fT,fT⟩ (aR aj J) J
    ·refine KQ _ _ rfl (Bw.o af (aR A7.o aj)) (by simp [Act.eval,aK]) ?_;exact aS _ _ rfl aj (Below.refl _ _)
    ·go_simp;refine (CR.o af (aR A7.o aj)).mono ?_;rintro e aC ⟨AA,rfl,Aq,J⟩;exact aS _ _ ⟨fT,fun _=>⟨AA,rfl,Aq.mono (by have h1:=AZ.o.size;have Ad:=A7.o.size;have BI:=aj.size;omega)⟩,fT⟩ (aR aj J) J
    ·go_simp;exact aS _ _ ⟨fT,fT,fun _=>⟨_,rfl,eQ.made af _ _ _,aj.size⟩⟩ (aj.alloc aj.size _) gK
  ·repeat' (first | exact trivial | apply And.intro)
   all_goals try exact rx
   all_goals intro eH u af aj aK bz K aS
   all_goals try simp [iY,Region.binds] at bz
   all_goals first | refine mf rfl ?_ | simp [Region.wanted,yielded,aK,bz] | simp [Region.wanted,yielded]
   all_goals obtain⟨Cb,Ce,_⟩:=Ak.o af aj
   ·go_simp;refine (BO.o af aj).mono ?_;rintro e aC ⟨cO,bF,rfl,Y,J⟩;exact aS _ _ ⟨fun _=>⟨cO,bF,by rw [Aa.o.1,<- Al.o],by rw [Aa.o.1,<- Al.o];exact Y.mono (aQn AZ.o.size aj.size)⟩,fT,fT⟩ (aR aj J) J
   ·obtain⟨Cf,ah⟩:=bz;obtain⟨cO,bF,Ah,Y⟩:=ah.1 rfl;rw [Aa.o.1,<- Al.o] at Ah Y;go_simp;refine (BH.o af aj cO bF Y.rd).mono ?_;rintro e aC ⟨Ae,rfl,Af,Ag,J⟩;exact aS _ _ ⟨fT,fun _=>⟨Ae,rfl,Af,Ag⟩,fT⟩ (aR aj J) J
   ·have ah:=bz;obtain⟨Ae,Ah,Af,Ag⟩:=ah.2.1 (.inl rfl);go_simp;exact aS _ _ ⟨fT,fun _=>⟨Ae,rfl,Af,Ag⟩,fT⟩ aj (Below.refl _ _)
   ·have ah:=bz;obtain⟨Ae,Ah,Af,Ag⟩:=ah.2.1 (.inr rfl);go_simp;exact aS _ _ ⟨fT,fT,fun _=>⟨Ae,rfl,Af,Ag⟩⟩ aj (Below.refl _ _)
   ·have ah:=bz;obtain⟨Ae,Ah,Af,Ag⟩:=ah.2.1 (.inr rfl);go_simp;exact aS _ _ rfl aj (Below.refl _ _)
   ·obtain⟨_,_,_,_,_,_,_,_,_,ah⟩:=bz;obtain⟨Ae,Ah,Af,Ag⟩:=ah.2.2 (.inl rfl);go_simp;exact aS _ _ ⟨fT,fT,fun _=>⟨Ae,rfl,Af,Ag⟩⟩ aj (Below.refl _ _)
 ·have Cg:((((pR eF a.tool).1:Nat):Int) != 0)=true:=by simpa using Ab
  obtain⟨Au,BA⟩:∃ k:Int,k=((pR eF a.tool).1:Nat):=⟨_,rfl⟩;rw [<- BA] at Cg;have Az:=aa Ab;have Ci:=aa BA;have BH:=aa (fun W (ae:Bl aF W) (A:aRC) (c:Nat) (av:Rd W 2 A n (Cc a.env))=>(c2 W ae A c av).mono fun e w' h=>show e = .returned (.tuple #[.pointer none,.int .i64 Au])/\Bl W w' by
   rcases h with ⟨_,h1,Ad⟩ | ⟨h1,_⟩
   ·exact⟨by rw [h1,BA],Ad⟩
   ·exact absurd h1 Ab)
  clear hA hk aA ik ek AO Ai hc hle c1 c2 Ap bR bY Ay Aw AB Ab AP wJ AV BA;go_enter func93,ntmps93;go_wp2_with fail;clear BG;have kE:=Ak;refine ng nE 11 [some (pp w.heap.size 2),some (.string T),some (pp w.heap.size 3),some (.slice E n BF),none,some (.tuple #[.pointer none,.int .i64 Au]),some (.tuple #[.pointer none,.int .i64 Au]),some (.pointer none),some (.int .i64 Au),some (.pointer none),some (.int .i64 Au)] (XA w.heap.size P.v a.tool) (Bl aF) Bl ((Below.refl _ aF).drew) (fun j v w1 af ae h=>h.keep ae) ?_ (jJ:=?_)
  ·intro u af aj AJ;clear AJ;have A7:=aa aj;clear aj;go_wp2_with fail;rw [BM.o];exact .inl ⟨Az.o,by rw [<- Ci.o];rfl,aR AZ.o A7.o⟩
  ·repeat' (first | exact trivial | apply And.intro)
   all_goals try exact rx
   all_goals intro eH u af aj aK bz K aS
   all_goals try simp [iY,Region.binds] at bz
   all_goals first | refine mf rfl ?_ | simp [Region.wanted,yielded,aK,bz] | simp [Region.wanted,yielded]
   all_goals obtain⟨Cb,Ce,_⟩:=Ak.o af aj
   ·go_simp;refine (BO.o af aj).mono ?_;rintro e aC ⟨cO,bF,rfl,Y,J⟩;exact aS _ _ ⟨fun _=>⟨cO,bF,by rw [Aa.o.1,<- Al.o],by rw [Aa.o.1,<- Al.o];exact Y.mono (aQn AZ.o.size aj.size)⟩,fT,fT⟩ (aR aj J) J
   ·obtain⟨Cf,ah⟩:=bz;obtain⟨cO,bF,Ah,Y⟩:=ah.1 rfl;rw [Aa.o.1,<- Al.o] at Ah Y;go_simp;refine (BH.o af aj cO bF Y.rd).mono ?_;rintro e aC ⟨rfl,J⟩;exact aS _ _ rfl (aR aj J) J
def wV (F B:Nat) (e:TypeId) (aO:Nat) (A:aRC) (n c:Nat) (V news:aRD) (i k j:Nat) (v:Value) (w:aRB):Prop :=
 PL B e aO A n c V news i k (fun _ _ _=>True) j v w/\(j=k->∀ A' m c',v = .slice A' m c'->∀ q,q < F->some q≠bV A->some q≠bV A')
section
variable {w af:aRB} {B aO n c i k j F:Nat} {e:TypeId} {A:aRC} {V news:aRD} {v:Value}
theorem wV.keep (h:wV F B e aO A n c V news i k j v w) (hk:oN B e aO A c (n+1) (V++news) w w'):wV F B e aO A n c V news i k j v w':=⟨h.1.keep (fun h=>h) hk,h.2⟩
variable {P:Program} {t:TypeId} {z:Value} {bytes:Nat} {o:Oper} {a:Act} {K:Act->World->Prop} {Q:aRE}
theorem XB {u:TypeId} (h:Ea P t e z aO bytes) {s x:Operand} (aG:o.op = .call { callee:=.builtin .append,args:=#[s,x],argTypes:=#[t,u] }) (bU:Own w B e aO A n c V) (g:Nat) (av:aM w g news e) (hl:news.length=aO) (h1:∀ v∈news,v.oneCell'=true)
  (aB:n<=1000000) (sj:B<=w.heap.size) (hu:P.underlying u=some (.slice e)) (zQ:a.eval s = .slice A n c/\a.eval x = .slice (some ⟨g,0,none⟩) 1 1)
  (aH:∀ A' c' w',Ru B e aO A c (n+1) (V++news) A' c' w'->oN B e aO A c (n+1) (V++news) w w'->Own w' B e aO A n c V->(∀ q,q < w.heap.size->some q≠bV A->some q≠bV A')->K (a.put o.dst (.slice A' (n+1) c')) w'):o.wp P a w K Q:=by
 obtain⟨i,AB,AJ,AL,AO⟩:=info_parts h.info;have AP:Src P w u aO (.slice (some ⟨g,0,none⟩) 1 1) 1 news:=Src.slice hu (aeJ av hl);obtain⟨A',c',w',AV,I,M,AZ⟩:=arO (P:=P) t u o.type e i z aO bytes h.ZC AB AJ AL AO h.zs bU AP h1 mO (by have:=h.small;have:(n+1) * bytes<=1000001 * 1000:=Nat.mul_le_mul om om;omega) sj;unfold Oper.wp execOp;simp only [aG,resolve,invoke,builtin,Sem.run_bind,Sem.run_pure,Result.andThen_ok,List.map_toArray,List.map_cons,List.map_nil,zQ.1,zQ.2,AV];have hlen:=bU.1;rcases AZ with ⟨rfl,rfl⟩ | ⟨Y,A7⟩
 ·refine aH A' c' w' ⟨I,.inl ⟨rfl,rfl⟩⟩ ⟨M,fun B Aa J=>?_⟩ ?_ (fun _ _ h=>h)
  ·rcases J with ⟨Ab,⟨rfl,rfl⟩ | AA⟩
   ·exact⟨I,.inl ⟨rfl,rfl⟩⟩
   ·exact⟨Ab.grown M fun b ae e=>AA (by rw [ae,e]),.inr AA⟩
  ·have:=I.take (k:=n) om;rwa [List.take_append_of_le_length om,List.take_of_length_le om] at this
 ·have Ad:bV A'≠bV A:=fun e=>by
   rw [Y] at e;have:=(bU.block _ e.symm).2.1;omega
  refine aH A' c' w' ⟨I,.inr Ad⟩ ⟨M,fun B Aa J=>⟨J.1.below A7 (aQm _),J.2⟩⟩ (bU.below A7 (aQm _)) fun q aH _ e=>?_;rw [Y] at e;have:=aQS e;omega
end
theorem ak0 {l:nX} {asks:List ak} (h:iF w l P ins asks b) :
  CB 94 #[pp l.X 0] w (.tuple #[.string (az (if b.over=true then [] else b.asks)),.bool (!b.over)]):=by
 have J:=h.row.cell 5;have M:=h.row.cell 6;simp only [o8,List.getElem?_cons_succ,List.getElem?_cons_zero] at J M;obtain⟨o,Y⟩:=ai b.over;rw [<- Y] at M |-;clear h Y;cases o with
 | true =>
  go_enter func94,ntmps94;go_wp2_with fail;refine aQx (aQT rfl _ _ _) rfl ?_;exact⟨rfl,Below.refl _ _⟩
 | false =>
  obtain⟨S,I⟩:=ai (az b.asks);rw [if_neg dc,<- I];rw [<- I] at J;clear I;go_enter func94,ntmps94;go_wp2_with fail;refine aQx (aQT rfl _ _ _) rfl ?_;exact⟨rfl,Below.refl _ _⟩
end
section
open Go.Maps Go.RowKit Go.Shelf
theorem iF.aHt {af bB:aRB} {l:nX} {asks:List ak} (h:iF w l P ins asks b) {r:kJ} {fK:aRC} {fH:Nat} (hm:nM w l.B 135 34 l.cZ b.reads.length l.rc (cz gZ b.reads) af) (aG:Own af l.B 135 34 fK (b.reads.length+1) fH (cz gZ b.reads++gZ r))
  (av:aM bB l.X (o8 { l with cZ:=fK,rc:=fH } P { b with reads:=b.reads++[r] }) 253) (aA:fU l.X af bB):iF bB { l with cZ:=fK,rc:=fH } P ins asks { b with reads:=b.reads++[r] }/\kD l w bB:=by
 have ax:=hm.1;have AP:∀ {g:Nat} {V:aRD} {t:TypeId},aM w g V t->t ≠ 135 -> some g≠bV l.cZ:=fun ah h1=>h.ae5 ah h1;have AV:aM af l.X (o8 l P b) 253:=(ax.block _ h.row.lt (AP h.row dc)).trans h.row;have hc:∀ (k:Nat) (cs:Array Value) (t:TypeId) (bf:Nat × Nat),w.heap[k]?=some (.cells cs t bf)->some k≠bV l.cZ->k≠l.X->bB.heap[k]?=w.heap[k]?:=fun k cs t bf hk h1 I=>(aA.2.2.2.2 k I).trans (ax.block k (ic hk) h1);have Y:∀ {k:Nat} {cs:Array Value} {t:TypeId} {bf:Nat × Nat},w.heap[k]?=some (.cells cs t bf)->t ≠ 135 -> t ≠ 253 -> bB.heap[k]?=w.heap[k]?:=fun {k cs t bf} hk h1 I=>hc k cs t bf hk (fun e=>by
  obtain⟨_,_,cur,AZ,ae⟩:=h.reads.block k e.symm;rw [hk] at ae;injection ae with ae
  injection ae with _ ae
  exact h1 ae) (by
  rintro rfl;rw [h.row] at hk;injection hk with hk
  injection hk with _ hk
  exact I hk.symm)
 have AB:∀ {base aO n c:Nat} {t:TypeId} {A:aRC} {xs:aRD},Own w base t aO A n c xs->t ≠ 135 -> t ≠ 253 -> Own bB base t aO A n c xs:=fun ah h1 I=>ah.keep fun k hk _ _=>by
  obtain⟨_,_,cur,bf,ae⟩:=ah.block k hk;exact Y ae h1 I
 have AA:∀ {g:Nat} {x:List ak},sO w l.B g x->sO bB l.B g x:=fun {g x} hs=>by
  obtain⟨A,c,AJ,Aa⟩:=hs.row;exact⟨hs.far,A,c,(Y AJ dc dc).trans AJ,AB Aa dc dc⟩
 have AL:∀ (k:Nat) (o:Obj),w.heap[k]?=some o->o.isCells=false->bB.heap[k]?=w.heap[k]?:=fun k o hk J=>(aA.2.2.2.2 k (by
  rintro rfl;rw [h.row] at hk;cases hk;cases J)).trans (ax.block k (ic hk) fun e=>by
   obtain⟨_,_,cur,AZ,ae⟩:=h.reads.block k e.symm;rw [hk] at ae;cases ae;cases J)
 obtain⟨q,Ab⟩:=h.run;refine⟨⟨av,h.far,AB h.outs dc dc,⟨AA h.may.o,AA h.may.i,AA h.may.a⟩,h.map.keep ?_,?_,q,?_⟩,⟨aA.1.trans ax.os,aA.2.1.trans ax.tape,aA.2.2.1.trans ax.output,by rw [aA.2.2.2.1];exact ax.size,fun k hk=>?_,fun k cs t bf hk _ _ Ad Ae=>hc k cs t bf hk Ae Ad⟩⟩
 ·obtain⟨es,Ag,Af,_⟩:=h.map;exact AL _ _ Af rfl
 ·have:=iJ aG AV dc aA;rw [show (b.reads++[r]).length=b.reads.length+1 by simp,show cz gZ (b.reads++[r])=cz gZ b.reads++gZ r by simp [cz]];exact this
 ·letI:=vL l.m;exact jL.oI Ab (fun k cs t bf hk AO=>Y hk (fun e=>by subst e;exact absurd AO dc) (fun e=>by subst e;exact absurd AO dc)) (by rw [aA.2.2.2.1];exact ax.size) fun k o _ _ hk J=>AL k o hk J
 ·refine (aA.2.2.2.2 k (by have:=h.far.1;omega)).trans (ax.block k (by have:=h.size;omega) fun e=>?_);have:=(h.reads.block k e.symm).1;omega
theorem at6 {l:nX} {asks:List ak} (hk:aaR P ins asks) (h:iF w l P ins asks b) (ay:uS P U b) (ek:vM w l.B) (av:UO P b) (gq:b.over=false) (k:dz) (BI:k.path=b.asks) (hl:k.is=true->k.data.length<=65536) (aT:k.data.length<=1000000000) (aB:qN k=qN (rO U k.path)) (ik:∀ p,(rO U p).is=true->(rO U p).data.length<=1000000) :
  CR 97 #[pp l.X 0,.agg (iy k).toArray] w (.int .i64 0) fun w'=>∃ cZ rc,iF w' { l with cZ:=cZ,rc:=rc } P ins asks (b.mE P k)/\kD l w w'/\∀ q,q < w.heap.size->some q≠bV l.cZ->some q≠bV cZ:=by
 have Fw:=av;rcases Fw with e | ⟨hw,Bf,hm⟩
 ·rw [gq] at e;cases e
 have ax:b.ps.gave k=(0,b.ps.mE (qN (rO U b.ps.asks))):=by rw [aJ.gave,if_neg (by rw [hw];decide),if_neg (by rw [BI,Bf];simp),if_neg (fun⟨h1,ag⟩=>by have:=hl h1;omega),aB,BI,Bf]
 obtain⟨eP,Au⟩:∃ x:dA,x={ b with reads:=b.reads++[P.sum k] }:=⟨_,rfl⟩;obtain⟨BX,Ah⟩:∃ x:dA,x={ eP with ps:=(b.ps.gave k).2 }:=⟨_,rfl⟩;have he:b.mE P k=rz P 402 BX:=by
  rw [dA.mE,if_neg]
  ·simp only;rw [if_neg (by rw [ax];exact fun h=>h rfl),Ah,Au]
  ·rintro (e | e | ⟨h1,ag⟩)
   ·rw [gq] at e;cases e
   ·exact e BI
   ·have:=hl h1;omega
 have Db:uS P U BX/\p9 BX.ps.todo < 402:=by
  rw [Ah,Au,ax];refine⟨⟨ay.inv.mE hw ik,ay.fresh,ay.ok,?_,ay.wrote,ay.why,ay.full,fun r ah=>?_,ay.few,ay.A8⟩,by have:=ay.few;show p9 b.ps.todo < 402;omega⟩
  ·show (b.ps.known++[(b.ps.asks,qN (rO U b.ps.asks))]).map (fun x=>x.1)=(b.reads++[P.sum k]).map (fun x=>x.path);rw [List.map_append,List.map_append,ay.keys,hk.sum];simp [iA,BI,Bf]
  ·rcases aQI.1 ah with ah | ah
   ·exact ay.RL r ah
   ·rw [List.mem_singleton.1 ah,hk.sum];show P.may k.path=true;rw [BI];exact hm
 have Es:k.path.length<=1000000000:=by rw [BI,Bf];have:=ay.inv.ord.lim.asks;omega
 obtain⟨AA,Aw,AB,Ay,qf,Az,V,eD,X,aY,B,bg⟩:=nq6 (az k.path) (az k.data) k.is (gZ (P.sum k)) l.X l.B;obtain⟨cZ,BA,rc,Ck,n,Ab,iX,Dc,kL,De⟩:=nq5 l.cZ l.rc b.reads.length (cz gZ b.reads) l.L.R;have Eu:Value.agg (iy k).toArray = .agg #[.string AA,.bool qf,.string AB]:=by rw [Aw,Ay,Az];rfl
 obtain⟨aF,Bi⟩:=ai (w.alloc (.cells #[.string AA,.bool qf,.string AB] 80));have Ev:=gQ Bi;have Ew:aF.heap.size=w.heap.size+1:=by rw [Bi];simp
 have Ex:=lH Bi;have Bb:=FZ (P.sum k);have hlen:=Ac (P.sum k);have Bc:=WG (P.sum k);rw [<- eD] at Bb hlen Bc;have Cm:(Value.agg V.toArray).cells.size=34:=by simp [Value.cells,hlen]
 have Cn:n<=1000000:=by rw [Ab];have:=(ay.asked av gq).2;omega
 have Df:P.sum k=iA k:=by rw [hk.sum]
 rw [Df] at eD;have BF:=fun W (ae:Below w.heap.size w W)=>h.below ae;have Ey:=fun W (ae:Below w.heap.size w W)=>show W.cell? (ad X 6)=some (.bool false)/\W.cell? (ad X 5)=some (.string AA) by
  have Dg:=(BF W ae).row.cell 5;have Dh:=(BF W ae).row.cell 6;simp only [o8,List.getElem?_cons_succ,List.getElem?_cons_zero] at Dg Dh;rw [gq] at Dh;rw [<- BI] at Dg;rw [aY,Aw];exact⟨Dh,Dg⟩
 have Ez:=fun W (ae:Below w.heap.size w W)=>show Own W B 135 34 cZ n rc iX by rw [bg,BA,Ab,Ck,Dc];exact (BF W ae).reads
 have Co:B<=w.heap.size:=by rw [bg];exact h.size
 have F3:=fun (W af Cs:aRB) (Y:aRC) (A7:Nat) (ae:Below w.heap.size w W) (hm:nM W B 135 34 cZ n rc iX af) (F4:Own af B 135 34 Y (n+1) A7 (iX++V)) (Ak:aM Cs X (o8 { l with cZ:=Y,rc:=A7 } P eP) 253) (Fx:fU X af Cs)=>show iF Cs { l with cZ:=Y,rc:=A7 } P ins asks eP/\kD l w Cs by
  subst Au bg BA Ck Ab Dc aY;rw [eD,<- Df] at F4;have:=(BF W ae).aHt hm F4 Ak Fx;exact⟨this.1,(kD.gT ae h.size).trans this.2 rfl rfl fun _ _ h=>h⟩
 have F5:=fun (Y:aRC) (A7:Nat)=>show (o8 l P b).set 4 (.slice Y (n+1) A7)=o8 { l with cZ:=Y,rc:=A7 } P eP by
  rw [Au,Ab,o8,o8];simp
 have F6:=fun (W af:aRB) (ae:Below w.heap.size w W) (hm:nM W B 135 34 cZ n rc iX af)=>show aM af X (o8 l P b) 253 /\ af.cell? (ad X 4)=some (.slice cZ n rc) by
  have ah:=(BF W ae).row;have Dk:=hm.row ah (by rw [BA];exact (BF W ae).ae5 ah dc);rw [<- aY] at Dk;refine⟨Dk,(Dk.cell 4).trans ?_⟩;rw [BA,Ab,Ck];rfl
 have FB:=fun (W af:aRB) (ae:Below w.heap.size w W) (hm:nM W B 135 34 cZ n rc iX af) (g:Nat) (V:aRD) (t:TypeId) (av:aM W g V t) (Gc:w.heap.size<=g)=>show aM af g V t from hm.row av (by
  rw [BA];intro e;have:=h.reads.block g e.symm;omega)
 have FD:∀ g,w.heap.size<=g->g≠X:=fun g ax e=>by rw [e,aY] at ax;have:=h.row.lt;omega
 have FE:BX={ eP with ps:=b.ps.mE (qN (rO U b.ps.asks)) }:=by rw [Ah,ax]
 have FF:=fun (W:aRB) (I:nX) (FH:I.B=l.B) (FJ:I.L=l.L) (ah:iF W I P ins asks eP) (ae:vM W l.B)=>show CR 149 #[pp kL 0,.agg #[.string AA,.bool qf,.string AB]] W (.int .i64 0) fun w'=>iF w' I P ins asks BX/\kD I W w' by
  have h1:=aHk (U:=U) ah (by rw [Au];exact ay.inv) hk.env (ae.home (by rw [FJ];exact h.far.2.2) (by obtain⟨q,AV⟩:=ah.run;letI:=vL I.m;exact jL.size AV)) k ⟨Es,aT⟩ (by rw [Au];exact hw);rw [show eP.ps=b.ps by rw [Au],FJ,<- De,ax] at h1;rw [show xy k = .agg #[.string AA,.bool qf,.string AB] by rw [Aw,Ay,Az];rfl] at h1;rw [FE];exact h1
 have FN:=fun (W:aRB) (I:nX) (FH:I.B=l.B) (Fy:I.X=X) (ah:iF W I P ins asks BX) (ae:vM W l.B)=>show CR 148 #[pp X 0] W (.tuple #[]) fun w'=>iF w' I P ins asks (b.mE P k)/\kD I W w' by
  have:=atM hk ah Db.1 (by rw [FH];exact ae) 402 Db.2;rw [Fy,<- he] at this;exact this
 have Ct:=aa (fun (W:aRB) (ae:kD l w W)=>ek.below ae.below);obtain⟨Cv,Cw,FP,FQ,FT,FV,Cz,DD,DF,FW,FY,Bd,DL,Fa,Fb⟩:=hq15 Ev Ex Ey Ez F3 F5 F6 FB FD FF FN aY BA De Ew;have Dl:qf=true->¬ ((AB.size:Int) > 65536):=fun e=>by rw [Ay,iM];have:=hl (by rw [<- Az];exact e);omega
 have Bn:=fun (W:aRB) (g:Nat) (av:Rd W 1 (some ⟨g,0,none⟩) 1 [.string AB])=>WA W g AB (by rw [Ay,iM];exact aT) av;rw [show AB.data.toList=k.data by rw [Ay,gU]] at Bn;rw [Eu,<- aY];have Ff:=Bi.symm;clear BF Ey Ez F3 F5 F6 FB FD FF FN ax he Db Ev Ex ay ek av gq BI hl aB ik hw Bf hm Au Ah FE bg aY BA Ck Ab Dc De Df Es Bi Eu h hk Ew aT;cases qf with
 | false =>
  have BG:=aiQ Az.symm;rw [<- Aw,<- eD] at BG;have Dm:=aa (show prog.built 135 [(0,.string AA),(1,.bool false)]=some V.toArray by rw [BG];exact adG AA false);clear BG Az eD Aw Ay Dl Bn;obtain⟨Dp,Dq⟩:=FP.o aF Cv.o;have d0:=Cw.o.cell 0;go_enter func97,ntmps97;go_wp2_with fail;go_quiet (fail);obtain⟨aV,Ad⟩:=ai (aF.drewN nq);have Ah:Bl w aV:=by rw [Ad];exact below_drewN Cv.o nq
  have Ae:aM aV w.heap.size [.string AA,.bool false,.string AB] 80:=by rw [Ad];exact Cw.o
  have BH:aV.heap.size=w.heap.size+1:=by rw [Ad];exact Fb.o
  obtain⟨bS,DN⟩:=ai (aV.alloc (.cells V.toArray 135));have Dr:=gQ DN;have Dt:=aa (show aM bS (w.heap.size+1) V 135 by rw [DN,<- BH];exact aM.new aV V _);have DR:=aa (Ae.all Dr);have AL:=aa (aR Ah Dr);rw [<- Ad];have Dx:=Ae.cell 0;have Dy:=Ae.cell 1;have Dz:=Ae.cell 2;have f1:=DR.o.cell 1;have Fz:=DN.symm;have E8:=aa BH;clear d0 Dq Dp Ad Ff Ae Ah Dr DN BH;go_wp2_with (first
   | ((with_reducible refine Rc (.string AA) (.bool false) V.toArray Dm.o ?_ ?_);exact⟨rfl,rfl⟩)
   | (with_reducible refine zo V hlen Bc Bb ?_))
  clear Dx Dy Dz f1 Fz;rw [E8.o];obtain⟨g3,BJ,g5,BK⟩:=nq2 w.heap.size (w.heap.size+1);have E9:=aa (show aM bS g3 [.string AA,.bool false,.string AB] 80 by rw [BJ];exact DR.o);have EB:=aa (show aM bS g5 V 135 by rw [BK];exact Dt.o);have BL:=aa (show w.heap.size<=g3/\w.heap.size<=g5/\g3≠X/\g5≠X by refine⟨om,om,DF.o _ om,DF.o _ om⟩);rw [<- BK,<- BJ];clear BJ BK;have Bo:=aa (FQ.o bS AL.o);have Bp:=hlen;have Bq:=Bb;have Br:=Cm;have Ab:=Cn;have Bt:B<=bS.heap.size:=aQn Co AL.o.size;have BM:=aa (fun (af:aRB) (aj:nM bS B 135 34 cZ n rc iX af)=>(Cz.o bS af AL.o aj).2);have AZ:=aa (fun (af:aRB) (aj:nM bS B 135 34 cZ n rc iX af)=>KT (W:=af) (g:=g5) (o:=0) (V:=V) (fun i v BO=>by rw [Nat.zero_add,(DD.o bS af AL.o aj g5 V _ EB.o BL.o.2.1).cell i];exact BO) underlying135 rfl Bc (Below.refl af.heap.size af));have kE:=aa fun af (aj:(nM bS (B) 135 34 cZ n rc iX) af)=>And.intro (BM.o af aj) (AZ.o af aj);refine ng nE 8 [some (pp X 0),some (pp X 0),some (pp X 0),some (pp X 4),some (.slice cZ n rc),some (.agg V.toArray),none,none] (wV bS.heap.size (B) 135 34 cZ n rc iX V 6 7) (nM bS (B) 135 34 cZ n rc iX) (oN (B) 135 34 cZ rc (n+1) (iX++V)) (nM.start Bo.o) (fun j v w1 af ae h=>h.keep ae) ?_ (jJ:=?_)
  ·intro u af aj Af;obtain⟨Y,A7,BP,Al⟩:=(show wV bS.heap.size (B) 135 34 cZ n rc iX V 6 7 7 (u 7) af from Af 7 om).1.2.1 rfl;have Bu:=(show wV bS.heap.size (B) 135 34 cZ n rc iX V 6 7 7 (u 7) af from Af 7 om).2 rfl _ _ _ BP;clear Af;simp only [BP];obtain⟨I,BQ⟩:∃ x:nX,x={ l with cZ:=Y,rc:=A7 }:=⟨_,rfl⟩;have ED:=aa aj;have EG:=aa Al.1;have Bv:=aa (fun q (AV:q < w.heap.size)=>Bu q (aQq AV AL.o.size));have Bw:=aa (Cz.o bS af AL.o aj).1;have C8:Sz 61 1:=kr;have Am:=FV.o Y A7;rw [<- BQ] at Am;obtain⟨AO,AP,G5,Ai⟩:=nq2 (o8 l P b) (o8 I P eP);have C9:4+1<=AO.length:=by rw [AP];show 5<=8;omega
   have EH:(Value.slice Y (n+1) A7).cells.toList=[.slice Y (n+1) A7]:=rfl;have CE:(Value.slice Y (n+1) A7).oneCell'=true:=rfl;rw [<- AP,<- Ai] at Am;rw [<- AP] at Bw;have EI:=aa Ai;have Aa:=aa BQ;have EK:=aa (DD.o bS af AL.o aj g3 _ _ E9.o BL.o.1);clear aj Al Bu AP Ai BQ BP Bo BM AZ Bp Bq Br Ab Bt;go_wp2_with (first
    | ((with_reducible refine BU 4 (.slice Y (n+1) A7) Bw.o C8 C9 CE Am ?_);refine zR ?_;intro J EL CJ))
   have Ak:=EL.o;rw [EI.o,Aa.o] at Ak;obtain⟨Ao,CK⟩:=FT.o bS af J Y A7 AL.o ED.o EG.o Ak CJ.o;rw [<- Aa.o] at Ao;have EM:=aa CK;have EO:=aa (EK.o.dK CJ.o BL.o.2.2.1);have CL:=aa (fun Ap (ae:Below J.heap.size J Ap)=>show Ap.cell? (ad X 0)=some (pp kL 0) by
    have CS:=(Ao.below ae).row.cell 0;rw [Bd.o,Fa.o];rw [Aa.o] at CS;exact CS)
   have CU:(prog.info? 80).map (·.size)=some [Value.string AA,.bool false,.string AB].length:=kr;have AZ:=aa (fun Ap (ae:Below J.heap.size J Ap)=>KT (W:=J) (g:=g3) (o:=0) (V:=[.string AA,.bool false,.string AB]) (fun i v BO=>by rw [Nat.zero_add,EO.o.cell i];exact BO) underlying80 rfl CU ae);have AJ:=aa (show I.B=l.B/\I.L=l.L/\I.X=X/\I.X=l.X by rw [Aa.o,Bd.o];exact⟨rfl,rfl,rfl,rfl⟩);have CV:=aa (fun q (AV:q < w.heap.size) (Ag:some q≠bV l.cZ)=>show some q≠bV I.cZ by rw [Aa.o];exact Bv.o q AV (by rw [DL.o];exact Ag));have CW:=aa (show iF J I P ins asks eP from Ao);clear Ak Ao CK CU Bc hlen Bb Cm Cn Co Am EH CE C9 C8;simp only [Act.put];have kE:=aa fun af (aj:Bl J af)=>And.intro (CL.o af aj) (AZ.o af aj);refine ng nE 5 [some (pp X 0),some (pp X 0),some (pp X 0),some (pp kL 0),some (.agg #[.string AA,.bool false,.string AB])] (fun _ _ _=>False) (Bl J) Bl ((Below.refl _ J).drew) (fun j v w1 af ae h=>h.elim) ?_ (jJ:=?_)
   ·intro u af aj Af;clear Af;have EP:=aa (CW.o.below aj);have Aq:=aa (EM.o.trans (kD.gT aj (by have:=CW.o.size;rw [AJ.o.1] at this;exact this)) rfl rfl fun _ _ h=>h);clear aj;go_wp2_with (first
     | ((with_reducible refine (FW.o af I AJ.o.1 AJ.o.2.1 EP.o (Ct.o af Aq.o)).mono ?_);rintro e CZ ⟨rfl,Ca,Cb⟩;have ER:=aa Ca;have Ce:=aa (Aq.o.trans Cb AJ.o.1 AJ.o.2.2.2 CV.o);clear Ca Cb)
     | ((with_reducible refine (FY.o CZ I AJ.o.1 AJ.o.2.2.1 ER.o (Ct.o CZ Ce.o)).mono ?_);rintro e G6 ⟨rfl,Cf,Cg⟩;have EU:=aa Cf;have EW:=aa (Ce.o.trans Cg AJ.o.1 AJ.o.2.2.2 CV.o);clear Cf Cg))
    go_ret;exact⟨rfl,Y,A7,by have:=EU.o;rw [Aa.o] at this;rw [Bd.o];exact this,EW.o,fun q AV Ag=>Bv.o q AV (by rw [DL.o];exact Ag)⟩
   ·repeat' (first | exact trivial | apply And.intro)
    all_goals try exact rx
    all_goals intro eH u af aj aK bz K aS
    all_goals try simp [iY,Region.binds] at bz
    all_goals refine mf rfl ?_
    all_goals have G7:=CL.o af aj
    all_goals have EY:=AZ.o af aj
    ·refine KQ _ _ rfl EY (by simp [Act.eval,aK]) ?_;exact aS _ _ rfl aj (Below.refl _ _)
  ·repeat' (first | exact trivial | apply And.intro)
   all_goals try exact rx
   all_goals intro eH u af aj aK bz K aS
   all_goals try simp [iY,Region.binds] at bz
   all_goals refine mf rfl ?_
   all_goals have GI:=BM.o af aj
   all_goals have EZ:=AZ.o af aj
   ·refine KQ _ _ rfl EZ (by simp [Act.eval,aK]) ?_;exact aS _ _ rfl aj (oN.refl _)
   ·refine Nl KL (.agg V.toArray) Br rfl (by simp [Act.eval,aK,bz]) ?_;exact aS _ _ ⟨⟨fun _=>⟨_,rfl,aM.new af V _,aj.Jv⟩,fT,fun e=>absurd rfl e⟩,fT⟩ (aj.alloc _) (oN.alloc af _)
   ·obtain⟨Ec,Ee⟩:=bz;obtain⟨g9,Eg,Ei,GJ⟩:=(show wV bS.heap.size (B) 135 34 cZ n rc iX V 6 7 6 _ af from Ee).1.1 rfl;refine XB KL rfl aj.2 g9 Ei Bp Bq Ab (aQn Bt aj.1.size) underlying61 ⟨by simp [Act.eval,aK,Ec],by simp [Act.eval,aK,Eg]⟩ ?_;intro iD c2 aC Al Ci Em En;exact aS _ _ ⟨⟨fT,fun _=>⟨iD,c2,rfl,Al⟩,fun _ e=>absurd rfl e⟩,fun _ cO m3 bF Eo j aD Ag=>by cases Eo;exact En j (aQq aD aj.1.size) Ag⟩ ⟨F8 aj.1 Ci.1,Em⟩ Ci
 | true =>
  have BG:=aiP Az.symm;obtain⟨S,DW⟩:=ai (bN.sum k.data);have DX:S.length=32:=by rw [DW];exact yB _
  rw [<- Aw,<- eD,<- DW] at BG;rw [<- DW] at Bn;have GK:=Dl rfl;obtain⟨AO,AP⟩:=ai (Value.string AA :: Value.bool true :: l6 Bg);have DY:AO.length=34:=by rw [AP];simp [rf]
  have Fh:Sz 135 AO.length:=by rw [DY];exact aiO
  have Fj:∀ v∈AO,v.oneCell'=true:=by rw [AP,Aw];exact FZ ⟨k.path,true,Bg⟩
  have Ai:AO.take 2++bO S++AO.drop (2+(bO S).length)=V:=by rw [BG,AP,xf,DX];simp [rf]
  have Fp:2+(bO S).length<=AO.length:=by rw [xf,DX,DY];decide
  have Dm:=aa (show prog.built 135 [(0,.string AA),(1,.bool true)]=some AO.toArray by rw [AP];exact adG AA true);have GQ:=aa Bn;clear BG Az eD Aw Ay Dl Bn AP DW;obtain⟨Dp,Dq⟩:=FP.o aF Cv.o;have d0:=Cw.o.cell 0;go_enter func97,ntmps97;go_wp2_with fail;go_quiet (fail);obtain⟨aV,Ad⟩:=ai (aF.drewN nq);have Ah:Bl w aV:=by rw [Ad];exact below_drewN Cv.o nq
  have Ae:aM aV w.heap.size [.string AA,.bool true,.string AB] 80:=by rw [Ad];exact Cw.o
  have BH:aV.heap.size=w.heap.size+1:=by rw [Ad];exact Fb.o
  obtain⟨DZ,Da⟩:=ai (aV.alloc (.cells AO.toArray 135));have Ep:=gQ Da;have GR:=aa (show aM DZ (w.heap.size+1) AO 135 by rw [Da,<- BH];exact aM.new aV AO _);have Er:=aa (Ae.all Ep);have GY:=aa (aR Ah Ep);rw [<- Ad];have Dx:=Ae.cell 0;have Dy:=Ae.cell 1;have Dz:=Ae.cell 2;have f1:=Er.o.cell 1;have f2:=Er.o.cell 2;have Ga:=Da.symm;have E8:=aa BH;clear d0 Dq Dp Ad Ff Ae Ah Ep Da BH;go_wp2_with (first
   | ((with_reducible refine Rc (.string AA) (.bool true) AO.toArray Dm.o ?_ ?_);exact⟨rfl,rfl⟩)
   | (with_reducible refine zo AO DY Fh Fj ?_)
   | (go_at_call 33; refine (GQ.o _ _ (Rd.one DZ (.string AB) 9)).mono ?_;rintro e Gb ⟨rfl,Fs⟩;have Aq:=aa (show Bl DZ Gb from gK.trans (Fs.mono sp));clear Fs f1 f2 Ga;rw [E8.o])
   | ((with_reducible refine WE 2 (.agg (bO S).toArray) (GR.o.all Aq.o) (qD _) (zk DX) Fp (G8 _) Ai ?_);refine zR ?_;intro bS Dt Fu))
  have AL:=aa (oF (aR GY.o Aq.o) Fu.o om);have DR:=aa ((Er.o.all Aq.o).dK Fu.o om);clear Dx Dy Dz DY Fh Fj Ai Fp DX GK;simp only [Act.put];obtain⟨g3,BJ,g5,BK⟩:=nq2 w.heap.size (w.heap.size+1);have E9:=aa (show aM bS g3 [.string AA,.bool true,.string AB] 80 by rw [BJ];exact DR.o);have EB:=aa (show aM bS g5 V 135 by rw [BK];exact Dt.o);have BL:=aa (show w.heap.size<=g3/\w.heap.size<=g5/\g3≠X/\g5≠X by refine⟨om,om,DF.o _ om,DF.o _ om⟩);rw [<- BK,<- BJ];clear BJ BK;have Bo:=aa (FQ.o bS AL.o);have Bp:=hlen;have Bq:=Bb;have Br:=Cm;have Ab:=Cn;have Bt:B<=bS.heap.size:=aQn Co AL.o.size;have BM:=aa (fun (af:aRB) (aj:nM bS B 135 34 cZ n rc iX af)=>(Cz.o bS af AL.o aj).2);have AZ:=aa (fun (af:aRB) (aj:nM bS B 135 34 cZ n rc iX af)=>KT (W:=af) (g:=g5) (o:=0) (V:=V) (fun i v BO=>by rw [Nat.zero_add,(DD.o bS af AL.o aj g5 V _ EB.o BL.o.2.1).cell i];exact BO) underlying135 rfl Bc (Below.refl af.heap.size af));have kE:=aa fun af (aj:(nM bS (B) 135 34 cZ n rc iX) af)=>And.intro (BM.o af aj) (AZ.o af aj);refine ng nE 8 [some (pp X 0),some (pp X 0),some (pp X 0),some (pp X 4),some (.slice cZ n rc),some (.agg V.toArray),none,none] (wV bS.heap.size (B) 135 34 cZ n rc iX V 6 7) (nM bS (B) 135 34 cZ n rc iX) (oN (B) 135 34 cZ rc (n+1) (iX++V)) (nM.start Bo.o) (fun j v w1 af ae h=>h.keep ae) ?_ (jJ:=?_)
  ·intro u af aj Af;obtain⟨Y,A7,BP,Al⟩:=(show wV bS.heap.size (B) 135 34 cZ n rc iX V 6 7 7 (u 7) af from Af 7 om).1.2.1 rfl;have Bu:=(show wV bS.heap.size (B) 135 34 cZ n rc iX V 6 7 7 (u 7) af from Af 7 om).2 rfl _ _ _ BP;clear Af;simp only [BP];obtain⟨I,BQ⟩:∃ x:nX,x={ l with cZ:=Y,rc:=A7 }:=⟨_,rfl⟩;have ED:=aa aj;have EG:=aa Al.1;have Bv:=aa (fun q (AV:q < w.heap.size)=>Bu q (aQq AV AL.o.size));have Bw:=aa (Cz.o bS af AL.o aj).1;have C8:Sz 61 1:=kr;have Am:=FV.o Y A7;rw [<- BQ] at Am;obtain⟨AO,AP,G5,Ai⟩:=nq2 (o8 l P b) (o8 I P eP);have C9:4+1<=AO.length:=by rw [AP];show 5<=8;omega
   have EH:(Value.slice Y (n+1) A7).cells.toList=[.slice Y (n+1) A7]:=rfl;have CE:(Value.slice Y (n+1) A7).oneCell'=true:=rfl;rw [<- AP,<- Ai] at Am;rw [<- AP] at Bw;have EI:=aa Ai;have Aa:=aa BQ;have EK:=aa (DD.o bS af AL.o aj g3 _ _ E9.o BL.o.1);clear aj Al Bu AP Ai BQ BP Bo BM AZ Bp Bq Br Ab Bt;go_wp2_with (first
    | ((with_reducible refine BU 4 (.slice Y (n+1) A7) Bw.o C8 C9 CE Am ?_);refine zR ?_;intro J EL CJ))
   have Ak:=EL.o;rw [EI.o,Aa.o] at Ak;obtain⟨Ao,CK⟩:=FT.o bS af J Y A7 AL.o ED.o EG.o Ak CJ.o;rw [<- Aa.o] at Ao;have EM:=aa CK;have EO:=aa (EK.o.dK CJ.o BL.o.2.2.1);have CL:=aa (fun Ap (ae:Below J.heap.size J Ap)=>show Ap.cell? (ad X 0)=some (pp kL 0) by
    have CS:=(Ao.below ae).row.cell 0;rw [Bd.o,Fa.o];rw [Aa.o] at CS;exact CS)
   have CU:(prog.info? 80).map (·.size)=some [Value.string AA,.bool true,.string AB].length:=kr;have AZ:=aa (fun Ap (ae:Below J.heap.size J Ap)=>KT (W:=J) (g:=g3) (o:=0) (V:=[.string AA,.bool true,.string AB]) (fun i v BO=>by rw [Nat.zero_add,EO.o.cell i];exact BO) underlying80 rfl CU ae);have AJ:=aa (show I.B=l.B/\I.L=l.L/\I.X=X/\I.X=l.X by rw [Aa.o,Bd.o];exact⟨rfl,rfl,rfl,rfl⟩);have CV:=aa (fun q (AV:q < w.heap.size) (Ag:some q≠bV l.cZ)=>show some q≠bV I.cZ by rw [Aa.o];exact Bv.o q AV (by rw [DL.o];exact Ag));have CW:=aa (show iF J I P ins asks eP from Ao);clear Ak Ao CK CU Bc hlen Bb Cm Cn Co Am EH CE C9 C8;simp only [Act.put];have kE:=aa fun af (aj:Bl J af)=>And.intro (CL.o af aj) (AZ.o af aj);refine ng nE 5 [some (pp X 0),some (pp X 0),some (pp X 0),some (pp kL 0),some (.agg #[.string AA,.bool true,.string AB])] (fun _ _ _=>False) (Bl J) Bl ((Below.refl _ J).drew) (fun j v w1 af ae h=>h.elim) ?_ (jJ:=?_)
   ·intro u af aj Af;clear Af;have EP:=aa (CW.o.below aj);have Aq:=aa (EM.o.trans (kD.gT aj (by have:=CW.o.size;rw [AJ.o.1] at this;exact this)) rfl rfl fun _ _ h=>h);clear aj;go_wp2_with (first
     | ((with_reducible refine (FW.o af I AJ.o.1 AJ.o.2.1 EP.o (Ct.o af Aq.o)).mono ?_);rintro e CZ ⟨rfl,Ca,Cb⟩;have ER:=aa Ca;have Ce:=aa (Aq.o.trans Cb AJ.o.1 AJ.o.2.2.2 CV.o);clear Ca Cb)
     | ((with_reducible refine (FY.o CZ I AJ.o.1 AJ.o.2.2.1 ER.o (Ct.o CZ Ce.o)).mono ?_);rintro e G6 ⟨rfl,Cf,Cg⟩;have EU:=aa Cf;have EW:=aa (Ce.o.trans Cg AJ.o.1 AJ.o.2.2.2 CV.o);clear Cf Cg))
    go_ret;exact⟨rfl,Y,A7,by have:=EU.o;rw [Aa.o] at this;rw [Bd.o];exact this,EW.o,fun q AV Ag=>Bv.o q AV (by rw [DL.o];exact Ag)⟩
   ·repeat' (first | exact trivial | apply And.intro)
    all_goals try exact rx
    all_goals intro eH u af aj aK bz K aS
    all_goals try simp [iY,Region.binds] at bz
    all_goals refine mf rfl ?_
    all_goals have G7:=CL.o af aj
    all_goals have EY:=AZ.o af aj
    ·refine KQ _ _ rfl EY (by simp [Act.eval,aK]) ?_;exact aS _ _ rfl aj (Below.refl _ _)
  ·repeat' (first | exact trivial | apply And.intro)
   all_goals try exact rx
   all_goals intro eH u af aj aK bz K aS
   all_goals try simp [iY,Region.binds] at bz
   all_goals refine mf rfl ?_
   all_goals have GI:=BM.o af aj
   all_goals have EZ:=AZ.o af aj
   ·refine KQ _ _ rfl EZ (by simp [Act.eval,aK]) ?_;exact aS _ _ rfl aj (oN.refl _)
   ·refine Nl KL (.agg V.toArray) Br rfl (by simp [Act.eval,aK,bz]) ?_;exact aS _ _ ⟨⟨fun _=>⟨_,rfl,aM.new af V _,aj.Jv⟩,fT,fun e=>absurd rfl e⟩,fT⟩ (aj.alloc _) (oN.alloc af _)
   ·obtain⟨Ec,Ee⟩:=bz;obtain⟨g9,Eg,Ei,GJ⟩:=(show wV bS.heap.size (B) 135 34 cZ n rc iX V 6 7 6 _ af from Ee).1.1 rfl;refine XB KL rfl aj.2 g9 Ei Bp Bq Ab (aQn Bt aj.1.size) underlying61 ⟨by simp [Act.eval,aK,Ec],by simp [Act.eval,aK,Eg]⟩ ?_;intro iD c2 aC Al Ci Em En;exact aS _ _ ⟨⟨fT,fun _=>⟨iD,c2,rfl,Al⟩,fun _ e=>absurd rfl e⟩,fun _ cO m3 bF Eo j aD Ag=>by cases Eo;exact En j (aQq aD aj.1.size) Ag⟩ ⟨F8 aj.1 Ci.1,Em⟩ Ci
end
section
variable {α:Type}
theorem aHx {M:fu α} (av:Ha M) {x:List UInt8 × α} (h:M[k]?=some x):getM M x.1=some x.2:=by
 induction M generalizing k with
 | nil=>simp at h
 | cons y r I =>
  rw [Ha,List.pairwise_cons] at av;cases k with
  | zero =>
   simp only [List.getElem?_cons_zero,Option.some.injEq] at h;subst h;simp [getM]
  | succ k =>
   simp only [List.getElem?_cons_succ] at h;have ae:=av.1 x (aQr h);have J:(y.1 == x.1)=false:=by rw [beq_eq_false_iff_ne];intro e;rw [e,aaA] at ae;cases ae
   have:=I av.2 h;unfold getM at this |-;rw [List.find?_cons,J];exact this
theorem aHy {M:fu α} {k:aRH} {a:α} (h:getM M k=some a):(k,a)∈M:=by
 unfold getM at h;obtain⟨x,ah,rfl⟩:=Option.map_eq_some_iff.1 h;have h1:=aQ7 ah;have I:=List.find?_some ah;have:x.1=k:=by simpa using I
 rw [<- this];exact h1
end
end Go.Proofs.YtjkinjbkknanbaaGreatDoor
