/- The statements' own functions: how much it all is. -/
import Derived.Test.YtnecjdhamohadaaGreatDoorPMs
set_option linter.unusedSimpArgs false
set_option linter.unusedVariables false
namespace Go.Proofs.YtnecjdhamohadaaGreatDoor
open Go.RowKit Go.Maps Go.Shelf
set_option maxRecDepth 100000
def mW (a b:TT):Nat:=min (a.length+b.length) 5000
def envW (l:List (TT × TT)):Nat:=(l.map fun p=>mW p.1 p.2).sum
def knW (l:List KE):Nat:=(l.map fun k=>mW k.path k.data).sum
def wideL (env:List (TT × TT)) (U:List KE) (text:TT):Bool:=decide (1500 < text.length) || decide (40 < env.length) || decide (60 < U.length) || decide (4000 < envW env+knW U)
theorem mW_le (a b:TT):mW a b≤5000:=Nat.min_le_right _ _
theorem sum_take {α:Type} (f:α→Nat):∀ {l:List α} {i:Nat} {x:α},l[i]?=some x→((l.take (i+1)).map f).sum=((l.take i).map f).sum+f x
 | [],_,_,h=>by simp at h
 | y :: l,0,x,h=>by
  rw [List.getElem?_cons_zero] at h
  cases h
  simp
 | y :: l,i+1,x,h=>by
  rw [List.getElem?_cons_succ] at h
  have:=sum_take f h
  rw [List.take_succ_cons,List.take_succ_cons,List.map_cons,List.map_cons,List.sum_cons,List.sum_cons,this]
  omega
theorem sum_few {α:Type} (f:α→Nat) (m:Nat) (hf:∀ x,f x≤m):∀ l:List α,(l.map f).sum≤l.length * m
 | []=>by simp
 | x :: l=>by
  have h1:=sum_few f m hf l
  have h2:=hf x
  rw [List.map_cons,List.sum_cons,List.length_cons,Nat.add_mul]
  omega
theorem mW_int (a b:TT):min (((strB a).size:Int)+((strB b).size:Int)) 5000=(mW a b:Int):=by
 rw [strB_size,strB_size]
 unfold mW
 omega
set_option maxHeartbeats 8000000 in
theorem wide_any (w:World) (EA KA:Option Addr) (ec kc:Nat) (env:List (TT × TT)) (U:List KE) (text:TT)
  (hwe:∀ p∈env,p.1.length+p.2.length≤4611686018427387904) (hwk:∀ k∈U,k.path.length+k.data.length≤4611686018427387904)
  (hre:Rd w 2 EA env.length (setV env)) (hrk:Rd w 3 KA U.length (kV U)) :
  Calls Tryz.prog 10 #[.string (strB text),.slice EA env.length ec,.slice KA U.length kc] w fun e w'=>e = .returned (.bool (wideL env U text))∧Below w.heap.size w w':=by
 obtain⟨X,hX⟩:∃ X,X=strB text:=⟨_,rfl⟩
 have hXs:X.size=text.length:=by rw [hX,strB_size]
 obtain⟨wl,hwl⟩:∃ wl,wl=wideL env U text:=⟨_,rfl⟩
 obtain⟨en,hen⟩:∃ n,n=env.length:=⟨_,rfl⟩
 obtain⟨kn,hkn⟩:∃ n,n=U.length:=⟨_,rfl⟩
 have hwl2:wl=(decide (1500 < X.size) || decide (40 < en) || decide (60 < kn) || decide (4000 < envW env+knW U)):=by rw [hwl,hXs,hen,hkn];rfl
 rw [← hX,← hwl,← hen,← hkn]
 rw [← hen] at hre
 rw [← hkn] at hrk
 have HE:=hid2 hre
 have HK:=hid2 hrk
 have HEN:=hid2 hen
 have HKN:=hid2 hkn
 have HWE:=hid2 hwe
 have HWK:=hid2 hwk
 have HWL:=hid2 hwl2
 clear hre hrk hen hkn hwe hwk hwl hwl2 hXs hX
 have hbr:Below w.heap.size w w:=Below.refl _ _
 by_cases h1:1500 < X.size
 ·have h1i:(1500:Int) < X.size:=by omega
  have hw:wl=true:=by rw [HWL.out];simp [h1]
  subst hw
  go_enter Tryz.func10,Tryz.ntmps10
  go_wp2_with fail
  refine bodyPost_ret (results_tmp rfl _ _ _) rfl ?_
  exact⟨rfl,hbr⟩
 have h1i:¬ (1500:Int) < X.size:=by omega
 by_cases h2:40 < en
 ·have h2i:(40:Int) < en:=by omega
  have hw:wl=true:=by rw [HWL.out];simp [h2]
  subst hw
  go_enter Tryz.func10,Tryz.ntmps10
  go_wp2_with fail
  refine bodyPost_ret (results_tmp rfl _ _ _) rfl ?_
  exact⟨rfl,hbr⟩
 have h2i:¬ (40:Int) < en:=by omega
 by_cases h3:60 < kn
 ·have h3i:(60:Int) < kn:=by omega
  have hw:wl=true:=by rw [HWL.out];simp [h3]
  subst hw
  go_enter Tryz.func10,Tryz.ntmps10
  go_wp2_with fail
  refine bodyPost_ret (results_tmp rfl _ _ _) rfl ?_
  exact⟨rfl,hbr⟩
 have h3i:¬ (60:Int) < kn:=by omega
 go_enter Tryz.func10,Tryz.ntmps10
 go_wp2_with fail
 go_loopg [7,8] en (fun gk tv iv wr=>Below w.heap.size w wr∧∃ i:Nat,i+gk=en∧iv = .int .i64 i∧tv = .int .i64 (((env.take i).map fun p=>mW p.1 p.2).sum:Nat))
 case atStart=>exact⟨Below.refl _ _,0,by omega,rfl,rfl⟩
 case round =>
  obtain⟨hbe,i,hi,rfl,rfl⟩:=hrel
  by_cases hlt:i < en
  ·have hil:(i:Int) < en:=by omega
   have hi0:(0:Int)≤i:=by omega
   obtain⟨x,hx⟩:∃ x,env[i]?=some x:=⟨_,List.getElem?_eq_getElem (by rw [← HEN.out];exact hlt)⟩
   obtain⟨b1,o1,rfl,hc1⟩:=(HE.out.below_all hbe).2 (by omega)
   obtain⟨g0,g1⟩:=setV_get hx
   have hmi:=mW_int x.1 x.2
   have hsz:=HWE.out x (List.mem_of_getElem? hx)
   have hsm:=sum_take (fun p:TT × TT=>mW p.1 p.2) hx
   have hfe:=sum_few (fun p:TT × TT=>mW p.1 p.2) 5000 (fun p=>mW_le _ _) (env.take i)
   have hml:=mW_le x.1 x.2
   rw [List.length_take] at hfe
   obtain⟨mm,hmm⟩:∃ mm,mm=mW x.1 x.2:=⟨_,rfl⟩
   obtain⟨P0,hP0⟩:∃ y,y=strB x.1:=⟨_,rfl⟩
   obtain⟨D0,hD0⟩:∃ y,y=strB x.2:=⟨_,rfl⟩
   have hs1:P0.size=x.1.length:=by rw [hP0,strB_size]
   have hs2:D0.size=x.2.length:=by rw [hD0,strB_size]
   obtain⟨tt,htt⟩:∃ tt,tt=((env.take i).map fun p=>mW p.1 p.2).sum:=⟨_,rfl⟩
   rw [← hP0] at g0
   rw [← hD0] at g1
   rw [← hP0,← hD0,← hmm] at hmi
   rw [← htt,← hmm] at hsm
   rw [← htt] at hfe ⊢
   rw [← hmm] at hml
   have hpd:(P0.size:Int)+D0.size≤4611686018427387904:=by omega
   have hti:(tt:Int)≤1000000:=by omega
   have hmni:(mm:Int)≤5000:=by omega
   have HC:=hid2 (show ∀ w2,Below wr.heap.size wr w2→w2.cell? ⟨b1,o1+i * 2,none⟩=some (.string P0)∧w2.cell? ⟨b1,o1+i * 2+1,none⟩=some (.string D0) from fun w2 hb=>by
    have k1:=World.block_lt_of_cell? _ _ (hc1 _ _ g0)
    have c1:∀ j u,(setV env)[j]?=some u→w2.cell? ⟨b1,o1+j,none⟩=some u:=fun j u hu=>(hb.cell (p:=⟨b1,o1+j,none⟩) k1).trans (hc1 j u hu)
    exact⟨c1 _ _ g0,c1 _ _ g1⟩)
   have hw1:IntKind.i64.wrap ((P0.size:Int)+(D0.size:Int))=(P0.size:Int)+(D0.size:Int):=IntWalk.i64_in _ (by omega)
   have hw2:IntKind.i64.wrap ((tt:Int)+(mm:Int))=(tt:Int)+(mm:Int):=IntWalk.i64_in _ (by omega)
   have HSM:=hid2 hsm
   have HBE:=hid2 hbe
   have HI:=hid2 hi
   clear hx hc1 g0 g1 hsz hfe hml hmm hP0 hD0 hs1 hs2 htt hsm hbe hi
   go_wp2_with fail
   refine wp_region_rel 16 (by kernel_rfl) (by kernel_rfl) (by kernel_rfl) _ rfl (by kernel_rfl) (VV [some (.int .i64 (tt:Int)),some (.slice (some ⟨b1,o1,none⟩) en ec),some (.int .i64 (i:Int)),some (.pointer (some ⟨b1,o1+i * 2,none⟩)),some (.pointer (some ⟨b1,o1+i * 2,none⟩)),some (.string P0),some (.int .i64 (P0.size:Int)),some (.slice (some ⟨b1,o1,none⟩) en ec),some (.int .i64 (i:Int)),some (.pointer (some ⟨b1,o1+i * 2,none⟩)),some (.pointer (some ⟨b1,o1+i * 2+1,none⟩)),some (.string D0),some (.int .i64 (D0.size:Int)),some (.int .i64 ((P0.size:Int)+(D0.size:Int))),some (.int .i64 (mm:Int)),some (.int .i64 ((tt:Int)+(mm:Int)))] (fun _ _ _=>False)) (fun w2=>Below wr.heap.size wr w2) (fun a b=>Below a.heap.size a b) ((Below.refl _ wr).drew) (fun j v w1 w2 hb hv=>VV.keep (fun h=>h.elim) hv) ?_ ?_
   ·refine of_allOps ⟨?_,?_,?_,?_,?_,?_,?_,?_,?_,?_,?_,?_,?_,?_,?_,?_,trivial⟩
    ·refine⟨rfl,fun T2 w2 hM hN hO hE K hK=>?_⟩
     have o7:T2[7]?=some (.int .i64 (tt:Int)):=hO 7 rfl
     clear hE hO hN
     go_simp
     exact hK _ _ rfl hM (Below.refl _ _)
    ·refine⟨rfl,fun T2 w2 hM hN hO hE K hK=>?_⟩
     have o1:T2[1]?=some (.slice (some ⟨b1,o1,none⟩) en ec):=hO 1 rfl
     clear hE hO hN
     go_simp
     exact hK _ _ rfl hM (Below.refl _ _)
    ·refine⟨rfl,fun T2 w2 hM hN hO hE K hK=>?_⟩
     have o8:T2[8]?=some (.int .i64 (i:Int)):=hO 8 rfl
     clear hE hO hN
     go_simp
     exact hK _ _ rfl hM (Below.refl _ _)
    ·refine⟨rfl,fun T2 w2 hM hN hO hE K hK=>?_⟩
     obtain⟨v1,h1,e1⟩:=hE ⟨1,.data⟩ (by simp) rfl _ _ rfl rfl
     rw [show v1 = .slice (some ⟨b1,o1,none⟩) en ec from e1] at h1
     obtain⟨v2,h2,e2⟩:=hE ⟨2,.data⟩ (by simp) rfl _ _ rfl rfl
     rw [show v2 = .int .i64 (i:Int) from e2] at h2
     clear hE hO hN
     go_simp
     exact hK _ _ rfl hM (Below.refl _ _)
    ·refine⟨rfl,fun T2 w2 hM hN hO hE K hK=>?_⟩
     obtain⟨v3,h3,e3⟩:=hE ⟨3,.data⟩ (by simp) rfl _ _ rfl rfl
     rw [show v3 = .pointer (some ⟨b1,o1+i * 2,none⟩) from e3] at h3
     clear hE hO hN
     go_simp
     exact hK _ _ rfl hM (Below.refl _ _)
    ·refine⟨rfl,fun T2 w2 hM hN hO hE K hK=>?_⟩
     obtain⟨v4,h4,e4⟩:=hE ⟨4,.data⟩ (by simp) rfl _ _ rfl rfl
     rw [show v4 = .pointer (some ⟨b1,o1+i * 2,none⟩) from e4] at h4
     clear hE hO hN
     obtain⟨a0,a1⟩:=HC.out w2 hM
     go_simp
     exact hK _ _ rfl hM (Below.refl _ _)
    ·refine⟨rfl,fun T2 w2 hM hN hO hE K hK=>?_⟩
     obtain⟨v5,h5,e5⟩:=hE ⟨5,.data⟩ (by simp) rfl _ _ rfl rfl
     rw [show v5 = .string P0 from e5] at h5
     clear hE hO hN
     go_simp
     exact hK _ _ rfl hM (Below.refl _ _)
    ·refine⟨rfl,fun T2 w2 hM hN hO hE K hK=>?_⟩
     have o1:T2[1]?=some (.slice (some ⟨b1,o1,none⟩) en ec):=hO 1 rfl
     clear hE hO hN
     go_simp
     exact hK _ _ rfl hM (Below.refl _ _)
    ·refine⟨rfl,fun T2 w2 hM hN hO hE K hK=>?_⟩
     have o8:T2[8]?=some (.int .i64 (i:Int)):=hO 8 rfl
     clear hE hO hN
     go_simp
     exact hK _ _ rfl hM (Below.refl _ _)
    ·refine⟨rfl,fun T2 w2 hM hN hO hE K hK=>?_⟩
     obtain⟨v7,h7,e7⟩:=hE ⟨7,.data⟩ (by simp) rfl _ _ rfl rfl
     rw [show v7 = .slice (some ⟨b1,o1,none⟩) en ec from e7] at h7
     obtain⟨v8,h8,e8⟩:=hE ⟨8,.data⟩ (by simp) rfl _ _ rfl rfl
     rw [show v8 = .int .i64 (i:Int) from e8] at h8
     clear hE hO hN
     go_simp
     exact hK _ _ rfl hM (Below.refl _ _)
    ·refine⟨rfl,fun T2 w2 hM hN hO hE K hK=>?_⟩
     obtain⟨v9,h9,e9⟩:=hE ⟨9,.data⟩ (by simp) rfl _ _ rfl rfl
     rw [show v9 = .pointer (some ⟨b1,o1+i * 2,none⟩) from e9] at h9
     clear hE hO hN
     go_simp
     exact hK _ _ rfl hM (Below.refl _ _)
    ·refine⟨rfl,fun T2 w2 hM hN hO hE K hK=>?_⟩
     obtain⟨v10,h10,e10⟩:=hE ⟨10,.data⟩ (by simp) rfl _ _ rfl rfl
     rw [show v10 = .pointer (some ⟨b1,o1+i * 2+1,none⟩) from e10] at h10
     clear hE hO hN
     obtain⟨a0,a1⟩:=HC.out w2 hM
     go_simp
     exact hK _ _ rfl hM (Below.refl _ _)
    ·refine⟨rfl,fun T2 w2 hM hN hO hE K hK=>?_⟩
     obtain⟨v11,h11,e11⟩:=hE ⟨11,.data⟩ (by simp) rfl _ _ rfl rfl
     rw [show v11 = .string D0 from e11] at h11
     clear hE hO hN
     go_simp
     exact hK _ _ rfl hM (Below.refl _ _)
    ·refine⟨rfl,fun T2 w2 hM hN hO hE K hK=>?_⟩
     obtain⟨v6,h6,e6⟩:=hE ⟨6,.data⟩ (by simp) rfl _ _ rfl rfl
     rw [show v6 = .int .i64 (P0.size:Int) from e6] at h6
     obtain⟨v12,h12,e12⟩:=hE ⟨12,.data⟩ (by simp) rfl _ _ rfl rfl
     rw [show v12 = .int .i64 (D0.size:Int) from e12] at h12
     clear hE hO hN
     go_simp
     exact hK _ _ rfl hM (Below.refl _ _)
    ·refine⟨rfl,fun T2 w2 hM hN hO hE K hK=>?_⟩
     obtain⟨v13,h13,e13⟩:=hE ⟨13,.data⟩ (by simp) rfl _ _ rfl rfl
     rw [show v13 = .int .i64 ((P0.size:Int)+(D0.size:Int)) from e13] at h13
     clear hE hO hN
     go_simp
     exact hK _ _ rfl hM (Below.refl _ _)
    ·refine⟨rfl,fun T2 w2 hM hN hO hE K hK=>?_⟩
     obtain⟨v0,h0,e0⟩:=hE ⟨0,.data⟩ (by simp) rfl _ _ rfl rfl
     rw [show v0 = .int .i64 (tt:Int) from e0] at h0
     obtain⟨v14,h14,e14⟩:=hE ⟨14,.data⟩ (by simp) rfl _ _ rfl rfl
     rw [show v14 = .int .i64 (mm:Int) from e14] at h14
     clear hE hO hN
     go_simp
     exact hK _ _ rfl hM (Below.refl _ _)
   ·intro u w2 hM hF
    have e15:u 15 = .int .i64 ((tt:Int)+(mm:Int)):=hF 15 (by omega)
    clear hF
    simp only [fillAll,Nat.reduceAdd,e15,List.take_succ_cons,List.take_zero,List.drop_succ_cons,List.drop_zero,List.setIfInBounds_toArray,List.set_cons_succ,List.set_cons_zero]
    have hbf:=HBE.out.trans (hM.mono HBE.out.size)
    have HBF:=hid2 hbf
    clear hM hbf
    go_wp2_with fail
    go_roundg (gk - 1)
    case rel=>exact⟨HBF.out,i+1,by have:=HI.out;omega,by go_num,by rw [HSM.out];rfl⟩
    case measure=>have:=HI.out;omega
  ·have hil:¬ (i:Int) < en:=by omega
   have hie:i=en:=by omega
   have hte:((env.take i).map fun p=>mW p.1 p.2).sum=envW env:=by rw [hie,HEN.out,List.take_length];rfl
   rw [hte]
   have hfe:=sum_few (fun p:TT × TT=>mW p.1 p.2) 5000 (fun p=>mW_le _ _) env
   have hte2:envW env≤1000000:=by
    have h4:=HEN.out
    unfold envW
    omega
   obtain⟨te,hte3⟩:∃ te,te=envW env:=⟨_,rfl⟩
   rw [← hte3] at hte2 ⊢
   have HTE:=hid2 hte3
   have HBE:=hid2 hbe
   clear hbe hi hfe hte hte3
   go_wp2_with fail
   go_loopg [7,9] kn (fun gk tv iv wr=>Below w.heap.size w wr∧∃ i:Nat,i+gk=kn∧iv = .int .i64 i∧tv = .int .i64 (te+((U.take i).map fun k=>mW k.path k.data).sum:Nat))
   case atStart=>exact⟨HBE.out,0,by omega,rfl,rfl⟩
   case round =>
    obtain⟨hbe,i,hi,rfl,rfl⟩:=hrel
    by_cases hlt:i < kn
    ·have hil:(i:Int) < kn:=by omega
     have hi0:(0:Int)≤i:=by omega
     obtain⟨x,hx⟩:∃ x,U[i]?=some x:=⟨_,List.getElem?_eq_getElem (by rw [← HKN.out];exact hlt)⟩
     obtain⟨b1,o1,rfl,hc1⟩:=(HK.out.below_all hbe).2 (by omega)
     obtain⟨g0,_,g1⟩:=kV_get hx
     have hmi:=mW_int x.path x.data
     have hsz:=HWK.out x (List.mem_of_getElem? hx)
     have hsm:=sum_take (fun k:KE=>mW k.path k.data) hx
     have hfe:=sum_few (fun k:KE=>mW k.path k.data) 5000 (fun k=>mW_le _ _) (U.take i)
     have hml:=mW_le x.path x.data
     rw [List.length_take] at hfe
     obtain⟨mm,hmm⟩:∃ mm,mm=mW x.path x.data:=⟨_,rfl⟩
     obtain⟨P0,hP0⟩:∃ y,y=strB x.path:=⟨_,rfl⟩
     obtain⟨D0,hD0⟩:∃ y,y=strB x.data:=⟨_,rfl⟩
     have hs1:P0.size=x.path.length:=by rw [hP0,strB_size]
     have hs2:D0.size=x.data.length:=by rw [hD0,strB_size]
     obtain⟨tt,htt⟩:∃ tt,tt=te+((U.take i).map fun k=>mW k.path k.data).sum:=⟨_,rfl⟩
     rw [← hP0] at g0
     rw [← hD0] at g1
     rw [← hP0,← hD0,← hmm] at hmi
     have hsm2:te+((U.take (i+1)).map fun k=>mW k.path k.data).sum=tt+mm:=by rw [hsm,htt,hmm];omega
     rw [← hmm] at hml
     have hpd:(P0.size:Int)+D0.size≤4611686018427387904:=by omega
     have hti:(tt:Int)≤2000000:=by omega
     rw [← htt]
     have hmni:(mm:Int)≤5000:=by omega
     have HC:=hid2 (show ∀ w2,Below wr.heap.size wr w2→w2.cell? ⟨b1,o1+i * 3,none⟩=some (.string P0)∧w2.cell? ⟨b1,o1+i * 3+2,none⟩=some (.string D0) from fun w2 hb=>by
      have k1:=World.block_lt_of_cell? _ _ (hc1 _ _ g0)
      have c1:∀ j u,(kV U)[j]?=some u→w2.cell? ⟨b1,o1+j,none⟩=some u:=fun j u hu=>(hb.cell (p:=⟨b1,o1+j,none⟩) k1).trans (hc1 j u hu)
      exact⟨c1 _ _ g0,c1 _ _ g1⟩)
     have hw1:IntKind.i64.wrap ((P0.size:Int)+(D0.size:Int))=(P0.size:Int)+(D0.size:Int):=IntWalk.i64_in _ (by omega)
     have hw2:IntKind.i64.wrap ((tt:Int)+(mm:Int))=(tt:Int)+(mm:Int):=IntWalk.i64_in _ (by omega)
     have HSM:=hid2 hsm2
     have HBE:=hid2 hbe
     have HI:=hid2 hi
     clear hx hc1 g0 g1 hsz hfe hml hmm hP0 hD0 hs1 hs2 htt hsm hsm2 hbe hi hte2
     go_wp2_with fail
     refine wp_region_rel 16 (by kernel_rfl) (by kernel_rfl) (by kernel_rfl) _ rfl (by kernel_rfl) (VV [some (.int .i64 (tt:Int)),some (.slice (some ⟨b1,o1,none⟩) kn kc),some (.int .i64 (i:Int)),some (.pointer (some ⟨b1,o1+i * 3,none⟩)),some (.pointer (some ⟨b1,o1+i * 3,none⟩)),some (.string P0),some (.int .i64 (P0.size:Int)),some (.slice (some ⟨b1,o1,none⟩) kn kc),some (.int .i64 (i:Int)),some (.pointer (some ⟨b1,o1+i * 3,none⟩)),some (.pointer (some ⟨b1,o1+i * 3+2,none⟩)),some (.string D0),some (.int .i64 (D0.size:Int)),some (.int .i64 ((P0.size:Int)+(D0.size:Int))),some (.int .i64 (mm:Int)),some (.int .i64 ((tt:Int)+(mm:Int)))] (fun _ _ _=>False)) (fun w2=>Below wr.heap.size wr w2) (fun a b=>Below a.heap.size a b) ((Below.refl _ wr).drew) (fun j v w1 w2 hb hv=>VV.keep (fun h=>h.elim) hv) ?_ ?_
     ·refine of_allOps ⟨?_,?_,?_,?_,?_,?_,?_,?_,?_,?_,?_,?_,?_,?_,?_,?_,trivial⟩
      ·refine⟨rfl,fun T2 w2 hM hN hO hE K hK=>?_⟩
       have o7:T2[7]?=some (.int .i64 (tt:Int)):=hO 7 rfl
       clear hE hO hN
       go_simp
       exact hK _ _ rfl hM (Below.refl _ _)
      ·refine⟨rfl,fun T2 w2 hM hN hO hE K hK=>?_⟩
       have o2:T2[2]?=some (.slice (some ⟨b1,o1,none⟩) kn kc):=hO 2 rfl
       clear hE hO hN
       go_simp
       exact hK _ _ rfl hM (Below.refl _ _)
      ·refine⟨rfl,fun T2 w2 hM hN hO hE K hK=>?_⟩
       have o9:T2[9]?=some (.int .i64 (i:Int)):=hO 9 rfl
       clear hE hO hN
       go_simp
       exact hK _ _ rfl hM (Below.refl _ _)
      ·refine⟨rfl,fun T2 w2 hM hN hO hE K hK=>?_⟩
       obtain⟨v1,h1,e1⟩:=hE ⟨1,.data⟩ (by simp) rfl _ _ rfl rfl
       rw [show v1 = .slice (some ⟨b1,o1,none⟩) kn kc from e1] at h1
       obtain⟨v2,h2,e2⟩:=hE ⟨2,.data⟩ (by simp) rfl _ _ rfl rfl
       rw [show v2 = .int .i64 (i:Int) from e2] at h2
       clear hE hO hN
       go_simp
       exact hK _ _ rfl hM (Below.refl _ _)
      ·refine⟨rfl,fun T2 w2 hM hN hO hE K hK=>?_⟩
       obtain⟨v3,h3,e3⟩:=hE ⟨3,.data⟩ (by simp) rfl _ _ rfl rfl
       rw [show v3 = .pointer (some ⟨b1,o1+i * 3,none⟩) from e3] at h3
       clear hE hO hN
       go_simp
       exact hK _ _ rfl hM (Below.refl _ _)
      ·refine⟨rfl,fun T2 w2 hM hN hO hE K hK=>?_⟩
       obtain⟨v4,h4,e4⟩:=hE ⟨4,.data⟩ (by simp) rfl _ _ rfl rfl
       rw [show v4 = .pointer (some ⟨b1,o1+i * 3,none⟩) from e4] at h4
       clear hE hO hN
       obtain⟨a0,a1⟩:=HC.out w2 hM
       go_simp
       exact hK _ _ rfl hM (Below.refl _ _)
      ·refine⟨rfl,fun T2 w2 hM hN hO hE K hK=>?_⟩
       obtain⟨v5,h5,e5⟩:=hE ⟨5,.data⟩ (by simp) rfl _ _ rfl rfl
       rw [show v5 = .string P0 from e5] at h5
       clear hE hO hN
       go_simp
       exact hK _ _ rfl hM (Below.refl _ _)
      ·refine⟨rfl,fun T2 w2 hM hN hO hE K hK=>?_⟩
       have o2:T2[2]?=some (.slice (some ⟨b1,o1,none⟩) kn kc):=hO 2 rfl
       clear hE hO hN
       go_simp
       exact hK _ _ rfl hM (Below.refl _ _)
      ·refine⟨rfl,fun T2 w2 hM hN hO hE K hK=>?_⟩
       have o9:T2[9]?=some (.int .i64 (i:Int)):=hO 9 rfl
       clear hE hO hN
       go_simp
       exact hK _ _ rfl hM (Below.refl _ _)
      ·refine⟨rfl,fun T2 w2 hM hN hO hE K hK=>?_⟩
       obtain⟨v7,h7,e7⟩:=hE ⟨7,.data⟩ (by simp) rfl _ _ rfl rfl
       rw [show v7 = .slice (some ⟨b1,o1,none⟩) kn kc from e7] at h7
       obtain⟨v8,h8,e8⟩:=hE ⟨8,.data⟩ (by simp) rfl _ _ rfl rfl
       rw [show v8 = .int .i64 (i:Int) from e8] at h8
       clear hE hO hN
       go_simp
       exact hK _ _ rfl hM (Below.refl _ _)
      ·refine⟨rfl,fun T2 w2 hM hN hO hE K hK=>?_⟩
       obtain⟨v9,h9,e9⟩:=hE ⟨9,.data⟩ (by simp) rfl _ _ rfl rfl
       rw [show v9 = .pointer (some ⟨b1,o1+i * 3,none⟩) from e9] at h9
       clear hE hO hN
       go_simp
       exact hK _ _ rfl hM (Below.refl _ _)
      ·refine⟨rfl,fun T2 w2 hM hN hO hE K hK=>?_⟩
       obtain⟨v10,h10,e10⟩:=hE ⟨10,.data⟩ (by simp) rfl _ _ rfl rfl
       rw [show v10 = .pointer (some ⟨b1,o1+i * 3+2,none⟩) from e10] at h10
       clear hE hO hN
       obtain⟨a0,a1⟩:=HC.out w2 hM
       go_simp
       exact hK _ _ rfl hM (Below.refl _ _)
      ·refine⟨rfl,fun T2 w2 hM hN hO hE K hK=>?_⟩
       obtain⟨v11,h11,e11⟩:=hE ⟨11,.data⟩ (by simp) rfl _ _ rfl rfl
       rw [show v11 = .string D0 from e11] at h11
       clear hE hO hN
       go_simp
       exact hK _ _ rfl hM (Below.refl _ _)
      ·refine⟨rfl,fun T2 w2 hM hN hO hE K hK=>?_⟩
       obtain⟨v6,h6,e6⟩:=hE ⟨6,.data⟩ (by simp) rfl _ _ rfl rfl
       rw [show v6 = .int .i64 (P0.size:Int) from e6] at h6
       obtain⟨v12,h12,e12⟩:=hE ⟨12,.data⟩ (by simp) rfl _ _ rfl rfl
       rw [show v12 = .int .i64 (D0.size:Int) from e12] at h12
       clear hE hO hN
       go_simp
       exact hK _ _ rfl hM (Below.refl _ _)
      ·refine⟨rfl,fun T2 w2 hM hN hO hE K hK=>?_⟩
       obtain⟨v13,h13,e13⟩:=hE ⟨13,.data⟩ (by simp) rfl _ _ rfl rfl
       rw [show v13 = .int .i64 ((P0.size:Int)+(D0.size:Int)) from e13] at h13
       clear hE hO hN
       go_simp
       exact hK _ _ rfl hM (Below.refl _ _)
      ·refine⟨rfl,fun T2 w2 hM hN hO hE K hK=>?_⟩
       obtain⟨v0,h0,e0⟩:=hE ⟨0,.data⟩ (by simp) rfl _ _ rfl rfl
       rw [show v0 = .int .i64 (tt:Int) from e0] at h0
       obtain⟨v14,h14,e14⟩:=hE ⟨14,.data⟩ (by simp) rfl _ _ rfl rfl
       rw [show v14 = .int .i64 (mm:Int) from e14] at h14
       clear hE hO hN
       go_simp
       exact hK _ _ rfl hM (Below.refl _ _)
     ·intro u w2 hM hF
      have e15:u 15 = .int .i64 ((tt:Int)+(mm:Int)):=hF 15 (by omega)
      clear hF
      simp only [fillAll,Nat.reduceAdd,e15,List.take_succ_cons,List.take_zero,List.drop_succ_cons,List.drop_zero,List.setIfInBounds_toArray,List.set_cons_succ,List.set_cons_zero]
      have hbf:=HBE.out.trans (hM.mono HBE.out.size)
      have HBF:=hid2 hbf
      clear hM hbf
      go_wp2_with fail
      go_roundg (gk - 1)
      case rel=>exact⟨HBF.out,i+1,by have:=HI.out;omega,by go_num,by rw [HSM.out];rfl⟩
      case measure=>have:=HI.out;omega
    ·have hil:¬ (i:Int) < kn:=by omega
     have hie:i=kn:=by omega
     have hte:te+((U.take i).map fun k=>mW k.path k.data).sum=te+knW U:=by rw [hie,HKN.out,List.take_length];rfl
     rw [hte]
     have hwl:wl=decide ((4000:Int) < ((te+knW U:Nat):Int)):=by
      rw [HWL.out,← HTE.out,decide_eq_false h1,decide_eq_false h2,decide_eq_false h3,Bool.false_or,Bool.false_or,Bool.false_or]
      exact decide_eq_decide.2 (by omega)
     obtain⟨tf,htf⟩:∃ tf,tf=te+knW U:=⟨_,rfl⟩
     rw [← htf] at hwl ⊢
     have HWF:=hid2 hwl
     have HBE:=hid2 hbe
     clear hbe hi hte htf hwl
     go_wp2_with fail
     refine bodyPost_ret (results_tmp rfl _ _ _) rfl ?_
     exact⟨by rw [HWF.out];rfl,HBE.out⟩
end Go.Proofs.YtnecjdhamohadaaGreatDoor
namespace Go.Proofs.YtnecjdhamohadaaGreatDoor
open Go.RowKit Go.Maps Go.Shelf
set_option maxRecDepth 100000
def alT:TT:=[115,99,97,110,32,97,32,105,110,99,10,115,111,114,116,10,119,114,105,116,101,32,111,117,116,47,111,10]
def alV:Env:=⟨mayB,[]⟩
def alA:KE:=⟨[97],true,[105,110,99,32,98,10,120,10,105,110,99,32,98,10]⟩
def alB:KE:=⟨[98],true,[119,10,105,110,99,32,97]⟩
def alS:PS:=PS.start (cmdsOf mayB (linesT alT))
def al1:PS:=alS.run alV 1
def al2:PS:=(al1.give (nrm alA)).run alV 2
def al3:PS:=(al2.give (nrm alB)).run alV 7
theorem al_ok:(checkT mayB alT).1=0:=by kernel_rfl
theorem al1_is:(nextV al1).kind=1∧al1.asks=[97]∧al1.waits=true:=⟨by kernel_rfl,by kernel_rfl,by kernel_rfl⟩
theorem al2_is:al2.asks=[98]∧al2.waits=true:=⟨by kernel_rfl,by kernel_rfl⟩
def al5:PS:=(al2.give (nrm alB)).run alV 5
theorem al_sort:sortT [[119],[120]]=[[119],[120]]:=by
 unfold sortT
 exact List.mergeSort_of_pairwise (by decide)
theorem al5_step:al5.step alV=PS.setLines { al5 with todo:=[.cmd ⟨[[119,114,105,116,101],[111,117,116,47,111]],[]⟩] } (sortT [[119],[120]]):=by kernel_rfl
theorem al3_eq:al3=(PS.setLines { al5 with todo:=[.cmd ⟨[[119,114,105,116,101],[111,117,116,47,111]],[]⟩] } [[119],[120]]).step alV:=by
 have h:al3=(al5.step alV).step alV:=by
  unfold al3 al5
  rw [show (7:Nat)=5+2 from rfl,PS.run_add]
  rfl
 rw [h,al5_step,al_sort]
theorem al3_is:al3.over=⟨2,[111,117,116,47,111],[119,10,120,10],0⟩∧al3.waits=false∧al3.todo=[]:=by
 rw [al3_eq]
 exact⟨by kernel_rfl,by kernel_rfl,by kernel_rfl⟩
theorem al4_is:(({ al3 with over:=DE.none }:PS).run alV 1).over=⟨3,[],[],0⟩∧(({ al3 with over:=DE.none }:PS).run alV 1).waits=false:=by
 rw [al3_eq]
 exact⟨by kernel_rfl,by kernel_rfl⟩
def alU:List KE:=[alA,alB]
theorem al_fit:EnvFit alV:=⟨rfl,by decide,fun x hx=>by cases hx⟩
theorem al_mild:Mild alV alU alT:=⟨al_fit,by decide,by decide,by decide,fun u hu=>by
 rcases List.mem_cons.1 hu with rfl | hu
 ·exact⟨by decide,by decide⟩
 ·rcases List.mem_cons.1 hu with rfl | hu
  ·exact⟨by decide,by decide⟩
  ·cases hu⟩
theorem al_data (p:TT):(ansU alU p).is=true→(ansU alU p).data.length≤1000000:=fun _=>by
 have:=al_mild.ans p
 omega
def al4:PS:=({ al3 with over:=DE.none }:PS).run alV 1
theorem al_i0:Inv alU alS:=al_mild.start al_ok
theorem al_i1:Inv alU al1:=al_i0.run 1
theorem al_i2:Inv alU (al1.give (nrm alA)):=by
 have:=al_i1.give al1_is.2.2 al_data
 rwa [al1_is.2.1,show ansU alU [97]=alA from rfl] at this
theorem al_i3:Inv alU al2:=al_i2.run 2
theorem al_i4:Inv alU (al2.give (nrm alB)):=by
 have:=al_i3.give al2_is.2 al_data
 rwa [al2_is.1,show ansU alU [98]=alB from rfl] at this
theorem al_i5:Inv alU al3:=al_i4.run 7
theorem al3_next:al3.next={ al3 with over:=DE.none }:=by
 unfold PS.next
 rw [if_neg (by rw [al3_is.2.1];simp),if_pos (by rw [al3_is.1])]
theorem al_i6:Inv alU ({ al3 with over:=DE.none }:PS):=by
 have:=al_i5.next
 rwa [al3_next] at this
theorem al_next {w:World} {L:RLay} {q:Option Nat} {s s':PS} (I:Inv alU s) (n:Nat) (hs:s.run alV n=s') (hst:s'.Still) (d:DE) (hd:nextV s'=d) (h:RunIs w L alV q s) (hw:Home w L) :
  Calls Tryz.prog 14 #[.pointer (some ⟨L.R,0,none⟩)] w fun e w'=>e = .returned (doA d)∧(∃ q,RunIs w' L alV q s'.next)∧TBut L.B w w':=by
 subst hs
 subst hd
 exact next_any w L alV al_fit q s h hw (fun k=>(I.run k).sound) n hst
theorem al_give {w:World} {L:RLay} {q:Option Nat} {s:PS} (I:Inv alU s) (hwt:s.waits=true) (k:KE) (hk:k.path=s.asks) (hks:k.path.length≤1000000000∧k.data.length≤65536) (h:RunIs w L alV q s) (hw:Home w L) :
  Calls Tryz.prog 16 #[.pointer (some ⟨L.R,0,none⟩),encK k] w fun e w'=>e = .returned (.int .i64 0)∧(∃ q,RunIs w' L alV q (s.give (nrm k)))∧TBut L.B w w':=by
 have hst:(s.run alV 0).Still:=.inr hwt
 have:=give_any w L alV al_fit q s h hw (fun k=>(I.run k).sound) 0 hst k ⟨hks.1,by omega⟩ (fun _=>(I.ord.waits hwt).2.1)
 unfold GivePost at this
 rwa [show PS.gave (s.run alV 0) k=(0,s.give (nrm k)) from by
  show PS.gave s k=_
  rw [PS.gave,if_neg (by rw [hwt];simp),if_neg (by rw [hk];simp),if_neg (by omega)]] at this
theorem al_same (d:DE) (hd:FitDo d) (w:World):(binOp .eql 35 (doA d) (doA d)).run Tryz.prog w = .ok (.bool true) w:=by rw [run_eq_do d d hd hd w,sameD_iff.2 rfl]
theorem al_other (d:DE) (hd:FitDo d) (w:World):(binOp .neq 35 (doA d) (doA d)).run Tryz.prog w = .ok (.bool false) w:=by
 rw [run_neq_do d d hd hd w,sameD_iff.2 rfl]
 rfl
set_option maxHeartbeats 8000000 in
theorem alive_any (w:World) (hl:Lib3 w):Calls Tryz.prog 9 #[] w fun e w'=>e = .returned (.bool true)∧Below w.heap.size w w':=by
 have cS:=start_ok w alV al_fit alT (by decide) hl.lib al_ok none 0 ⟨rfl,fun h=>absurd h (by decide)⟩
 have E1:Inv alU alS:=al_i0
 have N1:alS.run alV 1=al1:=rfl
 have n1:nextV al1=⟨1,[97],[],0⟩:=by rw [nextV,if_pos al1_is.2.2,al1_is.2.1]
 have x1:al1.next=al1:=by rw [PS.next,if_pos al1_is.2.2]
 have n2:nextV al2=⟨1,[98],[],0⟩:=by rw [nextV,if_pos al2_is.2,al2_is.1]
 have x2:al2.next=al2:=by rw [PS.next,if_pos al2_is.2]
 have n3:nextV al3=⟨2,[111,117,116,47,111],[119,10,120,10],0⟩:=by rw [nextV,if_neg (by rw [al3_is.2.1];simp),al3_is.1]
 have n4:nextV al4=⟨3,[],[],0⟩:=by rw [nextV,al4,if_neg (by rw [al4_is.2];simp),al4_is.1]
 have CN1:=fun (w:World) (L:RLay) (q:Option Nat) (R:Nat) (hR:R=L.R) (h:RunIs w L alV q alS) (hw:Home w L)=>show Calls Tryz.prog 14 #[.pointer (some ⟨R,0,none⟩)] w fun e w'=>e = .returned (.agg #[.int .i64 1,.string { data:=#[97] },.string { data:=#[] },.int .i64 0])∧(∃ q,RunIs w' L alV q al1)∧TBut L.B w w' from by
  have:=al_next (s':=al1) al_i0 1 rfl (.inr al1_is.2.2) _ n1 h hw
  rw [x1] at this
  rw [hR]
  exact this
 have CN2:=fun (w:World) (L:RLay) (q:Option Nat) (R:Nat) (hR:R=L.R) (h:RunIs w L alV q (al1.give (nrm alA))) (hw:Home w L)=>show Calls Tryz.prog 14 #[.pointer (some ⟨R,0,none⟩)] w fun e w'=>e = .returned (.agg #[.int .i64 1,.string { data:=#[98] },.string { data:=#[] },.int .i64 0])∧(∃ q,RunIs w' L alV q al2)∧TBut L.B w w' from by
  have:=al_next (s':=al2) al_i2 2 rfl (.inr al2_is.2) _ n2 h hw
  rw [x2] at this
  rw [hR]
  exact this
 have CN3:=fun (w:World) (L:RLay) (q:Option Nat) (R:Nat) (hR:R=L.R) (h:RunIs w L alV q (al2.give (nrm alB))) (hw:Home w L)=>show Calls Tryz.prog 14 #[.pointer (some ⟨R,0,none⟩)] w fun e w'=>e = .returned (.agg #[.int .i64 2,.string { data:=#[111,117,116,47,111] },.string { data:=#[119,10,120,10] },.int .i64 0])∧(∃ q,RunIs w' L alV q { al3 with over:=DE.none })∧TBut L.B w w' from by
  have:=al_next (s':=al3) al_i4 7 rfl (.inl (by show al3.over.kind≠0;rw [al3_is.1];decide)) _ n3 h hw
  rw [al3_next] at this
  rw [hR]
  exact this
 have CN4:=fun (w:World) (L:RLay) (q:Option Nat) (R:Nat) (hR:R=L.R) (h:RunIs w L alV q { al3 with over:=DE.none }) (hw:Home w L)=>show Calls Tryz.prog 14 #[.pointer (some ⟨R,0,none⟩)] w fun e w'=>e = .returned (.agg #[.int .i64 3,.string { data:=#[] },.string { data:=#[] },.int .i64 0])∧TBut L.B w w' from by
  have:=al_next (s':=al4) al_i6 1 rfl (.inl (by unfold al4;rw [al4_is.1];decide)) _ n4 h hw
  rw [hR]
  exact this.mono fun e w' k=>⟨k.1,k.2.2⟩
 have CG1:=fun (w:World) (L:RLay) (q:Option Nat) (R:Nat) (hR:R=L.R) (h:RunIs w L alV q al1) (hw:Home w L)=>show Calls Tryz.prog 16 #[.pointer (some ⟨R,0,none⟩),.agg #[.string { data:=#[97] },.bool true,.string { data:=#[105,110,99,32,98,10,120,10,105,110,99,32,98,10] }]] w fun e w'=>e = .returned (.int .i64 0)∧(∃ q,RunIs w' L alV q (al1.give (nrm alA)))∧TBut L.B w w' from by
  have:=al_give al_i1 al1_is.2.2 alA (by rw [al1_is.2.1];rfl) ⟨by decide,by decide⟩ h hw
  rw [hR]
  exact this
 have CG2:=fun (w:World) (L:RLay) (q:Option Nat) (R:Nat) (hR:R=L.R) (h:RunIs w L alV q al2) (hw:Home w L)=>show Calls Tryz.prog 16 #[.pointer (some ⟨R,0,none⟩),.agg #[.string { data:=#[98] },.bool true,.string { data:=#[119,10,105,110,99,32,97] }]] w fun e w'=>e = .returned (.int .i64 0)∧(∃ q,RunIs w' L alV q (al2.give (nrm alB)))∧TBut L.B w w' from by
  have:=al_give al_i3 al2_is.2 alB (by rw [al2_is.1];rfl) ⟨by decide,by decide⟩ h hw
  rw [hR]
  exact this
 have q1:=hid2 (show ∀ w2,(binOp .neq 35 (.agg #[.int .i64 1,.string { data:=#[97] },.string { data:=#[] },.int .i64 0]) (.agg #[.int .i64 1,.string { data:=#[97] },.string { data:=#[] },.int .i64 0])).run Tryz.prog w2 = .ok (.bool false) w2 from al_other ⟨1,[97],[],0⟩ ⟨by decide,by decide,by decide,by decide⟩)
 have q2:=hid2 (show ∀ w2,(binOp .neq 35 (.agg #[.int .i64 1,.string { data:=#[98] },.string { data:=#[] },.int .i64 0]) (.agg #[.int .i64 1,.string { data:=#[98] },.string { data:=#[] },.int .i64 0])).run Tryz.prog w2 = .ok (.bool false) w2 from al_other ⟨1,[98],[],0⟩ ⟨by decide,by decide,by decide,by decide⟩)
 have q3:=hid2 (show ∀ w2,(binOp .eql 35 (.agg #[.int .i64 2,.string { data:=#[111,117,116,47,111] },.string { data:=#[119,10,120,10] },.int .i64 0]) (.agg #[.int .i64 2,.string { data:=#[111,117,116,47,111] },.string { data:=#[119,10,120,10] },.int .i64 0])).run Tryz.prog w2 = .ok (.bool true) w2 from al_same ⟨2,[111,117,116,47,111],[119,10,120,10],0⟩ ⟨by decide,by decide,by decide,by decide⟩)
 have q4:=hid2 (show ∀ w2,(binOp .eql 35 (.agg #[.int .i64 3,.string { data:=#[] },.string { data:=#[] },.int .i64 0]) (.agg #[.int .i64 3,.string { data:=#[] },.string { data:=#[] },.int .i64 0])).run Tryz.prog w2 = .ok (.bool true) w2 from al_same ⟨3,[],[],0⟩ ⟨by decide,by decide,by decide,by decide⟩)
 have cS2:Calls Tryz.prog 11 #[.string { data:=#[115,99,97,110,32,97,32,105,110,99,10,115,111,114,116,10,119,114,105,116,101,32,111,117,116,47,111,10] },.slice none 0 0] w fun e w'=>∃ L:RLay,e = .returned (.tuple #[.pointer (some ⟨L.R,0,none⟩),.int .i64 0])∧L.B=w.heap.size∧RunIs w' L alV none alS∧Below w.heap.size w w':=by
  refine cS.mono fun e w' k=>?_
  rcases k with ⟨h1,_⟩ | ⟨_,L,h2,h3,h4,h5⟩
  ·exact absurd al_ok h1
  ·refine⟨L,h2,h3,h4,?_⟩
   have:=h5.below
   rwa [h3] at this
 generalize (al1.give (nrm alA))=s2 at CN1 CN2 CN3 CN4 CG1 CG2
 generalize (al2.give (nrm alB))=s4 at CN1 CN2 CN3 CN4 CG1 CG2
 generalize ({ al3 with over:=DE.none }:PS)=s5 at CN1 CN2 CN3 CN4 CG1 CG2
 clear N1 n1 n2 n3 n4 x1 x2 E1 cS
 generalize al1=s1 at CN1 CN2 CN3 CN4 CG1 CG2
 generalize al2=s3 at CN1 CN2 CN3 CN4 CG1 CG2
 generalize alS=s0 at CN1 CN2 CN3 CN4 CG1 CG2 cS2
 have CS:=hid2 cS2
 have HL:=hid2 hl
 have M1:=hid2 CN1
 have M2:=hid2 CN2
 have M3:=hid2 CN3
 have M4:=hid2 CN4
 have G1:=hid2 CG1
 have G2:=hid2 CG2
 clear CN1 CN2 CN3 CN4 CG1 CG2 cS2 hl
 go_enter Tryz.func9,Tryz.ntmps9
 go_upto_region 2 with (go_at_call 11; refine CS.out.mono ?_;rintro e w1 ⟨L,rfl,hLB,hr,hb⟩;have HB:=hid2 hb;have HR:=hid2 hr;have HLB:=hid2 hLB;clear hb hr hLB CS)
 obtain⟨R,hR⟩:∃ R,R=L.R:=⟨_,rfl⟩
 rw [← hR]
 have ER:=hid2 hR
 have HH:=hid2 (HL.out.home HLB.out HB.out)
 clear hR
 go_upto_region 4 with (first
  | (go_at_call 14; refine (M1.out _ L _ R ER.out HR.out HH.out).mono ?_;rintro e w2 ⟨rfl,⟨qm,hr⟩,hb⟩;have HR:=hid2 hr;have HH:=hid2 (HH.out.tbut hb);have HB:=hid2 (HB.out.trans (show Below w.heap.size _ _ from by have:=hb.below;rwa [HLB.out] at this));clear hb hr)
  | (go_at_call 16; refine (G1.out _ L _ R ER.out HR.out HH.out).mono ?_;rintro e w2 ⟨rfl,⟨qm,hr⟩,hb⟩;have HR:=hid2 hr;have HH:=hid2 (HH.out.tbut hb);have HB:=hid2 (HB.out.trans (show Below w.heap.size _ _ from by have:=hb.below;rwa [HLB.out] at this));clear hb hr))
 go_upto_region 6 with (first
  | (go_at_call 14; refine (M2.out _ L _ R ER.out HR.out HH.out).mono ?_;rintro e w2 ⟨rfl,⟨qm,hr⟩,hb⟩;have HR:=hid2 hr;have HH:=hid2 (HH.out.tbut hb);have HB:=hid2 (HB.out.trans (show Below w.heap.size _ _ from by have:=hb.below;rwa [HLB.out] at this));clear hb hr)
  | (go_at_call 16; refine (G2.out _ L _ R ER.out HR.out HH.out).mono ?_;rintro e w2 ⟨rfl,⟨qm,hr⟩,hb⟩;have HR:=hid2 hr;have HH:=hid2 (HH.out.tbut hb);have HB:=hid2 (HB.out.trans (show Below w.heap.size _ _ from by have:=hb.below;rwa [HLB.out] at this));clear hb hr))
 clear q1 G1 G2 M1 M2
 go_wp2_with (first
  | (go_at_call 14; refine (M3.out _ L _ R ER.out HR.out HH.out).mono ?_;rintro e w2 ⟨rfl,⟨qm,hr⟩,hb⟩;have HR:=hid2 hr;have HH:=hid2 (HH.out.tbut hb);have HB:=hid2 (HB.out.trans (show Below w.heap.size _ _ from by have:=hb.below;rwa [HLB.out] at this));clear hb hr)
  | (go_at_call 14; refine (M4.out _ L _ R ER.out HR.out HH.out).mono ?_;rintro e w2 ⟨rfl,hb⟩;have HB:=hid2 (HB.out.trans (show Below w.heap.size _ _ from by have:=hb.below;rwa [HLB.out] at this));clear hb))
 refine bodyPost_ret (results_tmp rfl _ _ _) rfl ?_
 exact⟨rfl,HB.out⟩
end Go.Proofs.YtnecjdhamohadaaGreatDoor
namespace Go.Proofs.YtnecjdhamohadaaGreatDoor
open Go.RowKit Go.Maps Go.Shelf
set_option maxRecDepth 100000
theorem mrun_end {v:Env} {O:TT→Option KE} {m:MS} (h3:m.1.over.kind=3∨m.1.over.kind=4):∀ k,mrun v O k m=m
 | 0=>rfl
 | k+1=>by
  have:mstep v O m=m:=by
   unfold mstep
   rw [if_neg (by omega),if_pos (by omega)]
  rw [mrun,this]
  exact mrun_end h3 k
theorem DoesIs.one {v:Env} {U:List KE} {text:TT} {D D':List DE} (h:DoesIs v U text D) (h':DoesIs v U text D'):D=D':=by
 rcases h with ⟨h1,rfl⟩ | ⟨h1,n,S,E,hm,ho,rfl⟩
 ·rcases h' with ⟨_,rfl⟩ | ⟨h2,_⟩
  ·rfl
  ·exact absurd h2 h1
 ·rcases h' with ⟨h2,_⟩ | ⟨_,n',S',E',hm',ho',rfl⟩
  ·exact absurd h1 h2
  ·have e1:mrun v (orc U) (n+n') (PS.start (cmdsOf mayB (linesT text)),[])=(S,E):=by
    rw [mrun_add,hm]
    exact mrun_end ho n'
   have e2:mrun v (orc U) (n+n') (PS.start (cmdsOf mayB (linesT text)),[])=(S',E'):=by
    rw [Nat.add_comm,mrun_add,hm']
    exact mrun_end ho' n
   rw [e1] at e2
   cases e2
   rfl
theorem mild_of {env:List (TT × TT)} {U:List KE} {text:TT} (ht:text.length≤1500) (hn:U.length≤120) (hk:∀ k∈U,k.path.length+k.data.length≤4000) (he:env.length≤40) (hv:∀ p∈env,p.1.length+p.2.length≤4000):Mild ⟨mayB,env⟩ U text:=by
 have hans:∀ p,(ansU U p).data.length≤4000:=fun p=>by
  rcases ansU_mem U p with h1 | h1
  ·have:=hk _ h1
   omega
  ·rw [h1];simp
 refine⟨⟨rfl,by show env.length≤_;omega,fun x hx=>by have:=hv x hx;omega⟩,by omega,?_,by omega,fun u hu=>by have:=hk u hu;omega⟩
 have:=sum_few (uW U) 8004 (fun u=>by
  have h1:=linesT_len (ansU U u.path).data
  have h2:=hans u.path
  unfold uW wL
  omega) U
 unfold allU
 omega
theorem sum_mem {α:Type} (f:α→Nat):∀ {l:List α} {x:α},x∈l→f x≤(l.map f).sum
 | y :: l,x,h=>by
  rw [List.map_cons,List.sum_cons]
  rcases List.mem_cons.1 h with rfl | h
  ·omega
  ·have:=sum_mem f h
   omega
theorem not_wide {env:List (TT × TT)} {U:List KE} {text:TT} (h:wideL env U text=false):text.length≤1500∧env.length≤40∧U.length≤60∧(∀ k∈U,k.path.length+k.data.length≤4000)∧∀ p∈env,p.1.length+p.2.length≤4000:=by
 unfold wideL at h
 simp only [Bool.or_eq_false_iff,decide_eq_false_iff_not] at h
 obtain⟨⟨⟨h1,h2⟩,h3⟩,h4⟩:=h
 refine⟨by omega,by omega,by omega,fun k hk=>?_,fun p hp=>?_⟩
 ·have:=sum_mem (fun k:KE=>mW k.path k.data) hk
  have h5:(List.map (fun k:KE=>mW k.path k.data) U).sum=knW U:=rfl
  rw [h5] at this
  unfold mW at this
  omega
 ·have:=sum_mem (fun p:TT × TT=>mW p.1 p.2) hp
  have h5:(List.map (fun p:TT × TT=>mW p.1 p.2) env).sum=envW env:=rfl
  rw [h5] at this
  unfold mW at this
  omega
end Go.Proofs.YtnecjdhamohadaaGreatDoor
