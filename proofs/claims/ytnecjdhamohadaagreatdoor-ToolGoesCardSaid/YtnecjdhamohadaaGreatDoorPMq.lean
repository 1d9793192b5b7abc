/- A tool's run is given an answer. -/
import Derived.Test.YtnecjdhamohadaaGreatDoorPMp
import Derived.Test.YtnecjdhamohadaaGreatDoorPMi
import Derived.Test.YtnecjdhamohadaaGreatDoorPMh
set_option linter.unusedSimpArgs false
set_option linter.unusedVariables false
namespace Go.Proofs.YtnecjdhamohadaaGreatDoor
open Go.RowKit Go.Maps Go.Shelf
set_option maxRecDepth 100000
def PS.gave (s:PS) (k:KE):Nat × PS :=
 if s.waits=false then (19,s) else if k.path≠s.asks then (1,s) else if k.is=true∧65536 < k.data.length then (6,s) else (0,s.give (nrm k))
theorem insM_length {α:Type} (x:List UInt8 × α):∀ M:Tab α,(insM x M).length=M.length+1
 | []=>rfl
 | y :: r=>by
  unfold insM
  split
  ·rfl
  ·rw [List.length_cons,insM_length x r]
   rfl
theorem putM_new {α:Type} {M:Tab α} {p:List UInt8} (h:getM M p=none) (a:α):(putM M p a).length=M.length+1:=by
 have hd:delM M p=M:=by
  unfold delM
  rw [List.filter_eq_self]
  intro y hy
  unfold getM at h
  rw [Option.map_eq_none_iff,List.find?_eq_none] at h
  simpa using h y hy
 rw [putM,insM_length,hd]
theorem RunAt.give {w w':World} {L:RLay} {v:Env} {q:Option Nat} {s:PS} {A:Option Addr} {c:Nat} {us:List Value} (h:RunAt w L v q s A c us) (k:KE) {M:Tab KE} {p:TT} (hno:getK s.known p=none)
  (hM:MapIs w Tryz.prog 9 encK L.m s.known.length M) (hMl:M.length=s.known.length) (hMk:∀ x,(getM M x).map nrm=getK s.known x) (ht:Turn L.m w w') (hM':MapIs w' Tryz.prog 9 encK L.m (s.known.length+1) (putM M p k)) :
  RunAt w' L v q { s with known:=s.known++[(p,nrm k)] } A c us∧TBut L.B w w':=by
 have hc:∀ (k:Nat) (cs:Array Value) (t:TypeId) (fr:Nat × Nat),w.heap[k]?=some (.cells cs t fr)→w'.heap[k]?=w.heap[k]?:=fun k cs t fr hk=>ht.2.2.2.2 k fun e=>hM.isMap (by rw [← e];exact hk)
 have hmB:=h.known.1
 have hb:TBut L.B w w':=⟨ht.1,ht.2.1,ht.2.2.1,Nat.le_of_eq ht.2.2.2.1.symm,fun k hk=>ht.2.2.2.2 k (by omega),fun k cs t fr hk _ _=>hc k cs t fr hk⟩
 refine⟨⟨(hc _ _ _ _ h.run).trans h.run,h.base,h.row.keep fun b hb _ _=>?_,fun i t hi=>?_,h.env.tbut hb (by decide) (by decide),⟨hmB,putM M p k,?_,?_,fun x=>?_⟩,?_⟩,hb⟩
 ·obtain⟨_,_,cur,fr,hx⟩:=h.row.block b hb
  exact hc _ _ _ _ hx
 ·obtain⟨u,h1,h2⟩:=h.tasks i t hi
  exact⟨u,h1,h2.keep hb⟩
 ·rw [List.length_append]
  exact hM'
 ·have hn:getM M p=none:=by
   have:=hMk p
   rw [hno] at this
   exact Option.map_eq_none_iff.1 this
  rw [putM_new hn,List.length_append,hMl]
  rfl
 ·rw [getK_snoc hno]
  by_cases hx:x=p
  ·subst hx
   rw [getM_put_same,if_pos rfl]
   rfl
  ·rw [getM_put_ne M k hx,if_neg hx]
   exact hMk x
 ·rcases h.seen with h1 | ⟨g,M2,h1,h2,h3,h4,h5⟩
  ·exact .inl h1
  ·exact .inr ⟨g,M2,h1,h2,h3,h4.keep (ht.2.2.2.2 _ h3),h5⟩
def GivePost (w:World) (L:RLay) (v:Env) (s:PS) (k:KE) (e:Ending) (w':World):Prop:=e = .returned (.int .i64 (s.gave k).1)∧(∃ q,RunIs w' L v q (s.gave k).2)∧TBut L.B w w'
set_option maxHeartbeats 8000000 in
theorem give_idle (w:World) (L:RLay) (v:Env) (hv:EnvFit v) (q:Option Nat) (s:PS) (h:RunIs w L v q s) (hw:Home w L) (hP:∀ k,Sound (s.run v k)) (n:Nat) (hn:(s.run v n).Still) (k:KE) (hks:k.path.length≤1000000000∧k.data.length≤1000000000) (hwt:(s.run v n).waits=false) :
  Calls Tryz.prog 16 #[ptrV L.R,encK k] w (GivePost w L v (s.run v n) k):=by
 have hB:=h.size
 obtain⟨R,hR⟩:∃ R,R=L.R:=⟨_,rfl⟩
 obtain⟨Pq,hPq⟩:∃ Pq:Ending→World→Prop,Pq=GivePost w L v (s.run v n) k:=⟨_,rfl⟩
 obtain⟨KP,hKP⟩:∃ x,x=strB k.path:=⟨_,rfl⟩
 obtain⟨KD,hKD⟩:∃ x,x=strB k.data:=⟨_,rfl⟩
 obtain⟨kb,hkb⟩:∃ x,x=k.is:=⟨_,rfl⟩
 have hKDs:KD.size=k.data.length:=by rw [hKD,strB_size]
 have htp:KP.toList=k.path:=by rw [hKP];exact toList_strBT _
 have henc:encK k = .agg #[.string KP,.bool kb,.string KD]:=by rw [hKP,hKD,hkb];rfl
 have HENC:=hid2 henc
 obtain⟨w1,hw1⟩:∃ w1,w1=w.alloc (.cells #[.string KP,.bool kb,.string KD] 41):=⟨_,rfl⟩
 have hb1:Below w.heap.size w w1:=by rw [hw1];exact (Below.refl _ _).alloc (Nat.le_refl _) _
 have hg1:CellB w1 w.heap.size #[.string KP,.bool kb,.string KD] 41:=by rw [hw1];exact World.alloc_heap_new w _
 have hS:=settle_any w1 L v hv q s (h.below hb1) (hw.tbut (TBut.of_below hb1 hB)) hP n hn
 have hSd:=hP n
 obtain⟨S,hSS⟩:∃ S,S=s.run v n:=⟨_,rfl⟩
 rw [henc,ptrV,← hR,← hPq]
 rw [ptrV,← hR,← hSS] at hS
 rw [← hSS] at hSd
 have hPq2:Pq=GivePost w L v S k:=by rw [hPq,hSS]
 rw [← hSS] at hwt
 have hgv:S.gave k=(19,S):=by rw [PS.gave,if_pos hwt]
 have HGV:=hid2 hgv
 have HWT:=hid2 hwt
 have HPQ:=hid2 hPq2
 have HR:=hid2 hR
 have HS:=hid2 hS
 have HB1:=hid2 hb1
 have HG1:=hid2 hg1
 have HB:=hid2 hB
 have HW1:=hid2 hw1
 have HSD:=hid2 hSd
 obtain⟨wg,hwg⟩:∃ wg,wg=w.heap.size:=⟨_,rfl⟩
 have HWG:=hid2 hwg
 clear hPq hPq2 hR hS hg1 hb1 hB h hw hP hn hv hSS hw1 hSd hwg henc hKP htp hKD hks hgv hwt hKDs hkb
 go_enter Tryz.func16,Tryz.ntmps16
 go_upto_region 4 with (go_at_call 35; rw [← HW1.out];refine HS.out.mono ?_;rintro e wa ⟨rfl,⟨q2,hr2⟩,hb2⟩;have HR2:=hid2 hr2;have HB2:=hid2 hb2;clear hr2 hb2)
 obtain⟨A,c,us,hra⟩:=HR2.out
 have hrow:=hra.run
 rw [← HR.out] at hrow
 have c5:wa.cell? ⟨R,5,none⟩=some (.bool S.waits):=hrow.cell 5
 have hbw:=(TBut.of_below HB1.out HB.out).trans HB2.out
 have hgk:=HG1.out.keep HB2.out (by decide) (by decide)
 have HA:=hid2 hra
 have HBW:=hid2 hbw
 have HGK:=hid2 hgk
 have HROW:=hid2 hrow
 clear hra hrow hbw hgk
 rw [HWT.out] at c5
 go_wp2_with fail
 change Pq (.returned (.int .i64 19)) _
 rw [HPQ.out]
 refine⟨?_,⟨q2,A,c,us,?_⟩,HBW.out⟩
 ·rw [HGV.out]
  rfl
 ·rw [HGV.out]
  exact HA.out
set_option maxHeartbeats 8000000 in
theorem give_other (w:World) (L:RLay) (v:Env) (hv:EnvFit v) (q:Option Nat) (s:PS) (h:RunIs w L v q s) (hw:Home w L) (hP:∀ k,Sound (s.run v k)) (n:Nat) (hn:(s.run v n).Still) (k:KE) (hks:k.path.length≤1000000000∧k.data.length≤1000000000) (hwt:(s.run v n).waits=true) (hne:k.path≠(s.run v n).asks) :
  Calls Tryz.prog 16 #[ptrV L.R,encK k] w (GivePost w L v (s.run v n) k):=by
 have hB:=h.size
 obtain⟨R,hR⟩:∃ R,R=L.R:=⟨_,rfl⟩
 obtain⟨Pq,hPq⟩:∃ Pq:Ending→World→Prop,Pq=GivePost w L v (s.run v n) k:=⟨_,rfl⟩
 obtain⟨KP,hKP⟩:∃ x,x=strB k.path:=⟨_,rfl⟩
 obtain⟨KD,hKD⟩:∃ x,x=strB k.data:=⟨_,rfl⟩
 obtain⟨kb,hkb⟩:∃ x,x=k.is:=⟨_,rfl⟩
 have hKDs:KD.size=k.data.length:=by rw [hKD,strB_size]
 have htp:KP.toList=k.path:=by rw [hKP];exact toList_strBT _
 have henc:encK k = .agg #[.string KP,.bool kb,.string KD]:=by rw [hKP,hKD,hkb];rfl
 have HENC:=hid2 henc
 obtain⟨w1,hw1⟩:∃ w1,w1=w.alloc (.cells #[.string KP,.bool kb,.string KD] 41):=⟨_,rfl⟩
 have hb1:Below w.heap.size w w1:=by rw [hw1];exact (Below.refl _ _).alloc (Nat.le_refl _) _
 have hg1:CellB w1 w.heap.size #[.string KP,.bool kb,.string KD] 41:=by rw [hw1];exact World.alloc_heap_new w _
 have hS:=settle_any w1 L v hv q s (h.below hb1) (hw.tbut (TBut.of_below hb1 hB)) hP n hn
 have hSd:=hP n
 obtain⟨S,hSS⟩:∃ S,S=s.run v n:=⟨_,rfl⟩
 rw [henc,ptrV,← hR,← hPq]
 rw [ptrV,← hR,← hSS] at hS
 rw [← hSS] at hSd
 have hPq2:Pq=GivePost w L v S k:=by rw [hPq,hSS]
 rw [← hSS] at hwt hne
 obtain⟨AS,hAS⟩:∃ x,x=strB S.asks:=⟨_,rfl⟩
 have hta:AS.toList=S.asks:=by rw [hAS];exact toList_strBT _
 have HAS:=hid2 hAS
 have hgv:S.gave k=(1,S):=by rw [PS.gave,if_neg (by rw [hwt];simp),if_pos hne]
 have hneq:(KP.toList == AS.toList)=false:=by rw [htp,hta,beq_eq_false_iff_ne];exact hne
 have hneq2:¬ KP.toList=AS.toList:=by rw [htp,hta];exact hne
 have HGV:=hid2 hgv
 have HWT:=hid2 hwt
 have HPQ:=hid2 hPq2
 have HR:=hid2 hR
 have HS:=hid2 hS
 have HB1:=hid2 hb1
 have HG1:=hid2 hg1
 have HB:=hid2 hB
 have HW1:=hid2 hw1
 have HSD:=hid2 hSd
 obtain⟨wg,hwg⟩:∃ wg,wg=w.heap.size:=⟨_,rfl⟩
 have HWG:=hid2 hwg
 clear hPq hPq2 hR hS hg1 hb1 hB h hw hP hn hv hSS hw1 hSd hwg henc hKP htp hKD hks hgv hwt hKDs hkb hne hta hAS
 go_enter Tryz.func16,Tryz.ntmps16
 go_upto_region 4 with (go_at_call 35; rw [← HW1.out];refine HS.out.mono ?_;rintro e wa ⟨rfl,⟨q2,hr2⟩,hb2⟩;have HR2:=hid2 hr2;have HB2:=hid2 hb2;clear hr2 hb2)
 obtain⟨A,c,us,hra⟩:=HR2.out
 have hrow:=hra.run
 rw [← HR.out] at hrow
 have c5:wa.cell? ⟨R,5,none⟩=some (.bool S.waits):=hrow.cell 5
 have hbw:=(TBut.of_below HB1.out HB.out).trans HB2.out
 have hgk:=HG1.out.keep HB2.out (by decide) (by decide)
 have HA:=hid2 hra
 have HBW:=hid2 hbw
 have HGK:=hid2 hgk
 have HROW:=hid2 hrow
 clear hra hrow hbw hgk
 rw [HWT.out] at c5
 have HSZ:=hid2 (show L.B≤wa.heap.size from HA.out.size)
 clear c5
 have c5:wa.cell? ⟨R,5,none⟩=some (.bool true):=by have:=HROW.out.cell 5;rw [← HWT.out];exact this
 go_upto_region 6 with fail
 refine wp_region_rel 8 (by kernel_rfl) (by kernel_rfl) (by kernel_rfl) _ rfl (by kernel_rfl) (VV [some (.pointer (some ⟨w.heap.size,0,none⟩)),some (.string KP),some (.pointer (some ⟨R,0,none⟩)),some (.pointer (some ⟨R,0,none⟩)),some (.pointer (some ⟨R,4,none⟩)),some (.string AS),some (.bool true),some (.bool true)] (fun _ _ _=>False)) (fun w2=>Below wa.heap.size wa w2) (fun a b=>Below a.heap.size a b) ((Below.refl _ wa).drew) (fun j v w1 w2 hb hv=>VV.keep (fun h=>h.elim) hv) ?_ ?_
 ·refine of_allOps ⟨?_,?_,?_,?_,?_,?_,?_,?_,trivial⟩
  ·refine⟨rfl,fun T2 w2 hM hN hO hE K hK=>?_⟩
   have o3:T2[3]?=some (.pointer (some ⟨w.heap.size,0,none⟩)):=hO 3 rfl
   clear hE hO hN
   go_simp
   exact hK _ _ rfl hM (Below.refl _ _)
  ·refine⟨rfl,fun T2 w2 hM hN hO hE K hK=>?_⟩
   obtain⟨v0,h0,e0⟩:=hE ⟨0,.data⟩ (by simp) rfl _ _ rfl rfl
   rw [show v0 = .pointer (some ⟨w.heap.size,0,none⟩) from e0] at h0
   clear hE hO hN
   have hc2:w2.cell? ⟨w.heap.size,0,none⟩=some (.string KP):=(HGK.out.below hM).cell 0
   go_simp
   exact hK _ _ rfl hM (Below.refl _ _)
  ·refine⟨rfl,fun T2 w2 hM hN hO hE K hK=>?_⟩
   have o0:T2[0]?=some (.pointer (some ⟨R,0,none⟩)):=hO 0 rfl
   clear hE hO hN
   go_simp
   exact hK _ _ rfl hM (Below.refl _ _)
  ·refine⟨rfl,fun T2 w2 hM hN hO hE K hK=>?_⟩
   obtain⟨v2,h2,e2⟩:=hE ⟨2,.data⟩ (by simp) rfl _ _ rfl rfl
   rw [show v2 = .pointer (some ⟨R,0,none⟩) from e2] at h2
   clear hE hO hN
   go_simp
   exact hK _ _ rfl hM (Below.refl _ _)
  ·refine⟨rfl,fun T2 w2 hM hN hO hE K hK=>?_⟩
   obtain⟨v3,h3,e3⟩:=hE ⟨3,.data⟩ (by simp) rfl _ _ rfl rfl
   rw [show v3 = .pointer (some ⟨R,0,none⟩) from e3] at h3
   clear hE hO hN
   go_simp
   exact hK _ _ rfl hM (Below.refl _ _)
  ·refine⟨rfl,fun T2 w2 hM hN hO hE K hK=>?_⟩
   obtain⟨v4,h4,e4⟩:=hE ⟨4,.data⟩ (by simp) rfl _ _ rfl rfl
   rw [show v4 = .pointer (some ⟨R,4,none⟩) from e4] at h4
   clear hE hO hN
   have hc2:w2.cell? ⟨R,4,none⟩=some (.string AS):=by rw [HAS.out];exact (HROW.out.below hM).cell 4
   go_simp
   exact hK _ _ rfl hM (Below.refl _ _)
  ·refine⟨rfl,fun T2 w2 hM hN hO hE K hK=>?_⟩
   obtain⟨v1,h1,e1⟩:=hE ⟨1,.data⟩ (by simp) rfl _ _ rfl rfl
   rw [show v1 = .string KP from e1] at h1
   obtain⟨v5,h5,e5⟩:=hE ⟨5,.data⟩ (by simp) rfl _ _ rfl rfl
   rw [show v5 = .string AS from e5] at h5
   clear hE hO hN
   go_simp
   exact hK _ _ rfl hM (Below.refl _ _)
  ·refine⟨rfl,fun T2 w2 hM hN hO hE K hK=>?_⟩
   obtain⟨v6,h6,e6⟩:=hE ⟨6,.data⟩ (by simp) rfl _ _ rfl rfl
   rw [show v6 = .bool true from e6] at h6
   clear hE hO hN
   go_simp
   exact hK _ _ rfl hM (Below.refl _ _)
 ·intro u w2 hM hF
  have e7:u 7 = .bool true:=hF 7 (by omega)
  clear hF
  simp only [fillAll,Nat.reduceAdd,e7,List.take_succ_cons,List.take_zero,List.drop_succ_cons,List.drop_zero,List.setIfInBounds_toArray,List.set_cons_succ,List.set_cons_zero]
  have HM3:=hid2 hM
  clear hM
  go_wp2_with fail
  change Pq (.returned (.int .i64 1)) _
  rw [HPQ.out]
  refine⟨?_,⟨q2,A,c,us,?_⟩,HBW.out.trans (TBut.of_below HM3.out HSZ.out)⟩
  ·rw [HGV.out]
   rfl
  ·rw [HGV.out]
   exact HA.out.below HM3.out
set_option maxHeartbeats 8000000 in
theorem give_long (w:World) (L:RLay) (v:Env) (hv:EnvFit v) (q:Option Nat) (s:PS) (h:RunIs w L v q s) (hw:Home w L) (hP:∀ k,Sound (s.run v k)) (n:Nat) (hn:(s.run v n).Still) (k:KE) (hks:k.path.length≤1000000000∧k.data.length≤1000000000) (hwt:(s.run v n).waits=true) (heq:k.path=(s.run v n).asks) (hi:k.is=true) (hl:65536 < k.data.length) :
  Calls Tryz.prog 16 #[ptrV L.R,encK k] w (GivePost w L v (s.run v n) k):=by
 have hB:=h.size
 obtain⟨R,hR⟩:∃ R,R=L.R:=⟨_,rfl⟩
 obtain⟨Pq,hPq⟩:∃ Pq:Ending→World→Prop,Pq=GivePost w L v (s.run v n) k:=⟨_,rfl⟩
 obtain⟨KP,hKP⟩:∃ x,x=strB k.path:=⟨_,rfl⟩
 obtain⟨KD,hKD⟩:∃ x,x=strB k.data:=⟨_,rfl⟩
 obtain⟨kb,hkb⟩:∃ x,x=k.is:=⟨_,rfl⟩
 have hKDs:KD.size=k.data.length:=by rw [hKD,strB_size]
 have htp:KP.toList=k.path:=by rw [hKP];exact toList_strBT _
 have henc:encK k = .agg #[.string KP,.bool kb,.string KD]:=by rw [hKP,hKD,hkb];rfl
 have HENC:=hid2 henc
 obtain⟨w1,hw1⟩:∃ w1,w1=w.alloc (.cells #[.string KP,.bool kb,.string KD] 41):=⟨_,rfl⟩
 have hb1:Below w.heap.size w w1:=by rw [hw1];exact (Below.refl _ _).alloc (Nat.le_refl _) _
 have hg1:CellB w1 w.heap.size #[.string KP,.bool kb,.string KD] 41:=by rw [hw1];exact World.alloc_heap_new w _
 have hS:=settle_any w1 L v hv q s (h.below hb1) (hw.tbut (TBut.of_below hb1 hB)) hP n hn
 have hSd:=hP n
 obtain⟨S,hSS⟩:∃ S,S=s.run v n:=⟨_,rfl⟩
 rw [henc,ptrV,← hR,← hPq]
 rw [ptrV,← hR,← hSS] at hS
 rw [← hSS] at hSd
 have hPq2:Pq=GivePost w L v S k:=by rw [hPq,hSS]
 rw [← hSS] at hwt heq
 obtain⟨AS,hAS⟩:∃ x,x=strB S.asks:=⟨_,rfl⟩
 have hta:AS.toList=S.asks:=by rw [hAS];exact toList_strBT _
 have HAS:=hid2 hAS
 have hgv:S.gave k=(6,S):=by rw [PS.gave,if_neg (by rw [hwt];simp),if_neg (by simpa using heq),if_pos ⟨hi,hl⟩]
 have heq1:(KP.toList == AS.toList)=true:=by rw [htp,hta,heq,beq_self_eq_true]
 have heq2:KP.toList=AS.toList:=by rw [htp,hta,heq]
 have hlong:(65536:Int) < KD.size:=by omega
 rw [hi] at hkb
 subst hkb
 have HGV:=hid2 hgv
 have HWT:=hid2 hwt
 have HPQ:=hid2 hPq2
 have HR:=hid2 hR
 have HS:=hid2 hS
 have HB1:=hid2 hb1
 have HG1:=hid2 hg1
 have HB:=hid2 hB
 have HW1:=hid2 hw1
 have HSD:=hid2 hSd
 obtain⟨wg,hwg⟩:∃ wg,wg=w.heap.size:=⟨_,rfl⟩
 have HWG:=hid2 hwg
 clear hPq hPq2 hR hS hg1 hb1 hB h hw hP hn hv hSS hw1 hSd hwg henc hKP htp hKD hks hgv hwt hKDs heq hta hAS hi hl
 go_enter Tryz.func16,Tryz.ntmps16
 go_upto_region 4 with (go_at_call 35; rw [← HW1.out];refine HS.out.mono ?_;rintro e wa ⟨rfl,⟨q2,hr2⟩,hb2⟩;have HR2:=hid2 hr2;have HB2:=hid2 hb2;clear hr2 hb2)
 obtain⟨A,c,us,hra⟩:=HR2.out
 have hrow:=hra.run
 rw [← HR.out] at hrow
 have c5:wa.cell? ⟨R,5,none⟩=some (.bool S.waits):=hrow.cell 5
 have hbw:=(TBut.of_below HB1.out HB.out).trans HB2.out
 have hgk:=HG1.out.keep HB2.out (by decide) (by decide)
 have HA:=hid2 hra
 have HBW:=hid2 hbw
 have HGK:=hid2 hgk
 have HROW:=hid2 hrow
 clear hra hrow hbw hgk
 have HSZ:=hid2 (show L.B≤wa.heap.size from HA.out.size)
 clear c5
 have c5:wa.cell? ⟨R,5,none⟩=some (.bool true):=by have:=HROW.out.cell 5;rw [← HWT.out];exact this
 go_upto_region 6 with fail
 refine wp_region_rel 8 (by kernel_rfl) (by kernel_rfl) (by kernel_rfl) _ rfl (by kernel_rfl) (VV [some (.pointer (some ⟨w.heap.size,0,none⟩)),some (.string KP),some (.pointer (some ⟨R,0,none⟩)),some (.pointer (some ⟨R,0,none⟩)),some (.pointer (some ⟨R,4,none⟩)),some (.string AS),some (.bool false),some (.bool false)] (fun _ _ _=>False)) (fun w2=>Below wa.heap.size wa w2) (fun a b=>Below a.heap.size a b) ((Below.refl _ wa).drew) (fun j v w1 w2 hb hv=>VV.keep (fun h=>h.elim) hv) ?_ ?_
 ·refine of_allOps ⟨?_,?_,?_,?_,?_,?_,?_,?_,trivial⟩
  ·refine⟨rfl,fun T2 w2 hM hN hO hE K hK=>?_⟩
   have o3:T2[3]?=some (.pointer (some ⟨w.heap.size,0,none⟩)):=hO 3 rfl
   clear hE hO hN
   go_simp
   exact hK _ _ rfl hM (Below.refl _ _)
  ·refine⟨rfl,fun T2 w2 hM hN hO hE K hK=>?_⟩
   obtain⟨v0,h0,e0⟩:=hE ⟨0,.data⟩ (by simp) rfl _ _ rfl rfl
   rw [show v0 = .pointer (some ⟨w.heap.size,0,none⟩) from e0] at h0
   clear hE hO hN
   have hc2:w2.cell? ⟨w.heap.size,0,none⟩=some (.string KP):=(HGK.out.below hM).cell 0
   go_simp
   exact hK _ _ rfl hM (Below.refl _ _)
  ·refine⟨rfl,fun T2 w2 hM hN hO hE K hK=>?_⟩
   have o0:T2[0]?=some (.pointer (some ⟨R,0,none⟩)):=hO 0 rfl
   clear hE hO hN
   go_simp
   exact hK _ _ rfl hM (Below.refl _ _)
  ·refine⟨rfl,fun T2 w2 hM hN hO hE K hK=>?_⟩
   obtain⟨v2,h2,e2⟩:=hE ⟨2,.data⟩ (by simp) rfl _ _ rfl rfl
   rw [show v2 = .pointer (some ⟨R,0,none⟩) from e2] at h2
   clear hE hO hN
   go_simp
   exact hK _ _ rfl hM (Below.refl _ _)
  ·refine⟨rfl,fun T2 w2 hM hN hO hE K hK=>?_⟩
   obtain⟨v3,h3,e3⟩:=hE ⟨3,.data⟩ (by simp) rfl _ _ rfl rfl
   rw [show v3 = .pointer (some ⟨R,0,none⟩) from e3] at h3
   clear hE hO hN
   go_simp
   exact hK _ _ rfl hM (Below.refl _ _)
  ·refine⟨rfl,fun T2 w2 hM hN hO hE K hK=>?_⟩
   obtain⟨v4,h4,e4⟩:=hE ⟨4,.data⟩ (by simp) rfl _ _ rfl rfl
   rw [show v4 = .pointer (some ⟨R,4,none⟩) from e4] at h4
   clear hE hO hN
   have hc2:w2.cell? ⟨R,4,none⟩=some (.string AS):=by rw [HAS.out];exact (HROW.out.below hM).cell 4
   go_simp
   exact hK _ _ rfl hM (Below.refl _ _)
  ·refine⟨rfl,fun T2 w2 hM hN hO hE K hK=>?_⟩
   obtain⟨v1,h1,e1⟩:=hE ⟨1,.data⟩ (by simp) rfl _ _ rfl rfl
   rw [show v1 = .string KP from e1] at h1
   obtain⟨v5,h5,e5⟩:=hE ⟨5,.data⟩ (by simp) rfl _ _ rfl rfl
   rw [show v5 = .string AS from e5] at h5
   clear hE hO hN
   go_simp
   exact hK _ _ rfl hM (Below.refl _ _)
  ·refine⟨rfl,fun T2 w2 hM hN hO hE K hK=>?_⟩
   obtain⟨v6,h6,e6⟩:=hE ⟨6,.data⟩ (by simp) rfl _ _ rfl rfl
   rw [show v6 = .bool false from e6] at h6
   clear hE hO hN
   go_simp
   exact hK _ _ rfl hM (Below.refl _ _)
 ·intro u w2 hM hF
  have e7:u 7 = .bool false:=hF 7 (by omega)
  clear hF
  simp only [fillAll,Nat.reduceAdd,e7,List.take_succ_cons,List.take_zero,List.drop_succ_cons,List.drop_zero,List.setIfInBounds_toArray,List.set_cons_succ,List.set_cons_zero]
  have HM3:=hid2 hM
  have d1:w2.cell? ⟨w.heap.size,1,none⟩=some (.bool true):=(HGK.out.below hM).cell 1
  have d2:w2.cell? ⟨w.heap.size,2,none⟩=some (.string KD):=(HGK.out.below hM).cell 2
  clear hM
  go_wp2_with fail
  change Pq (.returned (.int .i64 6)) _
  rw [HPQ.out]
  refine⟨?_,⟨q2,A,c,us,?_⟩,HBW.out.trans (TBut.of_below HM3.out HSZ.out)⟩
  ·rw [HGV.out]
   rfl
  ·rw [HGV.out]
   exact HA.out.below HM3.out
set_option maxHeartbeats 8000000 in
theorem give_yes_true (w:World) (L:RLay) (v:Env) (hv:EnvFit v) (q:Option Nat) (s:PS) (h:RunIs w L v q s) (hw:Home w L) (hP:∀ k,Sound (s.run v k)) (n:Nat) (hn:(s.run v n).Still) (k:KE) (hks:k.path.length≤1000000000∧k.data.length≤1000000000) (hwt:(s.run v n).waits=true) (heq:k.path=(s.run v n).asks) (hi:k.is=true) (hl:k.data.length≤65536) (hno:getK (s.run v n).known (s.run v n).asks=none) :
  Calls Tryz.prog 16 #[ptrV L.R,encK k] w (GivePost w L v (s.run v n) k):=by
 have hB:=h.size
 obtain⟨R,hR⟩:∃ R,R=L.R:=⟨_,rfl⟩
 obtain⟨Pq,hPq⟩:∃ Pq:Ending→World→Prop,Pq=GivePost w L v (s.run v n) k:=⟨_,rfl⟩
 obtain⟨KP,hKP⟩:∃ x,x=strB k.path:=⟨_,rfl⟩
 obtain⟨KD,hKD⟩:∃ x,x=strB k.data:=⟨_,rfl⟩
 obtain⟨kb,hkb⟩:∃ x,x=k.is:=⟨_,rfl⟩
 have hKDs:KD.size=k.data.length:=by rw [hKD,strB_size]
 have htp:KP.toList=k.path:=by rw [hKP];exact toList_strBT _
 have henc:encK k = .agg #[.string KP,.bool kb,.string KD]:=by rw [hKP,hKD,hkb];rfl
 have HENC:=hid2 henc
 obtain⟨w1,hw1⟩:∃ w1,w1=w.alloc (.cells #[.string KP,.bool kb,.string KD] 41):=⟨_,rfl⟩
 have hb1:Below w.heap.size w w1:=by rw [hw1];exact (Below.refl _ _).alloc (Nat.le_refl _) _
 have hg1:CellB w1 w.heap.size #[.string KP,.bool kb,.string KD] 41:=by rw [hw1];exact World.alloc_heap_new w _
 have hS:=settle_any w1 L v hv q s (h.below hb1) (hw.tbut (TBut.of_below hb1 hB)) hP n hn
 have hSd:=hP n
 obtain⟨S,hSS⟩:∃ S,S=s.run v n:=⟨_,rfl⟩
 rw [henc,ptrV,← hR,← hPq]
 rw [ptrV,← hR,← hSS] at hS
 rw [← hSS] at hSd
 have hPq2:Pq=GivePost w L v S k:=by rw [hPq,hSS]
 rw [← hSS] at hwt heq hno
 obtain⟨AS,hAS⟩:∃ x,x=strB S.asks:=⟨_,rfl⟩
 have hta:AS.toList=S.asks:=by rw [hAS];exact toList_strBT _
 have HAS:=hid2 hAS
 have hgv:S.gave k=(0,S.give (nrm k)):=by rw [PS.gave,if_neg (by rw [hwt];simp),if_neg (by simpa using heq),if_neg (by rw [hi];omega)]
 have heq1:(KP.toList == AS.toList)=true:=by rw [htp,hta,heq,beq_self_eq_true]
 have heq2:KP.toList=AS.toList:=by rw [htp,hta,heq]
 have hlong:¬ (65536:Int) < KD.size:=by omega
 rw [hi] at hkb
 subst hkb
 have HGV:=hid2 hgv
 have HWT:=hid2 hwt
 have HNO:=hid2 hno
 have hAl:AS.size≤1000000000:=by rw [hAS,strB_size,← heq];exact hks.1
 have HPQ:=hid2 hPq2
 have HR:=hid2 hR
 have HS:=hid2 hS
 have HB1:=hid2 hb1
 have HG1:=hid2 hg1
 have HB:=hid2 hB
 have HW1:=hid2 hw1
 have HSD:=hid2 hSd
 obtain⟨wg,hwg⟩:∃ wg,wg=w.heap.size:=⟨_,rfl⟩
 have HWG:=hid2 hwg
 clear hPq hPq2 hR hS hg1 hb1 hB h hw hP hn hv hSS hw1 hSd hwg henc hKP htp hKD hks hgv hwt hKDs heq hta hAS hi hno hl
 go_enter Tryz.func16,Tryz.ntmps16
 go_upto_region 4 with (go_at_call 35; rw [← HW1.out];refine HS.out.mono ?_;rintro e wa ⟨rfl,⟨q2,hr2⟩,hb2⟩;have HR2:=hid2 hr2;have HB2:=hid2 hb2;clear hr2 hb2)
 obtain⟨A,c,us,hra⟩:=HR2.out
 have hrow:=hra.run
 rw [← HR.out] at hrow
 have c5:wa.cell? ⟨R,5,none⟩=some (.bool S.waits):=hrow.cell 5
 have hbw:=(TBut.of_below HB1.out HB.out).trans HB2.out
 have hgk:=HG1.out.keep HB2.out (by decide) (by decide)
 have HA:=hid2 hra
 have HBW:=hid2 hbw
 have HGK:=hid2 hgk
 have HROW:=hid2 hrow
 clear hra hrow hbw hgk
 have HSZ:=hid2 (show L.B≤wa.heap.size from HA.out.size)
 clear c5
 have c5:wa.cell? ⟨R,5,none⟩=some (.bool true):=by have:=HROW.out.cell 5;rw [← HWT.out];exact this
 go_upto_region 6 with fail
 refine wp_region_rel 8 (by kernel_rfl) (by kernel_rfl) (by kernel_rfl) _ rfl (by kernel_rfl) (VV [some (.pointer (some ⟨w.heap.size,0,none⟩)),some (.string KP),some (.pointer (some ⟨R,0,none⟩)),some (.pointer (some ⟨R,0,none⟩)),some (.pointer (some ⟨R,4,none⟩)),some (.string AS),some (.bool false),some (.bool false)] (fun _ _ _=>False)) (fun w2=>Below wa.heap.size wa w2) (fun a b=>Below a.heap.size a b) ((Below.refl _ wa).drew) (fun j v w1 w2 hb hv=>VV.keep (fun h=>h.elim) hv) ?_ ?_
 ·refine of_allOps ⟨?_,?_,?_,?_,?_,?_,?_,?_,trivial⟩
  ·refine⟨rfl,fun T2 w2 hM hN hO hE K hK=>?_⟩
   have o3:T2[3]?=some (.pointer (some ⟨w.heap.size,0,none⟩)):=hO 3 rfl
   clear hE hO hN
   go_simp
   exact hK _ _ rfl hM (Below.refl _ _)
  ·refine⟨rfl,fun T2 w2 hM hN hO hE K hK=>?_⟩
   obtain⟨v0,h0,e0⟩:=hE ⟨0,.data⟩ (by simp) rfl _ _ rfl rfl
   rw [show v0 = .pointer (some ⟨w.heap.size,0,none⟩) from e0] at h0
   clear hE hO hN
   have hc2:w2.cell? ⟨w.heap.size,0,none⟩=some (.string KP):=(HGK.out.below hM).cell 0
   go_simp
   exact hK _ _ rfl hM (Below.refl _ _)
  ·refine⟨rfl,fun T2 w2 hM hN hO hE K hK=>?_⟩
   have o0:T2[0]?=some (.pointer (some ⟨R,0,none⟩)):=hO 0 rfl
   clear hE hO hN
   go_simp
   exact hK _ _ rfl hM (Below.refl _ _)
  ·refine⟨rfl,fun T2 w2 hM hN hO hE K hK=>?_⟩
   obtain⟨v2,h2,e2⟩:=hE ⟨2,.data⟩ (by simp) rfl _ _ rfl rfl
   rw [show v2 = .pointer (some ⟨R,0,none⟩) from e2] at h2
   clear hE hO hN
   go_simp
   exact hK _ _ rfl hM (Below.refl _ _)
  ·refine⟨rfl,fun T2 w2 hM hN hO hE K hK=>?_⟩
   obtain⟨v3,h3,e3⟩:=hE ⟨3,.data⟩ (by simp) rfl _ _ rfl rfl
   rw [show v3 = .pointer (some ⟨R,0,none⟩) from e3] at h3
   clear hE hO hN
   go_simp
   exact hK _ _ rfl hM (Below.refl _ _)
  ·refine⟨rfl,fun T2 w2 hM hN hO hE K hK=>?_⟩
   obtain⟨v4,h4,e4⟩:=hE ⟨4,.data⟩ (by simp) rfl _ _ rfl rfl
   rw [show v4 = .pointer (some ⟨R,4,none⟩) from e4] at h4
   clear hE hO hN
   have hc2:w2.cell? ⟨R,4,none⟩=some (.string AS):=by rw [HAS.out];exact (HROW.out.below hM).cell 4
   go_simp
   exact hK _ _ rfl hM (Below.refl _ _)
  ·refine⟨rfl,fun T2 w2 hM hN hO hE K hK=>?_⟩
   obtain⟨v1,h1,e1⟩:=hE ⟨1,.data⟩ (by simp) rfl _ _ rfl rfl
   rw [show v1 = .string KP from e1] at h1
   obtain⟨v5,h5,e5⟩:=hE ⟨5,.data⟩ (by simp) rfl _ _ rfl rfl
   rw [show v5 = .string AS from e5] at h5
   clear hE hO hN
   go_simp
   exact hK _ _ rfl hM (Below.refl _ _)
  ·refine⟨rfl,fun T2 w2 hM hN hO hE K hK=>?_⟩
   obtain⟨v6,h6,e6⟩:=hE ⟨6,.data⟩ (by simp) rfl _ _ rfl rfl
   rw [show v6 = .bool false from e6] at h6
   clear hE hO hN
   go_simp
   exact hK _ _ rfl hM (Below.refl _ _)
 ·intro u w2 hM hF
  have e7:u 7 = .bool false:=hF 7 (by omega)
  clear hF
  simp only [fillAll,Nat.reduceAdd,e7,List.take_succ_cons,List.take_zero,List.drop_succ_cons,List.drop_zero,List.setIfInBounds_toArray,List.set_cons_succ,List.set_cons_zero]
  have HM3:=hid2 hM
  have d1:w2.cell? ⟨w.heap.size,1,none⟩=some (.bool true):=(HGK.out.below hM).cell 1
  have d2:w2.cell? ⟨w.heap.size,2,none⟩=some (.string KD):=(HGK.out.below hM).cell 2
  obtain⟨wb,hwb⟩:∃ wb,wb=w2:=⟨_,rfl⟩
  rw [← hwb] at HM3 d1 d2 ⊢
  clear hM hwb
  go_upto_region 10 with fail
  clear d1 d2
  obtain⟨m,hm⟩:∃ m,m=L.m:=⟨_,rfl⟩
  have HMM:=hid2 hm
  clear hm
  refine wp_region_rel 9 (by kernel_rfl) (by kernel_rfl) (by kernel_rfl) _ rfl (by kernel_rfl) (VV [some (.pointer (some ⟨R,0,none⟩)),some (.pointer (some ⟨R,0,none⟩)),some (.pointer (some ⟨R,3,none⟩)),some (.map (some m)),some (.pointer (some ⟨R,0,none⟩)),some (.pointer (some ⟨R,0,none⟩)),some (.pointer (some ⟨R,4,none⟩)),some (.string AS),some (.agg #[.string KP,.bool true,.string KD])] (fun _ _ _=>False)) (fun w2=>Below wa.heap.size wa w2) (fun a b=>Below a.heap.size a b) (HM3.out.drew) (fun j v w1 w2 hb hv=>VV.keep (fun h=>h.elim) hv) ?_ ?_
  ·refine of_allOps ⟨?_,?_,?_,?_,?_,?_,?_,?_,?_,trivial⟩
   ·refine⟨rfl,fun T2 w2 hM hN hO hE K hK=>?_⟩
    have o0:T2[0]?=some (.pointer (some ⟨R,0,none⟩)):=hO 0 rfl
    clear hE hO hN
    go_simp
    exact hK _ _ rfl hM (Below.refl _ _)
   ·refine⟨rfl,fun T2 w2 hM hN hO hE K hK=>?_⟩
    obtain⟨v0,h0,e0⟩:=hE ⟨0,.data⟩ (by simp) rfl _ _ rfl rfl
    rw [show v0 = .pointer (some ⟨R,0,none⟩) from e0] at h0
    clear hE hO hN
    go_simp
    exact hK _ _ rfl hM (Below.refl _ _)
   ·refine⟨rfl,fun T2 w2 hM hN hO hE K hK=>?_⟩
    obtain⟨v1,h1,e1⟩:=hE ⟨1,.data⟩ (by simp) rfl _ _ rfl rfl
    rw [show v1 = .pointer (some ⟨R,0,none⟩) from e1] at h1
    clear hE hO hN
    go_simp
    exact hK _ _ rfl hM (Below.refl _ _)
   ·refine⟨rfl,fun T2 w2 hM hN hO hE K hK=>?_⟩
    obtain⟨v2,h2,e2⟩:=hE ⟨2,.data⟩ (by simp) rfl _ _ rfl rfl
    rw [show v2 = .pointer (some ⟨R,3,none⟩) from e2] at h2
    clear hE hO hN
    have hc2:w2.cell? ⟨R,3,none⟩=some (.map (some m)):=by rw [HMM.out];exact (HROW.out.below hM).cell 3
    go_simp
    exact hK _ _ rfl hM (Below.refl _ _)
   ·refine⟨rfl,fun T2 w2 hM hN hO hE K hK=>?_⟩
    have o0:T2[0]?=some (.pointer (some ⟨R,0,none⟩)):=hO 0 rfl
    clear hE hO hN
    go_simp
    exact hK _ _ rfl hM (Below.refl _ _)
   ·refine⟨rfl,fun T2 w2 hM hN hO hE K hK=>?_⟩
    obtain⟨v4,h4,e4⟩:=hE ⟨4,.data⟩ (by simp) rfl _ _ rfl rfl
    rw [show v4 = .pointer (some ⟨R,0,none⟩) from e4] at h4
    clear hE hO hN
    go_simp
    exact hK _ _ rfl hM (Below.refl _ _)
   ·refine⟨rfl,fun T2 w2 hM hN hO hE K hK=>?_⟩
    obtain⟨v5,h5,e5⟩:=hE ⟨5,.data⟩ (by simp) rfl _ _ rfl rfl
    rw [show v5 = .pointer (some ⟨R,0,none⟩) from e5] at h5
    clear hE hO hN
    go_simp
    exact hK _ _ rfl hM (Below.refl _ _)
   ·refine⟨rfl,fun T2 w2 hM hN hO hE K hK=>?_⟩
    obtain⟨v6,h6,e6⟩:=hE ⟨6,.data⟩ (by simp) rfl _ _ rfl rfl
    rw [show v6 = .pointer (some ⟨R,4,none⟩) from e6] at h6
    clear hE hO hN
    have hc2:w2.cell? ⟨R,4,none⟩=some (.string AS):=by rw [HAS.out];exact (HROW.out.below hM).cell 4
    go_simp
    exact hK _ _ rfl hM (Below.refl _ _)
   ·refine⟨rfl,fun T2 w2 hM hN hO hE K hK=>?_⟩
    have o3:T2[3]?=some (.pointer (some ⟨w.heap.size,0,none⟩)):=hO 3 rfl
    clear hE hO hN
    have e0:w2.cell? ⟨w.heap.size,0,none⟩=some (.string KP):=(HGK.out.below hM).cell 0
    have e1:w2.cell? ⟨w.heap.size,1,none⟩=some (.bool true):=(HGK.out.below hM).cell 1
    have e2:w2.cell? ⟨w.heap.size,2,none⟩=some (.string KD):=(HGK.out.below hM).cell 2
    go_simp
    exact hK _ _ rfl hM (Below.refl _ _)
  ·intro u w2 hM hF
   have e3:u 3 = .map (some m):=hF 3 (by omega)
   have e7:u 7 = .string AS:=hF 7 (by omega)
   have e8:u 8 = .agg #[.string KP,.bool true,.string KD]:=hF 8 (by omega)
   clear hF
   simp only [fillAll,Nat.reduceAdd,e3,e7,e8,List.take_succ_cons,List.take_zero,List.drop_succ_cons,List.drop_zero,List.setIfInBounds_toArray,List.set_cons_succ,List.set_cons_zero]
   have hA2:=HA.out.below hM
   obtain⟨hmB,M,hM0,hMl,hMk⟩:=hA2.known
   have hlk:S.known.length≤500:=HSD.out.lim.less
   have HMW:=hid2 hM0
   have hM1:=hM0
   rw [← HMM.out] at hM1
   have HM1:=hid2 hM1
   have HBW2:=hid2 (HBW.out.trans (TBut.of_below hM HSZ.out))
   have HA2:=hid2 hA2
   have HMK:=hid2 hMk
   have HML:=hid2 hMl
   have HKN:Hid2 (S.known.length < maxLen):=hid2 (by unfold maxLen;omega)
   clear hM hA2 hM0 hM1 hMk hMl hmB hlk
   go_upto_region 11 with ((with_reducible refine wpList_update_map HM1.out encK_inj Tryz.underlying9 Tryz.underlying60 HKN.out AS ?_ k ?_ ?_);(unfold maxLen;omega);exact⟨rfl,rfl,HENC.out.symm⟩;intro w5 hm5 ht5)
   have hgive:=HA2.out.give k HNO.out HMW.out HML.out HMK.out (by rw [← HMM.out];exact ht5) (by
    rw [← HMM.out]
    rw [show AS.data.toList=S.asks from by rw [HAS.out];simp [strB]] at hm5
    exact hm5)
   have h5:=hgive.1.one (s':={ S with known:=S.known++[(S.asks,nrm k)],asks:=[] }) (i:=4) (u:=.string ⟨#[]⟩) rfl rfl rfl rfl
   have h6:=h5.1.one (s':={ S with known:=S.known++[(S.asks,nrm k)],asks:=[],waits:=false }) (i:=5) (u:=.bool false) rfl rfl rfl rfl
   have q4:w5.cell? ⟨R,4,none⟩=some (.string AS):=by rw [HAS.out,HR.out];exact (hgive.1.cell 4).1
   have q5:w5.cell? ⟨R,5,none⟩=some (.bool S.waits):=by rw [HR.out];exact (hgive.1.cell 5).1
   have z4:w5.frozen? ⟨R,4,none⟩=false:=by rw [HR.out];exact (hgive.1.cell 4).2
   have z5:w5.frozen? ⟨R,5,none⟩=false:=by rw [HR.out];exact (hgive.1.cell 5).2
   have hfin:Pq (.returned (.int .i64 0)) ((w5.setCell ⟨R,4,none⟩ (.string ⟨#[]⟩)).setCell ⟨R,5,none⟩ (.bool false)):=by
    rw [HPQ.out,HR.out]
    refine⟨by rw [HGV.out];rfl,⟨q2,A,c,us,?_⟩,HBW2.out.trans (hgive.2.trans (h5.2.trans h6.2))⟩
    rw [HGV.out]
    exact h6.1
   have HF:=hid2 hfin
   clear hgive h5 h6 hfin hm5 ht5
   try simp only [Act.put]
   go_wp2_with fail
   exact HF.out
set_option maxHeartbeats 8000000 in
theorem give_yes_false (w:World) (L:RLay) (v:Env) (hv:EnvFit v) (q:Option Nat) (s:PS) (h:RunIs w L v q s) (hw:Home w L) (hP:∀ k,Sound (s.run v k)) (n:Nat) (hn:(s.run v n).Still) (k:KE) (hks:k.path.length≤1000000000∧k.data.length≤1000000000) (hwt:(s.run v n).waits=true) (heq:k.path=(s.run v n).asks) (hi:k.is=false) (hno:getK (s.run v n).known (s.run v n).asks=none) :
  Calls Tryz.prog 16 #[ptrV L.R,encK k] w (GivePost w L v (s.run v n) k):=by
 have hB:=h.size
 obtain⟨R,hR⟩:∃ R,R=L.R:=⟨_,rfl⟩
 obtain⟨Pq,hPq⟩:∃ Pq:Ending→World→Prop,Pq=GivePost w L v (s.run v n) k:=⟨_,rfl⟩
 obtain⟨KP,hKP⟩:∃ x,x=strB k.path:=⟨_,rfl⟩
 obtain⟨KD,hKD⟩:∃ x,x=strB k.data:=⟨_,rfl⟩
 obtain⟨kb,hkb⟩:∃ x,x=k.is:=⟨_,rfl⟩
 have hKDs:KD.size=k.data.length:=by rw [hKD,strB_size]
 have htp:KP.toList=k.path:=by rw [hKP];exact toList_strBT _
 have henc:encK k = .agg #[.string KP,.bool kb,.string KD]:=by rw [hKP,hKD,hkb];rfl
 have HENC:=hid2 henc
 obtain⟨w1,hw1⟩:∃ w1,w1=w.alloc (.cells #[.string KP,.bool kb,.string KD] 41):=⟨_,rfl⟩
 have hb1:Below w.heap.size w w1:=by rw [hw1];exact (Below.refl _ _).alloc (Nat.le_refl _) _
 have hg1:CellB w1 w.heap.size #[.string KP,.bool kb,.string KD] 41:=by rw [hw1];exact World.alloc_heap_new w _
 have hS:=settle_any w1 L v hv q s (h.below hb1) (hw.tbut (TBut.of_below hb1 hB)) hP n hn
 have hSd:=hP n
 obtain⟨S,hSS⟩:∃ S,S=s.run v n:=⟨_,rfl⟩
 rw [henc,ptrV,← hR,← hPq]
 rw [ptrV,← hR,← hSS] at hS
 rw [← hSS] at hSd
 have hPq2:Pq=GivePost w L v S k:=by rw [hPq,hSS]
 rw [← hSS] at hwt heq hno
 obtain⟨AS,hAS⟩:∃ x,x=strB S.asks:=⟨_,rfl⟩
 have hta:AS.toList=S.asks:=by rw [hAS];exact toList_strBT _
 have HAS:=hid2 hAS
 have hgv:S.gave k=(0,S.give (nrm k)):=by rw [PS.gave,if_neg (by rw [hwt];simp),if_neg (by simpa using heq),if_neg (by rw [hi];simp)]
 have heq1:(KP.toList == AS.toList)=true:=by rw [htp,hta,heq,beq_self_eq_true]
 have heq2:KP.toList=AS.toList:=by rw [htp,hta,heq]
 rw [hi] at hkb
 subst hkb
 have HGV:=hid2 hgv
 have HWT:=hid2 hwt
 have HNO:=hid2 hno
 have hAl:AS.size≤1000000000:=by rw [hAS,strB_size,← heq];exact hks.1
 have HPQ:=hid2 hPq2
 have HR:=hid2 hR
 have HS:=hid2 hS
 have HB1:=hid2 hb1
 have HG1:=hid2 hg1
 have HB:=hid2 hB
 have HW1:=hid2 hw1
 have HSD:=hid2 hSd
 obtain⟨wg,hwg⟩:∃ wg,wg=w.heap.size:=⟨_,rfl⟩
 have HWG:=hid2 hwg
 clear hPq hPq2 hR hS hg1 hb1 hB h hw hP hn hv hSS hw1 hSd hwg henc hKP htp hKD hks hgv hwt hKDs heq hta hAS hi hno
 go_enter Tryz.func16,Tryz.ntmps16
 go_upto_region 4 with (go_at_call 35; rw [← HW1.out];refine HS.out.mono ?_;rintro e wa ⟨rfl,⟨q2,hr2⟩,hb2⟩;have HR2:=hid2 hr2;have HB2:=hid2 hb2;clear hr2 hb2)
 obtain⟨A,c,us,hra⟩:=HR2.out
 have hrow:=hra.run
 rw [← HR.out] at hrow
 have c5:wa.cell? ⟨R,5,none⟩=some (.bool S.waits):=hrow.cell 5
 have hbw:=(TBut.of_below HB1.out HB.out).trans HB2.out
 have hgk:=HG1.out.keep HB2.out (by decide) (by decide)
 have HA:=hid2 hra
 have HBW:=hid2 hbw
 have HGK:=hid2 hgk
 have HROW:=hid2 hrow
 clear hra hrow hbw hgk
 have HSZ:=hid2 (show L.B≤wa.heap.size from HA.out.size)
 clear c5
 have c5:wa.cell? ⟨R,5,none⟩=some (.bool true):=by have:=HROW.out.cell 5;rw [← HWT.out];exact this
 go_upto_region 6 with fail
 refine wp_region_rel 8 (by kernel_rfl) (by kernel_rfl) (by kernel_rfl) _ rfl (by kernel_rfl) (VV [some (.pointer (some ⟨w.heap.size,0,none⟩)),some (.string KP),some (.pointer (some ⟨R,0,none⟩)),some (.pointer (some ⟨R,0,none⟩)),some (.pointer (some ⟨R,4,none⟩)),some (.string AS),some (.bool false),some (.bool false)] (fun _ _ _=>False)) (fun w2=>Below wa.heap.size wa w2) (fun a b=>Below a.heap.size a b) ((Below.refl _ wa).drew) (fun j v w1 w2 hb hv=>VV.keep (fun h=>h.elim) hv) ?_ ?_
 ·refine of_allOps ⟨?_,?_,?_,?_,?_,?_,?_,?_,trivial⟩
  ·refine⟨rfl,fun T2 w2 hM hN hO hE K hK=>?_⟩
   have o3:T2[3]?=some (.pointer (some ⟨w.heap.size,0,none⟩)):=hO 3 rfl
   clear hE hO hN
   go_simp
   exact hK _ _ rfl hM (Below.refl _ _)
  ·refine⟨rfl,fun T2 w2 hM hN hO hE K hK=>?_⟩
   obtain⟨v0,h0,e0⟩:=hE ⟨0,.data⟩ (by simp) rfl _ _ rfl rfl
   rw [show v0 = .pointer (some ⟨w.heap.size,0,none⟩) from e0] at h0
   clear hE hO hN
   have hc2:w2.cell? ⟨w.heap.size,0,none⟩=some (.string KP):=(HGK.out.below hM).cell 0
   go_simp
   exact hK _ _ rfl hM (Below.refl _ _)
  ·refine⟨rfl,fun T2 w2 hM hN hO hE K hK=>?_⟩
   have o0:T2[0]?=some (.pointer (some ⟨R,0,none⟩)):=hO 0 rfl
   clear hE hO hN
   go_simp
   exact hK _ _ rfl hM (Below.refl _ _)
  ·refine⟨rfl,fun T2 w2 hM hN hO hE K hK=>?_⟩
   obtain⟨v2,h2,e2⟩:=hE ⟨2,.data⟩ (by simp) rfl _ _ rfl rfl
   rw [show v2 = .pointer (some ⟨R,0,none⟩) from e2] at h2
   clear hE hO hN
   go_simp
   exact hK _ _ rfl hM (Below.refl _ _)
  ·refine⟨rfl,fun T2 w2 hM hN hO hE K hK=>?_⟩
   obtain⟨v3,h3,e3⟩:=hE ⟨3,.data⟩ (by simp) rfl _ _ rfl rfl
   rw [show v3 = .pointer (some ⟨R,0,none⟩) from e3] at h3
   clear hE hO hN
   go_simp
   exact hK _ _ rfl hM (Below.refl _ _)
  ·refine⟨rfl,fun T2 w2 hM hN hO hE K hK=>?_⟩
   obtain⟨v4,h4,e4⟩:=hE ⟨4,.data⟩ (by simp) rfl _ _ rfl rfl
   rw [show v4 = .pointer (some ⟨R,4,none⟩) from e4] at h4
   clear hE hO hN
   have hc2:w2.cell? ⟨R,4,none⟩=some (.string AS):=by rw [HAS.out];exact (HROW.out.below hM).cell 4
   go_simp
   exact hK _ _ rfl hM (Below.refl _ _)
  ·refine⟨rfl,fun T2 w2 hM hN hO hE K hK=>?_⟩
   obtain⟨v1,h1,e1⟩:=hE ⟨1,.data⟩ (by simp) rfl _ _ rfl rfl
   rw [show v1 = .string KP from e1] at h1
   obtain⟨v5,h5,e5⟩:=hE ⟨5,.data⟩ (by simp) rfl _ _ rfl rfl
   rw [show v5 = .string AS from e5] at h5
   clear hE hO hN
   go_simp
   exact hK _ _ rfl hM (Below.refl _ _)
  ·refine⟨rfl,fun T2 w2 hM hN hO hE K hK=>?_⟩
   obtain⟨v6,h6,e6⟩:=hE ⟨6,.data⟩ (by simp) rfl _ _ rfl rfl
   rw [show v6 = .bool false from e6] at h6
   clear hE hO hN
   go_simp
   exact hK _ _ rfl hM (Below.refl _ _)
 ·intro u w2 hM hF
  have e7:u 7 = .bool false:=hF 7 (by omega)
  clear hF
  simp only [fillAll,Nat.reduceAdd,e7,List.take_succ_cons,List.take_zero,List.drop_succ_cons,List.drop_zero,List.setIfInBounds_toArray,List.set_cons_succ,List.set_cons_zero]
  have HM3:=hid2 hM
  have d1:w2.cell? ⟨w.heap.size,1,none⟩=some (.bool false):=(HGK.out.below hM).cell 1
  have d2:w2.cell? ⟨w.heap.size,2,none⟩=some (.string KD):=(HGK.out.below hM).cell 2
  obtain⟨wb,hwb⟩:∃ wb,wb=w2:=⟨_,rfl⟩
  rw [← hwb] at HM3 d1 d2 ⊢
  clear hM hwb
  go_upto_region 10 with fail
  clear d1 d2
  obtain⟨m,hm⟩:∃ m,m=L.m:=⟨_,rfl⟩
  have HMM:=hid2 hm
  clear hm
  refine wp_region_rel 9 (by kernel_rfl) (by kernel_rfl) (by kernel_rfl) _ rfl (by kernel_rfl) (VV [some (.pointer (some ⟨R,0,none⟩)),some (.pointer (some ⟨R,0,none⟩)),some (.pointer (some ⟨R,3,none⟩)),some (.map (some m)),some (.pointer (some ⟨R,0,none⟩)),some (.pointer (some ⟨R,0,none⟩)),some (.pointer (some ⟨R,4,none⟩)),some (.string AS),some (.agg #[.string KP,.bool false,.string KD])] (fun _ _ _=>False)) (fun w2=>Below wa.heap.size wa w2) (fun a b=>Below a.heap.size a b) (HM3.out.drew) (fun j v w1 w2 hb hv=>VV.keep (fun h=>h.elim) hv) ?_ ?_
  ·refine of_allOps ⟨?_,?_,?_,?_,?_,?_,?_,?_,?_,trivial⟩
   ·refine⟨rfl,fun T2 w2 hM hN hO hE K hK=>?_⟩
    have o0:T2[0]?=some (.pointer (some ⟨R,0,none⟩)):=hO 0 rfl
    clear hE hO hN
    go_simp
    exact hK _ _ rfl hM (Below.refl _ _)
   ·refine⟨rfl,fun T2 w2 hM hN hO hE K hK=>?_⟩
    obtain⟨v0,h0,e0⟩:=hE ⟨0,.data⟩ (by simp) rfl _ _ rfl rfl
    rw [show v0 = .pointer (some ⟨R,0,none⟩) from e0] at h0
    clear hE hO hN
    go_simp
    exact hK _ _ rfl hM (Below.refl _ _)
   ·refine⟨rfl,fun T2 w2 hM hN hO hE K hK=>?_⟩
    obtain⟨v1,h1,e1⟩:=hE ⟨1,.data⟩ (by simp) rfl _ _ rfl rfl
    rw [show v1 = .pointer (some ⟨R,0,none⟩) from e1] at h1
    clear hE hO hN
    go_simp
    exact hK _ _ rfl hM (Below.refl _ _)
   ·refine⟨rfl,fun T2 w2 hM hN hO hE K hK=>?_⟩
    obtain⟨v2,h2,e2⟩:=hE ⟨2,.data⟩ (by simp) rfl _ _ rfl rfl
    rw [show v2 = .pointer (some ⟨R,3,none⟩) from e2] at h2
    clear hE hO hN
    have hc2:w2.cell? ⟨R,3,none⟩=some (.map (some m)):=by rw [HMM.out];exact (HROW.out.below hM).cell 3
    go_simp
    exact hK _ _ rfl hM (Below.refl _ _)
   ·refine⟨rfl,fun T2 w2 hM hN hO hE K hK=>?_⟩
    have o0:T2[0]?=some (.pointer (some ⟨R,0,none⟩)):=hO 0 rfl
    clear hE hO hN
    go_simp
    exact hK _ _ rfl hM (Below.refl _ _)
   ·refine⟨rfl,fun T2 w2 hM hN hO hE K hK=>?_⟩
    obtain⟨v4,h4,e4⟩:=hE ⟨4,.data⟩ (by simp) rfl _ _ rfl rfl
    rw [show v4 = .pointer (some ⟨R,0,none⟩) from e4] at h4
    clear hE hO hN
    go_simp
    exact hK _ _ rfl hM (Below.refl _ _)
   ·refine⟨rfl,fun T2 w2 hM hN hO hE K hK=>?_⟩
    obtain⟨v5,h5,e5⟩:=hE ⟨5,.data⟩ (by simp) rfl _ _ rfl rfl
    rw [show v5 = .pointer (some ⟨R,0,none⟩) from e5] at h5
    clear hE hO hN
    go_simp
    exact hK _ _ rfl hM (Below.refl _ _)
   ·refine⟨rfl,fun T2 w2 hM hN hO hE K hK=>?_⟩
    obtain⟨v6,h6,e6⟩:=hE ⟨6,.data⟩ (by simp) rfl _ _ rfl rfl
    rw [show v6 = .pointer (some ⟨R,4,none⟩) from e6] at h6
    clear hE hO hN
    have hc2:w2.cell? ⟨R,4,none⟩=some (.string AS):=by rw [HAS.out];exact (HROW.out.below hM).cell 4
    go_simp
    exact hK _ _ rfl hM (Below.refl _ _)
   ·refine⟨rfl,fun T2 w2 hM hN hO hE K hK=>?_⟩
    have o3:T2[3]?=some (.pointer (some ⟨w.heap.size,0,none⟩)):=hO 3 rfl
    clear hE hO hN
    have e0:w2.cell? ⟨w.heap.size,0,none⟩=some (.string KP):=(HGK.out.below hM).cell 0
    have e1:w2.cell? ⟨w.heap.size,1,none⟩=some (.bool false):=(HGK.out.below hM).cell 1
    have e2:w2.cell? ⟨w.heap.size,2,none⟩=some (.string KD):=(HGK.out.below hM).cell 2
    go_simp
    exact hK _ _ rfl hM (Below.refl _ _)
  ·intro u w2 hM hF
   have e3:u 3 = .map (some m):=hF 3 (by omega)
   have e7:u 7 = .string AS:=hF 7 (by omega)
   have e8:u 8 = .agg #[.string KP,.bool false,.string KD]:=hF 8 (by omega)
   clear hF
   simp only [fillAll,Nat.reduceAdd,e3,e7,e8,List.take_succ_cons,List.take_zero,List.drop_succ_cons,List.drop_zero,List.setIfInBounds_toArray,List.set_cons_succ,List.set_cons_zero]
   have hA2:=HA.out.below hM
   obtain⟨hmB,M,hM0,hMl,hMk⟩:=hA2.known
   have hlk:S.known.length≤500:=HSD.out.lim.less
   have HMW:=hid2 hM0
   have hM1:=hM0
   rw [← HMM.out] at hM1
   have HM1:=hid2 hM1
   have HBW2:=hid2 (HBW.out.trans (TBut.of_below hM HSZ.out))
   have HA2:=hid2 hA2
   have HMK:=hid2 hMk
   have HML:=hid2 hMl
   have HKN:Hid2 (S.known.length < maxLen):=hid2 (by unfold maxLen;omega)
   clear hM hA2 hM0 hM1 hMk hMl hmB hlk
   go_upto_region 11 with ((with_reducible refine wpList_update_map HM1.out encK_inj Tryz.underlying9 Tryz.underlying60 HKN.out AS ?_ k ?_ ?_);(unfold maxLen;omega);exact⟨rfl,rfl,HENC.out.symm⟩;intro w5 hm5 ht5)
   have hgive:=HA2.out.give k HNO.out HMW.out HML.out HMK.out (by rw [← HMM.out];exact ht5) (by
    rw [← HMM.out]
    rw [show AS.data.toList=S.asks from by rw [HAS.out];simp [strB]] at hm5
    exact hm5)
   have h5:=hgive.1.one (s':={ S with known:=S.known++[(S.asks,nrm k)],asks:=[] }) (i:=4) (u:=.string ⟨#[]⟩) rfl rfl rfl rfl
   have h6:=h5.1.one (s':={ S with known:=S.known++[(S.asks,nrm k)],asks:=[],waits:=false }) (i:=5) (u:=.bool false) rfl rfl rfl rfl
   have q4:w5.cell? ⟨R,4,none⟩=some (.string AS):=by rw [HAS.out,HR.out];exact (hgive.1.cell 4).1
   have q5:w5.cell? ⟨R,5,none⟩=some (.bool S.waits):=by rw [HR.out];exact (hgive.1.cell 5).1
   have z4:w5.frozen? ⟨R,4,none⟩=false:=by rw [HR.out];exact (hgive.1.cell 4).2
   have z5:w5.frozen? ⟨R,5,none⟩=false:=by rw [HR.out];exact (hgive.1.cell 5).2
   have hfin:Pq (.returned (.int .i64 0)) ((w5.setCell ⟨R,4,none⟩ (.string ⟨#[]⟩)).setCell ⟨R,5,none⟩ (.bool false)):=by
    rw [HPQ.out,HR.out]
    refine⟨by rw [HGV.out];rfl,⟨q2,A,c,us,?_⟩,HBW2.out.trans (hgive.2.trans (h5.2.trans h6.2))⟩
    rw [HGV.out]
    exact h6.1
   have HF:=hid2 hfin
   clear hgive h5 h6 hfin hm5 ht5
   try simp only [Act.put]
   go_wp2_with fail
   exact HF.out
theorem give_any (w:World) (L:RLay) (v:Env) (hv:EnvFit v) (q:Option Nat) (s:PS) (h:RunIs w L v q s) (hw:Home w L) (hP:∀ k,Sound (s.run v k)) (n:Nat) (hn:(s.run v n).Still) (k:KE) (hks:k.path.length≤1000000000∧k.data.length≤1000000000) (hno:(s.run v n).waits=true→getK (s.run v n).known (s.run v n).asks=none) :
  Calls Tryz.prog 16 #[ptrV L.R,encK k] w (GivePost w L v (s.run v n) k):=by
 cases hwt:(s.run v n).waits with
 | false=>exact give_idle w L v hv q s h hw hP n hn k hks hwt
 | true =>
  by_cases heq:k.path=(s.run v n).asks
  ·cases hi:k.is with
   | false=>exact give_yes_false w L v hv q s h hw hP n hn k hks hwt heq hi (hno hwt)
   | true =>
    by_cases hl:65536 < k.data.length
    ·exact give_long w L v hv q s h hw hP n hn k hks hwt heq hi hl
    ·exact give_yes_true w L v hv q s h hw hP n hn k hks hwt heq hi (by omega) (hno hwt)
  ·exact give_other w L v hv q s h hw hP n hn k hks hwt heq
end Go.Proofs.YtnecjdhamohadaaGreatDoor
namespace Go.Proofs.YtnecjdhamohadaaGreatDoor
open Go.RowKit Go.Shelf
attribute [local go_sem] Oper.semAt_some
theorem cmdsV_get:∀ {l:List TCmd} {k:Nat} {p:TCmd},l[k]?=some p→(cmdsV l)[k * 2]?=some (.slice p.A p.c.ws.length p.cA)∧(cmdsV l)[k * 2+1]?=some (.string (strB p.c.rest))
 | [],_,_,h=>by simp at h
 | x :: l,0,p,h=>by
  rw [List.getElem?_cons_zero] at h
  cases h
  exact⟨rfl,rfl⟩
 | x :: l,k+1,p,h=>by
  rw [List.getElem?_cons_succ] at h
  have:=cmdsV_get h
  have e1:(k+1) * 2=k * 2+2:=by omega
  rw [e1]
  exact this
abbrev CX (P:TCmd→Prop):={ x:Int × TCmd // P x.2 }
def encC {P:TCmd→Prop} (x:CX P):Array Value:=#[.int .i64 x.1.1,.agg #[.slice x.1.2.A x.1.2.c.ws.length x.1.2.cA,.string (strB x.1.2.c.rest)]]
set_option maxRecDepth 100000 in
set_option maxHeartbeats 2000000 in
theorem cback1_in (P:TCmd→Prop) (n:Nat) (hn:1≤n) (l Bs B:Nat) (A:Option Addr) (cap:Nat) (zs:List TCmd) (hreach:zs.length≤1000000000) (hall:∀ p∈zs,P p) (J Jx:List (CX P)→World→Prop)
  (hY:∀ pre x W,J pre W→pre.length < zs.length→YieldAt Fence.wide (n - 1) Tryz.prog l (encC x) W fun e W'=>(e = .returned (.bool true)∧J (pre++[x]) W'∧TBut B W W')∨(e = .returned (.bool false)∧Jx (pre++[x]) W'))
  (W:World) (hBs:W.cell? ⟨Bs,0,none⟩=some (.slice A zs.length cap)) (hc:∀ W',TBut B W W'→W'.cell? ⟨Bs,0,none⟩=some (.slice A zs.length cap)) (hr:∀ W',TBut B W W'→Rd W' 2 A zs.length (cmdsV zs)) (h0:J [] W) :
  CallsIn Fence.wide n Tryz.prog 38 #[.func (.yield l) #[] #[],.pointer (some ⟨Bs,0,none⟩)] W fun e W'=>(∃ v,e = .returned v)∧((∃ ys,ys.map (·.1.2)=zs.reverse∧J ys W')∨(∃ pre,True∧Jx pre W')):=by
 have h7:=wide_fn 38
 obtain⟨len,hlen⟩:∃ len,len=zs.length:=⟨_,rfl⟩
 rw [← hlen] at hreach hY hBs hc hr
 refine callsIn_of_wp Tryz.func38 rfl h7 ?_ rfl
 simp only [Tryz.ntmps38,List.size_toArray,List.length_cons,List.length_nil,Nat.reduceAdd,Nat.reduceSub,Array.replicate_succ,Array.replicate_zero,List.push_toArray,List.append_toArray,List.nil_append,List.cons_append]
 gi_wp2
 gi_loopw [3] (fun i wr=>∃ (q:Nat) (ys:List (CX P)) (i':Int),i = .int .i64 i'∧i'=(q:Int) - 1∧q≤len∧ys.map (·.1.2)=(zs.drop q).reverse∧J ys wr∧TBut B W wr) (fun i _=>(intOf i+1).toNat)
 case atStart=>exact⟨len,[],_,rfl,by omega,Nat.le_refl _,by rw [hlen,List.drop_length];rfl,h0,TBut.refl _ _⟩
 case round =>
  obtain⟨q,ys,i',rfl,hi',hq,hys,hJs,hnx⟩:=hrel
  by_cases hlt:0 < q
  ·obtain⟨p,rfl⟩:∃ p,q=p+1:=⟨q - 1,by omega⟩
   obtain rfl:i'=(p:Int):=by omega
   clear hi'
   obtain⟨x,hx⟩:∃ x,zs[p]?=some x:=⟨_,List.getElem?_eq_getElem (by omega)⟩
   have hts:(zs.drop p).reverse=(zs.drop (p+1)).reverse++[x]:=by
    obtain⟨hp,rfl⟩:=List.getElem?_eq_some_iff.1 hx
    rw [List.drop_eq_getElem_cons hp,List.reverse_cons]
   obtain⟨b',o,rfl,hcell⟩:=(hr wr hnx).2 (by omega)
   have hcx:wr.cell? ⟨b',o+p * 2,none⟩=some (.slice x.A x.c.ws.length x.cA):=hcell (p * 2) _ (cmdsV_get hx).1
   have hcy:wr.cell? ⟨b',o+p * 2+1,none⟩=some (.string (strB x.c.rest)):=hcell (p * 2+1) _ (cmdsV_get hx).2
   have hcb:=hc wr hnx
   have hlx:=hall x (List.mem_of_getElem? hx)
   have hyl:ys.length < len:=by
    have:=congrArg List.length hys
    rw [List.length_map,List.length_reverse,List.length_drop] at this
    omega
   have hy0:=hY ys ⟨((p:Int),x),hlx⟩ wr hJs hyl
   have hsnoc:(ys++[(⟨((p:Int),x),hlx⟩:CX P)]).map (·.1.2)=(zs.drop p).reverse:=by rw [List.map_append,hys,hts];rfl
   unfold encC at hy0
   simp only at hy0
   obtain⟨fn,tmps,assign,body,hy,hR⟩:=hy0
   have hk0:(0:Int)≤p:=by omega
   have hkl:(p:Int) < len:=by omega
   have HSN:=hid2 hsnoc
   have HX:=hid2 hx
   clear hx hts hcell hys hsnoc
   gi_wp2
   refine hR.mono ?_
   rintro e W3 (⟨rfl,hJ3,hk3⟩ | ⟨rfl,hJx3⟩)
   ·gi_wp2
    go_roundw
    case rel=>exact⟨p,_,_,rfl,by omega,by omega,HSN.out,hJ3,hnx.trans hk3⟩
    case measure=>simp [intOf]
   ·gi_wp2
    refine bodyPost_ret (results_none rfl _ _ _) rfl ?_
    exact⟨⟨_,rfl⟩,.inr ⟨_,trivial,hJx3⟩⟩
  ·obtain rfl:q=0:=by omega
   obtain rfl:i' = -1:=by omega
   clear hi'
   rw [List.drop_zero] at hys
   have HYS:=hid2 hys
   clear hys
   gi_wp2
   go_end0
   exact⟨⟨_,rfl⟩,.inl ⟨_,HYS.out,hJs⟩⟩
theorem cback_any (w:World) (a:Option Addr) (len cap:Nat) :
  Calls Tryz.prog 26 #[.slice a len cap] w fun e w'=>e = .returned (.func (.func 38) #[] #[.pointer (some ⟨w.heap.size,0,none⟩)])∧w'=w.alloc (.cells #[.slice a len cap] 56):=by
 go_enter Tryz.func26,Tryz.ntmps26
 go_wp2
 go_ret
 exact⟨rfl,rfl⟩
theorem cback_stops (P:TCmd→Prop) (n:Nat) (hn:1≤n) (Bs B:Nat) (A:Option Addr) (cap:Nat) (zs:List TCmd) (hreach:zs.length≤1000000000) (hall:∀ p∈zs,P p) (w:World) (hB:B≤w.heap.size)
  (hc:CellB w Bs #[.slice A zs.length cap] 56) (hr:∀ W',TBut B w W'→Rd W' 2 A zs.length (cmdsV zs)) :
  SeqStopsK Fence.wide n Tryz.prog 38 #[.pointer (some ⟨Bs,0,none⟩)] (encC (P:=P)) (TBut B) (fun ys=>ys.map (·.1.2)=zs.reverse) (fun _=>True) zs.length w:=fun l J Jx W hW _ _ hY h0=>by
 have hK:∀ W',TBut B W W'→TBut B w W':=fun W' h=>(TBut.of_below hW hB).trans h
 have hcc:∀ W',TBut B W W'→W'.cell? ⟨Bs,0,none⟩=some (.slice A zs.length cap):=fun W' h=>(hc.keep (hK W' h) (by decide) (by decide)).cell 0
 refine (cback1_in P n hn l Bs B A cap zs hreach hall J Jx hY W (hcc W (TBut.refl _ _)) hcc (fun W' h=>hr W' (hK W' h)) h0).mono ?_
 rintro e W' ⟨he,⟨ys,hp,hj⟩ | ⟨pre,hp,hj⟩⟩
 ·exact⟨he,.inl ⟨_,hp,hj⟩⟩
 ·exact⟨he,.inr ⟨pre,hp,hj⟩⟩
end Go.Proofs.YtnecjdhamohadaaGreatDoor
