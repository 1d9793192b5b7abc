/- A tool's run goes as the document's: where Start takes the text. -/
import Derived.Test.YtnecjdhamohadaaGreatDoorPMRg14
set_option linter.unusedSimpArgs false
set_option linter.unusedVariables false
namespace Go.Proofs.YtnecjdhamohadaaGreatDoor
open Go.RowKit Go.Maps Go.Shelf
set_option maxRecDepth 100000
theorem fit_next {s:PS} (h:FitDo s.over):FitDo s.next.over:=by
 unfold PS.next
 split
 ·exact h
 ·split
  ·exact fit_fail 0 0 (by decide) (by decide)
  ·exact h
theorem kV_snoc (K:List KE) (k:KE):kV (K++[k])=kV K++[.string (strB k.path),.bool k.is,.string (strB k.data)]:=by simp [kV]
theorem zero_knI:(Tryz.prog.info? 41).map (fun i=>(i.zero,i.size,i.bytes))=some (some (.agg #[.string ⟨#[]⟩,.bool false,.string ⟨#[]⟩]),3,40):=by kernel_rfl
theorem RunAt.grownKn {w w':World} {L:RLay} {v:Env} {q:Option Nat} {s:PS} {A:Option Addr} {c:Nat} {us:List Value} {row:Option Nat} (h:RunAt w L v q s A c us) (hg:w.grownBy w' row) (hrow:∀ b,row=some b→∃ cs fr,w.heap[b]?=some (.cells cs 41 fr)):RunAt w' L v q s A c us:=by
 cases row with
 | none=>exact h.below ⟨hg.os,hg.tape,hg.output,hg.size,fun k hk=>hg.block k hk (by simp)⟩
 | some b =>
  obtain⟨cs,fr,hb⟩:=hrow b rfl
  have hc:∀ (g:Nat) (cs':Array Value) (t:TypeId) (fr':Nat × Nat),w.heap[g]?=some (.cells cs' t fr')→t ≠ 41 → w'.heap[g]?=w.heap[g]?:=fun g cs' t fr' hgg hne=>hg.block g (heap_lt hgg) fun e=>by
   cases e
   rw [hb] at hgg
   injection hgg with hgg
   injection hgg with _ hgg
   exact hne hgg.symm
  have cb:∀ {g:Nat} {cs':Array Value} {t:TypeId},CellB w g cs' t→t ≠ 41 → CellB w' g cs' t:=fun {g cs' t} hx hne=>(hc g cs' t _ hx hne).trans hx
  have ow:∀ {base sz n c:Nat} {t:TypeId} {A:Option Addr} {xs:List Value},Own w base t sz A n c xs→t ≠ 41 → Own w' base t sz A n c xs:=fun {base sz n c t A xs} ho hne=>ho.keep fun k hk _ _=>by
   obtain⟨_,_,cur,fr',hx⟩:=ho.block k hk
   exact hc k cur t fr' hx hne
  have mp:∀ {α:Type} {enc:α→Value} {k m:Nat} {M:Tab α},MapIs w Tryz.prog 9 enc k m M→MapIs w' Tryz.prog 9 enc k m M:=fun hM=>hM.keep (hg.block _ hM.lt fun e=>by cases e;exact hM.isMap hb)
  have mb:∀ {g:Nat},MBox w g q→MBox w' g q:=fun {g} ⟨m,h1,h2⟩=>⟨m,h1,cb h2 (by decide)⟩
  have db:∀ {R:Nat} {u:Value} {d:DataF},DataIs w R q u d→DataIs w' R q u d:=fun {R u d} hd=>by
   cases d with
   | add=>exact hd
   | scan x =>
    obtain⟨g1,g2,g3,e,h1,h2,h3⟩:=hd
    exact⟨g1,g2,g3,e,cb h1 (by decide),cb h2 (by decide),mb h3⟩
  have tb:∀ {R:Nat} {u:Value} {d:DataF},ThereIs w R q u d→ThereIs w' R q u d:=fun {R u d} hd=>by
   obtain⟨g1,g2,v,e,h1,h2,h3⟩:=hd
   exact⟨g1,g2,v,e,cb h1 (by decide),cb h2 (by decide),db h3⟩
  have nb:∀ {R:Nat} {u:Value} {th:ThenE},ThenIs w R q u th→ThenIs w' R q u th:=fun {R u th} hd=>by
   cases th with
   | add=>exact tb hd
   | try_ =>
    obtain⟨g1,e,h1⟩:=hd
    exact⟨g1,e,cb h1 (by decide)⟩
   | scan x=>exact tb hd
  refine⟨cb h.run (by decide),h.base,ow h.row (by decide),fun i t hi=>?_,ow h.env (by decide),?_,?_⟩
  ·obtain⟨u,h1,h2⟩:=h.tasks i t hi
   refine⟨u,h1,?_⟩
   cases t with
   | cmd c =>
    obtain⟨g1,g2,e,h1,A,cA,h2,h3,h4⟩:=h2
    exact⟨g1,g2,e,cb h1 (by decide),A,cA,cb h2 (by decide),ow h3 (by decide),h4⟩
   | ans p th =>
    obtain⟨g1,g2,g3,v,e,h1,h2,h3,h4⟩:=h2
    exact⟨g1,g2,g3,v,e,cb h1 (by decide),nb h2,cb h3 (by decide),cb h4 (by decide)⟩
   | line x y =>
    obtain⟨g1,g2,g3,g4,e,h1,h2,h3,h4⟩:=h2
    exact⟨g1,g2,g3,g4,e,cb h1 (by decide),cb h2 (by decide),cb h3 (by decide),mb h4⟩
  ·obtain⟨h1,M,h2,h3⟩:=h.known
   exact⟨h1,M,mp h2,h3⟩
  ·rcases h.seen with h1 | ⟨g,M,h1,h2,h3,h4,h5⟩
   ·exact .inl h1
   ·exact .inr ⟨g,M,h1,h2,h3,mp h4,h5⟩
set_option maxHeartbeats 32000000 in
theorem goes_ok (w:World) (env:List (TT × TT)) (U:List KE) (text:TT) (hl:Lib3 w) (hwe:∀ p∈env,p.1.length+p.2.length≤4611686018427387904)
  (hwk:∀ k∈U,k.path.length+k.data.length≤4611686018427387904) (EA KA:Option Addr) (ec kc:Nat) (hre:Rd w 2 EA env.length (setV env)) (hrk:Rd w 3 KA U.length (kV U)) (h1:wideL env U text=false) (hok:(checkT mayB text).1=0) :
  Calls Tryz.prog 3 #[.string (strB text),.slice EA env.length ec,.slice KA U.length kc] w fun e w'=>e = .returned (.bool true)∧Below w.heap.size w w':=by
 obtain⟨X,hX⟩:∃ X,X=strB text:=⟨_,rfl⟩
 obtain⟨un,hun⟩:∃ n,n=U.length:=⟨_,rfl⟩
 obtain⟨en,hen⟩:∃ n,n=env.length:=⟨_,rfl⟩
 have CW1:=hid2 (show ∀ w2,Below w.heap.size w w2→Calls Tryz.prog 10 #[.string X,.slice EA en ec,.slice KA un kc] w2 fun e w'=>e = .returned (.bool false)∧Below w2.heap.size w2 w' from fun w2 hb=>by
  have:=wide_any w2 EA KA ec kc env U text hwe hwk (hre.below_all hb) (hrk.below_all hb)
  rw [h1] at this
  rw [hX,hun,hen]
  exact this)
 have CAL:=hid2 (alive_any w hl)
 obtain⟨htx,henv,hul,huk,hev⟩:=not_wide h1
 obtain⟨v,hv⟩:∃ v:Env,v=⟨mayB,env⟩:=⟨_,rfl⟩
 have hmi:Mild v U text:=by rw [hv];exact mild_of htx (by omega) huk henv hev
 obtain⟨cs,hcs⟩:∃ cs,cs=cmdsOf mayB (linesT text):=⟨_,rfl⟩
 have hin:Inv U (PS.start cs):=by
  have:=hmi.start hok
  rw [hcs]
  exact this
 have HCS:=hid2 (show ∀ c∈cs,Named c∧CmdOk c from fun c hc=>by
  rw [hcs] at hc
  obtain⟨x,hx,hr⟩:=cmdsOf_mem hc
  exact readC_ok hr (by have:=linesT_le hx;omega))
 have CST:=hid2 (show ∀ w2,Below w.heap.size w w2→Calls Tryz.prog 11 #[.string X,.slice EA en ec] w2 fun e w'=>∃ L:RLay,e = .returned (.tuple #[.pointer (some ⟨L.R,0,none⟩),.int .i64 0])∧L.B=w2.heap.size∧RunIs w' L v none (PS.start cs)∧Below w2.heap.size w2 w' from fun w2 hb=>by
  rw [hX,hcs,hen,hv]
  refine (start_ok w2 ⟨mayB,env⟩ (by rw [← hv];exact hmi.env) text (by omega) (hl.on hb).lib hok EA ec (hre.below_all hb)).mono fun e w' k=>?_
  rcases k with ⟨h1,_⟩ | ⟨_,L,h2,h3,h4,h5⟩
  ·exact absurd hok h1
  ·refine⟨L,h2,h3,h4,?_⟩
   have:=h5.below
   rwa [h3] at this)
 have CFR:=hid2 (show ∀ (w2:World) (K:List KE) (KB:Option Addr) (kd:Nat),Below w.heap.size w w2→K.length≤1000000→(∀ k∈K,k.path.length≤1000000∧k.data.length≤100000)→Rd w2 3 KB K.length (kV K)→Calls Tryz.prog 13 #[.string X,.slice EA en ec,.slice KB K.length kd] w2 (StPost w2 (farL v (orK K) (K.length+1) cs RS.start)) from fun w2 K KB kd hb hk hkd hr=>by
  rw [hX,hv,hcs]
  exact rfar_any w2 text (by omega) hok EA en ec KB K.length kd env hen (by omega) (by rw [hen];exact hre.below_all hb) (fun x hx=>by have:=hev x hx;omega) K rfl hk hkd hr (K.length+1) (Nat.lt_succ_self _))
 have HL:=hid2 hl
 have HMI:=hid2 hmi
 have HIN:=hid2 hin
 have HUK:=hid2 huk
 have HRK:=hid2 hrk
 have HAN:=hid2 (show ∀ w2,Below w.heap.size w w2→∀ p,Calls Tryz.prog 15 #[.slice KA un kc,.string (strB p)] w2 fun e w'=>e = .returned (encK (ansU U p))∧Below w2.heap.size w2 w' from fun w2 hb p=>by
  rw [hun]
  exact answer_any w2 KA kc U hmi.len (HRK.out.below_all hb) p)
 rw [← hX,← hun,← hen]
 clear hl hwe hwk hre hrk hX hun hen h1 htx henv hul huk hev hmi hin hok hcs hv HRK
 go_enter Tryz.func3,Tryz.ntmps3
 go_upto_region 5 with (first
  | (go_at_call 9; refine CAL.out.mono ?_;rintro e w1 ⟨rfl,hb⟩;have HB:=hid2 hb;clear hb CAL)
  | (go_at_call 10; refine (CW1.out _ HB.out).mono ?_;rintro e w1 ⟨rfl,hb⟩;have HB:=hid2 (HB.out.trans (hb.mono HB.out.size));clear hb CW1)
  | (go_at_call 11; refine (CST.out _ HB.out).mono ?_;rintro e w1 ⟨rfl,hb⟩;have HB:=hid2 (HB.out.trans (hb.mono HB.out.size));clear hb CST)
  | (go_at_call 12; refine (CCK.out _).mono ?_;rintro e w1 ⟨rfl,hb⟩;have HB:=hid2 (HB.out.trans (hb.mono HB.out.size));clear hb CCK))
 go_upto_region 6 with (go_at_call 11; refine (CST.out _ HB.out).mono ?_;rintro e w2 ⟨L,rfl,hLB,hr,hb⟩;have HR:=hid2 hr;have HH:=hid2 ((HL.out.on HB.out).home hLB hb);have BB:=hid2 (show w.heap.size≤L.B from by rw [hLB];exact HB.out.size);have HB2:=hid2 (HB.out.trans (hb.mono HB.out.size));clear hb hLB hr CST)
 obtain⟨R,hR⟩:∃ R,R=L.R:=⟨_,rfl⟩
 rw [← hR]
 have ER:=hid2 hR
 clear hR
 go_wp2_with fail
 go_loopg [11,12] 501 (fun gk kv iv wr=>∃ (K:List KE) (KB:Option Addr) (kd:Nat) (S:PS) (q:Option Nat) (E:List DE),K.length+gk=501∧kv = .slice KB K.length kd∧iv = .int .i64 (writesOf E).length∧Own wr L.B 41 3 KB K.length kd (kV K)∧FarInv U v cs K S E∧FitDo S.over∧RunIs wr L v q S∧Home wr L∧Below w.heap.size w wr∧(∀ k∈K,k.path.length≤1000000∧k.data.length≤100000))
 case atStart=>exact⟨[],none,0,PS.start cs,none,[],rfl,rfl,rfl,Own.nil _ _ _ _,FarInv.begin HIN.out,fit_fail 0 0 (by decide) (by decide),HR.out,HH.out,HB2.out,fun k hk=>by cases hk⟩
 case round =>
  obtain⟨K,KB,kd,S,q,E,hgk,rfl,rfl,hown,hfi,hfo,hrun,hhome,hbe,hkd⟩:=hrel
  have hlen:=hfi.len
  obtain⟨r,hr⟩:∃ r,r=farL v (orK K) (K.length+1) cs RS.start:=⟨_,rfl⟩
  obtain⟨s1,E1,hl1,hrs,hv1,hw1,hf1,hwr,hle,hnx⟩:=hfi.far HCS.out (Nat.lt_succ_self K.length) hr
  have cF:=CFR.out wr K KB kd hbe (by omega) hkd hown.rd
  rw [← hr] at cF
  obtain⟨kn,hkn⟩:∃ n,n=K.length:=⟨_,rfl⟩
  rw [← hkn] at cF hown hgk ⊢
  have hil:(kn:Int)≤500:=by omega
  have CF:=hid2 cF
  have HOWN:=hid2 hown
  have HFI:=hid2 hfi
  have HFO:=hid2 hfo
  have HRUN:=hid2 hrun
  have HHM:=hid2 hhome
  have HBE:=hid2 hbe
  have HKD:=hid2 hkd
  have HKN:=hid2 hkn
  have HGK:=hid2 hgk
  have HL1:=hid2 hl1
  have HRS:=hid2 hrs
  have HV1:=hid2 hv1
  have HW1:=hid2 hw1
  have HF1:=hid2 hf1
  have HWR:=hid2 hwr
  have HLE:=hid2 hle
  have HNX:=hid2 hnx
  clear hown hfi hfo hrun hhome hbe hkd hkn hgk hlen hr hl1 hrs hv1 hw1 hf1 hwr hle hnx cF
  have hF7:∀ {a b c d e f g:Value} {cs:Array Value},cs.size=7→0+[a,b,c,d,e,f,g].length≤cs.size:=fun h=>by rw [h];exact Nat.le_refl 7
  go_upto_region 12 with fail
  go_upto_region 13 with (first
   | (go_at_call 13; refine CF.out.mono ?_;rintro e wf ⟨B,AA,an,ac,AW,wn,wc,kk,P,D,yy,rfl,hq,hb⟩;have zf:=World.alloc_heap_new wf (.cells #[.string ⟨#[]⟩,.slice none 0 0,.slice none 0 0,.int .i64 0,.string ⟨#[]⟩,.string ⟨#[]⟩,.int .i64 0] 37);obtain⟨wg,hwg⟩:∃ x,wf.alloc (.cells #[.string ⟨#[]⟩,.slice none 0 0,.slice none 0 0,.int .i64 0,.string ⟨#[]⟩,.string ⟨#[]⟩,.int .i64 0] 37)=x:=⟨_,rfl⟩;obtain⟨g,hg⟩:∃ x,wf.heap.size=x:=⟨_,rfl⟩;rw [hwg,hg] at zf;have HQ:=hid2 hq;have HBF:=hid2 hb;have HWG:=hid2 hwg;have HG:=hid2 hg;have HZF:=hid2 zf;clear hq hb)
   | ((with_reducible refine wpList_store_lit g 0 (.agg #[.string B,.slice AA an ac,.slice AW wn wc,.int .i64 kk,.string P,.string D,.int .i64 yy]) [.string B,.slice AA an ac,.slice AW wn wc,.int .i64 kk,.string P,.string D,.int .i64 yy] rfl _ 37 zf (info_st _ _ _ _ _ _ _) (hF7 rfl) one_st ?_ ?_);exact⟨rfl,rfl⟩;rw [laid_st7 rfl]))
  obtain⟨wb,hwb⟩:∃ x,x=wg.setRow g #[.string B,.slice AA an ac,.slice AW wn wc,.int .i64 kk,.string P,.string D,.int .i64 yy]:=⟨_,rfl⟩
  rw [← hwb]
  have hbg:Below wf.heap.size wf wg:=by rw [← HWG.out];exact (Below.refl _ _).alloc (Nat.le_refl _) _
  have hbwb:Below wf.heap.size wf wb:=by rw [hwb];exact below_setRow hbg (Nat.le_of_eq HG.out) _
  have hbr:Below wr.heap.size wr wb:=HBF.out.trans (hbwb.mono HBF.out.size)
  have hzb:wb.heap[g]?=some (.cells #[.string B,.slice AA an ac,.slice AW wn wc,.int .i64 kk,.string P,.string D,.int .i64 yy] 37 (0,0)):=by rw [hwb];exact setRow_heap wg g _ _ _ _ HZF.out
  have hqb:RSA wb B AA an ac AW wn wc kk P D yy r:=by rw [hwb];exact (HQ.out.below hbg).put HZF.out (by decide) (by decide) _
  have HBR:=hid2 hbr
  have HZB:=hid2 hzb
  have HQB:=hid2 hqb
  clear hbg hbwb hbr hzb hqb hwb zf hwg hg HQ HBF HWG HG HZF
  have HWN:=hid2 (show wn=r.wrote.length from HQB.out.2.2.2.1)
  obtain⟨g0,hg0⟩:∃ g0,g0=gk:=⟨_,rfl⟩
  have HG0:=hid2 hg0
  clear hg0
  have HCG:=hid2 (show ∀ w2,TBut L.B wb w2→w2.cell? ⟨g,2,none⟩=some (.slice AW wn wc)∧w2.cell? ⟨g,3,none⟩=some (.int .i64 kk)∧w2.cell? ⟨g,4,none⟩=some (.string P)∧w2.cell? ⟨g,5,none⟩=some (.string D)∧w2.cell? ⟨g,6,none⟩=some (.int .i64 yy) from fun w2 hb=>by
   have h9:=(hb.cells _ _ _ _ HZB.out (by decide) (by decide)).trans HZB.out
   exact⟨cell_of_row w2 g 2 _ _ _ h9,cell_of_row w2 g 3 _ _ _ h9,cell_of_row w2 g 4 _ _ _ h9,cell_of_row w2 g 5 _ _ _ h9,cell_of_row w2 g 6 _ _ _ h9⟩)
  have HCD:=hid2 (show 0 < wn→∃ ab ao,AW=some ⟨ab,ao,none⟩∧∀ w2,TBut L.B wb w2→∀ j u,(doVs r.wrote)[j]?=some u→w2.cell? ⟨ab,ao+j,none⟩=some u from fun h0=>by
   have ho:=HQB.out.2.2.2.2.1
   obtain⟨ab,ao,rfl,hcw⟩:=ho.rd.2 (by omega)
   refine⟨ab,ao,rfl,fun w2 hb j u hu=>?_⟩
   obtain⟨_,_,cur,fr,hx⟩:=ho.block ab rfl
   have h1:=cell_of_row wb ab (ao+j) _ _ _ hx
   have h2:=cell_of_row w2 ab (ao+j) _ _ _ ((hb.cells _ _ _ _ hx (by decide) (by decide)).trans hx)
   rw [h2,← h1]
   exact hcw j u hu)
  try simp only [Act.put]
  go_wp2_with fail
  go_loopg [12] (wn - (writesOf E).length) (fun gj iv wq=>∃ (S2:PS) (q2:Option Nat) (E2:List DE),FarInv U v cs K S2 E2∧FitDo S2.over∧RunIs wq L v q2 S2∧Home wq L∧TBut L.B wb wq∧Leads v (orK K) (S2,E2) (s1,E1)∧(writesOf E2).length+gj=wn∧iv = .int .i64 (writesOf E2).length)
  case atStart=>exact⟨S,q,E,HFI.out,HFO.out,HRUN.out.below HBR.out,HHM.out.tbut (TBut.of_below HBR.out HHM.out.base),TBut.refl _ _,HL1.out,by have:=HWN.out;have:=HLE.out;omega,rfl⟩
  case round =>
   obtain⟨S2,q2,E2,hfi2,hfo2,hrun2,hhm2,htb2,hld2,hgj,hiv⟩:=hrel
   obtain⟨i,hi⟩:∃ i,i=(writesOf E2).length:=⟨_,rfl⟩
   rw [← hi] at hgj hiv
   subst hiv
   obtain⟨j,hj⟩:=hfi2.inv.stands v
   have hSI:=hfi2.inv.run (v:=v) j
   have hfd:=fit_run (v:=v) j hfi2.inv.ord hfo2
   have hsd:∀ k,Sound (S2.run v k):=fun k=>(hfi2.inv.run (v:=v) k).sound
   have hi0:(0:Int)≤i:=by omega
   have hwm:(wn:Int)≤9223372036854775807:=by
    have h1:=HQB.out.2.2.2.2.1.2.1
    have h2:=HQB.out.2.2.2.2.1.2.2.1
    unfold maxLen at h2
    omega
   have y2:=(HCG.out wr htb2).1
   have HGJ:=hid2 hgj
   have HHX:=hid2 hhm2
   have HTX:=hid2 htb2
   have HR2:=hid2 (show ∃ q,RunIs wr L v q S2 from ⟨q2,hrun2⟩)
   by_cases hlt:i < wn
   ·have hil:(i:Int) < wn:=by omega
    have hwl:(writesOf E2).length < (writesOf E1).length:=by rw [HWR.out,← HWN.out,← hi];exact hlt
    obtain⟨hat,E3,hfi3,hld3,hln3⟩:=hfi2.write hld2 HF1.out hj hwl
    rw [HWR.out,← hi] at hat
    rw [← hi] at hln3
    obtain⟨S,hS⟩:∃ S,S=S2.run v j:=⟨_,rfl⟩
    rw [← hS] at hSI hfd hat hfi3 hld3
    obtain⟨kx,hkx⟩:∃ kx:Int,kx=(nextV S).kind:=⟨_,rfl⟩
    obtain⟨P0,hP0⟩:∃ x,x=strB (nextV S).path:=⟨_,rfl⟩
    obtain⟨D0,hD0⟩:∃ x,x=strB (nextV S).data:=⟨_,rfl⟩
    obtain⟨wy,hwy⟩:∃ x:Int,x=(nextV S).why:=⟨_,rfl⟩
    have hdoa:doA (nextV S) = .agg #[.int .i64 kx,.string P0,.string D0,.int .i64 wy]:=by rw [hkx,hP0,hD0,hwy];rfl
    have CN:=hid2 (fun (w2:World) (q:Option Nat) (hr:RunIs w2 L v q S2) (hh:Home w2 L)=>show Calls Tryz.prog 14 #[.pointer (some ⟨R,0,none⟩)] w2 fun e w'=>e = .returned (.agg #[.int .i64 kx,.string P0,.string D0,.int .i64 wy])∧(∃ q,RunIs w' L v q S.next)∧TBut L.B w2 w' from by
     have:=next_any w2 L v HMI.out.env q S2 hr hh hsd j hj
     unfold NextPost at this
     rw [← hS,hdoa,ptrV,← ER.out] at this
     exact this)
    have hfv:=fit_nextV hSI.ord hfd
    have HNE:=hid2 (fun (w2:World)=>show (binOp .neq 35 (.agg #[.int .i64 kx,.string P0,.string D0,.int .i64 wy]) (.agg #[.int .i64 kx,.string P0,.string D0,.int .i64 wy])).run Tryz.prog w2 = .ok (.bool false) w2 from by
     rw [← hdoa]
     exact al_other _ hfv w2)
    obtain⟨g0,g1,g2,g3⟩:=doVs_get hat
    rw [← hkx] at g0
    rw [← hP0] at g1
    rw [← hD0] at g2
    rw [← hwy] at g3
    obtain⟨ab,ao,rfl,hcd⟩:=HCD.out (by omega)
    have HCE:=hid2 (show ∀ w2,TBut L.B wb w2→w2.cell? ⟨ab,ao+i * 4,none⟩=some (.int .i64 kx)∧w2.cell? ⟨ab,ao+i * 4+1,none⟩=some (.string P0)∧w2.cell? ⟨ab,ao+i * 4+2,none⟩=some (.string D0)∧w2.cell? ⟨ab,ao+i * 4+3,none⟩=some (.int .i64 wy) from fun w2 hb=>⟨hcd w2 hb _ _ g0,hcd w2 hb _ _ g1,hcd w2 hb _ _ g2,hcd w2 hb _ _ g3⟩)
    have HFI3:=hid2 hfi3
    have HLD3:=hid2 hld3
    have HLN3:=hid2 hln3
    have HFN:=hid2 (fit_next hfd)
    clear hfi2 hfo2 hrun2 hhm2 htb2 hld2 hgj hj hSI hfd hsd hwl hat hfi3 hld3 hln3 hS hkx hP0 hD0 hwy hdoa hfv g0 g1 g2 g3 hcd hi
    go_upto_region 15 with fail
    refine wp_region_lst 8 (by kernel_rfl) (by kernel_rfl) (by kernel_rfl) _ rfl (by kernel_rfl) (VV [some (.pointer (some ⟨R,0,none⟩)),some (.agg #[.int .i64 kx,.string P0,.string D0,.int .i64 wy]),some (.pointer (some ⟨g,2,none⟩)),some (.slice (some ⟨ab,ao,none⟩) wn wc),some (.int .i64 (i:Nat)),some (.pointer (some ⟨ab,ao+i * 4,none⟩)),some (.agg #[.int .i64 kx,.string P0,.string D0,.int .i64 wy]),some (.bool false)] (fun _ _ _=>False)) (fun X _ w2=>(X 1=false→∃ q,RunIs w2 L v q S2)∧(X 1=true→∃ q,RunIs w2 L v q S.next)∧Home w2 L∧TBut L.B wb w2) (fun a b=>TBut L.B a b) (fun _=>⟨fun _=>(let ⟨q,h⟩:=HR2.out;⟨q,h.below (Below.refl _ _).drew⟩),fun e=>absurd (show false=true from e) (by decide),HHX.out.tbut (TBut.refl _ _).drew,HTX.out.drew⟩) (fun j v w1 w2 hb hv=>VV.keep (fun h=>h.elim) hv) ?_ ?_
    ·refine of_allOps ⟨?_,?_,?_,?_,?_,?_,?_,?_,trivial⟩
     ·intro T2 w2 L2 u2 hM hli hcl hT hLe hN hO hE K hK
      have o7:T2[7]?=some (.pointer (some ⟨R,0,none⟩)):=hO 7 rfl
      clear hE hO hN hli hcl hT hLe
      refine step_plain0 rfl ?_
      go_simp
      exact hK _ _ rfl hM (TBut.refl _ _)
     ·intro T2 w2 L2 u2 hM hli hcl hT hLe hN hO hE K hK
      obtain⟨v0,h0,e0,eu0⟩:=hE ⟨0,.data⟩ (by simp) rfl _ _ rfl rfl
      rw [show v0 = .pointer (some ⟨R,0,none⟩) from e0] at h0 eu0
      clear hE hO hN
      refine step_plain0 rfl ?_
      go_simp
      obtain⟨hx1,_,hm3,hm4⟩:=hM
      obtain⟨qm,hrm⟩:=hx1 hli
      refine (CN.out w2 qm hrm hm3).mono ?_
      rintro e w3 ⟨rfl,hq3,hb3⟩
      exact hK _ _ rfl ⟨fun e=>absurd (show true=false from e) (by decide),fun _=>hq3,hm3.tbut hb3,hm4.trans hb3⟩ hb3
     ·intro T2 w2 L2 u2 hM hli hcl hT hLe hN hO hE K hK
      have o13:T2[13]?=some (.pointer (some ⟨g,0,none⟩)):=hO 13 rfl
      clear hE hO hN hli hcl hT hLe
      refine step_plain0 rfl ?_
      go_simp
      exact hK _ _ rfl hM (TBut.refl _ _)
     ·intro T2 w2 L2 u2 hM hli hcl hT hLe hN hO hE K hK
      obtain⟨v2,h2,e2,eu2⟩:=hE ⟨2,.data⟩ (by simp) rfl _ _ rfl rfl
      rw [show v2 = .pointer (some ⟨g,2,none⟩) from e2] at h2 eu2
      clear hE hO hN hli hcl hT hLe eu2
      refine step_plain0 rfl ?_
      obtain⟨y2,y3,y4,y5,y6⟩:=HCG.out w2 hM.2.2.2
      go_simp
      exact hK _ _ rfl hM (TBut.refl _ _)
     ·intro T2 w2 L2 u2 hM hli hcl hT hLe hN hO hE K hK
      have o12:T2[12]?=some (.int .i64 (i:Nat)):=hO 12 rfl
      clear hE hO hN hli hcl hT hLe
      refine step_plain0 rfl ?_
      go_simp
      exact hK _ _ rfl hM (TBut.refl _ _)
     ·intro T2 w2 L2 u2 hM hli hcl hT hLe hN hO hE K hK
      obtain⟨v3,h3,e3,eu3⟩:=hE ⟨3,.data⟩ (by simp) rfl _ _ rfl rfl
      rw [show v3 = .slice (some ⟨ab,ao,none⟩) wn wc from e3] at h3 eu3
      obtain⟨v4,h4,e4,eu4⟩:=hE ⟨4,.data⟩ (by simp) rfl _ _ rfl rfl
      rw [show v4 = .int .i64 (i:Nat) from e4] at h4 eu4
      clear hE hO hN hli hcl hT hLe eu3 eu4
      refine step_plain0 rfl ?_
      go_simp
      exact hK _ _ rfl hM (TBut.refl _ _)
     ·intro T2 w2 L2 u2 hM hli hcl hT hLe hN hO hE K hK
      obtain⟨v5,h5,e5,eu5⟩:=hE ⟨5,.data⟩ (by simp) rfl _ _ rfl rfl
      rw [show v5 = .pointer (some ⟨ab,ao+i * 4,none⟩) from e5] at h5 eu5
      clear hE hO hN
      refine step_plain0 rfl ?_
      obtain⟨c0,c1,c2,c3⟩:=HCE.out w2 hM.2.2.2
      go_simp
      exact hK _ _ rfl hM (TBut.refl _ _)
     ·intro T2 w2 L2 u2 hM hli hcl hT hLe hN hO hE K hK
      obtain⟨v1,h1,e1,eu1⟩:=hE ⟨1,.data⟩ (by simp) rfl _ _ rfl rfl
      rw [show v1 = .agg #[.int .i64 kx,.string P0,.string D0,.int .i64 wy] from e1] at h1 eu1
      obtain⟨v6,h6,e6,eu6⟩:=hE ⟨6,.data⟩ (by simp) rfl _ _ rfl rfl
      rw [show v6 = .agg #[.int .i64 kx,.string P0,.string D0,.int .i64 wy] from e6] at h6 eu6
      clear hE hO hN
      refine step_plain0 rfl ?_
      have hq:=HNE.out w2
      go_simp
      exact hK _ _ rfl hM (TBut.refl _ _)
    ·intro u w2 hM hF
     have e7:u 7 = .bool false:=hF 7 (by omega)
     clear hF
     simp only [fillAll,Nat.reduceAdd,e7,List.take_succ_cons,List.take_zero,List.drop_succ_cons,List.drop_zero,List.setIfInBounds_toArray,List.set_cons_succ,List.set_cons_zero]
     obtain⟨_,hx2,hh2,ht2⟩:=hM
     obtain⟨q3,hr3⟩:=hx2 rfl
     have HR3:=hid2 hr3
     have HH3:=hid2 hh2
     have HT3:=hid2 ht2
     clear hx2 hh2 ht2 hr3
     go_wp2_with fail
     go_roundg (gk - 1)
     case rel=>exact⟨S.next,q3,E3,HFI3.out,HFN.out,HR3.out,HH3.out,HT3.out,HLD3.out,by have:=HGJ.out;rw [HLN3.out];omega,by rw [HLN3.out];go_num⟩
     case measure=>have:=HGJ.out;omega
   ·have hil:¬ (i:Int) < wn:=by omega
    have hwe:(writesOf E2).length=(writesOf E1).length:=by
     have h1:=HWN.out
     rw [HWR.out,← h1,← hi]
     omega
    obtain⟨hs1,he1,hfi4⟩:=hfi2.stop hld2 HF1.out hj hwe
    have hj1:=hj
    rw [hs1] at hSI hfd hj1
    have hdoa:doA (nextV s1) = .agg #[.int .i64 kk,.string P,.string D,.int .i64 yy]:=by
     obtain⟨_,_,_,_,_,x1,x2,x3,x4⟩:=HQB.out
     rw [HV1.out,x1,x2,x3,x4]
     rfl
    have hfv:=fit_nextV hSI.ord hfd
    have hsd1:∀ k,Sound (s1.run v k):=fun k=>(hSI.run (v:=v) k).sound
    have CNA:=hid2 (fun (w2:World) (q:Option Nat) (hr:RunIs w2 L v q S2) (hh:Home w2 L)=>show Calls Tryz.prog 14 #[.pointer (some ⟨R,0,none⟩)] w2 fun e w'=>e = .returned (.agg #[.int .i64 kk,.string P,.string D,.int .i64 yy])∧(∃ q,RunIs w' L v q s1)∧TBut L.B w2 w' from by
     have:=next_any w2 L v HMI.out.env q S2 hr hh hsd j hj
     unfold NextPost at this
     rw [hs1,HNX.out,hdoa,ptrV,← ER.out] at this
     exact this)
    have CNB:=hid2 (fun (w2:World) (q:Option Nat) (hr:RunIs w2 L v q s1) (hh:Home w2 L)=>show Calls Tryz.prog 14 #[.pointer (some ⟨R,0,none⟩)] w2 fun e w'=>e = .returned (.agg #[.int .i64 kk,.string P,.string D,.int .i64 yy])∧(∃ q,RunIs w' L v q s1)∧TBut L.B w2 w' from by
     have:=next_any w2 L v HMI.out.env q s1 hr hh hsd1 0 hj1
     unfold NextPost at this
     rw [show s1.run v 0=s1 from rfl,HNX.out,hdoa,ptrV,← ER.out] at this
     exact this)
    have HNE:=hid2 (fun (w2:World)=>show (binOp .neq 35 (.agg #[.int .i64 kk,.string P,.string D,.int .i64 yy]) (.agg #[.int .i64 kk,.string P,.string D,.int .i64 yy])).run Tryz.prog w2 = .ok (.bool false) w2 from by
     rw [← hdoa]
     exact al_other _ hfv w2)
    have HFI4:=hid2 hfi4
    have HFD:=hid2 hfd
    have HJ1:=hid2 hj1
    have HSD1:=hid2 hsd1
    have HII:=hid2 hi
    clear hfi2 hfo2 hrun2 hhm2 htb2 hld2 hgj hj hSI hfd hsd hwe hs1 he1 hfi4 hj1 hdoa hfv hsd1 hi
    go_upto_region 17 with fail
    refine wp_region_lst 12 (by kernel_rfl) (by kernel_rfl) (by kernel_rfl) _ rfl (by kernel_rfl) (VV [some (.pointer (some ⟨R,0,none⟩)),some (.agg #[.int .i64 kk,.string P,.string D,.int .i64 yy]),some (.pointer (some ⟨g,3,none⟩)),some (.agg #[.int .i64 kk,.string P,.string D,.int .i64 yy]),some (.bool false),some (.bool false),some (.pointer (some ⟨R,0,none⟩)),some (.agg #[.int .i64 kk,.string P,.string D,.int .i64 yy]),some (.pointer (some ⟨g,3,none⟩)),some (.agg #[.int .i64 kk,.string P,.string D,.int .i64 yy]),some (.bool false),some (.bool false)] (fun _ _ _=>False)) (fun X _ w2=>(X 1=false→∃ q,RunIs w2 L v q S2)∧(X 1=true→∃ q,RunIs w2 L v q s1)∧Home w2 L∧TBut L.B wb w2) (fun a b=>TBut L.B a b) (fun _=>⟨fun _=>(let ⟨q,h⟩:=HR2.out;⟨q,h.below (Below.refl _ _).drew⟩),fun e=>absurd (show false=true from e) (by decide),HHX.out.tbut (TBut.refl _ _).drew,HTX.out.drew⟩) (fun j v w1 w2 hb hv=>VV.keep (fun h=>h.elim) hv) ?_ ?_
    ·refine of_allOps ⟨?_,?_,?_,?_,?_,?_,?_,?_,?_,?_,?_,?_,trivial⟩
     ·intro T2 w2 L2 u2 hM hli hcl hT hLe hN hO hE K hK
      have o7:T2[7]?=some (.pointer (some ⟨R,0,none⟩)):=hO 7 rfl
      clear hE hO hN hli hcl hT hLe
      refine step_plain0 rfl ?_
      go_simp
      exact hK _ _ rfl hM (TBut.refl _ _)
     ·intro T2 w2 L2 u2 hM hli hcl hT hLe hN hO hE K hK
      obtain⟨v0,h0,e0,eu0⟩:=hE ⟨0,.data⟩ (by simp) rfl _ _ rfl rfl
      rw [show v0 = .pointer (some ⟨R,0,none⟩) from e0] at h0 eu0
      clear hE hO hN
      refine step_plain0 rfl ?_
      go_simp
      obtain⟨hx1,_,hm3,hm4⟩:=hM
      obtain⟨qm,hrm⟩:=hx1 hli
      refine (CNA.out w2 qm hrm hm3).mono ?_
      rintro e w3 ⟨rfl,hq3,hb3⟩
      exact hK _ _ rfl ⟨fun e=>absurd (show true=false from e) (by decide),fun _=>hq3,hm3.tbut hb3,hm4.trans hb3⟩ hb3
     ·intro T2 w2 L2 u2 hM hli hcl hT hLe hN hO hE K hK
      have o13:T2[13]?=some (.pointer (some ⟨g,0,none⟩)):=hO 13 rfl
      clear hE hO hN hli hcl hT hLe
      refine step_plain0 rfl ?_
      go_simp
      exact hK _ _ rfl hM (TBut.refl _ _)
     ·intro T2 w2 L2 u2 hM hli hcl hT hLe hN hO hE K hK
      obtain⟨v2,h2,e2,eu2⟩:=hE ⟨2,.data⟩ (by simp) rfl _ _ rfl rfl
      rw [show v2 = .pointer (some ⟨g,3,none⟩) from e2] at h2 eu2
      clear hE hO hN
      refine step_plain0 rfl ?_
      obtain⟨y2,y3,y4,y5,y6⟩:=HCG.out w2 hM.2.2.2
      go_simp
      exact hK _ _ rfl hM (TBut.refl _ _)
     ·intro T2 w2 L2 u2 hM hli hcl hT hLe hN hO hE K hK
      obtain⟨v1,h1,e1,eu1⟩:=hE ⟨1,.data⟩ (by simp) rfl _ _ rfl rfl
      rw [show v1 = .agg #[.int .i64 kk,.string P,.string D,.int .i64 yy] from e1] at h1 eu1
      obtain⟨v3,h3,e3,eu3⟩:=hE ⟨3,.data⟩ (by simp) rfl _ _ rfl rfl
      rw [show v3 = .agg #[.int .i64 kk,.string P,.string D,.int .i64 yy] from e3] at h3 eu3
      clear hE hO hN
      refine step_plain0 rfl ?_
      have hq:=HNE.out w2
      go_simp
      exact hK _ _ rfl hM (TBut.refl _ _)
     ·intro T2 w2 L2 u2 hM hli hcl hT hLe hN hO hE K hK
      obtain⟨v4,h4,e4,eu4⟩:=hE ⟨4,.data⟩ (by simp) rfl _ _ rfl rfl
      rw [show v4 = .bool false from e4] at h4 eu4
      clear hE hO hN hli hcl hT hLe eu4
      refine step_plain0 rfl ?_
      go_simp
      exact hK _ _ rfl hM (TBut.refl _ _)
     ·intro T2 w2 L2 u2 hM hli hcl hT hLe hN hO hE K hK
      have o7:T2[7]?=some (.pointer (some ⟨R,0,none⟩)):=hO 7 rfl
      obtain⟨v5,h5,e5,eu5⟩:=hE ⟨5,.guard⟩ (by simp) rfl _ _ rfl rfl
      rw [show v5 = .bool false from e5] at h5 eu5
      clear hE hO hN hli hcl hT hLe eu5
      refine grd_met rfl rfl rfl h5 ?_
      go_simp
      exact hK _ _ rfl hM (TBut.refl _ _)
     ·intro T2 w2 L2 u2 hM hli hcl hT hLe hN hO hE K hK
      obtain⟨v6,h6,e6,eu6⟩:=hE ⟨6,.data⟩ (by simp) rfl _ _ rfl rfl
      rw [show v6 = .pointer (some ⟨R,0,none⟩) from e6] at h6 eu6
      obtain⟨v5,h5,e5,eu5⟩:=hE ⟨5,.guard⟩ (by simp) rfl _ _ rfl rfl
      rw [show v5 = .bool false from e5] at h5 eu5
      clear hE hO hN
      refine grd_met rfl rfl rfl h5 ?_
      have h5L:L2 5=true:=hLe ⟨5,.guard⟩ (by simp) rfl
      have h1L:L2 1=true:=path_listed hcl [4,1] 5 (by kernel_rfl) h5L 1 (by simp)
      go_simp
      obtain⟨_,hx2,hm3,hm4⟩:=hM
      obtain⟨qm,hrm⟩:=hx2 h1L
      refine (CNB.out w2 qm hrm hm3).mono ?_
      rintro e w3 ⟨rfl,hq3,hb3⟩
      exact hK _ _ rfl ⟨fun e=>absurd (h1L.symm.trans (show L2 1=false from e)) (by decide),fun _=>hq3,hm3.tbut hb3,hm4.trans hb3⟩ hb3
     ·intro T2 w2 L2 u2 hM hli hcl hT hLe hN hO hE K hK
      have o13:T2[13]?=some (.pointer (some ⟨g,0,none⟩)):=hO 13 rfl
      obtain⟨v5,h5,e5,eu5⟩:=hE ⟨5,.guard⟩ (by simp) rfl _ _ rfl rfl
      rw [show v5 = .bool false from e5] at h5 eu5
      clear hE hO hN hli hcl hT hLe eu5
      refine grd_met rfl rfl rfl h5 ?_
      go_simp
      exact hK _ _ rfl hM (TBut.refl _ _)
     ·intro T2 w2 L2 u2 hM hli hcl hT hLe hN hO hE K hK
      obtain⟨v8,h8,e8,eu8⟩:=hE ⟨8,.data⟩ (by simp) rfl _ _ rfl rfl
      rw [show v8 = .pointer (some ⟨g,3,none⟩) from e8] at h8 eu8
      obtain⟨v5,h5,e5,eu5⟩:=hE ⟨5,.guard⟩ (by simp) rfl _ _ rfl rfl
      rw [show v5 = .bool false from e5] at h5 eu5
      clear hE hO hN
      refine grd_met rfl rfl rfl h5 ?_
      obtain⟨y2,y3,y4,y5,y6⟩:=HCG.out w2 hM.2.2.2
      go_simp
      exact hK _ _ rfl hM (TBut.refl _ _)
     ·intro T2 w2 L2 u2 hM hli hcl hT hLe hN hO hE K hK
      obtain⟨v7,h7,e7,eu7⟩:=hE ⟨7,.data⟩ (by simp) rfl _ _ rfl rfl
      rw [show v7 = .agg #[.int .i64 kk,.string P,.string D,.int .i64 yy] from e7] at h7 eu7
      obtain⟨v9,h9,e9,eu9⟩:=hE ⟨9,.data⟩ (by simp) rfl _ _ rfl rfl
      rw [show v9 = .agg #[.int .i64 kk,.string P,.string D,.int .i64 yy] from e9] at h9 eu9
      obtain⟨v5,h5,e5,eu5⟩:=hE ⟨5,.guard⟩ (by simp) rfl _ _ rfl rfl
      rw [show v5 = .bool false from e5] at h5 eu5
      clear hE hO hN
      refine grd_met rfl rfl rfl h5 ?_
      have hq:=HNE.out w2
      go_simp
      exact hK _ _ rfl hM (TBut.refl _ _)
     ·intro T2 w2 L2 u2 hM hli hcl hT hLe hN hO hE K hK
      obtain⟨v5,h5,e5,eu5⟩:=hE ⟨5,.data⟩ (by simp) rfl _ _ rfl rfl
      rw [show v5 = .bool false from e5] at h5 eu5
      obtain⟨v10,h10,e10,eu10⟩:=hE ⟨10,.data⟩ (by simp) rfl _ _ rfl rfl
      rw [show v10 = .bool false from e10] at h10 eu10
      clear hE hO hN hli hcl hT hLe eu5 eu10
      refine step_plain0 rfl ?_
      go_simp
      exact hK _ _ rfl hM (TBut.refl _ _)
    ·intro u w6 hM hF
     have e11:u 11 = .bool false:=hF 11 (by omega)
     clear hF
     simp only [fillAll,Nat.reduceAdd,e11,List.take_succ_cons,List.take_zero,List.drop_succ_cons,List.drop_zero,List.setIfInBounds_toArray,List.set_cons_succ,List.set_cons_zero]
     obtain⟨_,hx2,hh2,ht2⟩:=hM
     obtain⟨q3,hr3⟩:=hx2 rfl
     have hb6:Below w.heap.size w w6:=(HBE.out.trans (HBR.out.mono HBE.out.size)).trans (ht2.below.mono BB.out)
     obtain⟨y2,y3,y4,y5,y6⟩:=HCG.out w6 ht2
     have HR3:=hid2 hr3
     have HH3:=hid2 hh2
     have HT3:=hid2 ht2
     have HB6:=hid2 hb6
     have hkk:(s1.waits=true∧kk=1∧P=strB s1.asks)∨((kk=3∨kk=4)):=by
      obtain⟨_,_,_,_,_,x1,x2,_,_⟩:=HQB.out
      rw [← HV1.out] at x1 x2
      cases hwt:s1.waits with
      | true =>
       rw [nextV,if_pos hwt] at x1 x2
       exact .inl ⟨rfl,x1,x2⟩
      | false =>
       rw [nextV,if_neg (by rw [hwt];simp)] at x1
       rcases HW1.out with h | h | h
       ·rw [hwt] at h;cases h
       ·rw [h] at x1;exact .inr (.inl x1)
       ·rw [h] at x1;exact .inr (.inr x1)
     clear hx2 hh2 ht2 hr3 hb6
     rcases hkk with ⟨hwt,hk1,hp0⟩ | hk34
     ·have hal:=HFI4.out.inv.ord.lim.asks
      have hwts:=HFI4.out.inv.ord.waits hwt
      have hdat:=HMI.out.ans s1.asks
      have hkeq:∃ (kb:Bool) (K0 K1:ByteArray),encK (ansU U s1.asks) = .agg #[.string K0,.bool kb,.string K1]:=⟨_,_,_,rfl⟩
      obtain⟨kb,K0,K1,hke⟩:=hkeq
      have hkv:kV K++[.string K0,.bool kb,.string K1]=kV (K++[ansU U s1.asks]):=by
       rw [kV_snoc]
       unfold encK at hke
       injection hke with hke
       have hke:=congrArg Array.toList hke
       simp only at hke
       rw [← hke]
      have CA:=hid2 (fun (w2:World) (hb:Below w.heap.size w w2)=>show Calls Tryz.prog 15 #[.slice KA un kc,.string P] w2 fun e w'=>e = .returned (.agg #[.string K0,.bool kb,.string K1])∧Below w2.heap.size w2 w' from by
       have:=HAN.out w2 hb s1.asks
       rw [← hp0,hke] at this
       exact this)
      have CG:=hid2 (fun (w2:World) (q:Option Nat) (hr:RunIs w2 L v q s1) (hh:Home w2 L)=>show Calls Tryz.prog 16 #[.pointer (some ⟨R,0,none⟩),.agg #[.string K0,.bool kb,.string K1]] w2 fun e w'=>e = .returned (.int .i64 0)∧(∃ q,RunIs w' L v q (s1.give (nrm (ansU U s1.asks))))∧TBut L.B w2 w' from by
       have hg:=give_any w2 L v HMI.out.env q s1 hr hh HSD1.out 0 HJ1.out (ansU U s1.asks) ⟨by rw [ansU_path];omega,by omega⟩ (fun _=>hwts.2.1)
       have hgv:PS.gave (s1.run v 0) (ansU U s1.asks)=(0,s1.give (nrm (ansU U s1.asks))):=gave_fit hwt (ansU_path _ _) hdat
       unfold GivePost at hg
       rw [hgv,ptrV,← ER.out,hke] at hg
       exact hg)
      obtain⟨E5,hfi5,hw5⟩:=HFI4.out.give hwt (fun p _=>by have:=HMI.out.ans p;omega) (ansU_path _ _)
      obtain⟨V,hV⟩:∃ V,V=kV K:=⟨_,rfl⟩
      have hown6:Own w6 L.B 41 3 KB kn kd V:=by
       rw [hV]
       exact (HOWN.out.below HBR.out (Nat.le_refl _)).tbut HT3.out (by decide) (by decide)
      rw [← hV] at hkv
      have HKV:=hid2 hkv
      have HFI5:=hid2 hfi5
      have HW5:=hid2 hw5
      have HO6:=hid2 hown6
      have HAL:=hid2 (show s1.asks.length≤1000000 from by omega)
      have HDA:=hid2 (show (ansU U s1.asks).data.length≤100000 from by omega)
      subst hk1
      clear hwt hp0 hal hwts hdat hke hkv hfi5 hw5 hV hown6
      go_upto_region 22 with (go_at_call 15; refine (CA.out w6 HB6.out).mono ?_;rintro e w7 ⟨rfl,hb7⟩;have HB7:=hid2 hb7;clear hb7 CA)
      obtain⟨w8,hw8⟩:∃ w8,w8=w7.alloc (.cells #[.string K0,.bool kb,.string K1] 41):=⟨_,rfl⟩
      have hb8:Below w6.heap.size w6 w8:=by rw [hw8];exact HB7.out.alloc HB7.out.size _
      have hk8:w8.heap[w7.heap.size]?=some (.cells #[.string K0,.bool kb,.string K1] 41 (0,0)):=by rw [hw8];exact World.alloc_heap_new w7 _
      rw [← hw8]
      have hown8:=HO6.out.below hb8 (Nat.le_refl _)
      have hg78:w6.heap.size≤w7.heap.size:=HB7.out.size
      obtain⟨g4,hg4⟩:∃ g4,g4=w7.heap.size:=⟨_,rfl⟩
      rw [← hg4] at hk8 hg78 ⊢
      have hgne:blockOf KB≠some g4:=fun e=>by have:=(HO6.out.block _ e).2.1;omega
      have z0:w8.cell? ⟨g4,0,none⟩=some (.string K0):=cell_of_row w8 g4 0 _ _ _ hk8
      have z1:w8.cell? ⟨g4,1,none⟩=some (.bool kb):=cell_of_row w8 g4 1 _ _ _ hk8
      have z2:w8.cell? ⟨g4,2,none⟩=some (.string K1):=cell_of_row w8 g4 2 _ _ _ hk8
      have HH8:=hid2 (HH3.out.tbut (TBut.of_below hb8 HH3.out.base))
      have HR8:=hid2 (HR3.out.below hb8)
      have HB8:=hid2 (HB6.out.trans (hb8.mono HB6.out.size))
      have HK8:=hid2 hk8
      have HO8:=hid2 hown8
      clear hw8 hb8 hk8 hown8 hg78 hg4 hgne
      go_upto_region 24 with (go_at_call 16; refine (CG.out w8 q3 HR8.out HH8.out).mono ?_;rintro e w9 ⟨rfl,⟨q9,hr9⟩,hb9⟩;have HR9:=hid2 hr9;have HB9:=hid2 hb9;clear hr9 hb9 CG z0 z1 z2)
      have hk9:=(HB9.out.cells _ _ _ _ HK8.out (by decide) (by decide)).trans HK8.out
      have z0:w9.cell? ⟨g4,0,none⟩=some (.string K0):=cell_of_row w9 g4 0 _ _ _ hk9
      have z1:w9.cell? ⟨g4,1,none⟩=some (.bool kb):=cell_of_row w9 g4 1 _ _ _ hk9
      have z2:w9.cell? ⟨g4,2,none⟩=some (.string K1):=cell_of_row w9 g4 2 _ _ _ hk9
      have hownx:=HO8.out.tbut HB9.out (by decide) (by decide)
      have hbx:Below w.heap.size w w9:=HB8.out.trans (HB9.out.below.mono BB.out)
      have HOX:=hid2 hownx
      have HBX:=hid2 hbx
      have hbsz:=hbx.size
      have hh9:=HH8.out.tbut HB9.out
      have hbs9:L.B≤w9.heap.size:=hh9.base
      have HH9:=hid2 hh9
      clear hh9
      have hone:∀ u∈[Value.string K0,.bool kb,.string K1],u.oneCell'=true:=by simp [Value.oneCell']
      have hkn5:kn≤500:=by have:=HGK.out;have:=HFI.out.len;have:=HKN.out;omega
      clear hk9 hbx
      go_wp2_with (at_builtin;have _t:=hownx;go_must ((with_reducible refine wpList_append_lit 41 (.agg #[.string ⟨#[]⟩,.bool false,.string ⟨#[]⟩]) 3 40 Tryz.underlying23 zero_knI rfl L.B KB kn kd V (hownx.alloc _) 1 [.string K0,.bool kb,.string K1] (.slice (some ⟨w9.heap.size,0,none⟩) 1 1) (Src.slice Tryz.underlying23 (Rd.of_lit w9 _ _ 3 1 (by decide) rfl)) hone ?_ ?_ ?_ ?_ ?_);(unfold maxLen;omega);omega;(simp;omega);exact⟨rfl,rfl⟩;intro A3 c3 w3 hown3 hgr3 hbl3;clear hownx))
      have hba:Below w9.heap.size w9 (w9.alloc (.cells #[.string K0,.bool kb,.string K1] 41)):=(Below.refl _ _).alloc (Nat.le_refl _) _
      have hb3:Below w.heap.size w w3:=(HBX.out.trans (hba.mono hbsz)).grown hgr3 (by simp;omega) (fun k e=>Nat.le_trans BB.out (HOX.out.block k e).1)
      have hbL:Below L.B w9 w3:=(hba.mono hbs9).grown hgr3 (by simp;omega) (fun k e=>(HOX.out.block k e).1)
      have hr3:RunIs w3 L v q9 (s1.give (nrm (ansU U s1.asks))):=by
       obtain⟨a1,a2,a3,hra⟩:=HR9.out
       exact⟨a1,a2,a3,(hra.below hba).grownKn hgr3 fun b e=>by
        obtain⟨_,_,cur,fr,hx⟩:=(HOX.out.alloc (.cells #[.string K0,.bool kb,.string K1] 41)).block b e
        exact⟨cur,fr,hx⟩⟩
      rw [HKV.out] at hown3
      have HR5:=hid2 hr3
      have HB5:=hid2 hb3
      have HH5:=hid2 (show Home w3 L from ⟨(HL.out.on hb3).lib,HH9.out.glob,Nat.le_trans HH9.out.base hbL.size,HH9.out.tabs.on hbL⟩)
      have HO5:=hid2 hown3
      clear hba hb3 hbL hr3 hown3 hgr3 hbl3 z0 z1 z2 _t hone
      go_roundg (g0 - 1)
      case rel =>
       have hlen5:(K++[ansU U s1.asks]).length=kn+1:=by rw [List.length_append,List.length_singleton,← HKN.out]
       refine⟨K++[ansU U s1.asks],A3,c3,s1.give (nrm (ansU U s1.asks)),q9,E5,by have:=HGK.out;have:=HG0.out;rw [hlen5];omega,by rw [hlen5],by rw [HW5.out,← HII.out],by rw [hlen5];exact HO5.out,HFI5.out,HFD.out,HR5.out,HH5.out,HB5.out,fun k hk=>?_⟩
       rcases List.mem_append.1 hk with h | h
       ·exact HKD.out k h
       ·have:k=ansU U s1.asks:=by simpa using h
        rw [this]
        exact⟨by rw [ansU_path];exact HAL.out,HDA.out⟩
      case measure=>have:=HG0.out;have:=HGK.out;have:=HFI.out.len;have:=HKN.out;omega
     ·rcases hk34 with hk3 | hk4
      ·subst hk3
       go_wp2_with fail
       refine bodyPost_ret (results_tmp rfl _ _ _) rfl ?_
       exact⟨rfl,HB6.out⟩
      ·subst hk4
       go_wp2_with fail
       refine bodyPost_ret (results_tmp rfl _ _ _) rfl ?_
       exact⟨rfl,HB6.out⟩
theorem goes_any (w:World) (env:List (TT × TT)) (U:List KE) (text:TT) (hl:Lib3 w) (hwe:∀ p∈env,p.1.length+p.2.length≤4611686018427387904)
  (hwk:∀ k∈U,k.path.length+k.data.length≤4611686018427387904) (EA KA:Option Addr) (ec kc:Nat) (hre:Rd w 2 EA env.length (setV env)) (hrk:Rd w 3 KA U.length (kV U)) :
  Calls Tryz.prog 3 #[.string (strB text),.slice EA env.length ec,.slice KA U.length kc] w fun e w'=>e = .returned (.bool true)∧Below w.heap.size w w':=by
 cases h1:wideL env U text with
 | true=>exact goes_wide w env U text hl hwe hwk EA KA ec kc hre hrk h1
 | false =>
  by_cases hok:(checkT mayB text).1=0
  ·exact goes_ok w env U text hl hwe hwk EA KA ec kc hre hrk h1 hok
  ·exact goes_bad w env U text hl hwe hwk EA KA ec kc hre hrk h1 hok
end Go.Proofs.YtnecjdhamohadaaGreatDoor
