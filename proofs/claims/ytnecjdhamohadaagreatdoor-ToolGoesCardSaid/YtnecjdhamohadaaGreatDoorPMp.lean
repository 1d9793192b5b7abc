/- A tool's run: one thing that is to be done. -/
import Derived.Test.YtnecjdhamohadaaGreatDoorPMo
import Derived.Test.YtnecjdhamohadaaGreatDoorPMd
set_option linter.unusedSimpArgs false
set_option linter.unusedVariables false
namespace Go.Proofs.YtnecjdhamohadaaGreatDoor
open Go.RowKit Go.Maps Go.Shelf
set_option maxRecDepth 100000
structure Sound (s:PS):Prop where
 lim:Lim s
 todo:s.todo.length≤10000000000
 seen:s.seen.length≤10000000
 lay:Lay s.todo
 cmds:∀ c,TaskE.cmd c∈s.todo→CmdFit c
structure Home (w:World) (L:RLay):Prop where
 lib:MaxL w
 glob:0 < L.B
 base:L.B≤w.heap.size
 tabs:Lib.TabBelow Tryz.prog L.B w "internal/strconv.uint64pow10" .u64 Lib.pow10Tab
theorem Home.tbut {w w':World} {L:RLay} (h:Home w L) (hb:TBut L.B w w'):Home w' L:=⟨h.lib.tbut hb h.glob,h.glob,Nat.le_trans h.base hb.size,h.tabs.on hb.below⟩
theorem Home.fitPop {w:World} {L:RLay} {s:PS} (h:Home w L) (hs:Sound s) {t:TaskE} {r:List TaskE} (ht:s.todo=t :: r):Fit w L { s with todo:=r } :=
 ⟨h.lib,h.glob,⟨hs.lim.buf,fun x hx=>hs.lim.tasks x (by rw [ht];simp [hx]),hs.lim.datas,hs.lim.seens,hs.lim.asks,hs.lim.less⟩,by have:=hs.todo;rw [ht] at this;simp at this;show r.length≤_;omega,by have:=hs.seen;show s.seen.length≤_;omega,h.base,h.tabs⟩
set_option maxHeartbeats 4000000 in
theorem start1_any (w:World) (L:RLay) (v:Env) (hv:EnvFit v) (q:Option Nat) (s:PS) (h:RunIs w L v q s) (hf:Fit w L s) (hcm:∀ t∈s.todo,t.isCmd=true) (c:CmdE) (hc:CmdFit c) (g1 g2:Nat) (h1:RBox w g1 L.R) (h2:CmdB w L.R g2 c) :
  Calls Tryz.prog 27 #[ptrV g1,ptrV g2] w fun e w'=>∃ q2,VPost w L v q2 (s.do_ v c) e w':=by
 obtain⟨A,cA,hcell,hown,_⟩:=h2
 have cD:=do_any w L v hv q s h hf hcm A cA c hc hown.rd hown.2.1
 obtain⟨R,hR⟩:∃ R,R=L.R:=⟨_,rfl⟩
 obtain⟨n,hn⟩:∃ n,n=c.ws.length:=⟨_,rfl⟩
 obtain⟨X0,hX0⟩:∃ X0,X0=strB c.rest:=⟨_,rfl⟩
 obtain⟨Pq,hPq⟩:∃ Pq:Ending→World→Prop,Pq=fun e w'=>∃ q2,VPost w L v q2 (s.do_ v c) e w':=⟨_,rfl⟩
 rw [ptrV,ptrV,← hPq]
 rw [ptrV,← hPq,← hn,← hX0,← hR] at cD
 have c1:w.cell? ⟨g1,0,none⟩=some (.pointer (some ⟨R,0,none⟩)):=by rw [hR];exact h1.cell
 have c2:w.cell? ⟨g2,0,none⟩=some (.slice A n cA):=by rw [hn];exact hcell.cell 0
 have c3:w.cell? ⟨g2,1,none⟩=some (.string X0):=by rw [hX0];exact hcell.cell 1
 have cD2:Calls Tryz.prog 28 #[.pointer (some ⟨R,0,none⟩),.agg #[.slice A n cA,.string X0]] w fun e w2=>e = .returned (.tuple #[])∧Pq (.returned (.tuple #[])) w2:=cD.mono fun e w2 k=>by
  have k0:=k
  rw [hPq] at k
  obtain⟨q2,k⟩:=k
  have e1:=k.1
  subst e1
  exact⟨rfl,k0⟩
 have CD:=hid2 cD2
 clear h hf hcm hc h1 hcell hown cD cD2 hR hn hX0 hPq hv
 go_enter Tryz.func27,Tryz.ntmps27
 go_wp2_with (go_at_call 28; refine CD.out.mono ?_;rintro e w6 ⟨rfl,hp⟩;have HP:=hid2 hp;clear hp)
 refine bodyPost_ret (results_none rfl _ _ _) rfl ?_
 exact HP.out
set_option maxHeartbeats 4000000 in
theorem ask1_any (w:World) (L:RLay) (v:Env) (q:Option Nat) (s:PS) (h:RunIs w L v q s) (hf:Fit w L s) (p:TT) (hp:p.length≤1000000) (th:ThenE) (hmap:th.noMap=true∨MapAt w L q s) (g1 g2 g3:Nat) (u:Value) (h1:CellB w g1 #[u] 79) (hth:ThenIs w L.R q u th) (h2:RBox w g2 L.R) (h3:SBox w g3 p) :
  Calls Tryz.prog 66 #[ptrV g1,ptrV g2,ptrV g3] w (VPost w L v q (s.then_ th ((getK s.known p).getD ⟨[],false,[]⟩))):=by
 have hB:=h.size
 obtain⟨A,c,us,hr⟩:=h
 obtain⟨hkb,M,hM,hMl,hMk⟩:=hr.known
 obtain⟨k0,hk0,hthen,hks⟩:∃ k0,(getM M p).getD noK=k0∧s.then_ th ((getK s.known p).getD ⟨[],false,[]⟩)=s.then_ th k0∧(k0.is=true→k0.data.length≤1000000):=by
  have h5:=hMk p
  cases hg:getM M p with
  | none =>
   rw [hg] at h5
   rw [← h5]
   exact⟨noK,rfl,rfl,fun e=>by cases e⟩
  | some k =>
   rw [hg] at h5
   refine⟨k,rfl,?_,fun hi=>?_⟩
   ·rw [← h5]
    exact PS.then_nrm s th k
   ·have h6:=hf.lim.datas p (nrm k) (by rw [← h5];rfl)
    rw [nrm,if_pos hi] at h6
    exact h6 rfl
 rw [hthen]
 have hfn:=fun (W:World) (hW:Below w.heap.size w W)=>then_any (v:=v) ⟨A,c,us,hr.below hW⟩ (hf.below hW) (hth.below hW) (hmap.imp id fun x=>x.below hW) k0 hks
 obtain⟨f,fi,ca,rfl,heg,hc⟩:=FnAt.calls hfn (Below.refl _ _)
 have eg:∀ (args:Array Value) (w:World),(callFunc f args).run Tryz.prog w = .ok (.enter f args) w:=heg
 obtain⟨F,hF⟩:∃ F,F=encK k0:=⟨_,rfl⟩
 have hmlt:=hM.lt
 have hRlt:=hr.run.lt
 have look:∀ w2,Below w.heap.size w w2→(Instr.lookup 60 (.map (some L.m)) (.string (strB p)) false).run Tryz.prog w2 = .ok F w2:=fun w2 hb=>by
  have:=(hM.below hb hmlt).look encK_inj Tryz.underlying9 Tryz.underlying60 noK (zero_known w2) (strB p) (by rw [strB_size];unfold maxLen;omega)
  rw [show (strB p).data.toList=p from by simp [strB],hk0] at this
  rw [hF]
  exact this
 have hc3:∀ w2,Below w.heap.size w w2→w2.cell? ⟨L.R,3,none⟩=some (.map (some L.m)):=fun w2 hb=>(hb.cell (p:=⟨L.R,3,none⟩) hRlt).trans (hr.cell 3).1
 obtain⟨Pq,hPq⟩:∃ Pq:Ending→World→Prop,Pq=VPost w L v q (s.then_ th k0):=⟨_,rfl⟩
 rw [← hF] at hc
 have hcall2:∀ W,Below w.heap.size w W→Calls Tryz.prog f (fi++#[F]++ca) W fun e w2=>e = .returned (.tuple #[])∧Pq (.returned (.tuple #[])) w2:=fun W hW=>(hc W hW).mono (R':=fun e w2=>e = .returned (.tuple #[])∧Pq (.returned (.tuple #[])) w2) fun e w2 k=>⟨k.1,by rw [hPq];have:=k.since hW hB;rw [k.1] at this;exact this⟩
 obtain⟨R,hR⟩:∃ R,R=L.R:=⟨_,rfl⟩
 obtain⟨m,hm⟩:∃ m,m=L.m:=⟨_,rfl⟩
 obtain⟨s0,hs0⟩:∃ s0,s0=strB p:=⟨_,rfl⟩
 rw [ptrV,ptrV,ptrV,← hPq]
 rw [← hR,← hm] at hc3
 rw [← hm,← hs0] at look
 have HCC:=hid2 (show ∀ w2,Below w.heap.size w w2→w2.cell? ⟨g1,0,none⟩=some (.func (.func f) fi ca)∧w2.cell? ⟨g2,0,none⟩=some (.pointer (some ⟨R,0,none⟩))∧w2.cell? ⟨g3,0,none⟩=some (.string s0) from fun w2 hb=>by
  rw [hR,hs0]
  exact⟨(h1.below hb).cell 0,(CellB.below h2 hb).cell 0,(CellB.below h3 hb).cell 0⟩)
 have LOOK:=hid2 look
 have C3:=hid2 hc3
 have HC:=hid2 hcall2
 clear hc hcall2 look hc3 hPq hF hM heg hk0 hp hR hm hs0 hr hMk hMl hth hthen hks hfn hmap h1 h2 h3 hf hkb hmlt hRlt hB
 go_enter Tryz.func66,Tryz.ntmps66
 go_wp2_with fail
 refine wp_region_rel 7 (by kernel_rfl) (by kernel_rfl) (by kernel_rfl) _ rfl (by kernel_rfl) (VV [some (.func (.func f) fi ca),some (.pointer (some ⟨R,0,none⟩)),some (.pointer (some ⟨R,0,none⟩)),some (.pointer (some ⟨R,3,none⟩)),some (.map (some m)),some (.string s0),some (F)] (fun _ _ _=>False)) (fun w2=>Below w.heap.size w w2) (fun a b=>Below a.heap.size a b) ((Below.refl _ w).drew) (fun j v w1 w2 hb hv=>VV.keep (fun h=>h.elim) hv) ?_ ?_
 ·refine of_allOps ⟨?_,?_,?_,?_,?_,?_,?_,trivial⟩
  ·refine⟨rfl,fun T2 w2 hM hN hO hE K hK=>?_⟩
   have o0:T2[0]?=some (.pointer (some ⟨g1,0,none⟩)):=hO 0 rfl
   clear hE hO hN
   have hcc:=(HCC.out w2 hM).1
   go_simp
   exact hK _ _ rfl hM (Below.refl _ _)
  ·refine⟨rfl,fun T2 w2 hM hN hO hE K hK=>?_⟩
   have o1:T2[1]?=some (.pointer (some ⟨g2,0,none⟩)):=hO 1 rfl
   clear hE hO hN
   have hcc:=(HCC.out w2 hM).2.1
   go_simp
   exact hK _ _ rfl hM (Below.refl _ _)
  ·refine⟨rfl,fun T2 w2 hM hN hO hE K hK=>?_⟩
   obtain⟨v1,h1,e1⟩:=hE ⟨1,.data⟩ (by simp) rfl _ _ rfl rfl
   rw [show v1 = .pointer (some ⟨R,0,none⟩) from e1] at h1
   clear hE hO hN
   go_simp
   exact hK _ _ rfl hM (Below.refl _ _)
  ·refine⟨rfl,fun T2 w2 hM hN hO hE K hK=>?_⟩
   obtain⟨v2,h2,e2⟩:=hE ⟨2,.data⟩ (by simp) rfl _ _ rfl rfl
   rw [show v2 = .pointer (some ⟨R,0,none⟩) from e2] at h2
   clear hE hO hN
   go_simp
   exact hK _ _ rfl hM (Below.refl _ _)
  ·refine⟨rfl,fun T2 w2 hM hN hO hE K hK=>?_⟩
   obtain⟨v3,h3,e3⟩:=hE ⟨3,.data⟩ (by simp) rfl _ _ rfl rfl
   rw [show v3 = .pointer (some ⟨R,3,none⟩) from e3] at h3
   clear hE hO hN
   have hcc:=C3.out w2 hM
   go_simp
   exact hK _ _ rfl hM (Below.refl _ _)
  ·refine⟨rfl,fun T2 w2 hM hN hO hE K hK=>?_⟩
   have o2:T2[2]?=some (.pointer (some ⟨g3,0,none⟩)):=hO 2 rfl
   clear hE hO hN
   have hcc:=(HCC.out w2 hM).2.2
   go_simp
   exact hK _ _ rfl hM (Below.refl _ _)
  ·refine⟨rfl,fun T2 w2 hM hN hO hE K hK=>?_⟩
   obtain⟨v4,h4,e4⟩:=hE ⟨4,.data⟩ (by simp) rfl _ _ rfl rfl
   rw [show v4 = .map (some m) from e4] at h4
   obtain⟨v5,h5,e5⟩:=hE ⟨5,.data⟩ (by simp) rfl _ _ rfl rfl
   rw [show v5 = .string s0 from e5] at h5
   clear hE hO hN
   have hcc:=LOOK.out w2 hM
   go_simp
   exact hK _ _ rfl hM (Below.refl _ _)
 ·intro u w2 hM hF
  have e0:u 0 = .func (.func f) fi ca:=hF 0 (by omega)
  have e6:u 6=F:=hF 6 (by omega)
  clear hF
  simp only [fillAll,Nat.reduceAdd,e0,e6,List.take_succ_cons,List.take_zero,List.drop_succ_cons,List.drop_zero,List.setIfInBounds_toArray,List.set_cons_succ,List.set_cons_zero]
  have HMM:=hid2 hM
  clear hM
  go_wp2_with fail
  refine (HC.out w2 HMM.out).mono ?_
  rintro e w5 ⟨rfl,hp⟩
  have HP:=hid2 hp
  clear hp
  go_wp2_with fail
  refine bodyPost_ret (results_none rfl _ _ _) rfl ?_
  exact HP.out
theorem start1_enters:Enters Tryz.prog 27:=enters_of Tryz.func27 (by kernel_rfl) rfl
theorem ask1_enters:Enters Tryz.prog 66:=enters_of Tryz.func66 (by kernel_rfl) rfl
theorem line_enters:Enters Tryz.prog 70:=enters_of Tryz.func70 (by kernel_rfl) rfl
theorem task_any (w:World) (L:RLay) (v:Env) (hv:EnvFit v) (q:Option Nat) (s:PS) (hs:Sound s) (hw:Home w L) (t:TaskE) (r:List TaskE) (ht:s.todo=t :: r) (h:RunIs w L v q { s with todo:=r }) (hmap:t.noMap=true∨MapAt w L q s) (u:Value) (hu:TaskIs w L.R q u t) :
  ∃ (f:Nat) (fi ca:Array Value),u = .func (.func f) fi ca∧Enters Tryz.prog f∧Calls Tryz.prog f (fi++ca) w fun e w'=>∃ q2,VPost w L v q2 (PS.task v { s with todo:=r } t) e w':=by
 have hf:=hw.fitPop hs ht
 have htm:t∈s.todo:=by rw [ht];simp
 have hok:=hs.lim.tasks t htm
 cases t with
 | cmd c =>
  obtain⟨g1,g2,e,h1,h2⟩:=hu
  refine⟨_,_,_,e,start1_enters,?_⟩
  have hlay:=hs.lay
  rw [ht] at hlay
  exact start1_any w L v hv q { s with todo:=r } h hf (hlay.under rfl) c (hs.cmds c htm) g1 g2 h1 h2
 | ans p th =>
  obtain⟨g1,g2,g3,u2,e,h1,h2,h3,h4⟩:=hu
  refine⟨_,_,_,e,ask1_enters,?_⟩
  have:=ask1_any w L v q { s with todo:=r } h hf p hok.1 th hmap g1 g2 g3 u2 h1 h2 h3 h4
  exact this.mono fun e w' k=>⟨q,k⟩
 | line x y =>
  obtain⟨g1,g2,g3,g4,e,h1,h2,h3,h4⟩:=hu
  refine⟨_,_,_,e,line_enters,?_⟩
  have hm:MapAt w L q s:=hmap.resolve_left (fun e=>by cases e)
  have:=line_any w L v hv.may q { s with todo:=r } h hf hm (by have:=hs.seen;show s.seen.length < _;omega) x y hok.1 g1 g2 g3 g4 h1 h2 h3 h4
  exact this.mono fun e w' k=>⟨q,k⟩
end Go.Proofs.YtnecjdhamohadaaGreatDoor
namespace Go.Proofs.YtnecjdhamohadaaGreatDoor
open Go.RowKit Go.Maps Go.Shelf
set_option maxRecDepth 100000
theorem PS.run_add (v:Env):∀ (a b:Nat) (s:PS),s.run v (a+b)=(s.run v a).run v b
 | 0,b,s=>by rw [Nat.zero_add];rfl
 | a+1,b,s=>by rw [show a+1+b=(a+b)+1 by omega,PS.run,PS.run,PS.run_add v a b]
theorem PS.run_succ (v:Env) (a:Nat) (s:PS):s.run v (a+1)=(s.run v a).step v:=by rw [PS.run_add];rfl
theorem RunAt.pop {w:World} {L:RLay} {v:Env} {q:Option Nat} {s:PS} {A:Option Addr} {c:Nat} {u:Value} {us:List Value} {t:TaskE} {r:List TaskE} (h:RunAt w L v q s A c (u :: us)) (ht:s.todo=t :: r) :
  RunAt (w.setCell ⟨L.R,0,none⟩ (.slice A r.length c)) L v q { s with todo:=r } A c us∧TBut L.B w (w.setCell ⟨L.R,0,none⟩ (.slice A r.length c)):=by
 have hlen:s.todo.length=r.length+1:=by rw [ht];rfl
 have hrun:=h.run
 unfold CellB at hrun
 have hb:TBut L.B w (w.setCell ⟨L.R,0,none⟩ (.slice A r.length c)):=TBut.setCell (TBut.refl _ _) hrun (.inl rfl) h.base _ _
 have hmap:∀ {α:Type} {enc:α→Value} {b m:Nat} {M:Tab α},MapIs w Tryz.prog 9 enc b m M→MapIs (w.setCell ⟨L.R,0,none⟩ (.slice A r.length c)) Tryz.prog 9 enc b m M:=fun hM=>hM.keep (Below.heap_setCell _ _ _ _ (cells_ne_map hM hrun))
 refine⟨⟨?_,h.base,?_,fun i t' hi=>?_,h.env.tbut hb (by decide) (by decide),?_,?_⟩,hb⟩
 ·unfold CellB
  rw [setCell_eq_setRow w L.R 0 _ _ _ _ hrun,setRow_heap w L.R _ _ _ _ hrun]
  rfl
 ·have h1:=h.row.take (k:=r.length) (by omega)
  have hul:us.length=r.length:=by have:=h.count;rw [hlen,List.length_cons] at this;omega
  have h2:(u :: us).reverse.take (r.length * 1)=us.reverse:=by
   rw [Nat.mul_one,List.reverse_cons,List.take_append_of_le_length (by rw [List.length_reverse];omega),List.take_of_length_le (by rw [List.length_reverse];omega)]
  rw [h2] at h1
  exact h1.setOther (p:=⟨L.R,0,none⟩) (h1.ne hrun (by decide)) _
 ·obtain⟨x,h1,h2⟩:=h.tasks (i+1) t' (by rw [ht,List.getElem?_cons_succ];exact hi)
  rw [List.getElem?_cons_succ] at h1
  exact⟨x,h1,h2.keep hb⟩
 ·obtain⟨h1,M,h2,h3⟩:=h.known
  exact⟨h1,M,hmap h2,h3⟩
 ·rcases h.seen with h1 | ⟨g,M,h1,h2,h3,h4,h5⟩
  ·exact .inl fun x hx=>h1 x (by rw [ht];simp [hx])
  ·exact .inr ⟨g,M,h1,h2,h3,hmap h4,h5⟩
theorem TaskIs.form {w:World} {R:Nat} {q:Option Nat} {u:Value} {t:TaskE} (h:TaskIs w R q u t):∃ f fi ca,u = .func (.func f) fi ca∧Enters Tryz.prog f:=by
 cases t with
 | cmd c =>
  obtain⟨g1,g2,e,_⟩:=h
  exact⟨_,_,_,e,start1_enters⟩
 | ans p th =>
  obtain⟨g1,g2,g3,u2,e,_⟩:=h
  exact⟨_,_,_,e,ask1_enters⟩
 | line x y =>
  obtain⟨g1,g2,g3,g4,e,_⟩:=h
  exact⟨_,_,_,e,line_enters⟩
def SettlePost (w:World) (L:RLay) (v:Env) (s:PS) (e:Ending) (w':World):Prop:=e = .returned (.tuple #[])∧(∃ q,RunIs w' L v q s)∧TBut L.B w w'
set_option maxHeartbeats 8000000 in
theorem settle_any (w:World) (L:RLay) (v:Env) (hv:EnvFit v) (q:Option Nat) (s:PS) (h:RunIs w L v q s) (hw:Home w L) (hP:∀ k,Sound (s.run v k)) (n:Nat) (hn:(s.run v n).Still) :
  Calls Tryz.prog 35 #[ptrV L.R] w (SettlePost w L v (s.run v n)):=by
 obtain⟨R,hR⟩:∃ R,R=L.R:=⟨_,rfl⟩
 obtain⟨Pq,hPq⟩:∃ Pq:Ending→World→Prop,Pq=SettlePost w L v (s.run v n):=⟨_,rfl⟩
 rw [ptrV,← hR,← hPq]
 have HPQ:=hid2 hPq
 have HR:=hid2 hR
 have HH:=hid2 h
 have HW:=hid2 hw
 have HP:=hid2 hP
 have HN:=hid2 hn
 have HV:=hid2 hv
 clear hPq hR h hw hP hn hv
 go_enter Tryz.func35,Tryz.ntmps35
 go_wp2_with fail
 go_loopg [2] n (fun gk nv wr=>∃ k q2,k+gk=n∧RunIs wr L v q2 (s.run v k)∧TBut L.B w wr)
 case atStart=>exact⟨0,q,by omega,HH.out,TBut.refl _ _⟩
 case round =>
  obtain⟨k,q2,hk,hr,hb⟩:=hrel
  have hsd:=HP.out k
  have hadd:=PS.run_add v k gk s
  rw [hk] at hadd
  have hsucc:=PS.run_succ v k s
  obtain⟨s',hs'⟩:∃ s',s'=s.run v k:=⟨_,rfl⟩
  rw [← hs'] at hr hsd hadd hsucc
  obtain⟨A,c,us,hra⟩:=hr
  have hrow:=hra.run
  rw [← HR.out] at hrow
  have c0:wr.cell? ⟨R,0,none⟩=some (.slice A s'.todo.length c):=hrow.cell 0
  have c5:wr.cell? ⟨R,5,none⟩=some (.bool s'.waits):=hrow.cell 5
  have c6:wr.cell? ⟨R,6,none⟩=some (.int .i64 s'.over.kind):=hrow.cell 6
  have f0:=(hra.cell 0).2
  rw [← HR.out] at f0
  by_cases hst:s'.Still
  ·have hfin:Pq (.returned (.tuple #[])) wr:=by
    rw [HPQ.out,hadd,PS.run_still hst]
    exact⟨rfl,⟨q2,A,c,us,hra⟩,hb⟩
   have HF:=hid2 hfin
   by_cases hkd:s'.over.kind=0
   ·have hwt:s'.waits=true:=by
     rcases hst with h1 | h1
     ·exact absurd hkd h1
     ·exact h1
    rw [hkd] at c6
    rw [hwt] at c5
    clear hfin hst hadd hsucc hs' hsd hra hrow hb hkd hwt c0 f0
    go_wp2_with fail
    refine bodyPost_ret (results_none rfl _ _ _) rfl ?_
    exact HF.out
   ·have hkd2:¬ ((s'.over.kind:Int)=0):=by omega
    obtain⟨kd,hkdd⟩:∃ kd:Int,kd=s'.over.kind:=⟨_,rfl⟩
    rw [← hkdd] at c6 hkd2
    have hkb:(kd == 0)=false:=by rw [beq_eq_false_iff_ne];exact hkd2
    clear hfin hst hadd hsucc hs' hsd hra hrow hb hkd hkdd c0 f0 c5
    go_wp2_with fail
    refine bodyPost_ret (results_none rfl _ _ _) rfl ?_
    exact HF.out
  ·obtain⟨hkd,hwt⟩:=not_still hst
   have hgk:gk≠0:=by
    rintro rfl
    have:=HN.out
    rw [hadd] at this
    exact hst this
   rw [hkd] at c6
   rw [hwt] at c5
   cases htd:s'.todo with
   | nil =>
    rw [htd] at c0 hrow
    have hstep:=step_nil (v:=v) hst htd
    have hfin:Pq (.returned (.tuple #[])) (wr.setRow R (runV A s'.todo.length c L.EA v.env.length L.ec s'.buf L.m s'.asks s'.waits ⟨3,[],[],0⟩)):=by
     have hsn:s.run v n={ s' with over:=⟨3,[],[],0⟩ }:=by
      have h1:k+1+(gk - 1)=n:=by omega
      have h2:=PS.run_add v (k+1) (gk - 1) s
      rw [h1,hsucc,hstep] at h2
      rw [h2]
      exact PS.run_still (.inl (by simp)) _
     rw [HPQ.out,hsn]
     have hb2:=TBut.setRow (TBut.refl L.B wr) hra.run (.inl rfl) hra.base (runV A s'.todo.length c L.EA v.env.length L.ec s'.buf L.m s'.asks s'.waits ⟨3,[],[],0⟩)
     rw [HR.out]
     exact⟨rfl,⟨q2,A,c,us,hra.cells (s':={ s' with over:=⟨3,[],[],0⟩ }) (setRow_heap wr L.R _ _ _ _ hra.run) (fun k hk=>setRow_other wr L.R k _ hk) hb2 rfl rfl rfl⟩,hb.trans hb2⟩
    obtain⟨cur,hcur⟩:∃ cur,cur=runV A ([]:List TaskE).length c L.EA v.env.length L.ec s'.buf L.m s'.asks s'.waits s'.over:=⟨_,rfl⟩
    have hsz:cur.size=10:=by rw [hcur];rfl
    have hld:laid cur 6 [.int .i64 3,.string ⟨#[]⟩,.string ⟨#[]⟩,.int .i64 0]=runV A s'.todo.length c L.EA v.env.length L.ec s'.buf L.m s'.asks s'.waits ⟨3,[],[],0⟩:=by rw [hcur,htd];rfl
    have hrow2:wr.heap[R]?=some (.cells cur 63 (0,0)):=by rw [hcur];exact hrow
    rw [← hld] at hfin
    have HF:=hid2 hfin
    have hfit:6+[Value.int .i64 3,.string ⟨#[]⟩,.string ⟨#[]⟩,.int .i64 0].length≤cur.size:=by rw [hsz];simp
    have hl0:([]:List TaskE).length=0:=rfl
    rw [hl0] at c0
    clear hfin hst hadd hsucc hs' hsd hra hrow hb hkd hwt htd hstep hcur hsz hld hgk f0 hl0
    go_wp2_with ((with_reducible refine wpList_store_lit R 6 (.agg #[.int .i64 3,.string ⟨#[]⟩,.string ⟨#[]⟩,.int .i64 0]) [.int .i64 3,.string ⟨#[]⟩,.string ⟨#[]⟩,.int .i64 0] (do_cells _ _ _ _) cur 63 hrow2 (info_do4 _ _ _ _) hfit one_do ?_ ?_);exact⟨rfl,rfl⟩)
    refine bodyPost_ret (results_none rfl _ _ _) rfl ?_
    exact HF.out
   | cons t r =>
    have hstep:=step_cons (v:=v) hst htd
    have hcnt:=hra.count
    obtain⟨u,us',rfl⟩:∃ u us',us=u :: us':=by
     cases us with
     | nil=>rw [htd] at hcnt;cases hcnt
     | cons u us'=>exact⟨u,us',rfl⟩
    obtain⟨u',hu',hti⟩:=hra.tasks 0 t (by rw [htd];rfl)
    rw [List.getElem?_cons_zero] at hu'
    obtain rfl:=Option.some.inj hu'
    obtain⟨f,fi,ca,rfl,heg⟩:=hti.form
    have eg:∀ (args:Array Value) (w:World),(callFunc f args).run Tryz.prog w = .ok (.enter f args) w:=heg
    obtain⟨m,hm⟩:∃ m,m=r.length:=⟨_,rfl⟩
    have hN:s'.todo.length=m+1:=by rw [htd,hm];rfl
    obtain⟨N,hNN⟩:∃ N,N=s'.todo.length:=⟨_,rfl⟩
    have hNm:N=m+1:=by omega
    obtain⟨tb,tof,rfl,hcell⟩:=hra.row.rd.2 (by omega)
    have cu:wr.cell? ⟨tb,tof+m,none⟩=some (.func (.func f) fi ca):=by
     refine hcell m _ ?_
     have hul:us'.length=m:=by rw [hN,List.length_cons] at hcnt;omega
     rw [List.reverse_cons,List.getElem?_append_right (by rw [List.length_reverse];omega),List.length_reverse,hul,Nat.sub_self]
     rfl
    have hml:N≤10000000000:=by have:=hsd.todo;omega
    have hcap:N≤c:=by have:=hra.row.2.1;omega
    rw [← hNN] at c0
    have htlt:=World.block_lt_of_cell? _ _ cu
    have hRlt:R < wr.heap.size:=hrow.lt
    have HC:=hid2 (show ∀ w2,Below wr.heap.size wr w2→w2.cell? ⟨R,0,none⟩=some (.slice (some ⟨tb,tof,none⟩) N c)∧w2.frozen? ⟨R,0,none⟩=false∧w2.cell? ⟨tb,tof+m,none⟩=some (.func (.func f) fi ca) from fun w2 hb2=>⟨(hb2.cell (p:=⟨R,0,none⟩) hRlt).trans c0,by
     have:=((hra.below hb2).cell 0).2
     rwa [← HR.out] at this,(hb2.cell (p:=⟨tb,tof+m,none⟩) htlt).trans cu⟩)
    have HT:=hid2 (show ∀ w2,Below wr.heap.size wr w2→Calls Tryz.prog f (fi++ca) (w2.setCell ⟨R,0,none⟩ (.slice (some ⟨tb,tof,none⟩) m c)) fun e w'=>e = .returned (.tuple #[])∧(∃ q3,RunIs w' L v q3 (s.run v (k+1)))∧TBut L.B w w' from fun w2 hb2=>by
     have hp:=(hra.below hb2).pop htd
     have hb3:=(hb.trans (TBut.of_below hb2 (Nat.le_trans hra.base (Nat.le_of_lt hra.run.lt)))).trans hp.2
     have hmap:t.noMap=true∨MapAt (w2.setCell ⟨L.R,0,none⟩ (.slice (some ⟨tb,tof,none⟩) r.length c)) L q2 s':=by
      rcases hra.seen with h1 | h1
      ·exact .inl (h1 t (by rw [htd];simp))
      ·exact .inr ((MapAt.below (w:=wr) (s:=s') h1 hb2).setCell ((hra.below hb2).run) 0 _)
     obtain⟨f',fi',ca',e',_,hcall⟩:=task_any _ L v HV.out q2 s' hsd (HW.out.tbut hb3) t r htd ⟨_,_,_,hp.1⟩ hmap _ ((hti.keep (TBut.of_below (B:=0) hb2 (Nat.zero_le _))).keep hp.2)
     injection e' with e1 e2 e3
     injection e1 with e1
     subst e1 e2 e3
     rw [HR.out,hm]
     refine hcall.mono fun e w' x=>?_
     obtain⟨q3,x1,x2,x3⟩:=x
     refine⟨x1,⟨q3,?_⟩,hb3.trans x3⟩
     rw [hsucc,hstep]
     exact x2)
    have hwr:IntKind.i64.wrap ((N:Int) - 1)=(m:Int):=by
     rw [show (N:Int) - 1=(m:Int) by omega]
     exact IntWalk.i64_in _ (by constructor <;> omega)
    have hN0:((N:Int) == 0)=false:=by rw [beq_eq_false_iff_ne];omega
    have hN1:¬ (N:Int)=0:=by omega
    have hmi0:(0:Int)≤m:=by omega
    have hmi1:(m:Int) < N:=by omega
    have hmi2:(m:Int)≤c:=by omega
    have hK:=hid2 hk
    have hGK:=hid2 hgk
    have HNM:=hid2 hNm
    clear hst hadd hsucc hs' hsd hra hrow hb hkd hwt htd hstep hcnt hti heg hN hNN hcell cu hm hk hgk hNm f0
    go_wp2_with fail
    refine wp_region_rel 13 (by kernel_rfl) (by kernel_rfl) (by kernel_rfl) _ rfl (by kernel_rfl) (VV [some (.pointer (some ⟨R,0,none⟩)),some (.pointer (some ⟨R,0,none⟩)),some (.pointer (some ⟨R,0,none⟩)),some (.slice (some ⟨tb,tof,none⟩) N c),some (.pointer (some ⟨R,0,none⟩)),some (.pointer (some ⟨R,0,none⟩)),some (.pointer (some ⟨R,0,none⟩)),some (.slice (some ⟨tb,tof,none⟩) N c),some (.int .i64 N),some (.int .i64 m),some (.pointer (some ⟨tb,tof+m,none⟩)),some (.func (.func f) fi ca),some (.func (.func f) fi ca)] (fun _ _ _=>False)) (fun w2=>Below wr.heap.size wr w2) (fun a b=>Below a.heap.size a b) ((Below.refl _ wr).drew) (fun j v w1 w2 hb hv=>VV.keep (fun h=>h.elim) hv) ?_ ?_
    ·refine of_allOps ⟨?_,?_,?_,?_,?_,?_,?_,?_,?_,?_,?_,?_,?_,trivial⟩
     ·refine⟨rfl,fun T2 w2 hM hN hO hE K hK=>?_⟩
      have o0:T2[0]?=some (.pointer (some ⟨R,0,none⟩)):=hO 0 rfl
      clear hE hO hN
      go_simp
      exact hK _ _ rfl hM (Below.refl _ _)
     ·refine⟨rfl,fun T2 w2 hM hN hO hE K hK=>?_⟩
      obtain⟨v0,h0,e0⟩:=hE ⟨0,.data⟩ (by simp) rfl _ _ rfl rfl
      rw [show v0 = .pointer (some ⟨R,0,none⟩) from e0] at h0
      clear hE hO hN
      go_simp
      exact hK _ _ rfl hM (Below.refl _ _)
     ·refine⟨rfl,fun T2 w2 hM hN hO hE K hK=>?_⟩
      obtain⟨v1,h1,e1⟩:=hE ⟨1,.data⟩ (by simp) rfl _ _ rfl rfl
      rw [show v1 = .pointer (some ⟨R,0,none⟩) from e1] at h1
      clear hE hO hN
      go_simp
      exact hK _ _ rfl hM (Below.refl _ _)
     ·refine⟨rfl,fun T2 w2 hM hN hO hE K hK=>?_⟩
      obtain⟨v2,h2,e2⟩:=hE ⟨2,.data⟩ (by simp) rfl _ _ rfl rfl
      rw [show v2 = .pointer (some ⟨R,0,none⟩) from e2] at h2
      clear hE hO hN
      have hcc:=(HC.out w2 hM).1
      go_simp
      exact hK _ _ rfl hM (Below.refl _ _)
     ·refine⟨rfl,fun T2 w2 hM hN hO hE K hK=>?_⟩
      have o0:T2[0]?=some (.pointer (some ⟨R,0,none⟩)):=hO 0 rfl
      clear hE hO hN
      go_simp
      exact hK _ _ rfl hM (Below.refl _ _)
     ·refine⟨rfl,fun T2 w2 hM hN hO hE K hK=>?_⟩
      obtain⟨v4,h4,e4⟩:=hE ⟨4,.data⟩ (by simp) rfl _ _ rfl rfl
      rw [show v4 = .pointer (some ⟨R,0,none⟩) from e4] at h4
      clear hE hO hN
      go_simp
      exact hK _ _ rfl hM (Below.refl _ _)
     ·refine⟨rfl,fun T2 w2 hM hN hO hE K hK=>?_⟩
      obtain⟨v5,h5,e5⟩:=hE ⟨5,.data⟩ (by simp) rfl _ _ rfl rfl
      rw [show v5 = .pointer (some ⟨R,0,none⟩) from e5] at h5
      clear hE hO hN
      go_simp
      exact hK _ _ rfl hM (Below.refl _ _)
     ·refine⟨rfl,fun T2 w2 hM hN hO hE K hK=>?_⟩
      obtain⟨v6,h6,e6⟩:=hE ⟨6,.data⟩ (by simp) rfl _ _ rfl rfl
      rw [show v6 = .pointer (some ⟨R,0,none⟩) from e6] at h6
      clear hE hO hN
      have hcc:=(HC.out w2 hM).1
      go_simp
      exact hK _ _ rfl hM (Below.refl _ _)
     ·refine⟨rfl,fun T2 w2 hM hN hO hE K hK=>?_⟩
      obtain⟨v7,h7,e7⟩:=hE ⟨7,.data⟩ (by simp) rfl _ _ rfl rfl
      rw [show v7 = .slice (some ⟨tb,tof,none⟩) N c from e7] at h7
      clear hE hO hN
      go_simp
      exact hK _ _ rfl hM (Below.refl _ _)
     ·refine⟨rfl,fun T2 w2 hM hN hO hE K hK=>?_⟩
      obtain⟨v8,h8,e8⟩:=hE ⟨8,.data⟩ (by simp) rfl _ _ rfl rfl
      rw [show v8 = .int .i64 N from e8] at h8
      clear hE hO hN
      go_simp
      exact hK _ _ rfl hM (Below.refl _ _)
     ·refine⟨rfl,fun T2 w2 hM hN hO hE K hK=>?_⟩
      obtain⟨v3,h3,e3⟩:=hE ⟨3,.data⟩ (by simp) rfl _ _ rfl rfl
      rw [show v3 = .slice (some ⟨tb,tof,none⟩) N c from e3] at h3
      obtain⟨v9,h9,e9⟩:=hE ⟨9,.data⟩ (by simp) rfl _ _ rfl rfl
      rw [show v9 = .int .i64 m from e9] at h9
      clear hE hO hN
      go_simp
      exact hK _ _ rfl hM (Below.refl _ _)
     ·refine⟨rfl,fun T2 w2 hM hN hO hE K hK=>?_⟩
      obtain⟨v10,h10,e10⟩:=hE ⟨10,.data⟩ (by simp) rfl _ _ rfl rfl
      rw [show v10 = .pointer (some ⟨tb,tof+m,none⟩) from e10] at h10
      clear hE hO hN
      have hcc:=(HC.out w2 hM).2.2
      go_simp
      exact hK _ _ rfl hM (Below.refl _ _)
     ·refine⟨rfl,fun T2 w2 hM hN hO hE K hK=>?_⟩
      obtain⟨v11,h11,e11⟩:=hE ⟨11,.data⟩ (by simp) rfl _ _ rfl rfl
      rw [show v11 = .func (.func f) fi ca from e11] at h11
      clear hE hO hN
      go_simp
      exact hK _ _ rfl hM (Below.refl _ _)
    ·intro u w2 hM hF
     have e12:u 12 = .func (.func f) fi ca:=hF 12 (by omega)
     clear hF
     simp only [fillAll,Nat.reduceAdd,e12,List.take_succ_cons,List.take_zero,List.drop_succ_cons,List.drop_zero,List.setIfInBounds_toArray,List.set_cons_succ,List.set_cons_zero]
     have HM3:=hid2 hM
     obtain⟨wa,hwa⟩:∃ wa,wa=w2:=⟨_,rfl⟩
     rw [← hwa] at HM3 ⊢
     clear hM hwa
     go_wp2_with fail
     refine wp_region_rel 14 (by kernel_rfl) (by kernel_rfl) (by kernel_rfl) _ rfl (by kernel_rfl) (VV [some (.pointer (some ⟨R,0,none⟩)),some (.pointer (some ⟨R,0,none⟩)),some (.pointer (some ⟨R,0,none⟩)),some (.pointer (some ⟨R,0,none⟩)),some (.slice (some ⟨tb,tof,none⟩) N c),some (.pointer (some ⟨R,0,none⟩)),some (.pointer (some ⟨R,0,none⟩)),some (.pointer (some ⟨R,0,none⟩)),some (.slice (some ⟨tb,tof,none⟩) N c),some (.int .i64 N),some (.int .i64 m),some (.slice (some ⟨tb,tof,none⟩) m c),some (.pointer (some ⟨R,0,none⟩)),some (.pointer (some ⟨R,0,none⟩))] (fun _ _ _=>False)) (fun w2=>Below wr.heap.size wr w2) (fun a b=>Below a.heap.size a b) (HM3.out.drew) (fun j v w1 w2 hb hv=>VV.keep (fun h=>h.elim) hv) ?_ ?_
     ·refine of_allOps ⟨?_,?_,?_,?_,?_,?_,?_,?_,?_,?_,?_,?_,?_,?_,trivial⟩
      ·refine⟨rfl,fun T2 w2 hM hN hO hE K hK=>?_⟩
       have o0:T2[0]?=some (.pointer (some ⟨R,0,none⟩)):=hO 0 rfl
       clear hE hO hN
       go_simp
       exact hK _ _ rfl hM (Below.refl _ _)
      ·refine⟨rfl,fun T2 w2 hM hN hO hE K hK=>?_⟩
       have o0:T2[0]?=some (.pointer (some ⟨R,0,none⟩)):=hO 0 rfl
       clear hE hO hN
       go_simp
       exact hK _ _ rfl hM (Below.refl _ _)
      ·refine⟨rfl,fun T2 w2 hM hN hO hE K hK=>?_⟩
       obtain⟨v1,h1,e1⟩:=hE ⟨1,.data⟩ (by simp) rfl _ _ rfl rfl
       rw [show v1 = .pointer (some ⟨R,0,none⟩) from e1] at h1
       clear hE hO hN
       go_simp
       exact hK _ _ rfl hM (Below.refl _ _)
      ·refine⟨rfl,fun T2 w2 hM hN hO hE K hK=>?_⟩
       obtain⟨v2,h2,e2⟩:=hE ⟨2,.data⟩ (by simp) rfl _ _ rfl rfl
       rw [show v2 = .pointer (some ⟨R,0,none⟩) from e2] at h2
       clear hE hO hN
       go_simp
       exact hK _ _ rfl hM (Below.refl _ _)
      ·refine⟨rfl,fun T2 w2 hM hN hO hE K hK=>?_⟩
       obtain⟨v3,h3,e3⟩:=hE ⟨3,.data⟩ (by simp) rfl _ _ rfl rfl
       rw [show v3 = .pointer (some ⟨R,0,none⟩) from e3] at h3
       clear hE hO hN
       have hcc:=(HC.out w2 hM).1
       go_simp
       exact hK _ _ rfl hM (Below.refl _ _)
      ·refine⟨rfl,fun T2 w2 hM hN hO hE K hK=>?_⟩
       have o0:T2[0]?=some (.pointer (some ⟨R,0,none⟩)):=hO 0 rfl
       clear hE hO hN
       go_simp
       exact hK _ _ rfl hM (Below.refl _ _)
      ·refine⟨rfl,fun T2 w2 hM hN hO hE K hK=>?_⟩
       obtain⟨v5,h5,e5⟩:=hE ⟨5,.data⟩ (by simp) rfl _ _ rfl rfl
       rw [show v5 = .pointer (some ⟨R,0,none⟩) from e5] at h5
       clear hE hO hN
       go_simp
       exact hK _ _ rfl hM (Below.refl _ _)
      ·refine⟨rfl,fun T2 w2 hM hN hO hE K hK=>?_⟩
       obtain⟨v6,h6,e6⟩:=hE ⟨6,.data⟩ (by simp) rfl _ _ rfl rfl
       rw [show v6 = .pointer (some ⟨R,0,none⟩) from e6] at h6
       clear hE hO hN
       go_simp
       exact hK _ _ rfl hM (Below.refl _ _)
      ·refine⟨rfl,fun T2 w2 hM hN hO hE K hK=>?_⟩
       obtain⟨v7,h7,e7⟩:=hE ⟨7,.data⟩ (by simp) rfl _ _ rfl rfl
       rw [show v7 = .pointer (some ⟨R,0,none⟩) from e7] at h7
       clear hE hO hN
       have hcc:=(HC.out w2 hM).1
       go_simp
       exact hK _ _ rfl hM (Below.refl _ _)
      ·refine⟨rfl,fun T2 w2 hM hN hO hE K hK=>?_⟩
       obtain⟨v8,h8,e8⟩:=hE ⟨8,.data⟩ (by simp) rfl _ _ rfl rfl
       rw [show v8 = .slice (some ⟨tb,tof,none⟩) N c from e8] at h8
       clear hE hO hN
       go_simp
       exact hK _ _ rfl hM (Below.refl _ _)
      ·refine⟨rfl,fun T2 w2 hM hN hO hE K hK=>?_⟩
       obtain⟨v9,h9,e9⟩:=hE ⟨9,.data⟩ (by simp) rfl _ _ rfl rfl
       rw [show v9 = .int .i64 N from e9] at h9
       clear hE hO hN
       go_simp
       exact hK _ _ rfl hM (Below.refl _ _)
      ·refine⟨rfl,fun T2 w2 hM hN hO hE K hK=>?_⟩
       obtain⟨v4,h4,e4⟩:=hE ⟨4,.data⟩ (by simp) rfl _ _ rfl rfl
       rw [show v4 = .slice (some ⟨tb,tof,none⟩) N c from e4] at h4
       obtain⟨v10,h10,e10⟩:=hE ⟨10,.data⟩ (by simp) rfl _ _ rfl rfl
       rw [show v10 = .int .i64 m from e10] at h10
       clear hE hO hN
       go_simp
       exact hK _ _ rfl hM (Below.refl _ _)
      ·refine⟨rfl,fun T2 w2 hM hN hO hE K hK=>?_⟩
       obtain⟨v0,h0,e0⟩:=hE ⟨0,.data⟩ (by simp) rfl _ _ rfl rfl
       rw [show v0 = .pointer (some ⟨R,0,none⟩) from e0] at h0
       clear hE hO hN
       go_simp
       exact hK _ _ rfl hM (Below.refl _ _)
      ·refine⟨rfl,fun T2 w2 hM hN hO hE K hK=>?_⟩
       obtain⟨v12,h12,e12⟩:=hE ⟨12,.data⟩ (by simp) rfl _ _ rfl rfl
       rw [show v12 = .pointer (some ⟨R,0,none⟩) from e12] at h12
       clear hE hO hN
       go_simp
       exact hK _ _ rfl hM (Below.refl _ _)
     ·intro u w2 hM hF
      have e11:u 11 = .slice (some ⟨tb,tof,none⟩) m c:=hF 11 (by omega)
      have e13:u 13 = .pointer (some ⟨R,0,none⟩):=hF 13 (by omega)
      clear hF
      simp only [fillAll,Nat.reduceAdd,e11,e13,List.take_succ_cons,List.take_zero,List.drop_succ_cons,List.drop_zero,List.setIfInBounds_toArray,List.set_cons_succ,List.set_cons_zero]
      have hc9:=(HC.out w2 hM).1
      have hf9:=(HC.out w2 hM).2.1
      have hcl:=HT.out w2 hM
      have HCL:=hid2 hcl
      clear hM hcl
      go_wp2_with fail
      refine HCL.out.mono ?_
      rintro e w8 ⟨rfl,⟨q3,hr8⟩,hb8⟩
      have HR8:=hid2 hr8
      have HB8:=hid2 hb8
      clear hr8 hb8
      go_wp2_with fail
      go_roundg (gk - 1)
      case rel=>exact⟨k+1,q3,by have:=hK.out;have:=hGK.out;omega,HR8.out,HB8.out⟩
      case measure=>have:=hGK.out;omega
end Go.Proofs.YtnecjdhamohadaaGreatDoor
namespace Go.Proofs.YtnecjdhamohadaaGreatDoor
open Go.RowKit Go.Maps Go.Shelf
set_option maxRecDepth 100000
def doC (d:DE):List Value:=[.int .i64 d.kind,.string (strB d.path),.string (strB d.data),.int .i64 d.why]
def doA (d:DE):Value:=.agg (doC d).toArray
theorem CellB.setOther {w:World} {g b:Nat} {cs cur cs':Array Value} {t t':TypeId} {fr:Nat × Nat} (h:CellB w g cs t) (hb:w.heap[b]?=some (.cells cur t' fr)) (hne:t≠t'):CellB (w.setRow b cs') g cs t:=by
 unfold CellB at *
 refine (setRow_other w b g cs' ?_).trans h
 rintro rfl
 rw [h] at hb
 injection hb with hb
 injection hb with _ hb
 exact hne hb
theorem Own.setOtherRow {w:World} {base sz n c b:Nat} {t t':TypeId} {A:Option Addr} {xs:List Value} {cur cs':Array Value} {fr:Nat × Nat} (h:Own w base t sz A n c xs) (hb:w.heap[b]?=some (.cells cur t' fr)) (hne:t≠t'):Own (w.setRow b cs') base t sz A n c xs :=
 h.keep fun k hk _ _=>setRow_other w b k cs' fun e=>h.ne hb hne (by rw [hk,e])
section
variable {w:World} {R:Nat} {q:Option Nat} {b:Nat} {cur cs':Array Value} {fr:Nat × Nat} (hb:w.heap[b]?=some (.cells cur 35 fr))
include hb
theorem MBox.setDo {g:Nat} (h:MBox w g q):MBox (w.setRow b cs') g q:=by
 obtain⟨m,h1,h2⟩:=h
 exact⟨m,h1,CellB.setOther h2 hb (by decide)⟩
theorem DataIs.setDo {u:Value} {d:DataF} (h:DataIs w R q u d):DataIs (w.setRow b cs') R q u d:=by
 cases d with
 | add=>exact h
 | scan x =>
  obtain⟨g1,g2,g3,e,h1,h2,h3⟩:=h
  exact⟨g1,g2,g3,e,CellB.setOther h1 hb (by decide),CellB.setOther h2 hb (by decide),h3.setDo hb⟩
theorem ThereIs.setDo {u:Value} {d:DataF} (h:ThereIs w R q u d):ThereIs (w.setRow b cs') R q u d:=by
 obtain⟨g1,g2,v,e,h1,h2,h3⟩:=h
 exact⟨g1,g2,v,e,CellB.setOther h1 hb (by decide),CellB.setOther h2 hb (by decide),h3.setDo hb⟩
theorem ThenIs.setDo {u:Value} {th:ThenE} (h:ThenIs w R q u th):ThenIs (w.setRow b cs') R q u th:=by
 cases th with
 | add=>exact ThereIs.setDo hb h
 | try_ =>
  obtain⟨g1,e,h1⟩:=h
  exact⟨g1,e,CellB.setOther h1 hb (by decide)⟩
 | scan x=>exact ThereIs.setDo hb h
theorem TaskIs.setDo {u:Value} {t:TaskE} (h:TaskIs w R q u t):TaskIs (w.setRow b cs') R q u t:=by
 cases t with
 | cmd c =>
  obtain⟨g1,g2,e,h1,A,cA,h2,h3,h4⟩:=h
  exact⟨g1,g2,e,CellB.setOther h1 hb (by decide),A,cA,CellB.setOther h2 hb (by decide),h3.setOtherRow hb (by decide),h4⟩
 | ans p th =>
  obtain⟨g1,g2,g3,v,e,h1,h2,h3,h4⟩:=h
  exact⟨g1,g2,g3,v,e,CellB.setOther h1 hb (by decide),h2.setDo hb,CellB.setOther h3 hb (by decide),CellB.setOther h4 hb (by decide)⟩
 | line x y =>
  obtain⟨g1,g2,g3,g4,e,h1,h2,h3,h4⟩:=h
  exact⟨g1,g2,g3,g4,e,CellB.setOther h1 hb (by decide),CellB.setOther h2 hb (by decide),CellB.setOther h3 hb (by decide),h4.setDo hb⟩
theorem RunAt.setDo {L:RLay} {v:Env} {s:PS} {A:Option Addr} {c:Nat} {us:List Value} (h:RunAt w L v q s A c us):RunAt (w.setRow b cs') L v q s A c us:=by
 have hmap:∀ {α:Type} {enc:α→Value} {k m:Nat} {M:Tab α},MapIs w Tryz.prog 9 enc k m M→MapIs (w.setRow b cs') Tryz.prog 9 enc k m M:=fun hM=>hM.keep (setRow_other w b _ cs' (cells_ne_map hM hb))
 refine⟨CellB.setOther h.run hb (by decide),h.base,h.row.setOtherRow hb (by decide),fun i t hi=>?_,h.env.setOtherRow hb (by decide),?_,?_⟩
 ·obtain⟨u,h1,h2⟩:=h.tasks i t hi
  exact⟨u,h1,h2.setDo hb⟩
 ·obtain⟨h1,M,h2,h3⟩:=h.known
  exact⟨h1,M,hmap h2,h3⟩
 ·rcases h.seen with h1 | ⟨g,M,h1,h2,h3,h4,h5⟩
  ·exact .inl h1
  ·exact .inr ⟨g,M,h1,h2,h3,hmap h4,h5⟩
end
theorem TBut.setNew {B:Nat} {w w':World} (h:TBut B w w') (hB:B≤w.heap.size) {g:Nat} (hg:w.heap.size≤g) (cs:Array Value):TBut B w (w'.setRow g cs) :=
 ⟨h.os,h.tape,h.output,by simpa using h.size,fun k hk=>(setRow_other w' g k cs (by omega)).trans (h.low k hk),fun k c t fr hk h1 h2=>(setRow_other w' g k cs (by have:=heap_lt hk;omega)).trans (h.cells k c t fr hk h1 h2)⟩
def NextPost (w:World) (L:RLay) (v:Env) (s:PS) (e:Ending) (w':World):Prop:=e = .returned (doA (nextV s))∧(∃ q,RunIs w' L v q s.next)∧TBut L.B w w'
set_option maxHeartbeats 8000000 in
theorem next_any (w:World) (L:RLay) (v:Env) (hv:EnvFit v) (q:Option Nat) (s:PS) (h:RunIs w L v q s) (hw:Home w L) (hP:∀ k,Sound (s.run v k)) (n:Nat) (hn:(s.run v n).Still) :
  Calls Tryz.prog 14 #[ptrV L.R] w (NextPost w L v (s.run v n)):=by
 have hB:=h.size
 obtain⟨R,hR⟩:∃ R,R=L.R:=⟨_,rfl⟩
 obtain⟨Pq,hPq⟩:∃ Pq:Ending→World→Prop,Pq=NextPost w L v (s.run v n):=⟨_,rfl⟩
 obtain⟨w1,hw1⟩:∃ w1,w1=w.alloc (.cells #[.int .i64 0,.string ⟨#[]⟩,.string ⟨#[]⟩,.int .i64 0] 35):=⟨_,rfl⟩
 have hb1:Below w.heap.size w w1:=by rw [hw1];exact (Below.refl _ _).alloc (Nat.le_refl _) _
 have hg1:w1.heap[w.heap.size]?=some (.cells #[.int .i64 0,.string ⟨#[]⟩,.string ⟨#[]⟩,.int .i64 0] 35 (0,0)):=by rw [hw1];exact World.alloc_heap_new w _
 have hS:=settle_any w1 L v hv q s (h.below hb1) (hw.tbut (TBut.of_below hb1 hB)) hP n hn
 obtain⟨S,hSS⟩:∃ S,S=s.run v n:=⟨_,rfl⟩
 rw [ptrV,← hR,← hPq]
 rw [ptrV,← hR,← hSS] at hS
 have hPq2:Pq=NextPost w L v S:=by rw [hPq,hSS]
 have HPQ:=hid2 hPq2
 have HR:=hid2 hR
 have HS:=hid2 hS
 have HG1:=hid2 hg1
 have HB1:=hid2 hb1
 have HB:=hid2 hB
 have HW1:=hid2 hw1
 clear hPq hPq2 hR hS hg1 hb1 hB h hw hP hn hv hSS hw1
 go_enter Tryz.func14,Tryz.ntmps14
 go_upto_region 4 with (go_at_call 35; rw [← HW1.out];refine HS.out.mono ?_;rintro e w2 ⟨rfl,⟨q2,hr2⟩,hb2⟩;have HR2:=hid2 hr2;have HB2:=hid2 hb2;clear hr2 hb2)
 obtain⟨A,c,us,hra⟩:=HR2.out
 have hrow:=hra.run
 rw [← HR.out] at hrow
 have c4:w2.cell? ⟨R,4,none⟩=some (.string (strB S.asks)):=hrow.cell 4
 have c5:w2.cell? ⟨R,5,none⟩=some (.bool S.waits):=hrow.cell 5
 have hg2:w2.heap[w.heap.size]?=some (.cells #[.int .i64 0,.string ⟨#[]⟩,.string ⟨#[]⟩,.int .i64 0] 35 (0,0)):=(HB2.out.cells _ _ _ _ HG1.out (by decide) (by decide)).trans HG1.out
 have hbw:=(TBut.of_below HB1.out HB.out).trans HB2.out
 have HA:=hid2 hra
 have HBW:=hid2 hbw
 cases hwt:S.waits with
 | true =>
  rw [hwt] at c5
  have hnv:nextV S=⟨1,S.asks,[],0⟩:=by rw [nextV,if_pos hwt]
  have hnx:S.next=S:=by rw [PS.next,if_pos hwt]
  have HNV:=hid2 hnv
  have HNX:=hid2 hnx
  obtain⟨X,hX⟩:∃ X,X=strB S.asks:=⟨_,rfl⟩
  rw [← hX] at c4
  have HX:=hid2 hX
  have hV0:(Value.agg #[.int .i64 1,.string X,.string ⟨#[]⟩,.int .i64 0]).cells.toList=[.int .i64 1,.string X,.string ⟨#[]⟩,.int .i64 0]:=rfl
  have hI0:(Tryz.prog.info? 35).map (·.size)=some [Value.int .i64 1,.string X,.string ⟨#[]⟩,.int .i64 0].length:=by kernel_rfl
  have hF0:0+[Value.int .i64 1,.string X,.string ⟨#[]⟩,.int .i64 0].length≤(#[.int .i64 0,.string ⟨#[]⟩,.string ⟨#[]⟩,.int .i64 0]:Array Value).size:=Nat.le_refl _
  have hO0:∀ v∈[Value.int .i64 1,.string X,.string ⟨#[]⟩,.int .i64 0],v.oneCell'=true:=by simp [Value.oneCell']
  clear hwt hnv hnx hX hra hrow hbw
  go_wp2_with ((with_reducible refine wpList_store_lit w.heap.size 0 (.agg #[.int .i64 1,.string X,.string ⟨#[]⟩,.int .i64 0]) [.int .i64 1,.string X,.string ⟨#[]⟩,.int .i64 0] hV0 #[.int .i64 0,.string ⟨#[]⟩,.string ⟨#[]⟩,.int .i64 0] 35 hg2 hI0 hF0 hO0 ?_ ?_);exact⟨rfl,rfl⟩)
  simp only [Act.put]
  refine bodyPost_ret (v:=.agg [.int .i64 1,.string X,.string ⟨#[]⟩,.int .i64 0].toArray) (results_cell_row rfl _ _ _ 35 _ (0,0) _ rfl (stored_row (VX:=[.int .i64 1,.string X,.string ⟨#[]⟩,.int .i64 0]) hg2 rfl) Tryz.underlying35 rfl (by kernel_rfl)) rfl ?_
  rw [HPQ.out]
  refine⟨?_,⟨q2,A,c,us,?_⟩,HBW.out.setNew HB.out (Nat.le_refl _) _⟩
  ·rw [HNV.out,HX.out]
   rfl
  ·rw [HNX.out]
   exact HA.out.setDo hg2
 | false =>
  obtain⟨kd,hkd⟩:∃ kd:Int,kd=S.over.kind:=⟨_,rfl⟩
  obtain⟨P0,hP0⟩:∃ x,x=strB S.over.path:=⟨_,rfl⟩
  obtain⟨D0,hD0⟩:∃ x,x=strB S.over.data:=⟨_,rfl⟩
  obtain⟨wy,hwy⟩:∃ x:Int,x=S.over.why:=⟨_,rfl⟩
  rw [hwt] at c5
  have c6:w2.cell? ⟨R,6,none⟩=some (.int .i64 kd):=by rw [hkd];exact hrow.cell 6
  have c7:w2.cell? ⟨R,7,none⟩=some (.string P0):=by rw [hP0];exact hrow.cell 7
  have c8:w2.cell? ⟨R,8,none⟩=some (.string D0):=by rw [hD0];exact hrow.cell 8
  have c9:w2.cell? ⟨R,9,none⟩=some (.int .i64 wy):=by rw [hwy];exact hrow.cell 9
  have hval:doA S.over = .agg #[.int .i64 kd,.string P0,.string D0,.int .i64 wy]:=by rw [hkd,hP0,hD0,hwy];rfl
  have HVAL:=hid2 hval
  have hnv:nextV S=S.over:=by rw [nextV,if_neg (by rw [hwt];simp)]
  have HNV:=hid2 hnv
  obtain⟨g,hg⟩:∃ g,g=w.heap.size:=⟨_,rfl⟩
  have HG:=hid2 hg
  obtain⟨w3,hw3⟩:∃ w3,w3=w2.alloc (.cells #[.int .i64 kd,.string P0,.string D0,.int .i64 wy] 35):=⟨_,rfl⟩
  have hb3:Below w2.heap.size w2 w3:=by rw [hw3];exact (Below.refl _ _).alloc (Nat.le_refl _) _
  have hx3:w3.heap[w2.heap.size]?=some (.cells #[.int .i64 kd,.string P0,.string D0,.int .i64 wy] 35 (0,0)):=by rw [hw3];exact World.alloc_heap_new w2 _
  have hg3:w3.heap[g]?=some (.cells #[.int .i64 0,.string ⟨#[]⟩,.string ⟨#[]⟩,.int .i64 0] 35 (0,0)):=by rw [hg];exact (hb3.block _ (heap_lt hg2)).trans hg2
  have hA3:=hra.below hb3
  have hbw3:=hbw.trans (TBut.of_below hb3 (Nat.le_trans hra.base (Nat.le_of_lt hra.run.lt)))
  have hr3:w3.heap[R]?=some (.cells (runV A S.todo.length c L.EA v.env.length L.ec S.buf L.m S.asks S.waits S.over) 63 (0,0)):=(hb3.block _ hrow.lt).trans hrow
  obtain⟨x3,hx3e⟩:∃ x3,x3=w2.heap.size:=⟨_,rfl⟩
  have hne:x3≠g:=by rw [hx3e,hg];have:=heap_lt hg2;omega
  have HW3:=hid2 hw3
  have HX3:=hid2 hx3
  have HX3E:=hid2 hx3e
  have HG3:=hid2 hg3
  have HR3:=hid2 hr3
  have HA3:=hid2 hA3
  have HBW3:=hid2 hbw3
  have HNE:=hid2 hne
  have HKD:=hid2 hkd
  have hV0:(Value.agg #[.int .i64 kd,.string P0,.string D0,.int .i64 wy]).cells.toList=[.int .i64 kd,.string P0,.string D0,.int .i64 wy]:=rfl
  have hI0:(Tryz.prog.info? 35).map (·.size)=some [Value.int .i64 kd,.string P0,.string D0,.int .i64 wy].length:=by kernel_rfl
  have hF0:0+[Value.int .i64 kd,.string P0,.string D0,.int .i64 wy].length≤(#[.int .i64 0,.string ⟨#[]⟩,.string ⟨#[]⟩,.int .i64 0]:Array Value).size:=Nat.le_refl _
  have hO0:∀ v∈[Value.int .i64 kd,.string P0,.string D0,.int .i64 wy],v.oneCell'=true:=by simp [Value.oneCell']
  have HWT:=hid2 hwt
  clear hwt hnv hra hrow hbw hkd hP0 hD0 hwy hval hg hw3 hb3 hx3 hg3 hA3 hbw3 hr3 hx3e hne hg2 c4
  go_upto_region 7 with fail
  rw [← HW3.out,← HG.out,← HX3E.out]
  have k0:w3.cell? ⟨x3,0,none⟩=some (.int .i64 kd):=by rw [HX3E.out];exact cell_of_row w3 _ 0 _ _ _ HX3.out
  by_cases hk2:kd=2
  ·have hk2b:(kd == 2)=true:=by rw [hk2];rfl
   have hs2:S.over.kind=2:=by have:=HKD.out;omega
   have hnx:S.next={ S with over:=DE.none }:=by rw [PS.next,if_neg (by rw [HWT.out];simp),if_pos hs2]
   have HNX:=hid2 hnx
   obtain⟨cur,hcur⟩:∃ cur,cur=runV A S.todo.length c L.EA v.env.length L.ec S.buf L.m S.asks S.waits S.over:=⟨_,rfl⟩
   have hsz:cur.size=10:=by rw [hcur];rfl
   have hld:laid cur 6 [.int .i64 0,.string ⟨#[]⟩,.string ⟨#[]⟩,.int .i64 0]=runV A S.todo.length c L.EA v.env.length L.ec S.buf L.m S.asks S.waits DE.none:=by rw [hcur];rfl
   have hr3:=HR3.out
   rw [← hcur] at hr3
   have hfit:6+[Value.int .i64 0,.string ⟨#[]⟩,.string ⟨#[]⟩,.int .i64 0].length≤cur.size:=by rw [hsz];simp
   have HLD:=hid2 hld
   subst hk2
   clear hk2b hs2 hnx hcur hsz hld
   go_wp2_with (first
    | ((with_reducible refine wpList_store_lit R 6 (.agg #[.int .i64 0,.string ⟨#[]⟩,.string ⟨#[]⟩,.int .i64 0]) [.int .i64 0,.string ⟨#[]⟩,.string ⟨#[]⟩,.int .i64 0] (do_cells _ _ _ _) cur 63 hr3 (info_do4 _ _ _ _) hfit one_do ?_ ?_);exact⟨rfl,rfl⟩;rw [HLD.out];obtain⟨w4,hw4⟩:∃ w4,w4=w3.setRow R (runV A S.todo.length c L.EA v.env.length L.ec S.buf L.m S.asks S.waits DE.none):=⟨_,rfl⟩;have hq:=HA3.out.cells (s':={ S with over:=DE.none }) (setRow_heap w3 L.R _ _ _ _ HA3.out.run) (fun k hk=>setRow_other w3 L.R k _ hk) (TBut.setRow (TBut.refl L.B w3) HA3.out.run (.inl rfl) HA3.out.base _) rfl rfl rfl;have hq2:=TBut.setRow HBW3.out HA3.out.run (.inl rfl) HA3.out.base (runV A S.todo.length c L.EA v.env.length L.ec S.buf L.m S.asks S.waits DE.none);have hx4:w4.heap[x3]?=some (.cells #[.int .i64 2,.string P0,.string D0,.int .i64 wy] 35 (0,0)):=(by rw [hw4,HX3E.out];refine (setRow_other w3 R _ _ ?_).trans HX3.out;rintro rfl;have h1:=HX3.out;rw [HR3.out] at h1;injection h1 with h1;injection h1 with _ h1;cases h1);have hg4:w4.heap[g]?=some (.cells #[.int .i64 0,.string ⟨#[]⟩,.string ⟨#[]⟩,.int .i64 0] 35 (0,0)):=(by rw [hw4];refine (setRow_other w3 R _ _ ?_).trans HG3.out;rintro rfl;have h1:=HG3.out;rw [HR3.out] at h1;injection h1 with h1;injection h1 with _ h1;cases h1);rw [← HR.out,← hw4] at hq hq2;rw [← hw4];have HQ:=hid2 hq;have HQ2:=hid2 hq2;clear hq hq2 hw4 hr3;have y0:w4.cell? ⟨x3,0,none⟩=some (.int .i64 2):=cell_of_row w4 _ 0 _ _ _ hx4;have y1:w4.cell? ⟨x3,1,none⟩=some (.string P0):=cell_of_row w4 _ 1 _ _ _ hx4;have y2:w4.cell? ⟨x3,2,none⟩=some (.string D0):=cell_of_row w4 _ 2 _ _ _ hx4;have y3:w4.cell? ⟨x3,3,none⟩=some (.int .i64 wy):=cell_of_row w4 _ 3 _ _ _ hx4)
    | ((with_reducible refine wpList_store_lit g 0 (.agg #[.int .i64 2,.string P0,.string D0,.int .i64 wy]) [.int .i64 2,.string P0,.string D0,.int .i64 wy] hV0 #[.int .i64 0,.string ⟨#[]⟩,.string ⟨#[]⟩,.int .i64 0] 35 hg4 hI0 hF0 hO0 ?_ ?_);exact⟨rfl,rfl⟩))
   simp only [Act.put]
   refine bodyPost_ret (v:=.agg [.int .i64 2,.string P0,.string D0,.int .i64 wy].toArray) (results_cell_row rfl _ _ _ 35 _ (0,0) _ rfl (stored_row (VX:=[.int .i64 2,.string P0,.string D0,.int .i64 wy]) hg4 rfl) Tryz.underlying35 rfl (by kernel_rfl)) rfl ?_
   rw [HPQ.out]
   refine⟨?_,⟨q2,A,c,us,?_⟩,HQ2.out.setNew HB.out (by rw [HG.out];exact Nat.le_refl _) _⟩
   ·rw [HNV.out,HVAL.out]
   ·rw [HNX.out]
    exact HQ.out.setDo hg4
  ·have hk2b:(kd == 2)=false:=by rw [beq_eq_false_iff_ne];exact hk2
   have hs2:¬ S.over.kind=2:=by have:=HKD.out;omega
   have hnx:S.next=S:=by rw [PS.next,if_neg (by rw [HWT.out];simp),if_neg hs2]
   have HNX:=hid2 hnx
   have hg3:=HG3.out
   have y1:w3.cell? ⟨x3,1,none⟩=some (.string P0):=by rw [HX3E.out];exact cell_of_row w3 _ 1 _ _ _ HX3.out
   have y2:w3.cell? ⟨x3,2,none⟩=some (.string D0):=by rw [HX3E.out];exact cell_of_row w3 _ 2 _ _ _ HX3.out
   have y3:w3.cell? ⟨x3,3,none⟩=some (.int .i64 wy):=by rw [HX3E.out];exact cell_of_row w3 _ 3 _ _ _ HX3.out
   clear hs2 hnx
   go_wp2_with ((with_reducible refine wpList_store_lit g 0 (.agg #[.int .i64 kd,.string P0,.string D0,.int .i64 wy]) [.int .i64 kd,.string P0,.string D0,.int .i64 wy] hV0 #[.int .i64 0,.string ⟨#[]⟩,.string ⟨#[]⟩,.int .i64 0] 35 hg3 hI0 hF0 hO0 ?_ ?_);exact⟨rfl,rfl⟩)
   simp only [Act.put]
   refine bodyPost_ret (v:=.agg [.int .i64 kd,.string P0,.string D0,.int .i64 wy].toArray) (results_cell_row rfl _ _ _ 35 _ (0,0) _ rfl (stored_row (VX:=[.int .i64 kd,.string P0,.string D0,.int .i64 wy]) hg3 rfl) Tryz.underlying35 rfl (by kernel_rfl)) rfl ?_
   rw [HPQ.out]
   refine⟨?_,⟨q2,A,c,us,?_⟩,HBW3.out.setNew HB.out (by rw [HG.out];exact Nat.le_refl _) _⟩
   ·rw [HNV.out,HVAL.out]
   ·rw [HNX.out]
    exact HA3.out.setDo hg3
end Go.Proofs.YtnecjdhamohadaaGreatDoor
