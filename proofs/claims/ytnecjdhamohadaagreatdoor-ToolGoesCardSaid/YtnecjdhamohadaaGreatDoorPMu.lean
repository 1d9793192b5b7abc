/- HERMETIC. -/
import Derived.Test.YtnecjdhamohadaaGreatDoorPMt
import Derived.Test.YtnecjdhamohadaaGreatDoorRows
import Derived.WalkKit
import Derived.ProofKit
import Derived.OpenShut
import Derived.ChangeMaps5
import Derived.SliceStrings
import Derived.JoinedCond
import Derived.Carry
import Derived.SizedLaws
import Derived.Test.YtnecjdhamohadaaGreatDoorPMa
import Derived.HandedShaped
import Derived.Handed
import Derived.Deep.Slices
import Derived.Lib.LaidTab
import Derived.LaidMore
import Derived.Stop.Joined
import Derived.Stop.LaidErr
set_option linter.unusedSimpArgs false
set_option linter.unusedVariables false
namespace Go.Proofs.YtnecjdhamohadaaGreatDoor
open Go.RowKit Go.Maps Go.Shelf
set_option maxRecDepth 100000
theorem fit_fail (k y:Nat) (hk:k≤1000000) (hy:y≤1000000):FitDo ⟨k,[],[],y⟩:=⟨hk,hy,by simp,by simp⟩
theorem fit_task (v:Env) (s:PS) (h:FitDo s.over) (hl:Lim s) (t:TaskE) (ht:TaskOk t):FitDo (s.task v t).over:=by
 have hf:∀ (s:PS) y,y≤1000000→FitDo (s.fail y).over:=fun s y hy=>fit_fail 4 y (by decide) hy
 have hadd:∀ (s:PS) t,FitDo s.over→FitDo (s.add t).over:=fun s t h=>by
  unfold PS.add
  split
  ·exact hf s 6 (by decide)
  ·exact h
 have hthen:∀ (s:PS) th k,FitDo s.over→FitDo (s.then_ th k).over:=fun s th k h=>by
  cases th <;> unfold PS.then_ <;> simp only <;> split
  ·exact hadd s _ h
  ·exact hf s 10 (by decide)
  ·exact hadd s _ h
  ·exact h
  ·exact h
  ·exact hf s 10 (by decide)
 have hask:∀ (s:PS) p th,FitDo s.over→FitDo (s.ask p th).over:=fun s p th h=>by
  unfold PS.ask
  split
  ·exact hthen s _ _ h
  ·split
   ·exact hf s 6 (by decide)
   ·exact h
 cases t with
 | cmd c =>
  have harg:((c.ws.drop 1).headD []).length≤1000000:=by
   cases hd:c.ws.drop 1 with
   | nil=>exact Nat.zero_le _
   | cons x r=>exact ht.2.2.1 x (List.mem_of_mem_drop (i:=1) (by rw [hd];exact List.mem_cons_self ..))
  have hwr:FitDo ⟨2,(c.ws.drop 1).headD [],s.buf,0⟩:=⟨show 2≤1000000 from by decide,show 0≤1000000 from by decide,Nat.le_trans harg (by decide),Nat.le_trans hl.buf (by decide)⟩
  unfold PS.task PS.do_
  simp only
  have hturn:∀ n a l,FitDo (s.turn n a l).over:=fun n a l=>by
   unfold PS.turn
   repeat' split
   all_goals first
    | exact hadd { s with buf:=[] } _ h
    | exact h
  repeat' split
  all_goals first
   | exact hask s _ _ h
   | exact hadd s _ h
   | exact hf s _ (by decide)
   | exact hask { s with seen:=_ } _ _ h
   | exact hwr
   | exact hturn _ _ _
   | exact h
 | ans p th=>exact hthen s _ _ h
 | line x w =>
  unfold PS.task PS.line
  simp only
  repeat' split
  all_goals first
   | exact hask { s with seen:=_ } _ _ h
   | exact hadd s _ h
   | exact h
theorem fit_step (v:Env) {s:PS} (h:FitDo s.over) (hl:Lim s):FitDo (s.step v).over:=by
 by_cases hs:s.Still
 ·rw [PS.step_still hs];exact h
 ·cases ht:s.todo with
  | nil=>rw [step_nil hs ht];exact fit_fail 3 0 (by decide) (by decide)
  | cons t r =>
   rw [step_cons hs ht]
   exact fit_task v { s with todo:=r } h ⟨hl.buf,fun t2 h2=>hl.tasks t2 (by rw [ht];exact List.mem_cons_of_mem _ h2),hl.datas,hl.seens,hl.asks,hl.less⟩ t (hl.tasks t (by rw [ht];exact List.mem_cons_self ..))
end Go.Proofs.YtnecjdhamohadaaGreatDoor
namespace Go.Proofs.YtnecjdhamohadaaGreatDoor
open Go.ChangeShapes Go.WideShapes Go.ChangeAt Go.RowKit
variable {H:Type} {enc:TypeId × Value→H} {P:Program}
theorem own_knob:ownKnob Tryz.prog.godebug=none:=by kernel_rfl
theorem args_stay (hl:laidOutB P=true) {W W':World} (hb:Below W.heap.size W W'):∀ (ts:List TypeId) (vs:List Value) (ds:List (DataW H)) (p:List MemPlace),(∀ t∈ts,P.readableRec t=true∧t < P.types.size) →
  DataW.TrodAll enc P W 0 (fun _=>true) true ts vs ds p→(∀ x∈p,x.block < W.heap.size)→DataW.TrodAll enc P W' 0 (fun b=>decide (b < W.heap.size)) true ts vs ds p
 | [],[],[],_,_,h,_=>h
 | t :: ts,v :: vs,d :: ds,_,ht,⟨p,q,h1,h2,rfl⟩,hlt =>
  ⟨p,q,Below.trod hl (ht t (by simp)).1 (ht t (by simp)).2 h1 hb (fun x hx=>hlt x (by simp [hx])),args_stay hl hb ts vs ds q (fun t' h'=>ht t' (by simp [h'])) h2 (fun x hx=>hlt x (by simp [hx])),rfl⟩
 | [],[],_ :: _,_,_,h,_=>h.elim
 | [],_ :: _,_,_,_,h,_=>h.elim
 | _ :: _,[],_,_,_,h,_=>h.elim
 | _ :: _,_ :: _,[],_,_,h,_=>h.elim
theorem law_close {f:Func} {s:ChangeSpec} {W W':World} {args:Array Value} {ds gs:List (DataW H)} {before:List MemPlace} {tb:TypeId}
  (hl:laidOutB P=true) (hts:(f.params.toList.all fun t=>P.readableRec t && decide (t < P.types.size))=true) (hrt:f.resultTypes=#[tb]) (hbool:P.underlying tb=some .bool) (hvs:s.vars=[])
  (hW:DataW.Whole enc P f.params.toList s.vars false W args.toList ds gs before)
  (hfn:s.fn H (ds++gs)={ results:=[.lit (.bool true)],args:=ds }) (hb:Below W.heap.size W W'):s.post enc P f false true false false W args (.bool true) W':=by
 have hlt:=hW.lt
 have hW0:=hW
 obtain⟨p,q,hA,hV,rfl,hfz,hnd⟩:=hW
 rw [hvs] at hV
 obtain⟨rfl,rfl⟩:=trodVars_none hV
 rw [List.append_nil] at hlt hW0
 refine⟨ds,[],p,[],p,[],hW0,?_,?_,?_,World.keptBut_mono (fun x hx=>⟨hx,Or.inr (Or.inl hx)⟩) (hb.frame _),fun h=>nomatch h⟩
 ·rw [hfn,hrt]
  exact trodAll_cons_mk (shut_bool hbool _) trodAll_mk0
 ·rw [hfn]
  exact args_stay hl hb _ _ _ _ (fun t ht=>by have:=List.all_eq_true.1 hts t ht;simpa using this) hA hlt
 ·rw [hfn,hvs]
  exact rfl
end Go.Proofs.YtnecjdhamohadaaGreatDoor
namespace Go.Proofs.YtnecjdhamohadaaGreatDoor
open Go.ChangeShapes Go.WideShapes Go.ChangeAt Go.RowKit
theorem returns_laid_shaped {H:Type} {enc:TypeId × Value→H} {a:Assume} {C:Checked} {os:Os} {f:FuncId} {fn:Func} {s:ChangeSpec} {conds:List PathCond} {apart fresh handsOn again:Bool} {X:World→Array Value→Prop}
  (hX:∀ (w w':World) (args:Array Value),w.heap=w'.heap→X w args→X w' args)
  (own:ownKnob C.prog.godebug=none) (started:os.Started) (noInit:C.prog.inits.idxOf? f=none) (hfn:C.prog.funcs[f]?=some fn)
  (witness:∃ (w:World) (tape:Tape) (i:Input),w.os=os∧(w.forCall tape i).Shaped C.prog∧i.vars=[]∧Input.okWide C.prog (w.forCall tape i) .any w.heap.size f i ∧
   ((s.pre enc C.prog fn conds apart (w.forCall tape i).memory i.args∧X (w.forCall tape i).memory i.args)∧sizedMet enc C.prog fn (OpenSpec.ofChange s) apart (w.forCall tape i).memory i.args)∧a.holds C.prog (lone (Frame.enter C.prog f i.args .normal) [] (w.forCall tape i)))
  (contract:∀ (W:World) (base:Nat) (args:Array Value) (ds gs:List (DataW H)) (before:List MemPlace),
   (∀ (j:Nat) t v,fn.params[j]?=some t→args[j]?=some v→Value.okWide C.prog W .any base t v) →
   DataW.Whole enc C.prog fn.params.toList s.vars apart W args.toList ds gs before →
   (DataW.weightsEach C.prog (fn.params.toList++s.plain.varTypes C.prog) (ds++gs)).all (·≤reachBytes)=true→X W args→W.ShapedOpen C.prog →
   Calls C.prog f args W fun e W'=>∃ v,e = .returned v∧s.post enc C.prog fn apart fresh handsOn again W args v W') :
  ReturnsInHanded a C os f .any (fun w args=>(s.pre enc C.prog fn conds apart w args∧X w args)∧sizedMet enc C.prog fn (OpenSpec.ofChange s) apart w args) (s.post enc C.prog fn apart fresh handsOn again):=by
 refine returnsInHanded_of_calls own started noInit witness ?_
 intro w tape i _ hsh _ hok hpre _
 obtain⟨_,_,_,fn',hfn',_,_,_,_,hval⟩:=hok
 obtain rfl:fn'=fn:=Option.some.inj (hfn'.symm.trans hfn)
 obtain⟨⟨⟨ds,gs,before,hw,_⟩,hx⟩,hz⟩:=hpre
 have hw2:=DataW.Whole.of_heap (w':=w.forCall tape i) (by rfl) hw
 refine (contract (w.forCall tape i) w.heap.size i.args ds gs before hval hw2 (hz.weights hw) (hX _ _ _ (by rfl) hx) hsh).mono fun e W' ⟨v,he,hp⟩=>?_
 subst he
 exact ChangeSpec.post_blind hp
end Go.Proofs.YtnecjdhamohadaaGreatDoor
namespace Go.Proofs.YtnecjdhamohadaaGreatDoor
open Go.ChangeShapes Go.WideShapes Go.ChangeAt Go.RowKit Go.Maps
set_option maxRecDepth 100000
variable {H:Type} {enc:TypeId × Value→H}
theorem weightsAll_mem3 {P:Program} {e:TypeId}:∀ {l:List (DataW H)} {d:DataW H},d∈l→∀ n∈d.weights P e,n∈DataW.weightsAll P e l
 | d' :: r,d,hd,n,hn=>by
  simp only [DataW.weightsAll,List.mem_append]
  rcases List.mem_cons.1 hd with rfl | h
  ·exact Or.inl hn
  ·exact Or.inr (weightsAll_mem3 h n hn)
def setC2 (p:TT × TT):List Value:=[.string (strB p.1),.string (strB p.2)]
def knC (k:KE):List Value:=[.string (strB k.path),.bool k.is,.string (strB k.data)]
def envD (a:TT × TT) (d:DataW H):Prop:=d = .agg [.lit (.string a.1),.lit (.string a.2)]
theorem open_env1 {W:World} {sp:Nat→Bool} {n:Nat} {cs:List Value} {x:DataW H × List MemPlace} (h:DataW.trod enc Tryz.prog W 0 sp true n 55 cs=some x):∃ a:TT × TT,cs=setC2 a∧envD a x.1:=by
 obtain⟨xs,m,rfl,rfl,hlen,hxl,hf⟩:=DataW.trod_struct Tryz.underlying55 h
 have hn:Tryz.prog.cellsOf 55 = 2:=by kernel_rfl
 have hcs:Tryz.prog.cellsOf 9 = 1:=by kernel_rfl
 have hcb:Tryz.prog.cellsOf 4 = 1:=by kernel_rfl
 rw [hn] at hlen
 match cs,hlen,xs,hxl with
 | [v0,v1],_,[x0,x1],_ =>
  have h0:DataW.trod enc Tryz.prog W 0 sp true m 9 ((List.drop 0 [v0,v1]).take (Tryz.prog.cellsOf 9))=some x0:=hf 0 _ rfl
  rw [hcs] at h0
  have h1:DataW.trod enc Tryz.prog W 0 sp true m 9 ((List.drop 1 [v0,v1]).take (Tryz.prog.cellsOf 9))=some x1:=hf 1 _ rfl
  rw [hcs] at h1
  obtain⟨s0,e0,r0,_⟩:=DataW.trod_string Tryz.underlying9 (show DataW.trod enc Tryz.prog W 0 sp true m 9 [v0]=some x0 from h0)
  obtain⟨s1,e1,r1,_⟩:=DataW.trod_string Tryz.underlying9 (show DataW.trod enc Tryz.prog W 0 sp true m 9 [v1]=some x1 from h1)
  obtain⟨rfl⟩:=e0
  obtain⟨rfl⟩:=e1
  subst r0 r1
  exact⟨(s0.data.toList,s1.data.toList),by unfold setC2;rw [strB_of,strB_of],rfl⟩
theorem envV_at:∀ {l:List (TT × TT)} (j:Nat) (u:Value),(setV l)[j]?=some u→∃ i p r,l[i]?=some p∧(setC2 p)[r]?=some u∧j=i * 2+r
 | [],j,u,h=>by simp [setV] at h
 | x :: q,j,u,h=>by
  rw [show setV (x :: q)=setC2 x++setV q from rfl] at h
  have hc:(setC2 x).length=2:=rfl
  rcases Nat.lt_or_ge j 2 with hj | hj
  ·rw [List.getElem?_append_left (by rw [hc];exact hj)] at h
   exact⟨0,x,j,rfl,h,by omega⟩
  ·rw [List.getElem?_append_right (by rw [hc];exact hj)] at h
   obtain⟨i,a,r,h1,h2,h3⟩:=envV_at (l:=q) _ u h
   exact⟨i+1,a,r,by simpa using h1,h2,by rw [hc] at h3;omega⟩
theorem open_env {W:World} {b0:Nat} {v:Value} {d:DataW H} {p:List MemPlace} (h:DataW.Trod enc Tryz.prog W 0 (fun _=>true) true 22 v d p) (hval:Value.okWide Tryz.prog W .any b0 22 v) :
  ∃ (A:Option Addr) (c:Nat) (l:List (TT × TT)),v = .slice A l.length c∧Rd W 2 A l.length (setV l)∧(l=[]∨∃ el sp,d = .slice el sp∧el.length=l.length∧∀ (i:Nat) (a:TT × TT),l[i]?=some a→∃ x,el[i]?=some x∧envD a x):=by
 obtain⟨fuel,hf⟩:=h
 have hv:v.cells.toList=[v]:=by
  rcases okWide_slice Tryz.underlying22 hval with ⟨A,n,c,rfl⟩
  rfl
 have hn:Tryz.prog.cellsOf 55 = 2:=by kernel_rfl
 rw [hv] at hf
 rcases Go.Deep.open_slice Tryz.underlying22 hf with ⟨h1,_⟩ | ⟨a,len,cap,m,n,D,Pl,h1,_,hlc,hcm,hm,hx,hel⟩
 ·exact⟨none,0,[],by simpa using h1,Rd.none_ _ _ _,.inl rfl⟩
 ·have hml:len≤m:=by rw [hm];split <;> omega
  have hch:∀ i,i < len→∃ e:TT × TT,W.cells? 0 (a.add (i * 2)) 2=some (setC2 e)∧envD e (D i):=fun i hi=>by
   obtain⟨cs,hc,ht⟩:=hel i (by omega)
   obtain⟨e,rfl,he⟩:=open_env1 ht
   rw [hn] at hc
   exact⟨e,hc,he⟩
  have:Inhabited (TT × TT):=⟨⟨[],[]⟩⟩
  obtain⟨V,hV⟩:=Go.Deep.choose_lt (α:=TT × TT) (p:=fun i e=>W.cells? 0 (a.add (i * 2)) 2=some (setC2 e)∧envD e (D i)) hch
  have hll:((List.range len).map V).length=len:=by simp
  have hget:∀ i e,((List.range len).map V)[i]?=some e→i < len∧e=V i:=fun i e h=>by
   rw [List.getElem?_map] at h
   obtain⟨q,hq,rfl⟩:=Option.map_eq_some_iff.1 h
   obtain⟨hi,hqi⟩:=List.getElem?_eq_some_iff.1 hq
   rw [List.getElem_range] at hqi
   subst hqi
   exact⟨by simpa using hi,rfl⟩
  refine⟨some a,cap,(List.range len).map V,by rw [hll];simpa using h1,?_,.inr ⟨_,_,congrArg Prod.fst hx,by simp,fun i e he=>?_⟩⟩
  ·refine⟨setV_len _,fun h0=>?_⟩
   obtain⟨b,o,sp⟩:=a
   have hc0:=(World.cells?_some (hV 0 (by omega)).1).2.2 0 (by omega)
   cases sp with
   | some x =>
    exfalso
    rw [Addr.add,Addr.add] at hc0
    unfold World.cell? at hc0
    split at hc0
    ·simp [setC2] at hc0
    ·simp [setC2] at hc0
   | none =>
    refine⟨b,o,rfl,fun j u hu=>?_⟩
    obtain⟨i,e,r,h1,h2,rfl⟩:=envV_at j u hu
    obtain⟨hi,rfl⟩:=hget i e h1
    have hr6:r < 2:=(List.getElem?_eq_some_iff.1 h2).1
    have:=(World.cells?_some (hV i hi).1).2.2 r hr6
    rw [h2,addr_add,addr_add] at this
    rw [← this,Nat.add_assoc]
  ·obtain⟨hi,rfl⟩:=hget i e he
   exact⟨D i,by rw [List.getElem?_map,List.getElem?_range hi];rfl,(hV i hi).2⟩
theorem env_sized {ts:List TypeId} {ds:List (DataW H)} (h:(DataW.weightsEach Tryz.prog ts ds).all (·≤reachBytes)=true) {j:Nat} (ht:ts[j]?=some 22) {d:DataW H} (hd:ds[j]?=some d) {l:List (TT × TT)}
  (hl:l=[]∨∃ el sp,d = .slice el sp∧el.length=l.length∧∀ (i:Nat) (a:TT × TT),l[i]?=some a→∃ x,el[i]?=some x∧envD a x):∀ a∈l,a.1.length+a.2.length≤4611686018427387904:=by
 rcases hl with rfl | ⟨el,sp,rfl,hlen,hx⟩
 ·exact fun a ha=>by cases ha
 have h47:=reachBytes_lt
 have hle:=fun n hn=>of_decide_eq_true (List.all_eq_true.1 h n (DataW.weights_mem_each ht hd n hn))
 intro a ha
 obtain⟨i,hi⟩:=List.getElem?_of_mem ha
 obtain⟨x,hxe,hxd⟩:=hx i a hi
 have hall:∀ n∈DataW.weights Tryz.prog 55 x,n≤reachBytes:=fun n hn=>by
  refine hle n ?_
  rw [DataW.weights,show Tryz.prog.underlying 22 = _ from Tryz.underlying22]
  simp only [List.mem_cons,List.mem_append]
  exact .inr (.inl (weightsAll_mem3 (List.mem_of_getElem? hxe) n hn))
 rw [envD] at hxd;subst hxd
 rw [DataW.weights,show Tryz.prog.underlying 55 = _ from Tryz.underlying55] at hall
 simp only [List.map_cons,List.map_nil,DataW.weightsEach,DataW.weights,List.mem_append,List.mem_cons,List.not_mem_nil,or_false] at hall
 have a1:=hall _ (.inl rfl)
 have a2:=hall _ (.inr rfl)
 omega
def knD (a:KE) (d:DataW H):Prop:=∃ xb,d = .agg [.lit (.string a.path),xb,.lit (.string a.data)]
theorem open_kn1 {W:World} {sp:Nat→Bool} {n:Nat} {cs:List Value} {x:DataW H × List MemPlace} (h:DataW.trod enc Tryz.prog W 0 sp true n 41 cs=some x):∃ a:KE,cs=knC a∧knD a x.1:=by
 obtain⟨xs,m,rfl,rfl,hlen,hxl,hf⟩:=DataW.trod_struct Tryz.underlying41 h
 have hn:Tryz.prog.cellsOf 41 = 3:=by kernel_rfl
 have hcs:Tryz.prog.cellsOf 9 = 1:=by kernel_rfl
 have hcb:Tryz.prog.cellsOf 4 = 1:=by kernel_rfl
 rw [hn] at hlen
 match cs,hlen,xs,hxl with
 | [v0,v1,v2],_,[x0,x1,x2],_ =>
  have h0:DataW.trod enc Tryz.prog W 0 sp true m 9 ((List.drop 0 [v0,v1,v2]).take (Tryz.prog.cellsOf 9))=some x0:=hf 0 _ rfl
  rw [hcs] at h0
  have h1:DataW.trod enc Tryz.prog W 0 sp true m 4 ((List.drop 1 [v0,v1,v2]).take (Tryz.prog.cellsOf 4))=some x1:=hf 1 _ rfl
  rw [hcb] at h1
  have h2:DataW.trod enc Tryz.prog W 0 sp true m 9 ((List.drop 2 [v0,v1,v2]).take (Tryz.prog.cellsOf 9))=some x2:=hf 2 _ rfl
  rw [hcs] at h2
  obtain⟨s0,e0,r0,_⟩:=DataW.trod_string Tryz.underlying9 (show DataW.trod enc Tryz.prog W 0 sp true m 9 [v0]=some x0 from h0)
  obtain⟨s1,e1,r1⟩:=DataW.trod_bool Tryz.underlying4 (show DataW.trod enc Tryz.prog W 0 sp true m 4 [v1]=some x1 from h1)
  obtain⟨s2,e2,r2,_⟩:=DataW.trod_string Tryz.underlying9 (show DataW.trod enc Tryz.prog W 0 sp true m 9 [v2]=some x2 from h2)
  obtain⟨rfl⟩:=e0
  obtain⟨rfl⟩:=e1
  obtain⟨rfl⟩:=e2
  subst r0 r1 r2
  exact⟨⟨s0.data.toList,s1,s2.data.toList⟩,by unfold knC;rw [strB_of,strB_of],_,rfl⟩
theorem knV_at:∀ {l:List (KE)} (j:Nat) (u:Value),(kV l)[j]?=some u→∃ i p r,l[i]?=some p∧(knC p)[r]?=some u∧j=i * 3+r
 | [],j,u,h=>by simp [kV] at h
 | x :: q,j,u,h=>by
  rw [show kV (x :: q)=knC x++kV q from rfl] at h
  have hc:(knC x).length=3:=rfl
  rcases Nat.lt_or_ge j 3 with hj | hj
  ·rw [List.getElem?_append_left (by rw [hc];exact hj)] at h
   exact⟨0,x,j,rfl,h,by omega⟩
  ·rw [List.getElem?_append_right (by rw [hc];exact hj)] at h
   obtain⟨i,a,r,h1,h2,h3⟩:=knV_at (l:=q) _ u h
   exact⟨i+1,a,r,by simpa using h1,h2,by rw [hc] at h3;omega⟩
theorem open_kn {W:World} {b0:Nat} {v:Value} {d:DataW H} {p:List MemPlace} (h:DataW.Trod enc Tryz.prog W 0 (fun _=>true) true 23 v d p) (hval:Value.okWide Tryz.prog W .any b0 23 v) :
  ∃ (A:Option Addr) (c:Nat) (l:List (KE)),v = .slice A l.length c∧Rd W 3 A l.length (kV l)∧(l=[]∨∃ el sp,d = .slice el sp∧el.length=l.length∧∀ (i:Nat) (a:KE),l[i]?=some a→∃ x,el[i]?=some x∧knD a x):=by
 obtain⟨fuel,hf⟩:=h
 have hv:v.cells.toList=[v]:=by
  rcases okWide_slice Tryz.underlying23 hval with ⟨A,n,c,rfl⟩
  rfl
 have hn:Tryz.prog.cellsOf 41 = 3:=by kernel_rfl
 rw [hv] at hf
 rcases Go.Deep.open_slice Tryz.underlying23 hf with ⟨h1,_⟩ | ⟨a,len,cap,m,n,D,Pl,h1,_,hlc,hcm,hm,hx,hel⟩
 ·exact⟨none,0,[],by simpa using h1,Rd.none_ _ _ _,.inl rfl⟩
 ·have hml:len≤m:=by rw [hm];split <;> omega
  have hch:∀ i,i < len→∃ e:KE,W.cells? 0 (a.add (i * 3)) 3=some (knC e)∧knD e (D i):=fun i hi=>by
   obtain⟨cs,hc,ht⟩:=hel i (by omega)
   obtain⟨e,rfl,he⟩:=open_kn1 ht
   rw [hn] at hc
   exact⟨e,hc,he⟩
  have:Inhabited (KE):=⟨⟨[],false,[]⟩⟩
  obtain⟨V,hV⟩:=Go.Deep.choose_lt (α:=KE) (p:=fun i e=>W.cells? 0 (a.add (i * 3)) 3=some (knC e)∧knD e (D i)) hch
  have hll:((List.range len).map V).length=len:=by simp
  have hget:∀ i e,((List.range len).map V)[i]?=some e→i < len∧e=V i:=fun i e h=>by
   rw [List.getElem?_map] at h
   obtain⟨q,hq,rfl⟩:=Option.map_eq_some_iff.1 h
   obtain⟨hi,hqi⟩:=List.getElem?_eq_some_iff.1 hq
   rw [List.getElem_range] at hqi
   subst hqi
   exact⟨by simpa using hi,rfl⟩
  refine⟨some a,cap,(List.range len).map V,by rw [hll];simpa using h1,?_,.inr ⟨_,_,congrArg Prod.fst hx,by simp,fun i e he=>?_⟩⟩
  ·refine⟨kV_len _,fun h0=>?_⟩
   obtain⟨b,o,sp⟩:=a
   have hc0:=(World.cells?_some (hV 0 (by omega)).1).2.2 0 (by omega)
   cases sp with
   | some x =>
    exfalso
    rw [Addr.add,Addr.add] at hc0
    unfold World.cell? at hc0
    split at hc0
    ·simp [knC] at hc0
    ·simp [knC] at hc0
   | none =>
    refine⟨b,o,rfl,fun j u hu=>?_⟩
    obtain⟨i,e,r,h1,h2,rfl⟩:=knV_at j u hu
    obtain⟨hi,rfl⟩:=hget i e h1
    have hr6:r < 3:=(List.getElem?_eq_some_iff.1 h2).1
    have:=(World.cells?_some (hV i hi).1).2.2 r hr6
    rw [h2,addr_add,addr_add] at this
    rw [← this,Nat.add_assoc]
  ·obtain⟨hi,rfl⟩:=hget i e he
   exact⟨D i,by rw [List.getElem?_map,List.getElem?_range hi];rfl,(hV i hi).2⟩
theorem kn_sized {ts:List TypeId} {ds:List (DataW H)} (h:(DataW.weightsEach Tryz.prog ts ds).all (·≤reachBytes)=true) {j:Nat} (ht:ts[j]?=some 23) {d:DataW H} (hd:ds[j]?=some d) {l:List (KE)}
  (hl:l=[]∨∃ el sp,d = .slice el sp∧el.length=l.length∧∀ (i:Nat) (a:KE),l[i]?=some a→∃ x,el[i]?=some x∧knD a x):∀ a∈l,a.path.length+a.data.length≤4611686018427387904:=by
 rcases hl with rfl | ⟨el,sp,rfl,hlen,hx⟩
 ·exact fun a ha=>by cases ha
 have h47:=reachBytes_lt
 have hle:=fun n hn=>of_decide_eq_true (List.all_eq_true.1 h n (DataW.weights_mem_each ht hd n hn))
 intro a ha
 obtain⟨i,hi⟩:=List.getElem?_of_mem ha
 obtain⟨x,hxe,hxd⟩:=hx i a hi
 have hall:∀ n∈DataW.weights Tryz.prog 41 x,n≤reachBytes:=fun n hn=>by
  refine hle n ?_
  rw [DataW.weights,show Tryz.prog.underlying 23 = _ from Tryz.underlying23]
  simp only [List.mem_cons,List.mem_append]
  exact .inr (.inl (weightsAll_mem3 (List.mem_of_getElem? hxe) n hn))
 obtain⟨xb,rfl⟩:=hxd
 rw [DataW.weights,show Tryz.prog.underlying 41 = _ from Tryz.underlying41] at hall
 simp only [List.map_cons,List.map_nil,DataW.weightsEach,DataW.weights,List.mem_append,List.mem_cons,List.not_mem_nil,or_false] at hall
 have a1:=hall _ (.inl rfl)
 have a2:=hall _ (.inr (.inr rfl))
 omega
theorem maxl_of {W:World} (h:W.ShapedOpen Tryz.prog):MaxL W:=Tryz.tlSplit.s1_3 W h
theorem tabs_ofT {W:World} {a b c d:String × DataW Unit} (h:laidMet Tryz.prog [a,b,("internal/strconv.uint64pow10",Lib.tabData .u64 Lib.pow10Tab),c,d] W):Lib.TabBelow Tryz.prog W.heap.size W "internal/strconv.uint64pow10" .u64 Lib.pow10Tab:=by
 have h3:=h.tail.tail
 refine Lib.tabBelow_of_tabIs ?_
 exact Lib.tabIs_of_head (g:=1) (t:=175) (e:=150) (n:=20) (by kernel_rfl) (by kernel_rfl) Tryz.underlying175 Tryz.underlying150 (by kernel_rfl) (by kernel_rfl) h3
end Go.Proofs.YtnecjdhamohadaaGreatDoor
