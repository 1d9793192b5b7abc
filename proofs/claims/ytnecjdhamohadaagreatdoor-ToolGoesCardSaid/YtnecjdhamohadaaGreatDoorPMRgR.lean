/- A tool's run against the document's: plain. -/
import Derived.Test.YtnecjdhamohadaaGreatDoorPMRgQ
import Derived.Test.YtnecjdhamohadaaGreatDoorPMRg7
import Derived.Test.YtnecjdhamohadaaGreatDoorPMr
set_option linter.unusedSimpArgs false
set_option linter.unusedVariables false
namespace Go.Proofs.YtnecjdhamohadaaGreatDoor
open Go.Lib
theorem step_known (s:PS) (v:Env):(s.step v).known=s.known:=by
 by_cases hs:s.Still
 ·rw [PS.step_still hs]
 ·cases ht:s.todo with
  | nil=>rw [step_nil hs ht]
  | cons t r =>
   rw [step_cons hs ht]
   exact (grows_task _ v t).1
theorem run_known (v:Env):∀ (n:Nat) (s:PS),(s.run v n).known=s.known
 | 0,_=>rfl
 | n+1,s=>(run_known v n (s.step v)).trans (step_known s v)
theorem next_known (s:PS):s.next.known=s.known:=by
 unfold PS.next
 split
 ·rfl
 ·split <;> rfl
def KM (K:List KE):List (TT × KE):=K.map fun k=>(k.path,nrm k)
theorem getK_km:∀ (K:List KE) (p:TT),getK (KM K) p=orK K p
 | [],_=>rfl
 | k :: K,p=>by
  have ih:=getK_km K p
  unfold getK orK KM at *
  rw [List.map_cons,List.find?_cons,List.find?_cons]
  cases h:k.path == p with
  | true=>rfl
  | false=>exact ih
theorem orK_more {K:List KE} (x:KE) (p:TT) (k:KE) (h:orK K p=some k):orK (K++[x]) p=some k:=by
 unfold orK at *
 rw [List.find?_append]
 cases hf:K.find? fun k=>k.path == p with
 | none=>rw [hf] at h;cases h
 | some y=>rw [hf] at h;exact h
theorem orK_last {K:List KE} {x:KE} (h:orK K x.path=none):orK (K++[x]) x.path=some (nrm x):=by
 unfold orK at *
 rw [List.find?_append]
 cases hf:K.find? fun k=>k.path == x.path with
 | none=>simp
 | some y=>rw [hf] at h;cases h
structure FarInv (U:List KE) (v:Env) (cs:List CmdE) (K:List KE) (S:PS) (E:List DE):Prop where
 inv:Inv U S
 known:S.known=KM K
 leads:Leads v (orK K) (PS.start cs,[]) (S,E)
 data:∀ k∈K,k.is=true→k.data.length≤1000000
theorem FarInv.begin {U:List KE} {v:Env} {cs:List CmdE} (h:Inv U (PS.start cs)):FarInv U v cs [] (PS.start cs) []:=⟨h,rfl,Leads.refl _,fun _ h=>by cases h⟩
theorem FarInv.len {U:List KE} {v:Env} {cs:List CmdE} {K:List KE} {S:PS} {E:List DE} (h:FarInv U v cs K S E):K.length≤500:=by
 have h1:=h.inv.ord.lim.less
 rw [h.known,KM,List.length_map] at h1
 exact h1
theorem FarInv.none {U:List KE} {v:Env} {cs:List CmdE} {K:List KE} {S:PS} {E:List DE} (h:FarInv U v cs K S E) (n:Nat) (hw:(S.run v n).waits=true):orK K (S.run v n).asks=none:=by
 have h1:=((h.inv.run (v:=v) n).ord.waits hw).2.1
 rw [run_known,h.known,getK_km] at h1
 exact h1
theorem FarInv.far {U:List KE} {v:Env} {cs:List CmdE} {K:List KE} {S:PS} {E:List DE} (h:FarInv U v cs K S E) (hc:∀ c∈cs,Named c∧CmdOk c) {N:Nat} (hN:K.length < N) {r:RS} (hr:r=farL v (orK K) N cs RS.start) :
  ∃ s1 E1,Leads v (orK K) (S,E) (s1,E1)∧RelStop (orK K) s1 E1 r∧nextV s1=r.stop∧(s1.waits=true∨(s1.over.kind=3∨s1.over.kind=4))∧Fixed v (orK K) (s1,E1)∧writesOf E1=r.wrote∧(writesOf E).length≤r.wrote.length∧s1.next=s1:=by
 have hL:∀ p k,orK K p=some k→p∈K.map (·.path):=fun q k h=>by
  obtain⟨x,hx,h1,_⟩:=orK_some h
  exact List.mem_map.2 ⟨x,hx,h1⟩
 obtain⟨s1,E1,h1,h2⟩:=leads_far (v:=v) hL (N:=N) (by rw [List.length_map];exact hN) cs (PS.start cs) [] RS.start (rel_start cs) rfl (fun c hx=>(hc c hx).1)
 rw [← hr] at h2
 have ho:Ord s1:=Ord.leads (fun p k hk hi=>by
  obtain⟨x,hx,_,rfl⟩:=orK_some hk
  rw [nrm_is] at hi
  rw [nrm_data hi]
  exact h.data x hx hi) (ord_start fun c hx=>(hc c hx).2) h1
 obtain⟨v1,v2,v3⟩:=h2.value ho
 have hm:=h.leads.meet h1 v3
 refine⟨s1,E1,hm,h2,v1,v2,v3,h2.wrote,?_,stop_next v2⟩
 obtain⟨F,hF⟩:=hm.front
 rw [← h2.wrote,show E1=E++F from hF,writesOf_append,List.length_append]
 omega
theorem FarInv.write {U:List KE} {v:Env} {cs:List CmdE} {K:List KE} {S:PS} {E:List DE} (h:FarInv U v cs K S E) {s1:PS} {E1:List DE} (hl:Leads v (orK K) (S,E) (s1,E1)) (hf:Fixed v (orK K) (s1,E1)) {n:Nat} (hs:(S.run v n).Still) (hlt:(writesOf E).length < (writesOf E1).length) :
  (writesOf E1)[(writesOf E).length]?=some (nextV (S.run v n))∧∃ E2,FarInv U v cs K (S.run v n).next E2∧Leads v (orK K) ((S.run v n).next,E2) (s1,E1)∧(writesOf E2).length=(writesOf E).length+1:=by
 obtain⟨h1,_⟩:=goes_next hl hf h.inv.ord hs (fun hw=>h.none n hw)
 obtain⟨h2,E2,h3,h4,h5⟩:=h1 hlt
 exact⟨h2,E2,⟨(h.inv.run n).next,by rw [next_known,run_known,h.known],h.leads.trans h3,h.data⟩,h4,h5⟩
theorem FarInv.stop {U:List KE} {v:Env} {cs:List CmdE} {K:List KE} {S:PS} {E:List DE} (h:FarInv U v cs K S E) {s1:PS} {E1:List DE} (hl:Leads v (orK K) (S,E) (s1,E1)) (hf:Fixed v (orK K) (s1,E1)) {n:Nat} (hs:(S.run v n).Still) (he:(writesOf E).length=(writesOf E1).length) :
  S.run v n=s1∧E=E1∧FarInv U v cs K s1 E:=by
 obtain⟨_,h2⟩:=goes_next hl hf h.inv.ord hs (fun hw=>h.none n hw)
 obtain⟨h3,h4⟩:=h2 he
 refine⟨h3,h4,?_⟩
 rw [← h3]
 exact⟨h.inv.run n,by rw [run_known,h.known],h.leads.trans (run_leads n S E),h.data⟩
theorem FarInv.give {U:List KE} {v:Env} {cs:List CmdE} {K:List KE} {S:PS} {E:List DE} (h:FarInv U v cs K S E) (hw:S.waits=true) (hU:∀ p,(ansU U p).is=true→(ansU U p).data.length≤1000000) (hp:(ansU U S.asks).path=S.asks) :
  ∃ E2,FarInv U v cs (K++[ansU U S.asks]) (S.give (nrm (ansU U S.asks))) E2∧writesOf E2=writesOf E:=by
 have hn:=h.none 0 hw
 obtain⟨w1,w2,w3⟩:=h.inv.ord.waits hw
 have hlast:orK (K++[ansU U S.asks]) S.asks=some (nrm (ansU U S.asks)):=by
  have:=orK_last (K:=K) (x:=ansU U S.asks) (by rw [hp];exact hn)
  rw [hp] at this
  exact this
 refine⟨E++[⟨1,S.asks,[],0⟩],⟨h.inv.give hw hU,?_,?_,?_⟩,?_⟩
 ·show S.known++[(S.asks,nrm (ansU U S.asks))]=KM (K++[ansU U S.asks])
  rw [h.known,KM,KM,List.map_append,List.map_singleton,hp]
 ·exact (h.leads.more (orK_more _)).trans (leads_give w1 hw hlast)
 ·intro x hx hi
  rcases List.mem_append.1 hx with hx | hx
  ·exact h.data x hx hi
  ·have:x=ansU U S.asks:=by simpa using hx
   rw [this] at hi ⊢
   exact hU _ hi
 ·rw [writesOf_append]
  simp [writesOf]
end Go.Proofs.YtnecjdhamohadaaGreatDoor
