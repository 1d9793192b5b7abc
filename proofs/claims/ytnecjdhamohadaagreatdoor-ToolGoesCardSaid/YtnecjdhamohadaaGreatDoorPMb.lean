/- One rule for a region that draws its order: the first n operations come in whatever order their edges allow, each is shown once, from what is known of the ones that it waits for; behind them the rest in the text's order. -/
import Derived.Test.YtnecjdhamohadaaGreatDoorPMa
import Derived.StillTailTactics
set_option linter.unusedSimpArgs false
set_option linter.unusedVariables false
namespace Go.Proofs.YtnecjdhamohadaaGreatDoor
open Go.RowKit

def fillAll (T:Array Value):List Oper→(Nat→Value)→Nat→Array Value
 | [],_,_=>T
 | o :: r,u,k=>fillAll (match o.dst with | some d=>T.setIfInBounds d (u k) | none=>T) r u (k+1)

def dstIn (d:Tmp) (r:List Oper):Bool:=r.any fun o=>o.dst == some d
def distinctB:List Oper→Bool
 | []=>true
 | o :: r=>(match o.dst with | some d=>!dstIn d r | none=>true) && distinctB r
def upd (u:Nat→Value) (i:Nat) (v:Value):Nat→Value:=fun j=>if j=i then v else u j

theorem fillAll_comm (l:List Oper):∀ (T:Array Value) (u:Nat→Value) (k:Nat) (d:Tmp) (v:Value),dstIn d l=false →
  fillAll (T.setIfInBounds d v) l u k=(fillAll T l u k).setIfInBounds d v:=by
 induction l with
 | nil=>intros;rfl
 | cons o r ih =>
  intro T u k d v h
  simp only [dstIn,List.any_cons,Bool.or_eq_false_iff] at h
  cases hd:o.dst with
  | none=>simp only [fillAll,hd];exact ih T u (k+1) d v h.2
  | some d' =>
   have hne:d'≠d:=fun e=>by have:=h.1;rw [hd,e] at this;simp at this
   simp only [fillAll,hd]
   rw [← ih _ u (k+1) d v h.2,Array.setIfInBounds_comm _ _ hne]
theorem fillAll_congr (l:List Oper):∀ (T:Array Value) (u u':Nat→Value) (k:Nat),(∀ j,k≤j→u j=u' j)→fillAll T l u k=fillAll T l u' k:=by
 induction l with
 | nil=>intros;rfl
 | cons o r ih =>
  intro T u u' k h
  simp only [fillAll,h k (Nat.le_refl _)]
  exact ih _ u u' (k+1) (fun j hj=>h j (by omega))
theorem fillAll_put (l:List Oper):∀ (T:Array Value) (u:Nat→Value) (k i:Nat) (o:Oper) (v:Value),distinctB l=true→l[i]?=some o →
  (match o.dst with | some d=>(fillAll T l u k).setIfInBounds d v | none=>fillAll T l u k)=fillAll T l (upd u (k+i) v) k:=by
 induction l with
 | nil=>intro T u k i o v _ h;simp at h
 | cons o' r ih =>
  intro T u k i o v hd h
  simp only [distinctB,Bool.and_eq_true] at hd
  cases i with
  | zero =>
   simp only [List.getElem?_cons_zero,Option.some.injEq] at h
   subst h
   have hc:∀ T,fillAll T r (upd u (k+0) v) (k+1)=fillAll T r u (k+1):=fun T=>fillAll_congr r T _ _ _ (fun j hj=>by simp only [upd];rw [if_neg (by omega)])
   cases hdd:o'.dst with
   | none=>simp only [fillAll,hdd,hc]
   | some d =>
    have h1:dstIn d r=false:=by have:=hd.1;rw [hdd] at this;simpa using this
    simp only [fillAll,hdd,hc]
    rw [← fillAll_comm r _ _ _ _ _ h1]
    simp [upd]
  | succ i =>
   simp only [List.getElem?_cons_succ] at h
   have:=ih (match o'.dst with | some d=>T.setIfInBounds d (u k) | none=>T) u (k+1) i o v hd.2 h
   have e:k+1+i=k+(i+1):=by omega
   rw [e] at this
   simp only [fillAll]
   rw [this]
   have hk:upd u (k+(i+1)) v k=u k:=by simp only [upd];rw [if_neg (by omega)]
   rw [hk]
theorem fillAll_self (l:List Oper):∀ (T:Array Value) (k:Nat),distinctB l=true→∃ u,fillAll T l u k=T:=by
 induction l with
 | nil=>intro T k _;exact⟨fun _=>undef,rfl⟩
 | cons o r ih =>
  intro T k hd
  simp only [distinctB,Bool.and_eq_true] at hd
  obtain⟨u,hu⟩:=ih T (k+1) hd.2
  cases hdd:o.dst with
  | none=>exact⟨u,by simp only [fillAll,hdd];exact hu⟩
  | some d =>
   refine⟨upd u k (T.getD d undef),?_⟩
   simp only [fillAll,hdd]
   have h0:upd u k (T.getD d undef) k=T.getD d undef:=by simp [upd]
   have hT:T.setIfInBounds d (T.getD d undef)=T:=by
    apply Array.ext
    ·simp
    ·intro i h1 h2
     rw [Array.getElem_setIfInBounds]
     split
     ·subst_vars;simp [h2]
     ·rfl
   rw [h0,hT,fillAll_congr r T _ u (k+1) (fun j hj=>by simp only [upd];rw [if_neg (by omega)])]
   exact hu

def backB (ops:Array Oper) (n:Nat):Bool:=(List.range n).all fun i=>((ops[i]?).map (·.after.all fun e=>decide (e.on < i))).getD true
def headB (ops:Array Oper) (n:Nat):Bool :=
 backB ops n && (decide (n=ops.size) || (decide (n < ops.size) && Region.sinkB .any ops n && Region.chainB .any ops n && Region.seqB .any ops (ops.size - n) n ((Array.range ops.size).map fun j=>decide (j < n))))

section
variable {P:Program}
end
def AllOps (F:Nat→Oper→Prop):List Oper→Nat→Prop
 | [],_=>True
 | o :: r,k=>F k o∧AllOps F r (k+1)
theorem AllOps.get {F:Nat→Oper→Prop}:∀ (l:List Oper) (k:Nat),AllOps F l k→∀ i o,l[i]?=some o→F (k+i) o
 | [],_,_,i,o,h=>by simp at h
 | o' :: r,k,ha,0,o,h=>by
  simp only [List.getElem?_cons_zero,Option.some.injEq] at h
  subst h
  exact ha.1
 | o' :: r,k,ha,i+1,o,h=>by
  simp only [List.getElem?_cons_succ] at h
  have:=AllOps.get r (k+1) ha.2 i o h
  rw [show k+(i+1)=k+1+i by omega]
  exact this
theorem of_allOps {F:Nat→Oper→Prop} {l:List Oper} {n:Nat} (h:AllOps F (l.take n) 0):∀ i o,i < n→l[i]?=some o→F i o:=fun i o hi ho=>by
 have:=AllOps.get (l.take n) 0 h i o (by rw [List.getElem?_take,if_pos hi];exact ho)
 rwa [Nat.zero_add] at this
end Go.Proofs.YtnecjdhamohadaaGreatDoor
namespace Go.Proofs.YtnecjdhamohadaaGreatDoor
open Go.RowKit
theorem fillAll_size (l:List Oper):∀ (T:Array Value) (u:Nat→Value) (k:Nat),(fillAll T l u k).size=T.size:=by
 induction l with
 | nil=>intros;rfl
 | cons o r ih =>
  intro T u k
  simp only [fillAll]
  rw [ih]
  cases o.dst <;> simp
theorem fillAll_out (l:List Oper):∀ (T:Array Value) (u:Nat→Value) (k:Nat) (t:Tmp),dstIn t l=false→(fillAll T l u k)[t]?=T[t]?:=by
 induction l with
 | nil=>intros;rfl
 | cons o r ih =>
  intro T u k t h
  simp only [dstIn,List.any_cons,Bool.or_eq_false_iff] at h
  simp only [fillAll]
  rw [ih _ _ _ t h.2]
  cases hd:o.dst with
  | none=>rfl
  | some d =>
   have hne:d≠t:=fun e=>by have:=h.1;rw [hd,e] at this;simp at this
   exact Array.getElem?_setIfInBounds_ne hne
theorem fillAll_at (l:List Oper):∀ (T:Array Value) (u:Nat→Value) (k i:Nat) (o:Oper) (d:Tmp),distinctB l=true→l[i]?=some o→o.dst=some d→d < T.size→(fillAll T l u k)[d]?=some (u (k+i)):=by
 induction l with
 | nil=>intro T u k i o d _ h;simp at h
 | cons o' r ih =>
  intro T u k i o d hd h hod hlt
  simp only [distinctB,Bool.and_eq_true] at hd
  cases i with
  | zero =>
   simp only [List.getElem?_cons_zero,Option.some.injEq] at h
   subst h
   have h1:dstIn d r=false:=by have:=hd.1;rw [hod] at this;simpa using this
   simp only [fillAll,hod]
   rw [fillAll_out r _ _ _ d h1]
   simp [hlt]
  | succ i =>
   simp only [List.getElem?_cons_succ] at h
   simp only [fillAll]
   rw [ih _ u (k+1) i o d hd.2 h hod (by cases o'.dst <;> simpa using hlt)]
   rw [show k+1+i=k+(i+1) by omega]
theorem step_plain0 {P:Program} {ops:Array Oper} {T:Array Value} {D:List Deferred} {o:Oper} {w:World} {K:Act→World→Prop} {Q:Exit→Act→World→Prop} {E:Prop} (hg:o.guard=none)
  (h:Oper.wp P o ⟨T,D⟩ w K Q):if Region.wanted o (yielded ops T)=true then Oper.wp P o ⟨T,D⟩ w K Q else E:=by
 rw [if_pos (by simp [Region.wanted,hg])];exact h
section
variable {P:Program}
end

section
variable {P:Program}
theorem wpAny_rel {Q:Exit→Act→World→Prop} {w:World} {l:List Oper} {T:Array Value} {D:List Deferred} (n:Nat)
  (hB:headB l.toArray n=true) (hd:distinctB (l.take n)=true) (N:Nat) (hN:T.size=N) (hNB:(l.all fun o=>(o.dst.map fun d=>decide (d < N)).getD true)=true)
  (V:Nat→Value→World→Prop) (M:World→Prop) (Ext:World→World→Prop) (hM0:M w.drew) (hV:∀ j v w w',Ext w w'→V j v w→V j v w')
  (hop:∀ i o,i < n→l[i]?=some o→o.guard=none∧∀ (T':Array Value) (w:World),M w→T'.size=T.size→(∀ t,dstIn t (l.take n)=false→T'[t]?=T[t]?) →
   (∀ e∈o.after,Region.binds .any e=true→∀ oe d,l[e.on]?=some oe→oe.dst=some d→∃ v,T'[d]?=some v∧V e.on v w) →
   ∀ K:Act→World→Prop,(∀ v w',V i v w'→M w'→Ext w w'→K ((⟨T',D⟩:Act).put o.dst v) w')→Oper.wp P o ⟨T',D⟩ w K Q)
  (hend:∀ (u:Nat→Value) (w:World),M w→(∀ j,j < n→V j (u j) w)→wpList P l.toArray Q (l.drop n) ⟨fillAll T (l.take n) u 0,D⟩ w) :
  wpAny P .any l.toArray Q l.toArray.size (Array.replicate l.toArray.size false) ⟨T,D⟩ w.drew:=by
 have hin_:∀ o d,o∈l→o.dst=some d→d < T.size:=fun o d ho hd'=>by
  have:=List.all_eq_true.1 hNB o ho
  rw [hd'] at this
  rw [hN]
  simpa using this
 simp only [headB,Bool.and_eq_true,Bool.or_eq_true,decide_eq_true_eq] at hB
 obtain⟨hback,hB⟩:=hB
 have hsz:l.toArray.size=l.length:=by simp
 have hn:n≤l.length:=by rcases hB with h | h <;> omega
 -- the state: some of the head have come
 have key:∀ (f:Nat) (listed:Array Bool) (u:Nat→Value) (w:World),HeadInv .any l.toArray n listed →
   ((List.range n).filter fun j=>!listed.getD j true).length=f→M w→(∀ j,j < n→listed.getD j false=true→V j (u j) w) →
   wpAny P .any l.toArray Q (f+(l.length - n)) listed ⟨fillAll T (l.take n) u 0,D⟩ w:=by
  intro f
  induction f with
  | zero =>
   intro listed u w inv hf hM hVs
   have hall:∀ j,j < n→listed.getD j false=true:=by
    intro j hj
    have:(List.range n).filter (fun j=>!listed.getD j true)=[]:=List.eq_nil_of_length_eq_zero hf
    have h1:=List.filter_eq_nil_iff.1 this j (List.mem_range.2 hj)
    have hjs:j < listed.size:=by rw [inv.size,hsz];omega
    simp only [Bool.not_eq_true',Bool.not_eq_false] at h1
    simp [hjs] at h1 ⊢
    exact h1
   have hL:listed=(Array.range l.toArray.size).map fun j=>decide (j < n):=by
    apply Array.ext
    ·simp [inv.size]
    ·intro j h1 h2
     rw [Array.getElem_map,Array.getElem_range]
     by_cases hjn:j < n
     ·have:=hall j hjn
      simp only [hjn,decide_true]
      simpa [h1] using this
     ·have hjl:j < l.toArray.size:=by rw [← inv.size];exact h1
      have:=inv.tail j (by omega) hjl
      simp only [hjn,decide_false]
      simpa [h1] using this
   have hend':=hend u w hM (fun j hj=>hVs j hj (hall j hj))
   rw [Nat.zero_add]
   rcases hB with hB | hB
   ·have h0:l.length - n=0:=by omega
    rw [h0]
    rw [List.drop_of_length_le (by omega)] at hend'
    refine⟨?_,hend'⟩
    rcases hr:Region.ready .any l.toArray listed with _ | ⟨i,r⟩
    ·rfl
    ·have hi:i∈Region.ready .any l.toArray listed:=by rw [hr];simp
     obtain⟨h1,o,ho,_⟩:=mem_ready.1 hi
     have hil:i < l.toArray.size:=(Array.getElem?_eq_some_iff.1 ho).1
     have:=hall i (by omega)
     rw [getD_both h1] at this;cases this
   ·have hdl:(l.drop n).length=l.length - n:=by simp
    have hseq:=hB.2
    rw [← hL,hsz,← hdl] at hseq
    have:=wpAny_of_seq (P:=P) (md:=.any) (ops:=l.toArray) (Q':=Q) (l.drop n) n listed ⟨fillAll T (l.take n) u 0,D⟩ w (fun j=>by simp [List.getElem?_drop]) hseq hend'
    rw [hdl] at this
    exact this
  | succ f ih =>
   intro listed u w inv hf hM hVs
   rw [show f+1+(l.length - n)=(f+(l.length - n))+1 by omega]
   -- one of the head has not come: the least of them may come
   have hex:∃ i,i < n∧listed.getD i true=false:=by
    rcases hq:(List.range n).filter (fun j=>!listed.getD j true) with _ | ⟨i,r⟩
    ·rw [hq] at hf;simp at hf
    ·have hi:i∈(List.range n).filter (fun j=>!listed.getD j true):=by rw [hq];simp
     rw [List.mem_filter,List.mem_range] at hi
     exact⟨i,hi.1,by simpa using hi.2⟩
   refine⟨fun h0=>?_,fun i hi=>?_⟩
   ·exfalso
    -- strong induction to the least
    have hleast:∀ m i,i≤m→i < n→listed.getD i true=false→∃ j,j∈Region.ready .any l.toArray listed:=by
     intro m
     induction m with
     | zero =>
      intro i hi hin hun
      obtain rfl:i=0:=by omega
      have hlt:0 < l.length:=by omega
      refine⟨0,mem_ready.2 ⟨hun,l[0],by simp [hlt],fun e he hb=>?_⟩⟩
      have h1:=List.all_eq_true.1 hback 0 (List.mem_range.2 hin)
      rw [show l.toArray[0]?=some l[0] by simp [hlt]] at h1
      simp only [Option.map_some,Option.getD_some,Array.all_eq_true',decide_eq_true_eq] at h1
      have:=h1 e he
      omega
     | succ m ihm =>
      intro i hi hin hun
      by_cases hdep:∃ j,j < i∧listed.getD j true=false
      ·obtain⟨j,hj,hju⟩:=hdep
       exact ihm j (by omega) (by omega) hju
      ·have hlt:i < l.length:=by omega
       refine⟨i,mem_ready.2 ⟨hun,l[i],by simp [hlt],fun e he hb=>?_⟩⟩
       have h1:=List.all_eq_true.1 hback i (List.mem_range.2 hin)
       rw [show l.toArray[i]?=some l[i] by simp [hlt]] at h1
       simp only [Option.map_some,Option.getD_some,Array.all_eq_true',decide_eq_true_eq] at h1
       have hlt2:=h1 e he
       have hes:e.on < listed.size:=by rw [inv.size,hsz];omega
       cases hq:listed.getD e.on false with
       | true=>rfl
       | false=>exact absurd ⟨e.on,hlt2,getD_in hes hq⟩ hdep
    obtain⟨i,hin,hun⟩:=hex
    obtain⟨j,hj⟩:=hleast i i (Nat.le_refl _) hin hun
    rw [h0] at hj;cases hj
   ·obtain⟨hun,o,ho,hall⟩:=mem_ready.1 hi
    have hin:i < n:=by
     rcases hB with hB | hB
     ·have:=(Array.getElem?_eq_some_iff.1 ho).1;omega
     ·rcases Nat.lt_or_ge i n with h | h
      ·exact h
      ·obtain⟨k,hk,hku⟩:=hex
       exact absurd hi (tail_waits hB.1.1.2 hB.1.2 hB.1.1.1 inv _ k rfl hk hku i h)
    have hol:l[i]?=some o:=by simpa using ho
    have hfacts:∀ e∈o.after,Region.binds .any e=true→V e.on (u e.on) w:=fun e he hb=>by
     refine hVs e.on ?_ (hall e he hb)
     have h1:=List.all_eq_true.1 hback i (List.mem_range.2 hin)
     rw [ho] at h1
     simp only [Option.map_some,Option.getD_some,Array.all_eq_true',decide_eq_true_eq] at h1
     have:=h1 e he
     omega
    refine wpOp_step ho fun K hK=>?_
    obtain⟨hg,hstep⟩:=hop i o hin hol
    have hst:=hstep (fillAll T (l.take n) u 0) w hM (fillAll_size _ _ _ _) (fun t ht=>fillAll_out _ _ _ _ t ht) (fun e he hb oe d hoe hod=>by
     have hlt2:e.on < n:=by
      have h1:=List.all_eq_true.1 hback i (List.mem_range.2 hin)
      rw [ho] at h1
      simp only [Option.map_some,Option.getD_some,Array.all_eq_true',decide_eq_true_eq] at h1
      have:=h1 e he
      omega
     refine⟨u e.on,?_,hfacts e he hb⟩
     have:=fillAll_at (l.take n) T u 0 e.on oe d hd (by rw [List.getElem?_take,if_pos hlt2];exact hoe) hod (hin_ oe d (List.mem_of_getElem? hoe) hod)
     rwa [Nat.zero_add] at this)
    refine step_plain0 hg (hst K (fun v w' hv hM' hE=>hK _ _ ?_))
    have hput:(⟨fillAll T (l.take n) u 0,D⟩:Act).put o.dst v=⟨fillAll T (l.take n) (upd u i v) 0,D⟩:=by
     have:=fillAll_put (l.take n) T u 0 i o v hd (by rw [List.getElem?_take,if_pos hin];exact hol)
     rw [Nat.zero_add] at this
     rw [← this]
     cases o.dst <;> rfl
    rw [hput]
    refine ih (listed.setIfInBounds i true) (upd u i v) w' (inv.set hi hin) ?_ hM' ?_
    ·have hils:i < listed.size:=by rw [inv.size,hsz];omega
     have hsplit:∀ (r:List Nat),r.Nodup→i∈r→(r.filter fun j=>!listed.getD j true).length=(r.filter fun j=>!(listed.setIfInBounds i true).getD j true).length+1:=by
      intro r
      induction r with
      | nil=>intro _ h;cases h
      | cons x r ihr =>
       intro hnd hmem
       rw [List.nodup_cons] at hnd
       by_cases hx:x=i
       ·subst hx
        have h2:(listed.setIfInBounds x true).getD x true=true:=by simp [hils]
        have hsame:∀ (r':List Nat),x ∉ r'→(r'.filter fun j=>!listed.getD j true)=(r'.filter fun j=>!(listed.setIfInBounds x true).getD j true):=by
         intro r' hr'
         refine List.filter_congr fun j hj=>?_
         rw [getD_set_ne true (show x≠j from fun e=>hr' (by rw [e];exact hj))]
        rw [List.filter_cons,List.filter_cons,hun,h2]
        simp only [Bool.not_false,if_true,Bool.not_true,Bool.false_eq_true,if_false,List.length_cons]
        rw [hsame r hnd.1]
       ·have hm':i∈r:=by
         rcases List.mem_cons.1 hmem with h | h
         ·exact absurd h.symm hx
         ·exact h
        have:=ihr hnd.2 hm'
        rw [List.filter_cons,List.filter_cons,getD_set_ne true (fun e=>hx e.symm)]
        split
        ·simp only [List.length_cons];omega
        ·exact this
     have:=hsplit (List.range n) List.nodup_range (List.mem_range.2 hin)
     omega
    ·intro j hj hl
     by_cases hji:j=i
     ·subst hji
      simp only [upd,if_true]
      exact hv
     ·rw [getD_set_ne false (Ne.symm hji)] at hl
      have h1:=hV j (u j) w w' hE (hVs j hj hl)
      simp only [upd,hji,if_false]
      exact h1
 obtain⟨u,hu⟩:=fillAll_self (l.take n) T 0 hd
 have inv0:HeadInv .any l.toArray n (Array.replicate l.toArray.size false) :=
  ⟨by simp,fun j oj _ hl=>(by rw [getD_replicate_false] at hl;cases hl),fun t _ ht=>getD_in (by simpa using ht) (getD_replicate_false _ _)⟩
 have hf0:((List.range n).filter fun j=>!(Array.replicate l.toArray.size false).getD j true).length=n:=by
  rw [List.filter_eq_self.2]
  ·simp
  ·intro j hj
   have:=List.mem_range.1 hj
   rw [getD_in (by simp;omega) (getD_replicate_false _ _)];rfl
 have:=key n (Array.replicate l.toArray.size false) u w.drew inv0 hf0 hM0 (fun j _ hl=>by rw [getD_replicate_false] at hl;cases hl)
 rw [hu,show n+(l.length - n)=l.toArray.size by omega] at this
 exact this
theorem wp_region_rel {id:Nat} {Q:Exit→Act→World→Prop} {w:World} {l:List Oper} {T:Array Value} {D:List Deferred} (n:Nat) (hm:P.follows .mixedOrders=true)
  (hB:headB l.toArray n=true) (hd:distinctB (l.take n)=true) (N:Nat) (hN:T.size=N) (hNB:(l.all fun o=>(o.dst.map fun d=>decide (d < N)).getD true)=true)
  (V:Nat→Value→World→Prop) (M:World→Prop) (Ext:World→World→Prop) (hM0:M w.drew) (hV:∀ j v w w',Ext w w'→V j v w→V j v w')
  (hop:∀ i o,i < n→l[i]?=some o→o.guard=none∧∀ (T':Array Value) (w:World),M w→T'.size=T.size→(∀ t,dstIn t (l.take n)=false→T'[t]?=T[t]?) →
   (∀ e∈o.after,Region.binds .any e=true→∀ oe d,l[e.on]?=some oe→oe.dst=some d→∃ v,T'[d]?=some v∧V e.on v w) →
   ∀ K:Act→World→Prop,(∀ v w',V i v w'→M w'→Ext w w'→K ((⟨T',D⟩:Act).put o.dst v) w')→Oper.wp P o ⟨T',D⟩ w K Q)
  (hend:∀ (u:Nat→Value) (w:World),M w→(∀ j,j < n→V j (u j) w)→wpList P l.toArray Q (l.drop n) ⟨fillAll T (l.take n) u 0,D⟩ w) :
  (Code.region id l.toArray true).wp P Q ⟨T,D⟩ w :=
 wp_region_any hm (wpAny_rel n hB hd N hN hNB V M Ext hM0 hV hop hend)
end

end Go.Proofs.YtnecjdhamohadaaGreatDoor
namespace Go.Proofs.YtnecjdhamohadaaGreatDoor
open Go.RowKit
section
variable {P:Program} {ops:Array Oper} {T:Array Value} {D:List Deferred} {o og:Oper} {w:World} {K:Act→World→Prop} {Q:Exit→Act→World→Prop} {E:Prop}
theorem grd_met {g:Nat} {b:Bool} {dg:Tmp} (hg:o.guard=some (g,b)) (ho:ops[g]?=some og) (hd:og.dst=some dg) (hv:T[dg]?=some (.bool b)) (h:Oper.wp P o ⟨T,D⟩ w K Q) :
  if Region.wanted o (yielded ops T)=true then Oper.wp P o ⟨T,D⟩ w K Q else E:=by
 rw [if_pos (by simp [Region.wanted,hg,yielded,ho,hd,hv])];exact h
theorem grd_not {g:Nat} {b b':Bool} {dg:Tmp} {F:Prop} (hg:o.guard=some (g,b)) (ho:ops[g]?=some og) (hd:og.dst=some dg) (hv:T[dg]?=some (.bool b')) (hne:b'≠b) (h:E) :
  if Region.wanted o (yielded ops T)=true then F else E:=by
 rw [if_neg (by simp [Region.wanted,hg,yielded,ho,hd,hv,hne])];exact h
end

def backB2 (ops:Array Oper) (n:Nat):Bool:=(List.range n).all fun j=>((ops[j]?).map fun o=>o.after.all fun e=>!Region.binds .any e || decide (e.on < j)).getD true
def headB2 (ops:Array Oper) (n:Nat):Bool :=
 backB2 ops n && (decide (n=ops.size) || (decide (n < ops.size) && Region.sinkB .any ops n && Region.chainB .any ops n && Region.seqB .any ops (ops.size - n) n ((Array.range ops.size).map fun j=>decide (j < n))))
section
variable {P:Program}
theorem wp_region_grd {id:Nat} {Q:Exit→Act→World→Prop} {w:World} {l:List Oper} {T:Array Value} {D:List Deferred} (n:Nat) (hm:P.follows .mixedOrders=true)
  (hB:headB2 l.toArray n=true) (hd:distinctB (l.take n)=true) (N:Nat) (hN:T.size=N) (hNB:(l.all fun o=>(o.dst.map fun d=>decide (d < N)).getD true)=true)
  (V:Nat→Value→World→Prop) (M:World→Prop) (Ext:World→World→Prop) (hM0:M w.drew) (hV:∀ j v w w',Ext w w'→V j v w→V j v w')
  (hop:∀ i o,i < n→l[i]?=some o→∀ (T':Array Value) (w:World),M w→T'.size=T.size→(∀ t,dstIn t (l.take n)=false→T'[t]?=T[t]?) →
   (∀ e∈o.after,Region.binds .any e=true→∀ oe d,l[e.on]?=some oe→oe.dst=some d→∃ v,T'[d]?=some v∧V e.on v w) →
   ∀ K:Act→World→Prop,(∀ v w',V i v w'→M w'→Ext w w'→K ((⟨T',D⟩:Act).put o.dst v) w')→if Region.wanted o (yielded l.toArray T')=true then Oper.wp P o ⟨T',D⟩ w K Q else K ((⟨T',D⟩:Act).put o.dst undef) w)
  (hend:∀ (u:Nat→Value) (w:World),M w→(∀ j,j < n→V j (u j) w)→wpList P l.toArray Q (l.drop n) ⟨fillAll T (l.take n) u 0,D⟩ w) :
  (Code.region id l.toArray true).wp P Q ⟨T,D⟩ w:=by
 have hin_:∀ o d,o∈l→o.dst=some d→d < T.size:=fun o d ho hd'=>by
  have:=List.all_eq_true.1 hNB o ho
  rw [hd'] at this
  rw [hN]
  simpa using this
 simp only [headB2,Bool.and_eq_true,Bool.or_eq_true,decide_eq_true_eq] at hB
 obtain⟨hback,hB⟩:=hB
 have hsz:l.toArray.size=l.length:=by simp
 have hn:n≤l.length:=by rcases hB with h | h <;> omega
 refine wp_region_any hm ?_
 -- the state: some of the head have come
 have key:∀ (f:Nat) (listed:Array Bool) (u:Nat→Value) (w:World),HeadInv .any l.toArray n listed →
   ((List.range n).filter fun j=>!listed.getD j true).length=f→M w→(∀ j,j < n→listed.getD j false=true→V j (u j) w) →
   wpAny P .any l.toArray Q (f+(l.length - n)) listed ⟨fillAll T (l.take n) u 0,D⟩ w:=by
  intro f
  induction f with
  | zero =>
   intro listed u w inv hf hM hVs
   have hall:∀ j,j < n→listed.getD j false=true:=by
    intro j hj
    have:(List.range n).filter (fun j=>!listed.getD j true)=[]:=List.eq_nil_of_length_eq_zero hf
    have h1:=List.filter_eq_nil_iff.1 this j (List.mem_range.2 hj)
    have hjs:j < listed.size:=by rw [inv.size,hsz];omega
    simp only [Bool.not_eq_true',Bool.not_eq_false] at h1
    simp [hjs] at h1 ⊢
    exact h1
   have hL:listed=(Array.range l.toArray.size).map fun j=>decide (j < n):=by
    apply Array.ext
    ·simp [inv.size]
    ·intro j h1 h2
     rw [Array.getElem_map,Array.getElem_range]
     by_cases hjn:j < n
     ·have:=hall j hjn
      simp only [hjn,decide_true]
      simpa [h1] using this
     ·have hjl:j < l.toArray.size:=by rw [← inv.size];exact h1
      have:=inv.tail j (by omega) hjl
      simp only [hjn,decide_false]
      simpa [h1] using this
   have hend':=hend u w hM (fun j hj=>hVs j hj (hall j hj))
   rw [Nat.zero_add]
   rcases hB with hB | hB
   ·have h0:l.length - n=0:=by omega
    rw [h0]
    rw [List.drop_of_length_le (by omega)] at hend'
    refine⟨?_,hend'⟩
    rcases hr:Region.ready .any l.toArray listed with _ | ⟨i,r⟩
    ·rfl
    ·have hi:i∈Region.ready .any l.toArray listed:=by rw [hr];simp
     obtain⟨h1,o,ho,_⟩:=mem_ready.1 hi
     have hil:i < l.toArray.size:=(Array.getElem?_eq_some_iff.1 ho).1
     have:=hall i (by omega)
     rw [getD_both h1] at this;cases this
   ·have hdl:(l.drop n).length=l.length - n:=by simp
    have hseq:=hB.2
    rw [← hL,hsz,← hdl] at hseq
    have:=wpAny_of_seq (P:=P) (md:=.any) (ops:=l.toArray) (Q':=Q) (l.drop n) n listed ⟨fillAll T (l.take n) u 0,D⟩ w (fun j=>by simp [List.getElem?_drop]) hseq hend'
    rw [hdl] at this
    exact this
  | succ f ih =>
   intro listed u w inv hf hM hVs
   rw [show f+1+(l.length - n)=(f+(l.length - n))+1 by omega]
   -- one of the head has not come: the least of them may come
   have hex:∃ i,i < n∧listed.getD i true=false:=by
    rcases hq:(List.range n).filter (fun j=>!listed.getD j true) with _ | ⟨i,r⟩
    ·rw [hq] at hf;simp at hf
    ·have hi:i∈(List.range n).filter (fun j=>!listed.getD j true):=by rw [hq];simp
     rw [List.mem_filter,List.mem_range] at hi
     exact⟨i,hi.1,by simpa using hi.2⟩
   refine⟨fun h0=>?_,fun i hi=>?_⟩
   ·exfalso
    -- strong induction to the least
    have hleast:∀ m i,i≤m→i < n→listed.getD i true=false→∃ j,j∈Region.ready .any l.toArray listed:=by
     intro m
     induction m with
     | zero =>
      intro i hi hin hun
      obtain rfl:i=0:=by omega
      have hlt:0 < l.length:=by omega
      refine⟨0,mem_ready.2 ⟨hun,l[0],by simp [hlt],fun e he hb=>?_⟩⟩
      have h1:=List.all_eq_true.1 hback 0 (List.mem_range.2 hin)
      rw [show l.toArray[0]?=some l[0] by simp [hlt]] at h1
      simp only [Option.map_some,Option.getD_some,Array.all_eq_true',Bool.or_eq_true,Bool.not_eq_true',decide_eq_true_eq] at h1
      have:=(h1 e he).resolve_left (by rw [hb];decide)
      omega
     | succ m ihm =>
      intro i hi hin hun
      by_cases hdep:∃ j,j < i∧listed.getD j true=false
      ·obtain⟨j,hj,hju⟩:=hdep
       exact ihm j (by omega) (by omega) hju
      ·have hlt:i < l.length:=by omega
       refine⟨i,mem_ready.2 ⟨hun,l[i],by simp [hlt],fun e he hb=>?_⟩⟩
       have h1:=List.all_eq_true.1 hback i (List.mem_range.2 hin)
       rw [show l.toArray[i]?=some l[i] by simp [hlt]] at h1
       simp only [Option.map_some,Option.getD_some,Array.all_eq_true',Bool.or_eq_true,Bool.not_eq_true',decide_eq_true_eq] at h1
       have hlt2:=(h1 e he).resolve_left (by rw [hb];decide)
       have hes:e.on < listed.size:=by rw [inv.size,hsz];omega
       cases hq:listed.getD e.on false with
       | true=>rfl
       | false=>exact absurd ⟨e.on,hlt2,getD_in hes hq⟩ hdep
    obtain⟨i,hin,hun⟩:=hex
    obtain⟨j,hj⟩:=hleast i i (Nat.le_refl _) hin hun
    rw [h0] at hj;cases hj
   ·obtain⟨hun,o,ho,hall⟩:=mem_ready.1 hi
    have hin:i < n:=by
     rcases hB with hB | hB
     ·have:=(Array.getElem?_eq_some_iff.1 ho).1;omega
     ·rcases Nat.lt_or_ge i n with h | h
      ·exact h
      ·obtain⟨k,hk,hku⟩:=hex
       exact absurd hi (tail_waits hB.1.1.2 hB.1.2 hB.1.1.1 inv _ k rfl hk hku i h)
    have hol:l[i]?=some o:=by simpa using ho
    have hfacts:∀ e∈o.after,Region.binds .any e=true→V e.on (u e.on) w:=fun e he hb=>by
     refine hVs e.on ?_ (hall e he hb)
     have h1:=List.all_eq_true.1 hback i (List.mem_range.2 hin)
     rw [ho] at h1
     simp only [Option.map_some,Option.getD_some,Array.all_eq_true',Bool.or_eq_true,Bool.not_eq_true',decide_eq_true_eq] at h1
     have:=(h1 e he).resolve_left (by rw [hb];decide)
     omega
    refine wpOp_step ho fun K hK=>?_
    have hst:=hop i o hin hol (fillAll T (l.take n) u 0) w hM (fillAll_size _ _ _ _) (fun t ht=>fillAll_out _ _ _ _ t ht) (fun e he hb oe d hoe hod=>by
     have hlt2:e.on < n:=by
      have h1:=List.all_eq_true.1 hback i (List.mem_range.2 hin)
      rw [ho] at h1
      simp only [Option.map_some,Option.getD_some,Array.all_eq_true',Bool.or_eq_true,Bool.not_eq_true',decide_eq_true_eq] at h1
      have:=(h1 e he).resolve_left (by rw [hb];decide)
      omega
     refine⟨u e.on,?_,hfacts e he hb⟩
     have:=fillAll_at (l.take n) T u 0 e.on oe d hd (by rw [List.getElem?_take,if_pos hlt2];exact hoe) hod (hin_ oe d (List.mem_of_getElem? hoe) hod)
     rwa [Nat.zero_add] at this)
    refine hst K (fun v w' hv hM' hE=>hK _ _ ?_)
    have hput:(⟨fillAll T (l.take n) u 0,D⟩:Act).put o.dst v=⟨fillAll T (l.take n) (upd u i v) 0,D⟩:=by
     have:=fillAll_put (l.take n) T u 0 i o v hd (by rw [List.getElem?_take,if_pos hin];exact hol)
     rw [Nat.zero_add] at this
     rw [← this]
     cases o.dst <;> rfl
    rw [hput]
    refine ih (listed.setIfInBounds i true) (upd u i v) w' (inv.set hi hin) ?_ hM' ?_
    ·have hils:i < listed.size:=by rw [inv.size,hsz];omega
     have hsplit:∀ (r:List Nat),r.Nodup→i∈r→(r.filter fun j=>!listed.getD j true).length=(r.filter fun j=>!(listed.setIfInBounds i true).getD j true).length+1:=by
      intro r
      induction r with
      | nil=>intro _ h;cases h
      | cons x r ihr =>
       intro hnd hmem
       rw [List.nodup_cons] at hnd
       by_cases hx:x=i
       ·subst hx
        have h2:(listed.setIfInBounds x true).getD x true=true:=by simp [hils]
        have hsame:∀ (r':List Nat),x ∉ r'→(r'.filter fun j=>!listed.getD j true)=(r'.filter fun j=>!(listed.setIfInBounds x true).getD j true):=by
         intro r' hr'
         refine List.filter_congr fun j hj=>?_
         rw [getD_set_ne true (show x≠j from fun e=>hr' (by rw [e];exact hj))]
        rw [List.filter_cons,List.filter_cons,hun,h2]
        simp only [Bool.not_false,if_true,Bool.not_true,Bool.false_eq_true,if_false,List.length_cons]
        rw [hsame r hnd.1]
       ·have hm':i∈r:=by
         rcases List.mem_cons.1 hmem with h | h
         ·exact absurd h.symm hx
         ·exact h
        have:=ihr hnd.2 hm'
        rw [List.filter_cons,List.filter_cons,getD_set_ne true (fun e=>hx e.symm)]
        split
        ·simp only [List.length_cons];omega
        ·exact this
     have:=hsplit (List.range n) List.nodup_range (List.mem_range.2 hin)
     omega
    ·intro j hj hl
     by_cases hji:j=i
     ·subst hji
      simp only [upd,if_true]
      exact hv
     ·rw [getD_set_ne false (Ne.symm hji)] at hl
      have h1:=hV j (u j) w w' hE (hVs j hj hl)
      simp only [upd,hji,if_false]
      exact h1
 obtain⟨u,hu⟩:=fillAll_self (l.take n) T 0 hd
 have inv0:HeadInv .any l.toArray n (Array.replicate l.toArray.size false) :=
  ⟨by simp,fun j oj _ hl=>(by rw [getD_replicate_false] at hl;cases hl),fun t _ ht=>getD_in (by simpa using ht) (getD_replicate_false _ _)⟩
 have hf0:((List.range n).filter fun j=>!(Array.replicate l.toArray.size false).getD j true).length=n:=by
  rw [List.filter_eq_self.2]
  ·simp
  ·intro j hj
   have:=List.mem_range.1 hj
   rw [getD_in (by simp;omega) (getD_replicate_false _ _)];rfl
 have:=key n (Array.replicate l.toArray.size false) u w.drew inv0 hf0 hM0 (fun j _ hl=>by rw [getD_replicate_false] at hl;cases hl)
 rw [hu,show n+(l.length - n)=l.toArray.size by omega] at this
 exact this
end

end Go.Proofs.YtnecjdhamohadaaGreatDoor
