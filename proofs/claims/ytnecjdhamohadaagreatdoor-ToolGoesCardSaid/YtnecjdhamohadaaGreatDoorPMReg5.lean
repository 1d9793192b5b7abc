/- A fifth rule for a region that draws its order: stores among its operations. -/
import Derived.Test.YtnecjdhamohadaaGreatDoorPMb
set_option linter.unusedSimpArgs false
set_option linter.unusedVariables false
namespace Go.Proofs.YtnecjdhamohadaaGreatDoor
open Go.RowKit
section
variable {P:Program}
def updL (L:Nat→Bool) (i:Nat):Nat→Bool:=fun j=>if j=i then true else L j
def edgeB (l:List Oper) (j i:Nat):Bool:=match l[j]? with
 | some o=>o.after.any fun e=>Region.binds .any e && e.on == i
 | none=>false
def pathB (l:List Oper):List Nat→Bool
 | a :: b :: r=>edgeB l a b && pathB l (b :: r)
 | _=>true
theorem path_listed {l:List Oper} {L:Nat→Bool} (hcl:∀ j k,L j=true→edgeB l j k=true→L k=true):∀ (r:List Nat) (a:Nat),pathB l (a :: r)=true→L a=true→∀ x∈a :: r,L x=true
 | [],a,_,h,x,hx=>by
  have:x=a:=by simpa using hx
  rw [this]
  exact h
 | b :: r,a,hp,h,x,hx=>by
  rw [pathB,Bool.and_eq_true] at hp
  rcases List.mem_cons.1 hx with e | e
  ·rw [e]
   exact h
  ·exact path_listed hcl r b hp.2 (hcl a b h hp.1) x e
theorem not_come {l:List Oper} {L:Nat→Bool} (hcl:∀ j k,L j=true→edgeB l j k=true→L k=true) {i:Nat} (hi:L i=false) (j:Nat) (r:List Nat) (hp:pathB l (j :: r)=true) (hx:i∈j :: r):L j=false:=by
 cases h:L j with
 | false=>rfl
 | true =>
  have:=path_listed hcl r j hp h i hx
  rw [hi] at this
  cases this
theorem wp_region_lst {id:Nat} {Q:Exit→Act→World→Prop} {w:World} {l:List Oper} {T:Array Value} {D:List Deferred} (n:Nat) (hm:P.follows .mixedOrders=true)
  (hB:headB2 l.toArray n=true) (hd:distinctB (l.take n)=true) (N:Nat) (hN:T.size=N) (hNB:(l.all fun o=>(o.dst.map fun d=>decide (d < N)).getD true)=true)
  (V:Nat→Value→World→Prop) (M:(Nat→Bool)→(Nat→Value)→World→Prop) (Ext:World→World→Prop) (hM0:∀ u,M (fun _=>false) u w.drew) (hV:∀ j v w w',Ext w w'→V j v w→V j v w')
  (hop:∀ i o,i < n→l[i]?=some o→∀ (T':Array Value) (w:World) (L:Nat→Bool) (u:Nat→Value),M L u w→L i=false→(∀ j k,L j=true→edgeB l j k=true→L k=true)→(∀ j oj d,j < n→L j=true→l[j]?=some oj→oj.dst=some d→T'[d]?=some (u j)∧V j (u j) w)→(∀ e∈o.after,Region.binds .any e=true→L e.on=true)→T'.size=T.size→(∀ t,dstIn t (l.take n)=false→T'[t]?=T[t]?) →
   (∀ e∈o.after,Region.binds .any e=true→∀ oe d,l[e.on]?=some oe→oe.dst=some d→∃ v,T'[d]?=some v∧V e.on v w∧u e.on=v) →
   ∀ K:Act→World→Prop,(∀ v w',V i v w'→M (updL L i) (upd u i v) w'→Ext w w'→K ((⟨T',D⟩:Act).put o.dst v) w')→if Region.wanted o (yielded l.toArray T')=true then Oper.wp P o ⟨T',D⟩ w K Q else K ((⟨T',D⟩:Act).put o.dst undef) w)
  (hend:∀ (u:Nat→Value) (w:World),M (fun j=>decide (j < n)) u w→(∀ j,j < n→V j (u j) w)→wpList P l.toArray Q (l.drop n) ⟨fillAll T (l.take n) u 0,D⟩ w) :
  (Code.region id l.toArray true).wp P Q ⟨T,D⟩ w:=by
 have hin_:∀ o d,o∈l→o.dst=some d→d < T.size:=fun o d ho hd'=>by
  have:=List.all_eq_true.1 hNB o ho
  rw [hd'] at this
  rw [hN]
  simpa using this
 simp only [headB2,Bool.and_eq_true,Bool.or_eq_true,decide_eq_true_eq] at hB
 obtain⟨hback,hB⟩:=hB
 have hsz:l.toArray.size=l.length:=by simp
 have hn:n≤l.length:=by rcases hB with h | h <;> omega
 refine wp_region_any hm ?_
 -- the state: some of the head have come
 have key:∀ (f:Nat) (listed:Array Bool) (u:Nat→Value) (w:World),HeadInv .any l.toArray n listed →
   ((List.range n).filter fun j=>!listed.getD j true).length=f→M (fun j=>listed.getD j false) u w→(∀ j,j < n→listed.getD j false=true→V j (u j) w) →
   wpAny P .any l.toArray Q (f+(l.length - n)) listed ⟨fillAll T (l.take n) u 0,D⟩ w:=by
  intro f
  induction f with
  | zero =>
   intro listed u w inv hf hM hVs
   have hall:∀ j,j < n→listed.getD j false=true:=by
    intro j hj
    have:(List.range n).filter (fun j=>!listed.getD j true)=[]:=List.eq_nil_of_length_eq_zero hf
    have h1:=List.filter_eq_nil_iff.1 this j (List.mem_range.2 hj)
    have hjs:j < listed.size:=by rw [inv.size,hsz];omega
    simp only [Bool.not_eq_true',Bool.not_eq_false] at h1
    simp [hjs] at h1 ⊢
    exact h1
   have hL:listed=(Array.range l.toArray.size).map fun j=>decide (j < n):=by
    apply Array.ext
    ·simp [inv.size]
    ·intro j h1 h2
     rw [Array.getElem_map,Array.getElem_range]
     by_cases hjn:j < n
     ·have:=hall j hjn
      simp only [hjn,decide_true]
      simpa [h1] using this
     ·have hjl:j < l.toArray.size:=by rw [← inv.size];exact h1
      have:=inv.tail j (by omega) hjl
      simp only [hjn,decide_false]
      simpa [h1] using this
   have hLf:(fun j=>listed.getD j false)=fun j=>decide (j < n):=by
    funext j
    by_cases hjn:j < n
    ·rw [hall j hjn,decide_eq_true hjn]
    ·rw [decide_eq_false hjn]
     rcases Nat.lt_or_ge j l.toArray.size with h | h
     ·exact getD_both (inv.tail j (by omega) h)
     ·have:listed.size≤j:=by rw [inv.size];exact h
      simp [Array.getElem?_eq_none this]
   rw [hLf] at hM
   have hend':=hend u w hM (fun j hj=>hVs j hj (hall j hj))
   rw [Nat.zero_add]
   rcases hB with hB | hB
   ·have h0:l.length - n=0:=by omega
    rw [h0]
    rw [List.drop_of_length_le (by omega)] at hend'
    refine⟨?_,hend'⟩
    rcases hr:Region.ready .any l.toArray listed with _ | ⟨i,r⟩
    ·rfl
    ·have hi:i∈Region.ready .any l.toArray listed:=by rw [hr];simp
     obtain⟨h1,o,ho,_⟩:=mem_ready.1 hi
     have hil:i < l.toArray.size:=(Array.getElem?_eq_some_iff.1 ho).1
     have:=hall i (by omega)
     rw [getD_both h1] at this;cases this
   ·have hdl:(l.drop n).length=l.length - n:=by simp
    have hseq:=hB.2
    rw [← hL,hsz,← hdl] at hseq
    have:=wpAny_of_seq (P:=P) (md:=.any) (ops:=l.toArray) (Q':=Q) (l.drop n) n listed ⟨fillAll T (l.take n) u 0,D⟩ w (fun j=>by simp [List.getElem?_drop]) hseq hend'
    rw [hdl] at this
    exact this
  | succ f ih =>
   intro listed u w inv hf hM hVs
   rw [show f+1+(l.length - n)=(f+(l.length - n))+1 by omega]
   -- one of the head has not come: the least of them may come
   have hex:∃ i,i < n∧listed.getD i true=false:=by
    rcases hq:(List.range n).filter (fun j=>!listed.getD j true) with _ | ⟨i,r⟩
    ·rw [hq] at hf;simp at hf
    ·have hi:i∈(List.range n).filter (fun j=>!listed.getD j true):=by rw [hq];simp
     rw [List.mem_filter,List.mem_range] at hi
     exact⟨i,hi.1,by simpa using hi.2⟩
   refine⟨fun h0=>?_,fun i hi=>?_⟩
   ·exfalso
    -- strong induction to the least
    have hleast:∀ m i,i≤m→i < n→listed.getD i true=false→∃ j,j∈Region.ready .any l.toArray listed:=by
     intro m
     induction m with
     | zero =>
      intro i hi hin hun
      obtain rfl:i=0:=by omega
      have hlt:0 < l.length:=by omega
      refine⟨0,mem_ready.2 ⟨hun,l[0],by simp [hlt],fun e he hb=>?_⟩⟩
      have h1:=List.all_eq_true.1 hback 0 (List.mem_range.2 hin)
      rw [show l.toArray[0]?=some l[0] by simp [hlt]] at h1
      simp only [Option.map_some,Option.getD_some,Array.all_eq_true',Bool.or_eq_true,Bool.not_eq_true',decide_eq_true_eq] at h1
      have:=(h1 e he).resolve_left (by rw [hb];decide)
      omega
     | succ m ihm =>
      intro i hi hin hun
      by_cases hdep:∃ j,j < i∧listed.getD j true=false
      ·obtain⟨j,hj,hju⟩:=hdep
       exact ihm j (by omega) (by omega) hju
      ·have hlt:i < l.length:=by omega
       refine⟨i,mem_ready.2 ⟨hun,l[i],by simp [hlt],fun e he hb=>?_⟩⟩
       have h1:=List.all_eq_true.1 hback i (List.mem_range.2 hin)
       rw [show l.toArray[i]?=some l[i] by simp [hlt]] at h1
       simp only [Option.map_some,Option.getD_some,Array.all_eq_true',Bool.or_eq_true,Bool.not_eq_true',decide_eq_true_eq] at h1
       have hlt2:=(h1 e he).resolve_left (by rw [hb];decide)
       have hes:e.on < listed.size:=by rw [inv.size,hsz];omega
       cases hq:listed.getD e.on false with
       | true=>rfl
       | false=>exact absurd ⟨e.on,hlt2,getD_in hes hq⟩ hdep
    obtain⟨i,hin,hun⟩:=hex
    obtain⟨j,hj⟩:=hleast i i (Nat.le_refl _) hin hun
    rw [h0] at hj;cases hj
   ·obtain⟨hun,o,ho,hall⟩:=mem_ready.1 hi
    have hin:i < n:=by
     rcases hB with hB | hB
     ·have:=(Array.getElem?_eq_some_iff.1 ho).1;omega
     ·rcases Nat.lt_or_ge i n with h | h
      ·exact h
      ·obtain⟨k,hk,hku⟩:=hex
       exact absurd hi (tail_waits hB.1.1.2 hB.1.2 hB.1.1.1 inv _ k rfl hk hku i h)
    have hol:l[i]?=some o:=by simpa using ho
    have hfacts:∀ e∈o.after,Region.binds .any e=true→V e.on (u e.on) w:=fun e he hb=>by
     refine hVs e.on ?_ (hall e he hb)
     have h1:=List.all_eq_true.1 hback i (List.mem_range.2 hin)
     rw [ho] at h1
     simp only [Option.map_some,Option.getD_some,Array.all_eq_true',Bool.or_eq_true,Bool.not_eq_true',decide_eq_true_eq] at h1
     have:=(h1 e he).resolve_left (by rw [hb];decide)
     omega
    refine wpOp_step ho fun K hK=>?_
    have hst:=hop i o hin hol (fillAll T (l.take n) u 0) w _ u hM (getD_both hun) (fun j k hj he=>by
     unfold edgeB at he
     cases hoj:l[j]? with
     | none=>rw [hoj] at he;cases he
     | some oj =>
      rw [hoj] at he
      simp only at he
      rw [Array.any_eq_true'] at he
      obtain⟨e,he1,heb⟩:=he
      rw [Bool.and_eq_true,beq_iff_eq] at heb
      have:=inv.closed j oj (by simpa using hoj) hj e he1 heb.1
      rw [heb.2] at this
      exact this) (fun j oj d hj hlj hoj hd'=>by
     refine⟨?_,hVs j hj hlj⟩
     have:=fillAll_at (l.take n) T u 0 j oj d hd (by rw [List.getElem?_take,if_pos hj];exact hoj) hd' (hin_ oj d (List.mem_of_getElem? hoj) hd')
     rwa [Nat.zero_add] at this) hall (fillAll_size _ _ _ _) (fun t ht=>fillAll_out _ _ _ _ t ht) (fun e he hb oe d hoe hod=>by
     have hlt2:e.on < n:=by
      have h1:=List.all_eq_true.1 hback i (List.mem_range.2 hin)
      rw [ho] at h1
      simp only [Option.map_some,Option.getD_some,Array.all_eq_true',Bool.or_eq_true,Bool.not_eq_true',decide_eq_true_eq] at h1
      have:=(h1 e he).resolve_left (by rw [hb];decide)
      omega
     refine⟨u e.on,?_,hfacts e he hb,rfl⟩
     have:=fillAll_at (l.take n) T u 0 e.on oe d hd (by rw [List.getElem?_take,if_pos hlt2];exact hoe) hod (hin_ oe d (List.mem_of_getElem? hoe) hod)
     rwa [Nat.zero_add] at this)
    refine hst K (fun v w' hv hM' hE=>hK _ _ ?_)
    have hput:(⟨fillAll T (l.take n) u 0,D⟩:Act).put o.dst v=⟨fillAll T (l.take n) (upd u i v) 0,D⟩:=by
     have:=fillAll_put (l.take n) T u 0 i o v hd (by rw [List.getElem?_take,if_pos hin];exact hol)
     rw [Nat.zero_add] at this
     rw [← this]
     cases o.dst <;> rfl
    rw [hput]
    refine ih (listed.setIfInBounds i true) (upd u i v) w' (inv.set hi hin) ?_ ?_ ?_
    ·have hils:i < listed.size:=by rw [inv.size,hsz];omega
     have hsplit:∀ (r:List Nat),r.Nodup→i∈r→(r.filter fun j=>!listed.getD j true).length=(r.filter fun j=>!(listed.setIfInBounds i true).getD j true).length+1:=by
      intro r
      induction r with
      | nil=>intro _ h;cases h
      | cons x r ihr =>
       intro hnd hmem
       rw [List.nodup_cons] at hnd
       by_cases hx:x=i
       ·subst hx
        have h2:(listed.setIfInBounds x true).getD x true=true:=by simp [hils]
        have hsame:∀ (r':List Nat),x ∉ r'→(r'.filter fun j=>!listed.getD j true)=(r'.filter fun j=>!(listed.setIfInBounds x true).getD j true):=by
         intro r' hr'
         refine List.filter_congr fun j hj=>?_
         rw [getD_set_ne true (show x≠j from fun e=>hr' (by rw [e];exact hj))]
        rw [List.filter_cons,List.filter_cons,hun,h2]
        simp only [Bool.not_false,if_true,Bool.not_true,Bool.false_eq_true,if_false,List.length_cons]
        rw [hsame r hnd.1]
       ·have hm':i∈r:=by
         rcases List.mem_cons.1 hmem with h | h
         ·exact absurd h.symm hx
         ·exact h
        have:=ihr hnd.2 hm'
        rw [List.filter_cons,List.filter_cons,getD_set_ne true (fun e=>hx e.symm)]
        split
        ·simp only [List.length_cons];omega
        ·exact this
     have:=hsplit (List.range n) List.nodup_range (List.mem_range.2 hin)
     omega
    ·have hils:i < listed.size:=by rw [inv.size,hsz];omega
     have hLe:(fun j=>(listed.setIfInBounds i true).getD j false)=updL (fun j=>listed.getD j false) i:=by
      funext j
      by_cases hji:j=i
      ·subst hji
       simp [updL,hils]
      ·rw [getD_set_ne false (Ne.symm hji)]
       simp [updL,hji]
     rw [hLe]
     exact hM'
    ·intro j hj hl
     by_cases hji:j=i
     ·subst hji
      simp only [upd,if_true]
      exact hv
     ·rw [getD_set_ne false (Ne.symm hji)] at hl
      have h1:=hV j (u j) w w' hE (hVs j hj hl)
      simp only [upd,hji,if_false]
      exact h1
 obtain⟨u,hu⟩:=fillAll_self (l.take n) T 0 hd
 have inv0:HeadInv .any l.toArray n (Array.replicate l.toArray.size false) :=
  ⟨by simp,fun j oj _ hl=>(by rw [getD_replicate_false] at hl;cases hl),fun t _ ht=>getD_in (by simpa using ht) (getD_replicate_false _ _)⟩
 have hf0:((List.range n).filter fun j=>!(Array.replicate l.toArray.size false).getD j true).length=n:=by
  rw [List.filter_eq_self.2]
  ·simp
  ·intro j hj
   have:=List.mem_range.1 hj
   rw [getD_in (by simp;omega) (getD_replicate_false _ _)];rfl
 have:=key n (Array.replicate l.toArray.size false) u w.drew inv0 hf0 (by have hz:(fun j=>(Array.replicate l.toArray.size false).getD j false)=fun _=>false:=(by funext j;exact getD_replicate_false _ _);rw [hz];exact hM0 u) (fun j _ hl=>by rw [getD_replicate_false] at hl;cases hl)
 rw [hu,show n+(l.length - n)=l.toArray.size by omega] at this
 exact this
end
end Go.Proofs.YtnecjdhamohadaaGreatDoor
