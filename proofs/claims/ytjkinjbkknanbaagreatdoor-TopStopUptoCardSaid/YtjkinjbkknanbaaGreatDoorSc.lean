/- Pc -/
import Derived.Test.YtjkinjbkknanbaaGreatDoorSb
import Derived.Test.YtjkinjbkknanbaaGreatDoorLaidX
set_option maxRecDepth 100000
set_option maxHeartbeats 8000000
set_option linter.unusedSimpArgs false
set_option linter.unusedVariables false
namespace Go.Proofs.YtjkinjbkknanbaaGreatDoor
open Go.Proofs.Tryz
variable {w w':aRU} {base b k M n0 B q r:Nat} {e t:TypeId} {v:Value} {l ui:aR0} {ys:List (List UInt8)} {os:Array Obj} {α:Type} {p:ak}
section
open Go.RowKit Go.Shelf
attribute [local go_sem] Oper.semAt_some
theorem aik {n:Nat} {xs:aRW} (h:w.ownsRow base e 1 v n xs):∃ A c,v = .slice A n c/\Own w base e 1 A n c xs:=by
 obtain⟨hl,⟨rfl,rfl⟩ | ⟨g,cap,cur,rfl,ae,av,I,hm,hc,ah⟩⟩:=h
 ·have:xs=[]:=aQV (by simpa using hl);subst this;exact⟨none,0,rfl,Own.nil _ _ _ _⟩
 ·refine⟨some ⟨g,0,none⟩,cap,rfl,hl,I,hm,.inr ⟨g,0,cur,(0,0),rfl,ae,av,.inl rfl,om,fun j aC=>?_⟩⟩;rw [Nat.zero_add,<- ah,List.getElem?_take,if_pos aC];simp
theorem aAy (n:Nat) (aB:2<=n) (g:Nat) (lb:Array Value) (zQ:∀ args w,(callFunc g args).run prog w = .ok (.enter g args) w)
  (S Uh:List (List UInt8)->Prop) (N n0:Nat) (eX:N<=maxLen) (apB:N * 16<=140737488355328) (w:aRU) (EA:n0<=w.heap.size) (Wt:SeqStopsK Fence.wide (n - 1) prog g lb (fun x:List UInt8=>#[KP x]) (Below n0) S Uh N w) :
  CallsIn Fence.wide n prog 125 #[.slice none 0 0,.func (.func g) #[] lb] w fun e w'=>∃ (v:Value) (Cu:List (List UInt8)),e = .returned v/\S Cu/\w'.ownsRow w.heap.size 9 1 v Cu.length (cB Cu)/\Bl w w':=by
 obtain⟨i0,AV,AX,AZ,Aa⟩:=info_parts ahO;have h1:1<=n:=om;refine aRy func125 rfl trivial ?_ rfl;simp only [ntmps125,List.size_toArray,List.length_cons,List.length_nil,Nat.reduceAdd,Nat.reduceSub,Array.replicate_succ,Array.replicate_zero,List.push_toArray,List.append_toArray,List.nil_append,List.cons_append]
 gi_wp2
 have Ac:=Boxed.new w 24 (.slice none 0 0);have AA:Bl w (w.alloc (.cells #[.slice none 0 0] 24)):=(Below.refl _ w).alloc (aQF _) _;refine wpIn_rangeFunc_ownG rfl h1 (gf:=g) (lb:=lb) rfl trivial zQ Wt belowK_t (belowK_b (by simp;omega)) AA (fun _=>rfl)
  (fun pre W=>(∃ v,Boxed W w.heap.size 24 v/\W.ownsRow w.heap.size 9 1 v pre.length (cB pre)/\True)/\Bl w W)
  (fun _ _ _=>False)
  (OwnFrom.and (Own.from (holdsRow_own w.heap.size w.heap.size 24 9 1 (fun pre=>pre.length) (fun pre=>cB pre) (fun _ _=>True)) _) (ownFrom_below (aQF _) sp))
  (fun _ _ _ _ _ hs _ _=>hs)
  ⟨⟨_,Ac,World.ownsRow_nil _ _ _ _,trivial⟩,AA⟩
  (fun x=>{ tmps:=#[.slice none 0 0,.func (.func g) #[] lb,pp w.heap.size 0,undef,.slice none 0 0,KP x,.func (.func g) #[] lb,KP x,undef,undef,undef,undef,undef],defers:=[] }) ?assign ?body ?done ?stop;case assign =>
  intro l x W K I;unfold KP at I |-
  gi_wp2
  exact I
 case body =>
  rintro l pre x W ⟨⟨v,M,Y,Ad⟩,J⟩ Al;have hc:=M.cell;unfold KP
  gi_wp2_with (gi_at_builtin;refine wpListIn_append_own _ rfl _ _ 24 rfl w.heap.size 9 i0 (.string ⟨#[]⟩) 1 16 underlying24 AV AX AZ Aa rfl dc _ _ _ rfl (Y.alloc _) ⟨W.heap.size,0,none⟩ 1 1 [.string (aA x)] rfl rfl (cell_one_new _ _ _) (by simp [Value.oneCell']) om om (by have:=J.size;simp;omega) ?_;intro v' w1 AB Ae _;obtain⟨Am,Ao,rfl⟩:=ownsRow_succ AB;obtain⟨AP,Af,AQ,Ag,AU⟩:=M.appended dc Y J.size (aQF _) AB Ae;have Ap:=AP.cell;have Aq:=AP.frozen)
  refine⟨Ag.from _,AU.mono EA,⟨_,Af,?_,trivial⟩,J.trans AU⟩;rw [aos] at AQ;simpa using AQ
 case done =>
  rintro D ys W Ah Ak ⟨⟨v,M,Y,Ad⟩,J⟩ I;have hc:=M.cell
  gi_wp2
  refine⟨by simp,.inl ⟨_,_,rfl,aRp I,?_⟩⟩;exact⟨_,aRg rfl _ _ _,v,ys,rfl,Ak,ownsRow_putObj Y _ I rfl,J.trans (belowK_b (w:=w) (aQF _) W D _ _ (by simp at Ah;omega) I rfl rfl)⟩
 case stop =>
  rintro D c pre W _ _ h _;exact h.elim
theorem aAB (n:Nat) (aB:3<=n) (g:Nat) (lb:Array Value) (zQ:∀ args w,(callFunc g args).run prog w = .ok (.enter g args) w)
  (S Uh:List (List UInt8)->Prop) (N n0:Nat) (eX:N<=maxLen) (apB:N * 16<=140737488355328) (w:aRU) (EA:n0<=w.heap.size) (Wt:SeqStopsK Fence.wide (n - 1 - 1) prog g lb (fun x:List UInt8=>#[KP x]) (Below n0) S Uh N w) :
  CallsIn Fence.wide n prog 74 #[.func (.func g) #[] lb] w fun e w'=>∃ (v:Value) (Cu:List (List UInt8)),e = .returned v/\S Cu/\w'.ownsRow w.heap.size 9 1 v Cu.length (cB Cu)/\Bl w w':=by
 have eY:=aAy (n - 1) om g lb zQ S Uh N n0 eX apB w EA Wt;have h1:1<=n:=om;have M:=WG 125;refine aRj func74 rfl trivial ?_ rfl;simp only [ntmps74,List.size_toArray,List.length_cons,List.length_nil,Nat.reduceAdd,Nat.reduceSub,Array.replicate_succ,Array.replicate_zero,List.push_toArray,List.append_toArray,List.nil_append,List.cons_append]
 gi_wp2_with (gi_at_call 125; refine eY.mono ?_;rintro e w' ⟨v,Cu,rfl,I,J,ae⟩)
 go_ret;exact⟨v,Cu,rfl,I,J,ae⟩
end
section
open Go.Lib
def Zp (l:aR0):Nat:=l.foldl (fun a d=>10 * a+(d.toNat - 48)) 0
theorem aAC (l:aR0) (d:UInt8):Zp (l++[d])=10 * Zp l+(d.toNat - 48):=by simp [Zp,List.foldl_append]
theorem adG {n:Nat} (h:n < 10):(UInt8.ofNat (48+n)).toNat=48+n:=by rw [UInt8.toNat_ofNat'];omega
theorem apC:∀ n:Nat,Zp (decDigits n)=n:=fun n=>by
 induction n using Nat.strongRecOn with
 | _ n I =>
  rw [decDigits];split
  ·rename_i h;simp only [Zp,List.foldl_cons,List.foldl_nil];rw [adG h];omega
  ·rename_i h;rw [aAC,I (n / 10) om,adG om];omega
theorem aAD {a:Nat} (h:decDigits a=decDigits b):a=b:=by rw [<- apC a,<- apC b,h]
theorem apD:∀ (n:Nat) (d:UInt8),d∈decDigits n->d≠58:=fun n=>by
 induction n using Nat.strongRecOn with
 | _ n J =>
  intro d I;rw [decDigits] at I;split at I
  ·rename_i h;rw [List.mem_singleton] at I;subst I;intro e;have:=congrArg UInt8.toNat e;rw [adG h] at this;have M:(58:UInt8).toNat=58:=rfl;omega
  ·rename_i h;rw [List.mem_append,List.mem_singleton] at I;rcases I with I | I
   ·exact J (n / 10) om d I
   ·subst I;intro e;have:=congrArg UInt8.toNat e;rw [adG om] at this;have M:(58:UInt8).toNat=58:=rfl;omega
theorem ail:∀ (k n:Nat),n < 10 ^ (k+1)->(decDigits n).length<=k+1
 | 0,n,h=>by
  rw [decDigits,dif_pos om];simp
 | k+1,n,h=>by
  rw [decDigits];split
  ·simp
  ·have:=ail k (n / 10) (by rw [Nat.pow_succ] at h;omega);rw [List.length_append];simp only [List.length_cons,List.length_nil];omega
def nI (l:List (List UInt8)):List UInt8:=l.flatMap fun s=>decDigits s.length++58 :: s
theorem adH:nI []=[]:=rfl
theorem WH (s:aR0) (l:List (List UInt8)):nI (s :: l)=decDigits s.length++58 :: (s++nI l):=by simp [nI]
theorem aAF (l:List (List UInt8)) (s:aR0):nI (l++[s])=nI l++(decDigits s.length++58 :: s):=by simp [nI]
theorem apE:∀ {a b r t:aR0},(∀ d∈a,d≠58)->(∀ d∈b,d≠58)->a++58 :: r=b++58 :: t->a=b/\r=t
 | [],[],r,t,_,_,h=>⟨rfl,by simpa using h⟩
 | [],y :: b,r,t,_,ae,h=>by
  rw [List.nil_append,List.cons_append] at h;injection h with h1 _
  exact absurd h1.symm (ae y sp)
 | x :: a,[],r,t,I,_,h=>by
  rw [List.nil_append,List.cons_append] at h;injection h with h1 _
  exact absurd h1 (I x sp)
 | x :: a,y :: b,r,t,I,ae,h=>by
  rw [List.cons_append,List.cons_append] at h;injection h with h1 M
  obtain⟨Y,AA⟩:=apE (fun d J=>I d (by simp [J])) (fun d J=>ae d (by simp [J])) M;exact⟨by rw [h1,Y],AA⟩
theorem WI:∀ {a b:List (List UInt8)},nI a=nI b->a=b
 | [],[],_=>rfl
 | [],t :: b,h=>by
  have:=congrArg List.length h;rw [WH,adH] at this;simp at this
 | s :: a,[],h=>by
  have:=congrArg List.length h;rw [WH,adH] at this;simp at this
 | s :: a,t :: b,h=>by
  rw [WH,WH] at h;obtain⟨h1,I⟩:=apE (apD _) (apD _) h;have hl:=aAD h1;obtain⟨J,M⟩:=List.append_inj I hl;rw [J,WI M]
theorem apF {a b:aR0} (h:a<=b) (bJ:a≠b):a < b:=by
 rcases List.le_iff_lt_or_eq.1 h with h | h
 ·exact h
 ·exact absurd h bJ
def WJ (l m:List (List UInt8)):Prop:=m.Pairwise (· < ·)/\∀ x,x∈m ↔ x∈l
theorem apG:∀ {l m:List (List UInt8)},l.Pairwise (· < ·)->m.Pairwise (· < ·)->(∀ x,x∈l ↔ x∈m)->l=m
 | [],[],_,_,_=>rfl
 | [],b :: m,_,_,h=>by have:=(h b).2 sp;simp at this
 | a :: l,[],_,_,h=>by have:=(h a).1 sp;simp at this
 | a :: l,b :: m,h1,J,h=>by
  obtain⟨I,M⟩:=aRz.1 h1;obtain⟨ae,Y⟩:=aRz.1 J;have e:a=b:=by
   have x:=(h a).1 sp;have y:=(h b).2 sp;rcases aQN.1 x with x | x
   ·exact x
   ·rcases aQN.1 y with y | y
    ·exact y.symm
    ·exact absurd (I b y) (List.lt_asymm (ae a x))
  subst e;have hm:∀ x,x∈l ↔ x∈m:=by
   intro x;constructor
   ·intro ah;rcases aQN.1 ((h x).1 (aQ9 _ ah)) with e | e
    ·subst e;exact absurd (I x ah) (List.lt_irrefl x)
    ·exact e
   ·intro ah;rcases aQN.1 ((h x).2 (aQ9 _ ah)) with e | e
    ·subst e;exact absurd (ae x ah) (List.lt_irrefl x)
    ·exact e
  rw [apG M Y hm]
theorem WJ.one {l m KR:List (List UInt8)} (h:WJ l m) (mZ:WJ l KR):m=KR:=apG h.1 mZ.1 fun x=>(h.2 x).trans (mZ.2 x).symm
theorem apH (h:ys.Pairwise (·<=·)):∀ m,m<=ys.length->(compactUpTo ys.toArray m).Pairwise (· < ·)/\∀ x,x∈compactUpTo ys.toArray m ↔ x∈ys.take m
 | 0,_=>by simp [compactUpTo]
 | m+1,hm=>by
  obtain⟨h1,I⟩:=apH h m om;rw [compactUpTo_succ];have J:ys.toArray[m]! = ys[m]:=by simp [getElem!_pos,show m < ys.length by omega]
  have Y:ys.take (m+1)=ys.take m++[ys[m]]:=by rw [List.take_add_one,List.getElem?_eq_getElem om];rfl
  rw [Y,J];have aI:=List.pairwise_iff_getElem.1 h;by_cases hk:keeps ys.toArray m=true
  ·rw [if_pos hk];refine⟨List.pairwise_append.2 ⟨h1,by simp,fun a AA b ae=>?_⟩,fun x=>by simp only [List.mem_append,List.mem_singleton,I x]⟩;have:=(I a).1 AA;simp only [List.mem_singleton] at ae;subst ae;obtain⟨j,aC,rfl⟩:=aRN.1 this;rw [List.length_take] at aC;rw [List.getElem_take];simp only [keeps,decide_eq_true_eq] at hk;rcases hk with hk | hk
   ·omega
   ·have e:ys.toArray[m - 1]! = ys[m - 1]:=by simp [getElem!_pos,show m - 1 < ys.length by omega]
    rw [J,e] at hk;have M:=apF (aI (m - 1) m om om om) (fun e=>hk e.symm);rcases aQW j (m - 1) with AB | AU
    ·have eG:=aI j (m - 1) om om AB;exact apF (List.le_trans eG (List.le_of_lt M)) (fun AP=>by rw [AP] at eG;exact absurd M (aRq.2 eG))
    ·obtain rfl:j=m - 1:=om;exact M
  ·rw [if_neg hk];simp only [keeps,decide_eq_true_eq,not_or] at hk;obtain⟨AV,hk⟩:=hk;have e:ys.toArray[m - 1]! = ys[m - 1]:=by simp [getElem!_pos,show m - 1 < ys.length by omega]
   have he:ys[m]=ys[m - 1]:=by rw [J,e] at hk;exact Classical.not_not.1 hk
   have AQ:ys[m]∈ys.take m:=by rw [he];exact aRN.2 ⟨m - 1,by rw [List.length_take];omega,by rw [List.getElem_take]⟩
   refine⟨by simpa using h1,fun x=>?_⟩;simp only [List.append_nil,List.mem_append,List.mem_singleton];rw [I x];exact⟨fun ah=>.inl ah,fun ah=>ah.elim id fun e=>by rw [e];exact AQ⟩
def qi (l:List (List UInt8)):List (List UInt8):=l.mergeSort fun x y=>decide (x<=y)
theorem aAG (l:List (List UInt8)):(qi l).Pairwise (·<=·):=by have:=List.pairwise_mergeSort (le:=fun x y:List UInt8=>decide (x<=y)) (fun a b c h1 I=>by simp only [decide_eq_true_eq] at *;exact List.le_trans h1 I) (fun a b=>by simp only [Bool.or_eq_true,decide_eq_true_eq];exact List.le_total a b) l;exact this.imp fun h=>by simpa using h
theorem aAH (l:List (List UInt8)) (x:aR0):x∈qi l ↔ x∈l:=List.mem_mergeSort
theorem Cw (l:List (List UInt8)):(qi l).length=l.length:=List.length_mergeSort l
def mP (l:List (List UInt8)):List (List UInt8):=compact (qi l)
theorem Jb (l:List (List UInt8)):WJ l (mP l):=by obtain⟨h1,I⟩:=apH (aAG l) (qi l).length (aQF _);refine⟨h1,fun x=>?_⟩;rw [mP,compact,I x,List.take_length,aAH]
theorem aim (ys:List (List UInt8)):(compact ys).length<=ys.length:=by rw [compact,compactUpTo,List.length_map];exact aQG (aRi _ _) sp
theorem Mw (l:List (List UInt8)):(mP l).length<=l.length:=by have:=aim (qi l);rw [Cw] at this;exact this
abbrev xQ:=List UInt8 × List UInt8
def valOf (l:List xQ) (n:aR0):List UInt8:=((l.find? fun p=>p.1 == n).map (·.2)).getD []
def Cx (l:List xQ):List (List UInt8):=(mP (l.map (·.1))).flatMap fun n=>[n,valOf l n]
structure lv where
 tool:List UInt8
 env:List xQ
 ins:List (List UInt8)
 asks:List (List UInt8)
 outs:List (List UInt8)
def Cy (a:lv):List (List (List UInt8)):=[Cx a.env,mP a.ins,mP a.asks,mP a.outs]
def vZ (a:lv):List UInt8:=nI (a.tool :: (Cy a).map nI)
theorem aAI {a b:lv}:vZ a=vZ b ↔ a.tool=b.tool/\Cy a=Cy b:=by
 constructor
 ·intro h;have:=WI h;injection this with h1 I
  refine⟨h1,?_⟩;simp only [Cy,List.map_cons,List.map_nil,List.cons.injEq,and_true] at I |-;exact⟨WI I.1,WI I.2.1,WI I.2.2.1,WI I.2.2.2⟩
 ·rintro⟨h1,I⟩;rw [vZ,vZ,h1,I]
end
section
open Go.Lib Go.RowKit Go.Sort
theorem Zq {l:List (List UInt8)} {j:Nat} {x:aR0} (h:l[j]?=some x):(cB l)[j]?=some (encStr x):=by rw [cB,List.getElem?_map,h];rfl
theorem Zr (ys:List (List UInt8)) {j:Nat} (aC:j < ys.length):ys.toArray[j]! = ys[j]:=by simp [getElem!_pos,aC]
theorem Own.ain {o c:Nat} (h:Own w base t 1 (some ⟨b,o,none⟩) ys.length c (cB ys)):Holds encStr w b o ys.toArray:=by
 intro j aC;rw [List.size_toArray] at aC;obtain⟨hl,J,hm,hc⟩:=h;rcases hc with ⟨e,_⟩ | ⟨b',M,cur,aZ,e,ae,av,hf,hs,ah⟩
 ·cases e
 cases e;have I:=ah j om;rw [Zq (List.getElem?_eq_getElem aC)] at I;refine⟨?_,hf.cell av (by have:=(aRh.1 I).1;exact this)⟩;rw [Zr ys aC];simp [World.cell?,av,I]
theorem apJ {o n:Nat} {cur:Array Value} {aZ:Nat × Nat} (d:Array (List UInt8)) (ae:w.heap[b]?=some (.cells cur e aZ)) :
  (grow (putRow encStr (Sort.ahead w n) b o d) os).heap[b]?=some (.cells (putCells encStr o d cur) e aZ):=by
 have av:b < w.heap.size:=(aRh.1 ae).1;rw [heap_grow_old _ _ (by simpa using av)];simp [putRow,mapBlock,Sort.ahead,Array.getElem?_modify,ae,onCells]
theorem Zt {o n:Nat} (d:Array (List UInt8)):w.grownBy (grow (putRow encStr (Sort.ahead w n) b o d) os) (some b):=by refine⟨rfl,rfl,rfl,by simp,fun k hk I=>?_⟩;rw [heap_grow_old _ _ (by simpa using hk)];have:b≠k:=fun e=>I (by rw [e]);simp [putRow,mapBlock,Sort.ahead,Array.getElem?_modify,this]
theorem Own.aio {o c n:Nat} {zs:List (List UInt8)} (h:Own w base t 1 (some ⟨b,o,none⟩) ys.length c (cB ys)) (hk:k<=zs.length) (dm:zs.length=ys.length) :
  Own (grow (Go.Sort.putRow encStr (Sort.ahead w n) b o zs.toArray) os) base t 1 (some ⟨b,o,none⟩) k c (cB (zs.take k)):=by
 obtain⟨hl,J,hm,hc⟩:=h;rcases hc with ⟨e,_⟩ | ⟨b',M,cur,aZ,e,ae,av,hf,hs,ah⟩
 ·cases e
 cases e;refine⟨by rw [cB,List.length_map,List.length_take];omega,om,hm,.inr ⟨b,o,_,aZ,rfl,ae,apJ _ av,by simpa [putCells] using hf,by simpa [putCells] using hs,fun j aC=>?_⟩⟩;rw [Zq (x:=zs[j]) (by rw [List.getElem?_take_of_lt om,List.getElem?_eq_getElem om])];have I:o+j < cur.size:=om;simp only [putCells,Array.getElem?_mapIdx,Array.getElem?_eq_getElem I,Option.map_some,List.size_toArray];rw [if_pos om,show o+j - o=j by omega,Zr zs om]
theorem apK (w:aRU) (base:Nat) (A:aRV) (c:Nat) (ys:List (List UInt8)) (h:Own w base 9 1 A ys.length c (cB ys)) (hl:ys.length<=1000000) :
  CR 36 #[.slice A ys.length c] w (.tuple #[]) fun w'=>Own w' base 9 1 A ys.length c (cB (qi ys))/\w.grownBy w' (bM A):=by
 rcases aQ2 ys.length with I | I
 ·obtain rfl:ys=[]:=aQV I;refine (AnyM.slices_Sort_string_none Tryz.keySort A c w).mono ?_;rintro e w' ⟨rfl,rfl⟩;refine⟨rfl,by simpa [qi] using h,⟨rfl,rfl,rfl,aQF _,fun _ _ _=>rfl⟩⟩
 ·obtain⟨b,o,cur,aZ,rfl,ae,av,_⟩:=h.at_ (by have:=h.2.1;omega);refine (AnyM.slices_Sort_string Tryz.keySort b o c ys w h.ain (iw av) om).mono ?_;rintro e w' ⟨rfl,n,os,rfl⟩;refine⟨rfl,?_,Zt _⟩;have aI:=h.aio (n:=n) (os:=os) (zs:=qi ys) (k:=ys.length) (by rw [Cw];omega) (Cw ys);rw [List.take_of_length_le (by rw [Cw];omega)] at aI;exact aI
theorem adI (w:aRU) (base:Nat) (A:aRV) (c:Nat) (ys:List (List UInt8)) (h:Own w base 9 1 A ys.length c (cB ys)) (hl:ys.length<=1000000) :
  CR 37 #[.slice A ys.length c] w (.slice A (compact ys).length c) fun w'=>Own w' base 9 1 A (compact ys).length c (cB (compact ys))/\w.grownBy w' (bM A):=by
 rcases aQ2 ys.length with I | I
 ·obtain rfl:ys=[]:=aQV I;refine (AnyG.slices_Compact_string_empty Tryz.keyCompact A c w).mono ?_;rintro e w' ⟨rfl,rfl⟩;refine⟨rfl,h,⟨rfl,rfl,rfl,aQF _,fun _ _ _=>rfl⟩⟩
 ·obtain⟨b,o,cur,aZ,rfl,ae,av,_⟩:=h.at_ (by have:=h.2.1;omega);refine (AnyG.slices_Compact_string Tryz.keyCompact b o c ys w h.ain om h.2.1).mono ?_;rintro e w' ⟨rfl,n,rfl⟩;refine⟨rfl,?_,?_⟩
  ·have hc:=aim ys;have aI:=h.aio (n:=n) (os:=#[]) (zs:=compact ys++List.replicate (ys.length - (compact ys).length) []) (k:=(compact ys).length) sp (by simp;omega);rw [List.take_left,grow_empty] at aI;exact aI
  ·have:=Zt (w:=w) (b:=b) (o:=o) (n:=n) (os:=#[]) (compact ys++List.replicate (ys.length - (compact ys).length) []).toArray;rw [grow_empty] at this;exact this
end
section
open Go.RowKit Go.Shelf
theorem apL (w:aRU) (jq:Nat) (A:aRV) (cap:Nat) (zs:List (List UInt8)) (dm:zs.length<=1000000) (vY:w.heap[jq]?=some (.cells #[.slice A zs.length cap] 24 (0,0))) (ax:Rd w 1 A zs.length (cB zs)) :
  Calls prog 74 #[.func (.func 76) #[] #[pp jq 0]] w fun e w'=>∃ A' c,e = .returned (.slice A' zs.length c)/\Own w' w.heap.size 9 1 A' zs.length c (cB zs)/\Bl w w':=by
 refine (aQZ (n:=3)).1 ?_;refine (aAB 3 om 76 #[pp jq 0] (enters_of func76 kr rfl) _ _ zs.length w.heap.size mV om w (aQF _)
  (aAx 1 (aQF _) jq w.heap.size A cap zs om w (iw vY) (aQF _) (aQH w jq 0 _ _ _ vY) (fun W' I=>ax.gz I))).mono ?_;rintro e w' ⟨v,Y,rfl,rfl,J,ae⟩;obtain⟨A',c,rfl,M⟩:=aik J;exact⟨A',c,rfl,M,ae⟩
theorem apM (w:aRU) (jq:Nat) (A:aRV) (cap:Nat) (zs:List (List UInt8)) (dm:zs.length<=1000000) (vY:w.heap[jq]?=some (.cells #[.slice A zs.length cap] 24 (0,0))) (ax:Rd w 1 A zs.length (cB zs)) :
  Calls prog 99 #[.func (.func 76) #[] #[pp jq 0]] w fun e w'=>∃ A' c,e = .returned (.slice A' zs.length c)/\Own w' w.heap.size 9 1 A' zs.length c (cB (qi zs))/\Bl w w':=by
 have Y:=apL w jq A cap zs dm vY ax;clear ax vY;go_enter func99,ntmps99;go_wp2_with (first|(go_at_call 74; refine Y.mono ?_;rintro e w1 ⟨I,c1,rfl,J,M⟩)|(go_at_call 36; refine (apK w1 w.heap.size I c1 zs J dm).mono ?_;rintro e af ⟨rfl,AA,AB⟩));go_ret;exact⟨I,c1,rfl,AA,M.grown AB M.size (fun k e=>(J.block k e).1)⟩
theorem aip (w:aRU) (A:aRV) (n cap:Nat):Calls prog 48 #[.slice A n cap] w fun e w'=>e = .returned (.func (.func 76) #[] #[pp w.heap.size 0])/\w'=w.alloc (.cells #[.slice A n cap] 24) :=
 (aQZ (n:=3)).1 (aAw 3 A n cap w)
theorem aiq (w:aRU) (A:aRV) (cap:Nat) (l:List (List UInt8)) (hl:l.length<=1000000) (ax:Rd w 1 A l.length (cB l)) :
  Calls prog 62 #[.slice A l.length cap] w fun e w'=>∃ A' c,e = .returned (.slice A' (mP l).length c)/\Own w' w.heap.size 9 1 A' (mP l).length c (cB (mP l))/\Bl w w':=by
 obtain⟨w1,I⟩:=ai (w.alloc (.cells #[.slice A l.length cap] 24));have J:Bl w w1:=by rw [I];exact (Below.refl _ w).alloc (aQF _) _
 have Y:w1.heap[w.heap.size]?=some (.cells #[.slice A l.length cap] 24 (0,0)):=by rw [I];exact aQM w _
 have AU:=apM w1 w.heap.size A cap l hl Y (ax.gz J);have AA:=aip w A l.length cap;rw [<- I] at AA;have AB:=Cw l;have AP:=aa AB;clear ax Y I AB;go_enter func62,ntmps62;go_wp2_with (first|(go_at_call 48; refine AA.mono ?_;rintro e Ac ⟨rfl,AV⟩;obtain rfl:=AV.symm)|(go_at_call 99; refine AU.mono ?_;rintro e af ⟨il,c2,rfl,M,AX⟩;rw [<- AP.o] at M |-)|(go_at_call 37; refine (adI af w1.heap.size il c2 (qi l) M (by rw [AP.o];exact hl)).mono ?_;rintro e aD ⟨rfl,AZ,Aa⟩));go_ret;have AQ:=aU J AX;exact⟨il,c2,rfl,AZ.mono J.size,AQ.grown Aa AQ.size (fun k e=>aQG J.size (M.block k e).1)⟩
end
section
open Go.RowKit Go.Shelf
open Go.Lib (decDigits itoa_nonneg below_grow)
theorem aAJ (a b:List (List UInt8)):nI (a++b)=nI a++nI b:=by simp [nI]
def Mx (w:aRU):Prop:=Lib.TabBelow prog w.heap.size w "internal/strconv.uint64pow10" .u64 Lib.pow10Tab
theorem Mx.on (h:Mx w) (ae:Bl w w'):Mx w':=fun _ I=>h _ (aU ae I)
theorem aAK (w:aRU) (n:Nat) (aB:n<=1000000000) (bY:Mx w) :
  CB 102 #[.int .i64 n] w (.string (aA (decDigits n))):=by
 refine (Any.strconv_Itoa Tryz.keyItoa n om om w bY.here).mono ?_;rintro e w' ⟨rfl,k,os,rfl⟩;exact⟨by rw [itoa_nonneg];rfl,below_grow _ _ (aQF _) _ _⟩
end
section
open Go.RowKit Go.Shelf
abbrev fC:=List UInt8
theorem apP (x y:fC):Op.bytesLess (aA x).toList (aA y).toList=decide (x < y):=by rw [ByteArray.toList_eq,ByteArray.toList_eq,gZ,gZ,bytesLess_eq]
def KS (l:List xQ):List Value:=l.flatMap fun p=>[.string (aA p.1),.string (aA p.2)]
theorem air:∀ {l:List xQ} {k:Nat} {p:xQ},l[k]?=some p->(KS l)[k * 2]?=some (.string (aA p.1))/\(KS l)[k * 2+1]?=some (.string (aA p.2))
 | x :: l,0,p,h=>by
  simp only [List.getElem?_cons_zero,Option.some.injEq] at h;subst h;simp [KS]
 | x :: l,k+1,p,h=>by
  have:=air (l:=l) (k:=k) (p:=p) (by simpa using h);rw [show (k+1) * 2=k * 2+2 by omega];simpa [KS] using this
structure vw where
 KT:ByteArray
 nm:ByteArray
 E:Option Addr
 oK:Option Addr
 A:Option Addr
 O:Option Addr
 KU:Nat
 j6:Nat
 eY:Nat
 wN:Nat
def nT (L:vw) (a:lv):Array Value:=#[.string L.KT,.string L.nm,.string (aA a.tool),.slice L.E a.env.length L.KU,.slice L.oK a.ins.length L.j6,.slice L.A a.asks.length L.eY,.slice L.O a.outs.length L.wN]
structure KV (w:aRU) (L:vw) (a:lv):Prop where
 env:Rd w 2 L.E a.env.length (KS a.env)
 ins:Rd w 1 L.oK a.ins.length (cB a.ins)
 asks:Rd w 1 L.A a.asks.length (cB a.asks)
 outs:Rd w 1 L.O a.outs.length (cB a.outs)
 MB:a.env.length<=maxLen
 Jd:a.ins.length<=maxLen
 Cz:a.asks.length<=maxLen
 AR:a.outs.length<=maxLen
theorem KV.below {L:vw} {a:lv} (h:KV w L a) (ae:Bl w w'):KV w' L a :=
 ⟨h.env.gz ae,h.ins.gz ae,h.asks.gz ae,h.outs.gz ae,h.MB,h.Jd,h.Cz,h.AR⟩
def MC (l:List xQ) (k:Nat):List fC:=((mP (l.map (·.1))).take k).flatMap fun n=>[n,valOf l n]
theorem ais (l:List xQ):∀ k,k<=(mP (l.map (·.1))).length->(MC l k).length=2 * k
 | 0,_=>rfl
 | k+1,h=>by
  have:=ais l k om;unfold MC at this |-;rw [List.take_add_one,List.getElem?_eq_getElem om,List.flatMap_append,List.length_append,this];simp;omega
theorem aAL {l:List xQ} {n:fC} (h:(mP (l.map (·.1)))[k]?=some n):MC l (k+1)=MC l k++[n,valOf l n]:=by unfold MC;rw [List.take_add_one,h,List.flatMap_append];rfl
theorem apQ (l:List xQ):MC l (mP (l.map (·.1))).length=Cx l:=by unfold MC Cx;rw [List.take_length]
theorem apR (l:List xQ):(Cx l).length=2 * (mP (l.map (·.1))).length:=by rw [<- apQ,ais l _ (Nat.le_refl _)]
theorem aAM {l:List xQ} {n:fC} (h:∀ p∈l,p.2.length<=M):(valOf l n).length<=M:=by
 unfold valOf;cases hf:l.find? fun p=>p.1 == n with
 | none=>simp
 | some p=>exact h p (aRr hf)
def adJ (w:aRU) (g:Nat) (L:List (List fC)) (Oy:Nat->Option Addr) (cs:Nat->Nat):Prop :=
 ∀ i x,L[i]?=some x->w.cell? (ad g i)=some (.slice (Oy i) x.length (cs i))/\Rd w 1 (Oy i) x.length (cB x)
theorem adJ.below {g:Nat} {L:List (List fC)} {Oy:Nat->Option Addr} {cs:Nat->Nat} (h:adJ w g L Oy cs) (ae:Bl w w'):adJ w' g L Oy cs:=fun i x ah=>by
 obtain⟨h1,I⟩:=h i x ah;exact⟨(ae.cell (p:=ad g i) (aQR w _ h1)).trans h1,I.gz ae⟩
end
section
open Go.Lib (decDigits)
theorem WK (s:fC) (l:List fC):(nI (s :: l)).length=(decDigits s.length).length+1+s.length+(nI l).length:=by rw [WH];simp only [List.length_append,List.length_cons];omega
theorem WL {n:Nat} (h:n<=1000000000):(decDigits n).length<=10:=ail 9 n om
theorem Zu (aj:M<=1000000000):∀ (l:List fC) (n:Nat),l.length<=n->(∀ x∈l,x.length<=M)->(nI l).length<=n * (M+11)
 | [],n,_,_=>by rw [adH];simp
 | s :: l,n,I,h=>by
  obtain⟨m,rfl⟩:∃ m,n=m+1:=⟨n - 1,by simp at I;omega⟩;have h1:=Zu aj l m (by simpa using I) (fun x ah=>h x (by simp [ah]));have J:=h s sp;have Y:=WL (n:=s.length) om;rw [WK,Nat.add_mul];omega
theorem ait {l:List fC} (h:∀ x∈l,x.length<=M):∀ x∈mP l,x.length<=M:=fun x ah=>h x (((Jb l).2 x).1 ah)
theorem aAN {l:List xQ} (h:∀ p∈l,p.1.length<=M/\p.2.length<=M):∀ x∈Cx l,x.length<=M:=fun x ah=>by
 rw [Cx,List.mem_flatMap] at ah;obtain⟨n,I,ah⟩:=ah;rcases aQN.1 ah with rfl | ah
 ·have:=((Jb _).2 _).1 I;obtain⟨p,aI,rfl⟩:=aQO.1 this;exact (h p aI).1
 ·rw [List.mem_singleton] at ah;subst ah;exact aAM fun p aI=>(h p aI).2
def CE (a:lv) (k:Nat):List fC:=a.tool :: ((Cy a).take (k - 1)).map nI
theorem aAO {a:lv} {x:List fC} (h:([a.tool] :: Cy a)[k+1]?=some x):CE a (k+2)=CE a (k+1)++[nI x]:=by rw [List.getElem?_cons_succ] at h;rw [CE,CE,show k+2 - 1=k+1 by omega,show k+1 - 1=k by omega,List.take_add_one,h];simp
theorem aAP (a:lv):nI (CE a 5)=vZ a:=rfl
theorem aAQ {a:lv} (h1:1<=k) (bC:k<=5):(CE a k).length=k:=by rw [CE];simp [Cy];omega
end
section
open Go.Maps Go.RowKit
section
variable {α:Type}
theorem apS (k:aR0) (a:α):∀ M:fA α,(∀ y∈M,y.1≠k)->getM (zk (k,a) M) k=some a
 | [],_=>by simp [zk,getM]
 | y :: r,h=>by
  unfold zk;split
  ·simp [getM]
  ·have hy:(y.1 == k)=false:=by simpa using h y sp
   have:=apS k a r (fun z I=>h z (aQ9 _ I));unfold getM at this |-;rw [List.find?_cons,hy];exact this
theorem apT (k:aR0) (a:α) (hk:ui≠k):∀ M:fA α,getM (zk (k,a) M) ui=getM M ui
 | []=>by
  have:(k == ui)=false:=by simpa using fun h=>hk h.symm
  simp [zk,getM,this]
 | y :: r=>by
  have I:(k == ui)=false:=by simpa using fun h=>hk h.symm
  unfold zk;split
  ·unfold getM;rw [List.find?_cons,I]
  ·have:=apT k a hk r;unfold getM at this |-;rw [List.find?_cons,List.find?_cons];split
   ·rfl
   ·exact this
theorem aAR {M:fA α} {k:aR0}:∀ y∈I5 M k,y.1≠k:=by intro y hy;have:=(aRs.1 hy).2;simpa using this
theorem ME (M:fA α) (k:aR0) (a:α):getM (oI M k a) k=some a:=apS k a _ aAR
theorem aAS (M:fA α) {k:aR0} (hk:ui≠k):getM (I5 M k) ui=getM M ui:=by
 unfold getM I5;congr 1;induction M with
 | nil=>rfl
 | cons y r I =>
  rw [List.filter_cons];split
  ·rw [List.find?_cons,List.find?_cons,I]
  ·rename_i h;have hy:y.1=k:=by simpa using h
   have:(y.1 == ui)=false:=by rw [hy];simpa using fun h=>hk h.symm
   rw [List.find?_cons,this,I]
theorem MF (M:fA α) {k:aR0} (a:α) (hk:ui≠k):getM (oI M k a) ui=getM M ui:=by rw [oI,apT k a hk,aAS M hk]
end
def MG (l:List xQ):fA fC:=l.foldl (fun M p=>oI M p.1 p.2) []
theorem apU (l:List xQ) (p:xQ):MG (l++[p])=oI (MG l) p.1 p.2:=by simp [MG,List.foldl_append]
theorem aiu (n:fC):∀ l:List xQ,getM (MG l.reverse) n=(l.find? fun p=>p.1 == n).map (·.2)
 | []=>rfl
 | p :: l=>by
  rw [List.reverse_cons,apU,List.find?_cons];by_cases h:p.1=n
  ·subst h;rw [ME];simp
  ·rw [MF _ _ (fun e=>h e.symm),aiu n l,show (p.1 == n)=false by simp [h]]
theorem aAT (l:List xQ) (n:fC):(getM (MG l.reverse) n).getD []=valOf l n:=by rw [aiu];rfl
theorem aAU {M:fA fC} {n:fC}:(getM M n).isSome=true ↔ n∈M.map (·.1):=by
 unfold getM;rw [Option.isSome_map,List.find?_isSome,List.mem_map];constructor
 ·rintro⟨p,aI,he⟩;exact⟨p,aI,by simpa using he⟩
 ·rintro⟨p,aI,he⟩;exact⟨p,aI,by simpa using he⟩
theorem aAV {l:List xQ} (h:G6 (MG l.reverse)):(MG l.reverse).map (·.1)=mP (l.map (·.1)):=by
 refine WJ.one (l:=l.map (·.1)) ⟨List.pairwise_map.2 (h.imp fun {p q} I=>(Om _ _).1 I),fun x=>?_⟩ (Jb _);rw [<- aAU,aiu,Option.isSome_map,List.find?_isSome,List.mem_map];constructor
 ·rintro⟨p,aI,he⟩;exact⟨p,aI,by simpa using he⟩
 ·rintro⟨p,aI,he⟩;exact⟨p,aI,by simpa using he⟩
theorem apV (a b:fC) (h:(Value.string (aA a)) = .string (aA b)):a=b:=by
 injection h with h
 rw [<- gZ a,<- gZ b,h]
end
section
open Go.RowKit Go.Shelf
attribute [local go_sem] Oper.semAt_some
structure uj (n0 b:Nat) (W W':aRU):Prop where
 size:W.heap.size<=W'.heap.size
 keep:∀ k,k < n0->k≠b->W'.heap[k]?=W.heap[k]?
theorem uj.refl (n0 b:Nat) (W:aRU):uj n0 b W W:=⟨aQF _,fun _ _ _=>rfl⟩
theorem uj.trans {A B C:aRU} (h:uj n0 b A B) (k:uj n0 b B C):uj n0 b A C:=⟨aQG h.size k.size,fun j h1 I=>(k.keep j h1 I).trans (h.keep j h1 I)⟩
theorem uj.gN {A B:aRU} (h:Below n0 A B):uj n0 b A B:=⟨h.size,fun k h1 _=>h.block k h1⟩
theorem uj.put (aB:n0<=w.heap.size) (W:aRU) (l:Nat) (o uY:Obj) (hl:w.heap.size<=l) (h:W.heap[l]?=some o) (h1:o.isCells=false) (ag:o.isWalk=false):uj n0 b W (W.putObj l uY):=uj.gN (belowK_b aB W l o uY hl h h1 ag)
def Zv (p:xQ):Value:=.agg #[.string (aA p.1),.string (aA p.2)]
theorem aAW (w:aRU) (a:aRV) (len cap:Nat) :
  Calls prog 98 #[.slice a len cap] w fun e w'=>e = .returned (.func (.func 151) #[] #[pp w.heap.size 0])/\w'=w.alloc (.cells #[.slice a len cap] 43):=by
 go_enter func98,ntmps98;go_wp2;go_ret;exact⟨rfl,rfl⟩
end
section
open Go.ChangeMaps Go.MapKept Go.Maps Go.RowKit Go.Shelf Go.WideAt Go.WideMaps
attribute [local go_sem] Oper.semAt_some
theorem eU.grown {enc:α->Value} {P:Program} {k:TypeId} {n:Nat} {M:fA α} {row:Option Nat} (h:eU w P k enc b n M) (av:w.grownBy w' row) (bJ:some b≠row):eU w' P k enc b n M:=h.keep (av.block b h.lt bJ)
theorem aAX (w:aRU):(zeroValue 9).run prog w = .ok (.string (aA [])) w:=by rw [zeroValue9];rfl
def Ul (x:fC):Value:=.string (aA x)
end
section
open Go.RowKit Go.Shelf
theorem adK:Sz 45 7:=kr
theorem aAY (L:vw) (a:lv) (j:Nat):(nT L a)[0+j]?=(nT L a).toList[j]?:=by rw [Nat.zero_add];simp
theorem aAZ (w uK af:aRU) (S:aR0) (bL:S.length=32) (wK:w.heap.size+1=uK.heap.size) (ax:uI uK af) (ae:Bl w af) :
  af.heap[w.heap.size+1]?=some (.cells (bQ (List.replicate 32 0)).toArray 59 (0,0)) /\
  (af.setRow (w.heap.size+1) (laid (bQ (List.replicate 32 0)).toArray 0 (bQ S))).heap[w.heap.size+1]?=some (.cells (bQ S).toArray 59 (0,0)) /\
  Bl w (af.setRow (w.heap.size+1) (laid (bQ (List.replicate 32 0)).toArray 0 (bQ S))):=by
 refine⟨by rw [wK];exact ax.row,by rw [wK];exact uI.wrote ax S bL,Kz ae om _⟩
theorem adL (s:ByteArray):flat [s]=s.data.toList:=by simp [flat]
end
section
open Go.RowKit
theorem apW {β:Type} (f:α->Option β) (g:α->β):∀ (l:List α),(∀ x∈l,f x=some (g x))->l.mapM f=some (l.map g)
 | [],_=>rfl
 | x :: l,h=>by
  rw [List.mapM_cons,h x sp,apW f g l (fun y hy=>h y (by simp [hy]))];rfl
def QU (b:UInt8):Lit:=.int .u8 b.toNat
theorem aA0 (l:List α):(l.map fun x=>[x]).flatten=l:=by
 induction l with
 | nil=>rfl
 | cons x l I=>simp only [List.map_cons,List.flatten_cons,I];rfl
theorem aA1 (b:UInt8):(Lit.int .u8 (b.toNat:Int)).wf=true:=by have:=UInt8.toNat_lt b;have I:IntKind.u8.min=0:=dc;have h1:IntKind.u8.max=255:=dc;simp only [Lit.wf,Bool.and_eq_true,decide_eq_true_eq,I,h1];omega
theorem Zw (l:aR0) (h:l.length=32):prog.keyLits 2 59 (bQ l)=some (l.map QU):=by
 have hu:prog.underlying 59 = some (.array 32 5):=underlying59;have M:prog.underlying 5 = some (.int .u8):=underlying5;have hc:prog.cellsOf 59 = 32:=kr;have Y:prog.cellsOf 5 = 1:=kr;unfold Program.keyLits;simp only [hu,hc,Y,xn,h,if_true];have:(List.range 32).mapM (fun i=>prog.keyLits 1 5 (((bQ l).drop (i * 1)).take 1))=some ((List.range 32).map fun i=>[QU (l.getD i 0)]):=by
  refine apW _ _ _ fun i AA=>?_;have I:i < l.length:=by rw [h];exact aQ3.1 AA
  have e:((bQ l).drop (i * 1)).take 1=[.int .u8 (l.getD i 0).toNat]:=by rw [Nat.mul_one,List.drop_eq_getElem_cons (by rw [xn];exact I),List.take_succ_cons,List.take_zero];have:=TM l I;rw [List.getElem?_eq_getElem (by rw [xn];exact I)] at this;rw [Option.some.inj this]
  rw [e];unfold Program.keyLits;simp only [M];rw [if_pos ⟨trivial,aA1 _⟩];rfl
 rw [this];simp only [Option.map_some];congr 1;rw [show (fun i=>[QU (l.getD i 0)])=(fun x=>[x]) ∘ (fun i=>QU (l.getD i 0)) from rfl,<- List.map_map,aA0];apply aRO
 ·simp [h]
 ·intro i h1 J;simp at h1 J |-;rw [List.getElem?_eq_getElem J];rfl
theorem apX {a b:aR0} (h:a.map QU=b.map QU):a=b:=by
 refine List.map_inj_right (fun x y I=>?_) |>.1 h
 unfold QU at I;injection I with _ J
 exact aRP.1 om
theorem adM (l:aR0) (h:l.length=32):(Value.agg (bQ l).toArray).formed prog 59 = true:=by have hu:prog.underlying 59 = some (.array 32 5):=underlying59;have hc:prog.cellsOf 59 = 32:=kr;simp [Value.formed,hu,hc,xn,h]
theorem apY (a b:aR0) (bq:a.length=32) (ae:b.length=32) (w:aRU):(binOp .eql 59 (.agg (bQ a).toArray) (.agg (bQ b).toArray)).run prog w = .ok (.bool (a == b)) w:=by
 have I:EqAt prog 10000 59:=aRQ 9998 2 59 kr;obtain⟨r,h1,J⟩:=I w 2 2 (.agg (bQ a).toArray) (.agg (bQ b).toArray) _ _ (adM a bq) (adM b ae) (by simpa [Value.cells] using Zw a bq) (by simpa [Value.cells] using Zw b ae);rw [run_eql_struct,h1];have:r=(a == b):=by rw [Bool.eq_iff_iff,J,beq_iff_eq];exact⟨apX,fun e=>by rw [e]⟩
 rw [this];rfl
theorem aA3 (a b:aR0) (bq:a.length=32) (ae:b.length=32) (w:aRU):(binOp .neq 59 (.agg (bQ a).toArray) (.agg (bQ b).toArray)).run prog w = .ok (.bool (!(a == b))) w:=by
 have I:EqAt prog 10000 59:=aRQ 9998 2 59 kr;obtain⟨r,h1,J⟩:=I w 2 2 (.agg (bQ a).toArray) (.agg (bQ b).toArray) _ _ (adM a bq) (adM b ae) (by simpa [Value.cells] using Zw a bq) (by simpa [Value.cells] using Zw b ae);rw [run_neq_struct,h1];have:r=(a == b):=by rw [Bool.eq_iff_iff,J,beq_iff_eq];exact⟨apX,fun e=>by rw [e]⟩
 rw [this];rfl
def EI (p:fC->Bool) (row:List fC):Int:=match row.findIdx? p with
 | some q=>(q:Int)
 | none=>-1
theorem apZ {row:List fC} {x:fC} (p:fC->Bool) (h:row[q]?=some x):(row.take (q+1)).any p=((row.take q).any p || p x):=by obtain⟨I,ah⟩:=aQL.1 h;rw [List.take_succ_eq_append_getElem I,ah,List.any_append];simp
theorem ap0 {row:List fC} {x:fC} {p:fC->Bool} (h:row[q]?=some x) (h1:(row.take q).any p=false) (ag:p x=true):EI p row=q:=by
 obtain⟨I,ah⟩:=aQL.1 h;have:row.findIdx? p=some q:=by
  rw [List.findIdx?_eq_some_iff_getElem];refine⟨I,by rw [ah];exact ag,fun j aC=>?_⟩;have J:=aRk.1 h1 row[j] (by
   rw [List.mem_iff_getElem];exact⟨j,by simp;omega,by simp⟩);simpa using J
 rw [EI,this]
theorem adN {row:List fC} {p:fC->Bool} (h1:row.any p=false):EI p row = -1:=by
 have:row.findIdx? p=none:=by rw [List.findIdx?_eq_none_iff];intro x ah;have:=aRk.1 h1 x ah;simpa using this
 rw [EI,this]
theorem ap1 {row:List fC} {p:fC->Bool} (h1:row.any p=true):∃ (q:Nat) (x:fC),EI p row=q/\row[q]?=some x/\row.find? p=some x/\p x=true:=by
 cases hf:row.findIdx? p with
 | none =>
  rw [List.findIdx?_eq_none_iff] at hf;obtain⟨x,ah,aI⟩:=aRJ.1 h1;rw [hf x ah] at aI;cases aI
 | some q =>
  have h:=aRR.1 hf;obtain⟨I,aI,ae⟩:=h;refine⟨q,row[q],by rw [EI,hf],aQI I,?_,aI⟩;rw [List.find?_eq_some_iff_getElem];exact⟨aI,q,I,rfl,fun j aC=>by have:=ae j aC;simpa using this⟩
theorem KW {B:aRV} {n:Nat} {row:List fC} (h:Rd w 1 B n (cB row)) {x:fC} (ah:row[q]?=some x):∃ b o,B=some ⟨b,o,none⟩/\w.cell? (ad b (o+q))=some (.string (aA x)):=by have hl:=h.1;rw [cB,List.length_map] at hl;have I:=(aQL.1 ah).1;obtain⟨b,o,rfl,hc⟩:=h.2 om;exact⟨b,o,rfl,hc q _ (by rw [cB,List.getElem?_map,ah];rfl)⟩
theorem aA4 (w:aRU) (B:aRV) (c:Nat) (row:List fC) (ax:Rd w 1 B row.length (cB row)) (hl:row.length<=1000) (f:Nat) (iI:Array Value) (vz:Enters prog f) (p:fC->Bool)
  (hc:∀ W,Bl w W->∀ x∈row,Calls prog f (#[.string (aA x)]++iI) W fun e w'=>e = .returned (.bool (p x))/\Bl W w') :
  CB 160 #[.slice B row.length c,.func (.func f) #[] iI] w (.int .i64 (EI p row)):=by
 obtain⟨L,M,E,Y⟩:=nq2 row.length (EI p row);rw [<- M] at ax hl |-;rw [<- Y];have AA:=fun (q:Nat) (x:fC) (h:row[q]?=some x) (h1:(row.take q).any p=false) (Ak:p x=true)=>ap0 h h1 Ak;have AB:=fun (h:row.any p=false)=>adN h;have AX:=fun (q:Nat) (x:fC) (h:row[q]?=some x)=>apZ p h;rw [<- Y] at AA AB;have BD:∀ (args:Array Value) (w:aRU),(callFunc f args).run prog w = .ok (.enter f args) w:=vz;obtain⟨Al,AZ,Am,Ao,Ap,Aq⟩:=hq6 ax M hc AA AB AX;clear ax M hc Y vz AA AB AX;go_enter func160,ntmps160;go_wp2_with fail;go_loopg [5,8] L (fun gk BF Av wr=>∃ q:Nat,q+gk=L/\Av = .int .i64 q/\(row.take q).any p=false/\Bl w wr);case atStart=>exact⟨0,om,rfl,rfl,Below.refl _ _⟩
 case round =>
  obtain⟨q,BG,rfl,Aa,Ac⟩:=hrel;have AP:=aa Aa;have I:=aa Ac;clear Aa Ac;by_cases AQ:q < L
  ·have Az:(q:Int) < L:=om;have BH:(0:Int)<=q:=om;obtain⟨x,ah⟩:∃ x,row[q]?=some x:=⟨_,aQI (by rw [<- AZ.o];exact AQ)⟩;obtain⟨b,o,rfl,BB⟩:=KW (Al.o.gz I.o) ah;have J:=Am.o wr I.o x (aQK ah);have Ad:=aa ah;obtain⟨v,AU,X,Ae⟩:=nq2 (p x) (aA x);rw [<- Ae] at BB J;rw [<- AU] at J;clear Ae;have Af:=aa J;have Ag:=aa AU;clear ah J AQ AU;cases v with
   | true =>
    go_wp2_with (first | (refine jr Af.o ?_;intro af AV));go_ret;exact⟨by rw [Ao.o q x Ad.o AP.o Ag.o.symm];rfl,aU I.o AV.o⟩
   | false =>
    go_wp2_with (first | (refine jr Af.o ?_;intro af AV));go_roundg (gk - 1);case rel=>exact⟨q+1,om,by go_num,by rw [Aq.o q x Ad.o,AP.o,<- Ag.o];rfl,aU I.o AV.o⟩
    case measure=>omega
  ·have Ah:q=L:=om;have Az:¬ (q:Int) < L:=om;have BC:=aa (Ap.o (by have h:=AP.o;rwa [Ah,AZ.o,List.take_length] at h));clear AQ Ah;go_wp2_with fail;go_ret;exact⟨by rw [BC.o];rfl,I.o⟩
theorem ap2 (p:fC->Bool) (row:List fC):decide (0<=EI p row)=row.any p:=by
 cases I:row.any p with
 | true =>
  obtain⟨q,x,h,_⟩:=ap1 I;rw [h];simp
 | false =>
  rw [adN I];rfl
theorem ap3 (p:fC->Bool) (row:List fC) (hl:row.length<=1000):-1<=EI p row/\EI p row<=1000:=by
 cases I:row.any p with
 | true =>
  obtain⟨q,x,h,J,_⟩:=ap1 I;have:=(aQL.1 J).1;omega
 | false=>rw [adN I];omega
theorem WM (w:aRU) (B:aRV) (c:Nat) (row:List fC) (ax:Rd w 1 B row.length (cB row)) (hl:row.length<=1000) (f:Nat) (iI:Array Value) (vz:Enters prog f) (p:fC->Bool)
  (hc:∀ W,Bl w W->∀ x∈row,Calls prog f (#[.string (aA x)]++iI) W fun e w'=>e = .returned (.bool (p x))/\Bl W w') :
  CB 111 #[.slice B row.length c,.func (.func f) #[] iI] w (.bool (row.any p)):=by
 have I:=aa (aA4 w B c row ax hl f iI vz p hc);have J:=ap2 p row;obtain⟨fo,AA⟩:=ap3 p row hl;rw [<- J];clear ax hc J;obtain⟨E,M⟩:=ai (EI p row);rw [<- M] at I fo AA |-;obtain⟨L,Y⟩:=ai row.length;rw [<- Y] at I |-;clear M Y hl vz;go_enter func111,ntmps111;go_wp2_with (first | (go_at_call 160; refine jr I.o ?_;intro af AB));go_ret;exact⟨rfl,AB.o⟩
theorem ap4 (w:aRU) (s:ByteArray) (c:Int):Calls prog 210 #[.string s,.int .u8 c] w fun e w'=>e = .returned (.int .i64 (Lib.indexByte s.data.toList c.toNat.toUInt8))/\w'=w:=by go_enter func210,ntmps210;go_wp2;rw [run_callFunc_extern func245 kr kr kr (e:=Extern.BytealgIndexByte.indexByte) kr,Lib.run_indexByteString];simp only [Result.andThen];rw [Oper.upon_value];go_wp2;go_ret;exact⟨rfl,rfl⟩
theorem adO (w:aRU) (s:ByteArray) (c:Int):Calls prog 165 #[.string s,.int .u8 c] w fun e w'=>e = .returned (.int .i64 (Lib.indexByte s.data.toList c.toNat.toUInt8))/\w'=w:=by go_enter func165,ntmps165;go_wp2_with (first | (go_at_call 210; refine (ap4 _ _ _).mono ?_;rintro e af ⟨rfl,rfl⟩));go_ret;exact⟨rfl,rfl⟩
def DL (r:Nat):Bool:=(decide (97<=r) && decide (r<=122)) || (decide (65<=r) && decide (r<=90)) || (decide (48<=r) && decide (r<=57)) || decide (r=95) || decide (r=46) || decide (r=45) || decide (r=43)
theorem aiv (c:UInt8):DL c.toNat=Ms c:=rfl
theorem aiw (h:128<=r):DL r=false:=by unfold DL;simp only [Bool.or_eq_false_iff,Bool.and_eq_false_iff,decide_eq_false_iff_not];omega
theorem aA5 (n DN fo iY qD:Nat) (h:128<=DN):128<=(Lib.decodeN n DN fo iY qD).1:=by
 unfold Lib.decodeN;rw [if_neg om];repeat' split
 all_goals simp only
 all_goals omega
theorem ap5 (s:ByteArray):∀ (f pos:Nat),pos<=s.size->s.size<=pos+f ->
  decide (0<=Lib.idxFuncFrom (fun r=>!DL r) true s f pos) = !((s.data.toList.drop pos).all Ms)
 | 0,pos,h1,Y=>by
  rw [List.drop_of_length_le (by rw [wL];omega)];rfl
 | f+1,pos,h1,Y=>by
  by_cases aI:pos < s.size
  ·have AA:pos < s.data.toList.length:=by rw [wL];exact aI
   have J:s.get! pos=s.data.toList[pos]:=by have:s.data[pos]! = s.data[pos]'aI:=getElem!_pos s.data pos aI;show s.data[pos]! = _;rw [this];simp
   rw [List.drop_eq_getElem_cons AA,List.all_cons];obtain⟨c,hc⟩:=ai (s.data.toList[pos]);rw [<- hc] at J |-;unfold Lib.idxFuncFrom;rw [if_pos aI,Lib.decode_at,J];by_cases AB:c.toNat < 128
   ·rw [show Lib.decodeN (s.size - pos) c.toNat (s.get! (pos+1)).toNat (s.get! (pos+2)).toNat (s.get! (pos+3)).toNat=(c.toNat,1) by simp [Lib.decodeN,AB]];have AP:=ap5 s f (pos+1) om om;by_cases I:Ms c=true
    ·rw [if_neg (by show ¬ ((!DL c.toNat)=true);rw [aiv,I];simp),I,Bool.true_and];exact AP
    ·have M:Ms c=false:=by simpa using I
     rw [if_pos (by show (!DL c.toNat)=true;rw [aiv,M];rfl),M];simp
   ·have ae:=aiw (aA5 (s.size - pos) c.toNat (s.get! (pos+1)).toNat (s.get! (pos+2)).toNat (s.get! (pos+3)).toNat om);have hs:Ms c=false:=by rw [<- aiv];exact aiw om
    rw [ae,hs];simp
  ·rw [Lib.idxFuncFrom_end _ _ _ _ _ aI,List.drop_of_length_le (by rw [wL];omega)];rfl
theorem aA7 (s:ByteArray):decide (0<=Lib.idxFunc (fun r=>!DL r) true s) = !(s.data.toList.all Ms):=by rw [Lib.idxFunc,ap5 s s.size 0 om om,List.drop_zero]
theorem aA8:∀ r:Fin 128,decide (0<=Lib.indexByte [95,46,45,43] (UInt8.ofNat r.val))=(decide (r.val=95) || decide (r.val=46) || decide (r.val=45) || decide (r.val=43)):=by decide +kernel
theorem aA9 (h:r < 128) (h1:¬ (97<=r/\r<=122)) (ag:¬ (65<=r/\r<=90)) (au:¬ (48<=r/\r<=57)):decide (0<=Lib.indexByte [95,46,45,43] (UInt8.ofNat r))=DL r:=by
 rw [aA8 ⟨r,h⟩];have I:(decide (97<=r) && decide (r<=122))=false:=by simpa using h1
 have J:(decide (65<=r) && decide (r<=90))=false:=by simpa using ag
 have M:(decide (48<=r) && decide (r<=57))=false:=by simpa using au
 unfold DL;rw [I,J,M];rfl
theorem aBa (h:(97<=r/\r<=122)\/(65<=r/\r<=90)\/(48<=r/\r<=57)):DL r=true:=by unfold DL;simp only [Bool.or_eq_true,Bool.and_eq_true,decide_eq_true_eq];omega
theorem aBb (w:aRU) (r:Nat):Calls prog 115 #[.int .i32 r] w fun e w'=>e = .returned (.bool (DL r))/\w'=w:=by
 by_cases hy:(97<=r/\r<=122)\/(65<=r/\r<=90)\/(48<=r/\r<=57)
 ·rw [aBa hy];rcases hy with h | h | h
  all_goals obtain⟨h1,I⟩:=h
  all_goals have fo:=Int.ofNat_le.2 h1
  all_goals have J:=Int.ofNat_le.2 I
  all_goals clear h1 I
  all_goals go_enter func115,ntmps115
  all_goals go_wp2_with fail
  all_goals go_ret
  all_goals exact⟨rfl,rfl⟩
 ·by_cases ae:128<=r
  ·rw [aiw ae];have fo:(128:Int)<=r:=om;go_enter func115,ntmps115;go_wp2_with fail;go_ret;refine⟨?_,rfl⟩;show Ending.returned (Value.bool _)=Ending.returned (Value.bool false);congr 2;simp only [Bool.or_eq_false_iff,decide_eq_false_iff_not];omega
  ·rw [<- aA9 om om om om];have M:r < 48\/(57 < r/\r < 65)\/(90 < r/\r < 97)\/122 < r:=om;have Y:(r:Int) < 128:=om;clear hy ae;rcases M with h | h | h | h
   ·have fo:(r:Int) < 48:=om;clear h;go_enter func115,ntmps115;go_wp2_with (go_at_call 165; refine (adO _ _ _).mono ?_;rintro e af ⟨rfl,rfl⟩);go_ret;exact⟨rfl,rfl⟩
   ·have fo:(57:Int) < r:=om;have J:(r:Int) < 65:=om;clear h;go_enter func115,ntmps115;go_wp2_with (go_at_call 165; refine (adO _ _ _).mono ?_;rintro e af ⟨rfl,rfl⟩);go_ret;exact⟨by simp [fo];omega,rfl⟩
   ·have fo:(90:Int) < r:=om;have J:(r:Int) < 97:=om;clear h;go_enter func115,ntmps115;go_wp2_with (go_at_call 165; refine (adO _ _ _).mono ?_;rintro e af ⟨rfl,rfl⟩);go_ret;exact⟨by simp [fo];omega,rfl⟩
   ·have fo:(122:Int) < r:=om;clear h;go_enter func115,ntmps115;go_wp2_with (go_at_call 165; refine (adO _ _ _).mono ?_;rintro e af ⟨rfl,rfl⟩);go_ret;exact⟨by simp [fo];omega,rfl⟩
theorem aBc (w:aRU) (r:Nat):Calls prog 114 #[.int .i32 r] w fun e w'=>e = .returned (.bool (!DL r))/\w'=w:=by go_enter func114,ntmps114;go_wp2_with (go_at_call 115; refine (aBb _ _).mono ?_;rintro e af ⟨rfl,rfl⟩);go_ret;exact⟨rfl,rfl⟩
def QV (r:Nat):Bool:=!DL r
theorem aBd (w:aRU) (s:ByteArray):CB 209 #[.string s,.func (.func 114) #[] #[],.bool true] w (.int .i64 (Lib.idxFunc QV true s)):=by
 go_enter func209,ntmps209;go_wp2_with fail;go_loopg [] s.size (fun gf AZ=>∃ pos:Nat,AZ.heap[w.heap.size]?=some (.stringIter s pos)/\Bl w AZ/\Lib.idxFuncFrom QV true s gf pos=Lib.idxFunc QV true s/\s.size<=pos+gf);case atStart=>exact⟨0,World.iter_heap w s 0,(Below.refl _ w).alloc (aQF _) _,rfl,om⟩
 case round =>
  obtain⟨pos,hit,Aa,I,Ae⟩:=hrel;by_cases Y:pos < s.size
  ·obtain⟨AQ,rfl⟩:∃ AQ,gk=AQ+1:=⟨gk - 1,om⟩;have AU:∀ ty,(Instr.next (pp w.heap.size 0) true ty).run prog wr=_:=fun ty=>Lib.run_next_any_at wr w.heap.size s pos ty hit Y;have Ad:=Lib.width_pos s pos;obtain⟨R,AA⟩:∃ R,(Utf8.decode s pos).1=R:=⟨_,rfl⟩;obtain⟨K,J⟩:∃ K,(Utf8.decode s pos).2=K:=⟨_,rfl⟩;simp only [Lib.idxFuncFrom,Y,if_true,AA,J] at I;rw [AA,J] at AU;rw [J] at Ad;have Ac:=Lib.iterAt_heap wr w.heap.size s pos (pos+K) hit;have AV:=Lib.below_iterAt Aa (k:=w.heap.size) (aQF _) s (pos+K);obtain⟨W,AX⟩:∃ W,wr.iterAt w.heap.size s (pos+K)=W:=⟨_,rfl⟩;rw [AX] at AU Ac AV;have AB:=aBc W R;rw [show (!DL R)=QV R from rfl] at AB;cases AP:QV R <;> rw [AP] at AB <;> simp only [AP,if_true,Bool.false_eq_true,if_false] at I
   ·have M:=aa I;clear I AP AA J AX;go_wp2_with (go_at_call 114; refine AB.mono ?_;rintro e W' ⟨rfl,rfl⟩);go_roundg AQ;case measure=>omega
    case rel=>exact⟨pos+K,Ac,AV,M.o,om⟩
   ·have M:=aa I;clear I AP AA J AX;go_wp2_with (go_at_call 114; refine AB.mono ?_;rintro e W' ⟨rfl,rfl⟩);go_ret;exact⟨congrArg (fun z=>Ending.returned (Value.int .i64 z)) M.o,AV⟩
  ·have AU:∀ ty,(Instr.next (pp w.heap.size 0) true ty).run prog wr=_:=fun ty=>Lib.run_next_end_at wr w.heap.size s pos ty hit Y;rw [Lib.idxFuncFrom_end QV true s gk pos Y] at I;have M:=aa I;clear I;go_wp2_with fail;go_ret;exact⟨congrArg (fun z=>Ending.returned (Value.int .i64 z)) M.o,Aa⟩
theorem aBg (w:aRU) (s:ByteArray):CB 164 #[.string s,.func (.func 114) #[] #[]] w (.int .i64 (Lib.idxFunc QV true s)):=by go_enter func164,ntmps164;go_wp2_with (go_at_call 209; refine (aBd _ _).mono ?_;rintro e w1 ⟨rfl,ae⟩);go_ret;exact⟨rfl,ae⟩
theorem aBh (w:aRU) (s:ByteArray):CB 113 #[.string s,.func (.func 114) #[] #[]] w (.bool (!(s.data.toList.all Ms))):=by rw [<- aA7];obtain⟨oK,J⟩:=ai (Lib.idxFunc QV true s);rw [show Lib.idxFunc (fun r=>!DL r) true s=oK from J.symm];have M:=aa J;clear J;go_enter func113,ntmps113;go_wp2_with (go_at_call 164; refine (aBg _ _).mono ?_;rintro e w1 ⟨rfl,ae⟩;rw [<- M.o]);go_ret;exact⟨rfl,ae⟩
theorem aBi (h:l=[]):DC l=false:=by subst h;rfl
theorem aBj (h:l=[46]):DC l=false:=by subst h;decide
theorem aBk (h:l=[46,46]):DC l=false:=by subst h;decide
theorem aBl (h:¬ l.length<=64):DC l=false:=by simp [DC,h]
theorem aBm (aV:¬ l=[]) (h1:¬ l=[46]) (ag:¬ l=[46,46]) (au:l.length<=64):DC l=l.all Ms:=by
 have I:l.isEmpty=false:=by cases l <;> simp_all
 have J:(l == [46])=false:=by simpa using h1
 have M:(l == [46,46])=false:=by simpa using ag
 simp [DC,I,J,M,au]
theorem ap8 (w:aRU) (s:ByteArray):CB 67 #[.string s] w (.bool (DC s.data.toList)):=by
 have M:=aa (wL s);have hl:=aa (ByteArray.toList_eq s);by_cases Y:s.size<=64
 ·have AP:(s.size:Int)<=64:=om;by_cases J:s.toList=[]
  ·rw [aBi (hl.o ▸ J)];go_enter func67,ntmps67;go_wp2_with fail;go_ret;exact⟨rfl,Below.refl _ _⟩
  by_cases h1:s.toList=[46]
  ·rw [aBj (hl.o ▸ h1)];have AA:(s.toList == [46])=true:=by rw [h1];rfl
   have AB:s.toList.isEmpty=false:=by rw [h1];rfl
   clear J h1;go_enter func67,ntmps67;go_wp2_with fail;go_ret;exact⟨rfl,Below.refl _ _⟩
  by_cases I:s.toList=[46,46]
  ·rw [aBk (hl.o ▸ I)];have AQ:(s.toList == [46,46])=true:=by rw [I];rfl
   have AA:(s.toList == [46])=false:=by rw [I];rfl
   have AB:s.toList.isEmpty=false:=by rw [I];rfl
   clear J h1 I;go_enter func67,ntmps67;go_wp2_with fail;go_ret;exact⟨rfl,Below.refl _ _⟩
  ·rw [aBm (hl.o ▸ J) (hl.o ▸ h1) (hl.o ▸ I) (by rw [M.o];exact Y)];have AQ:(s.toList == [46,46])=false:=by simpa using I
   have AA:(s.toList == [46])=false:=by simpa using h1
   have AB:s.toList.isEmpty=false:=by cases h:s.toList <;> simp_all
   clear J h1 I;obtain⟨b,ae⟩:=ai (s.data.toList.all Ms);rw [<- ae];have AU:=aa ae;clear ae;go_enter func67,ntmps67;go_wp2_with (go_at_call 113; refine (aBh _ _).mono ?_;rintro e w1 ⟨rfl,ae⟩;rw [<- AU.o]);go_ret;exact⟨by simp,ae⟩
 ·rw [aBl (by rw [M.o];exact Y)];have AP:(64:Int) < s.size:=om;go_enter func67,ntmps67;go_wp2_with fail;all_goals go_ret
  all_goals exact⟨by simp,Below.refl _ _⟩
end
section
open Go.RowKit
variable {F:Fence} {n:Nat} {P:Program}
def aBo (B:Nat) (QW:World->World->Prop) (oK:List α->World->Prop) (OB:Code->List α->World->Prop) (xs:List α) (W:aRU):Exit->Act->World->Prop
 | .normal,_,W'=>(W'.heap[B]?=W.heap[B]?/\W'.heap[B+1]?=W.heap[B+1]?)/\QW W W'/\oK xs W'
 | .ret,_,W'=>(W'.heap[B]?=W.heap[B]?/\W'.heap[B+1]?=W.heap[B+1]?)/\OB .ret xs W'
 | .exit id,_,W'=>(W'.heap[B]?=W.heap[B]?/\W'.heap[B+1]?=W.heap[B+1]?)/\OB (.exit id) xs W'
 | .goto t,_,W'=>(W'.heap[B]?=W.heap[B]?/\W'.heap[B+1]?=W.heap[B+1]?)/\OB (.goto t) xs W'
 | .panic _,_,_=>False
 | .outgrown,_,_=>False
theorem aBp {g:Operand} {ps:Array Tmp} {assign body:Code} {Q:aRX} {a:Act}
  (DR:F.round=none) (h1:1<=n) {gf:Nat} {lb:Array Value} (av:a.eval g = .func (.func gf) #[] lb) (aBq:F.fn gf) (zQ:∀ args w,(callFunc gf args).run P w = .ok (.enter gf args) w)
  (enc:α->Value) (yN:ps.size=1) (K QW:World->World->Prop) (S Uh:List α->Prop)
  (wh:∀ (l:Nat) (bu vX:List α->World->Prop) (W:aRU),Bl w W->(∀ s aH aY,bu s aH->K aH aY->bu s aY) ->
   (∀ pre x aH,bu pre aH->YieldAt F (n - 1 - 1) P l #[enc x] aH fun e W'=>(e = .returned (.bool true)/\bu (pre++[x]) W'/\QW aH W')\/(e = .returned (.bool false)/\vX (pre++[x]) W')) ->
   bu [] W->CallsIn F (n - 1) P gf (#[.func (.yield l) #[] #[]]++lb) W fun e W'=>(∃ v,e = .returned v)/\((∃ xs,S xs/\bu xs W')\/(∃ pre,Uh pre/\vX pre W')))
  (aiz:∀ aH aY k,K aH aY->w.heap.size<=k->aY.heap[k]?=aH.heap[k]?) (ap9:∀ A B C,QW A B->QW B C->QW A C) (aiA:∀ W k o,w.heap.size<=k->QW W (W.putObj k o))
  (oK:List α->World->Prop) (OB:Code->List α->World->Prop) (aBr:∀ pre aH aY,oK pre aH->K aH aY->oK pre aY)
  (eH:∀ pre W k o,oK pre W->w.heap.size<=k->k < w.heap.size+2->oK pre (W.putObj k o)) (ZB:∀ c pre W k o,OB c pre W->w.heap.size<=k->k < w.heap.size+2->OB c pre (W.putObj k o))
  (aV:∀ jc nK,oK [] ((w.alloc jc).alloc nK)) (aqa:α->Act)
  (aBs:∀ (l:Nat) (x:α) (W:aRU) (K:Act->World->Prop),K (aqa x) W ->
   assign.wpIn (F.inRound l) (n - 1 - 1) P (Exit.then K (fun _ _ _=>False)) { tmps:=(ps.zip #[enc x]).foldl (fun t (p,v)=>t.setIfInBounds p v) a.tmps,defers:=[] } W)
  (aqb:∀ (l:Nat) (pre:List α) (x:α) (W:aRU),oK pre W->body.wpIn (F.inRound l) (n - 1 - 1) P (aBo w.heap.size QW oK OB (pre++[x]) W) (aqa x) W)
  (aqc:∀ (xs:List α) (W:aRU),S xs->oK xs W->W.heap[w.heap.size]?=some (.deferred (some []))->Q .normal { a with defers:={ target:=.collected w.heap.size,args:=#[] } :: a.defers } W)
  (aqd:∀ (c:Code) (pre:List α) (W:aRU),Uh pre->OB c pre W->W.heap[w.heap.size]?=some (.deferred (some []))->c.wpIn F n P Q { a with defers:={ target:=.collected w.heap.size,args:=#[] } :: a.defers } W) :
  (Code.rangeFunc g ps assign body).wpIn F n P Q a w:=by
 refine wpIn_rangeFunc ?_;intro fn Ah;rw [DR];obtain⟨D,Aa⟩:=ai w.heap.size;obtain⟨rec,Y⟩:∃ rec:LoopState->Option Code->Loop,rec=fun st AP=>{ state:=st,pending:=AP,fn,tmps:=a.tmps,params:=ps,assign,body,defers:=w.heap.size }:=⟨_,rfl⟩;let AA:LoopState->Option Code->World->Prop:=fun st AP W=>W.heap[D+1]?=some (.loop (rec st AP))/\W.heap[D]?=some (.deferred (some []));obtain⟨aH,AZ⟩:∃ aH,(w.alloc (.deferred (some []))).alloc (.loop (rec .ready none))=aH:=⟨_,rfl⟩;have Ak:AA .ready none aH:=by
  rw [<- AZ];refine⟨?_,?_⟩
  ·have:=aQM (w.alloc (.deferred (some []))) (.loop (rec .ready none));rwa [World.size_alloc,<- Aa] at this
  ·rw [Aa];exact (aQ5 _ _ _ sp).trans (aQM w _)
 have Al:Bl w aH:=by rw [<- AZ];exact ((Below.refl _ w).alloc (aQF _) _).alloc sp _
 have Am:oK [] aH:=by rw [<- AZ];exact aV _ _
 have dG:∀ {st AP W} (Ac Ad),AA st AP W->AA Ac Ad (W.putObj (D+1) (.loop (rec Ac Ad))):=fun Ac Ad h =>
  ⟨World.putObj_heap_same (aRh.1 h.1).1,(aRf om).trans h.2⟩;have keep:∀ {st AP W W'},AA st AP W->(W'.heap[D]?=W.heap[D]?/\W'.heap[D+1]?=W.heap[D+1]?)->AA st AP W':=fun h k=>⟨k.2.trans h.1,k.1.trans h.2⟩;refine⟨w.heap.size+1,[{ target:=.collected w.heap.size,args:=#[] }],aH,{ target:=.fn (.func gf) lb,args:=#[.func (.yield (w.heap.size+1)) #[] #[]] },aH,gf,
  #[.func (.yield (w.heap.size+1)) #[] #[]]++lb,aH,?_,?_,?_,?_,fun _=>h1,?_⟩
 ·rw [<- AZ,Y];exact run_enterLoop_outer _ _ _ _ _
 ·simp only [resolve,av];simp [go_sem]
 ·intro Az Af;simp [Target.leads] at Af;subst Af;exact aBq
 ·simp [invoke,go_sem,zQ]
 rw [<- Aa] at eH ZB aiz aiA aqb aqc aqd |-;refine (wh (D+1) (fun pre W=>oK pre W/\AA .ready none W) (fun pre W=>∃ c,OB c pre W/\AA .done (some c) W) aH Al ?_ ?_ ⟨Am,Ak⟩).mono ?_
 ·rintro s A C ⟨AQ,hl,hk⟩ Ae;exact⟨aBr _ _ _ AQ Ae,(aiz _ _ _ Ae om).trans hl,(aiz _ _ _ Ae om).trans hk⟩
 ·
  rintro pre x W ⟨AQ,hl,hk⟩;have hy:=run_yield (P:=P) (args:=#[enc x]) hl (by rw [Y];exact yN.symm);rw [Y] at hy;refine⟨fn,_,assign,body,hy,roundIn_of_wpIn Ah (aBs _ x W _ ⟨_,run_beginRound hl (by rw [Y]),?_⟩)⟩;have Ao:AA .busy none (W.putObj (D+1) (.loop (rec .busy none))):=dG .busy none ⟨hl,hk⟩;rw [show ({ rec .ready none with state:=.busy }:Loop)=rec .busy none by rw [Y]];refine wpIn_mono (aqb _ pre x _ (eH _ _ _ _ AQ om om)) ?_;have fin:∀ (jump:Option Code) (M:aRU),(M.heap[D]?=(W.putObj (D+1) (.loop (rec .busy none))).heap[D]?/\M.heap[D+1]?=(W.putObj (D+1) (.loop (rec .busy none))).heap[D+1]?) ->
    (Instr.endRound (D+1) jump).run P M = .ok (.bool jump.isNone) (M.putObj (D+1) (.loop (rec (if jump.isNone then .ready else .done) jump)))/\AA (if jump.isNone then .ready else .done) jump (M.putObj (D+1) (.loop (rec (if jump.isNone then .ready else .done) jump))):=by
   intro jump M AB;have Ag:=keep Ao AB;have:=run_endRound (P:=P) jump Ag.1;rw [show ({ rec .busy none with state:=if jump.isNone then .ready else .done,pending:=jump }:Loop)=rec (if jump.isNone then .ready else .done) jump by rw [Y]] at this;exact⟨this,dG _ _ Ag⟩
  rintro e a3 M aI;cases e with
  | normal =>
   obtain⟨AB,Ap,AU⟩:=aI;obtain⟨AV,AX⟩:=fin none M AB;exact⟨_,_,AV,.inl ⟨rfl,⟨eH _ _ _ _ AU om om,AX⟩,ap9 _ _ _ (ap9 _ _ _ (aiA _ _ _ om) Ap) (aiA _ _ _ om)⟩⟩
  | ret =>
   obtain⟨AB,AU⟩:=aI;obtain⟨AV,AX⟩:=fin (some .ret) M AB;exact⟨_,_,AV,.inr ⟨rfl,.ret,ZB _ _ _ _ _ AU om om,AX⟩⟩
  | exit id =>
   obtain⟨AB,AU⟩:=aI;obtain⟨AV,AX⟩:=fin (some (.exit id)) M AB;exact⟨_,_,AV,.inr ⟨rfl,.exit id,ZB _ _ _ _ _ AU om om,AX⟩⟩
  | goto t =>
   obtain⟨AB,AU⟩:=aI;obtain⟨AV,AX⟩:=fin (some (.goto t)) M AB;exact⟨_,_,AV,.inr ⟨rfl,.goto t,ZB _ _ _ _ _ AU om om,AX⟩⟩
  | panic BB=>exact aI.elim
  | outgrown=>exact aI.elim
 ·
  rintro e aY ⟨⟨v,rfl⟩,(⟨xs,Aq,AQ,hl,hk⟩ | ⟨pre,Av,c,AQ,hl,hk⟩)⟩
  ·exact⟨none,_,by have:=run_endLoop (P:=P) hl (by rw [Y];simp);rw [Y] at this;exact this,aqc xs _ Aq (eH _ _ _ _ AQ om om) ((aRf om).trans hk)⟩
  ·exact⟨some c,_,by have:=run_endLoop (P:=P) hl (by rw [Y];simp);rw [Y] at this;exact this,aqd c pre _ Av (ZB _ _ _ _ _ AQ om om) ((aRf om).trans hk)⟩
end
section
open Go.RowKit
attribute [local go_sem] Oper.semAt_some
theorem aBw (w:aRU) (s:ByteArray):Calls prog 208 #[.string s,.string ⟨#[47]⟩] w fun e w'=>e = .returned (.int .i64 (Lib.indexByte s.data.toList 47))/\w'=w:=by
 by_cases h:s.toList=[47]
 ·have I:Lib.indexByte s.data.toList 47=0:=by rw [<- ByteArray.toList_eq,h];decide
  rw [I];have J:(s.toList == [47])=true:=by rw [h];rfl
  have M:([47] == s.toList)=true:=by rw [h];rfl
  clear h I;go_enter func208,ntmps208;go_wp2_with fail;go_ret;exact⟨rfl,rfl⟩
 ·have J:(s.toList == [47])=false:=by simpa using h
  have M:([47] == s.toList)=false:=by simpa using fun e=>h e.symm
  clear h;go_enter func208,ntmps208;go_wp2_with (go_at_call 210; refine (ap4 _ _ _).mono ?_;rintro e af ⟨rfl,rfl⟩);all_goals go_ret
  all_goals exact⟨rfl,rfl⟩
theorem aqe (w:aRU) (s:ByteArray):Calls prog 163 #[.string s,.string ⟨#[47]⟩] w fun e w'=>e = .returned (.int .i64 (Lib.indexByte s.data.toList 47))/\w'=w:=by go_enter func163,ntmps163;go_wp2_with (first | (go_at_call 208; refine (aBw _ _).mono ?_;rintro e af ⟨rfl,rfl⟩));go_ret;exact⟨rfl,rfl⟩
def OD (w:aRU) (s:ByteArray):World:=((w.alloc (.cells #[.string s] 9)).alloc (.cells #[.string ⟨#[47]⟩] 9)).alloc (.cells #[.int .i64 0] 3)
theorem aBx (w:aRU) (s:ByteArray):Calls prog 66 #[.string s,.string ⟨#[47]⟩] w fun e w'=>e = .returned (.func (.func 161) #[] #[pp (w.heap.size+1) 0,pp w.heap.size 0,pp (w.heap.size+1+1) 0])/\w'=OD w s:=by go_enter func66,ntmps66;go_wp2;go_ret;exact⟨rfl,rfl⟩
theorem MJ (f:FuncId):Fence.wide.fn f:=trivial
def aiE (jq:Nat) (w:aRU):Nat:=match w.heap[jq]? with | some (.cells #[.string s] _ _)=>s.size | _=>0
theorem aqf {jq:Nat} {s:ByteArray} {aZ:Nat × Nat} (h:w.heap[jq]?=some (.cells #[.string s] t aZ)):aiE jq w=s.size:=by unfold aiE;rw [h];rfl
theorem ZC {u:Value} (h:w.heap[B]?=some (.cells #[v] t (0,0))):(w.setCell ⟨B,0,none⟩ u).heap[B]?=some (.cells #[u] t (0,0)):=by have:=setCell_eq_setRow w B 0 #[v] t (0,0) u h;rw [this];exact aQU w B _ _ t _ h
theorem Jf (u:Value) (hk:k≠B):(w.setCell ⟨B,0,none⟩ u).heap[k]?=w.heap[k]?:=aQX w ⟨B,0,none⟩ u k hk
theorem Hg (h:w.heap[B]?=some (.cells #[v] t (0,0))):w.cell? (ad B 0)=some v:=(aQH w B 0 _ _ _ h).trans rfl
theorem Um (h:w.heap[B]?=some (.cells #[v] t (0,0))):w.frozen? ⟨B,0,none⟩=false:=by simp [World.frozen?,h]
theorem aBy (l:aR0):(Lib.indexByte l 47 = -1/\47 ∉ l)\/∃ a b,l=a++47 :: b/\47 ∉ a/\Lib.indexByte l 47=a.length:=by
 rcases Int.lt_or_le (Lib.indexByte l 47) 0 with h | h
 ·have h1:Lib.indexByte l 47 = -1:=by have:=Lib.indexByte_ge l 47;omega
  refine .inl ⟨h1,fun hm=>?_⟩;obtain⟨k,hk⟩:=aRA hm;exact Lib.indexByte_none h1 k hk
 ·obtain⟨k,hk⟩:∃ k:Nat,Lib.indexByte l 47=k:=⟨(Lib.indexByte l 47).toNat,om⟩;obtain⟨h1,M⟩:=Lib.indexByte_some hk;have J:k < l.length:=(aQL.1 h1).1;refine .inr ⟨l.take k,l.drop (k+1),?_,?_,?_⟩
  ·have:l[k]=47:=by simpa [J] using h1
   rw [<- this,<- List.drop_eq_getElem_cons J,List.take_append_drop]
  ·intro hm;obtain⟨i,I⟩:=aRA hm;rw [List.getElem?_take] at I;split at I
   ·exact M i (by assumption) I
   ·cases I
  ·rw [hk,List.length_take];omega
theorem aBz (n l WN jq WO:Nat) (tJ:1<=n) (s:aR0) (zR:s.length<=1100000) (bJ:WN≠jq) (aBA:WO≠jq) (bu vX:List (List UInt8)->World->Prop)
  (MK:∀ pre W v,bu pre W->bu pre (W.setCell ⟨jq,0,none⟩ v))
  (gp:∀ pre x W,bu pre W->YieldAt Fence.wide (n - 1) prog l #[.string (aA x)] W fun e W' =>
   (e = .returned (.bool true)/\bu (pre++[x]) W'/\(∀ k,k=WN\/k=jq\/k=WO->W'.heap[k]?=W.heap[k]?))\/(e = .returned (.bool false)/\vX (pre++[x]) W'))
  (W:aRU) (aI:W.heap[WN]?=some (.cells #[.string ⟨#[47]⟩] 9 (0,0))) (hs:W.heap[jq]?=some (.cells #[.string (aA s)] 9 (0,0))) (aB:W.heap[WO]?=some (.cells #[.int .i64 0] 3 (0,0))) (aV:bu [] W) :
  CallsIn Fence.wide n prog 161 #[.func (.yield l) #[] #[],pp WN 0,pp jq 0,pp WO 0] W fun e W' =>
   (∃ v,e = .returned v)/\(bu (vk s) W'\/∃ pre,pre <+: vk s/\vX pre W'):=by
 refine aRj func161 rfl trivial ?_ rfl;simp only [ntmps161,List.size_toArray,List.length_cons,List.length_nil,Nat.reduceAdd,Nat.reduceSub,Array.replicate_succ,Array.replicate_zero,List.push_toArray,List.append_toArray,List.nil_append,List.cons_append];have Ao:=Hg aI
 gi_wp2_with fail
 gi_loopw [] (fun wr=>∃ pre rest,rest.length<=s.length/\vk s=pre++vk rest/\wr.heap[WN]?=some (.cells #[.string ⟨#[47]⟩] 9 (0,0))/\wr.heap[jq]?=some (.cells #[.string (aA rest)] 9 (0,0))/\wr.heap[WO]?=some (.cells #[.int .i64 0] 3 (0,0))/\bu pre wr) (fun wr=>aiE jq wr)
 case atStart=>exact⟨[],s,aQF _,rfl,aI,hs,aB,aV⟩
 case round =>
  obtain⟨pre,rest,Bf,AX,aI,hs,aB,Af⟩:=hrel;have AZ:=aqf hs;have Ao:=Hg aI;have cs:=Hg hs;have BN:=Hg aB;have fs:=Um hs;have hf:=MJ 163;rcases aBy rest with ⟨Y,Ap⟩ | ⟨a,b,AA,Aq,Y⟩
  ·have j6:∀ w,CallsIn Fence.wide (n - 1) prog 163 #[.string (aA rest),.string ⟨#[47]⟩] w fun e w'=>e = .returned (.int .i64 (-1))/\w'=w:=fun w=>by
    have:=aQZ (n:=n - 1).2 (aqe w (aA rest));rw [gZ,Y] at this;exact this
   have AB:=ahR Ap;obtain⟨fn,tmps,assign,body,hy,Aa⟩:=gp pre rest wr Af;obtain⟨R,I⟩:=ai (aA rest);rw [<- I] at cs j6 hy;have AP:=aa AX;have AQ:=aa AB;clear Y Ap I aI hs aB AX AB AZ
   gi_wp2_with (gi_at_call 163; refine (j6 _).mono ?_;rintro e w' ⟨rfl,rfl⟩)
   refine Aa.mono ?_;rintro e Ag (⟨rfl,Ac,_⟩ | ⟨rfl,Ah⟩)
   ·gi_wp2_with fail
    go_end0;exact⟨⟨_,rfl⟩,.inl (by rw [AP.o,AQ.o];exact Ac)⟩
   ·gi_wp2_with fail
    go_end0;exact⟨⟨_,rfl⟩,.inr ⟨pre++[rest],by rw [AP.o,AQ.o];exact List.prefix_refl _,Ah⟩⟩
  ·have j6:∀ w,CallsIn Fence.wide (n - 1) prog 163 #[.string (aA rest),.string ⟨#[47]⟩] w fun e w'=>e = .returned (.int .i64 a.length)/\w'=w:=fun w=>by
    have:=aQZ (n:=n - 1).2 (aqe w (aA rest));rw [gZ,Y] at this;exact this
   have AB:vk rest=a :: vk b:=by rw [AA,aot,ahR Aq];rfl
   obtain⟨fn,tmps,assign,body,hy,Aa⟩:=gp pre a wr Af;have M:(aA rest).size=a.length+1+b.length:=by rw [iP,AA];simp;omega
   have BO:(aA rest).size<=1100000:=by rw [iP];omega
   have BP:b.length<=s.length:=by rw [iP] at M;omega
   have Ak:(aA rest).extract 0 a.length=aA a:=aoq (by rw [Oj,gZ,AA];simp);have Al:(aA rest).extract (a.length+1) (aA rest).size=aA b:=aoq (by rw [M,Oj,gZ,AA];simp);obtain⟨k,hk⟩:=ai a.length;rw [<- hk] at j6 Ak Al M;obtain⟨R,I⟩:=ai (aA rest);rw [<- I] at cs j6 Ak Al M BO AZ;obtain⟨Fr,Av⟩:=ai (aA a);rw [<- Av] at hy Ak;obtain⟨AU,Ad⟩:=ai (aA b);rw [<- Ad] at Al;have Az:AU.size=b.length:=by rw [Ad,iP]
   obtain⟨AP,AQ,BR,BS,BB,BC,BD⟩:=hq7 AX AB Ad I aI hs aB;have Bg:(k:Int)<=R.size:=om;have Bh:(k:Int)+1<=R.size:=om;obtain⟨BU,BX,BZ⟩:=hq3 M AZ Az;clear Y Aq I aI hs aB AX AB Av Ad AA hk M AZ Az
   gi_wp2_with (gi_at_call 163; refine (j6 _).mono ?_;rintro e w' ⟨rfl,rfl⟩)
   refine Aa.mono ?_;clear Aa hy;rintro e Ag (⟨rfl,Ac,Ae⟩ | ⟨rfl,Ah⟩)
   ·have Am:=(Ae WN (.inl rfl)).trans BB.o;have AV:=(Ae jq (.inr (.inl rfl))).trans BC.o;have BF:=(Ae WO (.inr (.inr rfl))).trans BD.o;rw [<- BS.o] at AV;have Bi:=Hg Am;have Bj:=Hg AV;have Bq:=Um AV;have Bb:=MK _ _ (.string AU) Ac;have BG:=(Jf (w:=Ag) (.string AU) bJ).trans Am;have BH:=ZC (u:=.string AU) AV;have BK:=(Jf (w:=Ag) (.string AU) aBA).trans BF;obtain⟨Bc,BL,Be⟩:=hq3 BG BH BK;clear Ae Am AV BF BG BH BK cs Ao BN fs BB BC BD Af Ac
    gi_wp2_with fail
    go_roundw;case rel =>
     refine⟨pre++[a],b,BP,?_,Bc.o,?_,Be.o,Bb⟩
     ·rw [AP.o,AQ.o];simp
     ·rw [<- BR.o];exact BL.o
    case measure =>
     rw [aqf BL.o,BZ.o,BX.o,BU.o];omega
   ·gi_wp2_with fail
    refine qB ?_;exact⟨⟨_,rfl⟩,.inr ⟨pre++[a],by rw [AP.o,AQ.o];exact⟨vk b,by simp⟩,Ah⟩⟩
end
section
open Go.RowKit
attribute [local go_sem] Oper.semAt_some
def aqk (H:Nat) (w:aRU) (pre:List (List UInt8)) (W:aRU):Prop :=
 W.heap[H]?=some (.cells #[.bool false] 4 (0,0))/\W.heap[H+1]?=some (.cells #[.int .i64 pre.length] 3 (0,0))/\Below H w W/\H+5+2<=W.heap.size/\pre.all DC=true/\pre.length<=16
def aBG (H:Nat) (w:aRU) (c:Code) (pre:List (List UInt8)) (W:aRU):Prop :=
 c = .ret/\W.heap[H]?=some (.cells #[.bool false] 4 (0,0))/\Below H w W/\(pre.all DC && decide (pre.length<=16))=false
theorem aBH {pre ps:List (List UInt8)} (h:pre <+: ps) (ah:(pre.all DC && decide (pre.length<=16))=false):(ps.all DC && decide (ps.length<=16))=false:=by
 obtain⟨t,rfl⟩:=h;rw [List.all_append,List.length_append];simp only [Bool.and_eq_false_iff,decide_eq_false_iff_not] at ah |-;rcases ah with h | h
 ·exact .inl (.inl h)
 ·exact .inr om
theorem aiJ {H:Nat} {W w1:aRU} {pre:List (List UInt8)} (i:aqk H w pre W) (hH:H<=w.heap.size) (ae:Below (W.setCell ⟨H+1,0,none⟩ v).heap.size (W.setCell ⟨H+1,0,none⟩ v) w1) :
  w1.heap[H]?=some (.cells #[.bool false] 4 (0,0))/\w1.heap[H+1]?=some (.cells #[v] 3 (0,0))/\Below H w w1/\H+5+2<=w1.heap.size/\∀ k,k≠H+1->k < H+5+2->w1.heap[k]?=W.heap[k]?:=by
 obtain⟨i0,i1,I,M,_,_⟩:=i;rw [World.size_setCell] at ae;have J:=ae.size;rw [World.size_setCell] at J;refine⟨(ae.block _ om).trans ((Jf v om).trans i0),(ae.block _ om).trans (ZC i1),?_,om,fun k hk Y=>(ae.block _ om).trans (Jf v hk)⟩;exact (I.setCell (p:=ad (H+1) 0) (by show H<=H+1;omega) v).trans (ae.mono om)
theorem adR (w:aRU) (s:ByteArray) (hs:s.size<=1100000):CB 43 #[.string s] w (.bool (eB s.data.toList)):=by
 refine (aQZ (n:=5)).1 ?_;refine aRy func43 rfl trivial ?_ rfl;simp only [ntmps43,List.size_toArray,List.length_cons,List.length_nil,Nat.reduceAdd,Nat.reduceSub,Array.replicate_succ,Array.replicate_zero,List.push_toArray,List.append_toArray,List.nil_append,List.cons_append];have hf:=MJ 66
 gi_wp2_with (gi_at_call 66; refine (aQZ.2 (aBx _ _)).mono ?_;rintro e w' ⟨rfl,rfl⟩)
 obtain⟨H,hH⟩:=ai w.heap.size;obtain⟨dN,AA⟩:=ai (OD ((w.alloc (.cells #[.bool false] 4)).alloc (.cells #[.int .i64 0] 3)) s);have z0:dN.heap.size=H+5:=by rw [AA,hH];simp [OD]
 have BU:Below H w dN:=by rw [AA,hH,OD];exact (((iD.alloc sp _).alloc (by simp <;> omega) _).alloc (by simp <;> omega) _).alloc (by simp <;> omega) _
 have Af:dN.heap[H]?=some (.cells #[.bool false] 4 (0,0)):=by rw [AA,hH,OD,Below.heap_alloc _ _ _ (by simp <;> omega),Below.heap_alloc _ _ _ (by simp <;> omega),Below.heap_alloc _ _ _ (by simp <;> omega),Below.heap_alloc _ _ _ sp];exact aQS w _
 have Ag:dN.heap[H+1]?=some (.cells #[.int .i64 0] 3 (0,0)):=by rw [AA,hH,OD,Below.heap_alloc _ _ _ (by simp <;> omega),Below.heap_alloc _ _ _ (by simp <;> omega),Below.heap_alloc _ _ _ sp];have:=aQS (w.alloc (.cells #[.bool false] 4)) (.cells #[.int .i64 0] 3);rwa [World.size_alloc] at this
 have Ah:dN.heap[H+1+1]?=some (.cells #[.string s] 9 (0,0)):=by rw [AA,hH,OD,Below.heap_alloc _ _ _ (by simp <;> omega),Below.heap_alloc _ _ _ sp];have:=aQS ((w.alloc (.cells #[.bool false] 4)).alloc (.cells #[.int .i64 0] 3)) (.cells #[.string s] 9);rwa [World.size_alloc,World.size_alloc] at this
 have Ak:dN.heap[H+1+1+1]?=some (.cells #[.string ⟨#[47]⟩] 9 (0,0)):=by rw [AA,hH,OD,Below.heap_alloc _ _ _ sp];have:=aQS (((w.alloc (.cells #[.bool false] 4)).alloc (.cells #[.int .i64 0] 3)).alloc (.cells #[.string s] 9)) (.cells #[.string ⟨#[47]⟩] 9);rwa [World.size_alloc,World.size_alloc,World.size_alloc] at this
 have Al:dN.heap[H+1+1+1+1]?=some (.cells #[.int .i64 0] 3 (0,0)):=by rw [AA,hH,OD];have:=aQS ((((w.alloc (.cells #[.bool false] 4)).alloc (.cells #[.int .i64 0] 3)).alloc (.cells #[.string s] 9)).alloc (.cells #[.string ⟨#[47]⟩] 9)) (.cells #[.int .i64 0] 3);rwa [World.size_alloc,World.size_alloc,World.size_alloc,World.size_alloc] at this
 rw [<- AA,<- hH];have AB:=aa hH;clear AA hH;refine aBp rfl om (gf:=161) (lb:=#[pp (H+1+1+1) 0,pp (H+1+1) 0,pp (H+1+1+1+1) 0]) rfl trivial (enters_of func161 kr rfl)
  (fun x:List UInt8=>Value.string (aA x)) rfl (fun aH aY=>∃ v,aY=aH.setCell ⟨H+1+1,0,none⟩ v) (fun W W'=>∀ k,k=H+1+1+1\/k=H+1+1\/k=H+1+1+1+1->W'.heap[k]?=W.heap[k]?)
  (fun xs=>xs=vk s.data.toList) (fun pre=>pre <+: vk s.data.toList) ?call ?gL (fun A B C h1 Aq k hk=>(Aq k hk).trans (h1 k hk)) (fun W k o hk j aC=>aRf om)
  (aqk H w) (aBG H w) ?BX ?ip ?BZ ?Bb
  (fun x=>{ tmps:=#[.string s,undef,pp H 0,pp (H+1) 0,.string (aA x),.string s,.func (.func 161) #[] #[pp (H+1+1+1) 0,pp (H+1+1) 0,pp (H+1+1+1+1) 0],.string (aA x),undef,undef,undef,undef,undef,undef,undef,undef,undef],defers:=[] }) ?assign ?body ?done ?stop;case call =>
  intro l bu Bc W Av Be Bf Bg;refine (aBz 4 l (H+1+1+1) (H+1+1) (H+1+1+1+1) om s.data.toList (by rw [wL];exact hs) om om bu Bc (fun pre W v h=>Be _ _ _ h ⟨v,rfl⟩) Bf W ((Av.block _ om).trans Ak) ?_ ((Av.block _ om).trans Al) Bg).mono ?_
  ·rw [Y3];exact (Av.block _ om).trans Ah
  ·rintro e aY ⟨BP,Bh | ⟨pre,aI,ah⟩⟩
   ·exact⟨BP,.inl ⟨_,rfl,Bh⟩⟩
   ·exact⟨BP,.inr ⟨pre,aI,ah⟩⟩
 case gL =>
  rintro aH aY k ⟨v,rfl⟩ hk;exact Jf v om
 case BX =>
  rintro pre aH aY ⟨i0,i1,I,Aa,AP,AQ⟩ ⟨v,rfl⟩;exact⟨(Jf v om).trans i0,(Jf v om).trans i1,I.setCell (p:=ad (H+1+1) 0) (by show H<=H+1+1;omega) v,by rw [World.size_setCell];exact Aa,AP,AQ⟩
 case ip =>
  rintro pre W k o ⟨i0,i1,I,Aa,AP,AQ⟩ h1 Aq;exact⟨(aRf om).trans i0,(aRf om).trans i1,I.grown (aRa W k o) (by have:=I.size;have:=AB.o;omega) (fun j e=>by cases e;omega),by rw [World.putObj_size];exact Aa,AP,AQ⟩
 case BZ =>
  rintro c pre W k o ⟨i0,i1,I,Am⟩ h1 Aq;exact⟨i0,(aRf om).trans i1,I.grown (aRa W k o) (by have:=I.size;have:=AB.o;omega) (fun j e=>by cases e;omega),Am⟩
 case Bb =>
  intro CF CG;exact⟨by rw [Below.heap_alloc _ _ _ (by simp <;> omega),Below.heap_alloc _ _ _ om];exact Af,by rw [Below.heap_alloc _ _ _ (by simp <;> omega),Below.heap_alloc _ _ _ om];exact Ag,(BU.alloc om _).alloc (by simp <;> omega) _,by simp;omega,rfl,by simp⟩
 case assign =>
  intro l x W K AX
  gi_wp2
  exact AX
 case body =>
  intro l pre x W BR;have Az:=aa BR;obtain⟨i0,i1,I,Aa,AP,AQ⟩:=BR;have BB:=Hg i0;have f0:=Um i0;have c1:=Hg i1;have f1:=Um i1;have hlen:(pre.length:Int)<=16:=om;have CJ:=MJ 67;obtain⟨BC,BD,Ao,M⟩:=hq4 AP AQ i0 z0;clear AP AQ i0 i1 Af Ag Ah Ak Al hs z0;by_cases Ap:pre.length=16
  ·have Bi:(16:Int) < (pre.length:Int)+1:=om;have BF:=aa Ap;clear Ap;have Ac:=aiJ (v:=.int .i64 ((pre.length:Int)+1)) Az.o (by rw [AB.o];exact aQF _) (Below.refl _ _);obtain⟨Y,AZ,Ad,BG,AV⟩:=Ac;have Bj:=Hg Y;have Bn:=Um Y;have Ae:=aa Y;have AU:=aa AV;clear Y AZ AV BB f0
   gi_wp2_with fail
   refine⟨⟨?_,?_⟩,rfl,ZC Ae.o,Ad.setCell (p:=ad H 0) (aQF _) _,?_⟩
   ·rw [M.o];exact (Jf _ om).trans (AU.o _ om om)
   ·rw [M.o];exact (Jf _ om).trans (AU.o _ om om)
   ·rw [List.length_append,BF.o];simp
  ·have Bi:(pre.length:Int)+1<=16:=om;have BF:=aa Ap;clear Ap BB f0;by_cases ah:DC x=true
   ·have BH:∀ w,CB 67 #[.string (aA x)] w (.bool true):=fun w=>by
     have:=ap8 w (aA x);rw [gZ,ah] at this;exact this
    have BK:=aa ah;clear ah
    gi_wp2_with (gi_at_call 67; refine (CallsIn.inRound l (aQZ.2 (BH _))).mono ?_;rintro e w1 ⟨rfl,ae⟩;have Ac:=aiJ Az.o (by rw [AB.o];exact aQF _) ae;obtain⟨Y,AZ,Ad,BG,AV⟩:=Ac;obtain⟨Ae,Bp,AU⟩:=hq3 Y AZ AV;clear Y AZ AV ae)
    refine⟨⟨?_,?_⟩,fun k hk=>AU.o k om om,Ae.o,?_,Ad,BG,?_,?_⟩
    ·rw [M.o];exact AU.o _ om om
    ·rw [M.o];exact AU.o _ om om
    ·rw [Bp.o,List.length_append];simp
    ·rw [List.all_append,BC.o];simp [BK.o]
    ·have:=BD.o;have:=BF.o;rw [List.length_append,List.length_singleton];omega
   ·have BL:DC x=false:=by simpa using ah
    have BH:∀ w,CB 67 #[.string (aA x)] w (.bool false):=fun w=>by
     have:=ap8 w (aA x);rw [gZ,BL] at this;exact this
    have BK:=aa BL;clear ah BL
    gi_wp2_with (gi_at_call 67; refine (CallsIn.inRound l (aQZ.2 (BH _))).mono ?_;rintro e w1 ⟨rfl,ae⟩;have Ac:=aiJ Az.o (by rw [AB.o];exact aQF _) ae;obtain⟨Y,AZ,Ad,BG,AV⟩:=Ac;have Bj:=Hg Y;have Bn:=Um Y;have Ae:=aa Y;have AU:=aa AV;clear Y AZ AV ae)
    refine⟨⟨?_,?_⟩,rfl,ZC Ae.o,Ad.setCell (p:=ad H 0) (aQF _) _,?_⟩
    ·rw [M.o];exact (Jf _ om).trans (AU.o _ om om)
    ·rw [M.o];exact (Jf _ om).trans (AU.o _ om om)
    ·rw [List.all_append];simp [BK.o]
 case done =>
  rintro xs W rfl ⟨i0,i1,I,Aa,AP,AQ⟩ AX;have BB:=Hg i0;have f0:=Um i0;obtain⟨Ao,M,BN,BC,BD⟩:=hq5 i0 z0 AX AP AQ;clear i0 i1 AP AQ AX Af Ag Ah Ak Al z0
  gi_wp2_with fail
  have Bq:(W.setCell ⟨H,0,none⟩ (.bool true)).heap[dN.heap.size]?=some (.deferred (some [])):=(Jf _ (by rw [M.o];omega)).trans BN.o;have Br:(W.setCell ⟨H,0,none⟩ (.bool true)).heap[H]?=some (.cells #[.bool true] 4 (0,0)):=ZC Ao.o;have BS:Below H w (W.setCell ⟨H,0,none⟩ (.bool true)):=I.setCell (p:=ad H 0) (aQF _) _;refine⟨by simp,.inl ⟨_,_,rfl,aRp Bq,?_⟩⟩;have BO:=Hg ((aRf (o:=.deferred none) (show H≠dN.heap.size by rw [M.o];omega)).trans Br);refine⟨.bool true,?_,?_,?_⟩
  ·simp [results,Tryz.f43,go_sem,BO]
  ·rw [eB,BC.o];simp [BD.o]
  ·rw [<- AB.o];exact BS.grown (aRa _ _ _) (by have:=BS.size;have:=AB.o;omega) (fun j e=>by cases e;rw [M.o];omega)
 case stop =>
  rintro c pre W Bt ⟨rfl,i0,I,Am⟩ AX;obtain⟨Ao,M,BN,C8⟩:=hq4 i0 z0 AX Am;clear i0 Am AX Af Ag Ah Ak Al z0
  gi_wp2_with fail
  refine⟨by simp,.inl ⟨_,_,rfl,aRp BN.o,?_⟩⟩;have BO:=Hg ((aRf (o:=.deferred none) (show H≠dN.heap.size by rw [M.o];omega)).trans Ao.o);refine⟨.bool false,?_,?_,?_⟩
  ·simp [results,Tryz.f43,go_sem,BO]
  ·rw [eB,aBH Bt C8.o]
  ·rw [<- AB.o];exact I.grown (aRa _ _ _) (by have:=I.size;have:=AB.o;omega) (fun j e=>by cases e;rw [M.o];omega)
end
section
open Go.RowKit
theorem aBQ (w:aRU) (c:UInt8):CB 206 #[.int .u8 c.toNat] w (.bool (adr c)):=by
 obtain⟨T,J⟩:=ai (aA [c]);have AV:T.size=1:=by rw [J,iP];rfl
 obtain⟨U,Y⟩:=ai ((⟨#[97]⟩:ByteArray)++T);have AA:U.data.toList=[97,c]:=by rw [Y,adq,J,gZ];rfl
 have AX:U.size=2:=by rw [<- wL,AA];rfl
 obtain⟨V,AB⟩:=ai (U++(⟨#[97]⟩:ByteArray));have AP:V.data.toList=[97,c,97]:=by rw [AB,adq,AA];rfl
 have Ad:V.size=3:=by rw [<- wL,AP];rfl
 have I:=fun w=>adR w V om;rw [AP] at I;have h1:¬ ((⟨#[97]⟩:ByteArray).size+T.size > 9223372036854775807):=by rw [AV];decide
 have Af:¬ (U.size+(⟨#[97]⟩:ByteArray).size > 9223372036854775807):=by rw [AX];decide
 have M:Rd (w.alloc (.cells #[.int .u8 c.toNat] 5)) 1 (some ⟨w.heap.size,0,none⟩) 1 (bQ [c]):=Rd.one w _ _;have Ag:=Y.symm;have Ah:=AB.symm;have AZ:=aa J;have AQ:=aa (show adr c=(eB [97,c,97] && !(c == 47)) from rfl);obtain⟨m,hm⟩:=ai (eB [97,c,97]);rw [<- hm] at I AQ;clear J AV Y AA AX AB AP Ad hm;have Aa:Bl w (w.alloc (.cells #[.int .u8 c.toNat] 5)):=(Below.refl _ w).alloc (aQF _) _;have Ac:=aa Aa;clear Aa;cases m with
 | false =>
  go_enter func206,ntmps206;go_wp2_with (first|((with_reducible refine adp 5 (some ⟨w.heap.size,0,none⟩) 1 1 [c] underlying48 underlying5 underlying9 rfl M ?_ ?_);exact rfl;rw [show (⟨[c].toArray⟩:ByteArray)=T from AZ.o.symm];clear M)|(go_at_call 43; refine (I _).mono ?_;rintro e af ⟨rfl,ae⟩;have AU:=aa ae;clear ae I));go_ret;exact⟨by rw [AQ.o];rfl,aU Ac.o AU.o⟩
 | true =>
  have Ae:=aa (show (((c.toNat:Int)) != 47) = !(c == 47) by
   rw [Bool.eq_iff_iff];simp only [bne_iff_ne,ne_eq,Bool.not_eq_true',beq_eq_false_iff_ne];rw [<- UInt8.toNat_inj,show (47:UInt8).toNat=47 from rfl];omega);go_enter func206,ntmps206;go_wp2_with (first|((with_reducible refine adp 5 (some ⟨w.heap.size,0,none⟩) 1 1 [c] underlying48 underlying5 underlying9 rfl M ?_ ?_);exact rfl;rw [show (⟨[c].toArray⟩:ByteArray)=T from AZ.o.symm];clear M)|(go_at_call 43; refine (I _).mono ?_;rintro e af ⟨rfl,ae⟩;have AU:=aa ae;clear ae I));go_ret;refine⟨?_,aU Ac.o AU.o⟩;rw [AQ.o,Bool.true_and,<- Ae.o];rfl
theorem aBR {p:aR0} (h:p.length<=l.length):p.isPrefixOf l=(l.take p.length == p):=by
 rw [Bool.eq_iff_iff,List.isPrefixOf_iff_prefix,beq_iff_eq];constructor
 ·rintro⟨t,rfl⟩;simp
 ·intro e;rw [<- e];exact List.take_prefix _ _
theorem aBS {p:aR0} (h:¬ p.length<=l.length):p.isPrefixOf l=false:=by rw [<- Bool.not_eq_true,List.isPrefixOf_iff_prefix];exact fun e=>h e.length_le
theorem aBT (w:aRU) (s p:ByteArray) (hs:s.size<=1100000) (aI:p.size<=1100001):Calls prog 202 #[.string s,.string p] w fun e w'=>e = .returned (.bool (p.data.toList.isPrefixOf s.data.toList))/\w'=w:=by
 by_cases h:p.size<=s.size
 ·have h1:(p.size:Int)<=s.size:=om;have e:p.data.toList.isPrefixOf s.data.toList=((s.extract 0 p.size).toList == p.toList):=by rw [aBR (by rw [wL,wL];exact h),ByteArray.toList_eq,ByteArray.toList_eq,Oj,wL,List.drop_zero,Nat.sub_zero]
  rw [e];obtain⟨X,I⟩:=ai (s.extract 0 p.size);rw [<- I];have J:=I.symm;clear e I;go_enter func202,ntmps202;go_wp2_with fail;go_ret;exact⟨by simp,rfl⟩
 ·rw [aBS (by rw [wL,wL];exact h)];have h1:¬ (p.size:Int)<=s.size:=om;go_enter func202,ntmps202;go_wp2_with fail;go_ret;exact⟨rfl,rfl⟩
theorem aqn (w:aRU) (s p:ByteArray) (v:Bool) (hs:s.size<=1100000) (aI:p.size<=1100001) (bg:p.data.toList.isPrefixOf s.data.toList=v):Calls prog 155 #[.string s,.string p] w fun e w'=>e = .returned (.bool v)/\w'=w:=by have hc:=fun w=>aBT w s p hs aI;rw [bg] at hc;clear bg;go_enter func155,ntmps155;go_wp2_with (go_at_call 202; refine (hc _).mono ?_;rintro e af ⟨rfl,rfl⟩);go_ret;exact⟨rfl,rfl⟩
theorem aBU (w:aRU) (s:fC) (hs:s.length<=1100000):CB 159 #[.string (aA s)] w (.bool (EE s)):=by
 obtain⟨S,AZ,n,Af⟩:=nq2 (aA s) s.length;have Bf:S.size=n:=by rw [AZ,iP,Af]
 have Aa:S.toList=s:=by rw [ByteArray.toList_eq,AZ,gZ]
 obtain⟨R,Am⟩:=ai (EE s);rw [<- Am,<- AZ];rw [<- Af] at hs;obtain⟨AU,BD,Y⟩:=hq3 Am AZ Af;clear Am AZ Af;by_cases AV:s=[42,42]
 ·have BP:S.toList=[42,42]:=by rw [Aa,AV]
  have BR:=aa (show R=true by rw [AU.o,ay5 AV]);clear AV Aa;go_enter func159,ntmps159;go_wp2_with fail;go_ret;exact⟨by rw [BR.o];rfl,Below.refl _ _⟩
 ·have BP:(S.toList == [42,42])=false:=by rw [Aa];simpa using AV
  have Ac:=aa AV;have BF:=aa Aa;clear AV Aa;go_enter func159,ntmps159;go_wp2_with fail;go_loopg [3,8] n (fun gk Bg BS wr=>∃ q:Nat,q+gk=n/\BS = .int .i64 q/\QN s q=false/\Bl w wr);case atStart=>exact⟨0,om,rfl,rfl,Below.refl _ _⟩
  case round =>
   obtain⟨q,Bh,rfl,BG,BH⟩:=hrel;have Ag:=aa BG;have J:=aa BH;clear BG BH;by_cases Ad:q < n
   ·have BU:(q:Int) < n:=om;have Bi:(0:Int)<=q:=om;have Ah:q < S.size:=om;obtain⟨c,hc⟩:=ai (S[q]'Ah);have hcs:c=s.getD q 0:=by
     have e:s=S.data.toList:=by rw [BD.o,gZ]
     have BX:q < S.data.toList.length:=by rw [wL];exact Ah
     rw [hc,e,List.getD_eq_getElem?_getD,List.getElem?_eq_getElem BX];exact (Array.getElem_toList _).symm
    obtain⟨U,Ao⟩:=ai (S.extract q n);have Ap:U.data.toList=s.drop q:=by rw [Ao,Oj,BD.o,gZ];exact aRB (by rw [List.length_drop,Y.o];omega)
    have Bj:U.size<=1100000:=by rw [<- wL,Ap,List.length_drop,<- Y.o];omega
    obtain⟨v,Aq⟩:=ai (([42,42]:aR0).isPrefixOf (s.drop q));have AA:=fun w=>aqn w U ⟨#[42,42]⟩ v om dc (by rw [Ap,Aq]);have M:=fun w=>aBQ w c;obtain⟨pl,Av⟩:=ai (adr c);rw [<- Av] at M;rw [hc] at M;have BZ:(((S[q]'Ah).toNat:Int) != 63) = !(c == 63):=by rw [<- hc,Bool.eq_iff_iff];simp only [bne_iff_ne,ne_eq,Bool.not_eq_true',beq_eq_false_iff_ne];rw [<- UInt8.toNat_inj,show (63:UInt8).toNat=63 from rfl];omega
    have Bb:(((S[q]'Ah).toNat:Int) != 42) = !(c == 42):=by rw [<- hc,Bool.eq_iff_iff];simp only [bne_iff_ne,ne_eq,Bool.not_eq_true',beq_eq_false_iff_ne];rw [<- UInt8.toNat_inj,show (42:UInt8).toNat=42 from rfl];omega
    obtain⟨fo,AB,Ae,AP⟩:=nq2 (c == 63) (c == 42);rw [<- AB] at BZ;rw [<- AP] at Bb;obtain⟨Ak,AX,Al,BK,BL⟩:=hq5 hcs Aq Av AB AP;have Az:=aa (ay3 s q);have Bn:=Ao.symm;clear hc Aq Av Ao Ap hcs AB AP;cases pl with
    | true =>
     cases v with
     | true =>
      go_wp2_with (first|(go_at_call 206; refine jr (M _) ?_;intro af I)|(go_at_call 155; refine (AA _).mono ?_;rintro e aD ⟨rfl,rfl⟩));go_ret;refine⟨?_,aU J.o I.o⟩;rw [AU.o,ads Ac.o (by rw [<- Y.o];exact Ad) (by rw [KF,<- AX.o];simp)];rfl
     | false =>
      go_wp2_with (first|(go_at_call 206; refine jr (M _) ?_;intro af I)|(go_at_call 155; refine (AA _).mono ?_;rintro e aD ⟨rfl,rfl⟩));go_roundg (gk - 1);case rel =>
       refine⟨q+1,om,by go_num,?_,aU J.o I.o⟩;rw [Az.o,Ag.o,KF,<- AX.o,<- Ak.o,<- Al.o];simp
      case measure=>omega
    | false =>
     cases fo with
     | true =>
      cases v with
      | true =>
       go_wp2_with (first|(go_at_call 206; refine jr (M _) ?_;intro af I)|(go_at_call 155; refine (AA _).mono ?_;rintro e aD ⟨rfl,rfl⟩));go_ret;refine⟨?_,aU J.o I.o⟩;rw [AU.o,ads Ac.o (by rw [<- Y.o];exact Ad) (by rw [KF,<- AX.o];simp)];rfl
      | false =>
       go_wp2_with (first|(go_at_call 206; refine jr (M _) ?_;intro af I)|(go_at_call 155; refine (AA _).mono ?_;rintro e aD ⟨rfl,rfl⟩));go_roundg (gk - 1);case rel =>
        refine⟨q+1,om,by go_num,?_,aU J.o I.o⟩;rw [Az.o,Ag.o,KF,<- AX.o,<- Ak.o,<- Al.o];simp [<- BK.o]
       case measure=>omega
     | false =>
      cases Ae with
      | true =>
       cases v with
       | true =>
        go_wp2_with (first|(go_at_call 206; refine jr (M _) ?_;intro af I)|(go_at_call 155; refine (AA _).mono ?_;rintro e aD ⟨rfl,rfl⟩));go_ret;refine⟨?_,aU J.o I.o⟩;rw [AU.o,ads Ac.o (by rw [<- Y.o];exact Ad) (by rw [KF,<- AX.o];simp)];rfl
       | false =>
        go_wp2_with (first|(go_at_call 206; refine jr (M _) ?_;intro af I)|(go_at_call 155; refine (AA _).mono ?_;rintro e aD ⟨rfl,rfl⟩));go_roundg (gk - 1);case rel =>
         refine⟨q+1,om,by go_num,?_,aU J.o I.o⟩;rw [Az.o,Ag.o,KF,<- AX.o,<- Ak.o,<- Al.o];simp [<- BL.o]
        case measure=>omega
      | false =>
       go_wp2_with (first|(go_at_call 206; refine jr (M _) ?_;intro af I)|(go_at_call 155; refine (AA _).mono ?_;rintro e aD ⟨rfl,rfl⟩));go_ret;refine⟨?_,aU J.o I.o⟩;rw [AU.o,ads Ac.o (by rw [<- Y.o];exact Ad) (by rw [KF,<- Ak.o,<- Al.o,<- BK.o,<- BL.o];rfl)];rfl
   ·have BN:q=n:=om;have BU:¬ (q:Int) < n:=om;have BB:=aa (show R=Y9 s by rw [AU.o,ay6 Ac.o (by rw [<- Y.o,<- BN];exact Ag.o)]);clear Ad BN;have BC:=aa (show Y9 s=(decide (1<=n) && decide (n<=64) && !(s == [46]) && !(s == [46,46])) by rw [Y.o];rfl);by_cases h1:1<=n
    ·have Bc:(1:Int)<=n:=om;by_cases BO:n<=64
     ·have Be:(n:Int)<=64:=om;obtain⟨fo,AB,Ae,AP⟩:=nq2 (s == [46]) (s == [46,46]);have Bp:(S.toList == [46])=fo:=by rw [BF.o,AB]
      have Bq:(S.toList == [46,46])=Ae:=by rw [BF.o,AP]
      have AQ:=aa (show R=(!fo && !Ae) by rw [BB.o,BC.o,AB,AP];simp [h1,BO]);clear AB AP;cases fo with
      | true =>
       go_wp2_with fail;go_ret;exact⟨by rw [AQ.o];rfl,J.o⟩
      | false =>
       cases Ae with
       | true =>
        go_wp2_with fail;go_ret;exact⟨by rw [AQ.o];rfl,J.o⟩
       | false =>
        go_wp2_with fail;go_ret;exact⟨by rw [AQ.o];rfl,J.o⟩
     ·have Be:¬ (n:Int)<=64:=om;have AQ:=aa (show R=false by rw [BB.o,BC.o];simp [BO]);go_wp2_with fail;go_ret;exact⟨by rw [AQ.o];rfl,J.o⟩
    ·have Bc:¬ (1:Int)<=n:=om;have AQ:=aa (show R=false by rw [BB.o,BC.o];simp [h1]);go_wp2_with fail;go_ret;exact⟨by rw [AQ.o];rfl,J.o⟩
end
section
open Go.RowKit Go.Shelf
theorem aBY (c:UInt8) (x r:ak) (h:c ∉ x):Lib.index (x++c :: r) [c]=x.length:=by
 rw [Lib.index_one];have hc:(x++c :: r)[x.length]?=some c:=by simp
 rcases Int.lt_or_le (Lib.indexByte (x++c :: r) c) 0 with I | I
 ·have h1:Lib.indexByte (x++c :: r) c = -1:=by have:=Lib.indexByte_ge (x++c :: r) c;omega
  exact absurd hc (Lib.indexByte_none h1 _)
 ·obtain⟨k,hk⟩:∃ k:Nat,Lib.indexByte (x++c :: r) c=k:=⟨_,(Int.toNat_of_nonneg I).symm⟩;obtain⟨h1,J⟩:=Lib.indexByte_some hk;rw [hk];rcases Nat.lt_trichotomy k x.length with M | heq | Y
  ·rw [List.getElem?_append_left M] at h1;exact absurd (aQK h1) h
  ·rw [heq]
  ·exact absurd hc (J _ Y)
theorem aBZ (c:UInt8) (x:ak) (h:c ∉ x):Lib.index x [c] = -1:=by
 rw [Lib.index_one];rcases Int.lt_or_le (Lib.indexByte x c) 0 with I | I
 ·have:=Lib.indexByte_ge x c;omega
 ·obtain⟨k,hk⟩:∃ k:Nat,Lib.indexByte x c=k:=⟨_,(Int.toNat_of_nonneg I).symm⟩;exact absurd (aQK (Lib.indexByte_some hk).1) h
theorem aqo (l m:ak):Lib.indexB (aA l) (aA m)=Lib.index l m:=by show Lib.index (aA l).data.toList (aA m).data.toList=_;rw [gZ,gZ]
theorem aB0 (l r:ak) (c:UInt8):(aA (l++c :: r)).extract (l.length+(aA [c]).size) (aA (l++c :: r)).size=aA r:=by refine Y2 ?_;rw [Oj,gZ,gZ,iP,iP];simp;exact aRB om
theorem aB1 (l r:ak):(aA (l++r)).extract 0 (l.length+0)=aA l:=by refine Y2 ?_;rw [Oj,gZ,gZ];simp
theorem adU (c:UInt8) (x y:ak) (r:List ak):Lib.join (x :: y :: r) [c]=x++c :: Lib.join (y :: r) [c]:=by rw [Lib.join_cons,Lib.join_cons,Lib.joinTail];simp [Lib.joinTail]
theorem aiP (c:UInt8):∀ (xs:List ak),xs≠[]->(∀ x∈xs,c ∉ x)->Lib.countB (aA (Lib.join xs [c])) (aA [c])=xs.length - 1/\Lib.splitB (aA [c]) 0 (xs.length - 1) (aA (Lib.join xs [c]))=xs.map aA
 | [],h,_=>absurd rfl h
 | [x],_,h=>by
  have I:Lib.indexB (aA (Lib.join [x] [c])) (aA [c]) = -1:=by rw [Lib.join_one,aqo];exact aBZ c x (h x sp)
  refine⟨Lib.countB_miss _ _ I,?_⟩;rw [Lib.splitB_miss _ _ _ _ I,Lib.join_one];rfl
 | x :: y :: r,_,h=>by
  have M:=aiP c (y :: r) sp (fun z Y=>h z (by simp only [List.mem_cons] at Y |-;exact .inr Y));have I:Lib.indexB (aA (Lib.join (x :: y :: r) [c])) (aA [c])=(x.length:Nat):=by rw [adU,aqo];exact aBY c x _ (h x sp)
  have J:=aB0 x (Lib.join (y :: r) [c]) c;have AA:=aB1 x (c :: Lib.join (y :: r) [c]);rw [<- adU] at J AA;constructor
  ·rw [Lib.countB_hit _ _ _ (by rw [iP];simp) I,J,M.1];simp;omega
  ·rw [show (x :: y :: r).length - 1=((y :: r).length - 1)+1 by simp,Lib.splitB_hit _ _ _ _ _ I,J,AA,M.2];rfl
theorem aiQ (c:UInt8):∀ s:ak,Lib.join (jl (· == c) s) [c]=s
 | []=>rfl
 | d :: s=>by
  obtain⟨x,r,h1,J⟩:=Wu (· == c) d s;have I:=aiQ c s;rw [h1] at I;rw [J];split
  ·rename_i M;have Y:d=c:=by simpa using M
   rw [adU,List.nil_append,I,Y]
  ·cases r with
   | nil =>
    rw [Lib.join_one] at I |-;rw [I]
   | cons y r =>
    rw [adU] at I |-;rw [List.cons_append,I]
theorem aqp (c:UInt8) (s:ak):∀ x∈jl (· == c) s,c ∉ x:=fun x ah hc=>by
 have:=Y6 ah c hc;simp at this
end
section
open Go.Lib
def CO (x:Nat):Bool:=x == 32 || x == 9
theorem aiR (s:ByteArray) {i:Nat} (h:i < s.size):s.data.toList[i]?=some (s.get! i):=by obtain⟨bs⟩:=s;have I:i < bs.size:=h;show bs.toList[i]?=some bs[i]!;rw [Array.getElem?_toList,Array.getElem?_eq_getElem I,getElem!_pos bs i I]
theorem aiS (c:UInt8):qC c=CO c.toNat:=by
 unfold qC CO;rw [Bool.eq_iff_iff];simp only [Bool.or_eq_true,beq_iff_eq];constructor
 ·rintro (rfl | rfl)
  ·exact .inl rfl
  ·exact .inr rfl
 ·rintro (h | h)
  ·exact .inl (aRP.1 h)
  ·exact .inr (aRP.1 h)
theorem ZK {x:Nat} (h:128<=x):CO x=false:=by unfold CO;rw [Bool.or_eq_false_iff];exact⟨by simp;omega,by simp;omega⟩
theorem aB3 (s:ByteArray) (pos:Nat) (h:pos < s.size):1<=(Utf8.decode s pos).2/\pos+(Utf8.decode s pos).2<=s.size /\
  (CO (Utf8.decode s pos).1=true->(Utf8.decode s pos).2=1/\qC (s.get! pos)=true)/\(CO (Utf8.decode s pos).1=false->∀ i,i < (Utf8.decode s pos).2->qC (s.get! (pos+i))=false):=by
 rw [decode_at];have AV:∀ Y:Nat,Y < 128->∀ n fo AB AP,decodeN n Y fo AB AP=(Y,1):=fun Y ae n fo AB AP=>by simp [decodeN,ae]
 have M:∀ i,128<=(s.get! i).toNat->qC (s.get! i)=false:=fun i J=>by rw [aiS];exact ZK J
 rcases decodeN_shape (s.size - pos) (s.get! pos).toNat (s.get! (pos+1)).toNat (s.get! (pos+2)).toNat (s.get! (pos+3)).toNat with ⟨h1,e⟩ | ⟨h1,AQ,AU,AA,e⟩ | ⟨h1,AQ,AU,AA,AX,AZ,e⟩ | ⟨h1,AQ,AU,AA,AX,AZ,Aa,e⟩ | e
 ·rw [e];refine⟨aQF _,by simp only;omega,fun I=>⟨rfl,by rw [aiS];exact I⟩,fun I i J=>?_⟩;obtain rfl:i=0:=by simp only at J;omega
  rw [aiS];exact I
 ·rw [e];refine⟨by simp,by simp only;omega,fun I=>?_,fun _ i J=>?_⟩
  ·simp only at I;rw [ZK AA] at I;cases I
  ·simp only at J;match i,J with
   | 0,_=>exact M _ (by simp only [Nat.add_zero];omega)
   | 1,_=>exact M _ om
 ·rw [e];refine⟨by simp,by simp only;omega,fun I=>?_,fun _ i J=>?_⟩
  ·simp only at I;rw [ZK om] at I;cases I
  ·simp only at J;match i,J with
   | 0,_=>exact M _ (by simp only [Nat.add_zero];omega)
   | 1,_=>exact M _ om
   | 2,_=>exact M _ om
 ·rw [e];refine⟨by simp,by simp only;omega,fun I=>?_,fun _ i J=>?_⟩
  ·simp only at I;rw [ZK om] at I;cases I
  ·simp only at J;match i,J with
   | 0,_=>exact M _ (by simp only [Nat.add_zero];omega)
   | 1,_=>exact M _ om
   | 2,_=>exact M _ om
   | 3,_=>exact M _ om
 ·rw [e];refine⟨by simp,by simp only;omega,fun I=>?_,fun _ i J=>?_⟩
  ·simp only at I;rw [ZK om] at I;cases I
  ·obtain rfl:i=0:=by simp only at J;omega
   refine M _ ?_;rcases aQW (s.get! pos).toNat 128 with ae | ae
   ·rw [AV _ ae] at e;have:=congrArg (·.1) e;simp only at this;omega
   ·simpa using ae
def adV (s:ByteArray) (x:Nat × Nat):ak:=(s.extract x.1 x.2).data.toList
theorem aqr (s:ByteArray) (a b:Nat):adV s (a,b)=(s.data.toList.drop a).take (b - a):=by unfold adV;rw [ByteArray.data_extract,Array.toList_extract]
theorem ZL (s:ByteArray):∀ (f pos:Nat) (st:Option Nat) (acc:List (Nat × Nat)),s.size - pos<=f->pos<=s.size->(∀ a,st=some a->a < pos/\∀ i,a<=i->i < pos->qC (s.get! i)=false) ->
  (closeSpans s (spansFromP CO s f pos st acc)).map (adV s)=acc.map (adV s)++(match st with | none=>nS (s.data.toList.drop pos) | some a=>nS (s.data.toList.drop a))
 | f,pos,st,acc,hf,aI,M=>by
  have hlen:s.data.toList.length=s.size:=Array.length_toList;rcases aQW pos s.size with Y | AZ
  ·obtain⟨f,rfl⟩:∃ k,f=k+1:=⟨f - 1,om⟩;obtain⟨d1,d2,d3,d4⟩:=aB3 s pos Y;unfold spansFromP;rw [if_pos Y];have ae:=aiR s Y;have AB:s.data.toList.drop pos=s.get! pos :: s.data.toList.drop (pos+1):=by obtain⟨h1,AA⟩:=aQL.1 ae;rw [List.drop_eq_getElem_cons h1,AA]
   cases AP:CO (Utf8.decode s pos).1 with
   | true =>
    obtain⟨w1,af⟩:=d3 AP;rw [if_pos rfl];cases st with
    | none =>
     simp only;rw [w1] at d2 |-;rw [ZL s f (pos+1) none acc om om (fun a e=>by cases e)];simp only;rw [AB,aow af]
    | some a =>
     simp only;obtain⟨AQ,J⟩:=M a rfl;rw [w1] at d2 |-;rw [ZL s f (pos+1) none (acc++[(a,pos)]) om om (fun a e=>by cases e)];simp only;rw [List.map_append,List.map_cons,List.map_nil,aqr,List.append_assoc];congr 1;have AU:s.data.toList.drop a=(s.data.toList.drop a).take (pos - a)++s.get! pos :: s.data.toList.drop (pos+1):=by rw [<- AB];have:=(aRC (pos - a) (s.data.toList.drop a)).symm;rw [List.drop_drop,show a+(pos - a)=pos by omega] at this;exact this
     rw [AU,aoy _ _ af,<- AU]
     ·rfl
     ·intro e;have:=congrArg List.length e;rw [List.length_take,List.length_drop,hlen] at this;simp at this;omega
     ·intro c hc;obtain⟨i,I⟩:=aRA hc;rw [List.getElem?_take] at I;split at I
      ·rename_i AV;rw [List.getElem?_drop,aiR s om] at I;cases I;exact J _ om om
      ·cases I
   | false =>
    have w:=d4 AP;rw [if_neg sp];cases st with
    | none =>
     simp only;rw [ZL s f _ (some pos) acc om d2 (fun a e=>by
      cases e;refine⟨om,fun i h1 AA=>?_⟩;have:=w (i - pos) om;rwa [show pos+(i - pos)=i by omega] at this)]
    | some a =>
     simp only;obtain⟨AQ,J⟩:=M a rfl;rw [ZL s f _ (some a) acc om d2 (fun Aa e=>by
      cases e;refine⟨om,fun i h1 AA=>?_⟩;rcases Nat.lt_or_ge i pos with AX | AX
      ·exact J i h1 AX
      ·have:=w (i - pos) om;rwa [show pos+(i - pos)=i by omega] at this)]
  ·obtain rfl:pos=s.size:=om;rw [spansFromP_end CO s f _ st acc om];cases st with
   | none =>
    simp only [closeSpans];rw [List.drop_of_length_le om,ay2,List.append_nil]
   | some a =>
    obtain⟨AQ,J⟩:=M a rfl;simp only [closeSpans];rw [List.map_append,List.map_cons,List.map_nil,aqr,List.take_of_length_le (by rw [List.length_drop,hlen];omega),aox]
    ·intro e;have:=congrArg List.length e;rw [List.length_drop,hlen] at this;simp at this;omega
    ·intro c hc;obtain⟨i,I⟩:=aRA hc;have AV:=(aQL.1 I).1;rw [List.length_drop,hlen] at AV;rw [List.getElem?_drop,aiR s om] at I;cases I;exact J _ om om
theorem aB4 (s:ByteArray):(goFieldsP CO s).map (·.data.toList)=nS s.data.toList:=by have h:=ZL s s.size 0 none [] om om (fun a e=>by cases e);simp only [List.map_nil,List.nil_append,List.drop_zero] at h;rw [goFieldsP,List.map_map,<- h];rfl
abbrev OU:ak:=[114,101,97,100]
abbrev OV:ak:=[116,114,121]
abbrev OW:ak:=[119,114,105,116,101]
abbrev ML:ak:=[115,99,97,110]
abbrev MM:ak:=[101,110,118]
abbrev Q3:ak:=[107,101,101,112]
abbrev MN:ak:=[110,101,101,100]
abbrev Q4:ak:=[115,111,114,116]
abbrev Q5:ak:=[117,110,105,113]
abbrev Q6:ak:=[117,112,112,101,114]
abbrev Q7:ak:=[99,111,117,110,116]
abbrev OX:ak:=[102,97,105,108]
abbrev uL:ak:=[116,101,120,116]
structure sK where
 ws:List ak
 rest:ak
def Q8 (s:ak):ak:=((s.dropWhile qC).dropWhile fun c=>!qC c).drop 1
def vC (n:ak):Nat × Bool :=
 if n=OU\/n=OV\/n=OW then (2,true)
 else if n=ML then (3,true)
 else if n=MM\/n=Q3\/n=MN then (2,false)
 else if n=Q4\/n=Q5\/n=Q6\/n=Q7\/n=OX then (1,false)
 else (0,false)
def yl (may:ak->Bool) (s:ak):Option (Option sK):=match nS s with
 | []=>some none
 | w :: r =>
  if w.head?=some 35 then some none
  else if w=uL then some (some ⟨[w],Q8 s⟩)
  else if (vC w).1≠r.length+1\/(vC w).1=0\/((vC w).2=true/\may (r.headD [])=false) then none
  else some (some ⟨w :: r,[]⟩)
def Q9 (may:ak->Bool):List ak->Nat->List sK->List sK × Nat × Nat
 | [],_,out=>(out,0,0)
 | s :: l,i,out=>match yl may s with
  | none=>([],3,i+1)
  | some none=>Q9 may l (i+1) out
  | some (some c)=>Q9 may l (i+1) (out++[c])
def adW (may:ak->Bool) (text:ak):List sK × Nat × Nat :=
 if 65536 < text.length\/400 < (jQ text).length then ([],6,0) else Q9 may (jQ text) 0 []
structure dB where
 path:ak
 is:Bool
 data:ak
structure pM where
 kind:Nat
 path:ak
 data:ak
 why:Nat
def pM.none:pM:=⟨0,[],[],0⟩
inductive rQ where
 | add
 | DV
 | scan (w:ak)
inductive iT where
 | cmd (c:sK)
 | tK (p:ak) (th:rQ)
 | line (s w:ak)
structure aK where
 todo:List iT
 buf:ak
 known:List (ak × dB)
 asks:ak
 waits:Bool
 over:pM
 seen:List ak
def aK.fail (s:aK) (why:Nat):aK:={ s with over:=⟨4,[],[],why⟩ }
def aK.add (s:aK) (t:ak):aK:=if 65536 < s.buf.length+t.length then s.fail 6 else { s with buf:=s.buf++t }
def aK.nL (s:aK) (th:rQ) (k:dB):aK:=match th with
 | .add=>if k.is then s.add k.data else s.fail 10
 | .DV=>if k.is then s.add k.data else s
 | .scan w=>if k.is then { s with todo:=(jQ k.data).map (iT.line · w)++s.todo } else s.fail 10
def qO (l:List ak):ak:=l.flatMap (·++[10])
def mQ (line w:ak):Bool:=Lib.contains line w
def Jh (b:ak):ak:=b.map fun c=>if 97<=c.toNat/\c.toNat<=122 then c - 32 else c
def Uq (l:List ak):List ak:=Lib.compact l
def aK.xA (s:aK) (l:List ak):aK:=aK.add { s with buf:=[] } (qO l)
def aK.dG (s:aK) (name arg:ak) (l:List ak):aK :=
 if name=Q4 then s.xA (qi l)
 else if name=Q5 then s.xA (Uq l)
 else if name=Q6 then { s with buf:=Jh s.buf }
 else if name=Q7 then { s with buf:=decDigits l.length++[10] }
 else if name=Q3 then s.xA (l.filter (mQ · arg))
 else s
def tL (t:List (ak × dB)) (p:ak):Option dB:=(t.find? fun x=>x.1 == p).map (·.2)
structure Env where
 may:ak->Bool
 env:List (ak × ak)
def aK.ask (s:aK) (p:ak) (th:rQ):aK:=match tL s.known p with
 | some k=>s.nL th k
 | none=>if 500<=s.known.length then s.fail 6 else { s with asks:=p,waits:=true,todo:=.tK p th :: s.todo }
def aK.scan (s:aK) (p w:ak):aK:=aK.ask { s with seen:=p :: s.seen } p (.scan w)
def aK.wO (v:Env) (s:aK) (c:sK):aK :=
 let name:=c.ws.headD [];let arg:=(c.ws.drop 1).headD []
 if name=OU then s.ask arg .add
 else if name=OV then s.ask arg .DV
 else if name=ML then aK.scan { s with seen:=[] } arg ((c.ws.drop 2).headD [])
 else if name=uL then s.add (c.rest++[10])
 else if name=MM then (match v.env.find? fun x=>x.1 == arg with
  | none=>s.fail 10
  | some x=>s.add x.2)
 else if name=OW then { s with over:=⟨2,arg,s.buf,0⟩,buf:=[] }
 else if name=MN then (if (jQ s.buf).any (mQ · arg) then s else s.fail 15)
 else if name=OX then s.fail 15
 else s.dG name arg (jQ s.buf)
def aK.line (v:Env) (s:aK) (x w:ak):aK:=match nS x with
 | [a,b]=>if a=w/\v.may b=true then (if b∈s.seen then s else s.scan b w) else s.add (x++[10])
 | _=>s.add (x++[10])
def aK.task (v:Env) (s:aK):iT->aK
 | .cmd c=>s.wO v c
 | .tK p th=>s.nL th ((tL s.known p).getD ⟨[],false,[]⟩)
 | .line x w=>s.line v x w
def aK.step (v:Env) (s:aK):aK :=
 if s.over.kind≠0\/s.waits=true then s else match s.todo with
  | []=>{ s with over:=⟨3,[],[],0⟩ }
  | t :: r=>aK.task v { s with todo:=r } t
def aK.run (v:Env):Nat->aK->aK
 | 0,s=>s
 | n+1,s=>aK.run v n (s.step v)
def aK.Still (s:aK):Prop:=s.over.kind≠0\/s.waits=true
theorem aK.Ht {v:Env} {s:aK} (h:s.Still):s.step v=s:=by unfold aK.Still at h;rw [aK.step,if_pos h]
theorem aK.WV {v:Env} {s:aK} (h:s.Still):∀ n,s.run v n=s
 | 0=>rfl
 | n+1=>by rw [aK.run,aK.Ht h,aK.WV h n]
def rR (U:List dB) (p:ak):dB:=(U.find? fun x=>x.path == p).getD ⟨p,false,[]⟩
def OY (U:List dB) (p:ak):Nat:=(jQ (rR U p).data).length
def K3 (U:List dB) (u:dB):Nat:=2 * OY U u.path+2
def Ra (U:List dB) (seen:List ak):Nat:=((U.filter fun u=>!decide (u.path∈seen)).map (K3 U)).sum
def CP (U:List dB):Nat:=(U.map (K3 U)).sum
def FQ (U:List dB):iT->Nat
 | .cmd _=>CP U+3
 | .tK p (.scan _)=>1+2 * OY U p
 | .tK _ _=>1
 | .line _ _=>2
def lY (U:List dB) (s:aK):Nat:=(s.todo.map (FQ U)).sum+Ra U s.seen
def Agree (U:List dB) (s:aK):Prop:=∀ p k,tL s.known p=some k->k.is=true->k.data=(rR U p).data
theorem aqs (U:List dB) (f:dB->Nat) (q:dB->Bool):∀ L:List dB,((L.filter q).map f).sum<=(L.map f).sum
 | []=>by simp
 | u :: L=>by
  have I:=aqs U f q L;rw [List.filter_cons];split <;> simp <;> omega
theorem aqt (U:List dB) (seen:List ak):Ra U seen<=CP U:=aqs U _ _ U
theorem aB5 (U:List dB) (seen:List ak) (p:ak) (aI:p ∉ seen):Ra U (p :: seen)+2 * OY U p<=Ra U seen:=by
 by_cases hu:∃ u∈U,u.path=p
 ·obtain⟨u,hu,rfl⟩:=hu;have key:∀ L:List dB,u∈L->((L.filter fun x=>!decide (x.path∈u.path :: seen)).map (K3 U)).sum+K3 U u<=((L.filter fun x=>!decide (x.path∈seen)).map (K3 U)).sum:=by
   intro L;have low:∀ L:List dB,((L.filter fun x=>!decide (x.path∈u.path :: seen)).map (K3 U)).sum<=((L.filter fun x=>!decide (x.path∈seen)).map (K3 U)).sum:=by
    intro L;induction L with
    | nil=>simp
    | cons x L I =>
     rw [List.filter_cons,List.filter_cons];by_cases h1:x.path∈seen
     ·rw [if_neg (by simp [h1]),if_neg (by simp [h1])];exact I
     ·by_cases J:x.path=u.path
      ·rw [if_neg (by simp [J]),if_pos (by simp [h1])];simp only [List.map_cons,List.sum_cons];omega
      ·rw [if_pos (by simp [h1,J]),if_pos (by simp [h1])];simp only [List.map_cons,List.sum_cons];omega
   induction L with
   | nil=>intro h;cases h
   | cons x L I =>
    intro h;rw [List.filter_cons,List.filter_cons];rcases aQN.1 h with rfl | h
    ·rw [if_neg sp,if_pos (by simp [aI])];simp only [List.map_cons,List.sum_cons];have:=low L;omega
    ·have I:=I h;by_cases h1:x.path∈seen
     ·rw [if_neg (by simp [h1]),if_neg (by simp [h1])];exact I
     ·by_cases J:x.path=u.path
      ·rw [if_neg (by simp [J]),if_pos (by simp [h1])];simp only [List.map_cons,List.sum_cons];omega
      ·rw [if_pos (by simp [h1,J]),if_pos (by simp [h1])];simp only [List.map_cons,List.sum_cons];omega
  have:=key U hu;unfold Ra;unfold K3 at this |-;omega
 ·have M:OY U p=0:=by
   rw [OY,rR];have:(U.find? fun x=>x.path == p)=none:=by rw [List.find?_eq_none];intro x ah e;exact hu ⟨x,ah,by simpa using e⟩
   rw [this];rfl
  have h1:(U.filter fun u=>!decide (u.path∈p :: seen))=U.filter fun u=>!decide (u.path∈seen):=by apply List.filter_congr;intro x ah;have:x.path≠p:=fun e=>hu ⟨x,ah,e⟩;simp [this]
  rw [Ra,Ra,h1,M];omega
theorem aqu (U:List dB) (s:aK) (y:Nat):lY U (s.fail y)=lY U s:=rfl
theorem WW (U:List dB) (s:aK) (t:ak):lY U (s.add t)=lY U s:=by unfold aK.add;split <;> rfl
theorem aB6 (U:List dB) (s:aK) (l:List ak):lY U (s.xA l)=lY U s:=by unfold aK.xA;rw [WW];rfl
theorem aB7 (U:List dB) (s:aK) (n a:ak) (l:List ak):lY U (s.dG n a l)=lY U s:=by
 unfold aK.dG;repeat' split
 all_goals first|exact aB6 U s _|rfl
theorem aB8 (U:List dB) (w:ak) (L:List ak) (r:List iT):((L.map (iT.line · w)++r).map (FQ U)).sum=2 * L.length+(r.map (FQ U)).sum:=by
 induction L with
 | nil=>simp
 | cons x L I =>
  simp only [List.map_cons,List.cons_append,List.sum_cons,List.length_cons] at I |-;rw [I];simp only [FQ];omega
def ZO (U:List dB) (p:ak):rQ->Nat
 | .scan _=>2 * OY U p
 | _=>0
theorem aqv {U:List dB} (s:aK) (th:rQ) {k:dB} (hk:k.is=true->k.data=(rR U p).data):lY U (s.nL th k)<=lY U s+ZO U p th:=by
 cases th with
 | add =>
  unfold aK.nL;simp only;split
  ·rw [WW];exact aRD _ _
  ·exact aRD _ _
 | DV =>
  unfold aK.nL;simp only;split
  ·rw [WW];exact aRD _ _
  ·exact aRD _ _
 | scan w =>
  unfold aK.nL;simp only;split
  ·rename_i I;unfold lY;simp only;rw [aB8,hk I];show _<=_+2 * OY U p;unfold OY;omega
  ·exact aRD _ _
theorem aiT (U:List dB) (p:ak) (th:rQ):FQ U (.tK p th)=1+ZO U p th:=by cases th <;> rfl
theorem aqw {U:List dB} {s:aK} (hs:Agree U s) (p:ak) (th:rQ):lY U (s.ask p th)<=lY U s+1+ZO U p th:=by
 unfold aK.ask;split
 ·rename_i k hk;have:=aqv s th (hs p k hk);omega
 ·split
  ·rw [aqu];omega
  ·unfold lY;simp only [List.map_cons,List.sum_cons,aiT];omega
theorem aqx {U:List dB} {s:aK} (hs:Agree U s) (p w:ak) (aI:p ∉ s.seen):lY U (s.scan p w)<=lY U s+1:=by have h1:=aqw (s:={ s with seen:=p :: s.seen }) (U:=U) hs p (.scan w);have I:=aB5 U s.seen p aI;unfold aK.scan;simp only [ZO] at h1;refine aQG h1 ?_;unfold lY;simp only;omega
theorem aB9 {U:List dB} {s:aK} (hs:Agree U s) (p w:ak):lY U (aK.scan { s with seen:=[] } p w)<=lY U s+CP U+1:=by have h1:=aqx (s:={ s with seen:=[] }) (U:=U) hs p w sp;refine aQG h1 ?_;have:=aqt U [];unfold lY;simp only;omega
theorem aCa {U:List dB} {s:aK} (hs:Agree U s) (v:Env) (c:sK):lY U (s.wO v c)<=lY U s+CP U+1:=by
 have I:∀ p th,ZO U p th=0->lY U (s.ask p th)<=lY U s+CP U+1:=fun p th M=>by
  have:=aqw hs p th;omega
 have J:∀ t,lY U (s.add t)<=lY U s+CP U+1:=fun t=>by rw [WW];omega
 have hf:∀ y,lY U (s.fail y)<=lY U s+CP U+1:=fun y=>by rw [aqu];omega
 unfold aK.wO;simp only;repeat' split
 all_goals first|exact I _ _ rfl|exact J _|exact hf _|exact aB9 hs _ _|(rw [aB7];omega)|(show lY U s<=_;omega)
theorem aCb {U:List dB} {s:aK} (hs:Agree U s) (v:Env) (x w:ak):lY U (s.line v x w)<=lY U s+1:=by
 unfold aK.line;split
 ·split
  ·split
   ·omega
   ·rename_i h;exact aqx hs _ _ h
  ·rw [WW];omega
 ·rw [WW];omega
theorem aCc {U:List dB} {s:aK} (hs:Agree U s) (v:Env) (t:iT) (az:∀ p th,t = .tK p th->(tL s.known p).isSome=true):lY U (s.task v t)+1<=lY U s+FQ U t:=by
 cases t with
 | cmd c =>
  have:=aCa hs v c;simp only [aK.task,FQ];omega
 | tK p th =>
  have I:=az p th rfl;obtain⟨k,hk⟩:=aRE.1 I;simp only [aK.task];rw [hk,aiT];have:=aqv s th (hs p k hk);simp only [Option.getD_some];omega
 | line x w =>
  have:=aCb hs v x w;simp only [aK.task,FQ];omega
def ZP (s:aK):Prop:=∀ p th,iT.tK p th∈s.todo->(tL s.known p).isSome=true\/(s.waits=true/\s.asks=p)
theorem add_same (s:aK) (t:ak):(s.add t).todo=s.todo/\(s.add t).known=s.known/\(s.add t).waits=s.waits/\(s.add t).asks=s.asks/\(s.add t).seen=s.seen:=by unfold aK.add;split <;> exact⟨rfl,rfl,rfl,rfl,rfl⟩
theorem aCd (s:aK) (l:List ak):(s.xA l).todo=s.todo/\(s.xA l).known=s.known/\(s.xA l).waits=s.waits/\(s.xA l).asks=s.asks/\(s.xA l).seen=s.seen:=by unfold aK.xA;exact add_same _ _
theorem aqy (s:aK) (n a:ak) (l:List ak):(s.dG n a l).todo=s.todo/\(s.dG n a l).known=s.known/\(s.dG n a l).waits=s.waits/\(s.dG n a l).asks=s.asks/\(s.dG n a l).seen=s.seen:=by
 unfold aK.dG;repeat' split
 all_goals first|exact aCd s _|exact⟨rfl,rfl,rfl,rfl,rfl⟩
def Hu (s s':aK):Prop:=s'.known=s.known/\((∃ (L:List ak) (w:ak),s'.todo=L.map (iT.line · w)++s.todo/\s'.waits=s.waits/\s'.asks=s.asks)\/(∃ p th,s'.todo = .tK p th :: s.todo/\s'.waits=true/\s'.asks=p/\tL s.known p=none/\s.known.length < 500/\s'.over=s.over))
theorem Hu.same {s s':aK} (h:s'.todo=s.todo/\s'.known=s.known/\s'.waits=s.waits/\s'.asks=s.asks):Hu s s':=⟨h.2.1,.inl ⟨[],[],h.1,h.2.2.1,h.2.2.2⟩⟩
theorem WX (s:aK) (t:ak):Hu s (s.add t):=by obtain⟨h1,I,J,M,_⟩:=add_same s t;exact .same ⟨h1,I,J,M⟩
theorem adX (s:aK) (y:Nat):Hu s (s.fail y):=.same ⟨rfl,rfl,rfl,rfl⟩
theorem aqz (s:aK) (th:rQ) (k:dB):Hu s (s.nL th k):=by
 cases th <;> unfold aK.nL <;> simp only <;> split
 ·exact WX s _
 ·exact adX s _
 ·exact WX s _
 ·exact .same ⟨rfl,rfl,rfl,rfl⟩
 ·exact⟨rfl,.inl ⟨_,_,rfl,rfl,rfl⟩⟩
 ·exact adX s _
theorem aiU (s:aK) (p:ak) (th:rQ):Hu s (s.ask p th):=by
 unfold aK.ask;split
 ·exact aqz s th _
 ·rename_i h;split
  ·exact adX s _
  ·exact⟨rfl,.inr ⟨p,th,rfl,rfl,rfl,h,om,rfl⟩⟩
theorem aiV (s:aK) (p w:ak):Hu s (s.scan p w):=by have:=aiU { s with seen:=p :: s.seen } p (.scan w);exact this
theorem Rb (s:aK) (v:Env) (t:iT):Hu s (s.task v t):=by
 cases t with
 | cmd c =>
  unfold aK.task aK.wO;simp only;have I:∀ n a l,Hu s (s.dG n a l):=fun n a l=>by
   obtain⟨h1,J,M,Y,_⟩:=aqy s n a l;exact .same ⟨h1,J,M,Y⟩
  repeat' split
  all_goals first|exact aiU s _ _|exact WX s _|exact adX s _|exact aiV { s with seen:=[] } _ _|exact I _ _ _|exact .same ⟨rfl,rfl,rfl,rfl⟩
 | tK p th=>exact aqz s th _
 | line x w =>
  unfold aK.task aK.line;simp only;repeat' split
  all_goals first|exact aiV s _ _|exact WX s _|exact .same ⟨rfl,rfl,rfl,rfl⟩
theorem ZP.task {s:aK} {t:iT} {r:List iT} (h:ZP s) (hw:s.waits=false) (az:s.todo=t :: r) (v:Env):ZP (aK.task v { s with todo:=r } t):=by
 obtain⟨h1,J⟩:=Rb { s with todo:=r } v t;have I:∀ p th,iT.tK p th∈r->(tL s.known p).isSome=true:=fun p th hm=>by
  rcases h p th (by rw [az];exact aQ9 _ hm) with h | h
  ·exact h
  ·rw [hw] at h;cases h.1
 intro p th hm;rw [h1];rcases J with ⟨L,w,e,_,_⟩ | ⟨q,AA,e,M,Y,_⟩
 ·rw [e,List.mem_append] at hm;rcases hm with hm | hm
  ·obtain⟨x,_,ah⟩:=aQO.1 hm;cases ah
  ·exact .inl (I p th hm)
 ·rw [e] at hm;rcases aQN.1 hm with hm | hm
  ·cases hm;exact .inr ⟨M,Y⟩
  ·exact .inl (I p th hm)
theorem Rc {s:aK} (h:¬ s.Still):s.over.kind=0/\s.waits=false:=by unfold aK.Still at h;rw [not_or] at h;exact⟨by simpa using h.1,by simpa using h.2⟩
theorem Ji {v:Env} {s:aK} (h:¬ s.Still) (az:s.todo=[]):s.step v={ s with over:=⟨3,[],[],0⟩ }:=by unfold aK.Still at h;rw [aK.step,if_neg h,az]
theorem step_cons {v:Env} {s:aK} (h:¬ s.Still) {t:iT} {r:List iT} (az:s.todo=t :: r):s.step v=aK.task v { s with todo:=r } t:=by unfold aK.Still at h;rw [aK.step,if_neg h,az]
structure Good (U:List dB) (s:aK):Prop where
 agree:Agree U s
 MO:ZP s
theorem Good.step {U:List dB} {s:aK} (h:Good U s) (v:Env):Good U (s.step v)/\lY U (s.step v)<=lY U s/\(¬ s.Still->(s.step v).Still\/lY U (s.step v) < lY U s):=by
 by_cases hs:s.Still
 ·rw [aK.Ht hs];exact⟨h,aQF _,fun J=>absurd hs J⟩
 ·obtain⟨M,hw⟩:=Rc hs;cases I:s.todo with
  | nil =>
   rw [Ji hs I];exact⟨⟨h.agree,h.MO⟩,aQF _,fun _=>.inl (.inl sp)⟩
  | cons t r =>
   rw [step_cons hs I];have aI:lY U (aK.task v { s with todo:=r } t)+1<=lY U s:=by
    have:=aCc (U:=U) (s:={ s with todo:=r }) h.agree v t (fun p th e=>by
     subst e;rcases h.MO p th (by rw [I];simp) with h | h
     ·exact h
     ·rw [hw] at h;cases h.1);refine aQG this ?_;unfold lY;simp only [I,List.map_cons,List.sum_cons];omega
   refine⟨⟨fun p k hk=>?_,h.MO.task hw I v⟩,om,fun _=>.inr om⟩;rw [(Rb { s with todo:=r } v t).1] at hk;exact h.agree p k hk
theorem Good.stands {U:List dB} {v:Env}:∀ (m:Nat) {s:aK},Good U s->lY U s<=m->∃ n,(s.run v n).Still
 | m,s,h,hm=>by
  by_cases hs:s.Still
  ·exact⟨0,hs⟩
  ·obtain⟨h1,Y,J⟩:=h.step v;rcases J hs with I | I
   ·exact⟨1,I⟩
   ·cases m with
    | zero=>omega
    | succ m =>
     obtain⟨n,M⟩:=Good.stands m h1 om;exact⟨n+1,M⟩
theorem Good.aCe {U:List dB} {s:aK} (_:Good U s):s.todo.length<=lY U s:=by
 have:∀ l:List iT,l.length<=(l.map (FQ U)).sum:=by
  intro l;induction l with
  | nil=>simp
  | cons t l I =>
   have:1<=FQ U t:=by
    cases t with
    | cmd _=>simp only [FQ];omega
    | tK p th=>rw [aiT];omega
    | line _ _=>simp only [FQ];omega
   simp only [List.length_cons,List.map_cons,List.sum_cons];omega
 have:=this s.todo;unfold lY;omega
def WY (c:sK):Prop:=c.ws≠[]/\c.ws.length<=1000000/\(∀ x∈c.ws,x.length<=1000000)/\c.rest.length<=1000000
def aiX:rQ->Prop
 | .scan w=>w.length<=1000000
 | _=>True
def aiY:iT->Prop
 | .cmd c=>WY c
 | .tK p th=>p.length<=1000000/\aiX th
 | .line x w=>x.length<=1000000/\w.length<=1000000
structure nC (s:aK):Prop where
 buf:s.buf.length<=65536
 tasks:∀ t∈s.todo,aiY t
 AY:∀ p k,tL s.known p=some k->k.is=true->k.data.length<=1000000
 Hw:∀ p∈s.seen,p.length<=1000000
 asks:s.asks.length<=1000000
 less:s.known.length<=500
theorem aqA (n:Nat) (h:n < 10 ^ 20):(decDigits n).length<=20:=ail 19 n h
theorem nC.fail {s:aK} (h:nC s) (y:Nat):nC (s.fail y):=⟨h.buf,h.tasks,h.AY,h.Hw,h.asks,h.less⟩
theorem nC.add {s:aK} (h:nC s) (t:ak):nC (s.add t):=by
 unfold aK.add;split
 ·exact h.fail 6
 ·refine⟨?_,h.tasks,h.AY,h.Hw,h.asks,h.less⟩;simp only [List.length_append];omega
theorem nC.buffer {s:aK} (h:nC s) {b:ak} (ae:b.length<=65536):nC { s with buf:=b }:=⟨ae,h.tasks,h.AY,h.Hw,h.asks,h.less⟩
theorem nC.xA {s:aK} (h:nC s) (l:List ak):nC (s.xA l):=(h.buffer (b:=[]) sp).add _
theorem nC.dG {s:aK} (h:nC s) (n a:ak) (l:List ak) (hl:l.length < 10 ^ 20):nC (s.dG n a l):=by
 unfold aK.dG;repeat' split
 ·exact h.xA _
 ·exact h.xA _
 ·exact h.buffer (by rw [Jh,List.length_map];exact h.buf)
 ·refine h.buffer ?_;have:=aqA l.length hl;rw [List.length_append,List.length_singleton];omega
 ·exact h.xA _
 ·exact h
theorem nC.nL {s:aK} (h:nC s) {th:rQ} (FR:aiX th) {k:dB} (hk:k.is=true->k.data.length<=1000000):nC (s.nL th k):=by
 cases th <;> unfold aK.nL <;> simp only <;> split
 ·exact h.add _
 ·exact h.fail _
 ·exact h.add _
 ·exact h
 ·rename_i w J;refine⟨h.buf,fun t I=>?_,h.AY,h.Hw,h.asks,h.less⟩;rcases aQ4.1 I with I | I
  ·obtain⟨x,ah,rfl⟩:=aQO.1 I;exact⟨aQG (TQ ah) (hk J),FR⟩
  ·exact h.tasks t I
 ·exact h.fail _
theorem nC.ask {s:aK} (h:nC s) (aI:p.length<=1000000) {th:rQ} (FR:aiX th):nC (s.ask p th):=by
 unfold aK.ask;split
 ·rename_i k hk;exact h.nL FR (h.AY p k hk)
 ·split
  ·exact h.fail _
  ·refine⟨h.buf,fun t I=>?_,h.AY,h.Hw,aI,h.less⟩;rcases aQN.1 I with rfl | I
   ·exact⟨aI,FR⟩
   ·exact h.tasks t I
theorem nC.scan {s:aK} (h:nC s) {w:ak} (aI:p.length<=1000000) (hw:w.length<=1000000):nC (s.scan p w):=by
 refine nC.ask (s:={ s with seen:=p :: s.seen }) ⟨h.buf,h.tasks,h.AY,fun q I=>?_,h.asks,h.less⟩ aI (th:=.scan w) hw;rcases aQN.1 I with rfl | I
 ·exact aI
 ·exact h.Hw q I
theorem aqB {l:List ak} (h:∀ x∈l,x.length<=1000000):(l.headD []).length<=1000000:=by
 cases l with
 | nil=>simp
 | cons x l=>exact h x sp
theorem nC.wO {s:aK} (h:nC s) (v:Env) {c:sK} (hc:WY c):nC (s.wO v c):=by
 obtain⟨_,_,h1,M⟩:=hc;have I:((c.ws.drop 1).headD []).length<=1000000:=aqB fun x ah=>h1 x (List.mem_of_mem_drop ah);have ae:((c.ws.drop 2).headD []).length<=1000000:=aqB fun x ah=>h1 x (List.mem_of_mem_drop ah);have hl:(jQ s.buf).length < 10 ^ 20:=by have:=QM s.buf;have:=h.buf;omega
 have J:nC { s with seen:=[] }:=⟨h.buf,h.tasks,h.AY,by simp,h.asks,h.less⟩;unfold aK.wO;simp only;repeat' split
 all_goals first|exact h.ask I (th:=.add) trivial|exact h.ask I (th:=.DV) trivial|exact J.scan I ae|exact h.add _|exact h.fail _|exact h.dG _ _ _ hl|exact h|exact h.buffer (b:=[]) sp|exact⟨by simp,h.tasks,h.AY,h.Hw,h.asks,h.less⟩
theorem nC.line {s:aK} (h:nC s) (v:Env) {x w:ak} (ah:x.length<=1000000) (hw:w.length<=1000000):nC (s.line v x w):=by
 unfold aK.line;split
 ·rename_i a b I;split
  ·split
   ·exact h
   ·refine h.scan ?_ hw;have:=(Y8 (s:=x) (x:=b) (by rw [I];simp)).2.2;omega
  ·exact h.add _
 ·exact h.add _
theorem nC.task {s:aK} (h:nC s) (v:Env) {t:iT} (az:aiY t):nC (s.task v t):=by
 cases t with
 | cmd c=>exact h.wO v az
 | tK p th =>
  refine h.nL az.2 fun I=>?_;cases hk:tL s.known p with
  | none=>rw [hk] at I;cases I
  | some k=>rw [hk] at I;exact h.AY p k hk I
 | line x w=>exact h.line v az.1 az.2
theorem nC.step {s:aK} (h:nC s) (v:Env):nC (s.step v):=by
 by_cases hs:s.Still
 ·rw [aK.Ht hs];exact h
 ·cases I:s.todo with
  | nil =>
   rw [Ji hs I];exact⟨h.buf,h.tasks,h.AY,h.Hw,h.asks,h.less⟩
  | cons t r =>
   rw [step_cons hs I];exact nC.task (s:={ s with todo:=r }) ⟨h.buf,fun u hu=>h.tasks u (by rw [I];exact aQ9 _ hu),h.AY,h.Hw,h.asks,h.less⟩ v (h.tasks t (by rw [I];simp))
def aK.mE (s:aK) (k:dB):aK:={ s with known:=s.known++[(s.asks,k)],asks:=[],waits:=false }
structure Ur where
  buf:ak
  asked:List ak
  wrote:List pM
  stop:pM
def Re:dB:=⟨[],false,[]⟩
theorem aqC {t:List (ak × dB)}:(tL t p).isSome=true ↔ p∈t.map (·.1):=by
  unfold tL;rw [Option.isSome_map,List.find?_isSome];constructor
  · rintro⟨x,ah,h⟩;exact aQO.2 ⟨x,ah,by simpa using h⟩
  · intro h;obtain⟨x,ah,h⟩:=aQO.1 h;exact⟨x,ah,by simpa using h⟩
theorem ZQ {t:List (ak × dB)} (h:tL t p=none) (k:dB) (q:ak):tL (t++[(p,k)]) q=if q=p then some k else tL t q:=by
  unfold tL at h |-;rw [List.find?_append];by_cases I:q=p
  · subst I;rw [if_pos rfl];rw [Option.map_eq_none_iff] at h;rw [h];simp
  · rw [if_neg I];have:([(p,k)].find? fun x=>x.1 == q)=none:=by simp [Ne.symm I]
    rw [this,Option.or_none]
def left (L:List ak) (d:List ak):Nat:=(L.filter fun p=>!decide (p∈d)).length
def adY (c:sK):Prop:=c.ws.headD []∈[OU,OV,OW,ML,MM,Q3,MN,Q4,Q5,Q6,Q7,OX,uL]
end
section
open Go.Lib
variable {v:Env} {O aCf:ak->Option dB}
def qF (s:aK):pM:=if s.waits=true then ⟨1,s.asks,[],0⟩ else s.over
def aK.next (s:aK):aK:=if s.waits=true then s else if s.over.kind=2 then { s with over:=pM.none } else s
def adZ (s:aK):Prop:=s.waits=true->s.over=pM.none/\tL s.known s.asks=none/\s.known.length < 500
theorem adZ.task {s:aK} (aV:s.waits=false) (h1:s.over=pM.none) (t:iT):adZ (s.task v t):=by
 obtain⟨hk,av⟩:=Rb s v t;intro hw;rcases av with ⟨L,w,_,e,_⟩ | ⟨p,th,_,_,I,J,M,Y⟩
 ·rw [e,aV] at hw;cases hw
 ·rw [hk,I,Y];exact⟨h1,J,M⟩
structure Ord (s:aK):Prop where
 lim:nC s
 MO:ZP s
 waits:adZ s
 over:s.over=pM.none\/s.over.kind=2\/s.over.kind=3\/s.over.kind=4
theorem aCg (s:aK) (h:s.over=pM.none) (t:iT):(s.task v t).over=pM.none\/(s.task v t).over.kind=2\/(s.task v t).over.kind=3\/(s.task v t).over.kind=4:=by
 have I:∀ (s:aK) t,s.over=pM.none->(s.add t).over=pM.none\/(s.add t).over.kind=2\/(s.add t).over.kind=3\/(s.add t).over.kind=4:=fun s t h=>by
  unfold aK.add;split
  ·exact .inr (.inr (.inr rfl))
  ·exact .inl h
 have M:∀ (s:aK) th k,s.over=pM.none->(s.nL th k).over=pM.none\/(s.nL th k).over.kind=2\/(s.nL th k).over.kind=3\/(s.nL th k).over.kind=4:=fun s th k h=>by
  cases th <;> unfold aK.nL <;> simp only <;> split
  ·exact I s _ h
  ·exact .inr (.inr (.inr rfl))
  ·exact I s _ h
  ·exact .inl h
  ·exact .inl h
  ·exact .inr (.inr (.inr rfl))
 have J:∀ (s:aK) p th,s.over=pM.none->(s.ask p th).over=pM.none\/(s.ask p th).over.kind=2\/(s.ask p th).over.kind=3\/(s.ask p th).over.kind=4:=fun s p th h=>by
  unfold aK.ask;split
  ·exact M s _ _ h
  ·split
   ·exact .inr (.inr (.inr rfl))
   ·exact .inl h
 cases t with
 | cmd c =>
  unfold aK.task aK.wO;simp only;have Y:∀ n a l,(s.dG n a l).over=pM.none\/(s.dG n a l).over.kind=2\/(s.dG n a l).over.kind=3\/(s.dG n a l).over.kind=4:=fun n a l=>by
   unfold aK.dG;repeat' split
   all_goals first|exact I { s with buf:=[] } _ h|exact .inl h
  repeat' split
  all_goals first|exact J s _ _ h|exact I s _ h|exact .inr (.inr (.inr rfl))|exact J { s with seen:=_ } _ _ h|exact .inr (.inl rfl)|exact Y _ _ _|exact .inl h
 | tK p th=>exact M s _ _ h
 | line x w =>
  unfold aK.task aK.line;simp only;repeat' split
  all_goals first|exact J { s with seen:=_ } _ _ h|exact I s _ h|exact .inl h
theorem aqD {s:aK} (h:s.over=pM.none\/s.over.kind=2\/s.over.kind=3\/s.over.kind=4) (aV:s.over.kind=0):s.over=pM.none:=by
 rcases h with h | h | h | h
 ·exact h
 ·omega
 ·omega
 ·omega
theorem Ord.step {s:aK} (h:Ord s):Ord (s.step v):=by
 refine⟨h.lim.step v,?_,?_,?_⟩
 ·by_cases hs:s.Still
  ·rw [aK.Ht hs];exact h.MO
  ·cases I:s.todo with
   | nil=>rw [Ji hs I];exact h.MO
   | cons t r=>rw [step_cons hs I];exact h.MO.task (Rc hs).2 I v
 ·by_cases hs:s.Still
  ·rw [aK.Ht hs];exact h.waits
  ·obtain⟨J,hw⟩:=Rc hs;cases I:s.todo with
   | nil =>
    rw [Ji hs I];intro e;rw [show (aK.waits { s with over:=⟨3,[],[],0⟩ })=s.waits from rfl,hw] at e;cases e
   | cons t r =>
    rw [step_cons hs I];exact adZ.task (s:={ s with todo:=r }) hw (aqD h.over J) t
 ·by_cases hs:s.Still
  ·rw [aK.Ht hs];exact h.over
  ·obtain⟨J,hw⟩:=Rc hs;cases I:s.todo with
   | nil=>rw [Ji hs I];exact .inr (.inr (.inl rfl))
   | cons t r =>
    rw [step_cons hs I];exact aCg { s with todo:=r } (aqD h.over J) t
theorem Ord.next {s:aK} (h:Ord s):Ord s.next:=by
 unfold aK.next;split
 ·exact h
 ·rename_i hw;split
  ·exact⟨⟨h.lim.buf,h.lim.tasks,h.lim.AY,h.lim.Hw,h.lim.asks,h.lim.less⟩,h.MO,fun e=>absurd e hw,.inl rfl⟩
  ·exact h
theorem Ord.mE {s:aK} (h:Ord s) (hw:s.waits=true) {k:dB} (hk:k.is=true->k.data.length<=1000000):Ord (s.mE k):=by
 obtain⟨w1,af,aD⟩:=h.waits hw;refine⟨⟨h.lim.buf,h.lim.tasks,fun p j aC=>?_,h.lim.Hw,by simp [aK.mE],?_⟩,fun p th hm=>?_,fun e=>?_,h.over⟩
 ·have I:tL (s.known++[(s.asks,k)]) p=some j:=aC;rw [ZQ af] at I;split at I
  ·cases I;exact hk
  ·exact h.lim.AY p j I
 ·show (s.known++[(s.asks,k)]).length<=500;rw [List.length_append,List.length_singleton];omega
 ·left;have av:=ZQ af k p;show (tL (s.known++[(s.asks,k)]) p).isSome=true;rw [av];split
  ·rfl
  ·rename_i J;rcases h.MO p th hm with h1 | h1
   ·exact h1
   ·exact absurd h1.2.symm J
 ·cases e
def aK.start (l:List sK):aK:=⟨l.map .cmd,[],[],[],false,pM.none,[]⟩
theorem aCh {l:List sK} (h:∀ c∈l,WY c):Ord (aK.start l):=by
 refine⟨⟨by simp [aK.start],fun t I=>?_,fun p k hk=>(by cases hk),(by simp [aK.start]),(by simp [aK.start]),(by simp [aK.start])⟩,fun p th hm=>?_,fun hw=>(by cases hw),.inl rfl⟩
 ·obtain⟨c,hc,rfl⟩:=aQO.1 I;exact h c hc
 ·obtain⟨c,_,ah⟩:=aQO.1 hm;cases ah
end
section
open Go.Lib
def Rf:List ak->Bool
 | []=>true
 | a :: _=>a.head? == some 35
def okW (may:ak->Bool):List ak->Bool
 | []=>false
 | a :: r=>decide (a=uL) || (decide ((vC a).1=r.length+1) && decide ((vC a).1≠0) && (!(vC a).2 || may (r.headD [])))
def ZT (s:ak):sK:=match nS s with
 | []=>⟨[],[]⟩
 | a :: r=>if a=uL then ⟨[a],Q8 s⟩ else ⟨a :: r,[]⟩
theorem ZU (may:ak->Bool) (s:ak):yl may s=bif Rf (nS s) then some none else bif okW may (nS s) then some (some (ZT s)) else none:=by
 unfold yl ZT;cases hw:nS s with
 | nil=>rfl
 | cons a r =>
  simp only;by_cases h1:a.head?=some 35
  ·rw [if_pos h1,show Rf (a :: r)=true by simp [Rf,h1],cond_true]
  ·rw [if_neg h1,show Rf (a :: r)=false by simpa [Rf] using h1,cond_false];by_cases M:a=uL
   ·rw [if_pos M,if_pos M,show okW may (a :: r)=true by simp [okW,M],cond_true]
   ·rw [if_neg M,if_neg M];by_cases I:(vC a).1≠r.length+1\/(vC a).1=0\/((vC a).2=true/\may (r.headD [])=false)
    ·have:okW may (a :: r)=false:=by
      cases J:okW may (a :: r) with
      | false=>rfl
      | true =>
       simp only [okW,Bool.and_eq_true,decide_eq_true_eq,Bool.or_eq_true,Bool.not_eq_true'] at J;rcases J with J | J
       ·exact absurd J M
       ·rcases I with I | I | I
        ·exact absurd J.1.1 I
        ·exact absurd I J.1.2
        ·rcases J.2 with e | e
         ·rw [I.1] at e;cases e
         ·rw [I.2] at e;cases e
     rw [if_pos I,this,cond_false]
    ·have:okW may (a :: r)=true:=by
      rw [not_or,not_or] at I;obtain⟨Y,AA,AB⟩:=I;simp only [okW,Bool.and_eq_true,decide_eq_true_eq,Bool.or_eq_true,Bool.not_eq_true'];refine .inr ⟨⟨by simpa using Y,AA⟩,?_⟩;cases ae:(vC a).2 with
      | false=>exact .inl rfl
      | true =>
       right;cases hm:may (r.headD []) with
       | true=>rfl
       | false=>exact absurd ⟨ae,hm⟩ AB
     rw [if_neg I,this,cond_true]
def qG (may:ak->Bool):List ak->List sK
 | []=>[]
 | s :: l=>match yl may s with
  | some (some c)=>c :: qG may l
  | _=>qG may l
def DW (may:ak->Bool):List ak->Nat->Nat × Nat
 | [],_=>(0,0)
 | s :: l,i=>match yl may s with
  | none=>(3,i+1)
  | some _=>DW may l (i+1)
theorem ai0 (may:ak->Bool):∀ (l:List ak) (i:Nat) (out:List sK),Q9 may l i out=(if (DW may l i).1=0 then out++qG may l else [],(DW may l i).1,(DW may l i).2)
 | [],i,out=>by simp [Q9,DW,qG]
 | s :: l,i,out=>by
  cases h:yl may s with
  | none=>simp [Q9,DW,h]
  | some o =>
   cases o with
   | none=>simp [Q9,DW,qG,h,ai0 may l (i+1) out]
   | some c=>simp [Q9,DW,qG,h,ai0 may l (i+1) (out++[c])]
def pW (may:ak->Bool) (text:ak):Nat × Nat:=if 65536 < text.length\/400 < (jQ text).length then (6,0) else DW may (jQ text) 0
theorem ai1 (may:ak->Bool) (text:ak):adW may text=(if (pW may text).1=0 then qG may (jQ text) else [],(pW may text).1,(pW may text).2):=by
 unfold adW pW;split
 ·rfl
 ·rw [ai0];simp
theorem aqE (may:ak->Bool):∀ (a b:List ak),qG may (a++b)=qG may a++qG may b
 | [],b=>rfl
 | s :: a,b=>by
  rw [List.cons_append,qG,qG];split <;> simp [aqE may a b]
theorem ZV (may:ak->Bool):∀ l:List ak,(qG may l).length<=l.length
 | []=>aQF _
 | s :: l=>by
  have:=ZV may l;rw [qG];split <;> simp <;> omega
theorem ai2 {may:ak->Bool} {c:sK}:∀ {l:List ak},c∈qG may l->∃ s∈l,yl may s=some (some c)
 | [],h=>by cases h
 | s :: l,h=>by
  rw [qG] at h;split at h
  ·rename_i c' hc;rcases aQN.1 h with rfl | h
   ·exact⟨s,by simp,hc⟩
   ·obtain⟨t,I,e⟩:=ai2 h;exact⟨t,by simp [I],e⟩
  ·obtain⟨t,I,e⟩:=ai2 h;exact⟨t,by simp [I],e⟩
theorem aCi {a:ak} (h:(vC a).1≠0):a∈[OU,OV,OW,ML,MM,Q3,MN,Q4,Q5,Q6,Q7,OX,uL]:=by
 unfold vC at h;simp only [List.mem_cons,List.not_mem_nil,or_false];split at h
 ·rename_i h1;rcases h1 with h1 | h1 | h1 <;> simp [h1]
 ·split at h
  ·rename_i h1;simp [h1]
  ·split at h
   ·rename_i h1;rcases h1 with h1 | h1 | h1 <;> simp [h1]
   ·split at h
    ·rename_i h1;rcases h1 with h1 | h1 | h1 | h1 | h1 <;> simp [h1]
    ·simp at h
theorem aCj (s:ak):(Q8 s).length<=s.length:=by unfold Q8;rw [List.length_drop];have h1:=(List.dropWhile_sublist (fun c=>!qC c) (l:=s.dropWhile qC)).length_le;have I:=(List.dropWhile_sublist qC (l:=s)).length_le;omega
theorem aCk {may:ak->Bool} {s:ak} {c:sK} (h:yl may s=some (some c)) (hs:s.length<=100000):adY c/\WY c:=by
 rw [ZU] at h;cases aI:Rf (nS s) with
 | true=>rw [aI,cond_true] at h;cases h
 | false =>
  cases I:okW may (nS s) with
  | true =>
   rw [aI,cond_false,I,cond_true] at h;injection h with h
   injection h with h
   subst h;have hm:∀ x∈nS s,x.length<=1000000:=fun x ah=>by have:=(Y8 ah).2.2;omega
   have hl:=aoz s;unfold ZT;cases hw:nS s with
   | nil=>rw [hw] at I;cases I
   | cons a r =>
    rw [hw] at hm I hl;simp only [okW,Bool.or_eq_true,Bool.and_eq_true,decide_eq_true_eq] at I;by_cases J:a=uL
    ·have:=aCj s;simp only [J,if_true];refine⟨by simp [adY],by simp,by simp,fun x ah=>?_,by simp only;omega⟩;simp at ah;subst ah;simp
    ·simp only [J,if_false];refine⟨?_,by simp,by simp only;omega,hm,by simp⟩;rcases I with I | I
     ·exact absurd I J
     ·exact aCi I.1.2
  | false=>rw [aI,cond_false,I,cond_false] at h;cases h
end
section
open Go.Lib
variable {v:Env} {O aCf:ak->Option dB}
def iT.BI:iT->Bool
 | .cmd _=>true
 | _=>false
end
section
open Go.RowKit
def ai3 (w:aRU) (g:Nat) (cs:aRW):Prop:=∃ t,w.heap[g]?=some (.cells cs.toArray t (0,0))
section
variable {w w':aRU} {g:Nat} {cs:aRW}
theorem ai3.cells (h:ai3 w g cs) (i:Nat):w.cell? (ad g i)=cs[i]?:=by obtain⟨t,h⟩:=h;rw [cell_of_row w g i _ t _ h];simp
end
end
section
open Go.RowKit Go.Shelf Go.Sort
def qQ (w:aRU):Prop:=∃ m,w.cell? (ad 0 0)=some (.int .i64 m)
theorem qQ.on (h:qQ w) (ae:Bl w w'):qQ w':=by obtain⟨m,hm⟩:=h;exact⟨m,(ae.cell (aQR w _ hm)).trans hm⟩
theorem aCl {aO:Nat} {n:Nat} {xs:aRW} (h:w.ownsRow base e aO v n xs):∃ A c,v = .slice A n c/\Own w base e aO A n c xs:=by
 obtain⟨hl,⟨rfl,rfl⟩ | ⟨g,cap,cur,rfl,ae,av,I,hm,hc,ah⟩⟩:=h
 ·have:xs=[]:=aQV (by simpa using hl);subst this;exact⟨none,0,rfl,Own.nil _ _ _ _⟩
 ·refine⟨some ⟨g,0,none⟩,cap,rfl,hl,I,hm,.inr ⟨g,0,cur,(0,0),rfl,ae,av,.inl rfl,om,fun j aC=>?_⟩⟩;rw [Nat.zero_add,<- ah,List.getElem?_take,if_pos aC];simp
theorem aCm (w:aRU) (x:Nat):CB 262 #[.int .i32 x] w (.bool (CO x)):=by
 have h1:CO x=(decide (x=32) || decide (x=9)):=by unfold CO;rw [Bool.eq_iff_iff];simp
 rw [h1];go_enter func262,ntmps262;go_wp2;all_goals go_ret
 ·rename_i h;obtain rfl:x=32:=om;exact⟨rfl,Below.refl _ _⟩
 ·refine⟨?_,Below.refl _ _⟩;show Ending.returned (Value.bool ((x:Int) == 32 || (x:Int) == 9))=_;have I:((x:Int) == 32)=decide (x=32):=by rw [Bool.eq_iff_iff];simp;omega
  have J:((x:Int) == 9)=decide (x=9):=by rw [Bool.eq_iff_iff];simp;omega
  rw [I,J]
theorem aCn (w:aRU):PredGrows prog 262 #[] CO w:=fun W x _ _=>aCm W x
theorem aCo:(prog.info? (Tryz.tlFields_ren.t 154)).map (fun i=>(i.zero,i.size,i.bytes))=some (some (.agg #[.int .i64 0,.int .i64 0]),2,16):=kr
theorem aCp:(prog.info? (Tryz.tlFields_ren.t 9)).map (fun i=>(i.zero,i.size,i.bytes))=some (some (.string ⟨#[]⟩),1,16):=kr
theorem aCq (w:aRU) (s:ak) (hs:s.length<=1000000000) :
  Calls prog 261 #[.string (aA s),.func (.func 262) #[] #[]] w fun e w'=>∃ A c,e = .returned (.slice A (nS s).length c)/\Own w' w.heap.size 9 1 A (nS s).length c (cB (nS s))/\Bl w w':=by
 have h:=Any.strings_FieldsFunc_grows Tryz.tlFields 262 #[] (enters_of func262 kr rfl) CO (aA s) w (by rw [iP];omega) (aCn w) aCo aCp;have hw:=aB4 (aA s);rw [gZ] at hw;have hl:(Lib.goFieldsP CO (aA s)).length=(nS s).length:=by rw [<- hw,List.length_map]
 have I:(Lib.goFieldsP CO (aA s)).map Value.string=cB (nS s):=by rw [<- hw,cB,List.map_map];exact List.map_congr_left fun x _=>by simp only [Function.comp_apply,Y3]
 rw [hl,I] at h;refine h.mono ?_;rintro e w' ⟨A,rfl,_,J,ae⟩;obtain⟨il,c2,M,Y⟩:=aCl J;cases M;exact⟨_,_,rfl,Y,ae⟩
theorem aqF (w:aRU) (s:ak) (hs:s.length<=1000000000) :
  Calls prog 237 #[.string (aA s)] w fun e w'=>∃ A c,e = .returned (.slice A (nS s).length c)/\Own w' w.heap.size 9 1 A (nS s).length c (cB (nS s))/\Bl w w':=by
 have h:=aCq w s hs;obtain⟨S,I,L,J⟩:=nq2 (aA s) (nS s);rw [<- I,<- J] at h |-;have H:=aa h;clear h I J;go_enter func237,ntmps237;go_wp2_with (go_at_call 261; refine H.o.mono ?_;rintro e w1 ⟨A,c,rfl,M,ae⟩;have Y:=aa M;have AA:=aa ae;clear M ae);go_ret;exact⟨A,c,rfl,Y.o,AA.o⟩
theorem aCr (s:ak):Lib.trimSuffix s [10]=if s.getLast?=some 10 then s.dropLast else s:=by
 unfold Lib.trimSuffix Lib.hasSuffix;rcases List.eq_nil_or_concat s with rfl | ⟨b,x,rfl⟩
 ·rfl
 ·rw [List.concat_eq_append,List.getLast?_concat,List.dropLast_concat];have h1:List.isSuffixOf [10] (b++[x])=(10 == x):=by simp [List.isSuffixOf,List.isPrefixOf]
  rw [h1];by_cases ah:x=10
  ·subst ah;simp
  ·have:((10:UInt8) == x)=false:=by simpa using aQ0 ah
   rw [this,if_neg sp,if_neg (by simpa using ah)]
theorem aCs (w:aRU) (s:ak) (hl:s.length<=1000000000) (aj:qQ w) :
  Calls prog 157 #[.string (aA s),.string ⟨#[10]⟩] w fun e w'=>∃ A c,e = .returned (.slice A (jl (· == 10) s).length c)/\Own w' w.heap.size 9 1 A (jl (· == 10) s).length c (cB (jl (· == 10) s))/\Bl w w':=by
 obtain⟨m,hm⟩:=aj;have h:=Any.strings_Split { Tryz.tlSplit with } kr (aA s) (aA [10]) m w (by rw [iP];omega) hm dc;obtain⟨h1,I⟩:=aiP 10 (jl (· == 10) s) (Y5 _ s) (aqp 10 s);rw [aiQ] at h1 I;have aI:0 < (jl (· == 10) s).length:=aRM.2 (Y5 _ s);have hlen:=TP (· == 10) s;rw [h1,I,show (jl (· == 10) s).length - 1+1=(jl (· == 10) s).length by omega] at h;refine h.mono ?_;rintro e w' ⟨rfl,rfl⟩;have J:((jl (· == 10) s).map aA).map Value.string=cB (jl (· == 10) s):=by rw [cB,List.map_map];rfl
 rw [J];have M:=Own.lit w (cB (jl (· == 10) s)).toArray 9 1 (jl (· == 10) s).length w.heap.size (aQF _) mV (by rw [List.size_toArray,aor];omega);exact⟨_,_,rfl,M,iD⟩
theorem ad1 (w:aRU) (s:ak) (hl:s.length<=1000000000) (aj:qQ w) :
  Calls prog 203 #[.string (aA s)] w fun e w'=>∃ A c,e = .returned (.slice A (jQ s).length c)/\Own w' w.heap.size 9 1 A (jQ s).length c (cB (jQ s))/\Bl w w':=by
 by_cases I:s=[]
 ·subst I;rw [show aA []=⟨#[]⟩ from rfl,ay1];go_enter func203,ntmps203;go_wp2;go_ret;exact⟨none,0,rfl,Own.nil _ _ _ _,Below.refl _ _⟩
 ·obtain⟨t,J⟩:=ai (if s.getLast?=some 10 then s.dropLast else s);have Y:jQ s=jl (· == 10) t:=by rw [jQ,if_neg I,J];split <;> rfl
  have AA:t.length<=1000000000:=by
   rw [J];split
   ·rw [List.length_dropLast];omega
   ·exact hl
  have c1:=Any.strings_TrimSuffix Tryz.tlTrim (aA s) (aA [10]) w (by rw [iP];omega);rw [gZ,gZ,aCr,<- J] at c1;have M:Calls prog 236 #[.string (aA s),.string ⟨#[10]⟩] w fun e w'=>e = .returned (.string (aA t))/\w'=w:=c1;have c2:=aCs w t AA aj;have AV:(aA s).toList.isEmpty=false:=by rw [ByteArray.toList_eq,gZ];simpa using I
  rw [Y];obtain⟨S,AB,T,AP,L,AQ⟩:=nq3 (aA s) (aA t) (jl (· == 10) t);rw [<- AB] at M AV |-;rw [<- AP] at M c2;rw [<- AQ] at c2 |-;have AX:=aa M;have AZ:=aa c2;clear c1 M c2 AB AP AQ Y J AA I hl aj;go_enter func203,ntmps203;go_wp2_with (first|(go_at_call 236; refine AX.o.mono ?_;rintro e w1 ⟨rfl,rfl⟩)|(go_at_call 157; refine AZ.o.mono ?_;rintro e af ⟨A,c,rfl,AU,ae⟩;have Aa:=aa AU;have Ac:=aa ae;clear AU ae));go_ret;exact⟨A,c,rfl,Aa.o,Ac.o⟩
end
section
open Go.RowKit Go.Shelf
theorem O0 {v:Bool} (w:aRU) (s:ByteArray) (l:aR0) (hs:s.size<=1100000) (hl:s.data.toList=l) (h:eB l=v):CB 43 #[.string s] w (.bool v):=by have:=adR w s hs;rw [hl,h] at this;exact this
theorem ai4 (w:aRU) (s d:ByteArray) (hs:s.size<=1100000) (aS:d.size<=1100000):CB 105 #[.string s,.string d] w (.bool (yI s.data.toList d.data.toList)):=by
 have Ac:=aa (ByteArray.toList_eq d);by_cases hm:eB s.data.toList=true
 ·have J:=fun w=>O0 w s _ om rfl hm;by_cases AA:d.toList=[]
  ·have I:yI s.data.toList d.data.toList=true:=by rw [<- Ac.o,AA];exact ayZ hm
   rw [I];clear I hm;go_enter func105,ntmps105;go_wp2_with (go_at_call 43; refine (J _).mono ?_;rintro e af ⟨rfl,ae⟩);go_ret;exact⟨rfl,ae⟩
  ·have he:d.toList.isEmpty=false:=by cases h:d.toList <;> simp_all
   have Y:d.data.toList.isEmpty=false:=by rw [<- Ac.o];exact he
   by_cases M:eB d.data.toList=true
   ·have AB:=fun w=>O0 w d _ om rfl M;obtain⟨D,AP⟩:=ai (d++⟨#[47]⟩);have AQ:D.data.toList=d.data.toList++[47]:=by rw [AP,adq]
    have Ad:D.size=d.size+1:=by rw [<- wL,AQ];simp
    obtain⟨v,AU⟩:=ai ((d.data.toList++[47]).isPrefixOf s.data.toList);have Ae:=fun w=>aqn w s D v om om (by rw [AQ,AU]);have I:yI s.data.toList d.data.toList=v:=by rw [yI,hm,Y,M,AU];simp
    rw [I];have Af:¬ (d.size+(⟨#[47]⟩:ByteArray).size > 9223372036854775807):=by show ¬ (d.size+1 > _);omega
    have Ag:=AP.symm;clear I hm M AQ Ad AU AA Y AP;go_enter func105,ntmps105;go_wp2_with (first|(go_at_call 43; (with_reducible refine (J _).mono ?_);rintro e af ⟨rfl,ae⟩;have AV:=ae;clear ae)|(go_at_call 43; (with_reducible refine (AB _).mono ?_);rintro e aD ⟨rfl,AX⟩)|(go_at_call 155; refine (Ae _).mono ?_;rintro e Ah ⟨rfl,rfl⟩));go_ret;exact⟨rfl,aU AV AX⟩
   ·have AZ:eB d.data.toList=false:=by simpa using M
    have AB:=fun w=>O0 w d _ om rfl AZ;have I:yI s.data.toList d.data.toList=false:=by rw [yI,Y,AZ];simp
    rw [I];clear I hm M AZ AA Y;go_enter func105,ntmps105;go_wp2_with (first|(go_at_call 43; (with_reducible refine (J _).mono ?_);rintro e af ⟨rfl,ae⟩;have AV:=ae;clear ae)|(go_at_call 43; (with_reducible refine (AB _).mono ?_);rintro e aD ⟨rfl,AX⟩));go_ret;exact⟨rfl,aU AV AX⟩
 ·have Aa:eB s.data.toList=false:=by simpa using hm
  have J:=fun w=>O0 w s _ om rfl Aa;rw [ay0 Aa];clear hm Aa;go_enter func105,ntmps105;go_wp2_with (go_at_call 43; refine (J _).mono ?_;rintro e af ⟨rfl,ae⟩);go_ret;exact⟨rfl,ae⟩
theorem ai7 (w:aRU) (s:fC) (hl:s.length<=1000000000) (aj:qQ w) :
  Calls prog 157 #[.string (aA s),.string ⟨#[47]⟩] w fun e w'=>∃ A c,e = .returned (.slice A (jl (· == 47) s).length c)/\Own w' w.heap.size 9 1 A (jl (· == 47) s).length c (cB (jl (· == 47) s))/\Bl w w':=by
 obtain⟨m,hm⟩:=aj;have h:=Any.strings_Split { Tryz.tlSplit with } kr (aA s) (aA [47]) m w (by rw [iP];omega) hm dc;obtain⟨h1,I⟩:=aiP 47 (jl (· == 47) s) (Y5 _ s) (aqp 47 s);rw [aiQ] at h1 I;have aI:0 < (jl (· == 47) s).length:=aRM.2 (Y5 _ s);have hlen:=TP (· == 47) s;rw [h1,I,show (jl (· == 47) s).length - 1+1=(jl (· == 47) s).length by omega] at h;refine h.mono ?_;rintro e w' ⟨rfl,rfl⟩;have J:((jl (· == 47) s).map aA).map Value.string=cB (jl (· == 47) s):=by rw [cB,List.map_map];rfl
 rw [J];have M:=Own.lit w (cB (jl (· == 47) s)).toArray 9 1 (jl (· == 47) s).length w.heap.size (aQF _) mV (by rw [List.size_toArray,aor];omega);exact⟨_,_,rfl,M,iD⟩
theorem aCt (w:aRU) (s:fC) (hs:s.length<=1100000):CB 158 #[.string (aA s)] w (.bool (!EE s)):=by have h:=aBU w s hs;obtain⟨S,I,v,J⟩:=nq2 (aA s) (EE s);rw [<- I,<- J] at h;rw [<- I,<- J];clear I J;go_enter func158,ntmps158;go_wp2_with (go_at_call 159; refine h.mono ?_;rintro e af ⟨rfl,ae⟩);go_ret;exact⟨rfl,ae⟩
theorem aqG (w:aRU) (s:fC) (hs:s.length<=1100000) (aj:qQ w):CB 110 #[.string (aA s)] w (.bool (G5 s)):=by
 have h1:=ai7 w s om aj;have hlen:=TP (· == 47) s;have hle:∀ x∈jl (· == 47) s,x.length<=1100000:=fun x ah=>by have:=Y7 (· == 47) ah;omega
 have I:=aa (show G5 s=(decide ((jl (· == 47) s).length<=16) && !((jl (· == 47) s).any fun x=>!EE x)) from rfl);obtain⟨ps,AX⟩:=ai (jl (· == 47) s);rw [<- AX] at h1 hlen hle I;obtain⟨n,J⟩:=ai ps.length;have Y:=fun (AA:ps.length<=16) (W:aRU) (A:aRV) (c:Nat) (h:Own W w.heap.size 9 1 A ps.length c (cB ps))=>WM W A c ps h.rd om 158 #[] (enters_of func158 kr rfl) (fun x=>!EE x) fun aY _ x ah=>aCt aY x (hle x ah);obtain⟨S,AB,R,AP,v,AQ⟩:=nq3 (aA s) (G5 s) (ps.any fun x=>!EE x);rw [<- AP,<- J,<- AQ] at I;rw [<- AB,<- J] at h1;rw [<- J,<- AQ] at Y;rw [<- AB,<- AP];have H1:=aa h1;have AZ:=aa Y;have Ae:(n:Int)<=9223372036854775807:=om;clear h1 Y hlen hle AX AB AP AQ aj J;by_cases AA:n<=16
 ·have Aa:(n:Int)<=16:=om;have AU:=aa (show R = !v by rw [I.o];simp [AA]);go_enter func110,ntmps110;go_wp2_with (first|(go_at_call 157; refine H1.o.mono ?_;rintro e af ⟨A,c,rfl,M,ae⟩;have AV:=aa ae;have Ac:=aa (AZ.o om af A c M);clear ae M)|(go_at_call 111; refine jr Ac.o ?_;intro aD Ad));go_ret;exact⟨by rw [AU.o];rfl,aU AV.o Ad.o⟩
 ·have Aa:¬ (n:Int)<=16:=om;have AU:=aa (show R=false by rw [I.o];simp [AA]);go_enter func110,ntmps110;go_wp2_with (first|(go_at_call 157; refine H1.o.mono ?_;rintro e af ⟨A,c,rfl,M,ae⟩;have AV:=aa ae;clear ae M));go_ret;exact⟨by rw [AU.o];rfl,AV.o⟩
theorem aCw (w:aRU) (s:fC) (hs:s.length<=1100000):CB 107 #[.string (aA s)] w (.bool (!yI s [111,117,116])):=by have h:=ai4 w (aA s) ⟨#[111,117,116]⟩ (by rw [iP];omega) dc;rw [gZ] at h;obtain⟨S,I,v,J⟩:=nq2 (aA s) (yI s [111,117,116]);rw [<- I,show yI s (⟨#[111,117,116]⟩:ByteArray).data.toList=v from J.symm] at h;rw [<- I,<- J];clear I J;go_enter func107,ntmps107;go_wp2_with (go_at_call 105; refine h.mono ?_;rintro e af ⟨rfl,ae⟩);go_ret;exact⟨rfl,ae⟩
theorem aCx (w:aRU) (s:fC) (hs:s.length<=1100000):CB 108 #[.string (aA s)] w (.bool (!eB s)):=by have h:=O0 w (aA s) s (by rw [iP];omega) (gZ s) rfl;obtain⟨S,I,v,J⟩:=nq2 (aA s) (eB s);rw [<- I,<- J] at h;rw [<- I,<- J];clear I J;go_enter func108,ntmps108;go_wp2_with (go_at_call 43; refine h.mono ?_;rintro e af ⟨rfl,ae⟩);go_ret;exact⟨rfl,ae⟩
theorem aCy (w:aRU) (s:fC) (hs:s.length<=1100000) (aj:qQ w):CB 109 #[.string (aA s)] w (.bool (!G5 s)):=by have h:=aqG w s hs aj;obtain⟨S,I,v,J⟩:=nq2 (aA s) (G5 s);rw [<- I,<- J] at h;rw [<- I,<- J];clear I J;go_enter func109,ntmps109;go_wp2_with (go_at_call 110; refine h.mono ?_;rintro e af ⟨rfl,ae⟩);go_ret;exact⟨rfl,ae⟩
def DX (p s:fC):Nat->Nat->Nat->Int->Nat->Bool
 | 0,_,_,_,_=>false
 | f+1,i,k,star,at_ =>
  if k < s.length then
   if i < p.length/\p.getD i 0=42 then DX p s f (i+1) k i k
   else if i < p.length/\(p.getD i 0=63\/p.getD i 0=s.getD k 0) then DX p s f (i+1) (k+1) star at_
   else if 0<=star then DX p s f (star.toNat+1) (at_+1) star (at_+1)
   else false
  else (p.drop i).all (· == 42)
def Ut (p s:fC):Bool:=DX p s (s.length * (p.length+2)+(p.length+1)+1) 0 0 (-1) 0
theorem aqH (c:UInt8):∀ l:List UInt8,(l.dropWhile (· == c)).isEmpty=l.all (· == c)
 | []=>rfl
 | x :: l=>by
  rw [List.dropWhile_cons,List.all_cons];by_cases h:(x == c)=true
  ·rw [if_pos h,h,aqH c l,Bool.true_and]
  ·rw [if_neg h,Bool.eq_false_iff.2 h];rfl
theorem byte_at {S:ByteArray} {s:fC} (hs:S=aA s) (h:q < S.size):S[q]'h=s.getD q 0:=by
 have e:s=S.data.toList:=by rw [hs,gZ]
 have I:q < S.data.toList.length:=by rw [wL];exact h
 rw [e,List.getD_eq_getElem?_getD,List.getElem?_eq_getElem I];exact (Array.getElem_toList _).symm
theorem ai8 (a b:UInt8):(((a.toNat:Int) == (b.toNat:Int))=(a == b)):=by rw [Bool.eq_iff_iff,beq_iff_eq,beq_iff_eq,<- UInt8.toNat_inj];omega
theorem aCz (l:aR0) (c:UInt8):(Lib.trimB l c).isEmpty=l.all (· == c):=by
 unfold Lib.trimB Lib.trimLeftB Lib.trimRightB;rw [aqH,List.all_reverse];have key:∀ l:List UInt8,(l.dropWhile (· == c)).all (· == c)=l.all (· == c):=by
  intro l;induction l with
  | nil=>rfl
  | cons x l I =>
   rw [List.dropWhile_cons,List.all_cons];by_cases h:(x == c)=true
   ·rw [if_pos h,h,I,Bool.true_and]
   ·rw [if_neg h,List.all_cons]
 rw [key,List.all_reverse]
theorem aCA (w:aRU) (p s:fC) (aI:p.length<=1000) (hs:s.length<=1000) :
  CB 231 #[.string (aA p),.string (aA s)] w (.bool (Ut p s)):=by
 obtain⟨P,AU,S,AV,m,hm,n,Y⟩:=nq4 (aA p) (aA s) p.length s.length;have BR:P.size=m:=by rw [AU,iP,hm]
 have BS:S.size=n:=by rw [AV,iP,Y]
 obtain⟨R,Ad,N,Ae⟩:=nq2 (Ut p s) (n * (m+2)+(m+1)+1);have Az:R=DX p s N 0 0 (-1) 0:=by rw [Ad,Ut,Ae,hm,Y]
 rw [<- Ad,<- AU,<- AV];rw [<- hm] at aI;rw [<- Y] at hs;obtain⟨BB,BU,Af,BX,BZ,Bb,Bc,Be⟩:=hq8 AU AV hm Y BR BS Az Ae;clear AU AV hm Y Ad Az Ae;go_enter func231,ntmps231;go_wp2_with fail;go_loopg [5,6,7,8] N (fun gk Bf Bg Bh Bi wr=>∃ (i k a:Nat) (st:Int),Bf = .int .i64 i/\Bg = .int .i64 k/\Bh = .int .i64 st/\Bi = .int .i64 a/\i<=m/\st < i /\ -1<=st/\a<=k/\k<=n/\(n - a) * (m+2)+(m+1 - i) < gk/\R=DX p s gk i k st a/\Bl w wr);case atStart=>exact⟨0,0,0,-1,rfl,rfl,rfl,rfl,om,om,om,om,om,by rw [Be.o];simp,Bc.o,Below.refl _ _⟩
 case round =>
  obtain⟨i,k,a,st,rfl,rfl,rfl,rfl,CQ,CS,CU,CV,CW,BC,Ag,BD⟩:=hrel;obtain⟨f,rfl⟩:∃ f,gk=f+1:=⟨gk - 1,om⟩;rw [DX,<- BX.o,<- Af.o] at Ag;obtain⟨AX,J,AA⟩:=hq3 Ag BD BC;clear Ag BD BC;have CX:(0:Int)<=i:=om;have CY:(0:Int)<=k:=om;have CZ:(i:Int)<=1000:=om;by_cases AB:k < n
  ·have Bj:(k:Int) < n:=om;have BF:k < S.size:=by have:=Bb.o;omega
   have BG:=byte_at BU.o BF;by_cases AZ:i < m
   ·have Bn:(i:Int) < m:=om;have Aa:i < P.size:=by have:=BZ.o;omega
    have Ac:=byte_at BB.o Aa;have Bp:(((P[i]'Aa).toNat:Int) == 42)=(p.getD i 0 == 42):=by rw [Ac];exact ai8 _ 42
    have Bq:(((P[i]'Aa).toNat:Int) == 63)=(p.getD i 0 == 63):=by rw [Ac];exact ai8 _ 63
    have Br:(((P[i]'Aa).toNat:Int) == ((S[k]'BF).toNat:Int))=(p.getD i 0 == s.getD k 0):=by rw [Ac,BG];exact ai8 _ _
    obtain⟨Bt,Ah,C8,Ak,CF,Al⟩:=nq3 (p.getD i 0 == 42) (p.getD i 0 == 63) (p.getD i 0 == s.getD k 0);rw [<- Ah] at Bp;rw [<- Ak] at Bq;rw [<- Al] at Br;obtain⟨BH,BK,BL⟩:=hq3 Ah Ak Al;clear Ah Ak Al Ac BG;cases Bt with
    | true =>
     have BN:R=DX p s f (i+1) k i k:=by rw [AX.o,if_pos AB,if_pos ⟨AZ,by have:=BH.o.symm;simpa using this⟩]
     have I:=aa BN;clear BN;go_wp2_with fail;go_roundg f;case rel=>exact⟨i+1,k,k,(i:Int),by go_num,by go_num,by go_num,by go_num,om,om,om,om,om,by have h1:=AA.o;have AP:(n - k) * (m+2)<=(n - a) * (m+2):=aQ8 _ om;omega,I.o,J.o⟩
     case measure=>omega
    | false =>
     have n42:¬ p.getD i 0=42:=by have:=BH.o.symm;simpa using this
     have BO:R=if p.getD i 0=63\/p.getD i 0=s.getD k 0 then DX p s f (i+1) (k+1) st a else if 0<=st then DX p s f (st.toNat+1) (a+1) st (a+1) else false:=by rw [AX.o,if_pos AB,if_neg (fun h=>n42 h.2)];simp only [AZ,true_and]
     have Am:=aa BO;clear BO n42;cases C8 with
     | true =>
      have I:=aa (show R=DX p s f (i+1) (k+1) st a by rw [Am.o,if_pos (.inl (by have:=BK.o.symm;simpa using this))]);go_wp2_with fail;go_quiet (fail);go_wp2_with fail;go_roundg f;case rel=>exact⟨i+1,k+1,a,st,by go_num,by go_num,by go_num,by go_num,om,om,om,om,om,by have h1:=AA.o;omega,I.o,below_drewN J.o _⟩
      case measure=>omega
     | false =>
      cases CF with
      | true =>
       have I:=aa (show R=DX p s f (i+1) (k+1) st a by rw [Am.o,if_pos (.inr (by have:=BL.o.symm;simpa using this))]);go_wp2_with fail;go_quiet (fail);go_wp2_with fail;go_roundg f;case rel=>exact⟨i+1,k+1,a,st,by go_num,by go_num,by go_num,by go_num,om,om,om,om,om,by have h1:=AA.o;omega,I.o,below_drewN J.o _⟩
       case measure=>omega
      | false =>
       have CG:¬ (p.getD i 0=63\/p.getD i 0=s.getD k 0):=by have h1:=BK.o.symm;have AP:=BL.o.symm;simp only [beq_eq_false_iff_ne] at h1 AP;exact fun h=>h.elim h1 AP
       have M:R=if 0<=st then DX p s f (st.toNat+1) (a+1) st (a+1) else false:=by rw [Am.o,if_neg CG]
       by_cases AQ:0<=st
       ·obtain⟨c,rfl⟩:∃ c:Nat,st=c:=⟨st.toNat,om⟩;have I:=aa (show R=DX p s f (c+1) (a+1) c (a+1) by rw [M,if_pos AQ];rfl);clear M;go_wp2_with fail;go_quiet (fail);go_wp2_with fail;go_roundg f;case rel=>exact⟨c+1,a+1,a+1,(c:Int),by go_num,by go_num,by go_num,by go_num,om,om,om,om,om,by have h1:=AA.o;have AP:(n - a) * (m+2)=(n - (a+1)) * (m+2)+(m+2):=(by rw [<- Nat.succ_mul,show (n - (a+1)).succ=n - a by omega]);omega,I.o,below_drewN J.o _⟩
        case measure=>omega
       ·have I:=aa (show R=false by rw [M,if_neg AQ]);clear M;go_wp2_with fail;go_quiet (fail);go_wp2_with fail;go_ret;exact⟨by rw [I.o];rfl,below_drewN J.o _⟩
   ·have Bn:¬ (i:Int) < m:=om;have M:R=if 0<=st then DX p s f (st.toNat+1) (a+1) st (a+1) else false:=by rw [AX.o,if_pos AB,if_neg (fun h=>AZ h.1),if_neg (fun h=>AZ h.1)]
    by_cases AQ:0<=st
    ·obtain⟨c,rfl⟩:∃ c:Nat,st=c:=⟨st.toNat,om⟩;have I:=aa (show R=DX p s f (c+1) (a+1) c (a+1) by rw [M,if_pos AQ];rfl);clear M;go_wp2_with fail;go_quiet (fail);go_wp2_with fail;go_roundg f;case rel=>exact⟨c+1,a+1,a+1,(c:Int),by go_num,by go_num,by go_num,by go_num,om,om,om,om,om,by have h1:=AA.o;have AP:(n - a) * (m+2)=(n - (a+1)) * (m+2)+(m+2):=(by rw [<- Nat.succ_mul,show (n - (a+1)).succ=n - a by omega]);omega,I.o,below_drewN J.o _⟩
     case measure=>omega
    ·have I:=aa (show R=false by rw [M,if_neg AQ]);clear M;go_wp2_with fail;go_quiet (fail);go_wp2_with fail;go_ret;exact⟨by rw [I.o];rfl,below_drewN J.o _⟩
  ·have Bj:¬ (k:Int) < n:=om;have BP:R=(p.drop i).all (· == 42):=by rw [AX.o,if_neg AB]
   obtain⟨U,Ao⟩:=ai (P.extract i m);have Ap:U.data.toList=p.drop i:=by rw [Ao,Oj,BB.o,gZ];exact aRB (by rw [List.length_drop,Af.o];omega)
   have CJ:U.size<=1000:=by rw [<- wL,Ap,List.length_drop,<- Af.o];omega
   have Aq:=fun w=>Any.strings_Trim_one Tryz.tlTrimB U 42 dc w om;obtain⟨T,Av⟩:=ai (⟨(Lib.trimB U.data.toList 42).toArray⟩:ByteArray);have Ca:(T.toList == ([]:aR0))=R:=by rw [ByteArray.toList_eq,Av,BP,<- Ap,<- aCz];cases Lib.trimB U.data.toList 42 <;> rfl
   rw [<- Av] at Aq;have CK:=aa (show ∀ w,Calls prog 255 #[.string U,.string ⟨#[42]⟩] w fun e w'=>e = .returned (.string T)/\(w'=w\/w'=w.drew) from Aq);have Cc:=Ao.symm;clear Aq Av BP Ao Ap CJ AB;go_wp2_with (go_at_call 255; refine (CK.o _).mono ?_;rintro e af ⟨rfl,ae⟩;have CL:=aa (show Bl w af by (rcases ae with rfl | rfl;exact J.o;exact J.o.drew));clear ae);go_ret;exact⟨rfl,CL.o⟩
end
end Go.Proofs.YtjkinjbkknanbaaGreatDoor
