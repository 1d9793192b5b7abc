/- Pc -/
import Derived.Test.YtjkinjbkknanbaaGreatDoorPb
import Derived.Test.YtjkinjbkknanbaaGreatDoorLaidX
set_option maxRecDepth 100000
set_option maxHeartbeats 8000000
set_option linter.unusedSimpArgs false
set_option linter.unusedVariables false
namespace Go.Proofs.YtjkinjbkknanbaaGreatDoor
open Go.Proofs.Tryz
variable {w w':aRB}
variable {base b k M n0 B q r:Nat}
variable {e t:TypeId}
variable {v:Value}
variable {l tY:aRH}
variable {ys:List (List UInt8)}
variable {os:Array Obj}
variable {α:Type}
variable {p:ak}
section
open Go.RowKit Go.Shelf
attribute [local go_sem] Oper.semAt_some
theorem ahL {n:Nat} {xs:aRD} (h:w.ownsRow base e 1 v n xs):∃ A c,v = .slice A n c/\Own w base e 1 A n c xs:=by
 obtain⟨hl,⟨rfl,rfl⟩ | ⟨g,cap,cur,rfl,ae,ax,I,hm,hc,ah⟩⟩:=h
 ·have:xs=[]:=aQC (by simpa using hl);subst this;exact⟨none,0,rfl,Own.nil _ _ _ _⟩
 ·refine⟨some ⟨g,0,none⟩,cap,rfl,hl,I,hm,.inr ⟨g,0,cur,(0,0),rfl,ae,ax,.inl rfl,om,fun j aD=>?_⟩⟩;rw [Nat.zero_add,<- ah,List.getElem?_take,if_pos aD];simp
theorem aAn (n:Nat) (aB:2<=n) (g:Nat) (lb:Array Value) (zV:∀ args w,(callFunc g args).run prog w = .ok (.enter g args) w)
  (S TN:List (List UInt8)->Prop) (N n0:Nat) (eZ:N<=maxLen) (apu:N * 16<=140737488355328) (w:aRB) (CE:n0<=w.heap.size) (VT:SeqStopsK Fence.wide (n - 1) prog g lb (fun x:List UInt8=>#[Ku x]) (Below n0) S TN N w) :
  CallsIn Fence.wide n prog 125 #[.slice none 0 0,.func (.func g) #[] lb] w fun e w'=>∃ (v:Value) (CK:List (List UInt8)),e = .returned v/\S CK/\w'.ownsRow w.heap.size 9 1 v CK.length (cu CK)/\Bl w w':=by
 obtain⟨i0,AO,AP,AV,AZ⟩:=info_parts ahf;have h1:1<=n:=om;refine aRf func125 rfl trivial ?_ rfl;simp only [ntmps125,List.size_toArray,List.length_cons,List.length_nil,Nat.reduceAdd,Nat.reduceSub,Array.replicate_succ,Array.replicate_zero,List.push_toArray,List.append_toArray,List.nil_append,List.cons_append]
 gi_wp2
 have Aa:=Boxed.new w 24 (.slice none 0 0);have A7:Bl w (w.alloc (.cells #[.slice none 0 0] 24)):=(Below.refl _ w).alloc (aQm _) _;refine wpIn_rangeFunc_ownG rfl h1 (gf:=g) (lb:=lb) rfl trivial zV VT belowK_t (belowK_b (by simp;omega)) A7 (fun _=>rfl)
  (fun pre W=>(∃ v,Boxed W w.heap.size 24 v/\W.ownsRow w.heap.size 9 1 v pre.length (cu pre)/\True)/\Bl w W)
  (fun _ _ _=>False)
  (OwnFrom.and (Own.from (holdsRow_own w.heap.size w.heap.size 24 9 1 (fun pre=>pre.length) (fun pre=>cu pre) (fun _ _=>True)) _) (ownFrom_below (aQm _) sp))
  (fun _ _ _ _ _ hs _ _=>hs)
  ⟨⟨_,Aa,World.ownsRow_nil _ _ _ _,trivial⟩,A7⟩
  (fun x=>{ tmps:=#[.slice none 0 0,.func (.func g) #[] lb,pp w.heap.size 0,undef,.slice none 0 0,Ku x,.func (.func g) #[] lb,Ku x,undef,undef,undef,undef,undef],defers:=[] }) ?assign ?body ?done ?stop
 case assign =>
  intro l x W K I;unfold Ku at I |-
  gi_wp2
  exact I
 case body =>
  rintro l pre x W ⟨⟨v,M,Y,Ab⟩,J⟩ Ai;have hc:=M.cell;unfold Ku
  gi_wp2_with (gi_at_builtin;refine wpListIn_append_own _ rfl _ _ 24 rfl w.heap.size 9 i0 (.string ⟨#[]⟩) 1 16 underlying24 AO AP AV AZ rfl dc _ _ _ rfl (Y.alloc _) ⟨W.heap.size,0,none⟩ 1 1 [.string (az x)] rfl rfl (cell_one_new _ _ _) (by simp [Value.oneCell']) om om (by have:=J.size;simp;omega) ?_;intro v' w1 AA Ad _;obtain⟨Ak,Al,rfl⟩:=ownsRow_succ AA;obtain⟨AB,Ae,AJ,Af,AL⟩:=M.appended dc Y J.size (aQm _) AA Ad;have Am:=AB.cell;have Ao:=AB.frozen)
  refine⟨Af.from _,AL.mono CE,⟨_,Ae,?_,trivial⟩,J.trans AL⟩;rw [aol] at AJ;simpa using AJ
 case done =>
  rintro D ys W Ag Ah ⟨⟨v,M,Y,Ab⟩,J⟩ I;have hc:=M.cell
  gi_wp2
  refine⟨by simp,.inl ⟨_,_,rfl,aQ5 I,?_⟩⟩;exact⟨_,aQX rfl _ _ _,v,ys,rfl,Ah,ownsRow_putObj Y _ I rfl,J.trans (belowK_b (w:=w) (aQm _) W D _ _ (by simp at Ag;omega) I rfl rfl)⟩
 case stop =>
  rintro D c pre W _ _ h _;exact h.elim
theorem aAq (n:Nat) (aB:3<=n) (g:Nat) (lb:Array Value) (zV:∀ args w,(callFunc g args).run prog w = .ok (.enter g args) w)
  (S TN:List (List UInt8)->Prop) (N n0:Nat) (eZ:N<=maxLen) (apu:N * 16<=140737488355328) (w:aRB) (CE:n0<=w.heap.size) (VT:SeqStopsK Fence.wide (n - 1 - 1) prog g lb (fun x:List UInt8=>#[Ku x]) (Below n0) S TN N w) :
  CallsIn Fence.wide n prog 74 #[.func (.func g) #[] lb] w fun e w'=>∃ (v:Value) (CK:List (List UInt8)),e = .returned v/\S CK/\w'.ownsRow w.heap.size 9 1 v CK.length (cu CK)/\Bl w w':=by
 have fe:=aAn (n - 1) om g lb zV S TN N n0 eZ apu w CE VT;have h1:1<=n:=om;have M:=V8 125;refine aQ1 func74 rfl trivial ?_ rfl;simp only [ntmps74,List.size_toArray,List.length_cons,List.length_nil,Nat.reduceAdd,Nat.reduceSub,Array.replicate_succ,Array.replicate_zero,List.push_toArray,List.append_toArray,List.nil_append,List.cons_append]
 gi_wp2_with (gi_at_call 125; refine fe.mono ?_;rintro e w' ⟨v,CK,rfl,I,J,ae⟩)
 go_ret;exact⟨v,CK,rfl,I,J,ae⟩
end
section
open Go.Lib
def Y2 (l:aRH):Nat:=l.foldl (fun a d=>10 * a+(d.toNat - 48)) 0
theorem aAr (l:aRH) (d:UInt8):Y2 (l++[d])=10 * Y2 l+(d.toNat - 48):=by simp [Y2,List.foldl_append]
theorem ac4 {n:Nat} (h:n < 10):(UInt8.ofNat (48+n)).toNat=48+n:=by rw [UInt8.toNat_ofNat'];omega
theorem apv:∀ n:Nat,Y2 (decDigits n)=n:=fun n=>by
 induction n using Nat.strongRecOn with
 | _ n I =>
  rw [decDigits];split
  ·rename_i h;simp only [Y2,List.foldl_cons,List.foldl_nil];rw [ac4 h];omega
  ·rename_i h;rw [aAr,I (n / 10) om,ac4 om];omega
theorem aAs {a:Nat} (h:decDigits a=decDigits b):a=b:=by rw [<- apv a,<- apv b,h]
theorem apw:∀ (n:Nat) (d:UInt8),d∈decDigits n->d≠58:=fun n=>by
 induction n using Nat.strongRecOn with
 | _ n J =>
  intro d I;rw [decDigits] at I;split at I
  ·rename_i h;rw [List.mem_singleton] at I;subst I;intro e;have:=congrArg UInt8.toNat e;rw [ac4 h] at this;have M:(58:UInt8).toNat=58:=rfl;omega
  ·rename_i h;rw [List.mem_append,List.mem_singleton] at I;rcases I with I | I
   ·exact J (n / 10) om d I
   ·subst I;intro e;have:=congrArg UInt8.toNat e;rw [ac4 om] at this;have M:(58:UInt8).toNat=58:=rfl;omega
theorem ahM:∀ (k n:Nat),n < 10 ^ (k+1)->(decDigits n).length<=k+1
 | 0,n,h=>by
  rw [decDigits,dif_pos om];simp
 | k+1,n,h=>by
  rw [decDigits];split
  ·simp
  ·have:=ahM k (n / 10) (by rw [Nat.pow_succ] at h;omega);rw [List.length_append];simp only [List.length_cons,List.length_nil];omega
def nG (l:List (List UInt8)):List UInt8:=l.flatMap fun s=>decDigits s.length++58 :: s
theorem ac5:nG []=[]:=rfl
theorem V9 (s:aRH) (l:List (List UInt8)):nG (s :: l)=decDigits s.length++58 :: (s++nG l):=by simp [nG]
theorem aAu (l:List (List UInt8)) (s:aRH):nG (l++[s])=nG l++(decDigits s.length++58 :: s):=by simp [nG]
theorem apx:∀ {a b r t:aRH},(∀ d∈a,d≠58)->(∀ d∈b,d≠58)->a++58 :: r=b++58 :: t->a=b/\r=t
 | [],[],r,t,_,_,h=>⟨rfl,by simpa using h⟩
 | [],y :: b,r,t,_,ae,h=>by
  rw [List.nil_append,List.cons_append] at h;injection h with h1 _
  exact absurd h1.symm (ae y sp)
 | x :: a,[],r,t,I,_,h=>by
  rw [List.nil_append,List.cons_append] at h;injection h with h1 _
  exact absurd h1 (I x sp)
 | x :: a,y :: b,r,t,I,ae,h=>by
  rw [List.cons_append,List.cons_append] at h;injection h with h1 M
  obtain⟨Y,A7⟩:=apx (fun d J=>I d (by simp [J])) (fun d J=>ae d (by simp [J])) M;exact⟨by rw [h1,Y],A7⟩
theorem Wd:∀ {a b:List (List UInt8)},nG a=nG b->a=b
 | [],[],_=>rfl
 | [],t :: b,h=>by
  have:=congrArg List.length h;rw [V9,ac5] at this;simp at this
 | s :: a,[],h=>by
  have:=congrArg List.length h;rw [V9,ac5] at this;simp at this
 | s :: a,t :: b,h=>by
  rw [V9,V9] at h;obtain⟨h1,I⟩:=apx (apw _) (apw _) h;have hl:=aAs h1;obtain⟨J,M⟩:=List.append_inj I hl;rw [J,Wd M]
theorem apy {a b:aRH} (h:a<=b) (bJ:a≠b):a < b:=by
 rcases List.le_iff_lt_or_eq.1 h with h | h
 ·exact h
 ·exact absurd h bJ
def We (l m:List (List UInt8)):Prop:=m.Pairwise (· < ·)/\∀ x,x∈m ↔ x∈l
theorem apz:∀ {l m:List (List UInt8)},l.Pairwise (· < ·)->m.Pairwise (· < ·)->(∀ x,x∈l ↔ x∈m)->l=m
 | [],[],_,_,_=>rfl
 | [],b :: m,_,_,h=>by have:=(h b).2 sp;simp at this
 | a :: l,[],_,_,h=>by have:=(h a).1 sp;simp at this
 | a :: l,b :: m,h1,J,h=>by
  obtain⟨I,M⟩:=aRg.1 h1;obtain⟨ae,Y⟩:=aRg.1 J;have e:a=b:=by
   have x:=(h a).1 sp;have y:=(h b).2 sp;rcases aQw.1 x with x | x
   ·exact x
   ·rcases aQw.1 y with y | y
    ·exact y.symm
    ·exact absurd (I b y) (List.lt_asymm (ae a x))
  subst e;have hm:∀ x,x∈l ↔ x∈m:=by
   intro x;constructor
   ·intro ah;rcases aQw.1 ((h x).1 (aQQ _ ah)) with e | e
    ·subst e;exact absurd (I x ah) (List.lt_irrefl x)
    ·exact e
   ·intro ah;rcases aQw.1 ((h x).2 (aQQ _ ah)) with e | e
    ·subst e;exact absurd (ae x ah) (List.lt_irrefl x)
    ·exact e
  rw [apz M Y hm]
theorem We.one {l m Kw:List (List UInt8)} (h:We l m) (mR:We l Kw):m=Kw:=apz h.1 mR.1 fun x=>(h.2 x).trans (mR.2 x).symm
theorem apA (h:ys.Pairwise (·<=·)):∀ m,m<=ys.length->(compactUpTo ys.toArray m).Pairwise (· < ·)/\∀ x,x∈compactUpTo ys.toArray m ↔ x∈ys.take m
 | 0,_=>by simp [compactUpTo]
 | m+1,hm=>by
  obtain⟨h1,I⟩:=apA h m om;rw [compactUpTo_succ];have J:ys.toArray[m]! = ys[m]:=by simp [getElem!_pos,show m < ys.length by omega]
  have Y:ys.take (m+1)=ys.take m++[ys[m]]:=by rw [List.take_add_one,List.getElem?_eq_getElem om];rfl
  rw [Y,J];have aL:=List.pairwise_iff_getElem.1 h;by_cases hk:keeps ys.toArray m=true
  ·rw [if_pos hk];refine⟨List.pairwise_append.2 ⟨h1,by simp,fun a A7 b ae=>?_⟩,fun x=>by simp only [List.mem_append,List.mem_singleton,I x]⟩;have:=(I a).1 A7;simp only [List.mem_singleton] at ae;subst ae;obtain⟨j,aD,rfl⟩:=aRu.1 this;rw [List.length_take] at aD;rw [List.getElem_take];simp only [keeps,decide_eq_true_eq] at hk;rcases hk with hk | hk
   ·omega
   ·have e:ys.toArray[m - 1]! = ys[m - 1]:=by simp [getElem!_pos,show m - 1 < ys.length by omega]
    rw [J,e] at hk;have M:=apy (aL (m - 1) m om om om) (fun e=>hk e.symm);rcases aQD j (m - 1) with AA | AL
    ·have gB:=aL j (m - 1) om om AA;exact apy (List.le_trans gB (List.le_of_lt M)) (fun AB=>by rw [AB] at gB;exact absurd M (aQ6.2 gB))
    ·obtain rfl:j=m - 1:=om;exact M
  ·rw [if_neg hk];simp only [keeps,decide_eq_true_eq,not_or] at hk;obtain⟨AO,hk⟩:=hk;have e:ys.toArray[m - 1]! = ys[m - 1]:=by simp [getElem!_pos,show m - 1 < ys.length by omega]
   have he:ys[m]=ys[m - 1]:=by rw [J,e] at hk;exact Classical.not_not.1 hk
   have AJ:ys[m]∈ys.take m:=by rw [he];exact aRu.2 ⟨m - 1,by rw [List.length_take];omega,by rw [List.getElem_take]⟩
   refine⟨by simpa using h1,fun x=>?_⟩;simp only [List.append_nil,List.mem_append,List.mem_singleton];rw [I x];exact⟨fun ah=>.inl ah,fun ah=>ah.elim id fun e=>by rw [e];exact AJ⟩
def rG (l:List (List UInt8)):List (List UInt8):=l.mergeSort fun x y=>decide (x<=y)
theorem aAv (l:List (List UInt8)):(rG l).Pairwise (·<=·):=by have:=List.pairwise_mergeSort (le:=fun x y:List UInt8=>decide (x<=y)) (fun a b c h1 I=>by simp only [decide_eq_true_eq] at *;exact List.le_trans h1 I) (fun a b=>by simp only [Bool.or_eq_true,decide_eq_true_eq];exact List.le_total a b) l;exact this.imp fun h=>by simpa using h
theorem aAw (l:List (List UInt8)) (x:aRH):x∈rG l ↔ x∈l:=List.mem_mergeSort
theorem DU (l:List (List UInt8)):(rG l).length=l.length:=List.length_mergeSort l
def ny (l:List (List UInt8)):List (List UInt8):=compact (rG l)
theorem Ot (l:List (List UInt8)):We l (ny l):=by obtain⟨h1,I⟩:=apA (aAv l) (rG l).length (aQm _);refine⟨h1,fun x=>?_⟩;rw [ny,compact,I x,List.take_length,aAw]
theorem ahN (ys:List (List UInt8)):(compact ys).length<=ys.length:=by rw [compact,compactUpTo,List.length_map];exact aQn (aQ0 _ _) sp
theorem Ou (l:List (List UInt8)):(ny l).length<=l.length:=by have:=ahN (rG l);rw [DU] at this;exact this
abbrev xL:=List UInt8 × List UInt8
def valOf (l:List xL) (n:aRH):List UInt8:=((l.find? fun p=>p.1 == n).map (·.2)).getD []
def CO (l:List xL):List (List UInt8):=(ny (l.map (·.1))).flatMap fun n=>[n,valOf l n]
structure kI where
 tool:List UInt8
 env:List xL
 ins:List (List UInt8)
 asks:List (List UInt8)
 outs:List (List UInt8)
def CP (a:kI):List (List (List UInt8)):=[CO a.env,ny a.ins,ny a.asks,ny a.outs]
def vU (a:kI):List UInt8:=nG (a.tool :: (CP a).map nG)
theorem aAx {a b:kI}:vU a=vU b ↔ a.tool=b.tool/\CP a=CP b:=by
 constructor
 ·intro h;have:=Wd h;injection this with h1 I
  refine⟨h1,?_⟩;simp only [CP,List.map_cons,List.map_nil,List.cons.injEq,and_true] at I |-;exact⟨Wd I.1,Wd I.2.1,Wd I.2.2.1,Wd I.2.2.2⟩
 ·rintro⟨h1,I⟩;rw [vU,vU,h1,I]
end
section
open Go.Lib Go.RowKit Go.Sort
theorem Y3 {l:List (List UInt8)} {j:Nat} {x:aRH} (h:l[j]?=some x):(cu l)[j]?=some (encStr x):=by rw [cu,List.getElem?_map,h];rfl
theorem Y4 (ys:List (List UInt8)) {j:Nat} (aD:j < ys.length):ys.toArray[j]! = ys[j]:=by simp [getElem!_pos,aD]
theorem Own.ahO {o c:Nat} (h:Own w base t 1 (some ⟨b,o,none⟩) ys.length c (cu ys)):Holds encStr w b o ys.toArray:=by
 intro j aD;rw [List.size_toArray] at aD;obtain⟨hl,J,hm,hc⟩:=h;rcases hc with ⟨e,_⟩ | ⟨b',M,cur,bf,e,ae,ax,hf,hs,ah⟩
 ·cases e
 cases e;have I:=ah j om;rw [Y3 (List.getElem?_eq_getElem aD)] at I;refine⟨?_,hf.cell ax (by have:=(aQZ.1 I).1;exact this)⟩;rw [Y4 ys aD];simp [World.cell?,ax,I]
theorem apC {o n:Nat} {cur:Array Value} {bf:Nat × Nat} (d:Array (List UInt8)) (ae:w.heap[b]?=some (.cells cur e bf)) :
  (grow (putRow encStr (Sort.ahead w n) b o d) os).heap[b]?=some (.cells (putCells encStr o d cur) e bf):=by
 have ax:b < w.heap.size:=(aQZ.1 ae).1;rw [heap_grow_old _ _ (by simpa using ax)];simp [putRow,mapBlock,Sort.ahead,Array.getElem?_modify,ae,onCells]
theorem Y5 {o n:Nat} (d:Array (List UInt8)):w.grownBy (grow (putRow encStr (Sort.ahead w n) b o d) os) (some b):=by refine⟨rfl,rfl,rfl,by simp,fun k hk I=>?_⟩;rw [heap_grow_old _ _ (by simpa using hk)];have:b≠k:=fun e=>I (by rw [e]);simp [putRow,mapBlock,Sort.ahead,Array.getElem?_modify,this]
theorem Own.ahP {o c n:Nat} {zs:List (List UInt8)} (h:Own w base t 1 (some ⟨b,o,none⟩) ys.length c (cu ys)) (hk:k<=zs.length) (dB:zs.length=ys.length) :
  Own (grow (Go.Sort.putRow encStr (Sort.ahead w n) b o zs.toArray) os) base t 1 (some ⟨b,o,none⟩) k c (cu (zs.take k)):=by
 obtain⟨hl,J,hm,hc⟩:=h;rcases hc with ⟨e,_⟩ | ⟨b',M,cur,bf,e,ae,ax,hf,hs,ah⟩
 ·cases e
 cases e;refine⟨by rw [cu,List.length_map,List.length_take];omega,om,hm,.inr ⟨b,o,_,bf,rfl,ae,apC _ ax,by simpa [putCells] using hf,by simpa [putCells] using hs,fun j aD=>?_⟩⟩;rw [Y3 (x:=zs[j]) (by rw [List.getElem?_take_of_lt om,List.getElem?_eq_getElem om])];have I:o+j < cur.size:=om;simp only [putCells,Array.getElem?_mapIdx,Array.getElem?_eq_getElem I,Option.map_some,List.size_toArray];rw [if_pos om,show o+j - o=j by omega,Y4 zs om]
theorem aAy (w:aRB) (base:Nat) (A:aRC) (c:Nat) (ys:List (List UInt8)) (h:Own w base 9 1 A ys.length c (cu ys)) (hl:ys.length<=1000000) :
  CR 36 #[.slice A ys.length c] w (.tuple #[]) fun w'=>Own w' base 9 1 A ys.length c (cu (rG ys))/\w.grownBy w' (bV A):=by
 rcases aQH ys.length with I | I
 ·obtain rfl:ys=[]:=aQC I;refine (AnyM.slices_Sort_string_none Tryz.keySort A c w).mono ?_;rintro e w' ⟨rfl,rfl⟩;refine⟨rfl,by simpa [rG] using h,⟨rfl,rfl,rfl,aQm _,fun _ _ _=>rfl⟩⟩
 ·obtain⟨b,o,cur,bf,rfl,ae,ax,_⟩:=h.at_ (by have:=h.2.1;omega);refine (AnyM.slices_Sort_string Tryz.keySort b o c ys w h.ahO (ic ax) om).mono ?_;rintro e w' ⟨rfl,n,os,rfl⟩;refine⟨rfl,?_,Y5 _⟩;have aL:=h.ahP (n:=n) (os:=os) (zs:=rG ys) (k:=ys.length) (by rw [DU];omega) (DU ys);rw [List.take_of_length_le (by rw [DU];omega)] at aL;exact aL
theorem ahQ (w:aRB) (base:Nat) (A:aRC) (c:Nat) (ys:List (List UInt8)) (h:Own w base 9 1 A ys.length c (cu ys)) (hl:ys.length<=1000000) :
  CR 37 #[.slice A ys.length c] w (.slice A (compact ys).length c) fun w'=>Own w' base 9 1 A (compact ys).length c (cu (compact ys))/\w.grownBy w' (bV A):=by
 rcases aQH ys.length with I | I
 ·obtain rfl:ys=[]:=aQC I;refine (AnyG.slices_Compact_string_empty Tryz.keyCompact A c w).mono ?_;rintro e w' ⟨rfl,rfl⟩;refine⟨rfl,h,⟨rfl,rfl,rfl,aQm _,fun _ _ _=>rfl⟩⟩
 ·obtain⟨b,o,cur,bf,rfl,ae,ax,_⟩:=h.at_ (by have:=h.2.1;omega);refine (AnyG.slices_Compact_string Tryz.keyCompact b o c ys w h.ahO om h.2.1).mono ?_;rintro e w' ⟨rfl,n,rfl⟩;refine⟨rfl,?_,?_⟩
  ·have hc:=ahN ys;have aL:=h.ahP (n:=n) (os:=#[]) (zs:=compact ys++List.replicate (ys.length - (compact ys).length) []) (k:=(compact ys).length) sp (by simp;omega);rw [List.take_left,grow_empty] at aL;exact aL
  ·have:=Y5 (w:=w) (b:=b) (o:=o) (n:=n) (os:=#[]) (compact ys++List.replicate (ys.length - (compact ys).length) []).toArray;rw [grow_empty] at this;exact this
end
section
open Go.RowKit Go.Shelf
theorem apD (w:aRB) (ji:Nat) (A:aRC) (cap:Nat) (zs:List (List UInt8)) (dB:zs.length<=1000000) (vT:w.heap[ji]?=some (.cells #[.slice A zs.length cap] 24 (0,0))) (av:Rd w 1 A zs.length (cu zs)) :
  Calls prog 74 #[.func (.func 76) #[] #[pp ji 0]] w fun e w'=>∃ A' c,e = .returned (.slice A' zs.length c)/\Own w' w.heap.size 9 1 A' zs.length c (cu zs)/\Bl w w':=by
 refine (aQG (n:=3)).1 ?_;refine (aAq 3 om 76 #[pp ji 0] (enters_of func76 kr rfl) _ _ zs.length w.heap.size mO om w (aQm _)
  (aAm 1 (aQm _) ji w.heap.size A cap zs om w (ic vT) (aQm _) (aQo w ji 0 _ _ _ vT) (fun W' I=>av.gp I))).mono ?_
 rintro e w' ⟨v,Y,rfl,rfl,J,ae⟩;obtain⟨A',c,rfl,M⟩:=ahL J;exact⟨A',c,rfl,M,ae⟩
theorem apE (w:aRB) (ji:Nat) (A:aRC) (cap:Nat) (zs:List (List UInt8)) (dB:zs.length<=1000000) (vT:w.heap[ji]?=some (.cells #[.slice A zs.length cap] 24 (0,0))) (av:Rd w 1 A zs.length (cu zs)) :
  Calls prog 99 #[.func (.func 76) #[] #[pp ji 0]] w fun e w'=>∃ A' c,e = .returned (.slice A' zs.length c)/\Own w' w.heap.size 9 1 A' zs.length c (cu (rG zs))/\Bl w w':=by
 have Y:=apD w ji A cap zs dB vT av;clear av vT;go_enter func99,ntmps99;go_wp2_with (first
  | (go_at_call 74; refine Y.mono ?_;rintro e w1 ⟨I,c1,rfl,J,M⟩)
  | (go_at_call 36; refine (aAy w1 w.heap.size I c1 zs J dB).mono ?_;rintro e af ⟨rfl,A7,AA⟩))
 go_ret;exact⟨I,c1,rfl,A7,M.grown AA M.size (fun k e=>(J.block k e).1)⟩
theorem ahR (w:aRB) (A:aRC) (n cap:Nat):Calls prog 48 #[.slice A n cap] w fun e w'=>e = .returned (.func (.func 76) #[] #[pp w.heap.size 0])/\w'=w.alloc (.cells #[.slice A n cap] 24) :=
 (aQG (n:=3)).1 (aAl 3 A n cap w)
theorem ahS (w:aRB) (A:aRC) (cap:Nat) (l:List (List UInt8)) (hl:l.length<=1000000) (av:Rd w 1 A l.length (cu l)) :
  Calls prog 62 #[.slice A l.length cap] w fun e w'=>∃ A' c,e = .returned (.slice A' (ny l).length c)/\Own w' w.heap.size 9 1 A' (ny l).length c (cu (ny l))/\Bl w w':=by
 obtain⟨w1,I⟩:=ai (w.alloc (.cells #[.slice A l.length cap] 24));have J:Bl w w1:=by rw [I];exact (Below.refl _ w).alloc (aQm _) _
 have Y:w1.heap[w.heap.size]?=some (.cells #[.slice A l.length cap] 24 (0,0)):=by rw [I];exact aQt w _
 have AL:=apE w1 w.heap.size A cap l hl Y (av.gp J);have A7:=ahR w A l.length cap;rw [<- I] at A7;have AA:=DU l;have AB:=aa AA;clear av Y I AA;go_enter func62,ntmps62;go_wp2_with (first
  | (go_at_call 48; refine A7.mono ?_;rintro e Aa ⟨rfl,AO⟩;obtain rfl:=AO.symm)
  | (go_at_call 99; refine AL.mono ?_;rintro e af ⟨iD,c2,rfl,M,AP⟩;rw [<- AB.o] at M |-)
  | (go_at_call 37; refine (ahQ af w1.heap.size iD c2 (rG l) M (by rw [AB.o];exact hl)).mono ?_;rintro e aC ⟨rfl,AV,AZ⟩))
 go_ret;have AJ:=aR J AP;exact⟨iD,c2,rfl,AV.mono J.size,AJ.grown AZ AJ.size (fun k e=>aQn J.size (M.block k e).1)⟩
end
section
open Go.RowKit Go.Shelf
open Go.Lib (decDigits itoa_nonneg below_grow)
theorem aAz (a b:List (List UInt8)):nG (a++b)=nG a++nG b:=by simp [nG]
def Mm (w:aRB):Prop:=Lib.TabBelow prog w.heap.size w "internal/strconv.uint64pow10" .u64 Lib.pow10Tab
theorem Mm.on (h:Mm w) (ae:Bl w w'):Mm w':=fun _ I=>h _ (aR ae I)
theorem aAA (w:aRB) (n:Nat) (aB:n<=1000000000) (bY:Mm w) :
  CB 102 #[.int .i64 n] w (.string (az (decDigits n))):=by
 refine (Any.strconv_Itoa Tryz.keyItoa n om om w bY.here).mono ?_;rintro e w' ⟨rfl,k,os,rfl⟩;exact⟨by rw [itoa_nonneg];rfl,below_grow _ _ (aQm _) _ _⟩
end
section
open Go.RowKit Go.Shelf
abbrev fA:=List UInt8
theorem apH (x y:fA):Op.bytesLess (az x).toList (az y).toList=decide (x < y):=by rw [ByteArray.toList_eq,ByteArray.toList_eq,gU,gU,bytesLess_eq]
def Ky (l:List xL):List Value:=l.flatMap fun p=>[.string (az p.1),.string (az p.2)]
theorem ahT:∀ {l:List xL} {k:Nat} {p:xL},l[k]?=some p->(Ky l)[k * 2]?=some (.string (az p.1))/\(Ky l)[k * 2+1]?=some (.string (az p.2))
 | x :: l,0,p,h=>by
  simp only [List.getElem?_cons_zero,Option.some.injEq] at h;subst h;simp [Ky]
 | x :: l,k+1,p,h=>by
  have:=ahT (l:=l) (k:=k) (p:=p) (by simpa using h);rw [show (k+1) * 2=k * 2+2 by omega];simpa [Ky] using this
structure vv where
 pk:ByteArray
 nm:ByteArray
 E:Option Addr
 lG:Option Addr
 A:Option Addr
 O:Option Addr
 Kz:Nat
 j3:Nat
 fe:Nat
 wJ:Nat
def nz (L:vv) (a:kI):Array Value:=#[.string L.pk,.string L.nm,.string (az a.tool),.slice L.E a.env.length L.Kz,.slice L.lG a.ins.length L.j3,.slice L.A a.asks.length L.fe,.slice L.O a.outs.length L.wJ]
structure KC (w:aRB) (L:vv) (a:kI):Prop where
 env:Rd w 2 L.E a.env.length (Ky a.env)
 ins:Rd w 1 L.lG a.ins.length (cu a.ins)
 asks:Rd w 1 L.A a.asks.length (cu a.asks)
 outs:Rd w 1 L.O a.outs.length (cu a.outs)
 KD:a.env.length<=maxLen
 FO:a.ins.length<=maxLen
 BN:a.asks.length<=maxLen
 zX:a.outs.length<=maxLen
theorem KC.below {L:vv} {a:kI} (h:KC w L a) (ae:Bl w w'):KC w' L a :=
 ⟨h.env.gp ae,h.ins.gp ae,h.asks.gp ae,h.outs.gp ae,h.KD,h.FO,h.BN,h.zX⟩
def Mo (l:List xL) (k:Nat):List fA:=((ny (l.map (·.1))).take k).flatMap fun n=>[n,valOf l n]
theorem ahU (l:List xL):∀ k,k<=(ny (l.map (·.1))).length->(Mo l k).length=2 * k
 | 0,_=>rfl
 | k+1,h=>by
  have:=ahU l k om;unfold Mo at this |-;rw [List.take_add_one,List.getElem?_eq_getElem om,List.flatMap_append,List.length_append,this];simp;omega
theorem aAB {l:List xL} {n:fA} (h:(ny (l.map (·.1)))[k]?=some n):Mo l (k+1)=Mo l k++[n,valOf l n]:=by unfold Mo;rw [List.take_add_one,h,List.flatMap_append];rfl
theorem apI (l:List xL):Mo l (ny (l.map (·.1))).length=CO l:=by unfold Mo CO;rw [List.take_length]
theorem apJ (l:List xL):(CO l).length=2 * (ny (l.map (·.1))).length:=by rw [<- apI,ahU l _ (Nat.le_refl _)]
theorem aAC {l:List xL} {n:fA} (h:∀ p∈l,p.2.length<=M):(valOf l n).length<=M:=by
 unfold valOf;cases hf:l.find? fun p=>p.1 == n with
 | none=>simp
 | some p=>exact h p (aQ7 hf)
def ac6 (w:aRB) (g:Nat) (L:List (List fA)) (Ow:Nat->Option Addr) (cs:Nat->Nat):Prop :=
 ∀ i x,L[i]?=some x->w.cell? (ad g i)=some (.slice (Ow i) x.length (cs i))/\Rd w 1 (Ow i) x.length (cu x)
theorem ac6.below {g:Nat} {L:List (List fA)} {Ow:Nat->Option Addr} {cs:Nat->Nat} (h:ac6 w g L Ow cs) (ae:Bl w w'):ac6 w' g L Ow cs:=fun i x ah=>by
 obtain⟨h1,I⟩:=h i x ah;exact⟨(ae.cell (p:=ad g i) (aQy w _ h1)).trans h1,I.gp ae⟩
end
section
open Go.Lib (decDigits)
theorem Wh (s:fA) (l:List fA):(nG (s :: l)).length=(decDigits s.length).length+1+s.length+(nG l).length:=by rw [V9];simp only [List.length_append,List.length_cons];omega
theorem Wi {n:Nat} (h:n<=1000000000):(decDigits n).length<=10:=ahM 9 n om
theorem Y6 (aj:M<=1000000000):∀ (l:List fA) (n:Nat),l.length<=n->(∀ x∈l,x.length<=M)->(nG l).length<=n * (M+11)
 | [],n,_,_=>by rw [ac5];simp
 | s :: l,n,I,h=>by
  obtain⟨m,rfl⟩:∃ m,n=m+1:=⟨n - 1,by simp at I;omega⟩;have h1:=Y6 aj l m (by simpa using I) (fun x ah=>h x (by simp [ah]));have J:=h s sp;have Y:=Wi (n:=s.length) om;rw [Wh,Nat.add_mul];omega
theorem ahV {l:List fA} (h:∀ x∈l,x.length<=M):∀ x∈ny l,x.length<=M:=fun x ah=>h x (((Ot l).2 x).1 ah)
theorem aAD {l:List xL} (h:∀ p∈l,p.1.length<=M/\p.2.length<=M):∀ x∈CO l,x.length<=M:=fun x ah=>by
 rw [CO,List.mem_flatMap] at ah;obtain⟨n,I,ah⟩:=ah;rcases aQw.1 ah with rfl | ah
 ·have:=((Ot _).2 _).1 I;obtain⟨p,aL,rfl⟩:=aQv.1 this;exact (h p aL).1
 ·rw [List.mem_singleton] at ah;subst ah;exact aAC fun p aL=>(h p aL).2
def CQ (a:kI) (k:Nat):List fA:=a.tool :: ((CP a).take (k - 1)).map nG
theorem aAE {a:kI} {x:List fA} (h:([a.tool] :: CP a)[k+1]?=some x):CQ a (k+2)=CQ a (k+1)++[nG x]:=by rw [List.getElem?_cons_succ] at h;rw [CQ,CQ,show k+2 - 1=k+1 by omega,show k+1 - 1=k by omega,List.take_add_one,h];simp
theorem aAF (a:kI):nG (CQ a 5)=vU a:=rfl
theorem aAG {a:kI} (h1:1<=k) (bC:k<=5):(CQ a k).length=k:=by rw [CQ];simp [CP];omega
end
section
open Go.Maps Go.RowKit
section
variable {α:Type}
theorem apK (k:aRH) (a:α):∀ M:fu α,(∀ y∈M,y.1≠k)->getM (zb (k,a) M) k=some a
 | [],_=>by simp [zb,getM]
 | y :: r,h=>by
  unfold zb;split
  ·simp [getM]
  ·have hy:(y.1 == k)=false:=by simpa using h y sp
   have:=apK k a r (fun z I=>h z (aQQ _ I));unfold getM at this |-;rw [List.find?_cons,hy];exact this
theorem apL (k:aRH) (a:α) (hk:tY≠k):∀ M:fu α,getM (zb (k,a) M) tY=getM M tY
 | []=>by
  have:(k == tY)=false:=by simpa using fun h=>hk h.symm
  simp [zb,getM,this]
 | y :: r=>by
  have I:(k == tY)=false:=by simpa using fun h=>hk h.symm
  unfold zb;split
  ·unfold getM;rw [List.find?_cons,I]
  ·have:=apL k a hk r;unfold getM at this |-;rw [List.find?_cons,List.find?_cons];split
   ·rfl
   ·exact this
theorem aAH {M:fu α} {k:aRH}:∀ y∈I4 M k,y.1≠k:=by intro y hy;have:=(aQ8.1 hy).2;simpa using this
theorem Mq (M:fu α) (k:aRH) (a:α):getM (oz M k a) k=some a:=apK k a _ aAH
theorem aAI (M:fu α) {k:aRH} (hk:tY≠k):getM (I4 M k) tY=getM M tY:=by
 unfold getM I4;congr 1;induction M with
 | nil=>rfl
 | cons y r I =>
  rw [List.filter_cons];split
  ·rw [List.find?_cons,List.find?_cons,I]
  ·rename_i h;have hy:y.1=k:=by simpa using h
   have:(y.1 == tY)=false:=by rw [hy];simpa using fun h=>hk h.symm
   rw [List.find?_cons,this,I]
theorem Mr (M:fu α) {k:aRH} (a:α) (hk:tY≠k):getM (oz M k a) tY=getM M tY:=by rw [oz,apL k a hk,aAI M hk]
end
def Ms (l:List xL):fu fA:=l.foldl (fun M p=>oz M p.1 p.2) []
theorem apM (l:List xL) (p:xL):Ms (l++[p])=oz (Ms l) p.1 p.2:=by simp [Ms,List.foldl_append]
theorem ahW (n:fA):∀ l:List xL,getM (Ms l.reverse) n=(l.find? fun p=>p.1 == n).map (·.2)
 | []=>rfl
 | p :: l=>by
  rw [List.reverse_cons,apM,List.find?_cons];by_cases h:p.1=n
  ·subst h;rw [Mq];simp
  ·rw [Mr _ _ (fun e=>h e.symm),ahW n l,show (p.1 == n)=false by simp [h]]
theorem aAJ (l:List xL) (n:fA):(getM (Ms l.reverse) n).getD []=valOf l n:=by rw [ahW];rfl
theorem aAK {M:fu fA} {n:fA}:(getM M n).isSome=true ↔ n∈M.map (·.1):=by
 unfold getM;rw [Option.isSome_map,List.find?_isSome,List.mem_map];constructor
 ·rintro⟨p,aL,he⟩;exact⟨p,aL,by simpa using he⟩
 ·rintro⟨p,aL,he⟩;exact⟨p,aL,by simpa using he⟩
theorem aAL {l:List xL} (h:Ha (Ms l.reverse)):(Ms l.reverse).map (·.1)=ny (l.map (·.1)):=by
 refine We.one (l:=l.map (·.1)) ⟨List.pairwise_map.2 (h.imp fun {p q} I=>(Og _ _).1 I),fun x=>?_⟩ (Ot _);rw [<- aAK,ahW,Option.isSome_map,List.find?_isSome,List.mem_map];constructor
 ·rintro⟨p,aL,he⟩;exact⟨p,aL,by simpa using he⟩
 ·rintro⟨p,aL,he⟩;exact⟨p,aL,by simpa using he⟩
theorem apN (a b:fA) (h:(Value.string (az a)) = .string (az b)):a=b:=by
 injection h with h
 rw [<- gU a,<- gU b,h]
end
section
open Go.RowKit Go.Shelf
attribute [local go_sem] Oper.semAt_some
structure tZ (n0 b:Nat) (W W':aRB):Prop where
 size:W.heap.size<=W'.heap.size
 keep:∀ k,k < n0->k≠b->W'.heap[k]?=W.heap[k]?
theorem tZ.refl (n0 b:Nat) (W:aRB):tZ n0 b W W:=⟨aQm _,fun _ _ _=>rfl⟩
theorem tZ.trans {A B C:aRB} (h:tZ n0 b A B) (k:tZ n0 b B C):tZ n0 b A C:=⟨aQn h.size k.size,fun j h1 I=>(k.keep j h1 I).trans (h.keep j h1 I)⟩
theorem tZ.gT {A B:aRB} (h:Below n0 A B):tZ n0 b A B:=⟨h.size,fun k h1 _=>h.block k h1⟩
theorem tZ.put (aB:n0<=w.heap.size) (W:aRB) (l:Nat) (o uF:Obj) (hl:w.heap.size<=l) (h:W.heap[l]?=some o) (h1:o.isCells=false) (ag:o.isWalk=false):tZ n0 b W (W.putObj l uF):=tZ.gT (belowK_b aB W l o uF hl h h1 ag)
def Y7 (p:xL):Value:=.agg #[.string (az p.1),.string (az p.2)]
theorem aAM (w:aRB) (a:aRC) (len cap:Nat) :
  Calls prog 98 #[.slice a len cap] w fun e w'=>e = .returned (.func (.func 151) #[] #[pp w.heap.size 0])/\w'=w.alloc (.cells #[.slice a len cap] 43):=by
 go_enter func98,ntmps98;go_wp2;go_ret;exact⟨rfl,rfl⟩
end
section
open Go.ChangeMaps Go.MapKept Go.Maps Go.RowKit Go.Shelf Go.WideAt Go.WideMaps
attribute [local go_sem] Oper.semAt_some
theorem eQ.grown {enc:α->Value} {P:Program} {k:TypeId} {n:Nat} {M:fu α} {row:Option Nat} (h:eQ w P k enc b n M) (ax:w.grownBy w' row) (bJ:some b≠row):eQ w' P k enc b n M:=h.keep (ax.block b h.lt bJ)
theorem aAN (w:aRB):(zeroValue 9).run prog w = .ok (.string (az [])) w:=by rw [zeroValue9];rfl
def TS (x:fA):Value:=.string (az x)
end
section
open Go.RowKit Go.Shelf
theorem ac7:Sz 45 7:=kr
theorem aAO (L:vv) (a:kI) (j:Nat):(nz L a)[0+j]?=(nz L a).toList[j]?:=by rw [Nat.zero_add];simp
theorem aAP (w uJ af:aRB) (S:aRH) (bM:S.length=32) (wF:w.heap.size+1=uJ.heap.size) (av:uH uJ af) (ae:Bl w af) :
  af.heap[w.heap.size+1]?=some (.cells (bO (List.replicate 32 0)).toArray 59 (0,0)) /\
  (af.setRow (w.heap.size+1) (laid (bO (List.replicate 32 0)).toArray 0 (bO S))).heap[w.heap.size+1]?=some (.cells (bO S).toArray 59 (0,0)) /\
  Bl w (af.setRow (w.heap.size+1) (laid (bO (List.replicate 32 0)).toArray 0 (bO S))):=by
 refine⟨by rw [wF];exact av.row,by rw [wF];exact uH.wrote av S bM,Kg ae om _⟩
theorem ac8 (s:ByteArray):flat [s]=s.data.toList:=by simp [flat]
end
section
open Go.RowKit
theorem apO {β:Type} (f:α->Option β) (g:α->β):∀ (l:List α),(∀ x∈l,f x=some (g x))->l.mapM f=some (l.map g)
 | [],_=>rfl
 | x :: l,h=>by
  rw [List.mapM_cons,h x sp,apO f g l (fun y hy=>h y (by simp [hy]))];rfl
def QP (b:UInt8):Lit:=.int .u8 b.toNat
theorem aAQ (l:List α):(l.map fun x=>[x]).flatten=l:=by
 induction l with
 | nil=>rfl
 | cons x l I=>simp only [List.map_cons,List.flatten_cons,I];rfl
theorem aAR (b:UInt8):(Lit.int .u8 (b.toNat:Int)).wf=true:=by have:=UInt8.toNat_lt b;have I:IntKind.u8.min=0:=dc;have h1:IntKind.u8.max=255:=dc;simp only [Lit.wf,Bool.and_eq_true,decide_eq_true_eq,I,h1];omega
theorem Y8 (l:aRH) (h:l.length=32):prog.keyLits 2 59 (bO l)=some (l.map QP):=by
 have hu:prog.underlying 59 = some (.array 32 5):=underlying59;have M:prog.underlying 5 = some (.int .u8):=underlying5;have hc:prog.cellsOf 59 = 32:=kr;have Y:prog.cellsOf 5 = 1:=kr;unfold Program.keyLits;simp only [hu,hc,Y,xf,h,if_true];have:(List.range 32).mapM (fun i=>prog.keyLits 1 5 (((bO l).drop (i * 1)).take 1))=some ((List.range 32).map fun i=>[QP (l.getD i 0)]):=by
  refine apO _ _ _ fun i A7=>?_;have I:i < l.length:=by rw [h];exact aQK.1 A7
  have e:((bO l).drop (i * 1)).take 1=[.int .u8 (l.getD i 0).toNat]:=by rw [Nat.mul_one,List.drop_eq_getElem_cons (by rw [xf];exact I),List.take_succ_cons,List.take_zero];have:=Tt l I;rw [List.getElem?_eq_getElem (by rw [xf];exact I)] at this;rw [Option.some.inj this]
  rw [e];unfold Program.keyLits;simp only [M];rw [if_pos ⟨trivial,aAR _⟩];rfl
 rw [this];simp only [Option.map_some];congr 1;rw [show (fun i=>[QP (l.getD i 0)])=(fun x=>[x]) ∘ (fun i=>QP (l.getD i 0)) from rfl,<- List.map_map,aAQ];apply aRv
 ·simp [h]
 ·intro i h1 J;simp at h1 J |-;rw [List.getElem?_eq_getElem J];rfl
theorem apP {a b:aRH} (h:a.map QP=b.map QP):a=b:=by
 refine List.map_inj_right (fun x y I=>?_) |>.1 h
 unfold QP at I;injection I with _ J
 exact aRw.1 om
theorem ac9 (l:aRH) (h:l.length=32):(Value.agg (bO l).toArray).formed prog 59 = true:=by have hu:prog.underlying 59 = some (.array 32 5):=underlying59;have hc:prog.cellsOf 59 = 32:=kr;simp [Value.formed,hu,hc,xf,h]
theorem apQ (a b:aRH) (bn:a.length=32) (ae:b.length=32) (w:aRB):(binOp .eql 59 (.agg (bO a).toArray) (.agg (bO b).toArray)).run prog w = .ok (.bool (a == b)) w:=by
 have I:EqAt prog 10000 59:=aRx 9998 2 59 kr;obtain⟨r,h1,J⟩:=I w 2 2 (.agg (bO a).toArray) (.agg (bO b).toArray) _ _ (ac9 a bn) (ac9 b ae) (by simpa [Value.cells] using Y8 a bn) (by simpa [Value.cells] using Y8 b ae);rw [run_eql_struct,h1];have:r=(a == b):=by rw [Bool.eq_iff_iff,J,beq_iff_eq];exact⟨apP,fun e=>by rw [e]⟩
 rw [this];rfl
theorem aAT (a b:aRH) (bn:a.length=32) (ae:b.length=32) (w:aRB):(binOp .neq 59 (.agg (bO a).toArray) (.agg (bO b).toArray)).run prog w = .ok (.bool (!(a == b))) w:=by
 have I:EqAt prog 10000 59:=aRx 9998 2 59 kr;obtain⟨r,h1,J⟩:=I w 2 2 (.agg (bO a).toArray) (.agg (bO b).toArray) _ _ (ac9 a bn) (ac9 b ae) (by simpa [Value.cells] using Y8 a bn) (by simpa [Value.cells] using Y8 b ae);rw [run_neq_struct,h1];have:r=(a == b):=by rw [Bool.eq_iff_iff,J,beq_iff_eq];exact⟨apP,fun e=>by rw [e]⟩
 rw [this];rfl
def EJ (p:fA->Bool) (row:List fA):Int:=match row.findIdx? p with
 | some q=>(q:Int)
 | none=>-1
theorem apR {row:List fA} {x:fA} (p:fA->Bool) (h:row[q]?=some x):(row.take (q+1)).any p=((row.take q).any p || p x):=by obtain⟨I,ah⟩:=aQs.1 h;rw [List.take_succ_eq_append_getElem I,ah,List.any_append];simp
theorem apS {row:List fA} {x:fA} {p:fA->Bool} (h:row[q]?=some x) (h1:(row.take q).any p=false) (ag:p x=true):EJ p row=q:=by
 obtain⟨I,ah⟩:=aQs.1 h;have:row.findIdx? p=some q:=by
  rw [List.findIdx?_eq_some_iff_getElem];refine⟨I,by rw [ah];exact ag,fun j aD=>?_⟩;have J:=aQ2.1 h1 row[j] (by
   rw [List.mem_iff_getElem];exact⟨j,by simp;omega,by simp⟩)
  simpa using J
 rw [EJ,this]
theorem ada {row:List fA} {p:fA->Bool} (h1:row.any p=false):EJ p row = -1:=by
 have:row.findIdx? p=none:=by rw [List.findIdx?_eq_none_iff];intro x ah;have:=aQ2.1 h1 x ah;simpa using this
 rw [EJ,this]
theorem apT {row:List fA} {p:fA->Bool} (h1:row.any p=true):∃ (q:Nat) (x:fA),EJ p row=q/\row[q]?=some x/\row.find? p=some x/\p x=true:=by
 cases hf:row.findIdx? p with
 | none =>
  rw [List.findIdx?_eq_none_iff] at hf;obtain⟨x,ah,aL⟩:=aRq.1 h1;rw [hf x ah] at aL;cases aL
 | some q =>
  have h:=aRy.1 hf;obtain⟨I,aL,ae⟩:=h;refine⟨q,row[q],by rw [EJ,hf],aQp I,?_,aL⟩;rw [List.find?_eq_some_iff_getElem];exact⟨aL,q,I,rfl,fun j aD=>by have:=ae j aD;simpa using this⟩
theorem Mt {B:aRC} {n:Nat} {row:List fA} (h:Rd w 1 B n (cu row)) {x:fA} (ah:row[q]?=some x):∃ b o,B=some ⟨b,o,none⟩/\w.cell? (ad b (o+q))=some (.string (az x)):=by have hl:=h.1;rw [cu,List.length_map] at hl;have I:=(aQs.1 ah).1;obtain⟨b,o,rfl,hc⟩:=h.2 om;exact⟨b,o,rfl,hc q _ (by rw [cu,List.getElem?_map,ah];rfl)⟩
theorem aAU (w:aRB) (B:aRC) (c:Nat) (row:List fA) (av:Rd w 1 B row.length (cu row)) (hl:row.length<=1000) (f:Nat) (iC:Array Value) (vw:Enters prog f) (p:fA->Bool)
  (hc:∀ W,Bl w W->∀ x∈row,Calls prog f (#[.string (az x)]++iC) W fun e w'=>e = .returned (.bool (p x))/\Bl W w') :
  CB 160 #[.slice B row.length c,.func (.func f) #[] iC] w (.int .i64 (EJ p row)):=by
 obtain⟨L,M,E,Y⟩:=nq2 row.length (EJ p row);rw [<- M] at av hl |-;rw [<- Y];have A7:=fun (q:Nat) (x:fA) (h:row[q]?=some x) (h1:(row.take q).any p=false) (Ah:p x=true)=>apS h h1 Ah;have AA:=fun (h:row.any p=false)=>ada h;have AP:=fun (q:Nat) (x:fA) (h:row[q]?=some x)=>apR p h;rw [<- Y] at A7 AA;have Ay:∀ (args:Array Value) (w:aRB),(callFunc f args).run prog w = .ok (.enter f args) w:=vw;obtain⟨Ai,AV,Ak,Al,Am,Ao⟩:=hq6 av M hc A7 AA AP;clear av M hc Y vw A7 AA AP;go_enter func160,ntmps160;go_wp2_with fail;go_loopg [5,8] L (fun gk Az Ap wr=>∃ q:Nat,q+gk=L/\Ap = .int .i64 q/\(row.take q).any p=false/\Bl w wr);case atStart=>exact⟨0,om,rfl,rfl,Below.refl _ _⟩
 case round =>
  obtain⟨q,BA,rfl,AZ,Aa⟩:=hrel;have AB:=aa AZ;have I:=aa Aa;clear AZ Aa;by_cases AJ:q < L
  ·have Aq:(q:Int) < L:=om;have BF:(0:Int)<=q:=om;obtain⟨x,ah⟩:∃ x,row[q]?=some x:=⟨_,aQp (by rw [<- AV.o];exact AJ)⟩;obtain⟨b,o,rfl,Au⟩:=Mt (Ai.o.gp I.o) ah;have J:=Ak.o wr I.o x (aQr ah);have Ab:=aa ah;obtain⟨v,AL,X,Ad⟩:=nq2 (p x) (az x);rw [<- Ad] at Au J;rw [<- AL] at J;clear Ad;have Ae:=aa J;have Af:=aa AL;clear ah J AJ AL;cases v with
   | true =>
    go_wp2_with (first | (refine jw Ae.o ?_;intro af AO));go_ret;exact⟨by rw [Al.o q x Ab.o AB.o Af.o.symm];rfl,aR I.o AO.o⟩
   | false =>
    go_wp2_with (first | (refine jw Ae.o ?_;intro af AO));go_roundg (gk - 1);case rel=>exact⟨q+1,om,by go_num,by rw [Ao.o q x Ab.o,AB.o,<- Af.o];rfl,aR I.o AO.o⟩
    case measure=>omega
  ·have Ag:q=L:=om;have Aq:¬ (q:Int) < L:=om;have Aw:=aa (Am.o (by have h:=AB.o;rwa [Ag,AV.o,List.take_length] at h));clear AJ Ag;go_wp2_with fail;go_ret;exact⟨by rw [Aw.o];rfl,I.o⟩
theorem apU (p:fA->Bool) (row:List fA):decide (0<=EJ p row)=row.any p:=by
 cases I:row.any p with
 | true =>
  obtain⟨q,x,h,_⟩:=apT I;rw [h];simp
 | false =>
  rw [ada I];rfl
theorem apV (p:fA->Bool) (row:List fA) (hl:row.length<=1000):-1<=EJ p row/\EJ p row<=1000:=by
 cases I:row.any p with
 | true =>
  obtain⟨q,x,h,J,_⟩:=apT I;have:=(aQs.1 J).1;omega
 | false=>rw [ada I];omega
theorem Wj (w:aRB) (B:aRC) (c:Nat) (row:List fA) (av:Rd w 1 B row.length (cu row)) (hl:row.length<=1000) (f:Nat) (iC:Array Value) (vw:Enters prog f) (p:fA->Bool)
  (hc:∀ W,Bl w W->∀ x∈row,Calls prog f (#[.string (az x)]++iC) W fun e w'=>e = .returned (.bool (p x))/\Bl W w') :
  CB 111 #[.slice B row.length c,.func (.func f) #[] iC] w (.bool (row.any p)):=by
 have I:=aa (aAU w B c row av hl f iC vw p hc);have J:=apU p row;obtain⟨eP,A7⟩:=apV p row hl;rw [<- J];clear av hc J;obtain⟨E,M⟩:=ai (EJ p row);rw [<- M] at I eP A7 |-;obtain⟨L,Y⟩:=ai row.length;rw [<- Y] at I |-;clear M Y hl vw;go_enter func111,ntmps111;go_wp2_with (first | (go_at_call 160; refine jw I.o ?_;intro af AA));go_ret;exact⟨rfl,AA.o⟩
theorem apW (w:aRB) (s:ByteArray) (c:Int):Calls prog 210 #[.string s,.int .u8 c] w fun e w'=>e = .returned (.int .i64 (Lib.indexByte s.data.toList c.toNat.toUInt8))/\w'=w:=by go_enter func210,ntmps210;go_wp2;rw [run_callFunc_extern func245 kr kr kr (e:=Extern.BytealgIndexByte.indexByte) kr,Lib.run_indexByteString];simp only [Result.andThen];rw [Oper.upon_value];go_wp2;go_ret;exact⟨rfl,rfl⟩
theorem adb (w:aRB) (s:ByteArray) (c:Int):Calls prog 165 #[.string s,.int .u8 c] w fun e w'=>e = .returned (.int .i64 (Lib.indexByte s.data.toList c.toNat.toUInt8))/\w'=w:=by go_enter func165,ntmps165;go_wp2_with (first | (go_at_call 210; refine (apW _ _ _).mono ?_;rintro e af ⟨rfl,rfl⟩));go_ret;exact⟨rfl,rfl⟩
def DV (r:Nat):Bool:=(decide (97<=r) && decide (r<=122)) || (decide (65<=r) && decide (r<=90)) || (decide (48<=r) && decide (r<=57)) || decide (r=95) || decide (r=46) || decide (r=45) || decide (r=43)
theorem ahX (c:UInt8):DV c.toNat=Mj c:=rfl
theorem ahY (h:128<=r):DV r=false:=by unfold DV;simp only [Bool.or_eq_false_iff,Bool.and_eq_false_iff,decide_eq_false_iff_not];omega
theorem aAV (n BO eP iT pz:Nat) (h:128<=BO):128<=(Lib.decodeN n BO eP iT pz).1:=by
 unfold Lib.decodeN;rw [if_neg om];repeat' split
 all_goals simp only
 all_goals omega
theorem apX (s:ByteArray):∀ (f pos:Nat),pos<=s.size->s.size<=pos+f ->
  decide (0<=Lib.idxFuncFrom (fun r=>!DV r) true s f pos) = !((s.data.toList.drop pos).all Mj)
 | 0,pos,h1,Y=>by
  rw [List.drop_of_length_le (by rw [wG];omega)];rfl
 | f+1,pos,h1,Y=>by
  by_cases aL:pos < s.size
  ·have A7:pos < s.data.toList.length:=by rw [wG];exact aL
   have J:s.get! pos=s.data.toList[pos]:=by have:s.data[pos]! = s.data[pos]'aL:=getElem!_pos s.data pos aL;show s.data[pos]! = _;rw [this];simp
   rw [List.drop_eq_getElem_cons A7,List.all_cons];obtain⟨c,hc⟩:=ai (s.data.toList[pos]);rw [<- hc] at J |-;unfold Lib.idxFuncFrom;rw [if_pos aL,Lib.decode_at,J];by_cases AA:c.toNat < 128
   ·rw [show Lib.decodeN (s.size - pos) c.toNat (s.get! (pos+1)).toNat (s.get! (pos+2)).toNat (s.get! (pos+3)).toNat=(c.toNat,1) by simp [Lib.decodeN,AA]];have AB:=apX s f (pos+1) om om;by_cases I:Mj c=true
    ·rw [if_neg (by show ¬ ((!DV c.toNat)=true);rw [ahX,I];simp),I,Bool.true_and];exact AB
    ·have M:Mj c=false:=by simpa using I
     rw [if_pos (by show (!DV c.toNat)=true;rw [ahX,M];rfl),M];simp
   ·have ae:=ahY (aAV (s.size - pos) c.toNat (s.get! (pos+1)).toNat (s.get! (pos+2)).toNat (s.get! (pos+3)).toNat om);have hs:Mj c=false:=by rw [<- ahX];exact ahY om
    rw [ae,hs];simp
  ·rw [Lib.idxFuncFrom_end _ _ _ _ _ aL,List.drop_of_length_le (by rw [wG];omega)];rfl
theorem aAX (s:ByteArray):decide (0<=Lib.idxFunc (fun r=>!DV r) true s) = !(s.data.toList.all Mj):=by rw [Lib.idxFunc,apX s s.size 0 om om,List.drop_zero]
theorem aAY:∀ r:Fin 128,decide (0<=Lib.indexByte [95,46,45,43] (UInt8.ofNat r.val))=(decide (r.val=95) || decide (r.val=46) || decide (r.val=45) || decide (r.val=43)):=by decide +kernel
theorem aAZ (h:r < 128) (h1:¬ (97<=r/\r<=122)) (ag:¬ (65<=r/\r<=90)) (au:¬ (48<=r/\r<=57)):decide (0<=Lib.indexByte [95,46,45,43] (UInt8.ofNat r))=DV r:=by
 rw [aAY ⟨r,h⟩];have I:(decide (97<=r) && decide (r<=122))=false:=by simpa using h1
 have J:(decide (65<=r) && decide (r<=90))=false:=by simpa using ag
 have M:(decide (48<=r) && decide (r<=57))=false:=by simpa using au
 unfold DV;rw [I,J,M];rfl
theorem aA0 (h:(97<=r/\r<=122)\/(65<=r/\r<=90)\/(48<=r/\r<=57)):DV r=true:=by unfold DV;simp only [Bool.or_eq_true,Bool.and_eq_true,decide_eq_true_eq];omega
theorem aA1 (w:aRB) (r:Nat):Calls prog 115 #[.int .i32 r] w fun e w'=>e = .returned (.bool (DV r))/\w'=w:=by
 by_cases hy:(97<=r/\r<=122)\/(65<=r/\r<=90)\/(48<=r/\r<=57)
 ·rw [aA0 hy];rcases hy with h | h | h
  all_goals obtain⟨h1,I⟩:=h
  all_goals have eP:=Int.ofNat_le.2 h1
  all_goals have J:=Int.ofNat_le.2 I
  all_goals clear h1 I
  all_goals go_enter func115,ntmps115
  all_goals go_wp2_with fail
  all_goals go_ret
  all_goals exact⟨rfl,rfl⟩
 ·by_cases ae:128<=r
  ·rw [ahY ae];have eP:(128:Int)<=r:=om;go_enter func115,ntmps115;go_wp2_with fail;go_ret;refine⟨?_,rfl⟩;show Ending.returned (Value.bool _)=Ending.returned (Value.bool false);congr 2;simp only [Bool.or_eq_false_iff,decide_eq_false_iff_not];omega
  ·rw [<- aAZ om om om om];have M:r < 48\/(57 < r/\r < 65)\/(90 < r/\r < 97)\/122 < r:=om;have Y:(r:Int) < 128:=om;clear hy ae;rcases M with h | h | h | h
   ·have eP:(r:Int) < 48:=om;clear h;go_enter func115,ntmps115;go_wp2_with (go_at_call 165; refine (adb _ _ _).mono ?_;rintro e af ⟨rfl,rfl⟩);go_ret;exact⟨rfl,rfl⟩
   ·have eP:(57:Int) < r:=om;have J:(r:Int) < 65:=om;clear h;go_enter func115,ntmps115;go_wp2_with (go_at_call 165; refine (adb _ _ _).mono ?_;rintro e af ⟨rfl,rfl⟩);go_ret;exact⟨by simp [eP];omega,rfl⟩
   ·have eP:(90:Int) < r:=om;have J:(r:Int) < 97:=om;clear h;go_enter func115,ntmps115;go_wp2_with (go_at_call 165; refine (adb _ _ _).mono ?_;rintro e af ⟨rfl,rfl⟩);go_ret;exact⟨by simp [eP];omega,rfl⟩
   ·have eP:(122:Int) < r:=om;clear h;go_enter func115,ntmps115;go_wp2_with (go_at_call 165; refine (adb _ _ _).mono ?_;rintro e af ⟨rfl,rfl⟩);go_ret;exact⟨by simp [eP];omega,rfl⟩
theorem aA2 (w:aRB) (r:Nat):Calls prog 114 #[.int .i32 r] w fun e w'=>e = .returned (.bool (!DV r))/\w'=w:=by go_enter func114,ntmps114;go_wp2_with (go_at_call 115; refine (aA1 _ _).mono ?_;rintro e af ⟨rfl,rfl⟩);go_ret;exact⟨rfl,rfl⟩
def QQ (r:Nat):Bool:=!DV r
theorem aA3 (w:aRB) (s:ByteArray):CB 209 #[.string s,.func (.func 114) #[] #[],.bool true] w (.int .i64 (Lib.idxFunc QQ true s)):=by
 go_enter func209,ntmps209;go_wp2_with fail;go_loopg [] s.size (fun gf AV=>∃ pos:Nat,AV.heap[w.heap.size]?=some (.stringIter s pos)/\Bl w AV/\Lib.idxFuncFrom QQ true s gf pos=Lib.idxFunc QQ true s/\s.size<=pos+gf);case atStart=>exact⟨0,World.iter_heap w s 0,(Below.refl _ w).alloc (aQm _) _,rfl,om⟩
 case round =>
  obtain⟨pos,hit,AZ,I,Ad⟩:=hrel;by_cases Y:pos < s.size
  ·obtain⟨AJ,rfl⟩:∃ AJ,gk=AJ+1:=⟨gk - 1,om⟩;have AL:∀ ty,(Instr.next (pp w.heap.size 0) true ty).run prog wr=_:=fun ty=>Lib.run_next_any_at wr w.heap.size s pos ty hit Y;have Ab:=Lib.width_pos s pos;obtain⟨R,A7⟩:∃ R,(Utf8.decode s pos).1=R:=⟨_,rfl⟩;obtain⟨K,J⟩:∃ K,(Utf8.decode s pos).2=K:=⟨_,rfl⟩;simp only [Lib.idxFuncFrom,Y,if_true,A7,J] at I;rw [A7,J] at AL;rw [J] at Ab;have Aa:=Lib.iterAt_heap wr w.heap.size s pos (pos+K) hit;have AO:=Lib.below_iterAt AZ (k:=w.heap.size) (aQm _) s (pos+K);obtain⟨W,AP⟩:∃ W,wr.iterAt w.heap.size s (pos+K)=W:=⟨_,rfl⟩;rw [AP] at AL Aa AO;have AA:=aA2 W R;rw [show (!DV R)=QQ R from rfl] at AA;cases AB:QQ R <;> rw [AB] at AA <;> simp only [AB,if_true,Bool.false_eq_true,if_false] at I
   ·have M:=aa I;clear I AB A7 J AP;go_wp2_with (go_at_call 114; refine AA.mono ?_;rintro e W' ⟨rfl,rfl⟩);go_roundg AJ;case measure=>omega
    case rel=>exact⟨pos+K,Aa,AO,M.o,om⟩
   ·have M:=aa I;clear I AB A7 J AP;go_wp2_with (go_at_call 114; refine AA.mono ?_;rintro e W' ⟨rfl,rfl⟩);go_ret;exact⟨congrArg (fun z=>Ending.returned (Value.int .i64 z)) M.o,AO⟩
  ·have AL:∀ ty,(Instr.next (pp w.heap.size 0) true ty).run prog wr=_:=fun ty=>Lib.run_next_end_at wr w.heap.size s pos ty hit Y;rw [Lib.idxFuncFrom_end QQ true s gk pos Y] at I;have M:=aa I;clear I;go_wp2_with fail;go_ret;exact⟨congrArg (fun z=>Ending.returned (Value.int .i64 z)) M.o,AZ⟩
theorem aA6 (w:aRB) (s:ByteArray):CB 164 #[.string s,.func (.func 114) #[] #[]] w (.int .i64 (Lib.idxFunc QQ true s)):=by go_enter func164,ntmps164;go_wp2_with (go_at_call 209; refine (aA3 _ _).mono ?_;rintro e w1 ⟨rfl,ae⟩);go_ret;exact⟨rfl,ae⟩
theorem aA7 (w:aRB) (s:ByteArray):CB 113 #[.string s,.func (.func 114) #[] #[]] w (.bool (!(s.data.toList.all Mj))):=by rw [<- aAX];obtain⟨lG,J⟩:=ai (Lib.idxFunc QQ true s);rw [show Lib.idxFunc (fun r=>!DV r) true s=lG from J.symm];have M:=aa J;clear J;go_enter func113,ntmps113;go_wp2_with (go_at_call 164; refine (aA6 _ _).mono ?_;rintro e w1 ⟨rfl,ae⟩;rw [<- M.o]);go_ret;exact⟨rfl,ae⟩
theorem aA8 (h:l=[]):DJ l=false:=by subst h;rfl
theorem aA9 (h:l=[46]):DJ l=false:=by subst h;decide
theorem aBa (h:l=[46,46]):DJ l=false:=by subst h;decide
theorem aBb (h:¬ l.length<=64):DJ l=false:=by simp [DJ,h]
theorem aBc (aX:¬ l=[]) (h1:¬ l=[46]) (ag:¬ l=[46,46]) (au:l.length<=64):DJ l=l.all Mj:=by
 have I:l.isEmpty=false:=by cases l <;> simp_all
 have J:(l == [46])=false:=by simpa using h1
 have M:(l == [46,46])=false:=by simpa using ag
 simp [DJ,I,J,M,au]
theorem ap0 (w:aRB) (s:ByteArray):CB 67 #[.string s] w (.bool (DJ s.data.toList)):=by
 have M:=aa (wG s);have hl:=aa (ByteArray.toList_eq s);by_cases Y:s.size<=64
 ·have AB:(s.size:Int)<=64:=om;by_cases J:s.toList=[]
  ·rw [aA8 (hl.o ▸ J)];go_enter func67,ntmps67;go_wp2_with fail;go_ret;exact⟨rfl,Below.refl _ _⟩
  by_cases h1:s.toList=[46]
  ·rw [aA9 (hl.o ▸ h1)];have A7:(s.toList == [46])=true:=by rw [h1];rfl
   have AA:s.toList.isEmpty=false:=by rw [h1];rfl
   clear J h1;go_enter func67,ntmps67;go_wp2_with fail;go_ret;exact⟨rfl,Below.refl _ _⟩
  by_cases I:s.toList=[46,46]
  ·rw [aBa (hl.o ▸ I)];have AJ:(s.toList == [46,46])=true:=by rw [I];rfl
   have A7:(s.toList == [46])=false:=by rw [I];rfl
   have AA:s.toList.isEmpty=false:=by rw [I];rfl
   clear J h1 I;go_enter func67,ntmps67;go_wp2_with fail;go_ret;exact⟨rfl,Below.refl _ _⟩
  ·rw [aBc (hl.o ▸ J) (hl.o ▸ h1) (hl.o ▸ I) (by rw [M.o];exact Y)];have AJ:(s.toList == [46,46])=false:=by simpa using I
   have A7:(s.toList == [46])=false:=by simpa using h1
   have AA:s.toList.isEmpty=false:=by cases h:s.toList <;> simp_all
   clear J h1 I;obtain⟨b,ae⟩:=ai (s.data.toList.all Mj);rw [<- ae];have AL:=aa ae;clear ae;go_enter func67,ntmps67;go_wp2_with (go_at_call 113; refine (aA7 _ _).mono ?_;rintro e w1 ⟨rfl,ae⟩;rw [<- AL.o]);go_ret;exact⟨by simp,ae⟩
 ·rw [aBb (by rw [M.o];exact Y)];have AB:(64:Int) < s.size:=om;go_enter func67,ntmps67;go_wp2_with fail;all_goals go_ret
  all_goals exact⟨by simp,Below.refl _ _⟩
end
section
open Go.RowKit
variable {F:Fence} {n:Nat} {P:Program}
def aBe (B:Nat) (QR:World->World->Prop) (lG:List α->World->Prop) (Oz:Code->List α->World->Prop) (xs:List α) (W:aRB):Exit->Act->World->Prop
 | .normal,_,W'=>(W'.heap[B]?=W.heap[B]?/\W'.heap[B+1]?=W.heap[B+1]?)/\QR W W'/\lG xs W'
 | .ret,_,W'=>(W'.heap[B]?=W.heap[B]?/\W'.heap[B+1]?=W.heap[B+1]?)/\Oz .ret xs W'
 | .exit id,_,W'=>(W'.heap[B]?=W.heap[B]?/\W'.heap[B+1]?=W.heap[B+1]?)/\Oz (.exit id) xs W'
 | .goto t,_,W'=>(W'.heap[B]?=W.heap[B]?/\W'.heap[B+1]?=W.heap[B+1]?)/\Oz (.goto t) xs W'
 | .panic _,_,_=>False
 | .outgrown,_,_=>False
theorem aBf {g:Operand} {ps:Array Tmp} {assign body:Code} {Q:aRE} {a:Act}
  (DW:F.round=none) (h1:1<=n) {gf:Nat} {lb:Array Value} (ax:a.eval g = .func (.func gf) #[] lb) (aBg:F.fn gf) (zV:∀ args w,(callFunc gf args).run P w = .ok (.enter gf args) w)
  (enc:α->Value) (yE:ps.size=1) (K QR:World->World->Prop) (S TN:List α->Prop)
  (vV:∀ (l:Nat) (bu vS:List α->World->Prop) (W:aRB),Bl w W->(∀ s aF aV,bu s aF->K aF aV->bu s aV) ->
   (∀ pre x aF,bu pre aF->YieldAt F (n - 1 - 1) P l #[enc x] aF fun e W'=>(e = .returned (.bool true)/\bu (pre++[x]) W'/\QR aF W')\/(e = .returned (.bool false)/\vS (pre++[x]) W')) ->
   bu [] W->CallsIn F (n - 1) P gf (#[.func (.yield l) #[] #[]]++lb) W fun e W'=>(∃ v,e = .returned v)/\((∃ xs,S xs/\bu xs W')\/(∃ pre,TN pre/\vS pre W')))
  (ah1:∀ aF aV k,K aF aV->w.heap.size<=k->aV.heap[k]?=aF.heap[k]?) (ap1:∀ A B C,QR A B->QR B C->QR A C) (ah2:∀ W k o,w.heap.size<=k->QR W (W.putObj k o))
  (lG:List α->World->Prop) (Oz:Code->List α->World->Prop) (aBh:∀ pre aF aV,lG pre aF->K aF aV->lG pre aV)
  (eG:∀ pre W k o,lG pre W->w.heap.size<=k->k < w.heap.size+2->lG pre (W.putObj k o)) (Zd:∀ c pre W k o,Oz c pre W->w.heap.size<=k->k < w.heap.size+2->Oz c pre (W.putObj k o))
  (aX:∀ iZ nZ,lG [] ((w.alloc iZ).alloc nZ)) (ap2:α->Act)
  (aBi:∀ (l:Nat) (x:α) (W:aRB) (K:Act->World->Prop),K (ap2 x) W ->
   assign.wpIn (F.inRound l) (n - 1 - 1) P (Exit.then K (fun _ _ _=>False)) { tmps:=(ps.zip #[enc x]).foldl (fun t (p,v)=>t.setIfInBounds p v) a.tmps,defers:=[] } W)
  (ap3:∀ (l:Nat) (pre:List α) (x:α) (W:aRB),lG pre W->body.wpIn (F.inRound l) (n - 1 - 1) P (aBe w.heap.size QR lG Oz (pre++[x]) W) (ap2 x) W)
  (ap4:∀ (xs:List α) (W:aRB),S xs->lG xs W->W.heap[w.heap.size]?=some (.deferred (some []))->Q .normal { a with defers:={ target:=.collected w.heap.size,args:=#[] } :: a.defers } W)
  (ap5:∀ (c:Code) (pre:List α) (W:aRB),TN pre->Oz c pre W->W.heap[w.heap.size]?=some (.deferred (some []))->c.wpIn F n P Q { a with defers:={ target:=.collected w.heap.size,args:=#[] } :: a.defers } W) :
  (Code.rangeFunc g ps assign body).wpIn F n P Q a w:=by
 refine wpIn_rangeFunc ?_;intro fn Ag;rw [DW];obtain⟨D,AZ⟩:=ai w.heap.size;obtain⟨rec,Y⟩:∃ rec:LoopState->Option Code->Loop,rec=fun st AB=>{ state:=st,pending:=AB,fn,tmps:=a.tmps,params:=ps,assign,body,defers:=w.heap.size }:=⟨_,rfl⟩;let A7:LoopState->Option Code->World->Prop:=fun st AB W=>W.heap[D+1]?=some (.loop (rec st AB))/\W.heap[D]?=some (.deferred (some []));obtain⟨aF,AV⟩:∃ aF,(w.alloc (.deferred (some []))).alloc (.loop (rec .ready none))=aF:=⟨_,rfl⟩;have Ah:A7 .ready none aF:=by
  rw [<- AV];refine⟨?_,?_⟩
  ·have:=aQt (w.alloc (.deferred (some []))) (.loop (rec .ready none));rwa [World.size_alloc,<- AZ] at this
  ·rw [AZ];exact (aQN _ _ _ sp).trans (aQt w _)
 have Ai:Bl w aF:=by rw [<- AV];exact ((Below.refl _ w).alloc (aQm _) _).alloc sp _
 have Ak:lG [] aF:=by rw [<- AV];exact aX _ _
 have dK:∀ {st AB W} (Aa Ab),A7 st AB W->A7 Aa Ab (W.putObj (D+1) (.loop (rec Aa Ab))):=fun Aa Ab h =>
  ⟨World.putObj_heap_same (aQZ.1 h.1).1,(aQW om).trans h.2⟩
 have keep:∀ {st AB W W'},A7 st AB W->(W'.heap[D]?=W.heap[D]?/\W'.heap[D+1]?=W.heap[D+1]?)->A7 st AB W':=fun h k=>⟨k.2.trans h.1,k.1.trans h.2⟩;refine⟨w.heap.size+1,[{ target:=.collected w.heap.size,args:=#[] }],aF,{ target:=.fn (.func gf) lb,args:=#[.func (.yield (w.heap.size+1)) #[] #[]] },aF,gf,
  #[.func (.yield (w.heap.size+1)) #[] #[]]++lb,aF,?_,?_,?_,?_,fun _=>h1,?_⟩
 ·rw [<- AV,Y];exact run_enterLoop_outer _ _ _ _ _
 ·simp only [resolve,ax];simp [go_sem]
 ·intro Aq Ae;simp [Target.leads] at Ae;subst Ae;exact aBg
 ·simp [invoke,go_sem,zV]
 rw [<- AZ] at eG Zd ah1 ah2 ap3 ap4 ap5 |-;refine (vV (D+1) (fun pre W=>lG pre W/\A7 .ready none W) (fun pre W=>∃ c,Oz c pre W/\A7 .done (some c) W) aF Ai ?_ ?_ ⟨Ak,Ah⟩).mono ?_
 ·rintro s A C ⟨AJ,hl,hk⟩ Ad;exact⟨aBh _ _ _ AJ Ad,(ah1 _ _ _ Ad om).trans hl,(ah1 _ _ _ Ad om).trans hk⟩
 ·
  rintro pre x W ⟨AJ,hl,hk⟩;have hy:=run_yield (P:=P) (args:=#[enc x]) hl (by rw [Y];exact yE.symm);rw [Y] at hy;refine⟨fn,_,assign,body,hy,roundIn_of_wpIn Ag (aBi _ x W _ ⟨_,run_beginRound hl (by rw [Y]),?_⟩)⟩;have Al:A7 .busy none (W.putObj (D+1) (.loop (rec .busy none))):=dK .busy none ⟨hl,hk⟩;rw [show ({ rec .ready none with state:=.busy }:Loop)=rec .busy none by rw [Y]];refine wpIn_mono (ap3 _ pre x _ (eG _ _ _ _ AJ om om)) ?_;have fin:∀ (jump:Option Code) (M:aRB),(M.heap[D]?=(W.putObj (D+1) (.loop (rec .busy none))).heap[D]?/\M.heap[D+1]?=(W.putObj (D+1) (.loop (rec .busy none))).heap[D+1]?) ->
    (Instr.endRound (D+1) jump).run P M = .ok (.bool jump.isNone) (M.putObj (D+1) (.loop (rec (if jump.isNone then .ready else .done) jump)))/\A7 (if jump.isNone then .ready else .done) jump (M.putObj (D+1) (.loop (rec (if jump.isNone then .ready else .done) jump))):=by
   intro jump M AA;have Af:=keep Al AA;have:=run_endRound (P:=P) jump Af.1;rw [show ({ rec .busy none with state:=if jump.isNone then .ready else .done,pending:=jump }:Loop)=rec (if jump.isNone then .ready else .done) jump by rw [Y]] at this;exact⟨this,dK _ _ Af⟩
  rintro e a3 M aL;cases e with
  | normal =>
   obtain⟨AA,Am,AL⟩:=aL;obtain⟨AO,AP⟩:=fin none M AA;exact⟨_,_,AO,.inl ⟨rfl,⟨eG _ _ _ _ AL om om,AP⟩,ap1 _ _ _ (ap1 _ _ _ (ah2 _ _ _ om) Am) (ah2 _ _ _ om)⟩⟩
  | ret =>
   obtain⟨AA,AL⟩:=aL;obtain⟨AO,AP⟩:=fin (some .ret) M AA;exact⟨_,_,AO,.inr ⟨rfl,.ret,Zd _ _ _ _ _ AL om om,AP⟩⟩
  | exit id =>
   obtain⟨AA,AL⟩:=aL;obtain⟨AO,AP⟩:=fin (some (.exit id)) M AA;exact⟨_,_,AO,.inr ⟨rfl,.exit id,Zd _ _ _ _ _ AL om om,AP⟩⟩
  | goto t =>
   obtain⟨AA,AL⟩:=aL;obtain⟨AO,AP⟩:=fin (some (.goto t)) M AA;exact⟨_,_,AO,.inr ⟨rfl,.goto t,Zd _ _ _ _ _ AL om om,AP⟩⟩
  | panic Au=>exact aL.elim
  | outgrown=>exact aL.elim
 ·
  rintro e aV ⟨⟨v,rfl⟩,(⟨xs,Ao,AJ,hl,hk⟩ | ⟨pre,Ap,c,AJ,hl,hk⟩)⟩
  ·exact⟨none,_,by have:=run_endLoop (P:=P) hl (by rw [Y];simp);rw [Y] at this;exact this,ap4 xs _ Ao (eG _ _ _ _ AJ om om) ((aQW om).trans hk)⟩
  ·exact⟨some c,_,by have:=run_endLoop (P:=P) hl (by rw [Y];simp);rw [Y] at this;exact this,ap5 c pre _ Ap (Zd _ _ _ _ _ AJ om om) ((aQW om).trans hk)⟩
end
section
open Go.RowKit
attribute [local go_sem] Oper.semAt_some
theorem aBm (w:aRB) (s:ByteArray):Calls prog 208 #[.string s,.string ⟨#[47]⟩] w fun e w'=>e = .returned (.int .i64 (Lib.indexByte s.data.toList 47))/\w'=w:=by
 by_cases h:s.toList=[47]
 ·have I:Lib.indexByte s.data.toList 47=0:=by rw [<- ByteArray.toList_eq,h];decide
  rw [I];have J:(s.toList == [47])=true:=by rw [h];rfl
  have M:([47] == s.toList)=true:=by rw [h];rfl
  clear h I;go_enter func208,ntmps208;go_wp2_with fail;go_ret;exact⟨rfl,rfl⟩
 ·have J:(s.toList == [47])=false:=by simpa using h
  have M:([47] == s.toList)=false:=by simpa using fun e=>h e.symm
  clear h;go_enter func208,ntmps208;go_wp2_with (go_at_call 210; refine (apW _ _ _).mono ?_;rintro e af ⟨rfl,rfl⟩);all_goals go_ret
  all_goals exact⟨rfl,rfl⟩
theorem ap6 (w:aRB) (s:ByteArray):Calls prog 163 #[.string s,.string ⟨#[47]⟩] w fun e w'=>e = .returned (.int .i64 (Lib.indexByte s.data.toList 47))/\w'=w:=by go_enter func163,ntmps163;go_wp2_with (first | (go_at_call 208; refine (aBm _ _).mono ?_;rintro e af ⟨rfl,rfl⟩));go_ret;exact⟨rfl,rfl⟩
def OB (w:aRB) (s:ByteArray):World:=((w.alloc (.cells #[.string s] 9)).alloc (.cells #[.string ⟨#[47]⟩] 9)).alloc (.cells #[.int .i64 0] 3)
theorem aBn (w:aRB) (s:ByteArray):Calls prog 66 #[.string s,.string ⟨#[47]⟩] w fun e w'=>e = .returned (.func (.func 161) #[] #[pp (w.heap.size+1) 0,pp w.heap.size 0,pp (w.heap.size+1+1) 0])/\w'=OB w s:=by go_enter func66,ntmps66;go_wp2;go_ret;exact⟨rfl,rfl⟩
theorem Mx (f:FuncId):Fence.wide.fn f:=trivial
def ah6 (ji:Nat) (w:aRB):Nat:=match w.heap[ji]? with | some (.cells #[.string s] _ _)=>s.size | _=>0
theorem ap7 {ji:Nat} {s:ByteArray} {bf:Nat × Nat} (h:w.heap[ji]?=some (.cells #[.string s] t bf)):ah6 ji w=s.size:=by unfold ah6;rw [h];rfl
theorem Ze {u:Value} (h:w.heap[B]?=some (.cells #[v] t (0,0))):(w.setCell ⟨B,0,none⟩ u).heap[B]?=some (.cells #[u] t (0,0)):=by have:=setCell_eq_setRow w B 0 #[v] t (0,0) u h;rw [this];exact aQB w B _ _ t _ h
theorem Jc (u:Value) (hk:k≠B):(w.setCell ⟨B,0,none⟩ u).heap[k]?=w.heap[k]?:=aQE w ⟨B,0,none⟩ u k hk
theorem Hq (h:w.heap[B]?=some (.cells #[v] t (0,0))):w.cell? (ad B 0)=some v:=(aQo w B 0 _ _ _ h).trans rfl
theorem TT (h:w.heap[B]?=some (.cells #[v] t (0,0))):w.frozen? ⟨B,0,none⟩=false:=by simp [World.frozen?,h]
theorem aBo (l:aRH):(Lib.indexByte l 47 = -1/\47 ∉ l)\/∃ a b,l=a++47 :: b/\47 ∉ a/\Lib.indexByte l 47=a.length:=by
 rcases Int.lt_or_le (Lib.indexByte l 47) 0 with h | h
 ·have h1:Lib.indexByte l 47 = -1:=by have:=Lib.indexByte_ge l 47;omega
  refine .inl ⟨h1,fun hm=>?_⟩;obtain⟨k,hk⟩:=aRh hm;exact Lib.indexByte_none h1 k hk
 ·obtain⟨k,hk⟩:∃ k:Nat,Lib.indexByte l 47=k:=⟨(Lib.indexByte l 47).toNat,om⟩;obtain⟨h1,M⟩:=Lib.indexByte_some hk;have J:k < l.length:=(aQs.1 h1).1;refine .inr ⟨l.take k,l.drop (k+1),?_,?_,?_⟩
  ·have:l[k]=47:=by simpa [J] using h1
   rw [<- this,<- List.drop_eq_getElem_cons J,List.take_append_drop]
  ·intro hm;obtain⟨i,I⟩:=aRh hm;rw [List.getElem?_take] at I;split at I
   ·exact M i (by assumption) I
   ·cases I
  ·rw [hk,List.length_take];omega
theorem aBp (n l Wl ji Wm:Nat) (uf:1<=n) (s:aRH) (BM:s.length<=1100000) (bJ:Wl≠ji) (aBq:Wm≠ji) (bu vS:List (List UInt8)->World->Prop)
  (MB:∀ pre W v,bu pre W->bu pre (W.setCell ⟨ji,0,none⟩ v))
  (fM:∀ pre x W,bu pre W->YieldAt Fence.wide (n - 1) prog l #[.string (az x)] W fun e W' =>
   (e = .returned (.bool true)/\bu (pre++[x]) W'/\(∀ k,k=Wl\/k=ji\/k=Wm->W'.heap[k]?=W.heap[k]?))\/(e = .returned (.bool false)/\vS (pre++[x]) W'))
  (W:aRB) (aL:W.heap[Wl]?=some (.cells #[.string ⟨#[47]⟩] 9 (0,0))) (hs:W.heap[ji]?=some (.cells #[.string (az s)] 9 (0,0))) (aB:W.heap[Wm]?=some (.cells #[.int .i64 0] 3 (0,0))) (aX:bu [] W) :
  CallsIn Fence.wide n prog 161 #[.func (.yield l) #[] #[],pp Wl 0,pp ji 0,pp Wm 0] W fun e W' =>
   (∃ v,e = .returned v)/\(bu (vg s) W'\/∃ pre,pre <+: vg s/\vS pre W'):=by
 refine aQ1 func161 rfl trivial ?_ rfl;simp only [ntmps161,List.size_toArray,List.length_cons,List.length_nil,Nat.reduceAdd,Nat.reduceSub,Array.replicate_succ,Array.replicate_zero,List.push_toArray,List.append_toArray,List.nil_append,List.cons_append];have Al:=Hq aL
 gi_wp2_with fail
 gi_loopw [] (fun wr=>∃ pre rest,rest.length<=s.length/\vg s=pre++vg rest/\wr.heap[Wl]?=some (.cells #[.string ⟨#[47]⟩] 9 (0,0))/\wr.heap[ji]?=some (.cells #[.string (az rest)] 9 (0,0))/\wr.heap[Wm]?=some (.cells #[.int .i64 0] 3 (0,0))/\bu pre wr) (fun wr=>ah6 ji wr)
 case atStart=>exact⟨[],s,aQm _,rfl,aL,hs,aB,aX⟩
 case round =>
  obtain⟨pre,rest,Bf,AP,aL,hs,aB,Ae⟩:=hrel;have AV:=ap7 hs;have Al:=Hq aL;have cs:=Hq hs;have BI:=Hq aB;have fs:=TT hs;have hf:=Mx 163;rcases aBo rest with ⟨Y,Am⟩ | ⟨a,b,A7,Ao,Y⟩
  ·have j3:∀ w,CallsIn Fence.wide (n - 1) prog 163 #[.string (az rest),.string ⟨#[47]⟩] w fun e w'=>e = .returned (.int .i64 (-1))/\w'=w:=fun w=>by
    have:=aQG (n:=n - 1).2 (ap6 w (az rest));rw [gU,Y] at this;exact this
   have AA:=ahi Am;obtain⟨fn,tmps,assign,body,hy,AZ⟩:=fM pre rest wr Ae;obtain⟨R,I⟩:=ai (az rest);rw [<- I] at cs j3 hy;have AB:=aa AP;have AJ:=aa AA;clear Y Am I aL hs aB AP AA AV
   gi_wp2_with (gi_at_call 163; refine (j3 _).mono ?_;rintro e w' ⟨rfl,rfl⟩)
   refine AZ.mono ?_;rintro e Af (⟨rfl,Aa,_⟩ | ⟨rfl,Ag⟩)
   ·gi_wp2_with fail
    go_end0;exact⟨⟨_,rfl⟩,.inl (by rw [AB.o,AJ.o];exact Aa)⟩
   ·gi_wp2_with fail
    go_end0;exact⟨⟨_,rfl⟩,.inr ⟨pre++[rest],by rw [AB.o,AJ.o];exact List.prefix_refl _,Ag⟩⟩
  ·have j3:∀ w,CallsIn Fence.wide (n - 1) prog 163 #[.string (az rest),.string ⟨#[47]⟩] w fun e w'=>e = .returned (.int .i64 a.length)/\w'=w:=fun w=>by
    have:=aQG (n:=n - 1).2 (ap6 w (az rest));rw [gU,Y] at this;exact this
   have AA:vg rest=a :: vg b:=by rw [A7,aom,ahi Ao];rfl
   obtain⟨fn,tmps,assign,body,hy,AZ⟩:=fM pre a wr Ae;have M:(az rest).size=a.length+1+b.length:=by rw [iM,A7];simp;omega
   have BJ:(az rest).size<=1100000:=by rw [iM];omega
   have BK:b.length<=s.length:=by rw [iM] at M;omega
   have Ah:(az rest).extract 0 a.length=az a:=aoj (by rw [Od,gU,A7];simp);have Ai:(az rest).extract (a.length+1) (az rest).size=az b:=aoj (by rw [M,Od,gU,A7];simp);obtain⟨k,hk⟩:=ai a.length;rw [<- hk] at j3 Ah Ai M;obtain⟨R,I⟩:=ai (az rest);rw [<- I] at cs j3 Ah Ai M BJ AV;obtain⟨Fr,Ap⟩:=ai (az a);rw [<- Ap] at hy Ah;obtain⟨AL,Ab⟩:=ai (az b);rw [<- Ab] at Ai;have Aq:AL.size=b.length:=by rw [Ab,iM]
   obtain⟨AB,AJ,BL,BO,Au,Aw,Ay⟩:=hq7 AP AA Ab I aL hs aB;have Bi:(k:Int)<=R.size:=om;have Bo:(k:Int)+1<=R.size:=om;obtain⟨BP,BQ,BX⟩:=hq3 M AV Aq;clear Y Ao I aL hs aB AP AA Ap Ab A7 hk M AV Aq
   gi_wp2_with (gi_at_call 163; refine (j3 _).mono ?_;rintro e w' ⟨rfl,rfl⟩)
   refine AZ.mono ?_;clear AZ hy;rintro e Af (⟨rfl,Aa,Ad⟩ | ⟨rfl,Ag⟩)
   ·have Ak:=(Ad Wl (.inl rfl)).trans Au.o;have AO:=(Ad ji (.inr (.inl rfl))).trans Aw.o;have Az:=(Ad Wm (.inr (.inr rfl))).trans Ay.o;rw [<- BO.o] at AO;have Bq:=Hq Ak;have Br:=Hq AO;have Bt:=TT AO;have Bb:=MB _ _ (.string AL) Aa;have BA:=(Jc (w:=Af) (.string AL) bJ).trans Ak;have BF:=Ze (u:=.string AL) AO;have BG:=(Jc (w:=Af) (.string AL) aBq).trans Az;obtain⟨Bc,BH,Bd⟩:=hq3 BA BF BG;clear Ad Ak AO Az BA BF BG cs Al BI fs Au Aw Ay Ae Aa
    gi_wp2_with fail
    go_roundw;case rel =>
     refine⟨pre++[a],b,BK,?_,Bc.o,?_,Bd.o,Bb⟩
     ·rw [AB.o,AJ.o];simp
     ·rw [<- BL.o];exact BH.o
    case measure =>
     rw [ap7 BH.o,BX.o,BQ.o,BP.o];omega
   ·gi_wp2_with fail
    refine qm ?_;exact⟨⟨_,rfl⟩,.inr ⟨pre++[a],by rw [AB.o,AJ.o];exact⟨vg b,by simp⟩,Ag⟩⟩
end
section
open Go.RowKit
attribute [local go_sem] Oper.semAt_some
def aqc (H:Nat) (w:aRB) (pre:List (List UInt8)) (W:aRB):Prop :=
 W.heap[H]?=some (.cells #[.bool false] 4 (0,0))/\W.heap[H+1]?=some (.cells #[.int .i64 pre.length] 3 (0,0))/\Below H w W/\H+5+2<=W.heap.size/\pre.all DJ=true/\pre.length<=16
def aBw (H:Nat) (w:aRB) (c:Code) (pre:List (List UInt8)) (W:aRB):Prop :=
 c = .ret/\W.heap[H]?=some (.cells #[.bool false] 4 (0,0))/\Below H w W/\(pre.all DJ && decide (pre.length<=16))=false
theorem aBx {pre ps:List (List UInt8)} (h:pre <+: ps) (ah:(pre.all DJ && decide (pre.length<=16))=false):(ps.all DJ && decide (ps.length<=16))=false:=by
 obtain⟨t,rfl⟩:=h;rw [List.all_append,List.length_append];simp only [Bool.and_eq_false_iff,decide_eq_false_iff_not] at ah |-;rcases ah with h | h
 ·exact .inl (.inl h)
 ·exact .inr om
theorem aib {H:Nat} {W w1:aRB} {pre:List (List UInt8)} (i:aqc H w pre W) (hH:H<=w.heap.size) (ae:Below (W.setCell ⟨H+1,0,none⟩ v).heap.size (W.setCell ⟨H+1,0,none⟩ v) w1) :
  w1.heap[H]?=some (.cells #[.bool false] 4 (0,0))/\w1.heap[H+1]?=some (.cells #[v] 3 (0,0))/\Below H w w1/\H+5+2<=w1.heap.size/\∀ k,k≠H+1->k < H+5+2->w1.heap[k]?=W.heap[k]?:=by
 obtain⟨i0,i1,I,M,_,_⟩:=i;rw [World.size_setCell] at ae;have J:=ae.size;rw [World.size_setCell] at J;refine⟨(ae.block _ om).trans ((Jc v om).trans i0),(ae.block _ om).trans (Ze i1),?_,om,fun k hk Y=>(ae.block _ om).trans (Jc v hk)⟩;exact (I.setCell (p:=ad (H+1) 0) (by show H<=H+1;omega) v).trans (ae.mono om)
theorem adg (w:aRB) (s:ByteArray) (hs:s.size<=1100000):CB 43 #[.string s] w (.bool (eF s.data.toList)):=by
 refine (aQG (n:=5)).1 ?_;refine aRf func43 rfl trivial ?_ rfl;simp only [ntmps43,List.size_toArray,List.length_cons,List.length_nil,Nat.reduceAdd,Nat.reduceSub,Array.replicate_succ,Array.replicate_zero,List.push_toArray,List.append_toArray,List.nil_append,List.cons_append];have hf:=Mx 66
 gi_wp2_with (gi_at_call 66; refine (aQG.2 (aBn _ _)).mono ?_;rintro e w' ⟨rfl,rfl⟩)
 obtain⟨H,hH⟩:=ai w.heap.size;obtain⟨dN,A7⟩:=ai (OB ((w.alloc (.cells #[.bool false] 4)).alloc (.cells #[.int .i64 0] 3)) s);have z0:dN.heap.size=H+5:=by rw [A7,hH];simp [OB]
 have BO:Below H w dN:=by rw [A7,hH,OB];exact (((gK.alloc sp _).alloc (by simp <;> omega) _).alloc (by simp <;> omega) _).alloc (by simp <;> omega) _
 have Ae:dN.heap[H]?=some (.cells #[.bool false] 4 (0,0)):=by rw [A7,hH,OB,Below.heap_alloc _ _ _ (by simp <;> omega),Below.heap_alloc _ _ _ (by simp <;> omega),Below.heap_alloc _ _ _ (by simp <;> omega),Below.heap_alloc _ _ _ sp];exact aQz w _
 have Af:dN.heap[H+1]?=some (.cells #[.int .i64 0] 3 (0,0)):=by rw [A7,hH,OB,Below.heap_alloc _ _ _ (by simp <;> omega),Below.heap_alloc _ _ _ (by simp <;> omega),Below.heap_alloc _ _ _ sp];have:=aQz (w.alloc (.cells #[.bool false] 4)) (.cells #[.int .i64 0] 3);rwa [World.size_alloc] at this
 have Ag:dN.heap[H+1+1]?=some (.cells #[.string s] 9 (0,0)):=by rw [A7,hH,OB,Below.heap_alloc _ _ _ (by simp <;> omega),Below.heap_alloc _ _ _ sp];have:=aQz ((w.alloc (.cells #[.bool false] 4)).alloc (.cells #[.int .i64 0] 3)) (.cells #[.string s] 9);rwa [World.size_alloc,World.size_alloc] at this
 have Ah:dN.heap[H+1+1+1]?=some (.cells #[.string ⟨#[47]⟩] 9 (0,0)):=by rw [A7,hH,OB,Below.heap_alloc _ _ _ sp];have:=aQz (((w.alloc (.cells #[.bool false] 4)).alloc (.cells #[.int .i64 0] 3)).alloc (.cells #[.string s] 9)) (.cells #[.string ⟨#[47]⟩] 9);rwa [World.size_alloc,World.size_alloc,World.size_alloc] at this
 have Ai:dN.heap[H+1+1+1+1]?=some (.cells #[.int .i64 0] 3 (0,0)):=by rw [A7,hH,OB];have:=aQz ((((w.alloc (.cells #[.bool false] 4)).alloc (.cells #[.int .i64 0] 3)).alloc (.cells #[.string s] 9)).alloc (.cells #[.string ⟨#[47]⟩] 9)) (.cells #[.int .i64 0] 3);rwa [World.size_alloc,World.size_alloc,World.size_alloc,World.size_alloc] at this
 rw [<- A7,<- hH];have AA:=aa hH;clear A7 hH;refine aBf rfl om (gf:=161) (lb:=#[pp (H+1+1+1) 0,pp (H+1+1) 0,pp (H+1+1+1+1) 0]) rfl trivial (enters_of func161 kr rfl)
  (fun x:List UInt8=>Value.string (az x)) rfl (fun aF aV=>∃ v,aV=aF.setCell ⟨H+1+1,0,none⟩ v) (fun W W'=>∀ k,k=H+1+1+1\/k=H+1+1\/k=H+1+1+1+1->W'.heap[k]?=W.heap[k]?)
  (fun xs=>xs=vg s.data.toList) (fun pre=>pre <+: vg s.data.toList) ?call ?gW (fun A B C h1 Ao k hk=>(Ao k hk).trans (h1 k hk)) (fun W k o hk j aD=>aQW om)
  (aqc H w) (aBw H w) ?BP ?ip ?BQ ?BX
  (fun x=>{ tmps:=#[.string s,undef,pp H 0,pp (H+1) 0,.string (az x),.string s,.func (.func 161) #[] #[pp (H+1+1+1) 0,pp (H+1+1) 0,pp (H+1+1+1+1) 0],.string (az x),undef,undef,undef,undef,undef,undef,undef,undef,undef],defers:=[] }) ?assign ?body ?done ?stop
 case call =>
  intro l bu Bb W Ap Bc Bd Bf;refine (aBp 4 l (H+1+1+1) (H+1+1) (H+1+1+1+1) om s.data.toList (by rw [wG];exact hs) om om bu Bb (fun pre W v h=>Bc _ _ _ h ⟨v,rfl⟩) Bd W ((Ap.block _ om).trans Ah) ?_ ((Ap.block _ om).trans Ai) Bf).mono ?_
  ·rw [YG];exact (Ap.block _ om).trans Ag
  ·rintro e aV ⟨BK,Bi | ⟨pre,aL,ah⟩⟩
   ·exact⟨BK,.inl ⟨_,rfl,Bi⟩⟩
   ·exact⟨BK,.inr ⟨pre,aL,ah⟩⟩
 case gW =>
  rintro aF aV k ⟨v,rfl⟩ hk;exact Jc v om
 case BP =>
  rintro pre aF aV ⟨i0,i1,I,AZ,AB,AJ⟩ ⟨v,rfl⟩;exact⟨(Jc v om).trans i0,(Jc v om).trans i1,I.setCell (p:=ad (H+1+1) 0) (by show H<=H+1+1;omega) v,by rw [World.size_setCell];exact AZ,AB,AJ⟩
 case ip =>
  rintro pre W k o ⟨i0,i1,I,AZ,AB,AJ⟩ h1 Ao;exact⟨(aQW om).trans i0,(aQW om).trans i1,I.grown (aQR W k o) (by have:=I.size;have:=AA.o;omega) (fun j e=>by cases e;omega),by rw [World.putObj_size];exact AZ,AB,AJ⟩
 case BQ =>
  rintro c pre W k o ⟨i0,i1,I,Ak⟩ h1 Ao;exact⟨i0,(aQW om).trans i1,I.grown (aQR W k o) (by have:=I.size;have:=AA.o;omega) (fun j e=>by cases e;omega),Ak⟩
 case BX =>
  intro Bw C8;exact⟨by rw [Below.heap_alloc _ _ _ (by simp <;> omega),Below.heap_alloc _ _ _ om];exact Ae,by rw [Below.heap_alloc _ _ _ (by simp <;> omega),Below.heap_alloc _ _ _ om];exact Af,(BO.alloc om _).alloc (by simp <;> omega) _,by simp;omega,rfl,by simp⟩
 case assign =>
  intro l x W K AP
  gi_wp2
  exact AP
 case body =>
  intro l pre x W BL;have Aq:=aa BL;obtain⟨i0,i1,I,AZ,AB,AJ⟩:=BL;have Au:=Hq i0;have f0:=TT i0;have c1:=Hq i1;have f1:=TT i1;have hlen:(pre.length:Int)<=16:=om;have C9:=Mx 67;obtain⟨Aw,Ay,Al,M⟩:=hq4 AB AJ i0 z0;clear AB AJ i0 i1 Ae Af Ag Ah Ai hs z0;by_cases Am:pre.length=16
  ·have Bn:(16:Int) < (pre.length:Int)+1:=om;have Az:=aa Am;clear Am;have Aa:=aib (v:=.int .i64 ((pre.length:Int)+1)) Aq.o (by rw [AA.o];exact aQm _) (Below.refl _ _);obtain⟨Y,AV,Ab,BA,AO⟩:=Aa;have Bo:=Hq Y;have Bp:=TT Y;have Ad:=aa Y;have AL:=aa AO;clear Y AV AO Au f0
   gi_wp2_with fail
   refine⟨⟨?_,?_⟩,rfl,Ze Ad.o,Ab.setCell (p:=ad H 0) (aQm _) _,?_⟩
   ·rw [M.o];exact (Jc _ om).trans (AL.o _ om om)
   ·rw [M.o];exact (Jc _ om).trans (AL.o _ om om)
   ·rw [List.length_append,Az.o];simp
  ·have Bn:(pre.length:Int)+1<=16:=om;have Az:=aa Am;clear Am Au f0;by_cases ah:DJ x=true
   ·have BF:∀ w,CB 67 #[.string (az x)] w (.bool true):=fun w=>by
     have:=ap0 w (az x);rw [gU,ah] at this;exact this
    have BG:=aa ah;clear ah
    gi_wp2_with (gi_at_call 67; refine (CallsIn.inRound l (aQG.2 (BF _))).mono ?_;rintro e w1 ⟨rfl,ae⟩;have Aa:=aib Aq.o (by rw [AA.o];exact aQm _) ae;obtain⟨Y,AV,Ab,BA,AO⟩:=Aa;obtain⟨Ad,Bq,AL⟩:=hq3 Y AV AO;clear Y AV AO ae)
    refine⟨⟨?_,?_⟩,fun k hk=>AL.o k om om,Ad.o,?_,Ab,BA,?_,?_⟩
    ·rw [M.o];exact AL.o _ om om
    ·rw [M.o];exact AL.o _ om om
    ·rw [Bq.o,List.length_append];simp
    ·rw [List.all_append,Aw.o];simp [BG.o]
    ·have:=Ay.o;have:=Az.o;rw [List.length_append,List.length_singleton];omega
   ·have BH:DJ x=false:=by simpa using ah
    have BF:∀ w,CB 67 #[.string (az x)] w (.bool false):=fun w=>by
     have:=ap0 w (az x);rw [gU,BH] at this;exact this
    have BG:=aa BH;clear ah BH
    gi_wp2_with (gi_at_call 67; refine (CallsIn.inRound l (aQG.2 (BF _))).mono ?_;rintro e w1 ⟨rfl,ae⟩;have Aa:=aib Aq.o (by rw [AA.o];exact aQm _) ae;obtain⟨Y,AV,Ab,BA,AO⟩:=Aa;have Bo:=Hq Y;have Bp:=TT Y;have Ad:=aa Y;have AL:=aa AO;clear Y AV AO ae)
    refine⟨⟨?_,?_⟩,rfl,Ze Ad.o,Ab.setCell (p:=ad H 0) (aQm _) _,?_⟩
    ·rw [M.o];exact (Jc _ om).trans (AL.o _ om om)
    ·rw [M.o];exact (Jc _ om).trans (AL.o _ om om)
    ·rw [List.all_append];simp [BG.o]
 case done =>
  rintro xs W rfl ⟨i0,i1,I,AZ,AB,AJ⟩ AP;have Au:=Hq i0;have f0:=TT i0;obtain⟨Al,M,BI,Aw,Ay⟩:=hq5 i0 z0 AP AB AJ;clear i0 i1 AB AJ AP Ae Af Ag Ah Ai z0
  gi_wp2_with fail
  have Br:(W.setCell ⟨H,0,none⟩ (.bool true)).heap[dN.heap.size]?=some (.deferred (some [])):=(Jc _ (by rw [M.o];omega)).trans BI.o;have Bt:(W.setCell ⟨H,0,none⟩ (.bool true)).heap[H]?=some (.cells #[.bool true] 4 (0,0)):=Ze Al.o;have BM:Below H w (W.setCell ⟨H,0,none⟩ (.bool true)):=I.setCell (p:=ad H 0) (aQm _) _;refine⟨by simp,.inl ⟨_,_,rfl,aQ5 Br,?_⟩⟩;have BJ:=Hq ((aQW (o:=.deferred none) (show H≠dN.heap.size by rw [M.o];omega)).trans Bt);refine⟨.bool true,?_,?_,?_⟩
  ·simp [results,Tryz.f43,go_sem,BJ]
  ·rw [eF,Aw.o];simp [Ay.o]
  ·rw [<- AA.o];exact BM.grown (aQR _ _ _) (by have:=BM.size;have:=AA.o;omega) (fun j e=>by cases e;rw [M.o];omega)
 case stop =>
  rintro c pre W Bu ⟨rfl,i0,I,Ak⟩ AP;obtain⟨Al,M,BI,Bv⟩:=hq4 i0 z0 AP Ak;clear i0 Ak AP Ae Af Ag Ah Ai z0
  gi_wp2_with fail
  refine⟨by simp,.inl ⟨_,_,rfl,aQ5 BI.o,?_⟩⟩;have BJ:=Hq ((aQW (o:=.deferred none) (show H≠dN.heap.size by rw [M.o];omega)).trans Al.o);refine⟨.bool false,?_,?_,?_⟩
  ·simp [results,Tryz.f43,go_sem,BJ]
  ·rw [eF,aBx Bu Bv.o]
  ·rw [<- AA.o];exact I.grown (aQR _ _ _) (by have:=I.size;have:=AA.o;omega) (fun j e=>by cases e;rw [M.o];omega)
end
section
open Go.RowKit
theorem aBG (w:aRB) (c:UInt8):CB 206 #[.int .u8 c.toNat] w (.bool (acQ c)):=by
 obtain⟨T,J⟩:=ai (az [c]);have AO:T.size=1:=by rw [J,iM];rfl
 obtain⟨U,Y⟩:=ai ((⟨#[97]⟩:ByteArray)++T);have A7:U.data.toList=[97,c]:=by rw [Y,acP,J,gU];rfl
 have AP:U.size=2:=by rw [<- wG,A7];rfl
 obtain⟨V,AA⟩:=ai (U++(⟨#[97]⟩:ByteArray));have AB:V.data.toList=[97,c,97]:=by rw [AA,acP,A7];rfl
 have Ab:V.size=3:=by rw [<- wG,AB];rfl
 have I:=fun w=>adg w V om;rw [AB] at I;have h1:¬ ((⟨#[97]⟩:ByteArray).size+T.size > 9223372036854775807):=by rw [AO];decide
 have Ae:¬ (U.size+(⟨#[97]⟩:ByteArray).size > 9223372036854775807):=by rw [AP];decide
 have M:Rd (w.alloc (.cells #[.int .u8 c.toNat] 5)) 1 (some ⟨w.heap.size,0,none⟩) 1 (bO [c]):=Rd.one w _ _;have Af:=Y.symm;have Ag:=AA.symm;have AV:=aa J;have AJ:=aa (show acQ c=(eF [97,c,97] && !(c == 47)) from rfl);obtain⟨m,hm⟩:=ai (eF [97,c,97]);rw [<- hm] at I AJ;clear J AO Y A7 AP AA AB Ab hm;have AZ:Bl w (w.alloc (.cells #[.int .u8 c.toNat] 5)):=(Below.refl _ w).alloc (aQm _) _;have Aa:=aa AZ;clear AZ;cases m with
 | false =>
  go_enter func206,ntmps206;go_wp2_with (first
   | ((with_reducible refine acO 5 (some ⟨w.heap.size,0,none⟩) 1 1 [c] underlying48 underlying5 underlying9 rfl M ?_ ?_);exact rfl;rw [show (⟨[c].toArray⟩:ByteArray)=T from AV.o.symm];clear M)
   | (go_at_call 43; refine (I _).mono ?_;rintro e af ⟨rfl,ae⟩;have AL:=aa ae;clear ae I))
  go_ret;exact⟨by rw [AJ.o];rfl,aR Aa.o AL.o⟩
 | true =>
  have Ad:=aa (show (((c.toNat:Int)) != 47) = !(c == 47) by
   rw [Bool.eq_iff_iff];simp only [bne_iff_ne,ne_eq,Bool.not_eq_true',beq_eq_false_iff_ne];rw [<- UInt8.toNat_inj,show (47:UInt8).toNat=47 from rfl];omega)
  go_enter func206,ntmps206;go_wp2_with (first
   | ((with_reducible refine acO 5 (some ⟨w.heap.size,0,none⟩) 1 1 [c] underlying48 underlying5 underlying9 rfl M ?_ ?_);exact rfl;rw [show (⟨[c].toArray⟩:ByteArray)=T from AV.o.symm];clear M)
   | (go_at_call 43; refine (I _).mono ?_;rintro e af ⟨rfl,ae⟩;have AL:=aa ae;clear ae I))
  go_ret;refine⟨?_,aR Aa.o AL.o⟩;rw [AJ.o,Bool.true_and,<- Ad.o];rfl
theorem aBH {p:aRH} (h:p.length<=l.length):p.isPrefixOf l=(l.take p.length == p):=by
 rw [Bool.eq_iff_iff,List.isPrefixOf_iff_prefix,beq_iff_eq];constructor
 ·rintro⟨t,rfl⟩;simp
 ·intro e;rw [<- e];exact List.take_prefix _ _
theorem aBI {p:aRH} (h:¬ p.length<=l.length):p.isPrefixOf l=false:=by rw [<- Bool.not_eq_true,List.isPrefixOf_iff_prefix];exact fun e=>h e.length_le
theorem aBJ (w:aRB) (s p:ByteArray) (hs:s.size<=1100000) (aL:p.size<=1100001):Calls prog 202 #[.string s,.string p] w fun e w'=>e = .returned (.bool (p.data.toList.isPrefixOf s.data.toList))/\w'=w:=by
 by_cases h:p.size<=s.size
 ·have h1:(p.size:Int)<=s.size:=om;have e:p.data.toList.isPrefixOf s.data.toList=((s.extract 0 p.size).toList == p.toList):=by rw [aBH (by rw [wG,wG];exact h),ByteArray.toList_eq,ByteArray.toList_eq,Od,wG,List.drop_zero,Nat.sub_zero]
  rw [e];obtain⟨X,I⟩:=ai (s.extract 0 p.size);rw [<- I];have J:=I.symm;clear e I;go_enter func202,ntmps202;go_wp2_with fail;go_ret;exact⟨by simp,rfl⟩
 ·rw [aBI (by rw [wG,wG];exact h)];have h1:¬ (p.size:Int)<=s.size:=om;go_enter func202,ntmps202;go_wp2_with fail;go_ret;exact⟨rfl,rfl⟩
theorem aqf (w:aRB) (s p:ByteArray) (v:Bool) (hs:s.size<=1100000) (aL:p.size<=1100001) (aZ:p.data.toList.isPrefixOf s.data.toList=v):Calls prog 155 #[.string s,.string p] w fun e w'=>e = .returned (.bool v)/\w'=w:=by have hc:=fun w=>aBJ w s p hs aL;rw [aZ] at hc;clear aZ;go_enter func155,ntmps155;go_wp2_with (go_at_call 202; refine (hc _).mono ?_;rintro e af ⟨rfl,rfl⟩);go_ret;exact⟨rfl,rfl⟩
theorem aBK (w:aRB) (s:fA) (hs:s.length<=1100000):CB 159 #[.string (az s)] w (.bool (EF s)):=by
 obtain⟨S,AV,n,Ae⟩:=nq2 (az s) s.length;have Bd:S.size=n:=by rw [AV,iM,Ae]
 have AZ:S.toList=s:=by rw [ByteArray.toList_eq,AV,gU]
 obtain⟨R,Ak⟩:=ai (EF s);rw [<- Ak,<- AV];rw [<- Ae] at hs;obtain⟨AL,Ay,Y⟩:=hq3 Ak AV Ae;clear Ak AV Ae;by_cases AO:s=[42,42]
 ·have BK:S.toList=[42,42]:=by rw [AZ,AO]
  have BL:=aa (show R=true by rw [AL.o,ayT AO]);clear AO AZ;go_enter func159,ntmps159;go_wp2_with fail;go_ret;exact⟨by rw [BL.o];rfl,Below.refl _ _⟩
 ·have BK:(S.toList == [42,42])=false:=by rw [AZ];simpa using AO
  have Aa:=aa AO;have Az:=aa AZ;clear AO AZ;go_enter func159,ntmps159;go_wp2_with fail;go_loopg [3,8] n (fun gk Bf BM wr=>∃ q:Nat,q+gk=n/\BM = .int .i64 q/\QI s q=false/\Bl w wr);case atStart=>exact⟨0,om,rfl,rfl,Below.refl _ _⟩
  case round =>
   obtain⟨q,Bi,rfl,BA,BF⟩:=hrel;have Af:=aa BA;have J:=aa BF;clear BA BF;by_cases Ab:q < n
   ·have BO:(q:Int) < n:=om;have Bn:(0:Int)<=q:=om;have Ag:q < S.size:=om;obtain⟨c,hc⟩:=ai (S[q]'Ag);have hcs:c=s.getD q 0:=by
     have e:s=S.data.toList:=by rw [Ay.o,gU]
     have BP:q < S.data.toList.length:=by rw [wG];exact Ag
     rw [hc,e,List.getD_eq_getElem?_getD,List.getElem?_eq_getElem BP];exact (Array.getElem_toList _).symm
    obtain⟨U,Al⟩:=ai (S.extract q n);have Am:U.data.toList=s.drop q:=by rw [Al,Od,Ay.o,gU];exact aRi (by rw [List.length_drop,Y.o];omega)
    have Bo:U.size<=1100000:=by rw [<- wG,Am,List.length_drop,<- Y.o];omega
    obtain⟨v,Ao⟩:=ai (([42,42]:aRH).isPrefixOf (s.drop q));have A7:=fun w=>aqf w U ⟨#[42,42]⟩ v om dc (by rw [Am,Ao]);have M:=fun w=>aBG w c;obtain⟨pl,Ap⟩:=ai (acQ c);rw [<- Ap] at M;rw [hc] at M;have BQ:(((S[q]'Ag).toNat:Int) != 63) = !(c == 63):=by rw [<- hc,Bool.eq_iff_iff];simp only [bne_iff_ne,ne_eq,Bool.not_eq_true',beq_eq_false_iff_ne];rw [<- UInt8.toNat_inj,show (63:UInt8).toNat=63 from rfl];omega
    have BX:(((S[q]'Ag).toNat:Int) != 42) = !(c == 42):=by rw [<- hc,Bool.eq_iff_iff];simp only [bne_iff_ne,ne_eq,Bool.not_eq_true',beq_eq_false_iff_ne];rw [<- UInt8.toNat_inj,show (42:UInt8).toNat=42 from rfl];omega
    obtain⟨eP,AA,Ad,AB⟩:=nq2 (c == 63) (c == 42);rw [<- AA] at BQ;rw [<- AB] at BX;obtain⟨Ah,AP,Ai,BG,BH⟩:=hq5 hcs Ao Ap AA AB;have Aq:=aa (ayR s q);have Bp:=Al.symm;clear hc Ao Ap Al Am hcs AA AB;cases pl with
    | true =>
     cases v with
     | true =>
      go_wp2_with (first
       | (go_at_call 206; refine jw (M _) ?_;intro af I)
       | (go_at_call 155; refine (A7 _).mono ?_;rintro e aC ⟨rfl,rfl⟩))
      go_ret;refine⟨?_,aR J.o I.o⟩;rw [AL.o,acR Aa.o (by rw [<- Y.o];exact Ab) (by rw [Kk,<- AP.o];simp)];rfl
     | false =>
      go_wp2_with (first
       | (go_at_call 206; refine jw (M _) ?_;intro af I)
       | (go_at_call 155; refine (A7 _).mono ?_;rintro e aC ⟨rfl,rfl⟩))
      go_roundg (gk - 1);case rel =>
       refine⟨q+1,om,by go_num,?_,aR J.o I.o⟩;rw [Aq.o,Af.o,Kk,<- AP.o,<- Ah.o,<- Ai.o];simp
      case measure=>omega
    | false =>
     cases eP with
     | true =>
      cases v with
      | true =>
       go_wp2_with (first
        | (go_at_call 206; refine jw (M _) ?_;intro af I)
        | (go_at_call 155; refine (A7 _).mono ?_;rintro e aC ⟨rfl,rfl⟩))
       go_ret;refine⟨?_,aR J.o I.o⟩;rw [AL.o,acR Aa.o (by rw [<- Y.o];exact Ab) (by rw [Kk,<- AP.o];simp)];rfl
      | false =>
       go_wp2_with (first
        | (go_at_call 206; refine jw (M _) ?_;intro af I)
        | (go_at_call 155; refine (A7 _).mono ?_;rintro e aC ⟨rfl,rfl⟩))
       go_roundg (gk - 1);case rel =>
        refine⟨q+1,om,by go_num,?_,aR J.o I.o⟩;rw [Aq.o,Af.o,Kk,<- AP.o,<- Ah.o,<- Ai.o];simp [<- BG.o]
       case measure=>omega
     | false =>
      cases Ad with
      | true =>
       cases v with
       | true =>
        go_wp2_with (first
         | (go_at_call 206; refine jw (M _) ?_;intro af I)
         | (go_at_call 155; refine (A7 _).mono ?_;rintro e aC ⟨rfl,rfl⟩))
        go_ret;refine⟨?_,aR J.o I.o⟩;rw [AL.o,acR Aa.o (by rw [<- Y.o];exact Ab) (by rw [Kk,<- AP.o];simp)];rfl
       | false =>
        go_wp2_with (first
         | (go_at_call 206; refine jw (M _) ?_;intro af I)
         | (go_at_call 155; refine (A7 _).mono ?_;rintro e aC ⟨rfl,rfl⟩))
        go_roundg (gk - 1);case rel =>
         refine⟨q+1,om,by go_num,?_,aR J.o I.o⟩;rw [Aq.o,Af.o,Kk,<- AP.o,<- Ah.o,<- Ai.o];simp [<- BH.o]
        case measure=>omega
      | false =>
       go_wp2_with (first
        | (go_at_call 206; refine jw (M _) ?_;intro af I)
        | (go_at_call 155; refine (A7 _).mono ?_;rintro e aC ⟨rfl,rfl⟩))
       go_ret;refine⟨?_,aR J.o I.o⟩;rw [AL.o,acR Aa.o (by rw [<- Y.o];exact Ab) (by rw [Kk,<- Ah.o,<- Ai.o,<- BG.o,<- BH.o];rfl)];rfl
   ·have BI:q=n:=om;have BO:¬ (q:Int) < n:=om;have Au:=aa (show R=YM s by rw [AL.o,ayU Aa.o (by rw [<- Y.o,<- BI];exact Af.o)]);clear Ab BI;have Aw:=aa (show YM s=(decide (1<=n) && decide (n<=64) && !(s == [46]) && !(s == [46,46])) by rw [Y.o];rfl);by_cases h1:1<=n
    ·have Bb:(1:Int)<=n:=om;by_cases BJ:n<=64
     ·have Bc:(n:Int)<=64:=om;obtain⟨eP,AA,Ad,AB⟩:=nq2 (s == [46]) (s == [46,46]);have Bq:(S.toList == [46])=eP:=by rw [Az.o,AA]
      have Br:(S.toList == [46,46])=Ad:=by rw [Az.o,AB]
      have AJ:=aa (show R=(!eP && !Ad) by rw [Au.o,Aw.o,AA,AB];simp [h1,BJ]);clear AA AB;cases eP with
      | true =>
       go_wp2_with fail;go_ret;exact⟨by rw [AJ.o];rfl,J.o⟩
      | false =>
       cases Ad with
       | true =>
        go_wp2_with fail;go_ret;exact⟨by rw [AJ.o];rfl,J.o⟩
       | false =>
        go_wp2_with fail;go_ret;exact⟨by rw [AJ.o];rfl,J.o⟩
     ·have Bc:¬ (n:Int)<=64:=om;have AJ:=aa (show R=false by rw [Au.o,Aw.o];simp [BJ]);go_wp2_with fail;go_ret;exact⟨by rw [AJ.o];rfl,J.o⟩
    ·have Bb:¬ (1:Int)<=n:=om;have AJ:=aa (show R=false by rw [Au.o,Aw.o];simp [h1]);go_wp2_with fail;go_ret;exact⟨by rw [AJ.o];rfl,J.o⟩
end
section
open Go.RowKit Go.Shelf
theorem aBO (c:UInt8) (x r:ak) (h:c ∉ x):Lib.index (x++c :: r) [c]=x.length:=by
 rw [Lib.index_one];have hc:(x++c :: r)[x.length]?=some c:=by simp
 rcases Int.lt_or_le (Lib.indexByte (x++c :: r) c) 0 with I | I
 ·have h1:Lib.indexByte (x++c :: r) c = -1:=by have:=Lib.indexByte_ge (x++c :: r) c;omega
  exact absurd hc (Lib.indexByte_none h1 _)
 ·obtain⟨k,hk⟩:∃ k:Nat,Lib.indexByte (x++c :: r) c=k:=⟨_,(Int.toNat_of_nonneg I).symm⟩;obtain⟨h1,J⟩:=Lib.indexByte_some hk;rw [hk];rcases Nat.lt_trichotomy k x.length with M | heq | Y
  ·rw [List.getElem?_append_left M] at h1;exact absurd (aQr h1) h
  ·rw [heq]
  ·exact absurd hc (J _ Y)
theorem aBP (c:UInt8) (x:ak) (h:c ∉ x):Lib.index x [c] = -1:=by
 rw [Lib.index_one];rcases Int.lt_or_le (Lib.indexByte x c) 0 with I | I
 ·have:=Lib.indexByte_ge x c;omega
 ·obtain⟨k,hk⟩:∃ k:Nat,Lib.indexByte x c=k:=⟨_,(Int.toNat_of_nonneg I).symm⟩;exact absurd (aQr (Lib.indexByte_some hk).1) h
theorem aqg (l m:ak):Lib.indexB (az l) (az m)=Lib.index l m:=by show Lib.index (az l).data.toList (az m).data.toList=_;rw [gU,gU]
theorem aBQ (l r:ak) (c:UInt8):(az (l++c :: r)).extract (l.length+(az [c]).size) (az (l++c :: r)).size=az r:=by refine YF ?_;rw [Od,gU,gU,iM,iM];simp;exact aRi om
theorem aBR (l r:ak):(az (l++r)).extract 0 (l.length+0)=az l:=by refine YF ?_;rw [Od,gU,gU];simp
theorem adj (c:UInt8) (x y:ak) (r:List ak):Lib.join (x :: y :: r) [c]=x++c :: Lib.join (y :: r) [c]:=by rw [Lib.join_cons,Lib.join_cons,Lib.joinTail];simp [Lib.joinTail]
theorem aii (c:UInt8):∀ (xs:List ak),xs≠[]->(∀ x∈xs,c ∉ x)->Lib.countB (az (Lib.join xs [c])) (az [c])=xs.length - 1/\Lib.splitB (az [c]) 0 (xs.length - 1) (az (Lib.join xs [c]))=xs.map az
 | [],h,_=>absurd rfl h
 | [x],_,h=>by
  have I:Lib.indexB (az (Lib.join [x] [c])) (az [c]) = -1:=by rw [Lib.join_one,aqg];exact aBP c x (h x sp)
  refine⟨Lib.countB_miss _ _ I,?_⟩;rw [Lib.splitB_miss _ _ _ _ I,Lib.join_one];rfl
 | x :: y :: r,_,h=>by
  have M:=aii c (y :: r) sp (fun z Y=>h z (by simp only [List.mem_cons] at Y |-;exact .inr Y));have I:Lib.indexB (az (Lib.join (x :: y :: r) [c])) (az [c])=(x.length:Nat):=by rw [adj,aqg];exact aBO c x _ (h x sp)
  have J:=aBQ x (Lib.join (y :: r) [c]) c;have A7:=aBR x (c :: Lib.join (y :: r) [c]);rw [<- adj] at J A7;constructor
  ·rw [Lib.countB_hit _ _ _ (by rw [iM];simp) I,J,M.1];simp;omega
  ·rw [show (x :: y :: r).length - 1=((y :: r).length - 1)+1 by simp,Lib.splitB_hit _ _ _ _ _ I,J,A7,M.2];rfl
theorem aij (c:UInt8):∀ s:ak,Lib.join (jg (· == c) s) [c]=s
 | []=>rfl
 | d :: s=>by
  obtain⟨x,r,h1,J⟩:=VU (· == c) d s;have I:=aij c s;rw [h1] at I;rw [J];split
  ·rename_i M;have Y:d=c:=by simpa using M
   rw [adj,List.nil_append,I,Y]
  ·cases r with
   | nil =>
    rw [Lib.join_one] at I |-;rw [I]
   | cons y r =>
    rw [adj] at I |-;rw [List.cons_append,I]
theorem aqh (c:UInt8) (s:ak):∀ x∈jg (· == c) s,c ∉ x:=fun x ah hc=>by
 have:=YJ ah c hc;simp at this
end
section
open Go.Lib
def CX (x:Nat):Bool:=x == 32 || x == 9
theorem aik (s:ByteArray) {i:Nat} (h:i < s.size):s.data.toList[i]?=some (s.get! i):=by obtain⟨bs⟩:=s;have I:i < bs.size:=h;show bs.toList[i]?=some bs[i]!;rw [Array.getElem?_toList,Array.getElem?_eq_getElem I,getElem!_pos bs i I]
theorem ail (c:UInt8):qo c=CX c.toNat:=by
 unfold qo CX;rw [Bool.eq_iff_iff];simp only [Bool.or_eq_true,beq_iff_eq];constructor
 ·rintro (rfl | rfl)
  ·exact .inl rfl
  ·exact .inr rfl
 ·rintro (h | h)
  ·exact .inl (aRw.1 h)
  ·exact .inr (aRw.1 h)
theorem Zl {x:Nat} (h:128<=x):CX x=false:=by unfold CX;rw [Bool.or_eq_false_iff];exact⟨by simp;omega,by simp;omega⟩
theorem aBT (s:ByteArray) (pos:Nat) (h:pos < s.size):1<=(Utf8.decode s pos).2/\pos+(Utf8.decode s pos).2<=s.size /\
  (CX (Utf8.decode s pos).1=true->(Utf8.decode s pos).2=1/\qo (s.get! pos)=true)/\(CX (Utf8.decode s pos).1=false->∀ i,i < (Utf8.decode s pos).2->qo (s.get! (pos+i))=false):=by
 rw [decode_at];have AO:∀ Y:Nat,Y < 128->∀ n eP AA AB,decodeN n Y eP AA AB=(Y,1):=fun Y ae n eP AA AB=>by simp [decodeN,ae]
 have M:∀ i,128<=(s.get! i).toNat->qo (s.get! i)=false:=fun i J=>by rw [ail];exact Zl J
 rcases decodeN_shape (s.size - pos) (s.get! pos).toNat (s.get! (pos+1)).toNat (s.get! (pos+2)).toNat (s.get! (pos+3)).toNat with ⟨h1,e⟩ | ⟨h1,AJ,AL,A7,e⟩ | ⟨h1,AJ,AL,A7,AP,AV,e⟩ | ⟨h1,AJ,AL,A7,AP,AV,AZ,e⟩ | e
 ·rw [e];refine⟨aQm _,by simp only;omega,fun I=>⟨rfl,by rw [ail];exact I⟩,fun I i J=>?_⟩;obtain rfl:i=0:=by simp only at J;omega
  rw [ail];exact I
 ·rw [e];refine⟨by simp,by simp only;omega,fun I=>?_,fun _ i J=>?_⟩
  ·simp only at I;rw [Zl A7] at I;cases I
  ·simp only at J;match i,J with
   | 0,_=>exact M _ (by simp only [Nat.add_zero];omega)
   | 1,_=>exact M _ om
 ·rw [e];refine⟨by simp,by simp only;omega,fun I=>?_,fun _ i J=>?_⟩
  ·simp only at I;rw [Zl om] at I;cases I
  ·simp only at J;match i,J with
   | 0,_=>exact M _ (by simp only [Nat.add_zero];omega)
   | 1,_=>exact M _ om
   | 2,_=>exact M _ om
 ·rw [e];refine⟨by simp,by simp only;omega,fun I=>?_,fun _ i J=>?_⟩
  ·simp only at I;rw [Zl om] at I;cases I
  ·simp only at J;match i,J with
   | 0,_=>exact M _ (by simp only [Nat.add_zero];omega)
   | 1,_=>exact M _ om
   | 2,_=>exact M _ om
   | 3,_=>exact M _ om
 ·rw [e];refine⟨by simp,by simp only;omega,fun I=>?_,fun _ i J=>?_⟩
  ·simp only at I;rw [Zl om] at I;cases I
  ·obtain rfl:i=0:=by simp only at J;omega
   refine M _ ?_;rcases aQD (s.get! pos).toNat 128 with ae | ae
   ·rw [AO _ ae] at e;have:=congrArg (·.1) e;simp only at this;omega
   ·simpa using ae
def adk (s:ByteArray) (x:Nat × Nat):ak:=(s.extract x.1 x.2).data.toList
theorem aqi (s:ByteArray) (a b:Nat):adk s (a,b)=(s.data.toList.drop a).take (b - a):=by unfold adk;rw [ByteArray.data_extract,Array.toList_extract]
theorem Zm (s:ByteArray):∀ (f pos:Nat) (st:Option Nat) (acc:List (Nat × Nat)),s.size - pos<=f->pos<=s.size->(∀ a,st=some a->a < pos/\∀ i,a<=i->i < pos->qo (s.get! i)=false) ->
  (closeSpans s (spansFromP CX s f pos st acc)).map (adk s)=acc.map (adk s)++(match st with | none=>nR (s.data.toList.drop pos) | some a=>nR (s.data.toList.drop a))
 | f,pos,st,acc,hf,aL,M=>by
  have hlen:s.data.toList.length=s.size:=Array.length_toList;rcases aQD pos s.size with Y | AV
  ·obtain⟨f,rfl⟩:∃ k,f=k+1:=⟨f - 1,om⟩;obtain⟨d1,d2,d3,d4⟩:=aBT s pos Y;unfold spansFromP;rw [if_pos Y];have ae:=aik s Y;have AA:s.data.toList.drop pos=s.get! pos :: s.data.toList.drop (pos+1):=by obtain⟨h1,A7⟩:=aQs.1 ae;rw [List.drop_eq_getElem_cons h1,A7]
   cases AB:CX (Utf8.decode s pos).1 with
   | true =>
    obtain⟨w1,af⟩:=d3 AB;rw [if_pos rfl];cases st with
    | none =>
     simp only;rw [w1] at d2 |-;rw [Zm s f (pos+1) none acc om om (fun a e=>by cases e)];simp only;rw [AA,aop af]
    | some a =>
     simp only;obtain⟨AJ,J⟩:=M a rfl;rw [w1] at d2 |-;rw [Zm s f (pos+1) none (acc++[(a,pos)]) om om (fun a e=>by cases e)];simp only;rw [List.map_append,List.map_cons,List.map_nil,aqi,List.append_assoc];congr 1;have AL:s.data.toList.drop a=(s.data.toList.drop a).take (pos - a)++s.get! pos :: s.data.toList.drop (pos+1):=by rw [<- AA];have:=(aRj (pos - a) (s.data.toList.drop a)).symm;rw [List.drop_drop,show a+(pos - a)=pos by omega] at this;exact this
     rw [AL,aor _ _ af,<- AL]
     ·rfl
     ·intro e;have:=congrArg List.length e;rw [List.length_take,List.length_drop,hlen] at this;simp at this;omega
     ·intro c hc;obtain⟨i,I⟩:=aRh hc;rw [List.getElem?_take] at I;split at I
      ·rename_i AO;rw [List.getElem?_drop,aik s om] at I;cases I;exact J _ om om
      ·cases I
   | false =>
    have w:=d4 AB;rw [if_neg sp];cases st with
    | none =>
     simp only;rw [Zm s f _ (some pos) acc om d2 (fun a e=>by
      cases e;refine⟨om,fun i h1 A7=>?_⟩;have:=w (i - pos) om;rwa [show pos+(i - pos)=i by omega] at this)]
    | some a =>
     simp only;obtain⟨AJ,J⟩:=M a rfl;rw [Zm s f _ (some a) acc om d2 (fun AZ e=>by
      cases e;refine⟨om,fun i h1 A7=>?_⟩;rcases Nat.lt_or_ge i pos with AP | AP
      ·exact J i h1 AP
      ·have:=w (i - pos) om;rwa [show pos+(i - pos)=i by omega] at this)]
  ·obtain rfl:pos=s.size:=om;rw [spansFromP_end CX s f _ st acc om];cases st with
   | none =>
    simp only [closeSpans];rw [List.drop_of_length_le om,ayQ,List.append_nil]
   | some a =>
    obtain⟨AJ,J⟩:=M a rfl;simp only [closeSpans];rw [List.map_append,List.map_cons,List.map_nil,aqi,List.take_of_length_le (by rw [List.length_drop,hlen];omega),aoq]
    ·intro e;have:=congrArg List.length e;rw [List.length_drop,hlen] at this;simp at this;omega
    ·intro c hc;obtain⟨i,I⟩:=aRh hc;have AO:=(aQs.1 I).1;rw [List.length_drop,hlen] at AO;rw [List.getElem?_drop,aik s om] at I;cases I;exact J _ om om
theorem aBU (s:ByteArray):(goFieldsP CX s).map (·.data.toList)=nR s.data.toList:=by have h:=Zm s s.size 0 none [] om om (fun a e=>by cases e);simp only [List.map_nil,List.nil_append,List.drop_zero] at h;rw [goFieldsP,List.map_map,<- h];rfl
abbrev OT:ak:=[114,101,97,100]
abbrev OU:ak:=[116,114,121]
abbrev OV:ak:=[119,114,105,116,101]
abbrev MC:ak:=[115,99,97,110]
abbrev ME:ak:=[101,110,118]
abbrev QV:ak:=[107,101,101,112]
abbrev MF:ak:=[110,101,101,100]
abbrev QW:ak:=[115,111,114,116]
abbrev QX:ak:=[117,110,105,113]
abbrev QY:ak:=[117,112,112,101,114]
abbrev QZ:ak:=[99,111,117,110,116]
abbrev OW:ak:=[102,97,105,108]
abbrev uK:ak:=[116,101,120,116]
structure sD where
 ws:List ak
 rest:ak
def Q0 (s:ak):ak:=((s.dropWhile qo).dropWhile fun c=>!qo c).drop 1
def vz (n:ak):Nat × Bool :=
 if n=OT\/n=OU\/n=OV then (2,true)
 else if n=MC then (3,true)
 else if n=ME\/n=QV\/n=MF then (2,false)
 else if n=QW\/n=QX\/n=QY\/n=QZ\/n=OW then (1,false)
 else (0,false)
def x9 (may:ak->Bool) (s:ak):Option (Option sD):=match nR s with
 | []=>some none
 | w :: r =>
  if w.head?=some 35 then some none
  else if w=uK then some (some ⟨[w],Q0 s⟩)
  else if (vz w).1≠r.length+1\/(vz w).1=0\/((vz w).2=true/\may (r.headD [])=false) then none
  else some (some ⟨w :: r,[]⟩)
def Q3 (may:ak->Bool):List ak->Nat->List sD->List sD × Nat × Nat
 | [],_,out=>(out,0,0)
 | s :: l,i,out=>match x9 may s with
  | none=>([],3,i+1)
  | some none=>Q3 may l (i+1) out
  | some (some c)=>Q3 may l (i+1) (out++[c])
def adl (may:ak->Bool) (text:ak):List sD × Nat × Nat :=
 if 65536 < text.length\/400 < (jP text).length then ([],6,0) else Q3 may (jP text) 0 []
structure dz where
 path:ak
 is:Bool
 data:ak
structure pF where
 kind:Nat
 path:ak
 data:ak
 why:Nat
def pF.none:pF:=⟨0,[],[],0⟩
inductive rM where
 | add
 | D5
 | scan (w:ak)
inductive iU where
 | cmd (c:sD)
 | sW (p:ak) (th:rM)
 | line (s w:ak)
structure aJ where
 todo:List iU
 buf:ak
 known:List (ak × dz)
 asks:ak
 waits:Bool
 over:pF
 seen:List ak
def aJ.fail (s:aJ) (why:Nat):aJ:={ s with over:=⟨4,[],[],why⟩ }
def aJ.add (s:aJ) (t:ak):aJ:=if 65536 < s.buf.length+t.length then s.fail 6 else { s with buf:=s.buf++t }
def aJ.nJ (s:aJ) (th:rM) (k:dz):aJ:=match th with
 | .add=>if k.is then s.add k.data else s.fail 10
 | .D5=>if k.is then s.add k.data else s
 | .scan w=>if k.is then { s with todo:=(jP k.data).map (iU.line · w)++s.todo } else s.fail 10
def qI (l:List ak):ak:=l.flatMap (·++[10])
def mJ (line w:ak):Bool:=Lib.contains line w
def Je (b:ak):ak:=b.map fun c=>if 97<=c.toNat/\c.toNat<=122 then c - 32 else c
def TW (l:List ak):List ak:=Lib.compact l
def aJ.xw (s:aJ) (l:List ak):aJ:=aJ.add { s with buf:=[] } (qI l)
def aJ.dK (s:aJ) (name arg:ak) (l:List ak):aJ :=
 if name=QW then s.xw (rG l)
 else if name=QX then s.xw (TW l)
 else if name=QY then { s with buf:=Je s.buf }
 else if name=QZ then { s with buf:=decDigits l.length++[10] }
 else if name=QV then s.xw (l.filter (mJ · arg))
 else s
def sZ (t:List (ak × dz)) (p:ak):Option dz:=(t.find? fun x=>x.1 == p).map (·.2)
structure Env where
 may:ak->Bool
 env:List (ak × ak)
def aJ.ask (s:aJ) (p:ak) (th:rM):aJ:=match sZ s.known p with
 | some k=>s.nJ th k
 | none=>if 500<=s.known.length then s.fail 6 else { s with asks:=p,waits:=true,todo:=.sW p th :: s.todo }
def aJ.scan (s:aJ) (p w:ak):aJ:=aJ.ask { s with seen:=p :: s.seen } p (.scan w)
def aJ.wK (v:Env) (s:aJ) (c:sD):aJ :=
 let name:=c.ws.headD [];let arg:=(c.ws.drop 1).headD []
 if name=OT then s.ask arg .add
 else if name=OU then s.ask arg .D5
 else if name=MC then aJ.scan { s with seen:=[] } arg ((c.ws.drop 2).headD [])
 else if name=uK then s.add (c.rest++[10])
 else if name=ME then (match v.env.find? fun x=>x.1 == arg with
  | none=>s.fail 10
  | some x=>s.add x.2)
 else if name=OV then { s with over:=⟨2,arg,s.buf,0⟩,buf:=[] }
 else if name=MF then (if (jP s.buf).any (mJ · arg) then s else s.fail 15)
 else if name=OW then s.fail 15
 else s.dK name arg (jP s.buf)
def aJ.line (v:Env) (s:aJ) (x w:ak):aJ:=match nR x with
 | [a,b]=>if a=w/\v.may b=true then (if b∈s.seen then s else s.scan b w) else s.add (x++[10])
 | _=>s.add (x++[10])
def aJ.task (v:Env) (s:aJ):iU->aJ
 | .cmd c=>s.wK v c
 | .sW p th=>s.nJ th ((sZ s.known p).getD ⟨[],false,[]⟩)
 | .line x w=>s.line v x w
def aJ.step (v:Env) (s:aJ):aJ :=
 if s.over.kind≠0\/s.waits=true then s else match s.todo with
  | []=>{ s with over:=⟨3,[],[],0⟩ }
  | t :: r=>aJ.task v { s with todo:=r } t
def aJ.run (v:Env):Nat->aJ->aJ
 | 0,s=>s
 | n+1,s=>aJ.run v n (s.step v)
def aJ.Still (s:aJ):Prop:=s.over.kind≠0\/s.waits=true
theorem aJ.Hy {v:Env} {s:aJ} (h:s.Still):s.step v=s:=by unfold aJ.Still at h;rw [aJ.step,if_pos h]
theorem aJ.Wt {v:Env} {s:aJ} (h:s.Still):∀ n,s.run v n=s
 | 0=>rfl
 | n+1=>by rw [aJ.run,aJ.Hy h,aJ.Wt h n]
def rO (U:List dz) (p:ak):dz:=(U.find? fun x=>x.path == p).getD ⟨p,false,[]⟩
def OX (U:List dz) (p:ak):Nat:=(jP (rO U p).data).length
def KH (U:List dz) (u:dz):Nat:=2 * OX U u.path+2
def Q4 (U:List dz) (seen:List ak):Nat:=((U.filter fun u=>!decide (u.path∈seen)).map (KH U)).sum
def CY (U:List dz):Nat:=(U.map (KH U)).sum
def FR (U:List dz):iU->Nat
 | .cmd _=>CY U+3
 | .sW p (.scan _)=>1+2 * OX U p
 | .sW _ _=>1
 | .line _ _=>2
def lU (U:List dz) (s:aJ):Nat:=(s.todo.map (FR U)).sum+Q4 U s.seen
def Agree (U:List dz) (s:aJ):Prop:=∀ p k,sZ s.known p=some k->k.is=true->k.data=(rO U p).data
theorem aqj (U:List dz) (f:dz->Nat) (q:dz->Bool):∀ L:List dz,((L.filter q).map f).sum<=(L.map f).sum
 | []=>by simp
 | u :: L=>by
  have I:=aqj U f q L;rw [List.filter_cons];split <;> simp <;> omega
theorem aqk (U:List dz) (seen:List ak):Q4 U seen<=CY U:=aqj U _ _ U
theorem aBV (U:List dz) (seen:List ak) (p:ak) (aL:p ∉ seen):Q4 U (p :: seen)+2 * OX U p<=Q4 U seen:=by
 by_cases hu:∃ u∈U,u.path=p
 ·obtain⟨u,hu,rfl⟩:=hu;have key:∀ L:List dz,u∈L->((L.filter fun x=>!decide (x.path∈u.path :: seen)).map (KH U)).sum+KH U u<=((L.filter fun x=>!decide (x.path∈seen)).map (KH U)).sum:=by
   intro L;have low:∀ L:List dz,((L.filter fun x=>!decide (x.path∈u.path :: seen)).map (KH U)).sum<=((L.filter fun x=>!decide (x.path∈seen)).map (KH U)).sum:=by
    intro L;induction L with
    | nil=>simp
    | cons x L I =>
     rw [List.filter_cons,List.filter_cons];by_cases h1:x.path∈seen
     ·rw [if_neg (by simp [h1]),if_neg (by simp [h1])];exact I
     ·by_cases J:x.path=u.path
      ·rw [if_neg (by simp [J]),if_pos (by simp [h1])];simp only [List.map_cons,List.sum_cons];omega
      ·rw [if_pos (by simp [h1,J]),if_pos (by simp [h1])];simp only [List.map_cons,List.sum_cons];omega
   induction L with
   | nil=>intro h;cases h
   | cons x L I =>
    intro h;rw [List.filter_cons,List.filter_cons];rcases aQw.1 h with rfl | h
    ·rw [if_neg sp,if_pos (by simp [aL])];simp only [List.map_cons,List.sum_cons];have:=low L;omega
    ·have I:=I h;by_cases h1:x.path∈seen
     ·rw [if_neg (by simp [h1]),if_neg (by simp [h1])];exact I
     ·by_cases J:x.path=u.path
      ·rw [if_neg (by simp [J]),if_pos (by simp [h1])];simp only [List.map_cons,List.sum_cons];omega
      ·rw [if_pos (by simp [h1,J]),if_pos (by simp [h1])];simp only [List.map_cons,List.sum_cons];omega
  have:=key U hu;unfold Q4;unfold KH at this |-;omega
 ·have M:OX U p=0:=by
   rw [OX,rO];have:(U.find? fun x=>x.path == p)=none:=by rw [List.find?_eq_none];intro x ah e;exact hu ⟨x,ah,by simpa using e⟩
   rw [this];rfl
  have h1:(U.filter fun u=>!decide (u.path∈p :: seen))=U.filter fun u=>!decide (u.path∈seen):=by apply List.filter_congr;intro x ah;have:x.path≠p:=fun e=>hu ⟨x,ah,e⟩;simp [this]
  rw [Q4,Q4,h1,M];omega
theorem aql (U:List dz) (s:aJ) (y:Nat):lU U (s.fail y)=lU U s:=rfl
theorem Wu (U:List dz) (s:aJ) (t:ak):lU U (s.add t)=lU U s:=by unfold aJ.add;split <;> rfl
theorem aBW (U:List dz) (s:aJ) (l:List ak):lU U (s.xw l)=lU U s:=by unfold aJ.xw;rw [Wu];rfl
theorem aBX (U:List dz) (s:aJ) (n a:ak) (l:List ak):lU U (s.dK n a l)=lU U s:=by
 unfold aJ.dK;repeat' split
 all_goals first
  | exact aBW U s _
  | rfl
theorem aBY (U:List dz) (w:ak) (L:List ak) (r:List iU):((L.map (iU.line · w)++r).map (FR U)).sum=2 * L.length+(r.map (FR U)).sum:=by
 induction L with
 | nil=>simp
 | cons x L I =>
  simp only [List.map_cons,List.cons_append,List.sum_cons,List.length_cons] at I |-;rw [I];simp only [FR];omega
def Zp (U:List dz) (p:ak):rM->Nat
 | .scan _=>2 * OX U p
 | _=>0
theorem aqm {U:List dz} (s:aJ) (th:rM) {k:dz} (hk:k.is=true->k.data=(rO U p).data):lU U (s.nJ th k)<=lU U s+Zp U p th:=by
 cases th with
 | add =>
  unfold aJ.nJ;simp only;split
  ·rw [Wu];exact aRk _ _
  ·exact aRk _ _
 | D5 =>
  unfold aJ.nJ;simp only;split
  ·rw [Wu];exact aRk _ _
  ·exact aRk _ _
 | scan w =>
  unfold aJ.nJ;simp only;split
  ·rename_i I;unfold lU;simp only;rw [aBY,hk I];show _<=_+2 * OX U p;unfold OX;omega
  ·exact aRk _ _
theorem aim (U:List dz) (p:ak) (th:rM):FR U (.sW p th)=1+Zp U p th:=by cases th <;> rfl
theorem aqn {U:List dz} {s:aJ} (hs:Agree U s) (p:ak) (th:rM):lU U (s.ask p th)<=lU U s+1+Zp U p th:=by
 unfold aJ.ask;split
 ·rename_i k hk;have:=aqm s th (hs p k hk);omega
 ·split
  ·rw [aql];omega
  ·unfold lU;simp only [List.map_cons,List.sum_cons,aim];omega
theorem aqo {U:List dz} {s:aJ} (hs:Agree U s) (p w:ak) (aL:p ∉ s.seen):lU U (s.scan p w)<=lU U s+1:=by have h1:=aqn (s:={ s with seen:=p :: s.seen }) (U:=U) hs p (.scan w);have I:=aBV U s.seen p aL;unfold aJ.scan;simp only [Zp] at h1;refine aQn h1 ?_;unfold lU;simp only;omega
theorem aBZ {U:List dz} {s:aJ} (hs:Agree U s) (p w:ak):lU U (aJ.scan { s with seen:=[] } p w)<=lU U s+CY U+1:=by have h1:=aqo (s:={ s with seen:=[] }) (U:=U) hs p w sp;refine aQn h1 ?_;have:=aqk U [];unfold lU;simp only;omega
theorem aB0 {U:List dz} {s:aJ} (hs:Agree U s) (v:Env) (c:sD):lU U (s.wK v c)<=lU U s+CY U+1:=by
 have I:∀ p th,Zp U p th=0->lU U (s.ask p th)<=lU U s+CY U+1:=fun p th M=>by
  have:=aqn hs p th;omega
 have J:∀ t,lU U (s.add t)<=lU U s+CY U+1:=fun t=>by rw [Wu];omega
 have hf:∀ y,lU U (s.fail y)<=lU U s+CY U+1:=fun y=>by rw [aql];omega
 unfold aJ.wK;simp only;repeat' split
 all_goals first
  | exact I _ _ rfl
  | exact J _
  | exact hf _
  | exact aBZ hs _ _
  | (rw [aBX];omega)
  | (show lU U s<=_;omega)
theorem aB1 {U:List dz} {s:aJ} (hs:Agree U s) (v:Env) (x w:ak):lU U (s.line v x w)<=lU U s+1:=by
 unfold aJ.line;split
 ·split
  ·split
   ·omega
   ·rename_i h;exact aqo hs _ _ h
  ·rw [Wu];omega
 ·rw [Wu];omega
theorem aB2 {U:List dz} {s:aJ} (hs:Agree U s) (v:Env) (t:iU) (aA:∀ p th,t = .sW p th->(sZ s.known p).isSome=true):lU U (s.task v t)+1<=lU U s+FR U t:=by
 cases t with
 | cmd c =>
  have:=aB0 hs v c;simp only [aJ.task,FR];omega
 | sW p th =>
  have I:=aA p th rfl;obtain⟨k,hk⟩:=aRl.1 I;simp only [aJ.task];rw [hk,aim];have:=aqm s th (hs p k hk);simp only [Option.getD_some];omega
 | line x w =>
  have:=aB1 hs v x w;simp only [aJ.task,FR];omega
def Zq (s:aJ):Prop:=∀ p th,iU.sW p th∈s.todo->(sZ s.known p).isSome=true\/(s.waits=true/\s.asks=p)
theorem add_same (s:aJ) (t:ak):(s.add t).todo=s.todo/\(s.add t).known=s.known/\(s.add t).waits=s.waits/\(s.add t).asks=s.asks/\(s.add t).seen=s.seen:=by unfold aJ.add;split <;> exact⟨rfl,rfl,rfl,rfl,rfl⟩
theorem aB3 (s:aJ) (l:List ak):(s.xw l).todo=s.todo/\(s.xw l).known=s.known/\(s.xw l).waits=s.waits/\(s.xw l).asks=s.asks/\(s.xw l).seen=s.seen:=by unfold aJ.xw;exact add_same _ _
theorem aqp (s:aJ) (n a:ak) (l:List ak):(s.dK n a l).todo=s.todo/\(s.dK n a l).known=s.known/\(s.dK n a l).waits=s.waits/\(s.dK n a l).asks=s.asks/\(s.dK n a l).seen=s.seen:=by
 unfold aJ.dK;repeat' split
 all_goals first
  | exact aB3 s _
  | exact⟨rfl,rfl,rfl,rfl,rfl⟩
def Hz (s s':aJ):Prop:=s'.known=s.known/\((∃ (L:List ak) (w:ak),s'.todo=L.map (iU.line · w)++s.todo/\s'.waits=s.waits/\s'.asks=s.asks)\/(∃ p th,s'.todo = .sW p th :: s.todo/\s'.waits=true/\s'.asks=p/\sZ s.known p=none/\s.known.length < 500/\s'.over=s.over))
theorem Hz.same {s s':aJ} (h:s'.todo=s.todo/\s'.known=s.known/\s'.waits=s.waits/\s'.asks=s.asks):Hz s s':=⟨h.2.1,.inl ⟨[],[],h.1,h.2.2.1,h.2.2.2⟩⟩
theorem Wv (s:aJ) (t:ak):Hz s (s.add t):=by obtain⟨h1,I,J,M,_⟩:=add_same s t;exact .same ⟨h1,I,J,M⟩
theorem adm (s:aJ) (y:Nat):Hz s (s.fail y):=.same ⟨rfl,rfl,rfl,rfl⟩
theorem aqr (s:aJ) (th:rM) (k:dz):Hz s (s.nJ th k):=by
 cases th <;> unfold aJ.nJ <;> simp only <;> split
 ·exact Wv s _
 ·exact adm s _
 ·exact Wv s _
 ·exact .same ⟨rfl,rfl,rfl,rfl⟩
 ·exact⟨rfl,.inl ⟨_,_,rfl,rfl,rfl⟩⟩
 ·exact adm s _
theorem ain (s:aJ) (p:ak) (th:rM):Hz s (s.ask p th):=by
 unfold aJ.ask;split
 ·exact aqr s th _
 ·rename_i h;split
  ·exact adm s _
  ·exact⟨rfl,.inr ⟨p,th,rfl,rfl,rfl,h,om,rfl⟩⟩
theorem aio (s:aJ) (p w:ak):Hz s (s.scan p w):=by have:=ain { s with seen:=p :: s.seen } p (.scan w);exact this
theorem Q5 (s:aJ) (v:Env) (t:iU):Hz s (s.task v t):=by
 cases t with
 | cmd c =>
  unfold aJ.task aJ.wK;simp only;have I:∀ n a l,Hz s (s.dK n a l):=fun n a l=>by
   obtain⟨h1,J,M,Y,_⟩:=aqp s n a l;exact .same ⟨h1,J,M,Y⟩
  repeat' split
  all_goals first
   | exact ain s _ _
   | exact Wv s _
   | exact adm s _
   | exact aio { s with seen:=[] } _ _
   | exact I _ _ _
   | exact .same ⟨rfl,rfl,rfl,rfl⟩
 | sW p th=>exact aqr s th _
 | line x w =>
  unfold aJ.task aJ.line;simp only;repeat' split
  all_goals first
   | exact aio s _ _
   | exact Wv s _
   | exact .same ⟨rfl,rfl,rfl,rfl⟩
theorem Zq.task {s:aJ} {t:iU} {r:List iU} (h:Zq s) (hw:s.waits=false) (aA:s.todo=t :: r) (v:Env):Zq (aJ.task v { s with todo:=r } t):=by
 obtain⟨h1,J⟩:=Q5 { s with todo:=r } v t;have I:∀ p th,iU.sW p th∈r->(sZ s.known p).isSome=true:=fun p th hm=>by
  rcases h p th (by rw [aA];exact aQQ _ hm) with h | h
  ·exact h
  ·rw [hw] at h;cases h.1
 intro p th hm;rw [h1];rcases J with ⟨L,w,e,_,_⟩ | ⟨q,A7,e,M,Y,_⟩
 ·rw [e,List.mem_append] at hm;rcases hm with hm | hm
  ·obtain⟨x,_,ah⟩:=aQv.1 hm;cases ah
  ·exact .inl (I p th hm)
 ·rw [e] at hm;rcases aQw.1 hm with hm | hm
  ·cases hm;exact .inr ⟨M,Y⟩
  ·exact .inl (I p th hm)
theorem Q6 {s:aJ} (h:¬ s.Still):s.over.kind=0/\s.waits=false:=by unfold aJ.Still at h;rw [not_or] at h;exact⟨by simpa using h.1,by simpa using h.2⟩
theorem Jf {v:Env} {s:aJ} (h:¬ s.Still) (aA:s.todo=[]):s.step v={ s with over:=⟨3,[],[],0⟩ }:=by unfold aJ.Still at h;rw [aJ.step,if_neg h,aA]
theorem step_cons {v:Env} {s:aJ} (h:¬ s.Still) {t:iU} {r:List iU} (aA:s.todo=t :: r):s.step v=aJ.task v { s with todo:=r } t:=by unfold aJ.Still at h;rw [aJ.step,if_neg h,aA]
structure Good (U:List dz) (s:aJ):Prop where
 agree:Agree U s
 MG:Zq s
theorem Good.step {U:List dz} {s:aJ} (h:Good U s) (v:Env):Good U (s.step v)/\lU U (s.step v)<=lU U s/\(¬ s.Still->(s.step v).Still\/lU U (s.step v) < lU U s):=by
 by_cases hs:s.Still
 ·rw [aJ.Hy hs];exact⟨h,aQm _,fun J=>absurd hs J⟩
 ·obtain⟨M,hw⟩:=Q6 hs;cases I:s.todo with
  | nil =>
   rw [Jf hs I];exact⟨⟨h.agree,h.MG⟩,aQm _,fun _=>.inl (.inl sp)⟩
  | cons t r =>
   rw [step_cons hs I];have aL:lU U (aJ.task v { s with todo:=r } t)+1<=lU U s:=by
    have:=aB2 (U:=U) (s:={ s with todo:=r }) h.agree v t (fun p th e=>by
     subst e;rcases h.MG p th (by rw [I];simp) with h | h
     ·exact h
     ·rw [hw] at h;cases h.1)
    refine aQn this ?_;unfold lU;simp only [I,List.map_cons,List.sum_cons];omega
   refine⟨⟨fun p k hk=>?_,h.MG.task hw I v⟩,om,fun _=>.inr om⟩;rw [(Q5 { s with todo:=r } v t).1] at hk;exact h.agree p k hk
theorem Good.stands {U:List dz} {v:Env}:∀ (m:Nat) {s:aJ},Good U s->lU U s<=m->∃ n,(s.run v n).Still
 | m,s,h,hm=>by
  by_cases hs:s.Still
  ·exact⟨0,hs⟩
  ·obtain⟨h1,Y,J⟩:=h.step v;rcases J hs with I | I
   ·exact⟨1,I⟩
   ·cases m with
    | zero=>omega
    | succ m =>
     obtain⟨n,M⟩:=Good.stands m h1 om;exact⟨n+1,M⟩
theorem Good.aB4 {U:List dz} {s:aJ} (_:Good U s):s.todo.length<=lU U s:=by
 have:∀ l:List iU,l.length<=(l.map (FR U)).sum:=by
  intro l;induction l with
  | nil=>simp
  | cons t l I =>
   have:1<=FR U t:=by
    cases t with
    | cmd _=>simp only [FR];omega
    | sW p th=>rw [aim];omega
    | line _ _=>simp only [FR];omega
   simp only [List.length_cons,List.map_cons,List.sum_cons];omega
 have:=this s.todo;unfold lU;omega
def Ww (c:sD):Prop:=c.ws≠[]/\c.ws.length<=1000000/\(∀ x∈c.ws,x.length<=1000000)/\c.rest.length<=1000000
def aiq:rM->Prop
 | .scan w=>w.length<=1000000
 | _=>True
def air:iU->Prop
 | .cmd c=>Ww c
 | .sW p th=>p.length<=1000000/\aiq th
 | .line x w=>x.length<=1000000/\w.length<=1000000
structure nA (s:aJ):Prop where
 buf:s.buf.length<=65536
 tasks:∀ t∈s.todo,air t
 Be:∀ p k,sZ s.known p=some k->k.is=true->k.data.length<=1000000
 HV:∀ p∈s.seen,p.length<=1000000
 asks:s.asks.length<=1000000
 less:s.known.length<=500
theorem aqs (n:Nat) (h:n < 10 ^ 20):(decDigits n).length<=20:=ahM 19 n h
theorem nA.fail {s:aJ} (h:nA s) (y:Nat):nA (s.fail y):=⟨h.buf,h.tasks,h.Be,h.HV,h.asks,h.less⟩
theorem nA.add {s:aJ} (h:nA s) (t:ak):nA (s.add t):=by
 unfold aJ.add;split
 ·exact h.fail 6
 ·refine⟨?_,h.tasks,h.Be,h.HV,h.asks,h.less⟩;simp only [List.length_append];omega
theorem nA.buffer {s:aJ} (h:nA s) {b:ak} (ae:b.length<=65536):nA { s with buf:=b }:=⟨ae,h.tasks,h.Be,h.HV,h.asks,h.less⟩
theorem nA.xw {s:aJ} (h:nA s) (l:List ak):nA (s.xw l):=(h.buffer (b:=[]) sp).add _
theorem nA.dK {s:aJ} (h:nA s) (n a:ak) (l:List ak) (hl:l.length < 10 ^ 20):nA (s.dK n a l):=by
 unfold aJ.dK;repeat' split
 ·exact h.xw _
 ·exact h.xw _
 ·exact h.buffer (by rw [Je,List.length_map];exact h.buf)
 ·refine h.buffer ?_;have:=aqs l.length hl;rw [List.length_append,List.length_singleton];omega
 ·exact h.xw _
 ·exact h
theorem nA.nJ {s:aJ} (h:nA s) {th:rM} (FT:aiq th) {k:dz} (hk:k.is=true->k.data.length<=1000000):nA (s.nJ th k):=by
 cases th <;> unfold aJ.nJ <;> simp only <;> split
 ·exact h.add _
 ·exact h.fail _
 ·exact h.add _
 ·exact h
 ·rename_i w J;refine⟨h.buf,fun t I=>?_,h.Be,h.HV,h.asks,h.less⟩;rcases aQI.1 I with I | I
  ·obtain⟨x,ah,rfl⟩:=aQv.1 I;exact⟨aQn (Tw ah) (hk J),FT⟩
  ·exact h.tasks t I
 ·exact h.fail _
theorem nA.ask {s:aJ} (h:nA s) (aL:p.length<=1000000) {th:rM} (FT:aiq th):nA (s.ask p th):=by
 unfold aJ.ask;split
 ·rename_i k hk;exact h.nJ FT (h.Be p k hk)
 ·split
  ·exact h.fail _
  ·refine⟨h.buf,fun t I=>?_,h.Be,h.HV,aL,h.less⟩;rcases aQw.1 I with rfl | I
   ·exact⟨aL,FT⟩
   ·exact h.tasks t I
theorem nA.scan {s:aJ} (h:nA s) {w:ak} (aL:p.length<=1000000) (hw:w.length<=1000000):nA (s.scan p w):=by
 refine nA.ask (s:={ s with seen:=p :: s.seen }) ⟨h.buf,h.tasks,h.Be,fun q I=>?_,h.asks,h.less⟩ aL (th:=.scan w) hw;rcases aQw.1 I with rfl | I
 ·exact aL
 ·exact h.HV q I
theorem aqt {l:List ak} (h:∀ x∈l,x.length<=1000000):(l.headD []).length<=1000000:=by
 cases l with
 | nil=>simp
 | cons x l=>exact h x sp
theorem nA.wK {s:aJ} (h:nA s) (v:Env) {c:sD} (hc:Ww c):nA (s.wK v c):=by
 obtain⟨_,_,h1,M⟩:=hc;have I:((c.ws.drop 1).headD []).length<=1000000:=aqt fun x ah=>h1 x (aRz ah);have ae:((c.ws.drop 2).headD []).length<=1000000:=aqt fun x ah=>h1 x (aRz ah);have hl:(jP s.buf).length < 10 ^ 20:=by have:=QH s.buf;have:=h.buf;omega
 have J:nA { s with seen:=[] }:=⟨h.buf,h.tasks,h.Be,by simp,h.asks,h.less⟩;unfold aJ.wK;simp only;repeat' split
 all_goals first
  | exact h.ask I (th:=.add) trivial
  | exact h.ask I (th:=.D5) trivial
  | exact J.scan I ae
  | exact h.add _
  | exact h.fail _
  | exact h.dK _ _ _ hl
  | exact h
  | exact h.buffer (b:=[]) sp
  | exact⟨by simp,h.tasks,h.Be,h.HV,h.asks,h.less⟩
theorem nA.line {s:aJ} (h:nA s) (v:Env) {x w:ak} (ah:x.length<=1000000) (hw:w.length<=1000000):nA (s.line v x w):=by
 unfold aJ.line;split
 ·rename_i a b I;split
  ·split
   ·exact h
   ·refine h.scan ?_ hw;have:=(YL (s:=x) (x:=b) (by rw [I];simp)).2.2;omega
  ·exact h.add _
 ·exact h.add _
theorem nA.task {s:aJ} (h:nA s) (v:Env) {t:iU} (aA:air t):nA (s.task v t):=by
 cases t with
 | cmd c=>exact h.wK v aA
 | sW p th =>
  refine h.nJ aA.2 fun I=>?_;cases hk:sZ s.known p with
  | none=>rw [hk] at I;cases I
  | some k=>rw [hk] at I;exact h.Be p k hk I
 | line x w=>exact h.line v aA.1 aA.2
theorem nA.step {s:aJ} (h:nA s) (v:Env):nA (s.step v):=by
 by_cases hs:s.Still
 ·rw [aJ.Hy hs];exact h
 ·cases I:s.todo with
  | nil =>
   rw [Jf hs I];exact⟨h.buf,h.tasks,h.Be,h.HV,h.asks,h.less⟩
  | cons t r =>
   rw [step_cons hs I];exact nA.task (s:={ s with todo:=r }) ⟨h.buf,fun u hu=>h.tasks u (by rw [I];exact aQQ _ hu),h.Be,h.HV,h.asks,h.less⟩ v (h.tasks t (by rw [I];simp))
def aJ.mE (s:aJ) (k:dz):aJ:={ s with known:=s.known++[(s.asks,k)],asks:=[],waits:=false }
structure ais where
  buf:ak
  asked:List ak
  wrote:List pF
  stop:pF
def Q7:dz:=⟨[],false,[]⟩
theorem aqu {t:List (ak × dz)}:(sZ t p).isSome=true ↔ p∈t.map (·.1):=by
  unfold sZ;rw [Option.isSome_map,List.find?_isSome];constructor
  · rintro⟨x,ah,h⟩
    exact aQv.2 ⟨x,ah,by simpa using h⟩
  · intro h
    obtain⟨x,ah,h⟩:=aQv.1 h;exact⟨x,ah,by simpa using h⟩
theorem Zr {t:List (ak × dz)} (h:sZ t p=none) (k:dz) (q:ak):sZ (t++[(p,k)]) q=if q=p then some k else sZ t q:=by
  unfold sZ at h |-;rw [List.find?_append];by_cases I:q=p
  · subst I
    rw [if_pos rfl];rw [Option.map_eq_none_iff] at h;rw [h];simp
  · rw [if_neg I]
    have:([(p,k)].find? fun x=>x.1 == q)=none:=by simp [Ne.symm I]
    rw [this,Option.or_none]
def left (L:List ak) (d:List ak):Nat:=(L.filter fun p=>!decide (p∈d)).length
def adn (c:sD):Prop:=c.ws.headD []∈[OT,OU,OV,MC,ME,QV,MF,QW,QX,QY,QZ,OW,uK]
end
section
open Go.Lib
variable {v:Env} {O aB5:ak->Option dz}
def qw (s:aJ):pF:=if s.waits=true then ⟨1,s.asks,[],0⟩ else s.over
def aJ.next (s:aJ):aJ:=if s.waits=true then s else if s.over.kind=2 then { s with over:=pF.none } else s
def ado (s:aJ):Prop:=s.waits=true->s.over=pF.none/\sZ s.known s.asks=none/\s.known.length < 500
theorem ado.task {s:aJ} (aX:s.waits=false) (h1:s.over=pF.none) (t:iU):ado (s.task v t):=by
 obtain⟨hk,ax⟩:=Q5 s v t;intro hw;rcases ax with ⟨L,w,_,e,_⟩ | ⟨p,th,_,_,I,J,M,Y⟩
 ·rw [e,aX] at hw;cases hw
 ·rw [hk,I,Y];exact⟨h1,J,M⟩
structure Ord (s:aJ):Prop where
 lim:nA s
 MG:Zq s
 waits:ado s
 over:s.over=pF.none\/s.over.kind=2\/s.over.kind=3\/s.over.kind=4
theorem aB6 (s:aJ) (h:s.over=pF.none) (t:iU):(s.task v t).over=pF.none\/(s.task v t).over.kind=2\/(s.task v t).over.kind=3\/(s.task v t).over.kind=4:=by
 have I:∀ (s:aJ) t,s.over=pF.none->(s.add t).over=pF.none\/(s.add t).over.kind=2\/(s.add t).over.kind=3\/(s.add t).over.kind=4:=fun s t h=>by
  unfold aJ.add;split
  ·exact .inr (.inr (.inr rfl))
  ·exact .inl h
 have M:∀ (s:aJ) th k,s.over=pF.none->(s.nJ th k).over=pF.none\/(s.nJ th k).over.kind=2\/(s.nJ th k).over.kind=3\/(s.nJ th k).over.kind=4:=fun s th k h=>by
  cases th <;> unfold aJ.nJ <;> simp only <;> split
  ·exact I s _ h
  ·exact .inr (.inr (.inr rfl))
  ·exact I s _ h
  ·exact .inl h
  ·exact .inl h
  ·exact .inr (.inr (.inr rfl))
 have J:∀ (s:aJ) p th,s.over=pF.none->(s.ask p th).over=pF.none\/(s.ask p th).over.kind=2\/(s.ask p th).over.kind=3\/(s.ask p th).over.kind=4:=fun s p th h=>by
  unfold aJ.ask;split
  ·exact M s _ _ h
  ·split
   ·exact .inr (.inr (.inr rfl))
   ·exact .inl h
 cases t with
 | cmd c =>
  unfold aJ.task aJ.wK;simp only;have Y:∀ n a l,(s.dK n a l).over=pF.none\/(s.dK n a l).over.kind=2\/(s.dK n a l).over.kind=3\/(s.dK n a l).over.kind=4:=fun n a l=>by
   unfold aJ.dK;repeat' split
   all_goals first
    | exact I { s with buf:=[] } _ h
    | exact .inl h
  repeat' split
  all_goals first
   | exact J s _ _ h
   | exact I s _ h
   | exact .inr (.inr (.inr rfl))
   | exact J { s with seen:=_ } _ _ h
   | exact .inr (.inl rfl)
   | exact Y _ _ _
   | exact .inl h
 | sW p th=>exact M s _ _ h
 | line x w =>
  unfold aJ.task aJ.line;simp only;repeat' split
  all_goals first
   | exact J { s with seen:=_ } _ _ h
   | exact I s _ h
   | exact .inl h
theorem aqv {s:aJ} (h:s.over=pF.none\/s.over.kind=2\/s.over.kind=3\/s.over.kind=4) (aX:s.over.kind=0):s.over=pF.none:=by
 rcases h with h | h | h | h
 ·exact h
 ·omega
 ·omega
 ·omega
theorem Ord.step {s:aJ} (h:Ord s):Ord (s.step v):=by
 refine⟨h.lim.step v,?_,?_,?_⟩
 ·by_cases hs:s.Still
  ·rw [aJ.Hy hs];exact h.MG
  ·cases I:s.todo with
   | nil=>rw [Jf hs I];exact h.MG
   | cons t r=>rw [step_cons hs I];exact h.MG.task (Q6 hs).2 I v
 ·by_cases hs:s.Still
  ·rw [aJ.Hy hs];exact h.waits
  ·obtain⟨J,hw⟩:=Q6 hs;cases I:s.todo with
   | nil =>
    rw [Jf hs I];intro e;rw [show (aJ.waits { s with over:=⟨3,[],[],0⟩ })=s.waits from rfl,hw] at e;cases e
   | cons t r =>
    rw [step_cons hs I];exact ado.task (s:={ s with todo:=r }) hw (aqv h.over J) t
 ·by_cases hs:s.Still
  ·rw [aJ.Hy hs];exact h.over
  ·obtain⟨J,hw⟩:=Q6 hs;cases I:s.todo with
   | nil=>rw [Jf hs I];exact .inr (.inr (.inl rfl))
   | cons t r =>
    rw [step_cons hs I];exact aB6 { s with todo:=r } (aqv h.over J) t
theorem Ord.next {s:aJ} (h:Ord s):Ord s.next:=by
 unfold aJ.next;split
 ·exact h
 ·rename_i hw;split
  ·exact⟨⟨h.lim.buf,h.lim.tasks,h.lim.Be,h.lim.HV,h.lim.asks,h.lim.less⟩,h.MG,fun e=>absurd e hw,.inl rfl⟩
  ·exact h
theorem Ord.mE {s:aJ} (h:Ord s) (hw:s.waits=true) {k:dz} (hk:k.is=true->k.data.length<=1000000):Ord (s.mE k):=by
 obtain⟨w1,af,aC⟩:=h.waits hw;refine⟨⟨h.lim.buf,h.lim.tasks,fun p j aD=>?_,h.lim.HV,by simp [aJ.mE],?_⟩,fun p th hm=>?_,fun e=>?_,h.over⟩
 ·have I:sZ (s.known++[(s.asks,k)]) p=some j:=aD;rw [Zr af] at I;split at I
  ·cases I;exact hk
  ·exact h.lim.Be p j I
 ·show (s.known++[(s.asks,k)]).length<=500;rw [List.length_append,List.length_singleton];omega
 ·left;have ax:=Zr af k p;show (sZ (s.known++[(s.asks,k)]) p).isSome=true;rw [ax];split
  ·rfl
  ·rename_i J;rcases h.MG p th hm with h1 | h1
   ·exact h1
   ·exact absurd h1.2.symm J
 ·cases e
def aJ.start (l:List sD):aJ:=⟨l.map .cmd,[],[],[],false,pF.none,[]⟩
theorem aB7 {l:List sD} (h:∀ c∈l,Ww c):Ord (aJ.start l):=by
 refine⟨⟨by simp [aJ.start],fun t I=>?_,fun p k hk=>(by cases hk),(by simp [aJ.start]),(by simp [aJ.start]),(by simp [aJ.start])⟩,fun p th hm=>?_,fun hw=>(by cases hw),.inl rfl⟩
 ·obtain⟨c,hc,rfl⟩:=aQv.1 I;exact h c hc
 ·obtain⟨c,_,ah⟩:=aQv.1 hm;cases ah
end
section
open Go.Lib
def Q8:List ak->Bool
 | []=>true
 | a :: _=>a.head? == some 35
def okW (may:ak->Bool):List ak->Bool
 | []=>false
 | a :: r=>decide (a=uK) || (decide ((vz a).1=r.length+1) && decide ((vz a).1≠0) && (!(vz a).2 || may (r.headD [])))
def Zu (s:ak):sD:=match nR s with
 | []=>⟨[],[]⟩
 | a :: r=>if a=uK then ⟨[a],Q0 s⟩ else ⟨a :: r,[]⟩
theorem Zv (may:ak->Bool) (s:ak):x9 may s=bif Q8 (nR s) then some none else bif okW may (nR s) then some (some (Zu s)) else none:=by
 unfold x9 Zu;cases hw:nR s with
 | nil=>rfl
 | cons a r =>
  simp only;by_cases h1:a.head?=some 35
  ·rw [if_pos h1,show Q8 (a :: r)=true by simp [Q8,h1],cond_true]
  ·rw [if_neg h1,show Q8 (a :: r)=false by simpa [Q8] using h1,cond_false];by_cases M:a=uK
   ·rw [if_pos M,if_pos M,show okW may (a :: r)=true by simp [okW,M],cond_true]
   ·rw [if_neg M,if_neg M];by_cases I:(vz a).1≠r.length+1\/(vz a).1=0\/((vz a).2=true/\may (r.headD [])=false)
    ·have:okW may (a :: r)=false:=by
      cases J:okW may (a :: r) with
      | false=>rfl
      | true =>
       simp only [okW,Bool.and_eq_true,decide_eq_true_eq,Bool.or_eq_true,Bool.not_eq_true'] at J;rcases J with J | J
       ·exact absurd J M
       ·rcases I with I | I | I
        ·exact absurd J.1.1 I
        ·exact absurd I J.1.2
        ·rcases J.2 with e | e
         ·rw [I.1] at e;cases e
         ·rw [I.2] at e;cases e
     rw [if_pos I,this,cond_false]
    ·have:okW may (a :: r)=true:=by
      rw [not_or,not_or] at I;obtain⟨Y,A7,AA⟩:=I;simp only [okW,Bool.and_eq_true,decide_eq_true_eq,Bool.or_eq_true,Bool.not_eq_true'];refine .inr ⟨⟨by simpa using Y,A7⟩,?_⟩;cases ae:(vz a).2 with
      | false=>exact .inl rfl
      | true =>
       right;cases hm:may (r.headD []) with
       | true=>rfl
       | false=>exact absurd ⟨ae,hm⟩ AA
     rw [if_neg I,this,cond_true]
def qx (may:ak->Bool):List ak->List sD
 | []=>[]
 | s :: l=>match x9 may s with
  | some (some c)=>c :: qx may l
  | _=>qx may l
def D6 (may:ak->Bool):List ak->Nat->Nat × Nat
 | [],_=>(0,0)
 | s :: l,i=>match x9 may s with
  | none=>(3,i+1)
  | some _=>D6 may l (i+1)
theorem aiu (may:ak->Bool):∀ (l:List ak) (i:Nat) (out:List sD),Q3 may l i out=(if (D6 may l i).1=0 then out++qx may l else [],(D6 may l i).1,(D6 may l i).2)
 | [],i,out=>by simp [Q3,D6,qx]
 | s :: l,i,out=>by
  cases h:x9 may s with
  | none=>simp [Q3,D6,h]
  | some o =>
   cases o with
   | none=>simp [Q3,D6,qx,h,aiu may l (i+1) out]
   | some c=>simp [Q3,D6,qx,h,aiu may l (i+1) (out++[c])]
def pR (may:ak->Bool) (text:ak):Nat × Nat:=if 65536 < text.length\/400 < (jP text).length then (6,0) else D6 may (jP text) 0
theorem aiv (may:ak->Bool) (text:ak):adl may text=(if (pR may text).1=0 then qx may (jP text) else [],(pR may text).1,(pR may text).2):=by
 unfold adl pR;split
 ·rfl
 ·rw [aiu];simp
theorem aqw (may:ak->Bool):∀ (a b:List ak),qx may (a++b)=qx may a++qx may b
 | [],b=>rfl
 | s :: a,b=>by
  rw [List.cons_append,qx,qx];split <;> simp [aqw may a b]
theorem Zw (may:ak->Bool):∀ l:List ak,(qx may l).length<=l.length
 | []=>aQm _
 | s :: l=>by
  have:=Zw may l;rw [qx];split <;> simp <;> omega
theorem aiw {may:ak->Bool} {c:sD}:∀ {l:List ak},c∈qx may l->∃ s∈l,x9 may s=some (some c)
 | [],h=>by cases h
 | s :: l,h=>by
  rw [qx] at h;split at h
  ·rename_i c' hc;rcases aQw.1 h with rfl | h
   ·exact⟨s,by simp,hc⟩
   ·obtain⟨t,I,e⟩:=aiw h;exact⟨t,by simp [I],e⟩
  ·obtain⟨t,I,e⟩:=aiw h;exact⟨t,by simp [I],e⟩
theorem aB8 {a:ak} (h:(vz a).1≠0):a∈[OT,OU,OV,MC,ME,QV,MF,QW,QX,QY,QZ,OW,uK]:=by
 unfold vz at h;simp only [List.mem_cons,List.not_mem_nil,or_false];split at h
 ·rename_i h1;rcases h1 with h1 | h1 | h1 <;> simp [h1]
 ·split at h
  ·rename_i h1;simp [h1]
  ·split at h
   ·rename_i h1;rcases h1 with h1 | h1 | h1 <;> simp [h1]
   ·split at h
    ·rename_i h1;rcases h1 with h1 | h1 | h1 | h1 | h1 <;> simp [h1]
    ·simp at h
theorem aB9 (s:ak):(Q0 s).length<=s.length:=by unfold Q0;rw [List.length_drop];have h1:=(List.dropWhile_sublist (fun c=>!qo c) (l:=s.dropWhile qo)).length_le;have I:=(List.dropWhile_sublist qo (l:=s)).length_le;omega
theorem aCa {may:ak->Bool} {s:ak} {c:sD} (h:x9 may s=some (some c)) (hs:s.length<=100000):adn c/\Ww c:=by
 rw [Zv] at h;cases aL:Q8 (nR s) with
 | true=>rw [aL,cond_true] at h;cases h
 | false =>
  cases I:okW may (nR s) with
  | true =>
   rw [aL,cond_false,I,cond_true] at h;injection h with h
   injection h with h
   subst h;have hm:∀ x∈nR s,x.length<=1000000:=fun x ah=>by have:=(YL ah).2.2;omega
   have hl:=aos s;unfold Zu;cases hw:nR s with
   | nil=>rw [hw] at I;cases I
   | cons a r =>
    rw [hw] at hm I hl;simp only [okW,Bool.or_eq_true,Bool.and_eq_true,decide_eq_true_eq] at I;by_cases J:a=uK
    ·have:=aB9 s;simp only [J,if_true];refine⟨by simp [adn],by simp,by simp,fun x ah=>?_,by simp only;omega⟩;simp at ah;subst ah;simp
    ·simp only [J,if_false];refine⟨?_,by simp,by simp only;omega,hm,by simp⟩;rcases I with I | I
     ·exact absurd I J
     ·exact aB8 I.1.2
  | false=>rw [aL,cond_false,I,cond_false] at h;cases h
end
section
open Go.Lib
variable {v:Env} {O aB5:ak->Option dz}
def iU.BR:iU->Bool
 | .cmd _=>true
 | _=>false
end
section
open Go.RowKit
def aix (w:aRB) (g:Nat) (cs:aRD):Prop:=∃ t,w.heap[g]?=some (.cells cs.toArray t (0,0))
section
variable {w w':aRB} {g:Nat} {cs:aRD}
theorem aix.cells (h:aix w g cs) (i:Nat):w.cell? (ad g i)=cs[i]?:=by obtain⟨t,h⟩:=h;rw [cell_of_row w g i _ t _ h];simp
end
end
section
open Go.RowKit Go.Shelf Go.Sort
def qK (w:aRB):Prop:=∃ m,w.cell? (ad 0 0)=some (.int .i64 m)
theorem qK.on (h:qK w) (ae:Bl w w'):qK w':=by obtain⟨m,hm⟩:=h;exact⟨m,(ae.cell (aQy w _ hm)).trans hm⟩
theorem aCb {aO:Nat} {n:Nat} {xs:aRD} (h:w.ownsRow base e aO v n xs):∃ A c,v = .slice A n c/\Own w base e aO A n c xs:=by
 obtain⟨hl,⟨rfl,rfl⟩ | ⟨g,cap,cur,rfl,ae,ax,I,hm,hc,ah⟩⟩:=h
 ·have:xs=[]:=aQC (by simpa using hl);subst this;exact⟨none,0,rfl,Own.nil _ _ _ _⟩
 ·refine⟨some ⟨g,0,none⟩,cap,rfl,hl,I,hm,.inr ⟨g,0,cur,(0,0),rfl,ae,ax,.inl rfl,om,fun j aD=>?_⟩⟩;rw [Nat.zero_add,<- ah,List.getElem?_take,if_pos aD];simp
theorem aCc (w:aRB) (x:Nat):CB 262 #[.int .i32 x] w (.bool (CX x)):=by
 have h1:CX x=(decide (x=32) || decide (x=9)):=by unfold CX;rw [Bool.eq_iff_iff];simp
 rw [h1];go_enter func262,ntmps262;go_wp2;all_goals go_ret
 ·rename_i h;obtain rfl:x=32:=om;exact⟨rfl,Below.refl _ _⟩
 ·refine⟨?_,Below.refl _ _⟩;show Ending.returned (Value.bool ((x:Int) == 32 || (x:Int) == 9))=_;have I:((x:Int) == 32)=decide (x=32):=by rw [Bool.eq_iff_iff];simp;omega
  have J:((x:Int) == 9)=decide (x=9):=by rw [Bool.eq_iff_iff];simp;omega
  rw [I,J]
theorem aCd (w:aRB):PredGrows prog 262 #[] CX w:=fun W x _ _=>aCc W x
theorem aCe:(prog.info? (Tryz.tlFields_ren.t 154)).map (fun i=>(i.zero,i.size,i.bytes))=some (some (.agg #[.int .i64 0,.int .i64 0]),2,16):=kr
theorem aCf:(prog.info? (Tryz.tlFields_ren.t 9)).map (fun i=>(i.zero,i.size,i.bytes))=some (some (.string ⟨#[]⟩),1,16):=kr
theorem aCg (w:aRB) (s:ak) (hs:s.length<=1000000000) :
  Calls prog 261 #[.string (az s),.func (.func 262) #[] #[]] w fun e w'=>∃ A c,e = .returned (.slice A (nR s).length c)/\Own w' w.heap.size 9 1 A (nR s).length c (cu (nR s))/\Bl w w':=by
 have h:=Any.strings_FieldsFunc_grows Tryz.tlFields 262 #[] (enters_of func262 kr rfl) CX (az s) w (by rw [iM];omega) (aCd w) aCe aCf;have hw:=aBU (az s);rw [gU] at hw;have hl:(Lib.goFieldsP CX (az s)).length=(nR s).length:=by rw [<- hw,List.length_map]
 have I:(Lib.goFieldsP CX (az s)).map Value.string=cu (nR s):=by rw [<- hw,cu,List.map_map];exact List.map_congr_left fun x _=>by simp only [Function.comp_apply,YG]
 rw [hl,I] at h;refine h.mono ?_;rintro e w' ⟨A,rfl,_,J,ae⟩;obtain⟨iD,c2,M,Y⟩:=aCb J;cases M;exact⟨_,_,rfl,Y,ae⟩
theorem aqx (w:aRB) (s:ak) (hs:s.length<=1000000000) :
  Calls prog 237 #[.string (az s)] w fun e w'=>∃ A c,e = .returned (.slice A (nR s).length c)/\Own w' w.heap.size 9 1 A (nR s).length c (cu (nR s))/\Bl w w':=by
 have h:=aCg w s hs;obtain⟨S,I,L,J⟩:=nq2 (az s) (nR s);rw [<- I,<- J] at h |-;have H:=aa h;clear h I J;go_enter func237,ntmps237;go_wp2_with (go_at_call 261; refine H.o.mono ?_;rintro e w1 ⟨A,c,rfl,M,ae⟩;have Y:=aa M;have A7:=aa ae;clear M ae);go_ret;exact⟨A,c,rfl,Y.o,A7.o⟩
theorem aCh (s:ak):Lib.trimSuffix s [10]=if s.getLast?=some 10 then s.dropLast else s:=by
 unfold Lib.trimSuffix Lib.hasSuffix;rcases List.eq_nil_or_concat s with rfl | ⟨b,x,rfl⟩
 ·rfl
 ·rw [List.concat_eq_append,List.getLast?_concat,List.dropLast_concat];have h1:List.isSuffixOf [10] (b++[x])=(10 == x):=by simp [List.isSuffixOf,List.isPrefixOf]
  rw [h1];by_cases ah:x=10
  ·subst ah;simp
  ·have:((10:UInt8) == x)=false:=by simpa using aQJ ah
   rw [this,if_neg sp,if_neg (by simpa using ah)]
theorem aCi (w:aRB) (s:ak) (hl:s.length<=1000000000) (aj:qK w) :
  Calls prog 157 #[.string (az s),.string ⟨#[10]⟩] w fun e w'=>∃ A c,e = .returned (.slice A (jg (· == 10) s).length c)/\Own w' w.heap.size 9 1 A (jg (· == 10) s).length c (cu (jg (· == 10) s))/\Bl w w':=by
 obtain⟨m,hm⟩:=aj;have h:=Any.strings_Split { Tryz.tlSplit with } kr (az s) (az [10]) m w (by rw [iM];omega) hm dc;obtain⟨h1,I⟩:=aii 10 (jg (· == 10) s) (YI _ s) (aqh 10 s);rw [aij] at h1 I;have aL:0 < (jg (· == 10) s).length:=aRt.2 (YI _ s);have hlen:=Tv (· == 10) s;rw [h1,I,show (jg (· == 10) s).length - 1+1=(jg (· == 10) s).length by omega] at h;refine h.mono ?_;rintro e w' ⟨rfl,rfl⟩;have J:((jg (· == 10) s).map az).map Value.string=cu (jg (· == 10) s):=by rw [cu,List.map_map];rfl
 rw [J];have M:=Own.lit w (cu (jg (· == 10) s)).toArray 9 1 (jg (· == 10) s).length w.heap.size (aQm _) mO (by rw [List.size_toArray,aok];omega);exact⟨_,_,rfl,M,gK⟩
theorem adp (w:aRB) (s:ak) (hl:s.length<=1000000000) (aj:qK w) :
  Calls prog 203 #[.string (az s)] w fun e w'=>∃ A c,e = .returned (.slice A (jP s).length c)/\Own w' w.heap.size 9 1 A (jP s).length c (cu (jP s))/\Bl w w':=by
 by_cases I:s=[]
 ·subst I;rw [show az []=⟨#[]⟩ from rfl,ayP];go_enter func203,ntmps203;go_wp2;go_ret;exact⟨none,0,rfl,Own.nil _ _ _ _,Below.refl _ _⟩
 ·obtain⟨t,J⟩:=ai (if s.getLast?=some 10 then s.dropLast else s);have Y:jP s=jg (· == 10) t:=by rw [jP,if_neg I,J];split <;> rfl
  have A7:t.length<=1000000000:=by
   rw [J];split
   ·rw [List.length_dropLast];omega
   ·exact hl
  have c1:=Any.strings_TrimSuffix Tryz.tlTrim (az s) (az [10]) w (by rw [iM];omega);rw [gU,gU,aCh,<- J] at c1;have M:Calls prog 236 #[.string (az s),.string ⟨#[10]⟩] w fun e w'=>e = .returned (.string (az t))/\w'=w:=c1;have c2:=aCi w t A7 aj;have AO:(az s).toList.isEmpty=false:=by rw [ByteArray.toList_eq,gU];simpa using I
  rw [Y];obtain⟨S,AA,T,AB,L,AJ⟩:=nq3 (az s) (az t) (jg (· == 10) t);rw [<- AA] at M AO |-;rw [<- AB] at M c2;rw [<- AJ] at c2 |-;have AP:=aa M;have AV:=aa c2;clear c1 M c2 AA AB AJ Y J A7 I hl aj;go_enter func203,ntmps203;go_wp2_with (first
   | (go_at_call 236; refine AP.o.mono ?_;rintro e w1 ⟨rfl,rfl⟩)
   | (go_at_call 157; refine AV.o.mono ?_;rintro e af ⟨A,c,rfl,AL,ae⟩;have AZ:=aa AL;have Aa:=aa ae;clear AL ae))
  go_ret;exact⟨A,c,rfl,AZ.o,Aa.o⟩
end
section
open Go.RowKit Go.Shelf
theorem OZ {v:Bool} (w:aRB) (s:ByteArray) (l:aRH) (hs:s.size<=1100000) (hl:s.data.toList=l) (h:eF l=v):CB 43 #[.string s] w (.bool v):=by have:=adg w s hs;rw [hl,h] at this;exact this
theorem aiy (w:aRB) (s d:ByteArray) (hs:s.size<=1100000) (aT:d.size<=1100000):CB 105 #[.string s,.string d] w (.bool (yA s.data.toList d.data.toList)):=by
 have Aa:=aa (ByteArray.toList_eq d);by_cases hm:eF s.data.toList=true
 ·have J:=fun w=>OZ w s _ om rfl hm;by_cases A7:d.toList=[]
  ·have I:yA s.data.toList d.data.toList=true:=by rw [<- Aa.o,A7];exact ayN hm
   rw [I];clear I hm;go_enter func105,ntmps105;go_wp2_with (go_at_call 43; refine (J _).mono ?_;rintro e af ⟨rfl,ae⟩);go_ret;exact⟨rfl,ae⟩
  ·have he:d.toList.isEmpty=false:=by cases h:d.toList <;> simp_all
   have Y:d.data.toList.isEmpty=false:=by rw [<- Aa.o];exact he
   by_cases M:eF d.data.toList=true
   ·have AA:=fun w=>OZ w d _ om rfl M;obtain⟨D,AB⟩:=ai (d++⟨#[47]⟩);have AJ:D.data.toList=d.data.toList++[47]:=by rw [AB,acP]
    have Ab:D.size=d.size+1:=by rw [<- wG,AJ];simp
    obtain⟨v,AL⟩:=ai ((d.data.toList++[47]).isPrefixOf s.data.toList);have Ad:=fun w=>aqf w s D v om om (by rw [AJ,AL]);have I:yA s.data.toList d.data.toList=v:=by rw [yA,hm,Y,M,AL];simp
    rw [I];have Ae:¬ (d.size+(⟨#[47]⟩:ByteArray).size > 9223372036854775807):=by show ¬ (d.size+1 > _);omega
    have Af:=AB.symm;clear I hm M AJ Ab AL A7 Y AB;go_enter func105,ntmps105;go_wp2_with (first
     | (go_at_call 43; (with_reducible refine (J _).mono ?_);rintro e af ⟨rfl,ae⟩;have AO:=ae;clear ae)
     | (go_at_call 43; (with_reducible refine (AA _).mono ?_);rintro e aC ⟨rfl,AP⟩)
     | (go_at_call 155; refine (Ad _).mono ?_;rintro e Ag ⟨rfl,rfl⟩))
    go_ret;exact⟨rfl,aR AO AP⟩
   ·have AV:eF d.data.toList=false:=by simpa using M
    have AA:=fun w=>OZ w d _ om rfl AV;have I:yA s.data.toList d.data.toList=false:=by rw [yA,Y,AV];simp
    rw [I];clear I hm M AV A7 Y;go_enter func105,ntmps105;go_wp2_with (first
     | (go_at_call 43; (with_reducible refine (J _).mono ?_);rintro e af ⟨rfl,ae⟩;have AO:=ae;clear ae)
     | (go_at_call 43; (with_reducible refine (AA _).mono ?_);rintro e aC ⟨rfl,AP⟩))
    go_ret;exact⟨rfl,aR AO AP⟩
 ·have AZ:eF s.data.toList=false:=by simpa using hm
  have J:=fun w=>OZ w s _ om rfl AZ;rw [ayO AZ];clear hm AZ;go_enter func105,ntmps105;go_wp2_with (go_at_call 43; refine (J _).mono ?_;rintro e af ⟨rfl,ae⟩);go_ret;exact⟨rfl,ae⟩
theorem aiB (w:aRB) (s:fA) (hl:s.length<=1000000000) (aj:qK w) :
  Calls prog 157 #[.string (az s),.string ⟨#[47]⟩] w fun e w'=>∃ A c,e = .returned (.slice A (jg (· == 47) s).length c)/\Own w' w.heap.size 9 1 A (jg (· == 47) s).length c (cu (jg (· == 47) s))/\Bl w w':=by
 obtain⟨m,hm⟩:=aj;have h:=Any.strings_Split { Tryz.tlSplit with } kr (az s) (az [47]) m w (by rw [iM];omega) hm dc;obtain⟨h1,I⟩:=aii 47 (jg (· == 47) s) (YI _ s) (aqh 47 s);rw [aij] at h1 I;have aL:0 < (jg (· == 47) s).length:=aRt.2 (YI _ s);have hlen:=Tv (· == 47) s;rw [h1,I,show (jg (· == 47) s).length - 1+1=(jg (· == 47) s).length by omega] at h;refine h.mono ?_;rintro e w' ⟨rfl,rfl⟩;have J:((jg (· == 47) s).map az).map Value.string=cu (jg (· == 47) s):=by rw [cu,List.map_map];rfl
 rw [J];have M:=Own.lit w (cu (jg (· == 47) s)).toArray 9 1 (jg (· == 47) s).length w.heap.size (aQm _) mO (by rw [List.size_toArray,aok];omega);exact⟨_,_,rfl,M,gK⟩
theorem aCj (w:aRB) (s:fA) (hs:s.length<=1100000):CB 158 #[.string (az s)] w (.bool (!EF s)):=by have h:=aBK w s hs;obtain⟨S,I,v,J⟩:=nq2 (az s) (EF s);rw [<- I,<- J] at h;rw [<- I,<- J];clear I J;go_enter func158,ntmps158;go_wp2_with (go_at_call 159; refine h.mono ?_;rintro e af ⟨rfl,ae⟩);go_ret;exact⟨rfl,ae⟩
theorem aqy (w:aRB) (s:fA) (hs:s.length<=1100000) (aj:qK w):CB 110 #[.string (az s)] w (.bool (G9 s)):=by
 have h1:=aiB w s om aj;have hlen:=Tv (· == 47) s;have hle:∀ x∈jg (· == 47) s,x.length<=1100000:=fun x ah=>by have:=YK (· == 47) ah;omega
 have I:=aa (show G9 s=(decide ((jg (· == 47) s).length<=16) && !((jg (· == 47) s).any fun x=>!EF x)) from rfl);obtain⟨ps,AP⟩:=ai (jg (· == 47) s);rw [<- AP] at h1 hlen hle I;obtain⟨n,J⟩:=ai ps.length;have Y:=fun (A7:ps.length<=16) (W:aRB) (A:aRC) (c:Nat) (h:Own W w.heap.size 9 1 A ps.length c (cu ps))=>Wj W A c ps h.rd om 158 #[] (enters_of func158 kr rfl) (fun x=>!EF x) fun aV _ x ah=>aCj aV x (hle x ah);obtain⟨S,AA,R,AB,v,AJ⟩:=nq3 (az s) (G9 s) (ps.any fun x=>!EF x);rw [<- AB,<- J,<- AJ] at I;rw [<- AA,<- J] at h1;rw [<- J,<- AJ] at Y;rw [<- AA,<- AB];have H1:=aa h1;have AV:=aa Y;have Ad:(n:Int)<=9223372036854775807:=om;clear h1 Y hlen hle AP AA AB AJ aj J;by_cases A7:n<=16
 ·have AZ:(n:Int)<=16:=om;have AL:=aa (show R = !v by rw [I.o];simp [A7]);go_enter func110,ntmps110;go_wp2_with (first
   | (go_at_call 157; refine H1.o.mono ?_;rintro e af ⟨A,c,rfl,M,ae⟩;have AO:=aa ae;have Aa:=aa (AV.o om af A c M);clear ae M)
   | (go_at_call 111; refine jw Aa.o ?_;intro aC Ab))
  go_ret;exact⟨by rw [AL.o];rfl,aR AO.o Ab.o⟩
 ·have AZ:¬ (n:Int)<=16:=om;have AL:=aa (show R=false by rw [I.o];simp [A7]);go_enter func110,ntmps110;go_wp2_with (first
   | (go_at_call 157; refine H1.o.mono ?_;rintro e af ⟨A,c,rfl,M,ae⟩;have AO:=aa ae;clear ae M))
  go_ret;exact⟨by rw [AL.o];rfl,AO.o⟩
theorem aCm (w:aRB) (s:fA) (hs:s.length<=1100000):CB 107 #[.string (az s)] w (.bool (!yA s [111,117,116])):=by have h:=aiy w (az s) ⟨#[111,117,116]⟩ (by rw [iM];omega) dc;rw [gU] at h;obtain⟨S,I,v,J⟩:=nq2 (az s) (yA s [111,117,116]);rw [<- I,show yA s (⟨#[111,117,116]⟩:ByteArray).data.toList=v from J.symm] at h;rw [<- I,<- J];clear I J;go_enter func107,ntmps107;go_wp2_with (go_at_call 105; refine h.mono ?_;rintro e af ⟨rfl,ae⟩);go_ret;exact⟨rfl,ae⟩
theorem aCn (w:aRB) (s:fA) (hs:s.length<=1100000):CB 108 #[.string (az s)] w (.bool (!eF s)):=by have h:=OZ w (az s) s (by rw [iM];omega) (gU s) rfl;obtain⟨S,I,v,J⟩:=nq2 (az s) (eF s);rw [<- I,<- J] at h;rw [<- I,<- J];clear I J;go_enter func108,ntmps108;go_wp2_with (go_at_call 43; refine h.mono ?_;rintro e af ⟨rfl,ae⟩);go_ret;exact⟨rfl,ae⟩
theorem aCo (w:aRB) (s:fA) (hs:s.length<=1100000) (aj:qK w):CB 109 #[.string (az s)] w (.bool (!G9 s)):=by have h:=aqy w s hs aj;obtain⟨S,I,v,J⟩:=nq2 (az s) (G9 s);rw [<- I,<- J] at h;rw [<- I,<- J];clear I J;go_enter func109,ntmps109;go_wp2_with (go_at_call 110; refine h.mono ?_;rintro e af ⟨rfl,ae⟩);go_ret;exact⟨rfl,ae⟩
def D7 (p s:fA):Nat->Nat->Nat->Int->Nat->Bool
 | 0,_,_,_,_=>false
 | f+1,i,k,star,at_ =>
  if k < s.length then
   if i < p.length/\p.getD i 0=42 then D7 p s f (i+1) k i k
   else if i < p.length/\(p.getD i 0=63\/p.getD i 0=s.getD k 0) then D7 p s f (i+1) (k+1) star at_
   else if 0<=star then D7 p s f (star.toNat+1) (at_+1) star (at_+1)
   else false
  else (p.drop i).all (· == 42)
def TZ (p s:fA):Bool:=D7 p s (s.length * (p.length+2)+(p.length+1)+1) 0 0 (-1) 0
theorem aqz (c:UInt8):∀ l:List UInt8,(l.dropWhile (· == c)).isEmpty=l.all (· == c)
 | []=>rfl
 | x :: l=>by
  rw [List.dropWhile_cons,List.all_cons];by_cases h:(x == c)=true
  ·rw [if_pos h,h,aqz c l,Bool.true_and]
  ·rw [if_neg h,Bool.eq_false_iff.2 h];rfl
theorem byte_at {S:ByteArray} {s:fA} (hs:S=az s) (h:q < S.size):S[q]'h=s.getD q 0:=by
 have e:s=S.data.toList:=by rw [hs,gU]
 have I:q < S.data.toList.length:=by rw [wG];exact h
 rw [e,List.getD_eq_getElem?_getD,List.getElem?_eq_getElem I];exact (Array.getElem_toList _).symm
theorem aiC (a b:UInt8):(((a.toNat:Int) == (b.toNat:Int))=(a == b)):=by rw [Bool.eq_iff_iff,beq_iff_eq,beq_iff_eq,<- UInt8.toNat_inj];omega
theorem aCp (l:aRH) (c:UInt8):(Lib.trimB l c).isEmpty=l.all (· == c):=by
 unfold Lib.trimB Lib.trimLeftB Lib.trimRightB;rw [aqz,List.all_reverse];have key:∀ l:List UInt8,(l.dropWhile (· == c)).all (· == c)=l.all (· == c):=by
  intro l;induction l with
  | nil=>rfl
  | cons x l I =>
   rw [List.dropWhile_cons,List.all_cons];by_cases h:(x == c)=true
   ·rw [if_pos h,h,I,Bool.true_and]
   ·rw [if_neg h,List.all_cons]
 rw [key,List.all_reverse]
theorem aCq (w:aRB) (p s:fA) (aL:p.length<=1000) (hs:s.length<=1000) :
  CB 231 #[.string (az p),.string (az s)] w (.bool (TZ p s)):=by
 obtain⟨P,AL,S,AO,m,hm,n,Y⟩:=nq4 (az p) (az s) p.length s.length;have BL:P.size=m:=by rw [AL,iM,hm]
 have BM:S.size=n:=by rw [AO,iM,Y]
 obtain⟨R,Ab,N,Ad⟩:=nq2 (TZ p s) (n * (m+2)+(m+1)+1);have Aq:R=D7 p s N 0 0 (-1) 0:=by rw [Ab,TZ,Ad,hm,Y]
 rw [<- Ab,<- AL,<- AO];rw [<- hm] at aL;rw [<- Y] at hs;obtain⟨Au,BO,Ae,BP,BQ,BX,Bb,Bc⟩:=hq8 AL AO hm Y BL BM Aq Ad;clear AL AO hm Y Ab Aq Ad;go_enter func231,ntmps231;go_wp2_with fail;go_loopg [5,6,7,8] N (fun gk Bd Bf Bi Bn wr=>∃ (i k a:Nat) (st:Int),Bd = .int .i64 i/\Bf = .int .i64 k/\Bi = .int .i64 st/\Bn = .int .i64 a/\i<=m/\st < i /\ -1<=st/\a<=k/\k<=n/\(n - a) * (m+2)+(m+1 - i) < gk/\R=D7 p s gk i k st a/\Bl w wr);case atStart=>exact⟨0,0,0,-1,rfl,rfl,rfl,rfl,om,om,om,om,om,by rw [Bc.o];simp,Bb.o,Below.refl _ _⟩
 case round =>
  obtain⟨i,k,a,st,rfl,rfl,rfl,rfl,CK,CL,CS,CU,CV,Aw,Af,Ay⟩:=hrel;obtain⟨f,rfl⟩:∃ f,gk=f+1:=⟨gk - 1,om⟩;rw [D7,<- BP.o,<- Ae.o] at Af;obtain⟨AP,J,A7⟩:=hq3 Af Ay Aw;clear Af Ay Aw;have CW:(0:Int)<=i:=om;have CZ:(0:Int)<=k:=om;have Ca:(i:Int)<=1000:=om;by_cases AA:k < n
  ·have Bo:(k:Int) < n:=om;have Az:k < S.size:=by have:=BX.o;omega
   have BA:=byte_at BO.o Az;by_cases AV:i < m
   ·have Bp:(i:Int) < m:=om;have AZ:i < P.size:=by have:=BQ.o;omega
    have Aa:=byte_at Au.o AZ;have Bq:(((P[i]'AZ).toNat:Int) == 42)=(p.getD i 0 == 42):=by rw [Aa];exact aiC _ 42
    have Br:(((P[i]'AZ).toNat:Int) == 63)=(p.getD i 0 == 63):=by rw [Aa];exact aiC _ 63
    have Bt:(((P[i]'AZ).toNat:Int) == ((S[k]'Az).toNat:Int))=(p.getD i 0 == s.getD k 0):=by rw [Aa,BA];exact aiC _ _
    obtain⟨Bu,Ag,Bv,Ah,Bw,Ai⟩:=nq3 (p.getD i 0 == 42) (p.getD i 0 == 63) (p.getD i 0 == s.getD k 0);rw [<- Ag] at Bq;rw [<- Ah] at Br;rw [<- Ai] at Bt;obtain⟨BF,BG,BH⟩:=hq3 Ag Ah Ai;clear Ag Ah Ai Aa BA;cases Bu with
    | true =>
     have BI:R=D7 p s f (i+1) k i k:=by rw [AP.o,if_pos AA,if_pos ⟨AV,by have:=BF.o.symm;simpa using this⟩]
     have I:=aa BI;clear BI;go_wp2_with fail;go_roundg f;case rel=>exact⟨i+1,k,k,(i:Int),by go_num,by go_num,by go_num,by go_num,om,om,om,om,om,by have h1:=A7.o;have AB:(n - k) * (m+2)<=(n - a) * (m+2):=aQP _ om;omega,I.o,J.o⟩
     case measure=>omega
    | false =>
     have n42:¬ p.getD i 0=42:=by have:=BF.o.symm;simpa using this
     have BJ:R=if p.getD i 0=63\/p.getD i 0=s.getD k 0 then D7 p s f (i+1) (k+1) st a else if 0<=st then D7 p s f (st.toNat+1) (a+1) st (a+1) else false:=by rw [AP.o,if_pos AA,if_neg (fun h=>n42 h.2)];simp only [AV,true_and]
     have Ak:=aa BJ;clear BJ n42;cases Bv with
     | true =>
      have I:=aa (show R=D7 p s f (i+1) (k+1) st a by rw [Ak.o,if_pos (.inl (by have:=BG.o.symm;simpa using this))]);go_wp2_with fail;go_quiet (fail);go_wp2_with fail;go_roundg f;case rel=>exact⟨i+1,k+1,a,st,by go_num,by go_num,by go_num,by go_num,om,om,om,om,om,by have h1:=A7.o;omega,I.o,below_drewN J.o _⟩
      case measure=>omega
     | false =>
      cases Bw with
      | true =>
       have I:=aa (show R=D7 p s f (i+1) (k+1) st a by rw [Ak.o,if_pos (.inr (by have:=BH.o.symm;simpa using this))]);go_wp2_with fail;go_quiet (fail);go_wp2_with fail;go_roundg f;case rel=>exact⟨i+1,k+1,a,st,by go_num,by go_num,by go_num,by go_num,om,om,om,om,om,by have h1:=A7.o;omega,I.o,below_drewN J.o _⟩
       case measure=>omega
      | false =>
       have C8:¬ (p.getD i 0=63\/p.getD i 0=s.getD k 0):=by have h1:=BG.o.symm;have AB:=BH.o.symm;simp only [beq_eq_false_iff_ne] at h1 AB;exact fun h=>h.elim h1 AB
       have M:R=if 0<=st then D7 p s f (st.toNat+1) (a+1) st (a+1) else false:=by rw [Ak.o,if_neg C8]
       by_cases AJ:0<=st
       ·obtain⟨c,rfl⟩:∃ c:Nat,st=c:=⟨st.toNat,om⟩;have I:=aa (show R=D7 p s f (c+1) (a+1) c (a+1) by rw [M,if_pos AJ];rfl);clear M;go_wp2_with fail;go_quiet (fail);go_wp2_with fail;go_roundg f;case rel=>exact⟨c+1,a+1,a+1,(c:Int),by go_num,by go_num,by go_num,by go_num,om,om,om,om,om,by have h1:=A7.o;have AB:(n - a) * (m+2)=(n - (a+1)) * (m+2)+(m+2):=(by rw [<- Nat.succ_mul,show (n - (a+1)).succ=n - a by omega]);omega,I.o,below_drewN J.o _⟩
        case measure=>omega
       ·have I:=aa (show R=false by rw [M,if_neg AJ]);clear M;go_wp2_with fail;go_quiet (fail);go_wp2_with fail;go_ret;exact⟨by rw [I.o];rfl,below_drewN J.o _⟩
   ·have Bp:¬ (i:Int) < m:=om;have M:R=if 0<=st then D7 p s f (st.toNat+1) (a+1) st (a+1) else false:=by rw [AP.o,if_pos AA,if_neg (fun h=>AV h.1),if_neg (fun h=>AV h.1)]
    by_cases AJ:0<=st
    ·obtain⟨c,rfl⟩:∃ c:Nat,st=c:=⟨st.toNat,om⟩;have I:=aa (show R=D7 p s f (c+1) (a+1) c (a+1) by rw [M,if_pos AJ];rfl);clear M;go_wp2_with fail;go_quiet (fail);go_wp2_with fail;go_roundg f;case rel=>exact⟨c+1,a+1,a+1,(c:Int),by go_num,by go_num,by go_num,by go_num,om,om,om,om,om,by have h1:=A7.o;have AB:(n - a) * (m+2)=(n - (a+1)) * (m+2)+(m+2):=(by rw [<- Nat.succ_mul,show (n - (a+1)).succ=n - a by omega]);omega,I.o,below_drewN J.o _⟩
     case measure=>omega
    ·have I:=aa (show R=false by rw [M,if_neg AJ]);clear M;go_wp2_with fail;go_quiet (fail);go_wp2_with fail;go_ret;exact⟨by rw [I.o];rfl,below_drewN J.o _⟩
  ·have Bo:¬ (k:Int) < n:=om;have BK:R=(p.drop i).all (· == 42):=by rw [AP.o,if_neg AA]
   obtain⟨U,Al⟩:=ai (P.extract i m);have Am:U.data.toList=p.drop i:=by rw [Al,Od,Au.o,gU];exact aRi (by rw [List.length_drop,Ae.o];omega)
   have C9:U.size<=1000:=by rw [<- wG,Am,List.length_drop,<- Ae.o];omega
   have Ao:=fun w=>Any.strings_Trim_one Tryz.tlTrimB U 42 dc w om;obtain⟨T,Ap⟩:=ai (⟨(Lib.trimB U.data.toList 42).toArray⟩:ByteArray);have Cb:(T.toList == ([]:aRH))=R:=by rw [ByteArray.toList_eq,Ap,BK,<- Am,<- aCp];cases Lib.trimB U.data.toList 42 <;> rfl
   rw [<- Ap] at Ao;have CE:=aa (show ∀ w,Calls prog 255 #[.string U,.string ⟨#[42]⟩] w fun e w'=>e = .returned (.string T)/\(w'=w\/w'=w.drew) from Ao);have Ce:=Al.symm;clear Ao Ap BK Al Am C9 AA;go_wp2_with (go_at_call 255; refine (CE.o _).mono ?_;rintro e af ⟨rfl,ae⟩;have CJ:=aa (show Bl w af by (rcases ae with rfl | rfl;exact J.o;exact J.o.drew));clear ae);go_ret;exact⟨rfl,CJ.o⟩
end
end Go.Proofs.YtjkinjbkknanbaaGreatDoor
