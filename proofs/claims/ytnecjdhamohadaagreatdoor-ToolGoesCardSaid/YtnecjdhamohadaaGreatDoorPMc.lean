/- Rows of texts as bytes, and their one form, in plain: no program is named. -/
import Derived.Lib.ItoaNum
import Derived.Lib.SlicesCompact
import Derived.Lib.IndexMore
set_option linter.unusedSimpArgs false
set_option linter.unusedVariables false
namespace Go.Proofs.YtnecjdhamohadaaGreatDoor
open Go.Lib
theorem dec_len:∀ (k n:Nat),n < 10 ^ (k+1)→(decDigits n).length≤k+1
 | 0,n,h=>by
  rw [decDigits,dif_pos (by omega)]
  simp
 | k+1,n,h=>by
  rw [decDigits]
  split
  ·simp
  ·have:=dec_len k (n / 10) (by rw [Nat.pow_succ] at h;omega)
   rw [List.length_append]
   simp only [List.length_cons,List.length_nil]
   omega
def IsSet (l m:List (List UInt8)):Prop:=m.Pairwise (· < ·)∧∀ x,x∈m ↔ x∈l
theorem riseT_eq:∀ {l m:List (List UInt8)},l.Pairwise (· < ·)→m.Pairwise (· < ·)→(∀ x,x∈l ↔ x∈m)→l=m
 | [],[],_,_,_=>rfl
 | [],b :: m,_,_,h=>by have:=(h b).2 (by simp);simp at this
 | a :: l,[],_,_,h=>by have:=(h a).1 (by simp);simp at this
 | a :: l,b :: m,h1,h2,h=>by
  obtain⟨ha,k1⟩:=List.pairwise_cons.1 h1
  obtain⟨hb,k2⟩:=List.pairwise_cons.1 h2
  have e:a=b:=by
   have x:=(h a).1 (by simp)
   have y:=(h b).2 (by simp)
   rcases List.mem_cons.1 x with x | x
   ·exact x
   ·rcases List.mem_cons.1 y with y | y
    ·exact y.symm
    ·exact absurd (ha b y) (List.lt_asymm (hb a x))
  subst e
  have hm:∀ x,x∈l ↔ x∈m:=by
   intro x
   constructor
   ·intro hx
    rcases List.mem_cons.1 ((h x).1 (List.mem_cons_of_mem _ hx)) with e | e
    ·subst e;exact absurd (ha x hx) (List.lt_irrefl x)
    ·exact e
   ·intro hx
    rcases List.mem_cons.1 ((h x).2 (List.mem_cons_of_mem _ hx)) with e | e
    ·subst e;exact absurd (hb x hx) (List.lt_irrefl x)
    ·exact e
  rw [riseT_eq k1 k2 hm]
theorem IsSet.one {l m m':List (List UInt8)} (h:IsSet l m) (h':IsSet l m'):m=m':=riseT_eq h.1 h'.1 fun x=>(h.2 x).trans (h'.2 x).symm
def sortT (l:List (List UInt8)):List (List UInt8):=l.mergeSort fun x y=>decide (x≤y)
theorem sortT_le (l:List (List UInt8)):(sortT l).Pairwise (·≤·):=by
 have:=List.pairwise_mergeSort (le:=fun x y:List UInt8=>decide (x≤y)) (fun a b c h1 h2=>by simp only [decide_eq_true_eq] at *;exact List.le_trans h1 h2) (fun a b=>by simp only [Bool.or_eq_true,decide_eq_true_eq];exact List.le_total a b) l
 exact this.imp fun h=>by simpa using h
theorem sortT_length (l:List (List UInt8)):(sortT l).length=l.length:=List.length_mergeSort l
theorem compactT_len (ys:List (List UInt8)):(compact ys).length≤ys.length:=by
 rw [compact,compactUpTo,List.length_map]
 exact Nat.le_trans (List.length_filter_le _ _) (by simp)
end Go.Proofs.YtnecjdhamohadaaGreatDoor
namespace Go.Proofs.YtnecjdhamohadaaGreatDoor
abbrev TT:=List UInt8
def segs (p:UInt8→Bool):TT→List TT
 | []=>[[]]
 | c :: s=>if p c then [] :: segs p s else match segs p s with
  | []=>[[c]]
  | x :: r=>(c :: x) :: r
def isB (c:UInt8):Bool:=c == 32 || c == 9
def wordsT (s:TT):List TT:=(segs isB s).filter fun x=>!x.isEmpty
def linesT (s:TT):List TT:=if s=[] then [] else if s.getLast?=some 10 then segs (· == 10) s.dropLast else segs (· == 10) s
theorem segs_ne (p:UInt8→Bool):∀ s:TT,segs p s≠[]
 | []=>by simp [segs]
 | c :: s=>by
  rw [segs]
  split
  ·simp
  ·split <;> simp
theorem segs_cons (p:UInt8→Bool) (c:UInt8) (s:TT):∃ x r,segs p s=x :: r∧segs p (c :: s)=if p c then [] :: x :: r else (c :: x) :: r:=by
 cases h:segs p s with
 | nil=>exact absurd h (segs_ne p s)
 | cons x r =>
  refine⟨x,r,rfl,?_⟩
  rw [segs,h]
theorem segs_no {p:UInt8→Bool}:∀ {s:TT},(∀ c∈s,p c=false)→segs p s=[s]
 | [],_=>rfl
 | c :: s,h=>by
  have h1:=h c (by simp)
  have h2:=segs_no (s:=s) fun d hd=>h d (by simp [hd])
  rw [segs,h1,h2]
  rfl
theorem segs_at {p:UInt8→Bool} {c:UInt8} (hc:p c=true) (b:TT):∀ {a:TT},(∀ d∈a,p d=false)→segs p (a++c :: b)=a :: segs p b
 | [],_=>by rw [List.nil_append,segs,hc];rfl
 | d :: a,h=>by
  have h1:=h d (by simp)
  have h2:=segs_at hc b (a:=a) fun e he=>h e (by simp [he])
  rw [List.cons_append,segs,h1,h2]
  rfl
theorem segs_free {p:UInt8→Bool}:∀ {s:TT} {x:TT},x∈segs p s→∀ c∈x,p c=false
 | [],x,h,c,hc=>by
  rw [segs,List.mem_singleton] at h
  subst h
  cases hc
 | d :: s,x,h,c,hc=>by
  obtain⟨y,r,h1,h2⟩:=segs_cons p d s
  rw [h2] at h
  split at h
  ·rcases List.mem_cons.1 h with rfl | h
   ·cases hc
   ·exact segs_free (s:=s) (by rw [h1];exact h) c hc
  ·rename_i hd
   rcases List.mem_cons.1 h with rfl | h
   ·rcases List.mem_cons.1 hc with rfl | hc
    ·simpa using hd
    ·exact segs_free (s:=s) (x:=y) (by rw [h1];simp) c hc
   ·exact segs_free (s:=s) (by rw [h1];simp [h]) c hc
theorem segs_len (p:UInt8→Bool):∀ s:TT,(segs p s).length≤s.length+1
 | []=>by simp [segs]
 | c :: s=>by
  obtain⟨y,r,h1,h2⟩:=segs_cons p c s
  have ih:=segs_len p s
  rw [h1] at ih
  rw [h2]
  split <;> simp at ih ⊢ <;> omega
theorem segs_le (p:UInt8→Bool):∀ {s x:TT},x∈segs p s→x.length≤s.length
 | [],x,h=>by
  rw [segs,List.mem_singleton] at h
  subst h
  simp
 | c :: s,x,h=>by
  obtain⟨y,r,h1,h2⟩:=segs_cons p c s
  rw [h2] at h
  have h3:∀ z∈y :: r,z.length≤s.length:=fun z hz=>segs_le p (by rw [h1];exact hz)
  split at h
  ·rcases List.mem_cons.1 h with rfl | h
   ·simp
   ·have:=h3 x h;simp;omega
  ·rcases List.mem_cons.1 h with rfl | h
   ·have:=h3 y (by simp);simp;omega
   ·have:=h3 x (by simp [h]);simp;omega
theorem linesT_nil:linesT []=[]:=rfl
theorem linesT_end (s:TT):linesT (s++[10])=segs (· == 10) s:=by
 rw [linesT,if_neg (by simp),if_pos (by simp),List.dropLast_concat]
theorem linesT_open {s:TT} (h:s≠[]) (hl:s.getLast?≠some 10):linesT s=segs (· == 10) s:=by
 rw [linesT,if_neg h,if_neg hl]
theorem linesT_len (s:TT):(linesT s).length≤s.length+1:=by
 rw [linesT]
 split
 ·simp
 ·split
  ·have:=segs_len (· == 10) s.dropLast
   rw [List.length_dropLast] at this
   omega
  ·exact segs_len _ s
theorem linesT_le {s x:TT} (h:x∈linesT s):x.length≤s.length:=by
 rw [linesT] at h
 split at h
 ·cases h
 ·split at h
  ·have:=segs_le _ h
   rw [List.length_dropLast] at this
   omega
  ·exact segs_le _ h
theorem linesT_one {a:TT} (h0:a≠[]) (h:∀ c∈a,c≠10):linesT a=[a]:=by
 have hl:a.getLast?≠some 10:=fun e=>h 10 (List.mem_of_getLast? e) rfl
 rw [linesT_open h0 hl]
 exact segs_no fun c hc=>by simpa using h c hc
theorem linesT_at {a:TT} (h:∀ c∈a,c≠10) (b:TT):linesT (a++10 :: b)=a :: linesT b:=by
 have hf:∀ d∈a,(d == 10)=false:=fun d hd=>by simpa using h d hd
 rcases List.eq_nil_or_concat b with rfl | ⟨b',x,rfl⟩
 ·rw [linesT_end,segs_no hf]
  rfl
 ·rw [List.concat_eq_append]
  have e1:a++10 :: (b'++[x])=(a++10 :: b')++[x]:=by simp
  by_cases hx:x=10
  ·subst hx
   rw [e1,linesT_end,linesT_end,segs_at (by simp) b' hf]
  ·have hl1:((a++10 :: b')++[x]).getLast?≠some 10:=by rw [List.getLast?_concat];simpa using hx
   have hl2:(b'++[x]).getLast?≠some 10:=by simpa using hx
   rw [e1,linesT_open (by simp) hl1,linesT_open (by simp) hl2,← e1,segs_at (by simp) (b'++[x]) hf]
theorem wordsT_nil:wordsT []=[]:=rfl
theorem wordsT_blank {c:UInt8} (h:isB c=true) (s:TT):wordsT (c :: s)=wordsT s:=by
 rw [wordsT,wordsT,segs,h]
 rfl
theorem wordsT_one {a:TT} (h0:a≠[]) (h:∀ c∈a,isB c=false):wordsT a=[a]:=by
 rw [wordsT,segs_no h]
 simp [h0]
theorem wordsT_at {a:TT} (h0:a≠[]) (h:∀ c∈a,isB c=false) {c:UInt8} (hc:isB c=true) (b:TT):wordsT (a++c :: b)=a :: wordsT b:=by
 rw [wordsT,segs_at hc b h,List.filter_cons]
 simp [h0,wordsT]
theorem wordsT_mem {s x:TT} (h:x∈wordsT s):x≠[]∧(∀ c∈x,isB c=false)∧x.length≤s.length:=by
 rw [wordsT,List.mem_filter] at h
 exact⟨by simpa using h.2,segs_free h.1,segs_le _ h.1⟩
theorem wordsT_len (s:TT):(wordsT s).length≤s.length+1:=Nat.le_trans (List.length_filter_le _ _) (segs_len _ s)
end Go.Proofs.YtnecjdhamohadaaGreatDoor
namespace Go.Proofs.YtnecjdhamohadaaGreatDoor
open Go.Lib
abbrev kRead:TT:=[114,101,97,100]
abbrev kTry:TT:=[116,114,121]
abbrev kWrite:TT:=[119,114,105,116,101]
abbrev kScan:TT:=[115,99,97,110]
abbrev kEnv:TT:=[101,110,118]
abbrev kKeep:TT:=[107,101,101,112]
abbrev kNeed:TT:=[110,101,101,100]
abbrev kSort:TT:=[115,111,114,116]
abbrev kUniq:TT:=[117,110,105,113]
abbrev kUpper:TT:=[117,112,112,101,114]
abbrev kCount:TT:=[99,111,117,110,116]
abbrev kFail:TT:=[102,97,105,108]
abbrev kText:TT:=[116,101,120,116]
structure CmdE where
 ws:List TT
 rest:TT
def behindT (s:TT):TT:=((s.dropWhile isB).dropWhile fun c=>!isB c).drop 1
def takesT (n:TT):Nat × Bool :=
 if n=kRead∨n=kTry∨n=kWrite then (2,true)
 else if n=kScan then (3,true)
 else if n=kEnv∨n=kKeep∨n=kNeed then (2,false)
 else if n=kSort∨n=kUniq∨n=kUpper∨n=kCount∨n=kFail then (1,false)
 else (0,false)
def readC (may:TT→Bool) (s:TT):Option (Option CmdE):=match wordsT s with
 | []=>some none
 | w :: r =>
  if w.head?=some 35 then some none
  else if w=kText then some (some ⟨[w],behindT s⟩)
  else if (takesT w).1≠r.length+1∨(takesT w).1=0∨((takesT w).2=true∧may (r.headD [])=false) then none
  else some (some ⟨w :: r,[]⟩)
def cmdsL (may:TT→Bool):List TT→Nat→List CmdE→List CmdE × Nat × Nat
 | [],_,out=>(out,0,0)
 | s :: l,i,out=>match readC may s with
  | none=>([],3,i+1)
  | some none=>cmdsL may l (i+1) out
  | some (some c)=>cmdsL may l (i+1) (out++[c])
def cmdsT (may:TT→Bool) (text:TT):List CmdE × Nat × Nat :=
 if 65536 < text.length∨400 < (linesT text).length then ([],6,0) else cmdsL may (linesT text) 0 []
structure KE where
 path:TT
 is:Bool
 data:TT
structure DE where
 kind:Nat
 path:TT
 data:TT
 why:Nat
def DE.none:DE:=⟨0,[],[],0⟩
inductive ThenE where
 | add
 | try_
 | scan (w:TT)
inductive TaskE where
 | cmd (c:CmdE)
 | ans (p:TT) (th:ThenE)
 | line (s w:TT)
structure PS where
 todo:List TaskE
 buf:TT
 known:List (TT × KE)
 asks:TT
 waits:Bool
 over:DE
 seen:List TT
def PS.fail (s:PS) (why:Nat):PS:={ s with over:=⟨4,[],[],why⟩ }
def PS.add (s:PS) (t:TT):PS:=if 65536 < s.buf.length+t.length then s.fail 6 else { s with buf:=s.buf++t }
def PS.then_ (s:PS) (th:ThenE) (k:KE):PS:=match th with
 | .add=>if k.is then s.add k.data else s.fail 10
 | .try_=>if k.is then s.add k.data else s
 | .scan w=>if k.is then { s with todo:=(linesT k.data).map (TaskE.line · w)++s.todo } else s.fail 10
def wholeT (l:List TT):TT:=l.flatMap (·++[10])
def hasT (line w:TT):Bool:=Lib.contains line w
def upT (b:TT):TT:=b.map fun c=>if 97≤c.toNat∧c.toNat≤122 then c - 32 else c
def uniqT (l:List TT):List TT:=Lib.compact l
def PS.setLines (s:PS) (l:List TT):PS:=PS.add { s with buf:=[] } (wholeT l)
def PS.turn (s:PS) (name arg:TT) (l:List TT):PS :=
 if name=kSort then s.setLines (sortT l)
 else if name=kUniq then s.setLines (uniqT l)
 else if name=kUpper then { s with buf:=upT s.buf }
 else if name=kCount then { s with buf:=decDigits l.length++[10] }
 else if name=kKeep then s.setLines (l.filter (hasT · arg))
 else s
def getK (t:List (TT × KE)) (p:TT):Option KE:=(t.find? fun x=>x.1 == p).map (·.2)
structure Env where
 may:TT→Bool
 env:List (TT × TT)
def PS.ask (s:PS) (p:TT) (th:ThenE):PS:=match getK s.known p with
 | some k=>s.then_ th k
 | none=>if 500≤s.known.length then s.fail 6 else { s with asks:=p,waits:=true,todo:=.ans p th :: s.todo }
def PS.scan (s:PS) (p w:TT):PS:=PS.ask { s with seen:=p :: s.seen } p (.scan w)
def PS.do_ (v:Env) (s:PS) (c:CmdE):PS :=
 let name:=c.ws.headD []
 let arg:=(c.ws.drop 1).headD []
 if name=kRead then s.ask arg .add
 else if name=kTry then s.ask arg .try_
 else if name=kScan then PS.scan { s with seen:=[] } arg ((c.ws.drop 2).headD [])
 else if name=kText then s.add (c.rest++[10])
 else if name=kEnv then (match v.env.find? fun x=>x.1 == arg with
  | none=>s.fail 10
  | some x=>s.add x.2)
 else if name=kWrite then { s with over:=⟨2,arg,s.buf,0⟩,buf:=[] }
 else if name=kNeed then (if (linesT s.buf).any (hasT · arg) then s else s.fail 15)
 else if name=kFail then s.fail 15
 else s.turn name arg (linesT s.buf)
def PS.line (v:Env) (s:PS) (x w:TT):PS:=match wordsT x with
 | [a,b]=>if a=w∧v.may b=true then (if b∈s.seen then s else s.scan b w) else s.add (x++[10])
 | _=>s.add (x++[10])
def PS.task (v:Env) (s:PS):TaskE→PS
 | .cmd c=>s.do_ v c
 | .ans p th=>s.then_ th ((getK s.known p).getD ⟨[],false,[]⟩)
 | .line x w=>s.line v x w
def PS.step (v:Env) (s:PS):PS :=
 if s.over.kind≠0∨s.waits=true then s else match s.todo with
  | []=>{ s with over:=⟨3,[],[],0⟩ }
  | t :: r=>PS.task v { s with todo:=r } t
def PS.run (v:Env):Nat→PS→PS
 | 0,s=>s
 | n+1,s=>PS.run v n (s.step v)
def PS.Still (s:PS):Prop:=s.over.kind≠0∨s.waits=true
theorem PS.step_still {v:Env} {s:PS} (h:s.Still):s.step v=s:=by
 unfold PS.Still at h
 rw [PS.step,if_pos h]
theorem PS.run_still {v:Env} {s:PS} (h:s.Still):∀ n,s.run v n=s
 | 0=>rfl
 | n+1=>by rw [PS.run,PS.step_still h,PS.run_still h n]
end Go.Proofs.YtnecjdhamohadaaGreatDoor
namespace Go.Proofs.YtnecjdhamohadaaGreatDoor
open Go.Lib
def ansU (U:List KE) (p:TT):KE:=(U.find? fun x=>x.path == p).getD ⟨p,false,[]⟩
def wL (U:List KE) (p:TT):Nat:=(linesT (ansU U p).data).length
def uW (U:List KE) (u:KE):Nat:=2 * wL U u.path+2
def unseen (U:List KE) (seen:List TT):Nat:=((U.filter fun u=>!decide (u.path∈seen)).map (uW U)).sum
def allU (U:List KE):Nat:=(U.map (uW U)).sum
def wTask (U:List KE):TaskE→Nat
 | .cmd _=>allU U+3
 | .ans p (.scan _)=>1+2 * wL U p
 | .ans _ _=>1
 | .line _ _=>2
def pot (U:List KE) (s:PS):Nat:=(s.todo.map (wTask U)).sum+unseen U s.seen
def Agree (U:List KE) (s:PS):Prop:=∀ p k,getK s.known p=some k→k.is=true→k.data=(ansU U p).data
theorem sum_filter_le (U:List KE) (f:KE→Nat) (q:KE→Bool):∀ L:List KE,((L.filter q).map f).sum≤(L.map f).sum
 | []=>by simp
 | u :: L=>by
  have ih:=sum_filter_le U f q L
  rw [List.filter_cons]
  split <;> simp <;> omega
theorem unseen_le (U:List KE) (seen:List TT):unseen U seen≤allU U:=sum_filter_le U _ _ U
theorem unseen_more (U:List KE) (seen:List TT) (p:TT) (hp:p ∉ seen):unseen U (p :: seen)+2 * wL U p≤unseen U seen:=by
 by_cases hu:∃ u∈U,u.path=p
 ·obtain⟨u,hu,rfl⟩:=hu
  have key:∀ L:List KE,u∈L→((L.filter fun x=>!decide (x.path∈u.path :: seen)).map (uW U)).sum+uW U u≤((L.filter fun x=>!decide (x.path∈seen)).map (uW U)).sum:=by
   intro L
   have low:∀ L:List KE,((L.filter fun x=>!decide (x.path∈u.path :: seen)).map (uW U)).sum≤((L.filter fun x=>!decide (x.path∈seen)).map (uW U)).sum:=by
    intro L
    induction L with
    | nil=>simp
    | cons x L ih =>
     rw [List.filter_cons,List.filter_cons]
     by_cases h1:x.path∈seen
     ·rw [if_neg (by simp [h1]),if_neg (by simp [h1])]
      exact ih
     ·by_cases h2:x.path=u.path
      ·rw [if_neg (by simp [h2]),if_pos (by simp [h1])]
       simp only [List.map_cons,List.sum_cons]
       omega
      ·rw [if_pos (by simp [h1,h2]),if_pos (by simp [h1])]
       simp only [List.map_cons,List.sum_cons]
       omega
   induction L with
   | nil=>intro h;cases h
   | cons x L ih =>
    intro h
    rw [List.filter_cons,List.filter_cons]
    rcases List.mem_cons.1 h with rfl | h
    ·rw [if_neg (by simp),if_pos (by simp [hp])]
     simp only [List.map_cons,List.sum_cons]
     have:=low L
     omega
    ·have ih:=ih h
     by_cases h1:x.path∈seen
     ·rw [if_neg (by simp [h1]),if_neg (by simp [h1])]
      exact ih
     ·by_cases h2:x.path=u.path
      ·rw [if_neg (by simp [h2]),if_pos (by simp [h1])]
       simp only [List.map_cons,List.sum_cons]
       omega
      ·rw [if_pos (by simp [h1,h2]),if_pos (by simp [h1])]
       simp only [List.map_cons,List.sum_cons]
       omega
  have:=key U hu
  unfold unseen
  unfold uW at this ⊢
  omega
 ·have h0:wL U p=0:=by
   rw [wL,ansU]
   have:(U.find? fun x=>x.path == p)=none:=by
    rw [List.find?_eq_none]
    intro x hx e
    exact hu ⟨x,hx,by simpa using e⟩
   rw [this]
   rfl
  have h1:(U.filter fun u=>!decide (u.path∈p :: seen))=U.filter fun u=>!decide (u.path∈seen):=by
   apply List.filter_congr
   intro x hx
   have:x.path≠p:=fun e=>hu ⟨x,hx,e⟩
   simp [this]
  rw [unseen,unseen,h1,h0]
  omega
theorem pot_fail (U:List KE) (s:PS) (y:Nat):pot U (s.fail y)=pot U s:=rfl
theorem pot_add (U:List KE) (s:PS) (t:TT):pot U (s.add t)=pot U s:=by
 unfold PS.add
 split <;> rfl
theorem pot_set (U:List KE) (s:PS) (l:List TT):pot U (s.setLines l)=pot U s:=by
 unfold PS.setLines
 rw [pot_add]
 rfl
theorem pot_turn (U:List KE) (s:PS) (n a:TT) (l:List TT):pot U (s.turn n a l)=pot U s:=by
 unfold PS.turn
 repeat' split
 all_goals first
  | exact pot_set U s _
  | rfl
theorem sum_lines (U:List KE) (w:TT) (L:List TT) (r:List TaskE):((L.map (TaskE.line · w)++r).map (wTask U)).sum=2 * L.length+(r.map (wTask U)).sum:=by
 induction L with
 | nil=>simp
 | cons x L ih =>
  simp only [List.map_cons,List.cons_append,List.sum_cons,List.length_cons] at ih ⊢
  rw [ih]
  simp only [wTask]
  omega
def thenW (U:List KE) (p:TT):ThenE→Nat
 | .scan _=>2 * wL U p
 | _=>0
theorem pot_then {U:List KE} (s:PS) {p:TT} (th:ThenE) {k:KE} (hk:k.is=true→k.data=(ansU U p).data):pot U (s.then_ th k)≤pot U s+thenW U p th:=by
 cases th with
 | add =>
  unfold PS.then_
  simp only
  split
  ·rw [pot_add];exact Nat.le_add_right _ _
  ·exact Nat.le_add_right _ _
 | try_ =>
  unfold PS.then_
  simp only
  split
  ·rw [pot_add];exact Nat.le_add_right _ _
  ·exact Nat.le_add_right _ _
 | scan w =>
  unfold PS.then_
  simp only
  split
  ·rename_i hi
   unfold pot
   simp only
   rw [sum_lines,hk hi]
   show _≤_+2 * wL U p
   unfold wL
   omega
  ·exact Nat.le_add_right _ _
theorem wTask_ans (U:List KE) (p:TT) (th:ThenE):wTask U (.ans p th)=1+thenW U p th:=by cases th <;> rfl
theorem pot_ask {U:List KE} {s:PS} (hs:Agree U s) (p:TT) (th:ThenE):pot U (s.ask p th)≤pot U s+1+thenW U p th:=by
 unfold PS.ask
 split
 ·rename_i k hk
  have:=pot_then s th (hs p k hk)
  omega
 ·split
  ·rw [pot_fail];omega
  ·unfold pot
   simp only [List.map_cons,List.sum_cons,wTask_ans]
   omega
theorem pot_scan {U:List KE} {s:PS} (hs:Agree U s) (p w:TT) (hp:p ∉ s.seen):pot U (s.scan p w)≤pot U s+1:=by
 have h1:=pot_ask (s:={ s with seen:=p :: s.seen }) (U:=U) hs p (.scan w)
 have h2:=unseen_more U s.seen p hp
 unfold PS.scan
 simp only [thenW] at h1
 refine Nat.le_trans h1 ?_
 unfold pot
 simp only
 omega
theorem pot_scan0 {U:List KE} {s:PS} (hs:Agree U s) (p w:TT):pot U (PS.scan { s with seen:=[] } p w)≤pot U s+allU U+1:=by
 have h1:=pot_scan (s:={ s with seen:=[] }) (U:=U) hs p w (by simp)
 refine Nat.le_trans h1 ?_
 have:=unseen_le U []
 unfold pot
 simp only
 omega
theorem pot_do {U:List KE} {s:PS} (hs:Agree U s) (v:Env) (c:CmdE):pot U (s.do_ v c)≤pot U s+allU U+1:=by
 have ha:∀ p th,thenW U p th=0→pot U (s.ask p th)≤pot U s+allU U+1:=fun p th h0=>by
  have:=pot_ask hs p th
  omega
 have hadd:∀ t,pot U (s.add t)≤pot U s+allU U+1:=fun t=>by rw [pot_add];omega
 have hf:∀ y,pot U (s.fail y)≤pot U s+allU U+1:=fun y=>by rw [pot_fail];omega
 unfold PS.do_
 simp only
 repeat' split
 all_goals first
  | exact ha _ _ rfl
  | exact hadd _
  | exact hf _
  | exact pot_scan0 hs _ _
  | (rw [pot_turn];omega)
  | (show pot U s≤_;omega)
theorem pot_line {U:List KE} {s:PS} (hs:Agree U s) (v:Env) (x w:TT):pot U (s.line v x w)≤pot U s+1:=by
 unfold PS.line
 split
 ·split
  ·split
   ·omega
   ·rename_i h
    exact pot_scan hs _ _ h
  ·rw [pot_add];omega
 ·rw [pot_add];omega
theorem pot_task {U:List KE} {s:PS} (hs:Agree U s) (v:Env) (t:TaskE) (ht:∀ p th,t = .ans p th→(getK s.known p).isSome=true):pot U (s.task v t)+1≤pot U s+wTask U t:=by
 cases t with
 | cmd c =>
  have:=pot_do hs v c
  simp only [PS.task,wTask]
  omega
 | ans p th =>
  have h0:=ht p th rfl
  obtain⟨k,hk⟩:=Option.isSome_iff_exists.1 h0
  simp only [PS.task]
  rw [hk,wTask_ans]
  have:=pot_then s th (hs p k hk)
  simp only [Option.getD_some]
  omega
 | line x w =>
  have:=pot_line hs v x w
  simp only [PS.task,wTask]
  omega
def Pend (s:PS):Prop:=∀ p th,TaskE.ans p th∈s.todo→(getK s.known p).isSome=true∨(s.waits=true∧s.asks=p)
theorem add_same (s:PS) (t:TT):(s.add t).todo=s.todo∧(s.add t).known=s.known∧(s.add t).waits=s.waits∧(s.add t).asks=s.asks∧(s.add t).seen=s.seen:=by
 unfold PS.add
 split <;> exact⟨rfl,rfl,rfl,rfl,rfl⟩
theorem set_same (s:PS) (l:List TT):(s.setLines l).todo=s.todo∧(s.setLines l).known=s.known∧(s.setLines l).waits=s.waits∧(s.setLines l).asks=s.asks∧(s.setLines l).seen=s.seen:=by
 unfold PS.setLines
 exact add_same _ _
theorem turn_same (s:PS) (n a:TT) (l:List TT):(s.turn n a l).todo=s.todo∧(s.turn n a l).known=s.known∧(s.turn n a l).waits=s.waits∧(s.turn n a l).asks=s.asks∧(s.turn n a l).seen=s.seen:=by
 unfold PS.turn
 repeat' split
 all_goals first
  | exact set_same s _
  | exact⟨rfl,rfl,rfl,rfl,rfl⟩
def Grows (s s':PS):Prop:=s'.known=s.known∧((∃ (L:List TT) (w:TT),s'.todo=L.map (TaskE.line · w)++s.todo∧s'.waits=s.waits∧s'.asks=s.asks)∨(∃ p th,s'.todo = .ans p th :: s.todo∧s'.waits=true∧s'.asks=p∧getK s.known p=none∧s.known.length < 500∧s'.over=s.over))
theorem Grows.same {s s':PS} (h:s'.todo=s.todo∧s'.known=s.known∧s'.waits=s.waits∧s'.asks=s.asks):Grows s s':=⟨h.2.1,.inl ⟨[],[],h.1,h.2.2.1,h.2.2.2⟩⟩
theorem grows_add (s:PS) (t:TT):Grows s (s.add t):=by
 obtain⟨h1,h2,h3,h4,_⟩:=add_same s t
 exact .same ⟨h1,h2,h3,h4⟩
theorem grows_fail (s:PS) (y:Nat):Grows s (s.fail y):=.same ⟨rfl,rfl,rfl,rfl⟩
theorem grows_then (s:PS) (th:ThenE) (k:KE):Grows s (s.then_ th k):=by
 cases th <;> unfold PS.then_ <;> simp only <;> split
 ·exact grows_add s _
 ·exact grows_fail s _
 ·exact grows_add s _
 ·exact .same ⟨rfl,rfl,rfl,rfl⟩
 ·exact⟨rfl,.inl ⟨_,_,rfl,rfl,rfl⟩⟩
 ·exact grows_fail s _
theorem grows_ask (s:PS) (p:TT) (th:ThenE):Grows s (s.ask p th):=by
 unfold PS.ask
 split
 ·exact grows_then s th _
 ·rename_i h
  split
  ·exact grows_fail s _
  ·exact⟨rfl,.inr ⟨p,th,rfl,rfl,rfl,h,by omega,rfl⟩⟩
theorem grows_scan (s:PS) (p w:TT):Grows s (s.scan p w):=by
 have:=grows_ask { s with seen:=p :: s.seen } p (.scan w)
 exact this
theorem grows_task (s:PS) (v:Env) (t:TaskE):Grows s (s.task v t):=by
 cases t with
 | cmd c =>
  unfold PS.task PS.do_
  simp only
  have hturn:∀ n a l,Grows s (s.turn n a l):=fun n a l=>by
   obtain⟨h1,h2,h3,h4,_⟩:=turn_same s n a l
   exact .same ⟨h1,h2,h3,h4⟩
  repeat' split
  all_goals first
   | exact grows_ask s _ _
   | exact grows_add s _
   | exact grows_fail s _
   | exact grows_scan { s with seen:=[] } _ _
   | exact hturn _ _ _
   | exact .same ⟨rfl,rfl,rfl,rfl⟩
 | ans p th=>exact grows_then s th _
 | line x w =>
  unfold PS.task PS.line
  simp only
  repeat' split
  all_goals first
   | exact grows_scan s _ _
   | exact grows_add s _
   | exact .same ⟨rfl,rfl,rfl,rfl⟩
theorem Pend.task {s:PS} {t:TaskE} {r:List TaskE} (h:Pend s) (hw:s.waits=false) (ht:s.todo=t :: r) (v:Env):Pend (PS.task v { s with todo:=r } t):=by
 obtain⟨h1,h2⟩:=grows_task { s with todo:=r } v t
 have hr:∀ p th,TaskE.ans p th∈r→(getK s.known p).isSome=true:=fun p th hm=>by
  rcases h p th (by rw [ht];exact List.mem_cons_of_mem _ hm) with h | h
  ·exact h
  ·rw [hw] at h;cases h.1
 intro p th hm
 rw [h1]
 rcases h2 with ⟨L,w,e,_,_⟩ | ⟨q,th',e,e1,e2,_⟩
 ·rw [e,List.mem_append] at hm
  rcases hm with hm | hm
  ·obtain⟨x,_,hx⟩:=List.mem_map.1 hm
   cases hx
  ·exact .inl (hr p th hm)
 ·rw [e] at hm
  rcases List.mem_cons.1 hm with hm | hm
  ·cases hm
   exact .inr ⟨e1,e2⟩
  ·exact .inl (hr p th hm)
theorem not_still {s:PS} (h:¬ s.Still):s.over.kind=0∧s.waits=false:=by
 unfold PS.Still at h
 rw [not_or] at h
 exact⟨by simpa using h.1,by simpa using h.2⟩
theorem step_nil {v:Env} {s:PS} (h:¬ s.Still) (ht:s.todo=[]):s.step v={ s with over:=⟨3,[],[],0⟩ }:=by
 unfold PS.Still at h
 rw [PS.step,if_neg h,ht]
theorem step_cons {v:Env} {s:PS} (h:¬ s.Still) {t:TaskE} {r:List TaskE} (ht:s.todo=t :: r):s.step v=PS.task v { s with todo:=r } t:=by
 unfold PS.Still at h
 rw [PS.step,if_neg h,ht]
structure Good (U:List KE) (s:PS):Prop where
 agree:Agree U s
 pend:Pend s
theorem Good.step {U:List KE} {s:PS} (h:Good U s) (v:Env):Good U (s.step v)∧pot U (s.step v)≤pot U s∧(¬ s.Still→(s.step v).Still∨pot U (s.step v) < pot U s):=by
 by_cases hs:s.Still
 ·rw [PS.step_still hs]
  exact⟨h,Nat.le_refl _,fun hn=>absurd hs hn⟩
 ·obtain⟨h0,hw⟩:=not_still hs
  cases ht:s.todo with
  | nil =>
   rw [step_nil hs ht]
   exact⟨⟨h.agree,h.pend⟩,Nat.le_refl _,fun _=>.inl (.inl (by simp))⟩
  | cons t r =>
   rw [step_cons hs ht]
   have hp:pot U (PS.task v { s with todo:=r } t)+1≤pot U s:=by
    have:=pot_task (U:=U) (s:={ s with todo:=r }) h.agree v t (fun p th e=>by
     subst e
     rcases h.pend p th (by rw [ht];simp) with h | h
     ·exact h
     ·rw [hw] at h;cases h.1)
    refine Nat.le_trans this ?_
    unfold pot
    simp only [ht,List.map_cons,List.sum_cons]
    omega
   refine⟨⟨fun p k hk=>?_,h.pend.task hw ht v⟩,by omega,fun _=>.inr (by omega)⟩
   rw [(grows_task { s with todo:=r } v t).1] at hk
   exact h.agree p k hk
theorem Good.run {U:List KE} {v:Env}:∀ (n:Nat) {s:PS},Good U s→Good U (s.run v n)∧pot U (s.run v n)≤pot U s
 | 0,_,h=>⟨h,Nat.le_refl _⟩
 | n+1,s,h=>by
  obtain⟨h1,h2,_⟩:=h.step v
  obtain⟨h3,h4⟩:=Good.run n h1
  exact⟨h3,Nat.le_trans h4 h2⟩
theorem Good.stands {U:List KE} {v:Env}:∀ (m:Nat) {s:PS},Good U s→pot U s≤m→∃ n,(s.run v n).Still
 | m,s,h,hm=>by
  by_cases hs:s.Still
  ·exact⟨0,hs⟩
  ·obtain⟨h1,h2,h3⟩:=h.step v
   rcases h3 hs with h4 | h4
   ·exact⟨1,h4⟩
   ·cases m with
    | zero=>omega
    | succ m =>
     obtain⟨n,hn⟩:=Good.stands m h1 (by omega)
     exact⟨n+1,hn⟩
theorem Good.todo_le {U:List KE} {s:PS} (_:Good U s):s.todo.length≤pot U s:=by
 have:∀ l:List TaskE,l.length≤(l.map (wTask U)).sum:=by
  intro l
  induction l with
  | nil=>simp
  | cons t l ih =>
   have:1≤wTask U t:=by
    cases t with
    | cmd _=>simp only [wTask];omega
    | ans p th=>rw [wTask_ans];omega
    | line _ _=>simp only [wTask];omega
   simp only [List.length_cons,List.map_cons,List.sum_cons]
   omega
 have:=this s.todo
 unfold pot
 omega
end Go.Proofs.YtnecjdhamohadaaGreatDoor
namespace Go.Proofs.YtnecjdhamohadaaGreatDoor
open Go.Lib
def CmdOk (c:CmdE):Prop:=c.ws≠[]∧c.ws.length≤1000000∧(∀ x∈c.ws,x.length≤1000000)∧c.rest.length≤1000000
def ThenOk:ThenE→Prop
 | .scan w=>w.length≤1000000
 | _=>True
def TaskOk:TaskE→Prop
 | .cmd c=>CmdOk c
 | .ans p th=>p.length≤1000000∧ThenOk th
 | .line x w=>x.length≤1000000∧w.length≤1000000
structure Lim (s:PS):Prop where
 buf:s.buf.length≤65536
 tasks:∀ t∈s.todo,TaskOk t
 datas:∀ p k,getK s.known p=some k→k.is=true→k.data.length≤1000000
 seens:∀ p∈s.seen,p.length≤1000000
 asks:s.asks.length≤1000000
 less:s.known.length≤500
theorem dec_short (n:Nat) (h:n < 10 ^ 20):(decDigits n).length≤20:=dec_len 19 n h
theorem Lim.fail {s:PS} (h:Lim s) (y:Nat):Lim (s.fail y):=⟨h.buf,h.tasks,h.datas,h.seens,h.asks,h.less⟩
theorem Lim.add {s:PS} (h:Lim s) (t:TT):Lim (s.add t):=by
 unfold PS.add
 split
 ·exact h.fail 6
 ·refine⟨?_,h.tasks,h.datas,h.seens,h.asks,h.less⟩
  simp only [List.length_append]
  omega
theorem Lim.buffer {s:PS} (h:Lim s) {b:TT} (hb:b.length≤65536):Lim { s with buf:=b }:=⟨hb,h.tasks,h.datas,h.seens,h.asks,h.less⟩
theorem Lim.setLines {s:PS} (h:Lim s) (l:List TT):Lim (s.setLines l):=(h.buffer (b:=[]) (by simp)).add _
theorem Lim.turn {s:PS} (h:Lim s) (n a:TT) (l:List TT) (hl:l.length < 10 ^ 20):Lim (s.turn n a l):=by
 unfold PS.turn
 repeat' split
 ·exact h.setLines _
 ·exact h.setLines _
 ·exact h.buffer (by rw [upT,List.length_map];exact h.buf)
 ·refine h.buffer ?_
  have:=dec_short l.length hl
  rw [List.length_append,List.length_singleton]
  omega
 ·exact h.setLines _
 ·exact h
theorem Lim.then_ {s:PS} (h:Lim s) {th:ThenE} (hth:ThenOk th) {k:KE} (hk:k.is=true→k.data.length≤1000000):Lim (s.then_ th k):=by
 cases th <;> unfold PS.then_ <;> simp only <;> split
 ·exact h.add _
 ·exact h.fail _
 ·exact h.add _
 ·exact h
 ·rename_i w hi
  refine⟨h.buf,fun t ht=>?_,h.datas,h.seens,h.asks,h.less⟩
  rcases List.mem_append.1 ht with ht | ht
  ·obtain⟨x,hx,rfl⟩:=List.mem_map.1 ht
   exact⟨Nat.le_trans (linesT_le hx) (hk hi),hth⟩
  ·exact h.tasks t ht
 ·exact h.fail _
theorem Lim.ask {s:PS} (h:Lim s) {p:TT} (hp:p.length≤1000000) {th:ThenE} (hth:ThenOk th):Lim (s.ask p th):=by
 unfold PS.ask
 split
 ·rename_i k hk
  exact h.then_ hth (h.datas p k hk)
 ·split
  ·exact h.fail _
  ·refine⟨h.buf,fun t ht=>?_,h.datas,h.seens,hp,h.less⟩
   rcases List.mem_cons.1 ht with rfl | ht
   ·exact⟨hp,hth⟩
   ·exact h.tasks t ht
theorem Lim.scan {s:PS} (h:Lim s) {p w:TT} (hp:p.length≤1000000) (hw:w.length≤1000000):Lim (s.scan p w):=by
 refine Lim.ask (s:={ s with seen:=p :: s.seen }) ⟨h.buf,h.tasks,h.datas,fun q hq=>?_,h.asks,h.less⟩ hp (th:=.scan w) hw
 rcases List.mem_cons.1 hq with rfl | hq
 ·exact hp
 ·exact h.seens q hq
theorem headD_ok {l:List TT} (h:∀ x∈l,x.length≤1000000):(l.headD []).length≤1000000:=by
 cases l with
 | nil=>simp
 | cons x l=>exact h x (by simp)
theorem Lim.do_ {s:PS} (h:Lim s) (v:Env) {c:CmdE} (hc:CmdOk c):Lim (s.do_ v c):=by
 obtain⟨_,_,h1,h2⟩:=hc
 have ha:((c.ws.drop 1).headD []).length≤1000000:=headD_ok fun x hx=>h1 x (List.mem_of_mem_drop hx)
 have hb:((c.ws.drop 2).headD []).length≤1000000:=headD_ok fun x hx=>h1 x (List.mem_of_mem_drop hx)
 have hl:(linesT s.buf).length < 10 ^ 20:=by
  have:=linesT_len s.buf
  have:=h.buf
  omega
 have h0:Lim { s with seen:=[] }:=⟨h.buf,h.tasks,h.datas,by simp,h.asks,h.less⟩
 unfold PS.do_
 simp only
 repeat' split
 all_goals first
  | exact h.ask ha (th:=.add) trivial
  | exact h.ask ha (th:=.try_) trivial
  | exact h0.scan ha hb
  | exact h.add _
  | exact h.fail _
  | exact h.turn _ _ _ hl
  | exact h
  | exact h.buffer (b:=[]) (by simp)
  | exact⟨by simp,h.tasks,h.datas,h.seens,h.asks,h.less⟩
theorem Lim.line {s:PS} (h:Lim s) (v:Env) {x w:TT} (hx:x.length≤1000000) (hw:w.length≤1000000):Lim (s.line v x w):=by
 unfold PS.line
 split
 ·rename_i a b hab
  split
  ·split
   ·exact h
   ·refine h.scan ?_ hw
    have:=(wordsT_mem (s:=x) (x:=b) (by rw [hab];simp)).2.2
    omega
  ·exact h.add _
 ·exact h.add _
theorem Lim.task {s:PS} (h:Lim s) (v:Env) {t:TaskE} (ht:TaskOk t):Lim (s.task v t):=by
 cases t with
 | cmd c=>exact h.do_ v ht
 | ans p th =>
  refine h.then_ ht.2 fun hi=>?_
  cases hk:getK s.known p with
  | none=>rw [hk] at hi;cases hi
  | some k=>rw [hk] at hi;exact h.datas p k hk hi
 | line x w=>exact h.line v ht.1 ht.2
theorem Lim.step {s:PS} (h:Lim s) (v:Env):Lim (s.step v):=by
 by_cases hs:s.Still
 ·rw [PS.step_still hs]
  exact h
 ·cases ht:s.todo with
  | nil =>
   rw [step_nil hs ht]
   exact⟨h.buf,h.tasks,h.datas,h.seens,h.asks,h.less⟩
  | cons t r =>
   rw [step_cons hs ht]
   exact Lim.task (s:={ s with todo:=r }) ⟨h.buf,fun u hu=>h.tasks u (by rw [ht];exact List.mem_cons_of_mem _ hu),h.datas,h.seens,h.asks,h.less⟩ v (h.tasks t (by rw [ht];simp))
theorem Lim.run {v:Env}:∀ (n:Nat) {s:PS},Lim s→Lim (s.run v n)
 | 0,_,h=>h
 | n+1,_,h=>Lim.run n (h.step v)
end Go.Proofs.YtnecjdhamohadaaGreatDoor
