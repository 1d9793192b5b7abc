/- A tool as a machine: what it does step by step, answered by what is known, is the document's answer. No program is named. -/
import Derived.Test.YtnecjdhamohadaaGreatDoorPMc
set_option linter.unusedSimpArgs false
set_option linter.unusedVariables false
namespace Go.Proofs.YtnecjdhamohadaaGreatDoor
open Go.Lib
def PS.give (s:PS) (k:KE):PS:={ s with known:=s.known++[(s.asks,k)],asks:=[],waits:=false }
abbrev MS:=PS × List DE
def mstep (v:Env) (O:TT→Option KE) (m:MS):MS :=
  if m.1.over.kind=2 then ({ m.1 with over:=DE.none },m.2++[m.1.over])
  else if m.1.over.kind≠0 then m
  else if m.1.waits=true then (match O m.1.asks with
    | some k=>(m.1.give k,m.2++[⟨1,m.1.asks,[],0⟩])
    | none=>m)
  else (m.1.step v,m.2)
def mrun (v:Env) (O:TT→Option KE):Nat→MS→MS
  | 0,m=>m
  | n+1,m=>mrun v O n (mstep v O m)
theorem mrun_add (v:Env) (O:TT→Option KE):∀ (a b:Nat) (m:MS),mrun v O (a+b) m=mrun v O b (mrun v O a m)
  | 0,b,m=>by rw [Nat.zero_add];rfl
  | a+1,b,m=>by rw [show a+1+b=(a+b)+1 by omega,mrun,mrun,mrun_add v O a b]
def Leads (v:Env) (O:TT→Option KE) (m m':MS):Prop:=∃ n,mrun v O n m=m'
theorem Leads.refl {v:Env} {O:TT→Option KE} (m:MS):Leads v O m m:=⟨0,rfl⟩
theorem Leads.trans {v:Env} {O:TT→Option KE} {a b c:MS} (h:Leads v O a b) (k:Leads v O b c):Leads v O a c:=by
  obtain⟨n,rfl⟩:=h
  obtain⟨m,rfl⟩:=k
  exact⟨n+m,mrun_add v O n m a⟩
theorem Leads.one {v:Env} {O:TT→Option KE} {a b:MS} (h:mstep v O a=b):Leads v O a b:=⟨1,h⟩
structure RS where
  buf:TT
  asked:List TT
  wrote:List DE
  stop:DE
def RS.fail (s:RS) (y:Nat):RS:={ s with stop:=⟨4,[],[],y⟩ }
def RS.add (s:RS) (t:TT):RS:=if 65536 < s.buf.length+t.length then s.fail 6 else { s with buf:=s.buf++t }
def noK:KE:=⟨[],false,[]⟩
def RS.askIn (O:TT→Option KE) (s:RS) (p:TT):RS × KE:=match O p with
  | some k=>(s,k)
  | none=>({ s with stop:=⟨1,p,[],0⟩ },noK)
def RS.ask (O:TT→Option KE) (s:RS) (p:TT):RS × KE :=
  if p∈s.asked then RS.askIn O s p
  else if s.asked.length=500 then (s.fail 6,noK)
  else RS.askIn O { s with asked:=s.asked++[p] } p
def scanL (v:Env) (f:RS→TT→List TT→RS × List TT) (w:TT):List TT→RS→List TT→RS × List TT
  | [],s,d=>(s,d)
  | x :: l,s,d=>if s.stop.kind≠0 then (s,d) else match wordsT x with
    | [a,b]=>if a=w∧v.may b=true then (if b∈d then scanL v f w l s d else scanL v f w l (f s b d).1 (f s b d).2) else scanL v f w l (s.add (x++[10])) d
    | _=>scanL v f w l (s.add (x++[10])) d
def scanF (v:Env) (O:TT→Option KE) (w:TT):Nat→RS→TT→List TT→RS × List TT
  | 0,s,_,d=>(s,d)
  | n+1,s,p,d =>
    if (s.ask O p).1.stop.kind≠0 then ((s.ask O p).1,d++[p])
    else if (s.ask O p).2.is=false then ((s.ask O p).1.fail 10,d++[p])
    else scanL v (fun s b d=>scanF v O w n s b d) w (linesT (s.ask O p).2.data) (s.ask O p).1 (d++[p])
def turnedR (name buf:TT):TT :=
  if name=kSort then wholeT (sortT (linesT buf))
  else if name=kUniq then wholeT (uniqT (linesT buf))
  else if name=kCount then decDigits (linesT buf).length++[10]
  else upT buf
def RS.step (v:Env) (O:TT→Option KE) (N:Nat) (s:RS) (c:CmdE):RS :=
  let name:=c.ws.headD []
  let arg:=(c.ws.drop 1).headD []
  if name=kRead∨name=kTry then
    (if (s.ask O arg).1.stop.kind≠0 then (s.ask O arg).1
     else if (s.ask O arg).2.is=true then (s.ask O arg).1.add (s.ask O arg).2.data
     else if name=kRead then (s.ask O arg).1.fail 10
     else (s.ask O arg).1)
  else if name=kScan then (scanF v O ((c.ws.drop 2).headD []) N s arg []).1
  else if name=kText then s.add (c.rest++[10])
  else if name=kEnv then (match v.env.find? fun x=>x.1 == arg with
    | none=>s.fail 10
    | some x=>s.add x.2)
  else if name=kFail then s.fail 15
  else if name=kNeed then (if (linesT s.buf).any (hasT · arg) then s else s.fail 15)
  else if name=kKeep then RS.add { s with buf:=[] } (wholeT ((linesT s.buf).filter (hasT · arg)))
  else if name=kWrite then { s with wrote:=s.wrote++[⟨2,arg,s.buf,0⟩],buf:=[] }
  else RS.add { s with buf:=[] } (turnedR name s.buf)
def farL (v:Env) (O:TT→Option KE) (N:Nat):List CmdE→RS→RS
  | [],s=>{ s with stop:=⟨3,[],[],0⟩ }
  | c :: l,s=>if (s.step v O N c).stop.kind≠0 then s.step v O N c else farL v O N l (s.step v O N c)
def writesOf (E:List DE):List DE:=E.filter fun d=>d.kind == 2
structure Rel (O:TT→Option KE) (s:PS) (E:List DE) (r:RS):Prop where
  goes:s.over=DE.none
  runs:s.waits=false
  buf:s.buf=r.buf
  asked:s.known.map (·.1)=r.asked
  known:∀ p k,getK s.known p=some k→O p=some k
  wrote:writesOf E=r.wrote
  stop:r.stop.kind=0
  less:s.known.length≤500
  short:s.buf.length≤65536
structure RelStop (O:TT→Option KE) (s:PS) (E:List DE) (r:RS):Prop where
  wrote:writesOf E=r.wrote
  stop:(s.waits=true∧s.over=DE.none∧O s.asks=none∧r.stop=⟨1,s.asks,[],0⟩)∨(s.over=r.stop∧(r.stop.kind=3∨r.stop.kind=4))
theorem getK_iff {t:List (TT × KE)} {p:TT}:(getK t p).isSome=true ↔ p∈t.map (·.1):=by
  unfold getK
  rw [Option.isSome_map,List.find?_isSome]
  constructor
  · rintro⟨x,hx,h⟩
    exact List.mem_map.2 ⟨x,hx,by simpa using h⟩
  · intro h
    obtain⟨x,hx,h⟩:=List.mem_map.1 h
    exact⟨x,hx,by simpa using h⟩
theorem getK_snoc {t:List (TT × KE)} {p:TT} (h:getK t p=none) (k:KE) (q:TT):getK (t++[(p,k)]) q=if q=p then some k else getK t q:=by
  unfold getK at h ⊢
  rw [List.find?_append]
  by_cases hq:q=p
  · subst hq
    rw [if_pos rfl]
    rw [Option.map_eq_none_iff] at h
    rw [h]
    simp
  · rw [if_neg hq]
    have:([(p,k)].find? fun x=>x.1 == q)=none:=by simp [Ne.symm hq]
    rw [this,Option.or_none]
theorem Rel.fail {O:TT→Option KE} {s:PS} {E:List DE} {r:RS} (h:Rel O s E r) (y:Nat):RelStop O (s.fail y) E (r.fail y):=⟨h.wrote,.inr ⟨rfl,.inr rfl⟩⟩
theorem Rel.add {O:TT→Option KE} {s:PS} {E:List DE} {r:RS} (h:Rel O s E r) (t:TT):(Rel O (s.add t) E (r.add t)∧(s.add t).todo=s.todo∧(s.add t).seen=s.seen)∨((r.add t).stop.kind≠0∧RelStop O (s.add t) E (r.add t)):=by
  unfold PS.add RS.add
  rw [h.buf]
  split
  · exact .inr ⟨by simp [RS.fail],h.fail 6⟩
  · refine .inl ⟨⟨h.goes,h.runs,rfl,h.asked,h.known,h.wrote,h.stop,h.less,?_⟩,rfl,rfl⟩
    simp only [List.length_append]
    omega
theorem Rel.todo {O:TT→Option KE} {s:PS} {E:List DE} {r:RS} (h:Rel O s E r) (T:List TaskE) (S:List TT):Rel O { s with todo:=T,seen:=S } E r:=⟨h.goes,h.runs,h.buf,h.asked,h.known,h.wrote,h.stop,h.less,h.short⟩
theorem Rel.not_still {O:TT→Option KE} {s:PS} {E:List DE} {r:RS} (h:Rel O s E r):¬ s.Still:=by
  unfold PS.Still
  rw [h.goes,h.runs]
  simp [DE.none]
theorem mstep_goes {v:Env} {O:TT→Option KE} {s:PS} {E:List DE} (h:¬ s.Still):mstep v O (s,E)=(s.step v,E):=by
  obtain⟨h0,h1⟩:=not_still h
  unfold mstep
  simp [h0,h1]
theorem leads_ask {v:Env} {O:TT→Option KE} {s:PS} {E:List DE} {r:RS} (h:Rel O s E r) (p:TT) (th:ThenE) :
    ((r.ask O p).1.stop.kind=0∧∃ s1 E1,Leads v O (s.ask p th,E) (s1.then_ th (r.ask O p).2,E1)∧Rel O s1 E1 (r.ask O p).1∧s1.todo=s.todo∧s1.seen=s.seen∧O p=some (r.ask O p).2)
    ∨ ((r.ask O p).1.stop.kind≠0∧∃ s1,Leads v O (s.ask p th,E) (s1,E)∧RelStop O s1 E (r.ask O p).1):=by
  unfold PS.ask RS.ask
  cases hk:getK s.known p with
  | some k =>
    have hm:p∈r.asked:=by rw [← h.asked];exact getK_iff.1 (by rw [hk];rfl)
    have ho:=h.known p k hk
    rw [if_pos hm]
    unfold RS.askIn
    rw [ho]
    exact .inl ⟨h.stop,s,E,Leads.refl _,h,rfl,rfl,rfl⟩
  | none =>
    have hm:p ∉ r.asked:=by
      rw [← h.asked]
      intro hm
      have:=getK_iff.2 hm
      rw [hk] at this
      cases this
    have hl:s.known.length=r.asked.length:=by rw [← h.asked,List.length_map]
    have hno:=h.not_still
    rw [if_neg hm]
    simp only
    by_cases h5:r.asked.length=500
    · rw [if_pos h5,if_pos (by omega)]
      exact .inr ⟨by simp [RS.fail],_,Leads.refl _,h.fail 6⟩
    · have hless:=h.less
      rw [if_neg h5,if_neg (by omega)]
      unfold RS.askIn
      cases ho:O p with
      | none =>
        refine .inr ⟨by simp,_,Leads.refl _,h.wrote,.inl ⟨rfl,h.goes,ho,rfl⟩⟩
      | some k =>
        refine .inl ⟨h.stop,{ s with known:=s.known++[(p,k)],asks:=[],waits:=false },E++[⟨1,p,[],0⟩],?_,⟨h.goes,rfl,h.buf,?_,fun q j hj=>?_,?_,h.stop,?_,h.short⟩,rfl,rfl,rfl⟩
        · refine (Leads.one (b:=(PS.give { s with asks:=p,waits:=true,todo:=.ans p th :: s.todo } k,E++[⟨1,p,[],0⟩])) ?_).trans (Leads.one ?_)
          · have hg:=h.goes
            unfold mstep
            simp [hg,DE.none,ho]
          · have hn:¬ (PS.give { s with asks:=p,waits:=true,todo:=.ans p th :: s.todo } k).Still:=by
              unfold PS.Still PS.give
              simp [h.goes,DE.none]
            rw [mstep_goes hn,step_cons hn (t:=.ans p th) (r:=s.todo) rfl]
            have hg:=getK_snoc hk k p
            rw [if_pos rfl] at hg
            simp only [PS.task,PS.give]
            rw [hg]
            rfl
        · show (s.known++[(p,k)]).map (·.1)=r.asked++[p]
          rw [List.map_append,h.asked]
          rfl
        · have hg:=getK_snoc hk k q
          have hj':getK (s.known++[(p,k)]) q=some j:=hj
          rw [hg] at hj'
          split at hj'
          · rename_i e
            subst e
            rw [ho,hj']
          · exact h.known q j hj'
        · rw [← h.wrote]
          simp [writesOf]
        · show (s.known++[(p,k)]).length≤500
          rw [List.length_append,List.length_singleton]
          omega
theorem leads_then {v:Env} {O:TT→Option KE} {s:PS} {E:List DE} (h:¬ s.Still) {t:TaskE} {T:List TaskE} (ht:s.todo=t :: T):Leads v O (s,E) (PS.task v { s with todo:=T } t,E):=by
  refine Leads.one ?_
  rw [mstep_goes h,step_cons h ht]
def SeenAs (s:PS) (d:List TT):Prop:=∀ p,p∈s.seen ↔ p∈d
def left (L:List TT) (d:List TT):Nat:=(L.filter fun p=>!decide (p∈d)).length
theorem left_more {L d:List TT} {p:TT} (hp:p∈L) (hd:p ∉ d):left L (d++[p]) < left L d:=by
  unfold left
  have low:∀ L:List TT,(L.filter fun q=>!decide (q∈d++[p])).length≤(L.filter fun q=>!decide (q∈d)).length:=by
    intro L
    induction L with
    | nil=>simp
    | cons x L ih =>
      rw [List.filter_cons,List.filter_cons]
      by_cases h1:x∈d
      · rw [if_neg (by simp [h1]),if_neg (by simp [h1])];exact ih
      · by_cases h2:x=p
        · rw [if_neg (by simp [h2]),if_pos (by simp [h1])];simp only [List.length_cons];omega
        · rw [if_pos (by simp [h1,h2]),if_pos (by simp [h1])];simp only [List.length_cons];omega
  induction L with
  | nil=>cases hp
  | cons x L ih =>
    rw [List.filter_cons,List.filter_cons]
    rcases List.mem_cons.1 hp with rfl | hp
    · rw [if_neg (by simp),if_pos (by simp [hd])]
      have:=low L
      simp only [List.length_cons]
      omega
    · have ih:=ih hp
      by_cases h1:x∈d
      · rw [if_neg (by simp [h1]),if_neg (by simp [h1])];exact ih
      · by_cases h2:x=p
        · rw [if_neg (by simp [h2]),if_pos (by simp [h1])];simp only [List.length_cons];omega
        · rw [if_pos (by simp [h1,h2]),if_pos (by simp [h1])];simp only [List.length_cons];omega
def Scanned (v:Env) (O:TT→Option KE) (m:MS) (T:List TaskE) (x:RS × List TT):Prop :=
  (x.1.stop.kind=0∧∃ s E,Leads v O m (s,E)∧Rel O s E x.1∧s.todo=T∧SeenAs s x.2)∨(x.1.stop.kind≠0∧∃ s E,Leads v O m (s,E)∧RelStop O s E x.1)
theorem Scanned.lead {v:Env} {O:TT→Option KE} {m m':MS} {T:List TaskE} {x:RS × List TT} (h:Leads v O m m') (k:Scanned v O m' T x):Scanned v O m T x:=by
  rcases k with ⟨h0,s,E,h1,h2,h3,h4⟩ | ⟨h0,s,E,h1,h2⟩
  · exact .inl ⟨h0,s,E,h.trans h1,h2,h3,h4⟩
  · exact .inr ⟨h0,s,E,h.trans h1,h2⟩
theorem scanL_stop {v:Env} {f:RS→TT→List TT→RS × List TT} {w:TT} {l:List TT} {s:RS} {d:List TT} (h:s.stop.kind≠0):scanL v f w l s d=(s,d):=by
  cases l with
  | nil=>rfl
  | cons x l=>rw [scanL,if_pos h]
theorem leads_lines {v:Env} {O:TT→Option KE} {w:TT} {T:List TaskE} {f:RS→TT→List TT→RS × List TT} {n:Nat} {L:List TT}
    (hf:∀ (s:PS) (E:List DE) (r:RS) (d:List TT) (p:TT),Rel O s E r→SeenAs s d→p ∉ d→left L d < n→Scanned v O (s.scan p w,E) s.todo (f r p d)∧left L (f r p d).2≤left L d) :
    ∀ (l:List TT) (s:PS) (E:List DE) (r:RS) (d:List TT),Rel O s E r→SeenAs s d→s.todo=l.map (TaskE.line · w)++T→left L d < n→Scanned v O (s,E) T (scanL v f w l r d)∧left L (scanL v f w l r d).2≤left L d
  | [],s,E,r,d,h,hs,ht,_=>⟨.inl ⟨h.stop,s,E,Leads.refl _,h,ht,hs⟩,Nat.le_refl _⟩
  | x :: l,s,E,r,d,h,hs,ht,hn=>by
    have ht':s.todo = .line x w :: (l.map (TaskE.line · w)++T):=ht
    have hl:=leads_then (v:=v) (O:=O) (E:=E) h.not_still ht'
    rw [scanL,if_neg (by rw [h.stop];simp)]
    have hr:Rel O { s with todo:=l.map (TaskE.line · w)++T } E r:=h.todo _ _
    have hadd:∀ t:TT,Scanned v O (PS.add { s with todo:=l.map (TaskE.line · w)++T } t,E) T (scanL v f w l (r.add t) d)∧left L (scanL v f w l (r.add t) d).2≤left L d:=by
      intro t
      rcases hr.add t with ⟨h1,h2,h3⟩ | ⟨h1,h2⟩
      · exact leads_lines hf l _ E _ d h1 (fun p=>by rw [h3];exact hs p) h2 hn
      · rw [scanL_stop h1]
        exact⟨.inr ⟨h1,_,_,Leads.refl _,h2⟩,Nat.le_refl _⟩
    have hline:PS.task v { s with todo:=l.map (TaskE.line · w)++T } (.line x w)=PS.line v { s with todo:=l.map (TaskE.line · w)++T } x w:=rfl
    rw [hline] at hl
    unfold PS.line at hl
    split
    · rename_i a b hab
      rw [hab] at hl
      simp only at hl
      by_cases hc:a=w∧v.may b=true
      · rw [if_pos hc] at hl ⊢
        by_cases hb:b∈d
        · rw [if_pos hb]
          rw [if_pos ((hs b).2 hb)] at hl
          obtain⟨k1,k2⟩:=leads_lines hf l _ E r d hr hs rfl hn
          exact⟨k1.lead hl,k2⟩
        · rw [if_neg hb]
          rw [if_neg (fun e=>hb ((hs b).1 e))] at hl
          obtain⟨k1,k2⟩:=hf _ E r d b hr hs hb hn
          rcases k1 with ⟨h0,s1,E1,g1,g2,g3,g4⟩ | ⟨h0,s1,E1,g1,g2⟩
          · obtain⟨k3,k4⟩:=leads_lines hf l s1 E1 _ _ g2 g4 g3 (by omega)
            exact⟨(k3.lead g1).lead hl,by omega⟩
          · rw [scanL_stop h0]
            exact⟨.inr ⟨h0,s1,E1,hl.trans g1,g2⟩,k2⟩
      · rw [if_neg hc] at hl ⊢
        obtain⟨k1,k2⟩:=hadd (x++[10])
        exact⟨k1.lead hl,k2⟩
    · rename_i hne
      obtain⟨k1,k2⟩:=hadd (x++[10])
      refine⟨k1.lead ?_,k2⟩
      cases hw:wordsT x with
      | nil=>rw [hw] at hl;exact hl
      | cons a r1 =>
        cases r1 with
        | nil=>rw [hw] at hl;exact hl
        | cons b r2 =>
          cases r2 with
          | nil=>exact absurd hw (hne a b)
          | cons c r3=>rw [hw] at hl;exact hl
theorem leads_scan {v:Env} {O:TT→Option KE} {w:TT} {L:List TT} (hL:∀ p k,O p=some k→p∈L):∀ (n:Nat) (s:PS) (E:List DE) (r:RS) (d:List TT) (p:TT),Rel O s E r→SeenAs s d→p ∉ d→left L d < n→Scanned v O (s.scan p w,E) s.todo (scanF v O w n r p d)∧left L (scanF v O w n r p d).2≤left L d
  | 0,_,_,_,d,_,_,_,_,hn=>absurd hn (Nat.not_lt_zero _)
  | n+1,s,E,r,d,p,h,hs,hp,hn=>by
    have h1:Rel O { s with seen:=p :: s.seen } E r:=h.todo _ _
    have hseen:SeenAs { s with seen:=p :: s.seen } (d++[p]):=fun q=>by
      simp only [List.mem_cons,List.mem_append,List.not_mem_nil,or_false]
      rw [hs q]
      exact Or.comm
    have hle:left L (d++[p])≤left L d:=by
      by_cases hpL:p∈L
      · exact Nat.le_of_lt (left_more hpL hp)
      · unfold left
        refine Nat.le_of_eq (congrArg List.length (List.filter_congr fun q hq=>?_))
        have:q≠p:=fun e=>hpL (e ▸ hq)
        simp [this]
    have hask:=leads_ask (v:=v) h1 p (.scan w)
    have hsc:s.scan p w=PS.ask { s with seen:=p :: s.seen } p (.scan w):=rfl
    rw [scanF,hsc]
    rcases hask with ⟨g0,s1,E1,g1,g2,g3,g4,g5⟩ | ⟨g0,s1,g1,g2⟩
    · rw [if_neg (by rw [g0];simp)]
      have hpL:=hL p _ g5
      have hlt:=left_more hpL hp
      by_cases hi:(r.ask O p).2.is=false
      · rw [if_pos hi]
        refine⟨.inr ⟨by simp [RS.fail],s1.fail 10,E1,?_,g2.fail 10⟩,hle⟩
        unfold PS.then_ at g1
        simp only [hi] at g1
        exact g1
      · rw [if_neg hi]
        unfold PS.then_ at g1
        simp only [hi] at g1
        obtain⟨k1,k2⟩:=leads_lines (T:=s.todo) (fun s E r d p a b c e=>leads_scan hL n s E r d p a b c e) (linesT (r.ask O p).2.data) { s1 with todo:=(linesT (r.ask O p).2.data).map (TaskE.line · w)++s1.todo } E1 (r.ask O p).1 (d++[p]) (g2.todo _ _) (fun q=>by rw [← hseen q,← g4]) (by rw [g3]) (by omega)
        exact⟨k1.lead g1,Nat.le_trans k2 hle⟩
    · rw [if_pos g0]
      exact⟨.inr ⟨g0,s1,E,g1,g2⟩,hle⟩
def Named (c:CmdE):Prop:=c.ws.headD []∈[kRead,kTry,kWrite,kScan,kEnv,kKeep,kNeed,kSort,kUniq,kUpper,kCount,kFail,kText]
def Done (v:Env) (O:TT→Option KE) (m:MS) (T:List TaskE) (x:RS):Prop :=
  (x.stop.kind=0∧∃ s E,Leads v O m (s,E)∧Rel O s E x∧s.todo=T)∨(x.stop.kind≠0∧∃ s E,Leads v O m (s,E)∧RelStop O s E x)
theorem Rel.buffer {O:TT→Option KE} {s:PS} {E:List DE} {r:RS} (h:Rel O s E r) {b:TT} (hb:b.length≤65536):Rel O { s with buf:=b } E { r with buf:=b }:=⟨h.goes,h.runs,rfl,h.asked,h.known,h.wrote,h.stop,h.less,hb⟩
theorem Rel.done {v:Env} {O:TT→Option KE} {s:PS} {E:List DE} {r:RS} (h:Rel O s E r):Done v O (s,E) s.todo r:=.inl ⟨h.stop,s,E,Leads.refl _,h,rfl⟩
theorem Rel.done_add {v:Env} {O:TT→Option KE} {s:PS} {E:List DE} {r:RS} (h:Rel O s E r) (t:TT):Done v O (s.add t,E) s.todo (r.add t):=by
  rcases h.add t with ⟨h1,h2,_⟩ | ⟨h1,h2⟩
  · exact .inl ⟨h1.stop,_,_,Leads.refl _,h1,h2⟩
  · exact .inr ⟨h1,_,_,Leads.refl _,h2⟩
theorem Rel.done_fail {v:Env} {O:TT→Option KE} {s:PS} {E:List DE} {r:RS} (h:Rel O s E r) (y:Nat):Done v O (s.fail y,E) s.todo (r.fail y):=.inr ⟨by simp [RS.fail],_,_,Leads.refl _,h.fail y⟩
theorem Rel.done_set {v:Env} {O:TT→Option KE} {s:PS} {E:List DE} {r:RS} (h:Rel O s E r) (l:List TT):Done v O (s.setLines l,E) s.todo (RS.add { r with buf:=[] } (wholeT l)):=by
  have:=(h.buffer (b:=[]) (by simp)).done_add (v:=v) (wholeT l)
  exact this
theorem add_short {r:RS} {t:TT} (ht:t.length≤65536):RS.add { r with buf:=[] } t={ r with buf:=t }:=by
  unfold RS.add
  rw [if_neg (by simp;omega)]
  rfl
def ThenE.isAdd:ThenE→Bool
  | .add=>true
  | _=>false
theorem leads_cmd {v:Env} {O:TT→Option KE} {L:List TT} (hL:∀ p k,O p=some k→p∈L) {N:Nat} (hN:L.length < N) {s:PS} {E:List DE} {r:RS} (h:Rel O s E r) {c:CmdE} (hc:Named c):Done v O (s.do_ v c,E) s.todo (r.step v O N c):=by
  obtain⟨nm,hnm⟩:∃ nm,nm=c.ws.headD []:=⟨_,rfl⟩
  obtain⟨arg,harg⟩:∃ a,a=(c.ws.drop 1).headD []:=⟨_,rfl⟩
  unfold Named at hc
  unfold PS.do_ RS.step
  simp only
  rw [← hnm] at hc ⊢
  rw [← harg]
  have hask:∀ th,th=ThenE.add∨th=ThenE.try_→Done v O (s.ask arg th,E) s.todo (if (r.ask O arg).1.stop.kind≠0 then (r.ask O arg).1 else if (r.ask O arg).2.is=true then (r.ask O arg).1.add (r.ask O arg).2.data else if th.isAdd=true then (r.ask O arg).1.fail 10 else (r.ask O arg).1):=by
    intro th hth
    rcases leads_ask (v:=v) h arg th with ⟨g0,s1,E1,g1,g2,g3,g4,g5⟩ | ⟨g0,s1,g1,g2⟩
    · rw [if_neg (by rw [g0];simp)]
      have key:Done v O (s1.then_ th (r.ask O arg).2,E1) s1.todo (if (r.ask O arg).2.is=true then (r.ask O arg).1.add (r.ask O arg).2.data else if th.isAdd=true then (r.ask O arg).1.fail 10 else (r.ask O arg).1):=by
        rcases hth with rfl | rfl
        · unfold PS.then_
          simp only
          split
          · exact g2.done_add _
          · exact g2.done_fail 10
        · unfold PS.then_
          simp only
          split
          · exact g2.done_add _
          · exact g2.done
      rw [g3] at key
      rcases key with ⟨k0,s2,E2,k1,k2,k3⟩ | ⟨k0,s2,E2,k1,k2⟩
      · exact .inl ⟨k0,s2,E2,g1.trans k1,k2,k3⟩
      · exact .inr ⟨k0,s2,E2,g1.trans k1,k2⟩
    · rw [if_pos g0]
      exact .inr ⟨g0,s1,E,g1,g2⟩
  have hcount:(decDigits (linesT s.buf).length++[10]).length≤65536:=by
    have h1:=linesT_len s.buf
    have h2:=h.short
    have h3:=dec_short (linesT s.buf).length (by omega)
    rw [List.length_append,List.length_singleton]
    omega
  have hup:(upT s.buf).length≤65536:=by rw [upT,List.length_map];exact h.short
  have hset:=fun l=>h.done_set (v:=v) l
  simp only [List.mem_cons,List.not_mem_nil,or_false] at hc
  rcases hc with rfl | rfl | rfl | rfl | rfl | rfl | rfl | rfl | rfl | rfl | rfl | rfl | rfl
  · simpa [ThenE.isAdd] using hask .add (.inl rfl)
  · simpa [ThenE.isAdd] using hask .try_ (.inr rfl)
  · -- write
    simp
    refine .inl ⟨h.stop,{ s with buf:=[] },E++[⟨2,arg,s.buf,0⟩],Leads.one ?_,⟨h.goes,h.runs,rfl,h.asked,h.known,?_,h.stop,h.less,by simp⟩,rfl⟩
    · unfold mstep
      have hg:=h.goes
      simp [hg]
    · rw [← h.wrote,h.buf]
      simp [writesOf]
  · -- scan
    simp
    have h0:Rel O { s with seen:=[] } E r:=h.todo s.todo []
    have hl:left L [] < N:=by
      unfold left
      exact Nat.lt_of_le_of_lt (List.length_filter_le _ _) hN
    obtain⟨k1,_⟩:=leads_scan (v:=v) (w:=(c.ws.drop 2).headD []) hL N { s with seen:=[] } E r [] arg h0 (fun p=>Iff.rfl) (by simp) hl
    simp at k1
    rcases k1 with ⟨g0,s1,E1,g1,g2,g3,_⟩ | ⟨g0,s1,E1,g1,g2⟩
    · exact .inl ⟨g0,s1,E1,g1,g2,g3⟩
    · exact .inr ⟨g0,s1,E1,g1,g2⟩
  · -- env
    simp
    cases hf:v.env.find? fun x=>x.1 == arg with
    | none=>exact h.done_fail 10
    | some x=>exact h.done_add x.2
  · -- keep
    simp [PS.turn]
    rw [← h.buf]
    exact hset _
  · -- need
    simp
    rw [← h.buf]
    split
    · exact h.done
    · exact h.done_fail 15
  · simp [PS.turn,turnedR]
    rw [← h.buf]
    exact hset _
  · simp [PS.turn,turnedR]
    rw [← h.buf]
    exact hset _
  · simp [PS.turn,turnedR]
    rw [← h.buf,add_short hup]
    exact (h.buffer hup).done
  · simp [PS.turn,turnedR]
    rw [← h.buf,add_short hcount]
    exact (h.buffer hcount).done
  · simp
    exact h.done_fail 15
  · simp
    exact h.done_add _
theorem leads_far {v:Env} {O:TT→Option KE} {L:List TT} (hL:∀ p k,O p=some k→p∈L) {N:Nat} (hN:L.length < N):∀ (l:List CmdE) (s:PS) (E:List DE) (r:RS),Rel O s E r→s.todo=l.map .cmd→(∀ c∈l,Named c)→∃ s1 E1,Leads v O (s,E) (s1,E1)∧RelStop O s1 E1 (farL v O N l r)
  | [],s,E,r,h,ht,_=>by
    refine⟨{ s with over:=⟨3,[],[],0⟩ },E,Leads.one ?_,h.wrote,.inr ⟨rfl,.inl rfl⟩⟩
    rw [mstep_goes h.not_still,step_nil h.not_still ht]
  | c :: l,s,E,r,h,ht,hc=>by
    have hl:=leads_then (v:=v) (O:=O) (E:=E) h.not_still (t:=.cmd c) (T:=l.map .cmd) ht
    have hd:=leads_cmd (v:=v) hL hN (h.todo (l.map TaskE.cmd) s.seen) (hc c (by simp))
    rw [farL]
    rcases hd with ⟨g0,s1,E1,g1,g2,g3⟩ | ⟨g0,s1,E1,g1,g2⟩
    · rw [if_neg (by rw [g0];simp)]
      obtain⟨s2,E2,k1,k2⟩:=leads_far hL hN l s1 E1 _ g2 g3 fun x hx=>hc x (by simp [hx])
      exact⟨s2,E2,(hl.trans g1).trans k1,k2⟩
    · rw [if_pos g0]
      exact⟨s1,E1,hl.trans g1,g2⟩
end Go.Proofs.YtnecjdhamohadaaGreatDoor
namespace Go.Proofs.YtnecjdhamohadaaGreatDoor
open Go.Lib
variable {v:Env} {O O':TT→Option KE}
theorem run_leads:∀ (n:Nat) (s:PS) (E:List DE),Leads v O (s,E) (s.run v n,E)
  | 0,s,E=>Leads.refl _
  | n+1,s,E=>by
    rw [PS.run]
    by_cases hs:s.Still
    · rw [PS.step_still hs,PS.run_still hs n]
      exact Leads.refl _
    · exact (Leads.one (mstep_goes hs)).trans (run_leads n _ E)
def Fixed (v:Env) (O:TT→Option KE) (m:MS):Prop:=mstep v O m=m
theorem Fixed.run {m:MS} (h:Fixed v O m):∀ n,mrun v O n m=m
  | 0=>rfl
  | n+1=>by
    rw [mrun,show mstep v O m=m from h]
    exact Fixed.run h n
theorem Leads.meet {a b c:MS} (h:Leads v O a b) (k:Leads v O a c) (hc:Fixed v O c):Leads v O b c:=by
  obtain⟨n,rfl⟩:=h
  obtain⟨m,rfl⟩:=k
  rcases Nat.le_total n m with hl | hl
  · obtain⟨d,rfl⟩:=Nat.exists_eq_add_of_le hl
    exact⟨d,(mrun_add v O n d a).symm⟩
  · obtain⟨d,rfl⟩:=Nat.exists_eq_add_of_le hl
    rw [mrun_add v O m d a,hc.run d]
    exact Leads.refl _
theorem mstep_prefix (m:MS):∃ F,(mstep v O m).2=m.2++F:=by
  unfold mstep
  split
  · exact⟨_,rfl⟩
  · split
    · exact⟨[],by simp⟩
    · split
      · split
        · exact⟨_,rfl⟩
        · exact⟨[],by simp⟩
      · exact⟨[],by simp⟩
theorem mrun_prefix:∀ (n:Nat) (m:MS),∃ F,(mrun v O n m).2=m.2++F
  | 0,m=>⟨[],by simp [mrun]⟩
  | n+1,m=>by
    obtain⟨F,hF⟩:=mstep_prefix (v:=v) (O:=O) m
    obtain⟨G,hG⟩:=mrun_prefix n (mstep v O m)
    exact⟨F++G,by rw [mrun,hG,hF,List.append_assoc]⟩
theorem Leads.front {a b:MS} (h:Leads v O a b):∃ F,b.2=a.2++F:=by
  obtain⟨n,rfl⟩:=h
  exact mrun_prefix n a
theorem mrun_more (hO:∀ p k,O p=some k→O' p=some k):∀ (n:Nat) (m:MS),Leads v O' m (mrun v O n m)
  | 0,m=>Leads.refl _
  | n+1,m=>by
    rw [mrun]
    by_cases hf:mstep v O m=m
    · rw [hf,Fixed.run (show Fixed v O m from hf) n]
      exact Leads.refl _
    · have he:mstep v O' m=mstep v O m:=by
        unfold mstep at hf ⊢
        by_cases h2:m.1.over.kind=2
        · rw [if_pos h2,if_pos h2]
        · rw [if_neg h2] at hf ⊢
          rw [if_neg h2]
          by_cases h0:m.1.over.kind≠0
          · rw [if_pos h0,if_pos h0]
          · rw [if_neg h0] at hf ⊢
            rw [if_neg h0]
            by_cases hw:m.1.waits=true
            · rw [if_pos hw] at hf ⊢
              rw [if_pos hw]
              cases ho:O m.1.asks with
              | none=>rw [ho] at hf;exact absurd rfl hf
              | some k=>rw [hO _ _ ho]
            · rw [if_neg hw,if_neg hw]
      exact (Leads.one he).trans (mrun_more hO n _)
theorem Leads.more (hO:∀ p k,O p=some k→O' p=some k) {a b:MS} (h:Leads v O a b):Leads v O' a b:=by
  obtain⟨n,rfl⟩:=h
  exact mrun_more hO n a
def nextV (s:PS):DE:=if s.waits=true then ⟨1,s.asks,[],0⟩ else s.over
def PS.next (s:PS):PS:=if s.waits=true then s else if s.over.kind=2 then { s with over:=DE.none } else s
def Waits (s:PS):Prop:=s.waits=true→s.over=DE.none∧getK s.known s.asks=none∧s.known.length < 500
theorem Waits.task {s:PS} (h0:s.waits=false) (h1:s.over=DE.none) (t:TaskE):Waits (s.task v t):=by
  obtain⟨hk,hg⟩:=grows_task s v t
  intro hw
  rcases hg with ⟨L,w,_,e,_⟩ | ⟨p,th,_,_,e2,e3,e4,e5⟩
  · rw [e,h0] at hw
    cases hw
  · rw [hk,e2,e5]
    exact⟨h1,e3,e4⟩
structure Ord (s:PS):Prop where
  lim:Lim s
  pend:Pend s
  waits:Waits s
  over:s.over=DE.none∨s.over.kind=2∨s.over.kind=3∨s.over.kind=4
theorem over_task (s:PS) (h:s.over=DE.none) (t:TaskE):(s.task v t).over=DE.none∨(s.task v t).over.kind=2∨(s.task v t).over.kind=3∨(s.task v t).over.kind=4:=by
  have hf:∀ y,(s.fail y).over.kind=4:=fun y=>rfl
  have hadd:∀ (s:PS) t,s.over=DE.none→(s.add t).over=DE.none∨(s.add t).over.kind=2∨(s.add t).over.kind=3∨(s.add t).over.kind=4:=fun s t h=>by
    unfold PS.add
    split
    · exact .inr (.inr (.inr rfl))
    · exact .inl h
  have hthen:∀ (s:PS) th k,s.over=DE.none→(s.then_ th k).over=DE.none∨(s.then_ th k).over.kind=2∨(s.then_ th k).over.kind=3∨(s.then_ th k).over.kind=4:=fun s th k h=>by
    cases th <;> unfold PS.then_ <;> simp only <;> split
    · exact hadd s _ h
    · exact .inr (.inr (.inr rfl))
    · exact hadd s _ h
    · exact .inl h
    · exact .inl h
    · exact .inr (.inr (.inr rfl))
  have hask:∀ (s:PS) p th,s.over=DE.none→(s.ask p th).over=DE.none∨(s.ask p th).over.kind=2∨(s.ask p th).over.kind=3∨(s.ask p th).over.kind=4:=fun s p th h=>by
    unfold PS.ask
    split
    · exact hthen s _ _ h
    · split
      · exact .inr (.inr (.inr rfl))
      · exact .inl h
  cases t with
  | cmd c =>
    unfold PS.task PS.do_
    simp only
    have hturn:∀ n a l,(s.turn n a l).over=DE.none∨(s.turn n a l).over.kind=2∨(s.turn n a l).over.kind=3∨(s.turn n a l).over.kind=4:=fun n a l=>by
      unfold PS.turn
      repeat' split
      all_goals first
        | exact hadd { s with buf:=[] } _ h
        | exact .inl h
    repeat' split
    all_goals first
      | exact hask s _ _ h
      | exact hadd s _ h
      | exact .inr (.inr (.inr rfl))
      | exact hask { s with seen:=_ } _ _ h
      | exact .inr (.inl rfl)
      | exact hturn _ _ _
      | exact .inl h
  | ans p th=>exact hthen s _ _ h
  | line x w =>
    unfold PS.task PS.line
    simp only
    repeat' split
    all_goals first
      | exact hask { s with seen:=_ } _ _ h
      | exact hadd s _ h
      | exact .inl h
theorem over_zero {s:PS} (h:s.over=DE.none∨s.over.kind=2∨s.over.kind=3∨s.over.kind=4) (h0:s.over.kind=0):s.over=DE.none:=by
  rcases h with h | h | h | h
  · exact h
  · omega
  · omega
  · omega
theorem Ord.step {s:PS} (h:Ord s):Ord (s.step v):=by
  refine⟨h.lim.step v,?_,?_,?_⟩
  · by_cases hs:s.Still
    · rw [PS.step_still hs];exact h.pend
    · cases ht:s.todo with
      | nil=>rw [step_nil hs ht];exact h.pend
      | cons t r=>rw [step_cons hs ht];exact h.pend.task (not_still hs).2 ht v
  · by_cases hs:s.Still
    · rw [PS.step_still hs];exact h.waits
    · obtain⟨h0,hw⟩:=not_still hs
      cases ht:s.todo with
      | nil =>
        rw [step_nil hs ht]
        intro e
        rw [show (PS.waits { s with over:=⟨3,[],[],0⟩ })=s.waits from rfl,hw] at e
        cases e
      | cons t r =>
        rw [step_cons hs ht]
        exact Waits.task (s:={ s with todo:=r }) hw (over_zero h.over h0) t
  · by_cases hs:s.Still
    · rw [PS.step_still hs];exact h.over
    · obtain⟨h0,hw⟩:=not_still hs
      cases ht:s.todo with
      | nil=>rw [step_nil hs ht];exact .inr (.inr (.inl rfl))
      | cons t r =>
        rw [step_cons hs ht]
        exact over_task { s with todo:=r } (over_zero h.over h0) t
theorem Ord.run:∀ (n:Nat) {s:PS},Ord s→Ord (s.run v n)
  | 0,_,h=>h
  | n+1,_,h=>Ord.run n h.step
theorem Ord.next {s:PS} (h:Ord s):Ord s.next:=by
  unfold PS.next
  split
  · exact h
  · rename_i hw
    split
    · exact⟨⟨h.lim.buf,h.lim.tasks,h.lim.datas,h.lim.seens,h.lim.asks,h.lim.less⟩,h.pend,fun e=>absurd e hw,.inl rfl⟩
    · exact h
theorem Ord.give {s:PS} (h:Ord s) (hw:s.waits=true) {k:KE} (hk:k.is=true→k.data.length≤1000000):Ord (s.give k):=by
  obtain⟨w1,w2,w3⟩:=h.waits hw
  refine⟨⟨h.lim.buf,h.lim.tasks,fun p j hj=>?_,h.lim.seens,by simp [PS.give],?_⟩,fun p th hm=>?_,fun e=>?_,h.over⟩
  · have hj':getK (s.known++[(s.asks,k)]) p=some j:=hj
    rw [getK_snoc w2] at hj'
    split at hj'
    · cases hj';exact hk
    · exact h.lim.datas p j hj'
  · show (s.known++[(s.asks,k)]).length≤500
    rw [List.length_append,List.length_singleton]
    omega
  · left
    have hg:=getK_snoc w2 k p
    show (getK (s.known++[(s.asks,k)]) p).isSome=true
    rw [hg]
    split
    · rfl
    · rename_i hne
      rcases h.pend p th hm with h1 | h1
      · exact h1
      · exact absurd h1.2.symm hne
  · cases e
theorem writesOf_append (a b:List DE):writesOf (a++b)=writesOf a++writesOf b:=List.filter_append ..
theorem fixed_end {s:PS} {E:List DE} (h:s.over.kind=3∨s.over.kind=4):Fixed v O (s,E):=by
  unfold Fixed mstep
  rcases h with h | h <;> simp [h]
theorem fixed_wait {s:PS} {E:List DE} (h0:s.over=DE.none) (hw:s.waits=true) (ho:O s.asks=none):Fixed v O (s,E):=by
  unfold Fixed mstep
  simp [h0,DE.none,hw,ho]
theorem leads_write {s:PS} {E:List DE} (h:s.over.kind=2):Leads v O (s,E) ({ s with over:=DE.none },E++[s.over]):=by
  refine Leads.one ?_
  unfold mstep
  simp [h]
theorem leads_give {s:PS} {E:List DE} (h0:s.over=DE.none) (hw:s.waits=true) {k:KE} (ho:O s.asks=some k):Leads v O (s,E) (s.give k,E++[⟨1,s.asks,[],0⟩]):=by
  refine Leads.one ?_
  unfold mstep
  simp [h0,DE.none,hw,ho]
theorem Ord.cases {s:PS} (h:Ord s) (hs:s.Still):(s.waits=true∧s.over=DE.none)∨(s.waits=false∧s.over.kind=2)∨(s.waits=false∧(s.over.kind=3∨s.over.kind=4)):=by
  cases hw:s.waits with
  | true=>exact .inl ⟨rfl,(h.waits hw).1⟩
  | false =>
    rcases h.over with h0 | h0 | h0 | h0
    · unfold PS.Still at hs
      rw [h0,hw] at hs
      simp [DE.none] at hs
    · exact .inr (.inl ⟨rfl,h0⟩)
    · exact .inr (.inr ⟨rfl,.inl h0⟩)
    · exact .inr (.inr ⟨rfl,.inr h0⟩)
theorem goes_next {s s1:PS} {E E1:List DE} (hl:Leads v O (s,E) (s1,E1)) (hf:Fixed v O (s1,E1)) {n:Nat} (ho:Ord s) (hs:(s.run v n).Still) (hw:(s.run v n).waits=true→O (s.run v n).asks=none) :
    ((writesOf E).length < (writesOf E1).length→(writesOf E1)[(writesOf E).length]?=some (nextV (s.run v n))∧∃ E2,Leads v O (s,E) ((s.run v n).next,E2)∧Leads v O ((s.run v n).next,E2) (s1,E1)∧(writesOf E2).length=(writesOf E).length+1) ∧
    ((writesOf E).length=(writesOf E1).length→s.run v n=s1∧E=E1):=by
  have hr:=run_leads (v:=v) (O:=O) n s E
  have hm:=hr.meet hl hf
  have hor:Ord (s.run v n):=Ord.run n ho
  obtain⟨s',hs'⟩:∃ s',s'=s.run v n:=⟨_,rfl⟩
  rw [← hs'] at hs hw hr hm hor ⊢
  have hend:Fixed v O (s',E)→s'=s1∧E=E1:=fun hx=>by
    obtain⟨k,hk⟩:=hm
    rw [hx.run k] at hk
    exact⟨congrArg (·.1) hk,congrArg (·.2) hk⟩
  rcases hor.cases hs with ⟨h1,h2⟩ | ⟨h1,h2⟩ | ⟨h1,h2⟩
  · have:=hend (fixed_wait h2 h1 (hw h1))
    exact⟨fun hlt=>by rw [this.2] at hlt;omega,fun _=>this⟩
  · have hstep:=leads_write (v:=v) (O:=O) (E:=E) h2
    have hm2:=hstep.meet hm hf
    obtain⟨F,hF⟩:=hm2.front
    simp only at hF
    have hwr:writesOf [s'.over]=[s'.over]:=by simp [writesOf,h2]
    have he:writesOf E1=writesOf E++s'.over :: writesOf F:=by rw [hF,writesOf_append,writesOf_append,hwr];simp
    have hnv:nextV s'=s'.over:=by simp [nextV,h1]
    have hnx:s'.next={ s' with over:=DE.none }:=by simp [PS.next,h1,h2]
    refine⟨fun _=>⟨?_,E++[s'.over],?_,?_,?_⟩,fun e=>?_⟩
    · rw [he,hnv,List.getElem?_append_right (Nat.le_refl _),Nat.sub_self]
      rfl
    · rw [hnx];exact hr.trans hstep
    · rw [hnx];exact hm2
    · rw [writesOf_append,hwr,List.length_append,List.length_singleton]
    · rw [he,List.length_append,List.length_cons] at e
      omega
  · have:=hend (fixed_end h2)
    exact⟨fun hlt=>by rw [this.2] at hlt;omega,fun _=>this⟩
theorem stop_next {s:PS} (h:s.waits=true∨(s.over.kind=3∨s.over.kind=4)):s.next=s:=by
  unfold PS.next
  split
  · rfl
  · rename_i hw
    rcases h with h | h
    · exact absurd h hw
    · rw [if_neg (by omega)]
theorem RelStop.value {s:PS} {E:List DE} {r:RS} (h:RelStop O s E r) (ho:Ord s):nextV s=r.stop∧(s.waits=true∨(s.over.kind=3∨s.over.kind=4))∧Fixed v O (s,E):=by
  rcases h.stop with ⟨h1,h2,h3,h4⟩ | ⟨h1,h2⟩
  · refine⟨?_,.inl h1,fixed_wait h2 h1 h3⟩
    rw [nextV,if_pos h1,h4]
  · rw [← h1] at h2
    have hw:s.waits=false:=by
      cases hw:s.waits with
      | false=>rfl
      | true =>
        have:=(ho.waits hw).1
        rw [this] at h2
        simp [DE.none] at h2
    refine⟨?_,.inr h2,fixed_end h2⟩
    rw [nextV,if_neg (by rw [hw];simp),h1]
theorem Ord.mstep {s:PS} {E:List DE} (h:Ord s) (hO:∀ p k,O p=some k→k.is=true→k.data.length≤1000000):Ord (mstep v O (s,E)).1:=by
  unfold Go.Proofs.YtnecjdhamohadaaGreatDoor.mstep
  simp only
  split
  · rename_i h2
    refine⟨⟨h.lim.buf,h.lim.tasks,h.lim.datas,h.lim.seens,h.lim.asks,h.lim.less⟩,h.pend,fun hw=>?_,.inl rfl⟩
    have:=h.waits hw
    rw [this.1] at h2
    simp [DE.none] at h2
  · split
    · exact h
    · split
      · rename_i hw
        split
        · rename_i k hk
          exact h.give hw (hO _ k hk)
        · exact h
      · exact h.step
theorem Ord.mrun (hO:∀ p k,O p=some k→k.is=true→k.data.length≤1000000):∀ (n:Nat) {m:MS},Ord m.1→Ord (mrun v O n m).1
  | 0,_,h=>h
  | n+1,(s,E),h=>by
    have:=h.mstep (v:=v) (E:=E) hO
    exact Ord.mrun hO n this
theorem Ord.leads (hO:∀ p k,O p=some k→k.is=true→k.data.length≤1000000) {a b:MS} (h:Ord a.1) (hl:Leads v O a b):Ord b.1:=by
  obtain⟨n,rfl⟩:=hl
  exact Ord.mrun hO n h
def PS.start (l:List CmdE):PS:=⟨l.map .cmd,[],[],[],false,DE.none,[]⟩
def RS.start:RS:=⟨[],[],[],DE.none⟩
theorem rel_start (l:List CmdE):Rel O (PS.start l) [] RS.start:=⟨rfl,rfl,rfl,rfl,fun _ _ h=>(by cases h),rfl,rfl,(by simp [PS.start]),(by simp [PS.start])⟩
theorem ord_start {l:List CmdE} (h:∀ c∈l,CmdOk c):Ord (PS.start l):=by
  refine⟨⟨by simp [PS.start],fun t ht=>?_,fun p k hk=>(by cases hk),(by simp [PS.start]),(by simp [PS.start]),(by simp [PS.start])⟩,fun p th hm=>?_,fun hw=>(by cases hw),.inl rfl⟩
  · obtain⟨c,hc,rfl⟩:=List.mem_map.1 ht
    exact h c hc
  · obtain⟨c,_,hx⟩:=List.mem_map.1 hm
    cases hx
end Go.Proofs.YtnecjdhamohadaaGreatDoor
namespace Go.Proofs.YtnecjdhamohadaaGreatDoor
open Go.Lib
def passedW:List TT→Bool
  | []=>true
  | a :: _=>a.head? == some 35
def okW (may:TT→Bool):List TT→Bool
  | []=>false
  | a :: r=>decide (a=kText) || (decide ((takesT a).1=r.length+1) && decide ((takesT a).1≠0) && (!(takesT a).2 || may (r.headD [])))
def cmdW (s:TT):CmdE:=match wordsT s with
  | []=>⟨[],[]⟩
  | a :: r=>if a=kText then ⟨[a],behindT s⟩ else ⟨a :: r,[]⟩
theorem readC_eq (may:TT→Bool) (s:TT):readC may s=bif passedW (wordsT s) then some none else bif okW may (wordsT s) then some (some (cmdW s)) else none:=by
  unfold readC cmdW
  cases hw:wordsT s with
  | nil=>rfl
  | cons a r =>
    simp only
    by_cases h1:a.head?=some 35
    · rw [if_pos h1,show passedW (a :: r)=true by simp [passedW,h1],cond_true]
    · rw [if_neg h1,show passedW (a :: r)=false by simpa [passedW] using h1,cond_false]
      by_cases h2:a=kText
      · rw [if_pos h2,if_pos h2,show okW may (a :: r)=true by simp [okW,h2],cond_true]
      · rw [if_neg h2,if_neg h2]
        by_cases h3:(takesT a).1≠r.length+1∨(takesT a).1=0∨((takesT a).2=true∧may (r.headD [])=false)
        · have:okW may (a :: r)=false:=by
            cases hok:okW may (a :: r) with
            | false=>rfl
            | true =>
              simp only [okW,Bool.and_eq_true,decide_eq_true_eq,Bool.or_eq_true,Bool.not_eq_true'] at hok
              rcases hok with hok | hok
              · exact absurd hok h2
              · rcases h3 with h3 | h3 | h3
                · exact absurd hok.1.1 h3
                · exact absurd h3 hok.1.2
                · rcases hok.2 with e | e
                  · rw [h3.1] at e;cases e
                  · rw [h3.2] at e;cases e
          rw [if_pos h3,this,cond_false]
        · have:okW may (a :: r)=true:=by
            rw [not_or,not_or] at h3
            obtain⟨k1,k2,k3⟩:=h3
            simp only [okW,Bool.and_eq_true,decide_eq_true_eq,Bool.or_eq_true,Bool.not_eq_true']
            refine .inr ⟨⟨by simpa using k1,k2⟩,?_⟩
            cases hb:(takesT a).2 with
            | false=>exact .inl rfl
            | true =>
              right
              cases hm:may (r.headD []) with
              | true=>rfl
              | false=>exact absurd ⟨hb,hm⟩ k3
          rw [if_neg h3,this,cond_true]
def cmdsOf (may:TT→Bool):List TT→List CmdE
  | []=>[]
  | s :: l=>match readC may s with
    | some (some c)=>c :: cmdsOf may l
    | _=>cmdsOf may l
def badL (may:TT→Bool):List TT→Nat→Nat × Nat
  | [],_=>(0,0)
  | s :: l,i=>match readC may s with
    | none=>(3,i+1)
    | some _=>badL may l (i+1)
theorem cmdsL_eq (may:TT→Bool):∀ (l:List TT) (i:Nat) (out:List CmdE),cmdsL may l i out=(if (badL may l i).1=0 then out++cmdsOf may l else [],(badL may l i).1,(badL may l i).2)
  | [],i,out=>by simp [cmdsL,badL,cmdsOf]
  | s :: l,i,out=>by
    cases h:readC may s with
    | none=>simp [cmdsL,badL,h]
    | some o =>
      cases o with
      | none=>simp [cmdsL,badL,cmdsOf,h,cmdsL_eq may l (i+1) out]
      | some c=>simp [cmdsL,badL,cmdsOf,h,cmdsL_eq may l (i+1) (out++[c])]
def checkT (may:TT→Bool) (text:TT):Nat × Nat:=if 65536 < text.length∨400 < (linesT text).length then (6,0) else badL may (linesT text) 0
theorem cmdsT_eq (may:TT→Bool) (text:TT):cmdsT may text=(if (checkT may text).1=0 then cmdsOf may (linesT text) else [],(checkT may text).1,(checkT may text).2):=by
  unfold cmdsT checkT
  split
  · rfl
  · rw [cmdsL_eq]
    simp
theorem cmdsOf_append (may:TT→Bool):∀ (a b:List TT),cmdsOf may (a++b)=cmdsOf may a++cmdsOf may b
  | [],b=>rfl
  | s :: a,b=>by
    rw [List.cons_append,cmdsOf,cmdsOf]
    split <;> simp [cmdsOf_append may a b]
theorem cmdsOf_len (may:TT→Bool):∀ l:List TT,(cmdsOf may l).length≤l.length
  | []=>Nat.le_refl _
  | s :: l=>by
    have:=cmdsOf_len may l
    rw [cmdsOf]
    split <;> simp <;> omega
theorem cmdsOf_mem {may:TT→Bool} {c:CmdE}:∀ {l:List TT},c∈cmdsOf may l→∃ s∈l,readC may s=some (some c)
  | [],h=>by cases h
  | s :: l,h=>by
    rw [cmdsOf] at h
    split at h
    · rename_i c' hc
      rcases List.mem_cons.1 h with rfl | h
      · exact⟨s,by simp,hc⟩
      · obtain⟨t,ht,e⟩:=cmdsOf_mem h
        exact⟨t,by simp [ht],e⟩
    · obtain⟨t,ht,e⟩:=cmdsOf_mem h
      exact⟨t,by simp [ht],e⟩
theorem takes_named {a:TT} (h:(takesT a).1≠0):a∈[kRead,kTry,kWrite,kScan,kEnv,kKeep,kNeed,kSort,kUniq,kUpper,kCount,kFail,kText]:=by
  unfold takesT at h
  simp only [List.mem_cons,List.not_mem_nil,or_false]
  split at h
  · rename_i h1;rcases h1 with h1 | h1 | h1 <;> simp [h1]
  · split at h
    · rename_i h1;simp [h1]
    · split at h
      · rename_i h1;rcases h1 with h1 | h1 | h1 <;> simp [h1]
      · split at h
        · rename_i h1;rcases h1 with h1 | h1 | h1 | h1 | h1 <;> simp [h1]
        · simp at h
theorem behindT_len (s:TT):(behindT s).length≤s.length:=by
  unfold behindT
  rw [List.length_drop]
  have h1:=(List.dropWhile_sublist (fun c=>!isB c) (l:=s.dropWhile isB)).length_le
  have h2:=(List.dropWhile_sublist isB (l:=s)).length_le
  omega
theorem readC_ok {may:TT→Bool} {s:TT} {c:CmdE} (h:readC may s=some (some c)) (hs:s.length≤100000):Named c∧CmdOk c:=by
  rw [readC_eq] at h
  cases hp:passedW (wordsT s) with
  | true=>rw [hp,cond_true] at h;cases h
  | false =>
    cases hok:okW may (wordsT s) with
    | true =>
      rw [hp,cond_false,hok,cond_true] at h
      injection h with h
      injection h with h
      subst h
      have hm:∀ x∈wordsT s,x.length≤1000000:=fun x hx=>by have:=(wordsT_mem hx).2.2;omega
      have hl:=wordsT_len s
      unfold cmdW
      cases hw:wordsT s with
      | nil=>rw [hw] at hok;cases hok
      | cons a r =>
        rw [hw] at hm hok hl
        simp only [okW,Bool.or_eq_true,Bool.and_eq_true,decide_eq_true_eq] at hok
        by_cases ht:a=kText
        · have:=behindT_len s
          simp only [ht,if_true]
          refine⟨by simp [Named],by simp,by simp,fun x hx=>?_,by simp only;omega⟩
          simp at hx
          subst hx
          simp
        · simp only [ht,if_false]
          refine⟨?_,by simp,by simp only;omega,hm,by simp⟩
          rcases hok with hok | hok
          · exact absurd hok ht
          · exact takes_named hok.1.2
    | false=>rw [hp,cond_false,hok,cond_false] at h;cases h
end Go.Proofs.YtnecjdhamohadaaGreatDoor
namespace Go.Proofs.YtnecjdhamohadaaGreatDoor
open Go.Lib
variable {v:Env} {O O':TT→Option KE}
def readsOf (E:List DE):List TT:=(E.filter fun d=>d.kind == 1).map (·.path)
def TaskE.isCmd:TaskE→Bool
  | .cmd _=>true
  | _=>false
def nCmd (l:List TaskE):Nat:=(l.filter TaskE.isCmd).length
structure Ev (N:Nat) (s:PS) (E:List DE):Prop where
  reads:readsOf E=s.known.map (·.1)
  writes:(writesOf E).length+nCmd s.todo+(if s.over.kind=2 then 1 else 0)≤N
  kinds:∀ d∈E,d.kind=1∨d.kind=2
  nodup:(s.known.map (·.1)).Nodup
theorem Ev.len {N:Nat} {s:PS} {E:List DE} (h:Ev N s E) (hl:Lim s):E.length≤N+500:=by
  have hs:∀ L:List DE,(∀ d∈L,d.kind=1∨d.kind=2)→L.length=(readsOf L).length+(writesOf L).length:=by
    intro L
    induction L with
    | nil=>intro _;rfl
    | cons d L ih =>
      intro hk
      have ih:=ih fun x hx=>hk x (by simp [hx])
      unfold readsOf writesOf at ih ⊢
      rw [List.filter_cons,List.filter_cons]
      rcases hk d (by simp) with e | e
      · simp [e] at ih ⊢
        omega
      · simp [e] at ih ⊢
        omega
  have h1:=hs E h.kinds
  have h2:=h.writes
  have h3:=hl.less
  rw [h.reads,List.length_map] at h1
  omega
end Go.Proofs.YtnecjdhamohadaaGreatDoor
namespace Go.Proofs.YtnecjdhamohadaaGreatDoor
open Go.Lib
def Lay (l:List TaskE):Prop:=∃ a b,l=a++b∧(∀ t∈a,t.isCmd=false)∧∀ t∈b,t.isCmd=true
theorem Lay.cmds {l:List TaskE} (h:∀ t∈l,t.isCmd=true):Lay l:=⟨[],l,rfl,fun t ht=>(by cases ht),h⟩
theorem Lay.cons {t:TaskE} {l:List TaskE} (h:Lay l) (ht:t.isCmd=false):Lay (t :: l):=by
  obtain⟨a,b,rfl,h1,h2⟩:=h
  refine⟨t :: a,b,rfl,fun x hx=>?_,h2⟩
  rcases List.mem_cons.1 hx with rfl | hx
  · exact ht
  · exact h1 x hx
theorem Lay.app {l:List TaskE} (h:Lay l):∀ {k:List TaskE},(∀ t∈k,t.isCmd=false)→Lay (k++l)
  | [],_=>h
  | t :: k,hk=>(Lay.app h (k:=k) fun x hx=>hk x (by simp [hx])).cons (hk t (by simp))
theorem Lay.tail {t:TaskE} {l:List TaskE} (h:Lay (t :: l)):Lay l:=by
  obtain⟨a,b,e,h1,h2⟩:=h
  cases a with
  | nil =>
    rw [List.nil_append] at e
    subst e
    exact .cmds fun x hx=>h2 x (by simp [hx])
  | cons y a =>
    rw [List.cons_append] at e
    injection e with _ e
    exact⟨a,b,e,fun x hx=>h1 x (by simp [hx]),h2⟩
theorem Lay.under {t:TaskE} {l:List TaskE} (h:Lay (t :: l)) (ht:t.isCmd=true):∀ x∈l,x.isCmd=true:=by
  obtain⟨a,b,e,h1,h2⟩:=h
  cases a with
  | nil =>
    rw [List.nil_append] at e
    subst e
    exact fun x hx=>h2 x (by simp [hx])
  | cons y a =>
    rw [List.cons_append] at e
    injection e with e _
    subst e
    rw [h1 t (by simp)] at ht
    cases ht
theorem Lay.grows {s s':PS} (h:Lay s.todo) (hg:Grows s s'):Lay s'.todo:=by
  rcases hg.2 with ⟨L,w,e,_⟩ | ⟨p,th,e,_⟩
  · rw [e]
    refine h.app fun t ht=>?_
    obtain⟨x,_,rfl⟩:=List.mem_map.1 ht
    rfl
  · rw [e]
    exact h.cons rfl
theorem Lay.step {v:Env} {s:PS} (h:Lay s.todo):Lay (s.step v).todo:=by
  by_cases hs:s.Still
  · rw [PS.step_still hs]
    exact h
  · cases ht:s.todo with
    | nil =>
      rw [step_nil hs ht]
      exact .cmds fun t h=>by rw [ht] at h;cases h
    | cons t r =>
      rw [step_cons hs ht]
      rw [ht] at h
      exact Lay.grows (s:={ s with todo:=r }) h.tail (grows_task _ v t)
theorem Lay.run {v:Env}:∀ (n:Nat) {s:PS},Lay s.todo→Lay (s.run v n).todo
  | 0,_,h=>h
  | n+1,_,h=>Lay.run n h.step
theorem Lay.next {s:PS} (h:Lay s.todo):Lay s.next.todo:=by
  unfold PS.next
  repeat' split
  all_goals exact h
theorem lay_start (l:List CmdE):Lay (PS.start l).todo:=.cmds fun t ht=>by
  obtain⟨c,_,rfl⟩:=List.mem_map.1 ht
  rfl
end Go.Proofs.YtnecjdhamohadaaGreatDoor
