/- A tool that knows answers ahead does what it does without, but for what it need not ask. Plain: no program is named. -/
import Derived.Test.YtnecjdhamohadaaGreatDoorPMTpP
set_option linter.unusedSimpArgs false
set_option linter.unusedVariables false
namespace Go.Proofs.YtnecjdhamohadaaGreatDoor
open Go.Lib
variable {v:Env} {O:TT→Option KE}
def PS.with3 (s:PS) (kn:List (TT × KE)) (sn:List TT) (ak:TT):PS:={ s with known:=kn,seen:=sn,asks:=ak }
theorem with3_add (s:PS) (kn sn ak) (t:TT):(s.with3 kn sn ak).add t=(s.add t).with3 kn sn ak:=by
 unfold PS.add
 show (if 65536 < s.buf.length+t.length then _ else _)=_
 split <;> rfl
theorem with3_then (s:PS) (kn sn ak) (th:ThenE) (k:KE):(s.with3 kn sn ak).then_ th k=(s.then_ th k).with3 kn sn ak:=by
 cases th <;> unfold PS.then_ <;> simp only <;> split
 ·exact with3_add s _ _ _ _
 ·rfl
 ·exact with3_add s _ _ _ _
 ·rfl
 ·rfl
 ·rfl
theorem with3_set (s:PS) (kn sn ak) (l:List TT):(s.with3 kn sn ak).setLines l=(s.setLines l).with3 kn sn ak:=with3_add { s with buf:=[] } _ _ _ _
theorem with3_turn (s:PS) (kn sn ak) (n a:TT) (l:List TT):(s.with3 kn sn ak).turn n a l=(s.turn n a l).with3 kn sn ak:=by
 unfold PS.turn
 repeat' split
 all_goals first
  | exact with3_set s _ _ _ _
  | rfl
def ThenE.plain:ThenE→Bool
 | .scan _=>false
 | _=>true
def TaskE.plain:TaskE→Bool
 | .cmd _=>true
 | .ans _ th=>th.plain
 | .line _ _=>false
structure Ahead (O:TT→Option KE) (K:List (TT × KE)) (x y:PS):Prop where
 form:x=y.with3 x.known x.seen x.asks
 asks:y.waits=true→x.asks=y.asks∧getK K y.asks=none
 seen:x.seen=y.seen∨∀ t∈y.todo,t.plain=true
 has:∀ p,(getK x.known p).isSome=true ↔ ((getK y.known p).isSome=true∨(getK K p).isSome=true)
 ox:∀ p k,getK x.known p=some k→O p=some k
 oy:∀ p k,getK y.known p=some k→O p=some k
 len:x.known.length≤K.length+y.known.length
 zero:K.length=0→x.known.length=y.known.length
theorem Ahead.same {K:List (TT × KE)} {x y x' y':PS} (h:Ahead O K x y) (hw:y.waits=false) (hf:x'=y'.with3 x.known x.seen x.asks) (h1:y'.known=y.known) (h2:y'.waits=y.waits) (h3:y'.seen=y.seen) (ht:x.seen=y.seen∨∀ t∈y'.todo,t.plain=true):Ahead O K x' y':=by
 have e1:x'.known=x.known:=by rw [hf];rfl
 have e2:x'.seen=x.seen:=by rw [hf];rfl
 have e3:x'.asks=x.asks:=by rw [hf];rfl
 refine⟨by rw [e1,e2,e3];exact hf,fun e=>?_,?_,?_,?_,?_,?_,?_⟩
 ·rw [h2,hw] at e;cases e
 ·rw [e2,h3];exact ht
 ·rw [e1,h1];exact h.has
 ·rw [e1];exact h.ox
 ·rw [h1];exact h.oy
 ·rw [e1,h1];exact h.len
 ·rw [e1,h1];exact h.zero
theorem Ahead.fail {K:List (TT × KE)} {x y:PS} (h:Ahead O K x y) (hw:y.waits=false) (n:Nat):Ahead O K (x.fail n) (y.fail n) :=
 h.same hw (congrArg (PS.fail · n) h.form) rfl rfl rfl h.seen
theorem Ahead.add {K:List (TT × KE)} {x y:PS} (h:Ahead O K x y) (hw:y.waits=false) (t:TT):Ahead O K (x.add t) (y.add t):=by
 obtain⟨h1,h2,h3,_,h5⟩:=add_same y t
 exact h.same hw ((congrArg (PS.add · t) h.form).trans (with3_add y _ _ _ t)) h2 h3 h5 (by rw [h1];exact h.seen)
theorem Ahead.then_ {K:List (TT × KE)} {x y:PS} (h:Ahead O K x y) (hw:y.waits=false) (th:ThenE) (k:KE) (hth:th.plain=true∨x.seen=y.seen):Ahead O K (x.then_ th k) (y.then_ th k):=by
 have hf:=(congrArg (PS.then_ · th k) h.form).trans (with3_then y _ _ _ th k)
 cases th with
 | add =>
  unfold PS.then_
  simp only
  split
  ·exact h.add hw _
  ·exact h.fail hw _
 | try_ =>
  unfold PS.then_
  simp only
  split
  ·exact h.add hw _
  ·exact h
 | scan w =>
  have hs:x.seen=y.seen:=by
   rcases hth with e | e
   ·cases e
   ·exact e
  unfold PS.then_ at hf ⊢
  simp only at hf ⊢
  split
  ·rename_i hi
   rw [if_pos hi,if_pos hi] at hf
   exact h.same hw hf rfl rfl rfl (.inl hs)
  ·exact h.fail hw _
def Steps (O:TT→Option KE) (K:List (TT × KE)) (x y:PS):Prop :=
 Ahead O K x y ∨
 (∃ (z:PS) (p:TT) (th:ThenE) (k:KE),y={ z with asks:=p,waits:=true,todo:=.ans p th :: z.todo }∧(getK K p).isSome=true∧getK z.known p=none∧O p=some k∧z.waits=false∧z.over=y.over∧Ahead O K x (PS.then_ { z with known:=z.known++[(p,k)],asks:=[] } th k)) ∨
 (y.waits=true∧500≤K.length+y.known.length)
theorem Ahead.ask {K:List (TT × KE)} {x y:PS} (h:Ahead O K x y) (hw:y.waits=false) (p:TT) (th:ThenE) (hth:th.plain=true∨x.seen=y.seen) (hb:K.length+y.known.length≤500):Steps O K (x.ask p th) (y.ask p th):=by
 cases hy:getK y.known p with
 | some k =>
  have hx:getK x.known p=some k:=by
   have h1:=(h.has p).2 (.inl (by rw [hy];rfl))
   obtain⟨k',hk'⟩:=Option.isSome_iff_exists.1 h1
   have e1:=h.ox p k' hk'
   rw [h.oy p k hy] at e1
   cases e1
   exact hk'
  have e1:x.ask p th=x.then_ th k:=by unfold PS.ask;rw [hx]
  have e2:y.ask p th=y.then_ th k:=by unfold PS.ask;rw [hy]
  rw [e1,e2]
  exact .inl (h.then_ hw th k hth)
 | none =>
  cases hK:getK K p with
  | some k0 =>
   have h1:=(h.has p).2 (.inr (by rw [hK];rfl))
   obtain⟨k,hx⟩:=Option.isSome_iff_exists.1 h1
   have ho:=h.ox p k hx
   have hKl:K.length≠0:=fun e=>by
    have:K=[]:=List.eq_nil_of_length_eq_zero e
    rw [this] at hK
    cases hK
   have e1:x.ask p th=x.then_ th k:=by unfold PS.ask;rw [hx]
   have e2:y.ask p th={ y with asks:=p,waits:=true,todo:=.ans p th :: y.todo }:=by
    unfold PS.ask
    rw [hy]
    simp only
    rw [if_neg (by omega)]
   rw [e1,e2]
   refine .inr (.inl ⟨y,p,th,k,rfl,by rw [hK];rfl,hy,ho,hw,rfl,?_⟩)
   have hA:Ahead O K x { y with known:=y.known++[(p,k)],asks:=[] }:=by
    refine⟨h.form,fun e=>?_,h.seen,fun q=>?_,h.ox,fun q j hj=>?_,?_,fun e=>absurd e hKl⟩
    ·have:y.waits=true:=e
     rw [hw] at this;cases this
    ·show _ ↔ ((getK (y.known++[(p,k)]) q).isSome=true∨_)
     rw [getK_snoc hy,h.has q]
     split
     ·rename_i e
      subst e
      simp [hK]
     ·rfl
    ·have hj':getK (y.known++[(p,k)]) q=Option.some j:=hj
     rw [getK_snoc hy] at hj'
     split at hj'
     ·rename_i e
      cases hj'
      rw [e]
      exact ho
     ·exact h.oy q j hj'
    ·show _≤K.length+(y.known++[(p,k)]).length
     have:=h.len
     rw [List.length_append]
     omega
   exact hA.then_ hw th k hth
  | none =>
   have hx:getK x.known p=none:=by
    cases hx:getK x.known p with
    | none=>rfl
    | some k =>
     have:=(h.has p).1 (by rw [hx];rfl)
     rw [hy,hK] at this
     simp at this
   have hl:=h.len
   by_cases hy5:500≤y.known.length
   ·have hK0:K.length=0:=by omega
    have hz:=h.zero hK0
    have e1:x.ask p th=x.fail 6:=by
     unfold PS.ask
     rw [hx]
     simp only
     rw [if_pos (by omega)]
    have e2:y.ask p th=y.fail 6:=by
     unfold PS.ask
     rw [hy]
     simp only
     rw [if_pos hy5]
    rw [e1,e2]
    exact .inl (h.fail hw 6)
   ·have e2:y.ask p th={ y with asks:=p,waits:=true,todo:=.ans p th :: y.todo }:=by
     unfold PS.ask
     rw [hy]
     simp only
     rw [if_neg hy5]
    by_cases hx5:500≤x.known.length
    ·rw [e2]
     exact .inr (.inr ⟨rfl,by show 500≤K.length+y.known.length;omega⟩)
    ·have e1:x.ask p th={ x with asks:=p,waits:=true,todo:=.ans p th :: x.todo }:=by
      unfold PS.ask
      rw [hx]
      simp only
      rw [if_neg hx5]
     rw [e1,e2]
     refine .inl ⟨?_,fun _=>⟨rfl,hK⟩,?_,h.has,h.ox,h.oy,h.len,h.zero⟩
     ·have:=h.form
      show ({ x with asks:=p,waits:=true,todo:=.ans p th :: x.todo }:PS)=_
      conv=>lhs;rw [this]
      rfl
     ·show x.seen=y.seen∨_
      rcases hth with e | e
      ·rcases h.seen with e2 | e2
       ·exact .inl e2
       ·refine .inr fun t ht=>?_
        rcases List.mem_cons.1 ht with rfl | ht
        ·exact e
        ·exact e2 t ht
      ·exact .inl e
theorem Ahead.seenAs {K:List (TT × KE)} {x y:PS} (h:Ahead O K x y) (S:List TT):Ahead O K { x with seen:=S } { y with seen:=S }:=by
 refine⟨?_,h.asks,.inl rfl,h.has,h.ox,h.oy,h.len,h.zero⟩
 have:=h.form
 show ({ x with seen:=S }:PS)=_
 conv=>lhs;rw [this]
 rfl
theorem Ahead.scan {K:List (TT × KE)} {x y:PS} (h:Ahead O K x y) (hw:y.waits=false) (p w:TT) (hs:x.seen=y.seen) (hb:K.length+y.known.length≤500):Steps O K (x.scan p w) (y.scan p w):=by
 have h1:=h.seenAs (p :: y.seen)
 unfold PS.scan
 rw [hs]
 exact h1.ask hw p (.scan w) (.inr rfl) hb
theorem Ahead.turn {K:List (TT × KE)} {x y:PS} (h:Ahead O K x y) (hw:y.waits=false) (n a:TT) (l:List TT):Ahead O K (x.turn n a l) (y.turn n a l):=by
 obtain⟨h1,h2,h3,_,h5⟩:=turn_same y n a l
 exact h.same hw ((congrArg (PS.turn · n a l) h.form).trans (with3_turn y _ _ _ n a l)) h2 h3 h5 (by rw [h1];exact h.seen)
theorem Ahead.line {K:List (TT × KE)} {x y:PS} (h:Ahead O K x y) (hw:y.waits=false) (s w:TT) (hs:x.seen=y.seen) (hb:K.length+y.known.length≤500):Steps O K (x.line v s w) (y.line v s w):=by
 unfold PS.line
 rw [hs]
 repeat' split
 all_goals first
  | exact .inl h
  | exact h.scan hw _ _ hs hb
  | exact .inl (h.add hw _)
end Go.Proofs.YtnecjdhamohadaaGreatDoor
