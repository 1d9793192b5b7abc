/- The document's run of a tool: how great its state may become. No program is named. -/
import Derived.Test.YtnecjdhamohadaaGreatDoorPMd
import Derived.Test.YtnecjdhamohadaaGreatDoorPMr
set_option linter.unusedSimpArgs false
set_option linter.unusedVariables false
namespace Go.Proofs.YtnecjdhamohadaaGreatDoor
open Go.Lib
def RS.Small (r:RS):Prop:=r.asked.length≤500∧r.buf.length≤65536
theorem RS.Small.fail {r:RS} (h:r.Small) (y:Nat):(r.fail y).Small:=h
theorem RS.Small.add {r:RS} (h:r.Small) (t:TT):(r.add t).Small:=by
 unfold RS.add
 split
 ·exact h.fail 6
 ·refine⟨h.1,?_⟩
  show (r.buf++t).length≤65536
  rw [List.length_append]
  omega
theorem RS.Small.askIn {O:TT→Option KE} {r:RS} (h:r.Small) (p:TT):(RS.askIn O r p).1.Small:=by
 unfold RS.askIn
 split
 ·exact h
 ·exact h
theorem RS.Small.ask {O:TT→Option KE} {r:RS} (h:r.Small) (p:TT):(r.ask O p).1.Small:=by
 unfold RS.ask
 split
 ·exact h.askIn p
 ·split
  ·exact h.fail 6
  ·have hb:RS.Small { r with asked:=r.asked++[p] }:=by
    refine⟨?_,h.2⟩
    show (r.asked++[p]).length≤500
    have:=h.1
    rw [List.length_append,List.length_singleton]
    omega
   exact hb.askIn p
theorem askIn_found {O:TT→Option KE} {r:RS} {p:TT} (h:(RS.askIn O r p).1.stop.kind=0):O p=some (RS.askIn O r p).2:=by
 unfold RS.askIn at h ⊢
 split
 ·rename_i k hk
  exact hk
 ·rename_i hk
  rw [hk] at h
  simp at h
theorem ask_found {O:TT→Option KE} {r:RS} {p:TT} (h:(r.ask O p).1.stop.kind=0):O p=some (r.ask O p).2:=by
 unfold RS.ask at h ⊢
 split
 ·rename_i hm
  rw [if_pos hm] at h
  exact askIn_found h
 ·rename_i hm
  rw [if_neg hm] at h
  split
  ·rename_i h5
   rw [if_pos h5] at h
   simp [RS.fail] at h
  ·rename_i h5
   rw [if_neg h5] at h
   exact askIn_found h
def DOk (L d:List TT):Prop:=d.Nodup∧∀ q∈d,q∈L
theorem DOk.len {L d:List TT} (h:DOk L d):d.length≤L.length:=nodup_le h.1 h.2
def ScOk (L d:List TT) (x:RS × List TT):Prop:=x.1.Small∧x.2.length≤L.length+1∧left L x.2≤left L d∧(x.1.stop.kind=0→DOk L x.2)
theorem ScOk.trans {L d d':List TT} {x:RS × List TT} (h:ScOk L d' x) (hl:left L d'≤left L d):ScOk L d x:=⟨h.1,h.2.1,Nat.le_trans h.2.2.1 hl,h.2.2.2⟩
theorem scanL_ok {v:Env} {f:RS→TT→List TT→RS × List TT} {w:TT} {L:List TT} (hf:∀ r d p,r.Small→DOk L d→p ∉ d→ScOk L d (f r p d)) :
  ∀ (l:List TT) (r:RS) (d:List TT),r.Small→d.length≤L.length+1→(r.stop.kind=0→DOk L d)→ScOk L d (scanL v f w l r d)
 | [],r,d,hs,hl,hd=>⟨hs,hl,Nat.le_refl _,hd⟩
 | x :: l,r,d,hs,hl,hd=>by
  rw [scanL]
  split
  ·exact⟨hs,hl,Nat.le_refl _,hd⟩
  ·rename_i hk
   have hd0:=hd (by omega)
   have key:=scanL_ok (v:=v) (w:=w) hf l
   have hadd:∀ t,ScOk L d (scanL v f w l (r.add t) d):=fun t=>key _ _ (hs.add t) hl (fun _=>hd0)
   split
   ·rename_i a b hab
    split
    ·split
     ·exact key _ _ hs hl hd
     ·rename_i hb
      obtain⟨g1,g2,g3,g4⟩:=hf r d b hs hd0 hb
      exact (key _ _ g1 g2 g4).trans g3
    ·exact hadd _
   ·exact hadd _
theorem left_snoc {L d:List TT} (p:TT) (hd:p ∉ d):left L (d++[p])≤left L d:=by
 by_cases hpL:p∈L
 ·exact Nat.le_of_lt (left_more hpL hd)
 ·unfold left
  refine Nat.le_of_eq (congrArg List.length (List.filter_congr fun q hq=>?_))
  have:q≠p:=fun e=>hpL (e ▸ hq)
  simp [this]
theorem scanF_ok {v:Env} {O:TT→Option KE} {w:TT} {L:List TT} (hL:∀ p k,O p=some k→p∈L):∀ (n:Nat) (r:RS) (d:List TT) (p:TT),r.Small→DOk L d→p ∉ d→ScOk L d (scanF v O w n r p d)
 | 0,r,d,p,hs,hd,hp=>by
  have:=hd.len
  exact⟨hs,show d.length≤L.length+1 by omega,Nat.le_refl _,fun _=>hd⟩
 | n+1,r,d,p,hs,hd,hp=>by
  have hlen:(d++[p]).length≤L.length+1:=by
   have:=hd.len
   rw [List.length_append,List.length_singleton]
   omega
  have ha:=hs.ask (O:=O) p
  rw [scanF]
  split
  ·rename_i hk
   exact⟨ha,hlen,left_snoc p hp,fun e=>absurd e hk⟩
  ·rename_i hk
   have hpL:=hL p _ (ask_found (Classical.not_not.1 hk))
   have hd2:DOk L (d++[p]):=by
    refine⟨?_,fun q hq=>?_⟩
    ·rw [List.nodup_append]
     refine⟨hd.1,by simp,fun a ha b hb e=>?_⟩
     have:b=p:=by simpa using hb
     exact hp (by rw [← this,← e];exact ha)
    ·rcases List.mem_append.1 hq with h | h
     ·exact hd.2 q h
     ·have:q=p:=by simpa using h
      rw [this]
      exact hpL
   split
   ·exact⟨ha.fail 10,hlen,left_snoc p hp,fun _=>hd2⟩
   ·exact (scanL_ok (fun r d q h1 h2 h3=>scanF_ok hL n r d q h1 h2 h3) _ _ _ ha hlen (fun _=>hd2)).trans (left_snoc p hp)
end Go.Proofs.YtnecjdhamohadaaGreatDoor
