/- The document's run of a tool: what one command does to the state's size. No program is named. -/
import Derived.Test.YtnecjdhamohadaaGreatDoorPMRgP
import Derived.Test.YtnecjdhamohadaaGreatDoorPMd
set_option linter.unusedSimpArgs false
set_option linter.unusedVariables false
namespace Go.Proofs.YtnecjdhamohadaaGreatDoor
open Go.Lib
theorem add_wrote (r:RS) (t:TT):(r.add t).wrote=r.wrote:=by
 unfold RS.add
 split <;> rfl
theorem ask_wrote (O:TT→Option KE) (r:RS) (p:TT):(r.ask O p).1.wrote=r.wrote:=by
 unfold RS.ask
 split
 ·unfold RS.askIn;split <;> rfl
 ·split
  ·rfl
  ·unfold RS.askIn;split <;> rfl
theorem scanL_wrote {v:Env} {f:RS→TT→List TT→RS × List TT} {w:TT} (hf:∀ r d p,(f r p d).1.wrote=r.wrote):∀ (l:List TT) (r:RS) (d:List TT),(scanL v f w l r d).1.wrote=r.wrote
 | [],_,_=>rfl
 | x :: l,r,d=>by
  rw [scanL]
  have key:=scanL_wrote (v:=v) (w:=w) hf l
  split
  ·rfl
  ·split
   ·split
    ·split
     ·exact key _ _
     ·exact (key _ _).trans (hf _ _ _)
    ·exact (key _ _).trans (add_wrote _ _)
   ·exact (key _ _).trans (add_wrote _ _)
theorem scanF_wrote {v:Env} {O:TT→Option KE} {w:TT}:∀ (n:Nat) (r:RS) (d:List TT) (p:TT),(scanF v O w n r p d).1.wrote=r.wrote
 | 0,_,_,_=>rfl
 | n+1,r,d,p=>by
  rw [scanF]
  split
  ·exact ask_wrote O r p
  ·split
   ·exact ask_wrote O r p
   ·exact (scanL_wrote (fun r d q=>scanF_wrote n r d q) _ _ _).trans (ask_wrote O r p)
theorem step_small {v:Env} {O:TT→Option KE} {L:List TT} (hL:∀ p k,O p=some k→p∈L) (N:Nat) {r:RS} (h:r.Small) (c:CmdE):(r.step v O N c).Small∧(r.step v O N c).wrote.length≤r.wrote.length+1:=by
 have hb:RS.Small { r with buf:=[] }:=⟨h.1,Nat.zero_le _⟩
 have ha:=fun p=>h.ask (O:=O) p
 unfold RS.step
 simp only
 split
 ·split
  ·exact⟨ha _,by rw [ask_wrote];omega⟩
  ·split
   ·exact⟨(ha _).add _,by rw [add_wrote,ask_wrote];omega⟩
   ·split
    ·exact⟨(ha _).fail 10,by show (RS.ask O r _).1.wrote.length≤_;rw [ask_wrote];omega⟩
    ·exact⟨ha _,by rw [ask_wrote];omega⟩
 ·split
  ·exact⟨(scanF_ok hL N r [] _ h ⟨List.nodup_nil,fun q hq=>by cases hq⟩ (by simp)).1,by rw [scanF_wrote];omega⟩
  ·split
   ·exact⟨h.add _,by rw [add_wrote];omega⟩
   ·split
    ·split
     ·exact⟨h.fail 10,by show r.wrote.length≤_;omega⟩
     ·exact⟨h.add _,by rw [add_wrote];omega⟩
    ·split
     ·exact⟨h.fail 15,by show r.wrote.length≤_;omega⟩
     ·split
      ·split
       ·exact⟨h,by omega⟩
       ·exact⟨h.fail 15,by show r.wrote.length≤_;omega⟩
      ·split
       ·exact⟨hb.add _,by rw [add_wrote];show r.wrote.length≤_;omega⟩
       ·split
        ·refine⟨⟨h.1,Nat.zero_le _⟩,?_⟩
         show (r.wrote++[_]).length≤_
         rw [List.length_append]
         exact Nat.le_refl _
        ·exact⟨hb.add _,by rw [add_wrote];show r.wrote.length≤_;omega⟩
theorem badL_cons {may:TT→Bool} {x:TT} {l:List TT} {i:Nat} (h:(badL may (x :: l) i).1=0):(badL may l (i+1)).1=0∧((passedW (wordsT x)=true∧cmdsOf may (x :: l)=cmdsOf may l)∨(passedW (wordsT x)=false∧okW may (wordsT x)=true∧cmdsOf may (x :: l)=cmdW x :: cmdsOf may l)):=by
 rw [badL] at h
 cases hr:readC may x with
 | none=>rw [hr] at h;simp at h
 | some o =>
  rw [hr] at h
  refine⟨h,?_⟩
  have e:=readC_eq may x
  rw [hr] at e
  cases hp:passedW (wordsT x) with
  | true =>
   refine .inl ⟨rfl,?_⟩
   rw [hp,cond_true] at e
   injection e with e
   rw [cmdsOf,hr,e]
  | false =>
   rw [hp,cond_false] at e
   cases hok:okW may (wordsT x) with
   | true =>
    rw [hok,cond_true] at e
    injection e with e
    refine .inr ⟨rfl,rfl,?_⟩
    rw [cmdsOf,hr,e]
   | false =>
    rw [hok,cond_false] at e
    cases e
end Go.Proofs.YtnecjdhamohadaaGreatDoor
