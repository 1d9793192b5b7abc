/- A tool's commands ahead of others: it does what it does alone, up to its end. Plain: no program is named. -/
import Derived.Test.YtnecjdhamohadaaGreatDoorPMd
set_option linter.unusedSimpArgs false
set_option linter.unusedVariables false
namespace Go.Proofs.YtnecjdhamohadaaGreatDoor
open Go.Lib
variable {v:Env} {O O':TT→Option KE}
def wzz:CmdE:=⟨[kWrite,[122,122]],[]⟩
def EndsW (s:PS):Prop:=(∃ l,s.todo=l++[.cmd wzz])∨(s.todo=[]∧s.buf=[])
theorem EndsW.step {s:PS} (h:EndsW s):EndsW (s.step v):=by
 by_cases hs:s.Still
 ·rw [PS.step_still hs];exact h
 ·cases ht:s.todo with
  | nil =>
   rw [step_nil hs ht]
   rcases h with ⟨l,h⟩ | ⟨_,h⟩
   ·rw [ht] at h
    cases l <;> cases h
   ·exact .inr ⟨ht,h⟩
  | cons t r =>
   rw [step_cons hs ht]
   rcases h with ⟨l,h⟩ | ⟨h,_⟩
   ·rw [ht] at h
    cases l with
    | nil =>
     rw [List.nil_append] at h
     cases h
     refine .inr ?_
     have:PS.task v { s with todo:=[] } (.cmd wzz)={ s with todo:=[],over:=⟨2,[122,122],s.buf,0⟩,buf:=[] }:=by
      simp [PS.task,PS.do_,wzz]
     rw [this]
     exact⟨rfl,rfl⟩
    | cons y l =>
     rw [List.cons_append] at h
     cases h
     refine .inl ?_
     obtain⟨_,g⟩:=grows_task { s with todo:=l++[.cmd wzz] } v t
     rcases g with ⟨L,w,e,_⟩ | ⟨p,th,e,_⟩
     ·exact⟨L.map (TaskE.line · w)++l,by rw [e,List.append_assoc]⟩
     ·exact⟨.ans p th :: l,by rw [e];rfl⟩
   ·rw [ht] at h;cases h
end Go.Proofs.YtnecjdhamohadaaGreatDoor
