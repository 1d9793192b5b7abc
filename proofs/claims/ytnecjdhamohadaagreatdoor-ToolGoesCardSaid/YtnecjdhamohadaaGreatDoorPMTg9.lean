/- Answers that are not waited for. -/
import Derived.Test.YtnecjdhamohadaaGreatDoorPMu
set_option linter.unusedSimpArgs false
set_option linter.unusedVariables false
namespace Go.Proofs.YtnecjdhamohadaaGreatDoor
open Go.RowKit Go.Maps Go.Shelf
set_option maxRecDepth 100000
theorem fit_run {v:Env}:∀ (n:Nat) {s:PS},Ord s→FitDo s.over→FitDo (s.run v n).over
 | 0,_,_,h=>h
 | n+1,_,ho,h=>fit_run n ho.step (fit_step v h ho.lim)
theorem fit_nextV {s:PS} (ho:Ord s) (h:FitDo s.over):FitDo (nextV s):=by
 unfold nextV
 split
 ·exact⟨show 1≤1000000 from by decide,show 0≤1000000 from by decide,Nat.le_trans ho.lim.asks (by decide),by simp⟩
 ·exact h
theorem gave_fit {s:PS} {k:KE} (hw:s.waits=true) (hk:k.path=s.asks) (hd:k.data.length≤65536):PS.gave s k=(0,s.give (nrm k)):=by
 rw [PS.gave,if_neg (by rw [hw];simp),if_neg (by rw [hk];simp),if_neg (by omega)]
end Go.Proofs.YtnecjdhamohadaaGreatDoor
