/- The law ToolParts: its walk. -/
import Derived.Test.YtnecjdhamohadaaGreatDoorPMu
import Derived.Test.YtnecjdhamohadaaGreatDoorPMTpQ
import Derived.Test.YtnecjdhamohadaaGreatDoorPMRf2
set_option linter.unusedSimpArgs false
set_option linter.unusedVariables false
namespace Go.Proofs.YtnecjdhamohadaaGreatDoor
open Go.RowKit Go.Maps Go.Shelf
set_option maxRecDepth 100000
theorem doVs_one:∀ l:List DE,∀ v∈doVs l,v.oneCell'=true:=fun l v hv=>by
 unfold doVs at hv
 obtain⟨d,_,hd⟩:=List.mem_flatMap.1 hv
 simp [doC] at hd
 rcases hd with rfl | rfl | rfl | rfl <;> rfl
end Go.Proofs.YtnecjdhamohadaaGreatDoor
