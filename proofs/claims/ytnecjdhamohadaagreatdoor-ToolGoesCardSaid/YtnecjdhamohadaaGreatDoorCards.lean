/-
  DERIVED. GIVEN WITH THE SEED: THE CARDS: each row of YtnecjdhamohadaaGreatDoorRows.lean that lists a variable, with what it lists TIED to the program's text (the seventh form; the later family's looks); each row that meets fmt, with fmt's text TOLD by the authors' own Lean function (tested against real Go, not proved from fmt's source: count such statements apart). THE CARD IS WHAT COUNTS. Prove the row's statement (the work); the ties are given (YtnecjdhamohadaaGreatDoorTie.lean); close each card by the builder's one call (the guide's Derived/Test/ToyasCard.lean, 'card_holds'). Laid BY PROGRAM, IN A SANDBOX (cutbox-door.mjs). By AI agents, Wed Nov 11 2026. No macro, syntax, notation, axiom, sorry.
-/
import Derived.Test.YtnecjdhamohadaaGreatDoorRows
import GoSem.ClaimSeven
namespace Go.Proofs.YtnecjdhamohadaaGreatDoor
namespace Rows

/-- THE TIED CARD OF 'bloomerylaw19.ToolGoes'. -/
def toolGoesCard : Claim7 := { stood := { row := toolGoesRow, standIns := [], harness := (true, "10f18d1c7bba31f1318997ee5cc2fedef4a329a28bdb28c9484a129650b595cc"), looks := false }, kinds := [], alts := [], laidByText := true, laidKinds := [.data, .data, .data, .data, .pinned], laidTests := true, laidLooks := .later }
def ToolGoesCardSaid : Prop := Claim7.holds Tryz.pinned (.plain (OpenSpec.ofChange toolGoesSpec)) toolGoesCard

/-- THE TIED CARD OF 'bloomerylaw19.ToolAsks'. -/
def toolAsksCard : Claim7 := { stood := { row := toolAsksRow, standIns := [], harness := (true, "10f18d1c7bba31f1318997ee5cc2fedef4a329a28bdb28c9484a129650b595cc"), looks := false }, kinds := [], alts := [], laidByText := true, laidKinds := [.data, .data, .data, .data, .pinned], laidTests := true, laidLooks := .later }
def ToolAsksCardSaid : Prop := Claim7.holds Tryz.pinned (.plain (OpenSpec.ofChange toolAsksSpec)) toolAsksCard

/-- THE TIED CARD OF 'bloomerylaw19.ToolGives'. -/
def toolGivesCard : Claim7 := { stood := { row := toolGivesRow, standIns := [], harness := (true, "10f18d1c7bba31f1318997ee5cc2fedef4a329a28bdb28c9484a129650b595cc"), looks := false }, kinds := [], alts := [], laidByText := true, laidKinds := [.data, .data, .data, .data, .pinned], laidTests := true, laidLooks := .later }
def ToolGivesCardSaid : Prop := Claim7.holds Tryz.pinned (.plain (OpenSpec.ofChange toolGivesSpec)) toolGivesCard

/-- THE TIED CARD OF 'bloomerylaw19.ToolUnread'. -/
def toolUnreadCard : Claim7 := { stood := { row := toolUnreadRow, standIns := [], harness := (true, "10f18d1c7bba31f1318997ee5cc2fedef4a329a28bdb28c9484a129650b595cc"), looks := false }, kinds := [], alts := [], laidByText := true, laidKinds := [.data, .data, .data, .data, .pinned], laidTests := true, laidLooks := .later }
def ToolUnreadCardSaid : Prop := Claim7.holds Tryz.pinned (.plain (OpenSpec.ofChange toolUnreadSpec)) toolUnreadCard

/-- THE TIED CARD OF 'bloomerylaw19.ToolParts'. -/
def toolPartsCard : Claim7 := { stood := { row := toolPartsRow, standIns := [], harness := (true, "10f18d1c7bba31f1318997ee5cc2fedef4a329a28bdb28c9484a129650b595cc"), looks := false }, kinds := [], alts := [], laidByText := true, laidKinds := [.data, .data, .data, .data, .pinned], laidTests := true, laidLooks := .later }
def ToolPartsCardSaid : Prop := Claim7.holds Tryz.pinned (.plain (OpenSpec.ofChange toolPartsSpec)) toolPartsCard

/-- THE TIED CARD OF 'bloomerylaw19.ToolChecks'. -/
def toolChecksCard : Claim7 := { stood := { row := toolChecksRow, standIns := [], harness := (true, "10f18d1c7bba31f1318997ee5cc2fedef4a329a28bdb28c9484a129650b595cc"), looks := false }, kinds := [], alts := [], laidByText := true, laidKinds := [.data, .data, .data, .data, .pinned], laidTests := true, laidLooks := .later }
def ToolChecksCardSaid : Prop := Claim7.holds Tryz.pinned (.plain (OpenSpec.ofChange toolChecksSpec)) toolChecksCard

/-- THE SECOND FORM's CARD OF 'bloomerylaw19.ToolGoes'. -/
def toolGoesUptoCard : Claim7 := { stood := { row := toolGoesUptoRow, standIns := [], harness := (true, "10f18d1c7bba31f1318997ee5cc2fedef4a329a28bdb28c9484a129650b595cc"), looks := false }, kinds := [], alts := [], laidByText := true, laidKinds := [.data, .data, .data, .data, .pinned], laidTests := true, laidLooks := .later }
def ToolGoesUptoCardSaid : Prop := Claim7.holds Tryz.pinned (.plain (OpenSpec.upto toolGoesSpec)) toolGoesUptoCard

/-- THE SECOND FORM's CARD OF 'bloomerylaw19.ToolAsks'. -/
def toolAsksUptoCard : Claim7 := { stood := { row := toolAsksUptoRow, standIns := [], harness := (true, "10f18d1c7bba31f1318997ee5cc2fedef4a329a28bdb28c9484a129650b595cc"), looks := false }, kinds := [], alts := [], laidByText := true, laidKinds := [.data, .data, .data, .data, .pinned], laidTests := true, laidLooks := .later }
def ToolAsksUptoCardSaid : Prop := Claim7.holds Tryz.pinned (.plain (OpenSpec.upto toolAsksSpec)) toolAsksUptoCard

/-- THE SECOND FORM's CARD OF 'bloomerylaw19.ToolGives'. -/
def toolGivesUptoCard : Claim7 := { stood := { row := toolGivesUptoRow, standIns := [], harness := (true, "10f18d1c7bba31f1318997ee5cc2fedef4a329a28bdb28c9484a129650b595cc"), looks := false }, kinds := [], alts := [], laidByText := true, laidKinds := [.data, .data, .data, .data, .pinned], laidTests := true, laidLooks := .later }
def ToolGivesUptoCardSaid : Prop := Claim7.holds Tryz.pinned (.plain (OpenSpec.upto toolGivesSpec)) toolGivesUptoCard

/-- THE SECOND FORM's CARD OF 'bloomerylaw19.ToolUnread'. -/
def toolUnreadUptoCard : Claim7 := { stood := { row := toolUnreadUptoRow, standIns := [], harness := (true, "10f18d1c7bba31f1318997ee5cc2fedef4a329a28bdb28c9484a129650b595cc"), looks := false }, kinds := [], alts := [], laidByText := true, laidKinds := [.data, .data, .data, .data, .pinned], laidTests := true, laidLooks := .later }
def ToolUnreadUptoCardSaid : Prop := Claim7.holds Tryz.pinned (.plain (OpenSpec.upto toolUnreadSpec)) toolUnreadUptoCard

/-- THE SECOND FORM's CARD OF 'bloomerylaw19.ToolParts'. -/
def toolPartsUptoCard : Claim7 := { stood := { row := toolPartsUptoRow, standIns := [], harness := (true, "10f18d1c7bba31f1318997ee5cc2fedef4a329a28bdb28c9484a129650b595cc"), looks := false }, kinds := [], alts := [], laidByText := true, laidKinds := [.data, .data, .data, .data, .pinned], laidTests := true, laidLooks := .later }
def ToolPartsUptoCardSaid : Prop := Claim7.holds Tryz.pinned (.plain (OpenSpec.upto toolPartsSpec)) toolPartsUptoCard

/-- THE SECOND FORM's CARD OF 'bloomerylaw19.ToolChecks'. -/
def toolChecksUptoCard : Claim7 := { stood := { row := toolChecksUptoRow, standIns := [], harness := (true, "10f18d1c7bba31f1318997ee5cc2fedef4a329a28bdb28c9484a129650b595cc"), looks := false }, kinds := [], alts := [], laidByText := true, laidKinds := [.data, .data, .data, .data, .pinned], laidTests := true, laidLooks := .later }
def ToolChecksUptoCardSaid : Prop := Claim7.holds Tryz.pinned (.plain (OpenSpec.upto toolChecksSpec)) toolChecksUptoCard
end Rows
end Go.Proofs.YtnecjdhamohadaaGreatDoor
