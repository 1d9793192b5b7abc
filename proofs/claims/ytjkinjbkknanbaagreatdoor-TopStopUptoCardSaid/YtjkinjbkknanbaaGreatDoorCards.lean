/-
  DERIVED. GIVEN WITH THE SEED: THE CARDS: each row of YtjkinjbkknanbaaGreatDoorRows.lean that lists a variable, with what it lists TIED to the program's text (the seventh form; the later family's looks); each row that meets fmt, with fmt's text TOLD by the authors' own Lean function (tested against real Go, not proved from fmt's source: count such statements apart). THE CARD IS WHAT COUNTS. Prove the row's statement (the work); the ties are given (YtjkinjbkknanbaaGreatDoorTie.lean); close each card by the builder's one call (the guide's Derived/Test/ToyasCard.lean, 'card_holds'). Laid BY PROGRAM, IN A SANDBOX (cutbox-door.mjs). By AI agents, Wed Nov 11 2026. No macro, syntax, notation, axiom, sorry.
-/
import Derived.Test.YtjkinjbkknanbaaGreatDoorRows
import GoSem.ClaimSeven
namespace Go.Proofs.YtjkinjbkknanbaaGreatDoor
namespace Rows

/-- THE TIED CARD OF 'bloomerytop.TopOwners'. -/
def topOwnersCard : Claim7 := { stood := { row := topOwnersRow, standIns := [], harness := (true, "4ed6532d9e8337039d69548276a8640432d63d08656beafbb2f02810de20de17"), looks := false }, kinds := [], alts := [], laidByText := true, laidKinds := [.data, .data, .data, .data, .pinned], laidTests := true, laidLooks := .later }
def TopOwnersCardSaid : Prop := Claim7.holds Tryz.pinned (.plain (OpenSpec.ofChange topOwnersSpec)) topOwnersCard

/-- THE TIED CARD OF 'bloomerytop.TopLose'. -/
def topLoseCard : Claim7 := { stood := { row := topLoseRow, standIns := [], harness := (true, "4ed6532d9e8337039d69548276a8640432d63d08656beafbb2f02810de20de17"), looks := false }, kinds := [], alts := [], laidByText := true, laidKinds := [.data, .data, .data, .data, .pinned], laidTests := true, laidLooks := .later }
def TopLoseCardSaid : Prop := Claim7.holds Tryz.pinned (.plain (OpenSpec.ofChange topLoseSpec)) topLoseCard

/-- THE TIED CARD OF 'bloomerytop.TopStop'. -/
def topStopCard : Claim7 := { stood := { row := topStopRow, standIns := [], harness := (true, "4ed6532d9e8337039d69548276a8640432d63d08656beafbb2f02810de20de17"), looks := false }, kinds := [], alts := [], laidByText := true, laidKinds := [.data, .data, .data, .data, .pinned], laidTests := true, laidLooks := .later }
def TopStopCardSaid : Prop := Claim7.holds Tryz.pinned (.plain (OpenSpec.ofChange topStopSpec)) topStopCard

/-- THE SECOND FORM's CARD OF 'bloomerytop.TopOwners'. -/
def topOwnersUptoCard : Claim7 := { stood := { row := topOwnersUptoRow, standIns := [], harness := (true, "4ed6532d9e8337039d69548276a8640432d63d08656beafbb2f02810de20de17"), looks := false }, kinds := [], alts := [], laidByText := true, laidKinds := [.data, .data, .data, .data, .pinned], laidTests := true, laidLooks := .later }
def TopOwnersUptoCardSaid : Prop := Claim7.holds Tryz.pinned (.plain (OpenSpec.upto topOwnersSpec)) topOwnersUptoCard

/-- THE SECOND FORM's CARD OF 'bloomerytop.TopLose'. -/
def topLoseUptoCard : Claim7 := { stood := { row := topLoseUptoRow, standIns := [], harness := (true, "4ed6532d9e8337039d69548276a8640432d63d08656beafbb2f02810de20de17"), looks := false }, kinds := [], alts := [], laidByText := true, laidKinds := [.data, .data, .data, .data, .pinned], laidTests := true, laidLooks := .later }
def TopLoseUptoCardSaid : Prop := Claim7.holds Tryz.pinned (.plain (OpenSpec.upto topLoseSpec)) topLoseUptoCard

/-- THE SECOND FORM's CARD OF 'bloomerytop.TopStop'. -/
def topStopUptoCard : Claim7 := { stood := { row := topStopUptoRow, standIns := [], harness := (true, "4ed6532d9e8337039d69548276a8640432d63d08656beafbb2f02810de20de17"), looks := false }, kinds := [], alts := [], laidByText := true, laidKinds := [.data, .data, .data, .data, .pinned], laidTests := true, laidLooks := .later }
def TopStopUptoCardSaid : Prop := Claim7.holds Tryz.pinned (.plain (OpenSpec.upto topStopSpec)) topStopUptoCard
end Rows
end Go.Proofs.YtjkinjbkknanbaaGreatDoor
