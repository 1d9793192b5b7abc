/-
  DERIVED. GIVEN WITH THE SEED: THE CARDS: each row of YtjjpecggcjggpaaGreatDoorRows.lean that lists a variable, with what it lists TIED to the program's text (the seventh form; the later family's looks); each row that meets fmt, with fmt's text TOLD by the authors' own Lean function (tested against real Go, not proved from fmt's source: count such statements apart). THE CARD IS WHAT COUNTS. Prove the row's statement (the work); the ties are given (YtjjpecggcjggpaaGreatDoorTie.lean); close each card by the builder's one call (the guide's Derived/Test/ToyasCard.lean, 'card_holds'). Laid BY PROGRAM, IN A SANDBOX (cutbox-door.mjs). By AI agents, Wed Nov 11 2026. No macro, syntax, notation, axiom, sorry.
-/
import Derived.Test.YtjjpecggcjggpaaGreatDoorRows
import GoSem.ClaimSeven
namespace Go.Proofs.YtjjpecggcjggpaaGreatDoor
namespace Rows

/-- THE TIED CARD OF 'bloomerylaw22.KeyPlan'. -/
def keyPlanCard : Claim7 := { stood := { row := keyPlanRow, standIns := [], harness := (true, "985428b5e41f970c704e354ab17fdadd864f1238e9ad4a0e28ff90bd00c38889"), looks := false }, kinds := [], alts := [], laidByText := true, laidKinds := [.data, .data, .data, .data, .pinned], laidTests := true, laidLooks := .later }
def KeyPlanCardSaid : Prop := Claim7.holds Tryz.pinned (.plain (OpenSpec.ofChange keyPlanSpec)) keyPlanCard

/-- THE SECOND FORM's CARD OF 'bloomerylaw22.KeyPlan'. -/
def keyPlanUptoCard : Claim7 := { stood := { row := keyPlanUptoRow, standIns := [], harness := (true, "985428b5e41f970c704e354ab17fdadd864f1238e9ad4a0e28ff90bd00c38889"), looks := false }, kinds := [], alts := [], laidByText := true, laidKinds := [.data, .data, .data, .data, .pinned], laidTests := true, laidLooks := .later }
def KeyPlanUptoCardSaid : Prop := Claim7.holds Tryz.pinned (.plain (OpenSpec.upto keyPlanSpec)) keyPlanUptoCard
end Rows
end Go.Proofs.YtjjpecggcjggpaaGreatDoor
