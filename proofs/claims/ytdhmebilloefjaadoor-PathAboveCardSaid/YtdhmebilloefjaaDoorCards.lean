/-
  DERIVED. GIVEN WITH THE SEED: THE CARDS: each row of YtdhmebilloefjaaDoorRows.lean that lists a variable, with what it lists TIED to the program's text (the seventh form; the later family's looks); each row that meets fmt, with fmt's text TOLD by the authors' own Lean function (tested against real Go, not proved from fmt's source: count such statements apart). THE CARD IS WHAT COUNTS. Prove the row's statement (the work); the ties are given (YtdhmebilloefjaaDoorTie.lean); close each card by the builder's one call (the guide's Derived/Test/ToyasCard.lean, 'card_holds'). Laid BY PROGRAM, IN A SANDBOX (cutbox-door.mjs). By AI agents, Wed Nov 11 2026. No macro, syntax, notation, axiom, sorry.
-/
import Derived.Test.YtdhmebilloefjaaDoorRows
import GoSem.ClaimSeven
namespace Go.Proofs.YtdhmebilloefjaaDoor
namespace Rows

/-- THE TIED CARD OF 'bloomerylaw03.PathMay'. -/
def pathMayCard : Claim7 := { stood := { row := pathMayRow, standIns := [], harness := (true, "bc1886b7c3066566d6b01cbfb2a0c0e9810620909d1692a6c7498ab82239f044"), looks := false }, kinds := [], alts := [], laidByText := true, laidKinds := [.data, .pinned], laidTests := true, laidLooks := .later }
def PathMayCardSaid : Prop := Claim7.holds Tryd.pinned (.plain (OpenSpec.ofChange pathMaySpec)) pathMayCard

/-- THE TIED CARD OF 'bloomerylaw03.PathJoins'. -/
def pathJoinsCard : Claim7 := { stood := { row := pathJoinsRow, standIns := [], harness := (true, "bc1886b7c3066566d6b01cbfb2a0c0e9810620909d1692a6c7498ab82239f044"), looks := false }, kinds := [], alts := [], laidByText := true, laidKinds := [.data, .pinned], laidTests := true, laidLooks := .later }
def PathJoinsCardSaid : Prop := Claim7.holds Tryd.pinned (.plain (OpenSpec.ofChange pathJoinsSpec)) pathJoinsCard

/-- THE TIED CARD OF 'bloomerylaw03.PathUnder'. -/
def pathUnderCard : Claim7 := { stood := { row := pathUnderRow, standIns := [], harness := (true, "bc1886b7c3066566d6b01cbfb2a0c0e9810620909d1692a6c7498ab82239f044"), looks := false }, kinds := [], alts := [], laidByText := true, laidKinds := [.data, .pinned], laidTests := true, laidLooks := .later }
def PathUnderCardSaid : Prop := Claim7.holds Tryd.pinned (.plain (OpenSpec.ofChange pathUnderSpec)) pathUnderCard

/-- THE TIED CARD OF 'bloomerylaw03.PathParts'. -/
def pathPartsCard : Claim7 := { stood := { row := pathPartsRow, standIns := [], harness := (true, "bc1886b7c3066566d6b01cbfb2a0c0e9810620909d1692a6c7498ab82239f044"), looks := false }, kinds := [], alts := [], laidByText := true, laidKinds := [.data, .pinned], laidTests := true, laidLooks := .later }
def PathPartsCardSaid : Prop := Claim7.holds Tryd.pinned (.plain (OpenSpec.ofChange pathPartsSpec)) pathPartsCard

/-- THE TIED CARD OF 'bloomerylaw03.PathAbove'. -/
def pathAboveCard : Claim7 := { stood := { row := pathAboveRow, standIns := [], harness := (true, "bc1886b7c3066566d6b01cbfb2a0c0e9810620909d1692a6c7498ab82239f044"), looks := false }, kinds := [], alts := [], laidByText := true, laidKinds := [.data, .pinned], laidTests := true, laidLooks := .later }
def PathAboveCardSaid : Prop := Claim7.holds Tryd.pinned (.plain (OpenSpec.ofChange pathAboveSpec)) pathAboveCard

/-- THE SECOND FORM's CARD OF 'bloomerylaw03.PathMay'. -/
def pathMayUptoCard : Claim7 := { stood := { row := pathMayUptoRow, standIns := [], harness := (true, "bc1886b7c3066566d6b01cbfb2a0c0e9810620909d1692a6c7498ab82239f044"), looks := false }, kinds := [], alts := [], laidByText := true, laidKinds := [.data, .pinned], laidTests := true, laidLooks := .later }
def PathMayUptoCardSaid : Prop := Claim7.holds Tryd.pinned (.plain (OpenSpec.upto pathMaySpec)) pathMayUptoCard

/-- THE SECOND FORM's CARD OF 'bloomerylaw03.PathJoins'. -/
def pathJoinsUptoCard : Claim7 := { stood := { row := pathJoinsUptoRow, standIns := [], harness := (true, "bc1886b7c3066566d6b01cbfb2a0c0e9810620909d1692a6c7498ab82239f044"), looks := false }, kinds := [], alts := [], laidByText := true, laidKinds := [.data, .pinned], laidTests := true, laidLooks := .later }
def PathJoinsUptoCardSaid : Prop := Claim7.holds Tryd.pinned (.plain (OpenSpec.upto pathJoinsSpec)) pathJoinsUptoCard

/-- THE SECOND FORM's CARD OF 'bloomerylaw03.PathUnder'. -/
def pathUnderUptoCard : Claim7 := { stood := { row := pathUnderUptoRow, standIns := [], harness := (true, "bc1886b7c3066566d6b01cbfb2a0c0e9810620909d1692a6c7498ab82239f044"), looks := false }, kinds := [], alts := [], laidByText := true, laidKinds := [.data, .pinned], laidTests := true, laidLooks := .later }
def PathUnderUptoCardSaid : Prop := Claim7.holds Tryd.pinned (.plain (OpenSpec.upto pathUnderSpec)) pathUnderUptoCard

/-- THE SECOND FORM's CARD OF 'bloomerylaw03.PathParts'. -/
def pathPartsUptoCard : Claim7 := { stood := { row := pathPartsUptoRow, standIns := [], harness := (true, "bc1886b7c3066566d6b01cbfb2a0c0e9810620909d1692a6c7498ab82239f044"), looks := false }, kinds := [], alts := [], laidByText := true, laidKinds := [.data, .pinned], laidTests := true, laidLooks := .later }
def PathPartsUptoCardSaid : Prop := Claim7.holds Tryd.pinned (.plain (OpenSpec.upto pathPartsSpec)) pathPartsUptoCard

/-- THE SECOND FORM's CARD OF 'bloomerylaw03.PathAbove'. -/
def pathAboveUptoCard : Claim7 := { stood := { row := pathAboveUptoRow, standIns := [], harness := (true, "bc1886b7c3066566d6b01cbfb2a0c0e9810620909d1692a6c7498ab82239f044"), looks := false }, kinds := [], alts := [], laidByText := true, laidKinds := [.data, .pinned], laidTests := true, laidLooks := .later }
def PathAboveUptoCardSaid : Prop := Claim7.holds Tryd.pinned (.plain (OpenSpec.upto pathAboveSpec)) pathAboveUptoCard
end Rows
end Go.Proofs.YtdhmebilloefjaaDoor
