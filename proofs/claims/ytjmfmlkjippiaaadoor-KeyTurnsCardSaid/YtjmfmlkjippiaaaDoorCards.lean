/-
  DERIVED. GIVEN WITH THE SEED: THE CARDS: each row of YtjmfmlkjippiaaaDoorRows.lean that lists a variable, with what it lists TIED to the program's text (the seventh form; the later family's looks); each row that meets fmt, with fmt's text TOLD by the authors' own Lean function (tested against real Go, not proved from fmt's source: count such statements apart). THE CARD IS WHAT COUNTS. Prove the row's statement (the work); the ties are given (YtjmfmlkjippiaaaDoorTie.lean); close each card by the builder's one call (the guide's Derived/Test/ToyasCard.lean, 'card_holds'). Laid BY PROGRAM, IN A SANDBOX (cutbox-door.mjs). By AI agents, Wed Nov 11 2026. No macro, syntax, notation, axiom, sorry.
-/
import Derived.Test.YtjmfmlkjippiaaaDoorRows
import GoSem.ClaimSeven
namespace Go.Proofs.YtjmfmlkjippiaaaDoor
namespace Rows

/-- THE TIED CARD OF 'bloomerylaw22.KeyTexts'. -/
def keyTextsCard : Claim7 := { stood := { row := keyTextsRow, standIns := [], harness := (true, "1faaa91596168392e793397731de7fce3a059a8b9a9dbbc98c150b20d66ab3b1"), looks := false }, kinds := [], alts := [], laidByText := true, laidKinds := [.data, .data, .data], laidTests := true, laidLooks := .later }
def KeyTextsCardSaid : Prop := Claim7.holds Tryd.pinned (.plain (OpenSpec.ofChange keyTextsSpec)) keyTextsCard

/-- THE TIED CARD OF 'bloomerylaw22.KeySums'. -/
def keySumsCard : Claim7 := { stood := { row := keySumsRow, standIns := [], harness := (true, "1faaa91596168392e793397731de7fce3a059a8b9a9dbbc98c150b20d66ab3b1"), looks := false }, kinds := [], alts := [], laidByText := true, laidKinds := [.data, .data, .data], laidTests := true, laidLooks := .later }
def KeySumsCardSaid : Prop := Claim7.holds Tryd.pinned (.plain (OpenSpec.ofChange keySumsSpec)) keySumsCard

/-- THE TIED CARD OF 'bloomerylaw22.KeySame'. -/
def keySameCard : Claim7 := { stood := { row := keySameRow, standIns := [], harness := (true, "1faaa91596168392e793397731de7fce3a059a8b9a9dbbc98c150b20d66ab3b1"), looks := false }, kinds := [], alts := [], laidByText := true, laidKinds := [.data, .data, .data], laidTests := true, laidLooks := .later }
def KeySameCardSaid : Prop := Claim7.holds Tryd.pinned (.plain (OpenSpec.ofChange keySameSpec)) keySameCard

/-- THE TIED CARD OF 'bloomerylaw22.KeyTurns'. -/
def keyTurnsCard : Claim7 := { stood := { row := keyTurnsRow, standIns := [], harness := (true, "1faaa91596168392e793397731de7fce3a059a8b9a9dbbc98c150b20d66ab3b1"), looks := false }, kinds := [], alts := [], laidByText := true, laidKinds := [.data, .data, .data], laidTests := true, laidLooks := .later }
def KeyTurnsCardSaid : Prop := Claim7.holds Tryd.pinned (.plain (OpenSpec.ofChange keyTurnsSpec)) keyTurnsCard

/-- THE SECOND FORM's CARD OF 'bloomerylaw22.KeyTexts'. -/
def keyTextsUptoCard : Claim7 := { stood := { row := keyTextsUptoRow, standIns := [], harness := (true, "1faaa91596168392e793397731de7fce3a059a8b9a9dbbc98c150b20d66ab3b1"), looks := false }, kinds := [], alts := [], laidByText := true, laidKinds := [.data, .data, .data], laidTests := true, laidLooks := .later }
def KeyTextsUptoCardSaid : Prop := Claim7.holds Tryd.pinned (.plain (OpenSpec.upto keyTextsSpec)) keyTextsUptoCard

/-- THE SECOND FORM's CARD OF 'bloomerylaw22.KeySums'. -/
def keySumsUptoCard : Claim7 := { stood := { row := keySumsUptoRow, standIns := [], harness := (true, "1faaa91596168392e793397731de7fce3a059a8b9a9dbbc98c150b20d66ab3b1"), looks := false }, kinds := [], alts := [], laidByText := true, laidKinds := [.data, .data, .data], laidTests := true, laidLooks := .later }
def KeySumsUptoCardSaid : Prop := Claim7.holds Tryd.pinned (.plain (OpenSpec.upto keySumsSpec)) keySumsUptoCard

/-- THE SECOND FORM's CARD OF 'bloomerylaw22.KeySame'. -/
def keySameUptoCard : Claim7 := { stood := { row := keySameUptoRow, standIns := [], harness := (true, "1faaa91596168392e793397731de7fce3a059a8b9a9dbbc98c150b20d66ab3b1"), looks := false }, kinds := [], alts := [], laidByText := true, laidKinds := [.data, .data, .data], laidTests := true, laidLooks := .later }
def KeySameUptoCardSaid : Prop := Claim7.holds Tryd.pinned (.plain (OpenSpec.upto keySameSpec)) keySameUptoCard

/-- THE SECOND FORM's CARD OF 'bloomerylaw22.KeyTurns'. -/
def keyTurnsUptoCard : Claim7 := { stood := { row := keyTurnsUptoRow, standIns := [], harness := (true, "1faaa91596168392e793397731de7fce3a059a8b9a9dbbc98c150b20d66ab3b1"), looks := false }, kinds := [], alts := [], laidByText := true, laidKinds := [.data, .data, .data], laidTests := true, laidLooks := .later }
def KeyTurnsUptoCardSaid : Prop := Claim7.holds Tryd.pinned (.plain (OpenSpec.upto keyTurnsSpec)) keyTurnsUptoCard
end Rows
end Go.Proofs.YtjmfmlkjippiaaaDoor
