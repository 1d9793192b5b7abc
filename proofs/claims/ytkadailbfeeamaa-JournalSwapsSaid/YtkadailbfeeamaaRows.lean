/-
  No cell of these rows narrows 'for every input' (looked for: loops, veiled, ifaces, maps, wideKeys, modest, calm, conditions, laid).
  DERIVED. THE GIVEN ROWS OF THIS SEAT. 10 by the template 'for every input the law returns true; each argument reads behind the call as it read before'; 0 by the template 'total and deterministic' (their statements: YtkadailbfeeamaaTotals.lean).
  GIVEN WITH THE SEED: the statements are not yours to turn. If you find one false, say at which input.
  Laid BY PROGRAM, IN A SANDBOX (cutbox-rows.mjs): the forced cells as the released guide's own fill.sh prints them over the translation 6a11df6851f38f57… (all of the seat's roots in one cut). By AI agents, Wed Nov 11 2026. No macro, syntax, notation, axiom, sorry.
-/
import Derived.Test.YtkadailbfeeamaaChecked
import GoSem.Claim
import GoSem.ClaimJoined
import GoSem.ClaimMapViews
import Derived.JoinedTies
import Derived.KernelRfl
namespace Go.Proofs.Ytkadailbfeeamaa
/- THE CELL 'sum', in the pinned program and in every row, IS THE sha256 OF THE DUMP (.gsa) THAT YtkadailbfeeamaaProg.lean LOADS. Nothing in Lean hashes anything: it is a label: what it is worth is what the hold of that sum in a sandbox is worth. -/
noncomputable def Try.pinned : Pinned := { name := "ytkadailbfeeamaa", sum := "6a11df6851f38f577672fdd2244206f87d9e283c7a5a3be827841933c30eabfe", checked := Try.checked }
namespace Rows
def none {H : Type} : Left H := { results := [], args := [] }

/-- 'bloomerylaw08.JournalFrames': WHATEVER THE INPUT: true; the input reads as it did. -/
def journalFramesSpec : ChangeSpec := { name := "journalFrames", fn := fun _ => fun
  | [d1, d2] => { results := [.lit (.bool true)], args := [d1, d2] }
  | _ => none }
def journalFramesRow : OpenClaim := { program := "ytkadailbfeeamaa", sum := "6a11df6851f38f577672fdd2244206f87d9e283c7a5a3be827841933c30eabfe", func := "bloomery/bloomerylaw08.JournalFrames", spec := "journalFrames", recurses := true, apart := false }
def JournalFramesSaid : Prop := journalFramesRow.holds Try.pinned (OpenSpec.ofChange journalFramesSpec)

/-- ITS FALSE NEIGHBOUR: 'it returns false'. Refute it at one input. -/
def journalFramesWrong : ChangeSpec := { name := "journalFrames", fn := fun _ => fun
  | [d1, d2] => { results := [.lit (.bool false)], args := [d1, d2] }
  | _ => none }
def JournalFramesWrongFalsely : Prop := journalFramesRow.holds Try.pinned (OpenSpec.ofChange journalFramesWrong)

/-- 'bloomerylaw02.ShaSums': WHATEVER THE INPUT: true; the input reads as it did. -/
def shaSumsSpec : ChangeSpec := { name := "shaSums", fn := fun _ => fun
  | [d] => { results := [.lit (.bool true)], args := [d] }
  | _ => none }
def shaSumsRow : OpenClaim := { program := "ytkadailbfeeamaa", sum := "6a11df6851f38f577672fdd2244206f87d9e283c7a5a3be827841933c30eabfe", func := "bloomery/bloomerylaw02.ShaSums", spec := "shaSums", inPlace := ["internal/abi.NoEscape"], recurses := true, apart := false }
def ShaSumsSaid : Prop := shaSumsRow.holds Try.pinned (OpenSpec.ofChange shaSumsSpec)

/-- ITS FALSE NEIGHBOUR: 'it returns false'. Refute it at one input. -/
def shaSumsWrong : ChangeSpec := { name := "shaSums", fn := fun _ => fun
  | [d] => { results := [.lit (.bool false)], args := [d] }
  | _ => none }
def ShaSumsWrongFalsely : Prop := shaSumsRow.holds Try.pinned (OpenSpec.ofChange shaSumsWrong)

/-- 'bloomerylaw02.ShaCuts': WHATEVER THE INPUT: true; the input reads as it did. -/
def shaCutsSpec : ChangeSpec := { name := "shaCuts", fn := fun _ => fun
  | [d] => { results := [.lit (.bool true)], args := [d] }
  | _ => none }
def shaCutsRow : OpenClaim := { program := "ytkadailbfeeamaa", sum := "6a11df6851f38f577672fdd2244206f87d9e283c7a5a3be827841933c30eabfe", func := "bloomery/bloomerylaw02.ShaCuts", spec := "shaCuts", inPlace := ["internal/abi.NoEscape"], recurses := true, apart := false }
def ShaCutsSaid : Prop := shaCutsRow.holds Try.pinned (OpenSpec.ofChange shaCutsSpec)

/-- ITS FALSE NEIGHBOUR: 'it returns false'. Refute it at one input. -/
def shaCutsWrong : ChangeSpec := { name := "shaCuts", fn := fun _ => fun
  | [d] => { results := [.lit (.bool false)], args := [d] }
  | _ => none }
def ShaCutsWrongFalsely : Prop := shaCutsRow.holds Try.pinned (OpenSpec.ofChange shaCutsWrong)

/-- 'bloomerylaw02.ShaLong': WHATEVER THE INPUT: true; the input reads as it did. -/
def shaLongSpec : ChangeSpec := { name := "shaLong", fn := fun _ => fun
  | [d1, d2] => { results := [.lit (.bool true)], args := [d1, d2] }
  | _ => none }
def shaLongRow : OpenClaim := { program := "ytkadailbfeeamaa", sum := "6a11df6851f38f577672fdd2244206f87d9e283c7a5a3be827841933c30eabfe", func := "bloomery/bloomerylaw02.ShaLong", spec := "shaLong", inPlace := ["internal/abi.NoEscape"], recurses := true, apart := false }
def ShaLongSaid : Prop := shaLongRow.holds Try.pinned (OpenSpec.ofChange shaLongSpec)

/-- ITS FALSE NEIGHBOUR: 'it returns false'. Refute it at one input. -/
def shaLongWrong : ChangeSpec := { name := "shaLong", fn := fun _ => fun
  | [d1, d2] => { results := [.lit (.bool false)], args := [d1, d2] }
  | _ => none }
def ShaLongWrongFalsely : Prop := shaLongRow.holds Try.pinned (OpenSpec.ofChange shaLongWrong)

/-- 'bloomerylaw02.ShaNil': WHATEVER THE INPUT: true; the input reads as it did. -/
def shaNilSpec : ChangeSpec := { name := "shaNil", fn := fun _ => fun
  | [d] => { results := [.lit (.bool true)], args := [d] }
  | _ => none }
def shaNilRow : OpenClaim := { program := "ytkadailbfeeamaa", sum := "6a11df6851f38f577672fdd2244206f87d9e283c7a5a3be827841933c30eabfe", func := "bloomery/bloomerylaw02.ShaNil", spec := "shaNil", inPlace := ["internal/abi.NoEscape"], recurses := true, apart := false }
def ShaNilSaid : Prop := shaNilRow.holds Try.pinned (OpenSpec.ofChange shaNilSpec)

/-- ITS FALSE NEIGHBOUR: 'it returns false'. Refute it at one input. -/
def shaNilWrong : ChangeSpec := { name := "shaNil", fn := fun _ => fun
  | [d] => { results := [.lit (.bool false)], args := [d] }
  | _ => none }
def ShaNilWrongFalsely : Prop := shaNilRow.holds Try.pinned (OpenSpec.ofChange shaNilWrong)

/-- 'bloomerylaw08.JournalScans': WHATEVER THE INPUT: true; the input reads as it did. -/
def journalScansSpec : ChangeSpec := { name := "journalScans", fn := fun _ => fun
  | [d] => { results := [.lit (.bool true)], args := [d] }
  | _ => none }
def journalScansRow : OpenClaim := { program := "ytkadailbfeeamaa", sum := "6a11df6851f38f577672fdd2244206f87d9e283c7a5a3be827841933c30eabfe", func := "bloomery/bloomerylaw08.JournalScans", spec := "journalScans", recurses := true, apart := false }
def JournalScansSaid : Prop := journalScansRow.holds Try.pinned (OpenSpec.ofChange journalScansSpec)

/-- ITS FALSE NEIGHBOUR: 'it returns false'. Refute it at one input. -/
def journalScansWrong : ChangeSpec := { name := "journalScans", fn := fun _ => fun
  | [d] => { results := [.lit (.bool false)], args := [d] }
  | _ => none }
def JournalScansWrongFalsely : Prop := journalScansRow.holds Try.pinned (OpenSpec.ofChange journalScansWrong)

/-- 'bloomerylaw08.JournalTails': WHATEVER THE INPUT: true; the input reads as it did. -/
def journalTailsSpec : ChangeSpec := { name := "journalTails", fn := fun _ => fun
  | [d1, d2, d3] => { results := [.lit (.bool true)], args := [d1, d2, d3] }
  | _ => none }
def journalTailsRow : OpenClaim := { program := "ytkadailbfeeamaa", sum := "6a11df6851f38f577672fdd2244206f87d9e283c7a5a3be827841933c30eabfe", func := "bloomery/bloomerylaw08.JournalTails", spec := "journalTails", recurses := true, apart := false }
def JournalTailsSaid : Prop := journalTailsRow.holds Try.pinned (OpenSpec.ofChange journalTailsSpec)

/-- ITS FALSE NEIGHBOUR: 'it returns false'. Refute it at one input. -/
def journalTailsWrong : ChangeSpec := { name := "journalTails", fn := fun _ => fun
  | [d1, d2, d3] => { results := [.lit (.bool false)], args := [d1, d2, d3] }
  | _ => none }
def JournalTailsWrongFalsely : Prop := journalTailsRow.holds Try.pinned (OpenSpec.ofChange journalTailsWrong)

/-- 'bloomerylaw02.ShaTexts': WHATEVER THE INPUT: true; the input reads as it did. -/
def shaTextsSpec : ChangeSpec := { name := "shaTexts", fn := fun _ => fun
  | [d1, d2] => { results := [.lit (.bool true)], args := [d1, d2] }
  | _ => none }
def shaTextsRow : OpenClaim := { program := "ytkadailbfeeamaa", sum := "6a11df6851f38f577672fdd2244206f87d9e283c7a5a3be827841933c30eabfe", func := "bloomery/bloomerylaw02.ShaTexts", spec := "shaTexts", inPlace := ["internal/abi.NoEscape", "internal/bytealg.IndexByteString"], recurses := true, apart := false }
def ShaTextsSaid : Prop := shaTextsRow.holds Try.pinned (OpenSpec.ofChange shaTextsSpec)

/-- ITS FALSE NEIGHBOUR: 'it returns false'. Refute it at one input. -/
def shaTextsWrong : ChangeSpec := { name := "shaTexts", fn := fun _ => fun
  | [d1, d2] => { results := [.lit (.bool false)], args := [d1, d2] }
  | _ => none }
def ShaTextsWrongFalsely : Prop := shaTextsRow.holds Try.pinned (OpenSpec.ofChange shaTextsWrong)

/-- 'bloomerylaw08.JournalSure': WHATEVER THE INPUT: true; the input reads as it did. -/
def journalSureSpec : ChangeSpec := { name := "journalSure", fn := fun _ => fun
  | [d1, d2, d3] => { results := [.lit (.bool true)], args := [d1, d2, d3] }
  | _ => none }
def journalSureRow : OpenClaim := { program := "ytkadailbfeeamaa", sum := "6a11df6851f38f577672fdd2244206f87d9e283c7a5a3be827841933c30eabfe", func := "bloomery/bloomerylaw08.JournalSure", spec := "journalSure", unfollowed := true, recurses := true, apart := false }
def JournalSureSaid : Prop := journalSureRow.holds Try.pinned (OpenSpec.ofChange journalSureSpec)

/-- ITS FALSE NEIGHBOUR: 'it returns false'. Refute it at one input. -/
def journalSureWrong : ChangeSpec := { name := "journalSure", fn := fun _ => fun
  | [d1, d2, d3] => { results := [.lit (.bool false)], args := [d1, d2, d3] }
  | _ => none }
def JournalSureWrongFalsely : Prop := journalSureRow.holds Try.pinned (OpenSpec.ofChange journalSureWrong)

/-- 'bloomerylaw08.JournalSwaps': WHATEVER THE INPUT: true; the input reads as it did. -/
def journalSwapsSpec : ChangeSpec := { name := "journalSwaps", fn := fun _ => fun
  | [d1, d2, d3, d4] => { results := [.lit (.bool true)], args := [d1, d2, d3, d4] }
  | _ => none }
def journalSwapsRow : OpenClaim := { program := "ytkadailbfeeamaa", sum := "6a11df6851f38f577672fdd2244206f87d9e283c7a5a3be827841933c30eabfe", func := "bloomery/bloomerylaw08.JournalSwaps", spec := "journalSwaps", inPlace := ["internal/abi.NoEscape"], unfollowed := true, recurses := true, apart := false }
def JournalSwapsSaid : Prop := journalSwapsRow.holds Try.pinned (OpenSpec.ofChange journalSwapsSpec)

/-- ITS FALSE NEIGHBOUR: 'it returns false'. Refute it at one input. -/
def journalSwapsWrong : ChangeSpec := { name := "journalSwaps", fn := fun _ => fun
  | [d1, d2, d3, d4] => { results := [.lit (.bool false)], args := [d1, d2, d3, d4] }
  | _ => none }
def JournalSwapsWrongFalsely : Prop := journalSwapsRow.holds Try.pinned (OpenSpec.ofChange journalSwapsWrong)

/- THE SECOND FORM. 'bulk': how many values and letters a reading holds, each counted each time it is reached (what is shared counts as often as it is met; a slice's spare places count too). A statement '..UptoSaid' is the law's where the arguments, and the package variables that the reading takes, are together of bulk at most 1048576: NARROWER than '..Said'. Prove '..Said' where nothing that the law and all that it calls make is longer than what came in: it says more and counts as full. Else prove '..UptoSaid'. A law counts once. -/
mutual
def uptoBulk {H : Type} : DataW H → Nat
  | .lit (.string bytes) => bytes.length + 1
  | .lit _ => 1
  | .nil => 1
  | .ptr d => uptoBulk d + 1
  | .slice elems spare => uptoBulkAll elems + uptoBulkAll spare + 1
  | .agg parts => uptoBulkAll parts + 1
  | .iface _ d => uptoBulk d + 1
  | .map entries => uptoBulkEntries entries + 1
  | .held _ => 1
def uptoBulkAll {H : Type} : List (DataW H) → Nat
  | [] => 0
  | d :: r => uptoBulk d + uptoBulkAll r
def uptoBulkEntries {H : Type} : List (Lit × DataW H) → Nat
  | [] => 0
  | x :: r => uptoBulkEntry x + uptoBulkEntries r
def uptoBulkEntry {H : Type} : Lit × DataW H → Nat
  | (.string bytes, d) => bytes.length + uptoBulk d + 1
  | (_, d) => uptoBulk d + 1
 end
def uptoSmall : (H : Type) → List (DataW H) → Bool := fun _ ds => decide (uptoBulkAll ds ≤ 1048576)
def OpenSpec.upto (s : _root_.Go.ChangeSpec) : _root_.Go.OpenSpec := { _root_.Go.OpenSpec.ofChange s with cond := some uptoSmall }

/-- 'bloomerylaw08.JournalFrames', WHERE WHAT IT READS IS OF BULK AT MOST 1048576: true; the input reads as it did. -/
def journalFramesUptoRow : OpenClaim := { program := "ytkadailbfeeamaa", sum := "6a11df6851f38f577672fdd2244206f87d9e283c7a5a3be827841933c30eabfe", func := "bloomery/bloomerylaw08.JournalFrames", spec := "journalFrames", recurses := true, apart := false, narrowed := true }
def JournalFramesUptoSaid : Prop := journalFramesUptoRow.holds Try.pinned (OpenSpec.upto journalFramesSpec)

/-- 'bloomerylaw02.ShaSums', WHERE WHAT IT READS IS OF BULK AT MOST 1048576: true; the input reads as it did. -/
def shaSumsUptoRow : OpenClaim := { program := "ytkadailbfeeamaa", sum := "6a11df6851f38f577672fdd2244206f87d9e283c7a5a3be827841933c30eabfe", func := "bloomery/bloomerylaw02.ShaSums", spec := "shaSums", inPlace := ["internal/abi.NoEscape"], recurses := true, apart := false, narrowed := true }
def ShaSumsUptoSaid : Prop := shaSumsUptoRow.holds Try.pinned (OpenSpec.upto shaSumsSpec)

/-- 'bloomerylaw02.ShaCuts', WHERE WHAT IT READS IS OF BULK AT MOST 1048576: true; the input reads as it did. -/
def shaCutsUptoRow : OpenClaim := { program := "ytkadailbfeeamaa", sum := "6a11df6851f38f577672fdd2244206f87d9e283c7a5a3be827841933c30eabfe", func := "bloomery/bloomerylaw02.ShaCuts", spec := "shaCuts", inPlace := ["internal/abi.NoEscape"], recurses := true, apart := false, narrowed := true }
def ShaCutsUptoSaid : Prop := shaCutsUptoRow.holds Try.pinned (OpenSpec.upto shaCutsSpec)

/-- 'bloomerylaw02.ShaLong', WHERE WHAT IT READS IS OF BULK AT MOST 1048576: true; the input reads as it did. -/
def shaLongUptoRow : OpenClaim := { program := "ytkadailbfeeamaa", sum := "6a11df6851f38f577672fdd2244206f87d9e283c7a5a3be827841933c30eabfe", func := "bloomery/bloomerylaw02.ShaLong", spec := "shaLong", inPlace := ["internal/abi.NoEscape"], recurses := true, apart := false, narrowed := true }
def ShaLongUptoSaid : Prop := shaLongUptoRow.holds Try.pinned (OpenSpec.upto shaLongSpec)

/-- 'bloomerylaw02.ShaNil', WHERE WHAT IT READS IS OF BULK AT MOST 1048576: true; the input reads as it did. -/
def shaNilUptoRow : OpenClaim := { program := "ytkadailbfeeamaa", sum := "6a11df6851f38f577672fdd2244206f87d9e283c7a5a3be827841933c30eabfe", func := "bloomery/bloomerylaw02.ShaNil", spec := "shaNil", inPlace := ["internal/abi.NoEscape"], recurses := true, apart := false, narrowed := true }
def ShaNilUptoSaid : Prop := shaNilUptoRow.holds Try.pinned (OpenSpec.upto shaNilSpec)

/-- 'bloomerylaw08.JournalScans', WHERE WHAT IT READS IS OF BULK AT MOST 1048576: true; the input reads as it did. -/
def journalScansUptoRow : OpenClaim := { program := "ytkadailbfeeamaa", sum := "6a11df6851f38f577672fdd2244206f87d9e283c7a5a3be827841933c30eabfe", func := "bloomery/bloomerylaw08.JournalScans", spec := "journalScans", recurses := true, apart := false, narrowed := true }
def JournalScansUptoSaid : Prop := journalScansUptoRow.holds Try.pinned (OpenSpec.upto journalScansSpec)

/-- 'bloomerylaw08.JournalTails', WHERE WHAT IT READS IS OF BULK AT MOST 1048576: true; the input reads as it did. -/
def journalTailsUptoRow : OpenClaim := { program := "ytkadailbfeeamaa", sum := "6a11df6851f38f577672fdd2244206f87d9e283c7a5a3be827841933c30eabfe", func := "bloomery/bloomerylaw08.JournalTails", spec := "journalTails", recurses := true, apart := false, narrowed := true }
def JournalTailsUptoSaid : Prop := journalTailsUptoRow.holds Try.pinned (OpenSpec.upto journalTailsSpec)

/-- 'bloomerylaw02.ShaTexts', WHERE WHAT IT READS IS OF BULK AT MOST 1048576: true; the input reads as it did. -/
def shaTextsUptoRow : OpenClaim := { program := "ytkadailbfeeamaa", sum := "6a11df6851f38f577672fdd2244206f87d9e283c7a5a3be827841933c30eabfe", func := "bloomery/bloomerylaw02.ShaTexts", spec := "shaTexts", inPlace := ["internal/abi.NoEscape", "internal/bytealg.IndexByteString"], recurses := true, apart := false, narrowed := true }
def ShaTextsUptoSaid : Prop := shaTextsUptoRow.holds Try.pinned (OpenSpec.upto shaTextsSpec)

/-- 'bloomerylaw08.JournalSure', WHERE WHAT IT READS IS OF BULK AT MOST 1048576: true; the input reads as it did. -/
def journalSureUptoRow : OpenClaim := { program := "ytkadailbfeeamaa", sum := "6a11df6851f38f577672fdd2244206f87d9e283c7a5a3be827841933c30eabfe", func := "bloomery/bloomerylaw08.JournalSure", spec := "journalSure", unfollowed := true, recurses := true, apart := false, narrowed := true }
def JournalSureUptoSaid : Prop := journalSureUptoRow.holds Try.pinned (OpenSpec.upto journalSureSpec)

/-- 'bloomerylaw08.JournalSwaps', WHERE WHAT IT READS IS OF BULK AT MOST 1048576: true; the input reads as it did. -/
def journalSwapsUptoRow : OpenClaim := { program := "ytkadailbfeeamaa", sum := "6a11df6851f38f577672fdd2244206f87d9e283c7a5a3be827841933c30eabfe", func := "bloomery/bloomerylaw08.JournalSwaps", spec := "journalSwaps", inPlace := ["internal/abi.NoEscape"], unfollowed := true, recurses := true, apart := false, narrowed := true }
def JournalSwapsUptoSaid : Prop := journalSwapsUptoRow.holds Try.pinned (OpenSpec.upto journalSwapsSpec)

end Rows
end Go.Proofs.Ytkadailbfeeamaa
