/-
  NARROWER THAN 'FOR EVERY INPUT', by the rows' own cells (each row's printed sentence says how): ConfigBack: laid · ConfigChecks: laid · ConfigSelects: loops, laid · ConfigOthers: loops, laid.
  DERIVED. THE GIVEN ROWS OF THIS SEAT. 4 by the template 'for every input the law returns true; each argument reads behind the call as it read before'; 0 by the template 'total and deterministic' (their statements: YthefhfnmkjdekaaDoorTotals.lean).
  GIVEN WITH THE SEED: the statements are not yours to turn. If you find one false, say at which input.
  Laid BY PROGRAM, IN A SANDBOX (cutbox-rows.mjs): the forced cells as the released guide's own fill.sh prints them over the translation 74111e154c66d01c… (all of the seat's roots in one cut). By AI agents, Wed Nov 11 2026. No macro, syntax, notation, axiom, sorry.
-/
import Derived.Test.YthefhfnmkjdekaaDoorChecked
import GoSem.PinnedTables
import GoSem.Claim
import GoSem.ClaimJoined
import GoSem.ClaimMapViews
import Derived.JoinedTies
import Derived.KernelRfl
namespace Go.Proofs.YthefhfnmkjdekaaDoor
/- THE CELL 'sum', in the pinned program and in every row, IS THE sha256 OF THE DUMP (.gsa) THAT YthefhfnmkjdekaaDoorProg.lean LOADS. Nothing in Lean hashes anything: it is a label: what it is worth is what the hold of that sum in a sandbox is worth. -/
noncomputable def Tryd.pinned : Pinned := { name := "ythefhfnmkjdekaadoor", sum := "74111e154c66d01c6ffa1998d4a7db8328f053265efe3f6bd346ab1a9dffa5c1", checked := Tryd.checked }
namespace Rows
def none {H : Type} : Left H := { results := [], args := [] }

/- WHAT THE LISTED PACKAGE-LEVEL VARIABLES READ AS WHEN THE CALL BEGINS. Each datum BY PROGRAM (the guide's laid-datum.mjs) off the statement by which the dump's own 'gosem.cut.vars' lays the variable. In a bare row this is a premise. The card (YthefhfnmkjdekaaDoorCards.lean) ties it to the program's text. -/
def laid_unicode_utf8_acceptRanges {H : Type} : DataW H := .agg [.agg [.lit (.int .u8 128), .lit (.int .u8 191)], .agg [.lit (.int .u8 160), .lit (.int .u8 191)], .agg [.lit (.int .u8 128), .lit (.int .u8 159)], .agg [.lit (.int .u8 144), .lit (.int .u8 191)], .agg [.lit (.int .u8 128), .lit (.int .u8 143)], .agg [.lit (.int .u8 0), .lit (.int .u8 0)], .agg [.lit (.int .u8 0), .lit (.int .u8 0)], .agg [.lit (.int .u8 0), .lit (.int .u8 0)], .agg [.lit (.int .u8 0), .lit (.int .u8 0)], .agg [.lit (.int .u8 0), .lit (.int .u8 0)], .agg [.lit (.int .u8 0), .lit (.int .u8 0)], .agg [.lit (.int .u8 0), .lit (.int .u8 0)], .agg [.lit (.int .u8 0), .lit (.int .u8 0)], .agg [.lit (.int .u8 0), .lit (.int .u8 0)], .agg [.lit (.int .u8 0), .lit (.int .u8 0)], .agg [.lit (.int .u8 0), .lit (.int .u8 0)]]
/-- One of Go's own tables, pinned by name: the form's constant. -/
def laid_unicode_utf8_first : DataW Unit := Go.Pinned.utf8First

/-- 'bloomerylaw14.ConfigBack': WHATEVER THE INPUT: true; the input reads as it did. -/
def configBackSpec : ChangeSpec := { name := "configBack", fn := fun _ => fun
  | [d] => { results := [.lit (.bool true)], args := [d] }
  | _ => none }
def configBackRow : OpenClaim := { program := "ythefhfnmkjdekaadoor", sum := "74111e154c66d01c6ffa1998d4a7db8328f053265efe3f6bd346ab1a9dffa5c1", func := "bloomery/bloomerylaw14.ConfigBack", spec := "configBack", inPlace := ["internal/bytealg.CountString", "internal/bytealg.IndexByteString", "internal/bytealg.IndexString", "internal/bytealg.abigen_runtime_cmpstring", "internal/abi.NoEscape", "internal/bytealg.MakeNoZero"], unfollowed := true, recurses := true, named := ["unicode/utf8.first", "unicode/utf8.acceptRanges", "internal/bytealg.MaxLen"], apart := false, laid := [("unicode/utf8.acceptRanges", laid_unicode_utf8_acceptRanges), ("unicode/utf8.first", laid_unicode_utf8_first)] }
def ConfigBackSaid : Prop := configBackRow.holds Tryd.pinned (OpenSpec.ofChange configBackSpec)

/-- ITS FALSE NEIGHBOUR: 'it returns false'. Refute it at one input. -/
def configBackWrong : ChangeSpec := { name := "configBack", fn := fun _ => fun
  | [d] => { results := [.lit (.bool false)], args := [d] }
  | _ => none }
def ConfigBackWrongFalsely : Prop := configBackRow.holds Tryd.pinned (OpenSpec.ofChange configBackWrong)

/-- 'bloomerylaw14.ConfigChecks': WHATEVER THE INPUT: true; the input reads as it did. -/
def configChecksSpec : ChangeSpec := { name := "configChecks", fn := fun _ => fun
  | [d1, d2] => { results := [.lit (.bool true)], args := [d1, d2] }
  | _ => none }
def configChecksRow : OpenClaim := { program := "ythefhfnmkjdekaadoor", sum := "74111e154c66d01c6ffa1998d4a7db8328f053265efe3f6bd346ab1a9dffa5c1", func := "bloomery/bloomerylaw14.ConfigChecks", spec := "configChecks", inPlace := ["internal/bytealg.CountString", "internal/bytealg.IndexByteString", "internal/bytealg.IndexString", "internal/bytealg.abigen_runtime_cmpstring", "internal/abi.NoEscape", "internal/bytealg.MakeNoZero"], unfollowed := true, recurses := true, named := ["unicode/utf8.first", "unicode/utf8.acceptRanges", "internal/bytealg.MaxLen"], apart := false, laid := [("unicode/utf8.acceptRanges", laid_unicode_utf8_acceptRanges), ("unicode/utf8.first", laid_unicode_utf8_first)] }
def ConfigChecksSaid : Prop := configChecksRow.holds Tryd.pinned (OpenSpec.ofChange configChecksSpec)

/-- ITS FALSE NEIGHBOUR: 'it returns false'. Refute it at one input. -/
def configChecksWrong : ChangeSpec := { name := "configChecks", fn := fun _ => fun
  | [d1, d2] => { results := [.lit (.bool false)], args := [d1, d2] }
  | _ => none }
def ConfigChecksWrongFalsely : Prop := configChecksRow.holds Tryd.pinned (OpenSpec.ofChange configChecksWrong)

/-- 'bloomerylaw14.ConfigSelects': WHATEVER THE INPUT: true; the input reads as it did. -/
def configSelectsSpec : ChangeSpec := { name := "configSelects", fn := fun _ => fun
  | [d1, d2, d3] => { results := [.lit (.bool true)], args := [d1, d2, d3] }
  | _ => none }
def configSelectsRow : OpenClaim := { program := "ythefhfnmkjdekaadoor", sum := "74111e154c66d01c6ffa1998d4a7db8328f053265efe3f6bd346ab1a9dffa5c1", func := "bloomery/bloomerylaw14.ConfigSelects", spec := "configSelects", inPlace := ["internal/bytealg.CountString", "internal/bytealg.IndexByteString", "internal/bytealg.IndexString", "internal/bytealg.abigen_runtime_cmpstring", "internal/abi.NoEscape", "internal/bytealg.MakeNoZero"], unfollowed := true, recurses := true, named := ["unicode/utf8.first", "unicode/utf8.acceptRanges", "internal/bytealg.MaxLen"], loops := true, apart := false, laid := [("unicode/utf8.acceptRanges", laid_unicode_utf8_acceptRanges), ("unicode/utf8.first", laid_unicode_utf8_first)] }
def ConfigSelectsSaid : Prop := configSelectsRow.holds Tryd.pinned (OpenSpec.ofChange configSelectsSpec)

/-- ITS FALSE NEIGHBOUR: 'it returns false'. Refute it at one input. -/
def configSelectsWrong : ChangeSpec := { name := "configSelects", fn := fun _ => fun
  | [d1, d2, d3] => { results := [.lit (.bool false)], args := [d1, d2, d3] }
  | _ => none }
def ConfigSelectsWrongFalsely : Prop := configSelectsRow.holds Tryd.pinned (OpenSpec.ofChange configSelectsWrong)

/-- 'bloomerylaw14.ConfigOthers': WHATEVER THE INPUT: true; the input reads as it did. -/
def configOthersSpec : ChangeSpec := { name := "configOthers", fn := fun _ => fun
  | [d1, d2, d3, d4, d5] => { results := [.lit (.bool true)], args := [d1, d2, d3, d4, d5] }
  | _ => none }
def configOthersRow : OpenClaim := { program := "ythefhfnmkjdekaadoor", sum := "74111e154c66d01c6ffa1998d4a7db8328f053265efe3f6bd346ab1a9dffa5c1", func := "bloomery/bloomerylaw14.ConfigOthers", spec := "configOthers", inPlace := ["internal/bytealg.CountString", "internal/bytealg.IndexByteString", "internal/bytealg.IndexString", "internal/bytealg.abigen_runtime_cmpstring", "internal/abi.NoEscape", "internal/bytealg.MakeNoZero"], unfollowed := true, recurses := true, named := ["unicode/utf8.first", "unicode/utf8.acceptRanges", "internal/bytealg.MaxLen"], loops := true, apart := false, laid := [("unicode/utf8.acceptRanges", laid_unicode_utf8_acceptRanges), ("unicode/utf8.first", laid_unicode_utf8_first)] }
def ConfigOthersSaid : Prop := configOthersRow.holds Tryd.pinned (OpenSpec.ofChange configOthersSpec)

/-- ITS FALSE NEIGHBOUR: 'it returns false'. Refute it at one input. -/
def configOthersWrong : ChangeSpec := { name := "configOthers", fn := fun _ => fun
  | [d1, d2, d3, d4, d5] => { results := [.lit (.bool false)], args := [d1, d2, d3, d4, d5] }
  | _ => none }
def ConfigOthersWrongFalsely : Prop := configOthersRow.holds Tryd.pinned (OpenSpec.ofChange configOthersWrong)

/- THE SECOND FORM. 'bulk': how many values and letters a reading holds, each counted each time it is reached (what is shared counts as often as it is met; a slice's spare places count too). A statement '..UptoSaid' is the law's where the arguments, and the package variables that the reading takes, are together of bulk at most 1048576: NARROWER than '..Said'. Prove '..Said' where nothing that the law and all that it calls make is longer than what came in: it says more and counts as full. Else prove '..UptoSaid'. A law counts once. -/
mutual
def uptoBulk {H : Type} : DataW H → Nat
  | .lit (.string bytes) => bytes.length + 1
  | .lit _ => 1
  | .nil => 1
  | .ptr d => uptoBulk d + 1
  | .slice elems spare => uptoBulkAll elems + uptoBulkAll spare + 1
  | .agg parts => uptoBulkAll parts + 1
  | .iface _ d => uptoBulk d + 1
  | .map entries => uptoBulkEntries entries + 1
  | .held _ => 1
def uptoBulkAll {H : Type} : List (DataW H) → Nat
  | [] => 0
  | d :: r => uptoBulk d + uptoBulkAll r
def uptoBulkEntries {H : Type} : List (Lit × DataW H) → Nat
  | [] => 0
  | x :: r => uptoBulkEntry x + uptoBulkEntries r
def uptoBulkEntry {H : Type} : Lit × DataW H → Nat
  | (.string bytes, d) => bytes.length + uptoBulk d + 1
  | (_, d) => uptoBulk d + 1
 end
def uptoSmall : (H : Type) → List (DataW H) → Bool := fun _ ds => decide (uptoBulkAll ds ≤ 1048576)
def OpenSpec.upto (s : _root_.Go.ChangeSpec) : _root_.Go.OpenSpec := { _root_.Go.OpenSpec.ofChange s with cond := some uptoSmall }

/-- 'bloomerylaw14.ConfigBack', WHERE WHAT IT READS IS OF BULK AT MOST 1048576: true; the input reads as it did. -/
def configBackUptoRow : OpenClaim := { program := "ythefhfnmkjdekaadoor", sum := "74111e154c66d01c6ffa1998d4a7db8328f053265efe3f6bd346ab1a9dffa5c1", func := "bloomery/bloomerylaw14.ConfigBack", spec := "configBack", inPlace := ["internal/bytealg.CountString", "internal/bytealg.IndexByteString", "internal/bytealg.IndexString", "internal/bytealg.abigen_runtime_cmpstring", "internal/abi.NoEscape", "internal/bytealg.MakeNoZero"], unfollowed := true, recurses := true, named := ["unicode/utf8.first", "unicode/utf8.acceptRanges", "internal/bytealg.MaxLen"], apart := false, laid := [("unicode/utf8.acceptRanges", laid_unicode_utf8_acceptRanges), ("unicode/utf8.first", laid_unicode_utf8_first)], narrowed := true }
def ConfigBackUptoSaid : Prop := configBackUptoRow.holds Tryd.pinned (OpenSpec.upto configBackSpec)

/-- 'bloomerylaw14.ConfigChecks', WHERE WHAT IT READS IS OF BULK AT MOST 1048576: true; the input reads as it did. -/
def configChecksUptoRow : OpenClaim := { program := "ythefhfnmkjdekaadoor", sum := "74111e154c66d01c6ffa1998d4a7db8328f053265efe3f6bd346ab1a9dffa5c1", func := "bloomery/bloomerylaw14.ConfigChecks", spec := "configChecks", inPlace := ["internal/bytealg.CountString", "internal/bytealg.IndexByteString", "internal/bytealg.IndexString", "internal/bytealg.abigen_runtime_cmpstring", "internal/abi.NoEscape", "internal/bytealg.MakeNoZero"], unfollowed := true, recurses := true, named := ["unicode/utf8.first", "unicode/utf8.acceptRanges", "internal/bytealg.MaxLen"], apart := false, laid := [("unicode/utf8.acceptRanges", laid_unicode_utf8_acceptRanges), ("unicode/utf8.first", laid_unicode_utf8_first)], narrowed := true }
def ConfigChecksUptoSaid : Prop := configChecksUptoRow.holds Tryd.pinned (OpenSpec.upto configChecksSpec)

/-- 'bloomerylaw14.ConfigSelects', WHERE WHAT IT READS IS OF BULK AT MOST 1048576: true; the input reads as it did. -/
def configSelectsUptoRow : OpenClaim := { program := "ythefhfnmkjdekaadoor", sum := "74111e154c66d01c6ffa1998d4a7db8328f053265efe3f6bd346ab1a9dffa5c1", func := "bloomery/bloomerylaw14.ConfigSelects", spec := "configSelects", inPlace := ["internal/bytealg.CountString", "internal/bytealg.IndexByteString", "internal/bytealg.IndexString", "internal/bytealg.abigen_runtime_cmpstring", "internal/abi.NoEscape", "internal/bytealg.MakeNoZero"], unfollowed := true, recurses := true, named := ["unicode/utf8.first", "unicode/utf8.acceptRanges", "internal/bytealg.MaxLen"], loops := true, apart := false, laid := [("unicode/utf8.acceptRanges", laid_unicode_utf8_acceptRanges), ("unicode/utf8.first", laid_unicode_utf8_first)], narrowed := true }
def ConfigSelectsUptoSaid : Prop := configSelectsUptoRow.holds Tryd.pinned (OpenSpec.upto configSelectsSpec)

/-- 'bloomerylaw14.ConfigOthers', WHERE WHAT IT READS IS OF BULK AT MOST 1048576: true; the input reads as it did. -/
def configOthersUptoRow : OpenClaim := { program := "ythefhfnmkjdekaadoor", sum := "74111e154c66d01c6ffa1998d4a7db8328f053265efe3f6bd346ab1a9dffa5c1", func := "bloomery/bloomerylaw14.ConfigOthers", spec := "configOthers", inPlace := ["internal/bytealg.CountString", "internal/bytealg.IndexByteString", "internal/bytealg.IndexString", "internal/bytealg.abigen_runtime_cmpstring", "internal/abi.NoEscape", "internal/bytealg.MakeNoZero"], unfollowed := true, recurses := true, named := ["unicode/utf8.first", "unicode/utf8.acceptRanges", "internal/bytealg.MaxLen"], loops := true, apart := false, laid := [("unicode/utf8.acceptRanges", laid_unicode_utf8_acceptRanges), ("unicode/utf8.first", laid_unicode_utf8_first)], narrowed := true }
def ConfigOthersUptoSaid : Prop := configOthersUptoRow.holds Tryd.pinned (OpenSpec.upto configOthersSpec)

end Rows
end Go.Proofs.YthefhfnmkjdekaaDoor
