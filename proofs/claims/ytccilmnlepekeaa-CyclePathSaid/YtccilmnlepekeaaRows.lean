/-
  No cell of these rows narrows 'for every input' (looked for: loops, veiled, ifaces, maps, wideKeys, modest, calm, conditions, laid).
  DERIVED. THE GIVEN ROWS OF THIS SEAT. 5 by the template 'for every input the law returns true; each argument reads behind the call as it read before'; 0 by the template 'total and deterministic' (their statements: YtccilmnlepekeaaTotals.lean).
  GIVEN WITH THE SEED: the statements are not yours to turn. If you find one false, say at which input.
  Laid BY PROGRAM, IN A SANDBOX (cutbox-rows.mjs): the forced cells as the released guide's own fill.sh prints them over the translation d5964232c7577359… (all of the seat's roots in one cut). By AI agents, Wed Nov 11 2026. No macro, syntax, notation, axiom, sorry.
-/
import Derived.Test.YtccilmnlepekeaaChecked
import GoSem.Claim
import GoSem.ClaimJoined
import GoSem.ClaimMapViews
import Derived.JoinedTies
import Derived.KernelRfl
namespace Go.Proofs.Ytccilmnlepekeaa
/- THE CELL 'sum', in the pinned program and in every row, IS THE sha256 OF THE DUMP (.gsa) THAT YtccilmnlepekeaaProg.lean LOADS. Nothing in Lean hashes anything: it is a label: what it is worth is what the hold of that sum in a sandbox is worth. -/
noncomputable def Try.pinned : Pinned := { name := "ytccilmnlepekeaa", sum := "d5964232c7577359784748d44389c8ab2d419f5abbc001c357c8d3c33fd0b801", checked := Try.checked }
namespace Rows
def none {H : Type} : Left H := { results := [], args := [] }

/-- 'bloomerylaw18.CycleOrders': WHATEVER THE INPUT: true; the input reads as it did. -/
def cycleOrdersSpec : ChangeSpec := { name := "cycleOrders", fn := fun _ => fun
  | [d] => { results := [.lit (.bool true)], args := [d] }
  | _ => none }
def cycleOrdersRow : OpenClaim := { program := "ytccilmnlepekeaa", sum := "d5964232c7577359784748d44389c8ab2d419f5abbc001c357c8d3c33fd0b801", func := "bloomery/bloomerylaw18.CycleOrders", spec := "cycleOrders", unfollowed := true, recurses := true, apart := false }
def CycleOrdersSaid : Prop := cycleOrdersRow.holds Try.pinned (OpenSpec.ofChange cycleOrdersSpec)

/-- ITS FALSE NEIGHBOUR: 'it returns false'. Refute it at one input. -/
def cycleOrdersWrong : ChangeSpec := { name := "cycleOrders", fn := fun _ => fun
  | [d] => { results := [.lit (.bool false)], args := [d] }
  | _ => none }
def CycleOrdersWrongFalsely : Prop := cycleOrdersRow.holds Try.pinned (OpenSpec.ofChange cycleOrdersWrong)

/-- 'bloomerylaw18.CycleTrue': WHATEVER THE INPUT: true; the input reads as it did. -/
def cycleTrueSpec : ChangeSpec := { name := "cycleTrue", fn := fun _ => fun
  | [d] => { results := [.lit (.bool true)], args := [d] }
  | _ => none }
def cycleTrueRow : OpenClaim := { program := "ytccilmnlepekeaa", sum := "d5964232c7577359784748d44389c8ab2d419f5abbc001c357c8d3c33fd0b801", func := "bloomery/bloomerylaw18.CycleTrue", spec := "cycleTrue", unfollowed := true, recurses := true, apart := false }
def CycleTrueSaid : Prop := cycleTrueRow.holds Try.pinned (OpenSpec.ofChange cycleTrueSpec)

/-- ITS FALSE NEIGHBOUR: 'it returns false'. Refute it at one input. -/
def cycleTrueWrong : ChangeSpec := { name := "cycleTrue", fn := fun _ => fun
  | [d] => { results := [.lit (.bool false)], args := [d] }
  | _ => none }
def CycleTrueWrongFalsely : Prop := cycleTrueRow.holds Try.pinned (OpenSpec.ofChange cycleTrueWrong)

/-- 'bloomerylaw18.CycleWays': WHATEVER THE INPUT: true; the input reads as it did. -/
def cycleWaysSpec : ChangeSpec := { name := "cycleWays", fn := fun _ => fun
  | [d1, d2, d3] => { results := [.lit (.bool true)], args := [d1, d2, d3] }
  | _ => none }
def cycleWaysRow : OpenClaim := { program := "ytccilmnlepekeaa", sum := "d5964232c7577359784748d44389c8ab2d419f5abbc001c357c8d3c33fd0b801", func := "bloomery/bloomerylaw18.CycleWays", spec := "cycleWays", unfollowed := true, recurses := true, apart := false }
def CycleWaysSaid : Prop := cycleWaysRow.holds Try.pinned (OpenSpec.ofChange cycleWaysSpec)

/-- ITS FALSE NEIGHBOUR: 'it returns false'. Refute it at one input. -/
def cycleWaysWrong : ChangeSpec := { name := "cycleWays", fn := fun _ => fun
  | [d1, d2, d3] => { results := [.lit (.bool false)], args := [d1, d2, d3] }
  | _ => none }
def CycleWaysWrongFalsely : Prop := cycleWaysRow.holds Try.pinned (OpenSpec.ofChange cycleWaysWrong)

/-- 'bloomerylaw18.CyclePath': WHATEVER THE INPUT: true; the input reads as it did. -/
def cyclePathSpec : ChangeSpec := { name := "cyclePath", fn := fun _ => fun
  | [d1, d2, d3] => { results := [.lit (.bool true)], args := [d1, d2, d3] }
  | _ => none }
def cyclePathRow : OpenClaim := { program := "ytccilmnlepekeaa", sum := "d5964232c7577359784748d44389c8ab2d419f5abbc001c357c8d3c33fd0b801", func := "bloomery/bloomerylaw18.CyclePath", spec := "cyclePath", unfollowed := true, recurses := true, apart := false }
def CyclePathSaid : Prop := cyclePathRow.holds Try.pinned (OpenSpec.ofChange cyclePathSpec)

/-- ITS FALSE NEIGHBOUR: 'it returns false'. Refute it at one input. -/
def cyclePathWrong : ChangeSpec := { name := "cyclePath", fn := fun _ => fun
  | [d1, d2, d3] => { results := [.lit (.bool false)], args := [d1, d2, d3] }
  | _ => none }
def CyclePathWrongFalsely : Prop := cyclePathRow.holds Try.pinned (OpenSpec.ofChange cyclePathWrong)

/-- 'bloomerylaw18.CycleTurned': WHATEVER THE INPUT: true; the input reads as it did. -/
def cycleTurnedSpec : ChangeSpec := { name := "cycleTurned", fn := fun _ => fun
  | [d1, d2, d3] => { results := [.lit (.bool true)], args := [d1, d2, d3] }
  | _ => none }
def cycleTurnedRow : OpenClaim := { program := "ytccilmnlepekeaa", sum := "d5964232c7577359784748d44389c8ab2d419f5abbc001c357c8d3c33fd0b801", func := "bloomery/bloomerylaw18.CycleTurned", spec := "cycleTurned", unfollowed := true, recurses := true, apart := false }
def CycleTurnedSaid : Prop := cycleTurnedRow.holds Try.pinned (OpenSpec.ofChange cycleTurnedSpec)

/-- ITS FALSE NEIGHBOUR: 'it returns false'. Refute it at one input. -/
def cycleTurnedWrong : ChangeSpec := { name := "cycleTurned", fn := fun _ => fun
  | [d1, d2, d3] => { results := [.lit (.bool false)], args := [d1, d2, d3] }
  | _ => none }
def CycleTurnedWrongFalsely : Prop := cycleTurnedRow.holds Try.pinned (OpenSpec.ofChange cycleTurnedWrong)

/- THE SECOND FORM. 'bulk': how many values and letters a reading holds, each counted each time it is reached (what is shared counts as often as it is met; a slice's spare places count too). A statement '..UptoSaid' is the law's where the arguments, and the package variables that the reading takes, are together of bulk at most 1048576: NARROWER than '..Said'. Prove '..Said' where nothing that the law and all that it calls make is longer than what came in: it says more and counts as full. Else prove '..UptoSaid'. A law counts once. -/
mutual
def uptoBulk {H : Type} : DataW H → Nat
  | .lit (.string bytes) => bytes.length + 1
  | .lit _ => 1
  | .nil => 1
  | .ptr d => uptoBulk d + 1
  | .slice elems spare => uptoBulkAll elems + uptoBulkAll spare + 1
  | .agg parts => uptoBulkAll parts + 1
  | .iface _ d => uptoBulk d + 1
  | .map entries => uptoBulkEntries entries + 1
  | .held _ => 1
def uptoBulkAll {H : Type} : List (DataW H) → Nat
  | [] => 0
  | d :: r => uptoBulk d + uptoBulkAll r
def uptoBulkEntries {H : Type} : List (Lit × DataW H) → Nat
  | [] => 0
  | x :: r => uptoBulkEntry x + uptoBulkEntries r
def uptoBulkEntry {H : Type} : Lit × DataW H → Nat
  | (.string bytes, d) => bytes.length + uptoBulk d + 1
  | (_, d) => uptoBulk d + 1
 end
def uptoSmall : (H : Type) → List (DataW H) → Bool := fun _ ds => decide (uptoBulkAll ds ≤ 1048576)
def OpenSpec.upto (s : _root_.Go.ChangeSpec) : _root_.Go.OpenSpec := { _root_.Go.OpenSpec.ofChange s with cond := some uptoSmall }

/-- 'bloomerylaw18.CycleOrders', WHERE WHAT IT READS IS OF BULK AT MOST 1048576: true; the input reads as it did. -/
def cycleOrdersUptoRow : OpenClaim := { program := "ytccilmnlepekeaa", sum := "d5964232c7577359784748d44389c8ab2d419f5abbc001c357c8d3c33fd0b801", func := "bloomery/bloomerylaw18.CycleOrders", spec := "cycleOrders", unfollowed := true, recurses := true, apart := false, narrowed := true }
def CycleOrdersUptoSaid : Prop := cycleOrdersUptoRow.holds Try.pinned (OpenSpec.upto cycleOrdersSpec)

/-- 'bloomerylaw18.CycleTrue', WHERE WHAT IT READS IS OF BULK AT MOST 1048576: true; the input reads as it did. -/
def cycleTrueUptoRow : OpenClaim := { program := "ytccilmnlepekeaa", sum := "d5964232c7577359784748d44389c8ab2d419f5abbc001c357c8d3c33fd0b801", func := "bloomery/bloomerylaw18.CycleTrue", spec := "cycleTrue", unfollowed := true, recurses := true, apart := false, narrowed := true }
def CycleTrueUptoSaid : Prop := cycleTrueUptoRow.holds Try.pinned (OpenSpec.upto cycleTrueSpec)

/-- 'bloomerylaw18.CycleWays', WHERE WHAT IT READS IS OF BULK AT MOST 1048576: true; the input reads as it did. -/
def cycleWaysUptoRow : OpenClaim := { program := "ytccilmnlepekeaa", sum := "d5964232c7577359784748d44389c8ab2d419f5abbc001c357c8d3c33fd0b801", func := "bloomery/bloomerylaw18.CycleWays", spec := "cycleWays", unfollowed := true, recurses := true, apart := false, narrowed := true }
def CycleWaysUptoSaid : Prop := cycleWaysUptoRow.holds Try.pinned (OpenSpec.upto cycleWaysSpec)

/-- 'bloomerylaw18.CyclePath', WHERE WHAT IT READS IS OF BULK AT MOST 1048576: true; the input reads as it did. -/
def cyclePathUptoRow : OpenClaim := { program := "ytccilmnlepekeaa", sum := "d5964232c7577359784748d44389c8ab2d419f5abbc001c357c8d3c33fd0b801", func := "bloomery/bloomerylaw18.CyclePath", spec := "cyclePath", unfollowed := true, recurses := true, apart := false, narrowed := true }
def CyclePathUptoSaid : Prop := cyclePathUptoRow.holds Try.pinned (OpenSpec.upto cyclePathSpec)

/-- 'bloomerylaw18.CycleTurned', WHERE WHAT IT READS IS OF BULK AT MOST 1048576: true; the input reads as it did. -/
def cycleTurnedUptoRow : OpenClaim := { program := "ytccilmnlepekeaa", sum := "d5964232c7577359784748d44389c8ab2d419f5abbc001c357c8d3c33fd0b801", func := "bloomery/bloomerylaw18.CycleTurned", spec := "cycleTurned", unfollowed := true, recurses := true, apart := false, narrowed := true }
def CycleTurnedUptoSaid : Prop := cycleTurnedUptoRow.holds Try.pinned (OpenSpec.upto cycleTurnedSpec)

end Rows
end Go.Proofs.Ytccilmnlepekeaa
