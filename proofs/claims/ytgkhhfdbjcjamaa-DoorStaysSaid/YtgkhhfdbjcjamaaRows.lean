/-
  No cell of these rows narrows 'for every input' (looked for: loops, veiled, ifaces, maps, wideKeys, modest, calm, conditions, laid).
  DERIVED. THE GIVEN ROWS OF THIS SEAT. 8 by the template 'for every input the law returns true; each argument reads behind the call as it read before'; 0 by the template 'total and deterministic' (their statements: YtgkhhfdbjcjamaaTotals.lean).
  GIVEN WITH THE SEED: the statements are not yours to turn. If you find one false, say at which input.
  Laid BY PROGRAM, IN A SANDBOX (cutbox-rows.mjs): the forced cells as the released guide's own fill.sh prints them over the translation b3c27ddeefb7d115… (all of the seat's roots in one cut). By AI agents, Wed Nov 11 2026. No macro, syntax, notation, axiom, sorry.
-/
import Derived.Test.YtgkhhfdbjcjamaaChecked
import GoSem.Claim
import GoSem.ClaimJoined
import GoSem.ClaimMapViews
import Derived.JoinedTies
import Derived.KernelRfl
namespace Go.Proofs.Ytgkhhfdbjcjamaa
/- THE CELL 'sum', in the pinned program and in every row, IS THE sha256 OF THE DUMP (.gsa) THAT YtgkhhfdbjcjamaaProg.lean LOADS. Nothing in Lean hashes anything: it is a label: what it is worth is what the hold of that sum in a sandbox is worth. -/
noncomputable def Try.pinned : Pinned := { name := "ytgkhhfdbjcjamaa", sum := "b3c27ddeefb7d115418b4ccfa50b4fb88ba0611a72e7180ab63d9e18395ccd36", checked := Try.checked }
namespace Rows
def none {H : Type} : Left H := { results := [], args := [] }

/-- 'liftwelllaw10.CellWeighs': WHATEVER THE INPUT: true; the input reads as it did. -/
def cellWeighsSpec : ChangeSpec := { name := "cellWeighs", fn := fun _ => fun
  | [d1, d2, d3] => { results := [.lit (.bool true)], args := [d1, d2, d3] }
  | _ => none }
def cellWeighsRow : OpenClaim := { program := "ytgkhhfdbjcjamaa", sum := "b3c27ddeefb7d115418b4ccfa50b4fb88ba0611a72e7180ab63d9e18395ccd36", func := "liftwell/liftwelllaw10.CellWeighs", spec := "cellWeighs", apart := false }
def CellWeighsSaid : Prop := cellWeighsRow.holds Try.pinned (OpenSpec.ofChange cellWeighsSpec)

/-- ITS FALSE NEIGHBOUR: 'it returns false'. Refute it at one input. -/
def cellWeighsWrong : ChangeSpec := { name := "cellWeighs", fn := fun _ => fun
  | [d1, d2, d3] => { results := [.lit (.bool false)], args := [d1, d2, d3] }
  | _ => none }
def CellWeighsWrongFalsely : Prop := cellWeighsRow.holds Try.pinned (OpenSpec.ofChange cellWeighsWrong)

/-- 'liftwelllaw10.CellSides': WHATEVER THE INPUT: true; the input reads as it did. -/
def cellSidesSpec : ChangeSpec := { name := "cellSides", fn := fun _ => fun
  | [d1, d2, d3, d4] => { results := [.lit (.bool true)], args := [d1, d2, d3, d4] }
  | _ => none }
def cellSidesRow : OpenClaim := { program := "ytgkhhfdbjcjamaa", sum := "b3c27ddeefb7d115418b4ccfa50b4fb88ba0611a72e7180ab63d9e18395ccd36", func := "liftwell/liftwelllaw10.CellSides", spec := "cellSides", apart := false }
def CellSidesSaid : Prop := cellSidesRow.holds Try.pinned (OpenSpec.ofChange cellSidesSpec)

/-- ITS FALSE NEIGHBOUR: 'it returns false'. Refute it at one input. -/
def cellSidesWrong : ChangeSpec := { name := "cellSides", fn := fun _ => fun
  | [d1, d2, d3, d4] => { results := [.lit (.bool false)], args := [d1, d2, d3, d4] }
  | _ => none }
def CellSidesWrongFalsely : Prop := cellSidesRow.holds Try.pinned (OpenSpec.ofChange cellSidesWrong)

/-- 'liftwelllaw23.BoundFormulas': WHATEVER THE INPUT: true; the input reads as it did. -/
def boundFormulasSpec : ChangeSpec := { name := "boundFormulas", fn := fun _ => fun
  | [d] => { results := [.lit (.bool true)], args := [d] }
  | _ => none }
def boundFormulasRow : OpenClaim := { program := "ytgkhhfdbjcjamaa", sum := "b3c27ddeefb7d115418b4ccfa50b4fb88ba0611a72e7180ab63d9e18395ccd36", func := "liftwell/liftwelllaw23.BoundFormulas", spec := "boundFormulas", apart := false }
def BoundFormulasSaid : Prop := boundFormulasRow.holds Try.pinned (OpenSpec.ofChange boundFormulasSpec)

/-- ITS FALSE NEIGHBOUR: 'it returns false'. Refute it at one input. -/
def boundFormulasWrong : ChangeSpec := { name := "boundFormulas", fn := fun _ => fun
  | [d] => { results := [.lit (.bool false)], args := [d] }
  | _ => none }
def BoundFormulasWrongFalsely : Prop := boundFormulasRow.holds Try.pinned (OpenSpec.ofChange boundFormulasWrong)

/-- 'liftwelllaw17.FleetCounts': WHATEVER THE INPUT: true; the input reads as it did. -/
def fleetCountsSpec : ChangeSpec := { name := "fleetCounts", fn := fun _ => fun
  | [d1, d2, d3] => { results := [.lit (.bool true)], args := [d1, d2, d3] }
  | _ => none }
def fleetCountsRow : OpenClaim := { program := "ytgkhhfdbjcjamaa", sum := "b3c27ddeefb7d115418b4ccfa50b4fb88ba0611a72e7180ab63d9e18395ccd36", func := "liftwell/liftwelllaw17.FleetCounts", spec := "fleetCounts", apart := false }
def FleetCountsSaid : Prop := fleetCountsRow.holds Try.pinned (OpenSpec.ofChange fleetCountsSpec)

/-- ITS FALSE NEIGHBOUR: 'it returns false'. Refute it at one input. -/
def fleetCountsWrong : ChangeSpec := { name := "fleetCounts", fn := fun _ => fun
  | [d1, d2, d3] => { results := [.lit (.bool false)], args := [d1, d2, d3] }
  | _ => none }
def FleetCountsWrongFalsely : Prop := fleetCountsRow.holds Try.pinned (OpenSpec.ofChange fleetCountsWrong)

/-- 'liftwelllaw17.FleetMay': WHATEVER THE INPUT: true; the input reads as it did. -/
def fleetMaySpec : ChangeSpec := { name := "fleetMay", fn := fun _ => fun
  | [d1, d2] => { results := [.lit (.bool true)], args := [d1, d2] }
  | _ => none }
def fleetMayRow : OpenClaim := { program := "ytgkhhfdbjcjamaa", sum := "b3c27ddeefb7d115418b4ccfa50b4fb88ba0611a72e7180ab63d9e18395ccd36", func := "liftwell/liftwelllaw17.FleetMay", spec := "fleetMay", apart := false }
def FleetMaySaid : Prop := fleetMayRow.holds Try.pinned (OpenSpec.ofChange fleetMaySpec)

/-- ITS FALSE NEIGHBOUR: 'it returns false'. Refute it at one input. -/
def fleetMayWrong : ChangeSpec := { name := "fleetMay", fn := fun _ => fun
  | [d1, d2] => { results := [.lit (.bool false)], args := [d1, d2] }
  | _ => none }
def FleetMayWrongFalsely : Prop := fleetMayRow.holds Try.pinned (OpenSpec.ofChange fleetMayWrong)

/-- 'liftwelllaw08.DoorTicks': WHATEVER THE INPUT: true; the input reads as it did. -/
def doorTicksSpec : ChangeSpec := { name := "doorTicks", fn := fun _ => fun
  | [d1, d2, d3] => { results := [.lit (.bool true)], args := [d1, d2, d3] }
  | _ => none }
def doorTicksRow : OpenClaim := { program := "ytgkhhfdbjcjamaa", sum := "b3c27ddeefb7d115418b4ccfa50b4fb88ba0611a72e7180ab63d9e18395ccd36", func := "liftwell/liftwelllaw08.DoorTicks", spec := "doorTicks", apart := false }
def DoorTicksSaid : Prop := doorTicksRow.holds Try.pinned (OpenSpec.ofChange doorTicksSpec)

/-- ITS FALSE NEIGHBOUR: 'it returns false'. Refute it at one input. -/
def doorTicksWrong : ChangeSpec := { name := "doorTicks", fn := fun _ => fun
  | [d1, d2, d3] => { results := [.lit (.bool false)], args := [d1, d2, d3] }
  | _ => none }
def DoorTicksWrongFalsely : Prop := doorTicksRow.holds Try.pinned (OpenSpec.ofChange doorTicksWrong)

/-- 'liftwelllaw08.DoorStays': WHATEVER THE INPUT: true; the input reads as it did. -/
def doorStaysSpec : ChangeSpec := { name := "doorStays", fn := fun _ => fun
  | [d1, d2] => { results := [.lit (.bool true)], args := [d1, d2] }
  | _ => none }
def doorStaysRow : OpenClaim := { program := "ytgkhhfdbjcjamaa", sum := "b3c27ddeefb7d115418b4ccfa50b4fb88ba0611a72e7180ab63d9e18395ccd36", func := "liftwell/liftwelllaw08.DoorStays", spec := "doorStays", apart := false }
def DoorStaysSaid : Prop := doorStaysRow.holds Try.pinned (OpenSpec.ofChange doorStaysSpec)

/-- ITS FALSE NEIGHBOUR: 'it returns false'. Refute it at one input. -/
def doorStaysWrong : ChangeSpec := { name := "doorStays", fn := fun _ => fun
  | [d1, d2] => { results := [.lit (.bool false)], args := [d1, d2] }
  | _ => none }
def DoorStaysWrongFalsely : Prop := doorStaysRow.holds Try.pinned (OpenSpec.ofChange doorStaysWrong)

/-- 'liftwelllaw08.DoorWhole': WHATEVER THE INPUT: true; the input reads as it did. -/
def doorWholeSpec : ChangeSpec := { name := "doorWhole", fn := fun _ => fun
  | [d1, d2] => { results := [.lit (.bool true)], args := [d1, d2] }
  | _ => none }
def doorWholeRow : OpenClaim := { program := "ytgkhhfdbjcjamaa", sum := "b3c27ddeefb7d115418b4ccfa50b4fb88ba0611a72e7180ab63d9e18395ccd36", func := "liftwell/liftwelllaw08.DoorWhole", spec := "doorWhole", apart := false }
def DoorWholeSaid : Prop := doorWholeRow.holds Try.pinned (OpenSpec.ofChange doorWholeSpec)

/-- ITS FALSE NEIGHBOUR: 'it returns false'. Refute it at one input. -/
def doorWholeWrong : ChangeSpec := { name := "doorWhole", fn := fun _ => fun
  | [d1, d2] => { results := [.lit (.bool false)], args := [d1, d2] }
  | _ => none }
def DoorWholeWrongFalsely : Prop := doorWholeRow.holds Try.pinned (OpenSpec.ofChange doorWholeWrong)

/- THE SECOND FORM. 'bulk': how many values and letters a reading holds, each counted each time it is reached (what is shared counts as often as it is met; a slice's spare places count too). A statement '..UptoSaid' is the law's where the arguments, and the package variables that the reading takes, are together of bulk at most 1048576: NARROWER than '..Said'. Prove '..Said' where nothing that the law and all that it calls make is longer than what came in: it says more and counts as full. Else prove '..UptoSaid'. A law counts once. -/
mutual
def uptoBulk {H : Type} : DataW H → Nat
  | .lit (.string bytes) => bytes.length + 1
  | .lit _ => 1
  | .nil => 1
  | .ptr d => uptoBulk d + 1
  | .slice elems spare => uptoBulkAll elems + uptoBulkAll spare + 1
  | .agg parts => uptoBulkAll parts + 1
  | .iface _ d => uptoBulk d + 1
  | .map entries => uptoBulkEntries entries + 1
  | .held _ => 1
def uptoBulkAll {H : Type} : List (DataW H) → Nat
  | [] => 0
  | d :: r => uptoBulk d + uptoBulkAll r
def uptoBulkEntries {H : Type} : List (Lit × DataW H) → Nat
  | [] => 0
  | x :: r => uptoBulkEntry x + uptoBulkEntries r
def uptoBulkEntry {H : Type} : Lit × DataW H → Nat
  | (.string bytes, d) => bytes.length + uptoBulk d + 1
  | (_, d) => uptoBulk d + 1
 end
def uptoSmall : (H : Type) → List (DataW H) → Bool := fun _ ds => decide (uptoBulkAll ds ≤ 1048576)
def OpenSpec.upto (s : _root_.Go.ChangeSpec) : _root_.Go.OpenSpec := { _root_.Go.OpenSpec.ofChange s with cond := some uptoSmall }

/-- 'liftwelllaw10.CellWeighs', WHERE WHAT IT READS IS OF BULK AT MOST 1048576: true; the input reads as it did. -/
def cellWeighsUptoRow : OpenClaim := { program := "ytgkhhfdbjcjamaa", sum := "b3c27ddeefb7d115418b4ccfa50b4fb88ba0611a72e7180ab63d9e18395ccd36", func := "liftwell/liftwelllaw10.CellWeighs", spec := "cellWeighs", apart := false, narrowed := true }
def CellWeighsUptoSaid : Prop := cellWeighsUptoRow.holds Try.pinned (OpenSpec.upto cellWeighsSpec)

/-- 'liftwelllaw10.CellSides', WHERE WHAT IT READS IS OF BULK AT MOST 1048576: true; the input reads as it did. -/
def cellSidesUptoRow : OpenClaim := { program := "ytgkhhfdbjcjamaa", sum := "b3c27ddeefb7d115418b4ccfa50b4fb88ba0611a72e7180ab63d9e18395ccd36", func := "liftwell/liftwelllaw10.CellSides", spec := "cellSides", apart := false, narrowed := true }
def CellSidesUptoSaid : Prop := cellSidesUptoRow.holds Try.pinned (OpenSpec.upto cellSidesSpec)

/-- 'liftwelllaw23.BoundFormulas', WHERE WHAT IT READS IS OF BULK AT MOST 1048576: true; the input reads as it did. -/
def boundFormulasUptoRow : OpenClaim := { program := "ytgkhhfdbjcjamaa", sum := "b3c27ddeefb7d115418b4ccfa50b4fb88ba0611a72e7180ab63d9e18395ccd36", func := "liftwell/liftwelllaw23.BoundFormulas", spec := "boundFormulas", apart := false, narrowed := true }
def BoundFormulasUptoSaid : Prop := boundFormulasUptoRow.holds Try.pinned (OpenSpec.upto boundFormulasSpec)

/-- 'liftwelllaw17.FleetCounts', WHERE WHAT IT READS IS OF BULK AT MOST 1048576: true; the input reads as it did. -/
def fleetCountsUptoRow : OpenClaim := { program := "ytgkhhfdbjcjamaa", sum := "b3c27ddeefb7d115418b4ccfa50b4fb88ba0611a72e7180ab63d9e18395ccd36", func := "liftwell/liftwelllaw17.FleetCounts", spec := "fleetCounts", apart := false, narrowed := true }
def FleetCountsUptoSaid : Prop := fleetCountsUptoRow.holds Try.pinned (OpenSpec.upto fleetCountsSpec)

/-- 'liftwelllaw17.FleetMay', WHERE WHAT IT READS IS OF BULK AT MOST 1048576: true; the input reads as it did. -/
def fleetMayUptoRow : OpenClaim := { program := "ytgkhhfdbjcjamaa", sum := "b3c27ddeefb7d115418b4ccfa50b4fb88ba0611a72e7180ab63d9e18395ccd36", func := "liftwell/liftwelllaw17.FleetMay", spec := "fleetMay", apart := false, narrowed := true }
def FleetMayUptoSaid : Prop := fleetMayUptoRow.holds Try.pinned (OpenSpec.upto fleetMaySpec)

/-- 'liftwelllaw08.DoorTicks', WHERE WHAT IT READS IS OF BULK AT MOST 1048576: true; the input reads as it did. -/
def doorTicksUptoRow : OpenClaim := { program := "ytgkhhfdbjcjamaa", sum := "b3c27ddeefb7d115418b4ccfa50b4fb88ba0611a72e7180ab63d9e18395ccd36", func := "liftwell/liftwelllaw08.DoorTicks", spec := "doorTicks", apart := false, narrowed := true }
def DoorTicksUptoSaid : Prop := doorTicksUptoRow.holds Try.pinned (OpenSpec.upto doorTicksSpec)

/-- 'liftwelllaw08.DoorStays', WHERE WHAT IT READS IS OF BULK AT MOST 1048576: true; the input reads as it did. -/
def doorStaysUptoRow : OpenClaim := { program := "ytgkhhfdbjcjamaa", sum := "b3c27ddeefb7d115418b4ccfa50b4fb88ba0611a72e7180ab63d9e18395ccd36", func := "liftwell/liftwelllaw08.DoorStays", spec := "doorStays", apart := false, narrowed := true }
def DoorStaysUptoSaid : Prop := doorStaysUptoRow.holds Try.pinned (OpenSpec.upto doorStaysSpec)

/-- 'liftwelllaw08.DoorWhole', WHERE WHAT IT READS IS OF BULK AT MOST 1048576: true; the input reads as it did. -/
def doorWholeUptoRow : OpenClaim := { program := "ytgkhhfdbjcjamaa", sum := "b3c27ddeefb7d115418b4ccfa50b4fb88ba0611a72e7180ab63d9e18395ccd36", func := "liftwell/liftwelllaw08.DoorWhole", spec := "doorWhole", apart := false, narrowed := true }
def DoorWholeUptoSaid : Prop := doorWholeUptoRow.holds Try.pinned (OpenSpec.upto doorWholeSpec)

end Rows
end Go.Proofs.Ytgkhhfdbjcjamaa
