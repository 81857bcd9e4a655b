/-
  No cell of these rows narrows 'for every input' (looked for: loops, veiled, ifaces, maps, wideKeys, modest, calm, conditions, laid).
  DERIVED. THE GIVEN ROWS OF THIS SEAT. 12 by the template 'for every input the law returns true; each argument reads behind the call as it read before'; 0 by the template 'total and deterministic' (their statements: YtjbdabpjepjohaaTotals.lean).
  GIVEN WITH THE SEED: the statements are not yours to turn. If you find one false, say at which input.
  Laid BY PROGRAM, IN A SANDBOX (cutbox-rows.mjs): the forced cells as the released guide's own fill.sh prints them over the translation 1dc07b8a166059d7… (all of the seat's roots in one cut). By AI agents, Wed Nov 11 2026. No macro, syntax, notation, axiom, sorry.
-/
import Derived.Test.YtjbdabpjepjohaaChecked
import GoSem.Claim
import GoSem.ClaimJoined
import GoSem.ClaimMapViews
import Derived.JoinedTies
import Derived.KernelRfl
namespace Go.Proofs.Ytjbdabpjepjohaa
/- THE CELL 'sum', in the pinned program and in every row, IS THE sha256 OF THE DUMP (.gsa) THAT YtjbdabpjepjohaaProg.lean LOADS. Nothing in Lean hashes anything: it is a label: what it is worth is what the hold of that sum in a sandbox is worth. -/
noncomputable def Try.pinned : Pinned := { name := "ytjbdabpjepjohaa", sum := "1dc07b8a166059d78109d6d84a1491f8f4c359dcb346f4bd301c053f61c35ec5", checked := Try.checked }
namespace Rows
def none {H : Type} : Left H := { results := [], args := [] }

/-- 'liftwelllaw13.ScanNext': WHATEVER THE INPUT: true; the input reads as it did. -/
def scanNextSpec : ChangeSpec := { name := "scanNext", fn := fun _ => fun
  | [d1, d2, d3, d4] => { results := [.lit (.bool true)], args := [d1, d2, d3, d4] }
  | _ => none }
def scanNextRow : OpenClaim := { program := "ytjbdabpjepjohaa", sum := "1dc07b8a166059d78109d6d84a1491f8f4c359dcb346f4bd301c053f61c35ec5", func := "liftwell/liftwelllaw13.ScanNext", spec := "scanNext", unfollowed := true, recurses := true, apart := false }
def ScanNextSaid : Prop := scanNextRow.holds Try.pinned (OpenSpec.ofChange scanNextSpec)

/-- ITS FALSE NEIGHBOUR: 'it returns false'. Refute it at one input. -/
def scanNextWrong : ChangeSpec := { name := "scanNext", fn := fun _ => fun
  | [d1, d2, d3, d4] => { results := [.lit (.bool false)], args := [d1, d2, d3, d4] }
  | _ => none }
def ScanNextWrongFalsely : Prop := scanNextRow.holds Try.pinned (OpenSpec.ofChange scanNextWrong)

/-- 'liftwelllaw13.ScanGoes': WHATEVER THE INPUT: true; the input reads as it did. -/
def scanGoesSpec : ChangeSpec := { name := "scanGoes", fn := fun _ => fun
  | [d1, d2, d3, d4] => { results := [.lit (.bool true)], args := [d1, d2, d3, d4] }
  | _ => none }
def scanGoesRow : OpenClaim := { program := "ytjbdabpjepjohaa", sum := "1dc07b8a166059d78109d6d84a1491f8f4c359dcb346f4bd301c053f61c35ec5", func := "liftwell/liftwelllaw13.ScanGoes", spec := "scanGoes", unfollowed := true, recurses := true, apart := false }
def ScanGoesSaid : Prop := scanGoesRow.holds Try.pinned (OpenSpec.ofChange scanGoesSpec)

/-- ITS FALSE NEIGHBOUR: 'it returns false'. Refute it at one input. -/
def scanGoesWrong : ChangeSpec := { name := "scanGoes", fn := fun _ => fun
  | [d1, d2, d3, d4] => { results := [.lit (.bool false)], args := [d1, d2, d3, d4] }
  | _ => none }
def ScanGoesWrongFalsely : Prop := scanGoesRow.holds Try.pinned (OpenSpec.ofChange scanGoesWrong)

/-- 'liftwelllaw13.ScanKeeps': WHATEVER THE INPUT: true; the input reads as it did. -/
def scanKeepsSpec : ChangeSpec := { name := "scanKeeps", fn := fun _ => fun
  | [d1, d2, d3, d4] => { results := [.lit (.bool true)], args := [d1, d2, d3, d4] }
  | _ => none }
def scanKeepsRow : OpenClaim := { program := "ytjbdabpjepjohaa", sum := "1dc07b8a166059d78109d6d84a1491f8f4c359dcb346f4bd301c053f61c35ec5", func := "liftwell/liftwelllaw13.ScanKeeps", spec := "scanKeeps", unfollowed := true, recurses := true, apart := false }
def ScanKeepsSaid : Prop := scanKeepsRow.holds Try.pinned (OpenSpec.ofChange scanKeepsSpec)

/-- ITS FALSE NEIGHBOUR: 'it returns false'. Refute it at one input. -/
def scanKeepsWrong : ChangeSpec := { name := "scanKeeps", fn := fun _ => fun
  | [d1, d2, d3, d4] => { results := [.lit (.bool false)], args := [d1, d2, d3, d4] }
  | _ => none }
def ScanKeepsWrongFalsely : Prop := scanKeepsRow.holds Try.pinned (OpenSpec.ofChange scanKeepsWrong)

/-- 'liftwelllaw13.ScanLeaves': WHATEVER THE INPUT: true; the input reads as it did. -/
def scanLeavesSpec : ChangeSpec := { name := "scanLeaves", fn := fun _ => fun
  | [d1, d2, d3] => { results := [.lit (.bool true)], args := [d1, d2, d3] }
  | _ => none }
def scanLeavesRow : OpenClaim := { program := "ytjbdabpjepjohaa", sum := "1dc07b8a166059d78109d6d84a1491f8f4c359dcb346f4bd301c053f61c35ec5", func := "liftwell/liftwelllaw13.ScanLeaves", spec := "scanLeaves", unfollowed := true, recurses := true, apart := false }
def ScanLeavesSaid : Prop := scanLeavesRow.holds Try.pinned (OpenSpec.ofChange scanLeavesSpec)

/-- ITS FALSE NEIGHBOUR: 'it returns false'. Refute it at one input. -/
def scanLeavesWrong : ChangeSpec := { name := "scanLeaves", fn := fun _ => fun
  | [d1, d2, d3] => { results := [.lit (.bool false)], args := [d1, d2, d3] }
  | _ => none }
def ScanLeavesWrongFalsely : Prop := scanLeavesRow.holds Try.pinned (OpenSpec.ofChange scanLeavesWrong)

/-- 'liftwelllaw13.ScanServes': WHATEVER THE INPUT: true; the input reads as it did. -/
def scanServesSpec : ChangeSpec := { name := "scanServes", fn := fun _ => fun
  | [d1, d2, d3] => { results := [.lit (.bool true)], args := [d1, d2, d3] }
  | _ => none }
def scanServesRow : OpenClaim := { program := "ytjbdabpjepjohaa", sum := "1dc07b8a166059d78109d6d84a1491f8f4c359dcb346f4bd301c053f61c35ec5", func := "liftwell/liftwelllaw13.ScanServes", spec := "scanServes", unfollowed := true, recurses := true, apart := false }
def ScanServesSaid : Prop := scanServesRow.holds Try.pinned (OpenSpec.ofChange scanServesSpec)

/-- ITS FALSE NEIGHBOUR: 'it returns false'. Refute it at one input. -/
def scanServesWrong : ChangeSpec := { name := "scanServes", fn := fun _ => fun
  | [d1, d2, d3] => { results := [.lit (.bool false)], args := [d1, d2, d3] }
  | _ => none }
def ScanServesWrongFalsely : Prop := scanServesRow.holds Try.pinned (OpenSpec.ofChange scanServesWrong)

/-- 'liftwelllaw12.StopsChange': WHATEVER THE INPUT: true; the input reads as it did. -/
def stopsChangeSpec : ChangeSpec := { name := "stopsChange", fn := fun _ => fun
  | [d1, d2, d3] => { results := [.lit (.bool true)], args := [d1, d2, d3] }
  | _ => none }
def stopsChangeRow : OpenClaim := { program := "ytjbdabpjepjohaa", sum := "1dc07b8a166059d78109d6d84a1491f8f4c359dcb346f4bd301c053f61c35ec5", func := "liftwell/liftwelllaw12.StopsChange", spec := "stopsChange", apart := false }
def StopsChangeSaid : Prop := stopsChangeRow.holds Try.pinned (OpenSpec.ofChange stopsChangeSpec)

/-- ITS FALSE NEIGHBOUR: 'it returns false'. Refute it at one input. -/
def stopsChangeWrong : ChangeSpec := { name := "stopsChange", fn := fun _ => fun
  | [d1, d2, d3] => { results := [.lit (.bool false)], args := [d1, d2, d3] }
  | _ => none }
def StopsChangeWrongFalsely : Prop := stopsChangeRow.holds Try.pinned (OpenSpec.ofChange stopsChangeWrong)

/-- 'liftwelllaw12.StopsTell': WHATEVER THE INPUT: true; the input reads as it did. -/
def stopsTellSpec : ChangeSpec := { name := "stopsTell", fn := fun _ => fun
  | [d1, d2, d3] => { results := [.lit (.bool true)], args := [d1, d2, d3] }
  | _ => none }
def stopsTellRow : OpenClaim := { program := "ytjbdabpjepjohaa", sum := "1dc07b8a166059d78109d6d84a1491f8f4c359dcb346f4bd301c053f61c35ec5", func := "liftwell/liftwelllaw12.StopsTell", spec := "stopsTell", apart := false }
def StopsTellSaid : Prop := stopsTellRow.holds Try.pinned (OpenSpec.ofChange stopsTellSpec)

/-- ITS FALSE NEIGHBOUR: 'it returns false'. Refute it at one input. -/
def stopsTellWrong : ChangeSpec := { name := "stopsTell", fn := fun _ => fun
  | [d1, d2, d3] => { results := [.lit (.bool false)], args := [d1, d2, d3] }
  | _ => none }
def StopsTellWrongFalsely : Prop := stopsTellRow.holds Try.pinned (OpenSpec.ofChange stopsTellWrong)

/-- 'liftwelllaw12.StopsOnce': WHATEVER THE INPUT: true; the input reads as it did. -/
def stopsOnceSpec : ChangeSpec := { name := "stopsOnce", fn := fun _ => fun
  | [d1, d2, d3] => { results := [.lit (.bool true)], args := [d1, d2, d3] }
  | _ => none }
def stopsOnceRow : OpenClaim := { program := "ytjbdabpjepjohaa", sum := "1dc07b8a166059d78109d6d84a1491f8f4c359dcb346f4bd301c053f61c35ec5", func := "liftwell/liftwelllaw12.StopsOnce", spec := "stopsOnce", apart := false }
def StopsOnceSaid : Prop := stopsOnceRow.holds Try.pinned (OpenSpec.ofChange stopsOnceSpec)

/-- ITS FALSE NEIGHBOUR: 'it returns false'. Refute it at one input. -/
def stopsOnceWrong : ChangeSpec := { name := "stopsOnce", fn := fun _ => fun
  | [d1, d2, d3] => { results := [.lit (.bool false)], args := [d1, d2, d3] }
  | _ => none }
def StopsOnceWrongFalsely : Prop := stopsOnceRow.holds Try.pinned (OpenSpec.ofChange stopsOnceWrong)

/-- 'liftwelllaw14.CarctlSafe': WHATEVER THE INPUT: true; the input reads as it did. -/
def carctlSafeSpec : ChangeSpec := { name := "carctlSafe", fn := fun _ => fun
  | [d1, d2, d3] => { results := [.lit (.bool true)], args := [d1, d2, d3] }
  | _ => none }
def carctlSafeRow : OpenClaim := { program := "ytjbdabpjepjohaa", sum := "1dc07b8a166059d78109d6d84a1491f8f4c359dcb346f4bd301c053f61c35ec5", func := "liftwell/liftwelllaw14.CarctlSafe", spec := "carctlSafe", unfollowed := true, recurses := true, apart := false }
def CarctlSafeSaid : Prop := carctlSafeRow.holds Try.pinned (OpenSpec.ofChange carctlSafeSpec)

/-- ITS FALSE NEIGHBOUR: 'it returns false'. Refute it at one input. -/
def carctlSafeWrong : ChangeSpec := { name := "carctlSafe", fn := fun _ => fun
  | [d1, d2, d3] => { results := [.lit (.bool false)], args := [d1, d2, d3] }
  | _ => none }
def CarctlSafeWrongFalsely : Prop := carctlSafeRow.holds Try.pinned (OpenSpec.ofChange carctlSafeWrong)

/-- 'liftwelllaw14.CarctlHolds': WHATEVER THE INPUT: true; the input reads as it did. -/
def carctlHoldsSpec : ChangeSpec := { name := "carctlHolds", fn := fun _ => fun
  | [d1, d2, d3, d4] => { results := [.lit (.bool true)], args := [d1, d2, d3, d4] }
  | _ => none }
def carctlHoldsRow : OpenClaim := { program := "ytjbdabpjepjohaa", sum := "1dc07b8a166059d78109d6d84a1491f8f4c359dcb346f4bd301c053f61c35ec5", func := "liftwell/liftwelllaw14.CarctlHolds", spec := "carctlHolds", unfollowed := true, recurses := true, apart := false }
def CarctlHoldsSaid : Prop := carctlHoldsRow.holds Try.pinned (OpenSpec.ofChange carctlHoldsSpec)

/-- ITS FALSE NEIGHBOUR: 'it returns false'. Refute it at one input. -/
def carctlHoldsWrong : ChangeSpec := { name := "carctlHolds", fn := fun _ => fun
  | [d1, d2, d3, d4] => { results := [.lit (.bool false)], args := [d1, d2, d3, d4] }
  | _ => none }
def CarctlHoldsWrongFalsely : Prop := carctlHoldsRow.holds Try.pinned (OpenSpec.ofChange carctlHoldsWrong)

/-- 'liftwelllaw14.CarctlGoes': WHATEVER THE INPUT: true; the input reads as it did. -/
def carctlGoesSpec : ChangeSpec := { name := "carctlGoes", fn := fun _ => fun
  | [d1, d2, d3] => { results := [.lit (.bool true)], args := [d1, d2, d3] }
  | _ => none }
def carctlGoesRow : OpenClaim := { program := "ytjbdabpjepjohaa", sum := "1dc07b8a166059d78109d6d84a1491f8f4c359dcb346f4bd301c053f61c35ec5", func := "liftwell/liftwelllaw14.CarctlGoes", spec := "carctlGoes", unfollowed := true, recurses := true, apart := false }
def CarctlGoesSaid : Prop := carctlGoesRow.holds Try.pinned (OpenSpec.ofChange carctlGoesSpec)

/-- ITS FALSE NEIGHBOUR: 'it returns false'. Refute it at one input. -/
def carctlGoesWrong : ChangeSpec := { name := "carctlGoes", fn := fun _ => fun
  | [d1, d2, d3] => { results := [.lit (.bool false)], args := [d1, d2, d3] }
  | _ => none }
def CarctlGoesWrongFalsely : Prop := carctlGoesRow.holds Try.pinned (OpenSpec.ofChange carctlGoesWrong)

/-- 'liftwelllaw14.CarctlServes': WHATEVER THE INPUT: true; the input reads as it did. -/
def carctlServesSpec : ChangeSpec := { name := "carctlServes", fn := fun _ => fun
  | [d1, d2] => { results := [.lit (.bool true)], args := [d1, d2] }
  | _ => none }
def carctlServesRow : OpenClaim := { program := "ytjbdabpjepjohaa", sum := "1dc07b8a166059d78109d6d84a1491f8f4c359dcb346f4bd301c053f61c35ec5", func := "liftwell/liftwelllaw14.CarctlServes", spec := "carctlServes", unfollowed := true, recurses := true, apart := false }
def CarctlServesSaid : Prop := carctlServesRow.holds Try.pinned (OpenSpec.ofChange carctlServesSpec)

/-- ITS FALSE NEIGHBOUR: 'it returns false'. Refute it at one input. -/
def carctlServesWrong : ChangeSpec := { name := "carctlServes", fn := fun _ => fun
  | [d1, d2] => { results := [.lit (.bool false)], args := [d1, d2] }
  | _ => none }
def CarctlServesWrongFalsely : Prop := carctlServesRow.holds Try.pinned (OpenSpec.ofChange carctlServesWrong)

/- THE SECOND FORM. 'bulk': how many values and letters a reading holds, each counted each time it is reached (what is shared counts as often as it is met; a slice's spare places count too). A statement '..UptoSaid' is the law's where the arguments, and the package variables that the reading takes, are together of bulk at most 1048576: NARROWER than '..Said'. Prove '..Said' where nothing that the law and all that it calls make is longer than what came in: it says more and counts as full. Else prove '..UptoSaid'. A law counts once. -/
mutual
def uptoBulk {H : Type} : DataW H → Nat
  | .lit (.string bytes) => bytes.length + 1
  | .lit _ => 1
  | .nil => 1
  | .ptr d => uptoBulk d + 1
  | .slice elems spare => uptoBulkAll elems + uptoBulkAll spare + 1
  | .agg parts => uptoBulkAll parts + 1
  | .iface _ d => uptoBulk d + 1
  | .map entries => uptoBulkEntries entries + 1
  | .held _ => 1
def uptoBulkAll {H : Type} : List (DataW H) → Nat
  | [] => 0
  | d :: r => uptoBulk d + uptoBulkAll r
def uptoBulkEntries {H : Type} : List (Lit × DataW H) → Nat
  | [] => 0
  | x :: r => uptoBulkEntry x + uptoBulkEntries r
def uptoBulkEntry {H : Type} : Lit × DataW H → Nat
  | (.string bytes, d) => bytes.length + uptoBulk d + 1
  | (_, d) => uptoBulk d + 1
 end
def uptoSmall : (H : Type) → List (DataW H) → Bool := fun _ ds => decide (uptoBulkAll ds ≤ 1048576)
def OpenSpec.upto (s : _root_.Go.ChangeSpec) : _root_.Go.OpenSpec := { _root_.Go.OpenSpec.ofChange s with cond := some uptoSmall }

/-- 'liftwelllaw13.ScanNext', WHERE WHAT IT READS IS OF BULK AT MOST 1048576: true; the input reads as it did. -/
def scanNextUptoRow : OpenClaim := { program := "ytjbdabpjepjohaa", sum := "1dc07b8a166059d78109d6d84a1491f8f4c359dcb346f4bd301c053f61c35ec5", func := "liftwell/liftwelllaw13.ScanNext", spec := "scanNext", unfollowed := true, recurses := true, apart := false, narrowed := true }
def ScanNextUptoSaid : Prop := scanNextUptoRow.holds Try.pinned (OpenSpec.upto scanNextSpec)

/-- 'liftwelllaw13.ScanGoes', WHERE WHAT IT READS IS OF BULK AT MOST 1048576: true; the input reads as it did. -/
def scanGoesUptoRow : OpenClaim := { program := "ytjbdabpjepjohaa", sum := "1dc07b8a166059d78109d6d84a1491f8f4c359dcb346f4bd301c053f61c35ec5", func := "liftwell/liftwelllaw13.ScanGoes", spec := "scanGoes", unfollowed := true, recurses := true, apart := false, narrowed := true }
def ScanGoesUptoSaid : Prop := scanGoesUptoRow.holds Try.pinned (OpenSpec.upto scanGoesSpec)

/-- 'liftwelllaw13.ScanKeeps', WHERE WHAT IT READS IS OF BULK AT MOST 1048576: true; the input reads as it did. -/
def scanKeepsUptoRow : OpenClaim := { program := "ytjbdabpjepjohaa", sum := "1dc07b8a166059d78109d6d84a1491f8f4c359dcb346f4bd301c053f61c35ec5", func := "liftwell/liftwelllaw13.ScanKeeps", spec := "scanKeeps", unfollowed := true, recurses := true, apart := false, narrowed := true }
def ScanKeepsUptoSaid : Prop := scanKeepsUptoRow.holds Try.pinned (OpenSpec.upto scanKeepsSpec)

/-- 'liftwelllaw13.ScanLeaves', WHERE WHAT IT READS IS OF BULK AT MOST 1048576: true; the input reads as it did. -/
def scanLeavesUptoRow : OpenClaim := { program := "ytjbdabpjepjohaa", sum := "1dc07b8a166059d78109d6d84a1491f8f4c359dcb346f4bd301c053f61c35ec5", func := "liftwell/liftwelllaw13.ScanLeaves", spec := "scanLeaves", unfollowed := true, recurses := true, apart := false, narrowed := true }
def ScanLeavesUptoSaid : Prop := scanLeavesUptoRow.holds Try.pinned (OpenSpec.upto scanLeavesSpec)

/-- 'liftwelllaw13.ScanServes', WHERE WHAT IT READS IS OF BULK AT MOST 1048576: true; the input reads as it did. -/
def scanServesUptoRow : OpenClaim := { program := "ytjbdabpjepjohaa", sum := "1dc07b8a166059d78109d6d84a1491f8f4c359dcb346f4bd301c053f61c35ec5", func := "liftwell/liftwelllaw13.ScanServes", spec := "scanServes", unfollowed := true, recurses := true, apart := false, narrowed := true }
def ScanServesUptoSaid : Prop := scanServesUptoRow.holds Try.pinned (OpenSpec.upto scanServesSpec)

/-- 'liftwelllaw12.StopsChange', WHERE WHAT IT READS IS OF BULK AT MOST 1048576: true; the input reads as it did. -/
def stopsChangeUptoRow : OpenClaim := { program := "ytjbdabpjepjohaa", sum := "1dc07b8a166059d78109d6d84a1491f8f4c359dcb346f4bd301c053f61c35ec5", func := "liftwell/liftwelllaw12.StopsChange", spec := "stopsChange", apart := false, narrowed := true }
def StopsChangeUptoSaid : Prop := stopsChangeUptoRow.holds Try.pinned (OpenSpec.upto stopsChangeSpec)

/-- 'liftwelllaw12.StopsTell', WHERE WHAT IT READS IS OF BULK AT MOST 1048576: true; the input reads as it did. -/
def stopsTellUptoRow : OpenClaim := { program := "ytjbdabpjepjohaa", sum := "1dc07b8a166059d78109d6d84a1491f8f4c359dcb346f4bd301c053f61c35ec5", func := "liftwell/liftwelllaw12.StopsTell", spec := "stopsTell", apart := false, narrowed := true }
def StopsTellUptoSaid : Prop := stopsTellUptoRow.holds Try.pinned (OpenSpec.upto stopsTellSpec)

/-- 'liftwelllaw12.StopsOnce', WHERE WHAT IT READS IS OF BULK AT MOST 1048576: true; the input reads as it did. -/
def stopsOnceUptoRow : OpenClaim := { program := "ytjbdabpjepjohaa", sum := "1dc07b8a166059d78109d6d84a1491f8f4c359dcb346f4bd301c053f61c35ec5", func := "liftwell/liftwelllaw12.StopsOnce", spec := "stopsOnce", apart := false, narrowed := true }
def StopsOnceUptoSaid : Prop := stopsOnceUptoRow.holds Try.pinned (OpenSpec.upto stopsOnceSpec)

/-- 'liftwelllaw14.CarctlSafe', WHERE WHAT IT READS IS OF BULK AT MOST 1048576: true; the input reads as it did. -/
def carctlSafeUptoRow : OpenClaim := { program := "ytjbdabpjepjohaa", sum := "1dc07b8a166059d78109d6d84a1491f8f4c359dcb346f4bd301c053f61c35ec5", func := "liftwell/liftwelllaw14.CarctlSafe", spec := "carctlSafe", unfollowed := true, recurses := true, apart := false, narrowed := true }
def CarctlSafeUptoSaid : Prop := carctlSafeUptoRow.holds Try.pinned (OpenSpec.upto carctlSafeSpec)

/-- 'liftwelllaw14.CarctlHolds', WHERE WHAT IT READS IS OF BULK AT MOST 1048576: true; the input reads as it did. -/
def carctlHoldsUptoRow : OpenClaim := { program := "ytjbdabpjepjohaa", sum := "1dc07b8a166059d78109d6d84a1491f8f4c359dcb346f4bd301c053f61c35ec5", func := "liftwell/liftwelllaw14.CarctlHolds", spec := "carctlHolds", unfollowed := true, recurses := true, apart := false, narrowed := true }
def CarctlHoldsUptoSaid : Prop := carctlHoldsUptoRow.holds Try.pinned (OpenSpec.upto carctlHoldsSpec)

/-- 'liftwelllaw14.CarctlGoes', WHERE WHAT IT READS IS OF BULK AT MOST 1048576: true; the input reads as it did. -/
def carctlGoesUptoRow : OpenClaim := { program := "ytjbdabpjepjohaa", sum := "1dc07b8a166059d78109d6d84a1491f8f4c359dcb346f4bd301c053f61c35ec5", func := "liftwell/liftwelllaw14.CarctlGoes", spec := "carctlGoes", unfollowed := true, recurses := true, apart := false, narrowed := true }
def CarctlGoesUptoSaid : Prop := carctlGoesUptoRow.holds Try.pinned (OpenSpec.upto carctlGoesSpec)

/-- 'liftwelllaw14.CarctlServes', WHERE WHAT IT READS IS OF BULK AT MOST 1048576: true; the input reads as it did. -/
def carctlServesUptoRow : OpenClaim := { program := "ytjbdabpjepjohaa", sum := "1dc07b8a166059d78109d6d84a1491f8f4c359dcb346f4bd301c053f61c35ec5", func := "liftwell/liftwelllaw14.CarctlServes", spec := "carctlServes", unfollowed := true, recurses := true, apart := false, narrowed := true }
def CarctlServesUptoSaid : Prop := carctlServesUptoRow.holds Try.pinned (OpenSpec.upto carctlServesSpec)

end Rows
end Go.Proofs.Ytjbdabpjepjohaa
