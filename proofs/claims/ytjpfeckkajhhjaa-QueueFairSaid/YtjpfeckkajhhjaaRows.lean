/-
  No cell of these rows narrows 'for every input' (looked for: loops, veiled, ifaces, maps, wideKeys, modest, calm, conditions, laid).
  DERIVED. THE GIVEN ROWS OF THIS SEAT. 6 by the template 'for every input the law returns true; each argument reads behind the call as it read before'; 0 by the template 'total and deterministic' (their statements: YtjpfeckkajhhjaaTotals.lean).
  GIVEN WITH THE SEED: the statements are not yours to turn. If you find one false, say at which input.
  Laid BY PROGRAM, IN A SANDBOX (cutbox-rows.mjs): the forced cells as the released guide's own fill.sh prints them over the translation bbff9b330be63f2e… (all of the seat's roots in one cut). By AI agents, Wed Nov 11 2026. No macro, syntax, notation, axiom, sorry.
-/
import Derived.Test.YtjpfeckkajhhjaaChecked
import GoSem.Claim
import GoSem.ClaimJoined
import GoSem.ClaimMapViews
import Derived.JoinedTies
import Derived.KernelRfl
namespace Go.Proofs.Ytjpfeckkajhhjaa
/- THE CELL 'sum', in the pinned program and in every row, IS THE sha256 OF THE DUMP (.gsa) THAT YtjpfeckkajhhjaaProg.lean LOADS. Nothing in Lean hashes anything: it is a label: what it is worth is what the hold of that sum in a sandbox is worth. -/
noncomputable def Try.pinned : Pinned := { name := "ytjpfeckkajhhjaa", sum := "bbff9b330be63f2e98121f22fad052192d154271e85ae35b9d1cdbcb5f561bda", checked := Try.checked }
namespace Rows
def none {H : Type} : Left H := { results := [], args := [] }

/-- 'liftwelllaw07.NetPlays': WHATEVER THE INPUT: true; the input reads as it did. -/
def netPlaysSpec : ChangeSpec := { name := "netPlays", fn := fun _ => fun
  | [d1, d2, d3] => { results := [.lit (.bool true)], args := [d1, d2, d3] }
  | _ => none }
def netPlaysRow : OpenClaim := { program := "ytjpfeckkajhhjaa", sum := "bbff9b330be63f2e98121f22fad052192d154271e85ae35b9d1cdbcb5f561bda", func := "liftwell/liftwelllaw07.NetPlays", spec := "netPlays", apart := false }
def NetPlaysSaid : Prop := netPlaysRow.holds Try.pinned (OpenSpec.ofChange netPlaysSpec)

/-- ITS FALSE NEIGHBOUR: 'it returns false'. Refute it at one input. -/
def netPlaysWrong : ChangeSpec := { name := "netPlays", fn := fun _ => fun
  | [d1, d2, d3] => { results := [.lit (.bool false)], args := [d1, d2, d3] }
  | _ => none }
def NetPlaysWrongFalsely : Prop := netPlaysRow.holds Try.pinned (OpenSpec.ofChange netPlaysWrong)

/-- 'liftwelllaw07.NetNone': WHATEVER THE INPUT: true; the input reads as it did. -/
def netNoneSpec : ChangeSpec := { name := "netNone", fn := fun _ => fun
  | [d1, d2, d3] => { results := [.lit (.bool true)], args := [d1, d2, d3] }
  | _ => none }
def netNoneRow : OpenClaim := { program := "ytjpfeckkajhhjaa", sum := "bbff9b330be63f2e98121f22fad052192d154271e85ae35b9d1cdbcb5f561bda", func := "liftwell/liftwelllaw07.NetNone", spec := "netNone", apart := false }
def NetNoneSaid : Prop := netNoneRow.holds Try.pinned (OpenSpec.ofChange netNoneSpec)

/-- ITS FALSE NEIGHBOUR: 'it returns false'. Refute it at one input. -/
def netNoneWrong : ChangeSpec := { name := "netNone", fn := fun _ => fun
  | [d1, d2, d3] => { results := [.lit (.bool false)], args := [d1, d2, d3] }
  | _ => none }
def NetNoneWrongFalsely : Prop := netNoneRow.holds Try.pinned (OpenSpec.ofChange netNoneWrong)

/-- 'liftwelllaw18.QueuePlays': WHATEVER THE INPUT: true; the input reads as it did. -/
def queuePlaysSpec : ChangeSpec := { name := "queuePlays", fn := fun _ => fun
  | [d1, d2] => { results := [.lit (.bool true)], args := [d1, d2] }
  | _ => none }
def queuePlaysRow : OpenClaim := { program := "ytjpfeckkajhhjaa", sum := "bbff9b330be63f2e98121f22fad052192d154271e85ae35b9d1cdbcb5f561bda", func := "liftwell/liftwelllaw18.QueuePlays", spec := "queuePlays", unfollowed := true, recurses := true, apart := false }
def QueuePlaysSaid : Prop := queuePlaysRow.holds Try.pinned (OpenSpec.ofChange queuePlaysSpec)

/-- ITS FALSE NEIGHBOUR: 'it returns false'. Refute it at one input. -/
def queuePlaysWrong : ChangeSpec := { name := "queuePlays", fn := fun _ => fun
  | [d1, d2] => { results := [.lit (.bool false)], args := [d1, d2] }
  | _ => none }
def QueuePlaysWrongFalsely : Prop := queuePlaysRow.holds Try.pinned (OpenSpec.ofChange queuePlaysWrong)

/-- 'liftwelllaw18.QueueFair': WHATEVER THE INPUT: true; the input reads as it did. -/
def queueFairSpec : ChangeSpec := { name := "queueFair", fn := fun _ => fun
  | [d1, d2, d3, d4] => { results := [.lit (.bool true)], args := [d1, d2, d3, d4] }
  | _ => none }
def queueFairRow : OpenClaim := { program := "ytjpfeckkajhhjaa", sum := "bbff9b330be63f2e98121f22fad052192d154271e85ae35b9d1cdbcb5f561bda", func := "liftwell/liftwelllaw18.QueueFair", spec := "queueFair", unfollowed := true, recurses := true, apart := false }
def QueueFairSaid : Prop := queueFairRow.holds Try.pinned (OpenSpec.ofChange queueFairSpec)

/-- ITS FALSE NEIGHBOUR: 'it returns false'. Refute it at one input. -/
def queueFairWrong : ChangeSpec := { name := "queueFair", fn := fun _ => fun
  | [d1, d2, d3, d4] => { results := [.lit (.bool false)], args := [d1, d2, d3, d4] }
  | _ => none }
def QueueFairWrongFalsely : Prop := queueFairRow.holds Try.pinned (OpenSpec.ofChange queueFairWrong)

/-- 'liftwelllaw18.QueueNone': WHATEVER THE INPUT: true; the input reads as it did. -/
def queueNoneSpec : ChangeSpec := { name := "queueNone", fn := fun _ => fun
  | [d] => { results := [.lit (.bool true)], args := [d] }
  | _ => none }
def queueNoneRow : OpenClaim := { program := "ytjpfeckkajhhjaa", sum := "bbff9b330be63f2e98121f22fad052192d154271e85ae35b9d1cdbcb5f561bda", func := "liftwell/liftwelllaw18.QueueNone", spec := "queueNone", unfollowed := true, recurses := true, apart := false }
def QueueNoneSaid : Prop := queueNoneRow.holds Try.pinned (OpenSpec.ofChange queueNoneSpec)

/-- ITS FALSE NEIGHBOUR: 'it returns false'. Refute it at one input. -/
def queueNoneWrong : ChangeSpec := { name := "queueNone", fn := fun _ => fun
  | [d] => { results := [.lit (.bool false)], args := [d] }
  | _ => none }
def QueueNoneWrongFalsely : Prop := queueNoneRow.holds Try.pinned (OpenSpec.ofChange queueNoneWrong)

/-- 'liftwelllaw19.LeasePlays': WHATEVER THE INPUT: true; the input reads as it did. -/
def leasePlaysSpec : ChangeSpec := { name := "leasePlays", fn := fun _ => fun
  | [d1, d2] => { results := [.lit (.bool true)], args := [d1, d2] }
  | _ => none }
def leasePlaysRow : OpenClaim := { program := "ytjpfeckkajhhjaa", sum := "bbff9b330be63f2e98121f22fad052192d154271e85ae35b9d1cdbcb5f561bda", func := "liftwell/liftwelllaw19.LeasePlays", spec := "leasePlays", unfollowed := true, recurses := true, apart := false }
def LeasePlaysSaid : Prop := leasePlaysRow.holds Try.pinned (OpenSpec.ofChange leasePlaysSpec)

/-- ITS FALSE NEIGHBOUR: 'it returns false'. Refute it at one input. -/
def leasePlaysWrong : ChangeSpec := { name := "leasePlays", fn := fun _ => fun
  | [d1, d2] => { results := [.lit (.bool false)], args := [d1, d2] }
  | _ => none }
def LeasePlaysWrongFalsely : Prop := leasePlaysRow.holds Try.pinned (OpenSpec.ofChange leasePlaysWrong)

/- THE SECOND FORM. 'bulk': how many values and letters a reading holds, each counted each time it is reached (what is shared counts as often as it is met; a slice's spare places count too). A statement '..UptoSaid' is the law's where the arguments, and the package variables that the reading takes, are together of bulk at most 1048576: NARROWER than '..Said'. Prove '..Said' where nothing that the law and all that it calls make is longer than what came in: it says more and counts as full. Else prove '..UptoSaid'. A law counts once. -/
mutual
def uptoBulk {H : Type} : DataW H → Nat
  | .lit (.string bytes) => bytes.length + 1
  | .lit _ => 1
  | .nil => 1
  | .ptr d => uptoBulk d + 1
  | .slice elems spare => uptoBulkAll elems + uptoBulkAll spare + 1
  | .agg parts => uptoBulkAll parts + 1
  | .iface _ d => uptoBulk d + 1
  | .map entries => uptoBulkEntries entries + 1
  | .held _ => 1
def uptoBulkAll {H : Type} : List (DataW H) → Nat
  | [] => 0
  | d :: r => uptoBulk d + uptoBulkAll r
def uptoBulkEntries {H : Type} : List (Lit × DataW H) → Nat
  | [] => 0
  | x :: r => uptoBulkEntry x + uptoBulkEntries r
def uptoBulkEntry {H : Type} : Lit × DataW H → Nat
  | (.string bytes, d) => bytes.length + uptoBulk d + 1
  | (_, d) => uptoBulk d + 1
 end
def uptoSmall : (H : Type) → List (DataW H) → Bool := fun _ ds => decide (uptoBulkAll ds ≤ 1048576)
def OpenSpec.upto (s : _root_.Go.ChangeSpec) : _root_.Go.OpenSpec := { _root_.Go.OpenSpec.ofChange s with cond := some uptoSmall }

/-- 'liftwelllaw07.NetPlays', WHERE WHAT IT READS IS OF BULK AT MOST 1048576: true; the input reads as it did. -/
def netPlaysUptoRow : OpenClaim := { program := "ytjpfeckkajhhjaa", sum := "bbff9b330be63f2e98121f22fad052192d154271e85ae35b9d1cdbcb5f561bda", func := "liftwell/liftwelllaw07.NetPlays", spec := "netPlays", apart := false, narrowed := true }
def NetPlaysUptoSaid : Prop := netPlaysUptoRow.holds Try.pinned (OpenSpec.upto netPlaysSpec)

/-- 'liftwelllaw07.NetNone', WHERE WHAT IT READS IS OF BULK AT MOST 1048576: true; the input reads as it did. -/
def netNoneUptoRow : OpenClaim := { program := "ytjpfeckkajhhjaa", sum := "bbff9b330be63f2e98121f22fad052192d154271e85ae35b9d1cdbcb5f561bda", func := "liftwell/liftwelllaw07.NetNone", spec := "netNone", apart := false, narrowed := true }
def NetNoneUptoSaid : Prop := netNoneUptoRow.holds Try.pinned (OpenSpec.upto netNoneSpec)

/-- 'liftwelllaw18.QueuePlays', WHERE WHAT IT READS IS OF BULK AT MOST 1048576: true; the input reads as it did. -/
def queuePlaysUptoRow : OpenClaim := { program := "ytjpfeckkajhhjaa", sum := "bbff9b330be63f2e98121f22fad052192d154271e85ae35b9d1cdbcb5f561bda", func := "liftwell/liftwelllaw18.QueuePlays", spec := "queuePlays", unfollowed := true, recurses := true, apart := false, narrowed := true }
def QueuePlaysUptoSaid : Prop := queuePlaysUptoRow.holds Try.pinned (OpenSpec.upto queuePlaysSpec)

/-- 'liftwelllaw18.QueueFair', WHERE WHAT IT READS IS OF BULK AT MOST 1048576: true; the input reads as it did. -/
def queueFairUptoRow : OpenClaim := { program := "ytjpfeckkajhhjaa", sum := "bbff9b330be63f2e98121f22fad052192d154271e85ae35b9d1cdbcb5f561bda", func := "liftwell/liftwelllaw18.QueueFair", spec := "queueFair", unfollowed := true, recurses := true, apart := false, narrowed := true }
def QueueFairUptoSaid : Prop := queueFairUptoRow.holds Try.pinned (OpenSpec.upto queueFairSpec)

/-- 'liftwelllaw18.QueueNone', WHERE WHAT IT READS IS OF BULK AT MOST 1048576: true; the input reads as it did. -/
def queueNoneUptoRow : OpenClaim := { program := "ytjpfeckkajhhjaa", sum := "bbff9b330be63f2e98121f22fad052192d154271e85ae35b9d1cdbcb5f561bda", func := "liftwell/liftwelllaw18.QueueNone", spec := "queueNone", unfollowed := true, recurses := true, apart := false, narrowed := true }
def QueueNoneUptoSaid : Prop := queueNoneUptoRow.holds Try.pinned (OpenSpec.upto queueNoneSpec)

/-- 'liftwelllaw19.LeasePlays', WHERE WHAT IT READS IS OF BULK AT MOST 1048576: true; the input reads as it did. -/
def leasePlaysUptoRow : OpenClaim := { program := "ytjpfeckkajhhjaa", sum := "bbff9b330be63f2e98121f22fad052192d154271e85ae35b9d1cdbcb5f561bda", func := "liftwell/liftwelllaw19.LeasePlays", spec := "leasePlays", unfollowed := true, recurses := true, apart := false, narrowed := true }
def LeasePlaysUptoSaid : Prop := leasePlaysUptoRow.holds Try.pinned (OpenSpec.upto leasePlaysSpec)

end Rows
end Go.Proofs.Ytjpfeckkajhhjaa
