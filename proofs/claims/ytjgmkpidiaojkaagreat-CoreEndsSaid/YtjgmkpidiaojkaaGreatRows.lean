/-
  No cell of these rows narrows 'for every input' (looked for: loops, veiled, ifaces, maps, wideKeys, modest, calm, conditions, laid).
  DERIVED. THE GIVEN ROWS OF THIS SEAT. 8 by the template 'for every input the law returns true; each argument reads behind the call as it read before'; 0 by the template 'total and deterministic' (their statements: YtjgmkpidiaojkaaGreatTotals.lean).
  GIVEN WITH THE SEED: the statements are not yours to turn. If you find one false, say at which input.
  Laid BY PROGRAM, IN A SANDBOX (cutbox-rows.mjs): the forced cells as the released guide's own fill.sh prints them over the translation 22a64ddb0dfce044… (all of the seat's roots in one cut). By AI agents, Wed Nov 11 2026. No macro, syntax, notation, axiom, sorry.
-/
import Derived.Test.YtjgmkpidiaojkaaGreatChecked
import GoSem.Claim
import GoSem.ClaimJoined
import GoSem.ClaimMapViews
import Derived.JoinedTies
import Derived.KernelRfl
namespace Go.Proofs.YtjgmkpidiaojkaaGreat
/- THE CELL 'sum', in the pinned program and in every row, IS THE sha256 OF THE DUMP (.gsa) THAT YtjgmkpidiaojkaaGreatProg.lean LOADS. Nothing in Lean hashes anything: it is a label: what it is worth is what the hold of that sum in a sandbox is worth. -/
noncomputable def Tryz.pinned : Pinned := { name := "ytjgmkpidiaojkaagreat", sum := "22a64ddb0dfce044f3eeb812942b45cfccc1a49d2189fb030a9400ff60dcc257", checked := Tryz.checked }
namespace Rows
def none {H : Type} : Left H := { results := [], args := [] }

/-- 'liftwelllaw21.CoreGone': WHATEVER THE INPUT: true; the input reads as it did. -/
def coreGoneSpec : ChangeSpec := { name := "coreGone", fn := fun _ => fun
  | [d1, d2, d3] => { results := [.lit (.bool true)], args := [d1, d2, d3] }
  | _ => none }
def coreGoneRow : OpenClaim := { program := "ytjgmkpidiaojkaagreat", sum := "22a64ddb0dfce044f3eeb812942b45cfccc1a49d2189fb030a9400ff60dcc257", func := "liftwell/liftwelllaw21.CoreGone", spec := "coreGone", unfollowed := true, recurses := true, apart := false }
def CoreGoneSaid : Prop := coreGoneRow.holds Tryz.pinned (OpenSpec.ofChange coreGoneSpec)

/-- ITS FALSE NEIGHBOUR: 'it returns false'. Refute it at one input. -/
def coreGoneWrong : ChangeSpec := { name := "coreGone", fn := fun _ => fun
  | [d1, d2, d3] => { results := [.lit (.bool false)], args := [d1, d2, d3] }
  | _ => none }
def CoreGoneWrongFalsely : Prop := coreGoneRow.holds Tryz.pinned (OpenSpec.ofChange coreGoneWrong)

/-- 'liftwelllaw16.GroupPlays': WHATEVER THE INPUT: true; the input reads as it did. -/
def groupPlaysSpec : ChangeSpec := { name := "groupPlays", fn := fun _ => fun
  | [d1, d2] => { results := [.lit (.bool true)], args := [d1, d2] }
  | _ => none }
def groupPlaysRow : OpenClaim := { program := "ytjgmkpidiaojkaagreat", sum := "22a64ddb0dfce044f3eeb812942b45cfccc1a49d2189fb030a9400ff60dcc257", func := "liftwell/liftwelllaw16.GroupPlays", spec := "groupPlays", unfollowed := true, recurses := true, apart := false }
def GroupPlaysSaid : Prop := groupPlaysRow.holds Tryz.pinned (OpenSpec.ofChange groupPlaysSpec)

/-- ITS FALSE NEIGHBOUR: 'it returns false'. Refute it at one input. -/
def groupPlaysWrong : ChangeSpec := { name := "groupPlays", fn := fun _ => fun
  | [d1, d2] => { results := [.lit (.bool false)], args := [d1, d2] }
  | _ => none }
def GroupPlaysWrongFalsely : Prop := groupPlaysRow.holds Tryz.pinned (OpenSpec.ofChange groupPlaysWrong)

/-- 'liftwelllaw21.CoreNone': WHATEVER THE INPUT: true; the input reads as it did. -/
def coreNoneSpec : ChangeSpec := { name := "coreNone", fn := fun _ => fun
  | [d1, d2] => { results := [.lit (.bool true)], args := [d1, d2] }
  | _ => none }
def coreNoneRow : OpenClaim := { program := "ytjgmkpidiaojkaagreat", sum := "22a64ddb0dfce044f3eeb812942b45cfccc1a49d2189fb030a9400ff60dcc257", func := "liftwell/liftwelllaw21.CoreNone", spec := "coreNone", unfollowed := true, recurses := true, apart := false }
def CoreNoneSaid : Prop := coreNoneRow.holds Tryz.pinned (OpenSpec.ofChange coreNoneSpec)

/-- ITS FALSE NEIGHBOUR: 'it returns false'. Refute it at one input. -/
def coreNoneWrong : ChangeSpec := { name := "coreNone", fn := fun _ => fun
  | [d1, d2] => { results := [.lit (.bool false)], args := [d1, d2] }
  | _ => none }
def CoreNoneWrongFalsely : Prop := coreNoneRow.holds Tryz.pinned (OpenSpec.ofChange coreNoneWrong)

/-- 'liftwelllaw21.CoreRides': WHATEVER THE INPUT: true; the input reads as it did. -/
def coreRidesSpec : ChangeSpec := { name := "coreRides", fn := fun _ => fun
  | [d1, d2] => { results := [.lit (.bool true)], args := [d1, d2] }
  | _ => none }
def coreRidesRow : OpenClaim := { program := "ytjgmkpidiaojkaagreat", sum := "22a64ddb0dfce044f3eeb812942b45cfccc1a49d2189fb030a9400ff60dcc257", func := "liftwell/liftwelllaw21.CoreRides", spec := "coreRides", unfollowed := true, recurses := true, apart := false }
def CoreRidesSaid : Prop := coreRidesRow.holds Tryz.pinned (OpenSpec.ofChange coreRidesSpec)

/-- ITS FALSE NEIGHBOUR: 'it returns false'. Refute it at one input. -/
def coreRidesWrong : ChangeSpec := { name := "coreRides", fn := fun _ => fun
  | [d1, d2] => { results := [.lit (.bool false)], args := [d1, d2] }
  | _ => none }
def CoreRidesWrongFalsely : Prop := coreRidesRow.holds Tryz.pinned (OpenSpec.ofChange coreRidesWrong)

/-- 'liftwelllaw21.CorePlays': WHATEVER THE INPUT: true; the input reads as it did. -/
def corePlaysSpec : ChangeSpec := { name := "corePlays", fn := fun _ => fun
  | [d1, d2] => { results := [.lit (.bool true)], args := [d1, d2] }
  | _ => none }
def corePlaysRow : OpenClaim := { program := "ytjgmkpidiaojkaagreat", sum := "22a64ddb0dfce044f3eeb812942b45cfccc1a49d2189fb030a9400ff60dcc257", func := "liftwell/liftwelllaw21.CorePlays", spec := "corePlays", unfollowed := true, recurses := true, apart := false }
def CorePlaysSaid : Prop := corePlaysRow.holds Tryz.pinned (OpenSpec.ofChange corePlaysSpec)

/-- ITS FALSE NEIGHBOUR: 'it returns false'. Refute it at one input. -/
def corePlaysWrong : ChangeSpec := { name := "corePlays", fn := fun _ => fun
  | [d1, d2] => { results := [.lit (.bool false)], args := [d1, d2] }
  | _ => none }
def CorePlaysWrongFalsely : Prop := corePlaysRow.holds Tryz.pinned (OpenSpec.ofChange corePlaysWrong)

/-- 'liftwelllaw21.CoreOnce': WHATEVER THE INPUT: true; the input reads as it did. -/
def coreOnceSpec : ChangeSpec := { name := "coreOnce", fn := fun _ => fun
  | [d1, d2] => { results := [.lit (.bool true)], args := [d1, d2] }
  | _ => none }
def coreOnceRow : OpenClaim := { program := "ytjgmkpidiaojkaagreat", sum := "22a64ddb0dfce044f3eeb812942b45cfccc1a49d2189fb030a9400ff60dcc257", func := "liftwell/liftwelllaw21.CoreOnce", spec := "coreOnce", unfollowed := true, recurses := true, apart := false }
def CoreOnceSaid : Prop := coreOnceRow.holds Tryz.pinned (OpenSpec.ofChange coreOnceSpec)

/-- ITS FALSE NEIGHBOUR: 'it returns false'. Refute it at one input. -/
def coreOnceWrong : ChangeSpec := { name := "coreOnce", fn := fun _ => fun
  | [d1, d2] => { results := [.lit (.bool false)], args := [d1, d2] }
  | _ => none }
def CoreOnceWrongFalsely : Prop := coreOnceRow.holds Tryz.pinned (OpenSpec.ofChange coreOnceWrong)

/-- 'liftwelllaw21.CoreHolds': WHATEVER THE INPUT: true; the input reads as it did. -/
def coreHoldsSpec : ChangeSpec := { name := "coreHolds", fn := fun _ => fun
  | [d1, d2] => { results := [.lit (.bool true)], args := [d1, d2] }
  | _ => none }
def coreHoldsRow : OpenClaim := { program := "ytjgmkpidiaojkaagreat", sum := "22a64ddb0dfce044f3eeb812942b45cfccc1a49d2189fb030a9400ff60dcc257", func := "liftwell/liftwelllaw21.CoreHolds", spec := "coreHolds", unfollowed := true, recurses := true, apart := false }
def CoreHoldsSaid : Prop := coreHoldsRow.holds Tryz.pinned (OpenSpec.ofChange coreHoldsSpec)

/-- ITS FALSE NEIGHBOUR: 'it returns false'. Refute it at one input. -/
def coreHoldsWrong : ChangeSpec := { name := "coreHolds", fn := fun _ => fun
  | [d1, d2] => { results := [.lit (.bool false)], args := [d1, d2] }
  | _ => none }
def CoreHoldsWrongFalsely : Prop := coreHoldsRow.holds Tryz.pinned (OpenSpec.ofChange coreHoldsWrong)

/-- 'liftwelllaw21.CoreEnds': WHATEVER THE INPUT: true; the input reads as it did. -/
def coreEndsSpec : ChangeSpec := { name := "coreEnds", fn := fun _ => fun
  | [d1, d2] => { results := [.lit (.bool true)], args := [d1, d2] }
  | _ => none }
def coreEndsRow : OpenClaim := { program := "ytjgmkpidiaojkaagreat", sum := "22a64ddb0dfce044f3eeb812942b45cfccc1a49d2189fb030a9400ff60dcc257", func := "liftwell/liftwelllaw21.CoreEnds", spec := "coreEnds", unfollowed := true, recurses := true, apart := false }
def CoreEndsSaid : Prop := coreEndsRow.holds Tryz.pinned (OpenSpec.ofChange coreEndsSpec)

/-- ITS FALSE NEIGHBOUR: 'it returns false'. Refute it at one input. -/
def coreEndsWrong : ChangeSpec := { name := "coreEnds", fn := fun _ => fun
  | [d1, d2] => { results := [.lit (.bool false)], args := [d1, d2] }
  | _ => none }
def CoreEndsWrongFalsely : Prop := coreEndsRow.holds Tryz.pinned (OpenSpec.ofChange coreEndsWrong)

/- THE SECOND FORM. 'bulk': how many values and letters a reading holds, each counted each time it is reached (what is shared counts as often as it is met; a slice's spare places count too). A statement '..UptoSaid' is the law's where the arguments, and the package variables that the reading takes, are together of bulk at most 1048576: NARROWER than '..Said'. Prove '..Said' where nothing that the law and all that it calls make is longer than what came in: it says more and counts as full. Else prove '..UptoSaid'. A law counts once. -/
mutual
def uptoBulk {H : Type} : DataW H → Nat
  | .lit (.string bytes) => bytes.length + 1
  | .lit _ => 1
  | .nil => 1
  | .ptr d => uptoBulk d + 1
  | .slice elems spare => uptoBulkAll elems + uptoBulkAll spare + 1
  | .agg parts => uptoBulkAll parts + 1
  | .iface _ d => uptoBulk d + 1
  | .map entries => uptoBulkEntries entries + 1
  | .held _ => 1
def uptoBulkAll {H : Type} : List (DataW H) → Nat
  | [] => 0
  | d :: r => uptoBulk d + uptoBulkAll r
def uptoBulkEntries {H : Type} : List (Lit × DataW H) → Nat
  | [] => 0
  | x :: r => uptoBulkEntry x + uptoBulkEntries r
def uptoBulkEntry {H : Type} : Lit × DataW H → Nat
  | (.string bytes, d) => bytes.length + uptoBulk d + 1
  | (_, d) => uptoBulk d + 1
 end
def uptoSmall : (H : Type) → List (DataW H) → Bool := fun _ ds => decide (uptoBulkAll ds ≤ 1048576)
def OpenSpec.upto (s : _root_.Go.ChangeSpec) : _root_.Go.OpenSpec := { _root_.Go.OpenSpec.ofChange s with cond := some uptoSmall }

/-- 'liftwelllaw21.CoreGone', WHERE WHAT IT READS IS OF BULK AT MOST 1048576: true; the input reads as it did. -/
def coreGoneUptoRow : OpenClaim := { program := "ytjgmkpidiaojkaagreat", sum := "22a64ddb0dfce044f3eeb812942b45cfccc1a49d2189fb030a9400ff60dcc257", func := "liftwell/liftwelllaw21.CoreGone", spec := "coreGone", unfollowed := true, recurses := true, apart := false, narrowed := true }
def CoreGoneUptoSaid : Prop := coreGoneUptoRow.holds Tryz.pinned (OpenSpec.upto coreGoneSpec)

/-- 'liftwelllaw16.GroupPlays', WHERE WHAT IT READS IS OF BULK AT MOST 1048576: true; the input reads as it did. -/
def groupPlaysUptoRow : OpenClaim := { program := "ytjgmkpidiaojkaagreat", sum := "22a64ddb0dfce044f3eeb812942b45cfccc1a49d2189fb030a9400ff60dcc257", func := "liftwell/liftwelllaw16.GroupPlays", spec := "groupPlays", unfollowed := true, recurses := true, apart := false, narrowed := true }
def GroupPlaysUptoSaid : Prop := groupPlaysUptoRow.holds Tryz.pinned (OpenSpec.upto groupPlaysSpec)

/-- 'liftwelllaw21.CoreNone', WHERE WHAT IT READS IS OF BULK AT MOST 1048576: true; the input reads as it did. -/
def coreNoneUptoRow : OpenClaim := { program := "ytjgmkpidiaojkaagreat", sum := "22a64ddb0dfce044f3eeb812942b45cfccc1a49d2189fb030a9400ff60dcc257", func := "liftwell/liftwelllaw21.CoreNone", spec := "coreNone", unfollowed := true, recurses := true, apart := false, narrowed := true }
def CoreNoneUptoSaid : Prop := coreNoneUptoRow.holds Tryz.pinned (OpenSpec.upto coreNoneSpec)

/-- 'liftwelllaw21.CoreRides', WHERE WHAT IT READS IS OF BULK AT MOST 1048576: true; the input reads as it did. -/
def coreRidesUptoRow : OpenClaim := { program := "ytjgmkpidiaojkaagreat", sum := "22a64ddb0dfce044f3eeb812942b45cfccc1a49d2189fb030a9400ff60dcc257", func := "liftwell/liftwelllaw21.CoreRides", spec := "coreRides", unfollowed := true, recurses := true, apart := false, narrowed := true }
def CoreRidesUptoSaid : Prop := coreRidesUptoRow.holds Tryz.pinned (OpenSpec.upto coreRidesSpec)

/-- 'liftwelllaw21.CorePlays', WHERE WHAT IT READS IS OF BULK AT MOST 1048576: true; the input reads as it did. -/
def corePlaysUptoRow : OpenClaim := { program := "ytjgmkpidiaojkaagreat", sum := "22a64ddb0dfce044f3eeb812942b45cfccc1a49d2189fb030a9400ff60dcc257", func := "liftwell/liftwelllaw21.CorePlays", spec := "corePlays", unfollowed := true, recurses := true, apart := false, narrowed := true }
def CorePlaysUptoSaid : Prop := corePlaysUptoRow.holds Tryz.pinned (OpenSpec.upto corePlaysSpec)

/-- 'liftwelllaw21.CoreOnce', WHERE WHAT IT READS IS OF BULK AT MOST 1048576: true; the input reads as it did. -/
def coreOnceUptoRow : OpenClaim := { program := "ytjgmkpidiaojkaagreat", sum := "22a64ddb0dfce044f3eeb812942b45cfccc1a49d2189fb030a9400ff60dcc257", func := "liftwell/liftwelllaw21.CoreOnce", spec := "coreOnce", unfollowed := true, recurses := true, apart := false, narrowed := true }
def CoreOnceUptoSaid : Prop := coreOnceUptoRow.holds Tryz.pinned (OpenSpec.upto coreOnceSpec)

/-- 'liftwelllaw21.CoreHolds', WHERE WHAT IT READS IS OF BULK AT MOST 1048576: true; the input reads as it did. -/
def coreHoldsUptoRow : OpenClaim := { program := "ytjgmkpidiaojkaagreat", sum := "22a64ddb0dfce044f3eeb812942b45cfccc1a49d2189fb030a9400ff60dcc257", func := "liftwell/liftwelllaw21.CoreHolds", spec := "coreHolds", unfollowed := true, recurses := true, apart := false, narrowed := true }
def CoreHoldsUptoSaid : Prop := coreHoldsUptoRow.holds Tryz.pinned (OpenSpec.upto coreHoldsSpec)

/-- 'liftwelllaw21.CoreEnds', WHERE WHAT IT READS IS OF BULK AT MOST 1048576: true; the input reads as it did. -/
def coreEndsUptoRow : OpenClaim := { program := "ytjgmkpidiaojkaagreat", sum := "22a64ddb0dfce044f3eeb812942b45cfccc1a49d2189fb030a9400ff60dcc257", func := "liftwell/liftwelllaw21.CoreEnds", spec := "coreEnds", unfollowed := true, recurses := true, apart := false, narrowed := true }
def CoreEndsUptoSaid : Prop := coreEndsUptoRow.holds Tryz.pinned (OpenSpec.upto coreEndsSpec)

end Rows
end Go.Proofs.YtjgmkpidiaojkaaGreat
