/-
  No cell of these rows narrows 'for every input' (looked for: loops, veiled, ifaces, maps, wideKeys, modest, calm, conditions, laid).
  DERIVED. THE GIVEN ROWS OF THIS SEAT. 12 by the template 'for every input the law returns true; each argument reads behind the call as it read before'; 0 by the template 'total and deterministic' (their statements: YtijcloeapcapiaaTotals.lean).
  GIVEN WITH THE SEED: the statements are not yours to turn. If you find one false, say at which input.
  Laid BY PROGRAM, IN A SANDBOX (cutbox-rows.mjs): the forced cells as the released guide's own fill.sh prints them over the translation 2b64e48280640c7f… (all of the seat's roots in one cut). By AI agents, Wed Nov 11 2026. No macro, syntax, notation, axiom, sorry.
-/
import Derived.Test.YtijcloeapcapiaaChecked
import GoSem.Claim
import GoSem.ClaimJoined
import GoSem.ClaimMapViews
import Derived.JoinedTies
import Derived.KernelRfl
namespace Go.Proofs.Ytijcloeapcapiaa
/- THE CELL 'sum', in the pinned program and in every row, IS THE sha256 OF THE DUMP (.gsa) THAT YtijcloeapcapiaaProg.lean LOADS. Nothing in Lean hashes anything: it is a label: what it is worth is what the hold of that sum in a sandbox is worth. -/
noncomputable def Try.pinned : Pinned := { name := "ytijcloeapcapiaa", sum := "2b64e48280640c7f428a1c5e8463c70d97a43265eda8b938ebefba5371356562", checked := Try.checked }
namespace Rows
def none {H : Type} : Left H := { results := [], args := [] }

/-- 'liftwelllaw20.RideTicks': WHATEVER THE INPUT: true; the input reads as it did. -/
def rideTicksSpec : ChangeSpec := { name := "rideTicks", fn := fun _ => fun
  | [d1, d2, d3, d4] => { results := [.lit (.bool true)], args := [d1, d2, d3, d4] }
  | _ => none }
def rideTicksRow : OpenClaim := { program := "ytijcloeapcapiaa", sum := "2b64e48280640c7f428a1c5e8463c70d97a43265eda8b938ebefba5371356562", func := "liftwell/liftwelllaw20.RideTicks", spec := "rideTicks", apart := false }
def RideTicksSaid : Prop := rideTicksRow.holds Try.pinned (OpenSpec.ofChange rideTicksSpec)

/-- ITS FALSE NEIGHBOUR: 'it returns false'. Refute it at one input. -/
def rideTicksWrong : ChangeSpec := { name := "rideTicks", fn := fun _ => fun
  | [d1, d2, d3, d4] => { results := [.lit (.bool false)], args := [d1, d2, d3, d4] }
  | _ => none }
def RideTicksWrongFalsely : Prop := rideTicksRow.holds Try.pinned (OpenSpec.ofChange rideTicksWrong)

/-- 'liftwelllaw20.RideHears': WHATEVER THE INPUT: true; the input reads as it did. -/
def rideHearsSpec : ChangeSpec := { name := "rideHears", fn := fun _ => fun
  | [d1, d2, d3, d4, d5] => { results := [.lit (.bool true)], args := [d1, d2, d3, d4, d5] }
  | _ => none }
def rideHearsRow : OpenClaim := { program := "ytijcloeapcapiaa", sum := "2b64e48280640c7f428a1c5e8463c70d97a43265eda8b938ebefba5371356562", func := "liftwell/liftwelllaw20.RideHears", spec := "rideHears", apart := false }
def RideHearsSaid : Prop := rideHearsRow.holds Try.pinned (OpenSpec.ofChange rideHearsSpec)

/-- ITS FALSE NEIGHBOUR: 'it returns false'. Refute it at one input. -/
def rideHearsWrong : ChangeSpec := { name := "rideHears", fn := fun _ => fun
  | [d1, d2, d3, d4, d5] => { results := [.lit (.bool false)], args := [d1, d2, d3, d4, d5] }
  | _ => none }
def RideHearsWrongFalsely : Prop := rideHearsRow.holds Try.pinned (OpenSpec.ofChange rideHearsWrong)

/-- 'liftwelllaw20.RidePhases': WHATEVER THE INPUT: true; the input reads as it did. -/
def ridePhasesSpec : ChangeSpec := { name := "ridePhases", fn := fun _ => fun
  | [d1, d2, d3, d4, d5] => { results := [.lit (.bool true)], args := [d1, d2, d3, d4, d5] }
  | _ => none }
def ridePhasesRow : OpenClaim := { program := "ytijcloeapcapiaa", sum := "2b64e48280640c7f428a1c5e8463c70d97a43265eda8b938ebefba5371356562", func := "liftwell/liftwelllaw20.RidePhases", spec := "ridePhases", apart := false }
def RidePhasesSaid : Prop := ridePhasesRow.holds Try.pinned (OpenSpec.ofChange ridePhasesSpec)

/-- ITS FALSE NEIGHBOUR: 'it returns false'. Refute it at one input. -/
def ridePhasesWrong : ChangeSpec := { name := "ridePhases", fn := fun _ => fun
  | [d1, d2, d3, d4, d5] => { results := [.lit (.bool false)], args := [d1, d2, d3, d4, d5] }
  | _ => none }
def RidePhasesWrongFalsely : Prop := ridePhasesRow.holds Try.pinned (OpenSpec.ofChange ridePhasesWrong)

/-- 'liftwelllaw20.RideEnds': WHATEVER THE INPUT: true; the input reads as it did. -/
def rideEndsSpec : ChangeSpec := { name := "rideEnds", fn := fun _ => fun
  | [d1, d2, d3, d4] => { results := [.lit (.bool true)], args := [d1, d2, d3, d4] }
  | _ => none }
def rideEndsRow : OpenClaim := { program := "ytijcloeapcapiaa", sum := "2b64e48280640c7f428a1c5e8463c70d97a43265eda8b938ebefba5371356562", func := "liftwell/liftwelllaw20.RideEnds", spec := "rideEnds", apart := false }
def RideEndsSaid : Prop := rideEndsRow.holds Try.pinned (OpenSpec.ofChange rideEndsSpec)

/-- ITS FALSE NEIGHBOUR: 'it returns false'. Refute it at one input. -/
def rideEndsWrong : ChangeSpec := { name := "rideEnds", fn := fun _ => fun
  | [d1, d2, d3, d4] => { results := [.lit (.bool false)], args := [d1, d2, d3, d4] }
  | _ => none }
def RideEndsWrongFalsely : Prop := rideEndsRow.holds Try.pinned (OpenSpec.ofChange rideEndsWrong)

/-- 'liftwelllaw20.RideRenews': WHATEVER THE INPUT: true; the input reads as it did. -/
def rideRenewsSpec : ChangeSpec := { name := "rideRenews", fn := fun _ => fun
  | [d1, d2, d3, d4, d5] => { results := [.lit (.bool true)], args := [d1, d2, d3, d4, d5] }
  | _ => none }
def rideRenewsRow : OpenClaim := { program := "ytijcloeapcapiaa", sum := "2b64e48280640c7f428a1c5e8463c70d97a43265eda8b938ebefba5371356562", func := "liftwell/liftwelllaw20.RideRenews", spec := "rideRenews", apart := false }
def RideRenewsSaid : Prop := rideRenewsRow.holds Try.pinned (OpenSpec.ofChange rideRenewsSpec)

/-- ITS FALSE NEIGHBOUR: 'it returns false'. Refute it at one input. -/
def rideRenewsWrong : ChangeSpec := { name := "rideRenews", fn := fun _ => fun
  | [d1, d2, d3, d4, d5] => { results := [.lit (.bool false)], args := [d1, d2, d3, d4, d5] }
  | _ => none }
def RideRenewsWrongFalsely : Prop := rideRenewsRow.holds Try.pinned (OpenSpec.ofChange rideRenewsWrong)

/-- 'liftwelllaw15.EtaCosts': WHATEVER THE INPUT: true; the input reads as it did. -/
def etaCostsSpec : ChangeSpec := { name := "etaCosts", fn := fun _ => fun
  | [d1, d2, d3] => { results := [.lit (.bool true)], args := [d1, d2, d3] }
  | _ => none }
def etaCostsRow : OpenClaim := { program := "ytijcloeapcapiaa", sum := "2b64e48280640c7f428a1c5e8463c70d97a43265eda8b938ebefba5371356562", func := "liftwell/liftwelllaw15.EtaCosts", spec := "etaCosts", apart := false }
def EtaCostsSaid : Prop := etaCostsRow.holds Try.pinned (OpenSpec.ofChange etaCostsSpec)

/-- ITS FALSE NEIGHBOUR: 'it returns false'. Refute it at one input. -/
def etaCostsWrong : ChangeSpec := { name := "etaCosts", fn := fun _ => fun
  | [d1, d2, d3] => { results := [.lit (.bool false)], args := [d1, d2, d3] }
  | _ => none }
def EtaCostsWrongFalsely : Prop := etaCostsRow.holds Try.pinned (OpenSpec.ofChange etaCostsWrong)

/-- 'liftwelllaw15.EtaBest': WHATEVER THE INPUT: true; the input reads as it did. -/
def etaBestSpec : ChangeSpec := { name := "etaBest", fn := fun _ => fun
  | [d1, d2, d3] => { results := [.lit (.bool true)], args := [d1, d2, d3] }
  | _ => none }
def etaBestRow : OpenClaim := { program := "ytijcloeapcapiaa", sum := "2b64e48280640c7f428a1c5e8463c70d97a43265eda8b938ebefba5371356562", func := "liftwell/liftwelllaw15.EtaBest", spec := "etaBest", apart := false }
def EtaBestSaid : Prop := etaBestRow.holds Try.pinned (OpenSpec.ofChange etaBestSpec)

/-- ITS FALSE NEIGHBOUR: 'it returns false'. Refute it at one input. -/
def etaBestWrong : ChangeSpec := { name := "etaBest", fn := fun _ => fun
  | [d1, d2, d3] => { results := [.lit (.bool false)], args := [d1, d2, d3] }
  | _ => none }
def EtaBestWrongFalsely : Prop := etaBestRow.holds Try.pinned (OpenSpec.ofChange etaBestWrong)

/-- 'liftwelllaw15.EtaMore': WHATEVER THE INPUT: true; the input reads as it did. -/
def etaMoreSpec : ChangeSpec := { name := "etaMore", fn := fun _ => fun
  | [d1, d2, d3, d4] => { results := [.lit (.bool true)], args := [d1, d2, d3, d4] }
  | _ => none }
def etaMoreRow : OpenClaim := { program := "ytijcloeapcapiaa", sum := "2b64e48280640c7f428a1c5e8463c70d97a43265eda8b938ebefba5371356562", func := "liftwell/liftwelllaw15.EtaMore", spec := "etaMore", apart := false }
def EtaMoreSaid : Prop := etaMoreRow.holds Try.pinned (OpenSpec.ofChange etaMoreSpec)

/-- ITS FALSE NEIGHBOUR: 'it returns false'. Refute it at one input. -/
def etaMoreWrong : ChangeSpec := { name := "etaMore", fn := fun _ => fun
  | [d1, d2, d3, d4] => { results := [.lit (.bool false)], args := [d1, d2, d3, d4] }
  | _ => none }
def EtaMoreWrongFalsely : Prop := etaMoreRow.holds Try.pinned (OpenSpec.ofChange etaMoreWrong)

/-- 'liftwelllaw19.LeaseTimes': WHATEVER THE INPUT: true; the input reads as it did. -/
def leaseTimesSpec : ChangeSpec := { name := "leaseTimes", fn := fun _ => fun
  | [d1, d2] => { results := [.lit (.bool true)], args := [d1, d2] }
  | _ => none }
def leaseTimesRow : OpenClaim := { program := "ytijcloeapcapiaa", sum := "2b64e48280640c7f428a1c5e8463c70d97a43265eda8b938ebefba5371356562", func := "liftwell/liftwelllaw19.LeaseTimes", spec := "leaseTimes", unfollowed := true, recurses := true, apart := false }
def LeaseTimesSaid : Prop := leaseTimesRow.holds Try.pinned (OpenSpec.ofChange leaseTimesSpec)

/-- ITS FALSE NEIGHBOUR: 'it returns false'. Refute it at one input. -/
def leaseTimesWrong : ChangeSpec := { name := "leaseTimes", fn := fun _ => fun
  | [d1, d2] => { results := [.lit (.bool false)], args := [d1, d2] }
  | _ => none }
def LeaseTimesWrongFalsely : Prop := leaseTimesRow.holds Try.pinned (OpenSpec.ofChange leaseTimesWrong)

/-- 'liftwelllaw11.PlantSteps': WHATEVER THE INPUT: true; the input reads as it did. -/
def plantStepsSpec : ChangeSpec := { name := "plantSteps", fn := fun _ => fun
  | [d1, d2, d3] => { results := [.lit (.bool true)], args := [d1, d2, d3] }
  | _ => none }
def plantStepsRow : OpenClaim := { program := "ytijcloeapcapiaa", sum := "2b64e48280640c7f428a1c5e8463c70d97a43265eda8b938ebefba5371356562", func := "liftwell/liftwelllaw11.PlantSteps", spec := "plantSteps", apart := false }
def PlantStepsSaid : Prop := plantStepsRow.holds Try.pinned (OpenSpec.ofChange plantStepsSpec)

/-- ITS FALSE NEIGHBOUR: 'it returns false'. Refute it at one input. -/
def plantStepsWrong : ChangeSpec := { name := "plantSteps", fn := fun _ => fun
  | [d1, d2, d3] => { results := [.lit (.bool false)], args := [d1, d2, d3] }
  | _ => none }
def PlantStepsWrongFalsely : Prop := plantStepsRow.holds Try.pinned (OpenSpec.ofChange plantStepsWrong)

/-- 'liftwelllaw11.PlantLocked': WHATEVER THE INPUT: true; the input reads as it did. -/
def plantLockedSpec : ChangeSpec := { name := "plantLocked", fn := fun _ => fun
  | [d1, d2, d3, d4] => { results := [.lit (.bool true)], args := [d1, d2, d3, d4] }
  | _ => none }
def plantLockedRow : OpenClaim := { program := "ytijcloeapcapiaa", sum := "2b64e48280640c7f428a1c5e8463c70d97a43265eda8b938ebefba5371356562", func := "liftwell/liftwelllaw11.PlantLocked", spec := "plantLocked", apart := false }
def PlantLockedSaid : Prop := plantLockedRow.holds Try.pinned (OpenSpec.ofChange plantLockedSpec)

/-- ITS FALSE NEIGHBOUR: 'it returns false'. Refute it at one input. -/
def plantLockedWrong : ChangeSpec := { name := "plantLocked", fn := fun _ => fun
  | [d1, d2, d3, d4] => { results := [.lit (.bool false)], args := [d1, d2, d3, d4] }
  | _ => none }
def PlantLockedWrongFalsely : Prop := plantLockedRow.holds Try.pinned (OpenSpec.ofChange plantLockedWrong)

/-- 'liftwelllaw11.PlantKeeps': WHATEVER THE INPUT: true; the input reads as it did. -/
def plantKeepsSpec : ChangeSpec := { name := "plantKeeps", fn := fun _ => fun
  | [d1, d2, d3] => { results := [.lit (.bool true)], args := [d1, d2, d3] }
  | _ => none }
def plantKeepsRow : OpenClaim := { program := "ytijcloeapcapiaa", sum := "2b64e48280640c7f428a1c5e8463c70d97a43265eda8b938ebefba5371356562", func := "liftwell/liftwelllaw11.PlantKeeps", spec := "plantKeeps", apart := false }
def PlantKeepsSaid : Prop := plantKeepsRow.holds Try.pinned (OpenSpec.ofChange plantKeepsSpec)

/-- ITS FALSE NEIGHBOUR: 'it returns false'. Refute it at one input. -/
def plantKeepsWrong : ChangeSpec := { name := "plantKeeps", fn := fun _ => fun
  | [d1, d2, d3] => { results := [.lit (.bool false)], args := [d1, d2, d3] }
  | _ => none }
def PlantKeepsWrongFalsely : Prop := plantKeepsRow.holds Try.pinned (OpenSpec.ofChange plantKeepsWrong)

/- THE SECOND FORM. 'bulk': how many values and letters a reading holds, each counted each time it is reached (what is shared counts as often as it is met; a slice's spare places count too). A statement '..UptoSaid' is the law's where the arguments, and the package variables that the reading takes, are together of bulk at most 1048576: NARROWER than '..Said'. Prove '..Said' where nothing that the law and all that it calls make is longer than what came in: it says more and counts as full. Else prove '..UptoSaid'. A law counts once. -/
mutual
def uptoBulk {H : Type} : DataW H → Nat
  | .lit (.string bytes) => bytes.length + 1
  | .lit _ => 1
  | .nil => 1
  | .ptr d => uptoBulk d + 1
  | .slice elems spare => uptoBulkAll elems + uptoBulkAll spare + 1
  | .agg parts => uptoBulkAll parts + 1
  | .iface _ d => uptoBulk d + 1
  | .map entries => uptoBulkEntries entries + 1
  | .held _ => 1
def uptoBulkAll {H : Type} : List (DataW H) → Nat
  | [] => 0
  | d :: r => uptoBulk d + uptoBulkAll r
def uptoBulkEntries {H : Type} : List (Lit × DataW H) → Nat
  | [] => 0
  | x :: r => uptoBulkEntry x + uptoBulkEntries r
def uptoBulkEntry {H : Type} : Lit × DataW H → Nat
  | (.string bytes, d) => bytes.length + uptoBulk d + 1
  | (_, d) => uptoBulk d + 1
 end
def uptoSmall : (H : Type) → List (DataW H) → Bool := fun _ ds => decide (uptoBulkAll ds ≤ 1048576)
def OpenSpec.upto (s : _root_.Go.ChangeSpec) : _root_.Go.OpenSpec := { _root_.Go.OpenSpec.ofChange s with cond := some uptoSmall }

/-- 'liftwelllaw20.RideTicks', WHERE WHAT IT READS IS OF BULK AT MOST 1048576: true; the input reads as it did. -/
def rideTicksUptoRow : OpenClaim := { program := "ytijcloeapcapiaa", sum := "2b64e48280640c7f428a1c5e8463c70d97a43265eda8b938ebefba5371356562", func := "liftwell/liftwelllaw20.RideTicks", spec := "rideTicks", apart := false, narrowed := true }
def RideTicksUptoSaid : Prop := rideTicksUptoRow.holds Try.pinned (OpenSpec.upto rideTicksSpec)

/-- 'liftwelllaw20.RideHears', WHERE WHAT IT READS IS OF BULK AT MOST 1048576: true; the input reads as it did. -/
def rideHearsUptoRow : OpenClaim := { program := "ytijcloeapcapiaa", sum := "2b64e48280640c7f428a1c5e8463c70d97a43265eda8b938ebefba5371356562", func := "liftwell/liftwelllaw20.RideHears", spec := "rideHears", apart := false, narrowed := true }
def RideHearsUptoSaid : Prop := rideHearsUptoRow.holds Try.pinned (OpenSpec.upto rideHearsSpec)

/-- 'liftwelllaw20.RidePhases', WHERE WHAT IT READS IS OF BULK AT MOST 1048576: true; the input reads as it did. -/
def ridePhasesUptoRow : OpenClaim := { program := "ytijcloeapcapiaa", sum := "2b64e48280640c7f428a1c5e8463c70d97a43265eda8b938ebefba5371356562", func := "liftwell/liftwelllaw20.RidePhases", spec := "ridePhases", apart := false, narrowed := true }
def RidePhasesUptoSaid : Prop := ridePhasesUptoRow.holds Try.pinned (OpenSpec.upto ridePhasesSpec)

/-- 'liftwelllaw20.RideEnds', WHERE WHAT IT READS IS OF BULK AT MOST 1048576: true; the input reads as it did. -/
def rideEndsUptoRow : OpenClaim := { program := "ytijcloeapcapiaa", sum := "2b64e48280640c7f428a1c5e8463c70d97a43265eda8b938ebefba5371356562", func := "liftwell/liftwelllaw20.RideEnds", spec := "rideEnds", apart := false, narrowed := true }
def RideEndsUptoSaid : Prop := rideEndsUptoRow.holds Try.pinned (OpenSpec.upto rideEndsSpec)

/-- 'liftwelllaw20.RideRenews', WHERE WHAT IT READS IS OF BULK AT MOST 1048576: true; the input reads as it did. -/
def rideRenewsUptoRow : OpenClaim := { program := "ytijcloeapcapiaa", sum := "2b64e48280640c7f428a1c5e8463c70d97a43265eda8b938ebefba5371356562", func := "liftwell/liftwelllaw20.RideRenews", spec := "rideRenews", apart := false, narrowed := true }
def RideRenewsUptoSaid : Prop := rideRenewsUptoRow.holds Try.pinned (OpenSpec.upto rideRenewsSpec)

/-- 'liftwelllaw15.EtaCosts', WHERE WHAT IT READS IS OF BULK AT MOST 1048576: true; the input reads as it did. -/
def etaCostsUptoRow : OpenClaim := { program := "ytijcloeapcapiaa", sum := "2b64e48280640c7f428a1c5e8463c70d97a43265eda8b938ebefba5371356562", func := "liftwell/liftwelllaw15.EtaCosts", spec := "etaCosts", apart := false, narrowed := true }
def EtaCostsUptoSaid : Prop := etaCostsUptoRow.holds Try.pinned (OpenSpec.upto etaCostsSpec)

/-- 'liftwelllaw15.EtaBest', WHERE WHAT IT READS IS OF BULK AT MOST 1048576: true; the input reads as it did. -/
def etaBestUptoRow : OpenClaim := { program := "ytijcloeapcapiaa", sum := "2b64e48280640c7f428a1c5e8463c70d97a43265eda8b938ebefba5371356562", func := "liftwell/liftwelllaw15.EtaBest", spec := "etaBest", apart := false, narrowed := true }
def EtaBestUptoSaid : Prop := etaBestUptoRow.holds Try.pinned (OpenSpec.upto etaBestSpec)

/-- 'liftwelllaw15.EtaMore', WHERE WHAT IT READS IS OF BULK AT MOST 1048576: true; the input reads as it did. -/
def etaMoreUptoRow : OpenClaim := { program := "ytijcloeapcapiaa", sum := "2b64e48280640c7f428a1c5e8463c70d97a43265eda8b938ebefba5371356562", func := "liftwell/liftwelllaw15.EtaMore", spec := "etaMore", apart := false, narrowed := true }
def EtaMoreUptoSaid : Prop := etaMoreUptoRow.holds Try.pinned (OpenSpec.upto etaMoreSpec)

/-- 'liftwelllaw19.LeaseTimes', WHERE WHAT IT READS IS OF BULK AT MOST 1048576: true; the input reads as it did. -/
def leaseTimesUptoRow : OpenClaim := { program := "ytijcloeapcapiaa", sum := "2b64e48280640c7f428a1c5e8463c70d97a43265eda8b938ebefba5371356562", func := "liftwell/liftwelllaw19.LeaseTimes", spec := "leaseTimes", unfollowed := true, recurses := true, apart := false, narrowed := true }
def LeaseTimesUptoSaid : Prop := leaseTimesUptoRow.holds Try.pinned (OpenSpec.upto leaseTimesSpec)

/-- 'liftwelllaw11.PlantSteps', WHERE WHAT IT READS IS OF BULK AT MOST 1048576: true; the input reads as it did. -/
def plantStepsUptoRow : OpenClaim := { program := "ytijcloeapcapiaa", sum := "2b64e48280640c7f428a1c5e8463c70d97a43265eda8b938ebefba5371356562", func := "liftwell/liftwelllaw11.PlantSteps", spec := "plantSteps", apart := false, narrowed := true }
def PlantStepsUptoSaid : Prop := plantStepsUptoRow.holds Try.pinned (OpenSpec.upto plantStepsSpec)

/-- 'liftwelllaw11.PlantLocked', WHERE WHAT IT READS IS OF BULK AT MOST 1048576: true; the input reads as it did. -/
def plantLockedUptoRow : OpenClaim := { program := "ytijcloeapcapiaa", sum := "2b64e48280640c7f428a1c5e8463c70d97a43265eda8b938ebefba5371356562", func := "liftwell/liftwelllaw11.PlantLocked", spec := "plantLocked", apart := false, narrowed := true }
def PlantLockedUptoSaid : Prop := plantLockedUptoRow.holds Try.pinned (OpenSpec.upto plantLockedSpec)

/-- 'liftwelllaw11.PlantKeeps', WHERE WHAT IT READS IS OF BULK AT MOST 1048576: true; the input reads as it did. -/
def plantKeepsUptoRow : OpenClaim := { program := "ytijcloeapcapiaa", sum := "2b64e48280640c7f428a1c5e8463c70d97a43265eda8b938ebefba5371356562", func := "liftwell/liftwelllaw11.PlantKeeps", spec := "plantKeeps", apart := false, narrowed := true }
def PlantKeepsUptoSaid : Prop := plantKeepsUptoRow.holds Try.pinned (OpenSpec.upto plantKeepsSpec)

end Rows
end Go.Proofs.Ytijcloeapcapiaa
