/-
  No cell of these rows narrows 'for every input' (looked for: loops, veiled, ifaces, maps, wideKeys, modest, calm, conditions, laid).
  DERIVED. THE GIVEN ROWS OF THIS SEAT. 3 by the template 'for every input the law returns true; each argument reads behind the call as it read before'; 0 by the template 'total and deterministic' (their statements: YtjgmkpidiaojkaaTotals.lean).
  GIVEN WITH THE SEED: the statements are not yours to turn. If you find one false, say at which input.
  Laid BY PROGRAM, IN A SANDBOX (cutbox-rows.mjs): the forced cells as the released guide's own fill.sh prints them over the translation 87d9c61e8e5c202f… (all of the seat's roots in one cut). By AI agents, Wed Nov 11 2026. No macro, syntax, notation, axiom, sorry.
-/
import Derived.Test.YtjgmkpidiaojkaaChecked
import GoSem.Claim
import GoSem.ClaimJoined
import GoSem.ClaimMapViews
import Derived.JoinedTies
import Derived.KernelRfl
namespace Go.Proofs.Ytjgmkpidiaojkaa
/- THE CELL 'sum', in the pinned program and in every row, IS THE sha256 OF THE DUMP (.gsa) THAT YtjgmkpidiaojkaaProg.lean LOADS. Nothing in Lean hashes anything: it is a label: what it is worth is what the hold of that sum in a sandbox is worth. -/
noncomputable def Try.pinned : Pinned := { name := "ytjgmkpidiaojkaa", sum := "87d9c61e8e5c202fedc8e856fd993ff42977ed6498b520b8cae3dc8a42280c0c", checked := Try.checked }
namespace Rows
def none {H : Type} : Left H := { results := [], args := [] }

/-- 'liftwelllaw16.GroupSafe': WHATEVER THE INPUT: true; the input reads as it did. -/
def groupSafeSpec : ChangeSpec := { name := "groupSafe", fn := fun _ => fun
  | [d1, d2] => { results := [.lit (.bool true)], args := [d1, d2] }
  | _ => none }
def groupSafeRow : OpenClaim := { program := "ytjgmkpidiaojkaa", sum := "87d9c61e8e5c202fedc8e856fd993ff42977ed6498b520b8cae3dc8a42280c0c", func := "liftwell/liftwelllaw16.GroupSafe", spec := "groupSafe", unfollowed := true, recurses := true, apart := false }
def GroupSafeSaid : Prop := groupSafeRow.holds Try.pinned (OpenSpec.ofChange groupSafeSpec)

/-- ITS FALSE NEIGHBOUR: 'it returns false'. Refute it at one input. -/
def groupSafeWrong : ChangeSpec := { name := "groupSafe", fn := fun _ => fun
  | [d1, d2] => { results := [.lit (.bool false)], args := [d1, d2] }
  | _ => none }
def GroupSafeWrongFalsely : Prop := groupSafeRow.holds Try.pinned (OpenSpec.ofChange groupSafeWrong)

/-- 'liftwelllaw16.GroupGives': WHATEVER THE INPUT: true; the input reads as it did. -/
def groupGivesSpec : ChangeSpec := { name := "groupGives", fn := fun _ => fun
  | [d1, d2] => { results := [.lit (.bool true)], args := [d1, d2] }
  | _ => none }
def groupGivesRow : OpenClaim := { program := "ytjgmkpidiaojkaa", sum := "87d9c61e8e5c202fedc8e856fd993ff42977ed6498b520b8cae3dc8a42280c0c", func := "liftwell/liftwelllaw16.GroupGives", spec := "groupGives", unfollowed := true, recurses := true, apart := false }
def GroupGivesSaid : Prop := groupGivesRow.holds Try.pinned (OpenSpec.ofChange groupGivesSpec)

/-- ITS FALSE NEIGHBOUR: 'it returns false'. Refute it at one input. -/
def groupGivesWrong : ChangeSpec := { name := "groupGives", fn := fun _ => fun
  | [d1, d2] => { results := [.lit (.bool false)], args := [d1, d2] }
  | _ => none }
def GroupGivesWrongFalsely : Prop := groupGivesRow.holds Try.pinned (OpenSpec.ofChange groupGivesWrong)

/-- 'liftwelllaw16.GroupNone': WHATEVER THE INPUT: true; the input reads as it did. -/
def groupNoneSpec : ChangeSpec := { name := "groupNone", fn := fun _ => fun
  | [d] => { results := [.lit (.bool true)], args := [d] }
  | _ => none }
def groupNoneRow : OpenClaim := { program := "ytjgmkpidiaojkaa", sum := "87d9c61e8e5c202fedc8e856fd993ff42977ed6498b520b8cae3dc8a42280c0c", func := "liftwell/liftwelllaw16.GroupNone", spec := "groupNone", unfollowed := true, recurses := true, apart := false }
def GroupNoneSaid : Prop := groupNoneRow.holds Try.pinned (OpenSpec.ofChange groupNoneSpec)

/-- ITS FALSE NEIGHBOUR: 'it returns false'. Refute it at one input. -/
def groupNoneWrong : ChangeSpec := { name := "groupNone", fn := fun _ => fun
  | [d] => { results := [.lit (.bool false)], args := [d] }
  | _ => none }
def GroupNoneWrongFalsely : Prop := groupNoneRow.holds Try.pinned (OpenSpec.ofChange groupNoneWrong)

/- THE SECOND FORM. 'bulk': how many values and letters a reading holds, each counted each time it is reached (what is shared counts as often as it is met; a slice's spare places count too). A statement '..UptoSaid' is the law's where the arguments, and the package variables that the reading takes, are together of bulk at most 1048576: NARROWER than '..Said'. Prove '..Said' where nothing that the law and all that it calls make is longer than what came in: it says more and counts as full. Else prove '..UptoSaid'. A law counts once. -/
mutual
def uptoBulk {H : Type} : DataW H → Nat
  | .lit (.string bytes) => bytes.length + 1
  | .lit _ => 1
  | .nil => 1
  | .ptr d => uptoBulk d + 1
  | .slice elems spare => uptoBulkAll elems + uptoBulkAll spare + 1
  | .agg parts => uptoBulkAll parts + 1
  | .iface _ d => uptoBulk d + 1
  | .map entries => uptoBulkEntries entries + 1
  | .held _ => 1
def uptoBulkAll {H : Type} : List (DataW H) → Nat
  | [] => 0
  | d :: r => uptoBulk d + uptoBulkAll r
def uptoBulkEntries {H : Type} : List (Lit × DataW H) → Nat
  | [] => 0
  | x :: r => uptoBulkEntry x + uptoBulkEntries r
def uptoBulkEntry {H : Type} : Lit × DataW H → Nat
  | (.string bytes, d) => bytes.length + uptoBulk d + 1
  | (_, d) => uptoBulk d + 1
 end
def uptoSmall : (H : Type) → List (DataW H) → Bool := fun _ ds => decide (uptoBulkAll ds ≤ 1048576)
def OpenSpec.upto (s : _root_.Go.ChangeSpec) : _root_.Go.OpenSpec := { _root_.Go.OpenSpec.ofChange s with cond := some uptoSmall }

/-- 'liftwelllaw16.GroupSafe', WHERE WHAT IT READS IS OF BULK AT MOST 1048576: true; the input reads as it did. -/
def groupSafeUptoRow : OpenClaim := { program := "ytjgmkpidiaojkaa", sum := "87d9c61e8e5c202fedc8e856fd993ff42977ed6498b520b8cae3dc8a42280c0c", func := "liftwell/liftwelllaw16.GroupSafe", spec := "groupSafe", unfollowed := true, recurses := true, apart := false, narrowed := true }
def GroupSafeUptoSaid : Prop := groupSafeUptoRow.holds Try.pinned (OpenSpec.upto groupSafeSpec)

/-- 'liftwelllaw16.GroupGives', WHERE WHAT IT READS IS OF BULK AT MOST 1048576: true; the input reads as it did. -/
def groupGivesUptoRow : OpenClaim := { program := "ytjgmkpidiaojkaa", sum := "87d9c61e8e5c202fedc8e856fd993ff42977ed6498b520b8cae3dc8a42280c0c", func := "liftwell/liftwelllaw16.GroupGives", spec := "groupGives", unfollowed := true, recurses := true, apart := false, narrowed := true }
def GroupGivesUptoSaid : Prop := groupGivesUptoRow.holds Try.pinned (OpenSpec.upto groupGivesSpec)

/-- 'liftwelllaw16.GroupNone', WHERE WHAT IT READS IS OF BULK AT MOST 1048576: true; the input reads as it did. -/
def groupNoneUptoRow : OpenClaim := { program := "ytjgmkpidiaojkaa", sum := "87d9c61e8e5c202fedc8e856fd993ff42977ed6498b520b8cae3dc8a42280c0c", func := "liftwell/liftwelllaw16.GroupNone", spec := "groupNone", unfollowed := true, recurses := true, apart := false, narrowed := true }
def GroupNoneUptoSaid : Prop := groupNoneUptoRow.holds Try.pinned (OpenSpec.upto groupNoneSpec)

end Rows
end Go.Proofs.Ytjgmkpidiaojkaa
