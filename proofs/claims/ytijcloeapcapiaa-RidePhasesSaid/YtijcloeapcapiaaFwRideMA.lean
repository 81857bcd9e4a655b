/- What the functions of this group answer, and the tables of summaries. -/
import Derived.Test.YtijcloeapcapiaaFwRideLA
set_option linter.unusedVariables false
namespace Go.Proofs.Ytijcloeapcapiaa
open Lw
def s5 : Summ := fun xs M => match xs, M with
  | [.one (.agg csc), .one (.agg csl), .one (.c (.ros .car cars)), .one (.c (.ros .msg says)), .one (.c (.ros .u8 times))], [] => (Lw.Config.of csc).bind fun c => (Lw.Lease.of csl).bind fun l => ansP ((r64 l.renewed ∧ cars.length ≤ Go.maxLen)) (vb true)
  | _, _ => none
def tb51 : List (FuncId × Summ) := (5, s5) :: tb50
end Go.Proofs.Ytijcloeapcapiaa
