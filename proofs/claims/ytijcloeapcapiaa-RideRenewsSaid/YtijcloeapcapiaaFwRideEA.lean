/- What the functions of this group answer, and the tables of summaries. -/
import Derived.Test.YtijcloeapcapiaaFwRideLA
set_option linter.unusedVariables false
namespace Go.Proofs.Ytijcloeapcapiaa
open Lw
def remR (c : Config) (p r : Int) : Int := (if p ≤ 1 then spanI c.hold + tripI c + spanI c.hold else if p = 2 then tripI c + spanI c.hold else if p = 3 then spanI c.hold else 0) + (renewI c.renew - r) * spanI c.hold
def endsP (c : Config) (l : Lw.Lease) (now : Int) : Prop := (1 ≤ l.phase ∧ l.phase ≤ 4) ∧ (0 ≤ l.renewed ∧ l.renewed ≤ renewI c.renew) ∧ now ≤ l.until_ ∧ l.until_ + remR c l.phase l.renewed ≤ leaseI c
def s6 : Summ := fun xs M => match xs, M with
  | [.one (.agg csc), .one (.agg csl), .one (.agg csx), .one (.c (.ros .msg says))], [] => (Lw.Config.of csc).bind fun c => (Lw.Lease.of csl).bind fun l => (Lw.Car.of csx).bind fun x => ans (vb true)
  | _, _ => none
def tb51 : List (FuncId × Summ) := (6, s6) :: tb50
def s7 : Summ := fun xs M => match xs, M with
  | [.one (.agg csc), .one (.agg csl), .one (.agg csx), .one (.c (.pl (.int .i64 now))), .one (.c (.pl (.int .u8 n)))], [] => (Lw.Config.of csc).bind fun c => (Lw.Lease.of csl).bind fun l => (Lw.Car.of csx).bind fun x => ansP ((0 ≤ n ∧ n ≤ 255)) (vb true)
  | _, _ => none
def tb52 : List (FuncId × Summ) := (7, s7) :: tb51
end Go.Proofs.Ytijcloeapcapiaa
