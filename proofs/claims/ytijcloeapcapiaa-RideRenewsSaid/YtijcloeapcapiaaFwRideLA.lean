/- What the functions of this group answer, and the tables of summaries. -/
import Derived.Test.YtijcloeapcapiaaFwRideA
set_option linter.unusedVariables false
namespace Go.Proofs.Ytijcloeapcapiaa
open Lw
def conf20 : Config := ⟨0, 5, 0, 0, 2, 0, 9, 1, 0, 0, 0, 0, 5, 0, 0, 0, 0, 0⟩
def s45 : Summ := fun xs M => match xs, M with
  | [], [] => ans (vs conf20.enc)
  | _, _ => none
def tb47 : List (FuncId × Summ) := (45, s45) :: tb46
def s15 : Summ := fun xs M => match xs, M with
  | [], [] => ans (vb true)
  | _, _ => none
def tb48 : List (FuncId × Summ) := (15, s15) :: tb47
def s3 : Summ := fun xs M => match xs, M with
  | [.one (.agg csc), .one (.agg csl), .one (.agg csx), .one (.c (.pl (.int .i64 now)))], [] => (Lw.Config.of csc).bind fun c => (Lw.Lease.of csl).bind fun l => (Lw.Car.of csx).bind fun x => ans (vb true)
  | _, _ => none
def tb49 : List (FuncId × Summ) := (3, s3) :: tb48
def s4 : Summ := fun xs M => match xs, M with
  | [.one (.agg csc), .one (.agg csl), .one (.agg csx), .one (.c (.pl (.int .i64 now))), .one (.agg csm)], [] => (Lw.Config.of csc).bind fun c => (Lw.Lease.of csl).bind fun l => (Lw.Car.of csx).bind fun x => (Lw.Msg.of csm).bind fun m => ans (vb true)
  | _, _ => none
def tb50 : List (FuncId × Summ) := (4, s4) :: tb49
end Go.Proofs.Ytijcloeapcapiaa
