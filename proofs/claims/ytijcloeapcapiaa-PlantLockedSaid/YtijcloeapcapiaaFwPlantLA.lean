/- What the functions of this group answer, and the tables of summaries. -/
import Derived.Test.YtijcloeapcapiaaFwPlantA
set_option linter.unusedVariables false
namespace Go.Proofs.Ytijcloeapcapiaa
open Lw
def conf11 : Config := ⟨0, 5, 0, 0, 2, 0, 0, 0, 0, 0, 0, 0, 0, 0, 0, 0, 0, 0⟩
def s77 : Summ := fun xs M => match xs, M with
  | [], [] => ans (vs conf11.enc)
  | _, _ => none
def tb42 : List (FuncId × Summ) := (77, s77) :: tb41
def s40 : Summ := fun xs M => match xs, M with
  | [], [] => ans (vb true)
  | _, _ => none
def tb43 : List (FuncId × Summ) := (40, s40) :: tb42
def s12 : Summ := fun xs M => match xs, M with
  | [.one (.agg csc), .one (.agg csx), .one (.agg csm)], [] => (Lw.Config.of csc).bind fun c => (Lw.Car.of csx).bind fun x => (Lw.Cmd.of csm).bind fun m => ansP (r64 x.unit) (vb true)
  | _, _ => none
def tb44 : List (FuncId × Summ) := (12, s12) :: tb43
def s14 : Summ := fun xs M => match xs, M with
  | [.one (.agg csc), .one (.agg csx), .one (.agg csm)], [] => (Lw.Config.of csc).bind fun c => (Lw.Car.of csx).bind fun x => (Lw.Cmd.of csm).bind fun m => ansP (r64 x.unit) (vb true)
  | _, _ => none
def tb45 : List (FuncId × Summ) := (14, s14) :: tb44
def s13 : Summ := fun xs M => match xs, M with
  | [.one (.agg csc), .one (.c (.ros .cmd cmds)), .one (.c (.ros .bool bl)), .one (.c (.ros .bool br))], [] => (Lw.Config.of csc).bind fun c => ansP (cmds.length ≤ Go.maxLen) (vb true)
  | _, _ => none
def tb46 : List (FuncId × Summ) := (13, s13) :: tb45
end Go.Proofs.Ytijcloeapcapiaa
