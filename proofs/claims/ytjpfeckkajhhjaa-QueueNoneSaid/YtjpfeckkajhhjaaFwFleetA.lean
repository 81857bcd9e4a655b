/- What the functions of this group answer, and the tables of summaries. -/
import Derived.Test.YtjpfeckkajhhjaaFwBaseA
set_option linter.unusedVariables false
namespace Go.Proofs.Ytjpfeckkajhhjaa
open Lw
def quotaI (c : Config) : Int := clampI 1 8 c.quota
def countL (l : List Lw.Lease) (n : Int) : Int := (l.countP fun x => x.ask.fleet == n : Nat)
def inB (n k : Int) : Bool := decide (n ≥ 0) && decide (n < k)
def mayA (c : Config) (a : Lw.Ask) : Bool := inB a.session (clampI 1 64 c.sessions) && (inB a.fleet (clampI 1 8 c.fleets) && (inB a.src (floorsI c.floors) && (inB a.dst (floorsI c.floors) && (a.src != a.dst && (decide (a.mass ≥ 1) && decide (a.mass ≤ massI c.load))))))
def countS : Summ := fun xs M => match xs, M with
  | [.one (.c .es), .one (.c (.pl (.int .i64 n)))], [] => ans (vi 0)
  | [.one (.c (.row 0)), .one (.c (.pl (.int .i64 n)))], [.row .lease l] => ansP (l.length ≤ Go.maxLen) (vi (countL l n))
  | _, _ => none
def freeS : Summ := fun xs M => match xs, M with
  | [.one (.agg kc), .one (.c .es), .one (.c (.pl (.int .i64 n)))], [] => (Lw.Config.of kc).bind fun c => ans (vb (decide (0 < quotaI c)))
  | [.one (.agg kc), .one (.c (.row 0)), .one (.c (.pl (.int .i64 n)))], [.row .lease l] => (Lw.Config.of kc).bind fun c => ansP (l.length ≤ Go.maxLen) (vb (decide (countL l n < quotaI c)))
  | _, _ => none
def s72 : Summ := fun xs M => match xs, M with
  | [.one (.c (.pl (.int .i64 n))), .one (.c (.pl (.int .i64 k)))], [] => ans (vi (mm false (mm true n 1) k))
  | _, _ => none
def tb8 : List (FuncId × Summ) := (72, s72) :: tb7
def s68 : Summ := fun xs M => match xs, M with
  | [.one (.agg csc)], [] => (Lw.Config.of csc).bind fun c => ans (vi (quotaI c))
  | _, _ => none
def tb9 : List (FuncId × Summ) := (68, s68) :: tb8
def s71 : Summ := fun xs M => match xs, M with
  | [.one (.c (.pl (.int .i64 n))), .one (.c (.pl (.int .i64 k)))], [] => ans (vb (inB n k))
  | _, _ => none
def tb10 : List (FuncId × Summ) := (71, s71) :: tb9
def tb11 : List (FuncId × Summ) := (67, countS) :: tb10
def tb12 : List (FuncId × Summ) := (49, freeS) :: tb11
def s65 : Summ := fun xs M => match xs, M with
  | [.one (.agg csc), .one (.agg csa)], [] => (Lw.Config.of csc).bind fun c => (Lw.Ask.of csa).bind fun a => ans (vb (mayA c a))
  | _, _ => none
def tb13 : List (FuncId × Summ) := (65, s65) :: tb12
end Go.Proofs.Ytjpfeckkajhhjaa
