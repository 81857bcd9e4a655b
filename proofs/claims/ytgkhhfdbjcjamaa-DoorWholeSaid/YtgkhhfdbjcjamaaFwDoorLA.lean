/- What the functions of this group answer, and the tables of summaries. -/
import Derived.Test.YtgkhhfdbjcjamaaFwDoorA
set_option linter.unusedVariables false
namespace Go.Proofs.Ytgkhhfdbjcjamaa
open Lw
def s34 : Summ := fun xs M => match xs, M with
  | [], [] => ans (vb true)
  | _, _ => none
def tb24 : List (FuncId × Summ) := (34, s34) :: tb23
def s8 : Summ := fun xs M => match xs, M with
  | [.one (.agg csd), .one (.c (.pl (.int .i64 t))), .one (.c (.pl (.bool b)))], [] => (Lw.Door.of csd).bind fun d => ans (vb true)
  | _, _ => none
def tb25 : List (FuncId × Summ) := (8, s8) :: tb24
def s9 : Summ := fun xs M => match xs, M with
  | [.one (.c (.pl (.int .i64 t))), .one (.c (.ros .u8 acts))], [] => ansP (acts.length ≤ Go.maxLen) (vb true)
  | _, _ => none
def tb26 : List (FuncId × Summ) := (9, s9) :: tb25
def s10 : Summ := fun xs M => match xs, M with
  | [.one (.c (.pl (.int .u16 t))), .one (.c (.pl (.bool b)))], [] => ansP ((0 ≤ t ∧ t ≤ 65535)) (vb true)
  | _, _ => none
def tb27 : List (FuncId × Summ) := (10, s10) :: tb26
end Go.Proofs.Ytgkhhfdbjcjamaa
