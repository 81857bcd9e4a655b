/- What the functions of this group answer, and the tables of summaries. -/
import Derived.Test.YtjpfeckkajhhjaaFwQueA
set_option linter.unusedVariables false
namespace Go.Proofs.Ytjpfeckkajhhjaa
open Lw
def fairS : Summ := fun xs M => match xs, M with
  | [.one (.c (.ros .ask be)), .one (.c (.ros .ask af)), .one (.agg k), .one (.c (.ros .int dr))], [] => (Lw.Ask.of k).bind fun a => ansP (be.length ≤ Go.maxLen ∧ af.length ≤ Go.maxLen ∧ dr.length ≤ Go.maxLen) (vb true)
  | _, _ => none
def s20 : Summ := fun xs M => match xs, M with
  | [], [] => ans (vb true)
  | _, _ => none
def tb45 : List (FuncId × Summ) := (20, s20) :: tb44
def s7 : Summ := fun xs M => match xs, M with
  | [.one (.agg csa)], [] => (Lw.Ask.of csa).bind fun a => ans (vb true)
  | _, _ => none
def tb46 : List (FuncId × Summ) := (7, s7) :: tb45
def tb47 : List (FuncId × Summ) := (6, fairS) :: tb46
end Go.Proofs.Ytjpfeckkajhhjaa
