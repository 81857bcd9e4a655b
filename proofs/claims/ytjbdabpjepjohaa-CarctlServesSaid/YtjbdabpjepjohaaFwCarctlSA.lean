/- What the functions of this group answer, and the tables of summaries. -/
import Derived.Test.YtjbdabpjepjohaaFwStopsMA
set_option linter.unusedVariables false
namespace Go.Proofs.Ytjbdabpjepjohaa
open Lw
def s14 : Summ := fun xs M => match xs, M with
  | [.one (.agg csc), .one (.agg csx)], [] => (Lw.Config.of csc).bind fun c => (Lw.Car.of csx).bind fun x => ansP (stopsR x.stops) (vb true)
  | _, _ => none
def tb70 : List (FuncId × Summ) := (14, s14) :: tb69
end Go.Proofs.Ytjbdabpjepjohaa
