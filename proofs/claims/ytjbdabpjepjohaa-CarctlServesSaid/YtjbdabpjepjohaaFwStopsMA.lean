/- What the functions of this group answer, and the tables of summaries. -/
import Derived.Test.YtjbdabpjepjohaaFwStopsLA
set_option linter.unusedVariables false
namespace Go.Proofs.Ytjbdabpjepjohaa
open Lw
def partN (s : Lw.Stops) (i k : Int) : Int := (if 1 ≤ k ∧ hasB s.press i = true then 1 else 0) + (if 2 ≤ k ∧ hasB s.up i = true then 1 else 0) + (if 3 ≤ k ∧ hasB s.down i = true then 1 else 0)
def s22 : Summ := fun xs M => match xs, M with
  | [], [] => ans (vb true)
  | _, _ => none
def tb66 : List (FuncId × Summ) := (22, s22) :: tb65
def s8 : Summ := fun xs M => match xs, M with
  | [.one (.agg css), .one (.c (.pl (.int .i64 f))), .one (.c (.pl (.int .i64 w)))], [] => (Lw.Stops.of css).bind fun s => ansP (stopsR s) (vb true)
  | _, _ => none
def tb67 : List (FuncId × Summ) := (8, s8) :: tb66
def s10 : Summ := fun xs M => match xs, M with
  | [.one (.agg css), .one (.c (.pl (.int .u8 fl))), .one (.c (.pl (.int .u8 wy)))], [] => (Lw.Stops.of css).bind fun s => ansP ((stopsR s ∧ (0 ≤ fl ∧ fl ≤ 255) ∧ (0 ≤ wy ∧ wy ≤ 255))) (vb true)
  | _, _ => none
def tb68 : List (FuncId × Summ) := (10, s10) :: tb67
def s9 : Summ := fun xs M => match xs, M with
  | [.one (.agg css), .one (.c (.pl (.int .i64 f))), .one (.c (.pl (.int .i64 w)))], [] => (Lw.Stops.of css).bind fun s => ansP (stopsR s) (vb true)
  | _, _ => none
def tb69 : List (FuncId × Summ) := (9, s9) :: tb68
end Go.Proofs.Ytjbdabpjepjohaa
