/- What the functions of this group answer, and the tables of summaries. -/
import Derived.Test.YtjbdabpjepjohaaFwScanA
set_option linter.unusedVariables false
namespace Go.Proofs.Ytjbdabpjepjohaa
open Lw
def s17 : Summ := fun xs M => match xs, M with
  | [], [] => ans (vb true)
  | _, _ => none
def tb46 : List (FuncId × Summ) := (17, s17) :: tb45
def s3 : Summ := fun xs M => match xs, M with
  | [.one (.agg css), .one (.c (.pl (.int .u8 fl))), .one (.c (.pl (.int .u8 wy))), .one (.c (.pl (.int .i64 j)))], [] => (Lw.Stops.of css).bind fun s => ansP ((stopsR s ∧ (0 ≤ fl ∧ fl ≤ 255) ∧ (0 ≤ wy ∧ wy ≤ 255))) (vb true)
  | _, _ => none
def tb47 : List (FuncId × Summ) := (3, s3) :: tb46
def s4 : Summ := fun xs M => match xs, M with
  | [.one (.agg css), .one (.c (.pl (.int .u8 fl))), .one (.c (.pl (.int .u8 wy))), .one (.c (.pl (.int .i64 j)))], [] => (Lw.Stops.of css).bind fun s => ansP ((stopsR s ∧ (0 ≤ fl ∧ fl ≤ 255) ∧ (0 ≤ wy ∧ wy ≤ 255))) (vb true)
  | _, _ => none
def tb48 : List (FuncId × Summ) := (4, s4) :: tb47
def s5 : Summ := fun xs M => match xs, M with
  | [.one (.agg css), .one (.c (.pl (.int .u8 fl))), .one (.c (.pl (.bool up))), .one (.c (.pl (.int .i64 j)))], [] => (Lw.Stops.of css).bind fun s => ansP ((stopsR s ∧ (0 ≤ fl ∧ fl ≤ 255))) (vb true)
  | _, _ => none
def tb49 : List (FuncId × Summ) := (5, s5) :: tb48
def s6 : Summ := fun xs M => match xs, M with
  | [.one (.agg css), .one (.c (.pl (.int .u8 fl))), .one (.c (.pl (.bool up)))], [] => (Lw.Stops.of css).bind fun s => ansP ((stopsR s ∧ (0 ≤ fl ∧ fl ≤ 255))) (vb true)
  | _, _ => none
def tb50 : List (FuncId × Summ) := (6, s6) :: tb49
end Go.Proofs.Ytjbdabpjepjohaa
