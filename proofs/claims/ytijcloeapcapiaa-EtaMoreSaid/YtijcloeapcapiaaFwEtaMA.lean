/- What the functions of this group answer, and the tables of summaries. -/
import Derived.Test.YtijcloeapcapiaaFwEtaLA
set_option linter.unusedVariables false
namespace Go.Proofs.Ytijcloeapcapiaa
open Lw
def bitI (f : Int) : Int := if 0 ≤ f ∧ f ≤ 63 then ((2 ^ f.toNat : Nat) : Int) else 0
def s34 : Summ := fun xs M => match xs, M with
  | [.one (.c (.pl (.int .i64 f)))], [] => ans (vk .u64 (bitI f))
  | _, _ => none
def tb48 : List (FuncId × Summ) := (34, s34) :: tb47
def s10 : Summ := fun xs M => match xs, M with
  | [.one (.agg csc), .one (.agg csx), .one (.agg csk), .one (.c (.pl (.int .u8 fl)))], [] => (Lw.Config.of csc).bind fun c => (Lw.Car.of csx).bind fun x => (Lw.Call.of csk).bind fun k => ansP ((stopsR x.stops ∧ (0 ≤ fl ∧ fl ≤ 255))) (vb true)
  | _, _ => none
def tb49 : List (FuncId × Summ) := (10, s10) :: tb48
end Go.Proofs.Ytijcloeapcapiaa
