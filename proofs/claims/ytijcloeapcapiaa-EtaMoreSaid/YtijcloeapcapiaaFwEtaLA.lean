/- What the functions of this group answer, and the tables of summaries. -/
import Derived.Test.YtijcloeapcapiaaFwEtaA
set_option linter.unusedVariables false
namespace Go.Proofs.Ytijcloeapcapiaa
open Lw
def goodFor (c : Config) (l : List Lw.Car) (k : Lw.Call) (b : Int) (x : Lw.Car) : Bool := decide (x.mode = 0 ∧ x.broken = false ∧ (b < 0 ∨ costP c x k < costP c (l.getD b.toNat (RTy.zero .car)) k))
def bestN (c : Config) (l : List Lw.Car) (k : Lw.Call) : Nat → Int
  | 0 => -1
  | n + 1 => bif goodFor c l k (bestN c l k n) (l.getD n (RTy.zero .car)) then (n : Int) else bestN c l k n
def bestI (c : Config) (l : List Lw.Car) (k : Lw.Call) : Int := bestN c l k l.length
def carsR (l : List Lw.Car) : Prop := l.length ≤ Go.maxLen ∧ ∀ x ∈ l, stopsR x.stops
def bestS : Summ := fun xs M => match xs, M with
  | [.one (.agg k0), .one (.c (.ros .car l)), .one (.agg k1)], [] => (Lw.Config.of k0).bind fun c => (Lw.Call.of k1).bind fun k => ansP (carsR l) (vi (bestI c l k))
  | [.one (.agg k0), .one (.c (.row 0)), .one (.agg k1)], [.row .car l] => (Lw.Config.of k0).bind fun c => (Lw.Call.of k1).bind fun k => ansP (carsR l) (vi (bestI c l k))
  | [.one (.agg k0), .one (.c .es), .one (.agg k1)], [] => (Lw.Config.of k0).bind fun c => (Lw.Call.of k1).bind fun k => ans (vi (-1))
  | _, _ => none
def s29 : Summ := fun xs M => match xs, M with
  | [.one (.agg csx), .one (.agg csk)], [] => (Lw.Car.of csx).bind fun x => (Lw.Call.of csk).bind fun k => ans (vb (insideB x k))
  | _, _ => none
def tb43 : List (FuncId × Summ) := (29, s29) :: tb42
def tb44 : List (FuncId × Summ) := (33, bestS) :: tb43
def s30 : Summ := fun xs M => match xs, M with
  | [], [] => ans (vb true)
  | _, _ => none
def tb45 : List (FuncId × Summ) := (30, s30) :: tb44
def s8 : Summ := fun xs M => match xs, M with
  | [.one (.agg csc), .one (.agg csx), .one (.agg csk)], [] => (Lw.Config.of csc).bind fun c => (Lw.Car.of csx).bind fun x => (Lw.Call.of csk).bind fun k => ansP (stopsR x.stops) (vb true)
  | _, _ => none
def tb46 : List (FuncId × Summ) := (8, s8) :: tb45
def s9 : Summ := fun xs M => match xs, M with
  | [.one (.agg csc), .one (.c (.ros .car l)), .one (.agg csk)], [] => (Lw.Config.of csc).bind fun c => (Lw.Call.of csk).bind fun k => ansP (carsR l) (vb true)
  | _, _ => none
def tb47 : List (FuncId × Summ) := (9, s9) :: tb46
end Go.Proofs.Ytijcloeapcapiaa
