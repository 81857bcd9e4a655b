/- What the functions of this group answer, and the tables of summaries. -/
import Derived.Test.YtjgmkpidiaojkaaFwScanLA
set_option linter.unusedVariables false
namespace Go.Proofs.Ytjgmkpidiaojkaa
open Lw
def goodFor (c : Config) (l : List Lw.Car) (k : Lw.Call) (b : Int) (x : Lw.Car) : Bool := decide (x.mode = 0 ∧ x.broken = false ∧ (b < 0 ∨ costP c x k < costP c (l.getD b.toNat (RTy.zero .car)) k))
def bestN (c : Config) (l : List Lw.Car) (k : Lw.Call) : Nat → Int
  | 0 => -1
  | n + 1 => bif goodFor c l k (bestN c l k n) (l.getD n (RTy.zero .car)) then (n : Int) else bestN c l k n
def bestI (c : Config) (l : List Lw.Car) (k : Lw.Call) : Int := bestN c l k l.length
def carsR (l : List Lw.Car) : Prop := l.length ≤ Go.maxLen ∧ ∀ x ∈ l, stopsR x.stops
def bestS : Summ := fun xs M => match xs, M with
  | [.one (.agg k0), .one (.c (.ros .car l)), .one (.agg k1)], [] => (Lw.Config.of k0).bind fun c => (Lw.Call.of k1).bind fun k => ansP (carsR l) (vi (bestI c l k))
  | [.one (.agg k0), .one (.c (.row 0)), .one (.agg k1)], [.row .car l] => (Lw.Config.of k0).bind fun c => (Lw.Call.of k1).bind fun k => ansP (carsR l) (vi (bestI c l k))
  | [.one (.agg k0), .one (.c .es), .one (.agg k1)], [] => (Lw.Config.of k0).bind fun c => (Lw.Call.of k1).bind fun k => ans (vi (-1))
  | _, _ => none
def tb43 : List (FuncId × Summ) := (48, bestS) :: tb42
end Go.Proofs.Ytjgmkpidiaojkaa
