/- What the functions of this group answer, and the tables of summaries. -/
import Derived.Test.YtjgmkpidiaojkaaFwPlantA
set_option linter.unusedVariables false
namespace Go.Proofs.Ytjgmkpidiaojkaa
open Lw
def u64R (a : Int) : Prop := 0 ≤ a ∧ a ≤ 18446744073709551615
def stopsR (s : Lw.Stops) : Prop := u64R s.press ∧ u64R s.up ∧ u64R s.down
def onesI (s : Lw.Stops) : Int := cntI s.press + cntI s.up + cntI s.down
def farR (u f : Int) : Int := bif decide (IntKind.i64.wrap (u - at4 f) < 0) then IntKind.i64.wrap (0 - IntKind.i64.wrap (u - at4 f)) else IntKind.i64.wrap (u - at4 f)
def hasB (b f : Int) : Bool := decide (0 ≤ f ∧ f < 64 ∧ b.toNat / 2 ^ f.toNat % 2 = 1)
def onwayB (x : Lw.Car) (k : Lw.Call) : Bool := decide (x.way = 0) || (decide (x.way = k.way) && (towardI x.unit k.floor == 0 || towardI x.unit k.floor == k.way))
def wayB (x : Lw.Car) (k : Lw.Call) : Bool := decide (x.way = 0 ∨ (x.way = k.way ∧ ((k.way = 1 ∧ at4 k.floor ≥ x.unit) ∨ (k.way = 2 ∧ at4 k.floor ≤ x.unit))))
def baseI (far : Int) (c : Config) (x : Lw.Car) : Int := IntKind.i64.wrap (far + IntKind.i64.wrap (onesI x.stops * IntKind.i64.wrap (IntKind.i64.wrap (2 * spanI c.door) + spanI c.dwell)))
def turnI (c : Config) : Int := IntKind.i64.wrap (8 * IntKind.i64.wrap (floorsI c.floors - 1))
def costP (c : Config) (x : Lw.Car) (k : Lw.Call) : Int := bif onwayB x k then baseI (farP x.unit k.floor) c x else IntKind.i64.wrap (baseI (farP x.unit k.floor) c x + turnI c)
def costR (c : Config) (x : Lw.Car) (k : Lw.Call) : Int := bif wayB x k then baseI (farR x.unit k.floor) c x else IntKind.i64.wrap (baseI (farR x.unit k.floor) c x + turnI c)
def insideB (x : Lw.Car) (k : Lw.Call) : Bool := decide (x.unit ≥ 0) && (decide (x.unit ≤ 252) && (decide (k.floor ≥ 0) && (decide (k.floor ≤ 63) && (decide (x.way ≥ 0) && (decide (x.way ≤ 2) && (decide (k.way ≥ 1) && decide (k.way ≤ 2)))))))
def s71 : Summ := fun xs M => match xs, M with
  | [.one (.c (.pl (.int .u64 a)))], [] => ansP (u64R a) (vi (cntI a))
  | _, _ => none
def tb20 : List (FuncId × Summ) := (71, s71) :: tb19
def s58 : Summ := fun xs M => match xs, M with
  | [.one (.agg css)], [] => (Lw.Stops.of css).bind fun s => ansP (stopsR s) (vi (onesI s))
  | _, _ => none
def tb21 : List (FuncId × Summ) := (58, s58) :: tb20
def s33 : Summ := fun xs M => match xs, M with
  | [.one (.c (.pl (.int .u64 b))), .one (.c (.pl (.int .i64 f)))], [] => ansP (u64R b) (vb (hasB b f))
  | _, _ => none
def tb22 : List (FuncId × Summ) := (33, s33) :: tb21
def s74 : Summ := fun xs M => match xs, M with
  | [.one (.agg csx), .one (.agg csk)], [] => (Lw.Car.of csx).bind fun x => (Lw.Call.of csk).bind fun k => ans (vb (onwayB x k))
  | _, _ => none
def tb23 : List (FuncId × Summ) := (74, s74) :: tb22
def s60 : Summ := fun xs M => match xs, M with
  | [.one (.agg csc), .one (.agg csx), .one (.agg csk)], [] => (Lw.Config.of csc).bind fun c => (Lw.Car.of csx).bind fun x => (Lw.Call.of csk).bind fun k => ansP (stopsR x.stops) (vi (costP c x k))
  | _, _ => none
def tb24 : List (FuncId × Summ) := (60, s60) :: tb23
end Go.Proofs.Ytjgmkpidiaojkaa
