/- What the functions of this group answer, and the tables of summaries. -/
import Derived.Test.YtjgmkpidiaojkaaFwEtaLA
set_option linter.unusedVariables false
namespace Go.Proofs.Ytjgmkpidiaojkaa
open Lw
structure Ctl where
  car : Lw.Car
  cmd : Lw.Cmd
  call : Lw.Call
  sv : Bool
def Ctl.cells (k : Ctl) : List Cell := (k.car.enc ++ (k.cmd.enc ++ (k.call.enc ++ [PC.bool k.sv]))).map .pl
def putC (x : Lw.Car) (way timer just : Int) (s : Lw.Stops) : Lw.Car := ⟨x.door, x.unit, way, timer, just, x.load, x.blocked, x.broken, x.mode, x.target, x.hold, s⟩
def openK (c : Config) (f q : Int) (k : Ctl) : Ctl := ⟨putC k.car q (spanI c.dwell) f (clearS k.car.stops f q), ⟨k.cmd.run, true, k.cmd.close⟩, ⟨f, q⟩, hallB k.car.stops f q⟩
def standK (k : Ctl) (q : Int) : Ctl := ⟨putC k.car q k.car.timer k.car.just k.car.stops, k.cmd, k.call, k.sv⟩
def goK (k : Ctl) (q : Int) : Ctl := ⟨putC k.car k.car.way k.car.timer (-1) k.car.stops, ⟨q, k.cmd.open_, k.cmd.close⟩, k.call, k.sv⟩
def standT (c : Config) (f : Int) (k : Ctl) : Ctl :=
  if (nextI k.car.stops f k.car.way k.car.just).2 = true then openK c f (nextI k.car.stops f k.car.way k.car.just).1 k
  else if (nextI k.car.stops f k.car.way k.car.just).1 = 0 then standK k (nextI k.car.stops f k.car.way k.car.just).1
  else goK k (nextI k.car.stops f k.car.way k.car.just).1
def timeK (k : Ctl) (t : Int) (cl : Bool) : Ctl := ⟨putC k.car k.car.way t k.car.just k.car.stops, ⟨k.cmd.run, k.cmd.open_, cl⟩, k.call, k.sv⟩
def cmdK (k : Ctl) (m : Lw.Cmd) : Ctl := ⟨k.car, m, k.call, k.sv⟩
def normalT (c : Config) (k : Ctl) : Ctl :=
  if k.car.door.state = 0 ∧ levelB k.car.unit = false then cmdK k ⟨k.car.way, k.cmd.open_, k.cmd.close⟩
  else if k.car.door.state = 0 then standT c (levelF k.car.unit) k
  else if k.car.door.state ≠ 2 then k
  else if k.car.blocked = true ∨ overB k.car.load c.load = true then timeK k (spanI c.dwell) k.cmd.close
  else timeK k (IntKind.i64.wrap (k.car.timer - 1)) (decide (IntKind.i64.wrap (k.car.timer - 1) ≤ 0))
def thereB (x : Lw.Car) : Bool := levelB x.unit && (levelF x.unit == x.target)
def leasedT (k : Ctl) : Ctl :=
  if k.car.door.state = 0 ∧ thereB k.car = true then cmdK k ⟨k.cmd.run, k.car.hold, k.cmd.close⟩
  else if k.car.door.state = 0 then ⟨putC k.car k.car.way k.car.timer (-1) k.car.stops, ⟨towardI k.car.unit k.car.target, k.cmd.open_, k.cmd.close⟩, k.call, k.sv⟩
  else if thereB k.car = true ∧ k.car.hold = true then cmdK k ⟨k.cmd.run, k.car.door.state == 3, k.cmd.close⟩
  else cmdK k ⟨k.cmd.run, k.cmd.open_, (k.car.door.state == 2) && !k.car.blocked⟩
def ctl0 (x : Lw.Car) : Ctl := ⟨x, ⟨0, false, false⟩, ⟨0, 0⟩, false⟩
def ctlT (c : Config) (x : Lw.Car) : Ctl := if x.broken = true then ctl0 x else if x.mode = 1 then leasedT (ctl0 x) else normalT c (ctl0 x)
def tickCar (c : Config) (x : Lw.Car) : Lw.Car := stepC c (ctlT c x).car (ctlT c x).cmd
def tickCall (c : Config) (x : Lw.Car) : Lw.Call := if (ctlT c x).sv = true then (ctlT c x).call else ⟨0, 0⟩
def tickSv (c : Config) (x : Lw.Car) : Bool := (ctlT c x).sv
def idleB (x : Lw.Car) : Bool := levelB x.unit && (decide (x.mode = 0) && (!x.broken && (decide (x.door.state = 0) && (decide (x.way = 0) && decide (onesI x.stops = 0)))))
def mayB (c : Config) (x : Lw.Car) : Bool := goodC c x && (decide (x.mode = 0 ∨ x.mode = 1) && ((levelB x.unit || decide (x.way ≠ 0)) && decide (x.mode ≠ 1 ∨ (0 ≤ x.target ∧ x.target < floorsI c.floors))))
def boolOf : List Cell → Option Bool
  | [.pl (.bool b)] => some b
  | _ => none
def ctlS (pre : Lw.Car → Prop) (g : Ctl → Ctl) (vs : List Cell) : Option (BT SR) :=
  (Lw.Car.of (vs.take 15)).bind fun x => (Lw.Cmd.of ((vs.drop 15).take 3)).bind fun m => (Lw.Call.of ((vs.drop 18).take 2)).bind fun k => (boolOf (vs.drop 20)).bind fun v => some (.leaf ⟨some (pre x), .tup [], some [.cells (g ⟨x, m, k, v⟩).cells], []⟩)
def standS : Summ := fun xs M => match xs, M with
  | [.one (.c (.ptr 0 0 0)), .one (.agg kc), .one (.c (.pl (.int .i64 f)))], [.cells vs] => (Lw.Config.of kc).bind fun c => ctlS (fun x => stopsR x.stops ∧ (0 ≤ f ∧ f < 64)) (standT c f) vs
  | _, _ => none
def normalS : Summ := fun xs M => match xs, M with
  | [.one (.c (.ptr 0 0 0)), .one (.agg kc)], [.cells vs] => (Lw.Config.of kc).bind fun c => ctlS (fun x => stopsR x.stops) (normalT c) vs
  | _, _ => none
def leasedS : Summ := fun xs M => match xs, M with
  | [.one (.c (.ptr 0 0 0))], [.cells vs] => ctlS (fun x => True) leasedT vs
  | _, _ => none
def s65 : Summ := fun xs M => match xs, M with
  | [.one (.agg csc)], [] => (Lw.Config.of csc).bind fun c => ans (vi (spanI c.dwell))
  | _, _ => none
def tb44 : List (FuncId × Summ) := (65, s65) :: tb43
def s44 : Summ := fun xs M => match xs, M with
  | [.one (.agg csx)], [] => (Lw.Car.of csx).bind fun x => ansP (stopsR x.stops) (vb (idleB x))
  | _, _ => none
def tb45 : List (FuncId × Summ) := (44, s44) :: tb44
def tb46 : List (FuncId × Summ) := (63, standS) :: tb45
def tb47 : List (FuncId × Summ) := (51, normalS) :: tb46
def tb48 : List (FuncId × Summ) := (50, leasedS) :: tb47
def s29 : Summ := fun xs M => match xs, M with
  | [.one (.agg csc), .one (.agg csx)], [] => (Lw.Config.of csc).bind fun c => (Lw.Car.of csx).bind fun x => ansP ((stopsR x.stops ∧ mildC x)) (.tup [cs (tickCar c x).enc, cs (tickCall c x).enc, cb (tickSv c x)])
  | _, _ => none
def tb49 : List (FuncId × Summ) := (29, s29) :: tb48
end Go.Proofs.Ytjgmkpidiaojkaa
