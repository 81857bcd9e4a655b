/- What the functions of this group answer, and the tables of summaries. -/
import Derived.Test.YtijcloeapcapiaaFwDoorA
set_option linter.unusedVariables false
namespace Go.Proofs.Ytijcloeapcapiaa
open Lw
def car0 : Lw.Car := ⟨⟨0, 0⟩, 0, 0, 0, -1, 0, false, false, 0, 0, false, ⟨0, 0, 0⟩⟩
def safeB (x : Lw.Car) : Bool := decide (x.door.state = 0 ∨ levelB x.unit = true)
def goodC (c : Config) (x : Lw.Car) : Bool := decide (goodD x.door c.door = true ∧ 0 ≤ x.unit ∧ x.unit ≤ 4 * (floorsI c.floors - 1) ∧ 0 ≤ x.way ∧ x.way ≤ 2 ∧ (x.door.state = 0 ∨ levelB x.unit = true))
def toldD (x : Lw.Car) (m : Lw.Cmd) : Lw.Door := if x.broken = true then x.door else if m.open_ = true ∧ levelB x.unit = true then openD x.door else if m.close = true then closeD x.door else x.door
def stepC (c : Config) (x : Lw.Car) (m : Lw.Cmd) : Lw.Car :=
  if x.broken = false ∧ x.door.state = 0 ∧ (tickD (toldD x m) c.door x.blocked).state = 0 ∧ (m.run = 1 ∨ m.run = 2) then ⟨tickD (toldD x m) c.door x.blocked, moveI x.unit m.run c.floors, m.run, x.timer, x.just, x.load, x.blocked, x.broken, x.mode, x.target, x.hold, x.stops⟩
  else ⟨tickD (toldD x m) c.door x.blocked, x.unit, x.way, x.timer, x.just, x.load, x.blocked, x.broken, x.mode, x.target, x.hold, x.stops⟩
def mildC (x : Lw.Car) : Prop := mildD x.door ∧ r64 x.unit
def s44 : Summ := fun xs M => match xs, M with
  | [], [] => ans (vs car0.enc)
  | _, _ => none
def tb35 : List (FuncId × Summ) := (44, s44) :: tb34
def s78 : Summ := fun xs M => match xs, M with
  | [.one (.agg csx)], [] => (Lw.Car.of csx).bind fun x => ans (vb (levelB x.unit))
  | _, _ => none
def tb36 : List (FuncId × Summ) := (78, s78) :: tb35
def s43 : Summ := fun xs M => match xs, M with
  | [.one (.agg csx)], [] => (Lw.Car.of csx).bind fun x => ans (vb (safeB x))
  | _, _ => none
def tb37 : List (FuncId × Summ) := (43, s43) :: tb36
def s38 : Summ := fun xs M => match xs, M with
  | [.one (.agg csc), .one (.agg csx)], [] => (Lw.Config.of csc).bind fun c => (Lw.Car.of csx).bind fun x => ans (vb (goodC c x))
  | _, _ => none
def tb38 : List (FuncId × Summ) := (38, s38) :: tb37
def s39 : Summ := fun xs M => match xs, M with
  | [.one (.agg csc), .one (.agg csx)], [] => (Lw.Config.of csc).bind fun c => (Lw.Car.of csx).bind fun x => ans (vb (goodC c x))
  | _, _ => none
def tb39 : List (FuncId × Summ) := (39, s39) :: tb38
def s41 : Summ := fun xs M => match xs, M with
  | [.one (.agg csc), .one (.agg csx), .one (.agg csm)], [] => (Lw.Config.of csc).bind fun c => (Lw.Car.of csx).bind fun x => (Lw.Cmd.of csm).bind fun m => ansP (mildC x) (vs (stepC c x m).enc)
  | _, _ => none
def tb40 : List (FuncId × Summ) := (41, s41) :: tb39
def s42 : Summ := fun xs M => match xs, M with
  | [.one (.agg csc), .one (.agg csx), .one (.agg csm)], [] => (Lw.Config.of csc).bind fun c => (Lw.Car.of csx).bind fun x => (Lw.Cmd.of csm).bind fun m => ansP (mildC x) (vs (stepC c x m).enc)
  | _, _ => none
def tb41 : List (FuncId × Summ) := (42, s42) :: tb40
end Go.Proofs.Ytijcloeapcapiaa
