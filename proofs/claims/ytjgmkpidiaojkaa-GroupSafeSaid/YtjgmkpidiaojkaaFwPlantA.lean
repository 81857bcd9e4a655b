/- What the functions of this group answer, and the tables of summaries. -/
import Derived.Test.YtjgmkpidiaojkaaFwDoorA
set_option linter.unusedVariables false
namespace Go.Proofs.Ytjgmkpidiaojkaa
open Lw
def car0 : Lw.Car := ⟨⟨0, 0⟩, 0, 0, 0, -1, 0, false, false, 0, 0, false, ⟨0, 0, 0⟩⟩
def safeB (x : Lw.Car) : Bool := decide (x.door.state = 0 ∨ levelB x.unit = true)
def goodC (c : Config) (x : Lw.Car) : Bool := decide (goodD x.door c.door = true ∧ 0 ≤ x.unit ∧ x.unit ≤ 4 * (floorsI c.floors - 1) ∧ 0 ≤ x.way ∧ x.way ≤ 2 ∧ (x.door.state = 0 ∨ levelB x.unit = true))
def toldD (x : Lw.Car) (m : Lw.Cmd) : Lw.Door := if x.broken = true then x.door else if m.open_ = true ∧ levelB x.unit = true then openD x.door else if m.close = true then closeD x.door else x.door
def stepC (c : Config) (x : Lw.Car) (m : Lw.Cmd) : Lw.Car :=
  if x.broken = false ∧ x.door.state = 0 ∧ (tickD (toldD x m) c.door x.blocked).state = 0 ∧ (m.run = 1 ∨ m.run = 2) then ⟨tickD (toldD x m) c.door x.blocked, moveI x.unit m.run c.floors, m.run, x.timer, x.just, x.load, x.blocked, x.broken, x.mode, x.target, x.hold, x.stops⟩
  else ⟨tickD (toldD x m) c.door x.blocked, x.unit, x.way, x.timer, x.just, x.load, x.blocked, x.broken, x.mode, x.target, x.hold, x.stops⟩
def mildC (x : Lw.Car) : Prop := mildD x.door ∧ r64 x.unit
def s18 : Summ := fun xs M => match xs, M with
  | [], [] => ans (vs car0.enc)
  | _, _ => none
def tb17 : List (FuncId × Summ) := (18, s18) :: tb16
def s66 : Summ := fun xs M => match xs, M with
  | [.one (.agg csx)], [] => (Lw.Car.of csx).bind fun x => ans (vb (levelB x.unit))
  | _, _ => none
def tb18 : List (FuncId × Summ) := (66, s66) :: tb17
def s52 : Summ := fun xs M => match xs, M with
  | [.one (.agg csc), .one (.agg csx), .one (.agg csm)], [] => (Lw.Config.of csc).bind fun c => (Lw.Car.of csx).bind fun x => (Lw.Cmd.of csm).bind fun m => ansP (mildC x) (vs (stepC c x m).enc)
  | _, _ => none
def tb19 : List (FuncId × Summ) := (52, s52) :: tb18
end Go.Proofs.Ytjgmkpidiaojkaa
