/- What the functions of this group answer, and the tables of summaries. -/
import Derived.Test.YtjbdabpjepjohaaFwCarctlA
set_option linter.unusedVariables false
namespace Go.Proofs.Ytjbdabpjepjohaa
open Lw
def conf14 : Config := ⟨0, 5, 0, 0, 2, 3, 0, 0, 0, 0, 0, 300, 0, 0, 0, 0, 0, 0⟩
def run14 : Nat → Lw.Car × Int
  | 0 => (⟨⟨0, 0⟩, 0, 0, 0, -1, 0, false, false, 0, 0, false, ⟨0, 2, 0⟩⟩, 0)
  | n + 1 => (tickCar conf14 (run14 n).1, if tickSv conf14 (run14 n).1 = true ∧ (tickCall conf14 (run14 n).1).floor = 1 ∧ (tickCall conf14 (run14 n).1).way = 1 then (run14 n).2 + 1 else (run14 n).2)
def told14 (x a : Lw.Car) : Lw.Car := ⟨x.door, x.unit, x.way, x.timer, x.just, a.load, a.blocked, a.broken, x.mode, x.target, x.hold, ⟨bitsI .or .u64 x.stops.press (bitsI .and .u64 a.stops.press 7), bitsI .or .u64 x.stops.up (bitsI .and .u64 a.stops.up 1), x.stops.down⟩⟩
def s51 : Summ := fun xs M => match xs, M with
  | [], [] => ans (vs conf14.enc)
  | _, _ => none
def tb59 : List (FuncId × Summ) := (51, s51) :: tb58
def s32 : Summ := fun xs M => match xs, M with
  | [], [] => ans (vb true)
  | _, _ => none
def tb60 : List (FuncId × Summ) := (32, s32) :: tb59
def s11 : Summ := fun xs M => match xs, M with
  | [.one (.agg csc), .one (.agg csx), .one (.c (.ros .car acts))], [] => (Lw.Config.of csc).bind fun c => (Lw.Car.of csx).bind fun x => ansP ((stopsR x.stops ∧ acts.length ≤ Go.maxLen)) (vb true)
  | _, _ => none
def tb61 : List (FuncId × Summ) := (11, s11) :: tb60
def s12 : Summ := fun xs M => match xs, M with
  | [.one (.agg csc), .one (.c (.pl (.int .u8 fl))), .one (.c (.pl (.int .u8 n))), .one (.c (.ros .bool bs))], [] => (Lw.Config.of csc).bind fun c => ansP (((0 ≤ fl ∧ fl ≤ 255) ∧ (0 ≤ n ∧ n ≤ 255) ∧ bs.length ≤ Go.maxLen)) (vb true)
  | _, _ => none
def tb62 : List (FuncId × Summ) := (12, s12) :: tb61
def s13 : Summ := fun xs M => match xs, M with
  | [.one (.agg csc), .one (.agg csx), .one (.c (.pl (.int .u8 fl)))], [] => (Lw.Config.of csc).bind fun c => (Lw.Car.of csx).bind fun x => ansP ((stopsR x.stops ∧ (0 ≤ fl ∧ fl ≤ 255))) (vb true)
  | _, _ => none
def tb63 : List (FuncId × Summ) := (13, s13) :: tb62
end Go.Proofs.Ytjbdabpjepjohaa
