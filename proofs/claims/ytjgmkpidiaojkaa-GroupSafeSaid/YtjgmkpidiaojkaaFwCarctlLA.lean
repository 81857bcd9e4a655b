/- What the functions of this group answer, and the tables of summaries. -/
import Derived.Test.YtjgmkpidiaojkaaFwCarctlA
set_option linter.unusedVariables false
namespace Go.Proofs.Ytjgmkpidiaojkaa
open Lw
def conf14 : Config := ⟨0, 5, 0, 0, 2, 3, 0, 0, 0, 0, 0, 300, 0, 0, 0, 0, 0, 0⟩
def run14 : Nat → Lw.Car × Int
  | 0 => (⟨⟨0, 0⟩, 0, 0, 0, -1, 0, false, false, 0, 0, false, ⟨0, 2, 0⟩⟩, 0)
  | n + 1 => (tickCar conf14 (run14 n).1, if tickSv conf14 (run14 n).1 = true ∧ (tickCall conf14 (run14 n).1).floor = 1 ∧ (tickCall conf14 (run14 n).1).way = 1 then (run14 n).2 + 1 else (run14 n).2)
def told14 (x a : Lw.Car) : Lw.Car := ⟨x.door, x.unit, x.way, x.timer, x.just, a.load, a.blocked, a.broken, x.mode, x.target, x.hold, ⟨bitsI .or .u64 x.stops.press (bitsI .and .u64 a.stops.press 7), bitsI .or .u64 x.stops.up (bitsI .and .u64 a.stops.up 1), x.stops.down⟩⟩
end Go.Proofs.Ytjgmkpidiaojkaa
