/- The packages bound and lease, and their references: what they answer. -/
import Derived.Test.YtgkhhfdbjcjamaaFwCellA
import Derived.Test.YtgkhhfdbjcjamaaFw23
namespace Go.Proofs.Ytgkhhfdbjcjamaa
open Lw
def clampI (lo hi n : Int) : Int := if n < lo then lo else if n > hi then hi else n
def floorsI (n : Int) : Int := clampI 2 64 n
def spanI (n : Int) : Int := clampI 1 1000 n
def renewI (n : Int) : Int := clampI 0 1000 n
def tripI (c : Config) : Int := 4 * (floorsI c.floors - 1) + 3 * spanI c.door + 4
def leaseI (c : Config) : Int := 2 * tripI c + spanI c.hold * (2 + renewI c.renew)
def serveI (c : Config) : Int := 5 * (4 * (floorsI c.floors - 1) + floorsI c.floors * (2 * spanI c.door + spanI c.dwell + 4))
def intS (f : Int → Int) : Summ := fun xs M => match xs, M with
  | [.one (.c (.pl (.int .i64 a)))], [] => ans (vi (f a))
  | _, _ => none
def nearestS : Summ := fun xs M => match xs, M with
  | [.one (.c (.pl (.int .i64 a))), .one (.c (.pl (.int .i64 b))), .one (.c (.pl (.int .i64 c)))], [] => ans (vi (clampI b c a))
  | _, _ => none
def confS (f : Config → AV) : Summ := fun xs M => match xs, M with
  | [.one (.agg cs)], [] => (Config.of cs).bind fun c => ans (f c)
  | _, _ => none
def bd0 : List (FuncId × Summ) := [(40, intS floorsI), (44, intS floorsI), (47, nearestS), (42, intS spanI)]
def bd1 : List (FuncId × Summ) := (41, intS spanI) :: (43, confS fun c => vi (renewI c.renew)) :: bd0
def bd2 : List (FuncId × Summ) := (39, confS fun c => vi (tripI c)) :: (18, confS fun c => vi (tripI c)) :: bd1
def bd3 : List (FuncId × Summ) := (17, confS fun c => vi (2 * tripI c)) :: bd2
def bd4 : List (FuncId × Summ) := (19, confS fun c => vi (leaseI c)) :: (20, confS fun c => vi (leaseI c)) :: (21, confS fun c => vi (serveI c)) :: (22, confS fun c => vi (serveI c)) :: (23, confS fun c => vi (2 * tripI c + 24)) :: bd3
def bd5 : List (FuncId × Summ) := (16, yesS) :: bd4
end Go.Proofs.Ytgkhhfdbjcjamaa
