/- The package fleet and its reference: what they answer. -/
import Derived.Test.YtgkhhfdbjcjamaaFwBoundA
import Derived.Test.YtgkhhfdbjcjamaaFw24
namespace Go.Proofs.Ytgkhhfdbjcjamaa
open Lw
def countL (l : List Lease) (n : Int) : Int := (l.countP (fun x => x.ask.fleet == n) : Nat)
def quotaI (c : Config) : Int := clampI 1 8 c.quota
def freeB (c : Config) (l : List Lease) (n : Int) : Bool := decide (countL l n < quotaI c)
def inB (n k : Int) : Bool := decide (n ≥ 0) && decide (n < k)
def mayB (c : Config) (a : Lw.Ask) : Bool :=
  inB a.session (clampI 1 64 c.sessions) && (inB a.fleet (clampI 1 8 c.fleets) && (inB a.src (floorsI c.floors) && (inB a.dst (floorsI c.floors) && (a.src != a.dst && (decide (a.mass ≥ 1) && decide (a.mass ≤ massI c.load))))))
def withinS : Summ := fun xs M => match xs, M with
  | [.one (.c (.pl (.int .i64 a))), .one (.c (.pl (.int .i64 b)))], [] => ans (vi (mm false (mm true a 1) b))
  | _, _ => none
def inS : Summ := fun xs M => match xs, M with
  | [.one (.c (.pl (.int .i64 a))), .one (.c (.pl (.int .i64 b)))], [] => ans (vb (inB a b))
  | _, _ => none
def countS : Summ := fun xs M => match xs, M with
  | [.one (.c (.ros .lease l)), .one (.c (.pl (.int .i64 n)))], [] => ansP (l.length ≤ maxLen) (vi (countL l n))
  | [.one (.c (.row 0)), .one (.c (.pl (.int .i64 n)))], [.row .lease l] => ansP (l.length ≤ maxLen) (vi (countL l n))
  | _, _ => none
def freeS : Summ := fun xs M => match xs, M with
  | [.one (.agg cs), .one (.c (.ros .lease l)), .one (.c (.pl (.int .i64 n)))], [] => (Config.of cs).bind fun c => ansP (l.length ≤ maxLen) (vb (freeB c l n))
  | [.one (.agg cs), .one (.c (.row 0)), .one (.c (.pl (.int .i64 n)))], [.row .lease l] => (Config.of cs).bind fun c => ansP (l.length ≤ maxLen) (vb (freeB c l n))
  | _, _ => none
def mayS : Summ := fun xs M => match xs, M with
  | [.one (.agg cs), .one (.agg ds)], [] => (Config.of cs).bind fun c => (Lw.Ask.of ds).bind fun a => ans (vb (mayB c a))
  | _, _ => none
def conf0 : Config := ⟨0, 5, 2, 4, 0, 0, 0, 0, 0, 0, 2, 300, 0, 0, 0, 0, 0, 0⟩
def conf0S : Summ := fun xs M => match xs, M with
  | [], [] => ans (.one (.agg (conf0.enc.map .pl)))
  | _, _ => none
def fl1 : List (FuncId × Summ) := (46, withinS) :: (48, inS) :: (49, massS) :: (13, massS) :: (45, conf0S) :: bd0
def fl2 : List (FuncId × Summ) := (25, confS fun c => vi (quotaI c)) :: (26, confS fun c => vi (quotaI c)) :: (27, countS) :: (28, countS) :: fl1
def fl3 : List (FuncId × Summ) := (29, freeS) :: (30, mayS) :: (31, mayS) :: fl2
def fl4 : List (FuncId × Summ) := (24, yesS) :: fl3
end Go.Proofs.Ytgkhhfdbjcjamaa
