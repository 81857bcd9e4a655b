/- What the functions of this group answer, and the tables of summaries. -/
import Derived.Test.YtjgmkpidiaojkaaGreatFwTblA
set_option linter.unusedVariables false
namespace Go.Proofs.YtjgmkpidiaojkaaGreat
open Lw
def openAt (x : Lw.Car) (f : Int) : Bool := levelB x.unit && (levelF x.unit == f && x.door.state == 2)
def rideT (late : Bool) (c : Config) (l : Lw.Lease) (x : Lw.Car) (now : Int) : Lw.Lease × List Lw.Msg × Bool :=
  if x.broken = true ∨ late = true then (l, [⟨16, l.phase, 0, 0⟩], true)
  else if l.phase = 1 ∧ openAt x l.ask.src = true then (⟨l.ask, l.car, 2, addT now (spanI c.hold), l.renewed, l.granted⟩, [⟨8, l.ask.src, 0, 0⟩], false)
  else if l.phase = 3 ∧ openAt x l.ask.dst = true then (⟨l.ask, l.car, 4, addT now (spanI c.hold), l.renewed, l.granted⟩, [⟨12, l.ask.dst, 0, 0⟩], false)
  else (l, [], false)
def rideH (c : Config) (l : Lw.Lease) (x : Lw.Car) (now : Int) (m : Lw.Msg) : Lw.Lease × List Lw.Msg × Bool :=
  if m.kind = 9 ∧ l.phase = 2 then
    if nearB x.load l.ask.mass c.slack = true then (⟨l.ask, l.car, 3, addT now (tripI c), l.renewed, l.granted⟩, [⟨10, 0, 0, 0⟩], false)
    else (l, [⟨11, massI x.load, 0, 0⟩], false)
  else if m.kind = 13 ∧ l.phase = 4 then (l, [⟨14, 0, 0, 0⟩], true)
  else if m.kind = 15 ∧ (l.phase = 2 ∨ l.phase = 4) ∧ l.renewed < renewI c.renew then (⟨l.ask, l.car, l.phase, addT now (spanI c.hold), IntKind.i64.wrap (l.renewed + 1), l.granted⟩, [⟨4, l.car, 0, 0⟩], false)
  else (l, [⟨7, l.phase, 0, 0⟩], false)
def leftI (l : Lw.Lease) (now : Int) : Int := max (timeI l.until_ - timeI now) 0
def aimI (l : Lw.Lease) : Int := if l.phase ≤ 2 then l.ask.src else l.ask.dst
def msgEq (x y : Lw.Msg) : Bool := pcsEq x.enc y.enc
def sameMsgs : List Lw.Msg → List Lw.Msg → Bool
  | [], [] => true
  | x :: a, y :: b => msgEq x y && sameMsgs a b
  | _, _ => false
def sayS : Summ := fun xs M => match xs, M with
  | [.one (.c (.ptr 0 0 0)), .one (.c (.pl (.int .i64 k))), .one (.c (.pl (.int .i64 a)))], [.cells [.pl (.int .i64 a0), .pl (.int .i64 a1), .pl (.int .i64 a2), .pl (.int .i64 a3), .pl (.int .i64 a4), .pl (.int .i64 a5), .pl (.int .i64 a6), .pl (.int .i64 a7), .pl (.int .i64 a8), .pl (.int .i64 a9), .es, .pl (.bool o)]] => some (.leaf ⟨none, .tup [], some [.cells [.pl (.int .i64 a0), .pl (.int .i64 a1), .pl (.int .i64 a2), .pl (.int .i64 a3), .pl (.int .i64 a4), .pl (.int .i64 a5), .pl (.int .i64 a6), .pl (.int .i64 a7), .pl (.int .i64 a8), .pl (.int .i64 a9), .row 1, .pl (.bool o)]], [.row .msg [⟨k, a, 0, 0⟩]]⟩)
  | _, _ => none
def phaseS : Summ := fun xs M => match xs, M with
  | [.one (.c (.ptr 0 0 0)), .one (.c (.pl (.int .i64 n))), .one (.c (.pl (.int .i64 now))), .one (.c (.pl (.int .i64 ti)))], [.cells [.pl (.int .i64 a0), .pl (.int .i64 a1), .pl (.int .i64 a2), .pl (.int .i64 a3), .pl (.int .i64 a4), .pl (.int .i64 a5), .pl (.int .i64 a6), .pl (.int .i64 a7), .pl (.int .i64 a8), .pl (.int .i64 a9), .es, .pl (.bool o)]] => some (.leaf ⟨none, .tup [], some [.cells [.pl (.int .i64 a0), .pl (.int .i64 a1), .pl (.int .i64 a2), .pl (.int .i64 a3), .pl (.int .i64 a4), .pl (.int .i64 a5), .pl (.int .i64 n), .pl (.int .i64 (addT now ti)), .pl (.int .i64 a8), .pl (.int .i64 a9), .es, .pl (.bool o)]], []⟩)
  | _, _ => none
def doneS : Summ := fun xs M => match xs, M with
  | [.one (.c (.ptr 0 0 0))], [.cells [.pl (.int .i64 a0), .pl (.int .i64 a1), .pl (.int .i64 a2), .pl (.int .i64 a3), .pl (.int .i64 a4), .pl (.int .i64 a5), .pl (.int .i64 a6), .pl (.int .i64 a7), .pl (.int .i64 a8), .pl (.int .i64 a9), .es, .pl (.bool o)]] => some (.leaf ⟨none, .tup [.agg [.pl (.int .i64 a0), .pl (.int .i64 a1), .pl (.int .i64 a2), .pl (.int .i64 a3), .pl (.int .i64 a4), .pl (.int .i64 a5), .pl (.int .i64 a6), .pl (.int .i64 a7), .pl (.int .i64 a8), .pl (.int .i64 a9)], .c .es, cb o], none, []⟩)
  | [.one (.c (.ptr 0 0 0))], [.cells [.pl (.int .i64 a0), .pl (.int .i64 a1), .pl (.int .i64 a2), .pl (.int .i64 a3), .pl (.int .i64 a4), .pl (.int .i64 a5), .pl (.int .i64 a6), .pl (.int .i64 a7), .pl (.int .i64 a8), .pl (.int .i64 a9), .row 1, .pl (.bool o)], .row .msg l] => some (.leaf ⟨none, .tup [.agg [.pl (.int .i64 a0), .pl (.int .i64 a1), .pl (.int .i64 a2), .pl (.int .i64 a3), .pl (.int .i64 a4), .pl (.int .i64 a5), .pl (.int .i64 a6), .pl (.int .i64 a7), .pl (.int .i64 a8), .pl (.int .i64 a9)], .c (.row 1), cb o], none, []⟩)
  | _, _ => none
def rideR (r : Lw.Lease × List Lw.Msg × Bool) : Option (BT SR) := some (.leaf ⟨none, .tup [cs r.1.enc, .c (.row 0), cb r.2.2], none, [.row .msg r.2.1]⟩)
def tickPS : Summ := fun xs M => match xs, M with
  | [.one (.agg k0), .one (.agg k1), .one (.agg k2), .one (.c (.pl (.int .i64 now)))], [] => (Lw.Config.of k0).bind fun c => (Lw.Lease.of k1).bind fun l => (Lw.Car.of k2).bind fun x => rideR (rideT (lateB now l.until_) c l x now)
  | _, _ => none
def tickRS : Summ := fun xs M => match xs, M with
  | [.one (.agg k0), .one (.agg k1), .one (.agg k2), .one (.c (.pl (.int .i64 now)))], [] => (Lw.Config.of k0).bind fun c => (Lw.Lease.of k1).bind fun l => (Lw.Car.of k2).bind fun x => rideR (rideT (decide (timeI now ≥ l.until_)) c l x now)
  | _, _ => none
def hearS : Summ := fun xs M => match xs, M with
  | [.one (.agg k0), .one (.agg k1), .one (.agg k2), .one (.c (.pl (.int .i64 now))), .one (.agg k3)], [] => (Lw.Config.of k0).bind fun c => (Lw.Lease.of k1).bind fun l => (Lw.Car.of k2).bind fun x => (Lw.Msg.of k3).bind fun m => rideR (rideH c l x now m)
  | _, _ => none
def sameMsgsS : Summ := fun xs M => match xs, M with
  | [.one (.c (.row 0)), .one (.c (.row 1))], [.row .msg a, .row .msg b] => ansP (a.length ≤ 1000) (vb (sameMsgs a b))
  | _, _ => none
def s115 : Summ := fun xs M => match xs, M with
  | [.one (.agg csx), .one (.c (.pl (.int .i64 f)))], [] => (Lw.Car.of csx).bind fun x => ans (vb (openAt x f))
  | _, _ => none
def tb94 : List (FuncId × Summ) := (115, s115) :: tb93
def tb95 : List (FuncId × Summ) := (114, sayS) :: tb94
def tb96 : List (FuncId × Summ) := (116, phaseS) :: tb95
def tb97 : List (FuncId × Summ) := (118, doneS) :: tb96
def tb98 : List (FuncId × Summ) := (56, tickPS) :: tb97
def tb99 : List (FuncId × Summ) := (88, hearS) :: tb98
def s112 : Summ := fun xs M => match xs, M with
  | [.one (.agg csl)], [] => (Lw.Lease.of csl).bind fun l => ans (.tup [ci (aimI l), cb true])
  | _, _ => none
def tb100 : List (FuncId × Summ) := (112, s112) :: tb99
end Go.Proofs.YtjgmkpidiaojkaaGreat
