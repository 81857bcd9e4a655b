/- What the functions of this group answer, and the tables of summaries. -/
import Derived.Test.YtjgmkpidiaojkaaGreatFwGrpA
set_option linter.unusedVariables false
namespace Go.Proofs.YtjgmkpidiaojkaaGreat
open Lw
def conf16 : Config := ⟨2, 5, 0, 0, 2, 3, 0, 0, 0, 0, 0, 300, 0, 0, 0, 0, 0, 0⟩
def doE (c : Config) (cars : List Lw.Car) (o : Lw.GOp) : Int :=
  if o.kind = 1 then hallE c o.a o.b else if o.kind = 2 then pressE c cars o.a o.b else if o.kind = 3 then csetE c cars o.a else if o.kind = 4 then csetE c cars o.a else if o.kind = 5 then csetE c cars o.a
  else if o.kind = 6 then takeE c cars o.a o.b else if o.kind = 7 then aimE c cars o.a o.b else if o.kind = 8 then aimE c cars o.a 0 else 0
def doC (c : Config) (cars : List Lw.Car) (o : Lw.GOp) : List Lw.Car :=
  if o.kind = 1 then cars else if o.kind = 2 then pressL c cars o.a o.b else if o.kind = 3 then loadL c cars o.a o.b else if o.kind = 4 then curtL c cars o.a o.yes else if o.kind = 5 then faultL c cars o.a o.yes
  else if o.kind = 6 then takeL c cars o.a o.b else if o.kind = 7 then aimL c cars o.a o.b o.yes else if o.kind = 8 then giveL c cars o.a else cars
def doW (c : Config) (cars : List Lw.Car) (ws : List Lw.Wait) (now : Int) (o : Lw.GOp) : List Lw.Wait :=
  if o.kind = 1 then hallW c ws now o.a o.b else if o.kind = 5 then faultW c cars ws o.a o.yes else ws
def doN (o : Lw.GOp) : Int := if 1 ≤ o.kind ∧ o.kind ≤ 8 then 1 else 0
def doGS : Summ := fun xs M => match xs, M with
  | [.one (.c .nilp), .one (.agg k)], [] => (Lw.GOp.of k).bind fun o => ans (vi (doN o))
  | [.one (.c (.ptr 0 0 0)), .one (.agg k)], [.cells vs, .row .car cars, .row .wait ws] => grpS 1 2 vs fun c now => (Lw.GOp.of k).bind fun o => some (.leaf ⟨some (mildL cars ∧ ws.length + 1 ≤ bigRow), vi (doE c cars o), some [.cells (grpC c 1 3 now), .row .car (doC c cars o), .dead], [.row .wait (doW c cars ws now o)]⟩)
  | _, _ => none
def lawGS : Summ := fun xs M => match xs, M with
  | [.one (.agg k), .one (.c (.ros .gop ops))], [] => (Lw.Config.of k).bind fun c => ansP (ops.length ≤ Go.maxLen) (vb true)
  | _, _ => none
def GInv (c : Config) (cars : List Lw.Car) : Prop := (cars.length : Int) = carsI c ∧ ∀ x ∈ cars, mayB c x = true ∧ stopsR x.stops
def InvL (c : Config) (ls : List Lw.Lease) : Prop := (ls.map fun x => x.ask.session).Nodup ∧ (ls.map fun x => x.car).Nodup ∧ ∀ n, countL ls n ≤ quotaI c
end Go.Proofs.YtjgmkpidiaojkaaGreat
