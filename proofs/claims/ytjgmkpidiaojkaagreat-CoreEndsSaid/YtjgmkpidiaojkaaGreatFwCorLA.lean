/- What the functions of this group answer, and the tables of summaries. -/
import Derived.Test.YtjgmkpidiaojkaaGreatFwCorTA
set_option linter.unusedVariables false
namespace Go.Proofs.YtjgmkpidiaojkaaGreat
open Lw
def conf21 : Config := ⟨2, 5, 2, 4, 2, 3, 9, 1, 30, 2, 1, 300, 5, 0, 0, 0, 0, 0⟩
def setC (s : Lw.Cor) (cars : List Lw.Car) : Lw.Cor := ⟨s.c, s.now, s.r, s.out, cars, s.ws, s.qs, s.ls⟩
def setCW (s : Lw.Cor) (cars : List Lw.Car) (ws : List Lw.Wait) : Lw.Cor := ⟨s.c, s.now, s.r, s.out, cars, ws, s.qs, s.ls⟩
def loadK (s : Lw.Cor) (n kg : Int) : Lw.Cor := setC s (loadL s.c s.cars n kg)
def saysK (s : Lw.Cor) : Lw.Cor × List Lw.Event := (quietK s, s.out)
def ob1 (s : Lw.Cor) (l : Lw.Lease) : Lw.Cor × List Lw.Event :=
  if l.phase = 2 then saysK (hearK (loadK s l.car l.ask.mass) l.ask.session ⟨9, 0, 0, 0⟩)
  else if l.phase = 4 then saysK (hearK (loadK s l.car 0) l.ask.session ⟨13, 0, 0, 0⟩)
  else (s, [])
def obF (p : Lw.Cor × List Lw.Event) (l : Lw.Lease) : Lw.Cor × List Lw.Event := ((ob1 p.1 l).1, p.2 ++ (ob1 p.1 l).2)
def obN (s : Lw.Cor) (ls : List Lw.Lease) : Lw.Cor × List Lw.Event := ls.foldl obF (s, [])
def obeysK (s : Lw.Cor) : Lw.Cor × List Lw.Event := obN s s.ls
def doK (s : Lw.Cor) (o : Lw.COp) : Lw.Cor × List Lw.Event :=
  if o.kind = 1 then saysK (askK s o.ask) else if o.kind = 2 then saysK (hearK s o.ask.session o.msg) else if o.kind = 3 then (goneK s o.ask.session, [])
  else if o.kind = 4 then (setCW s s.cars (hallW s.c s.ws s.now o.a o.b), []) else if o.kind = 5 then (setC s (pressL s.c s.cars o.a o.b), [])
  else if o.kind = 6 then (setC s (loadL s.c s.cars o.a o.b), []) else if o.kind = 7 then (setC s (curtL s.c s.cars o.a (o.b == 1)), [])
  else if o.kind = 8 then (setCW s (faultL s.c s.cars o.a (o.b == 1)) (faultW s.c s.cars s.ws o.a (o.b == 1)), []) else if o.kind = 10 then obeysK s else (s, [])
def BInv (m : Nat) (s : Lw.Cor) : Prop := s.out = [] ∧ GInv s.c s.cars ∧ CarsIn s ∧ s.ws.length ≤ m ∧ s.qs.length ≤ m ∧ s.ls.length ≤ m
def obeysKS : Summ := fun xs M => match xs, M with
  | [.one (.c (.ptr 0 0 0))], M => corL M (BInv 10000) (.one (.c (.row 13))) (fun s => (obeysK s).1) (fun s => [.row .event (obeysK s).2])
  | _, _ => none
def doKS : Summ := fun xs M => match xs, M with
  | [.one (.c (.ptr 0 0 0)), .one (.agg k)], M => (Lw.COp.of k).bind fun o => corL M (BInv 10000) (.one (.c (.row 13))) (fun s => (doK s o).1) (fun s => [.row .event (doK s o).2])
  | _, _ => none
def lawCS : Summ := fun xs M => match xs, M with
  | [.one (.agg k), .one (.c (.ros .cop ops))], [] => (Lw.Config.of k).bind fun c => ansP (ops.length ≤ Go.maxLen) (vb true)
  | _, _ => none
def goneCS : Summ := fun xs M => match xs, M with
  | [.one (.agg k), .one (.c (.ros .cop ops)), .one (.c (.pl (.int .i64 n)))], [] => (Lw.Config.of k).bind fun c => ansP (ops.length ≤ Go.maxLen) (vb true)
  | _, _ => none
def sameLS : Summ := fun xs M => match xs, M with
  | [.one (.c (.row 0)), .one (.c (.row 1))], [.row .lease a, .row .lease b] => ansP (a.length ≤ Go.maxLen) (vb (sameG Lw.Lease.enc a b))
  | _, _ => none
def sameAS : Summ := fun xs M => match xs, M with
  | [.one (.c (.row 0)), .one (.c (.row 1))], [.row .ask a, .row .ask b] => ansP (a.length ≤ Go.maxLen) (vb (sameG Lw.Ask.enc a b))
  | _, _ => none
def s63 : Summ := fun xs M => match xs, M with
  | [], [] => ans (vs conf21.enc)
  | _, _ => none
def tb154 : List (FuncId × Summ) := (63, s63) :: tb153
def s17 : Summ := fun xs M => match xs, M with
  | [], [] => ans (vb true)
  | _, _ => none
def tb155 : List (FuncId × Summ) := (17, s17) :: tb154
def tb156 : List (FuncId × Summ) := (35, obeysKS) :: tb155
def tb157 : List (FuncId × Summ) := (12, doKS) :: tb156
end Go.Proofs.YtjgmkpidiaojkaaGreat
