/- What the functions of this group answer, and the tables of summaries. -/
import Derived.Test.YtjgmkpidiaojkaaGreatFwCoreA
set_option linter.unusedVariables false
namespace Go.Proofs.YtjgmkpidiaojkaaGreat
open Lw
def usableB (x : Lw.Car) : Bool := (x.mode == 0) && !x.broken
def lateW (c : Config) (now : Int) (w : Lw.Wait) : Bool := decide (IntKind.i64.wrap (now - w.since) > spanI c.yield)
def cntI {α : Type} (p : α → Bool) (l : List α) : Int := (l.countP p : Nat)
def calmK (s : Lw.Cor) : Bool := decide (cntI usableB s.cars ≥ 2) && (cntI (lateW s.c s.now) s.ws == 0)
def fullP (c : Config) (ls : List Lw.Lease) (l : Lw.Lease) : Bool := !decide (countL ls l.ask.fleet < quotaI c)
def fullN (s : Lw.Cor) (ls : List Lw.Lease) : List Int := (ls.filter (fullP s.c s.ls)).map fun l => l.ask.fleet
def fullK (s : Lw.Cor) : List Int := fullN s s.ls
def nearP (x : Lw.Car) : Bool := idleB x && (!x.blocked && !decide (x.load > 0))
def nearN (cars : List Lw.Car) (f : Int) : Nat → Int
  | 0 => -1
  | k + 1 => if nearP (cars.getD k zeroC) = true ∧ (nearN cars f k < 0 ∨ farP (cars.getD k zeroC).unit f < farP (atC cars (nearN cars f k)).unit f) then (k : Int) else nearN cars f k
def nearI (cars : List Lw.Car) (f : Int) : Int := nearN cars f cars.length
def grantL (s : Lw.Cor) (a : Lw.Ask) (n : Int) : Lw.Lease := ⟨a, n, 1, addT s.now (tripI s.c), 0, s.now⟩
def grantC (s : Lw.Cor) (a : Lw.Ask) (n : Int) : Lw.Cor := ⟨s.c, s.now, s.r, s.out, takeL s.c s.cars n a.src, s.ws, qdropL s.qs a.session, putLs s.c s.ls (grantL s a n)⟩
def grantK (s : Lw.Cor) : Lw.Cor := if calmK s = false then s else if (firstA (fullK s) s.qs).2 = false then s
  else if nearI s.cars (firstA (fullK s) s.qs).1.src < 0 ∨ takeE s.c s.cars (nearI s.cars (firstA (fullK s) s.qs).1.src) (firstA (fullK s) s.qs).1.src ≠ 0 then s
  else sayK (grantC s (firstA (fullK s) s.qs).1 (nearI s.cars (firstA (fullK s) s.qs).1.src)) (firstA (fullK s) s.qs).1.session [⟨4, nearI s.cars (firstA (fullK s) s.qs).1.src, 0, 0⟩]
def stepK (s : Lw.Cor) : Lw.Cor := ⟨s.c, addT s.now 1, s.r, s.out, tickL s.c s.cars s.ws, tickW s.c s.cars s.ws, s.qs, s.ls⟩
def rideK (s : Lw.Cor) (l : Lw.Lease) : Lw.Lease × List Lw.Msg × Bool := rideT (lateB s.now l.until_) s.c l (atC s.cars l.car) s.now
def roundK (s : Lw.Cor) (l : Lw.Lease) : Lw.Cor := afterK s (rideK s l).1 (rideK s l).2.1 (rideK s l).2.2
def ridesK (s : Lw.Cor) (l : List Lw.Lease) : Lw.Cor := l.foldl roundK s
def tickK (s : Lw.Cor) : Lw.Cor := grantK (ridesK (stepK s) s.ls)
def CarsIn (s : Lw.Cor) : Prop := ∀ l ∈ s.ls, 0 ≤ l.car ∧ l.car < s.cars.length
def lateKS : Summ := fun xs M => match xs, M with
  | [.one (.agg k), .one (.c (.ptr 0 0 0))], .cells [.ptr 1 0 0] :: r => (Lw.Wait.of k).bind fun w => (corOf 1 r).bind fun q => some (.leaf ⟨some (q.2.1 = q.1.c ∧ q.2.2 = q.1.c), vb (lateW q.1.c q.1.now w), none, []⟩)
  | _, _ => none
def cntCS : Summ := fun xs M => match xs, M with
  | [.one (.c (.row 0)), .fn k [] []], [.row .car l] => bif Nat.beq k 179 then ansP (l.length ≤ Go.maxLen) (vi (cntI usableB l)) else none
  | _, _ => none
def cntWS : Summ := fun xs M => match xs, M with
  | [.one (.c (.row 0)), .fn k [] [.c (.ptr 1 0 0)]], .row .wait l :: .cells [.ptr 2 0 0] :: r => bif Nat.beq k 177 then (corOf 2 r).bind fun q => some (.leaf ⟨some ((q.2.1 = q.1.c ∧ q.2.2 = q.1.c) ∧ l.length ≤ Go.maxLen), vi (cntI (lateW q.1.c q.1.now) l), none, []⟩) else none
  | _, _ => none
def calmKS : Summ := fun xs M => match xs, M with
  | [.one (.c (.ptr 0 0 0))], M => corR M CorB (fun s => vb (calmK s)) (fun _ => [])
  | _, _ => none
def fullKS : Summ := fun xs M => match xs, M with
  | [.one (.c (.ptr 0 0 0))], M => corR M CorB (fun s => .one (.c (.row 9))) (fun s => [.row .int (fullK s)])
  | _, _ => none
def nearKS : Summ := fun xs M => match xs, M with
  | [.one (.c (.ptr 0 0 0)), .one (.c (.pl (.int .i64 f)))], M => corR M CorB (fun s => vi (nearI s.cars f)) (fun _ => [])
  | _, _ => none
def grantKS : Summ := fun xs M => match xs, M with
  | [.one (.c (.ptr 0 0 0))], M => corL M (fun s => OutB s ∧ CorB s) (.tup []) grantK (fun _ => [])
  | _, _ => none
def tickKS : Summ := fun xs M => match xs, M with
  | [.one (.c .nilp)], [] => ans (.tup [.c .es, .c .es])
  | [.one (.c (.ptr 0 0 0))], M => corL M (fun s => s.out.length ≤ 1000 ∧ (CorB s ∧ GInv s.c s.cars) ∧ CarsIn s) (.tup [.c (.row 13), .c (.row 14)]) (fun s => quietK (tickK s)) (fun s => [.row .event (tickK s).out, .row .wait (tickO s.c s.cars s.ws)])
  | _, _ => none
def s179 : Summ := fun xs M => match xs, M with
  | [.one (.agg csx)], [] => (Lw.Car.of csx).bind fun x => ans (vb (usableB x))
  | _, _ => none
def tb145 : List (FuncId × Summ) := (179, s179) :: tb144
def tb146 : List (FuncId × Summ) := (177, lateKS) :: tb145
def tb147 : List (FuncId × Summ) := (178, cntCS) :: tb146
def tb148 : List (FuncId × Summ) := (180, cntWS) :: tb147
def tb149 : List (FuncId × Summ) := (119, calmKS) :: tb148
def tb150 : List (FuncId × Summ) := (121, fullKS) :: tb149
def tb151 : List (FuncId × Summ) := (122, nearKS) :: tb150
def tb152 : List (FuncId × Summ) := (58, grantKS) :: tb151
def tb153 : List (FuncId × Summ) := (13, tickKS) :: tb152
end Go.Proofs.YtjgmkpidiaojkaaGreat
