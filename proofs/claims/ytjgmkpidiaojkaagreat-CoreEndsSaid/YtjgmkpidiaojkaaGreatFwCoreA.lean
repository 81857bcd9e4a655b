/- What the functions of this group answer, and the tables of summaries. -/
import Derived.Test.YtjgmkpidiaojkaaGreatFwGrpIA
set_option linter.unusedVariables false
namespace Go.Proofs.YtjgmkpidiaojkaaGreat
open Lw
structure _root_.Lw.Cor where
  c : Config
  now : Int
  r : Int
  out : List Lw.Event
  cars : List Lw.Car
  ws : List Lw.Wait
  qs : List Lw.Ask
  ls : List Lw.Lease
def corC (c : Config) (a o : Nat) : List Cell := c.enc.map .pl ++ [.ptr a 0 0, .ptr (a + 1) 0 0, .ptr (a + 2) 0 0, .row o]
def corM (k : Nat) (s : Lw.Cor) (c1 c3 : Config) : Mem := [.cells (corC s.c (k + 1) (k + 4)), .cells (grpC c1 (k + 5) (k + 6) s.now), .cells (queC s.r (k + 7)), .cells (tabC c3 (.row (k + 8))), .row .event s.out, .row .car s.cars, .row .wait s.ws, .row .ask s.qs, .row .lease s.ls]
def corU (k : Nat) (s : Lw.Cor) : Mem := [.cells (corC s.c (k + 1) (k + 9)), .cells (grpC s.c (k + 5) (k + 10) s.now), .cells (queC s.r (k + 11)), .cells (tabC s.c (.row (k + 12))), .dead, .row .car s.cars, .dead, .dead, .dead]
def corN (s : Lw.Cor) : Mem := [.row .event s.out, .row .wait s.ws, .row .ask s.qs, .row .lease s.ls]
def insX (M : Mem) (x : Blk) : Mem := match M with
  | b :: r => b :: x :: r
  | [] => []
def isCor (k : Nat) : List Cell → Bool
  | [.ptr a 0 0, .ptr b 0 0, .ptr d 0 0, .row e] => Nat.beq a (k + 1) && (Nat.beq b (k + 1 + 1) && (Nat.beq d (k + 1 + 2) && Nat.beq e (k + 4)))
  | _ => false
def isRowN (n : Nat) : Cell → Bool
  | .row b => Nat.beq b n
  | _ => false
def isGrp (k : Nat) (g : Config × Nat × Nat × Int) : Bool := Nat.beq g.2.1 (k + 5) && Nat.beq g.2.2.1 (k + 6)
def corOf (k : Nat) : Mem → Option (Lw.Cor × Config × Config)
  | [.cells v0, .cells v1, .cells v2, .cells v3, .row .event out, .row .car cars, .row .wait ws, .row .ask qs, .row .lease ls] =>
    (Lw.Config.of (v0.take 18)).bind fun c => (grpOf v1).bind fun g => (queOf v2).bind fun q => (tabOf v3).bind fun t =>
      bif isCor k (v0.drop 18) && (isGrp k g && (Nat.beq q.2 (k + 7) && isRowN (k + 8) t.2)) then some (⟨c, g.2.2.2, q.1, out, cars, ws, qs, ls⟩, g.1, t.1) else none
  | _ => none
/-- An answer that changes the core. -/
def corL (M : Mem) (P : Lw.Cor → Prop) (val : AV) (f : Lw.Cor → Lw.Cor) (ex : Lw.Cor → Mem) : Option (BT SR) :=
  (corOf 0 M).bind fun q => some (.leaf ⟨some ((q.2.1 = q.1.c ∧ q.2.2 = q.1.c) ∧ P q.1), val, some (corU 0 (f q.1)), corN (f q.1) ++ ex q.1⟩)
/-- The same, with a row handed over. -/
def corL1 (M : Mem) (x : Blk) (P : Lw.Cor → Prop) (val : AV) (f : Lw.Cor → Lw.Cor) : Option (BT SR) :=
  (corOf 1 M).bind fun q => some (.leaf ⟨some ((q.2.1 = q.1.c ∧ q.2.2 = q.1.c) ∧ P q.1), val, some (insX (corU 1 (f q.1)) x), corN (f q.1)⟩)
/-- An answer that leaves it. -/
def corR (M : Mem) (P : Lw.Cor → Prop) (val : Lw.Cor → AV) (ex : Lw.Cor → Mem) : Option (BT SR) :=
  (corOf 0 M).bind fun q => some (.leaf ⟨some ((q.2.1 = q.1.c ∧ q.2.2 = q.1.c) ∧ P q.1), val q.1, none, ex q.1⟩)
def evK (n : Int) (m : Lw.Msg) : Lw.Event := ⟨n, m⟩
def newK (c : Config) : Lw.Cor := ⟨c, 0, roomI c.queue, [], List.replicate (carsI c).toNat car0, [], [], []⟩
def sayK (s : Lw.Cor) (n : Int) (ms : List Lw.Msg) : Lw.Cor := ⟨s.c, s.now, s.r, s.out ++ ms.map (evK n), s.cars, s.ws, s.qs, s.ls⟩
def quietK (s : Lw.Cor) : Lw.Cor := ⟨s.c, s.now, s.r, [], s.cars, s.ws, s.qs, s.ls⟩
def endK (s : Lw.Cor) (n : Int) : Lw.Cor := ⟨s.c, s.now, s.r, s.out, if getB (sesP n) s.ls = true then giveL s.c s.cars (getL (sesP n) s.ls).car else s.cars, s.ws, s.qs, endLs s.ls n⟩
def qPut (s : Lw.Cor) (a : Lw.Ask) : Lw.Cor := ⟨s.c, s.now, s.r, s.out, s.cars, s.ws, qputL s.r s.qs a, s.ls⟩
def putM (s : Lw.Cor) (a : Lw.Ask) : Lw.Msg := if qputE s.r s.qs a = 0 then ⟨5, mm true (idxG (askP a.session) (qputL s.r s.qs a) 0) 0, 0, 0⟩ else if qputE s.r s.qs a = 5 then ⟨6, 0, 0, 0⟩ else ⟨7, 5, 0, 0⟩
def putK (s : Lw.Cor) (a : Lw.Ask) : Lw.Cor := sayK (qPut s a) a.session [putM s a]
def askK (s : Lw.Cor) (a : Lw.Ask) : Lw.Cor := if mayA s.c a = false then sayK s a.session [⟨7, 0, 0, 0⟩] else if getB (sesP a.session) s.ls = true then sayK s a.session [⟨7, 5, 0, 0⟩] else putK s a
def setK (s : Lw.Cor) (l : Lw.Lease) : Lw.Cor := ⟨s.c, s.now, s.r, s.out, aimL s.c s.cars l.car (aimI l) true, s.ws, s.qs, setLs s.c s.ls l⟩
def afterK (s : Lw.Cor) (l : Lw.Lease) (ms : List Lw.Msg) (over : Bool) : Lw.Cor := if over = true then endK (sayK s l.ask.session ms) l.ask.session else setK (sayK s l.ask.session ms) l
def hearK (s : Lw.Cor) (n : Int) (m : Lw.Msg) : Lw.Cor :=
  if getB (sesP n) s.ls = true then afterK s (rideH s.c (getL (sesP n) s.ls) (atC s.cars (getL (sesP n) s.ls).car) s.now m).1 (rideH s.c (getL (sesP n) s.ls) (atC s.cars (getL (sesP n) s.ls).car) s.now m).2.1 (rideH s.c (getL (sesP n) s.ls) (atC s.cars (getL (sesP n) s.ls).car) s.now m).2.2
  else sayK s n [⟨7, 0, 0, 0⟩]
def goneK (s : Lw.Cor) (n : Int) : Lw.Cor := ⟨s.c, s.now, s.r, s.out, (endK s n).cars, s.ws, qdropL s.qs n, endLs s.ls n⟩
def OutB (s : Lw.Cor) : Prop := s.out.length ≤ 1000000
def CorB (s : Lw.Cor) : Prop := s.ws.length ≤ 1000000 ∧ (s.qs.length ≤ 1000000 ∧ s.ls.length ≤ 100000) ∧ mildL s.cars
def newKS : Summ := fun xs M => match xs, M with
  | [.one (.agg k)], [] => (Lw.Config.of k).bind fun c => some (.leaf ⟨none, .one (.c (.ptr 0 0 0)), none, corM 0 (newK c) c c⟩)
  | _, _ => none
def sayKS : Summ := fun xs M => match xs, M with
  | [.one (.c (.ptr 0 0 0)), .one (.c (.pl (.int .i64 n))), .one (.c .es)], M => corL M OutB (.tup []) (fun s => sayK s n []) (fun _ => [])
  | [.one (.c (.ptr 0 0 0)), .one (.c (.pl (.int .i64 n))), .one (.c (.row 1))], b0 :: .row .msg ms :: r => corL1 (b0 :: r) (.row .msg ms) (fun s => OutB s ∧ ms.length ≤ 1000) (.tup []) (fun s => sayK s n ms)
  | _, _ => none
def saidKS : Summ := fun xs M => match xs, M with
  | [.one (.c (.ptr 0 0 0))], M => corL M (fun _ => True) (.one (.c (.row 13))) quietK (fun s => [.row .event s.out])
  | _, _ => none
def endKS : Summ := fun xs M => match xs, M with
  | [.one (.c (.ptr 0 0 0)), .one (.c (.pl (.int .i64 n)))], M => corL M (fun s => s.ls.length ≤ 100000) (.tup []) (fun s => endK s n) (fun _ => [])
  | _, _ => none
def putKS : Summ := fun xs M => match xs, M with
  | [.one (.c (.ptr 0 0 0)), .one (.agg k)], M => (Lw.Ask.of k).bind fun a => corL M (fun s => OutB s ∧ s.qs.length ≤ 1000000) (.tup []) (fun s => putK s a) (fun _ => [])
  | _, _ => none
def askKS : Summ := fun xs M => match xs, M with
  | [.one (.c .nilp), .one (.agg k)], [] => (Lw.Ask.of k).bind fun a => ans (.one (.c .es))
  | [.one (.c (.ptr 0 0 0)), .one (.agg k)], M => (Lw.Ask.of k).bind fun a => corL M (fun s => OutB s ∧ CorB s) (.one (.c (.row 13))) (fun s => quietK (askK s a)) (fun s => [.row .event (askK s a).out])
  | _, _ => none
def afterKS : Summ := fun xs M => match xs, M with
  | [.one (.c (.ptr 0 0 0)), .one (.agg k), .one (.c .es), .one (.c (.pl (.bool v)))], M => (Lw.Lease.of k).bind fun l => corL M (fun s => OutB s ∧ s.ls.length ≤ 100000) (.tup []) (fun s => afterK s l [] v) (fun _ => [])
  | [.one (.c (.ptr 0 0 0)), .one (.agg k), .one (.c (.row 1)), .one (.c (.pl (.bool v)))], b0 :: .row .msg ms :: r => (Lw.Lease.of k).bind fun l => corL1 (b0 :: r) (.row .msg ms) (fun s => (OutB s ∧ s.ls.length ≤ 100000) ∧ ms.length ≤ 10) (.tup []) (fun s => afterK s l ms v)
  | _, _ => none
def carKS : Summ := fun xs M => match xs, M with
  | [.one (.c (.ptr 0 0 0)), .one (.agg k)], M => (Lw.Lease.of k).bind fun l => corR M (fun s => mildL s.cars ∧ (0 ≤ l.car ∧ l.car < s.cars.length)) (fun s => vs (atC s.cars l.car).enc) (fun _ => [])
  | _, _ => none
def hearKS : Summ := fun xs M => match xs, M with
  | [.one (.c .nilp), .one (.c (.pl (.int .i64 n))), .one (.agg k)], [] => (Lw.Msg.of k).bind fun a => ans (.one (.c .es))
  | [.one (.c (.ptr 0 0 0)), .one (.c (.pl (.int .i64 n))), .one (.agg k)], M => (Lw.Msg.of k).bind fun m => corL M (fun s => (OutB s ∧ CorB s) ∧ (getB (sesP n) s.ls = true → 0 ≤ (getL (sesP n) s.ls).car ∧ (getL (sesP n) s.ls).car < s.cars.length)) (.one (.c (.row 13))) (fun s => quietK (hearK s n m)) (fun s => [.row .event (hearK s n m).out])
  | _, _ => none
def goneKS : Summ := fun xs M => match xs, M with
  | [.one (.c .nilp), .one (.c (.pl (.int .i64 n)))], [] => ans (.tup [])
  | [.one (.c (.ptr 0 0 0)), .one (.c (.pl (.int .i64 n)))], M => corL M CorB (.tup []) (fun s => goneK s n) (fun _ => [])
  | _, _ => none
def groupKS : Summ := fun xs M => match xs, M with
  | [.one (.c .nilp)], [] => ans (.one (.c .nilp))
  | [.one (.c (.ptr 0 0 0))], M => corR M (fun _ => True) (fun s => .one (.c (.ptr 1 0 0))) (fun _ => [])
  | _, _ => none
def leasesKS : Summ := fun xs M => match xs, M with
  | [.one (.c .nilp)], [] => ans (.one (.c .es))
  | [.one (.c (.ptr 0 0 0))], M => corR M CorB (fun s => .one (.c (.row 9))) (fun s => [.row .lease s.ls])
  | _, _ => none
def queueKS : Summ := fun xs M => match xs, M with
  | [.one (.c .nilp)], [] => ans (.one (.c .es))
  | [.one (.c (.ptr 0 0 0))], M => corR M CorB (fun s => .one (.c (.row 9))) (fun s => [.row .ask s.qs])
  | _, _ => none
def tb132 : List (FuncId × Summ) := (11, newKS) :: tb131
def tb133 : List (FuncId × Summ) := (86, sayKS) :: tb132
def tb134 : List (FuncId × Summ) := (59, saidKS) :: tb133
def tb135 : List (FuncId × Summ) := (61, endKS) :: tb134
def tb136 : List (FuncId × Summ) := (87, putKS) :: tb135
def tb137 : List (FuncId × Summ) := (29, askKS) :: tb136
def tb138 : List (FuncId × Summ) := (55, afterKS) :: tb137
def tb139 : List (FuncId × Summ) := (57, carKS) :: tb138
def tb140 : List (FuncId × Summ) := (30, hearKS) :: tb139
def tb141 : List (FuncId × Summ) := (16, goneKS) :: tb140
def tb142 : List (FuncId × Summ) := (31, groupKS) :: tb141
def tb143 : List (FuncId × Summ) := (14, leasesKS) :: tb142
def tb144 : List (FuncId × Summ) := (15, queueKS) :: tb143
end Go.Proofs.YtjgmkpidiaojkaaGreat
