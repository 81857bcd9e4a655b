/- What the functions of this group answer, and the tables of summaries. -/
import Derived.Test.YtjgmkpidiaojkaaGreatFwRideA
set_option linter.unusedVariables false
namespace Go.Proofs.YtjgmkpidiaojkaaGreat
open Lw
def grpC (c : Config) (b w : Nat) (now : Int) : List Cell := c.enc.map .pl ++ [.row b, .row w, .pl (.int .i64 now)]
def grpOf (vs : List Cell) : Option (Config × Nat × Nat × Int) := (Lw.Config.of (vs.take 18)).bind fun c => match vs.drop 18 with
  | [.row b, .row w, .pl (.int .i64 n)] => some (c, b, w, n)
  | _ => none
def grpS (b w : Nat) (vs : List Cell) (k : Config → Int → Option (BT SR)) : Option (BT SR) := (grpOf vs).bind fun q => bif Nat.beq q.2.1 b && Nat.beq q.2.2.1 w then k q.1 q.2.2.2 else none
def callP (k : Lw.Call) (w : Lw.Wait) : Bool := (w.floor == k.floor) && (w.way == k.way)
def floorB (c : Config) (f : Int) : Bool := decide (f ≥ 0) && decide (f < floorsI c.floors)
def okC (c : Config) (cars : List Lw.Car) (n f : Int) : Bool := decide (n ≥ 0) && (decide (n < cars.length) && floorB c f)
def zeroC : Lw.Car := ⟨⟨0, 0⟩, 0, 0, 0, 0, 0, false, false, 0, 0, false, ⟨0, 0, 0⟩⟩
def zeroW : Lw.Wait := ⟨0, 0, 0, 0⟩
def atC (cars : List Lw.Car) (n : Int) : Lw.Car := cars.getD n.toNat zeroC
def modC (cars : List Lw.Car) (n : Int) (x : Lw.Car) : List Lw.Car := cars.set n.toNat x
def carsI (c : Config) : Int := clampI 1 8 c.cars
def hallE (c : Config) (f w : Int) : Int := if floorB c f = false then 1 else if w = 1 then (if floorB c (f + 1) = true then 0 else 1) else if w = 2 then (if f = 0 then 1 else 0) else 1
def hallW (c : Config) (ws : List Lw.Wait) (now f w : Int) : List Lw.Wait := if hallE c f w = 0 ∧ idxG (callP ⟨f, w⟩) ws 0 < 0 then ws ++ [⟨f, w, -1, now⟩] else ws
def setStops (x : Lw.Car) (s : Lw.Stops) : Lw.Car := ⟨x.door, x.unit, x.way, x.timer, x.just, x.load, x.blocked, x.broken, x.mode, x.target, x.hold, s⟩
def setLoad (x : Lw.Car) (n : Int) : Lw.Car := ⟨x.door, x.unit, x.way, x.timer, x.just, n, x.blocked, x.broken, x.mode, x.target, x.hold, x.stops⟩
def setBlk (x : Lw.Car) (b : Bool) : Lw.Car := ⟨x.door, x.unit, x.way, x.timer, x.just, x.load, b, x.broken, x.mode, x.target, x.hold, x.stops⟩
def setBrk (x : Lw.Car) (b : Bool) : Lw.Car := ⟨x.door, x.unit, x.way, x.timer, x.just, x.load, x.blocked, b, x.mode, x.target, x.hold, if b = true then ⟨0, 0, 0⟩ else x.stops⟩
def setTake (x : Lw.Car) (f : Int) : Lw.Car := ⟨x.door, x.unit, x.way, x.timer, x.just, x.load, x.blocked, x.broken, 1, f, true, x.stops⟩
def setAim (x : Lw.Car) (f : Int) (h : Bool) : Lw.Car := ⟨x.door, x.unit, x.way, x.timer, x.just, x.load, x.blocked, x.broken, x.mode, f, h, x.stops⟩
def setGive (c : Config) (x : Lw.Car) : Lw.Car := ⟨x.door, x.unit, if levelB x.unit = true then 0 else x.way, spanI c.dwell, -1, x.load, x.blocked, x.broken, 0, 0, false, x.stops⟩
def pressE (c : Config) (cars : List Lw.Car) (n f : Int) : Int := if okC c cars n f = false then 1 else if (atC cars n).broken = true ∨ (atC cars n).mode ≠ 0 then 7 else 0
def pressL (c : Config) (cars : List Lw.Car) (n f : Int) : List Lw.Car := if pressE c cars n f = 0 then modC cars n (setStops (atC cars n) (pressS (atC cars n).stops f)) else cars
def csetE (c : Config) (cars : List Lw.Car) (n : Int) : Int := if okC c cars n 0 = true then 0 else 1
def loadL (c : Config) (cars : List Lw.Car) (n kg : Int) : List Lw.Car := if okC c cars n 0 = true then modC cars n (setLoad (atC cars n) kg) else cars
def curtL (c : Config) (cars : List Lw.Car) (n : Int) (b : Bool) : List Lw.Car := if okC c cars n 0 = true then modC cars n (setBlk (atC cars n) b) else cars
def freeW (n : Int) (w : Lw.Wait) : Lw.Wait := if w.car = n then ⟨w.floor, w.way, -1, w.since⟩ else w
def faultL (c : Config) (cars : List Lw.Car) (n : Int) (b : Bool) : List Lw.Car := if okC c cars n 0 = true then modC cars n (setBrk (atC cars n) b) else cars
def faultW (c : Config) (cars : List Lw.Car) (ws : List Lw.Wait) (n : Int) (b : Bool) : List Lw.Wait := if okC c cars n 0 = true ∧ b = true then ws.map (freeW n) else ws
def takeE (c : Config) (cars : List Lw.Car) (n f : Int) : Int := if okC c cars n f = false then 1 else if idleB (atC cars n) = true then 0 else 7
def takeL (c : Config) (cars : List Lw.Car) (n f : Int) : List Lw.Car := if takeE c cars n f = 0 then modC cars n (setTake (atC cars n) f) else cars
def aimE (c : Config) (cars : List Lw.Car) (n f : Int) : Int := if okC c cars n f = false then 1 else if (atC cars n).mode = 1 then 0 else 7
def aimL (c : Config) (cars : List Lw.Car) (n f : Int) (h : Bool) : List Lw.Car := if aimE c cars n f = 0 then modC cars n (setAim (atC cars n) f h) else cars
def giveL (c : Config) (cars : List Lw.Car) (n : Int) : List Lw.Car := if aimE c cars n 0 = 0 then modC cars n (setGive c (atC cars n)) else cars
def takesW (w : Lw.Wait) (b : Int) : Lw.Wait := ⟨w.floor, w.way, b, w.since⟩
def assignN (c : Config) (cars : List Lw.Car) (ws : List Lw.Wait) : Nat → List Lw.Car × List Lw.Wait
  | 0 => (cars, ws)
  | k + 1 => if (ws.getD k zeroW).car ≥ 0 then assignN c cars ws k
    else if bestI c (assignN c cars ws k).1 ⟨(ws.getD k zeroW).floor, (ws.getD k zeroW).way⟩ ≥ 0 then
      (modC (assignN c cars ws k).1 (bestI c (assignN c cars ws k).1 ⟨(ws.getD k zeroW).floor, (ws.getD k zeroW).way⟩) (setStops (atC (assignN c cars ws k).1 (bestI c (assignN c cars ws k).1 ⟨(ws.getD k zeroW).floor, (ws.getD k zeroW).way⟩)) (hallS (atC (assignN c cars ws k).1 (bestI c (assignN c cars ws k).1 ⟨(ws.getD k zeroW).floor, (ws.getD k zeroW).way⟩)).stops (ws.getD k zeroW).floor (ws.getD k zeroW).way)),
        (assignN c cars ws k).2.set k (takesW (ws.getD k zeroW) (bestI c (assignN c cars ws k).1 ⟨(ws.getD k zeroW).floor, (ws.getD k zeroW).way⟩)))
    else assignN c cars ws k
def assignG (c : Config) (cars : List Lw.Car) (ws : List Lw.Wait) : List Lw.Car × List Lw.Wait := assignN c cars ws ws.length
def keepW (k : Lw.Call) (ws : List Lw.Wait) : List Lw.Wait := ws.filter fun w => !callP k w
def takeW (k : Lw.Call) (ws : List Lw.Wait) : List Lw.Wait := ws.filter fun w => callP k w
def wavesN (c : Config) (cars : List Lw.Car) (ws : List Lw.Wait) : Nat → List Lw.Wait × List Lw.Wait
  | 0 => (ws, [])
  | k + 1 => if tickSv c (cars.getD k zeroC) = true then (keepW (tickCall c (cars.getD k zeroC)) (wavesN c cars ws k).1, (wavesN c cars ws k).2 ++ takeW (tickCall c (cars.getD k zeroC)) (wavesN c cars ws k).1) else wavesN c cars ws k
def tickL (c : Config) (cars : List Lw.Car) (ws : List Lw.Wait) : List Lw.Car := (assignG c cars ws).1.map (tickCar c)
def tickW (c : Config) (cars : List Lw.Car) (ws : List Lw.Wait) : List Lw.Wait := (wavesN c (assignG c cars ws).1 (assignG c cars ws).2 (assignG c cars ws).1.length).1
def tickO (c : Config) (cars : List Lw.Car) (ws : List Lw.Wait) : List Lw.Wait := (wavesN c (assignG c cars ws).1 (assignG c cars ws).2 (assignG c cars ws).1.length).2
def mildL (cars : List Lw.Car) : Prop := cars.length ≤ 1000 ∧ ∀ x ∈ cars, stopsR x.stops ∧ mildC x
def predW (k : Nat) (vs : List Cell) : Option (Lw.Wait → Bool) :=
  bif Nat.beq k 103 then (Lw.Call.of vs).bind fun l => some (callP l) else none
def clo_hh : Summ := fun xs M => match xs, M with
  | [.one (.agg k), .one (.c (.ptr 0 0 0))], [.cells vs] => (Lw.Wait.of k).bind fun x => (Lw.Call.of vs).bind fun l => ans (vb (callP l x))
  | _, _ => none
def idxWS : Summ := fun xs M => match xs, M with
  | [.one (.c (.row 0)), .fn k [] [.c (.ptr 1 0 0)]], [.row .wait l, .cells vs] => (predW k vs).bind fun p => ansP (l.length ≤ Go.maxLen) (vi (idxG p l 0))
  | [.one (.c (.row 0)), .fn k [] [.c (.ptr 1 0 0), .c (.ptr 2 0 0)]], [.row .wait l, .cells vs, .cells [.row 3], .row .wait out] => bif Nat.beq k 70 then (Lw.Call.of vs).bind fun q => some (.leaf ⟨some (l.length + out.length ≤ bigRow), vi (idxG (callP q) l 0), some [.row .wait l, .cells vs, .cells [.row 4], .dead], [.row .wait (out ++ if idxG (callP q) l 0 < 0 then [] else [l.getD (idxG (callP q) l 0).toNat zeroW])]⟩) else none
  | _, _ => none
def tick1S : Summ := fun xs M => match xs, M with
  | [.one (.agg k), .one (.c (.ptr 0 0 0)), .one (.c (.ptr 1 0 0))], [.cells vs, .cells [.row 2], .row .wait out] => (Lw.Wait.of k).bind fun w => (Lw.Call.of vs).bind fun q => some (.leaf ⟨some (out.length + 1 ≤ bigRow), vb (callP q w), some [.cells vs, .cells [.row 3], .dead], [.row .wait (out ++ bif callP q w then [w] else [])]⟩)
  | _, _ => none
def contWS : Summ := fun xs M => match xs, M with
  | [.one (.c (.row 0)), .fn k [] [.c (.ptr 1 0 0)]], [.row .wait l, .cells vs] => (predW k vs).bind fun p => ansP (l.length ≤ Go.maxLen) (vb (decide (idxG p l 0 ≥ 0)))
  | _, _ => none
def delWS : Summ := fun xs M => match xs, M with
  | [.one (.c (.row 0)), .fn k [] [.c (.ptr 1 0 0), .c (.ptr 2 0 0)]], [.row .wait l, .cells vs, .cells [.row 3], .row .wait out] => bif Nat.beq k 70 then (Lw.Call.of vs).bind fun q => some (.leaf ⟨some (l.length + out.length ≤ bigRow), .one (.c (.row 4)), some [.dead, .cells vs, .cells [.row 5], .dead], [.row .wait (keepW q l), .row .wait (out ++ takeW q l)]⟩) else none
  | _, _ => none
def repS : Summ := fun xs M => match xs, M with
  | [.one (.c (.row 0)), .one (.c (.pl (.int .i64 n)))], [.row .car [x]] => some (.leaf ⟨some (1 ≤ n ∧ n ≤ 8), .one (.c (.row 1)), none, [.row .car (List.replicate n.toNat x)]⟩)
  | _, _ => none
def mulS : Summ := fun xs M => match xs, M with
  | [.one (.c (.pl (.int .u64 x))), .one (.c (.pl (.int .u64 y)))], [] => ansP (x = 1 ∧ 1 ≤ y ∧ y ≤ 8) (.tup [.c (.pl (.int .u64 0)), .c (.pl (.int .u64 y))])
  | _, _ => none
def newGS : Summ := fun xs M => match xs, M with
  | [.one (.agg k)], [] => (Lw.Config.of k).bind fun c => some (.leaf ⟨none, .one (.c (.ptr 0 0 0)), none, [.cells (grpC c 1 2 0), .row .car (List.replicate (carsI c).toNat car0), .row .wait []]⟩)
  | _, _ => none
def floorGS : Summ := fun xs M => match xs, M with
  | [.one (.c (.ptr 0 0 0)), .one (.c (.pl (.int .i64 n)))], [.cells vs, .row .car cars, .row .wait ws] => grpS 1 2 vs fun c _ => ans (vb (floorB c n))
  | _, _ => none
def carGS : Summ := fun xs M => match xs, M with
  | [.one (.c .nilp), .one (.c (.pl (.int .i64 n))), .one (.c (.pl (.int .i64 f)))], [] => ans (.tup [.c .nilp, cb false])
  | [.one (.c (.ptr 0 0 0)), .one (.c (.pl (.int .i64 n))), .one (.c (.pl (.int .i64 f)))], [.cells vs, .row .car cars, .row .wait ws] => grpS 1 2 vs fun c _ => some (.br (okC c cars n f) (.leaf ⟨none, .tup [.c (.ptr 1 n.toNat 0), cb true], none, []⟩) (.leaf ⟨none, .tup [.c .nilp, cb false], none, []⟩))
  | _, _ => none
def hallGS : Summ := fun xs M => match xs, M with
  | [.one (.c .nilp), .one (.c (.pl (.int .i64 n))), .one (.c (.pl (.int .i64 f)))], [] => ans (vi 1)
  | [.one (.c (.ptr 0 0 0)), .one (.c (.pl (.int .i64 f))), .one (.c (.pl (.int .i64 w)))], [.cells vs, .row .car cars, .row .wait ws] => grpS 1 2 vs fun c now => some (.leaf ⟨some (ws.length + 1 ≤ bigRow), vi (hallE c f w), some [.cells (grpC c 1 3 now), .row .car cars, .dead], [.row .wait (hallW c ws now f w)]⟩)
  | _, _ => none
def pressGS : Summ := fun xs M => match xs, M with
  | [.one (.c .nilp), .one (.c (.pl (.int .i64 n))), .one (.c (.pl (.int .i64 f)))], [] => ans (vi 1)
  | [.one (.c (.ptr 0 0 0)), .one (.c (.pl (.int .i64 n))), .one (.c (.pl (.int .i64 f)))], [.cells vs, .row .car cars, .row .wait ws] => grpS 1 2 vs fun c now => some (.leaf ⟨none, vi (pressE c cars n f), some [.cells vs, .row .car (pressL c cars n f), .row .wait ws], []⟩)
  | _, _ => none
def load1S : Summ := fun xs M => match xs, M with
  | [.one (.c (.ptr 0 i 0)), .one (.c (.ptr 1 0 0))], [.row .car cars, .cells [.pl (.int .i64 kg)]] => some (.leaf ⟨none, .tup [], some [.row .car (cars.set i (setLoad (cars.getD i zeroC) kg)), .cells [.pl (.int .i64 kg)]], []⟩)
  | _, _ => none
def curt1S : Summ := fun xs M => match xs, M with
  | [.one (.c (.ptr 0 i 0)), .one (.c (.ptr 1 0 0))], [.row .car cars, .cells [.pl (.bool b)]] => some (.leaf ⟨none, .tup [], some [.row .car (cars.set i (setBlk (cars.getD i zeroC) b)), .cells [.pl (.bool b)]], []⟩)
  | _, _ => none
def fault1S : Summ := fun xs M => match xs, M with
  | [.one (.c (.ptr 0 i 0)), .one (.c (.ptr 1 0 0)), .one (.c (.ptr 2 0 0)), .one (.c (.ptr 3 0 0))], [.row .car cars, .cells [.pl (.bool b)], .cells [.ptr 4 0 0], .cells [.pl (.int .i64 n)], .cells vs, .row .wait ws] => grpS 0 5 vs fun c now => some (.leaf ⟨some (i < cars.length ∧ ws.length ≤ Go.maxLen), .tup [], some [.row .car (cars.set i (setBrk (cars.getD i zeroC) b)), .cells [.pl (.bool b)], .cells [.ptr 4 0 0], .cells [.pl (.int .i64 n)], .cells vs, .row .wait (if b = true then ws.map (freeW n) else ws)], []⟩)
  | _, _ => none
def setGS : Summ := fun xs M => match xs, M with
  | [.one (.c .nilp), .one (.c (.pl (.int .i64 n))), .fn k [] [.c (.ptr 0 0 0)]], [.cells [.pl (.int .i64 kg)]] => bif Nat.beq k 107 then ans (vi 1) else none
  | [.one (.c .nilp), .one (.c (.pl (.int .i64 n))), .fn k [] [.c (.ptr 0 0 0)]], [.cells [.pl (.bool b)]] => bif Nat.beq k 108 then ans (vi 1) else none
  | [.one (.c .nilp), .one (.c (.pl (.int .i64 n))), .fn k [] [.c (.ptr 0 0 0), .c (.ptr 1 0 0), .c (.ptr 2 0 0)]], [.cells [.pl (.bool b)], .cells [.nilp], .cells [.pl (.int .i64 m)]] => bif Nat.beq k 109 then ans (vi 1) else none
  | [.one (.c (.ptr 0 0 0)), .one (.c (.pl (.int .i64 n))), .fn k [] [.c (.ptr 1 0 0)]], [.cells vs, .cells [.pl (.int .i64 kg)], .row .car cars, .row .wait ws] => bif Nat.beq k 107 then grpS 2 3 vs fun c now => some (.leaf ⟨none, vi (csetE c cars n), some [.cells vs, .cells [.pl (.int .i64 kg)], .row .car (loadL c cars n kg), .row .wait ws], []⟩) else none
  | [.one (.c (.ptr 0 0 0)), .one (.c (.pl (.int .i64 n))), .fn k [] [.c (.ptr 1 0 0)]], [.cells vs, .cells [.pl (.bool b)], .row .car cars, .row .wait ws] => bif Nat.beq k 108 then grpS 2 3 vs fun c now => some (.leaf ⟨none, vi (csetE c cars n), some [.cells vs, .cells [.pl (.bool b)], .row .car (curtL c cars n b), .row .wait ws], []⟩) else none
  | [.one (.c (.ptr 0 0 0)), .one (.c (.pl (.int .i64 n))), .fn k [] [.c (.ptr 1 0 0), .c (.ptr 2 0 0), .c (.ptr 3 0 0)]], [.cells vs, .cells [.pl (.bool b)], .cells [.ptr 0 0 0], .cells [.pl (.int .i64 m)], .row .car cars, .row .wait ws] => bif Nat.beq k 109 then grpS 4 5 vs fun c now => some (.leaf ⟨some (m = n ∧ ws.length ≤ Go.maxLen), vi (csetE c cars n), some [.cells vs, .cells [.pl (.bool b)], .cells [.ptr 0 0 0], .cells [.pl (.int .i64 m)], .row .car (faultL c cars n b), .row .wait (faultW c cars ws n b)], []⟩) else none
  | _, _ => none
def loadGS : Summ := fun xs M => match xs, M with
  | [.one (.c .nilp), .one (.c (.pl (.int .i64 n))), .one (.c (.pl (.int .i64 kg)))], [] => ans (vi 1)
  | [.one (.c (.ptr 0 0 0)), .one (.c (.pl (.int .i64 n))), .one (.c (.pl (.int .i64 kg)))], [.cells vs, .row .car cars, .row .wait ws] => grpS 1 2 vs fun c now => some (.leaf ⟨none, vi (csetE c cars n), some [.cells vs, .row .car (loadL c cars n kg), .row .wait ws], []⟩)
  | _, _ => none
def curtGS : Summ := fun xs M => match xs, M with
  | [.one (.c .nilp), .one (.c (.pl (.int .i64 n))), .one (.c (.pl (.bool b)))], [] => ans (vi 1)
  | [.one (.c (.ptr 0 0 0)), .one (.c (.pl (.int .i64 n))), .one (.c (.pl (.bool b)))], [.cells vs, .row .car cars, .row .wait ws] => grpS 1 2 vs fun c now => some (.leaf ⟨none, vi (csetE c cars n), some [.cells vs, .row .car (curtL c cars n b), .row .wait ws], []⟩)
  | _, _ => none
def faultGS : Summ := fun xs M => match xs, M with
  | [.one (.c .nilp), .one (.c (.pl (.int .i64 n))), .one (.c (.pl (.bool b)))], [] => ans (vi 1)
  | [.one (.c (.ptr 0 0 0)), .one (.c (.pl (.int .i64 n))), .one (.c (.pl (.bool b)))], [.cells vs, .row .car cars, .row .wait ws] => grpS 1 2 vs fun c now => some (.leaf ⟨some (ws.length ≤ Go.maxLen), vi (csetE c cars n), some [.cells vs, .row .car (faultL c cars n b), .row .wait (faultW c cars ws n b)], []⟩)
  | _, _ => none
def takeGS : Summ := fun xs M => match xs, M with
  | [.one (.c .nilp), .one (.c (.pl (.int .i64 n))), .one (.c (.pl (.int .i64 f)))], [] => ans (vi 1)
  | [.one (.c (.ptr 0 0 0)), .one (.c (.pl (.int .i64 n))), .one (.c (.pl (.int .i64 f)))], [.cells vs, .row .car cars, .row .wait ws] => grpS 1 2 vs fun c now => some (.leaf ⟨some (mildL cars), vi (takeE c cars n f), some [.cells vs, .row .car (takeL c cars n f), .row .wait ws], []⟩)
  | _, _ => none
def leasedGS : Summ := fun xs M => match xs, M with
  | [.one (.c .nilp), .one (.c (.pl (.int .i64 n))), .one (.c (.pl (.int .i64 f)))], [] => ans (.tup [.c .nilp, ci 1])
  | [.one (.c (.ptr 0 0 0)), .one (.c (.pl (.int .i64 n))), .one (.c (.pl (.int .i64 f)))], [.cells vs, .row .car cars, .row .wait ws] => grpS 1 2 vs fun c now => some (.br (decide (aimE c cars n f = 0)) (.leaf ⟨none, .tup [.c (.ptr 1 n.toNat 0), ci 0], none, []⟩) (.leaf ⟨none, .tup [.c .nilp, ci (aimE c cars n f)], none, []⟩))
  | _, _ => none
def aimGS : Summ := fun xs M => match xs, M with
  | [.one (.c .nilp), .one (.c (.pl (.int .i64 n))), .one (.c (.pl (.int .i64 f))), .one (.c (.pl (.bool h)))], [] => ans (vi 1)
  | [.one (.c (.ptr 0 0 0)), .one (.c (.pl (.int .i64 n))), .one (.c (.pl (.int .i64 f))), .one (.c (.pl (.bool h)))], [.cells vs, .row .car cars, .row .wait ws] => grpS 1 2 vs fun c now => some (.leaf ⟨none, vi (aimE c cars n f), some [.cells vs, .row .car (aimL c cars n f h), .row .wait ws], []⟩)
  | _, _ => none
def giveGS : Summ := fun xs M => match xs, M with
  | [.one (.c .nilp), .one (.c (.pl (.int .i64 n)))], [] => ans (vi 1)
  | [.one (.c (.ptr 0 0 0)), .one (.c (.pl (.int .i64 n)))], [.cells vs, .row .car cars, .row .wait ws] => grpS 1 2 vs fun c now => some (.leaf ⟨none, vi (aimE c cars n 0), some [.cells vs, .row .car (giveL c cars n), .row .wait ws], []⟩)
  | _, _ => none
def assignGS : Summ := fun xs M => match xs, M with
  | [.one (.c (.ptr 0 0 0))], [.cells vs, .row .car cars, .row .wait ws] => grpS 1 2 vs fun c now => some (.leaf ⟨some (mildL cars ∧ ws.length ≤ bigRow), .tup [], some [.cells vs, .row .car (assignG c cars ws).1, .row .wait (assignG c cars ws).2], []⟩)
  | _, _ => none
def tickGS : Summ := fun xs M => match xs, M with
  | [.one (.c .nilp)], [] => ans (.one (.c .es))
  | [.one (.c (.ptr 0 0 0))], [.cells vs, .row .car cars, .row .wait ws] => grpS 1 2 vs fun c now => some (.leaf ⟨some (mildL cars ∧ ws.length ≤ bigRow), .one (.c (.row 4)), some [.cells (grpC c 1 3 (addT now 1)), .row .car (tickL c cars ws), .dead], [.row .wait (tickW c cars ws), .row .wait (tickO c cars ws)]⟩)
  | _, _ => none
def carsGS : Summ := fun xs M => match xs, M with
  | [.one (.c .nilp)], [] => ans (.one (.c .es))
  | [.one (.c (.ptr 0 0 0))], [.cells vs, .row .car cars, .row .wait ws] => grpS 1 2 vs fun c now => some (.leaf ⟨some (cars.length ≤ bigRow), .one (.c (.row 3)), none, [.row .car cars]⟩)
  | _, _ => none
def waitsGS : Summ := fun xs M => match xs, M with
  | [.one (.c .nilp)], [] => ans (.one (.c .es))
  | [.one (.c (.ptr 0 0 0))], [.cells vs, .row .car cars, .row .wait ws] => grpS 1 2 vs fun c now => some (.leaf ⟨some (ws.length ≤ bigRow), .one (.c (.row 3)), none, [.row .wait ws]⟩)
  | _, _ => none
def nowGS : Summ := fun xs M => match xs, M with
  | [.one (.c .nilp)], [] => ans (vi 0)
  | [.one (.c (.ptr 0 0 0))], [.cells vs, .row .car cars, .row .wait ws] => grpS 1 2 vs fun c now => ans (vi now)
  | _, _ => none
def cloneCS : Summ := fun xs M => match xs, M with
  | [.one (.c (.row 0))], [.row .car ls] => some (.leaf ⟨some (ls.length ≤ bigRow), .one (.c (.row 1)), none, [.row .car ls]⟩)
  | _, _ => none
def cloneWS : Summ := fun xs M => match xs, M with
  | [.one (.c (.row 0))], [.row .wait ls] => some (.leaf ⟨some (ls.length ≤ bigRow), .one (.c (.row 1)), none, [.row .wait ls]⟩)
  | _, _ => none
def tb101 : List (FuncId × Summ) := (103, clo_hh) :: tb100
def tb102 : List (FuncId × Summ) := (99, cloneCS) :: tb101
def tb103 : List (FuncId × Summ) := (145, cloneWS) :: tb102
def tb104 : List (FuncId × Summ) := (70, tick1S) :: tb103
def tb105 : List (FuncId × Summ) := (136, idxWS) :: tb104
def tb106 : List (FuncId × Summ) := (102, contWS) :: tb105
def tb107 : List (FuncId × Summ) := (69, delWS) :: tb106
def tb108 : List (FuncId × Summ) := (189, mulS) :: tb107
def tb109 : List (FuncId × Summ) := (129, mulS) :: tb108
def tb110 : List (FuncId × Summ) := (64, repS) :: tb109
def tb111 : List (FuncId × Summ) := (20, newGS) :: tb110
def tb112 : List (FuncId × Summ) := (101, floorGS) :: tb111
def tb113 : List (FuncId × Summ) := (104, carGS) :: tb112
def tb114 : List (FuncId × Summ) := (49, hallGS) :: tb113
def tb115 : List (FuncId × Summ) := (50, pressGS) :: tb114
def tb116 : List (FuncId × Summ) := (107, load1S) :: tb115
def tb117 : List (FuncId × Summ) := (108, curt1S) :: tb116
def tb118 : List (FuncId × Summ) := (109, fault1S) :: tb117
def tb119 : List (FuncId × Summ) := (106, setGS) :: tb118
def tb120 : List (FuncId × Summ) := (51, loadGS) :: tb119
def tb121 : List (FuncId × Summ) := (52, curtGS) :: tb120
def tb122 : List (FuncId × Summ) := (53, faultGS) :: tb121
def tb123 : List (FuncId × Summ) := (74, takeGS) :: tb122
def tb124 : List (FuncId × Summ) := (147, leasedGS) :: tb123
def tb125 : List (FuncId × Summ) := (75, aimGS) :: tb124
def tb126 : List (FuncId × Summ) := (76, giveGS) :: tb125
def tb127 : List (FuncId × Summ) := (67, assignGS) :: tb126
def tb128 : List (FuncId × Summ) := (23, tickGS) :: tb127
def tb129 : List (FuncId × Summ) := (42, carsGS) :: tb128
def tb130 : List (FuncId × Summ) := (73, waitsGS) :: tb129
def tb131 : List (FuncId × Summ) := (45, nowGS) :: tb130
end Go.Proofs.YtjgmkpidiaojkaaGreat
