/- What the functions of this group answer, and the tables of summaries. -/
import Derived.Test.YtokbghombklefaaFwFleetA
set_option linter.unusedVariables false
namespace Go.Proofs.Ytokbghombklefaa
open Lw
def tabOf (vs : List Cell) : Option (Config × Cell) := (Lw.Config.of (vs.take 18)).bind fun c => match vs.drop 18 with
  | [x] => some (c, x)
  | _ => none
def conf19 : Config := ⟨0, 5, 2, 4, 2, 0, 0, 0, 0, 0, 1, 300, 0, 0, 0, 0, 0, 0⟩
def one19 : Lw.Lease := ⟨⟨0, 0, 0, 1, 5⟩, 0, 1, 0, 0, 0⟩
def tabC (c : Config) (x : Cell) : List Cell := c.enc.map .pl ++ [x]
def goodL (c : Config) (l : Lw.Lease) : Bool := mayA c l.ask && (decide (l.car ≥ 0) && (decide (l.car < 8) && (decide (l.phase ≥ 1) && decide (l.phase ≤ 4))))
def idxN (p : Lw.Lease → Bool) : List Lw.Lease → Int → Int
  | [], _ => -1
  | x :: r, i => bif p x then i else idxN p r (i + 1)
def putP (l x : Lw.Lease) : Bool := (x.ask.session == l.ask.session) || (x.car == l.car)
def sesP (n : Int) (x : Lw.Lease) : Bool := x.ask.session == n
def carP (n : Int) (x : Lw.Lease) : Bool := x.car == n
def put1S : Summ := fun xs M => match xs, M with
  | [.one (.agg k), .one (.c (.ptr 0 0 0))], [.cells vs] => (Lw.Lease.of k).bind fun x => (Lw.Lease.of vs).bind fun l => ans (vb (putP l x))
  | _, _ => none
def ses1S : Summ := fun xs M => match xs, M with
  | [.one (.agg k), .one (.c (.ptr 0 0 0))], [.cells [.pl (.int .i64 n)]] => (Lw.Lease.of k).bind fun x => ans (vb (sesP n x))
  | _, _ => none
def car1S : Summ := fun xs M => match xs, M with
  | [.one (.agg k), .one (.c (.ptr 0 0 0))], [.cells [.pl (.int .i64 n)]] => (Lw.Lease.of k).bind fun x => ans (vb (carP n x))
  | _, _ => none
def predOf (k : Nat) (vs : List Cell) : Option (Lw.Lease → Bool) :=
  bif Nat.beq k 20 then (Lw.Lease.of vs).bind fun l => some (putP l)
  else match vs with
    | [.pl (.int .i64 n)] => bif Nat.beq k 26 then some (sesP n) else bif Nat.beq k 18 then some (carP n) else none
    | _ => none
def goodTS : Summ := fun xs M => match xs, M with
  | [.one (.c .nilp), .one (.agg k)], [] => (Lw.Lease.of k).bind fun _ => ans (vb false)
  | [.one (.c (.ptr 0 0 0)), .one (.agg k)], [.cells vs] => (tabOf vs).bind fun q => (Lw.Lease.of k).bind fun l => match q.2 with
    | .es => ans (vb (goodL q.1 l))
    | _ => none
  | [.one (.c (.ptr 0 0 0)), .one (.agg k)], [.cells vs, .row .lease ls] => (tabOf vs).bind fun q => (Lw.Lease.of k).bind fun l => match q.2 with
    | .row 1 => ans (vb (goodL q.1 l))
    | _ => none
  | _, _ => none
def findS : Summ := fun xs M => match xs, M with
  | [.one (.c .nilp), .fn k [] [.c (.ptr 0 0 0)]], [.cells cap] => (predOf k cap).bind fun _ => ans (vi (-1))
  | [.one (.c (.ptr 0 0 0)), .fn k [] [.c (.ptr 1 0 0)]], [.cells vs, .cells cap] => (tabOf vs).bind fun q => (predOf k cap).bind fun _ => match q.2 with
    | .es => ans (vi (-1))
    | _ => none
  | [.one (.c (.ptr 0 0 0)), .fn k [] [.c (.ptr 1 0 0)]], [.cells vs, .cells cap, .row .lease ls] => (tabOf vs).bind fun q => (predOf k cap).bind fun p => match q.2 with
    | .row 2 => ansP (ls.length ≤ Go.maxLen) (vi (idxN p ls 0))
    | _ => none
  | _, _ => none
def newTS : Summ := fun xs M => match xs, M with
  | [.one (.agg k)], [] => (Lw.Config.of k).bind fun c => some (.leaf ⟨none, .one (.c (.ptr 0 0 0)), none, [.cells (tabC c .es)]⟩)
  | _, _ => none
def putTS : Summ := fun xs M => match xs, M with
  | [.one (.c .nilp), .one (.agg k)], [] => (Lw.Lease.of k).bind fun _ => ans (vi 1)
  | [.one (.c (.ptr 0 0 0)), .one (.agg k)], [.cells vs] => (tabOf vs).bind fun q => (Lw.Lease.of k).bind fun l => match q.2 with
    | .es => some (.br (goodL q.1 l) (.leaf ⟨none, vi 0, some [.cells (tabC q.1 (.row 1))], [.row .lease [l]]⟩) (.leaf ⟨none, vi 1, none, []⟩))
    | _ => none
  | [.one (.c (.ptr 0 0 0)), .one (.agg k)], [.cells vs, .row .lease ls] => (tabOf vs).bind fun q => (Lw.Lease.of k).bind fun l => match q.2 with
    | .row 1 => bif goodL q.1 l && decide (idxN (putP l) ls 0 ≥ 0) then ansP (ls.length ≤ Go.maxLen) (vi 7) else none
    | _ => none
  | _, _ => none
def atTS : Summ := fun xs M => match xs, M with
  | [.one (.c .nilp), .one (.c (.pl (.int .i64 n)))], [] => ansP (n < 0) (.tup [cs (RTy.zero .lease : Lw.Lease).enc, cb false])
  | [.one (.c (.ptr 0 0 0)), .one (.c (.pl (.int .i64 n)))], [.cells vs, .row .lease ls] => (tabOf vs).bind fun q => match q.2 with
    | .row 1 => some (.br (decide (n < 0)) (.leaf ⟨none, .tup [cs (RTy.zero .lease : Lw.Lease).enc, cb false], none, []⟩) (.leaf ⟨some (n < ls.length), .tup [cs (ls.getD n.toNat (RTy.zero .lease) : Lw.Lease).enc, cb true], none, []⟩))
    | _ => none
  | _, _ => none
def sesTS : Summ := fun xs M => match xs, M with
  | [.one (.c .nilp), .one (.c (.pl (.int .i64 n)))], [] => ans (vi (-1))
  | [.one (.c (.ptr 0 0 0)), .one (.c (.pl (.int .i64 n)))], [.cells vs, .row .lease ls] => (tabOf vs).bind fun q => match q.2 with
    | .row 1 => ansP (ls.length ≤ Go.maxLen) (vi (idxN (sesP n) ls 0))
    | _ => none
  | _, _ => none
def getTS (p : Int → Lw.Lease → Bool) : Summ := fun xs M => match xs, M with
  | [.one (.c .nilp), .one (.c (.pl (.int .i64 n)))], [] => ans (.tup [cs (RTy.zero .lease : Lw.Lease).enc, cb false])
  | [.one (.c (.ptr 0 0 0)), .one (.c (.pl (.int .i64 n)))], [.cells vs, .row .lease ls] => (tabOf vs).bind fun q => match q.2 with
    | .row 1 => some (.br (decide (idxN (p n) ls 0 < 0)) (.leaf ⟨some (ls.length ≤ Go.maxLen), .tup [cs (RTy.zero .lease : Lw.Lease).enc, cb false], none, []⟩) (.leaf ⟨some (ls.length ≤ Go.maxLen), .tup [cs (ls.getD (idxN (p n) ls 0).toNat (RTy.zero .lease) : Lw.Lease).enc, cb true], none, []⟩))
    | _ => none
  | _, _ => none
def setTS : Summ := fun xs M => match xs, M with
  | [.one (.c .nilp), .one (.agg k)], [] => (Lw.Lease.of k).bind fun _ => ans (vi 1)
  | _, _ => none
def endTS : Summ := fun xs M => match xs, M with
  | [.one (.c .nilp), .one (.c (.pl (.int .i64 n)))], [] => ans (.tup [cs (RTy.zero .lease : Lw.Lease).enc, cb false])
  | _, _ => none
def cloneS : Summ := fun xs M => match xs, M with
  | [.one (.c (.row 0))], [.row .lease ls] => some (.leaf ⟨some (ls.length ≤ bigRow), .one (.c (.row 1)), none, [.row .lease ls]⟩)
  | _, _ => none
def listTS : Summ := fun xs M => match xs, M with
  | [.one (.c .nilp)], [] => ans (.one (.c .es))
  | [.one (.c (.ptr 0 0 0))], [.cells vs, .row .lease ls] => (tabOf vs).bind fun q => match q.2 with
    | .row 1 => some (.leaf ⟨some (ls.length ≤ bigRow), .one (.c (.row 2)), none, [.row .lease ls]⟩)
    | _ => none
  | _, _ => none
def idxS : Summ := fun xs M => match xs, M with
  | [.one (.c .es), .fn k [] [.c (.ptr 0 0 0)]], [.cells vs] => (predOf k vs).bind fun _ => ans (vi (-1))
  | [.one (.c (.row 0)), .fn k [] [.c (.ptr 1 0 0)]], [.row .lease l, .cells vs] => (predOf k vs).bind fun p => ansP (l.length ≤ Go.maxLen) (vi (idxN p l 0))
  | _, _ => none
def tb11 : List (FuncId × Summ) := (20, put1S) :: tb10
def tb12 : List (FuncId × Summ) := (26, ses1S) :: tb11
def tb13 : List (FuncId × Summ) := (18, car1S) :: tb12
def tb14 : List (FuncId × Summ) := (27, idxS) :: tb13
def tb15 : List (FuncId × Summ) := (19, goodTS) :: tb14
def tb16 : List (FuncId × Summ) := (17, findS) :: tb15
def tb17 : List (FuncId × Summ) := (7, newTS) :: tb16
def tb18 : List (FuncId × Summ) := (9, putTS) :: tb17
def tb19 : List (FuncId × Summ) := (15, atTS) :: tb18
def tb20 : List (FuncId × Summ) := (14, sesTS) :: tb19
def tb21 : List (FuncId × Summ) := (5, getTS sesP) :: tb20
def tb22 : List (FuncId × Summ) := (6, getTS carP) :: tb21
def tb23 : List (FuncId × Summ) := (22, cloneS) :: tb22
def tb24 : List (FuncId × Summ) := (11, listTS) :: tb23
def tb25 : List (FuncId × Summ) := (13, setTS) :: tb24
def tb26 : List (FuncId × Summ) := (4, endTS) :: tb25
def s8 : Summ := fun xs M => match xs, M with
  | [], [] => ans (vs conf19.enc)
  | _, _ => none
def tb27 : List (FuncId × Summ) := (8, s8) :: tb26
def s10 : Summ := fun xs M => match xs, M with
  | [], [] => ans (vs one19.enc)
  | _, _ => none
def tb28 : List (FuncId × Summ) := (10, s10) :: tb27
def s12 : Summ := fun xs M => match xs, M with
  | [], [] => ans (vb true)
  | _, _ => none
def tb29 : List (FuncId × Summ) := (12, s12) :: tb28
def s3 : Summ := fun xs M => match xs, M with
  | [.one (.agg csl)], [] => (Lw.Lease.of csl).bind fun l => ans (vb true)
  | _, _ => none
def tb30 : List (FuncId × Summ) := (3, s3) :: tb29
end Go.Proofs.Ytokbghombklefaa
