/- What the functions of this group answer, and the tables of summaries. -/
import Derived.Test.YtijcloeapcapiaaFwFleetA
set_option linter.unusedVariables false
namespace Go.Proofs.Ytijcloeapcapiaa
open Lw
def tabOf (vs : List Cell) : Option (Config × Cell) := (Lw.Config.of (vs.take 18)).bind fun c => match vs.drop 18 with
  | [x] => some (c, x)
  | _ => none
def conf19 : Config := ⟨0, 5, 2, 4, 2, 0, 0, 0, 0, 0, 1, 300, 0, 0, 0, 0, 0, 0⟩
def one19 : Lw.Lease := ⟨⟨0, 0, 0, 1, 5⟩, 0, 1, 0, 0, 0⟩
def tabC (c : Config) (x : Cell) : List Cell := c.enc.map .pl ++ [x]
def goodL (c : Config) (l : Lw.Lease) : Bool := mayA c l.ask && (decide (l.car ≥ 0) && (decide (l.car < 8) && (decide (l.phase ≥ 1) && decide (l.phase ≤ 4))))
def idxN (p : Lw.Lease → Bool) : List Lw.Lease → Int → Int
  | [], _ => -1
  | x :: r, i => bif p x then i else idxN p r (i + 1)
def putP (l x : Lw.Lease) : Bool := (x.ask.session == l.ask.session) || (x.car == l.car)
def sesP (n : Int) (x : Lw.Lease) : Bool := x.ask.session == n
def carP (n : Int) (x : Lw.Lease) : Bool := x.car == n
def put1S : Summ := fun xs M => match xs, M with
  | [.one (.agg k), .one (.c (.ptr 0 0 0))], [.cells vs] => (Lw.Lease.of k).bind fun x => (Lw.Lease.of vs).bind fun l => ans (vb (putP l x))
  | _, _ => none
def ses1S : Summ := fun xs M => match xs, M with
  | [.one (.agg k), .one (.c (.ptr 0 0 0))], [.cells [.pl (.int .i64 n)]] => (Lw.Lease.of k).bind fun x => ans (vb (sesP n x))
  | _, _ => none
def car1S : Summ := fun xs M => match xs, M with
  | [.one (.agg k), .one (.c (.ptr 0 0 0))], [.cells [.pl (.int .i64 n)]] => (Lw.Lease.of k).bind fun x => ans (vb (carP n x))
  | _, _ => none
def predOf (k : Nat) (vs : List Cell) : Option (Lw.Lease → Bool) :=
  bif Nat.beq k 92 then (Lw.Lease.of vs).bind fun l => some (putP l)
  else match vs with
    | [.pl (.int .i64 n)] => bif Nat.beq k 104 then some (sesP n) else bif Nat.beq k 96 then some (carP n) else none
    | _ => none
def goodTS : Summ := fun xs M => match xs, M with
  | [.one (.c (.ptr 0 0 0)), .one (.agg k)], [.cells vs] => (tabOf vs).bind fun q => (Lw.Lease.of k).bind fun l => match q.2 with
    | .es => ans (vb (goodL q.1 l))
    | _ => none
  | [.one (.c (.ptr 0 0 0)), .one (.agg k)], [.cells vs, .row .lease ls] => (tabOf vs).bind fun q => (Lw.Lease.of k).bind fun l => match q.2 with
    | .row 1 => ans (vb (goodL q.1 l))
    | _ => none
  | _, _ => none
def findS : Summ := fun xs M => match xs, M with
  | [.one (.c (.ptr 0 0 0)), .fn k [] [.c (.ptr 1 0 0)]], [.cells vs, .cells cap] => (tabOf vs).bind fun q => (predOf k cap).bind fun _ => match q.2 with
    | .es => ans (vi (-1))
    | _ => none
  | [.one (.c (.ptr 0 0 0)), .fn k [] [.c (.ptr 1 0 0)]], [.cells vs, .cells cap, .row .lease ls] => (tabOf vs).bind fun q => (predOf k cap).bind fun p => match q.2 with
    | .row 2 => ansP (ls.length ≤ Go.maxLen) (vi (idxN p ls 0))
    | _ => none
  | _, _ => none
def newTS : Summ := fun xs M => match xs, M with
  | [.one (.agg k)], [] => (Lw.Config.of k).bind fun c => some (.leaf ⟨none, .one (.c (.ptr 0 0 0)), none, [.cells (tabC c .es)]⟩)
  | _, _ => none
def putTS : Summ := fun xs M => match xs, M with
  | [.one (.c (.ptr 0 0 0)), .one (.agg k)], [.cells vs] => (tabOf vs).bind fun q => (Lw.Lease.of k).bind fun l => match q.2 with
    | .es => some (.br (goodL q.1 l) (.leaf ⟨none, vi 0, some [.cells (tabC q.1 (.row 1))], [.row .lease [l]]⟩) (.leaf ⟨none, vi 1, none, []⟩))
    | _ => none
  | [.one (.c (.ptr 0 0 0)), .one (.agg k)], [.cells vs, .row .lease ls] => (tabOf vs).bind fun q => (Lw.Lease.of k).bind fun l => match q.2 with
    | .row 1 => bif goodL q.1 l && decide (idxN (putP l) ls 0 ≥ 0) then ansP (ls.length ≤ Go.maxLen) (vi 7) else none
    | _ => none
  | _, _ => none
def atTS : Summ := fun xs M => match xs, M with
  | [.one (.c (.ptr 0 0 0)), .one (.c (.pl (.int .i64 n)))], [.cells vs, .row .lease ls] => (tabOf vs).bind fun q => match q.2 with
    | .row 1 => some (.br (decide (n < 0)) (.leaf ⟨none, .tup [cs (RTy.zero .lease : Lw.Lease).enc, cb false], none, []⟩) (.leaf ⟨some (n < ls.length), .tup [cs (ls.getD n.toNat (RTy.zero .lease) : Lw.Lease).enc, cb true], none, []⟩))
    | _ => none
  | _, _ => none
def sesTS : Summ := fun xs M => match xs, M with
  | [.one (.c (.ptr 0 0 0)), .one (.c (.pl (.int .i64 n)))], [.cells vs, .row .lease ls] => (tabOf vs).bind fun q => match q.2 with
    | .row 1 => ansP (ls.length ≤ Go.maxLen) (vi (idxN (sesP n) ls 0))
    | _ => none
  | _, _ => none
def getTS (p : Int → Lw.Lease → Bool) : Summ := fun xs M => match xs, M with
  | [.one (.c (.ptr 0 0 0)), .one (.c (.pl (.int .i64 n)))], [.cells vs, .row .lease ls] => (tabOf vs).bind fun q => match q.2 with
    | .row 1 => some (.br (decide (idxN (p n) ls 0 < 0)) (.leaf ⟨some (ls.length ≤ Go.maxLen), .tup [cs (RTy.zero .lease : Lw.Lease).enc, cb false], none, []⟩) (.leaf ⟨some (ls.length ≤ Go.maxLen), .tup [cs (ls.getD (idxN (p n) ls 0).toNat (RTy.zero .lease) : Lw.Lease).enc, cb true], none, []⟩))
    | _ => none
  | _, _ => none
def cloneS : Summ := fun xs M => match xs, M with
  | [.one (.c (.row 0))], [.row .lease ls] => some (.leaf ⟨some (ls.length ≤ bigRow), .one (.c (.row 1)), none, [.row .lease ls]⟩)
  | _, _ => none
def listTS : Summ := fun xs M => match xs, M with
  | [.one (.c (.ptr 0 0 0))], [.cells vs, .row .lease ls] => (tabOf vs).bind fun q => match q.2 with
    | .row 1 => some (.leaf ⟨some (ls.length ≤ bigRow), .one (.c (.row 2)), none, [.row .lease ls]⟩)
    | _ => none
  | _, _ => none
def idxS : Summ := fun xs M => match xs, M with
  | [.one (.c .es), .fn k [] [.c (.ptr 0 0 0)]], [.cells vs] => (predOf k vs).bind fun _ => ans (vi (-1))
  | [.one (.c (.row 0)), .fn k [] [.c (.ptr 1 0 0)]], [.row .lease l, .cells vs] => (predOf k vs).bind fun p => ansP (l.length ≤ Go.maxLen) (vi (idxN p l 0))
  | _, _ => none
def tb35 : List (FuncId × Summ) := (92, put1S) :: tb34
def tb36 : List (FuncId × Summ) := (104, ses1S) :: tb35
def tb37 : List (FuncId × Summ) := (96, car1S) :: tb36
def tb38 : List (FuncId × Summ) := (101, idxS) :: tb37
def tb39 : List (FuncId × Summ) := (90, goodTS) :: tb38
def tb40 : List (FuncId × Summ) := (91, findS) :: tb39
def tb41 : List (FuncId × Summ) := (68, newTS) :: tb40
def tb42 : List (FuncId × Summ) := (70, putTS) :: tb41
def tb43 : List (FuncId × Summ) := (94, atTS) :: tb42
def tb44 : List (FuncId × Summ) := (95, sesTS) :: tb43
def tb45 : List (FuncId × Summ) := (72, getTS sesP) :: tb44
def tb46 : List (FuncId × Summ) := (73, getTS carP) :: tb45
def tb47 : List (FuncId × Summ) := (97, cloneS) :: tb46
def tb48 : List (FuncId × Summ) := (74, listTS) :: tb47
def s69 : Summ := fun xs M => match xs, M with
  | [], [] => ans (vs conf19.enc)
  | _, _ => none
def tb49 : List (FuncId × Summ) := (69, s69) :: tb48
def s71 : Summ := fun xs M => match xs, M with
  | [], [] => ans (vs one19.enc)
  | _, _ => none
def tb50 : List (FuncId × Summ) := (71, s71) :: tb49
def s35 : Summ := fun xs M => match xs, M with
  | [], [] => ans (vb true)
  | _, _ => none
def tb51 : List (FuncId × Summ) := (35, s35) :: tb50
def s11 : Summ := fun xs M => match xs, M with
  | [.one (.agg csc), .one (.c (.pl (.int .i64 n)))], [] => (Lw.Config.of csc).bind fun c => ans (vb true)
  | _, _ => none
def tb52 : List (FuncId × Summ) := (11, s11) :: tb51
end Go.Proofs.Ytijcloeapcapiaa
