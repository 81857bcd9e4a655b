/- What the functions of this group answer, and the tables of summaries. -/
import Derived.Test.YtjpfeckkajhhjaaFwLibA
set_option linter.unusedVariables false
namespace Go.Proofs.Ytjpfeckkajhhjaa
open Lw
def tabC (c : Config) (x : Cell) : List Cell := c.enc.map .pl ++ [x]
def tabOf (vs : List Cell) : Option (Config × Cell) := (Lw.Config.of (vs.take 18)).bind fun c => match vs.drop 18 with
  | [x] => some (c, x)
  | _ => none
def isRow1 : Cell → Bool
  | .row 1 => true
  | _ => false
def isRow2 : Cell → Bool
  | .row 2 => true
  | _ => false
def goodL (c : Config) (l : Lw.Lease) : Bool := mayA c l.ask && (decide (l.car ≥ 0) && (decide (l.car < 8) && (decide (l.phase ≥ 1) && decide (l.phase ≤ 4))))
def putP (l x : Lw.Lease) : Bool := (x.ask.session == l.ask.session) || (x.car == l.car)
def setP (l x : Lw.Lease) : Bool := ((x.ask.session == l.ask.session) && (x.car == l.car)) && (x.ask.fleet == l.ask.fleet)
def sesP (n : Int) (x : Lw.Lease) : Bool := x.ask.session == n
def carP (n : Int) (x : Lw.Lease) : Bool := x.car == n
def predL (k : Nat) (vs : List Cell) : Option (Lw.Lease → Bool) :=
  bif Nat.beq k 48 then (Lw.Lease.of vs).bind fun l => some (putP l) else bif Nat.beq k 50 then (Lw.Lease.of vs).bind fun l => some (setP l) else bif Nat.beq k 69 then (intC vs).bind fun n => some (sesP n) else bif Nat.beq k 55 then (intC vs).bind fun n => some (carP n) else none
def clo_pp : Summ := fun xs M => match xs, M with
  | [.one (.agg k), .one (.c (.ptr 0 0 0))], [.cells vs] => (Lw.Lease.of k).bind fun x => (Lw.Lease.of vs).bind fun l => ans (vb (putP l x))
  | _, _ => none
def clo_qq : Summ := fun xs M => match xs, M with
  | [.one (.agg k), .one (.c (.ptr 0 0 0))], [.cells vs] => (Lw.Lease.of k).bind fun x => (Lw.Lease.of vs).bind fun l => ans (vb (setP l x))
  | _, _ => none
def clo_ss : Summ := fun xs M => match xs, M with
  | [.one (.agg k), .one (.c (.ptr 0 0 0))], [.cells vs] => (Lw.Lease.of k).bind fun x => (intC vs).bind fun l => ans (vb (sesP l x))
  | _, _ => none
def clo_cc : Summ := fun xs M => match xs, M with
  | [.one (.agg k), .one (.c (.ptr 0 0 0))], [.cells vs] => (Lw.Lease.of k).bind fun x => (intC vs).bind fun l => ans (vb (carP l x))
  | _, _ => none
def idxLS : Summ := fun xs M => match xs, M with
  | [.one (.c (.row 0)), .fn k [] [.c (.ptr 1 0 0)]], [.row .lease l, .cells vs] => (predL k vs).bind fun p => ansP (l.length ≤ Go.maxLen) (vi (idxG p l 0))
  | _, _ => none
def cloneLS : Summ := fun xs M => match xs, M with
  | [.one (.c (.row 0))], [.row .lease ls] => some (.leaf ⟨some (ls.length ≤ bigRow), .one (.c (.row 1)), none, [.row .lease ls]⟩)
  | _, _ => none
def delLS : Summ := fun xs M => match xs, M with
  | [.one (.c (.row 0)), .one (.c (.pl (.int .i64 i))), .one (.c (.pl (.int .i64 j)))], [.row .lease ls] => some (.leaf ⟨some ((0 ≤ i ∧ i ≤ j) ∧ j ≤ ls.length ∧ ls.length ≤ bigRow), .one (.c (.row 1)), some [.dead], [.row .lease (cutL ls i j)]⟩)
  | _, _ => none
def zeroL : Lw.Lease := ⟨⟨0, 0, 0, 0, 0⟩, 0, 0, 0, 0, 0⟩
def putE (c : Config) (ls : List Lw.Lease) (l : Lw.Lease) : Int := if goodL c l = false then 1 else if idxG (putP l) ls 0 ≥ 0 then 7 else if countL ls l.ask.fleet < quotaI c then 0 else 5
def putLs (c : Config) (ls : List Lw.Lease) (l : Lw.Lease) : List Lw.Lease := if putE c ls l = 0 then ls ++ [l] else ls
def setE (c : Config) (ls : List Lw.Lease) (l : Lw.Lease) : Int := if goodL c l = false then 1 else if idxG (setP l) ls 0 < 0 then 6 else 0
def setLs (c : Config) (ls : List Lw.Lease) (l : Lw.Lease) : List Lw.Lease := if setE c ls l = 0 then ls.set (idxG (setP l) ls 0).toNat l else ls
def getB (p : Lw.Lease → Bool) (ls : List Lw.Lease) : Bool := !decide (idxG p ls 0 < 0)
def getL (p : Lw.Lease → Bool) (ls : List Lw.Lease) : Lw.Lease := if idxG p ls 0 < 0 then zeroL else ls.getD (idxG p ls 0).toNat zeroL
def endLs (ls : List Lw.Lease) (n : Int) : List Lw.Lease := if idxG (sesP n) ls 0 < 0 then ls else cutL ls (idxG (sesP n) ls 0) (idxG (sesP n) ls 0 + 1)
def tabS1 (vs : List Cell) (k : Config → Option (BT SR)) : Option (BT SR) := (tabOf vs).bind fun q => bif isRow1 q.2 then k q.1 else none
def tabS2 (vs : List Cell) (k : Config → Option (BT SR)) : Option (BT SR) := (tabOf vs).bind fun q => bif isRow2 q.2 then k q.1 else none
def goodTS : Summ := fun xs M => match xs, M with
  | [.one (.c .nilp), .one (.agg k)], [] => (Lw.Lease.of k).bind fun _ => ans (vb false)
  | [.one (.c (.ptr 0 0 0)), .one (.agg k)], [.cells vs, .row .lease ls] => tabS1 vs fun c => (Lw.Lease.of k).bind fun l => ans (vb (goodL c l))
  | _, _ => none
def findTS : Summ := fun xs M => match xs, M with
  | [.one (.c .nilp), .fn k [] [.c (.ptr 0 0 0)]], [.cells cap] => (predL k cap).bind fun _ => ans (vi (-1))
  | [.one (.c (.ptr 0 0 0)), .fn k [] [.c (.ptr 1 0 0)]], [.cells vs, .cells cap, .row .lease ls] => tabS2 vs fun c => (predL k cap).bind fun p => ansP (ls.length ≤ Go.maxLen) (vi (idxG p ls 0))
  | _, _ => none
def newTS : Summ := fun xs M => match xs, M with
  | [.one (.agg k)], [] => (Lw.Config.of k).bind fun c => some (.leaf ⟨none, .one (.c (.ptr 0 0 0)), none, [.cells (tabC c (.row 1)), .row .lease []]⟩)
  | _, _ => none
def putTS : Summ := fun xs M => match xs, M with
  | [.one (.c .nilp), .one (.agg k)], [] => (Lw.Lease.of k).bind fun _ => ans (vi 1)
  | [.one (.c (.ptr 0 0 0)), .one (.agg k)], [.cells vs, .row .lease ls] => tabS1 vs fun c => (Lw.Lease.of k).bind fun l => some (.leaf ⟨some (ls.length + 1 ≤ bigRow), vi (putE c ls l), some [.cells (tabC c (.row 2)), .dead], [.row .lease (putLs c ls l)]⟩)
  | _, _ => none
def setTS : Summ := fun xs M => match xs, M with
  | [.one (.c .nilp), .one (.agg k)], [] => (Lw.Lease.of k).bind fun _ => ans (vi 1)
  | [.one (.c (.ptr 0 0 0)), .one (.agg k)], [.cells vs, .row .lease ls] => tabS1 vs fun c => (Lw.Lease.of k).bind fun l => some (.leaf ⟨some (ls.length ≤ Go.maxLen), vi (setE c ls l), some [.cells (tabC c (.row 1)), .row .lease (setLs c ls l)], []⟩)
  | _, _ => none
def atTS : Summ := fun xs M => match xs, M with
  | [.one (.c .nilp), .one (.c (.pl (.int .i64 n)))], [] => ansP (n < 0) (.tup [cs zeroL.enc, cb false])
  | [.one (.c (.ptr 0 0 0)), .one (.c (.pl (.int .i64 n)))], [.cells vs, .row .lease ls] => tabS1 vs fun c => some (.leaf ⟨some (n < ls.length), .tup [cs (if n < 0 then zeroL else ls.getD n.toNat zeroL).enc, cb (!decide (n < 0))], none, []⟩)
  | _, _ => none
def sesTS : Summ := fun xs M => match xs, M with
  | [.one (.c .nilp), .one (.c (.pl (.int .i64 n)))], [] => ans (vi (-1))
  | [.one (.c (.ptr 0 0 0)), .one (.c (.pl (.int .i64 n)))], [.cells vs, .row .lease ls] => tabS1 vs fun c => ansP (ls.length ≤ Go.maxLen) (vi (idxG (sesP n) ls 0))
  | _, _ => none
def getTS (p : Int → Lw.Lease → Bool) : Summ := fun xs M => match xs, M with
  | [.one (.c .nilp), .one (.c (.pl (.int .i64 n)))], [] => ans (.tup [cs zeroL.enc, cb false])
  | [.one (.c (.ptr 0 0 0)), .one (.c (.pl (.int .i64 n)))], [.cells vs, .row .lease ls] => tabS1 vs fun c => ansP (ls.length ≤ Go.maxLen) (.tup [cs (getL (p n) ls).enc, cb (getB (p n) ls)])
  | _, _ => none
def endTS : Summ := fun xs M => match xs, M with
  | [.one (.c .nilp), .one (.c (.pl (.int .i64 n)))], [] => ans (.tup [cs zeroL.enc, cb false])
  | [.one (.c (.ptr 0 0 0)), .one (.c (.pl (.int .i64 n)))], [.cells vs, .row .lease ls] => tabS1 vs fun c => some (.leaf ⟨some (ls.length ≤ bigRow), .tup [cs (getL (sesP n) ls).enc, cb (getB (sesP n) ls)], some [.cells (tabC c (.row 2)), .dead], [.row .lease (endLs ls n)]⟩)
  | _, _ => none
def listTS : Summ := fun xs M => match xs, M with
  | [.one (.c .nilp)], [] => ans (.one (.c .es))
  | [.one (.c (.ptr 0 0 0))], [.cells vs, .row .lease ls] => tabS1 vs fun c => some (.leaf ⟨some (ls.length ≤ bigRow), .one (.c (.row 2)), none, [.row .lease ls]⟩)
  | _, _ => none
def tb14 : List (FuncId × Summ) := (48, clo_pp) :: tb13
def tb15 : List (FuncId × Summ) := (50, clo_qq) :: tb14
def tb16 : List (FuncId × Summ) := (69, clo_ss) :: tb15
def tb17 : List (FuncId × Summ) := (55, clo_cc) :: tb16
def tb18 : List (FuncId × Summ) := (66, idxLS) :: tb17
def tb19 : List (FuncId × Summ) := (54, cloneLS) :: tb18
def tb20 : List (FuncId × Summ) := (53, delLS) :: tb19
def tb21 : List (FuncId × Summ) := (46, goodTS) :: tb20
def tb22 : List (FuncId × Summ) := (47, findTS) :: tb21
def tb23 : List (FuncId × Summ) := (25, newTS) :: tb22
def tb24 : List (FuncId × Summ) := (29, putTS) :: tb23
def tb25 : List (FuncId × Summ) := (30, setTS) :: tb24
def tb26 : List (FuncId × Summ) := (52, atTS) :: tb25
def tb27 : List (FuncId × Summ) := (51, sesTS) :: tb26
def tb28 : List (FuncId × Summ) := (34, getTS sesP) :: tb27
def tb29 : List (FuncId × Summ) := (35, getTS carP) :: tb28
def tb30 : List (FuncId × Summ) := (31, endTS) :: tb29
def tb31 : List (FuncId × Summ) := (33, listTS) :: tb30
end Go.Proofs.Ytjpfeckkajhhjaa
