/- What the functions of this group answer, and the tables of summaries. -/
import Derived.Test.YtjpfeckkajhhjaaFwTabA
set_option linter.unusedVariables false
namespace Go.Proofs.Ytjpfeckkajhhjaa
open Lw
def askP (n : Int) (x : Lw.Ask) : Bool := x.session == n
def eqP (n x : Int) : Bool := n == x
def predA (k : Nat) (vs : List Cell) : Option (Lw.Ask → Bool) :=
  bif Nat.beq k 61 then (intC vs).bind fun n => some (askP n) else none
def clo_aa : Summ := fun xs M => match xs, M with
  | [.one (.agg k), .one (.c (.ptr 0 0 0))], [.cells vs] => (Lw.Ask.of k).bind fun x => (intC vs).bind fun l => ans (vb (askP l x))
  | _, _ => none
def idxAS : Summ := fun xs M => match xs, M with
  | [.one (.c (.row 0)), .fn k [] [.c (.ptr 1 0 0)]], [.row .ask l, .cells vs] => (predA k vs).bind fun p => ansP (l.length ≤ Go.maxLen) (vi (idxG p l 0))
  | _, _ => none
def cloneAS : Summ := fun xs M => match xs, M with
  | [.one (.c (.row 0))], [.row .ask ls] => some (.leaf ⟨some (ls.length ≤ bigRow), .one (.c (.row 1)), none, [.row .ask ls]⟩)
  | _, _ => none
def delAS : Summ := fun xs M => match xs, M with
  | [.one (.c (.row 0)), .one (.c (.pl (.int .i64 i))), .one (.c (.pl (.int .i64 j)))], [.row .ask ls] => some (.leaf ⟨some ((0 ≤ i ∧ i ≤ j) ∧ j ≤ ls.length ∧ ls.length ≤ bigRow), .one (.c (.row 1)), some [.dead], [.row .ask (cutL ls i j)]⟩)
  | _, _ => none
def zeroA : Lw.Ask := ⟨0, 0, 0, 0, 0⟩
def queOf : List Cell → Option (Int × Nat)
  | [.row b, .pl (.int .i64 r)] => some (r, b)
  | _ => none
def queC (r : Int) (b : Nat) : List Cell := [.row b, .pl (.int .i64 r)]
def queS (b : Nat) (vs : List Cell) (k : Int → Option (BT SR)) : Option (BT SR) := (queOf vs).bind fun q => bif Nat.beq q.2 b then k q.1 else none
def roomI (n : Int) : Int := mm false (mm true n 0) 64
def qputE (r : Int) (ls : List Lw.Ask) (a : Lw.Ask) : Int := if idxG (askP a.session) ls 0 ≥ 0 then 7 else if (ls.length : Int) ≥ r then 5 else 0
def qputL (r : Int) (ls : List Lw.Ask) (a : Lw.Ask) : List Lw.Ask := if qputE r ls a = 0 then ls ++ [a] else ls
def qdropL (ls : List Lw.Ask) (n : Int) : List Lw.Ask := if idxG (askP n) ls 0 ≥ 0 then cutL ls (idxG (askP n) ls 0) (idxG (askP n) ls 0 + 1) else ls
def inL (fl : List Int) (n : Int) : Bool := decide (idxG (eqP n) fl 0 ≥ 0)
def firstA (fl : List Int) : List Lw.Ask → Lw.Ask × Bool
  | [] => (zeroA, false)
  | a :: r => bif inL fl a.fleet then firstA fl r else (a, true)
def qnewS : Summ := fun xs M => match xs, M with
  | [.one (.c (.pl (.int .i64 r)))], [] => some (.leaf ⟨none, .one (.c (.ptr 0 0 0)), none, [.cells (queC (roomI r) 1), .row .ask []]⟩)
  | _, _ => none
def qfindS : Summ := fun xs M => match xs, M with
  | [.one (.c .nilp), .one (.c (.pl (.int .i64 n)))], [] => ans (vi (-1))
  | [.one (.c (.ptr 0 0 0)), .one (.c (.pl (.int .i64 n)))], [.cells vs, .row .ask ls] => queS 1 vs fun r => ansP (ls.length ≤ Go.maxLen) (vi (idxG (askP n) ls 0))
  | _, _ => none
def qputS : Summ := fun xs M => match xs, M with
  | [.one (.c .nilp), .one (.agg k)], [] => (Lw.Ask.of k).bind fun _ => ans (vi 1)
  | [.one (.c (.ptr 0 0 0)), .one (.agg k)], [.cells vs, .row .ask ls] => queS 1 vs fun r => (Lw.Ask.of k).bind fun a => some (.leaf ⟨some (ls.length + 1 ≤ bigRow), vi (qputE r ls a), some [.cells (queC r 2), .dead], [.row .ask (qputL r ls a)]⟩)
  | _, _ => none
def qdropS : Summ := fun xs M => match xs, M with
  | [.one (.c .nilp), .one (.c (.pl (.int .i64 n)))], [] => ans (vb false)
  | [.one (.c (.ptr 0 0 0)), .one (.c (.pl (.int .i64 n)))], [.cells vs, .row .ask ls] => queS 1 vs fun r => some (.leaf ⟨some (ls.length ≤ bigRow), vb (decide (idxG (askP n) ls 0 ≥ 0)), some [.cells (queC r 2), .dead], [.row .ask (qdropL ls n)]⟩)
  | _, _ => none
def qaheadS : Summ := fun xs M => match xs, M with
  | [.one (.c .nilp), .one (.c (.pl (.int .i64 n)))], [] => ans (.tup [ci 0, cb false])
  | [.one (.c (.ptr 0 0 0)), .one (.c (.pl (.int .i64 n)))], [.cells vs, .row .ask ls] => queS 1 vs fun r => ansP (ls.length ≤ Go.maxLen) (.tup [ci (mm true (idxG (askP n) ls 0) 0), cb (decide (idxG (askP n) ls 0 ≥ 0))])
  | _, _ => none
def qlistS : Summ := fun xs M => match xs, M with
  | [.one (.c .nilp)], [] => ans (.one (.c .es))
  | [.one (.c (.ptr 0 0 0))], [.cells vs, .row .ask ls] => queS 1 vs fun r => some (.leaf ⟨some (ls.length ≤ bigRow), .one (.c (.row 2)), none, [.row .ask ls]⟩)
  | _, _ => none
def indexIS : Summ := fun xs M => match xs, M with
  | [.one (.c (.row 0)), .one (.c (.pl (.int .i64 n)))], [.row .int l] => ansP (l.length ≤ Go.maxLen) (vi (idxG (eqP n) l 0))
  | _, _ => none
def contIS : Summ := fun xs M => match xs, M with
  | [.one (.c (.row 0)), .one (.c (.pl (.int .i64 n)))], [.row .int l] => ansP (l.length ≤ Go.maxLen) (vb (inL l n))
  | _, _ => none
def qfirstS : Summ := fun xs M => match xs, M with
  | [.one (.c .nilp), .one (.c .es)], [] => ans (.tup [cs zeroA.enc, cb false])
  | [.one (.c (.ptr 0 0 0)), .one (.c (.row 1))], [.cells vs, .row .int fl, .row .ask ls] => queS 2 vs fun r => ansP (ls.length ≤ bigRow ∧ fl.length ≤ Go.maxLen) (.tup [cs (firstA fl ls).1.enc, cb (firstA fl ls).2])
  | _, _ => none
def tb32 : List (FuncId × Summ) := (61, clo_aa) :: tb31
def tb33 : List (FuncId × Summ) := (60, idxAS) :: tb32
def tb34 : List (FuncId × Summ) := (44, cloneAS) :: tb33
def tb35 : List (FuncId × Summ) := (42, delAS) :: tb34
def tb36 : List (FuncId × Summ) := (16, qnewS) :: tb35
def tb37 : List (FuncId × Summ) := (41, qfindS) :: tb36
def tb38 : List (FuncId × Summ) := (18, qputS) :: tb37
def tb39 : List (FuncId × Summ) := (19, qdropS) :: tb38
def tb40 : List (FuncId × Summ) := (22, qaheadS) :: tb39
def tb41 : List (FuncId × Summ) := (24, qlistS) :: tb40
def tb42 : List (FuncId × Summ) := (62, indexIS) :: tb41
def tb43 : List (FuncId × Summ) := (43, contIS) :: tb42
def tb44 : List (FuncId × Summ) := (21, qfirstS) :: tb43
end Go.Proofs.Ytjpfeckkajhhjaa
