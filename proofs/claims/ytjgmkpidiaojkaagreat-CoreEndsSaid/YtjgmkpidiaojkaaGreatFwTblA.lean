/- What the functions of this group answer, and the tables of summaries. -/
import Derived.Test.YtjgmkpidiaojkaaGreatFwLowA
set_option linter.unusedVariables false
namespace Go.Proofs.YtjgmkpidiaojkaaGreat
open Lw
def intC : List Cell → Option Int
  | [.pl (.int .i64 n)] => some n
  | _ => none
def idxG {α : Type} (p : α → Bool) : List α → Int → Int
  | [], _ => -1
  | x :: r, i => bif p x then i else idxG p r (i + 1)
def cutL {α : Type} (xs : List α) (i j : Int) : List α := xs.take i.toNat ++ xs.drop j.toNat
def lastG {α : Type} (p : α → Bool) (ls : List α) : Nat → Int
  | 0 => -1
  | n + 1 => match ls[n]? with
    | some x => bif p x then (n : Int) else lastG p ls n
    | none => lastG p ls n
def sameG {α : Type} (e : α → List PC) : List α → List α → Bool
  | [], [] => true
  | x :: a, y :: b => pcsEq (e x) (e y) && sameG e a b
  | _, _ => false
def quotaI (c : Config) : Int := clampI 1 8 c.quota
def countL (l : List Lw.Lease) (n : Int) : Int := (l.countP fun x => x.ask.fleet == n : Nat)
def inB (n k : Int) : Bool := decide (n ≥ 0) && decide (n < k)
def mayA (c : Config) (a : Lw.Ask) : Bool := inB a.session (clampI 1 64 c.sessions) && (inB a.fleet (clampI 1 8 c.fleets) && (inB a.src (floorsI c.floors) && (inB a.dst (floorsI c.floors) && (a.src != a.dst && (decide (a.mass ≥ 1) && decide (a.mass ≤ massI c.load))))))
def countS : Summ := fun xs M => match xs, M with
  | [.one (.c .es), .one (.c (.pl (.int .i64 n)))], [] => ans (vi 0)
  | [.one (.c (.row 0)), .one (.c (.pl (.int .i64 n)))], [.row .lease l] => ansP (l.length ≤ Go.maxLen) (vi (countL l n))
  | _, _ => none
def freeS : Summ := fun xs M => match xs, M with
  | [.one (.agg kc), .one (.c .es), .one (.c (.pl (.int .i64 n)))], [] => (Lw.Config.of kc).bind fun c => ans (vb (decide (0 < quotaI c)))
  | [.one (.agg kc), .one (.c (.row 0)), .one (.c (.pl (.int .i64 n)))], [.row .lease l] => (Lw.Config.of kc).bind fun c => ansP (l.length ≤ Go.maxLen) (vb (decide (countL l n < quotaI c)))
  | _, _ => none
def s157 : Summ := fun xs M => match xs, M with
  | [.one (.c (.pl (.int .i64 n))), .one (.c (.pl (.int .i64 k)))], [] => ans (vi (mm false (mm true n 1) k))
  | _, _ => none
def tb59 : List (FuncId × Summ) := (157, s157) :: tb58
def s214 : Summ := fun xs M => match xs, M with
  | [.one (.agg csc)], [] => (Lw.Config.of csc).bind fun c => ans (vi (quotaI c))
  | _, _ => none
def tb60 : List (FuncId × Summ) := (214, s214) :: tb59
def s156 : Summ := fun xs M => match xs, M with
  | [.one (.c (.pl (.int .i64 n))), .one (.c (.pl (.int .i64 k)))], [] => ans (vb (inB n k))
  | _, _ => none
def tb61 : List (FuncId × Summ) := (156, s156) :: tb60
def tb62 : List (FuncId × Summ) := (213, countS) :: tb61
def tb63 : List (FuncId × Summ) := (182, freeS) :: tb62
def s85 : Summ := fun xs M => match xs, M with
  | [.one (.agg csc), .one (.agg csa)], [] => (Lw.Config.of csc).bind fun c => (Lw.Ask.of csa).bind fun a => ans (vb (mayA c a))
  | _, _ => none
def tb64 : List (FuncId × Summ) := (85, s85) :: tb63
def tabC (c : Config) (x : Cell) : List Cell := c.enc.map .pl ++ [x]
def tabOf (vs : List Cell) : Option (Config × Cell) := (Lw.Config.of (vs.take 18)).bind fun c => match vs.drop 18 with
  | [x] => some (c, x)
  | _ => none
def isRow1 : Cell → Bool
  | .row 1 => true
  | _ => false
def isRow2 : Cell → Bool
  | .row 2 => true
  | _ => false
def goodL (c : Config) (l : Lw.Lease) : Bool := mayA c l.ask && (decide (l.car ≥ 0) && (decide (l.car < 8) && (decide (l.phase ≥ 1) && decide (l.phase ≤ 4))))
def putP (l x : Lw.Lease) : Bool := (x.ask.session == l.ask.session) || (x.car == l.car)
def setP (l x : Lw.Lease) : Bool := ((x.ask.session == l.ask.session) && (x.car == l.car)) && (x.ask.fleet == l.ask.fleet)
def sesP (n : Int) (x : Lw.Lease) : Bool := x.ask.session == n
def carP (n : Int) (x : Lw.Lease) : Bool := x.car == n
def predL (k : Nat) (vs : List Cell) : Option (Lw.Lease → Bool) :=
  bif Nat.beq k 184 then (Lw.Lease.of vs).bind fun l => some (putP l) else bif Nat.beq k 176 then (Lw.Lease.of vs).bind fun l => some (setP l) else bif Nat.beq k 210 then (intC vs).bind fun n => some (sesP n) else none
def clo_pp : Summ := fun xs M => match xs, M with
  | [.one (.agg k), .one (.c (.ptr 0 0 0))], [.cells vs] => (Lw.Lease.of k).bind fun x => (Lw.Lease.of vs).bind fun l => ans (vb (putP l x))
  | _, _ => none
def clo_qq : Summ := fun xs M => match xs, M with
  | [.one (.agg k), .one (.c (.ptr 0 0 0))], [.cells vs] => (Lw.Lease.of k).bind fun x => (Lw.Lease.of vs).bind fun l => ans (vb (setP l x))
  | _, _ => none
def clo_ss : Summ := fun xs M => match xs, M with
  | [.one (.agg k), .one (.c (.ptr 0 0 0))], [.cells vs] => (Lw.Lease.of k).bind fun x => (intC vs).bind fun l => ans (vb (sesP l x))
  | _, _ => none
def idxLS : Summ := fun xs M => match xs, M with
  | [.one (.c (.row 0)), .fn k [] [.c (.ptr 1 0 0)]], [.row .lease l, .cells vs] => (predL k vs).bind fun p => ansP (l.length ≤ Go.maxLen) (vi (idxG p l 0))
  | _, _ => none
def cloneLS : Summ := fun xs M => match xs, M with
  | [.one (.c (.row 0))], [.row .lease ls] => some (.leaf ⟨some (ls.length ≤ bigRow), .one (.c (.row 1)), none, [.row .lease ls]⟩)
  | _, _ => none
def delLS : Summ := fun xs M => match xs, M with
  | [.one (.c (.row 0)), .one (.c (.pl (.int .i64 i))), .one (.c (.pl (.int .i64 j)))], [.row .lease ls] => some (.leaf ⟨some ((0 ≤ i ∧ i ≤ j) ∧ j ≤ ls.length ∧ ls.length ≤ bigRow), .one (.c (.row 1)), some [.dead], [.row .lease (cutL ls i j)]⟩)
  | _, _ => none
def zeroL : Lw.Lease := ⟨⟨0, 0, 0, 0, 0⟩, 0, 0, 0, 0, 0⟩
def putE (c : Config) (ls : List Lw.Lease) (l : Lw.Lease) : Int := if goodL c l = false then 1 else if idxG (putP l) ls 0 ≥ 0 then 7 else if countL ls l.ask.fleet < quotaI c then 0 else 5
def putLs (c : Config) (ls : List Lw.Lease) (l : Lw.Lease) : List Lw.Lease := if putE c ls l = 0 then ls ++ [l] else ls
def setE (c : Config) (ls : List Lw.Lease) (l : Lw.Lease) : Int := if goodL c l = false then 1 else if idxG (setP l) ls 0 < 0 then 6 else 0
def setLs (c : Config) (ls : List Lw.Lease) (l : Lw.Lease) : List Lw.Lease := if setE c ls l = 0 then ls.set (idxG (setP l) ls 0).toNat l else ls
def getB (p : Lw.Lease → Bool) (ls : List Lw.Lease) : Bool := !decide (idxG p ls 0 < 0)
def getL (p : Lw.Lease → Bool) (ls : List Lw.Lease) : Lw.Lease := if idxG p ls 0 < 0 then zeroL else ls.getD (idxG p ls 0).toNat zeroL
def endLs (ls : List Lw.Lease) (n : Int) : List Lw.Lease := if idxG (sesP n) ls 0 < 0 then ls else cutL ls (idxG (sesP n) ls 0) (idxG (sesP n) ls 0 + 1)
def tabS1 (vs : List Cell) (k : Config → Option (BT SR)) : Option (BT SR) := (tabOf vs).bind fun q => bif isRow1 q.2 then k q.1 else none
def tabS2 (vs : List Cell) (k : Config → Option (BT SR)) : Option (BT SR) := (tabOf vs).bind fun q => bif isRow2 q.2 then k q.1 else none
def goodTS : Summ := fun xs M => match xs, M with
  | [.one (.c .nilp), .one (.agg k)], [] => (Lw.Lease.of k).bind fun _ => ans (vb false)
  | [.one (.c (.ptr 0 0 0)), .one (.agg k)], [.cells vs, .row .lease ls] => tabS1 vs fun c => (Lw.Lease.of k).bind fun l => ans (vb (goodL c l))
  | _, _ => none
def findTS : Summ := fun xs M => match xs, M with
  | [.one (.c .nilp), .fn k [] [.c (.ptr 0 0 0)]], [.cells cap] => (predL k cap).bind fun _ => ans (vi (-1))
  | [.one (.c (.ptr 0 0 0)), .fn k [] [.c (.ptr 1 0 0)]], [.cells vs, .cells cap, .row .lease ls] => tabS2 vs fun c => (predL k cap).bind fun p => ansP (ls.length ≤ Go.maxLen) (vi (idxG p ls 0))
  | _, _ => none
def newTS : Summ := fun xs M => match xs, M with
  | [.one (.agg k)], [] => (Lw.Config.of k).bind fun c => some (.leaf ⟨none, .one (.c (.ptr 0 0 0)), none, [.cells (tabC c (.row 1)), .row .lease []]⟩)
  | _, _ => none
def putTS : Summ := fun xs M => match xs, M with
  | [.one (.c .nilp), .one (.agg k)], [] => (Lw.Lease.of k).bind fun _ => ans (vi 1)
  | [.one (.c (.ptr 0 0 0)), .one (.agg k)], [.cells vs, .row .lease ls] => tabS1 vs fun c => (Lw.Lease.of k).bind fun l => some (.leaf ⟨some (ls.length + 1 ≤ bigRow), vi (putE c ls l), some [.cells (tabC c (.row 2)), .dead], [.row .lease (putLs c ls l)]⟩)
  | _, _ => none
def setTS : Summ := fun xs M => match xs, M with
  | [.one (.c .nilp), .one (.agg k)], [] => (Lw.Lease.of k).bind fun _ => ans (vi 1)
  | [.one (.c (.ptr 0 0 0)), .one (.agg k)], [.cells vs, .row .lease ls] => tabS1 vs fun c => (Lw.Lease.of k).bind fun l => some (.leaf ⟨some (ls.length ≤ Go.maxLen), vi (setE c ls l), some [.cells (tabC c (.row 1)), .row .lease (setLs c ls l)], []⟩)
  | _, _ => none
def atTS : Summ := fun xs M => match xs, M with
  | [.one (.c .nilp), .one (.c (.pl (.int .i64 n)))], [] => ansP (n < 0) (.tup [cs zeroL.enc, cb false])
  | [.one (.c (.ptr 0 0 0)), .one (.c (.pl (.int .i64 n)))], [.cells vs, .row .lease ls] => tabS1 vs fun c => some (.leaf ⟨some (n < ls.length), .tup [cs (if n < 0 then zeroL else ls.getD n.toNat zeroL).enc, cb (!decide (n < 0))], none, []⟩)
  | _, _ => none
def sesTS : Summ := fun xs M => match xs, M with
  | [.one (.c .nilp), .one (.c (.pl (.int .i64 n)))], [] => ans (vi (-1))
  | [.one (.c (.ptr 0 0 0)), .one (.c (.pl (.int .i64 n)))], [.cells vs, .row .lease ls] => tabS1 vs fun c => ansP (ls.length ≤ Go.maxLen) (vi (idxG (sesP n) ls 0))
  | _, _ => none
def getTS (p : Int → Lw.Lease → Bool) : Summ := fun xs M => match xs, M with
  | [.one (.c .nilp), .one (.c (.pl (.int .i64 n)))], [] => ans (.tup [cs zeroL.enc, cb false])
  | [.one (.c (.ptr 0 0 0)), .one (.c (.pl (.int .i64 n)))], [.cells vs, .row .lease ls] => tabS1 vs fun c => ansP (ls.length ≤ Go.maxLen) (.tup [cs (getL (p n) ls).enc, cb (getB (p n) ls)])
  | _, _ => none
def endTS : Summ := fun xs M => match xs, M with
  | [.one (.c .nilp), .one (.c (.pl (.int .i64 n)))], [] => ans (.tup [cs zeroL.enc, cb false])
  | [.one (.c (.ptr 0 0 0)), .one (.c (.pl (.int .i64 n)))], [.cells vs, .row .lease ls] => tabS1 vs fun c => some (.leaf ⟨some (ls.length ≤ bigRow), .tup [cs (getL (sesP n) ls).enc, cb (getB (sesP n) ls)], some [.cells (tabC c (.row 2)), .dead], [.row .lease (endLs ls n)]⟩)
  | _, _ => none
def listTS : Summ := fun xs M => match xs, M with
  | [.one (.c .nilp)], [] => ans (.one (.c .es))
  | [.one (.c (.ptr 0 0 0))], [.cells vs, .row .lease ls] => tabS1 vs fun c => some (.leaf ⟨some (ls.length ≤ bigRow), .one (.c (.row 2)), none, [.row .lease ls]⟩)
  | _, _ => none
def tb65 : List (FuncId × Summ) := (184, clo_pp) :: tb64
def tb66 : List (FuncId × Summ) := (176, clo_qq) :: tb65
def tb67 : List (FuncId × Summ) := (210, clo_ss) :: tb66
def tb68 : List (FuncId × Summ) := (211, idxLS) :: tb67
def tb69 : List (FuncId × Summ) := (110, cloneLS) :: tb68
def tb70 : List (FuncId × Summ) := (185, delLS) :: tb69
def tb71 : List (FuncId × Summ) := (174, goodTS) :: tb70
def tb72 : List (FuncId × Summ) := (175, findTS) :: tb71
def tb73 : List (FuncId × Summ) := (48, newTS) :: tb72
def tb74 : List (FuncId × Summ) := (123, putTS) :: tb73
def tb75 : List (FuncId × Summ) := (111, setTS) :: tb74
def tb76 : List (FuncId × Summ) := (153, atTS) :: tb75
def tb77 : List (FuncId × Summ) := (154, sesTS) :: tb76
def tb78 : List (FuncId × Summ) := (84, getTS sesP) :: tb77
def tb79 : List (FuncId × Summ) := (126, endTS) :: tb78
def tb80 : List (FuncId × Summ) := (54, listTS) :: tb79
def askP (n : Int) (x : Lw.Ask) : Bool := x.session == n
def eqP (n x : Int) : Bool := n == x
def predA (k : Nat) (vs : List Cell) : Option (Lw.Ask → Bool) :=
  bif Nat.beq k 187 then (intC vs).bind fun n => some (askP n) else none
def clo_aa : Summ := fun xs M => match xs, M with
  | [.one (.agg k), .one (.c (.ptr 0 0 0))], [.cells vs] => (Lw.Ask.of k).bind fun x => (intC vs).bind fun l => ans (vb (askP l x))
  | _, _ => none
def idxAS : Summ := fun xs M => match xs, M with
  | [.one (.c (.row 0)), .fn k [] [.c (.ptr 1 0 0)]], [.row .ask l, .cells vs] => (predA k vs).bind fun p => ansP (l.length ≤ Go.maxLen) (vi (idxG p l 0))
  | _, _ => none
def cloneAS : Summ := fun xs M => match xs, M with
  | [.one (.c (.row 0))], [.row .ask ls] => some (.leaf ⟨some (ls.length ≤ bigRow), .one (.c (.row 1)), none, [.row .ask ls]⟩)
  | _, _ => none
def delAS : Summ := fun xs M => match xs, M with
  | [.one (.c (.row 0)), .one (.c (.pl (.int .i64 i))), .one (.c (.pl (.int .i64 j)))], [.row .ask ls] => some (.leaf ⟨some ((0 ≤ i ∧ i ≤ j) ∧ j ≤ ls.length ∧ ls.length ≤ bigRow), .one (.c (.row 1)), some [.dead], [.row .ask (cutL ls i j)]⟩)
  | _, _ => none
def zeroA : Lw.Ask := ⟨0, 0, 0, 0, 0⟩
def queOf : List Cell → Option (Int × Nat)
  | [.row b, .pl (.int .i64 r)] => some (r, b)
  | _ => none
def queC (r : Int) (b : Nat) : List Cell := [.row b, .pl (.int .i64 r)]
def queS (b : Nat) (vs : List Cell) (k : Int → Option (BT SR)) : Option (BT SR) := (queOf vs).bind fun q => bif Nat.beq q.2 b then k q.1 else none
def roomI (n : Int) : Int := mm false (mm true n 0) 64
def qputE (r : Int) (ls : List Lw.Ask) (a : Lw.Ask) : Int := if idxG (askP a.session) ls 0 ≥ 0 then 7 else if (ls.length : Int) ≥ r then 5 else 0
def qputL (r : Int) (ls : List Lw.Ask) (a : Lw.Ask) : List Lw.Ask := if qputE r ls a = 0 then ls ++ [a] else ls
def qdropL (ls : List Lw.Ask) (n : Int) : List Lw.Ask := if idxG (askP n) ls 0 ≥ 0 then cutL ls (idxG (askP n) ls 0) (idxG (askP n) ls 0 + 1) else ls
def inL (fl : List Int) (n : Int) : Bool := decide (idxG (eqP n) fl 0 ≥ 0)
def firstA (fl : List Int) : List Lw.Ask → Lw.Ask × Bool
  | [] => (zeroA, false)
  | a :: r => bif inL fl a.fleet then firstA fl r else (a, true)
def qnewS : Summ := fun xs M => match xs, M with
  | [.one (.c (.pl (.int .i64 r)))], [] => some (.leaf ⟨none, .one (.c (.ptr 0 0 0)), none, [.cells (queC (roomI r) 1), .row .ask []]⟩)
  | _, _ => none
def qfindS : Summ := fun xs M => match xs, M with
  | [.one (.c .nilp), .one (.c (.pl (.int .i64 n)))], [] => ans (vi (-1))
  | [.one (.c (.ptr 0 0 0)), .one (.c (.pl (.int .i64 n)))], [.cells vs, .row .ask ls] => queS 1 vs fun r => ansP (ls.length ≤ Go.maxLen) (vi (idxG (askP n) ls 0))
  | _, _ => none
def qputS : Summ := fun xs M => match xs, M with
  | [.one (.c .nilp), .one (.agg k)], [] => (Lw.Ask.of k).bind fun _ => ans (vi 1)
  | [.one (.c (.ptr 0 0 0)), .one (.agg k)], [.cells vs, .row .ask ls] => queS 1 vs fun r => (Lw.Ask.of k).bind fun a => some (.leaf ⟨some (ls.length + 1 ≤ bigRow), vi (qputE r ls a), some [.cells (queC r 2), .dead], [.row .ask (qputL r ls a)]⟩)
  | _, _ => none
def qdropS : Summ := fun xs M => match xs, M with
  | [.one (.c .nilp), .one (.c (.pl (.int .i64 n)))], [] => ans (vb false)
  | [.one (.c (.ptr 0 0 0)), .one (.c (.pl (.int .i64 n)))], [.cells vs, .row .ask ls] => queS 1 vs fun r => some (.leaf ⟨some (ls.length ≤ bigRow), vb (decide (idxG (askP n) ls 0 ≥ 0)), some [.cells (queC r 2), .dead], [.row .ask (qdropL ls n)]⟩)
  | _, _ => none
def qaheadS : Summ := fun xs M => match xs, M with
  | [.one (.c .nilp), .one (.c (.pl (.int .i64 n)))], [] => ans (.tup [ci 0, cb false])
  | [.one (.c (.ptr 0 0 0)), .one (.c (.pl (.int .i64 n)))], [.cells vs, .row .ask ls] => queS 1 vs fun r => ansP (ls.length ≤ Go.maxLen) (.tup [ci (mm true (idxG (askP n) ls 0) 0), cb (decide (idxG (askP n) ls 0 ≥ 0))])
  | _, _ => none
def qlistS : Summ := fun xs M => match xs, M with
  | [.one (.c .nilp)], [] => ans (.one (.c .es))
  | [.one (.c (.ptr 0 0 0))], [.cells vs, .row .ask ls] => queS 1 vs fun r => some (.leaf ⟨some (ls.length ≤ bigRow), .one (.c (.row 2)), none, [.row .ask ls]⟩)
  | _, _ => none
def indexIS : Summ := fun xs M => match xs, M with
  | [.one (.c (.row 0)), .one (.c (.pl (.int .i64 n)))], [.row .int l] => ansP (l.length ≤ Go.maxLen) (vi (idxG (eqP n) l 0))
  | _, _ => none
def contIS : Summ := fun xs M => match xs, M with
  | [.one (.c (.row 0)), .one (.c (.pl (.int .i64 n)))], [.row .int l] => ansP (l.length ≤ Go.maxLen) (vb (inL l n))
  | _, _ => none
def qfirstS : Summ := fun xs M => match xs, M with
  | [.one (.c .nilp), .one (.c .es)], [] => ans (.tup [cs zeroA.enc, cb false])
  | [.one (.c (.ptr 0 0 0)), .one (.c (.row 1))], [.cells vs, .row .int fl, .row .ask ls] => queS 2 vs fun r => ansP (ls.length ≤ bigRow ∧ fl.length ≤ Go.maxLen) (.tup [cs (firstA fl ls).1.enc, cb (firstA fl ls).2])
  | _, _ => none
def tb81 : List (FuncId × Summ) := (187, clo_aa) :: tb80
def tb82 : List (FuncId × Summ) := (186, idxAS) :: tb81
def tb83 : List (FuncId × Summ) := (125, cloneAS) :: tb82
def tb84 : List (FuncId × Summ) := (128, delAS) :: tb83
def tb85 : List (FuncId × Summ) := (47, qnewS) :: tb84
def tb86 : List (FuncId × Summ) := (127, qfindS) :: tb85
def tb87 : List (FuncId × Summ) := (159, qputS) :: tb86
def tb88 : List (FuncId × Summ) := (62, qdropS) :: tb87
def tb89 : List (FuncId × Summ) := (160, qaheadS) :: tb88
def tb90 : List (FuncId × Summ) := (60, qlistS) :: tb89
def tb91 : List (FuncId × Summ) := (212, indexIS) :: tb90
def tb92 : List (FuncId × Summ) := (181, contIS) :: tb91
def tb93 : List (FuncId × Summ) := (120, qfirstS) :: tb92
end Go.Proofs.YtjgmkpidiaojkaaGreat
