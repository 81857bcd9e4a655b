/- What the functions of this group answer, and the tables of summaries. -/
import Derived.Test.YtjpfeckkajhhjaaFwQueA
set_option linter.unusedVariables false
namespace Go.Proofs.Ytjpfeckkajhhjaa
open Lw
def InvL (c : Config) (ls : List Lw.Lease) : Prop := (ls.map fun x => x.ask.session).Nodup ∧ (ls.map fun x => x.car).Nodup ∧ ∀ n, countL ls n ≤ quotaI c
def count2S : Summ := fun xs M => match xs, M with
  | [.one (.c (.row 0)), .one (.c (.pl (.int .i64 n)))], [.row .lease l] => ansP (l.length ≤ Go.maxLen) (vi (countL l n))
  | _, _ => none
def conf19 : Config := ⟨0, 5, 2, 4, 2, 0, 0, 0, 0, 0, 1, 300, 0, 0, 0, 0, 0, 0⟩
def playS : Summ := fun xs M => match xs, M with
  | [.one (.agg k), .one (.c (.ros .lop ops))], [] => (Lw.Config.of k).bind fun c => ansP (ops.length ≤ Go.maxLen) (vb true)
  | _, _ => none
def one19 : Lw.Lease := ⟨⟨0, 0, 0, 1, 5⟩, 0, 1, 0, 0, 0⟩
def sameLS : Summ := fun xs M => match xs, M with
  | [.one (.c (.row 0)), .one (.c (.row 1))], [.row .lease a, .row .lease b] => ansP (a.length ≤ Go.maxLen) (vb (sameG Lw.Lease.enc a b))
  | _, _ => none
def tb45 : List (FuncId × Summ) := (27, count2S) :: tb44
def s28 : Summ := fun xs M => match xs, M with
  | [.one (.agg csc)], [] => (Lw.Config.of csc).bind fun c => ans (vi (quotaI c))
  | _, _ => none
def tb46 : List (FuncId × Summ) := (28, s28) :: tb45
def s45 : Summ := fun xs M => match xs, M with
  | [.one (.agg csc), .one (.agg csa)], [] => (Lw.Config.of csc).bind fun c => (Lw.Ask.of csa).bind fun a => ans (vb (mayA c a))
  | _, _ => none
def tb47 : List (FuncId × Summ) := (45, s45) :: tb46
def tb48 : List (FuncId × Summ) := (32, sameLS) :: tb47
def s26 : Summ := fun xs M => match xs, M with
  | [.one (.agg csc), .one (.agg csl)], [] => (Lw.Config.of csc).bind fun c => (Lw.Lease.of csl).bind fun l => ans (vb (goodL c l))
  | _, _ => none
def tb49 : List (FuncId × Summ) := (26, s26) :: tb48
def s56 : Summ := fun xs M => match xs, M with
  | [], [] => ans (vs conf19.enc)
  | _, _ => none
def tb50 : List (FuncId × Summ) := (56, s56) :: tb49
def s57 : Summ := fun xs M => match xs, M with
  | [], [] => ans (vs one19.enc)
  | _, _ => none
def tb51 : List (FuncId × Summ) := (57, s57) :: tb50
def s36 : Summ := fun xs M => match xs, M with
  | [], [] => ans (vb true)
  | _, _ => none
def tb52 : List (FuncId × Summ) := (36, s36) :: tb51
noncomputable def f8m : Func := markF [[1,1,1,0,1,0,0,1,0,0,1,1,0,1,0,0,1,0,0,0], [1,1,1,0,1,0,0,1,0,0,1,1,0,1,0,0,1,0,0,1,0], [1,1,1,0,1,0,0,1,0,0,1,1,1,0]] Try.f8
def tb53 : List (FuncId × Summ) := (8, playS) :: tb52
end Go.Proofs.Ytjpfeckkajhhjaa
