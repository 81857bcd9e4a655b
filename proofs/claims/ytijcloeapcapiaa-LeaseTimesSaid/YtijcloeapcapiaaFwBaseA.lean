/- What the functions of this group answer, and the tables of summaries. -/
import Derived.Test.YtijcloeapcapiaaFwTys
import Derived.Test.YtijcloeapcapiaaFw27
set_option linter.unusedVariables false
namespace Go.Proofs.Ytijcloeapcapiaa
open Lw
theorem hold {Γ : Gam} (hΓ : GamOk Try.prog eid Γ) {f : FuncId} {fn : Func} {S : Summ} (hf : Try.prog.funcs[f]? = some fn) (hname : (fn.name != "runtime.NumGoroutine") = true) (h : MeetsAt Γ tys fn S) (hb : fn.body.isSome = true) : Holds Try.prog eid f S :=
  holds_of tys_ok hΓ (drawOk tys_ok hΓ (by kernel_rfl)) hf hname h hb
def tb0 : List (FuncId × Summ) := []
def floorsI (n : Int) : Int := clampI 2 64 n
def spanI (n : Int) : Int := clampI 1 1000 n
def renewI (n : Int) : Int := clampI 0 1000 n
def massI (a : Int) : Int := clampI 0 10000 a
def overB (a b : Int) : Bool := decide (massI a > massI b)
def nearB (a b c : Int) : Bool := decide (massI a - massI b ≤ massI c ∧ massI b - massI a ≤ massI c)
def tripI (c : Config) : Int := 4 * (floorsI c.floors - 1) + 3 * spanI c.door + 4
def leaseI (c : Config) : Int := 2 * tripI c + spanI c.hold * (2 + renewI c.renew)
def serveI (c : Config) : Int := 5 * (4 * (floorsI c.floors - 1) + floorsI c.floors * (2 * spanI c.door + spanI c.dwell + 4))
def timeI (n : Int) : Int := clampI 0 1099511627776 n
def addT (a b : Int) : Int := timeI (timeI a + timeI b)
def lateB (a b : Int) : Bool := decide (timeI a ≥ timeI b)
def levelB (u : Int) : Bool := decide (0 ≤ u) && (decide (u ≤ 252) && (u % 4 == 0))
def levelF (u : Int) : Int := bif levelB u then u / 4 else 0
def moveI (u w f : Int) : Int := if w = 1 ∧ u < 4 * (floorsI f - 1) then u + 1 else if w = 2 ∧ u > 0 then u - 1 else u
def r64 (u : Int) : Prop := -9223372036854775808 ≤ u ∧ u ≤ 9223372036854775807
def at4 (f : Int) : Int := IntKind.i64.wrap (4 * f)
def towardI (u f : Int) : Int := if at4 f > u then 1 else if at4 f < u then 2 else 0
def farP (u f : Int) : Int := mm true (IntKind.i64.wrap (at4 f - u)) (IntKind.i64.wrap (u - at4 f))
def s58 : Summ := fun xs M => match xs, M with
  | [.one (.c (.pl (.int .i64 a)))], [] => ans (vi (floorsI a))
  | _, _ => none
def tb1 : List (FuncId × Summ) := (58, s58) :: tb0
def s64 : Summ := fun xs M => match xs, M with
  | [.one (.c (.pl (.int .i64 a)))], [] => ans (vi (floorsI a))
  | _, _ => none
def tb2 : List (FuncId × Summ) := (64, s64) :: tb1
def s57 : Summ := fun xs M => match xs, M with
  | [.one (.c (.pl (.int .i64 a)))], [] => ans (vi (massI a))
  | _, _ => none
def tb3 : List (FuncId × Summ) := (57, s57) :: tb2
def s55 : Summ := fun xs M => match xs, M with
  | [.one (.c (.pl (.int .i64 a)))], [] => ans (vi (massI a))
  | _, _ => none
def tb4 : List (FuncId × Summ) := (55, s55) :: tb3
def s54 : Summ := fun xs M => match xs, M with
  | [.one (.c (.pl (.int .i64 a))), .one (.c (.pl (.int .i64 b))), .one (.c (.pl (.int .i64 c)))], [] => ans (vb (nearB a b c))
  | _, _ => none
def tb5 : List (FuncId × Summ) := (54, s54) :: tb4
def s59 : Summ := fun xs M => match xs, M with
  | [.one (.c (.pl (.int .i64 a))), .one (.c (.pl (.int .i64 b))), .one (.c (.pl (.int .i64 c)))], [] => ans (vi (clampI b c a))
  | _, _ => none
def tb6 : List (FuncId × Summ) := (59, s59) :: tb5
def s67 : Summ := fun xs M => match xs, M with
  | [.one (.c (.pl (.int .i64 a)))], [] => ans (vi (spanI a))
  | _, _ => none
def tb7 : List (FuncId × Summ) := (67, s67) :: tb6
def s27 : Summ := fun xs M => match xs, M with
  | [.one (.c (.pl (.int .i64 a)))], [] => ans (vi (spanI a))
  | _, _ => none
def tb8 : List (FuncId × Summ) := (27, s27) :: tb7
def s37 : Summ := fun xs M => match xs, M with
  | [.one (.c (.pl (.int .i64 a)))], [] => ans (vi (spanI a))
  | _, _ => none
def tb9 : List (FuncId × Summ) := (37, s37) :: tb8
def s98 : Summ := fun xs M => match xs, M with
  | [.one (.c (.pl (.int .i64 a)))], [] => ans (vi (spanI a))
  | _, _ => none
def tb10 : List (FuncId × Summ) := (98, s98) :: tb9
def s62 : Summ := fun xs M => match xs, M with
  | [.one (.c (.pl (.int .i64 a)))], [] => ans (vi (spanI a))
  | _, _ => none
def tb11 : List (FuncId × Summ) := (62, s62) :: tb10
def s28 : Summ := fun xs M => match xs, M with
  | [.one (.agg csc)], [] => (Lw.Config.of csc).bind fun c => ans (vi (renewI c.renew))
  | _, _ => none
def tb12 : List (FuncId × Summ) := (28, s28) :: tb11
def s56 : Summ := fun xs M => match xs, M with
  | [.one (.agg csc)], [] => (Lw.Config.of csc).bind fun c => ans (vi (renewI c.renew))
  | _, _ => none
def tb13 : List (FuncId × Summ) := (56, s56) :: tb12
def s25 : Summ := fun xs M => match xs, M with
  | [.one (.agg csc)], [] => (Lw.Config.of csc).bind fun c => ans (vi (tripI c))
  | _, _ => none
def tb14 : List (FuncId × Summ) := (25, s25) :: tb13
def s36 : Summ := fun xs M => match xs, M with
  | [.one (.agg csc)], [] => (Lw.Config.of csc).bind fun c => ans (vi (tripI c))
  | _, _ => none
def tb15 : List (FuncId × Summ) := (36, s36) :: tb14
def s26 : Summ := fun xs M => match xs, M with
  | [.one (.agg csc)], [] => (Lw.Config.of csc).bind fun c => ans (vi (leaseI c))
  | _, _ => none
def tb16 : List (FuncId × Summ) := (26, s26) :: tb15
def s22 : Summ := fun xs M => match xs, M with
  | [.one (.c (.pl (.int .i64 a)))], [] => ans (vi (timeI a))
  | _, _ => none
def tb17 : List (FuncId × Summ) := (22, s22) :: tb16
def s53 : Summ := fun xs M => match xs, M with
  | [.one (.c (.pl (.int .i64 a)))], [] => ans (vi (timeI a))
  | _, _ => none
def tb18 : List (FuncId × Summ) := (53, s53) :: tb17
def s52 : Summ := fun xs M => match xs, M with
  | [.one (.c (.pl (.int .i64 a))), .one (.c (.pl (.int .i64 b)))], [] => ans (vi (addT a b))
  | _, _ => none
def tb19 : List (FuncId × Summ) := (52, s52) :: tb18
def s86 : Summ := fun xs M => match xs, M with
  | [.one (.c (.pl (.int .i64 a))), .one (.c (.pl (.int .i64 b)))], [] => ans (vi (addT a b))
  | _, _ => none
def tb20 : List (FuncId × Summ) := (86, s86) :: tb19
def s46 : Summ := fun xs M => match xs, M with
  | [.one (.c (.pl (.int .i64 a))), .one (.c (.pl (.int .i64 b)))], [] => ans (vb (lateB a b))
  | _, _ => none
def tb21 : List (FuncId × Summ) := (46, s46) :: tb20
def s99 : Summ := fun xs M => match xs, M with
  | [.one (.c (.pl (.int .i64 a)))], [] => ans (vi (4 * (floorsI a - 1)))
  | _, _ => none
def tb22 : List (FuncId × Summ) := (99, s99) :: tb21
def s85 : Summ := fun xs M => match xs, M with
  | [.one (.c (.pl (.int .i64 a)))], [] => ans (.tup [ci (levelF a), cb (levelB a)])
  | _, _ => none
def tb23 : List (FuncId × Summ) := (85, s85) :: tb22
def s51 : Summ := fun xs M => match xs, M with
  | [.one (.c (.pl (.int .i64 a)))], [] => ans (.tup [ci (levelF a), cb (levelB a)])
  | _, _ => none
def tb24 : List (FuncId × Summ) := (51, s51) :: tb23
def s82 : Summ := fun xs M => match xs, M with
  | [.one (.c (.pl (.int .i64 u))), .one (.c (.pl (.int .i64 w))), .one (.c (.pl (.int .i64 f)))], [] => ansP (r64 u) (vi (moveI u w f))
  | _, _ => none
def tb25 : List (FuncId × Summ) := (82, s82) :: tb24
def s84 : Summ := fun xs M => match xs, M with
  | [.one (.c (.pl (.int .i64 u))), .one (.c (.pl (.int .i64 w))), .one (.c (.pl (.int .i64 f)))], [] => ansP (r64 u) (vi (moveI u w f))
  | _, _ => none
def tb26 : List (FuncId × Summ) := (84, s84) :: tb25
def s88 : Summ := fun xs M => match xs, M with
  | [.one (.c (.pl (.int .i64 u))), .one (.c (.pl (.int .i64 f)))], [] => ans (vi (towardI u f))
  | _, _ => none
def tb27 : List (FuncId × Summ) := (88, s88) :: tb26
def s60 : Summ := fun xs M => match xs, M with
  | [.one (.c (.pl (.int .i64 u))), .one (.c (.pl (.int .i64 f)))], [] => ans (vi (farP u f))
  | _, _ => none
def tb28 : List (FuncId × Summ) := (60, s60) :: tb27
end Go.Proofs.Ytijcloeapcapiaa
