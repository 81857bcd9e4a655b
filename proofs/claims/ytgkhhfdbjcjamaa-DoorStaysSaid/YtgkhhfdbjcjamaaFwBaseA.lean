/- What the functions of this group answer, and the tables of summaries. -/
import Derived.Test.YtgkhhfdbjcjamaaFwTys
import Derived.Test.YtgkhhfdbjcjamaaFw26
set_option linter.unusedVariables false
namespace Go.Proofs.Ytgkhhfdbjcjamaa
open Lw
theorem hold {Γ : Gam} (hΓ : GamOk Try.prog eid Γ) {f : FuncId} {fn : Func} {S : Summ} (hf : Try.prog.funcs[f]? = some fn) (hname : (fn.name != "runtime.NumGoroutine") = true) (h : MeetsAt Γ tys fn S) (hb : fn.body.isSome = true) : Holds Try.prog eid f S :=
  holds_of tys_ok hΓ (drawOk tys_ok hΓ (by kernel_rfl)) hf hname h hb
def tb0 : List (FuncId × Summ) := []
def floorsI (n : Int) : Int := clampI 2 64 n
def spanI (n : Int) : Int := clampI 1 1000 n
def renewI (n : Int) : Int := clampI 0 1000 n
def massI (a : Int) : Int := clampI 0 10000 a
def overB (a b : Int) : Bool := decide (massI a > massI b)
def nearB (a b c : Int) : Bool := decide (massI a - massI b ≤ massI c ∧ massI b - massI a ≤ massI c)
def tripI (c : Config) : Int := 4 * (floorsI c.floors - 1) + 3 * spanI c.door + 4
def leaseI (c : Config) : Int := 2 * tripI c + spanI c.hold * (2 + renewI c.renew)
def serveI (c : Config) : Int := 5 * (4 * (floorsI c.floors - 1) + floorsI c.floors * (2 * spanI c.door + spanI c.dwell + 4))
def timeI (n : Int) : Int := clampI 0 1099511627776 n
def addT (a b : Int) : Int := timeI (timeI a + timeI b)
def lateB (a b : Int) : Bool := decide (timeI a ≥ timeI b)
def levelB (u : Int) : Bool := decide (0 ≤ u) && (decide (u ≤ 252) && (u % 4 == 0))
def levelF (u : Int) : Int := bif levelB u then u / 4 else 0
def moveI (u w f : Int) : Int := if w = 1 ∧ u < 4 * (floorsI f - 1) then u + 1 else if w = 2 ∧ u > 0 then u - 1 else u
def r64 (u : Int) : Prop := -9223372036854775808 ≤ u ∧ u ≤ 9223372036854775807
def at4 (f : Int) : Int := IntKind.i64.wrap (4 * f)
def towardI (u f : Int) : Int := if at4 f > u then 1 else if at4 f < u then 2 else 0
def farP (u f : Int) : Int := mm true (IntKind.i64.wrap (at4 f - u)) (IntKind.i64.wrap (u - at4 f))
def s40 : Summ := fun xs M => match xs, M with
  | [.one (.c (.pl (.int .i64 a)))], [] => ans (vi (floorsI a))
  | _, _ => none
def tb1 : List (FuncId × Summ) := (40, s40) :: tb0
def s44 : Summ := fun xs M => match xs, M with
  | [.one (.c (.pl (.int .i64 a)))], [] => ans (vi (floorsI a))
  | _, _ => none
def tb2 : List (FuncId × Summ) := (44, s44) :: tb1
def s49 : Summ := fun xs M => match xs, M with
  | [.one (.c (.pl (.int .i64 a)))], [] => ans (vi (massI a))
  | _, _ => none
def tb3 : List (FuncId × Summ) := (49, s49) :: tb2
def s11 : Summ := fun xs M => match xs, M with
  | [.one (.c (.pl (.int .i64 a)))], [] => ans (vi (massI a))
  | _, _ => none
def tb4 : List (FuncId × Summ) := (11, s11) :: tb3
def s13 : Summ := fun xs M => match xs, M with
  | [.one (.c (.pl (.int .i64 a)))], [] => ans (vi (massI a))
  | _, _ => none
def tb5 : List (FuncId × Summ) := (13, s13) :: tb4
def s14 : Summ := fun xs M => match xs, M with
  | [.one (.c (.pl (.int .i64 a))), .one (.c (.pl (.int .i64 b)))], [] => ans (vb (overB a b))
  | _, _ => none
def tb6 : List (FuncId × Summ) := (14, s14) :: tb5
def s15 : Summ := fun xs M => match xs, M with
  | [.one (.c (.pl (.int .i64 a))), .one (.c (.pl (.int .i64 b))), .one (.c (.pl (.int .i64 c)))], [] => ans (vb (nearB a b c))
  | _, _ => none
def tb7 : List (FuncId × Summ) := (15, s15) :: tb6
def s47 : Summ := fun xs M => match xs, M with
  | [.one (.c (.pl (.int .i64 a))), .one (.c (.pl (.int .i64 b))), .one (.c (.pl (.int .i64 c)))], [] => ans (vi (clampI b c a))
  | _, _ => none
def tb8 : List (FuncId × Summ) := (47, s47) :: tb7
def s51 : Summ := fun xs M => match xs, M with
  | [.one (.c (.pl (.int .i64 a)))], [] => ans (vi (spanI a))
  | _, _ => none
def tb9 : List (FuncId × Summ) := (51, s51) :: tb8
def s41 : Summ := fun xs M => match xs, M with
  | [.one (.c (.pl (.int .i64 a)))], [] => ans (vi (spanI a))
  | _, _ => none
def tb10 : List (FuncId × Summ) := (41, s41) :: tb9
def s42 : Summ := fun xs M => match xs, M with
  | [.one (.c (.pl (.int .i64 a)))], [] => ans (vi (spanI a))
  | _, _ => none
def tb11 : List (FuncId × Summ) := (42, s42) :: tb10
def s50 : Summ := fun xs M => match xs, M with
  | [.one (.c (.pl (.int .i64 a)))], [] => ans (vi (spanI a))
  | _, _ => none
def tb12 : List (FuncId × Summ) := (50, s50) :: tb11
def s43 : Summ := fun xs M => match xs, M with
  | [.one (.agg csc)], [] => (Lw.Config.of csc).bind fun c => ans (vi (renewI c.renew))
  | _, _ => none
def tb13 : List (FuncId × Summ) := (43, s43) :: tb12
def s18 : Summ := fun xs M => match xs, M with
  | [.one (.agg csc)], [] => (Lw.Config.of csc).bind fun c => ans (vi (tripI c))
  | _, _ => none
def tb14 : List (FuncId × Summ) := (18, s18) :: tb13
def s39 : Summ := fun xs M => match xs, M with
  | [.one (.agg csc)], [] => (Lw.Config.of csc).bind fun c => ans (vi (tripI c))
  | _, _ => none
def tb15 : List (FuncId × Summ) := (39, s39) :: tb14
def s20 : Summ := fun xs M => match xs, M with
  | [.one (.agg csc)], [] => (Lw.Config.of csc).bind fun c => ans (vi (leaseI c))
  | _, _ => none
def tb16 : List (FuncId × Summ) := (20, s20) :: tb15
def s17 : Summ := fun xs M => match xs, M with
  | [.one (.agg csc)], [] => (Lw.Config.of csc).bind fun c => ans (vi (2 * tripI c))
  | _, _ => none
def tb17 : List (FuncId × Summ) := (17, s17) :: tb16
end Go.Proofs.Ytgkhhfdbjcjamaa
