/- What the functions of this group answer, and the tables of summaries. -/
import Derived.Test.YtjgmkpidiaojkaaFwTys
import Derived.Test.YtjgmkpidiaojkaaFw28
set_option linter.unusedVariables false
namespace Go.Proofs.Ytjgmkpidiaojkaa
open Lw
theorem holdM {Γ : Gam} (hΓ : GamOk Try.prog eid Γ) {f : FuncId} {fn : Func} {S : Summ} (hf : Try.prog.funcs[f]? = some fn) (hname : (fn.name != "runtime.NumGoroutine") = true) {ps : List (List Nat)} (h : MeetsAt Γ tys (markF ps fn) S) (hb : noScopeB fn = true) : Holds Try.prog eid f S :=
  holds_of tys_ok hΓ (drawOk tys_ok hΓ (by kernel_rfl)) hf hname h hb
theorem hold {Γ : Gam} (hΓ : GamOk Try.prog eid Γ) {f : FuncId} {fn : Func} {S : Summ} (hf : Try.prog.funcs[f]? = some fn) (hname : (fn.name != "runtime.NumGoroutine") = true) (h : MeetsAt Γ tys fn S) (hb : noScopeB fn = true) : Holds Try.prog eid f S :=
  holdM (ps := []) hΓ hf hname (by rw [markF_nil]; exact h) hb
def tb0 : List (FuncId × Summ) := []
def floorsI (n : Int) : Int := clampI 2 64 n
def spanI (n : Int) : Int := clampI 1 1000 n
def renewI (n : Int) : Int := clampI 0 1000 n
def massI (a : Int) : Int := clampI 0 10000 a
def overB (a b : Int) : Bool := decide (massI a > massI b)
def nearB (a b c : Int) : Bool := decide (massI a - massI b ≤ massI c ∧ massI b - massI a ≤ massI c)
def tripI (c : Config) : Int := 4 * (floorsI c.floors - 1) + 3 * spanI c.door + 4
def leaseI (c : Config) : Int := 2 * tripI c + spanI c.hold * (2 + renewI c.renew)
def serveI (c : Config) : Int := 5 * (4 * (floorsI c.floors - 1) + floorsI c.floors * (2 * spanI c.door + spanI c.dwell + 4))
def timeI (n : Int) : Int := clampI 0 1099511627776 n
def addT (a b : Int) : Int := timeI (timeI a + timeI b)
def lateB (a b : Int) : Bool := decide (timeI a ≥ timeI b)
def levelB (u : Int) : Bool := decide (0 ≤ u) && (decide (u ≤ 252) && (u % 4 == 0))
def levelF (u : Int) : Int := bif levelB u then u / 4 else 0
def moveI (u w f : Int) : Int := if w = 1 ∧ u < 4 * (floorsI f - 1) then u + 1 else if w = 2 ∧ u > 0 then u - 1 else u
def r64 (u : Int) : Prop := -9223372036854775808 ≤ u ∧ u ≤ 9223372036854775807
def at4 (f : Int) : Int := IntKind.i64.wrap (4 * f)
def towardI (u f : Int) : Int := if at4 f > u then 1 else if at4 f < u then 2 else 0
def farP (u f : Int) : Int := mm true (IntKind.i64.wrap (at4 f - u)) (IntKind.i64.wrap (u - at4 f))
def s10 : Summ := fun xs M => match xs, M with
  | [.one (.c (.pl (.int .i64 a)))], [] => ans (vi (floorsI a))
  | _, _ => none
def tb1 : List (FuncId × Summ) := (10, s10) :: tb0
def s54 : Summ := fun xs M => match xs, M with
  | [.one (.c (.pl (.int .i64 a)))], [] => ans (vi (floorsI a))
  | _, _ => none
def tb2 : List (FuncId × Summ) := (54, s54) :: tb1
def s78 : Summ := fun xs M => match xs, M with
  | [.one (.c (.pl (.int .i64 a)))], [] => ans (vi (massI a))
  | _, _ => none
def tb3 : List (FuncId × Summ) := (78, s78) :: tb2
def s64 : Summ := fun xs M => match xs, M with
  | [.one (.c (.pl (.int .i64 a))), .one (.c (.pl (.int .i64 b)))], [] => ans (vb (overB a b))
  | _, _ => none
def tb4 : List (FuncId × Summ) := (64, s64) :: tb3
def s79 : Summ := fun xs M => match xs, M with
  | [.one (.c (.pl (.int .i64 a)))], [] => ans (vi (spanI a))
  | _, _ => none
def tb5 : List (FuncId × Summ) := (79, s79) :: tb4
def s73 : Summ := fun xs M => match xs, M with
  | [.one (.c (.pl (.int .i64 a)))], [] => ans (vi (spanI a))
  | _, _ => none
def tb6 : List (FuncId × Summ) := (73, s73) :: tb5
def s47 : Summ := fun xs M => match xs, M with
  | [.one (.c (.pl (.int .i64 a)))], [] => ans (vi (timeI a))
  | _, _ => none
def tb7 : List (FuncId × Summ) := (47, s47) :: tb6
def s27 : Summ := fun xs M => match xs, M with
  | [.one (.c (.pl (.int .i64 a))), .one (.c (.pl (.int .i64 b)))], [] => ans (vi (addT a b))
  | _, _ => none
def tb8 : List (FuncId × Summ) := (27, s27) :: tb7
def s59 : Summ := fun xs M => match xs, M with
  | [.one (.c (.pl (.int .i64 a)))], [] => ans (vi (4 * (floorsI a - 1)))
  | _, _ => none
def tb9 : List (FuncId × Summ) := (59, s59) :: tb8
def s46 : Summ := fun xs M => match xs, M with
  | [.one (.c (.pl (.int .i64 a)))], [] => ans (.tup [ci (levelF a), cb (levelB a)])
  | _, _ => none
def tb10 : List (FuncId × Summ) := (46, s46) :: tb9
def s70 : Summ := fun xs M => match xs, M with
  | [.one (.c (.pl (.int .i64 u))), .one (.c (.pl (.int .i64 w))), .one (.c (.pl (.int .i64 f)))], [] => ansP (r64 u) (vi (moveI u w f))
  | _, _ => none
def tb11 : List (FuncId × Summ) := (70, s70) :: tb10
def s62 : Summ := fun xs M => match xs, M with
  | [.one (.c (.pl (.int .i64 u))), .one (.c (.pl (.int .i64 f)))], [] => ans (vi (towardI u f))
  | _, _ => none
def tb12 : List (FuncId × Summ) := (62, s62) :: tb11
def s72 : Summ := fun xs M => match xs, M with
  | [.one (.c (.pl (.int .i64 u))), .one (.c (.pl (.int .i64 f)))], [] => ans (vi (farP u f))
  | _, _ => none
def tb13 : List (FuncId × Summ) := (72, s72) :: tb12
end Go.Proofs.Ytjgmkpidiaojkaa
