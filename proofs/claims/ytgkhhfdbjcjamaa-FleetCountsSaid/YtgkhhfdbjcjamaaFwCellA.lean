/- The cell package: what its functions answer. -/
import Derived.Test.YtgkhhfdbjcjamaaFwTys
import Derived.Test.YtgkhhfdbjcjamaaFw22
namespace Go.Proofs.Ytgkhhfdbjcjamaa
open Lw
theorem hold {Γ : Gam} (hΓ : GamOk Try.prog eid Γ) {f : FuncId} {fn : Func} {S : Summ} (hf : Try.prog.funcs[f]? = some fn) (hname : (fn.name != "runtime.NumGoroutine") = true) (h : MeetsAt Γ tys fn S) (hb : fn.body.isSome = true) : Holds Try.prog eid f S :=
  holds_of tys_ok hΓ (drawOk tys_ok hΓ (by kernel_rfl)) hf hname h hb
def massI (a : Int) : Int := if a < 0 then 0 else if a > 10000 then 10000 else a
def overB (a b : Int) : Bool := decide (massI a > massI b)
def nearB (a b c : Int) : Bool := decide (massI a - massI b ≤ massI c ∧ massI b - massI a ≤ massI c)
def massS : Summ := fun xs M => match xs, M with
  | [.one (.c (.pl (.int .i64 a)))], [] => ans (vi (massI a))
  | _, _ => none
def overS : Summ := fun xs M => match xs, M with
  | [.one (.c (.pl (.int .i64 a))), .one (.c (.pl (.int .i64 b)))], [] => ans (vb (overB a b))
  | _, _ => none
def nearS : Summ := fun xs M => match xs, M with
  | [.one (.c (.pl (.int .i64 a))), .one (.c (.pl (.int .i64 b))), .one (.c (.pl (.int .i64 c)))], [] => ans (vb (nearB a b c))
  | _, _ => none
def yesS : Summ := fun xs M => match xs, M with
  | [], [] => ans (vb true)
  | _, _ => none
def cell1 : List (FuncId × Summ) := [(11, massS), (13, massS)]
def cell2 : List (FuncId × Summ) := (14, overS) :: (15, nearS) :: cell1
def cell3 : List (FuncId × Summ) := (12, yesS) :: cell2
end Go.Proofs.Ytgkhhfdbjcjamaa
