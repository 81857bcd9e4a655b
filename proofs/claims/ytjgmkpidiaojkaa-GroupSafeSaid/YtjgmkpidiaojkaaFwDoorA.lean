/- What the functions of this group answer, and the tables of summaries. -/
import Derived.Test.YtjgmkpidiaojkaaFwBaseA
set_option linter.unusedVariables false
namespace Go.Proofs.Ytjgmkpidiaojkaa
open Lw
def goodD (d : Lw.Door) (t : Int) : Bool := decide ((d.state = 0 ∧ d.at_ = 0) ∨ (d.state = 2 ∧ d.at_ = spanI t) ∨ ((d.state = 1 ∨ d.state = 3) ∧ 0 ≤ d.at_ ∧ d.at_ ≤ spanI t))
def openD (d : Lw.Door) : Lw.Door := ⟨if d.state = 0 ∨ d.state = 3 then 1 else d.state, d.at_⟩
def closeD (d : Lw.Door) : Lw.Door := ⟨if d.state = 1 ∨ d.state = 2 then 3 else d.state, d.at_⟩
def tickD (d : Lw.Door) (t : Int) (b : Bool) : Lw.Door :=
  if d.state = 3 ∧ b = true then ⟨1, d.at_⟩
  else if d.state = 3 ∧ d.at_ ≤ 1 then ⟨0, 0⟩
  else if d.state = 3 then ⟨3, d.at_ - 1⟩
  else if d.state = 1 ∧ d.at_ + 1 ≥ spanI t then ⟨2, spanI t⟩
  else if d.state = 1 then ⟨1, d.at_ + 1⟩
  else d
def mildD (d : Lw.Door) : Prop := -4611686018427387904 ≤ d.at_ ∧ d.at_ ≤ 4611686018427387904
def s67 : Summ := fun xs M => match xs, M with
  | [.one (.agg csd)], [] => (Lw.Door.of csd).bind fun d => ans (vs (openD d).enc)
  | _, _ => none
def tb14 : List (FuncId × Summ) := (67, s67) :: tb13
def s68 : Summ := fun xs M => match xs, M with
  | [.one (.agg csd)], [] => (Lw.Door.of csd).bind fun d => ans (vs (closeD d).enc)
  | _, _ => none
def tb15 : List (FuncId × Summ) := (68, s68) :: tb14
def s69 : Summ := fun xs M => match xs, M with
  | [.one (.agg csd), .one (.c (.pl (.int .i64 t))), .one (.c (.pl (.bool b)))], [] => (Lw.Door.of csd).bind fun d => ansP (mildD d) (vs (tickD d t b).enc)
  | _, _ => none
def tb16 : List (FuncId × Summ) := (69, s69) :: tb15
end Go.Proofs.Ytjgmkpidiaojkaa
