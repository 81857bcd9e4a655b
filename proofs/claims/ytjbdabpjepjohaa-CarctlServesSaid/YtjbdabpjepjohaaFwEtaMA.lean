/- What the functions of this group answer, and the tables of summaries. -/
import Derived.Test.YtjbdabpjepjohaaFwEtaA
set_option linter.unusedVariables false
namespace Go.Proofs.Ytjbdabpjepjohaa
open Lw
def bitI (f : Int) : Int := if 0 ≤ f ∧ f ≤ 63 then ((2 ^ f.toNat : Nat) : Int) else 0
def s21 : Summ := fun xs M => match xs, M with
  | [.one (.c (.pl (.int .i64 f)))], [] => ans (vk .u64 (bitI f))
  | _, _ => none
def tb23 : List (FuncId × Summ) := (21, s21) :: tb22
end Go.Proofs.Ytjbdabpjepjohaa
