/- What the functions of this group answer, and the tables of summaries. -/
import Derived.Test.YtjgmkpidiaojkaaFwLowA
set_option linter.unusedVariables false
namespace Go.Proofs.Ytjgmkpidiaojkaa
open Lw
def intC : List Cell → Option Int
  | [.pl (.int .i64 n)] => some n
  | _ => none
def idxG {α : Type} (p : α → Bool) : List α → Int → Int
  | [], _ => -1
  | x :: r, i => bif p x then i else idxG p r (i + 1)
def cutL {α : Type} (xs : List α) (i j : Int) : List α := xs.take i.toNat ++ xs.drop j.toNat
def lastG {α : Type} (p : α → Bool) (ls : List α) : Nat → Int
  | 0 => -1
  | n + 1 => match ls[n]? with
    | some x => bif p x then (n : Int) else lastG p ls n
    | none => lastG p ls n
def sameG {α : Type} (e : α → List PC) : List α → List α → Bool
  | [], [] => true
  | x :: a, y :: b => pcsEq (e x) (e y) && sameG e a b
  | _, _ => false
end Go.Proofs.Ytjgmkpidiaojkaa
