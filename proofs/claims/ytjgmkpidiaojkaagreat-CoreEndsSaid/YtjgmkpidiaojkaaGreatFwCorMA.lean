/- What the functions of this group answer, and the tables of summaries. -/
import Derived.Test.YtjgmkpidiaojkaaGreatFwCorLA
set_option linter.unusedVariables false
namespace Go.Proofs.YtjgmkpidiaojkaaGreat
open Lw
def filtR (s : Lw.Cor) (ls : List Lw.Lease) : List Lw.Lease := (ls.filter fun l => !(rideK s l).2.2).map fun l => (rideK s l).1
def remK (c : Config) (p r : Int) : Int := (if p ≤ 1 then spanI c.hold + tripI c + spanI c.hold else if p = 2 then tripI c + spanI c.hold else if p = 3 then spanI c.hold else 0) + (renewI c.renew - r) * spanI c.hold
def EP (c : Config) (l : Lw.Lease) (now : Int) : Prop := (0 ≤ l.renewed ∧ l.renewed ≤ renewI c.renew) ∧ now < l.until_ ∧ l.until_ + remK c l.phase l.renewed ≤ l.granted + leaseI c ∧ (0 ≤ l.granted ∧ l.granted ≤ now)
def EInv (m : Nat) (s : Lw.Cor) : Prop := (0 ≤ s.now ∧ s.now ≤ m) ∧ ∀ l ∈ s.ls, EP s.c l s.now
def tb158 : List (FuncId × Summ) := (10, lawCS) :: tb157
end Go.Proofs.YtjgmkpidiaojkaaGreat
