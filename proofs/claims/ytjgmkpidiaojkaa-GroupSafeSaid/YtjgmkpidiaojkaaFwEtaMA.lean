/- What the functions of this group answer, and the tables of summaries. -/
import Derived.Test.YtjgmkpidiaojkaaFwEtaA
set_option linter.unusedVariables false
namespace Go.Proofs.Ytjgmkpidiaojkaa
open Lw
def bitI (f : Int) : Int := if 0 ≤ f ∧ f ≤ 63 then ((2 ^ f.toNat : Nat) : Int) else 0
end Go.Proofs.Ytjgmkpidiaojkaa
