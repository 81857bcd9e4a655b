/- What the functions of this group answer, and the tables of summaries. -/
import Derived.Test.YtjgmkpidiaojkaaFwGrpLA
set_option linter.unusedVariables false
namespace Go.Proofs.Ytjgmkpidiaojkaa
open Lw
def tb86 : List (FuncId × Summ) := (4, lawGS) :: tb85
end Go.Proofs.Ytjgmkpidiaojkaa
