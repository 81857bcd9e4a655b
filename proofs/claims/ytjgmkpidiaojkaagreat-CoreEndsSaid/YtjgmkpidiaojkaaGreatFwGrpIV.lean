/- What these functions come to, run on the abstract machine: printed by program, held by the kernel. -/
import Derived.Test.YtjgmkpidiaojkaaGreatFwGrpIA
import Derived.KernelRfl
set_option maxRecDepth 100000
set_option linter.unusedVariables false
namespace Go.Proofs.YtjgmkpidiaojkaaGreat
open Lw
end Go.Proofs.YtjgmkpidiaojkaaGreat
