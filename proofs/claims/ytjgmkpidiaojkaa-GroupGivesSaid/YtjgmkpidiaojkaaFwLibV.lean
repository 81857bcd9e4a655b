/- What these functions come to, run on the abstract machine: printed by program, held by the kernel. -/
import Derived.Test.YtjgmkpidiaojkaaFwLibA
import Derived.KernelRfl
set_option maxRecDepth 100000
set_option linter.unusedVariables false
namespace Go.Proofs.Ytjgmkpidiaojkaa
open Lw
end Go.Proofs.Ytjgmkpidiaojkaa
