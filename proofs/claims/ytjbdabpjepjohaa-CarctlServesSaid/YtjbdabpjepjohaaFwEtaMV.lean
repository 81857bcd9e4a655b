/- What these functions come to, run on the abstract machine: printed by program, held by the kernel. -/
import Derived.Test.YtjbdabpjepjohaaFwEtaMA
import Derived.KernelRfl
set_option maxRecDepth 100000
set_option linter.unusedVariables false
namespace Go.Proofs.Ytjbdabpjepjohaa
open Lw
theorem v21_vc (f : Int) (post : AV → Mem → Prop) : (vcFunc (gam tb22) tys Try.f21 [vk .i64 f] [] post) = (cnd (bif decide (f < 0) then true else decide (f > 63)) (post (AV.one (V1.c (Cell.pl (PC.int .u64 0)))) []) (0 ≤ Go.IntKind.wrap .u64 f ∧ post (AV.one (V1.c (Cell.pl (PC.int .u64 (shI .u64 true 1 (Go.IntKind.wrap .u64 f)))))) [])) := by kernel_rfl
end Go.Proofs.Ytjbdabpjepjohaa
