/- What these functions come to, run on the abstract machine: printed by program, held by the kernel. -/
import Derived.Test.YtokbghombklefaaFwBaseA
import Derived.KernelRfl
set_option maxRecDepth 100000
set_option linter.unusedVariables false
namespace Go.Proofs.Ytokbghombklefaa
open Lw
theorem v31_vc (a : Int) (post : AV → Mem → Prop) : (vcFunc (gam tb0) tys Try.f31 [vk .i64 a] [] post) = (post (AV.one (V1.c (Cell.pl (PC.int .i64 (mm false (mm true a 2) 64))))) []) := by kernel_rfl
theorem v34_vc (a : Int) (post : AV → Mem → Prop) : (vcFunc (gam tb1) tys Try.f34 [vk .i64 a] [] post) = (post (AV.one (V1.c (Cell.pl (PC.int .i64 (mm false (mm true a 0) 10000))))) []) := by kernel_rfl
theorem v23_vc (a : Int) (post : AV → Mem → Prop) : (vcFunc (gam tb2) tys Try.f23 [vk .i64 a] [] post) = (post (AV.one (V1.c (Cell.pl (PC.int .i64 (mm false (mm true a 1) 1000))))) []) := by kernel_rfl
theorem v24_vc (c : Lw.Config) (post : AV → Mem → Prop) : (vcFunc (gam tb3) tys Try.f24 [vs c.enc] [] post) = (post (AV.one (V1.c (Cell.pl (PC.int .i64 (Go.IntKind.wrap .i64 (Go.IntKind.wrap .i64 (Go.IntKind.wrap .i64 (4 * Go.IntKind.wrap .i64 (floorsI (Lw.Config.floors c) - 1)) + Go.IntKind.wrap .i64 (3 * spanI (Lw.Config.door c))) + 4)))))) [Blk.cells [Cell.pl (PC.int .i64 (Lw.Config.cars c)), Cell.pl (PC.int .i64 (Lw.Config.floors c)), Cell.pl (PC.int .i64 (Lw.Config.fleets c)), Cell.pl (PC.int .i64 (Lw.Config.sessions c)), Cell.pl (PC.int .i64 (Lw.Config.door c)), Cell.pl (PC.int .i64 (Lw.Config.dwell c)), Cell.pl (PC.int .i64 (Lw.Config.hold c)), Cell.pl (PC.int .i64 (Lw.Config.renew c)), Cell.pl (PC.int .i64 (Lw.Config.yield c)), Cell.pl (PC.int .i64 (Lw.Config.queue c)), Cell.pl (PC.int .i64 (Lw.Config.quota c)), Cell.pl (PC.int .i64 (Lw.Config.load c)), Cell.pl (PC.int .i64 (Lw.Config.slack c)), Cell.pl (PC.int .i64 (Lw.Config.retry c)), Cell.pl (PC.int .i64 (Lw.Config.cap c)), Cell.pl (PC.int .i64 (Lw.Config.tries c)), Cell.pl (PC.int .i64 (Lw.Config.dead c)), Cell.pl (PC.int .i64 (Lw.Config.window c))]]) := by kernel_rfl
end Go.Proofs.Ytokbghombklefaa
