/- What these functions come to, run on the abstract machine: printed by program, held by the kernel. -/
import Derived.Test.YtjgmkpidiaojkaaFwBaseA
import Derived.KernelRfl
set_option maxRecDepth 100000
set_option linter.unusedVariables false
namespace Go.Proofs.Ytjgmkpidiaojkaa
open Lw
theorem v10_vc (a : Int) (post : AV → Mem → Prop) : (vcFunc (gam tb0) tys Try.f10 [vk .i64 a] [] post) = (cnd (decide (a < 2)) (post (AV.one (V1.c (Cell.pl (PC.int .i64 2)))) []) (cnd (decide (a > 64)) (post (AV.one (V1.c (Cell.pl (PC.int .i64 64)))) []) (post (AV.one (V1.c (Cell.pl (PC.int .i64 a)))) []))) := by kernel_rfl
theorem v54_vc (a : Int) (post : AV → Mem → Prop) : (vcFunc (gam tb1) tys Try.f54 [vk .i64 a] [] post) = (post (AV.one (V1.c (Cell.pl (PC.int .i64 (mm false (mm true a 2) 64))))) []) := by kernel_rfl
theorem v78_vc (a : Int) (post : AV → Mem → Prop) : (vcFunc (gam tb2) tys Try.f78 [vk .i64 a] [] post) = (post (AV.one (V1.c (Cell.pl (PC.int .i64 (mm false (mm true a 0) 10000))))) []) := by kernel_rfl
theorem v64_vc (a : Int) (b : Int) (post : AV → Mem → Prop) : (vcFunc (gam tb3) tys Try.f64 [vk .i64 a, vk .i64 b] [] post) = (post (AV.one (V1.c (Cell.pl (PC.bool (decide (massI a > massI b)))))) []) := by kernel_rfl
theorem v79_vc (a : Int) (post : AV → Mem → Prop) : (vcFunc (gam tb4) tys Try.f79 [vk .i64 a] [] post) = (post (AV.one (V1.c (Cell.pl (PC.int .i64 (mm false (mm true a 1) 1000))))) []) := by kernel_rfl
theorem v73_vc (a : Int) (post : AV → Mem → Prop) : (vcFunc (gam tb5) tys Try.f73 [vk .i64 a] [] post) = (post (AV.one (V1.c (Cell.pl (PC.int .i64 (mm false (mm true a 1) 1000))))) []) := by kernel_rfl
theorem v47_vc (a : Int) (post : AV → Mem → Prop) : (vcFunc (gam tb6) tys Try.f47 [vk .i64 a] [] post) = (post (AV.one (V1.c (Cell.pl (PC.int .i64 (mm false (mm true a 0) 1099511627776))))) []) := by kernel_rfl
theorem v27_vc (a : Int) (b : Int) (post : AV → Mem → Prop) : (vcFunc (gam tb7) tys Try.f27 [vk .i64 a, vk .i64 b] [] post) = (post (AV.one (V1.c (Cell.pl (PC.int .i64 (timeI (Go.IntKind.wrap .i64 (timeI a + timeI b))))))) []) := by kernel_rfl
theorem v59_vc (a : Int) (post : AV → Mem → Prop) : (vcFunc (gam tb8) tys Try.f59 [vk .i64 a] [] post) = (post (AV.one (V1.c (Cell.pl (PC.int .i64 (Go.IntKind.wrap .i64 (4 * Go.IntKind.wrap .i64 (floorsI a - 1))))))) []) := by kernel_rfl
theorem v46_vc (a : Int) (post : AV → Mem → Prop) : (vcFunc (gam tb9) tys Try.f46 [vk .i64 a] [] post) = (((bif decide (a < 0) then true else decide (a > 4 * (floorsI 64 - 1))) = false → (4 : Int) ≠ 0) ∧ cnd (bif bif decide (a < 0) then true else decide (a > 4 * (floorsI 64 - 1)) then true else Int.tmod a 4 != 0) (post (AV.tup [V1.c (Cell.pl (PC.int .i64 0)), V1.c (Cell.pl (PC.bool false))]) []) ((4 : Int) ≠ 0 ∧ post (AV.tup [V1.c (Cell.pl (PC.int .i64 (Go.IntKind.wrap .i64 (Int.tdiv a 4)))), V1.c (Cell.pl (PC.bool true))]) [])) := by kernel_rfl
theorem v70_vc (u : Int) (w : Int) (f : Int) (post : AV → Mem → Prop) : (vcFunc (gam tb10) tys Try.f70 [vk .i64 u, vk .i64 w, vk .i64 f] [] post) = (cnd (bif w == 1 then decide (u < 4 * (floorsI f - 1)) else false) (post (AV.one (V1.c (Cell.pl (PC.int .i64 (Go.IntKind.wrap .i64 (u + 1)))))) []) (cnd (bif w == 2 then decide (u > 0) else false) (post (AV.one (V1.c (Cell.pl (PC.int .i64 (Go.IntKind.wrap .i64 (u - 1)))))) []) (post (AV.one (V1.c (Cell.pl (PC.int .i64 u)))) []))) := by kernel_rfl
theorem v62_vc (u : Int) (f : Int) (post : AV → Mem → Prop) : (vcFunc (gam tb11) tys Try.f62 [vk .i64 u, vk .i64 f] [] post) = (cnd (decide (Go.IntKind.wrap .i64 (4 * f) > u)) (post (AV.one (V1.c (Cell.pl (PC.int .i64 1)))) []) (cnd (decide (Go.IntKind.wrap .i64 (4 * f) < u)) (post (AV.one (V1.c (Cell.pl (PC.int .i64 2)))) []) (post (AV.one (V1.c (Cell.pl (PC.int .i64 0)))) []))) := by kernel_rfl
theorem v72_vc (u : Int) (f : Int) (post : AV → Mem → Prop) : (vcFunc (gam tb12) tys Try.f72 [vk .i64 u, vk .i64 f] [] post) = (post (AV.one (V1.c (Cell.pl (PC.int .i64 (mm true (Go.IntKind.wrap .i64 (Go.IntKind.wrap .i64 (4 * f) - u)) (Go.IntKind.wrap .i64 (u - Go.IntKind.wrap .i64 (4 * f)))))))) []) := by kernel_rfl
end Go.Proofs.Ytjgmkpidiaojkaa
