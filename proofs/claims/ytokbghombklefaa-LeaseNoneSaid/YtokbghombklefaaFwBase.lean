/- The functions of this group answer so. -/
import Derived.Test.YtokbghombklefaaFwBaseV
set_option linter.unusedVariables false
set_option linter.unusedSimpArgs false
set_option maxRecDepth 20000
set_option maxHeartbeats 4000000
namespace Go.Proofs.Ytokbghombklefaa
open Lw
theorem tb0_ok : GamOk Try.prog eid (gam tb0) := gam_nil
theorem floorsI_range (n : Int) : 2 ≤ floorsI n ∧ floorsI n ≤ 64 := clampI_range (by decide) n
theorem spanI_range (n : Int) : 1 ≤ spanI n ∧ spanI n ≤ 1000 := clampI_range (by decide) n
theorem renewI_range (n : Int) : 0 ≤ renewI n ∧ renewI n ≤ 1000 := clampI_range (by decide) n
theorem massI_range (n : Int) : 0 ≤ massI n ∧ massI n ≤ 10000 := clampI_range (by decide) n
theorem timeI_range (n : Int) : 0 ≤ timeI n ∧ timeI n ≤ 1099511627776 := clampI_range (by decide) n
theorem tripI_range (c : Config) : 11 ≤ tripI c ∧ tripI c ≤ 3256 := by
  have := floorsI_range c.floors
  have := spanI_range c.door
  unfold tripI; omega
theorem timeI_id {n : Int} (h : 0 ≤ n) (k : n ≤ 1099511627776) : timeI n = n := by unfold timeI clampI; split <;> (try split) <;> omega
theorem massI_id {n : Int} (h : 0 ≤ n) (k : n ≤ 10000) : massI n = n := by unfold massI clampI; split <;> (try split) <;> omega
theorem timeI_time (n : Int) : timeI (timeI n) = timeI n := timeI_id (timeI_range n).1 (timeI_range n).2
theorem h31 : Holds Try.prog eid 31 (s31) := by
  refine hold tb0_ok Try.func31 (by kernel_rfl) ?_ (by kernel_rfl)
  intro xs M t h
  unfold s31 at h
  split at h
  case h_2 => cases h
  rename_i a
  cases h
  refine ⟨fun l h => (nomatch h), ?_⟩
  intro hp
  rw [v31_vc]
  exact ends_pl (congrArg _ (mm_clamp (by decide) _))
theorem tb1_ok : GamOk Try.prog eid (gam tb1) := gam_cons h31 tb0_ok
theorem h34 : Holds Try.prog eid 34 (s34) := by
  refine hold tb1_ok Try.func34 (by kernel_rfl) ?_ (by kernel_rfl)
  intro xs M t h
  unfold s34 at h
  split at h
  case h_2 => cases h
  rename_i a
  cases h
  refine ⟨fun l h => (nomatch h), ?_⟩
  intro hp
  rw [v34_vc]
  exact ends_pl (congrArg _ (mm_clamp (by decide) _))
theorem tb2_ok : GamOk Try.prog eid (gam tb2) := gam_cons h34 tb1_ok
theorem h23 : Holds Try.prog eid 23 (s23) := by
  refine hold tb2_ok Try.func23 (by kernel_rfl) ?_ (by kernel_rfl)
  intro xs M t h
  unfold s23 at h
  split at h
  case h_2 => cases h
  rename_i a
  cases h
  refine ⟨fun l h => (nomatch h), ?_⟩
  intro hp
  rw [v23_vc]
  exact ends_pl (congrArg _ (mm_clamp (by decide) _))
theorem tb3_ok : GamOk Try.prog eid (gam tb3) := gam_cons h23 tb2_ok
theorem h24 : Holds Try.prog eid 24 (s24) := by
  refine hold tb3_ok Try.func24 (by kernel_rfl) ?_ (by kernel_rfl)
  intro xs M t h
  unfold s24 at h
  split at h
  case h_2 => cases h
  rename_i csc
  obtain ⟨c, hcc, h1⟩ := Option.bind_eq_some_iff.1 h
  clear h
  have h := h1
  clear h1
  cases h
  cases Lw.Config.of_eq hcc
  clear hcc
  refine ⟨fun l h => (nomatch h), ?_⟩
  intro hp
  rw [v24_vc]
  have := floorsI_range c.floors
  have := spanI_range c.door
  refine ends_pl (congrArg _ ?_)
  simp only [IntKind.wrap_i64, tripI]
  omega
theorem tb4_ok : GamOk Try.prog eid (gam tb4) := gam_cons h24 tb3_ok
end Go.Proofs.Ytokbghombklefaa
