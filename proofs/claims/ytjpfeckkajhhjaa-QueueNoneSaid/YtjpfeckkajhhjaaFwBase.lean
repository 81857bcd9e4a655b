/- The functions of this group answer so. -/
import Derived.Test.YtjpfeckkajhhjaaFwBaseV
set_option linter.unusedVariables false
set_option linter.unusedSimpArgs false
set_option maxRecDepth 20000
set_option maxHeartbeats 4000000
namespace Go.Proofs.Ytjpfeckkajhhjaa
open Lw
theorem tb0_ok : GamOk Try.prog eid (gam tb0) := gam_nil
theorem floorsI_range (n : Int) : 2 ≤ floorsI n ∧ floorsI n ≤ 64 := clampI_range (by decide) n
theorem spanI_range (n : Int) : 1 ≤ spanI n ∧ spanI n ≤ 1000 := clampI_range (by decide) n
theorem renewI_range (n : Int) : 0 ≤ renewI n ∧ renewI n ≤ 1000 := clampI_range (by decide) n
theorem massI_range (n : Int) : 0 ≤ massI n ∧ massI n ≤ 10000 := clampI_range (by decide) n
theorem timeI_range (n : Int) : 0 ≤ timeI n ∧ timeI n ≤ 1099511627776 := clampI_range (by decide) n
theorem tripI_range (c : Config) : 11 ≤ tripI c ∧ tripI c ≤ 3256 := by
  have := floorsI_range c.floors
  have := spanI_range c.door
  unfold tripI; omega
theorem timeI_id {n : Int} (h : 0 ≤ n) (k : n ≤ 1099511627776) : timeI n = n := by unfold timeI clampI; split <;> (try split) <;> omega
theorem massI_id {n : Int} (h : 0 ≤ n) (k : n ≤ 10000) : massI n = n := by unfold massI clampI; split <;> (try split) <;> omega
theorem timeI_time (n : Int) : timeI (timeI n) = timeI n := timeI_id (timeI_range n).1 (timeI_range n).2
theorem h63 : Holds Try.prog eid 63 (s63) := by
  refine hold tb0_ok Try.func63 (by kernel_rfl) ?_ (by kernel_rfl)
  intro xs M t h
  unfold s63 at h
  split at h
  case h_2 => cases h
  rename_i a
  cases h
  refine ⟨fun l h => (nomatch h), ?_⟩
  intro hp
  rw [v63_vc]
  simp only [cnd_iff]
  refine ⟨fun h => ?_, fun h => ⟨fun k => ?_, fun k => ?_⟩⟩ <;> refine ends_pl ?_ <;> simp only [decide_eq_true_eq, decide_eq_false_iff_not] at * <;> simp [floorsI, clampI, *]
theorem tb1_ok : GamOk Try.prog eid (gam tb1) := gam_cons h63 tb0_ok
theorem h70 : Holds Try.prog eid 70 (s70) := by
  refine hold tb1_ok Try.func70 (by kernel_rfl) ?_ (by kernel_rfl)
  intro xs M t h
  unfold s70 at h
  split at h
  case h_2 => cases h
  rename_i a
  cases h
  refine ⟨fun l h => (nomatch h), ?_⟩
  intro hp
  rw [v70_vc]
  exact ends_pl (congrArg _ (mm_clamp (by decide) _))
theorem tb2_ok : GamOk Try.prog eid (gam tb2) := gam_cons h70 tb1_ok
theorem h64 : Holds Try.prog eid 64 (s64) := by
  refine hold tb2_ok Try.func64 (by kernel_rfl) ?_ (by kernel_rfl)
  intro xs M t h
  unfold s64 at h
  split at h
  case h_2 => cases h
  rename_i a
  cases h
  refine ⟨fun l h => (nomatch h), ?_⟩
  intro hp
  rw [v64_vc]
  simp only [cnd_iff]
  refine ⟨fun h => ?_, fun h => ⟨fun k => ?_, fun k => ?_⟩⟩ <;> refine ends_pl ?_ <;> simp only [decide_eq_true_eq, decide_eq_false_iff_not] at * <;> simp [massI, clampI, *]
theorem tb3_ok : GamOk Try.prog eid (gam tb3) := gam_cons h64 tb2_ok
theorem h73 : Holds Try.prog eid 73 (s73) := by
  refine hold tb3_ok Try.func73 (by kernel_rfl) ?_ (by kernel_rfl)
  intro xs M t h
  unfold s73 at h
  split at h
  case h_2 => cases h
  rename_i a
  cases h
  refine ⟨fun l h => (nomatch h), ?_⟩
  intro hp
  rw [v73_vc]
  exact ends_pl (congrArg _ (mm_clamp (by decide) _))
theorem tb4_ok : GamOk Try.prog eid (gam tb4) := gam_cons h73 tb3_ok
theorem h40 : Holds Try.prog eid 40 (s40) := by
  refine hold tb4_ok Try.func40 (by kernel_rfl) ?_ (by kernel_rfl)
  intro xs M t h
  unfold s40 at h
  split at h
  case h_2 => cases h
  rename_i a b c
  cases h
  refine ⟨fun l h => (nomatch h), ?_⟩
  intro hp
  rw [v40_vc]
  simp only [cnd_iff]
  refine ⟨fun h => ?_, fun h => ⟨fun k => ?_, fun k => ?_⟩⟩ <;> refine ends_pl ?_ <;> simp only [decide_eq_true_eq, decide_eq_false_iff_not] at * <;> simp [clampI, *]
theorem tb5_ok : GamOk Try.prog eid (gam tb5) := gam_cons h40 tb4_ok
theorem h58 : Holds Try.prog eid 58 (s58) := by
  refine hold tb5_ok Try.func58 (by kernel_rfl) ?_ (by kernel_rfl)
  intro xs M t h
  unfold s58 at h
  split at h
  case h_2 => cases h
  rename_i a
  cases h
  refine ⟨fun l h => (nomatch h), ?_⟩
  intro hp
  rw [v58_vc]
  exact ends_pl (congrArg _ (mm_clamp (by decide) _))
theorem tb6_ok : GamOk Try.prog eid (gam tb6) := gam_cons h58 tb5_ok
theorem h59 : Holds Try.prog eid 59 (s59) := by
  refine hold tb6_ok Try.func59 (by kernel_rfl) ?_ (by kernel_rfl)
  intro xs M t h
  unfold s59 at h
  split at h
  case h_2 => cases h
  rename_i csc
  obtain ⟨c, hcc, h1⟩ := Option.bind_eq_some_iff.1 h
  clear h
  have h := h1
  clear h1
  cases h
  cases Lw.Config.of_eq hcc
  clear hcc
  refine ⟨fun l h => (nomatch h), ?_⟩
  intro hp
  rw [v59_vc]
  have := floorsI_range c.floors
  have := spanI_range c.door
  refine ends_pl (congrArg _ ?_)
  simp only [IntKind.wrap_i64, tripI]
  omega
theorem tb7_ok : GamOk Try.prog eid (gam tb7) := gam_cons h59 tb6_ok
end Go.Proofs.Ytjpfeckkajhhjaa
