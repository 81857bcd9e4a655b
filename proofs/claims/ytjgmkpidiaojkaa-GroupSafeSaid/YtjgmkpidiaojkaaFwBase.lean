/- The functions of this group answer so. -/
import Derived.Test.YtjgmkpidiaojkaaFwBaseV
set_option linter.unusedVariables false
set_option linter.unusedSimpArgs false
set_option maxRecDepth 20000
set_option maxHeartbeats 4000000
namespace Go.Proofs.Ytjgmkpidiaojkaa
open Lw
theorem tb0_ok : GamOk Try.prog eid (gam tb0) := gam_nil
theorem floorsI_range (n : Int) : 2 ≤ floorsI n ∧ floorsI n ≤ 64 := clampI_range (by decide) n
theorem spanI_range (n : Int) : 1 ≤ spanI n ∧ spanI n ≤ 1000 := clampI_range (by decide) n
theorem renewI_range (n : Int) : 0 ≤ renewI n ∧ renewI n ≤ 1000 := clampI_range (by decide) n
theorem massI_range (n : Int) : 0 ≤ massI n ∧ massI n ≤ 10000 := clampI_range (by decide) n
theorem timeI_range (n : Int) : 0 ≤ timeI n ∧ timeI n ≤ 1099511627776 := clampI_range (by decide) n
theorem tripI_range (c : Config) : 11 ≤ tripI c ∧ tripI c ≤ 3256 := by
  have := floorsI_range c.floors
  have := spanI_range c.door
  unfold tripI; omega
theorem timeI_id {n : Int} (h : 0 ≤ n) (k : n ≤ 1099511627776) : timeI n = n := by unfold timeI clampI; split <;> (try split) <;> omega
theorem massI_id {n : Int} (h : 0 ≤ n) (k : n ≤ 10000) : massI n = n := by unfold massI clampI; split <;> (try split) <;> omega
theorem timeI_time (n : Int) : timeI (timeI n) = timeI n := timeI_id (timeI_range n).1 (timeI_range n).2
theorem h10 : Holds Try.prog eid 10 (s10) := by
  refine hold tb0_ok Try.func10 (by kernel_rfl) ?_ (by kernel_rfl)
  intro xs M t h
  unfold s10 at h
  split at h
  case h_2 => cases h
  rename_i a
  cases h
  refine ⟨fun l h => (nomatch h), ?_⟩
  intro hp
  rw [v10_vc]
  simp only [cnd_iff]
  refine ⟨fun h => ?_, fun h => ⟨fun k => ?_, fun k => ?_⟩⟩ <;> refine ends_pl ?_ <;> simp only [decide_eq_true_eq, decide_eq_false_iff_not] at * <;> simp [floorsI, clampI, *]
theorem tb1_ok : GamOk Try.prog eid (gam tb1) := gam_cons h10 tb0_ok
theorem h54 : Holds Try.prog eid 54 (s54) := by
  refine hold tb1_ok Try.func54 (by kernel_rfl) ?_ (by kernel_rfl)
  intro xs M t h
  unfold s54 at h
  split at h
  case h_2 => cases h
  rename_i a
  cases h
  refine ⟨fun l h => (nomatch h), ?_⟩
  intro hp
  rw [v54_vc]
  exact ends_pl (congrArg _ (mm_clamp (by decide) _))
theorem tb2_ok : GamOk Try.prog eid (gam tb2) := gam_cons h54 tb1_ok
theorem h78 : Holds Try.prog eid 78 (s78) := by
  refine hold tb2_ok Try.func78 (by kernel_rfl) ?_ (by kernel_rfl)
  intro xs M t h
  unfold s78 at h
  split at h
  case h_2 => cases h
  rename_i a
  cases h
  refine ⟨fun l h => (nomatch h), ?_⟩
  intro hp
  rw [v78_vc]
  exact ends_pl (congrArg _ (mm_clamp (by decide) _))
theorem tb3_ok : GamOk Try.prog eid (gam tb3) := gam_cons h78 tb2_ok
theorem h64 : Holds Try.prog eid 64 (s64) := by
  refine hold tb3_ok Try.func64 (by kernel_rfl) ?_ (by kernel_rfl)
  intro xs M t h
  unfold s64 at h
  split at h
  case h_2 => cases h
  rename_i a b
  cases h
  refine ⟨fun l h => (nomatch h), ?_⟩
  intro hp
  rw [v64_vc]
  exact ends_pl rfl
theorem tb4_ok : GamOk Try.prog eid (gam tb4) := gam_cons h64 tb3_ok
theorem h79 : Holds Try.prog eid 79 (s79) := by
  refine hold tb4_ok Try.func79 (by kernel_rfl) ?_ (by kernel_rfl)
  intro xs M t h
  unfold s79 at h
  split at h
  case h_2 => cases h
  rename_i a
  cases h
  refine ⟨fun l h => (nomatch h), ?_⟩
  intro hp
  rw [v79_vc]
  exact ends_pl (congrArg _ (mm_clamp (by decide) _))
theorem tb5_ok : GamOk Try.prog eid (gam tb5) := gam_cons h79 tb4_ok
theorem h73 : Holds Try.prog eid 73 (s73) := by
  refine hold tb5_ok Try.func73 (by kernel_rfl) ?_ (by kernel_rfl)
  intro xs M t h
  unfold s73 at h
  split at h
  case h_2 => cases h
  rename_i a
  cases h
  refine ⟨fun l h => (nomatch h), ?_⟩
  intro hp
  rw [v73_vc]
  exact ends_pl (congrArg _ (mm_clamp (by decide) _))
theorem tb6_ok : GamOk Try.prog eid (gam tb6) := gam_cons h73 tb5_ok
theorem h47 : Holds Try.prog eid 47 (s47) := by
  refine hold tb6_ok Try.func47 (by kernel_rfl) ?_ (by kernel_rfl)
  intro xs M t h
  unfold s47 at h
  split at h
  case h_2 => cases h
  rename_i a
  cases h
  refine ⟨fun l h => (nomatch h), ?_⟩
  intro hp
  rw [v47_vc]
  exact ends_pl (congrArg _ (mm_clamp (by decide) _))
theorem tb7_ok : GamOk Try.prog eid (gam tb7) := gam_cons h47 tb6_ok
theorem h27 : Holds Try.prog eid 27 (s27) := by
  refine hold tb7_ok Try.func27 (by kernel_rfl) ?_ (by kernel_rfl)
  intro xs M t h
  unfold s27 at h
  split at h
  case h_2 => cases h
  rename_i a b
  cases h
  refine ⟨fun l h => (nomatch h), ?_⟩
  intro hp
  rw [v27_vc]
  have := timeI_range a
  have := timeI_range b
  rw [wrap_id (by omega) (by omega)]
  exact ends_pl rfl
theorem tb8_ok : GamOk Try.prog eid (gam tb8) := gam_cons h27 tb7_ok
theorem h59 : Holds Try.prog eid 59 (s59) := by
  refine hold tb8_ok Try.func59 (by kernel_rfl) ?_ (by kernel_rfl)
  intro xs M t h
  unfold s59 at h
  split at h
  case h_2 => cases h
  rename_i a
  cases h
  refine ⟨fun l h => (nomatch h), ?_⟩
  intro hp
  rw [v59_vc]
  have := floorsI_range a
  refine ends_pl (congrArg _ ?_)
  simp only [IntKind.wrap_i64]
  omega
theorem tb9_ok : GamOk Try.prog eid (gam tb9) := gam_cons h59 tb8_ok
theorem h46 : Holds Try.prog eid 46 (s46) := by
  refine hold tb9_ok Try.func46 (by kernel_rfl) ?_ (by kernel_rfl)
  intro xs M t h
  unfold s46 at h
  split at h
  case h_2 => cases h
  rename_i a
  cases h
  refine ⟨fun l h => (nomatch h), ?_⟩
  intro hp
  rw [v46_vc]
  refine ⟨fun _ => by decide, cnd_iff.2 ⟨fun h => ?_, fun h => ⟨by decide, ?_⟩⟩⟩
  · have hb : levelB a = false := by
      by_cases h0 : 0 ≤ a
      · rw [Int.tmod_eq_emod_of_nonneg h0] at h
        simp only [show floorsI 64 = 64 by decide, c_and, c_or, Bool.and_eq_true, Bool.or_eq_true, Bool.and_eq_false_iff, Bool.or_eq_false_iff, Bool.not_eq_true', Bool.not_eq_false', beq_iff_eq, beq_eq_false_iff_ne, bne_iff_ne, bne_eq_false_iff_eq, ne_eq, decide_eq_true_eq, decide_eq_false_iff_not] at h
        unfold levelB; simp; omega
      · unfold levelB; simp; omega
    exact ends_v (by unfold levelF; rw [hb]; rfl) rfl
  · simp only [show floorsI 64 = 64 by decide, c_and, c_or, Bool.and_eq_true, Bool.or_eq_true, Bool.and_eq_false_iff, Bool.or_eq_false_iff, Bool.not_eq_true', Bool.not_eq_false', beq_iff_eq, beq_eq_false_iff_ne, bne_iff_ne, bne_eq_false_iff_eq, ne_eq, decide_eq_true_eq, decide_eq_false_iff_not] at h
    have h0 : 0 ≤ a := by omega
    rw [Int.tmod_eq_emod_of_nonneg h0] at h
    have hb : levelB a = true := by unfold levelB; simp; omega
    rw [Int.tdiv_eq_ediv_of_nonneg h0, wrap_id (by omega) (by omega)]
    exact ends_v (by unfold levelF; rw [hb]; rfl) rfl
theorem tb10_ok : GamOk Try.prog eid (gam tb10) := gam_cons h46 tb9_ok
theorem h70 : Holds Try.prog eid 70 (s70) := by
  refine hold tb10_ok Try.func70 (by kernel_rfl) ?_ (by kernel_rfl)
  intro xs M t h
  unfold s70 at h
  split at h
  case h_2 => cases h
  rename_i u w f
  cases h
  refine ⟨fun l h => (nomatch h), ?_⟩
  intro hp
  rw [v70_vc]
  have hp : r64 u := hp
  unfold r64 at hp
  have hf := floorsI_range f
  repeat' first
    | refine cnd_iff.2 ⟨fun _ => ?_, fun _ => ?_⟩
    | refine ends_pl (congrArg _ ?_)
  all_goals try simp only [c_and, c_or, Bool.and_eq_true, Bool.or_eq_true, Bool.and_eq_false_iff, Bool.or_eq_false_iff, Bool.not_eq_true', Bool.not_eq_false', beq_iff_eq, beq_eq_false_iff_ne, bne_iff_ne, bne_eq_false_iff_eq, ne_eq, decide_eq_true_eq, decide_eq_false_iff_not, mm_max, mm_min, IntKind.wrap_i64, moveI] at *
  all_goals (repeat' split)
  all_goals omega
theorem tb11_ok : GamOk Try.prog eid (gam tb11) := gam_cons h70 tb10_ok
theorem h62 : Holds Try.prog eid 62 (s62) := by
  refine hold tb11_ok Try.func62 (by kernel_rfl) ?_ (by kernel_rfl)
  intro xs M t h
  unfold s62 at h
  split at h
  case h_2 => cases h
  rename_i u f
  cases h
  refine ⟨fun l h => (nomatch h), ?_⟩
  intro hp
  rw [v62_vc]
  repeat' first
    | refine cnd_iff.2 ⟨fun _ => ?_, fun _ => ?_⟩
    | refine ends_pl (congrArg _ ?_)
  all_goals try simp only [c_and, c_or, Bool.and_eq_true, Bool.or_eq_true, Bool.and_eq_false_iff, Bool.or_eq_false_iff, Bool.not_eq_true', Bool.not_eq_false', beq_iff_eq, beq_eq_false_iff_ne, bne_iff_ne, bne_eq_false_iff_eq, ne_eq, decide_eq_true_eq, decide_eq_false_iff_not, mm_max, mm_min, IntKind.wrap_i64, towardI, at4] at *
  all_goals (repeat' split)
  all_goals omega
theorem tb12_ok : GamOk Try.prog eid (gam tb12) := gam_cons h62 tb11_ok
theorem h72 : Holds Try.prog eid 72 (s72) := by
  refine hold tb12_ok Try.func72 (by kernel_rfl) ?_ (by kernel_rfl)
  intro xs M t h
  unfold s72 at h
  split at h
  case h_2 => cases h
  rename_i u f
  cases h
  refine ⟨fun l h => (nomatch h), ?_⟩
  intro hp
  rw [v72_vc]
  exact ends_pl rfl
theorem tb13_ok : GamOk Try.prog eid (gam tb13) := gam_cons h72 tb12_ok
end Go.Proofs.Ytjgmkpidiaojkaa
