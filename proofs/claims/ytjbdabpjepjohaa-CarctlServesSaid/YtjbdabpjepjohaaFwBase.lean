/- The functions of this group answer so. -/
import Derived.Test.YtjbdabpjepjohaaFwBaseV
set_option linter.unusedVariables false
set_option linter.unusedSimpArgs false
set_option maxRecDepth 20000
set_option maxHeartbeats 4000000
namespace Go.Proofs.Ytjbdabpjepjohaa
open Lw
theorem tb0_ok : GamOk Try.prog eid (gam tb0) := gam_nil
theorem floorsI_range (n : Int) : 2 ≤ floorsI n ∧ floorsI n ≤ 64 := clampI_range (by decide) n
theorem spanI_range (n : Int) : 1 ≤ spanI n ∧ spanI n ≤ 1000 := clampI_range (by decide) n
theorem renewI_range (n : Int) : 0 ≤ renewI n ∧ renewI n ≤ 1000 := clampI_range (by decide) n
theorem massI_range (n : Int) : 0 ≤ massI n ∧ massI n ≤ 10000 := clampI_range (by decide) n
theorem timeI_range (n : Int) : 0 ≤ timeI n ∧ timeI n ≤ 1099511627776 := clampI_range (by decide) n
theorem tripI_range (c : Config) : 11 ≤ tripI c ∧ tripI c ≤ 3256 := by
  have := floorsI_range c.floors
  have := spanI_range c.door
  unfold tripI; omega
theorem timeI_id {n : Int} (h : 0 ≤ n) (k : n ≤ 1099511627776) : timeI n = n := by unfold timeI clampI; split <;> (try split) <;> omega
theorem massI_id {n : Int} (h : 0 ≤ n) (k : n ≤ 10000) : massI n = n := by unfold massI clampI; split <;> (try split) <;> omega
theorem timeI_time (n : Int) : timeI (timeI n) = timeI n := timeI_id (timeI_range n).1 (timeI_range n).2
theorem h34 : Holds Try.prog eid 34 (s34) := by
  refine hold tb0_ok Try.func34 (by kernel_rfl) ?_ (by kernel_rfl)
  intro xs M t h
  unfold s34 at h
  split at h
  case h_2 => cases h
  rename_i a
  cases h
  refine ⟨fun l h => (nomatch h), fun hp => ?_⟩
  rw [v34_vc]
  simp only [cnd_iff]
  refine ⟨fun h => ?_, fun h => ⟨fun k => ?_, fun k => ?_⟩⟩ <;> refine ends_pl ?_ <;> simp only [decide_eq_true_eq, decide_eq_false_iff_not] at * <;> simp [floorsI, clampI, *]
theorem tb1_ok : GamOk Try.prog eid (gam tb1) := gam_cons h34 tb0_ok
theorem h72 : Holds Try.prog eid 72 (s72) := by
  refine hold tb1_ok Try.func72 (by kernel_rfl) ?_ (by kernel_rfl)
  intro xs M t h
  unfold s72 at h
  split at h
  case h_2 => cases h
  rename_i a
  cases h
  refine ⟨fun l h => (nomatch h), fun hp => ?_⟩
  rw [v72_vc]
  exact ends_pl (congrArg _ (mm_clamp (by decide) _))
theorem tb2_ok : GamOk Try.prog eid (gam tb2) := gam_cons h72 tb1_ok
theorem h70 : Holds Try.prog eid 70 (s70) := by
  refine hold tb2_ok Try.func70 (by kernel_rfl) ?_ (by kernel_rfl)
  intro xs M t h
  unfold s70 at h
  split at h
  case h_2 => cases h
  rename_i a
  cases h
  refine ⟨fun l h => (nomatch h), fun hp => ?_⟩
  rw [v70_vc]
  exact ends_pl (congrArg _ (mm_clamp (by decide) _))
theorem tb3_ok : GamOk Try.prog eid (gam tb3) := gam_cons h70 tb2_ok
theorem h61 : Holds Try.prog eid 61 (s61) := by
  refine hold tb3_ok Try.func61 (by kernel_rfl) ?_ (by kernel_rfl)
  intro xs M t h
  unfold s61 at h
  split at h
  case h_2 => cases h
  rename_i a b
  cases h
  refine ⟨fun l h => (nomatch h), fun hp => ?_⟩
  rw [v61_vc]
  exact ends_pl rfl
theorem tb4_ok : GamOk Try.prog eid (gam tb4) := gam_cons h61 tb3_ok
theorem h69 : Holds Try.prog eid 69 (s69) := by
  refine hold tb4_ok Try.func69 (by kernel_rfl) ?_ (by kernel_rfl)
  intro xs M t h
  unfold s69 at h
  split at h
  case h_2 => cases h
  rename_i a
  cases h
  refine ⟨fun l h => (nomatch h), fun hp => ?_⟩
  rw [v69_vc]
  simp only [cnd_iff]
  refine ⟨fun h => ?_, fun h => ⟨fun k => ?_, fun k => ?_⟩⟩ <;> refine ends_pl ?_ <;> simp only [decide_eq_true_eq, decide_eq_false_iff_not] at * <;> simp [spanI, clampI, *]
theorem tb5_ok : GamOk Try.prog eid (gam tb5) := gam_cons h69 tb4_ok
theorem h71 : Holds Try.prog eid 71 (s71) := by
  refine hold tb5_ok Try.func71 (by kernel_rfl) ?_ (by kernel_rfl)
  intro xs M t h
  unfold s71 at h
  split at h
  case h_2 => cases h
  rename_i a
  cases h
  refine ⟨fun l h => (nomatch h), fun hp => ?_⟩
  rw [v71_vc]
  exact ends_pl (congrArg _ (mm_clamp (by decide) _))
theorem tb6_ok : GamOk Try.prog eid (gam tb6) := gam_cons h71 tb5_ok
theorem h68 : Holds Try.prog eid 68 (s68) := by
  refine hold tb6_ok Try.func68 (by kernel_rfl) ?_ (by kernel_rfl)
  intro xs M t h
  unfold s68 at h
  split at h
  case h_2 => cases h
  rename_i a
  cases h
  refine ⟨fun l h => (nomatch h), fun hp => ?_⟩
  rw [v68_vc]
  have := floorsI_range a
  refine ends_pl (congrArg _ ?_)
  simp only [IntKind.wrap_i64]
  omega
theorem tb7_ok : GamOk Try.prog eid (gam tb7) := gam_cons h68 tb6_ok
theorem h56 : Holds Try.prog eid 56 (s56) := by
  refine hold tb7_ok Try.func56 (by kernel_rfl) ?_ (by kernel_rfl)
  intro xs M t h
  unfold s56 at h
  split at h
  case h_2 => cases h
  rename_i a
  cases h
  refine ⟨fun l h => (nomatch h), fun hp => ?_⟩
  rw [v56_vc]
  refine ⟨fun _ => by decide, cnd_iff.2 ⟨fun h => ?_, fun h => ⟨by decide, ?_⟩⟩⟩
  · have hb : levelB a = false := by
      by_cases h0 : 0 ≤ a
      · rw [Int.tmod_eq_emod_of_nonneg h0] at h
        simp only [show floorsI 64 = 64 by decide, c_and, c_or, Bool.and_eq_true, Bool.or_eq_true, Bool.and_eq_false_iff, Bool.or_eq_false_iff, Bool.not_eq_true', Bool.not_eq_false', beq_iff_eq, beq_eq_false_iff_ne, bne_iff_ne, bne_eq_false_iff_eq, ne_eq, decide_eq_true_eq, decide_eq_false_iff_not] at h
        unfold levelB; simp; omega
      · unfold levelB; simp; omega
    exact ends_v (by unfold levelF; rw [hb]; rfl) rfl
  · simp only [show floorsI 64 = 64 by decide, c_and, c_or, Bool.and_eq_true, Bool.or_eq_true, Bool.and_eq_false_iff, Bool.or_eq_false_iff, Bool.not_eq_true', Bool.not_eq_false', beq_iff_eq, beq_eq_false_iff_ne, bne_iff_ne, bne_eq_false_iff_eq, ne_eq, decide_eq_true_eq, decide_eq_false_iff_not] at h
    have h0 : 0 ≤ a := by omega
    rw [Int.tmod_eq_emod_of_nonneg h0] at h
    have hb : levelB a = true := by unfold levelB; simp; omega
    rw [Int.tdiv_eq_ediv_of_nonneg h0, wrap_id (by omega) (by omega)]
    exact ends_v (by unfold levelF; rw [hb]; rfl) rfl
theorem tb8_ok : GamOk Try.prog eid (gam tb8) := gam_cons h56 tb7_ok
theorem h49 : Holds Try.prog eid 49 (s49) := by
  refine hold tb8_ok Try.func49 (by kernel_rfl) ?_ (by kernel_rfl)
  intro xs M t h
  unfold s49 at h
  split at h
  case h_2 => cases h
  rename_i a
  cases h
  refine ⟨fun l h => (nomatch h), fun hp => ?_⟩
  rw [v49_vc]
  refine ⟨fun _ => by decide, cnd_iff.2 ⟨fun h => ?_, fun h => ⟨by decide, ?_⟩⟩⟩
  · have hb : levelB a = false := by
      by_cases h0 : 0 ≤ a
      · rw [Int.tmod_eq_emod_of_nonneg h0] at h
        simp only [c_and, c_or, Bool.and_eq_true, Bool.or_eq_true, Bool.and_eq_false_iff, Bool.or_eq_false_iff, Bool.not_eq_true', Bool.not_eq_false', beq_iff_eq, beq_eq_false_iff_ne, bne_iff_ne, bne_eq_false_iff_eq, ne_eq, decide_eq_true_eq, decide_eq_false_iff_not] at h
        unfold levelB; simp; omega
      · unfold levelB; simp; omega
    exact ends_v (by unfold levelF; rw [hb]; rfl) rfl
  · simp only [c_and, c_or, Bool.and_eq_true, Bool.or_eq_true, Bool.and_eq_false_iff, Bool.or_eq_false_iff, Bool.not_eq_true', Bool.not_eq_false', beq_iff_eq, beq_eq_false_iff_ne, bne_iff_ne, bne_eq_false_iff_eq, ne_eq, decide_eq_true_eq, decide_eq_false_iff_not] at h
    have h0 : 0 ≤ a := by omega
    rw [Int.tmod_eq_emod_of_nonneg h0] at h
    have hb : levelB a = true := by unfold levelB; simp; omega
    rw [Int.tdiv_eq_ediv_of_nonneg h0, wrap_id (by omega) (by omega)]
    exact ends_v (by unfold levelF; rw [hb]; rfl) rfl
theorem tb9_ok : GamOk Try.prog eid (gam tb9) := gam_cons h49 tb8_ok
theorem h67 : Holds Try.prog eid 67 (s67) := by
  refine hold tb9_ok Try.func67 (by kernel_rfl) ?_ (by kernel_rfl)
  intro xs M t h
  unfold s67 at h
  split at h
  case h_2 => cases h
  rename_i u w f
  cases h
  refine ⟨fun l h => (nomatch h), fun hp => ?_⟩
  rw [v67_vc]
  have hp : r64 u := hp
  unfold r64 at hp
  have hf := floorsI_range f
  repeat' first
    | refine cnd_iff.2 ⟨fun _ => ?_, fun _ => ?_⟩
    | refine ends_pl (congrArg _ ?_)
  all_goals try simp only [c_and, c_or, Bool.and_eq_true, Bool.or_eq_true, Bool.and_eq_false_iff, Bool.or_eq_false_iff, Bool.not_eq_true', Bool.not_eq_false', beq_iff_eq, beq_eq_false_iff_ne, bne_iff_ne, bne_eq_false_iff_eq, ne_eq, decide_eq_true_eq, decide_eq_false_iff_not, mm_max, mm_min, IntKind.wrap_i64, moveI] at *
  all_goals (repeat' split)
  all_goals omega
theorem tb10_ok : GamOk Try.prog eid (gam tb10) := gam_cons h67 tb9_ok
theorem h59 : Holds Try.prog eid 59 (s59) := by
  refine hold tb10_ok Try.func59 (by kernel_rfl) ?_ (by kernel_rfl)
  intro xs M t h
  unfold s59 at h
  split at h
  case h_2 => cases h
  rename_i u f
  cases h
  refine ⟨fun l h => (nomatch h), fun hp => ?_⟩
  rw [v59_vc]
  repeat' first
    | refine cnd_iff.2 ⟨fun _ => ?_, fun _ => ?_⟩
    | refine ends_pl (congrArg _ ?_)
  all_goals try simp only [c_and, c_or, Bool.and_eq_true, Bool.or_eq_true, Bool.and_eq_false_iff, Bool.or_eq_false_iff, Bool.not_eq_true', Bool.not_eq_false', beq_iff_eq, beq_eq_false_iff_ne, bne_iff_ne, bne_eq_false_iff_eq, ne_eq, decide_eq_true_eq, decide_eq_false_iff_not, mm_max, mm_min, IntKind.wrap_i64, towardI, at4] at *
  all_goals (repeat' split)
  all_goals omega
theorem tb11_ok : GamOk Try.prog eid (gam tb11) := gam_cons h59 tb10_ok
end Go.Proofs.Ytjbdabpjepjohaa
