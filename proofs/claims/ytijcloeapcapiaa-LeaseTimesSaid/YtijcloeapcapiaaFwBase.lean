/- The functions of this group answer so. -/
import Derived.Test.YtijcloeapcapiaaFwBaseV
set_option linter.unusedVariables false
set_option linter.unusedSimpArgs false
set_option maxRecDepth 20000
set_option maxHeartbeats 4000000
namespace Go.Proofs.Ytijcloeapcapiaa
open Lw
theorem tb0_ok : GamOk Try.prog eid (gam tb0) := gam_nil
theorem floorsI_range (n : Int) : 2 ≤ floorsI n ∧ floorsI n ≤ 64 := clampI_range (by decide) n
theorem spanI_range (n : Int) : 1 ≤ spanI n ∧ spanI n ≤ 1000 := clampI_range (by decide) n
theorem renewI_range (n : Int) : 0 ≤ renewI n ∧ renewI n ≤ 1000 := clampI_range (by decide) n
theorem massI_range (n : Int) : 0 ≤ massI n ∧ massI n ≤ 10000 := clampI_range (by decide) n
theorem timeI_range (n : Int) : 0 ≤ timeI n ∧ timeI n ≤ 1099511627776 := clampI_range (by decide) n
theorem tripI_range (c : Config) : 11 ≤ tripI c ∧ tripI c ≤ 3256 := by
  have := floorsI_range c.floors
  have := spanI_range c.door
  unfold tripI; omega
theorem timeI_id {n : Int} (h : 0 ≤ n) (k : n ≤ 1099511627776) : timeI n = n := by unfold timeI clampI; split <;> (try split) <;> omega
theorem massI_id {n : Int} (h : 0 ≤ n) (k : n ≤ 10000) : massI n = n := by unfold massI clampI; split <;> (try split) <;> omega
theorem timeI_time (n : Int) : timeI (timeI n) = timeI n := timeI_id (timeI_range n).1 (timeI_range n).2
theorem h58 : Holds Try.prog eid 58 (s58) := by
  refine hold tb0_ok Try.func58 (by kernel_rfl) ?_ (by kernel_rfl)
  intro xs M t h
  unfold s58 at h
  split at h
  case h_2 => cases h
  rename_i a
  cases h
  refine ⟨fun l h => (nomatch h), fun hp => ?_⟩
  rw [v58_vc]
  simp only [cnd_iff]
  refine ⟨fun h => ?_, fun h => ⟨fun k => ?_, fun k => ?_⟩⟩ <;> refine ends_pl ?_ <;> simp only [decide_eq_true_eq, decide_eq_false_iff_not] at * <;> simp [floorsI, clampI, *]
theorem tb1_ok : GamOk Try.prog eid (gam tb1) := gam_cons h58 tb0_ok
theorem h64 : Holds Try.prog eid 64 (s64) := by
  refine hold tb1_ok Try.func64 (by kernel_rfl) ?_ (by kernel_rfl)
  intro xs M t h
  unfold s64 at h
  split at h
  case h_2 => cases h
  rename_i a
  cases h
  refine ⟨fun l h => (nomatch h), fun hp => ?_⟩
  rw [v64_vc]
  exact ends_pl (congrArg _ (mm_clamp (by decide) _))
theorem tb2_ok : GamOk Try.prog eid (gam tb2) := gam_cons h64 tb1_ok
theorem h57 : Holds Try.prog eid 57 (s57) := by
  refine hold tb2_ok Try.func57 (by kernel_rfl) ?_ (by kernel_rfl)
  intro xs M t h
  unfold s57 at h
  split at h
  case h_2 => cases h
  rename_i a
  cases h
  refine ⟨fun l h => (nomatch h), fun hp => ?_⟩
  rw [v57_vc]
  simp only [cnd_iff]
  refine ⟨fun h => ?_, fun h => ⟨fun k => ?_, fun k => ?_⟩⟩ <;> refine ends_pl ?_ <;> simp only [decide_eq_true_eq, decide_eq_false_iff_not] at * <;> simp [massI, clampI, *]
theorem tb3_ok : GamOk Try.prog eid (gam tb3) := gam_cons h57 tb2_ok
theorem h55 : Holds Try.prog eid 55 (s55) := by
  refine hold tb3_ok Try.func55 (by kernel_rfl) ?_ (by kernel_rfl)
  intro xs M t h
  unfold s55 at h
  split at h
  case h_2 => cases h
  rename_i a
  cases h
  refine ⟨fun l h => (nomatch h), fun hp => ?_⟩
  rw [v55_vc]
  exact ends_pl (congrArg _ (mm_clamp (by decide) _))
theorem tb4_ok : GamOk Try.prog eid (gam tb4) := gam_cons h55 tb3_ok
theorem h54 : Holds Try.prog eid 54 (s54) := by
  refine hold tb4_ok Try.func54 (by kernel_rfl) ?_ (by kernel_rfl)
  intro xs M t h
  unfold s54 at h
  split at h
  case h_2 => cases h
  rename_i a b c
  cases h
  refine ⟨fun l h => (nomatch h), fun hp => ?_⟩
  rw [v54_vc]
  refine ends_pl ?_
  have ha := massI_range a
  have hb := massI_range b
  rw [wrap_id (n := massI a - massI b) (by omega) (by omega), wrap_id (n := 0 - (massI a - massI b)) (by omega) (by omega)]
  unfold nearB
  congr 1
  simp only [mm, cond_true]
  split <;> rw [decide_eq_decide] <;> constructor <;> omega
theorem tb5_ok : GamOk Try.prog eid (gam tb5) := gam_cons h54 tb4_ok
theorem h59 : Holds Try.prog eid 59 (s59) := by
  refine hold tb5_ok Try.func59 (by kernel_rfl) ?_ (by kernel_rfl)
  intro xs M t h
  unfold s59 at h
  split at h
  case h_2 => cases h
  rename_i a b c
  cases h
  refine ⟨fun l h => (nomatch h), fun hp => ?_⟩
  rw [v59_vc]
  simp only [cnd_iff]
  refine ⟨fun h => ?_, fun h => ⟨fun k => ?_, fun k => ?_⟩⟩ <;> refine ends_pl ?_ <;> simp only [decide_eq_true_eq, decide_eq_false_iff_not] at * <;> simp [clampI, *]
theorem tb6_ok : GamOk Try.prog eid (gam tb6) := gam_cons h59 tb5_ok
theorem h67 : Holds Try.prog eid 67 (s67) := by
  refine hold tb6_ok Try.func67 (by kernel_rfl) ?_ (by kernel_rfl)
  intro xs M t h
  unfold s67 at h
  split at h
  case h_2 => cases h
  rename_i a
  cases h
  refine ⟨fun l h => (nomatch h), fun hp => ?_⟩
  rw [v67_vc]
  simp only [cnd_iff]
  refine ⟨fun h => ?_, fun h => ⟨fun k => ?_, fun k => ?_⟩⟩ <;> refine ends_pl ?_ <;> simp only [decide_eq_true_eq, decide_eq_false_iff_not] at * <;> simp [spanI, clampI, *]
theorem tb7_ok : GamOk Try.prog eid (gam tb7) := gam_cons h67 tb6_ok
theorem h27 : Holds Try.prog eid 27 (s27) := by
  refine hold tb7_ok Try.func27 (by kernel_rfl) ?_ (by kernel_rfl)
  intro xs M t h
  unfold s27 at h
  split at h
  case h_2 => cases h
  rename_i a
  cases h
  refine ⟨fun l h => (nomatch h), fun hp => ?_⟩
  rw [v27_vc]
  exact ends_pl rfl
theorem tb8_ok : GamOk Try.prog eid (gam tb8) := gam_cons h27 tb7_ok
theorem h37 : Holds Try.prog eid 37 (s37) := by
  refine hold tb8_ok Try.func37 (by kernel_rfl) ?_ (by kernel_rfl)
  intro xs M t h
  unfold s37 at h
  split at h
  case h_2 => cases h
  rename_i a
  cases h
  refine ⟨fun l h => (nomatch h), fun hp => ?_⟩
  rw [v37_vc]
  exact ends_pl (congrArg _ (mm_clamp (by decide) _))
theorem tb9_ok : GamOk Try.prog eid (gam tb9) := gam_cons h37 tb8_ok
theorem h98 : Holds Try.prog eid 98 (s98) := by
  refine hold tb9_ok Try.func98 (by kernel_rfl) ?_ (by kernel_rfl)
  intro xs M t h
  unfold s98 at h
  split at h
  case h_2 => cases h
  rename_i a
  cases h
  refine ⟨fun l h => (nomatch h), fun hp => ?_⟩
  rw [v98_vc]
  exact ends_pl (congrArg _ (mm_clamp (by decide) _))
theorem tb10_ok : GamOk Try.prog eid (gam tb10) := gam_cons h98 tb9_ok
theorem h62 : Holds Try.prog eid 62 (s62) := by
  refine hold tb10_ok Try.func62 (by kernel_rfl) ?_ (by kernel_rfl)
  intro xs M t h
  unfold s62 at h
  split at h
  case h_2 => cases h
  rename_i a
  cases h
  refine ⟨fun l h => (nomatch h), fun hp => ?_⟩
  rw [v62_vc]
  exact ends_pl (congrArg _ (mm_clamp (by decide) _))
theorem tb11_ok : GamOk Try.prog eid (gam tb11) := gam_cons h62 tb10_ok
theorem h28 : Holds Try.prog eid 28 (s28) := by
  refine hold tb11_ok Try.func28 (by kernel_rfl) ?_ (by kernel_rfl)
  intro xs M t h
  unfold s28 at h
  split at h
  case h_2 => cases h
  rename_i csc
  obtain ⟨c, hcc, h1⟩ := Option.bind_eq_some_iff.1 h
  clear h
  have h := h1
  clear h1
  cases h
  cases Lw.Config.of_eq hcc
  clear hcc
  refine ⟨fun l h => (nomatch h), fun hp => ?_⟩
  rw [v28_vc]
  exact ends_pl rfl
theorem tb12_ok : GamOk Try.prog eid (gam tb12) := gam_cons h28 tb11_ok
theorem h56 : Holds Try.prog eid 56 (s56) := by
  refine hold tb12_ok Try.func56 (by kernel_rfl) ?_ (by kernel_rfl)
  intro xs M t h
  unfold s56 at h
  split at h
  case h_2 => cases h
  rename_i csc
  obtain ⟨c, hcc, h1⟩ := Option.bind_eq_some_iff.1 h
  clear h
  have h := h1
  clear h1
  cases h
  cases Lw.Config.of_eq hcc
  clear hcc
  refine ⟨fun l h => (nomatch h), fun hp => ?_⟩
  rw [v56_vc]
  exact ends_pl (congrArg _ (mm_clamp (by decide) _))
theorem tb13_ok : GamOk Try.prog eid (gam tb13) := gam_cons h56 tb12_ok
theorem h25 : Holds Try.prog eid 25 (s25) := by
  refine hold tb13_ok Try.func25 (by kernel_rfl) ?_ (by kernel_rfl)
  intro xs M t h
  unfold s25 at h
  split at h
  case h_2 => cases h
  rename_i csc
  obtain ⟨c, hcc, h1⟩ := Option.bind_eq_some_iff.1 h
  clear h
  have h := h1
  clear h1
  cases h
  cases Lw.Config.of_eq hcc
  clear hcc
  refine ⟨fun l h => (nomatch h), fun hp => ?_⟩
  rw [v25_vc]
  have := floorsI_range c.floors
  have := spanI_range c.door
  refine ends_pl (congrArg _ ?_)
  simp only [IntKind.wrap_i64, tripI]
  omega
theorem tb14_ok : GamOk Try.prog eid (gam tb14) := gam_cons h25 tb13_ok
theorem h36 : Holds Try.prog eid 36 (s36) := by
  refine hold tb14_ok Try.func36 (by kernel_rfl) ?_ (by kernel_rfl)
  intro xs M t h
  unfold s36 at h
  split at h
  case h_2 => cases h
  rename_i csc
  obtain ⟨c, hcc, h1⟩ := Option.bind_eq_some_iff.1 h
  clear h
  have h := h1
  clear h1
  cases h
  cases Lw.Config.of_eq hcc
  clear hcc
  refine ⟨fun l h => (nomatch h), fun hp => ?_⟩
  rw [v36_vc]
  have := floorsI_range c.floors
  have := spanI_range c.door
  refine ends_pl (congrArg _ ?_)
  simp only [IntKind.wrap_i64, tripI]
  omega
theorem tb15_ok : GamOk Try.prog eid (gam tb15) := gam_cons h36 tb14_ok
theorem h26 : Holds Try.prog eid 26 (s26) := by
  refine hold tb15_ok Try.func26 (by kernel_rfl) ?_ (by kernel_rfl)
  intro xs M t h
  unfold s26 at h
  split at h
  case h_2 => cases h
  rename_i csc
  obtain ⟨c, hcc, h1⟩ := Option.bind_eq_some_iff.1 h
  clear h
  have h := h1
  clear h1
  cases h
  cases Lw.Config.of_eq hcc
  clear hcc
  refine ⟨fun l h => (nomatch h), fun hp => ?_⟩
  rw [v26_vc]
  have := tripI_range c
  have hs := spanI_range c.hold
  have hr := renewI_range c.renew
  have hm := mul_range (a := spanI c.hold) (b := 2 + renewI c.renew) (A := 1000) (B := 1002) (by omega) (by omega) (by omega) (by omega)
  refine ends_pl (congrArg _ ?_)
  rw [wrap_id (n := 2 + renewI c.renew) (by omega) (by omega)]
  unfold leaseI
  generalize spanI c.hold * (2 + renewI c.renew) = z at hm
  simp only [IntKind.wrap_i64]
  omega
theorem tb16_ok : GamOk Try.prog eid (gam tb16) := gam_cons h26 tb15_ok
theorem h22 : Holds Try.prog eid 22 (s22) := by
  refine hold tb16_ok Try.func22 (by kernel_rfl) ?_ (by kernel_rfl)
  intro xs M t h
  unfold s22 at h
  split at h
  case h_2 => cases h
  rename_i a
  cases h
  refine ⟨fun l h => (nomatch h), fun hp => ?_⟩
  rw [v22_vc]
  simp only [cnd_iff]
  refine ⟨fun h => ?_, fun h => ⟨fun k => ?_, fun k => ?_⟩⟩ <;> refine ends_pl ?_ <;> simp only [decide_eq_true_eq, decide_eq_false_iff_not] at * <;> simp [timeI, clampI, *]
theorem tb17_ok : GamOk Try.prog eid (gam tb17) := gam_cons h22 tb16_ok
theorem h53 : Holds Try.prog eid 53 (s53) := by
  refine hold tb17_ok Try.func53 (by kernel_rfl) ?_ (by kernel_rfl)
  intro xs M t h
  unfold s53 at h
  split at h
  case h_2 => cases h
  rename_i a
  cases h
  refine ⟨fun l h => (nomatch h), fun hp => ?_⟩
  rw [v53_vc]
  exact ends_pl (congrArg _ (mm_clamp (by decide) _))
theorem tb18_ok : GamOk Try.prog eid (gam tb18) := gam_cons h53 tb17_ok
theorem h52 : Holds Try.prog eid 52 (s52) := by
  refine hold tb18_ok Try.func52 (by kernel_rfl) ?_ (by kernel_rfl)
  intro xs M t h
  unfold s52 at h
  split at h
  case h_2 => cases h
  rename_i a b
  cases h
  refine ⟨fun l h => (nomatch h), fun hp => ?_⟩
  rw [v52_vc]
  have := timeI_range a
  have := timeI_range b
  rw [wrap_id (by omega) (by omega)]
  exact ends_pl rfl
theorem tb19_ok : GamOk Try.prog eid (gam tb19) := gam_cons h52 tb18_ok
theorem h86 : Holds Try.prog eid 86 (s86) := by
  refine hold tb19_ok Try.func86 (by kernel_rfl) ?_ (by kernel_rfl)
  intro xs M t h
  unfold s86 at h
  split at h
  case h_2 => cases h
  rename_i a b
  cases h
  refine ⟨fun l h => (nomatch h), fun hp => ?_⟩
  rw [v86_vc]
  have := timeI_range a
  have := timeI_range b
  rw [wrap_id (by omega) (by omega)]
  exact ends_pl rfl
theorem tb20_ok : GamOk Try.prog eid (gam tb20) := gam_cons h86 tb19_ok
theorem h46 : Holds Try.prog eid 46 (s46) := by
  refine hold tb20_ok Try.func46 (by kernel_rfl) ?_ (by kernel_rfl)
  intro xs M t h
  unfold s46 at h
  split at h
  case h_2 => cases h
  rename_i a b
  cases h
  refine ⟨fun l h => (nomatch h), fun hp => ?_⟩
  rw [v46_vc]
  exact ends_pl rfl
theorem tb21_ok : GamOk Try.prog eid (gam tb21) := gam_cons h46 tb20_ok
theorem h99 : Holds Try.prog eid 99 (s99) := by
  refine hold tb21_ok Try.func99 (by kernel_rfl) ?_ (by kernel_rfl)
  intro xs M t h
  unfold s99 at h
  split at h
  case h_2 => cases h
  rename_i a
  cases h
  refine ⟨fun l h => (nomatch h), fun hp => ?_⟩
  rw [v99_vc]
  have := floorsI_range a
  refine ends_pl (congrArg _ ?_)
  simp only [IntKind.wrap_i64]
  omega
theorem tb22_ok : GamOk Try.prog eid (gam tb22) := gam_cons h99 tb21_ok
theorem h85 : Holds Try.prog eid 85 (s85) := by
  refine hold tb22_ok Try.func85 (by kernel_rfl) ?_ (by kernel_rfl)
  intro xs M t h
  unfold s85 at h
  split at h
  case h_2 => cases h
  rename_i a
  cases h
  refine ⟨fun l h => (nomatch h), fun hp => ?_⟩
  rw [v85_vc]
  refine ⟨fun _ => by decide, cnd_iff.2 ⟨fun h => ?_, fun h => ⟨by decide, ?_⟩⟩⟩
  · have hb : levelB a = false := by
      by_cases h0 : 0 ≤ a
      · rw [Int.tmod_eq_emod_of_nonneg h0] at h
        simp only [show floorsI 64 = 64 by decide, c_and, c_or, Bool.and_eq_true, Bool.or_eq_true, Bool.and_eq_false_iff, Bool.or_eq_false_iff, Bool.not_eq_true', Bool.not_eq_false', beq_iff_eq, beq_eq_false_iff_ne, bne_iff_ne, bne_eq_false_iff_eq, ne_eq, decide_eq_true_eq, decide_eq_false_iff_not] at h
        unfold levelB; simp; omega
      · unfold levelB; simp; omega
    exact ends_v (by unfold levelF; rw [hb]; rfl) rfl
  · simp only [show floorsI 64 = 64 by decide, c_and, c_or, Bool.and_eq_true, Bool.or_eq_true, Bool.and_eq_false_iff, Bool.or_eq_false_iff, Bool.not_eq_true', Bool.not_eq_false', beq_iff_eq, beq_eq_false_iff_ne, bne_iff_ne, bne_eq_false_iff_eq, ne_eq, decide_eq_true_eq, decide_eq_false_iff_not] at h
    have h0 : 0 ≤ a := by omega
    rw [Int.tmod_eq_emod_of_nonneg h0] at h
    have hb : levelB a = true := by unfold levelB; simp; omega
    rw [Int.tdiv_eq_ediv_of_nonneg h0, wrap_id (by omega) (by omega)]
    exact ends_v (by unfold levelF; rw [hb]; rfl) rfl
theorem tb23_ok : GamOk Try.prog eid (gam tb23) := gam_cons h85 tb22_ok
theorem h51 : Holds Try.prog eid 51 (s51) := by
  refine hold tb23_ok Try.func51 (by kernel_rfl) ?_ (by kernel_rfl)
  intro xs M t h
  unfold s51 at h
  split at h
  case h_2 => cases h
  rename_i a
  cases h
  refine ⟨fun l h => (nomatch h), fun hp => ?_⟩
  rw [v51_vc]
  refine ⟨fun _ => by decide, cnd_iff.2 ⟨fun h => ?_, fun h => ⟨by decide, ?_⟩⟩⟩
  · have hb : levelB a = false := by
      by_cases h0 : 0 ≤ a
      · rw [Int.tmod_eq_emod_of_nonneg h0] at h
        simp only [c_and, c_or, Bool.and_eq_true, Bool.or_eq_true, Bool.and_eq_false_iff, Bool.or_eq_false_iff, Bool.not_eq_true', Bool.not_eq_false', beq_iff_eq, beq_eq_false_iff_ne, bne_iff_ne, bne_eq_false_iff_eq, ne_eq, decide_eq_true_eq, decide_eq_false_iff_not] at h
        unfold levelB; simp; omega
      · unfold levelB; simp; omega
    exact ends_v (by unfold levelF; rw [hb]; rfl) rfl
  · simp only [c_and, c_or, Bool.and_eq_true, Bool.or_eq_true, Bool.and_eq_false_iff, Bool.or_eq_false_iff, Bool.not_eq_true', Bool.not_eq_false', beq_iff_eq, beq_eq_false_iff_ne, bne_iff_ne, bne_eq_false_iff_eq, ne_eq, decide_eq_true_eq, decide_eq_false_iff_not] at h
    have h0 : 0 ≤ a := by omega
    rw [Int.tmod_eq_emod_of_nonneg h0] at h
    have hb : levelB a = true := by unfold levelB; simp; omega
    rw [Int.tdiv_eq_ediv_of_nonneg h0, wrap_id (by omega) (by omega)]
    exact ends_v (by unfold levelF; rw [hb]; rfl) rfl
theorem tb24_ok : GamOk Try.prog eid (gam tb24) := gam_cons h51 tb23_ok
theorem h82 : Holds Try.prog eid 82 (s82) := by
  refine hold tb24_ok Try.func82 (by kernel_rfl) ?_ (by kernel_rfl)
  intro xs M t h
  unfold s82 at h
  split at h
  case h_2 => cases h
  rename_i u w f
  cases h
  refine ⟨fun l h => (nomatch h), fun hp => ?_⟩
  rw [v82_vc]
  have hp : r64 u := hp
  unfold r64 at hp
  have hf := floorsI_range f
  repeat' first
    | refine cnd_iff.2 ⟨fun _ => ?_, fun _ => ?_⟩
    | refine ends_pl (congrArg _ ?_)
  all_goals try simp only [c_and, c_or, Bool.and_eq_true, Bool.or_eq_true, Bool.and_eq_false_iff, Bool.or_eq_false_iff, Bool.not_eq_true', Bool.not_eq_false', beq_iff_eq, beq_eq_false_iff_ne, bne_iff_ne, bne_eq_false_iff_eq, ne_eq, decide_eq_true_eq, decide_eq_false_iff_not, mm_max, mm_min, IntKind.wrap_i64, moveI] at *
  all_goals (repeat' split)
  all_goals omega
theorem tb25_ok : GamOk Try.prog eid (gam tb25) := gam_cons h82 tb24_ok
theorem h84 : Holds Try.prog eid 84 (s84) := by
  refine hold tb25_ok Try.func84 (by kernel_rfl) ?_ (by kernel_rfl)
  intro xs M t h
  unfold s84 at h
  split at h
  case h_2 => cases h
  rename_i u w f
  cases h
  refine ⟨fun l h => (nomatch h), fun hp => ?_⟩
  rw [v84_vc]
  have hp : r64 u := hp
  unfold r64 at hp
  have hf := floorsI_range f
  repeat' first
    | refine cnd_iff.2 ⟨fun _ => ?_, fun _ => ?_⟩
    | refine ends_pl (congrArg _ ?_)
  all_goals try simp only [c_and, c_or, Bool.and_eq_true, Bool.or_eq_true, Bool.and_eq_false_iff, Bool.or_eq_false_iff, Bool.not_eq_true', Bool.not_eq_false', beq_iff_eq, beq_eq_false_iff_ne, bne_iff_ne, bne_eq_false_iff_eq, ne_eq, decide_eq_true_eq, decide_eq_false_iff_not, mm_max, mm_min, IntKind.wrap_i64, moveI] at *
  all_goals (repeat' split)
  all_goals omega
theorem tb26_ok : GamOk Try.prog eid (gam tb26) := gam_cons h84 tb25_ok
theorem h88 : Holds Try.prog eid 88 (s88) := by
  refine hold tb26_ok Try.func88 (by kernel_rfl) ?_ (by kernel_rfl)
  intro xs M t h
  unfold s88 at h
  split at h
  case h_2 => cases h
  rename_i u f
  cases h
  refine ⟨fun l h => (nomatch h), fun hp => ?_⟩
  rw [v88_vc]
  repeat' first
    | refine cnd_iff.2 ⟨fun _ => ?_, fun _ => ?_⟩
    | refine ends_pl (congrArg _ ?_)
  all_goals try simp only [c_and, c_or, Bool.and_eq_true, Bool.or_eq_true, Bool.and_eq_false_iff, Bool.or_eq_false_iff, Bool.not_eq_true', Bool.not_eq_false', beq_iff_eq, beq_eq_false_iff_ne, bne_iff_ne, bne_eq_false_iff_eq, ne_eq, decide_eq_true_eq, decide_eq_false_iff_not, mm_max, mm_min, IntKind.wrap_i64, towardI, at4] at *
  all_goals (repeat' split)
  all_goals omega
theorem tb27_ok : GamOk Try.prog eid (gam tb27) := gam_cons h88 tb26_ok
theorem h60 : Holds Try.prog eid 60 (s60) := by
  refine hold tb27_ok Try.func60 (by kernel_rfl) ?_ (by kernel_rfl)
  intro xs M t h
  unfold s60 at h
  split at h
  case h_2 => cases h
  rename_i u f
  cases h
  refine ⟨fun l h => (nomatch h), fun hp => ?_⟩
  rw [v60_vc]
  exact ends_pl rfl
theorem tb28_ok : GamOk Try.prog eid (gam tb28) := gam_cons h60 tb27_ok
end Go.Proofs.Ytijcloeapcapiaa
