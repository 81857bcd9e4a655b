/- The functions of this group answer so. -/
import Derived.Test.YtgkhhfdbjcjamaaFwBaseV
set_option linter.unusedVariables false
set_option linter.unusedSimpArgs false
set_option maxRecDepth 20000
namespace Go.Proofs.Ytgkhhfdbjcjamaa
open Lw
theorem tb0_ok : GamOk Try.prog eid (gam tb0) := gam_nil
theorem floorsI_range (n : Int) : 2 ≤ floorsI n ∧ floorsI n ≤ 64 := clampI_range (by decide) n
theorem spanI_range (n : Int) : 1 ≤ spanI n ∧ spanI n ≤ 1000 := clampI_range (by decide) n
theorem renewI_range (n : Int) : 0 ≤ renewI n ∧ renewI n ≤ 1000 := clampI_range (by decide) n
theorem massI_range (n : Int) : 0 ≤ massI n ∧ massI n ≤ 10000 := clampI_range (by decide) n
theorem timeI_range (n : Int) : 0 ≤ timeI n ∧ timeI n ≤ 1099511627776 := clampI_range (by decide) n
theorem tripI_range (c : Config) : 11 ≤ tripI c ∧ tripI c ≤ 3256 := by
  have := floorsI_range c.floors
  have := spanI_range c.door
  unfold tripI; omega
theorem timeI_id {n : Int} (h : 0 ≤ n) (k : n ≤ 1099511627776) : timeI n = n := by unfold timeI clampI; split <;> (try split) <;> omega
theorem massI_id {n : Int} (h : 0 ≤ n) (k : n ≤ 10000) : massI n = n := by unfold massI clampI; split <;> (try split) <;> omega
theorem timeI_time (n : Int) : timeI (timeI n) = timeI n := timeI_id (timeI_range n).1 (timeI_range n).2
theorem h40 : Holds Try.prog eid 40 (s40) := by
  refine hold tb0_ok Try.func40 (by kernel_rfl) ?_ (by kernel_rfl)
  intro xs M t h
  unfold s40 at h
  split at h
  case h_2 => cases h
  rename_i a
  cases h
  refine ⟨fun l h => (nomatch h), fun hp => ?_⟩
  rw [v40_vc]
  simp only [cnd_iff]
  refine ⟨fun h => ?_, fun h => ⟨fun k => ?_, fun k => ?_⟩⟩ <;> refine ends_pl ?_ <;> simp only [decide_eq_true_eq, decide_eq_false_iff_not] at * <;> simp [floorsI, clampI, *]
theorem tb1_ok : GamOk Try.prog eid (gam tb1) := gam_cons h40 tb0_ok
theorem h44 : Holds Try.prog eid 44 (s44) := by
  refine hold tb1_ok Try.func44 (by kernel_rfl) ?_ (by kernel_rfl)
  intro xs M t h
  unfold s44 at h
  split at h
  case h_2 => cases h
  rename_i a
  cases h
  refine ⟨fun l h => (nomatch h), fun hp => ?_⟩
  rw [v44_vc]
  exact ends_pl (congrArg _ (mm_clamp (by decide) _))
theorem tb2_ok : GamOk Try.prog eid (gam tb2) := gam_cons h44 tb1_ok
theorem h49 : Holds Try.prog eid 49 (s49) := by
  refine hold tb2_ok Try.func49 (by kernel_rfl) ?_ (by kernel_rfl)
  intro xs M t h
  unfold s49 at h
  split at h
  case h_2 => cases h
  rename_i a
  cases h
  refine ⟨fun l h => (nomatch h), fun hp => ?_⟩
  rw [v49_vc]
  simp only [cnd_iff]
  refine ⟨fun h => ?_, fun h => ⟨fun k => ?_, fun k => ?_⟩⟩ <;> refine ends_pl ?_ <;> simp only [decide_eq_true_eq, decide_eq_false_iff_not] at * <;> simp [massI, clampI, *]
theorem tb3_ok : GamOk Try.prog eid (gam tb3) := gam_cons h49 tb2_ok
theorem h11 : Holds Try.prog eid 11 (s11) := by
  refine hold tb3_ok Try.func11 (by kernel_rfl) ?_ (by kernel_rfl)
  intro xs M t h
  unfold s11 at h
  split at h
  case h_2 => cases h
  rename_i a
  cases h
  refine ⟨fun l h => (nomatch h), fun hp => ?_⟩
  rw [v11_vc]
  simp only [cnd_iff]
  refine ⟨fun h => ?_, fun h => ⟨fun k => ?_, fun k => ?_⟩⟩ <;> refine ends_pl ?_ <;> simp only [decide_eq_true_eq, decide_eq_false_iff_not] at * <;> simp [massI, clampI, *]
theorem tb4_ok : GamOk Try.prog eid (gam tb4) := gam_cons h11 tb3_ok
theorem h13 : Holds Try.prog eid 13 (s13) := by
  refine hold tb4_ok Try.func13 (by kernel_rfl) ?_ (by kernel_rfl)
  intro xs M t h
  unfold s13 at h
  split at h
  case h_2 => cases h
  rename_i a
  cases h
  refine ⟨fun l h => (nomatch h), fun hp => ?_⟩
  rw [v13_vc]
  exact ends_pl (congrArg _ (mm_clamp (by decide) _))
theorem tb5_ok : GamOk Try.prog eid (gam tb5) := gam_cons h13 tb4_ok
theorem h14 : Holds Try.prog eid 14 (s14) := by
  refine hold tb5_ok Try.func14 (by kernel_rfl) ?_ (by kernel_rfl)
  intro xs M t h
  unfold s14 at h
  split at h
  case h_2 => cases h
  rename_i a b
  cases h
  refine ⟨fun l h => (nomatch h), fun hp => ?_⟩
  rw [v14_vc]
  exact ends_pl rfl
theorem tb6_ok : GamOk Try.prog eid (gam tb6) := gam_cons h14 tb5_ok
theorem h15 : Holds Try.prog eid 15 (s15) := by
  refine hold tb6_ok Try.func15 (by kernel_rfl) ?_ (by kernel_rfl)
  intro xs M t h
  unfold s15 at h
  split at h
  case h_2 => cases h
  rename_i a b c
  cases h
  refine ⟨fun l h => (nomatch h), fun hp => ?_⟩
  rw [v15_vc]
  refine ends_pl ?_
  have ha := massI_range a
  have hb := massI_range b
  rw [wrap_id (n := massI a - massI b) (by omega) (by omega), wrap_id (n := 0 - (massI a - massI b)) (by omega) (by omega)]
  unfold nearB
  congr 1
  simp only [mm, cond_true]
  split <;> rw [decide_eq_decide] <;> constructor <;> omega
theorem tb7_ok : GamOk Try.prog eid (gam tb7) := gam_cons h15 tb6_ok
theorem h47 : Holds Try.prog eid 47 (s47) := by
  refine hold tb7_ok Try.func47 (by kernel_rfl) ?_ (by kernel_rfl)
  intro xs M t h
  unfold s47 at h
  split at h
  case h_2 => cases h
  rename_i a b c
  cases h
  refine ⟨fun l h => (nomatch h), fun hp => ?_⟩
  rw [v47_vc]
  simp only [cnd_iff]
  refine ⟨fun h => ?_, fun h => ⟨fun k => ?_, fun k => ?_⟩⟩ <;> refine ends_pl ?_ <;> simp only [decide_eq_true_eq, decide_eq_false_iff_not] at * <;> simp [clampI, *]
theorem tb8_ok : GamOk Try.prog eid (gam tb8) := gam_cons h47 tb7_ok
theorem h51 : Holds Try.prog eid 51 (s51) := by
  refine hold tb8_ok Try.func51 (by kernel_rfl) ?_ (by kernel_rfl)
  intro xs M t h
  unfold s51 at h
  split at h
  case h_2 => cases h
  rename_i a
  cases h
  refine ⟨fun l h => (nomatch h), fun hp => ?_⟩
  rw [v51_vc]
  simp only [cnd_iff]
  refine ⟨fun h => ?_, fun h => ⟨fun k => ?_, fun k => ?_⟩⟩ <;> refine ends_pl ?_ <;> simp only [decide_eq_true_eq, decide_eq_false_iff_not] at * <;> simp [spanI, clampI, *]
theorem tb9_ok : GamOk Try.prog eid (gam tb9) := gam_cons h51 tb8_ok
theorem h41 : Holds Try.prog eid 41 (s41) := by
  refine hold tb9_ok Try.func41 (by kernel_rfl) ?_ (by kernel_rfl)
  intro xs M t h
  unfold s41 at h
  split at h
  case h_2 => cases h
  rename_i a
  cases h
  refine ⟨fun l h => (nomatch h), fun hp => ?_⟩
  rw [v41_vc]
  exact ends_pl rfl
theorem tb10_ok : GamOk Try.prog eid (gam tb10) := gam_cons h41 tb9_ok
theorem h42 : Holds Try.prog eid 42 (s42) := by
  refine hold tb10_ok Try.func42 (by kernel_rfl) ?_ (by kernel_rfl)
  intro xs M t h
  unfold s42 at h
  split at h
  case h_2 => cases h
  rename_i a
  cases h
  refine ⟨fun l h => (nomatch h), fun hp => ?_⟩
  rw [v42_vc]
  exact ends_pl (congrArg _ (mm_clamp (by decide) _))
theorem tb11_ok : GamOk Try.prog eid (gam tb11) := gam_cons h42 tb10_ok
theorem h50 : Holds Try.prog eid 50 (s50) := by
  refine hold tb11_ok Try.func50 (by kernel_rfl) ?_ (by kernel_rfl)
  intro xs M t h
  unfold s50 at h
  split at h
  case h_2 => cases h
  rename_i a
  cases h
  refine ⟨fun l h => (nomatch h), fun hp => ?_⟩
  rw [v50_vc]
  exact ends_pl (congrArg _ (mm_clamp (by decide) _))
theorem tb12_ok : GamOk Try.prog eid (gam tb12) := gam_cons h50 tb11_ok
theorem h43 : Holds Try.prog eid 43 (s43) := by
  refine hold tb12_ok Try.func43 (by kernel_rfl) ?_ (by kernel_rfl)
  intro xs M t h
  unfold s43 at h
  split at h
  case h_2 => cases h
  rename_i csc
  obtain ⟨c, hcc, h1⟩ := Option.bind_eq_some_iff.1 h
  clear h
  have h := h1
  clear h1
  cases h
  cases Lw.Config.of_eq hcc
  clear hcc
  refine ⟨fun l h => (nomatch h), fun hp => ?_⟩
  rw [v43_vc]
  exact ends_pl rfl
theorem tb13_ok : GamOk Try.prog eid (gam tb13) := gam_cons h43 tb12_ok
theorem h18 : Holds Try.prog eid 18 (s18) := by
  refine hold tb13_ok Try.func18 (by kernel_rfl) ?_ (by kernel_rfl)
  intro xs M t h
  unfold s18 at h
  split at h
  case h_2 => cases h
  rename_i csc
  obtain ⟨c, hcc, h1⟩ := Option.bind_eq_some_iff.1 h
  clear h
  have h := h1
  clear h1
  cases h
  cases Lw.Config.of_eq hcc
  clear hcc
  refine ⟨fun l h => (nomatch h), fun hp => ?_⟩
  rw [v18_vc]
  have := floorsI_range c.floors
  have := spanI_range c.door
  refine ends_pl (congrArg _ ?_)
  simp only [IntKind.wrap_i64, tripI]
  omega
theorem tb14_ok : GamOk Try.prog eid (gam tb14) := gam_cons h18 tb13_ok
theorem h39 : Holds Try.prog eid 39 (s39) := by
  refine hold tb14_ok Try.func39 (by kernel_rfl) ?_ (by kernel_rfl)
  intro xs M t h
  unfold s39 at h
  split at h
  case h_2 => cases h
  rename_i csc
  obtain ⟨c, hcc, h1⟩ := Option.bind_eq_some_iff.1 h
  clear h
  have h := h1
  clear h1
  cases h
  cases Lw.Config.of_eq hcc
  clear hcc
  refine ⟨fun l h => (nomatch h), fun hp => ?_⟩
  rw [v39_vc]
  have := floorsI_range c.floors
  have := spanI_range c.door
  refine ends_pl (congrArg _ ?_)
  simp only [IntKind.wrap_i64, tripI]
  omega
theorem tb15_ok : GamOk Try.prog eid (gam tb15) := gam_cons h39 tb14_ok
theorem h20 : Holds Try.prog eid 20 (s20) := by
  refine hold tb15_ok Try.func20 (by kernel_rfl) ?_ (by kernel_rfl)
  intro xs M t h
  unfold s20 at h
  split at h
  case h_2 => cases h
  rename_i csc
  obtain ⟨c, hcc, h1⟩ := Option.bind_eq_some_iff.1 h
  clear h
  have h := h1
  clear h1
  cases h
  cases Lw.Config.of_eq hcc
  clear hcc
  refine ⟨fun l h => (nomatch h), fun hp => ?_⟩
  rw [v20_vc]
  have := tripI_range c
  have hs := spanI_range c.hold
  have hr := renewI_range c.renew
  have hm := mul_range (a := spanI c.hold) (b := 2 + renewI c.renew) (A := 1000) (B := 1002) (by omega) (by omega) (by omega) (by omega)
  refine ends_pl (congrArg _ ?_)
  rw [wrap_id (n := 2 + renewI c.renew) (by omega) (by omega)]
  unfold leaseI
  generalize spanI c.hold * (2 + renewI c.renew) = z at hm
  simp only [IntKind.wrap_i64]
  omega
theorem tb16_ok : GamOk Try.prog eid (gam tb16) := gam_cons h20 tb15_ok
theorem h17 : Holds Try.prog eid 17 (s17) := by
  refine hold tb16_ok Try.func17 (by kernel_rfl) ?_ (by kernel_rfl)
  intro xs M t h
  unfold s17 at h
  split at h
  case h_2 => cases h
  rename_i csc
  obtain ⟨c, hcc, h1⟩ := Option.bind_eq_some_iff.1 h
  clear h
  have h := h1
  clear h1
  cases h
  cases Lw.Config.of_eq hcc
  clear hcc
  refine ⟨fun l h => (nomatch h), fun hp => ?_⟩
  rw [v17_vc]
  have := tripI_range c
  rw [wrap_id (by omega) (by omega)]
  exact ends_pl rfl
theorem tb17_ok : GamOk Try.prog eid (gam tb17) := gam_cons h17 tb16_ok
end Go.Proofs.Ytgkhhfdbjcjamaa
