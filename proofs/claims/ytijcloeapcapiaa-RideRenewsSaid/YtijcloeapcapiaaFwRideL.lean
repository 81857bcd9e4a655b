/- The functions of this group answer so. -/
import Derived.Test.YtijcloeapcapiaaFwRideLV
import Derived.Test.YtijcloeapcapiaaFwRide
set_option linter.unusedVariables false
set_option linter.unusedSimpArgs false
set_option maxRecDepth 20000
set_option maxHeartbeats 4000000
namespace Go.Proofs.Ytijcloeapcapiaa
open Lw
theorem rideT_len (b : Bool) (c : Config) (l : Lw.Lease) (x : Lw.Car) (now : Int) : (rideT b c l x now).2.1.length ≤ 1 := by
  unfold rideT; (repeat' split) <;> simp
theorem rideH_len (c : Config) (l : Lw.Lease) (x : Lw.Car) (now : Int) (m : Lw.Msg) : (rideH c l x now m).2.1.length ≤ 1 := by
  unfold rideH; (repeat' split) <;> simp
theorem h45 : Holds Try.prog eid 45 (s45) := by
  refine hold tb46_ok Try.func45 (by kernel_rfl) ?_ (by kernel_rfl)
  intro xs M t h
  unfold s45 at h
  split at h
  case h_2 => cases h
  cases h
  refine ⟨fun l h => (nomatch h), fun hp => ?_⟩
  rw [v45_vc]
  exact ends_v rfl rfl
theorem tb47_ok : GamOk Try.prog eid (gam tb47) := gam_cons h45 tb46_ok
theorem h15 : Holds Try.prog eid 15 (s15) := by
  refine hold tb47_ok Try.func15 (by kernel_rfl) ?_ (by kernel_rfl)
  intro xs M t h
  unfold s15 at h
  split at h
  case h_2 => cases h
  cases h
  refine ⟨fun l h => (nomatch h), fun hp => ?_⟩
  rw [v15_vc]
  repeat' first
    | refine ⟨fun _ => by decide +kernel, ?_⟩
    | exact ends_pl (congrArg PC.bool (by decide +kernel))
theorem tb48_ok : GamOk Try.prog eid (gam tb48) := gam_cons h15 tb47_ok
theorem h3 : Holds Try.prog eid 3 (s3) := by
  refine hold tb48_ok Try.func3 (by kernel_rfl) ?_ (by kernel_rfl)
  intro xs M t h
  unfold s3 at h
  split at h
  case h_2 => cases h
  rename_i csc csl csx now
  obtain ⟨c, hcc, h1⟩ := Option.bind_eq_some_iff.1 h
  clear h
  have h := h1
  clear h1
  obtain ⟨l, hcl, h1⟩ := Option.bind_eq_some_iff.1 h
  clear h
  have h := h1
  clear h1
  obtain ⟨x, hcx, h1⟩ := Option.bind_eq_some_iff.1 h
  clear h
  have h := h1
  clear h1
  cases h
  cases Lw.Config.of_eq hcc
  clear hcc
  cases Lw.Lease.of_eq hcl
  clear hcl
  cases Lw.Car.of_eq hcx
  clear hcx
  refine ⟨fun l h => (nomatch h), fun hp => ?_⟩
  rw [v3_vc]
  refine cnd_iff.2 ⟨fun _ => ends_pl rfl, fun h => ?_⟩
  simp only [c_and, c_or, Bool.and_eq_true, Bool.or_eq_true, Bool.and_eq_false_iff, Bool.or_eq_false_iff, Bool.not_eq_true', Bool.not_eq_false', beq_iff_eq, beq_eq_false_iff_ne, bne_iff_ne, bne_eq_false_iff_eq, ne_eq, decide_eq_true_eq, decide_eq_false_iff_not] at h
  have hu := timeI_id (n := l.until_) (by omega) (by omega)
  have hl : lateB now l.until_ = decide (timeI now ≥ l.until_) := by unfold lateB; rw [hu]
  have hn := timeI_range now
  rw [hl, wrap_id (n := l.until_ - timeI now) (by omega) (by omega), mm_max]
  simp only [pcsEq_self, sameMsgs_self, beq_self_eq_true, cnd]
  refine ⟨Nat.le_trans (rideT_len _ _ _ _ _) (by decide), ?_⟩
  exact ends_pl (by unfold leftI; rw [hu, beq_self_eq_true])
theorem tb49_ok : GamOk Try.prog eid (gam tb49) := gam_cons h3 tb48_ok
theorem h4 : Holds Try.prog eid 4 (s4) := by
  refine hold tb49_ok Try.func4 (by kernel_rfl) ?_ (by kernel_rfl)
  intro xs M t h
  unfold s4 at h
  split at h
  case h_2 => cases h
  rename_i csc csl csx now csm
  obtain ⟨c, hcc, h1⟩ := Option.bind_eq_some_iff.1 h
  clear h
  have h := h1
  clear h1
  obtain ⟨l, hcl, h1⟩ := Option.bind_eq_some_iff.1 h
  clear h
  have h := h1
  clear h1
  obtain ⟨x, hcx, h1⟩ := Option.bind_eq_some_iff.1 h
  clear h
  have h := h1
  clear h1
  obtain ⟨m, hcm, h1⟩ := Option.bind_eq_some_iff.1 h
  clear h
  have h := h1
  clear h1
  cases h
  cases Lw.Config.of_eq hcc
  clear hcc
  cases Lw.Lease.of_eq hcl
  clear hcl
  cases Lw.Car.of_eq hcx
  clear hcx
  cases Lw.Msg.of_eq hcm
  clear hcm
  refine ⟨fun l h => (nomatch h), fun hp => ?_⟩
  rw [v4_vc]
  simp only [pcsEq_self, sameMsgs_self, beq_self_eq_true, cond_true]
  exact ⟨fun _ => Nat.le_trans (rideH_len _ _ _ _ _) (by decide), ends_pl rfl⟩
theorem tb50_ok : GamOk Try.prog eid (gam tb50) := gam_cons h4 tb49_ok
end Go.Proofs.Ytijcloeapcapiaa
