/- The functions of this group answer so. -/
import Derived.Test.YtgkhhfdbjcjamaaFwDoorV
import Derived.Test.YtgkhhfdbjcjamaaFwBase
set_option linter.unusedVariables false
set_option linter.unusedSimpArgs false
set_option maxRecDepth 20000
namespace Go.Proofs.Ytgkhhfdbjcjamaa
open Lw
theorem door_eq {d : Lw.Door} {a b : Int} (h : d.state = a) (k : d.at_ = b) : Lw.Door.mk a b = d := by subst h; subst k; rfl
theorem goodD_mild {d : Lw.Door} {t : Int} (h : goodD d t = true) : mildD d := by
  have := spanI_range t
  simp only [goodD, decide_eq_true_eq] at h
  unfold mildD; omega
theorem h32 : Holds Try.prog eid 32 (s32) := by
  refine hold tb17_ok Try.func32 (by kernel_rfl) ?_ (by kernel_rfl)
  intro xs M t h
  unfold s32 at h
  split at h
  case h_2 => cases h
  rename_i csd t
  obtain ⟨d, hcd, h1⟩ := Option.bind_eq_some_iff.1 h
  clear h
  have h := h1
  clear h1
  cases h
  cases Lw.Door.of_eq hcd
  clear hcd
  refine ⟨fun l h => (nomatch h), fun hp => ?_⟩
  rw [v32_vc]
  have hs := spanI_range t
  repeat' first
    | refine cnd_iff.2 ⟨fun _ => ?_, fun _ => ?_⟩
    | refine ends_pl (congrArg _ ?_)
  all_goals (unfold goodD; simp only [c_and, c_or, Bool.and_eq_true, Bool.or_eq_true, Bool.and_eq_false_iff, Bool.or_eq_false_iff, Bool.not_eq_true', Bool.not_eq_false', beq_iff_eq, beq_eq_false_iff_ne, bne_iff_ne, bne_eq_false_iff_eq, ne_eq, decide_eq_true_eq, decide_eq_false_iff_not] at *; rw [Bool.eq_iff_iff]; simp only [c_and, c_or, Bool.and_eq_true, Bool.or_eq_true, Bool.and_eq_false_iff, Bool.or_eq_false_iff, Bool.not_eq_true', Bool.not_eq_false', beq_iff_eq, beq_eq_false_iff_ne, bne_iff_ne, bne_eq_false_iff_eq, ne_eq, decide_eq_true_eq, decide_eq_false_iff_not, Bool.false_eq_true, false_iff, true_iff])
  all_goals omega
theorem tb18_ok : GamOk Try.prog eid (gam tb18) := gam_cons h32 tb17_ok
theorem h33 : Holds Try.prog eid 33 (s33) := by
  refine hold tb18_ok Try.func33 (by kernel_rfl) ?_ (by kernel_rfl)
  intro xs M t h
  unfold s33 at h
  split at h
  case h_2 => cases h
  rename_i csd t
  obtain ⟨d, hcd, h1⟩ := Option.bind_eq_some_iff.1 h
  clear h
  have h := h1
  clear h1
  cases h
  cases Lw.Door.of_eq hcd
  clear hcd
  refine ⟨fun l h => (nomatch h), fun hp => ?_⟩
  rw [v33_vc]
  have hs := spanI_range t
  repeat' first
    | refine cnd_iff.2 ⟨fun _ => ?_, fun _ => ?_⟩
    | refine ends_pl (congrArg _ ?_)
  all_goals (unfold goodD; simp only [c_and, c_or, Bool.and_eq_true, Bool.or_eq_true, Bool.and_eq_false_iff, Bool.or_eq_false_iff, Bool.not_eq_true', Bool.not_eq_false', beq_iff_eq, beq_eq_false_iff_ne, bne_iff_ne, bne_eq_false_iff_eq, ne_eq, decide_eq_true_eq, decide_eq_false_iff_not] at *; rw [Bool.eq_iff_iff]; simp only [c_and, c_or, Bool.and_eq_true, Bool.or_eq_true, Bool.and_eq_false_iff, Bool.or_eq_false_iff, Bool.not_eq_true', Bool.not_eq_false', beq_iff_eq, beq_eq_false_iff_ne, bne_iff_ne, bne_eq_false_iff_eq, ne_eq, decide_eq_true_eq, decide_eq_false_iff_not, Bool.false_eq_true, false_iff, true_iff])
  all_goals omega
theorem tb19_ok : GamOk Try.prog eid (gam tb19) := gam_cons h33 tb18_ok
theorem h35 : Holds Try.prog eid 35 (s35) := by
  refine hold tb19_ok Try.func35 (by kernel_rfl) ?_ (by kernel_rfl)
  intro xs M t h
  unfold s35 at h
  split at h
  case h_2 => cases h
  rename_i csd
  obtain ⟨d, hcd, h1⟩ := Option.bind_eq_some_iff.1 h
  clear h
  have h := h1
  clear h1
  cases h
  cases Lw.Door.of_eq hcd
  clear hcd
  refine ⟨fun l h => (nomatch h), fun hp => ?_⟩
  rw [v35_vc]
  repeat' first
    | refine cnd_iff.2 ⟨fun _ => ?_, fun _ => ?_⟩
    | refine Lw.Door.ends (x := openD d) ?_ ?_
  all_goals (unfold openD; simp only [c_and, c_or, Bool.and_eq_true, Bool.or_eq_true, Bool.and_eq_false_iff, Bool.or_eq_false_iff, Bool.not_eq_true', Bool.not_eq_false', beq_iff_eq, beq_eq_false_iff_ne, bne_iff_ne, bne_eq_false_iff_eq, ne_eq, decide_eq_true_eq, decide_eq_false_iff_not] at *; try split)
  all_goals omega
theorem tb20_ok : GamOk Try.prog eid (gam tb20) := gam_cons h35 tb19_ok
theorem h36 : Holds Try.prog eid 36 (s36) := by
  refine hold tb20_ok Try.func36 (by kernel_rfl) ?_ (by kernel_rfl)
  intro xs M t h
  unfold s36 at h
  split at h
  case h_2 => cases h
  rename_i csd
  obtain ⟨d, hcd, h1⟩ := Option.bind_eq_some_iff.1 h
  clear h
  have h := h1
  clear h1
  cases h
  cases Lw.Door.of_eq hcd
  clear hcd
  refine ⟨fun l h => (nomatch h), fun hp => ?_⟩
  rw [v36_vc]
  repeat' first
    | refine cnd_iff.2 ⟨fun _ => ?_, fun _ => ?_⟩
    | refine Lw.Door.ends (x := closeD d) ?_ ?_
  all_goals (unfold closeD; simp only [c_and, c_or, Bool.and_eq_true, Bool.or_eq_true, Bool.and_eq_false_iff, Bool.or_eq_false_iff, Bool.not_eq_true', Bool.not_eq_false', beq_iff_eq, beq_eq_false_iff_ne, bne_iff_ne, bne_eq_false_iff_eq, ne_eq, decide_eq_true_eq, decide_eq_false_iff_not] at *; try split)
  all_goals omega
theorem tb21_ok : GamOk Try.prog eid (gam tb21) := gam_cons h36 tb20_ok
theorem h37 : Holds Try.prog eid 37 (s37) := by
  refine hold tb21_ok Try.func37 (by kernel_rfl) ?_ (by kernel_rfl)
  intro xs M t h
  unfold s37 at h
  split at h
  case h_2 => cases h
  rename_i csd t b
  obtain ⟨d, hcd, h1⟩ := Option.bind_eq_some_iff.1 h
  clear h
  have h := h1
  clear h1
  cases h
  cases Lw.Door.of_eq hcd
  clear hcd
  refine ⟨fun l h => (nomatch h), fun hp => ?_⟩
  rw [v37_vc]
  have hs := spanI_range t
  have hp : mildD d := hp
  unfold mildD at hp
  try rw [wrap_id (n := d.at_ - 1) (by omega) (by omega)]
  try rw [wrap_id (n := d.at_ + 1) (by omega) (by omega)]
  repeat' first
    | refine cnd_iff.2 ⟨fun _ => ?_, fun _ => ?_⟩
    | refine Lw.Door.ends (x := tickD d t b) ?_ ?_
  all_goals (unfold tickD; simp only [c_and, c_or, Bool.and_eq_true, Bool.or_eq_true, Bool.and_eq_false_iff, Bool.or_eq_false_iff, Bool.not_eq_true', Bool.not_eq_false', beq_iff_eq, beq_eq_false_iff_ne, bne_iff_ne, bne_eq_false_iff_eq, ne_eq, decide_eq_true_eq, decide_eq_false_iff_not, mm_max, mm_min] at *)
  all_goals (cases b <;> simp only [Bool.false_eq_true, and_false, and_true, if_false] at * <;> (repeat' split) <;> simp only at * <;> first | omega | contradiction | (simp_all; done) | (simp_all; omega))
theorem tb22_ok : GamOk Try.prog eid (gam tb22) := gam_cons h37 tb21_ok
theorem h38 : Holds Try.prog eid 38 (s38) := by
  refine hold tb22_ok Try.func38 (by kernel_rfl) ?_ (by kernel_rfl)
  intro xs M t h
  unfold s38 at h
  split at h
  case h_2 => cases h
  rename_i csd t b
  obtain ⟨d, hcd, h1⟩ := Option.bind_eq_some_iff.1 h
  clear h
  have h := h1
  clear h1
  cases h
  cases Lw.Door.of_eq hcd
  clear hcd
  refine ⟨fun l h => (nomatch h), fun hp => ?_⟩
  rw [v38_vc]
  have hs := spanI_range t
  have hp : mildD d := hp
  unfold mildD at hp
  try rw [wrap_id (n := d.at_ - 1) (by omega) (by omega)]
  try rw [wrap_id (n := d.at_ + 1) (by omega) (by omega)]
  repeat' first
    | refine cnd_iff.2 ⟨fun _ => ?_, fun _ => ?_⟩
    | refine Lw.Door.ends (x := tickD d t b) ?_ ?_
  all_goals (unfold tickD; simp only [c_and, c_or, Bool.and_eq_true, Bool.or_eq_true, Bool.and_eq_false_iff, Bool.or_eq_false_iff, Bool.not_eq_true', Bool.not_eq_false', beq_iff_eq, beq_eq_false_iff_ne, bne_iff_ne, bne_eq_false_iff_eq, ne_eq, decide_eq_true_eq, decide_eq_false_iff_not, mm_max, mm_min] at *)
  all_goals (cases b <;> simp only [Bool.false_eq_true, and_false, and_true, if_false] at * <;> (repeat' split) <;> simp only at * <;> first | omega | contradiction | (simp_all; done) | (simp_all; omega))
theorem tb23_ok : GamOk Try.prog eid (gam tb23) := gam_cons h38 tb22_ok
end Go.Proofs.Ytgkhhfdbjcjamaa
