/- The functions of this group answer so. -/
import Derived.Test.YtjgmkpidiaojkaaFwDoorV
import Derived.Test.YtjgmkpidiaojkaaFwBase
set_option linter.unusedVariables false
set_option linter.unusedSimpArgs false
set_option maxRecDepth 20000
set_option maxHeartbeats 4000000
namespace Go.Proofs.Ytjgmkpidiaojkaa
open Lw
theorem door_eq {d : Lw.Door} {a b : Int} (h : d.state = a) (k : d.at_ = b) : Lw.Door.mk a b = d := by subst h; subst k; rfl
theorem goodD_mild {d : Lw.Door} {t : Int} (h : goodD d t = true) : mildD d := by
  have := spanI_range t
  simp only [goodD, decide_eq_true_eq] at h
  unfold mildD; omega
theorem h67 : Holds Try.prog eid 67 (s67) := by
  refine hold tb13_ok Try.func67 (by kernel_rfl) ?_ (by kernel_rfl)
  intro xs M t h
  unfold s67 at h
  split at h
  case h_2 => cases h
  rename_i csd
  obtain ⟨d, hcd, h1⟩ := Option.bind_eq_some_iff.1 h
  clear h
  have h := h1
  clear h1
  cases h
  cases Lw.Door.of_eq hcd
  clear hcd
  refine ⟨fun l h => (nomatch h), ?_⟩
  intro hp
  rw [v67_vc]
  repeat' first
    | refine cnd_iff.2 ⟨fun _ => ?_, fun _ => ?_⟩
    | refine Lw.Door.ends (x := openD d) ?_ ?_
  all_goals (unfold openD; simp only [c_and, c_or, Bool.and_eq_true, Bool.or_eq_true, Bool.and_eq_false_iff, Bool.or_eq_false_iff, Bool.not_eq_true', Bool.not_eq_false', beq_iff_eq, beq_eq_false_iff_ne, bne_iff_ne, bne_eq_false_iff_eq, ne_eq, decide_eq_true_eq, decide_eq_false_iff_not] at *; try split)
  all_goals omega
theorem tb14_ok : GamOk Try.prog eid (gam tb14) := gam_cons h67 tb13_ok
theorem h68 : Holds Try.prog eid 68 (s68) := by
  refine hold tb14_ok Try.func68 (by kernel_rfl) ?_ (by kernel_rfl)
  intro xs M t h
  unfold s68 at h
  split at h
  case h_2 => cases h
  rename_i csd
  obtain ⟨d, hcd, h1⟩ := Option.bind_eq_some_iff.1 h
  clear h
  have h := h1
  clear h1
  cases h
  cases Lw.Door.of_eq hcd
  clear hcd
  refine ⟨fun l h => (nomatch h), ?_⟩
  intro hp
  rw [v68_vc]
  repeat' first
    | refine cnd_iff.2 ⟨fun _ => ?_, fun _ => ?_⟩
    | refine Lw.Door.ends (x := closeD d) ?_ ?_
  all_goals (unfold closeD; simp only [c_and, c_or, Bool.and_eq_true, Bool.or_eq_true, Bool.and_eq_false_iff, Bool.or_eq_false_iff, Bool.not_eq_true', Bool.not_eq_false', beq_iff_eq, beq_eq_false_iff_ne, bne_iff_ne, bne_eq_false_iff_eq, ne_eq, decide_eq_true_eq, decide_eq_false_iff_not] at *; try split)
  all_goals omega
theorem tb15_ok : GamOk Try.prog eid (gam tb15) := gam_cons h68 tb14_ok
theorem h69 : Holds Try.prog eid 69 (s69) := by
  refine hold tb15_ok Try.func69 (by kernel_rfl) ?_ (by kernel_rfl)
  intro xs M t h
  unfold s69 at h
  split at h
  case h_2 => cases h
  rename_i csd t b
  obtain ⟨d, hcd, h1⟩ := Option.bind_eq_some_iff.1 h
  clear h
  have h := h1
  clear h1
  cases h
  cases Lw.Door.of_eq hcd
  clear hcd
  refine ⟨fun l h => (nomatch h), ?_⟩
  intro hp
  rw [v69_vc]
  have hs := spanI_range t
  have hp : mildD d := hp
  unfold mildD at hp
  try rw [wrap_id (n := d.at_ - 1) (by omega) (by omega)]
  try rw [wrap_id (n := d.at_ + 1) (by omega) (by omega)]
  repeat' first
    | refine cnd_iff.2 ⟨fun _ => ?_, fun _ => ?_⟩
    | refine Lw.Door.ends (x := tickD d t b) ?_ ?_
  all_goals (unfold tickD; simp only [c_and, c_or, Bool.and_eq_true, Bool.or_eq_true, Bool.and_eq_false_iff, Bool.or_eq_false_iff, Bool.not_eq_true', Bool.not_eq_false', beq_iff_eq, beq_eq_false_iff_ne, bne_iff_ne, bne_eq_false_iff_eq, ne_eq, decide_eq_true_eq, decide_eq_false_iff_not, mm_max, mm_min] at *)
  all_goals (cases b <;> simp only [Bool.false_eq_true, and_false, and_true, if_false] at * <;> (repeat' split) <;> simp only at * <;> first | omega | contradiction | (simp_all; done) | (simp_all; omega))
theorem tb16_ok : GamOk Try.prog eid (gam tb16) := gam_cons h69 tb15_ok
theorem door_goods {d : Lw.Door} {t : Int} (h : goodD d t = true) : (goodD (openD d) t = true ∧ (openD d).at_ = d.at_) ∧ (goodD (closeD d) t = true ∧ (closeD d).at_ = d.at_) ∧ ∀ b, goodD (tickD d t b) t = true ∧ (tickD d t b).at_ - d.at_ ≤ 1 ∧ d.at_ - (tickD d t b).at_ ≤ 1 := by
  have hs := spanI_range t
  simp only [goodD, decide_eq_true_eq] at *
  refine ⟨⟨?_, rfl⟩, ⟨?_, rfl⟩, fun b => ?_⟩
  · unfold openD; simp only; split <;> omega
  · unfold closeD; simp only; split <;> omega
  · unfold tickD
    (repeat' split) <;> (try simp only) <;> (refine ⟨?_, ?_, ?_⟩) <;> first | omega | (simp; done) | (simp; omega)
theorem goodD_range {d : Lw.Door} {t : Int} (h : goodD d t = true) : 0 ≤ d.at_ ∧ d.at_ ≤ 1000 := by
  have hs := spanI_range t
  simp only [goodD, decide_eq_true_eq] at h
  omega
theorem stay_ok {d e : Lw.Door} {t : Int} (hd : goodD d t = true) (he : goodD e t = true) (h1 : e.at_ - d.at_ ≤ 1) (h2 : d.at_ - e.at_ ≤ 1) :
    (bif bif !goodD e t then true else decide (IntKind.i64.wrap (e.at_ - d.at_) > 1) then true else decide (IntKind.i64.wrap (d.at_ - e.at_) > 1)) = false := by
  have := goodD_range hd
  have := goodD_range he
  rw [he, wrap_id (by omega) (by omega), wrap_id (by omega) (by omega)]
  simp; omega
end Go.Proofs.Ytjgmkpidiaojkaa
