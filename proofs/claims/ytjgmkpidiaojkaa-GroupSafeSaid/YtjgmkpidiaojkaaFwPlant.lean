/- The functions of this group answer so. -/
import Derived.Test.YtjgmkpidiaojkaaFwPlantV
import Derived.Test.YtjgmkpidiaojkaaFwDoor
set_option linter.unusedVariables false
set_option linter.unusedSimpArgs false
set_option maxRecDepth 20000
set_option maxHeartbeats 4000000
namespace Go.Proofs.Ytjgmkpidiaojkaa
open Lw
theorem step_stay {c : Config} {x : Lw.Car} {m : Lw.Cmd} {D : Lw.Door} {p : Option Prop} {M : Mem} (hd : toldD x m = D) (hn : ¬ (x.broken = false ∧ x.door.state = 0 ∧ (tickD D c.door x.blocked).state = 0 ∧ (m.run = 1 ∨ m.run = 2))) : Lw.Ends 0 ⟨p, vs (stepC c x m).enc, none, []⟩ [] (.one (.agg [.pl (.int .i64 (tickD D c.door x.blocked).state), .pl (.int .i64 (tickD D c.door x.blocked).at_), .pl (.int .i64 x.unit), .pl (.int .i64 x.way), .pl (.int .i64 x.timer), .pl (.int .i64 x.just), .pl (.int .i64 x.load), .pl (.bool x.blocked), .pl (.bool x.broken), .pl (.int .i64 x.mode), .pl (.int .i64 x.target), .pl (.bool x.hold), .pl (.int .u64 x.stops.press), .pl (.int .u64 x.stops.up), .pl (.int .u64 x.stops.down)])) M := by
  subst hd
  unfold stepC
  rw [if_neg hn]
  exact ends_v rfl rfl
theorem step_move {c : Config} {x : Lw.Car} {m : Lw.Cmd} {D : Lw.Door} {p : Option Prop} {M : Mem} (hd : toldD x m = D) (hn : x.broken = false ∧ x.door.state = 0 ∧ (tickD D c.door x.blocked).state = 0 ∧ (m.run = 1 ∨ m.run = 2)) : Lw.Ends 0 ⟨p, vs (stepC c x m).enc, none, []⟩ [] (.one (.agg [.pl (.int .i64 (tickD D c.door x.blocked).state), .pl (.int .i64 (tickD D c.door x.blocked).at_), .pl (.int .i64 (moveI x.unit m.run c.floors)), .pl (.int .i64 m.run), .pl (.int .i64 x.timer), .pl (.int .i64 x.just), .pl (.int .i64 x.load), .pl (.bool x.blocked), .pl (.bool x.broken), .pl (.int .i64 x.mode), .pl (.int .i64 x.target), .pl (.bool x.hold), .pl (.int .u64 x.stops.press), .pl (.int .u64 x.stops.up), .pl (.int .u64 x.stops.down)])) M := by
  subst hd
  unfold stepC
  rw [if_pos hn]
  exact ends_v rfl rfl
theorem told_b {x : Lw.Car} {m : Lw.Cmd} (h : x.broken = true) : toldD x m = x.door := by unfold toldD; rw [if_pos h]
theorem told_o {x : Lw.Car} {m : Lw.Cmd} (h : x.broken = false) (k : m.open_ = true ∧ levelB x.unit = true) : toldD x m = openD x.door := by unfold toldD; rw [if_neg (by simp [h]), if_pos k]
theorem told_c {x : Lw.Car} {m : Lw.Cmd} (h : x.broken = false) (k : m.open_ = false ∨ levelB x.unit = false) (l : m.close = true) : toldD x m = closeD x.door := by
  unfold toldD
  rw [if_neg (by simp [h]), if_neg (by rcases k with k | k <;> simp [k]), if_pos l]
theorem told_n {x : Lw.Car} {m : Lw.Cmd} (h : x.broken = false) (k : m.open_ = false ∨ levelB x.unit = false) (l : m.close = false ∨ ¬ (x.door.state = 1 ∨ x.door.state = 2)) : toldD x m = x.door := by
  unfold toldD
  rw [if_neg (by simp [h]), if_neg (by rcases k with k | k <;> simp [k])]
  split
  · rcases l with l | l
    · simp_all
    · unfold closeD; rw [if_neg l]
  · rfl
theorem openD_eq {d : Lw.Door} (h : d.state = 0 ∨ d.state = 3) : openD d = ⟨1, d.at_⟩ := by unfold openD; rw [if_pos h]
theorem openD_id {d : Lw.Door} (h : ¬ (d.state = 0 ∨ d.state = 3)) : openD d = d := by unfold openD; rw [if_neg h]
theorem closeD_eq {d : Lw.Door} (h : d.state = 1 ∨ d.state = 2) : closeD d = ⟨3, d.at_⟩ := by unfold closeD; rw [if_pos h]
theorem closeD_id {d : Lw.Door} (h : ¬ (d.state = 1 ∨ d.state = 2)) : closeD d = d := by unfold closeD; rw [if_neg h]
theorem h18 : Holds Try.prog eid 18 (s18) := by
  refine hold tb16_ok Try.func18 (by kernel_rfl) ?_ (by kernel_rfl)
  intro xs M t h
  unfold s18 at h
  split at h
  case h_2 => cases h
  cases h
  refine ⟨fun l h => (nomatch h), ?_⟩
  intro hp
  rw [v18_vc]
  exact ends_v rfl rfl
theorem tb17_ok : GamOk Try.prog eid (gam tb17) := gam_cons h18 tb16_ok
theorem h66 : Holds Try.prog eid 66 (s66) := by
  refine hold tb17_ok Try.func66 (by kernel_rfl) ?_ (by kernel_rfl)
  intro xs M t h
  unfold s66 at h
  split at h
  case h_2 => cases h
  rename_i csx
  obtain ⟨x, hcx, h1⟩ := Option.bind_eq_some_iff.1 h
  clear h
  have h := h1
  clear h1
  cases h
  cases Lw.Car.of_eq hcx
  clear hcx
  refine ⟨fun l h => (nomatch h), ?_⟩
  intro hp
  rw [v66_vc]
  exact ends_pl rfl
theorem tb18_ok : GamOk Try.prog eid (gam tb18) := gam_cons h66 tb17_ok
theorem h52 : Holds Try.prog eid 52 (s52) := by
  refine hold tb18_ok Try.func52 (by kernel_rfl) ?_ (by kernel_rfl)
  intro xs M t h
  unfold s52 at h
  split at h
  case h_2 => cases h
  rename_i csc csx csm
  obtain ⟨c, hcc, h1⟩ := Option.bind_eq_some_iff.1 h
  clear h
  have h := h1
  clear h1
  obtain ⟨x, hcx, h1⟩ := Option.bind_eq_some_iff.1 h
  clear h
  have h := h1
  clear h1
  obtain ⟨m, hcm, h1⟩ := Option.bind_eq_some_iff.1 h
  clear h
  have h := h1
  clear h1
  cases h
  cases Lw.Config.of_eq hcc
  clear hcc
  cases Lw.Car.of_eq hcx
  clear hcx
  cases Lw.Cmd.of_eq hcm
  clear hcm
  refine ⟨fun l h => (nomatch h), ?_⟩
  intro hp
  rw [v52_vc]
  have hp : mildC x := hp
  obtain ⟨hm, hu⟩ := hp
  have hmo : mildD (openD x.door) := hm
  have hmc : mildD (closeD x.door) := hm
  have hm1 : ∀ a, mildD ⟨a, x.door.at_⟩ := fun a => hm
  repeat' first
    | refine cnd_iff.2 ⟨fun _ => ?_, fun _ => ?_⟩
    | refine ⟨hm, ?_⟩
    | refine ⟨hmo, ?_⟩
    | refine ⟨hmc, ?_⟩
    | refine ⟨hm1 _, ?_⟩
    | refine ⟨hu, ?_⟩
    | refine step_move ?_ ?_
    | refine step_stay ?_ ?_
  all_goals (clear hm hu hmo hmc hm1; try simp only [c_and, c_or, Bool.and_eq_true, Bool.or_eq_true, Bool.and_eq_false_iff, Bool.or_eq_false_iff, Bool.not_eq_true', Bool.not_eq_false', beq_iff_eq, beq_eq_false_iff_ne, bne_iff_ne, bne_eq_false_iff_eq, ne_eq, decide_eq_true_eq, decide_eq_false_iff_not] at *)
  all_goals first
    | (refine told_b ?_; simp_all; done)
    | (refine told_o ?_ ?_ <;> first | assumption | (simp_all; done))
    | (refine (told_o ?_ ?_).trans (openD_eq ?_) <;> first | assumption | omega | (simp_all; done))
    | (refine (told_o ?_ ?_).trans (openD_id ?_) <;> first | assumption | omega | (simp_all; done))
    | (refine told_c ?_ ?_ ?_ <;> first | assumption | (simp_all; done))
    | (refine (told_c ?_ ?_ ?_).trans (closeD_eq ?_) <;> first | assumption | omega | (simp_all; done))
    | (refine told_n ?_ ?_ ?_ <;> first | assumption | (simp_all; done) | (left; simp_all; done) | (right; omega))
    | (simp_all; done)
    | (intro h; simp_all; done)
    | (intro h; simp_all; omega)
    | (rintro ⟨h1, h2, h3, h4⟩; omega)
    | omega
    | trace_state
theorem tb19_ok : GamOk Try.prog eid (gam tb19) := gam_cons h52 tb18_ok
end Go.Proofs.Ytjgmkpidiaojkaa
