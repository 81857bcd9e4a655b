/- The functions of this group answer so. -/
import Derived.Test.YtijcloeapcapiaaFwPlantLV
import Derived.Test.YtijcloeapcapiaaFwPlant
set_option linter.unusedVariables false
set_option linter.unusedSimpArgs false
set_option maxRecDepth 20000
namespace Go.Proofs.Ytijcloeapcapiaa
open Lw
theorem stepC_timer (c : Config) (x : Lw.Car) (m : Lw.Cmd) : (stepC c x m).timer = x.timer := by unfold stepC; split <;> rfl
theorem stepC_just (c : Config) (x : Lw.Car) (m : Lw.Cmd) : (stepC c x m).just = x.just := by unfold stepC; split <;> rfl
theorem stepC_load (c : Config) (x : Lw.Car) (m : Lw.Cmd) : (stepC c x m).load = x.load := by unfold stepC; split <;> rfl
theorem stepC_blocked (c : Config) (x : Lw.Car) (m : Lw.Cmd) : (stepC c x m).blocked = x.blocked := by unfold stepC; split <;> rfl
theorem stepC_broken (c : Config) (x : Lw.Car) (m : Lw.Cmd) : (stepC c x m).broken = x.broken := by unfold stepC; split <;> rfl
theorem stepC_mode (c : Config) (x : Lw.Car) (m : Lw.Cmd) : (stepC c x m).mode = x.mode := by unfold stepC; split <;> rfl
theorem stepC_target (c : Config) (x : Lw.Car) (m : Lw.Cmd) : (stepC c x m).target = x.target := by unfold stepC; split <;> rfl
theorem stepC_hold (c : Config) (x : Lw.Car) (m : Lw.Cmd) : (stepC c x m).hold = x.hold := by unfold stepC; split <;> rfl
theorem stepC_stops (c : Config) (x : Lw.Car) (m : Lw.Cmd) : (stepC c x m).stops = x.stops := by unfold stepC; split <;> rfl
theorem wf_car_unit {x : Lw.Car} (h : WfAll x.enc) : r64 x.unit := wf_i64 h.2.2.1
theorem tickD_zero {d : Lw.Door} (h : d.state = 0) (t : Int) (b : Bool) : tickD d t b = d := by
  unfold tickD
  rw [if_neg (by omega), if_neg (by omega), if_neg (by omega), if_neg (by omega), if_neg (by omega)]
theorem told_good {c : Config} {x : Lw.Car} {m : Lw.Cmd} (h : goodD x.door c.door = true) : goodD (toldD x m) c.door = true := by
  obtain ⟨⟨g1, _⟩, ⟨g2, _⟩, _⟩ := door_goods h
  unfold toldD
  (repeat' split) <;> assumption
theorem told_zero {x : Lw.Car} {m : Lw.Cmd} (h : x.door.state = 0) (k : levelB x.unit = false) : toldD x m = x.door := by
  cases hb : x.broken
  · exact told_n hb (.inr k) (.inr (by omega))
  · exact told_b hb
theorem move_range {u w f : Int} (h0 : 0 ≤ u) (h1 : u ≤ 4 * (floorsI f - 1)) : (0 ≤ moveI u w f ∧ moveI u w f ≤ 4 * (floorsI f - 1)) ∧ moveI u w f - u ≤ 1 ∧ u - moveI u w f ≤ 1 := by
  unfold moveI; (repeat' split) <;> omega
theorem step_door (c : Config) (x : Lw.Car) (m : Lw.Cmd) : (stepC c x m).door = tickD (toldD x m) c.door x.blocked := by unfold stepC; split <;> rfl
theorem good_step {c : Config} {x : Lw.Car} (m : Lw.Cmd) (hg : goodC c x = true) : goodC c (stepC c x m) = true ∧ safeB (stepC c x m) = true ∧ safeB x = true := by
  simp only [goodC, decide_eq_true_eq] at hg
  obtain ⟨h1, h2, h3, h4, h5, h6⟩ := hg
  have hgd : goodD (tickD (toldD x m) c.door x.blocked) c.door = true := ((door_goods (told_good (m := m) h1)).2.2 x.blocked).1
  have hmv := (move_range (w := m.run) h2 h3).1
  have hsafe : (tickD (toldD x m) c.door x.blocked).state = 0 ∨ levelB x.unit = true := by
    cases hl : levelB x.unit
    · have h0 : x.door.state = 0 := by
        rcases h6 with h6 | h6
        · exact h6
        · rw [hl] at h6; cases h6
      rw [told_zero h0 hl, tickD_zero h0]
      exact .inl h0
    · exact .inr rfl
  refine ⟨?_, ?_, decide_eq_true h6⟩
  · unfold stepC
    split
    · rename_i hc
      exact decide_eq_true ⟨hgd, hmv.1, hmv.2, by simp only; omega, by simp only; omega, .inl hc.2.2.1⟩
    · exact decide_eq_true ⟨hgd, h2, h3, h4, h5, hsafe⟩
  · unfold stepC
    split
    · rename_i hc
      exact decide_eq_true (.inl hc.2.2.1)
    · exact decide_eq_true hsafe
theorem unit_step (c : Config) (x : Lw.Car) (m : Lw.Cmd) (h : (stepC c x m).unit ≠ x.unit) : x.broken = false ∧ x.door.state = 0 ∧ (stepC c x m).door.state = 0 := by
  unfold stepC at *
  split at h
  · rename_i hc
    rw [if_pos hc]
    exact ⟨hc.1, hc.2.1, hc.2.2.1⟩
  · exact absurd rfl h
theorem unit_near {c : Config} {x : Lw.Car} (m : Lw.Cmd) (h0 : 0 ≤ x.unit) (h1 : x.unit ≤ 4 * (floorsI c.floors - 1)) : (stepC c x m).unit - x.unit ≤ 1 ∧ x.unit - (stepC c x m).unit ≤ 1 ∧ 0 ≤ (stepC c x m).unit ∧ (stepC c x m).unit ≤ 4 * (floorsI c.floors - 1) := by
  have hm := move_range (w := m.run) h0 h1
  unfold stepC
  split <;> simp only <;> omega
theorem plant_chk {y : Lw.Car} {u : Int} (h : safeB y = true) (hy : 0 ≤ y.unit ∧ y.unit ≤ 252) (hu : 0 ≤ u ∧ u ≤ 252) (h1 : y.unit - u ≤ 1) (h2 : u - y.unit ≤ 1) :
    (bif bif !safeB y then true else decide (IntKind.i64.wrap (y.unit - u) > 1) then true else decide (IntKind.i64.wrap (u - y.unit) > 1)) = false := by
  rw [h, wrap_id (by omega) (by omega), wrap_id (by omega) (by omega)]
  simp; omega
theorem h77 : Holds Try.prog eid 77 (s77) := by
  refine hold tb41_ok Try.func77 (by kernel_rfl) ?_ (by kernel_rfl)
  intro xs M t h
  unfold s77 at h
  split at h
  case h_2 => cases h
  cases h
  refine ⟨fun l h => (nomatch h), fun hp => ?_⟩
  rw [v77_vc]
  exact ends_v rfl rfl
theorem tb42_ok : GamOk Try.prog eid (gam tb42) := gam_cons h77 tb41_ok
theorem h40 : Holds Try.prog eid 40 (s40) := by
  refine hold tb42_ok Try.func40 (by kernel_rfl) ?_ (by kernel_rfl)
  intro xs M t h
  unfold s40 at h
  split at h
  case h_2 => cases h
  cases h
  refine ⟨fun l h => (nomatch h), fun hp => ?_⟩
  rw [v40_vc]
  exact ⟨by unfold mildC mildD r64; decide +kernel, by unfold mildC mildD r64; decide +kernel, ends_pl (congrArg PC.bool (by decide +kernel))⟩
theorem tb43_ok : GamOk Try.prog eid (gam tb43) := gam_cons h40 tb42_ok
theorem h12 : Holds Try.prog eid 12 (s12) := by
  refine hold tb43_ok Try.func12 (by kernel_rfl) ?_ (by kernel_rfl)
  intro xs M t h
  unfold s12 at h
  split at h
  case h_2 => cases h
  rename_i csc csx csm
  obtain ⟨c, hcc, h1⟩ := Option.bind_eq_some_iff.1 h
  clear h
  have h := h1
  clear h1
  obtain ⟨x, hcx, h1⟩ := Option.bind_eq_some_iff.1 h
  clear h
  have h := h1
  clear h1
  obtain ⟨m, hcm, h1⟩ := Option.bind_eq_some_iff.1 h
  clear h
  have h := h1
  clear h1
  cases h
  cases Lw.Config.of_eq hcc
  clear hcc
  cases Lw.Car.of_eq hcx
  clear hcx
  cases Lw.Cmd.of_eq hcm
  clear hcm
  refine ⟨fun l h => (nomatch h), fun hp => ?_⟩
  rw [v12_vc]
  have hp : r64 x.unit := hp
  refine cnd_iff.2 ⟨fun h => absurd h (by simp), fun _ => cnd_iff.2 ⟨fun _ => ends_pl rfl, fun hg => ?_⟩⟩
  have hg : goodC c x = true := by simpa using hg
  have hgd : goodD x.door c.door = true := (of_decide_eq_true hg).1
  have hm : mildC x := ⟨goodD_mild hgd, hp⟩
  obtain ⟨k1, k2, k3⟩ := good_step m hg
  refine ⟨hm, hm, ?_⟩
  simp only [pcsEq_self, k1, k2, cnd]
  exact ends_pl (by rw [k3])
theorem tb44_ok : GamOk Try.prog eid (gam tb44) := gam_cons h12 tb43_ok
theorem h14 : Holds Try.prog eid 14 (s14) := by
  refine hold tb44_ok Try.func14 (by kernel_rfl) ?_ (by kernel_rfl)
  intro xs M t h
  unfold s14 at h
  split at h
  case h_2 => cases h
  rename_i csc csx csm
  obtain ⟨c, hcc, h1⟩ := Option.bind_eq_some_iff.1 h
  clear h
  have h := h1
  clear h1
  obtain ⟨x, hcx, h1⟩ := Option.bind_eq_some_iff.1 h
  clear h
  have h := h1
  clear h1
  obtain ⟨m, hcm, h1⟩ := Option.bind_eq_some_iff.1 h
  clear h
  have h := h1
  clear h1
  cases h
  cases Lw.Config.of_eq hcc
  clear hcc
  cases Lw.Car.of_eq hcx
  clear hcx
  cases Lw.Cmd.of_eq hcm
  clear hcm
  refine ⟨fun l h => (nomatch h), fun hp => ?_⟩
  rw [v14_vc]
  have hp : r64 x.unit := hp
  refine cnd_iff.2 ⟨fun _ => ends_pl rfl, fun hg => ?_⟩
  have hg : goodC c x = true := by simpa using hg
  have hgd : goodD x.door c.door = true := (of_decide_eq_true hg).1
  refine ⟨⟨goodD_mild hgd, hp⟩, ?_⟩
  simp only [stepC_timer, stepC_just, stepC_load, stepC_blocked, stepC_broken, stepC_mode, stepC_target, stepC_hold, stepC_stops, pcsEq_self, cond_true]
  exact ends_pl rfl
theorem tb45_ok : GamOk Try.prog eid (gam tb45) := gam_cons h14 tb44_ok
theorem h13 : Holds Try.prog eid 13 (s13) := by
  refine hold tb45_ok Try.func13 (by kernel_rfl) ?_ (by kernel_rfl)
  intro xs M t h
  unfold s13 at h
  split at h
  case h_2 => cases h
  rename_i csc cmds bl br
  obtain ⟨c, hcc, h1⟩ := Option.bind_eq_some_iff.1 h
  clear h
  have h := h1
  clear h1
  cases h
  cases Lw.Config.of_eq hcc
  clear hcc
  refine ⟨fun l h => (nomatch h), fun hp => ?_⟩
  rw [v13_vc]
  have hl : cmds.length ≤ Go.maxLen := hp
  have hfl := floorsI_range c.floors
  refine loopVC_st (S := Int × Lw.Car) v13b_m 2 (fun s => v13b_fr c cmds bl br s.2 s.1) (fun s => v13b_mem c cmds bl br s.2 s.1) (fun s => (cmds.length - s.1).toNat) (fun s => 0 ≤ s.1 ∧ s.1 ≤ cmds.length ∧ goodC c s.2 = true) rfl ⟨(0, car0), ⟨by simp, by simp, decide_eq_true ⟨by simp [car0, goodD], by decide, ?_, by decide, by decide, .inl rfl⟩⟩, rfl, rfl⟩ ?_
  · show (0 : Int) ≤ _
    omega
  rintro ⟨i, x⟩ ⟨h0, h1, hg⟩
  simp only at h0 h1 hg
  refine (v13b_vc c cmds bl br x i _ _).mpr ?_
  refine cnd_iff.2 ⟨fun hc => ?_, fun _ => ends_pl rfl⟩
  simp only [c_and, c_or, Bool.and_eq_true, Bool.or_eq_true, Bool.and_eq_false_iff, Bool.or_eq_false_iff, Bool.not_eq_true', Bool.not_eq_false', beq_iff_eq, beq_eq_false_iff_ne, bne_iff_ne, bne_eq_false_iff_eq, ne_eq, decide_eq_true_eq, decide_eq_false_iff_not] at hc
  have hm := maxLen_eq
  rw [wrap_id (n := i + 1) (by omega) (by omega)]
  generalize (bif decide (i < (bl.length : Int)) then bl.getD i.toNat (RTy.zero .bool) else false) = B
  generalize (bif decide (i < (br.length : Int)) then br.getD i.toNat (RTy.zero .bool) else false) = R
  generalize cmds.getD i.toNat (RTy.zero .cmd) = m
  have hX : goodC c ⟨x.door, x.unit, x.way, x.timer, x.just, x.load, B, R, x.mode, x.target, x.hold, x.stops⟩ = true := hg
  obtain ⟨k1, k2, k3⟩ := good_step m hX
  have hgg := of_decide_eq_true hg
  have hun := unit_step c ⟨x.door, x.unit, x.way, x.timer, x.just, x.load, B, R, x.mode, x.target, x.hold, x.stops⟩ m
  have hnr := unit_near (c := c) (x := ⟨x.door, x.unit, x.way, x.timer, x.just, x.load, B, R, x.mode, x.target, x.hold, x.stops⟩) m hgg.2.1 hgg.2.2.1
  generalize stepC c ⟨x.door, x.unit, x.way, x.timer, x.just, x.load, B, R, x.mode, x.target, x.hold, x.stops⟩ m = y at *
  simp only at hun hnr
  have hchk := plant_chk (u := x.unit) k2 (by omega) (by omega) hnr.1 hnr.2.1
  have hd : mildD x.door := goodD_mild hgg.1
  refine ⟨fun h => ⟨h0, of_decide_eq_true h⟩, fun h => ⟨h0, of_decide_eq_true h⟩, ⟨h0, hc.1⟩, ⟨hd, by unfold r64; simp only; omega⟩, cnd_iff.2 ⟨fun hne => ?_, fun he => ?_⟩⟩
  · simp only [c_and, c_or, Bool.and_eq_true, Bool.or_eq_true, Bool.and_eq_false_iff, Bool.or_eq_false_iff, Bool.not_eq_true', Bool.not_eq_false', beq_iff_eq, beq_eq_false_iff_ne, bne_iff_ne, bne_eq_false_iff_eq, ne_eq, decide_eq_true_eq, decide_eq_false_iff_not] at hne
    obtain ⟨e1, e2, e3⟩ := hun hne
    refine cnd_iff.2 ⟨fun h => absurd e2 (by simpa using h), fun _ => cnd_iff.2 ⟨fun h => absurd e3 (by simpa using h), fun _ => cnd_iff.2 ⟨fun h => absurd h (by simp [e1]), fun _ => ?_⟩⟩⟩
    rw [hchk]
    exact ⟨(i + 1, y), ⟨by simp only; omega, by simp only; omega, k1⟩, by simp only; omega, rfl, rfl⟩
  · rw [hchk]
    exact ⟨(i + 1, y), ⟨by simp only; omega, by simp only; omega, k1⟩, by simp only; omega, rfl, rfl⟩
theorem tb46_ok : GamOk Try.prog eid (gam tb46) := gam_cons h13 tb45_ok
end Go.Proofs.Ytijcloeapcapiaa
