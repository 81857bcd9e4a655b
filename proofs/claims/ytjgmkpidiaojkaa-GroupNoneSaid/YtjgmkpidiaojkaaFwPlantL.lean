/- The functions of this group answer so. -/
import Derived.Test.YtjgmkpidiaojkaaFwPlantLV
import Derived.Test.YtjgmkpidiaojkaaFwStops
set_option linter.unusedVariables false
set_option linter.unusedSimpArgs false
set_option maxRecDepth 20000
set_option maxHeartbeats 4000000
namespace Go.Proofs.Ytjgmkpidiaojkaa
open Lw
theorem stepC_timer (c : Config) (x : Lw.Car) (m : Lw.Cmd) : (stepC c x m).timer = x.timer := by unfold stepC; split <;> rfl
theorem stepC_just (c : Config) (x : Lw.Car) (m : Lw.Cmd) : (stepC c x m).just = x.just := by unfold stepC; split <;> rfl
theorem stepC_load (c : Config) (x : Lw.Car) (m : Lw.Cmd) : (stepC c x m).load = x.load := by unfold stepC; split <;> rfl
theorem stepC_blocked (c : Config) (x : Lw.Car) (m : Lw.Cmd) : (stepC c x m).blocked = x.blocked := by unfold stepC; split <;> rfl
theorem stepC_broken (c : Config) (x : Lw.Car) (m : Lw.Cmd) : (stepC c x m).broken = x.broken := by unfold stepC; split <;> rfl
theorem stepC_mode (c : Config) (x : Lw.Car) (m : Lw.Cmd) : (stepC c x m).mode = x.mode := by unfold stepC; split <;> rfl
theorem stepC_target (c : Config) (x : Lw.Car) (m : Lw.Cmd) : (stepC c x m).target = x.target := by unfold stepC; split <;> rfl
theorem stepC_hold (c : Config) (x : Lw.Car) (m : Lw.Cmd) : (stepC c x m).hold = x.hold := by unfold stepC; split <;> rfl
theorem stepC_stops (c : Config) (x : Lw.Car) (m : Lw.Cmd) : (stepC c x m).stops = x.stops := by unfold stepC; split <;> rfl
theorem wf_car_unit {x : Lw.Car} (h : WfAll x.enc) : r64 x.unit := wf_i64 h.2.2.1
theorem tickD_zero {d : Lw.Door} (h : d.state = 0) (t : Int) (b : Bool) : tickD d t b = d := by
  unfold tickD
  rw [if_neg (by omega), if_neg (by omega), if_neg (by omega), if_neg (by omega), if_neg (by omega)]
theorem told_good {c : Config} {x : Lw.Car} {m : Lw.Cmd} (h : goodD x.door c.door = true) : goodD (toldD x m) c.door = true := by
  obtain ⟨⟨g1, _⟩, ⟨g2, _⟩, _⟩ := door_goods h
  unfold toldD
  (repeat' split) <;> assumption
theorem told_zero {x : Lw.Car} {m : Lw.Cmd} (h : x.door.state = 0) (k : levelB x.unit = false) : toldD x m = x.door := by
  cases hb : x.broken
  · exact told_n hb (.inr k) (.inr (by omega))
  · exact told_b hb
theorem move_range {u w f : Int} (h0 : 0 ≤ u) (h1 : u ≤ 4 * (floorsI f - 1)) : (0 ≤ moveI u w f ∧ moveI u w f ≤ 4 * (floorsI f - 1)) ∧ moveI u w f - u ≤ 1 ∧ u - moveI u w f ≤ 1 := by
  unfold moveI; (repeat' split) <;> omega
theorem step_door (c : Config) (x : Lw.Car) (m : Lw.Cmd) : (stepC c x m).door = tickD (toldD x m) c.door x.blocked := by unfold stepC; split <;> rfl
theorem good_step {c : Config} {x : Lw.Car} (m : Lw.Cmd) (hg : goodC c x = true) : goodC c (stepC c x m) = true ∧ safeB (stepC c x m) = true ∧ safeB x = true := by
  simp only [goodC, decide_eq_true_eq] at hg
  obtain ⟨h1, h2, h3, h4, h5, h6⟩ := hg
  have hgd : goodD (tickD (toldD x m) c.door x.blocked) c.door = true := ((door_goods (told_good (m := m) h1)).2.2 x.blocked).1
  have hmv := (move_range (w := m.run) h2 h3).1
  have hsafe : (tickD (toldD x m) c.door x.blocked).state = 0 ∨ levelB x.unit = true := by
    cases hl : levelB x.unit
    · have h0 : x.door.state = 0 := by
        rcases h6 with h6 | h6
        · exact h6
        · rw [hl] at h6; cases h6
      rw [told_zero h0 hl, tickD_zero h0]
      exact .inl h0
    · exact .inr rfl
  refine ⟨?_, ?_, decide_eq_true h6⟩
  · unfold stepC
    split
    · rename_i hc
      exact decide_eq_true ⟨hgd, hmv.1, hmv.2, by simp only; omega, by simp only; omega, .inl hc.2.2.1⟩
    · exact decide_eq_true ⟨hgd, h2, h3, h4, h5, hsafe⟩
  · unfold stepC
    split
    · rename_i hc
      exact decide_eq_true (.inl hc.2.2.1)
    · exact decide_eq_true hsafe
theorem unit_step (c : Config) (x : Lw.Car) (m : Lw.Cmd) (h : (stepC c x m).unit ≠ x.unit) : x.broken = false ∧ x.door.state = 0 ∧ (stepC c x m).door.state = 0 := by
  unfold stepC at *
  split at h
  · rename_i hc
    rw [if_pos hc]
    exact ⟨hc.1, hc.2.1, hc.2.2.1⟩
  · exact absurd rfl h
theorem unit_near {c : Config} {x : Lw.Car} (m : Lw.Cmd) (h0 : 0 ≤ x.unit) (h1 : x.unit ≤ 4 * (floorsI c.floors - 1)) : (stepC c x m).unit - x.unit ≤ 1 ∧ x.unit - (stepC c x m).unit ≤ 1 ∧ 0 ≤ (stepC c x m).unit ∧ (stepC c x m).unit ≤ 4 * (floorsI c.floors - 1) := by
  have hm := move_range (w := m.run) h0 h1
  unfold stepC
  split <;> simp only <;> omega
theorem plant_chk {y : Lw.Car} {u : Int} (h : safeB y = true) (hy : 0 ≤ y.unit ∧ y.unit ≤ 252) (hu : 0 ≤ u ∧ u ≤ 252) (h1 : y.unit - u ≤ 1) (h2 : u - y.unit ≤ 1) :
    (bif bif !safeB y then true else decide (IntKind.i64.wrap (y.unit - u) > 1) then true else decide (IntKind.i64.wrap (u - y.unit) > 1)) = false := by
  rw [h, wrap_id (by omega) (by omega), wrap_id (by omega) (by omega)]
  simp; omega
end Go.Proofs.Ytjgmkpidiaojkaa
