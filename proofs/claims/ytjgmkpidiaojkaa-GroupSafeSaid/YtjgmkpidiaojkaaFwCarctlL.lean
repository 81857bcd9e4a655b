/- The functions of this group answer so. -/
import Derived.Test.YtjgmkpidiaojkaaFwCarctlLV
import Derived.Test.YtjgmkpidiaojkaaFwCarctl
set_option linter.unusedVariables false
set_option linter.unusedSimpArgs false
set_option maxRecDepth 20000
set_option maxHeartbeats 4000000
namespace Go.Proofs.Ytjgmkpidiaojkaa
open Lw
theorem ctl_car (c : Config) (x : Lw.Car) : ((ctlT c x).car.door = x.door ∧ (ctlT c x).car.unit = x.unit ∧ (ctlT c x).car.mode = x.mode ∧ (ctlT c x).car.target = x.target ∧ (ctlT c x).car.broken = x.broken ∧ (ctlT c x).car.blocked = x.blocked ∧ (ctlT c x).car.hold = x.hold) ∧ (0 ≤ x.way → x.way ≤ 2 → 0 ≤ (ctlT c x).car.way ∧ (ctlT c x).car.way ≤ 2) ∧ (levelB x.unit = false → (ctlT c x).car.way = x.way) ∧ (stopsR x.stops → stopsR (ctlT c x).car.stops) := by
  have nr (f : Int) (h0 : 0 ≤ x.way) (h2 : x.way ≤ 2) : 0 ≤ (nextI x.stops f x.way x.just).1 ∧ (nextI x.stops f x.way x.just).1 ≤ 2 := by
    have h := nextI_cases (s := x.stops) (f := f) (j := x.just) h0 h2
    generalize (nextI x.stops f x.way x.just).1 = y at h ⊢
    generalize (nextI x.stops f x.way x.just).2 = b at h
    have ho := other_cases h0 h2
    cases h <;> omega
  have cl (s : Lw.Stops) (f w : Int) (h : stopsR s) : stopsR (clearS s f w) := by
    refine ⟨(bits_R .andNot s.press (bitI f) : u64R (bitsI .andNot .u64 s.press (bitI f))), ?_, ?_⟩
    · unfold clearS; simp only; split
      · exact bits_R _ _ _
      · exact h.2.1
    · unfold clearS; simp only; split
      · exact bits_R _ _ _
      · exact h.2.2
  unfold ctlT
  split
  · exact ⟨⟨rfl, rfl, rfl, rfl, rfl, rfl, rfl⟩, fun h k => ⟨h, k⟩, fun _ => rfl, fun h => h⟩
  · split
    · unfold leasedT
      (repeat' split) <;> exact ⟨⟨rfl, rfl, rfl, rfl, rfl, rfl, rfl⟩, fun h k => ⟨h, k⟩, fun _ => rfl, fun h => h⟩
    · unfold normalT
      split
      · exact ⟨⟨rfl, rfl, rfl, rfl, rfl, rfl, rfl⟩, fun h k => ⟨h, k⟩, fun _ => rfl, fun h => h⟩
      · rename_i h1
        split
        · rename_i h2
          have hl : levelB x.unit = false → False := fun h => h1 ⟨h2, h⟩
          unfold standT
          (repeat' split)
          · exact ⟨⟨rfl, rfl, rfl, rfl, rfl, rfl, rfl⟩, nr _, fun h => (hl h).elim, fun h => cl _ _ _ h⟩
          · exact ⟨⟨rfl, rfl, rfl, rfl, rfl, rfl, rfl⟩, nr _, fun h => (hl h).elim, fun h => h⟩
          · exact ⟨⟨rfl, rfl, rfl, rfl, rfl, rfl, rfl⟩, fun h k => ⟨h, k⟩, fun h => (hl h).elim, fun h => h⟩
        · (repeat' split) <;> exact ⟨⟨rfl, rfl, rfl, rfl, rfl, rfl, rfl⟩, fun h k => ⟨h, k⟩, fun _ => rfl, fun h => h⟩
theorem may_iff {c : Config} {x : Lw.Car} : mayB c x = true ↔ goodC c x = true ∧ (x.mode = 0 ∨ x.mode = 1) ∧ (levelB x.unit = true ∨ x.way ≠ 0) ∧ (x.mode ≠ 1 ∨ (0 ≤ x.target ∧ x.target < floorsI c.floors)) := by
  unfold mayB
  simp only [c_and, c_or, Bool.and_eq_true, Bool.or_eq_true, Bool.and_eq_false_iff, Bool.or_eq_false_iff, Bool.not_eq_true', Bool.not_eq_false', beq_iff_eq, beq_eq_false_iff_ne, bne_iff_ne, bne_eq_false_iff_eq, ne_eq, decide_eq_true_eq, decide_eq_false_iff_not]
theorem good_mild {c : Config} {x : Lw.Car} (h : goodC c x = true) : mildC x := by
  have hf := floorsI_range c.floors
  simp only [goodC, decide_eq_true_eq] at h
  refine ⟨goodD_mild h.1, ?_⟩
  unfold r64; omega
theorem good_ctl {c : Config} {x : Lw.Car} (h : goodC c x = true) : goodC c (ctlT c x).car = true := by
  obtain ⟨⟨k1, k2, _⟩, k3, k4, k5⟩ := ctl_car c x
  simp only [goodC, decide_eq_true_eq] at h ⊢
  obtain ⟨h1, h2, h3, h4, h5, h6⟩ := h
  rw [k1, k2]
  exact ⟨h1, h2, h3, (k3 h4 h5).1, (k3 h4 h5).2, h6⟩
theorem tick_may {c : Config} {x : Lw.Car} (h : mayB c x = true) (hs : stopsR x.stops) : mayB c (tickCar c x) = true ∧ stopsR (tickCar c x).stops ∧ ((tickCar c x).unit ≠ x.unit → x.door.state = 0 ∧ (tickCar c x).door.state = 0) := by
  obtain ⟨⟨k1, k2, k6, k7, _⟩, k3, k4, k5⟩ := ctl_car c x
  obtain ⟨hg, hm, hl, ht⟩ := may_iff.1 h
  have hgc := good_ctl hg
  refine ⟨may_iff.2 ⟨(good_step (ctlT c x).cmd hgc).1, ?_, ?_, ?_⟩, ?_, fun hu => ?_⟩
  · unfold tickCar; rw [stepC_mode, k6]; exact hm
  · unfold tickCar stepC
    split
    · rename_i hc
      right
      simp only; omega
    · simp only [k2]
      cases hv : levelB x.unit
      · right
        rw [k4 hv]
        rcases hl with hl | hl
        · rw [hv] at hl; cases hl
        · exact hl
      · exact .inl rfl
  · unfold tickCar; rw [stepC_mode, stepC_target, k6, k7]; exact ht
  · unfold tickCar; rw [stepC_stops]; exact k5 hs
  · unfold tickCar at hu ⊢
    have := unit_step c (ctlT c x).car (ctlT c x).cmd (by rw [k2]; exact hu)
    rw [k1] at this
    exact this.2
theorem may_told {c : Config} {x a : Lw.Car} (h : mayB c x = true) : mayB c (told14 x a) = true := h
theorem wf_stopsC {x : Lw.Car} (h : WfAll x.enc) : stopsR x.stops := ⟨wf_range h.2.2.2.2.2.2.2.2.2.2.2.2.1, wf_range h.2.2.2.2.2.2.2.2.2.2.2.2.2.1, wf_range h.2.2.2.2.2.2.2.2.2.2.2.2.2.2.1⟩
theorem leased_tick {c : Config} {x : Lw.Car} (hb : x.broken = false) (hm : x.mode = 1) : tickCar c x = stepC c (leasedT (ctl0 x)).car (leasedT (ctl0 x)).cmd := by
  unfold tickCar
  rw [show ctlT c x = leasedT (ctl0 x) from (if_neg (by rw [hb]; simp)).trans (if_pos hm)]
theorem step_unit0 {c : Config} {x : Lw.Car} {m : Lw.Cmd} (h : m.run = 0) : (stepC c x m).unit = x.unit := by
  unfold stepC
  rw [if_neg (by rw [h]; simp)]
theorem there_level {x : Lw.Car} (h : thereB x = true) : levelB x.unit = true ∧ x.unit = 4 * x.target := by
  unfold thereB at h
  simp only [Bool.and_eq_true, beq_iff_eq] at h
  refine ⟨h.1, ?_⟩
  have hl := h.1
  have hf := h.2
  unfold levelF at hf
  rw [hl, cond_true] at hf
  unfold levelB at hl
  simp at hl
  omega
theorem there_of {x : Lw.Car} (h0 : 0 ≤ x.target) (h1 : x.target < 64) (h : x.unit = 4 * x.target) : thereB x = true := by
  have hl : levelB x.unit = true := by unfold levelB; simp; omega
  unfold thereB
  rw [hl, Bool.true_and, beq_iff_eq]
  unfold levelF
  rw [hl, cond_true]; omega
theorem tick_there {c : Config} {x : Lw.Car} (hb : x.broken = false) (hm : x.mode = 1) (hh : x.hold = true) (ht : thereB x = true) : (tickCar c x).door = tickD (openD x.door) c.door x.blocked ∧ (tickCar c x).unit = x.unit := by
  have hl := (there_level ht).1
  rw [leased_tick hb hm]
  by_cases h0 : x.door.state = 0
  · rw [show leasedT (ctl0 x) = cmdK (ctl0 x) ⟨0, x.hold, false⟩ from if_pos ⟨h0, ht⟩]
    show (stepC c x ⟨0, x.hold, false⟩).door = _ ∧ (stepC c x ⟨0, x.hold, false⟩).unit = _
    rw [step_door, step_unit0 rfl, told_o hb ⟨hh, hl⟩]
    exact ⟨rfl, rfl⟩
  · rw [show leasedT (ctl0 x) = cmdK (ctl0 x) ⟨0, x.door.state == 3, false⟩ from (if_neg fun h => h0 h.1).trans ((if_neg h0).trans (if_pos ⟨ht, hh⟩))]
    show (stepC c x ⟨0, x.door.state == 3, false⟩).door = _ ∧ (stepC c x ⟨0, x.door.state == 3, false⟩).unit = _
    rw [step_door, step_unit0 rfl]
    refine ⟨?_, rfl⟩
    by_cases h3 : x.door.state = 3
    · rw [told_o hb ⟨by simp [h3], hl⟩]
    · rw [told_n hb (.inl (by simp [h3])) (.inl rfl), openD_id (by omega)]
theorem tick_away0 {c : Config} {x : Lw.Car} (hb : x.broken = false) (hm : x.mode = 1) (ht : thereB x = false) (h0 : x.door.state = 0) (hw : towardI x.unit x.target = 1 ∨ towardI x.unit x.target = 2) : (tickCar c x).door = x.door ∧ (tickCar c x).unit = moveI x.unit (towardI x.unit x.target) c.floors := by
  rw [leased_tick hb hm]
  rw [show leasedT (ctl0 x) = ⟨putC x x.way x.timer (-1) x.stops, ⟨towardI x.unit x.target, false, false⟩, ⟨0, 0⟩, false⟩ from (if_neg fun h => by rw [show thereB x = true from h.2] at ht; cases ht).trans (if_pos h0)]
  have hd : toldD (putC x x.way x.timer (-1) x.stops) ⟨towardI x.unit x.target, false, false⟩ = x.door := told_n hb (.inl rfl) (.inl rfl)
  simp only
  refine ⟨?_, ?_⟩
  · rw [step_door, hd, tickD_zero h0]
  · unfold stepC
    rw [hd, if_pos ⟨hb, h0, by rw [tickD_zero h0]; exact h0, hw⟩]
    rfl
theorem tick_away1 {c : Config} {x : Lw.Car} (hb : x.broken = false) (hm : x.mode = 1) (hl : x.blocked = false) (ht : thereB x = false) (h0 : x.door.state ≠ 0) : (tickCar c x).door = tickD (if x.door.state = 2 then closeD x.door else x.door) c.door x.blocked ∧ (tickCar c x).unit = x.unit := by
  rw [leased_tick hb hm]
  rw [show leasedT (ctl0 x) = cmdK (ctl0 x) ⟨0, false, (x.door.state == 2) && !x.blocked⟩ from (if_neg fun h => h0 h.1).trans ((if_neg h0).trans (if_neg fun h => by rw [show thereB x = true from h.1] at ht; cases ht))]
  show (stepC c x ⟨0, false, (x.door.state == 2) && !x.blocked⟩).door = _ ∧ (stepC c x ⟨0, false, (x.door.state == 2) && !x.blocked⟩).unit = _
  rw [step_door, step_unit0 rfl]
  refine ⟨?_, rfl⟩
  by_cases h2 : x.door.state = 2
  · rw [if_pos h2, told_c hb (.inl rfl) (by simp [h2, hl])]
  · rw [if_neg h2, told_n hb (.inl rfl) (.inl (by simp [h2]))]
theorem tick_same (c : Config) (x : Lw.Car) : (tickCar c x).mode = x.mode ∧ (tickCar c x).target = x.target ∧ (tickCar c x).broken = x.broken ∧ (tickCar c x).blocked = x.blocked ∧ (tickCar c x).hold = x.hold := by
  obtain ⟨⟨k1, k2, k3, k4, k5, k6, k7⟩, _⟩ := ctl_car c x
  unfold tickCar
  rw [stepC_mode, stepC_target, stepC_broken, stepC_blocked, stepC_hold]
  exact ⟨k3, k4, k5, k6, k7⟩
def farA (x : Lw.Car) : Int := max (x.unit - 4 * x.target) (4 * x.target - x.unit)
def opL (d : Lw.Door) (D : Int) : Int := if d.state = 2 then 0 else if d.state = 0 then D else if D - d.at_ ≤ 1 then 1 else D - d.at_
def shL (d : Lw.Door) (D : Int) : Int := if d.state = 0 then 0 else if d.state = 3 then (if d.at_ ≤ 1 then 1 else d.at_) else if d.state = 2 then D else (if D - d.at_ ≤ 1 then 1 else D - d.at_) + D
def phiG (c : Config) (x : Lw.Car) : Int := if thereB x = true then opL x.door (spanI c.door) else farA x + spanI c.door + shL x.door (spanI c.door)
theorem door_four {d : Lw.Door} {t : Int} (h : goodD d t = true) : (d.state = 0 ∧ d.at_ = 0) ∨ (d.state = 2 ∧ d.at_ = spanI t) ∨ (d.state = 1 ∧ 0 ≤ d.at_ ∧ d.at_ ≤ spanI t) ∨ (d.state = 3 ∧ 0 ≤ d.at_ ∧ d.at_ ≤ spanI t) := by
  simp only [goodD, decide_eq_true_eq] at h
  omega
theorem opL_range {d : Lw.Door} {t : Int} (h : goodD d t = true) : 0 ≤ opL d (spanI t) ∧ opL d (spanI t) ≤ spanI t ∧ (opL d (spanI t) = 0 → d.state = 2) := by
  have hs := spanI_range t
  obtain ⟨st, aa⟩ := d
  rcases door_four h with k | k | k | k <;> simp only at k <;> obtain ⟨rfl, k⟩ := k <;> unfold opL <;> simp only [Int.reduceEq, if_true, if_false] <;> (try split) <;> (refine ⟨by omega, by omega, fun hp => ?_⟩) <;> first | rfl | omega
theorem shL_range {d : Lw.Door} {t : Int} (h : goodD d t = true) : 0 ≤ shL d (spanI t) ∧ shL d (spanI t) ≤ 2 * spanI t := by
  have hs := spanI_range t
  obtain ⟨st, aa⟩ := d
  rcases door_four h with k | k | k | k <;> simp only at k <;> obtain ⟨rfl, k⟩ := k <;> unfold shL <;> simp only [Int.reduceEq, if_true, if_false] <;> (try split) <;> omega
theorem open_step {d : Lw.Door} {t : Int} (h : goodD d t = true) : opL (tickD (openD d) t false) (spanI t) < opL d (spanI t) ∨ (opL d (spanI t) = 0 ∧ opL (tickD (openD d) t false) (spanI t) = 0) := by
  have hs := spanI_range t
  obtain ⟨st, aa⟩ := d
  by_cases hq : aa + 1 ≥ spanI t
  · rcases door_four h with k | k | k | k <;> simp only at k <;> obtain ⟨rfl, k⟩ := k <;> simp [openD, tickD, opL, hq] <;> (try split) <;> omega
  · rcases door_four h with k | k | k | k <;> simp only at k <;> obtain ⟨rfl, k⟩ := k <;> simp [openD, tickD, opL, hq] <;> (repeat' split) <;> omega
theorem shut_step {d : Lw.Door} {t : Int} (h : goodD d t = true) (h0 : d.state ≠ 0) : shL (tickD (if d.state = 2 then closeD d else d) t false) (spanI t) < shL d (spanI t) := by
  have hs := spanI_range t
  obtain ⟨st, aa⟩ := d
  by_cases hq : aa + 1 ≥ spanI t <;> by_cases hz : aa ≤ 1
  all_goals (rcases door_four h with k | k | k | k <;> simp only at k <;> obtain ⟨rfl, k⟩ := k <;> first | exact absurd rfl h0 | (simp [closeD, tickD, shL, hq, hz] <;> (repeat' split) <;> omega))
theorem phi_range {c : Config} {x : Lw.Car} (h : mayB c x = true) : 0 ≤ phiG c x ∧ phiG c x ≤ farA x + 3 * spanI c.door ∧ (phiG c x ≤ 0 → thereB x = true ∧ x.door.state = 2) := by
  have hs := spanI_range c.door
  have hg := (may_iff.1 h).1
  simp only [goodC, decide_eq_true_eq] at hg
  have h1 := opL_range hg.1
  have h2 := shL_range hg.1
  have hf : 0 ≤ farA x := by unfold farA; omega
  unfold phiG
  by_cases ht : thereB x = true
  · rw [if_pos ht]
    exact ⟨by omega, by omega, fun hp => ⟨ht, h1.2.2 (by omega)⟩⟩
  · rw [if_neg ht]
    exact ⟨by omega, by omega, fun hp => by omega⟩
theorem phi_step {c : Config} {x : Lw.Car} (h : mayB c x = true) (hb : x.broken = false) (hm : x.mode = 1) (hh : x.hold = true) (hl : x.blocked = false) : phiG c (tickCar c x) < phiG c x ∨ (phiG c x = 0 ∧ phiG c (tickCar c x) = 0) := by
  have hs := spanI_range c.door
  have hfl := floorsI_range c.floors
  obtain ⟨hg, _, hlev, htg⟩ := may_iff.1 h
  have htg : 0 ≤ x.target ∧ x.target < floorsI c.floors := by
    rcases htg with k | k
    · exact absurd hm k
    · exact k
  simp only [goodC, decide_eq_true_eq] at hg
  obtain ⟨hd, hu0, hu1, _, _, hsafe⟩ := hg
  have hsame := tick_same c x
  by_cases ht : thereB x = true
  · obtain ⟨e1, e2⟩ := tick_there (c := c) hb hm hh ht
    have ht' : thereB (tickCar c x) = true := by unfold thereB at ht ⊢; rw [e2, hsame.2.1]; exact ht
    unfold phiG
    rw [if_pos ht, if_pos ht', e1, hl]
    exact open_step hd
  · have ht0 : thereB x = false := by simpa using ht
    have hne : x.unit ≠ 4 * x.target := fun k => ht (there_of htg.1 (by omega) k)
    have h4 : at4 x.target = 4 * x.target := wrap_id (by omega) (by omega)
    by_cases h0 : x.door.state = 0
    · have hw : towardI x.unit x.target = 1 ∨ towardI x.unit x.target = 2 := by
        unfold towardI; rw [h4]; (repeat' split) <;> omega
      obtain ⟨e1, e2⟩ := tick_away0 (c := c) hb hm ht0 h0 hw
      have e3 : farA (tickCar c x) = farA x - 1 ∧ farA x ≥ 1 := by
        unfold farA
        rw [e2, hsame.2.1]
        unfold moveI towardI
        rw [h4]
        (repeat' split) <;> omega
      left
      unfold phiG
      have s0 : shL x.door (spanI c.door) = 0 := if_pos h0
      have o0 := (opL_range hd).2.1
      rw [if_neg ht, e1, s0]
      by_cases ht' : thereB (tickCar c x) = true
      · rw [if_pos ht']; omega
      · rw [if_neg ht']; omega
    · obtain ⟨e1, e2⟩ := tick_away1 (c := c) hb hm hl ht0 h0
      have ht' : ¬ thereB (tickCar c x) = true := by
        unfold thereB at ht ⊢; rw [e2, hsame.2.1]; exact ht
      have e3 : farA (tickCar c x) = farA x := by unfold farA; rw [e2, hsame.2.1]
      left
      unfold phiG
      have := shut_step hd h0
      rw [if_neg ht, if_neg ht', e1, e3, hl]
      omega
theorem run14_ok : ∀ k : Fin 6, (stopsR (run14 k).1.stops ∧ mildC (run14 k).1) ∧ (0 ≤ (run14 k).2 ∧ (run14 k).2 ≤ 6) := by
  unfold stopsR mildC u64R mildD r64
  decide +kernel
theorem run14_go (k : Nat) : run14 (k + 1) = (tickCar conf14 (run14 k).1, if tickSv conf14 (run14 k).1 = true ∧ (tickCall conf14 (run14 k).1).floor = 1 ∧ (tickCall conf14 (run14 k).1).way = 1 then (run14 k).2 + 1 else (run14 k).2) := rfl
theorem pcs2 (a b : Int) : pcsEq [PC.int .i64 a, PC.int .i64 b] [PC.int .i64 1, PC.int .i64 1] = true ↔ a = 1 ∧ b = 1 := by
  simp [pcsEq, pcEq]
theorem hold_door {d : Lw.Door} {t : Int} (b : Bool) (h : goodD d t = true) (h3 : d.state ≠ 3) : goodD (tickD (openD d) t b) t = true ∧ (tickD (openD d) t b).state ≠ 3 ∧ (d.state = 2 → (tickD (openD d) t b).state = 2) := by
  have hs := spanI_range t
  refine ⟨((door_goods (door_goods h).1.1).2.2 b).1, ?_⟩
  simp only [goodD, decide_eq_true_eq] at h
  unfold tickD openD
  (repeat' split) <;> simp only at * <;> omega
theorem floor_of {fl : Int} (h : 0 ≤ fl ∧ fl ≤ 255) (n : Int) : 0 ≤ Int.tmod (IntKind.i64.wrap fl) (floorsI n) ∧ Int.tmod (IntKind.i64.wrap fl) (floorsI n) < floorsI n := by
  have hf := floorsI_range n
  rw [wrap_id (by omega) (by omega), Int.tmod_eq_emod_of_nonneg h.1]
  exact ⟨Int.emod_nonneg _ (by omega), Int.emod_lt_of_pos _ (by omega)⟩
end Go.Proofs.Ytjgmkpidiaojkaa
