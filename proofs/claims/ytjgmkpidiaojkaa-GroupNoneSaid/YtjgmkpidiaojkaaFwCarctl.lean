/- The functions of this group answer so. -/
import Derived.Test.YtjgmkpidiaojkaaFwCarctlV
import Derived.Test.YtjgmkpidiaojkaaFwEtaL
set_option linter.unusedVariables false
set_option linter.unusedSimpArgs false
set_option maxRecDepth 20000
set_option maxHeartbeats 4000000
namespace Go.Proofs.Ytjgmkpidiaojkaa
open Lw
theorem upd1 {p : Option Prop} {v : AV} {n : Mem} {a b : Blk} : ∀ l, (BT.leaf ⟨p, v, some [a], n⟩ : BT SR).ev.upd = some l → l.length = [b].length := fun l h => by
  cases h; rfl
theorem boolOf_eq {vs : List Cell} {b : Bool} (h : boolOf vs = some b) : vs = [.pl (.bool b)] := by
  unfold boolOf at h
  split at h <;> cases h
  rfl
theorem ctlS_eq {pre : Lw.Car → Prop} {g : Ctl → Ctl} {vs : List Cell} {t : BT SR} (h : ctlS pre g vs = some t) : ∃ q : Ctl, vs = q.cells ∧ t = .leaf ⟨some (pre q.car), .tup [], some [.cells (g q).cells], []⟩ := by
  unfold ctlS at h
  obtain ⟨x, hx, h⟩ := Option.bind_eq_some_iff.1 h
  obtain ⟨m, hm, h⟩ := Option.bind_eq_some_iff.1 h
  obtain ⟨k, hk, h⟩ := Option.bind_eq_some_iff.1 h
  obtain ⟨v, hv, h⟩ := Option.bind_eq_some_iff.1 h
  cases h
  refine ⟨⟨x, m, k, v⟩, ?_, rfl⟩
  have h1 := Lw.Car.of_eq hx
  have h2 := Lw.Cmd.of_eq hm
  have h3 := Lw.Call.of_eq hk
  have h4 := boolOf_eq hv
  have e : vs = vs.take 15 ++ ((vs.drop 15).take 3 ++ ((vs.drop 18).take 2 ++ vs.drop 20)) := by
    rw [show vs.drop 20 = (vs.drop 18).drop 2 by rw [List.drop_drop], List.take_append_drop, show vs.drop 18 = (vs.drop 15).drop 3 by rw [List.drop_drop], List.take_append_drop, List.take_append_drop]
  rw [e, h1, h2, h3, h4]
  unfold Ctl.cells
  simp only [List.map_append, List.map_cons, List.map_nil]
theorem levelF_range (u : Int) : 0 ≤ levelF u ∧ levelF u < 64 := by
  unfold levelF
  by_cases h : levelB u = true
  · rw [h]; unfold levelB at h; simp at h; simp only [cond_true]; omega
  · simp only [Bool.not_eq_true] at h; rw [h]; simp
theorem h65 : Holds Try.prog eid 65 (s65) := by
  refine hold tb43_ok Try.func65 (by kernel_rfl) ?_ (by kernel_rfl)
  intro xs M t h
  unfold s65 at h
  split at h
  case h_2 => cases h
  rename_i csc
  obtain ⟨c, hcc, h1⟩ := Option.bind_eq_some_iff.1 h
  clear h
  have h := h1
  clear h1
  cases h
  cases Lw.Config.of_eq hcc
  clear hcc
  refine ⟨fun l h => (nomatch h), ?_⟩
  intro hp
  rw [v65_vc]
  exact ends_pl (congrArg _ (mm_clamp (by decide) _))
theorem tb44_ok : GamOk Try.prog eid (gam tb44) := gam_cons h65 tb43_ok
theorem h44 : Holds Try.prog eid 44 (s44) := by
  refine hold tb44_ok Try.func44 (by kernel_rfl) ?_ (by kernel_rfl)
  intro xs M t h
  unfold s44 at h
  split at h
  case h_2 => cases h
  rename_i csx
  obtain ⟨x, hcx, h1⟩ := Option.bind_eq_some_iff.1 h
  clear h
  have h := h1
  clear h1
  cases h
  cases Lw.Car.of_eq hcx
  clear hcx
  refine ⟨fun l h => (nomatch h), ?_⟩
  intro hp
  rw [v44_vc]
  have hp : stopsR x.stops := hp
  refine ⟨fun _ => hp, ends_pl (congrArg PC.bool ?_)⟩
  unfold idleB
  rw [Bool.eq_iff_iff]
  simp only [c_and, c_or, Bool.and_eq_true, Bool.or_eq_true, Bool.and_eq_false_iff, Bool.or_eq_false_iff, Bool.not_eq_true', Bool.not_eq_false', beq_iff_eq, beq_eq_false_iff_ne, bne_iff_ne, bne_eq_false_iff_eq, ne_eq, decide_eq_true_eq, decide_eq_false_iff_not, and_assoc]
theorem tb45_ok : GamOk Try.prog eid (gam tb45) := gam_cons h44 tb44_ok
theorem h63 : Holds Try.prog eid 63 (standS) := by
  refine hold tb45_ok Try.func63 (by kernel_rfl) ?_ (by kernel_rfl)
  intro xs M t h
  unfold standS at h
  split at h
  case h_2 => cases h
  rename_i kc f vs
  obtain ⟨c, hc, h1⟩ := Option.bind_eq_some_iff.1 h
  clear h
  cases Lw.Config.of_eq hc
  clear hc
  obtain ⟨⟨x, m, k, v⟩, rfl, rfl⟩ := ctlS_eq h1
  clear h1
  refine ⟨upd1, ?_⟩
  intro hp
  rw [v63_vc]
  obtain ⟨hr, hf⟩ := (hp : stopsR x.stops ∧ (0 ≤ f ∧ f < 64))
  refine ⟨⟨hr, hf⟩, cnd_iff.2 ⟨fun ho => ⟨hr, ?_⟩, fun ho => cnd_iff.2 ⟨fun hz => ?_, fun hz => ?_⟩⟩⟩
  · rw [show standT c f (⟨x, m, k, v⟩ : Ctl) = openK c f (nextI x.stops f x.way x.just).1 (⟨x, m, k, v⟩ : Ctl) from if_pos ho]
    exact ends_sel [] [0] rfl rfl rfl rfl
  · rw [show standT c f (⟨x, m, k, v⟩ : Ctl) = standK (⟨x, m, k, v⟩ : Ctl) (nextI x.stops f x.way x.just).1 from (if_neg (by rw [show (nextI (Ctl.car (⟨x, m, k, v⟩ : Ctl)).stops f x.way x.just).2 = false from ho]; simp)).trans (if_pos (beq_iff_eq.1 hz))]
    exact ends_sel [] [0] rfl rfl rfl rfl
  · rw [show standT c f (⟨x, m, k, v⟩ : Ctl) = goK (⟨x, m, k, v⟩ : Ctl) (nextI x.stops f x.way x.just).1 from (if_neg (by rw [show (nextI (Ctl.car (⟨x, m, k, v⟩ : Ctl)).stops f x.way x.just).2 = false from ho]; simp)).trans (if_neg (beq_eq_false_iff_ne.1 hz))]
    exact ends_sel [] [0] rfl rfl rfl rfl
theorem tb46_ok : GamOk Try.prog eid (gam tb46) := gam_cons h63 tb45_ok
theorem h51 : Holds Try.prog eid 51 (normalS) := by
  refine hold tb46_ok Try.func51 (by kernel_rfl) ?_ (by kernel_rfl)
  intro xs M t h
  unfold normalS at h
  split at h
  case h_2 => cases h
  rename_i kc vs
  obtain ⟨c, hc, h1⟩ := Option.bind_eq_some_iff.1 h
  clear h
  cases Lw.Config.of_eq hc
  clear hc
  obtain ⟨⟨x, m, k, v⟩, rfl, rfl⟩ := ctlS_eq h1
  clear h1
  refine ⟨upd1, ?_⟩
  intro hp
  rw [v51_vc]
  have hr : stopsR x.stops := hp
  have no1 (h : ¬ x.door.state = 0 ∨ levelB x.unit = true) : ¬ (x.door.state = 0 ∧ levelB x.unit = false) := fun z => by
    rcases h with h | h
    · exact h z.1
    · rw [z.2] at h; cases h
  refine cnd_iff.2 ⟨fun h1 => ?_, fun h1 => cnd_iff.2 ⟨fun h2 => ⟨⟨hr, levelF_range x.unit⟩, ?_⟩, fun h2 => cnd_iff.2 ⟨fun h3 => ?_, fun h3 => cnd_iff.2 ⟨fun h4 => cnd_iff.2 ⟨fun _ => ?_, fun h5 => ?_⟩, fun h4 => cnd_iff.2 ⟨fun h5 => ?_, fun h5 => ?_⟩⟩⟩⟩⟩ <;> (try simp only [c_and, c_or, Bool.and_eq_true, Bool.or_eq_true, Bool.and_eq_false_iff, Bool.or_eq_false_iff, Bool.not_eq_true', Bool.not_eq_false', beq_iff_eq, beq_eq_false_iff_ne, bne_iff_ne, bne_eq_false_iff_eq, ne_eq, decide_eq_true_eq, decide_eq_false_iff_not] at h1) <;> (try simp only [c_and, c_or, Bool.and_eq_true, Bool.or_eq_true, Bool.and_eq_false_iff, Bool.or_eq_false_iff, Bool.not_eq_true', Bool.not_eq_false', beq_iff_eq, beq_eq_false_iff_ne, bne_iff_ne, bne_eq_false_iff_eq, ne_eq, decide_eq_true_eq, decide_eq_false_iff_not] at h2) <;> (try simp only [c_and, c_or, Bool.and_eq_true, Bool.or_eq_true, Bool.and_eq_false_iff, Bool.or_eq_false_iff, Bool.not_eq_true', Bool.not_eq_false', beq_iff_eq, beq_eq_false_iff_ne, bne_iff_ne, bne_eq_false_iff_eq, ne_eq, decide_eq_true_eq, decide_eq_false_iff_not] at h3)
  · rw [show normalT c (⟨x, m, k, v⟩ : Ctl) = cmdK (⟨x, m, k, v⟩ : Ctl) ⟨x.way, m.open_, m.close⟩ from if_pos h1]
    exact ends_sel [] [0] rfl rfl rfl rfl
  · rw [show normalT c (⟨x, m, k, v⟩ : Ctl) = standT c (levelF x.unit) (⟨x, m, k, v⟩ : Ctl) from (if_neg (no1 h1)).trans (if_pos h2)]
    exact ends_sel [] [0] rfl rfl rfl rfl
  · rw [show normalT c (⟨x, m, k, v⟩ : Ctl) = (⟨x, m, k, v⟩ : Ctl) from (if_neg (no1 h1)).trans ((if_neg h2).trans (if_pos h3))]
    exact ends_sel [] [0] rfl rfl rfl rfl
  · rw [show normalT c (⟨x, m, k, v⟩ : Ctl) = timeK (⟨x, m, k, v⟩ : Ctl) (spanI c.dwell) m.close from (if_neg (no1 h1)).trans ((if_neg h2).trans ((if_neg fun z => z h3).trans (if_pos (.inl h4))))]
    exact ends_sel [] [0] rfl rfl rfl rfl
  · rw [h4] at h5; cases h5
  · rw [show normalT c (⟨x, m, k, v⟩ : Ctl) = timeK (⟨x, m, k, v⟩ : Ctl) (spanI c.dwell) m.close from (if_neg (no1 h1)).trans ((if_neg h2).trans ((if_neg fun z => z h3).trans (if_pos (.inr h5))))]
    exact ends_sel [] [0] rfl rfl rfl rfl
  · have no4 : ¬ (x.blocked = true ∨ overB x.load c.load = true) := fun z => by
      rcases z with z | z
      · exact absurd (h4.symm.trans z) (by simp)
      · exact absurd (h5.symm.trans z) (by simp)
    rw [show normalT c (⟨x, m, k, v⟩ : Ctl) = timeK (⟨x, m, k, v⟩ : Ctl) (IntKind.i64.wrap (x.timer - 1)) (decide (IntKind.i64.wrap (x.timer - 1) ≤ 0)) from (if_neg (no1 h1)).trans ((if_neg h2).trans ((if_neg fun z => z h3).trans (if_neg no4)))]
    exact ends_sel [] [0] rfl rfl rfl rfl
theorem tb47_ok : GamOk Try.prog eid (gam tb47) := gam_cons h51 tb46_ok
theorem h50 : Holds Try.prog eid 50 (leasedS) := by
  refine hold tb47_ok Try.func50 (by kernel_rfl) ?_ (by kernel_rfl)
  intro xs M t h
  unfold leasedS at h
  split at h
  case h_2 => cases h
  obtain ⟨⟨x, m, k, v⟩, rfl, rfl⟩ := ctlS_eq h
  clear h
  refine ⟨upd1, ?_⟩
  intro hp
  rw [v50_vc]
  have le1 (h : (bif x.door.state == 0 then bif levelB x.unit then levelF x.unit == x.target else false else false) = true) : x.door.state = 0 ∧ (levelB x.unit && (levelF x.unit == x.target)) = true := by
    rw [c_and, c_and, Bool.and_eq_true, beq_iff_eq] at h; exact h
  have le2 (h : (bif x.door.state == 0 then bif levelB x.unit then levelF x.unit == x.target else false else false) = false) : ¬ (x.door.state = 0 ∧ (levelB x.unit && (levelF x.unit == x.target)) = true) := fun z => by
    rw [c_and, c_and, z.2, beq_iff_eq.2 z.1] at h; cases h
  have le3 (h : (bif bif levelB x.unit then levelF x.unit == x.target else false then x.hold else false) = true) : (levelB x.unit && (levelF x.unit == x.target)) = true ∧ x.hold = true := by
    rw [c_and, c_and, Bool.and_eq_true] at h; exact h
  have le4 (h : (bif bif levelB x.unit then levelF x.unit == x.target else false then x.hold else false) = false) : ¬ ((levelB x.unit && (levelF x.unit == x.target)) = true ∧ x.hold = true) := fun z => by
    rw [c_and, c_and, z.1, z.2] at h; cases h
  refine cnd_iff.2 ⟨fun h1 => ?_, fun h1 => cnd_iff.2 ⟨fun h2 => ?_, fun h2 => cnd_iff.2 ⟨fun h3 => ?_, fun h3 => ?_⟩⟩⟩ <;> (try simp only [beq_iff_eq, beq_eq_false_iff_ne, ne_eq] at h2)
  · rw [show leasedT (⟨x, m, k, v⟩ : Ctl) = cmdK (⟨x, m, k, v⟩ : Ctl) ⟨m.run, x.hold, m.close⟩ from if_pos (le1 h1)]
    exact ends_sel [] [0] rfl rfl rfl rfl
  · rw [show leasedT (⟨x, m, k, v⟩ : Ctl) = ⟨putC (Ctl.car (⟨x, m, k, v⟩ : Ctl)) x.way x.timer (-1) x.stops, ⟨towardI x.unit x.target, m.open_, m.close⟩, k, v⟩ from (if_neg (le2 h1)).trans (if_pos h2)]
    exact ends_sel [] [0] rfl rfl rfl rfl
  · rw [show leasedT (⟨x, m, k, v⟩ : Ctl) = cmdK (⟨x, m, k, v⟩ : Ctl) ⟨m.run, x.door.state == 3, m.close⟩ from (if_neg (le2 h1)).trans ((if_neg h2).trans (if_pos (le3 h3)))]
    exact ends_sel [] [0] rfl rfl rfl rfl
  · rw [show leasedT (⟨x, m, k, v⟩ : Ctl) = cmdK (⟨x, m, k, v⟩ : Ctl) ⟨m.run, m.open_, bif x.door.state == 2 then !x.blocked else false⟩ from (if_neg (le2 h1)).trans ((if_neg h2).trans ((if_neg (le4 h3)).trans (by rw [c_and])))]
    exact ends_sel [] [0] rfl rfl rfl rfl
theorem tb48_ok : GamOk Try.prog eid (gam tb48) := gam_cons h50 tb47_ok
theorem leased_keeps (k : Ctl) : (leasedT k).car.door = k.car.door ∧ (leasedT k).car.unit = k.car.unit := by
  unfold leasedT
  (repeat' split) <;> exact ⟨rfl, rfl⟩
theorem stand_keeps (c : Config) (f : Int) (k : Ctl) : (standT c f k).car.door = k.car.door ∧ (standT c f k).car.unit = k.car.unit := by
  unfold standT
  (repeat' split) <;> exact ⟨rfl, rfl⟩
theorem normal_keeps (c : Config) (k : Ctl) : (normalT c k).car.door = k.car.door ∧ (normalT c k).car.unit = k.car.unit := by
  unfold normalT
  (repeat' split) <;> first | exact stand_keeps _ _ _ | exact ⟨rfl, rfl⟩
theorem mild_leased {x : Lw.Car} (h : mildC x) : mildC (leasedT (ctl0 x)).car := by
  unfold mildC at *
  rw [(leased_keeps _).1, (leased_keeps _).2]; exact h
theorem mild_normal {c : Config} {x : Lw.Car} (h : mildC x) : mildC (normalT c (ctl0 x)).car := by
  unfold mildC at *
  rw [(normal_keeps _ _).1, (normal_keeps _ _).2]; exact h
theorem h29 : Holds Try.prog eid 29 (s29) := by
  refine hold tb48_ok Try.func29 (by kernel_rfl) ?_ (by kernel_rfl)
  intro xs M t h
  unfold s29 at h
  split at h
  case h_2 => cases h
  rename_i csc csx
  obtain ⟨c, hcc, h1⟩ := Option.bind_eq_some_iff.1 h
  clear h
  have h := h1
  clear h1
  obtain ⟨x, hcx, h1⟩ := Option.bind_eq_some_iff.1 h
  clear h
  have h := h1
  clear h1
  cases h
  cases Lw.Config.of_eq hcc
  clear hcc
  cases Lw.Car.of_eq hcx
  clear hcx
  refine ⟨fun l h => (nomatch h), ?_⟩
  intro hp
  rw [v29_vc]
  obtain ⟨hr, hm⟩ := (hp : stopsR x.stops ∧ mildC x)
  have cal (k : Ctl) (e : ctlT c x = k) (hs : k.sv = true) : tickCall c x = k.call := by unfold tickCall; rw [e, if_pos hs]
  have cal0 (k : Ctl) (e : ctlT c x = k) (hs : k.sv = false) : tickCall c x = ⟨0, 0⟩ := by unfold tickCall; rw [e, hs]; rfl
  have car (k : Ctl) (e : ctlT c x = k) : tickCar c x = stepC c k.car k.cmd := by unfold tickCar; rw [e]
  have sv (k : Ctl) (e : ctlT c x = k) : tickSv c x = k.sv := by unfold tickSv; rw [e]
  refine cnd_iff.2 ⟨fun hb => ⟨hm, ?_⟩, fun hb => cnd_iff.2 ⟨fun h1 => ⟨trivial, cnd_iff.2 ⟨fun hs => ⟨mild_leased hm, ?_⟩, fun hs => ⟨mild_leased hm, ?_⟩⟩⟩, fun h1 => ⟨hr, cnd_iff.2 ⟨fun hs => ⟨mild_normal hm, ?_⟩, fun hs => ⟨mild_normal hm, ?_⟩⟩⟩⟩⟩
  · have e : ctlT c x = ctl0 x := if_pos hb
    rw [car _ e, cal0 _ e rfl, sv _ e]
    exact ends_v rfl rfl
  · have e : ctlT c x = leasedT (ctl0 x) := (if_neg (by rw [hb]; simp)).trans (if_pos (beq_iff_eq.1 h1))
    rw [car _ e, cal0 _ e (by have z : (!(leasedT (ctl0 x)).sv) = true := hs; simpa using z), sv _ e]
    exact ends_v rfl rfl
  · have e : ctlT c x = leasedT (ctl0 x) := (if_neg (by rw [hb]; simp)).trans (if_pos (beq_iff_eq.1 h1))
    rw [car _ e, cal _ e (by have z : (!(leasedT (ctl0 x)).sv) = false := hs; simpa using z), sv _ e]
    exact ends_v rfl rfl
  · have e : ctlT c x = normalT c (ctl0 x) := (if_neg (by rw [hb]; simp)).trans (if_neg (beq_eq_false_iff_ne.1 h1))
    rw [car _ e, cal0 _ e (by have z : (!(normalT c (ctl0 x)).sv) = true := hs; simpa using z), sv _ e]
    exact ends_v rfl rfl
  · have e : ctlT c x = normalT c (ctl0 x) := (if_neg (by rw [hb]; simp)).trans (if_neg (beq_eq_false_iff_ne.1 h1))
    rw [car _ e, cal _ e (by have z : (!(normalT c (ctl0 x)).sv) = false := hs; simpa using z), sv _ e]
    exact ends_v rfl rfl
theorem tb49_ok : GamOk Try.prog eid (gam tb49) := gam_cons h29 tb48_ok
end Go.Proofs.Ytjgmkpidiaojkaa
