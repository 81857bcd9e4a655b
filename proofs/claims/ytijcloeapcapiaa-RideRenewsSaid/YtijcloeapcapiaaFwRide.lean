/- The functions of this group answer so. -/
import Derived.Test.YtijcloeapcapiaaFwRideV
import Derived.Test.YtijcloeapcapiaaFwDoor
set_option linter.unusedVariables false
set_option linter.unusedSimpArgs false
set_option maxRecDepth 20000
set_option maxHeartbeats 4000000
namespace Go.Proofs.Ytijcloeapcapiaa
open Lw
theorem sameMsgs_len : ∀ {a b : List Lw.Msg}, a.length ≠ b.length → sameMsgs a b = false
  | [], [], h => absurd rfl h
  | [], _ :: _, _ => rfl
  | _ :: _, [], _ => rfl
  | x :: a, y :: b, h => by
    unfold sameMsgs
    rw [sameMsgs_len (a := a) (b := b) (by simpa using h), Bool.and_false]
theorem sameMsgs_self : ∀ (a : List Lw.Msg), sameMsgs a a = true
  | [] => rfl
  | x :: a => by
    unfold sameMsgs msgEq
    rw [pcsEq_self, sameMsgs_self a]; rfl
theorem sameMsgs_step {a b : List Lw.Msg} {i : Nat} (ha : i < a.length) (hb : i < b.length) (z : Lw.Msg) : sameMsgs (a.drop i) (b.drop i) = (msgEq (a.getD i z) (b.getD i z) && sameMsgs (a.drop (i + 1)) (b.drop (i + 1))) := by
  rw [List.drop_eq_getElem_cons ha, List.drop_eq_getElem_cons hb, List.getD_eq_getElem?_getD, List.getD_eq_getElem?_getD, List.getElem?_eq_getElem ha, List.getElem?_eq_getElem hb]
  rfl
theorem h48 : Holds Try.prog eid 48 (s48) := by
  refine hold tb34_ok Try.func48 (by kernel_rfl) ?_ (by kernel_rfl)
  intro xs M t h
  unfold s48 at h
  split at h
  case h_2 => cases h
  rename_i csx f
  obtain ⟨x, hcx, h1⟩ := Option.bind_eq_some_iff.1 h
  clear h
  have h := h1
  clear h1
  cases h
  cases Lw.Car.of_eq hcx
  clear hcx
  refine ⟨fun l h => (nomatch h), fun hp => ?_⟩
  rw [v48_vc]
  exact ends_pl (congrArg _ (by unfold openAt; simp only [c_and, Bool.and_assoc]))
theorem tb35_ok : GamOk Try.prog eid (gam tb35) := gam_cons h48 tb34_ok
theorem h47 : Holds Try.prog eid 47 (sayS) := by
  refine hold tb35_ok Try.func47 (by kernel_rfl) ?_ (by kernel_rfl)
  intro xs M t h
  unfold sayS at h
  split at h <;> cases h
  refine ⟨fun l h => by cases h; rfl, fun hp => ?_⟩
  rw [v47_vc]
  exact ⟨by simp [bigRow], ends_sel [] [0, 2] rfl rfl rfl rfl⟩
theorem tb36_ok : GamOk Try.prog eid (gam tb36) := gam_cons h47 tb35_ok
theorem h49 : Holds Try.prog eid 49 (phaseS) := by
  refine hold tb36_ok Try.func49 (by kernel_rfl) ?_ (by kernel_rfl)
  intro xs M t h
  unfold phaseS at h
  split at h <;> cases h
  refine ⟨fun l h => by cases h; rfl, fun hp => ?_⟩
  rw [v49_vc]
  exact ends_sel [] [0] rfl rfl rfl rfl
theorem tb37_ok : GamOk Try.prog eid (gam tb37) := gam_cons h49 tb36_ok
theorem h50 : Holds Try.prog eid 50 (doneS) := by
  refine hold tb37_ok Try.func50 (by kernel_rfl) ?_ (by kernel_rfl)
  intro xs M t h
  unfold doneS at h
  split at h <;> cases h
  · refine ⟨fun l h => (nomatch h), fun hp => ?_⟩
    rw [v50_vc]
    exact ends_sel [] [0] rfl rfl rfl rfl
  · refine ⟨fun l h => (nomatch h), fun hp => ?_⟩
    rw [v50r_vc]
    exact ends_sel [] [0, 1] rfl rfl rfl rfl
theorem tb38_ok : GamOk Try.prog eid (gam tb38) := gam_cons h50 tb37_ok
theorem h16 : Holds Try.prog eid 16 (tickPS) := by
  refine hold tb38_ok Try.func16 (by kernel_rfl) ?_ (by kernel_rfl)
  intro xs M t h
  unfold tickPS at h
  split at h
  case h_2 => cases h
  rename_i k0 k1 k2 now
  obtain ⟨c, hcc, h1⟩ := Option.bind_eq_some_iff.1 h
  clear h
  have h := h1
  clear h1
  obtain ⟨l, hcl, h1⟩ := Option.bind_eq_some_iff.1 h
  clear h
  have h := h1
  clear h1
  obtain ⟨x, hcx, h1⟩ := Option.bind_eq_some_iff.1 h
  clear h
  have h := h1
  clear h1
  cases h
  cases Lw.Config.of_eq hcc
  clear hcc
  cases Lw.Lease.of_eq hcl
  clear hcl
  cases Lw.Car.of_eq hcx
  clear hcx
  refine ⟨fun l h => by first | exact nomatch h | (cases h; rfl), fun hp => ?_⟩
  rw [v16_vc]
  refine cnd_iff.2 ⟨fun h1 => ?_, fun h1 => cnd_iff.2 ⟨fun h2 => ?_, fun h2 => cnd_iff.2 ⟨fun h3 => ?_, fun h3 => ?_⟩⟩⟩ <;> simp only [c_and, c_or, Bool.and_eq_true, Bool.or_eq_true, Bool.and_eq_false_iff, Bool.or_eq_false_iff, Bool.not_eq_true', Bool.not_eq_false', beq_iff_eq, beq_eq_false_iff_ne, bne_iff_ne, bne_eq_false_iff_eq, ne_eq, decide_eq_true_eq, decide_eq_false_iff_not] at *
  · rw [show rideT (lateB now l.until_) c l x now = (l, [⟨16, l.phase, 0, 0⟩], true) by
      unfold rideT; (repeat' split) <;> first | rfl | (exfalso; simp_all; done) | (exfalso; simp_all; omega)]
    exact ends_sel [] [5] rfl rfl rfl rfl
  · rw [show rideT (lateB now l.until_) c l x now = (⟨l.ask, l.car, 2, addT now (spanI c.hold), l.renewed, l.granted⟩, [⟨8, l.ask.src, 0, 0⟩], false) by
      unfold rideT; (repeat' split) <;> first | rfl | (exfalso; simp_all; done) | (exfalso; simp_all; omega)]
    exact ends_sel [] [5] rfl rfl rfl rfl
  · rw [show rideT (lateB now l.until_) c l x now = (⟨l.ask, l.car, 4, addT now (spanI c.hold), l.renewed, l.granted⟩, [⟨12, l.ask.dst, 0, 0⟩], false) by
      unfold rideT; (repeat' split) <;> first | rfl | (exfalso; simp_all; done) | (exfalso; simp_all; omega)]
    exact ends_sel [] [5] rfl rfl rfl rfl
  · rw [show rideT (lateB now l.until_) c l x now = (l, [], false) by
      unfold rideT; (repeat' split) <;> first | rfl | (exfalso; simp_all; done) | (exfalso; simp_all; omega)]
    exact ends_sel [.tup 0 1 .msg] [5] rfl rfl rfl rfl
theorem tb39_ok : GamOk Try.prog eid (gam tb39) := gam_cons h16 tb38_ok
theorem h17 : Holds Try.prog eid 17 (tickRS) := by
  refine hold tb39_ok Try.func17 (by kernel_rfl) ?_ (by kernel_rfl)
  intro xs M t h
  unfold tickRS at h
  split at h
  case h_2 => cases h
  rename_i k0 k1 k2 now
  obtain ⟨c, hcc, h1⟩ := Option.bind_eq_some_iff.1 h
  clear h
  have h := h1
  clear h1
  obtain ⟨l, hcl, h1⟩ := Option.bind_eq_some_iff.1 h
  clear h
  have h := h1
  clear h1
  obtain ⟨x, hcx, h1⟩ := Option.bind_eq_some_iff.1 h
  clear h
  have h := h1
  clear h1
  cases h
  cases Lw.Config.of_eq hcc
  clear hcc
  cases Lw.Lease.of_eq hcl
  clear hcl
  cases Lw.Car.of_eq hcx
  clear hcx
  refine ⟨fun l h => by first | exact nomatch h | (cases h; rfl), fun hp => ?_⟩
  rw [v17_vc]
  have hop : ∀ f, (openAt x f = true) ↔ ((levelB x.unit = true ∧ x.door.state = 2) ∧ levelF x.unit = f) := fun f => by
    unfold openAt; simp only [c_and, c_or, Bool.and_eq_true, Bool.or_eq_true, Bool.and_eq_false_iff, Bool.or_eq_false_iff, Bool.not_eq_true', Bool.not_eq_false', beq_iff_eq, beq_eq_false_iff_ne, bne_iff_ne, bne_eq_false_iff_eq, ne_eq, decide_eq_true_eq, decide_eq_false_iff_not]
    constructor
    · exact fun h => ⟨⟨h.1, h.2.2⟩, h.2.1⟩
    · exact fun h => ⟨h.1.1, h.2, h.1.2⟩
  refine cnd_iff.2 ⟨fun h1 => ?_, fun h1 => cnd_iff.2 ⟨fun h2 => ?_, fun h2 => cnd_iff.2 ⟨fun h3 => ?_, fun h3 => cnd_iff.2 ⟨fun h4 => ?_, fun h4 => ?_⟩⟩⟩⟩ <;> (try simp only [c_and, c_or, Bool.and_eq_true, Bool.or_eq_true, Bool.and_eq_false_iff, Bool.or_eq_false_iff, Bool.not_eq_true', Bool.not_eq_false', beq_iff_eq, beq_eq_false_iff_ne, bne_iff_ne, bne_eq_false_iff_eq, ne_eq, decide_eq_true_eq, decide_eq_false_iff_not] at h3) <;> (try simp only [c_and, c_or, Bool.and_eq_true, Bool.or_eq_true, Bool.and_eq_false_iff, Bool.or_eq_false_iff, Bool.not_eq_true', Bool.not_eq_false', beq_iff_eq, beq_eq_false_iff_ne, bne_iff_ne, bne_eq_false_iff_eq, ne_eq, decide_eq_true_eq, decide_eq_false_iff_not] at h4)
  · rw [show rideT (decide (timeI now ≥ l.until_)) c l x now = (l, [⟨16, l.phase, 0, 0⟩], true) by
      unfold rideT; simp only [hop]; (repeat' split) <;> first | rfl | (exfalso; simp_all; done) | (exfalso; simp_all; omega)]
    exact ends_sel [] [4] rfl rfl rfl rfl
  · rw [show rideT (decide (timeI now ≥ l.until_)) c l x now = (l, [⟨16, l.phase, 0, 0⟩], true) by
      unfold rideT; simp only [hop]; (repeat' split) <;> first | rfl | (exfalso; simp_all; done) | (exfalso; simp_all; omega)]
    exact ends_sel [] [4] rfl rfl rfl rfl
  · rw [show rideT (decide (timeI now ≥ l.until_)) c l x now = (⟨l.ask, l.car, 2, addT now (spanI c.hold), l.renewed, l.granted⟩, [⟨8, l.ask.src, 0, 0⟩], false) by
      unfold rideT; simp only [hop]; (repeat' split) <;> first | rfl | (exfalso; simp_all; done) | (exfalso; simp_all; omega)]
    refine ends_sel [] [4] rfl rfl rfl ?_
    show ([Blk.row .msg [⟨8, levelF x.unit, 0, 0⟩]] : Mem) = [Blk.row .msg [⟨8, l.ask.src, 0, 0⟩]]
    rw [h3.2]
  · rw [show rideT (decide (timeI now ≥ l.until_)) c l x now = (⟨l.ask, l.car, 4, addT now (spanI c.hold), l.renewed, l.granted⟩, [⟨12, l.ask.dst, 0, 0⟩], false) by
      unfold rideT; simp only [hop]; (repeat' split) <;> first | rfl | (exfalso; simp_all; done) | (exfalso; simp_all; omega)]
    refine ends_sel [] [4] rfl rfl rfl ?_
    show ([Blk.row .msg [⟨12, levelF x.unit, 0, 0⟩]] : Mem) = [Blk.row .msg [⟨12, l.ask.dst, 0, 0⟩]]
    rw [h4.2]
  · rw [show rideT (decide (timeI now ≥ l.until_)) c l x now = (l, [], false) by
      unfold rideT; simp only [hop]; (repeat' split) <;> first | rfl | (exfalso; simp_all; done) | (exfalso; simp_all; omega)]
    exact ends_sel [.tup 0 1 .msg] [4] rfl rfl rfl rfl
theorem tb40_ok : GamOk Try.prog eid (gam tb40) := gam_cons h17 tb39_ok
theorem h23 : Holds Try.prog eid 23 (hearS) := by
  refine hold tb40_ok Try.func23 (by kernel_rfl) ?_ (by kernel_rfl)
  intro xs M t h
  unfold hearS at h
  split at h
  case h_2 => cases h
  rename_i k0 k1 k2 now k3
  obtain ⟨c, hcc, h1⟩ := Option.bind_eq_some_iff.1 h
  clear h
  have h := h1
  clear h1
  obtain ⟨l, hcl, h1⟩ := Option.bind_eq_some_iff.1 h
  clear h
  have h := h1
  clear h1
  obtain ⟨x, hcx, h1⟩ := Option.bind_eq_some_iff.1 h
  clear h
  have h := h1
  clear h1
  obtain ⟨m, hcm, h1⟩ := Option.bind_eq_some_iff.1 h
  clear h
  have h := h1
  clear h1
  cases h
  cases Lw.Config.of_eq hcc
  clear hcc
  cases Lw.Lease.of_eq hcl
  clear hcl
  cases Lw.Car.of_eq hcx
  clear hcx
  cases Lw.Msg.of_eq hcm
  clear hcm
  refine ⟨fun l h => by first | exact nomatch h | (cases h; rfl), fun hp => ?_⟩
  rw [v23_vc]
  refine cnd_iff.2 ⟨fun h1 => ?_, fun h1 => cnd_iff.2 ⟨fun h2 => ?_, fun h2 => cnd_iff.2 ⟨fun h3 => ?_, fun h3 => cnd_iff.2 ⟨fun h4 => cnd_iff.2 ⟨fun h5 => cnd_iff.2 ⟨fun h6 => ?_, fun h6 => ?_⟩, fun h5 => ?_⟩, fun h4 => ?_⟩⟩⟩⟩ <;> simp only [c_and, c_or, Bool.and_eq_true, Bool.or_eq_true, Bool.and_eq_false_iff, Bool.or_eq_false_iff, Bool.not_eq_true', Bool.not_eq_false', beq_iff_eq, beq_eq_false_iff_ne, bne_iff_ne, bne_eq_false_iff_eq, ne_eq, decide_eq_true_eq, decide_eq_false_iff_not] at *
  · rw [show rideH c l x now m = (l, [⟨11, massI x.load, 0, 0⟩], false) by
      unfold rideH; (repeat' split) <;> first | rfl | (exfalso; simp_all; done) | (exfalso; simp_all; omega)]
    exact ends_sel [] [6] rfl rfl rfl rfl
  · rw [show rideH c l x now m = (⟨l.ask, l.car, 3, addT now (tripI c), l.renewed, l.granted⟩, [⟨10, 0, 0, 0⟩], false) by
      unfold rideH; (repeat' split) <;> first | rfl | (exfalso; simp_all; done) | (exfalso; simp_all; omega)]
    exact ends_sel [] [6] rfl rfl rfl rfl
  · rw [show rideH c l x now m = (l, [⟨14, 0, 0, 0⟩], true) by
      unfold rideH; (repeat' split) <;> first | rfl | (exfalso; simp_all; done) | (exfalso; simp_all; omega)]
    exact ends_sel [] [6] rfl rfl rfl rfl
  · rw [show rideH c l x now m = (⟨l.ask, l.car, l.phase, addT now (spanI c.hold), IntKind.i64.wrap (l.renewed + 1), l.granted⟩, [⟨4, l.car, 0, 0⟩], false) by
      unfold rideH; (repeat' split) <;> first | rfl | (exfalso; simp_all; done) | (exfalso; simp_all; omega)]
    exact ends_sel [] [6] rfl rfl rfl rfl
  · rw [show rideH c l x now m = (l, [⟨7, l.phase, 0, 0⟩], false) by
      unfold rideH; (repeat' split) <;> first | rfl | (exfalso; simp_all; done) | (exfalso; simp_all; omega)]
    exact ends_sel [] [6] rfl rfl rfl rfl
  · rw [show rideH c l x now m = (l, [⟨7, l.phase, 0, 0⟩], false) by
      unfold rideH; (repeat' split) <;> first | rfl | (exfalso; simp_all; done) | (exfalso; simp_all; omega)]
    exact ends_sel [] [6] rfl rfl rfl rfl
  · rw [show rideH c l x now m = (l, [⟨7, l.phase, 0, 0⟩], false) by
      unfold rideH; (repeat' split) <;> first | rfl | (exfalso; simp_all; done) | (exfalso; simp_all; omega)]
    exact ends_sel [] [6] rfl rfl rfl rfl
theorem tb41_ok : GamOk Try.prog eid (gam tb41) := gam_cons h23 tb40_ok
theorem h24 : Holds Try.prog eid 24 (hearS) := by
  refine hold tb41_ok Try.func24 (by kernel_rfl) ?_ (by kernel_rfl)
  intro xs M t h
  unfold hearS at h
  split at h
  case h_2 => cases h
  rename_i k0 k1 k2 now k3
  obtain ⟨c, hcc, h1⟩ := Option.bind_eq_some_iff.1 h
  clear h
  have h := h1
  clear h1
  obtain ⟨l, hcl, h1⟩ := Option.bind_eq_some_iff.1 h
  clear h
  have h := h1
  clear h1
  obtain ⟨x, hcx, h1⟩ := Option.bind_eq_some_iff.1 h
  clear h
  have h := h1
  clear h1
  obtain ⟨m, hcm, h1⟩ := Option.bind_eq_some_iff.1 h
  clear h
  have h := h1
  clear h1
  cases h
  cases Lw.Config.of_eq hcc
  clear hcc
  cases Lw.Lease.of_eq hcl
  clear hcl
  cases Lw.Car.of_eq hcx
  clear hcx
  cases Lw.Msg.of_eq hcm
  clear hcm
  refine ⟨fun l h => by first | exact nomatch h | (cases h; rfl), fun hp => ?_⟩
  rw [v24_vc]
  have hm := massI_range x.load
  have hm' := massI_range l.ask.mass
  rw [wrap_id (n := massI x.load - massI l.ask.mass) (by omega) (by omega), wrap_id (n := 0 - (massI x.load - massI l.ask.mass)) (by omega) (by omega)]
  have hy : (massI x.load - massI l.ask.mass ≤ massI c.slack ∧ massI l.ask.mass - massI x.load ≤ massI c.slack) → nearB x.load l.ask.mass c.slack = true := fun h => decide_eq_true h
  have hn : ¬ (massI x.load - massI l.ask.mass ≤ massI c.slack ∧ massI l.ask.mass - massI x.load ≤ massI c.slack) → nearB x.load l.ask.mass c.slack = false := fun h => decide_eq_false h
  refine cnd_iff.2 ⟨fun h1 => cnd_iff.2 ⟨fun h2 => cnd_iff.2 ⟨fun h3 => ?_, fun h3 => ?_⟩, fun h2 => cnd_iff.2 ⟨fun h3 => ?_, fun h3 => ?_⟩⟩, fun h1 => cnd_iff.2 ⟨fun h3 => ?_, fun h3 => cnd_iff.2 ⟨fun h4 => cnd_iff.2 ⟨fun h5 => cnd_iff.2 ⟨fun h6 => ?_, fun h6 => ?_⟩, fun h5 => cnd_iff.2 ⟨fun h6 => cnd_iff.2 ⟨fun h7 => ?_, fun h7 => ?_⟩, fun h6 => ?_⟩⟩, fun h4 => ?_⟩⟩⟩ <;> simp only [c_and, c_or, Bool.and_eq_true, Bool.or_eq_true, Bool.and_eq_false_iff, Bool.or_eq_false_iff, Bool.not_eq_true', Bool.not_eq_false', beq_iff_eq, beq_eq_false_iff_ne, bne_iff_ne, bne_eq_false_iff_eq, ne_eq, decide_eq_true_eq, decide_eq_false_iff_not] at h1 <;> (try simp only [c_and, c_or, Bool.and_eq_true, Bool.or_eq_true, Bool.and_eq_false_iff, Bool.or_eq_false_iff, Bool.not_eq_true', Bool.not_eq_false', beq_iff_eq, beq_eq_false_iff_ne, bne_iff_ne, bne_eq_false_iff_eq, ne_eq, decide_eq_true_eq, decide_eq_false_iff_not] at h2) <;> (try simp only [c_and, c_or, Bool.and_eq_true, Bool.or_eq_true, Bool.and_eq_false_iff, Bool.or_eq_false_iff, Bool.not_eq_true', Bool.not_eq_false', beq_iff_eq, beq_eq_false_iff_ne, bne_iff_ne, bne_eq_false_iff_eq, ne_eq, decide_eq_true_eq, decide_eq_false_iff_not] at h3) <;> (try simp only [c_and, c_or, Bool.and_eq_true, Bool.or_eq_true, Bool.and_eq_false_iff, Bool.or_eq_false_iff, Bool.not_eq_true', Bool.not_eq_false', beq_iff_eq, beq_eq_false_iff_ne, bne_iff_ne, bne_eq_false_iff_eq, ne_eq, decide_eq_true_eq, decide_eq_false_iff_not] at h4) <;> (try simp only [c_and, c_or, Bool.and_eq_true, Bool.or_eq_true, Bool.and_eq_false_iff, Bool.or_eq_false_iff, Bool.not_eq_true', Bool.not_eq_false', beq_iff_eq, beq_eq_false_iff_ne, bne_iff_ne, bne_eq_false_iff_eq, ne_eq, decide_eq_true_eq, decide_eq_false_iff_not] at h5) <;> (try simp only [c_and, c_or, Bool.and_eq_true, Bool.or_eq_true, Bool.and_eq_false_iff, Bool.or_eq_false_iff, Bool.not_eq_true', Bool.not_eq_false', beq_iff_eq, beq_eq_false_iff_ne, bne_iff_ne, bne_eq_false_iff_eq, ne_eq, decide_eq_true_eq, decide_eq_false_iff_not] at h6) <;> (try simp only [c_and, c_or, Bool.and_eq_true, Bool.or_eq_true, Bool.and_eq_false_iff, Bool.or_eq_false_iff, Bool.not_eq_true', Bool.not_eq_false', beq_iff_eq, beq_eq_false_iff_ne, bne_iff_ne, bne_eq_false_iff_eq, ne_eq, decide_eq_true_eq, decide_eq_false_iff_not] at h7)
  · have hz := hn (by omega)
    rw [show rideH c l x now m = (l, [⟨11, massI x.load, 0, 0⟩], false) by
      unfold rideH; (repeat' split) <;> first | rfl | (exfalso; simp_all; done) | (exfalso; simp_all; omega)]
    exact ends_sel [] [5] rfl rfl rfl rfl
  · have hz := hy (by omega)
    rw [show rideH c l x now m = (⟨l.ask, l.car, 3, addT now (tripI c), l.renewed, l.granted⟩, [⟨10, 0, 0, 0⟩], false) by
      unfold rideH; (repeat' split) <;> first | rfl | (exfalso; simp_all; done) | (exfalso; simp_all; omega)]
    exact ends_sel [] [5] rfl rfl rfl rfl
  · have hz := hn (by omega)
    rw [show rideH c l x now m = (l, [⟨11, massI x.load, 0, 0⟩], false) by
      unfold rideH; (repeat' split) <;> first | rfl | (exfalso; simp_all; done) | (exfalso; simp_all; omega)]
    exact ends_sel [] [5] rfl rfl rfl rfl
  · have hz := hy (by omega)
    rw [show rideH c l x now m = (⟨l.ask, l.car, 3, addT now (tripI c), l.renewed, l.granted⟩, [⟨10, 0, 0, 0⟩], false) by
      unfold rideH; (repeat' split) <;> first | rfl | (exfalso; simp_all; done) | (exfalso; simp_all; omega)]
    exact ends_sel [] [5] rfl rfl rfl rfl
  · rw [show rideH c l x now m = (l, [⟨14, 0, 0, 0⟩], true) by
      unfold rideH; (repeat' split) <;> first | rfl | (exfalso; simp_all; done) | (exfalso; simp_all; omega)]
    exact ends_sel [] [5] rfl rfl rfl rfl
  · rw [show rideH c l x now m = (⟨l.ask, l.car, l.phase, addT now (spanI c.hold), IntKind.i64.wrap (l.renewed + 1), l.granted⟩, [⟨4, l.car, 0, 0⟩], false) by
      unfold rideH; (repeat' split) <;> first | rfl | (exfalso; simp_all; done) | (exfalso; simp_all; omega)]
    exact ends_sel [] [5] rfl rfl rfl rfl
  · rw [show rideH c l x now m = (l, [⟨7, l.phase, 0, 0⟩], false) by
      unfold rideH; (repeat' split) <;> first | rfl | (exfalso; simp_all; done) | (exfalso; simp_all; omega)]
    exact ends_sel [] [5] rfl rfl rfl rfl
  · rw [show rideH c l x now m = (⟨l.ask, l.car, l.phase, addT now (spanI c.hold), IntKind.i64.wrap (l.renewed + 1), l.granted⟩, [⟨4, l.car, 0, 0⟩], false) by
      unfold rideH; (repeat' split) <;> first | rfl | (exfalso; simp_all; done) | (exfalso; simp_all; omega)]
    exact ends_sel [] [5] rfl rfl rfl rfl
  · rw [show rideH c l x now m = (l, [⟨7, l.phase, 0, 0⟩], false) by
      unfold rideH; (repeat' split) <;> first | rfl | (exfalso; simp_all; done) | (exfalso; simp_all; omega)]
    exact ends_sel [] [5] rfl rfl rfl rfl
  · rw [show rideH c l x now m = (l, [⟨7, l.phase, 0, 0⟩], false) by
      unfold rideH; (repeat' split) <;> first | rfl | (exfalso; simp_all; done) | (exfalso; simp_all; omega)]
    exact ends_sel [] [5] rfl rfl rfl rfl
  · rw [show rideH c l x now m = (l, [⟨7, l.phase, 0, 0⟩], false) by
      unfold rideH; (repeat' split) <;> first | rfl | (exfalso; simp_all; done) | (exfalso; simp_all; omega)]
    exact ends_sel [] [5] rfl rfl rfl rfl
theorem tb42_ok : GamOk Try.prog eid (gam tb42) := gam_cons h24 tb41_ok
theorem h18 : Holds Try.prog eid 18 (s18) := by
  refine hold tb42_ok Try.func18 (by kernel_rfl) ?_ (by kernel_rfl)
  intro xs M t h
  unfold s18 at h
  split at h
  case h_2 => cases h
  rename_i csl
  obtain ⟨l, hcl, h1⟩ := Option.bind_eq_some_iff.1 h
  clear h
  have h := h1
  clear h1
  cases h
  cases Lw.Lease.of_eq hcl
  clear hcl
  refine ⟨fun l h => (nomatch h), fun hp => ?_⟩
  rw [v18_vc]
  refine cnd_iff.2 ⟨fun h => ends_v ?_ rfl, fun h => ends_v ?_ rfl⟩ <;> simp only [decide_eq_true_eq, decide_eq_false_iff_not] at h <;> simp [aimI, h]
theorem tb43_ok : GamOk Try.prog eid (gam tb43) := gam_cons h18 tb42_ok
theorem h19 : Holds Try.prog eid 19 (s19) := by
  refine hold tb43_ok Try.func19 (by kernel_rfl) ?_ (by kernel_rfl)
  intro xs M t h
  unfold s19 at h
  split at h
  case h_2 => cases h
  rename_i csl
  obtain ⟨l, hcl, h1⟩ := Option.bind_eq_some_iff.1 h
  clear h
  have h := h1
  clear h1
  cases h
  cases Lw.Lease.of_eq hcl
  clear hcl
  refine ⟨fun l h => (nomatch h), fun hp => ?_⟩
  rw [v19_vc]
  refine cnd_iff.2 ⟨fun h => ends_v ?_ rfl, fun h => ends_v ?_ rfl⟩ <;> simp only [decide_eq_true_eq, decide_eq_false_iff_not] at h <;> simp [aimI, h]
theorem tb44_ok : GamOk Try.prog eid (gam tb44) := gam_cons h19 tb43_ok
theorem h21 : Holds Try.prog eid 21 (s21) := by
  refine hold tb44_ok Try.func21 (by kernel_rfl) ?_ (by kernel_rfl)
  intro xs M t h
  unfold s21 at h
  split at h
  case h_2 => cases h
  rename_i csl now
  obtain ⟨l, hcl, h1⟩ := Option.bind_eq_some_iff.1 h
  clear h
  have h := h1
  clear h1
  cases h
  cases Lw.Lease.of_eq hcl
  clear hcl
  refine ⟨fun l h => (nomatch h), fun hp => ?_⟩
  rw [v21_vc]
  have := timeI_range l.until_
  have := timeI_range now
  rw [wrap_id (by omega) (by omega), mm_max]
  exact ends_pl rfl
theorem tb45_ok : GamOk Try.prog eid (gam tb45) := gam_cons h21 tb44_ok
theorem h20 : Holds Try.prog eid 20 (sameMsgsS) := by
  refine hold tb45_ok Try.func20 (by kernel_rfl) ?_ (by kernel_rfl)
  intro xs M t h
  unfold sameMsgsS at h
  split at h
  case h_2 => cases h
  rename_i a b
  cases h
  refine ⟨fun l h => by first | exact nomatch h | (cases h; rfl), fun hp => ?_⟩
  have hp : a.length ≤ 1000 := hp
  rw [v20_vc]
  refine cnd_iff.2 ⟨fun h => ?_, fun h => ?_⟩
  · rw [sameMsgs_len (by simp only [c_and, c_or, Bool.and_eq_true, Bool.or_eq_true, Bool.and_eq_false_iff, Bool.or_eq_false_iff, Bool.not_eq_true', Bool.not_eq_false', beq_iff_eq, beq_eq_false_iff_ne, bne_iff_ne, bne_eq_false_iff_eq, ne_eq, decide_eq_true_eq, decide_eq_false_iff_not] at h; omega)]
    exact ends_sel [] [0, 1] rfl rfl rfl rfl
  · have hl : a.length = b.length := by simp only [c_and, c_or, Bool.and_eq_true, Bool.or_eq_true, Bool.and_eq_false_iff, Bool.or_eq_false_iff, Bool.not_eq_true', Bool.not_eq_false', beq_iff_eq, beq_eq_false_iff_ne, bne_iff_ne, bne_eq_false_iff_eq, ne_eq, decide_eq_true_eq, decide_eq_false_iff_not] at h; omega
    refine loopVC_st (S := Int) v20b_m 2 (fun s => v20b_fr a b s) (fun s => v20b_mem a b s) (fun s => (a.length - s).toNat) (fun s => 0 ≤ s ∧ s ≤ a.length ∧ sameMsgs (a.drop s.toNat) (b.drop s.toNat) = sameMsgs a b) rfl ⟨0, ⟨by simp, by simp, by simp⟩, rfl, rfl⟩ ?_
    intro i ⟨h0, h1, h2⟩
    refine (v20b_vc a b i _ _).mpr ?_
    refine cnd_iff.2 ⟨fun hi => ?_, fun hi => ?_⟩ <;> simp only [c_and, c_or, Bool.and_eq_true, Bool.or_eq_true, Bool.and_eq_false_iff, Bool.or_eq_false_iff, Bool.not_eq_true', Bool.not_eq_false', beq_iff_eq, beq_eq_false_iff_ne, bne_iff_ne, bne_eq_false_iff_eq, ne_eq, decide_eq_true_eq, decide_eq_false_iff_not] at hi
    · have hs := sameMsgs_step (a := a) (b := b) (i := i.toNat) (by omega) (by omega) (RTy.zero .msg)
      refine ⟨⟨h0, hi⟩, ⟨h0, by omega⟩, cnd_iff.2 ⟨fun he => ?_, fun he => ?_⟩⟩
      · have he : msgEq (a.getD i.toNat (RTy.zero .msg)) (b.getD i.toNat (RTy.zero .msg)) = false := by unfold msgEq; simp only [c_and, c_or, Bool.and_eq_true, Bool.or_eq_true, Bool.and_eq_false_iff, Bool.or_eq_false_iff, Bool.not_eq_true', Bool.not_eq_false', beq_iff_eq, beq_eq_false_iff_ne, bne_iff_ne, bne_eq_false_iff_eq, ne_eq, decide_eq_true_eq, decide_eq_false_iff_not] at he; exact he
        rw [← h2, hs, he]
        exact ends_sel [] [0, 1] rfl rfl rfl rfl
      · have he : msgEq (a.getD i.toNat (RTy.zero .msg)) (b.getD i.toNat (RTy.zero .msg)) = true := by unfold msgEq; simp only [c_and, c_or, Bool.and_eq_true, Bool.or_eq_true, Bool.and_eq_false_iff, Bool.or_eq_false_iff, Bool.not_eq_true', Bool.not_eq_false', beq_iff_eq, beq_eq_false_iff_ne, bne_iff_ne, bne_eq_false_iff_eq, ne_eq, decide_eq_true_eq, decide_eq_false_iff_not] at he; exact he
        rw [wrap_id (by omega) (by omega)]
        refine ⟨i + 1, ⟨by omega, by omega, ?_⟩, by omega, rfl, rfl⟩
        rw [show (i + 1).toNat = i.toNat + 1 by omega, ← h2, hs, he]; rfl
    · rw [← h2, List.drop_eq_nil_of_le (by omega), List.drop_eq_nil_of_le (by omega)]
      exact ends_sel [] [0, 1] rfl rfl rfl rfl
theorem tb46_ok : GamOk Try.prog eid (gam tb46) := gam_cons h20 tb45_ok
end Go.Proofs.Ytijcloeapcapiaa
