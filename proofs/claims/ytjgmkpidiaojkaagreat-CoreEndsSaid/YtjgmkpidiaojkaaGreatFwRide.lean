/- The functions of this group answer so. -/
import Derived.Test.YtjgmkpidiaojkaaGreatFwRideV
import Derived.Test.YtjgmkpidiaojkaaGreatFwTbl
set_option linter.unusedVariables false
set_option linter.unusedSimpArgs false
set_option maxRecDepth 20000
set_option maxHeartbeats 4000000
namespace Go.Proofs.YtjgmkpidiaojkaaGreat
open Lw
theorem sameMsgs_len : ∀ {a b : List Lw.Msg}, a.length ≠ b.length → sameMsgs a b = false
  | [], [], h => absurd rfl h
  | [], _ :: _, _ => rfl
  | _ :: _, [], _ => rfl
  | x :: a, y :: b, h => by
    unfold sameMsgs
    rw [sameMsgs_len (a := a) (b := b) (by simpa using h), Bool.and_false]
theorem sameMsgs_self : ∀ (a : List Lw.Msg), sameMsgs a a = true
  | [] => rfl
  | x :: a => by
    unfold sameMsgs msgEq
    rw [pcsEq_self, sameMsgs_self a]; rfl
theorem sameMsgs_step {a b : List Lw.Msg} {i : Nat} (ha : i < a.length) (hb : i < b.length) (z : Lw.Msg) : sameMsgs (a.drop i) (b.drop i) = (msgEq (a.getD i z) (b.getD i z) && sameMsgs (a.drop (i + 1)) (b.drop (i + 1))) := by
  rw [List.drop_eq_getElem_cons ha, List.drop_eq_getElem_cons hb, List.getD_eq_getElem?_getD, List.getD_eq_getElem?_getD, List.getElem?_eq_getElem ha, List.getElem?_eq_getElem hb]
  rfl
theorem h115 : Holds Tryz.prog eid 115 (s115) := by
  refine hold tb93_ok Tryz.func115 (by kernel_rfl) ?_ (by kernel_rfl)
  intro xs M t h
  unfold s115 at h
  split at h
  case h_2 => cases h
  rename_i csx f
  obtain ⟨x, hcx, h1⟩ := Option.bind_eq_some_iff.1 h
  clear h
  have h := h1
  clear h1
  cases h
  cases Lw.Car.of_eq hcx
  clear hcx
  refine ⟨fun l h => (nomatch h), ?_⟩
  intro hp
  rw [v115_vc]
  exact ends_pl (congrArg _ (by unfold openAt; simp only [c_and, Bool.and_assoc]))
theorem tb94_ok : GamOk Tryz.prog eid (gam tb94) := gam_cons h115 tb93_ok
theorem h114 : Holds Tryz.prog eid 114 (sayS) := by
  refine hold tb94_ok Tryz.func114 (by kernel_rfl) ?_ (by kernel_rfl)
  intro xs M t h
  unfold sayS at h
  split at h <;> cases h
  refine ⟨fun l h => by cases h; rfl, fun hp => ?_⟩
  rw [v114_vc]
  exact ⟨by simp [bigRow], ends_sel [] [0, 2] rfl rfl rfl rfl⟩
theorem tb95_ok : GamOk Tryz.prog eid (gam tb95) := gam_cons h114 tb94_ok
theorem h116 : Holds Tryz.prog eid 116 (phaseS) := by
  refine hold tb95_ok Tryz.func116 (by kernel_rfl) ?_ (by kernel_rfl)
  intro xs M t h
  unfold phaseS at h
  split at h <;> cases h
  refine ⟨fun l h => by cases h; rfl, fun hp => ?_⟩
  rw [v116_vc]
  exact ends_sel [] [0] rfl rfl rfl rfl
theorem tb96_ok : GamOk Tryz.prog eid (gam tb96) := gam_cons h116 tb95_ok
theorem h118 : Holds Tryz.prog eid 118 (doneS) := by
  refine hold tb96_ok Tryz.func118 (by kernel_rfl) ?_ (by kernel_rfl)
  intro xs M t h
  unfold doneS at h
  split at h <;> cases h
  · refine ⟨fun l h => (nomatch h), fun hp => ?_⟩
    rw [v118_vc]
    exact ends_sel [] [0] rfl rfl rfl rfl
  · refine ⟨fun l h => (nomatch h), fun hp => ?_⟩
    rw [v118r_vc]
    exact ends_sel [] [0, 1] rfl rfl rfl rfl
theorem tb97_ok : GamOk Tryz.prog eid (gam tb97) := gam_cons h118 tb96_ok
theorem h56 : Holds Tryz.prog eid 56 (tickPS) := by
  refine hold tb97_ok Tryz.func56 (by kernel_rfl) ?_ (by kernel_rfl)
  intro xs M t h
  unfold tickPS at h
  split at h
  case h_2 => cases h
  rename_i k0 k1 k2 now
  obtain ⟨c, hcc, h1⟩ := Option.bind_eq_some_iff.1 h
  clear h
  have h := h1
  clear h1
  obtain ⟨l, hcl, h1⟩ := Option.bind_eq_some_iff.1 h
  clear h
  have h := h1
  clear h1
  obtain ⟨x, hcx, h1⟩ := Option.bind_eq_some_iff.1 h
  clear h
  have h := h1
  clear h1
  cases h
  cases Lw.Config.of_eq hcc
  clear hcc
  cases Lw.Lease.of_eq hcl
  clear hcl
  cases Lw.Car.of_eq hcx
  clear hcx
  refine ⟨fun l h => by first | exact nomatch h | (cases h; rfl), ?_⟩
  intro hp
  rw [v56_vc]
  refine cnd_iff.2 ⟨fun h1 => ?_, fun h1 => cnd_iff.2 ⟨fun h2 => ?_, fun h2 => cnd_iff.2 ⟨fun h3 => ?_, fun h3 => ?_⟩⟩⟩ <;> simp only [c_and, c_or, Bool.and_eq_true, Bool.or_eq_true, Bool.and_eq_false_iff, Bool.or_eq_false_iff, Bool.not_eq_true', Bool.not_eq_false', beq_iff_eq, beq_eq_false_iff_ne, bne_iff_ne, bne_eq_false_iff_eq, ne_eq, decide_eq_true_eq, decide_eq_false_iff_not] at *
  · rw [show rideT (lateB now l.until_) c l x now = (l, [⟨16, l.phase, 0, 0⟩], true) by
      unfold rideT; (repeat' split) <;> first | rfl | (exfalso; simp_all; done) | (exfalso; simp_all; omega)]
    exact ends_sel [] [5] rfl rfl rfl rfl
  · rw [show rideT (lateB now l.until_) c l x now = (⟨l.ask, l.car, 2, addT now (spanI c.hold), l.renewed, l.granted⟩, [⟨8, l.ask.src, 0, 0⟩], false) by
      unfold rideT; (repeat' split) <;> first | rfl | (exfalso; simp_all; done) | (exfalso; simp_all; omega)]
    exact ends_sel [] [5] rfl rfl rfl rfl
  · rw [show rideT (lateB now l.until_) c l x now = (⟨l.ask, l.car, 4, addT now (spanI c.hold), l.renewed, l.granted⟩, [⟨12, l.ask.dst, 0, 0⟩], false) by
      unfold rideT; (repeat' split) <;> first | rfl | (exfalso; simp_all; done) | (exfalso; simp_all; omega)]
    exact ends_sel [] [5] rfl rfl rfl rfl
  · rw [show rideT (lateB now l.until_) c l x now = (l, [], false) by
      unfold rideT; (repeat' split) <;> first | rfl | (exfalso; simp_all; done) | (exfalso; simp_all; omega)]
    exact ends_sel [.tup 0 1 .msg] [5] rfl rfl rfl rfl
theorem tb98_ok : GamOk Tryz.prog eid (gam tb98) := gam_cons h56 tb97_ok
theorem h88 : Holds Tryz.prog eid 88 (hearS) := by
  refine hold tb98_ok Tryz.func88 (by kernel_rfl) ?_ (by kernel_rfl)
  intro xs M t h
  unfold hearS at h
  split at h
  case h_2 => cases h
  rename_i k0 k1 k2 now k3
  obtain ⟨c, hcc, h1⟩ := Option.bind_eq_some_iff.1 h
  clear h
  have h := h1
  clear h1
  obtain ⟨l, hcl, h1⟩ := Option.bind_eq_some_iff.1 h
  clear h
  have h := h1
  clear h1
  obtain ⟨x, hcx, h1⟩ := Option.bind_eq_some_iff.1 h
  clear h
  have h := h1
  clear h1
  obtain ⟨m, hcm, h1⟩ := Option.bind_eq_some_iff.1 h
  clear h
  have h := h1
  clear h1
  cases h
  cases Lw.Config.of_eq hcc
  clear hcc
  cases Lw.Lease.of_eq hcl
  clear hcl
  cases Lw.Car.of_eq hcx
  clear hcx
  cases Lw.Msg.of_eq hcm
  clear hcm
  refine ⟨fun l h => by first | exact nomatch h | (cases h; rfl), ?_⟩
  intro hp
  rw [v88_vc]
  refine cnd_iff.2 ⟨fun h1 => ?_, fun h1 => cnd_iff.2 ⟨fun h2 => ?_, fun h2 => cnd_iff.2 ⟨fun h3 => ?_, fun h3 => cnd_iff.2 ⟨fun h4 => cnd_iff.2 ⟨fun h5 => cnd_iff.2 ⟨fun h6 => ?_, fun h6 => ?_⟩, fun h5 => ?_⟩, fun h4 => ?_⟩⟩⟩⟩ <;> simp only [c_and, c_or, Bool.and_eq_true, Bool.or_eq_true, Bool.and_eq_false_iff, Bool.or_eq_false_iff, Bool.not_eq_true', Bool.not_eq_false', beq_iff_eq, beq_eq_false_iff_ne, bne_iff_ne, bne_eq_false_iff_eq, ne_eq, decide_eq_true_eq, decide_eq_false_iff_not] at *
  · rw [show rideH c l x now m = (l, [⟨11, massI x.load, 0, 0⟩], false) by
      unfold rideH; (repeat' split) <;> first | rfl | (exfalso; simp_all; done) | (exfalso; simp_all; omega)]
    exact ends_sel [] [6] rfl rfl rfl rfl
  · rw [show rideH c l x now m = (⟨l.ask, l.car, 3, addT now (tripI c), l.renewed, l.granted⟩, [⟨10, 0, 0, 0⟩], false) by
      unfold rideH; (repeat' split) <;> first | rfl | (exfalso; simp_all; done) | (exfalso; simp_all; omega)]
    exact ends_sel [] [6] rfl rfl rfl rfl
  · rw [show rideH c l x now m = (l, [⟨14, 0, 0, 0⟩], true) by
      unfold rideH; (repeat' split) <;> first | rfl | (exfalso; simp_all; done) | (exfalso; simp_all; omega)]
    exact ends_sel [] [6] rfl rfl rfl rfl
  · rw [show rideH c l x now m = (⟨l.ask, l.car, l.phase, addT now (spanI c.hold), IntKind.i64.wrap (l.renewed + 1), l.granted⟩, [⟨4, l.car, 0, 0⟩], false) by
      unfold rideH; (repeat' split) <;> first | rfl | (exfalso; simp_all; done) | (exfalso; simp_all; omega)]
    exact ends_sel [] [6] rfl rfl rfl rfl
  · rw [show rideH c l x now m = (l, [⟨7, l.phase, 0, 0⟩], false) by
      unfold rideH; (repeat' split) <;> first | rfl | (exfalso; simp_all; done) | (exfalso; simp_all; omega)]
    exact ends_sel [] [6] rfl rfl rfl rfl
  · rw [show rideH c l x now m = (l, [⟨7, l.phase, 0, 0⟩], false) by
      unfold rideH; (repeat' split) <;> first | rfl | (exfalso; simp_all; done) | (exfalso; simp_all; omega)]
    exact ends_sel [] [6] rfl rfl rfl rfl
  · rw [show rideH c l x now m = (l, [⟨7, l.phase, 0, 0⟩], false) by
      unfold rideH; (repeat' split) <;> first | rfl | (exfalso; simp_all; done) | (exfalso; simp_all; omega)]
    exact ends_sel [] [6] rfl rfl rfl rfl
theorem tb99_ok : GamOk Tryz.prog eid (gam tb99) := gam_cons h88 tb98_ok
theorem h112 : Holds Tryz.prog eid 112 (s112) := by
  refine hold tb99_ok Tryz.func112 (by kernel_rfl) ?_ (by kernel_rfl)
  intro xs M t h
  unfold s112 at h
  split at h
  case h_2 => cases h
  rename_i csl
  obtain ⟨l, hcl, h1⟩ := Option.bind_eq_some_iff.1 h
  clear h
  have h := h1
  clear h1
  cases h
  cases Lw.Lease.of_eq hcl
  clear hcl
  refine ⟨fun l h => (nomatch h), ?_⟩
  intro hp
  rw [v112_vc]
  refine cnd_iff.2 ⟨fun h => ends_v ?_ rfl, fun h => ends_v ?_ rfl⟩ <;> simp only [decide_eq_true_eq, decide_eq_false_iff_not] at h <;> simp [aimI, h]
theorem tb100_ok : GamOk Tryz.prog eid (gam tb100) := gam_cons h112 tb99_ok
end Go.Proofs.YtjgmkpidiaojkaaGreat
