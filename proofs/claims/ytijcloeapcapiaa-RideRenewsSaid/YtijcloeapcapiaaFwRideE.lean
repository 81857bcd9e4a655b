/- The functions of this group answer so. -/
import Derived.Test.YtijcloeapcapiaaFwRideEV
import Derived.Test.YtijcloeapcapiaaFwRideL
set_option linter.unusedVariables false
set_option linter.unusedSimpArgs false
set_option maxRecDepth 20000
set_option maxHeartbeats 4000000
namespace Go.Proofs.Ytijcloeapcapiaa
open Lw
theorem leaseI_range (c : Config) : 0 ≤ leaseI c ∧ leaseI c ≤ 1100000 := by
  have := tripI_range c
  have hs := spanI_range c.hold
  have hr := renewI_range c.renew
  have hm := mul_range (a := spanI c.hold) (b := 2 + renewI c.renew) (A := 1000) (B := 1002) (by omega) (by omega) (by omega) (by omega)
  unfold leaseI
  generalize spanI c.hold * (2 + renewI c.renew) = z at hm
  omega
theorem remR_pos {c : Config} {p r : Int} (h : r ≤ renewI c.renew) : 0 ≤ remR c p r := by
  have := tripI_range c
  have hs := spanI_range c.hold
  have hz := Int.mul_nonneg (a := renewI c.renew - r) (b := spanI c.hold) (by omega) (by omega)
  unfold remR
  generalize (renewI c.renew - r) * spanI c.hold = z at hz
  (repeat' split) <;> omega
theorem addT_small {a b : Int} (h : 0 ≤ a) (k : 0 ≤ b) (n : a + b ≤ 1099511627776) : addT a b = a + b := by
  unfold addT
  rw [timeI_id (n := a) (by omega) (by omega), timeI_id (n := b) (by omega) (by omega), timeI_id (by omega) n]
theorem endsP_hear {c : Config} {l : Lw.Lease} {x : Lw.Car} {now : Int} {m : Lw.Msg} (h0 : 0 ≤ now) (h : endsP c l now) : endsP c (rideH c l x now m).1 now := by
  obtain ⟨hp, hr, hn, hb⟩ := h
  have hT := tripI_range c
  have hH := spanI_range c.hold
  have hl := leaseI_range c
  have hq := renewI_range c.renew
  have h2 := remR_pos (p := l.phase) hr.2
  have e1 := addT_small (a := now) (b := tripI c) h0 (by omega) (by omega)
  have e2 := addT_small (a := now) (b := spanI c.hold) h0 (by omega) (by omega)
  unfold rideH
  split
  · rename_i h3
    split
    · refine ⟨by simp only; omega, hr, by simp only; omega, ?_⟩
      simp only [e1]
      rw [h3.2] at hb
      unfold remR at *
      simp only [Int.reduceLE, if_true, if_false, Int.reduceEq] at *
      omega
    · exact ⟨hp, hr, hn, hb⟩
  · split
    · exact ⟨hp, hr, hn, hb⟩
    · split
      · rename_i h3
        have e3 : IntKind.i64.wrap (l.renewed + 1) = l.renewed + 1 := wrap_id (by omega) (by omega)
        refine ⟨hp, by simp only [e3]; omega, by simp only; omega, ?_⟩
        simp only [e2, e3]
        have e4 : (renewI c.renew - (l.renewed + 1)) * spanI c.hold = (renewI c.renew - l.renewed) * spanI c.hold - spanI c.hold := by
          rw [show renewI c.renew - (l.renewed + 1) = (renewI c.renew - l.renewed) - 1 by omega, Int.sub_mul, Int.one_mul]
        unfold remR at *
        rw [e4]
        generalize (renewI c.renew - l.renewed) * spanI c.hold = z at *
        generalize (if l.phase ≤ 1 then spanI c.hold + tripI c + spanI c.hold else if l.phase = 2 then tripI c + spanI c.hold else if l.phase = 3 then spanI c.hold else 0) = y at *
        omega
      · exact ⟨hp, hr, hn, hb⟩
theorem endsP_tick {c : Config} {l : Lw.Lease} {x : Lw.Car} {now : Int} (h0 : 0 ≤ now) (h : endsP c l now) (k : (rideT (lateB now l.until_) c l x now).2.2 = false) : endsP c (rideT (lateB now l.until_) c l x now).1 (now + 1) := by
  obtain ⟨hp, hr, hn, hb⟩ := h
  have hT := tripI_range c
  have hH := spanI_range c.hold
  have hl := leaseI_range c
  have hq := renewI_range c.renew
  have h2 := remR_pos (p := l.phase) hr.2
  have e2 := addT_small (a := now) (b := spanI c.hold) h0 (by omega) (by omega)
  have hlate : lateB now l.until_ = decide (now ≥ l.until_) := by
    unfold lateB; rw [timeI_id (n := now) (by omega) (by omega), timeI_id (n := l.until_) (by omega) (by omega)]
  rw [hlate] at k ⊢
  unfold rideT at k ⊢
  by_cases h3 : x.broken = true ∨ decide (now ≥ l.until_) = true
  · rw [if_pos h3] at k; cases k
  rw [if_neg h3]
  have h3' : now < l.until_ := by
    simp only [not_or, decide_eq_true_eq] at h3; omega
  by_cases h4 : l.phase = 1 ∧ openAt x l.ask.src = true
  · rw [if_pos h4]
    refine ⟨by simp only; omega, hr, by simp only; omega, ?_⟩
    simp only [e2]
    rw [h4.1] at hb
    unfold remR at *
    simp only [Int.reduceLE, if_true, if_false, Int.reduceEq] at *
    omega
  rw [if_neg h4]
  by_cases h5 : l.phase = 3 ∧ openAt x l.ask.dst = true
  · rw [if_pos h5]
    refine ⟨by simp only; omega, hr, by simp only; omega, ?_⟩
    simp only [e2]
    rw [h5.1] at hb
    unfold remR at *
    simp only [Int.reduceLE, if_true, if_false, Int.reduceEq] at *
    omega
  rw [if_neg h5]
  exact ⟨hp, hr, by simp only; omega, hb⟩
theorem endsP_start (c : Config) (l : Lw.Lease) : endsP c ⟨l.ask, l.car, 1, tripI c, 0, 0⟩ 1 := by
  have hT := tripI_range c
  have hH := spanI_range c.hold
  have hq := renewI_range c.renew
  refine ⟨by simp, by simp only; omega, by simp only; omega, ?_⟩
  unfold remR leaseI
  simp only [Int.le_refl, if_true, Int.sub_zero]
  rw [Int.mul_add, Int.mul_comm (spanI c.hold) (renewI c.renew)]
  omega
theorem endsP_le {c : Config} {l : Lw.Lease} {now : Int} (h : endsP c l now) : now ≤ leaseI c := by
  obtain ⟨_, hr, hn, hb⟩ := h
  have h2 := remR_pos (p := l.phase) hr.2
  omega
theorem rideH_renew (c : Config) (l : Lw.Lease) (x : Lw.Car) (t : Int) (hp : l.phase = 2) : rideH c l x t ⟨15, 0, 0, 0⟩ = if l.renewed < renewI c.renew then (⟨l.ask, l.car, 2, addT t (spanI c.hold), IntKind.i64.wrap (l.renewed + 1), l.granted⟩, [⟨4, l.car, 0, 0⟩], false) else (l, [⟨7, 2, 0, 0⟩], false) := by
  unfold rideH
  simp [hp]
theorem h6 : Holds Try.prog eid 6 (s6) := by
  refine hold tb50_ok Try.func6 (by kernel_rfl) ?_ (by kernel_rfl)
  intro xs M t h
  unfold s6 at h
  split at h
  case h_2 => cases h
  rename_i csc csl csx says
  obtain ⟨c, hcc, h1⟩ := Option.bind_eq_some_iff.1 h
  clear h
  have h := h1
  clear h1
  obtain ⟨l, hcl, h1⟩ := Option.bind_eq_some_iff.1 h
  clear h
  have h := h1
  clear h1
  obtain ⟨x, hcx, h1⟩ := Option.bind_eq_some_iff.1 h
  clear h
  have h := h1
  clear h1
  cases h
  cases Lw.Config.of_eq hcc
  clear hcc
  cases Lw.Lease.of_eq hcl
  clear hcl
  cases Lw.Car.of_eq hcx
  clear hcx
  refine ⟨fun l h => (nomatch h), fun hp => ?_⟩
  rw [v6_vc]
  refine cnd_iff.2 ⟨fun _ => ends_pl rfl, fun hg => ?_⟩
  clear hg
  have hl := leaseI_range c
  refine loopVC_st (S := Lw.Lease × Lw.Car × Int) v6b_m 3 (fun q => v6b_fr c says q.1 q.2.1 q.2.2) (fun q => v6b_mem c says q.1 q.2.1 q.2.2) (fun q => (leaseI c + 1 - q.2.2).toNat) (fun q => 1 ≤ q.2.2 ∧ endsP c q.1 q.2.2) rfl ⟨(⟨l.ask, l.car, 1, tripI c, 0, 0⟩, x, 1), ⟨by simp, endsP_start c l⟩, rfl, rfl⟩ ?_
  clear l x
  rintro ⟨l, x, now⟩ ⟨h1, hP⟩
  simp only at h1 hP
  have hle := endsP_le hP
  refine (v6b_vc c says l x now _ _).mpr ?_
  rw [wrap_id (n := now + 1) (by omega) (by omega)]
  refine cnd_iff.2 ⟨fun _ => ?_, fun h => absurd h (by simp; omega)⟩
  refine cnd_iff.2 ⟨fun hs => ⟨⟨by omega, of_decide_eq_true hs⟩, cnd_iff.2 ⟨fun _ => ends_pl rfl, fun _ => ?_⟩⟩, fun hs => ?_⟩
  · have hP := endsP_hear (x := x) (m := List.getD says now.toNat (RTy.zero RTy.msg)) (by omega) hP
    generalize (rideH c l x now (List.getD says now.toNat (RTy.zero RTy.msg))).1 = l1 at *
    refine cnd_iff.2 ⟨fun _ => cnd_iff.2 ⟨fun _ => ends_pl rfl, fun ho => ?_⟩, fun _ => cnd_iff.2 ⟨fun _ => ends_pl rfl, fun ho => ?_⟩⟩
    · have hQ := endsP_tick (by omega) hP ho
      exact ⟨((rideT (lateB now l1.until_) c l1 ⟨x.door, IntKind.i64.wrap (4 * l1.ask.dst), x.way, x.timer, x.just, x.load, x.blocked, x.broken, x.mode, x.target, x.hold, x.stops⟩ now).1, ⟨x.door, IntKind.i64.wrap (4 * l1.ask.dst), x.way, x.timer, x.just, x.load, x.blocked, x.broken, x.mode, x.target, x.hold, x.stops⟩, now + 1), ⟨by simp only; omega, hQ⟩, by simp only; omega, rfl, rfl⟩
    · have hQ := endsP_tick (by omega) hP ho
      exact ⟨((rideT (lateB now l1.until_) c l1 ⟨x.door, IntKind.i64.wrap (4 * l1.ask.src), x.way, x.timer, x.just, x.load, x.blocked, x.broken, x.mode, x.target, x.hold, x.stops⟩ now).1, ⟨x.door, IntKind.i64.wrap (4 * l1.ask.src), x.way, x.timer, x.just, x.load, x.blocked, x.broken, x.mode, x.target, x.hold, x.stops⟩, now + 1), ⟨by simp only; omega, hQ⟩, by simp only; omega, rfl, rfl⟩
  · refine cnd_iff.2 ⟨fun _ => cnd_iff.2 ⟨fun _ => ends_pl rfl, fun ho => ?_⟩, fun _ => cnd_iff.2 ⟨fun _ => ends_pl rfl, fun ho => ?_⟩⟩
    · have hQ := endsP_tick (by omega) hP ho
      exact ⟨((rideT (lateB now l.until_) c l ⟨x.door, IntKind.i64.wrap (4 * l.ask.dst), x.way, x.timer, x.just, x.load, x.blocked, x.broken, x.mode, x.target, x.hold, x.stops⟩ now).1, ⟨x.door, IntKind.i64.wrap (4 * l.ask.dst), x.way, x.timer, x.just, x.load, x.blocked, x.broken, x.mode, x.target, x.hold, x.stops⟩, now + 1), ⟨by simp only; omega, hQ⟩, by simp only; omega, rfl, rfl⟩
    · have hQ := endsP_tick (by omega) hP ho
      exact ⟨((rideT (lateB now l.until_) c l ⟨x.door, IntKind.i64.wrap (4 * l.ask.src), x.way, x.timer, x.just, x.load, x.blocked, x.broken, x.mode, x.target, x.hold, x.stops⟩ now).1, ⟨x.door, IntKind.i64.wrap (4 * l.ask.src), x.way, x.timer, x.just, x.load, x.blocked, x.broken, x.mode, x.target, x.hold, x.stops⟩, now + 1), ⟨by simp only; omega, hQ⟩, by simp only; omega, rfl, rfl⟩
theorem tb51_ok : GamOk Try.prog eid (gam tb51) := gam_cons h6 tb50_ok
theorem h7 : Holds Try.prog eid 7 (s7) := by
  refine hold tb51_ok Try.func7 (by kernel_rfl) ?_ (by kernel_rfl)
  intro xs M t h
  unfold s7 at h
  split at h
  case h_2 => cases h
  rename_i csc csl csx now n
  obtain ⟨c, hcc, h1⟩ := Option.bind_eq_some_iff.1 h
  clear h
  have h := h1
  clear h1
  obtain ⟨l, hcl, h1⟩ := Option.bind_eq_some_iff.1 h
  clear h
  have h := h1
  clear h1
  obtain ⟨x, hcx, h1⟩ := Option.bind_eq_some_iff.1 h
  clear h
  have h := h1
  clear h1
  cases h
  cases Lw.Config.of_eq hcc
  clear hcc
  cases Lw.Lease.of_eq hcl
  clear hcl
  cases Lw.Car.of_eq hcx
  clear hcx
  refine ⟨fun l h => (nomatch h), fun hp => ?_⟩
  rw [v7_vc]
  obtain ⟨hn0, hn1⟩ := (hp : 0 ≤ n ∧ n ≤ 255)
  refine cnd_iff.2 ⟨fun _ => ends_pl rfl, fun hg => ?_⟩
  simp only [c_and, c_or, Bool.and_eq_true, Bool.or_eq_true, Bool.and_eq_false_iff, Bool.or_eq_false_iff, Bool.not_eq_true', Bool.not_eq_false', beq_iff_eq, beq_eq_false_iff_ne, bne_iff_ne, bne_eq_false_iff_eq, ne_eq, decide_eq_true_eq, decide_eq_false_iff_not] at hg
  have hR := renewI_range c.renew
  have hH := spanI_range c.hold
  refine loopVC_st (S := Lw.Lease × Int) v7b_m 3 (fun q => v7b_fr c x now n q.1 q.2) (fun q => v7b_mem c x now n q.1 q.2) (fun q => (n - q.2).toNat) (fun q => (0 ≤ q.2 ∧ q.2 ≤ n) ∧ q.1.phase = 2 ∧ q.1.renewed = min q.2 (renewI c.renew)) rfl ⟨(⟨l.ask, l.car, 2, l.until_, 0, l.granted⟩, 0), ⟨by simp only; omega, rfl, by simp only; omega⟩, rfl, rfl⟩ ?_
  clear l
  rintro ⟨l, i⟩ ⟨⟨h0, h1⟩, hph, hr⟩
  simp only at h0 h1 hph hr
  refine (v7b_vc c x now n l i _ _).mpr ?_
  rw [wrap_id (n := n) (by omega) (by omega), wrap_id (n := now + i) (by omega) (by omega)]
  refine cnd_iff.2 ⟨fun hc => ?_, fun hc => ?_⟩
  · simp only [c_and, c_or, Bool.and_eq_true, Bool.or_eq_true, Bool.and_eq_false_iff, Bool.or_eq_false_iff, Bool.not_eq_true', Bool.not_eq_false', beq_iff_eq, beq_eq_false_iff_ne, bne_iff_ne, bne_eq_false_iff_eq, ne_eq, decide_eq_true_eq, decide_eq_false_iff_not] at hc
    rw [rideH_renew c l x (now + i) hph, wrap_id (n := i + 1) (by omega) (by omega), wrap_id (n := l.renewed + 1) (by omega) (by omega), wrap_id (n := now + i + spanI c.hold) (by omega) (by omega)]
    split
    · rename_i hlt
      rw [addT_small (by omega) (by omega) (by omega)]
      simp only [List.length_cons, List.length_nil, bne_self_eq_false, cnd]
      refine ⟨by simp, ?_⟩
      refine ⟨(⟨l.ask, l.car, 2, now + i + spanI c.hold, l.renewed + 1, l.granted⟩, i + 1), ⟨by simp only; omega, rfl, by simp only; omega⟩, by simp only; omega, rfl, rfl⟩
    · rename_i hlt
      refine cnd_iff.2 ⟨fun h => absurd h (by simp), fun _ => ⟨by simp, cnd_iff.2 ⟨fun h => absurd h (by simp only []; decide), fun _ => cnd_iff.2 ⟨fun h => absurd h (by simp only [pcsEq_self]; decide), fun _ => ⟨by simp, cnd_iff.2 ⟨fun h => absurd h (by simp only []; decide), fun _ => ?_⟩⟩⟩⟩⟩⟩
      exact ⟨(l, i + 1), ⟨by simp only; omega, hph, by simp only; omega⟩, by simp only; omega, rfl, rfl⟩
  · simp only [c_and, c_or, Bool.and_eq_true, Bool.or_eq_true, Bool.and_eq_false_iff, Bool.or_eq_false_iff, Bool.not_eq_true', Bool.not_eq_false', beq_iff_eq, beq_eq_false_iff_ne, bne_iff_ne, bne_eq_false_iff_eq, ne_eq, decide_eq_true_eq, decide_eq_false_iff_not] at hc
    rw [mm_min]
    refine ends_pl (congrArg PC.bool ?_)
    rw [beq_iff_eq, hr]
    omega
theorem tb52_ok : GamOk Try.prog eid (gam tb52) := gam_cons h7 tb51_ok
end Go.Proofs.Ytijcloeapcapiaa
