/- The functions of this group answer so. -/
import Derived.Test.YtijcloeapcapiaaFwRideMV
import Derived.Test.YtijcloeapcapiaaFwRideL
set_option linter.unusedVariables false
set_option linter.unusedSimpArgs false
set_option maxRecDepth 20000
set_option maxHeartbeats 4000000
namespace Go.Proofs.Ytijcloeapcapiaa
open Lw
theorem wf_lease_renewed {l : Lw.Lease} (h : WfAll l.enc) : r64 l.renewed := wf_i64 h.2.2.2.2.2.2.2.2.1
theorem tick_keeps (late : Bool) (c : Config) (l : Lw.Lease) (x : Lw.Car) (now : Int) : (rideT late c l x now).1.ask = l.ask ∧ (rideT late c l x now).1.car = l.car ∧ (rideT late c l x now).1.granted = l.granted ∧ (rideT late c l x now).1.renewed = l.renewed ∧ (1 ≤ l.phase → l.phase ≤ 4 → 1 ≤ (rideT late c l x now).1.phase ∧ (rideT late c l x now).1.phase ≤ 4 ∧ l.phase ≤ (rideT late c l x now).1.phase ∧ (rideT late c l x now).1.phase ≤ l.phase + 1) := by
  unfold rideT
  (repeat' split) <;> (refine ⟨rfl, rfl, rfl, rfl, fun h0 h1 => ?_⟩) <;> simp only <;> omega
theorem hear_keeps (c : Config) (l : Lw.Lease) (x : Lw.Car) (now : Int) (m : Lw.Msg) (hr : r64 l.renewed) : (rideH c l x now m).1.ask = l.ask ∧ (rideH c l x now m).1.car = l.car ∧ (rideH c l x now m).1.granted = l.granted ∧ (l.renewed ≤ (rideH c l x now m).1.renewed ∧ r64 (rideH c l x now m).1.renewed) ∧ (1 ≤ l.phase → l.phase ≤ 4 → 1 ≤ (rideH c l x now m).1.phase ∧ (rideH c l x now m).1.phase ≤ 4 ∧ l.phase ≤ (rideH c l x now m).1.phase ∧ (rideH c l x now m).1.phase ≤ l.phase + 1) := by
  have hn := renewI_range c.renew
  unfold r64 at *
  unfold rideH
  split
  · rename_i h1
    split
    · exact ⟨rfl, rfl, rfl, ⟨Int.le_refl _, hr⟩, fun h0 h2 => by simp only; omega⟩
    · exact ⟨rfl, rfl, rfl, ⟨Int.le_refl _, hr⟩, fun h0 h2 => by simp only; omega⟩
  · split
    · exact ⟨rfl, rfl, rfl, ⟨Int.le_refl _, hr⟩, fun h0 h2 => by simp only; omega⟩
    · split
      · rename_i h3
        have e : IntKind.i64.wrap (l.renewed + 1) = l.renewed + 1 := wrap_id (by omega) (by omega)
        exact ⟨rfl, rfl, rfl, by simp only; rw [e]; omega, fun h0 h2 => by simp only; omega⟩
      · exact ⟨rfl, rfl, rfl, ⟨Int.le_refl _, hr⟩, fun h0 h2 => by simp only; omega⟩
theorem chk_ok {a l : Lw.Lease} (h1 : a.ask = l.ask) (h2 : a.car = l.car) (h3 : a.granted = l.granted) (h4 : l.phase ≤ a.phase ∧ a.phase ≤ l.phase + 1) (h5 : 1 ≤ l.phase ∧ l.phase ≤ 4) (h6 : l.renewed ≤ a.renewed) :
    (bif bif bif bif bif !pcsEq [PC.int .i64 a.ask.session, PC.int .i64 a.ask.fleet, PC.int .i64 a.ask.src, PC.int .i64 a.ask.dst, PC.int .i64 a.ask.mass] [PC.int .i64 l.ask.session, PC.int .i64 l.ask.fleet, PC.int .i64 l.ask.src, PC.int .i64 l.ask.dst, PC.int .i64 l.ask.mass] then true else a.car != l.car then true else a.granted != l.granted then true else decide (a.phase < l.phase) then true else decide (a.phase > IntKind.i64.wrap (l.phase + 1)) then true else decide (a.renewed < l.renewed)) = false := by
  rw [h1, h2, h3, pcsEq_self, wrap_id (n := l.phase + 1) (by omega) (by omega)]
  simp
  omega
theorem h5 : Holds Try.prog eid 5 (s5) := by
  refine hold tb50_ok Try.func5 (by kernel_rfl) ?_ (by kernel_rfl)
  intro xs M t h
  unfold s5 at h
  split at h
  case h_2 => cases h
  rename_i csc csl cars says times
  obtain ⟨c, hcc, h1⟩ := Option.bind_eq_some_iff.1 h
  clear h
  have h := h1
  clear h1
  obtain ⟨l, hcl, h1⟩ := Option.bind_eq_some_iff.1 h
  clear h
  have h := h1
  clear h1
  cases h
  cases Lw.Config.of_eq hcc
  clear hcc
  cases Lw.Lease.of_eq hcl
  clear hcl
  refine ⟨fun l h => (nomatch h), fun hp => ?_⟩
  rw [v5_vc]
  obtain ⟨hr0, hcl⟩ := (hp : r64 l.renewed ∧ cars.length ≤ Go.maxLen)
  refine cnd_iff.2 ⟨fun _ => ends_pl rfl, fun hg => ?_⟩
  simp only [c_and, c_or, Bool.and_eq_true, Bool.or_eq_true, Bool.and_eq_false_iff, Bool.or_eq_false_iff, Bool.not_eq_true', Bool.not_eq_false', beq_iff_eq, beq_eq_false_iff_ne, bne_iff_ne, bne_eq_false_iff_eq, ne_eq, decide_eq_true_eq, decide_eq_false_iff_not] at hg
  refine loopVC_st (S := Lw.Lease × Int × Int) v5b_m 2 (fun q => v5b_fr c cars says times q.1 q.2.1 q.2.2) (fun q => v5b_mem c cars says times q.1 q.2.1 q.2.2) (fun q => (cars.length - q.2.2).toNat) (fun q => 0 ≤ q.2.2 ∧ q.2.2 ≤ cars.length ∧ (1 ≤ q.1.phase ∧ q.1.phase ≤ 4) ∧ r64 q.1.renewed) rfl ⟨(l, 0, 0), ⟨by simp, by simp, by simp only; omega, hr0⟩, rfl, rfl⟩ ?_
  clear hg hr0
  rintro ⟨l, now, i⟩ ⟨h0, h1, hph, hr⟩
  simp only at h0 h1 hph hr
  refine (v5b_vc c cars says times l now i _ _).mpr ?_
  refine cnd_iff.2 ⟨fun hc => ?_, fun hc => ends_pl rfl⟩
  simp only [c_and, c_or, Bool.and_eq_true, Bool.or_eq_true, Bool.and_eq_false_iff, Bool.or_eq_false_iff, Bool.not_eq_true', Bool.not_eq_false', beq_iff_eq, beq_eq_false_iff_ne, bne_iff_ne, bne_eq_false_iff_eq, ne_eq, decide_eq_true_eq, decide_eq_false_iff_not] at hc
  have hm := maxLen_eq
  rw [wrap_id (n := i + 1) (by omega) (by omega)]
  refine cnd_iff.2 ⟨fun ht => ⟨⟨h0, of_decide_eq_true ht⟩, by decide, fun hs => ⟨h0, of_decide_eq_true hs⟩, cnd_iff.2 ⟨fun hs => ?_, fun hs => ?_⟩⟩, fun ht => ⟨fun hs => ⟨h0, of_decide_eq_true hs⟩, cnd_iff.2 ⟨fun hs => ?_, fun hs => ?_⟩⟩⟩
  · have hk := hear_keeps c l (cars.getD i.toNat (RTy.zero .car)) (IntKind.i64.wrap (now + IntKind.i64.wrap (Int.tmod (times.getD i.toNat (RTy.zero .u8)) 4))) (says.getD i.toNat (RTy.zero .msg)) hr
    obtain ⟨q1, q2, q3, ⟨q4, q5⟩, q6⟩ := hk
    have q6 := q6 hph.1 hph.2
    refine ⟨⟨h0, hc.1⟩, ⟨h0, by simp only [c_and, c_or, Bool.and_eq_true, Bool.or_eq_true, Bool.and_eq_false_iff, Bool.or_eq_false_iff, Bool.not_eq_true', Bool.not_eq_false', beq_iff_eq, beq_eq_false_iff_ne, bne_iff_ne, bne_eq_false_iff_eq, ne_eq, decide_eq_true_eq, decide_eq_false_iff_not] at hs; exact hs.1⟩, ?_⟩
    rw [chk_ok q1 q2 q3 q6.2.2 hph q4]
    refine cnd_iff.2 ⟨fun h => absurd h (by simp), fun _ => cnd_iff.2 ⟨fun _ => ends_pl rfl, fun _ => ?_⟩⟩
    exact ⟨((rideH c l (cars.getD i.toNat (RTy.zero .car)) (IntKind.i64.wrap (now + IntKind.i64.wrap (Int.tmod (times.getD i.toNat (RTy.zero .u8)) 4))) (says.getD i.toNat (RTy.zero .msg))).1, IntKind.i64.wrap (now + IntKind.i64.wrap (Int.tmod (times.getD i.toNat (RTy.zero .u8)) 4)), i + 1), ⟨by simp only; omega, by simp only; omega, ⟨q6.1, q6.2.1⟩, q5⟩, by simp only; omega, rfl, rfl⟩
  · have hk := tick_keeps (lateB (IntKind.i64.wrap (now + IntKind.i64.wrap (Int.tmod (times.getD i.toNat (RTy.zero .u8)) 4))) l.until_) c l (cars.getD i.toNat (RTy.zero .car)) (IntKind.i64.wrap (now + IntKind.i64.wrap (Int.tmod (times.getD i.toNat (RTy.zero .u8)) 4)))
    obtain ⟨q1, q2, q3, q4, q6⟩ := hk
    have q6 := q6 hph.1 hph.2
    refine ⟨⟨h0, hc.1⟩, ?_⟩
    rw [chk_ok q1 q2 q3 q6.2.2 hph (by rw [q4]; exact Int.le_refl _)]
    refine cnd_iff.2 ⟨fun h => absurd h (by simp), fun _ => cnd_iff.2 ⟨fun _ => ends_pl rfl, fun _ => ?_⟩⟩
    exact ⟨((rideT (lateB (IntKind.i64.wrap (now + IntKind.i64.wrap (Int.tmod (times.getD i.toNat (RTy.zero .u8)) 4))) l.until_) c l (cars.getD i.toNat (RTy.zero .car)) (IntKind.i64.wrap (now + IntKind.i64.wrap (Int.tmod (times.getD i.toNat (RTy.zero .u8)) 4)))).1, IntKind.i64.wrap (now + IntKind.i64.wrap (Int.tmod (times.getD i.toNat (RTy.zero .u8)) 4)), i + 1), ⟨by simp only; omega, by simp only; omega, ⟨q6.1, q6.2.1⟩, by simp only; rw [q4]; exact hr⟩, by simp only; omega, rfl, rfl⟩
  · have hk := hear_keeps c l (cars.getD i.toNat (RTy.zero .car)) (now) (says.getD i.toNat (RTy.zero .msg)) hr
    obtain ⟨q1, q2, q3, ⟨q4, q5⟩, q6⟩ := hk
    have q6 := q6 hph.1 hph.2
    refine ⟨⟨h0, hc.1⟩, ⟨h0, by simp only [c_and, c_or, Bool.and_eq_true, Bool.or_eq_true, Bool.and_eq_false_iff, Bool.or_eq_false_iff, Bool.not_eq_true', Bool.not_eq_false', beq_iff_eq, beq_eq_false_iff_ne, bne_iff_ne, bne_eq_false_iff_eq, ne_eq, decide_eq_true_eq, decide_eq_false_iff_not] at hs; exact hs.1⟩, ?_⟩
    rw [chk_ok q1 q2 q3 q6.2.2 hph q4]
    refine cnd_iff.2 ⟨fun h => absurd h (by simp), fun _ => cnd_iff.2 ⟨fun _ => ends_pl rfl, fun _ => ?_⟩⟩
    exact ⟨((rideH c l (cars.getD i.toNat (RTy.zero .car)) (now) (says.getD i.toNat (RTy.zero .msg))).1, now, i + 1), ⟨by simp only; omega, by simp only; omega, ⟨q6.1, q6.2.1⟩, q5⟩, by simp only; omega, rfl, rfl⟩
  · have hk := tick_keeps (lateB (now) l.until_) c l (cars.getD i.toNat (RTy.zero .car)) (now)
    obtain ⟨q1, q2, q3, q4, q6⟩ := hk
    have q6 := q6 hph.1 hph.2
    refine ⟨⟨h0, hc.1⟩, ?_⟩
    rw [chk_ok q1 q2 q3 q6.2.2 hph (by rw [q4]; exact Int.le_refl _)]
    refine cnd_iff.2 ⟨fun h => absurd h (by simp), fun _ => cnd_iff.2 ⟨fun _ => ends_pl rfl, fun _ => ?_⟩⟩
    exact ⟨((rideT (lateB (now) l.until_) c l (cars.getD i.toNat (RTy.zero .car)) (now)).1, now, i + 1), ⟨by simp only; omega, by simp only; omega, ⟨q6.1, q6.2.1⟩, by simp only; rw [q4]; exact hr⟩, by simp only; omega, rfl, rfl⟩
theorem tb51_ok : GamOk Try.prog eid (gam tb51) := gam_cons h5 tb50_ok
end Go.Proofs.Ytijcloeapcapiaa
