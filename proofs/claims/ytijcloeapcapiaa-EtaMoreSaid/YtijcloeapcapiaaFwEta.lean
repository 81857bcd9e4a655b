/- The functions of this group answer so. -/
import Derived.Test.YtijcloeapcapiaaFwEtaV
import Derived.Test.YtijcloeapcapiaaFwDoor
set_option linter.unusedVariables false
set_option linter.unusedSimpArgs false
set_option maxRecDepth 20000
namespace Go.Proofs.Ytijcloeapcapiaa
open Lw
theorem cntI_range (x : Int) : 0 ≤ cntI x ∧ cntI x ≤ 64 := by
  have := cnt_le 64 x.toNat
  unfold cntI; omega
theorem onesI_range (s : Lw.Stops) : 0 ≤ onesI s ∧ onesI s ≤ 192 := by
  have := cntI_range s.press
  have := cntI_range s.up
  have := cntI_range s.down
  unfold onesI; omega
theorem cnt_high (i x : Nat) : cnt (i + 1) x = cnt i x + x / 2 ^ i % 2 := by
  rw [cnt_add i 1 x]; rfl
theorem and_one (n : Nat) (h : n < 18446744073709551616) : bitsI .and .u64 (n : Int) 1 = ((n % 2 : Nat) : Int) := by
  rw [and_nat' (n := 1) (by rfl) h (by decide), Nat.and_one_is_mod]
theorem bit_ok {b f : Int} (hb : u64R b) (h0 : 0 ≤ f) (h1 : f < 64) : (bitsI .and .u64 (shI .u64 false b (IntKind.u64.wrap f)) 1 == 1) = decide (b.toNat / 2 ^ f.toNat % 2 = 1) := by
  obtain ⟨n, rfl⟩ : ∃ n : Nat, b = (n : Int) := ⟨b.toNat, by unfold u64R at hb; omega⟩
  obtain ⟨k, rfl⟩ : ∃ k : Nat, f = (k : Int) := ⟨f.toNat, by omega⟩
  unfold u64R at hb
  rw [IntKind.wrap_u64, show (k : Int) % 18446744073709551616 = (k : Int) by omega, sh_nat n k (by omega), and_one _ (Nat.lt_of_le_of_lt (Nat.div_le_self _ _) (by omega)), Int.toNat_natCast, Int.toNat_natCast]
  generalize n / 2 ^ k % 2 = z
  rw [Bool.eq_iff_iff]
  simp only [beq_iff_eq, decide_eq_true_eq]
  omega
theorem h87 : Holds Try.prog eid 87 (s87) := by
  refine hold tb34_ok Try.func87 (by kernel_rfl) ?_ (by kernel_rfl)
  intro xs M t h
  unfold s87 at h
  split at h
  case h_2 => cases h
  rename_i a
  cases h
  refine ⟨fun l h => (nomatch h), fun hp => ?_⟩
  rw [v87_vc]
  have hp : u64R a := hp
  unfold u64R at hp
  obtain ⟨n, rfl⟩ : ∃ n : Nat, a = (n : Int) := ⟨a.toNat, by omega⟩
  exact ⟨by decide, by decide, by decide, by decide, by decide, by decide, ends_pl (congrArg _ (pop_int (by omega) rfl rfl rfl rfl rfl rfl))⟩
theorem tb35_ok : GamOk Try.prog eid (gam tb35) := gam_cons h87 tb34_ok
theorem h61 : Holds Try.prog eid 61 (s61) := by
  refine hold tb35_ok Try.func61 (by kernel_rfl) ?_ (by kernel_rfl)
  intro xs M t h
  unfold s61 at h
  split at h
  case h_2 => cases h
  rename_i css
  obtain ⟨s, hcs, h1⟩ := Option.bind_eq_some_iff.1 h
  clear h
  have h := h1
  clear h1
  cases h
  cases Lw.Stops.of_eq hcs
  clear hcs
  refine ⟨fun l h => (nomatch h), fun hp => ?_⟩
  rw [v61_vc]
  have hp : stopsR s := hp
  have := cntI_range s.press
  have := cntI_range s.up
  have := cntI_range s.down
  refine ⟨hp.1, hp.2.1, hp.2.2, ends_pl (congrArg _ ?_)⟩
  rw [wrap_id (n := cntI s.press + cntI s.up) (by omega) (by omega), wrap_id (by omega) (by omega)]
  rfl
theorem tb36_ok : GamOk Try.prog eid (gam tb36) := gam_cons h61 tb35_ok
theorem h89 : Holds Try.prog eid 89 (s89) := by
  refine hold tb36_ok Try.func89 (by kernel_rfl) ?_ (by kernel_rfl)
  intro xs M t h
  unfold s89 at h
  split at h
  case h_2 => cases h
  rename_i b f
  cases h
  refine ⟨fun l h => (nomatch h), fun hp => ?_⟩
  rw [v89_vc]
  have hp : u64R b := hp
  refine ⟨fun h => ?_, ends_pl (congrArg _ ?_)⟩
  · rw [IntKind.wrap_u64]; omega
  · by_cases h : 0 ≤ f ∧ f < 64
    · rw [bit_ok hp h.1 h.2]
      unfold hasB
      simp [h.1, h.2]
    · have e : (bif decide (f ≥ 0) then decide (f < 64) else false) = false := by
        rw [c_and, Bool.and_eq_false_iff, decide_eq_false_iff_not, decide_eq_false_iff_not]; omega
      rw [e, cond_false]
      symm
      unfold hasB
      rw [decide_eq_false_iff_not]
      exact fun k => h ⟨k.1, k.2.1⟩
theorem tb37_ok : GamOk Try.prog eid (gam tb37) := gam_cons h89 tb36_ok
theorem h66 : Holds Try.prog eid 66 (s66) := by
  refine hold tb37_ok Try.func66 (by kernel_rfl) ?_ (by kernel_rfl)
  intro xs M t h
  unfold s66 at h
  split at h
  case h_2 => cases h
  rename_i css
  obtain ⟨s, hcs, h1⟩ := Option.bind_eq_some_iff.1 h
  clear h
  have h := h1
  clear h1
  cases h
  cases Lw.Stops.of_eq hcs
  clear hcs
  refine ⟨fun l h => (nomatch h), fun hp => ?_⟩
  rw [v66_vc]
  have hp : stopsR s := hp
  refine loopVC_st (S := Int × Int) v66b_m 1 (fun q => v66b_fr s q.1 q.2) (fun q => v66b_mem s q.1 q.2) (fun q => (64 - q.1).toNat) (fun q => 0 ≤ q.1 ∧ q.1 ≤ 64 ∧ q.2 = ((cnt q.1.toNat s.press.toNat + cnt q.1.toNat s.up.toNat + cnt q.1.toNat s.down.toNat : Nat) : Int)) rfl ⟨(0, 0), ⟨by simp, by simp, by simp [cnt]⟩, rfl, rfl⟩ ?_
  rintro ⟨i, acc⟩ ⟨g0, g1, ha⟩
  simp only at g0 g1 ha
  refine (v66b_vc s i acc _ _).mpr ?_
  have c1 := cnt_le i.toNat s.press.toNat
  have c2 := cnt_le i.toNat s.up.toNat
  have c3 := cnt_le i.toNat s.down.toNat
  refine cnd_iff.2 ⟨fun hi => ?_, fun hi => ?_⟩
  · have hi : i < 64 := of_decide_eq_true hi
    have hw : IntKind.i64.wrap (i + 1) = i + 1 := wrap_id (by omega) (by omega)
    have hi' : (IntKind.i64.wrap (i + 1)).toNat = i.toNat + 1 := by rw [hw]; omega
    exact ⟨hp.1, cnd_iff.2 ⟨fun bp => by
      have bp := (of_decide_eq_true bp).2.2
      exact ⟨hp.2.1, cnd_iff.2 ⟨fun bu => by
      have bu := (of_decide_eq_true bu).2.2
      exact ⟨hp.2.2, cnd_iff.2 ⟨fun bd => by
      have bd := (of_decide_eq_true bd).2.2
      exact ⟨(IntKind.i64.wrap (i + 1), IntKind.i64.wrap (IntKind.i64.wrap (IntKind.i64.wrap (acc + 1) + 1) + 1)), ⟨by simp only; omega, by simp only; omega, by simp only; rw [hi', cnt_high, cnt_high, cnt_high]; (try simp only [IntKind.wrap_i64]); omega⟩, by simp only; omega, rfl, rfl⟩, fun bd => by
      have bd : ¬ (s.down.toNat / 2 ^ i.toNat % 2 = 1) := fun k => of_decide_eq_false bd ⟨g0, hi, k⟩
      exact ⟨(IntKind.i64.wrap (i + 1), IntKind.i64.wrap (IntKind.i64.wrap (acc + 1) + 1)), ⟨by simp only; omega, by simp only; omega, by simp only; rw [hi', cnt_high, cnt_high, cnt_high]; (try simp only [IntKind.wrap_i64]); omega⟩, by simp only; omega, rfl, rfl⟩⟩⟩, fun bu => by
      have bu : ¬ (s.up.toNat / 2 ^ i.toNat % 2 = 1) := fun k => of_decide_eq_false bu ⟨g0, hi, k⟩
      exact ⟨hp.2.2, cnd_iff.2 ⟨fun bd => by
      have bd := (of_decide_eq_true bd).2.2
      exact ⟨(IntKind.i64.wrap (i + 1), IntKind.i64.wrap (IntKind.i64.wrap (acc + 1) + 1)), ⟨by simp only; omega, by simp only; omega, by simp only; rw [hi', cnt_high, cnt_high, cnt_high]; (try simp only [IntKind.wrap_i64]); omega⟩, by simp only; omega, rfl, rfl⟩, fun bd => by
      have bd : ¬ (s.down.toNat / 2 ^ i.toNat % 2 = 1) := fun k => of_decide_eq_false bd ⟨g0, hi, k⟩
      exact ⟨(IntKind.i64.wrap (i + 1), IntKind.i64.wrap (acc + 1)), ⟨by simp only; omega, by simp only; omega, by simp only; rw [hi', cnt_high, cnt_high, cnt_high]; (try simp only [IntKind.wrap_i64]); omega⟩, by simp only; omega, rfl, rfl⟩⟩⟩⟩⟩, fun bp => by
      have bp : ¬ (s.press.toNat / 2 ^ i.toNat % 2 = 1) := fun k => of_decide_eq_false bp ⟨g0, hi, k⟩
      exact ⟨hp.2.1, cnd_iff.2 ⟨fun bu => by
      have bu := (of_decide_eq_true bu).2.2
      exact ⟨hp.2.2, cnd_iff.2 ⟨fun bd => by
      have bd := (of_decide_eq_true bd).2.2
      exact ⟨(IntKind.i64.wrap (i + 1), IntKind.i64.wrap (IntKind.i64.wrap (acc + 1) + 1)), ⟨by simp only; omega, by simp only; omega, by simp only; rw [hi', cnt_high, cnt_high, cnt_high]; (try simp only [IntKind.wrap_i64]); omega⟩, by simp only; omega, rfl, rfl⟩, fun bd => by
      have bd : ¬ (s.down.toNat / 2 ^ i.toNat % 2 = 1) := fun k => of_decide_eq_false bd ⟨g0, hi, k⟩
      exact ⟨(IntKind.i64.wrap (i + 1), IntKind.i64.wrap (acc + 1)), ⟨by simp only; omega, by simp only; omega, by simp only; rw [hi', cnt_high, cnt_high, cnt_high]; (try simp only [IntKind.wrap_i64]); omega⟩, by simp only; omega, rfl, rfl⟩⟩⟩, fun bu => by
      have bu : ¬ (s.up.toNat / 2 ^ i.toNat % 2 = 1) := fun k => of_decide_eq_false bu ⟨g0, hi, k⟩
      exact ⟨hp.2.2, cnd_iff.2 ⟨fun bd => by
      have bd := (of_decide_eq_true bd).2.2
      exact ⟨(IntKind.i64.wrap (i + 1), IntKind.i64.wrap (acc + 1)), ⟨by simp only; omega, by simp only; omega, by simp only; rw [hi', cnt_high, cnt_high, cnt_high]; (try simp only [IntKind.wrap_i64]); omega⟩, by simp only; omega, rfl, rfl⟩, fun bd => by
      have bd : ¬ (s.down.toNat / 2 ^ i.toNat % 2 = 1) := fun k => of_decide_eq_false bd ⟨g0, hi, k⟩
      exact ⟨(IntKind.i64.wrap (i + 1), acc), ⟨by simp only; omega, by simp only; omega, by simp only; rw [hi', cnt_high, cnt_high, cnt_high]; (try simp only [IntKind.wrap_i64]); omega⟩, by simp only; omega, rfl, rfl⟩⟩⟩⟩⟩⟩⟩
  · have hi : ¬ i < 64 := of_decide_eq_false hi
    refine ends_pl (congrArg _ ?_)
    rw [ha, show i.toNat = 64 by omega]
    unfold onesI cntI
    omega
theorem tb38_ok : GamOk Try.prog eid (gam tb38) := gam_cons h66 tb37_ok
theorem h65 : Holds Try.prog eid 65 (s65) := by
  refine hold tb38_ok Try.func65 (by kernel_rfl) ?_ (by kernel_rfl)
  intro xs M t h
  unfold s65 at h
  split at h
  case h_2 => cases h
  rename_i u f
  cases h
  refine ⟨fun l h => (nomatch h), fun hp => ?_⟩
  rw [v65_vc]
  refine cnd_iff.2 ⟨fun h => ends_pl (congrArg _ ?_), fun h => ends_pl (congrArg _ ?_)⟩
  · unfold farR at4; rw [h]; rfl
  · unfold farR at4; rw [h]; rfl
theorem tb39_ok : GamOk Try.prog eid (gam tb39) := gam_cons h65 tb38_ok
theorem h63 : Holds Try.prog eid 63 (s63) := by
  refine hold tb39_ok Try.func63 (by kernel_rfl) ?_ (by kernel_rfl)
  intro xs M t h
  unfold s63 at h
  split at h
  case h_2 => cases h
  rename_i csx csk
  obtain ⟨x, hcx, h1⟩ := Option.bind_eq_some_iff.1 h
  clear h
  have h := h1
  clear h1
  obtain ⟨k, hck, h1⟩ := Option.bind_eq_some_iff.1 h
  clear h
  have h := h1
  clear h1
  cases h
  cases Lw.Car.of_eq hcx
  clear hcx
  cases Lw.Call.of_eq hck
  clear hck
  refine ⟨fun l h => (nomatch h), fun hp => ?_⟩
  rw [v63_vc]
  repeat' first
    | refine cnd_iff.2 ⟨fun _ => ?_, fun _ => ?_⟩
    | refine ends_pl (congrArg _ ?_)
  all_goals (simp only [c_and, c_or, Bool.and_eq_true, Bool.or_eq_true, Bool.and_eq_false_iff, Bool.or_eq_false_iff, Bool.not_eq_true', Bool.not_eq_false', beq_iff_eq, beq_eq_false_iff_ne, bne_iff_ne, bne_eq_false_iff_eq, ne_eq, decide_eq_true_eq, decide_eq_false_iff_not] at *; unfold onwayB; simp_all)
theorem tb40_ok : GamOk Try.prog eid (gam tb40) := gam_cons h63 tb39_ok
theorem h31 : Holds Try.prog eid 31 (s31) := by
  refine hold tb40_ok Try.func31 (by kernel_rfl) ?_ (by kernel_rfl)
  intro xs M t h
  unfold s31 at h
  split at h
  case h_2 => cases h
  rename_i csc csx csk
  obtain ⟨c, hcc, h1⟩ := Option.bind_eq_some_iff.1 h
  clear h
  have h := h1
  clear h1
  obtain ⟨x, hcx, h1⟩ := Option.bind_eq_some_iff.1 h
  clear h
  have h := h1
  clear h1
  obtain ⟨k, hck, h1⟩ := Option.bind_eq_some_iff.1 h
  clear h
  have h := h1
  clear h1
  cases h
  cases Lw.Config.of_eq hcc
  clear hcc
  cases Lw.Car.of_eq hcx
  clear hcx
  cases Lw.Call.of_eq hck
  clear hck
  refine ⟨fun l h => (nomatch h), fun hp => ?_⟩
  rw [v31_vc]
  have hp : stopsR x.stops := hp
  refine ⟨hp, cnd_iff.2 ⟨fun h => ends_pl (congrArg _ ?_), fun h => ends_pl (congrArg _ ?_)⟩⟩
  · have h : onwayB x k = false := by simpa using h
    unfold costP; rw [h]; rfl
  · have h : onwayB x k = true := by simpa using h
    unfold costP; rw [h]; rfl
theorem tb41_ok : GamOk Try.prog eid (gam tb41) := gam_cons h31 tb40_ok
theorem h32 : Holds Try.prog eid 32 (s32) := by
  refine hold tb41_ok Try.func32 (by kernel_rfl) ?_ (by kernel_rfl)
  intro xs M t h
  unfold s32 at h
  split at h
  case h_2 => cases h
  rename_i csc csx csk
  obtain ⟨c, hcc, h1⟩ := Option.bind_eq_some_iff.1 h
  clear h
  have h := h1
  clear h1
  obtain ⟨x, hcx, h1⟩ := Option.bind_eq_some_iff.1 h
  clear h
  have h := h1
  clear h1
  obtain ⟨k, hck, h1⟩ := Option.bind_eq_some_iff.1 h
  clear h
  have h := h1
  clear h1
  cases h
  cases Lw.Config.of_eq hcc
  clear hcc
  cases Lw.Car.of_eq hcx
  clear hcx
  cases Lw.Call.of_eq hck
  clear hck
  refine ⟨fun l h => (nomatch h), fun hp => ?_⟩
  rw [v32_vc]
  have hp : stopsR x.stops := hp
  refine ⟨hp, ?_⟩
  have yes (h : x.way = 0 ∨ (x.way = k.way ∧ ((k.way = 1 ∧ at4 k.floor ≥ x.unit) ∨ (k.way = 2 ∧ at4 k.floor ≤ x.unit)))) : costR c x k = baseI (farR x.unit k.floor) c x := by unfold costR wayB; rw [decide_eq_true h]; rfl
  have no (h : ¬ (x.way = 0 ∨ (x.way = k.way ∧ ((k.way = 1 ∧ at4 k.floor ≥ x.unit) ∨ (k.way = 2 ∧ at4 k.floor ≤ x.unit))))) : costR c x k = IntKind.i64.wrap (baseI (farR x.unit k.floor) c x + turnI c) := by unfold costR wayB; rw [decide_eq_false h]; rfl
  have h4 : IntKind.i64.wrap (4 * k.floor) = at4 k.floor := rfl
  rw [h4]
  repeat' first
    | refine cnd_iff.2 ⟨fun _ => ?_, fun _ => ?_⟩
    | (refine ends_pl (congrArg _ ((yes ?_).symm)); simp only [c_and, c_or, Bool.and_eq_true, Bool.or_eq_true, Bool.and_eq_false_iff, Bool.or_eq_false_iff, Bool.not_eq_true', Bool.not_eq_false', beq_iff_eq, beq_eq_false_iff_ne, bne_iff_ne, bne_eq_false_iff_eq, ne_eq, decide_eq_true_eq, decide_eq_false_iff_not] at *; omega)
    | (refine ends_pl (congrArg _ ((no ?_).symm)); simp only [c_and, c_or, Bool.and_eq_true, Bool.or_eq_true, Bool.and_eq_false_iff, Bool.or_eq_false_iff, Bool.not_eq_true', Bool.not_eq_false', beq_iff_eq, beq_eq_false_iff_ne, bne_iff_ne, bne_eq_false_iff_eq, ne_eq, decide_eq_true_eq, decide_eq_false_iff_not] at *; omega)
theorem tb42_ok : GamOk Try.prog eid (gam tb42) := gam_cons h32 tb41_ok
end Go.Proofs.Ytijcloeapcapiaa
