/- The functions of this group answer so. -/
import Derived.Test.YtjgmkpidiaojkaaFwEtaV
import Derived.Test.YtjgmkpidiaojkaaFwPlant
set_option linter.unusedVariables false
set_option linter.unusedSimpArgs false
set_option maxRecDepth 20000
set_option maxHeartbeats 4000000
namespace Go.Proofs.Ytjgmkpidiaojkaa
open Lw
theorem cntI_range (x : Int) : 0 ≤ cntI x ∧ cntI x ≤ 64 := by
  have := cnt_le 64 x.toNat
  unfold cntI; omega
theorem onesI_range (s : Lw.Stops) : 0 ≤ onesI s ∧ onesI s ≤ 192 := by
  have := cntI_range s.press
  have := cntI_range s.up
  have := cntI_range s.down
  unfold onesI; omega
theorem cnt_high (i x : Nat) : cnt (i + 1) x = cnt i x + x / 2 ^ i % 2 := by
  rw [cnt_add i 1 x]; rfl
theorem and_one (n : Nat) (h : n < 18446744073709551616) : bitsI .and .u64 (n : Int) 1 = ((n % 2 : Nat) : Int) := by
  rw [and_nat' (n := 1) (by rfl) h (by decide), Nat.and_one_is_mod]
theorem bit_ok {b f : Int} (hb : u64R b) (h0 : 0 ≤ f) (h1 : f < 64) : (bitsI .and .u64 (shI .u64 false b (IntKind.u64.wrap f)) 1 == 1) = decide (b.toNat / 2 ^ f.toNat % 2 = 1) := by
  obtain ⟨n, rfl⟩ : ∃ n : Nat, b = (n : Int) := ⟨b.toNat, by unfold u64R at hb; omega⟩
  obtain ⟨k, rfl⟩ : ∃ k : Nat, f = (k : Int) := ⟨f.toNat, by omega⟩
  unfold u64R at hb
  rw [IntKind.wrap_u64, show (k : Int) % 18446744073709551616 = (k : Int) by omega, sh_nat n k (by omega), and_one _ (Nat.lt_of_le_of_lt (Nat.div_le_self _ _) (by omega)), Int.toNat_natCast, Int.toNat_natCast]
  generalize n / 2 ^ k % 2 = z
  rw [Bool.eq_iff_iff]
  simp only [beq_iff_eq, decide_eq_true_eq]
  omega
theorem h71 : Holds Try.prog eid 71 (s71) := by
  refine hold tb19_ok Try.func71 (by kernel_rfl) ?_ (by kernel_rfl)
  intro xs M t h
  unfold s71 at h
  split at h
  case h_2 => cases h
  rename_i a
  cases h
  refine ⟨fun l h => (nomatch h), ?_⟩
  intro hp
  rw [v71_vc]
  have hp : u64R a := hp
  unfold u64R at hp
  obtain ⟨n, rfl⟩ : ∃ n : Nat, a = (n : Int) := ⟨a.toNat, by omega⟩
  exact ⟨by decide, by decide, by decide, by decide, by decide, by decide, ends_pl (congrArg _ (pop_int (by omega) rfl rfl rfl rfl rfl rfl))⟩
theorem tb20_ok : GamOk Try.prog eid (gam tb20) := gam_cons h71 tb19_ok
theorem h58 : Holds Try.prog eid 58 (s58) := by
  refine hold tb20_ok Try.func58 (by kernel_rfl) ?_ (by kernel_rfl)
  intro xs M t h
  unfold s58 at h
  split at h
  case h_2 => cases h
  rename_i css
  obtain ⟨s, hcs, h1⟩ := Option.bind_eq_some_iff.1 h
  clear h
  have h := h1
  clear h1
  cases h
  cases Lw.Stops.of_eq hcs
  clear hcs
  refine ⟨fun l h => (nomatch h), ?_⟩
  intro hp
  rw [v58_vc]
  have hp : stopsR s := hp
  have := cntI_range s.press
  have := cntI_range s.up
  have := cntI_range s.down
  refine ⟨hp.1, hp.2.1, hp.2.2, ends_pl (congrArg _ ?_)⟩
  rw [wrap_id (n := cntI s.press + cntI s.up) (by omega) (by omega), wrap_id (by omega) (by omega)]
  rfl
theorem tb21_ok : GamOk Try.prog eid (gam tb21) := gam_cons h58 tb20_ok
theorem h33 : Holds Try.prog eid 33 (s33) := by
  refine hold tb21_ok Try.func33 (by kernel_rfl) ?_ (by kernel_rfl)
  intro xs M t h
  unfold s33 at h
  split at h
  case h_2 => cases h
  rename_i b f
  cases h
  refine ⟨fun l h => (nomatch h), ?_⟩
  intro hp
  rw [v33_vc]
  have hp : u64R b := hp
  refine ⟨fun h => ?_, ends_pl (congrArg _ ?_)⟩
  · rw [IntKind.wrap_u64]; omega
  · by_cases h : 0 ≤ f ∧ f < 64
    · rw [bit_ok hp h.1 h.2]
      unfold hasB
      simp [h.1, h.2]
    · have e : (bif decide (f ≥ 0) then decide (f < 64) else false) = false := by
        rw [c_and, Bool.and_eq_false_iff, decide_eq_false_iff_not, decide_eq_false_iff_not]; omega
      rw [e, cond_false]
      symm
      unfold hasB
      rw [decide_eq_false_iff_not]
      exact fun k => h ⟨k.1, k.2.1⟩
theorem tb22_ok : GamOk Try.prog eid (gam tb22) := gam_cons h33 tb21_ok
theorem h74 : Holds Try.prog eid 74 (s74) := by
  refine hold tb22_ok Try.func74 (by kernel_rfl) ?_ (by kernel_rfl)
  intro xs M t h
  unfold s74 at h
  split at h
  case h_2 => cases h
  rename_i csx csk
  obtain ⟨x, hcx, h1⟩ := Option.bind_eq_some_iff.1 h
  clear h
  have h := h1
  clear h1
  obtain ⟨k, hck, h1⟩ := Option.bind_eq_some_iff.1 h
  clear h
  have h := h1
  clear h1
  cases h
  cases Lw.Car.of_eq hcx
  clear hcx
  cases Lw.Call.of_eq hck
  clear hck
  refine ⟨fun l h => (nomatch h), ?_⟩
  intro hp
  rw [v74_vc]
  repeat' first
    | refine cnd_iff.2 ⟨fun _ => ?_, fun _ => ?_⟩
    | refine ends_pl (congrArg _ ?_)
  all_goals (simp only [c_and, c_or, Bool.and_eq_true, Bool.or_eq_true, Bool.and_eq_false_iff, Bool.or_eq_false_iff, Bool.not_eq_true', Bool.not_eq_false', beq_iff_eq, beq_eq_false_iff_ne, bne_iff_ne, bne_eq_false_iff_eq, ne_eq, decide_eq_true_eq, decide_eq_false_iff_not] at *; unfold onwayB; simp_all)
theorem tb23_ok : GamOk Try.prog eid (gam tb23) := gam_cons h74 tb22_ok
theorem h60 : Holds Try.prog eid 60 (s60) := by
  refine hold tb23_ok Try.func60 (by kernel_rfl) ?_ (by kernel_rfl)
  intro xs M t h
  unfold s60 at h
  split at h
  case h_2 => cases h
  rename_i csc csx csk
  obtain ⟨c, hcc, h1⟩ := Option.bind_eq_some_iff.1 h
  clear h
  have h := h1
  clear h1
  obtain ⟨x, hcx, h1⟩ := Option.bind_eq_some_iff.1 h
  clear h
  have h := h1
  clear h1
  obtain ⟨k, hck, h1⟩ := Option.bind_eq_some_iff.1 h
  clear h
  have h := h1
  clear h1
  cases h
  cases Lw.Config.of_eq hcc
  clear hcc
  cases Lw.Car.of_eq hcx
  clear hcx
  cases Lw.Call.of_eq hck
  clear hck
  refine ⟨fun l h => (nomatch h), ?_⟩
  intro hp
  rw [v60_vc]
  have hp : stopsR x.stops := hp
  refine ⟨hp, cnd_iff.2 ⟨fun h => ends_pl (congrArg _ ?_), fun h => ends_pl (congrArg _ ?_)⟩⟩
  · have h : onwayB x k = false := by simpa using h
    unfold costP; rw [h]; rfl
  · have h : onwayB x k = true := by simpa using h
    unfold costP; rw [h]; rfl
theorem tb24_ok : GamOk Try.prog eid (gam tb24) := gam_cons h60 tb23_ok
end Go.Proofs.Ytjgmkpidiaojkaa
