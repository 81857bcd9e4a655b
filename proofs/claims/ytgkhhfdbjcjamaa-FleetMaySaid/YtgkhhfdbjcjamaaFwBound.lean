/- The bounds' formulas, and the law of them. -/
import Derived.Test.YtgkhhfdbjcjamaaFwBoundV
import Derived.Test.YtgkhhfdbjcjamaaFwCell
set_option linter.unusedVariables false
namespace Go.Proofs.Ytgkhhfdbjcjamaa
open Lw
theorem clampI_range {lo hi : Int} (h : lo ≤ hi) (n : Int) : lo ≤ clampI lo hi n ∧ clampI lo hi n ≤ hi := by unfold clampI; split <;> (try split) <;> omega
theorem mm_clamp {lo hi : Int} (h : lo ≤ hi) (n : Int) : mm false (mm true n lo) hi = clampI lo hi n := by
  simp only [mm, clampI, cond_true, cond_false]
  repeat' split
  all_goals omega
theorem floorsI_range (n : Int) : 2 ≤ floorsI n ∧ floorsI n ≤ 64 := clampI_range (by decide) n
theorem spanI_range (n : Int) : 1 ≤ spanI n ∧ spanI n ≤ 1000 := clampI_range (by decide) n
theorem renewI_range (n : Int) : 0 ≤ renewI n ∧ renewI n ≤ 1000 := clampI_range (by decide) n
theorem tripI_range (c : Config) : 0 ≤ tripI c ∧ tripI c ≤ 3256 := by
  have := floorsI_range c.floors
  have := spanI_range c.door
  unfold tripI; omega
theorem mul_range {a b A B : Int} (h : 0 ≤ a) (k : a ≤ A) (h' : 0 ≤ b) (k' : b ≤ B) : 0 ≤ a * b ∧ a * b ≤ A * B :=
  ⟨Int.mul_nonneg h h', Int.mul_le_mul k k' h' (Int.le_trans h k)⟩
theorem hb40 : Holds Try.prog eid 40 (intS floorsI) := by
  refine hold gam_nil Try.func40 (by kernel_rfl) ?_ (by kernel_rfl)
  intro xs M t h
  unfold intS at h
  split at h
  all_goals cases h
  refine ⟨fun l h => (nomatch h), fun _ => ?_⟩
  rw [f40_vc]
  simp only [cnd_iff]
  refine ⟨fun h => ?_, fun h => ⟨fun k => ?_, fun k => ?_⟩⟩ <;> refine ends_pl ?_ <;> simp only [decide_eq_true_eq, decide_eq_false_iff_not] at * <;> simp [floorsI, clampI, *]
theorem hb47 : Holds Try.prog eid 47 nearestS := by
  refine hold gam_nil Try.func47 (by kernel_rfl) ?_ (by kernel_rfl)
  intro xs M t h
  unfold nearestS at h
  split at h
  all_goals cases h
  refine ⟨fun l h => (nomatch h), fun _ => ?_⟩
  rw [f47_vc]
  simp only [cnd_iff]
  refine ⟨fun h => ?_, fun h => ⟨fun k => ?_, fun k => ?_⟩⟩ <;> refine ends_pl ?_ <;> simp only [decide_eq_true_eq, decide_eq_false_iff_not] at * <;> simp [floorsI, clampI, *]
theorem hb44 : Holds Try.prog eid 44 (intS floorsI) := by
  refine hold gam_nil Try.func44 (by kernel_rfl) ?_ (by kernel_rfl)
  intro xs M t h
  unfold intS at h
  split at h
  all_goals cases h
  refine ⟨fun l h => (nomatch h), fun _ => ?_⟩
  rw [f44_vc]
  refine ends_pl ?_
  congr 1
  exact mm_clamp (by decide) _
theorem hb42 : Holds Try.prog eid 42 (intS spanI) := by
  refine hold gam_nil Try.func42 (by kernel_rfl) ?_ (by kernel_rfl)
  intro xs M t h
  unfold intS at h
  split at h
  all_goals cases h
  refine ⟨fun l h => (nomatch h), fun _ => ?_⟩
  rw [f42_vc]
  refine ends_pl ?_
  congr 1
  exact mm_clamp (by decide) _
theorem bd0_ok : GamOk Try.prog eid (gam bd0) := gam_cons hb40 (gam_cons hb44 (gam_cons hb47 (gam_cons hb42 gam_nil)))
theorem hb41 : Holds Try.prog eid 41 (intS spanI) := by
  refine hold bd0_ok Try.func41 (by kernel_rfl) ?_ (by kernel_rfl)
  intro xs M t h
  unfold intS at h
  split at h
  all_goals cases h
  refine ⟨fun l h => (nomatch h), fun _ => ?_⟩
  rw [f41_vc]
  exact ends_pl rfl
theorem hb43 : Holds Try.prog eid 43 (confS fun c => vi (renewI c.renew)) := by
  refine hold bd0_ok Try.func43 (by kernel_rfl) ?_ (by kernel_rfl)
  intro xs M t h
  unfold confS at h
  split at h
  case h_2 => cases h
  obtain ⟨c, hc, h⟩ := Option.bind_eq_some_iff.1 h
  cases h; cases Config.of_eq hc
  refine ⟨fun l h => (nomatch h), fun _ => ?_⟩
  rw [f43_vc]
  exact ends_pl rfl
theorem bd1_ok : GamOk Try.prog eid (gam bd1) := gam_cons hb41 (gam_cons hb43 bd0_ok)
theorem hb39 : Holds Try.prog eid 39 (confS fun c => vi (tripI c)) := by
  refine hold bd1_ok Try.func39 (by kernel_rfl) ?_ (by kernel_rfl)
  intro xs M t h
  unfold confS at h
  split at h
  case h_2 => cases h
  obtain ⟨c, hc, h⟩ := Option.bind_eq_some_iff.1 h
  cases h; cases Config.of_eq hc
  refine ⟨fun l h => (nomatch h), fun _ => ?_⟩
  rw [f39_vc]
  refine ends_pl ?_
  have := floorsI_range c.floors
  have := spanI_range c.door
  simp only [IntKind.wrap_i64, tripI]
  congr 1
  omega
theorem hb18 : Holds Try.prog eid 18 (confS fun c => vi (tripI c)) := by
  refine hold bd1_ok Try.func18 (by kernel_rfl) ?_ (by kernel_rfl)
  intro xs M t h
  unfold confS at h
  split at h
  case h_2 => cases h
  obtain ⟨c, hc, h⟩ := Option.bind_eq_some_iff.1 h
  cases h; cases Config.of_eq hc
  refine ⟨fun l h => (nomatch h), fun _ => ?_⟩
  rw [f18_vc]
  refine ends_pl ?_
  have := floorsI_range c.floors
  have := spanI_range c.door
  simp only [IntKind.wrap_i64, tripI]
  congr 1
  omega
theorem bd2_ok : GamOk Try.prog eid (gam bd2) := gam_cons hb39 (gam_cons hb18 bd1_ok)
theorem hb17 : Holds Try.prog eid 17 (confS fun c => vi (2 * tripI c)) := by
  refine hold bd2_ok Try.func17 (by kernel_rfl) ?_ (by kernel_rfl)
  intro xs M t h
  unfold confS at h
  split at h
  case h_2 => cases h
  obtain ⟨c, hc, h⟩ := Option.bind_eq_some_iff.1 h
  cases h; cases Config.of_eq hc
  refine ⟨fun l h => (nomatch h), fun _ => ?_⟩
  rw [f17_vc]
  refine ends_pl ?_
  have := tripI_range c
  rw [wrap_id] <;> omega
theorem bd3_ok : GamOk Try.prog eid (gam bd3) := gam_cons hb17 bd2_ok
theorem hb19 : Holds Try.prog eid 19 (confS fun c => vi (leaseI c)) := by
  refine hold bd3_ok Try.func19 (by kernel_rfl) ?_ (by kernel_rfl)
  intro xs M t h
  unfold confS at h
  split at h
  case h_2 => cases h
  obtain ⟨c, hc, h⟩ := Option.bind_eq_some_iff.1 h
  cases h; cases Config.of_eq hc
  refine ⟨fun l h => (nomatch h), fun _ => ?_⟩
  rw [f19_vc]
  refine ends_pl ?_
  have := tripI_range c
  have hs := spanI_range c.hold
  have hr := renewI_range c.renew
  have hm := mul_range (a := spanI c.hold) (b := 2 + renewI c.renew) (A := 1000) (B := 1002) (by omega) (by omega) (by omega) (by omega)
  rw [mm_clamp (by decide) c.renew, show clampI 0 1000 c.renew = renewI c.renew from rfl]
  rw [wrap_id (n := 2 + renewI c.renew) (by omega) (by omega)]
  unfold leaseI
  generalize spanI c.hold * (2 + renewI c.renew) = z at hm
  simp only [IntKind.wrap_i64]
  congr 1
  omega
theorem hb20 : Holds Try.prog eid 20 (confS fun c => vi (leaseI c)) := by
  refine hold bd3_ok Try.func20 (by kernel_rfl) ?_ (by kernel_rfl)
  intro xs M t h
  unfold confS at h
  split at h
  case h_2 => cases h
  obtain ⟨c, hc, h⟩ := Option.bind_eq_some_iff.1 h
  cases h; cases Config.of_eq hc
  refine ⟨fun l h => (nomatch h), fun _ => ?_⟩
  rw [f20_vc]
  refine ends_pl ?_
  have := tripI_range c
  have hs := spanI_range c.hold
  have hr := renewI_range c.renew
  have hm := mul_range (a := spanI c.hold) (b := 2 + renewI c.renew) (A := 1000) (B := 1002) (by omega) (by omega) (by omega) (by omega)
  rw [wrap_id (n := 2 + renewI c.renew) (by omega) (by omega)]
  unfold leaseI
  generalize spanI c.hold * (2 + renewI c.renew) = z at hm
  simp only [IntKind.wrap_i64]
  congr 1
  omega
theorem hb21 : Holds Try.prog eid 21 (confS fun c => vi (serveI c)) := by
  refine hold bd3_ok Try.func21 (by kernel_rfl) ?_ (by kernel_rfl)
  intro xs M t h
  unfold confS at h
  split at h
  case h_2 => cases h
  obtain ⟨c, hc, h⟩ := Option.bind_eq_some_iff.1 h
  cases h; cases Config.of_eq hc
  refine ⟨fun l h => (nomatch h), fun _ => ?_⟩
  rw [f21_vc]
  refine ends_pl ?_
  have hf := floorsI_range c.floors
  have hs := spanI_range c.door
  have hd := spanI_range c.dwell
  have hm := mul_range (a := floorsI c.floors) (b := 2 * spanI c.door + spanI c.dwell + 4) (A := 64) (B := 3004) (by omega) (by omega) (by omega) (by omega)
  rw [wrap_id (n := 2 * spanI c.door) (by omega) (by omega), wrap_id (n := 2 * spanI c.door + spanI c.dwell) (by omega) (by omega), wrap_id (n := 2 * spanI c.door + spanI c.dwell + 4) (by omega) (by omega)]
  unfold serveI
  generalize floorsI c.floors * (2 * spanI c.door + spanI c.dwell + 4) = z at hm
  simp only [IntKind.wrap_i64]
  congr 1
  omega
theorem hb22 : Holds Try.prog eid 22 (confS fun c => vi (serveI c)) := by
  refine hold bd3_ok Try.func22 (by kernel_rfl) ?_ (by kernel_rfl)
  intro xs M t h
  unfold confS at h
  split at h
  case h_2 => cases h
  obtain ⟨c, hc, h⟩ := Option.bind_eq_some_iff.1 h
  cases h; cases Config.of_eq hc
  refine ⟨fun l h => (nomatch h), fun _ => ?_⟩
  rw [f22_vc]
  refine ends_pl ?_
  have hf := floorsI_range c.floors
  have hs := spanI_range c.door
  have hd := spanI_range c.dwell
  have hm := mul_range (a := floorsI c.floors) (b := 2 * spanI c.door + spanI c.dwell + 4) (A := 64) (B := 3004) (by omega) (by omega) (by omega) (by omega)
  rw [wrap_id (n := 2 * spanI c.door) (by omega) (by omega), wrap_id (n := 2 * spanI c.door + spanI c.dwell) (by omega) (by omega), wrap_id (n := 2 * spanI c.door + spanI c.dwell + 4) (by omega) (by omega)]
  unfold serveI
  generalize floorsI c.floors * (2 * spanI c.door + spanI c.dwell + 4) = z at hm
  simp only [IntKind.wrap_i64]
  congr 1
  omega
theorem hb23 : Holds Try.prog eid 23 (confS fun c => vi (2 * tripI c + 24)) := by
  refine hold bd3_ok Try.func23 (by kernel_rfl) ?_ (by kernel_rfl)
  intro xs M t h
  unfold confS at h
  split at h
  case h_2 => cases h
  obtain ⟨c, hc, h⟩ := Option.bind_eq_some_iff.1 h
  cases h; cases Config.of_eq hc
  refine ⟨fun l h => (nomatch h), fun _ => ?_⟩
  rw [f23_vc]
  refine ends_pl ?_
  have := tripI_range c
  rw [wrap_id] <;> omega
theorem bd4_ok : GamOk Try.prog eid (gam bd4) := gam_cons hb19 (gam_cons hb20 (gam_cons hb21 (gam_cons hb22 (gam_cons hb23 bd3_ok))))
theorem hb16 : Holds Try.prog eid 16 yesS := by
  refine hold bd4_ok Try.func16 (by kernel_rfl) ?_ (by kernel_rfl)
  intro xs M t h
  unfold yesS at h
  split at h
  all_goals cases h
  refine ⟨fun l h => (nomatch h), fun _ => ?_⟩
  rw [f16_vc]
  exact ends_pl rfl
theorem bd5_ok : GamOk Try.prog eid (gam bd5) := gam_cons hb16 bd4_ok
theorem hb5 : Holds Try.prog eid 5 (confS fun c => vb true) := by
  refine hold bd5_ok Try.func5 (by kernel_rfl) ?_ (by kernel_rfl)
  intro xs M t h
  unfold confS at h
  split at h
  case h_2 => cases h
  obtain ⟨c, hc, h⟩ := Option.bind_eq_some_iff.1 h
  cases h; cases Config.of_eq hc
  refine ⟨fun l h => (nomatch h), fun _ => ?_⟩
  rw [f5_vc]
  have := tripI_range c
  rw [wrap_id (n := 2 * tripI c) (by omega) (by omega), wrap_id (n := 2 * tripI c + 24) (by omega) (by omega)]
  simp only [beq_self_eq_true, cnd]
  exact ends_pl rfl
end Go.Proofs.Ytgkhhfdbjcjamaa
