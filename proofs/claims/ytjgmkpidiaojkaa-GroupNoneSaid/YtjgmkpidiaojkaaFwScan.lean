/- The functions of this group answer so. -/
import Derived.Test.YtjgmkpidiaojkaaFwScanV
import Derived.Test.YtjgmkpidiaojkaaFwPlantL
set_option linter.unusedVariables false
set_option linter.unusedSimpArgs false
set_option maxRecDepth 20000
set_option maxHeartbeats 4000000
namespace Go.Proofs.Ytjgmkpidiaojkaa
open Lw
theorem other_cases {w : Int} (h0 : 0 ≤ w) (h2 : w ≤ 2) : (w = 0 ∧ otherI w = 0) ∨ (w = 1 ∧ otherI w = 2) ∨ (w = 2 ∧ otherI w = 1) := by
  have : w = 0 ∨ w = 1 ∨ w = 2 := by omega
  rcases this with rfl | rfl | rfl <;> simp [otherI]
theorem h83 : Holds Try.prog eid 83 (s83) := by
  refine hold tb34_ok Try.func83 (by kernel_rfl) ?_ (by kernel_rfl)
  intro xs M t h
  unfold s83 at h
  split at h
  case h_2 => cases h
  rename_i w
  cases h
  refine ⟨fun l h => (nomatch h), ?_⟩
  intro hp
  rw [v83_vc]
  refine cnd_iff.2 ⟨fun h1 => ?_, fun h1 => cnd_iff.2 ⟨fun h2 => ?_, fun h2 => ?_⟩⟩ <;> simp only [beq_iff_eq, beq_eq_false_iff_ne] at * <;> exact ends_pl (by unfold otherI; simp [*])
theorem tb35_ok : GamOk Try.prog eid (gam tb35) := gam_cons h83 tb34_ok
theorem h85 : Holds Try.prog eid 85 (hallPS) := by
  refine hold tb35_ok Try.func85 (by kernel_rfl) ?_ (by kernel_rfl)
  intro xs M t h
  unfold hallPS at h
  split at h <;> cases h
  refine ⟨fun l h => (nomatch h), fun hp => ?_⟩
  rw [v85_vc]
  exact ⟨hp, ends_pl rfl⟩
theorem tb36_ok : GamOk Try.prog eid (gam tb36) := gam_cons h85 tb35_ok
theorem h82 : Holds Try.prog eid 82 (aheadPS) := by
  refine hold tb36_ok Try.func82 (by kernel_rfl) ?_ (by kernel_rfl)
  intro xs M t h
  unfold aheadPS at h
  split at h <;> cases h
  refine ⟨fun l h => (nomatch h), fun hp => ?_⟩
  rw [v82_vc]
  exact ⟨hp, ends_pl rfl⟩
theorem tb37_ok : GamOk Try.prog eid (gam tb37) := gam_cons h82 tb36_ok
theorem h89 : Holds Try.prog eid 89 (pressedPS) := by
  refine hold tb37_ok Try.func89 (by kernel_rfl) ?_ (by kernel_rfl)
  intro xs M t h
  unfold pressedPS at h
  split at h <;> cases h
  rename_i p u d f
  refine ⟨fun l h => (nomatch h), fun hp => ?_⟩
  obtain ⟨hr, h0, h1⟩ := (hp : u64R p ∧ (0 ≤ f ∧ f < 64))
  rw [v89_vc]
  have hb := bit_ok hr h0 h1
  rw [show IntKind.u64.wrap f = f by rw [IntKind.wrap_u64]; omega] at hb
  refine ⟨h0, ends_pl (congrArg _ ?_)⟩
  rw [hb]
  unfold hasB
  simp [h0, h1]
theorem tb38_ok : GamOk Try.prog eid (gam tb38) := gam_cons h89 tb37_ok
theorem h81 : Holds Try.prog eid 81 (firstS) := by
  refine hold tb38_ok Try.func81 (by kernel_rfl) ?_ (by kernel_rfl)
  intro xs M t h
  unfold firstS at h
  split at h
  case h_2 => cases h
  rename_i k p u d f a b
  cases hk : Nat.beq k 82 <;> rw [hk] at h
  · cases hk : Nat.beq k 85 <;> rw [hk] at h
    · cases h
    · cases Nat.eq_of_beq_eq_true hk
      simp only [cond_true] at h
      cases h
      refine ⟨fun l h => (nomatch h), fun hp => ?_⟩
      have hp : stopsR ⟨p, u, d⟩ := hp
      rw [v81h_vc]
      refine loopVC_st (S := Int) v81hb_m 1 (fun i => v81hb_fr p u d f a b i) (fun i => v81hb_mem p u d f a b i) (fun i => (2 - i).toNat) (fun i => (0 ≤ i ∧ i ≤ 2) ∧ (1 ≤ i → hallB ⟨p, u, d⟩ f a = false) ∧ (2 ≤ i → hallB ⟨p, u, d⟩ f b = false)) rfl ⟨0, ⟨by omega, by omega, by omega⟩, rfl, rfl⟩ ?_
      rintro i ⟨⟨h0, h1⟩, ha, hb⟩
      refine (v81hb_vc p u d f a b i _ _).mpr ?_
      have hi : i = 0 ∨ i = 1 ∨ i = 2 := by omega
      rcases hi with rfl | rfl | rfl
      · refine cnd_iff.2 ⟨fun _ => ⟨by simp, hp, cnd_iff.2 ⟨fun hc => ?_, fun hc => ?_⟩⟩, fun h => absurd h (by simp)⟩
        · refine ends_sel [] [0] rfl rfl ?_ rfl
          have hc : hallB ⟨p, u, d⟩ f a = true := hc
          show [vi a] = [vi (firstI (hallB ⟨p, u, d⟩ f a) (hallB ⟨p, u, d⟩ f b) a b)]
          rw [hc]; rfl
        · have hc : hallB ⟨p, u, d⟩ f a = false := hc
          exact ⟨1, ⟨by omega, fun _ => hc, by omega⟩, by decide, rfl, rfl⟩
      · refine cnd_iff.2 ⟨fun _ => ⟨by simp, hp, cnd_iff.2 ⟨fun hc => ?_, fun hc => ?_⟩⟩, fun h => absurd h (by simp)⟩
        · refine ends_sel [] [0] rfl rfl ?_ rfl
          have hc : hallB ⟨p, u, d⟩ f b = true := hc
          show [vi b] = [vi (firstI (hallB ⟨p, u, d⟩ f a) (hallB ⟨p, u, d⟩ f b) a b)]
          rw [hc, ha (by omega)]; rfl
        · have hc : hallB ⟨p, u, d⟩ f b = false := hc
          exact ⟨2, ⟨by omega, fun _ => ha (by omega), fun _ => hc⟩, by decide, rfl, rfl⟩
      · refine cnd_iff.2 ⟨fun h => absurd h (by simp), fun _ => ?_⟩
        refine ends_sel [] [0] rfl rfl ?_ rfl
        show [vi 0] = [vi (firstI (hallB ⟨p, u, d⟩ f a) (hallB ⟨p, u, d⟩ f b) a b)]
        rw [ha (by omega), hb (by omega)]; rfl
  · cases Nat.eq_of_beq_eq_true hk
    simp only [cond_true] at h
    cases h
    refine ⟨fun l h => (nomatch h), fun hp => ?_⟩
    have hp : stopsR ⟨p, u, d⟩ := hp
    rw [v81a_vc]
    refine loopVC_st (S := Int) v81ab_m 1 (fun i => v81ab_fr p u d f a b i) (fun i => v81ab_mem p u d f a b i) (fun i => (2 - i).toNat) (fun i => (0 ≤ i ∧ i ≤ 2) ∧ (1 ≤ i → aheadB ⟨p, u, d⟩ f a = false) ∧ (2 ≤ i → aheadB ⟨p, u, d⟩ f b = false)) rfl ⟨0, ⟨by omega, by omega, by omega⟩, rfl, rfl⟩ ?_
    rintro i ⟨⟨h0, h1⟩, ha, hb⟩
    refine (v81ab_vc p u d f a b i _ _).mpr ?_
    have hi : i = 0 ∨ i = 1 ∨ i = 2 := by omega
    rcases hi with rfl | rfl | rfl
    · refine cnd_iff.2 ⟨fun _ => ⟨by simp, hp, cnd_iff.2 ⟨fun hc => ?_, fun hc => ?_⟩⟩, fun h => absurd h (by simp)⟩
      · refine ends_sel [] [0] rfl rfl ?_ rfl
        have hc : aheadB ⟨p, u, d⟩ f a = true := hc
        show [vi a] = [vi (firstI (aheadB ⟨p, u, d⟩ f a) (aheadB ⟨p, u, d⟩ f b) a b)]
        rw [hc]; rfl
      · have hc : aheadB ⟨p, u, d⟩ f a = false := hc
        exact ⟨1, ⟨by omega, fun _ => hc, by omega⟩, by decide, rfl, rfl⟩
    · refine cnd_iff.2 ⟨fun _ => ⟨by simp, hp, cnd_iff.2 ⟨fun hc => ?_, fun hc => ?_⟩⟩, fun h => absurd h (by simp)⟩
      · refine ends_sel [] [0] rfl rfl ?_ rfl
        have hc : aheadB ⟨p, u, d⟩ f b = true := hc
        show [vi b] = [vi (firstI (aheadB ⟨p, u, d⟩ f a) (aheadB ⟨p, u, d⟩ f b) a b)]
        rw [hc, ha (by omega)]; rfl
      · have hc : aheadB ⟨p, u, d⟩ f b = false := hc
        exact ⟨2, ⟨by omega, fun _ => ha (by omega), fun _ => hc⟩, by decide, rfl, rfl⟩
    · refine cnd_iff.2 ⟨fun h => absurd h (by simp), fun _ => ?_⟩
      refine ends_sel [] [0] rfl rfl ?_ rfl
      show [vi 0] = [vi (firstI (aheadB ⟨p, u, d⟩ f a) (aheadB ⟨p, u, d⟩ f b) a b)]
      rw [ha (by omega), hb (by omega)]; rfl
theorem tb39_ok : GamOk Try.prog eid (gam tb39) := gam_cons h81 tb38_ok
theorem h80 : Holds Try.prog eid 80 (stillPS) := by
  refine hold tb39_ok Try.func80 (by kernel_rfl) ?_ (by kernel_rfl)
  intro xs M t h
  unfold stillPS at h
  split at h <;> cases h
  rename_i p u d f j
  refine ⟨fun l h => (nomatch h), fun hp => ?_⟩
  have hp : stopsR ⟨p, u, d⟩ := hp
  rw [v80_vc]
  refine ⟨hp, hp, ?_⟩
  repeat' first
    | refine cnd_iff.2 ⟨fun _ => ?_, fun _ => ?_⟩
    | refine And.intro hp ?_
    | refine ends_v ?_ rfl
  all_goals (clear hp; (try simp only [c_and, c_or, Bool.and_eq_true, Bool.or_eq_true, Bool.and_eq_false_iff, Bool.or_eq_false_iff, Bool.not_eq_true', Bool.not_eq_false', beq_iff_eq, beq_eq_false_iff_ne, bne_iff_ne, bne_eq_false_iff_eq, ne_eq, decide_eq_true_eq, decide_eq_false_iff_not] at *); by_cases hj : f = j <;> (try subst hj) <;> unfold stillI <;> simp_all [ci, cb])
theorem tb40_ok : GamOk Try.prog eid (gam tb40) := gam_cons h80 tb39_ok
theorem h86 : Holds Try.prog eid 86 (servePS) := by
  refine hold tb40_ok Try.func86 (by kernel_rfl) ?_ (by kernel_rfl)
  intro xs M t h
  unfold servePS at h
  split at h <;> cases h
  rename_i p u d f w
  refine ⟨fun l h => (nomatch h), fun hp => ?_⟩
  obtain ⟨hr, h0, h1⟩ := (hp : stopsR ⟨p, u, d⟩ ∧ (0 ≤ f ∧ f < 64))
  rw [v86_vc]
  repeat' first
    | refine cnd_iff.2 ⟨fun _ => ?_, fun _ => ?_⟩
    | refine And.intro hr ?_
    | refine And.intro (fun _ => ⟨hr.1, h0, h1⟩) ?_
    | refine ends_v ?_ rfl
  all_goals (clear hr h0 h1; (try simp only [c_and, c_or, Bool.and_eq_true, Bool.or_eq_true, Bool.and_eq_false_iff, Bool.or_eq_false_iff, Bool.not_eq_true', Bool.not_eq_false', beq_iff_eq, beq_eq_false_iff_ne, bne_iff_ne, bne_eq_false_iff_eq, ne_eq, decide_eq_true_eq, decide_eq_false_iff_not] at *); unfold servI; simp_all [ci, cb])
theorem tb41_ok : GamOk Try.prog eid (gam tb41) := gam_cons h86 tb40_ok
theorem h75 : Holds Try.prog eid 75 (s75) := by
  refine hold tb41_ok Try.func75 (by kernel_rfl) ?_ (by kernel_rfl)
  intro xs M t h
  unfold s75 at h
  split at h
  case h_2 => cases h
  rename_i css f w j
  obtain ⟨s, hcs, h1⟩ := Option.bind_eq_some_iff.1 h
  clear h
  have h := h1
  clear h1
  cases h
  cases Lw.Stops.of_eq hcs
  clear hcs
  refine ⟨fun l h => (nomatch h), ?_⟩
  intro hp
  rw [v75_vc]
  obtain ⟨hr, h0, h1⟩ := (hp : stopsR s ∧ (0 ≤ f ∧ f < 64))
  repeat' first
    | refine cnd_iff.2 ⟨fun _ => ?_, fun _ => ?_⟩
    | refine And.intro hr ?_
    | refine And.intro (fun _ => hr) ?_
    | refine And.intro ⟨hr, h0, h1⟩ ?_
    | refine ends_v ?_ rfl
  all_goals (clear hr h0 h1; (try simp only [c_and, c_or, Bool.and_eq_true, Bool.or_eq_true, Bool.and_eq_false_iff, Bool.or_eq_false_iff, Bool.not_eq_true', Bool.not_eq_false', beq_iff_eq, beq_eq_false_iff_ne, bne_iff_ne, bne_eq_false_iff_eq, ne_eq, decide_eq_true_eq, decide_eq_false_iff_not] at *); by_cases hj : f = j <;> (try subst hj) <;> unfold nextI goneI <;> simp_all [ci, cb])
theorem tb42_ok : GamOk Try.prog eid (gam tb42) := gam_cons h75 tb41_ok
end Go.Proofs.Ytjgmkpidiaojkaa
