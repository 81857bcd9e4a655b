/- The functions of this group answer so. -/
import Derived.Test.YtjbdabpjepjohaaFwScanV
import Derived.Test.YtjbdabpjepjohaaFwPlantL
set_option linter.unusedVariables false
set_option linter.unusedSimpArgs false
set_option maxRecDepth 20000
set_option maxHeartbeats 4000000
namespace Go.Proofs.Ytjbdabpjepjohaa
open Lw
theorem other_cases {w : Int} (h0 : 0 ≤ w) (h2 : w ≤ 2) : (w = 0 ∧ otherI w = 0) ∨ (w = 1 ∧ otherI w = 2) ∨ (w = 2 ∧ otherI w = 1) := by
  have : w = 0 ∨ w = 1 ∨ w = 2 := by omega
  rcases this with rfl | rfl | rfl <;> simp [otherI]
theorem h40 : Holds Try.prog eid 40 (s40) := by
  refine hold tb35_ok Try.func40 (by kernel_rfl) ?_ (by kernel_rfl)
  intro xs M t h
  unfold s40 at h
  split at h
  case h_2 => cases h
  rename_i w
  cases h
  refine ⟨fun l h => (nomatch h), fun hp => ?_⟩
  rw [v40_vc]
  refine cnd_iff.2 ⟨fun h1 => ?_, fun h1 => cnd_iff.2 ⟨fun h2 => ?_, fun h2 => ?_⟩⟩ <;> simp only [beq_iff_eq, beq_eq_false_iff_ne] at * <;> exact ends_pl (by unfold otherI; simp [*])
theorem tb36_ok : GamOk Try.prog eid (gam tb36) := gam_cons h40 tb35_ok
theorem h41 : Holds Try.prog eid 41 (hallPS) := by
  refine hold tb36_ok Try.func41 (by kernel_rfl) ?_ (by kernel_rfl)
  intro xs M t h
  unfold hallPS at h
  split at h <;> cases h
  refine ⟨fun l h => (nomatch h), fun hp => ?_⟩
  rw [v41_vc]
  exact ⟨hp, ends_pl rfl⟩
theorem tb37_ok : GamOk Try.prog eid (gam tb37) := gam_cons h41 tb36_ok
theorem h39 : Holds Try.prog eid 39 (aheadPS) := by
  refine hold tb37_ok Try.func39 (by kernel_rfl) ?_ (by kernel_rfl)
  intro xs M t h
  unfold aheadPS at h
  split at h <;> cases h
  refine ⟨fun l h => (nomatch h), fun hp => ?_⟩
  rw [v39_vc]
  exact ⟨hp, ends_pl rfl⟩
theorem tb38_ok : GamOk Try.prog eid (gam tb38) := gam_cons h39 tb37_ok
theorem h57 : Holds Try.prog eid 57 (pressedPS) := by
  refine hold tb38_ok Try.func57 (by kernel_rfl) ?_ (by kernel_rfl)
  intro xs M t h
  unfold pressedPS at h
  split at h <;> cases h
  rename_i p u d f
  refine ⟨fun l h => (nomatch h), fun hp => ?_⟩
  obtain ⟨hr, h0, h1⟩ := (hp : u64R p ∧ (0 ≤ f ∧ f < 64))
  rw [v57_vc]
  have hb := bit_ok hr h0 h1
  rw [show IntKind.u64.wrap f = f by rw [IntKind.wrap_u64]; omega] at hb
  refine ⟨h0, ends_pl (congrArg _ ?_)⟩
  rw [hb]
  unfold hasB
  simp [h0, h1]
theorem tb39_ok : GamOk Try.prog eid (gam tb39) := gam_cons h57 tb38_ok
theorem h38 : Holds Try.prog eid 38 (firstS) := by
  refine hold tb39_ok Try.func38 (by kernel_rfl) ?_ (by kernel_rfl)
  intro xs M t h
  unfold firstS at h
  split at h
  case h_2 => cases h
  rename_i k p u d f a b
  cases hk : Nat.beq k 39 <;> rw [hk] at h
  · cases hk : Nat.beq k 41 <;> rw [hk] at h
    · cases h
    · cases Nat.eq_of_beq_eq_true hk
      simp only [cond_true] at h
      cases h
      refine ⟨fun l h => (nomatch h), fun hp => ?_⟩
      have hp : stopsR ⟨p, u, d⟩ := hp
      rw [v38h_vc]
      refine loopVC_st (S := Int) v38hb_m 1 (fun i => v38hb_fr p u d f a b i) (fun i => v38hb_mem p u d f a b i) (fun i => (2 - i).toNat) (fun i => (0 ≤ i ∧ i ≤ 2) ∧ (1 ≤ i → hallB ⟨p, u, d⟩ f a = false) ∧ (2 ≤ i → hallB ⟨p, u, d⟩ f b = false)) rfl ⟨0, ⟨by omega, by omega, by omega⟩, rfl, rfl⟩ ?_
      rintro i ⟨⟨h0, h1⟩, ha, hb⟩
      refine (v38hb_vc p u d f a b i _ _).mpr ?_
      have hi : i = 0 ∨ i = 1 ∨ i = 2 := by omega
      rcases hi with rfl | rfl | rfl
      · refine cnd_iff.2 ⟨fun _ => ⟨by simp, hp, cnd_iff.2 ⟨fun hc => ?_, fun hc => ?_⟩⟩, fun h => absurd h (by simp)⟩
        · refine ends_sel [] [0] rfl rfl ?_ rfl
          have hc : hallB ⟨p, u, d⟩ f a = true := hc
          show [vi a] = [vi (firstI (hallB ⟨p, u, d⟩ f a) (hallB ⟨p, u, d⟩ f b) a b)]
          rw [hc]; rfl
        · have hc : hallB ⟨p, u, d⟩ f a = false := hc
          exact ⟨1, ⟨by omega, fun _ => hc, by omega⟩, by decide, rfl, rfl⟩
      · refine cnd_iff.2 ⟨fun _ => ⟨by simp, hp, cnd_iff.2 ⟨fun hc => ?_, fun hc => ?_⟩⟩, fun h => absurd h (by simp)⟩
        · refine ends_sel [] [0] rfl rfl ?_ rfl
          have hc : hallB ⟨p, u, d⟩ f b = true := hc
          show [vi b] = [vi (firstI (hallB ⟨p, u, d⟩ f a) (hallB ⟨p, u, d⟩ f b) a b)]
          rw [hc, ha (by omega)]; rfl
        · have hc : hallB ⟨p, u, d⟩ f b = false := hc
          exact ⟨2, ⟨by omega, fun _ => ha (by omega), fun _ => hc⟩, by decide, rfl, rfl⟩
      · refine cnd_iff.2 ⟨fun h => absurd h (by simp), fun _ => ?_⟩
        refine ends_sel [] [0] rfl rfl ?_ rfl
        show [vi 0] = [vi (firstI (hallB ⟨p, u, d⟩ f a) (hallB ⟨p, u, d⟩ f b) a b)]
        rw [ha (by omega), hb (by omega)]; rfl
  · cases Nat.eq_of_beq_eq_true hk
    simp only [cond_true] at h
    cases h
    refine ⟨fun l h => (nomatch h), fun hp => ?_⟩
    have hp : stopsR ⟨p, u, d⟩ := hp
    rw [v38a_vc]
    refine loopVC_st (S := Int) v38ab_m 1 (fun i => v38ab_fr p u d f a b i) (fun i => v38ab_mem p u d f a b i) (fun i => (2 - i).toNat) (fun i => (0 ≤ i ∧ i ≤ 2) ∧ (1 ≤ i → aheadB ⟨p, u, d⟩ f a = false) ∧ (2 ≤ i → aheadB ⟨p, u, d⟩ f b = false)) rfl ⟨0, ⟨by omega, by omega, by omega⟩, rfl, rfl⟩ ?_
    rintro i ⟨⟨h0, h1⟩, ha, hb⟩
    refine (v38ab_vc p u d f a b i _ _).mpr ?_
    have hi : i = 0 ∨ i = 1 ∨ i = 2 := by omega
    rcases hi with rfl | rfl | rfl
    · refine cnd_iff.2 ⟨fun _ => ⟨by simp, hp, cnd_iff.2 ⟨fun hc => ?_, fun hc => ?_⟩⟩, fun h => absurd h (by simp)⟩
      · refine ends_sel [] [0] rfl rfl ?_ rfl
        have hc : aheadB ⟨p, u, d⟩ f a = true := hc
        show [vi a] = [vi (firstI (aheadB ⟨p, u, d⟩ f a) (aheadB ⟨p, u, d⟩ f b) a b)]
        rw [hc]; rfl
      · have hc : aheadB ⟨p, u, d⟩ f a = false := hc
        exact ⟨1, ⟨by omega, fun _ => hc, by omega⟩, by decide, rfl, rfl⟩
    · refine cnd_iff.2 ⟨fun _ => ⟨by simp, hp, cnd_iff.2 ⟨fun hc => ?_, fun hc => ?_⟩⟩, fun h => absurd h (by simp)⟩
      · refine ends_sel [] [0] rfl rfl ?_ rfl
        have hc : aheadB ⟨p, u, d⟩ f b = true := hc
        show [vi b] = [vi (firstI (aheadB ⟨p, u, d⟩ f a) (aheadB ⟨p, u, d⟩ f b) a b)]
        rw [hc, ha (by omega)]; rfl
      · have hc : aheadB ⟨p, u, d⟩ f b = false := hc
        exact ⟨2, ⟨by omega, fun _ => ha (by omega), fun _ => hc⟩, by decide, rfl, rfl⟩
    · refine cnd_iff.2 ⟨fun h => absurd h (by simp), fun _ => ?_⟩
      refine ends_sel [] [0] rfl rfl ?_ rfl
      show [vi 0] = [vi (firstI (aheadB ⟨p, u, d⟩ f a) (aheadB ⟨p, u, d⟩ f b) a b)]
      rw [ha (by omega), hb (by omega)]; rfl
theorem tb40_ok : GamOk Try.prog eid (gam tb40) := gam_cons h38 tb39_ok
theorem h37 : Holds Try.prog eid 37 (stillPS) := by
  refine hold tb40_ok Try.func37 (by kernel_rfl) ?_ (by kernel_rfl)
  intro xs M t h
  unfold stillPS at h
  split at h <;> cases h
  rename_i p u d f j
  refine ⟨fun l h => (nomatch h), fun hp => ?_⟩
  have hp : stopsR ⟨p, u, d⟩ := hp
  rw [v37_vc]
  refine ⟨hp, hp, ?_⟩
  repeat' first
    | refine cnd_iff.2 ⟨fun _ => ?_, fun _ => ?_⟩
    | refine And.intro hp ?_
    | refine ends_v ?_ rfl
  all_goals (clear hp; (try simp only [c_and, c_or, Bool.and_eq_true, Bool.or_eq_true, Bool.and_eq_false_iff, Bool.or_eq_false_iff, Bool.not_eq_true', Bool.not_eq_false', beq_iff_eq, beq_eq_false_iff_ne, bne_iff_ne, bne_eq_false_iff_eq, ne_eq, decide_eq_true_eq, decide_eq_false_iff_not] at *); by_cases hj : f = j <;> (try subst hj) <;> unfold stillI <;> simp_all [ci, cb])
theorem tb41_ok : GamOk Try.prog eid (gam tb41) := gam_cons h37 tb40_ok
theorem h42 : Holds Try.prog eid 42 (servePS) := by
  refine hold tb41_ok Try.func42 (by kernel_rfl) ?_ (by kernel_rfl)
  intro xs M t h
  unfold servePS at h
  split at h <;> cases h
  rename_i p u d f w
  refine ⟨fun l h => (nomatch h), fun hp => ?_⟩
  obtain ⟨hr, h0, h1⟩ := (hp : stopsR ⟨p, u, d⟩ ∧ (0 ≤ f ∧ f < 64))
  rw [v42_vc]
  repeat' first
    | refine cnd_iff.2 ⟨fun _ => ?_, fun _ => ?_⟩
    | refine And.intro hr ?_
    | refine And.intro (fun _ => ⟨hr.1, h0, h1⟩) ?_
    | refine ends_v ?_ rfl
  all_goals (clear hr h0 h1; (try simp only [c_and, c_or, Bool.and_eq_true, Bool.or_eq_true, Bool.and_eq_false_iff, Bool.or_eq_false_iff, Bool.not_eq_true', Bool.not_eq_false', beq_iff_eq, beq_eq_false_iff_ne, bne_iff_ne, bne_eq_false_iff_eq, ne_eq, decide_eq_true_eq, decide_eq_false_iff_not] at *); unfold servI; simp_all [ci, cb])
theorem tb42_ok : GamOk Try.prog eid (gam tb42) := gam_cons h42 tb41_ok
theorem h15 : Holds Try.prog eid 15 (s15) := by
  refine hold tb42_ok Try.func15 (by kernel_rfl) ?_ (by kernel_rfl)
  intro xs M t h
  unfold s15 at h
  split at h
  case h_2 => cases h
  rename_i css f w j
  obtain ⟨s, hcs, h1⟩ := Option.bind_eq_some_iff.1 h
  clear h
  have h := h1
  clear h1
  cases h
  cases Lw.Stops.of_eq hcs
  clear hcs
  refine ⟨fun l h => (nomatch h), fun hp => ?_⟩
  rw [v15_vc]
  obtain ⟨hr, h0, h1⟩ := (hp : stopsR s ∧ (0 ≤ f ∧ f < 64))
  repeat' first
    | refine cnd_iff.2 ⟨fun _ => ?_, fun _ => ?_⟩
    | refine And.intro hr ?_
    | refine And.intro (fun _ => hr) ?_
    | refine And.intro ⟨hr, h0, h1⟩ ?_
    | refine ends_v ?_ rfl
  all_goals (clear hr h0 h1; (try simp only [c_and, c_or, Bool.and_eq_true, Bool.or_eq_true, Bool.and_eq_false_iff, Bool.or_eq_false_iff, Bool.not_eq_true', Bool.not_eq_false', beq_iff_eq, beq_eq_false_iff_ne, bne_iff_ne, bne_eq_false_iff_eq, ne_eq, decide_eq_true_eq, decide_eq_false_iff_not] at *); by_cases hj : f = j <;> (try subst hj) <;> unfold nextI goneI <;> simp_all [ci, cb])
theorem tb43_ok : GamOk Try.prog eid (gam tb43) := gam_cons h15 tb42_ok
theorem h43 : Holds Try.prog eid 43 (s43) := by
  refine hold tb43_ok Try.func43 (by kernel_rfl) ?_ (by kernel_rfl)
  intro xs M t h
  unfold s43 at h
  split at h
  case h_2 => cases h
  rename_i w
  cases h
  refine ⟨fun l h => (nomatch h), fun hp => ?_⟩
  rw [v43_vc]
  obtain ⟨h0, h1⟩ := (hp : 0 ≤ w ∧ w ≤ 2)
  refine cnd_iff.2 ⟨fun h => ?_, fun h => ?_⟩ <;> simp only [beq_iff_eq, beq_eq_false_iff_ne] at h
  · exact ends_pl (by unfold otherI; simp [h])
  · refine ends_pl (congrArg _ ?_)
    rw [wrap_id (by omega) (by omega)]
    unfold otherI
    (repeat' split) <;> omega
theorem tb44_ok : GamOk Try.prog eid (gam tb44) := gam_cons h43 tb43_ok
theorem h16 : Holds Try.prog eid 16 (s16) := by
  refine hold tb44_ok Try.func16 (by kernel_rfl) ?_ (by kernel_rfl)
  intro xs M t h
  unfold s16 at h
  split at h
  case h_2 => cases h
  rename_i css f w j
  obtain ⟨s, hcs, h1⟩ := Option.bind_eq_some_iff.1 h
  clear h
  have h := h1
  clear h1
  cases h
  cases Lw.Stops.of_eq hcs
  clear hcs
  refine ⟨fun l h => (nomatch h), fun hp => ?_⟩
  rw [v16_vc]
  obtain ⟨hr, h0, h1⟩ := (hp : stopsR s ∧ (0 ≤ w ∧ w ≤ 2))
  repeat' first
    | refine cnd_iff.2 ⟨fun _ => ?_, fun _ => ?_⟩
    | refine And.intro hr ?_
    | refine And.intro hr.1 ?_
    | refine And.intro (fun _ => hr) ?_
    | refine And.intro (fun _ => hr.1) ?_
    | refine And.intro ⟨h0, h1⟩ ?_
    | refine And.intro (fun _ => ⟨h0, h1⟩) ?_
    | refine ends_v ?_ rfl
  all_goals (
    have ho : w ≠ 0 → otherI w ≠ 0 := fun h => by rcases other_cases h0 h1 with k | k | k <;> omega
    clear hr h0 h1
    (try simp only [c_and, c_or, Bool.and_eq_true, Bool.or_eq_true, Bool.and_eq_false_iff, Bool.or_eq_false_iff, Bool.not_eq_true', Bool.not_eq_false', beq_iff_eq, beq_eq_false_iff_ne, bne_iff_ne, bne_eq_false_iff_eq, ne_eq, decide_eq_true_eq, decide_eq_false_iff_not] at *)
    by_cases hj : f = j <;> (try subst hj) <;> unfold nextI stillI servI goneI firstI <;> first
      | (simp_all [ci, cb]; done)
      | (cases h1 : aheadB s f w <;> cases h2 : aheadB s f (otherI w) <;> cases h3 : hallB s f w <;> cases h4 : hallB s f (otherI w) <;> cases h5 : hasB s.press f <;> simp_all [ci, cb]))
theorem tb45_ok : GamOk Try.prog eid (gam tb45) := gam_cons h16 tb44_ok
end Go.Proofs.Ytjbdabpjepjohaa
