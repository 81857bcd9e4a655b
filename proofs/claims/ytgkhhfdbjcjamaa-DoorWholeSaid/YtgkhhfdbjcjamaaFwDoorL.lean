/- The functions of this group answer so. -/
import Derived.Test.YtgkhhfdbjcjamaaFwDoorLV
import Derived.Test.YtgkhhfdbjcjamaaFwDoor
set_option linter.unusedVariables false
set_option linter.unusedSimpArgs false
set_option maxRecDepth 20000
namespace Go.Proofs.Ytgkhhfdbjcjamaa
open Lw
theorem door_goods {d : Lw.Door} {t : Int} (h : goodD d t = true) : (goodD (openD d) t = true ∧ (openD d).at_ = d.at_) ∧ (goodD (closeD d) t = true ∧ (closeD d).at_ = d.at_) ∧ ∀ b, goodD (tickD d t b) t = true ∧ (tickD d t b).at_ - d.at_ ≤ 1 ∧ d.at_ - (tickD d t b).at_ ≤ 1 := by
  have hs := spanI_range t
  simp only [goodD, decide_eq_true_eq] at *
  refine ⟨⟨?_, rfl⟩, ⟨?_, rfl⟩, fun b => ?_⟩
  · unfold openD; simp only; split <;> omega
  · unfold closeD; simp only; split <;> omega
  · unfold tickD
    (repeat' split) <;> (try simp only) <;> (refine ⟨?_, ?_, ?_⟩) <;> first | omega | (simp; done) | (simp; omega)
theorem goodD_range {d : Lw.Door} {t : Int} (h : goodD d t = true) : 0 ≤ d.at_ ∧ d.at_ ≤ 1000 := by
  have hs := spanI_range t
  simp only [goodD, decide_eq_true_eq] at h
  omega
theorem stay_ok {d e : Lw.Door} {t : Int} (hd : goodD d t = true) (he : goodD e t = true) (h1 : e.at_ - d.at_ ≤ 1) (h2 : d.at_ - e.at_ ≤ 1) :
    (bif bif !goodD e t then true else decide (IntKind.i64.wrap (e.at_ - d.at_) > 1) then true else decide (IntKind.i64.wrap (d.at_ - e.at_) > 1)) = false := by
  have := goodD_range hd
  have := goodD_range he
  rw [he, wrap_id (by omega) (by omega), wrap_id (by omega) (by omega)]
  simp; omega
theorem h34 : Holds Try.prog eid 34 (s34) := by
  refine hold tb23_ok Try.func34 (by kernel_rfl) ?_ (by kernel_rfl)
  intro xs M t h
  unfold s34 at h
  split at h
  case h_2 => cases h
  cases h
  refine ⟨fun l h => (nomatch h), fun hp => ?_⟩
  rw [v34_vc]
  exact ⟨by unfold mildD; decide +kernel, by unfold mildD; decide +kernel, ends_pl (congrArg PC.bool (by decide +kernel))⟩
theorem tb24_ok : GamOk Try.prog eid (gam tb24) := gam_cons h34 tb23_ok
theorem h8 : Holds Try.prog eid 8 (s8) := by
  refine hold tb24_ok Try.func8 (by kernel_rfl) ?_ (by kernel_rfl)
  intro xs M t h
  unfold s8 at h
  split at h
  case h_2 => cases h
  rename_i csd t b
  obtain ⟨d, hcd, h1⟩ := Option.bind_eq_some_iff.1 h
  clear h
  have h := h1
  clear h1
  cases h
  cases Lw.Door.of_eq hcd
  clear hcd
  refine ⟨fun l h => (nomatch h), fun hp => ?_⟩
  rw [v8_vc]
  refine cnd_iff.2 ⟨fun h => absurd h (by simp), fun _ => cnd_iff.2 ⟨fun _ => ends_pl rfl, fun hg => ?_⟩⟩
  have hg : goodD d t = true := by simpa using hg
  have hm : mildD ⟨d.state, d.at_⟩ := goodD_mild hg
  have ha : (openD d).at_ = d.at_ := rfl
  have hb : (closeD d).at_ = d.at_ := rfl
  refine cnd_iff.2 ⟨fun h1 => cnd_iff.2 ⟨fun h2 => ?_, fun h2 => ?_⟩, fun h1 => cnd_iff.2 ⟨fun h2 => ?_, fun h2 => ?_⟩⟩ <;> simp only [c_and, c_or, Bool.and_eq_true, Bool.or_eq_true, Bool.and_eq_false_iff, Bool.or_eq_false_iff, Bool.not_eq_true', Bool.not_eq_false', beq_iff_eq, beq_eq_false_iff_ne, bne_iff_ne, bne_eq_false_iff_eq, ne_eq, decide_eq_true_eq, decide_eq_false_iff_not] at h1 h2 <;> refine ⟨hm, hm, ?_⟩
  · have := h1; omega
  · rw [show (openD d).state = 1 by unfold openD; simp only; rw [if_pos h1], show (closeD d).state = d.state by unfold closeD; simp only; rw [if_neg (by omega)], ha, hb]
    simp only [pcsEq_self, cnd]
    exact ends_pl rfl
  · rw [show (openD d).state = d.state by unfold openD; simp only; rw [if_neg (by omega)], show (closeD d).state = 3 by unfold closeD; simp only; rw [if_pos h2], ha, hb]
    simp only [pcsEq_self, cnd]
    exact ends_pl rfl
  · rw [show (openD d).state = d.state by unfold openD; simp only; rw [if_neg (by omega)], show (closeD d).state = d.state by unfold closeD; simp only; rw [if_neg (by omega)], ha, hb]
    simp only [pcsEq_self, cnd]
    exact ends_pl rfl
theorem tb25_ok : GamOk Try.prog eid (gam tb25) := gam_cons h8 tb24_ok
theorem h9 : Holds Try.prog eid 9 (s9) := by
  refine hold tb25_ok Try.func9 (by kernel_rfl) ?_ (by kernel_rfl)
  intro xs M t h
  unfold s9 at h
  split at h
  case h_2 => cases h
  rename_i t acts
  cases h
  refine ⟨fun l h => (nomatch h), fun hp => ?_⟩
  rw [v9_vc]
  have hl : acts.length ≤ Go.maxLen := hp
  refine loopVC_st (S := Int × Lw.Door) v9b_m 1 (fun s => v9b_fr t acts s.2 s.1) (fun s => v9b_mem t acts s.2 s.1) (fun s => (acts.length - s.1).toNat) (fun s => 0 ≤ s.1 ∧ s.1 ≤ acts.length ∧ goodD s.2 t = true) rfl ⟨(0, ⟨0, 0⟩), ⟨by simp, by simp, by simp [goodD]⟩, rfl, rfl⟩ ?_
  rintro ⟨i, d⟩ ⟨h0, h1, hg⟩
  simp only at h0 h1 hg
  refine (v9b_vc t acts d i _ _).mpr ?_
  refine cnd_iff.2 ⟨fun hc => ?_, fun hc => ends_pl rfl⟩
  simp only [c_and, c_or, Bool.and_eq_true, Bool.or_eq_true, Bool.and_eq_false_iff, Bool.or_eq_false_iff, Bool.not_eq_true', Bool.not_eq_false', beq_iff_eq, beq_eq_false_iff_ne, bne_iff_ne, bne_eq_false_iff_eq, ne_eq, decide_eq_true_eq, decide_eq_false_iff_not] at hc
  have hm := maxLen_eq
  obtain ⟨⟨g1, e1⟩, ⟨g2, e2⟩, g3⟩ := door_goods hg
  rw [wrap_id (n := i + 1) (by omega) (by omega)]
  refine ⟨⟨h0, hc.1⟩, by decide, cnd_iff.2 ⟨fun ha => ?_, fun ha => cnd_iff.2 ⟨fun hb => ?_, fun hb => ⟨⟨h0, hc.1⟩, by decide, goodD_mild hg, ?_⟩⟩⟩⟩
  · rw [stay_ok hg g1 (by omega) (by omega)]
    exact ⟨(i + 1, openD d), ⟨by simp only; omega, by simp only; omega, g1⟩, by simp only; omega, rfl, rfl⟩
  · rw [stay_ok hg g2 (by omega) (by omega)]
    exact ⟨(i + 1, closeD d), ⟨by simp only; omega, by simp only; omega, g2⟩, by simp only; omega, rfl, rfl⟩
  · obtain ⟨k1, k2, k3⟩ := g3 (Int.tmod (acts.getD i.toNat (RTy.zero .u8)) 4 == 3)
    rw [stay_ok hg k1 k2 k3]
    exact ⟨(i + 1, _), ⟨by simp only; omega, by simp only; omega, k1⟩, by simp only; omega, rfl, rfl⟩
theorem tb26_ok : GamOk Try.prog eid (gam tb26) := gam_cons h9 tb25_ok
theorem h10 : Holds Try.prog eid 10 (s10) := by
  refine hold tb26_ok Try.func10 (by kernel_rfl) ?_ (by kernel_rfl)
  intro xs M t h
  unfold s10 at h
  split at h
  case h_2 => cases h
  rename_i t b
  cases h
  refine ⟨fun l h => (nomatch h), fun hp => ?_⟩
  rw [v10_vc]
  have hp : 0 ≤ t ∧ t ≤ 65535 := hp
  have hE : IntKind.i64.wrap (IntKind.i64.wrap (Int.tmod t 1000) + 1) = t % 1000 + 1 := by
    rw [Int.tmod_eq_emod_of_nonneg hp.1, wrap_id (n := t % 1000) (by omega) (by omega), wrap_id (by omega) (by omega)]
  have hS : spanI (IntKind.i64.wrap (IntKind.i64.wrap (Int.tmod t 1000) + 1)) = IntKind.i64.wrap (IntKind.i64.wrap (Int.tmod t 1000) + 1) := by rw [hE]; unfold spanI clampI; rw [if_neg (by omega), if_neg (by omega)]
  refine ⟨by decide, loopVC_st (S := Int × Lw.Door) v10b_m 1 (fun s => v10b_fr t b s.2 s.1) (fun s => v10b_mem t b s.2 s.1) (fun s => (t % 1000 + 1 - s.1).toNat) (fun s => 0 ≤ s.1 ∧ s.1 ≤ t % 1000 + 1 ∧ s.2 = if s.1 < t % 1000 + 1 then ⟨1, s.1⟩ else ⟨2, t % 1000 + 1⟩) rfl ⟨(0, openD ⟨0, 0⟩), ⟨by simp, by simp only; omega, ?_⟩, rfl, rfl⟩ ?_⟩
  · simp only
    rw [if_pos (by omega)]; rfl
  rintro ⟨i, d⟩ ⟨h0, h1, hd⟩
  simp only at h0 h1 hd
  refine (v10b_vc t b d i _ _).mpr ?_
  refine cnd_iff.2 ⟨fun hc => ?_, fun hc => ?_⟩ <;> simp only [decide_eq_true_eq, decide_eq_false_iff_not] at hc <;> rw [hE] at hc
  · rw [if_pos hc] at hd
    subst hd
    refine cnd_iff.2 ⟨fun h => absurd h (by simp), fun _ => ⟨⟨by simp only; omega, by simp only; omega⟩, ⟨(i + 1, tickD ⟨1, i⟩ (IntKind.i64.wrap (IntKind.i64.wrap (Int.tmod t 1000) + 1)) b), ⟨by simp only; omega, by simp only; omega, ?_⟩, by simp only; omega, ?_, rfl⟩⟩⟩
    · simp only
      unfold tickD
      simp only
      rw [hS, hE]
      (repeat' split) <;> first | rfl | omega | (simp; done) | (simp; omega) | (exfalso; simp at *; omega) | (exfalso; simp at *; done)
    · rw [wrap_id (n := i + 1) (by omega) (by omega)]; rfl
  · rw [if_neg hc] at hd
    subst hd
    refine cnd_iff.2 ⟨fun h => absurd h (by simp), fun _ => ?_⟩
    refine loopVC_st (S := Int × Lw.Door) v10c_m 1 (fun s => v10c_fr t b s.2 s.1) (fun s => v10c_mem t b s.2 s.1) (fun s => (t % 1000 + 1 - s.1).toNat) (fun s => 0 ≤ s.1 ∧ s.1 ≤ t % 1000 + 1 ∧ s.2 = if s.1 < t % 1000 + 1 then ⟨3, t % 1000 + 1 - s.1⟩ else ⟨0, 0⟩) rfl ⟨(0, closeD ⟨2, t % 1000 + 1⟩), ⟨by simp, by simp only; omega, ?_⟩, rfl, rfl⟩ ?_
    · simp only
      rw [if_pos (by omega)]
      simp [closeD]
    rintro ⟨j, e⟩ ⟨g0, g1, he⟩
    simp only at g0 g1 he
    refine (v10c_vc t b e j _ _).mpr ?_
    refine cnd_iff.2 ⟨fun hc => ?_, fun hc => ?_⟩ <;> simp only [decide_eq_true_eq, decide_eq_false_iff_not] at hc <;> rw [hE] at hc
    · rw [if_pos hc] at he
      subst he
      refine cnd_iff.2 ⟨fun h => absurd h (by simp), fun _ => ⟨⟨by simp only; omega, by simp only; omega⟩, ⟨(j + 1, tickD ⟨3, t % 1000 + 1 - j⟩ (IntKind.i64.wrap (IntKind.i64.wrap (Int.tmod t 1000) + 1)) false), ⟨by simp only; omega, by simp only; omega, ?_⟩, by simp only; omega, ?_, rfl⟩⟩⟩
      · simp only
        unfold tickD
        simp only [Bool.false_eq_true, and_false, if_false]
        (repeat' split) <;> first | rfl | omega | (simp; done) | (simp; omega) | (exfalso; simp at *; omega) | (exfalso; simp at *; done)
      · rw [wrap_id (n := j + 1) (by omega) (by omega)]; rfl
    · rw [if_neg hc] at he
      subst he
      refine ⟨by rw [hE]; exact ⟨by simp only [closeD]; omega, by simp only [closeD]; omega⟩, ends_pl (congrArg PC.bool ?_)⟩
      simp [closeD, tickD]
theorem tb27_ok : GamOk Try.prog eid (gam tb27) := gam_cons h10 tb26_ok
end Go.Proofs.Ytgkhhfdbjcjamaa
