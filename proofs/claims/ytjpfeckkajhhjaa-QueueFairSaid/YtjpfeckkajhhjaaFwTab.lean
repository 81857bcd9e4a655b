/- The functions of this group answer so. -/
import Derived.Test.YtjpfeckkajhhjaaFwTabV
import Derived.Test.YtjpfeckkajhhjaaFwLib
set_option linter.unusedVariables false
set_option linter.unusedSimpArgs false
set_option maxRecDepth 20000
set_option maxHeartbeats 4000000
namespace Go.Proofs.Ytjpfeckkajhhjaa
open Lw
attribute [local irreducible] Lw.vc Lw.vcFunc
theorem tabOf_eq {vs : List Cell} {c : Config} {x : Cell} (h : tabOf vs = some (c, x)) : vs = tabC c x := by
  unfold tabOf at h
  obtain ⟨d, hd, h⟩ := Option.bind_eq_some_iff.1 h
  split at h
  · rename_i y hy
    cases h
    have h1 := Lw.Config.of_eq hd
    rw [← List.take_append_drop 18 vs, h1, hy]
    rfl
  · cases h
theorem isRow1_eq {x : Cell} (h : isRow1 x = true) : x = .row 1 := by
  unfold isRow1 at h
  split at h
  · rfl
  · cases h
theorem isRow2_eq {x : Cell} (h : isRow2 x = true) : x = .row 2 := by
  unfold isRow2 at h
  split at h
  · rfl
  · cases h
theorem tabS1_eq {vs : List Cell} {k : Config → Option (BT SR)} {t : BT SR} (h : tabS1 vs k = some t) : ∃ c, vs = tabC c (.row 1) ∧ k c = some t := by
  unfold tabS1 at h
  obtain ⟨⟨c, x⟩, hq, h⟩ := Option.bind_eq_some_iff.1 h
  simp only at h
  cases hx : isRow1 x <;> rw [hx] at h
  · cases h
  · exact ⟨c, by rw [tabOf_eq hq, isRow1_eq hx], h⟩
theorem tabS2_eq {vs : List Cell} {k : Config → Option (BT SR)} {t : BT SR} (h : tabS2 vs k = some t) : ∃ c, vs = tabC c (.row 2) ∧ k c = some t := by
  unfold tabS2 at h
  obtain ⟨⟨c, x⟩, hq, h⟩ := Option.bind_eq_some_iff.1 h
  simp only at h
  cases hx : isRow2 x <;> rw [hx] at h
  · cases h
  · exact ⟨c, by rw [tabOf_eq hq, isRow2_eq hx], h⟩
theorem predL_eq {k : Nat} {vs : List Cell} {p : Lw.Lease → Bool} (h : predL k vs = some p) : (k = 48 ∧ ∃ l : Lw.Lease, vs = l.enc.map .pl ∧ p = putP l) ∨ (k = 50 ∧ ∃ l : Lw.Lease, vs = l.enc.map .pl ∧ p = setP l) ∨ (k = 69 ∧ ∃ n : Int, vs = [.pl (.int .i64 n)] ∧ p = sesP n) ∨ (k = 55 ∧ ∃ n : Int, vs = [.pl (.int .i64 n)] ∧ p = carP n) := by
  unfold predL at h
  cases h0 : Nat.beq k 48 <;> rw [h0] at h <;> simp only [cond_true, cond_false] at h
  case true =>
    have e := Nat.eq_of_beq_eq_true h0
    obtain ⟨l, hl, h⟩ := Option.bind_eq_some_iff.1 h
    cases h
    exact .inl ⟨e, l, Lw.Lease.of_eq hl, rfl⟩
  cases h1 : Nat.beq k 50 <;> rw [h1] at h <;> simp only [cond_true, cond_false] at h
  case true =>
    have e := Nat.eq_of_beq_eq_true h1
    obtain ⟨l, hl, h⟩ := Option.bind_eq_some_iff.1 h
    cases h
    exact .inr (.inl ⟨e, l, Lw.Lease.of_eq hl, rfl⟩)
  cases h2 : Nat.beq k 69 <;> rw [h2] at h <;> simp only [cond_true, cond_false] at h
  case true =>
    have e := Nat.eq_of_beq_eq_true h2
    obtain ⟨n, hn, h⟩ := Option.bind_eq_some_iff.1 h
    cases h
    exact .inr (.inr (.inl ⟨e, n, intC_eq hn, rfl⟩))
  cases h3 : Nat.beq k 55 <;> rw [h3] at h <;> simp only [cond_true, cond_false] at h
  case true =>
    have e := Nat.eq_of_beq_eq_true h3
    obtain ⟨n, hn, h⟩ := Option.bind_eq_some_iff.1 h
    cases h
    exact .inr (.inr (.inr (⟨e, n, intC_eq hn, rfl⟩)))
  cases h
theorem h48 : Holds Try.prog eid 48 (clo_pp) := by
  refine hold tb13_ok Try.func48 (by kernel_rfl) ?_ (by kernel_rfl)
  intro xs M t h
  unfold clo_pp at h
  split at h
  case h_2 => cases h
  obtain ⟨x, hx, h1⟩ := Option.bind_eq_some_iff.1 h
  clear h
  obtain ⟨l, hl, h⟩ := Option.bind_eq_some_iff.1 h1
  clear h1
  cases h
  cases Lw.Lease.of_eq hx
  cases Lw.Lease.of_eq hl
  refine ⟨fun l h => (nomatch h), ?_⟩
  intro hp
  rw [v48_vc]
  try rw [c_or]
  try rw [c_and, c_and]
  exact ends_sel [] [0] rfl rfl rfl rfl
theorem tb14_ok : GamOk Try.prog eid (gam tb14) := gam_cons h48 tb13_ok
theorem h50 : Holds Try.prog eid 50 (clo_qq) := by
  refine hold tb14_ok Try.func50 (by kernel_rfl) ?_ (by kernel_rfl)
  intro xs M t h
  unfold clo_qq at h
  split at h
  case h_2 => cases h
  obtain ⟨x, hx, h1⟩ := Option.bind_eq_some_iff.1 h
  clear h
  obtain ⟨l, hl, h⟩ := Option.bind_eq_some_iff.1 h1
  clear h1
  cases h
  cases Lw.Lease.of_eq hx
  cases Lw.Lease.of_eq hl
  refine ⟨fun l h => (nomatch h), ?_⟩
  intro hp
  rw [v50_vc]
  try rw [c_or]
  try rw [c_and, c_and]
  exact ends_sel [] [0] rfl rfl rfl rfl
theorem tb15_ok : GamOk Try.prog eid (gam tb15) := gam_cons h50 tb14_ok
theorem h69 : Holds Try.prog eid 69 (clo_ss) := by
  refine hold tb15_ok Try.func69 (by kernel_rfl) ?_ (by kernel_rfl)
  intro xs M t h
  unfold clo_ss at h
  split at h
  case h_2 => cases h
  obtain ⟨x, hx, h1⟩ := Option.bind_eq_some_iff.1 h
  clear h
  obtain ⟨l, hl, h⟩ := Option.bind_eq_some_iff.1 h1
  clear h1
  cases h
  cases Lw.Lease.of_eq hx
  cases intC_eq hl
  refine ⟨fun l h => (nomatch h), ?_⟩
  intro hp
  rw [v69_vc]
  try rw [c_or]
  try rw [c_and, c_and]
  exact ends_sel [] [0] rfl rfl rfl rfl
theorem tb16_ok : GamOk Try.prog eid (gam tb16) := gam_cons h69 tb15_ok
theorem h55 : Holds Try.prog eid 55 (clo_cc) := by
  refine hold tb16_ok Try.func55 (by kernel_rfl) ?_ (by kernel_rfl)
  intro xs M t h
  unfold clo_cc at h
  split at h
  case h_2 => cases h
  obtain ⟨x, hx, h1⟩ := Option.bind_eq_some_iff.1 h
  clear h
  obtain ⟨l, hl, h⟩ := Option.bind_eq_some_iff.1 h1
  clear h1
  cases h
  cases Lw.Lease.of_eq hx
  cases intC_eq hl
  refine ⟨fun l h => (nomatch h), ?_⟩
  intro hp
  rw [v55_vc]
  try rw [c_or]
  try rw [c_and, c_and]
  exact ends_sel [] [0] rfl rfl rfl rfl
theorem tb17_ok : GamOk Try.prog eid (gam tb17) := gam_cons h55 tb16_ok
theorem h66 : Holds Try.prog eid 66 (idxLS) := by
  refine hold tb17_ok Try.func66 (by kernel_rfl) ?_ (by kernel_rfl)
  intro xs M t h
  unfold idxLS at h
  split at h
  case h_2 => cases h
  rename_i k l vs
  obtain ⟨p, hpr, h1⟩ := Option.bind_eq_some_iff.1 h
  clear h
  cases h1
  rcases predL_eq hpr with ⟨rfl, n, rfl, rfl⟩ | ⟨rfl, n, rfl, rfl⟩ | ⟨rfl, n, rfl, rfl⟩ | ⟨rfl, n, rfl, rfl⟩
  · refine ⟨fun l h => (nomatch h), ?_⟩
    intro hp
    have hl : l.length ≤ Go.maxLen := hp
    rw [v66pp_vc]
    refine loopVC_st (S := Int) v66ppb_m 2 (fun i => v66ppb_fr l n i) (fun i => v66ppb_mem l n i) (fun i => (l.length - i).toNat) (fun i => 0 ≤ i ∧ i ≤ l.length ∧ idxG (putP n) l 0 = idxG (putP n) (l.drop i.toNat) i) rfl ⟨0, ⟨by simp, by simp, rfl⟩, rfl, rfl⟩ ?_
    rintro i ⟨h0, h1, h2⟩
    refine (v66ppb_vc l n i _ _).mpr ?_
    have hm := maxLen_eq
    by_cases hi : i < l.length
    · rw [wrap_id (n := i + 1) (by omega) (by omega)]
      have hs := idxG_step (p := putP n) h0 hi (RTy.zero .lease)
      refine cnd_iff.2 ⟨fun _ => ⟨⟨h0, hi⟩, cnd_iff.2 ⟨fun hb => ?_, fun hb => ⟨i + 1, ⟨by omega, by omega, ?_⟩, by omega, rfl, rfl⟩⟩⟩, fun h => absurd hi (of_decide_eq_false h)⟩
      · rw [h2, hs, hb]
        exact ends_sel [] [0, 1] rfl rfl rfl rfl
      · rw [h2, hs, hb]; rfl
    · refine cnd_iff.2 ⟨fun h => absurd (of_decide_eq_true h) hi, fun _ => ?_⟩
      rw [h2, List.drop_eq_nil_of_le (by omega)]
      exact ends_sel [] [0, 1] rfl rfl rfl rfl
  · refine ⟨fun l h => (nomatch h), ?_⟩
    intro hp
    have hl : l.length ≤ Go.maxLen := hp
    rw [v66qq_vc]
    refine loopVC_st (S := Int) v66qqb_m 2 (fun i => v66qqb_fr l n i) (fun i => v66qqb_mem l n i) (fun i => (l.length - i).toNat) (fun i => 0 ≤ i ∧ i ≤ l.length ∧ idxG (setP n) l 0 = idxG (setP n) (l.drop i.toNat) i) rfl ⟨0, ⟨by simp, by simp, rfl⟩, rfl, rfl⟩ ?_
    rintro i ⟨h0, h1, h2⟩
    refine (v66qqb_vc l n i _ _).mpr ?_
    have hm := maxLen_eq
    by_cases hi : i < l.length
    · rw [wrap_id (n := i + 1) (by omega) (by omega)]
      have hs := idxG_step (p := setP n) h0 hi (RTy.zero .lease)
      refine cnd_iff.2 ⟨fun _ => ⟨⟨h0, hi⟩, cnd_iff.2 ⟨fun hb => ?_, fun hb => ⟨i + 1, ⟨by omega, by omega, ?_⟩, by omega, rfl, rfl⟩⟩⟩, fun h => absurd hi (of_decide_eq_false h)⟩
      · rw [h2, hs, hb]
        exact ends_sel [] [0, 1] rfl rfl rfl rfl
      · rw [h2, hs, hb]; rfl
    · refine cnd_iff.2 ⟨fun h => absurd (of_decide_eq_true h) hi, fun _ => ?_⟩
      rw [h2, List.drop_eq_nil_of_le (by omega)]
      exact ends_sel [] [0, 1] rfl rfl rfl rfl
  · refine ⟨fun l h => (nomatch h), ?_⟩
    intro hp
    have hl : l.length ≤ Go.maxLen := hp
    rw [v66ss_vc]
    refine loopVC_st (S := Int) v66ssb_m 2 (fun i => v66ssb_fr l n i) (fun i => v66ssb_mem l n i) (fun i => (l.length - i).toNat) (fun i => 0 ≤ i ∧ i ≤ l.length ∧ idxG (sesP n) l 0 = idxG (sesP n) (l.drop i.toNat) i) rfl ⟨0, ⟨by simp, by simp, rfl⟩, rfl, rfl⟩ ?_
    rintro i ⟨h0, h1, h2⟩
    refine (v66ssb_vc l n i _ _).mpr ?_
    have hm := maxLen_eq
    by_cases hi : i < l.length
    · rw [wrap_id (n := i + 1) (by omega) (by omega)]
      have hs := idxG_step (p := sesP n) h0 hi (RTy.zero .lease)
      refine cnd_iff.2 ⟨fun _ => ⟨⟨h0, hi⟩, cnd_iff.2 ⟨fun hb => ?_, fun hb => ⟨i + 1, ⟨by omega, by omega, ?_⟩, by omega, rfl, rfl⟩⟩⟩, fun h => absurd hi (of_decide_eq_false h)⟩
      · rw [h2, hs, hb]
        exact ends_sel [] [0, 1] rfl rfl rfl rfl
      · rw [h2, hs, hb]; rfl
    · refine cnd_iff.2 ⟨fun h => absurd (of_decide_eq_true h) hi, fun _ => ?_⟩
      rw [h2, List.drop_eq_nil_of_le (by omega)]
      exact ends_sel [] [0, 1] rfl rfl rfl rfl
  · refine ⟨fun l h => (nomatch h), ?_⟩
    intro hp
    have hl : l.length ≤ Go.maxLen := hp
    rw [v66cc_vc]
    refine loopVC_st (S := Int) v66ccb_m 2 (fun i => v66ccb_fr l n i) (fun i => v66ccb_mem l n i) (fun i => (l.length - i).toNat) (fun i => 0 ≤ i ∧ i ≤ l.length ∧ idxG (carP n) l 0 = idxG (carP n) (l.drop i.toNat) i) rfl ⟨0, ⟨by simp, by simp, rfl⟩, rfl, rfl⟩ ?_
    rintro i ⟨h0, h1, h2⟩
    refine (v66ccb_vc l n i _ _).mpr ?_
    have hm := maxLen_eq
    by_cases hi : i < l.length
    · rw [wrap_id (n := i + 1) (by omega) (by omega)]
      have hs := idxG_step (p := carP n) h0 hi (RTy.zero .lease)
      refine cnd_iff.2 ⟨fun _ => ⟨⟨h0, hi⟩, cnd_iff.2 ⟨fun hb => ?_, fun hb => ⟨i + 1, ⟨by omega, by omega, ?_⟩, by omega, rfl, rfl⟩⟩⟩, fun h => absurd hi (of_decide_eq_false h)⟩
      · rw [h2, hs, hb]
        exact ends_sel [] [0, 1] rfl rfl rfl rfl
      · rw [h2, hs, hb]; rfl
    · refine cnd_iff.2 ⟨fun h => absurd (of_decide_eq_true h) hi, fun _ => ?_⟩
      rw [h2, List.drop_eq_nil_of_le (by omega)]
      exact ends_sel [] [0, 1] rfl rfl rfl rfl
theorem tb18_ok : GamOk Try.prog eid (gam tb18) := gam_cons h66 tb17_ok
theorem h54 : Holds Try.prog eid 54 (cloneLS) := by
  refine hold tb18_ok Try.func54 (by kernel_rfl) ?_ (by kernel_rfl)
  intro xs M t h
  unfold cloneLS at h
  split at h <;> cases h
  rename_i ls
  refine ⟨fun l h => (nomatch h), ?_⟩
  intro hp
  have hp : ls.length ≤ bigRow := hp
  rw [v54_vc]
  intro b hb
  refine cnd_iff.2 ⟨fun hc => ?_, fun hc => ?_⟩
  · have hb : b = true := by simpa using hc
    have hz := (by assumption : b = true → ls.length = 0) hb
    obtain rfl : ls = [] := List.eq_nil_of_length_eq_zero hz
    exact ends_sel [.slot 0 .lease] [0, 1] rfl rfl rfl rfl
  · exact ⟨by simpa using hp, ends_sel [] [0, 2] rfl rfl rfl rfl⟩
theorem tb19_ok : GamOk Try.prog eid (gam tb19) := gam_cons h54 tb18_ok
theorem h53 : Holds Try.prog eid 53 (delLS) := by
  refine hold tb19_ok Try.func53 (by kernel_rfl) ?_ (by kernel_rfl)
  intro xs M t h
  unfold delLS at h
  split at h <;> cases h
  rename_i i j ls
  refine ⟨updL rfl, ?_⟩
  intro hp
  obtain ⟨⟨h0, h1⟩, h2, h3⟩ := (hp : (0 ≤ i ∧ i ≤ j) ∧ j ≤ ls.length ∧ ls.length ≤ bigRow)
  rw [v53_vc]
  simp only [Int.toNat_zero, Nat.sub_zero, Int.toNat_natCast]
  refine ⟨⟨⟨h0, h1⟩, h2, by omega⟩, cnd_iff.2 ⟨fun he => ?_, fun he => ?_⟩⟩
  · have he : i = j := beq_iff_eq.1 he
    subst he
    refine ends_selD [] [none, some 0] rfl rfl rfl ?_
    rw [show cutL ls i i = ls from List.take_append_drop _ _]; rfl
  · have ht : (List.take (ls.length - j.toNat) (List.drop j.toNat ls)).length = ls.length - j.toNat := by rw [List.length_take, List.length_drop]; omega
    have hL : (splice ls i.toNat (List.take (ls.length - j.toNat) (List.drop j.toNat ls))).length = ls.length := splice_len (by rw [ht]; omega)
    refine ⟨⟨⟨by omega, h0⟩, by omega⟩, ⟨⟨by omega, h2⟩, by omega⟩, ⟨by omega, ht⟩, ⟨⟨by omega, by omega⟩, by rw [hL]; omega⟩, by rw [hL]; omega, ?_⟩
    refine ends_selD [.cutS 0] [none, some 1] rfl rfl rfl ?_
    refine congrArg (fun q => [Blk.dead, Blk.row _ q]) ?_
    exact del_row ls _ (by omega) (by omega)
theorem tb20_ok : GamOk Try.prog eid (gam tb20) := gam_cons h53 tb19_ok
theorem h46 : Holds Try.prog eid 46 (goodTS) := by
  refine hold tb20_ok Try.func46 (by kernel_rfl) ?_ (by kernel_rfl)
  intro xs M t h
  unfold goodTS at h
  split at h
  · rename_i k
    obtain ⟨l, hl, h1⟩ := Option.bind_eq_some_iff.1 h
    clear h
    cases h1
    cases Lw.Lease.of_eq hl
    refine ⟨fun l h => (nomatch h), ?_⟩
    intro hp
    rw [v46n_vc]
    exact ends_pl rfl
  · rename_i k vs ls
    obtain ⟨c, rfl, h1⟩ := tabS1_eq h
    clear h
    obtain ⟨l, hl, h⟩ := Option.bind_eq_some_iff.1 h1
    clear h1
    cases h
    cases Lw.Lease.of_eq hl
    refine ⟨fun l h => (nomatch h), ?_⟩
    intro hp
    rw [v46_vc]
    repeat' first
      | refine cnd_iff.2 ⟨fun _ => ?_, fun _ => ?_⟩
      | refine ends_to (w := vb (goodL c l)) (congrArg (fun b => vb b) ?_) (ends_sel [] [0, 1] rfl rfl rfl rfl)
    all_goals (unfold goodL; simp only [*, Bool.true_and, Bool.false_and])
  · cases h
theorem tb21_ok : GamOk Try.prog eid (gam tb21) := gam_cons h46 tb20_ok
theorem h47 : Holds Try.prog eid 47 (findTS) := by
  refine hold tb21_ok Try.func47 (by kernel_rfl) ?_ (by kernel_rfl)
  intro xs M t h
  unfold findTS at h
  split at h
  · rename_i k cap
    obtain ⟨p, hpr, h1⟩ := Option.bind_eq_some_iff.1 h
    clear h
    cases h1
    rcases predL_eq hpr with ⟨rfl, n, rfl, rfl⟩ | ⟨rfl, n, rfl, rfl⟩ | ⟨rfl, n, rfl, rfl⟩ | ⟨rfl, n, rfl, rfl⟩
    · refine ⟨fun l h => (nomatch h), ?_⟩
      intro hp
      rw [v47ppn_vc]
      exact ends_sel [] [0] rfl rfl rfl rfl
    · refine ⟨fun l h => (nomatch h), ?_⟩
      intro hp
      rw [v47qqn_vc]
      exact ends_sel [] [0] rfl rfl rfl rfl
    · refine ⟨fun l h => (nomatch h), ?_⟩
      intro hp
      rw [v47ssn_vc]
      exact ends_sel [] [0] rfl rfl rfl rfl
    · refine ⟨fun l h => (nomatch h), ?_⟩
      intro hp
      rw [v47ccn_vc]
      exact ends_sel [] [0] rfl rfl rfl rfl
  · rename_i k vs cap ls
    obtain ⟨c, rfl, h1⟩ := tabS2_eq h
    clear h
    obtain ⟨p, hpr, h⟩ := Option.bind_eq_some_iff.1 h1
    clear h1
    cases h
    rcases predL_eq hpr with ⟨rfl, n, rfl, rfl⟩ | ⟨rfl, n, rfl, rfl⟩ | ⟨rfl, n, rfl, rfl⟩ | ⟨rfl, n, rfl, rfl⟩
    · refine ⟨fun l h => (nomatch h), ?_⟩
      intro hp
      rw [v47pp_vc]
      exact ⟨hp, ends_sel [] [0, 1, 2] rfl rfl rfl rfl⟩
    · refine ⟨fun l h => (nomatch h), ?_⟩
      intro hp
      rw [v47qq_vc]
      exact ⟨hp, ends_sel [] [0, 1, 2] rfl rfl rfl rfl⟩
    · refine ⟨fun l h => (nomatch h), ?_⟩
      intro hp
      rw [v47ss_vc]
      exact ⟨hp, ends_sel [] [0, 1, 2] rfl rfl rfl rfl⟩
    · refine ⟨fun l h => (nomatch h), ?_⟩
      intro hp
      rw [v47cc_vc]
      exact ⟨hp, ends_sel [] [0, 1, 2] rfl rfl rfl rfl⟩
  · cases h
theorem tb22_ok : GamOk Try.prog eid (gam tb22) := gam_cons h47 tb21_ok
theorem h25 : Holds Try.prog eid 25 (newTS) := by
  refine hold tb22_ok Try.func25 (by kernel_rfl) ?_ (by kernel_rfl)
  intro xs M t h
  unfold newTS at h
  split at h
  case h_2 => cases h
  obtain ⟨c, hc, h1⟩ := Option.bind_eq_some_iff.1 h
  clear h
  cases h1
  cases Lw.Config.of_eq hc
  refine ⟨fun l h => (nomatch h), ?_⟩
  intro hp
  rw [v25_vc]
  exact ends_sel [.blk 1 18 .lease] [1, 2] rfl rfl rfl rfl
theorem tb23_ok : GamOk Try.prog eid (gam tb23) := gam_cons h25 tb22_ok
theorem h29 : Holds Try.prog eid 29 (putTS) := by
  refine hold tb23_ok Try.func29 (by kernel_rfl) ?_ (by kernel_rfl)
  intro xs M t h
  unfold putTS at h
  split at h
  · rename_i k
    obtain ⟨l, hl, h1⟩ := Option.bind_eq_some_iff.1 h
    clear h
    cases h1
    cases Lw.Lease.of_eq hl
    refine ⟨fun l h => (nomatch h), ?_⟩
    intro hp
    rw [v29n_vc]
    exact ends_pl rfl
  · rename_i k vs ls
    obtain ⟨c, rfl, h1⟩ := tabS1_eq h
    clear h
    obtain ⟨l, hl, h⟩ := Option.bind_eq_some_iff.1 h1
    clear h1
    cases h
    cases Lw.Lease.of_eq hl
    refine ⟨updL rfl, ?_⟩
    intro hp
    rw [v29_vc]
    have hp : ls.length + 1 ≤ bigRow := hp
    have hb : bigRow = 1073741824 := rfl
    have hm := maxLen_eq
    have hl : ls.length ≤ Go.maxLen := by omega
    refine cnd_iff.2 ⟨fun hg => ?_, fun hg => ⟨hl, cnd_iff.2 ⟨fun hi => ?_, fun hi => ⟨hl, cnd_iff.2 ⟨fun hq => ?_, fun hq => ⟨by simpa using hp, ?_⟩⟩⟩⟩⟩⟩
    · have e : putE c ls l = 1 := if_pos (by simpa using hg)
      have e2 : putLs c ls l = ls := if_neg (by rw [e]; decide)
      simp only [BT.ev, e, e2]
      exact ends_selD [] [some 0, none, some 1] rfl rfl rfl rfl
    · have e : putE c ls l = 7 := (if_neg (by simpa using hg)).trans (if_pos (of_decide_eq_true hi))
      have e2 : putLs c ls l = ls := if_neg (by rw [e]; decide)
      simp only [BT.ev, e, e2]
      exact ends_selD [] [some 0, none, some 1] rfl rfl rfl rfl
    · have e : putE c ls l = 5 := (if_neg (by simpa using hg)).trans ((if_neg (of_decide_eq_false hi)).trans (if_neg (by simpa using hq)))
      have e2 : putLs c ls l = ls := if_neg (by rw [e]; decide)
      simp only [BT.ev, e, e2]
      exact ends_selD [] [some 0, none, some 1] rfl rfl rfl rfl
    · have e : putE c ls l = 0 := (if_neg (by simpa using hg)).trans ((if_neg (of_decide_eq_false hi)).trans (if_pos (by simpa using hq)))
      have e2 : putLs c ls l = ls ++ [l] := if_pos e
      simp only [BT.ev, e, e2]
      exact ends_selD [] [some 0, none, some 4] rfl rfl rfl rfl
  · cases h
theorem tb24_ok : GamOk Try.prog eid (gam tb24) := gam_cons h29 tb23_ok
theorem h30 : Holds Try.prog eid 30 (setTS) := by
  refine hold tb24_ok Try.func30 (by kernel_rfl) ?_ (by kernel_rfl)
  intro xs M t h
  unfold setTS at h
  split at h
  · rename_i k
    obtain ⟨l, hl, h1⟩ := Option.bind_eq_some_iff.1 h
    clear h
    cases h1
    cases Lw.Lease.of_eq hl
    refine ⟨fun l h => (nomatch h), ?_⟩
    intro hp
    rw [v30n_vc]
    exact ends_pl rfl
  · rename_i k vs ls
    obtain ⟨c, rfl, h1⟩ := tabS1_eq h
    clear h
    obtain ⟨l, hl, h⟩ := Option.bind_eq_some_iff.1 h1
    clear h1
    cases h
    cases Lw.Lease.of_eq hl
    refine ⟨updL rfl, ?_⟩
    intro hp
    rw [v30_vc]
    have hl : ls.length ≤ Go.maxLen := hp
    have hr := idxG_range (p := setP l) (l := ls) (i := 0) (by omega)
    refine cnd_iff.2 ⟨fun hg => ?_, fun hg => ⟨hl, cnd_iff.2 ⟨fun hi => ?_, fun hi => ?_⟩⟩⟩
    · have e : setE c ls l = 1 := if_pos (by simpa using hg)
      have e2 : setLs c ls l = ls := if_neg (by rw [e]; decide)
      simp only [BT.ev, e, e2]
      exact ends_sel [] [0, 1] rfl rfl rfl rfl
    · have e : setE c ls l = 6 := (if_neg (by simpa using hg)).trans (if_pos (of_decide_eq_true hi))
      have e2 : setLs c ls l = ls := if_neg (by rw [e]; decide)
      simp only [BT.ev, e, e2]
      exact ends_sel [] [0, 1] rfl rfl rfl rfl
    · have hi' := of_decide_eq_false hi
      have e : setE c ls l = 0 := (if_neg (by simpa using hg)).trans (if_neg hi')
      have e2 : setLs c ls l = ls.set (idxG (setP l) ls 0).toNat l := if_pos e
      simp only [BT.ev, e, e2]
      exact ⟨by omega, ends_sel [] [0, 1] rfl rfl rfl rfl⟩
  · cases h
theorem tb25_ok : GamOk Try.prog eid (gam tb25) := gam_cons h30 tb24_ok
theorem h52 : Holds Try.prog eid 52 (atTS) := by
  refine hold tb25_ok Try.func52 (by kernel_rfl) ?_ (by kernel_rfl)
  intro xs M t h
  unfold atTS at h
  split at h
  · cases h
    rename_i n
    refine ⟨fun l h => (nomatch h), ?_⟩
    intro hp
    have hp : n < 0 := hp
    rw [v52n_vc]
    refine cnd_iff.2 ⟨fun _ => ends_v rfl rfl, fun h => absurd hp (of_decide_eq_false h)⟩
  · rename_i n vs ls
    obtain ⟨c, rfl, h1⟩ := tabS1_eq h
    clear h
    cases h1
    refine ⟨updN, ?_⟩
    intro hp
    have hp : n < ls.length := hp
    rw [v52_vc]
    refine cnd_iff.2 ⟨fun hn => ?_, fun hn => ?_⟩
    · have hn' := of_decide_eq_true hn
      simp only [BT.ev, if_pos hn', hn, Bool.not_true]
      exact ends_sel [] [0, 1] rfl rfl rfl rfl
    · have hn' : ¬ n < 0 := of_decide_eq_false hn
      simp only [BT.ev, if_neg hn', hn, Bool.not_false]
      exact ⟨⟨by omega, hp⟩, ends_sel [] [0, 1] rfl rfl rfl rfl⟩
  · cases h
theorem tb26_ok : GamOk Try.prog eid (gam tb26) := gam_cons h52 tb25_ok
theorem h51 : Holds Try.prog eid 51 (sesTS) := by
  refine hold tb26_ok Try.func51 (by kernel_rfl) ?_ (by kernel_rfl)
  intro xs M t h
  unfold sesTS at h
  split at h
  · rename_i n
    cases h
    refine ⟨fun l h => (nomatch h), ?_⟩
    intro hp
    rw [v51n_vc]
    exact ends_pl rfl
  · rename_i n vs ls
    obtain ⟨c, rfl, h1⟩ := tabS1_eq h
    clear h
    cases h1
    refine ⟨updN, ?_⟩
    intro hp
    rw [v51_vc]
    exact ⟨hp, ends_sel [] [0, 1] rfl rfl rfl rfl⟩
  · cases h
theorem tb27_ok : GamOk Try.prog eid (gam tb27) := gam_cons h51 tb26_ok
theorem h34 : Holds Try.prog eid 34 (getTS sesP) := by
  refine hold tb27_ok Try.func34 (by kernel_rfl) ?_ (by kernel_rfl)
  intro xs M t h
  unfold getTS at h
  split at h
  · rename_i n
    cases h
    refine ⟨fun l h => (nomatch h), ?_⟩
    intro hp
    rw [v34n_vc]
    exact ⟨by decide, ends_v rfl rfl⟩
  · rename_i n vs ls
    obtain ⟨c, rfl, h1⟩ := tabS1_eq h
    clear h
    cases h1
    refine ⟨updN, ?_⟩
    intro hp
    rw [v34_vc]
    have hl : ls.length ≤ Go.maxLen := hp
    have hr := idxG_range (p := sesP n) (l := ls) (i := 0) (by omega)
    refine ⟨hl, by omega, ?_⟩
    exact ends_sel [] [0, 1] rfl rfl rfl rfl
  · cases h
theorem tb28_ok : GamOk Try.prog eid (gam tb28) := gam_cons h34 tb27_ok
theorem h35 : Holds Try.prog eid 35 (getTS carP) := by
  refine hold tb28_ok Try.func35 (by kernel_rfl) ?_ (by kernel_rfl)
  intro xs M t h
  unfold getTS at h
  split at h
  · rename_i n
    cases h
    refine ⟨fun l h => (nomatch h), ?_⟩
    intro hp
    rw [v35n_vc]
    exact ⟨by decide, ends_v rfl rfl⟩
  · rename_i n vs ls
    obtain ⟨c, rfl, h1⟩ := tabS1_eq h
    clear h
    cases h1
    refine ⟨updN, ?_⟩
    intro hp
    rw [v35_vc]
    have hl : ls.length ≤ Go.maxLen := hp
    have hr := idxG_range (p := carP n) (l := ls) (i := 0) (by omega)
    refine ⟨hl, by omega, ?_⟩
    exact ends_sel [] [0, 1] rfl rfl rfl rfl
  · cases h
theorem tb29_ok : GamOk Try.prog eid (gam tb29) := gam_cons h35 tb28_ok
theorem h31 : Holds Try.prog eid 31 (endTS) := by
  refine hold tb29_ok Try.func31 (by kernel_rfl) ?_ (by kernel_rfl)
  intro xs M t h
  unfold endTS at h
  split at h
  · rename_i n
    cases h
    refine ⟨fun l h => (nomatch h), ?_⟩
    intro hp
    rw [v31n_vc]
    exact ⟨by decide, ends_v rfl rfl⟩
  · rename_i n vs ls
    obtain ⟨c, rfl, h1⟩ := tabS1_eq h
    clear h
    cases h1
    refine ⟨updL rfl, ?_⟩
    intro hp
    rw [v31_vc]
    have hp : ls.length ≤ bigRow := hp
    have hb : bigRow = 1073741824 := rfl
    have hm := maxLen_eq
    have hr := idxG_range (p := sesP n) (l := ls) (i := 0) (by omega)
    rw [wrap_id (n := idxG (sesP n) ls 0 + 1) (by omega) (by omega)]
    refine ⟨by omega, by omega, cnd_iff.2 ⟨fun hn => ?_, fun hn => ?_⟩⟩
    · have hn' : ¬ idxG (sesP n) ls 0 < 0 := by simpa using hn
      have e2 : endLs ls n = cutL ls (idxG (sesP n) ls 0) (idxG (sesP n) ls 0 + 1) := if_neg hn'
      simp only [BT.ev, e2]
      exact ⟨⟨by omega, by omega, by omega⟩, ends_selD [] [some 0, none, some 4] rfl rfl rfl rfl⟩
    · have hn' : idxG (sesP n) ls 0 < 0 := by simpa using hn
      have e2 : endLs ls n = ls := if_pos hn'
      simp only [BT.ev, e2]
      exact ends_selD [] [some 0, none, some 1] rfl rfl rfl rfl
  · cases h
theorem tb30_ok : GamOk Try.prog eid (gam tb30) := gam_cons h31 tb29_ok
theorem h33 : Holds Try.prog eid 33 (listTS) := by
  refine hold tb30_ok Try.func33 (by kernel_rfl) ?_ (by kernel_rfl)
  intro xs M t h
  unfold listTS at h
  split at h
  · cases h
    refine ⟨fun l h => (nomatch h), ?_⟩
    intro hp
    rw [v33n_vc]
    exact ends_v rfl rfl
  · rename_i vs ls
    obtain ⟨c, rfl, h1⟩ := tabS1_eq h
    clear h
    cases h1
    refine ⟨updN, ?_⟩
    intro hp
    rw [v33_vc]
    exact ⟨hp, ends_sel [] [0, 1, 2] rfl rfl rfl rfl⟩
  · cases h
theorem tb31_ok : GamOk Try.prog eid (gam tb31) := gam_cons h33 tb30_ok
end Go.Proofs.Ytjpfeckkajhhjaa
