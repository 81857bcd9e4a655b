/- The fleet package's functions, and the two laws of it. -/
import Derived.Test.YtgkhhfdbjcjamaaFwFleetV
import Derived.Test.YtgkhhfdbjcjamaaFwBound
set_option linter.unusedVariables false
namespace Go.Proofs.Ytgkhhfdbjcjamaa
open Lw
theorem countL_succ {l : List Lease} {n : Int} {i : Nat} (h : i < l.length) (z : Lease) : countL (l.take (i + 1)) n = countL (l.take i) n + (bif (l.getD i z).ask.fleet == n then 1 else 0) := by
  unfold countL
  rw [List.take_add_one, List.getElem?_eq_getElem h, List.getD_eq_getElem?_getD, List.getElem?_eq_getElem h, List.countP_append]
  cases hc : l[i].ask.fleet == n <;> simp [hc]
theorem countL_le {l : List Lease} {n : Int} (i : Nat) : 0 ≤ countL (l.take i) n ∧ countL (l.take i) n ≤ i := by
  unfold countL
  have := List.countP_le_length (p := fun x : Lease => x.ask.fleet == n) (l := l.take i)
  rw [List.length_take] at this
  omega
theorem maxLen_eq : (Go.maxLen : Int) = 9223372036854775807 := by decide
theorem h46 : Holds Try.prog eid 46 withinS := by
  refine hold bd0_ok Try.func46 (by kernel_rfl) ?_ (by kernel_rfl)
  intro xs M t h
  unfold withinS at h
  split at h
  all_goals cases h
  refine ⟨fun l h => (nomatch h), fun _ => ?_⟩
  rw [f46_vc]
  exact ends_pl rfl
theorem h48 : Holds Try.prog eid 48 inS := by
  refine hold bd0_ok Try.func48 (by kernel_rfl) ?_ (by kernel_rfl)
  intro xs M t h
  unfold inS at h
  split at h
  all_goals cases h
  refine ⟨fun l h => (nomatch h), fun _ => ?_⟩
  rw [f48_vc]
  rw [cnd_iff]
  exact ⟨fun h => ends_pl (by unfold inB; rw [h]; rfl), fun h => ends_pl (by unfold inB; rw [h]; rfl)⟩
theorem h49 : Holds Try.prog eid 49 massS := by
  refine hold bd0_ok Try.func49 (by kernel_rfl) ?_ (by kernel_rfl)
  intro xs M t h
  unfold massS at h
  split at h
  all_goals cases h
  refine ⟨fun l h => (nomatch h), fun _ => ?_⟩
  rw [f49_vc]
  rw [cnd_iff, cnd_iff]
  refine ⟨fun h => ?_, fun h => ⟨fun k => ?_, fun k => ?_⟩⟩ <;> refine ends_pl ?_ <;> simp only [decide_eq_true_eq, decide_eq_false_iff_not] at * <;> simp [massI, *]
theorem h45 : Holds Try.prog eid 45 conf0S := by
  refine hold bd0_ok Try.func45 (by kernel_rfl) ?_ (by kernel_rfl)
  intro xs M t h
  unfold conf0S at h
  split at h
  all_goals cases h
  refine ⟨fun l h => (nomatch h), fun _ => ?_⟩
  rw [f45_vc]
  exact ends_agg rfl
theorem mass13' : Holds Try.prog eid 13 massS := mass13
theorem fl1_ok : GamOk Try.prog eid (gam fl1) := gam_cons h46 (gam_cons h48 (gam_cons h49 (gam_cons mass13 (gam_cons h45 bd0_ok))))
theorem h25 : Holds Try.prog eid 25 (confS fun c => vi (quotaI c)) := by
  refine hold fl1_ok Try.func25 (by kernel_rfl) ?_ (by kernel_rfl)
  intro xs M t h
  unfold confS at h
  split at h
  case h_2 => cases h
  obtain ⟨c, hc, h⟩ := Option.bind_eq_some_iff.1 h
  cases h; cases Config.of_eq hc
  refine ⟨fun l h => (nomatch h), fun _ => ?_⟩
  rw [f25_vc]
  refine ends_pl ?_
  congr 1
  exact mm_clamp (by decide) _
theorem h26 : Holds Try.prog eid 26 (confS fun c => vi (quotaI c)) := by
  refine hold fl1_ok Try.func26 (by kernel_rfl) ?_ (by kernel_rfl)
  intro xs M t h
  unfold confS at h
  split at h
  case h_2 => cases h
  obtain ⟨c, hc, h⟩ := Option.bind_eq_some_iff.1 h
  cases h; cases Config.of_eq hc
  refine ⟨fun l h => (nomatch h), fun _ => ?_⟩
  rw [f26_vc]
  exact ends_pl rfl
theorem c27 (l : List Lease) (n : Int) (hl : l.length ≤ Go.maxLen) (post : AV → Mem → Prop) (hp : ∀ T, post (vi (countL l n)) ([] ++ T)) : vcFunc (gam fl1) tys Try.f27 [.one (.c (.ros .lease l)), vi n] [] post := by
  rw [f27_vc]
  refine loopVC_st (S := Int × Int) f27b_m 0 (fun s => f27b_fr l n s.1 s.2) (fun s => f27b_mem l n s.1 s.2) (fun s => (l.length - s.1).toNat) (fun s => 0 ≤ s.1 ∧ s.1 ≤ l.length ∧ s.2 = countL (l.take s.1.toNat) n) rfl ⟨(0, 0), ⟨by simp, by simp, by simp [countL]⟩, rfl, rfl⟩ ?_
  rintro ⟨i, acc⟩ ⟨h0, h1, h2⟩
  simp only at h0 h1 h2
  refine (f27b_vc l n i acc _ post).mpr ?_
  have hm := maxLen_eq
  have hc := countL_le (l := l) (n := n) i.toNat
  have hi1 : (i + 1).toNat = i.toNat + 1 := by omega
  have hs (h : i < l.length) := countL_succ (l := l) (n := n) (i := i.toNat) (by omega) (RTy.zero .lease)
  by_cases hi : i < l.length
  · rw [wrap_id (n := acc + 1) (by omega) (by omega), wrap_id (n := i + 1) (by omega) (by omega)]
    simp only [cnd_iff, decide_eq_true_eq, decide_eq_false_iff_not]
    refine ⟨fun _ => ⟨⟨h0, hi⟩, fun hb => ⟨(i + 1, acc + 1), ⟨by simp only; omega, by simp only; omega, ?_⟩, by simp only; omega, rfl, rfl⟩, fun hb => ⟨(i + 1, acc), ⟨by simp only; omega, by simp only; omega, ?_⟩, by simp only; omega, rfl, rfl⟩⟩, fun h => absurd hi h⟩
    · simp only; rw [hi1, hs hi, hb, h2]; rfl
    · simp only; rw [hi1, hs hi, hb, h2]; simp
  · simp only [cnd_iff, decide_eq_true_eq, decide_eq_false_iff_not]
    refine ⟨fun h => absurd h hi, fun _ => ?_⟩
    rw [h2, List.take_of_length_le (by omega)]
    exact hp []
theorem c27r (l : List Lease) (n : Int) (hl : l.length ≤ Go.maxLen) (post : AV → Mem → Prop) (hp : ∀ T, post (vi (countL l n)) ([.row .lease l] ++ T)) : vcFunc (gam fl1) tys Try.f27 [.one (.c (.row 0)), vi n] [.row .lease l] post := by
  rw [f27r_vc]
  refine loopVC_st (S := Int × Int) f27rb_m 1 (fun s => f27rb_fr l n s.1 s.2) (fun s => f27rb_mem l n s.1 s.2) (fun s => (l.length - s.1).toNat) (fun s => 0 ≤ s.1 ∧ s.1 ≤ l.length ∧ s.2 = countL (l.take s.1.toNat) n) rfl ⟨(0, 0), ⟨by simp, by simp, by simp [countL]⟩, rfl, rfl⟩ ?_
  rintro ⟨i, acc⟩ ⟨h0, h1, h2⟩
  simp only at h0 h1 h2
  refine (f27rb_vc l n i acc _ post).mpr ?_
  have hm := maxLen_eq
  have hc := countL_le (l := l) (n := n) i.toNat
  have hi1 : (i + 1).toNat = i.toNat + 1 := by omega
  have hs (h : i < l.length) := countL_succ (l := l) (n := n) (i := i.toNat) (by omega) (RTy.zero .lease)
  by_cases hi : i < l.length
  · rw [wrap_id (n := acc + 1) (by omega) (by omega), wrap_id (n := i + 1) (by omega) (by omega)]
    simp only [cnd_iff, decide_eq_true_eq, decide_eq_false_iff_not]
    refine ⟨fun _ => ⟨⟨h0, hi⟩, fun hb => ⟨(i + 1, acc + 1), ⟨by simp only; omega, by simp only; omega, ?_⟩, by simp only; omega, rfl, rfl⟩, fun hb => ⟨(i + 1, acc), ⟨by simp only; omega, by simp only; omega, ?_⟩, by simp only; omega, rfl, rfl⟩⟩, fun h => absurd hi h⟩
    · simp only; rw [hi1, hs hi, hb, h2]; rfl
    · simp only; rw [hi1, hs hi, hb, h2]; simp
  · simp only [cnd_iff, decide_eq_true_eq, decide_eq_false_iff_not]
    refine ⟨fun h => absurd h hi, fun _ => ?_⟩
    rw [h2, List.take_of_length_le (by omega)]
    exact hp []
theorem c28 (l : List Lease) (n : Int) (hl : l.length ≤ Go.maxLen) (post : AV → Mem → Prop) (hp : ∀ T, post (vi (countL l n)) ([] ++ T)) : vcFunc (gam fl1) tys Try.f28 [.one (.c (.ros .lease l)), vi n] [] post := by
  rw [f28_vc]
  refine loopVC_st (S := Int × Int) f28b_m 0 (fun s => f28b_fr l n s.1 s.2) (fun s => f28b_mem l n s.1 s.2) (fun s => (l.length - s.1).toNat) (fun s => 0 ≤ s.1 ∧ s.1 ≤ l.length ∧ s.2 = countL (l.take s.1.toNat) n) rfl ⟨(0, 0), ⟨by simp, by simp, by simp [countL]⟩, rfl, rfl⟩ ?_
  rintro ⟨i, acc⟩ ⟨h0, h1, h2⟩
  simp only at h0 h1 h2
  refine (f28b_vc l n i acc _ post).mpr ?_
  have hm := maxLen_eq
  have hc := countL_le (l := l) (n := n) i.toNat
  have hi1 : (i + 1).toNat = i.toNat + 1 := by omega
  have hs (h : i < l.length) := countL_succ (l := l) (n := n) (i := i.toNat) (by omega) (RTy.zero .lease)
  by_cases hi : i < l.length
  · rw [wrap_id (n := acc + 1) (by omega) (by omega), wrap_id (n := i + 1) (by omega) (by omega)]
    simp only [cnd_iff, decide_eq_true_eq, decide_eq_false_iff_not]
    refine ⟨fun _ => ⟨⟨h0, hi⟩, fun hb => ⟨(i + 1, acc + 1), ⟨by simp only; omega, by simp only; omega, ?_⟩, by simp only; omega, rfl, rfl⟩, fun hb => ⟨(i + 1, acc), ⟨by simp only; omega, by simp only; omega, ?_⟩, by simp only; omega, rfl, rfl⟩⟩, fun h => absurd hi h⟩
    · simp only; rw [hi1, hs hi, hb, h2]; rfl
    · simp only; rw [hi1, hs hi, hb, h2]; simp
  · simp only [cnd_iff, decide_eq_true_eq, decide_eq_false_iff_not]
    refine ⟨fun h => absurd h hi, fun _ => ?_⟩
    rw [h2, List.take_of_length_le (by omega)]
    exact hp []
theorem c28r (l : List Lease) (n : Int) (hl : l.length ≤ Go.maxLen) (post : AV → Mem → Prop) (hp : ∀ T, post (vi (countL l n)) ([.row .lease l] ++ T)) : vcFunc (gam fl1) tys Try.f28 [.one (.c (.row 0)), vi n] [.row .lease l] post := by
  rw [f28r_vc]
  refine loopVC_st (S := Int × Int) f28rb_m 1 (fun s => f28rb_fr l n s.1 s.2) (fun s => f28rb_mem l n s.1 s.2) (fun s => (l.length - s.1).toNat) (fun s => 0 ≤ s.1 ∧ s.1 ≤ l.length ∧ s.2 = countL (l.take s.1.toNat) n) rfl ⟨(0, 0), ⟨by simp, by simp, by simp [countL]⟩, rfl, rfl⟩ ?_
  rintro ⟨i, acc⟩ ⟨h0, h1, h2⟩
  simp only at h0 h1 h2
  refine (f28rb_vc l n i acc _ post).mpr ?_
  have hm := maxLen_eq
  have hc := countL_le (l := l) (n := n) i.toNat
  have hi1 : (i + 1).toNat = i.toNat + 1 := by omega
  have hs (h : i < l.length) := countL_succ (l := l) (n := n) (i := i.toNat) (by omega) (RTy.zero .lease)
  by_cases hi : i < l.length
  · rw [wrap_id (n := acc + 1) (by omega) (by omega), wrap_id (n := i + 1) (by omega) (by omega)]
    simp only [cnd_iff, decide_eq_true_eq, decide_eq_false_iff_not]
    refine ⟨fun _ => ⟨⟨h0, hi⟩, fun hb => ⟨(i + 1, acc + 1), ⟨by simp only; omega, by simp only; omega, ?_⟩, by simp only; omega, rfl, rfl⟩, fun hb => ⟨(i + 1, acc), ⟨by simp only; omega, by simp only; omega, ?_⟩, by simp only; omega, rfl, rfl⟩⟩, fun h => absurd hi h⟩
    · simp only; rw [hi1, hs hi, hb, h2]; rfl
    · simp only; rw [hi1, hs hi, hb, h2]; simp
  · simp only [cnd_iff, decide_eq_true_eq, decide_eq_false_iff_not]
    refine ⟨fun h => absurd h hi, fun _ => ?_⟩
    rw [h2, List.take_of_length_le (by omega)]
    exact hp []
theorem h27 : Holds Try.prog eid 27 countS := by
  refine hold fl1_ok Try.func27 (by kernel_rfl) ?_ (by kernel_rfl)
  intro xs M t h
  unfold countS at h
  split at h
  · cases h
    refine ⟨fun l h => (nomatch h), fun hl => c27 _ _ hl _ fun T => ends_pl rfl⟩
  · cases h
    rename_i n l
    refine ⟨fun l h => (nomatch h), fun hl => c27r _ _ hl _ fun T => ends_plain (args := [.row .lease l]) rfl rfl rfl rfl (fun b hb c hc => ?_)⟩
    match b, hb with
    | 0, _ => cases hc
  · cases h
theorem h28 : Holds Try.prog eid 28 countS := by
  refine hold fl1_ok Try.func28 (by kernel_rfl) ?_ (by kernel_rfl)
  intro xs M t h
  unfold countS at h
  split at h
  · cases h
    refine ⟨fun l h => (nomatch h), fun hl => c28 _ _ hl _ fun T => ends_pl rfl⟩
  · cases h
    rename_i n l
    refine ⟨fun l h => (nomatch h), fun hl => c28r _ _ hl _ fun T => ends_plain (args := [.row .lease l]) rfl rfl rfl rfl (fun b hb c hc => ?_)⟩
    match b, hb with
    | 0, _ => cases hc
  · cases h
theorem fl2_ok : GamOk Try.prog eid (gam fl2) := gam_cons h25 (gam_cons h26 (gam_cons h27 (gam_cons h28 fl1_ok)))
theorem h29 : Holds Try.prog eid 29 freeS := by
  refine hold fl2_ok Try.func29 (by kernel_rfl) ?_ (by kernel_rfl)
  intro xs M t h
  unfold freeS at h
  split at h
  · obtain ⟨c, hc, h⟩ := Option.bind_eq_some_iff.1 h
    cases h; cases Config.of_eq hc
    refine ⟨fun l h => (nomatch h), fun hl => ?_⟩
    rw [f29_vc]
    exact ⟨hl, ends_pl rfl⟩
  · obtain ⟨c, hc, h⟩ := Option.bind_eq_some_iff.1 h
    cases h; cases Config.of_eq hc
    refine ⟨fun l h => (nomatch h), fun hl => ?_⟩
    rw [f29r_vc]
    refine ⟨hl, ends_plain (args := [.row .lease _]) rfl rfl rfl rfl (fun b hb c hc => ?_)⟩
    match b, hb with
    | 0, _ => cases hc
  · cases h
theorem h30 : Holds Try.prog eid 30 mayS := by
  refine hold fl2_ok Try.func30 (by kernel_rfl) ?_ (by kernel_rfl)
  intro xs M t h
  unfold mayS at h
  split at h
  case h_2 => cases h
  obtain ⟨c, hc, h⟩ := Option.bind_eq_some_iff.1 h
  obtain ⟨a, ha, h⟩ := Option.bind_eq_some_iff.1 h
  cases h; cases Config.of_eq hc; cases Ask.of_eq ha
  refine ⟨fun l h => (nomatch h), fun _ => ?_⟩
  rw [f30_vc]
  try simp only [mm_clamp (show (1 : Int) ≤ 64 by decide), mm_clamp (show (1 : Int) ≤ 8 by decide)]
  unfold mayB
  clear h hc ha
  repeat' first
    | (refine ends_pl ?_; simp only [*, Bool.and_true, Bool.true_and, Bool.false_and, Bool.and_false, Bool.and_assoc]; done)
    | (rw [cnd_iff]; refine ⟨fun _ => ?_, fun _ => ?_⟩)
theorem h31 : Holds Try.prog eid 31 mayS := by
  refine hold fl2_ok Try.func31 (by kernel_rfl) ?_ (by kernel_rfl)
  intro xs M t h
  unfold mayS at h
  split at h
  case h_2 => cases h
  obtain ⟨c, hc, h⟩ := Option.bind_eq_some_iff.1 h
  obtain ⟨a, ha, h⟩ := Option.bind_eq_some_iff.1 h
  cases h; cases Config.of_eq hc; cases Ask.of_eq ha
  refine ⟨fun l h => (nomatch h), fun _ => ?_⟩
  rw [f31_vc]
  try simp only [mm_clamp (show (1 : Int) ≤ 64 by decide), mm_clamp (show (1 : Int) ≤ 8 by decide)]
  unfold mayB
  clear h hc ha
  simp only [inB]
  repeat' first
    | (refine ends_pl ?_; simp only [*, Bool.and_true, Bool.true_and, Bool.false_and, Bool.and_false, Bool.and_assoc]; done)
    | (rw [cnd_iff]; refine ⟨fun _ => ?_, fun _ => ?_⟩)
theorem fl3_ok : GamOk Try.prog eid (gam fl3) := gam_cons h29 (gam_cons h30 (gam_cons h31 fl2_ok))
theorem h24 : Holds Try.prog eid 24 yesS := by
  refine hold fl3_ok Try.func24 (by kernel_rfl) ?_ (by kernel_rfl)
  intro xs M t h
  unfold yesS at h
  split at h <;> cases h
  refine ⟨fun l h => (nomatch h), fun _ => ?_⟩
  rw [f24_vc]
  exact ⟨by decide, by decide, ends_pl rfl⟩
theorem fl4_ok : GamOk Try.prog eid (gam fl4) := gam_cons h24 fl3_ok
def law6S : Summ := fun xs M => match xs, M with
  | [.one (.agg cs), .one (.c (.ros .lease l)), .one (.c (.pl (.int .i64 n)))], [] => (Config.of cs).bind fun c => ansP (l.length ≤ Go.maxLen) (vb true)
  | _, _ => none
def law7S : Summ := fun xs M => match xs, M with
  | [.one (.agg cs), .one (.agg ds)], [] => (Config.of cs).bind fun c => (Ask.of ds).bind fun a => ans (vb true)
  | _, _ => none
theorem h6 : Holds Try.prog eid 6 law6S := by
  refine hold fl4_ok Try.func6 (by kernel_rfl) ?_ (by kernel_rfl)
  intro xs M t h
  unfold law6S at h
  split at h
  case h_2 => cases h
  obtain ⟨c, hc, h⟩ := Option.bind_eq_some_iff.1 h
  cases h; cases Config.of_eq hc
  refine ⟨fun l h => (nomatch h), fun hl => ?_⟩
  have hl : _ ≤ Go.maxLen := hl
  rw [f6_vc]
  simp only [cnd_iff, beq_self_eq_true, true_implies, Bool.true_eq_false, false_implies, and_true]
  exact ⟨fun _ => ends_pl rfl, fun _ => ⟨hl, hl, hl, hl, ends_pl (by simp [freeB])⟩⟩
theorem h7 : Holds Try.prog eid 7 law7S := by
  refine hold fl4_ok Try.func7 (by kernel_rfl) ?_ (by kernel_rfl)
  intro xs M t h
  unfold law7S at h
  split at h
  case h_2 => cases h
  obtain ⟨c, hc, h⟩ := Option.bind_eq_some_iff.1 h
  obtain ⟨a, ha, h⟩ := Option.bind_eq_some_iff.1 h
  cases h; cases Config.of_eq hc; cases Ask.of_eq ha
  refine ⟨fun l h => (nomatch h), fun _ => ?_⟩
  rw [f7_vc]
  exact ends_pl (by simp)
end Go.Proofs.Ytgkhhfdbjcjamaa
