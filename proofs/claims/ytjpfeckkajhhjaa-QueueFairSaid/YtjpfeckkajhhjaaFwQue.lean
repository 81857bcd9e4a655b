/- The functions of this group answer so. -/
import Derived.Test.YtjpfeckkajhhjaaFwQueV
import Derived.Test.YtjpfeckkajhhjaaFwTab
set_option linter.unusedVariables false
set_option linter.unusedSimpArgs false
set_option maxRecDepth 20000
set_option maxHeartbeats 4000000
namespace Go.Proofs.Ytjpfeckkajhhjaa
open Lw
attribute [local irreducible] Lw.vc Lw.vcFunc
theorem queS_eq {b : Nat} {vs : List Cell} {k : Int → Option (BT SR)} {t : BT SR} (h : queS b vs k = some t) : ∃ r, vs = queC r b ∧ k r = some t := by
  unfold queS at h
  obtain ⟨⟨r, x⟩, hq, h1⟩ := Option.bind_eq_some_iff.1 h
  clear h
  simp only at h1
  cases hx : Nat.beq x b <;> rw [hx] at h1
  · cases h1
  · have := Nat.eq_of_beq_eq_true hx
    subst this
    unfold queOf at hq
    split at hq <;> cases hq
    exact ⟨_, rfl, h1⟩
theorem firstA_drop {fl : List Int} {ls : List Lw.Ask} {i : Nat} (h : i < ls.length) (z : Lw.Ask) : firstA fl (ls.drop i) = bif inL fl (ls.getD i z).fleet then firstA fl (ls.drop (i + 1)) else (ls.getD i z, true) := by
  rw [List.drop_eq_getElem_cons h, List.getD_eq_getElem?_getD, List.getElem?_eq_getElem h]
  rfl
theorem predA_eq {k : Nat} {vs : List Cell} {p : Lw.Ask → Bool} (h : predA k vs = some p) : (k = 61 ∧ ∃ n : Int, vs = [.pl (.int .i64 n)] ∧ p = askP n) := by
  unfold predA at h
  cases h0 : Nat.beq k 61 <;> rw [h0] at h <;> simp only [cond_true, cond_false] at h
  case true =>
    have e := Nat.eq_of_beq_eq_true h0
    obtain ⟨n, hn, h⟩ := Option.bind_eq_some_iff.1 h
    cases h
    exact ⟨e, n, intC_eq hn, rfl⟩
  cases h
theorem h61 : Holds Try.prog eid 61 (clo_aa) := by
  refine hold tb31_ok Try.func61 (by kernel_rfl) ?_ (by kernel_rfl)
  intro xs M t h
  unfold clo_aa at h
  split at h
  case h_2 => cases h
  obtain ⟨x, hx, h1⟩ := Option.bind_eq_some_iff.1 h
  clear h
  obtain ⟨l, hl, h⟩ := Option.bind_eq_some_iff.1 h1
  clear h1
  cases h
  cases Lw.Ask.of_eq hx
  cases intC_eq hl
  refine ⟨fun l h => (nomatch h), ?_⟩
  intro hp
  rw [v61_vc]
  exact ends_sel [] [0] rfl rfl rfl rfl
theorem tb32_ok : GamOk Try.prog eid (gam tb32) := gam_cons h61 tb31_ok
theorem h60 : Holds Try.prog eid 60 (idxAS) := by
  refine hold tb32_ok Try.func60 (by kernel_rfl) ?_ (by kernel_rfl)
  intro xs M t h
  unfold idxAS at h
  split at h
  case h_2 => cases h
  rename_i k l vs
  obtain ⟨p, hpr, h1⟩ := Option.bind_eq_some_iff.1 h
  clear h
  cases h1
  rcases predA_eq hpr with ⟨rfl, n, rfl, rfl⟩
  · refine ⟨fun l h => (nomatch h), ?_⟩
    intro hp
    have hl : l.length ≤ Go.maxLen := hp
    rw [v60aa_vc]
    refine loopVC_st (S := Int) v60aab_m 2 (fun i => v60aab_fr l n i) (fun i => v60aab_mem l n i) (fun i => (l.length - i).toNat) (fun i => 0 ≤ i ∧ i ≤ l.length ∧ idxG (askP n) l 0 = idxG (askP n) (l.drop i.toNat) i) rfl ⟨0, ⟨by simp, by simp, rfl⟩, rfl, rfl⟩ ?_
    rintro i ⟨h0, h1, h2⟩
    refine (v60aab_vc l n i _ _).mpr ?_
    have hm := maxLen_eq
    by_cases hi : i < l.length
    · rw [wrap_id (n := i + 1) (by omega) (by omega)]
      have hs := idxG_step (p := askP n) h0 hi (RTy.zero .ask)
      refine cnd_iff.2 ⟨fun _ => ⟨⟨h0, hi⟩, cnd_iff.2 ⟨fun hb => ?_, fun hb => ⟨i + 1, ⟨by omega, by omega, ?_⟩, by omega, rfl, rfl⟩⟩⟩, fun h => absurd hi (of_decide_eq_false h)⟩
      · rw [h2, hs, hb]
        exact ends_sel [] [0, 1] rfl rfl rfl rfl
      · rw [h2, hs, hb]; rfl
    · refine cnd_iff.2 ⟨fun h => absurd (of_decide_eq_true h) hi, fun _ => ?_⟩
      rw [h2, List.drop_eq_nil_of_le (by omega)]
      exact ends_sel [] [0, 1] rfl rfl rfl rfl
theorem tb33_ok : GamOk Try.prog eid (gam tb33) := gam_cons h60 tb32_ok
theorem h44 : Holds Try.prog eid 44 (cloneAS) := by
  refine hold tb33_ok Try.func44 (by kernel_rfl) ?_ (by kernel_rfl)
  intro xs M t h
  unfold cloneAS at h
  split at h <;> cases h
  rename_i ls
  refine ⟨fun l h => (nomatch h), ?_⟩
  intro hp
  have hp : ls.length ≤ bigRow := hp
  rw [v44_vc]
  intro b hb
  refine cnd_iff.2 ⟨fun hc => ?_, fun hc => ?_⟩
  · have hb : b = true := by simpa using hc
    have hz := (by assumption : b = true → ls.length = 0) hb
    obtain rfl : ls = [] := List.eq_nil_of_length_eq_zero hz
    exact ends_sel [.slot 0 .ask] [0, 1] rfl rfl rfl rfl
  · exact ⟨by simpa using hp, ends_sel [] [0, 2] rfl rfl rfl rfl⟩
theorem tb34_ok : GamOk Try.prog eid (gam tb34) := gam_cons h44 tb33_ok
theorem h42 : Holds Try.prog eid 42 (delAS) := by
  refine hold tb34_ok Try.func42 (by kernel_rfl) ?_ (by kernel_rfl)
  intro xs M t h
  unfold delAS at h
  split at h <;> cases h
  rename_i i j ls
  refine ⟨updL rfl, ?_⟩
  intro hp
  obtain ⟨⟨h0, h1⟩, h2, h3⟩ := (hp : (0 ≤ i ∧ i ≤ j) ∧ j ≤ ls.length ∧ ls.length ≤ bigRow)
  rw [v42_vc]
  simp only [Int.toNat_zero, Nat.sub_zero, Int.toNat_natCast]
  refine ⟨⟨⟨h0, h1⟩, h2, by omega⟩, cnd_iff.2 ⟨fun he => ?_, fun he => ?_⟩⟩
  · have he : i = j := beq_iff_eq.1 he
    subst he
    refine ends_selD [] [none, some 0] rfl rfl rfl ?_
    rw [show cutL ls i i = ls from List.take_append_drop _ _]; rfl
  · have ht : (List.take (ls.length - j.toNat) (List.drop j.toNat ls)).length = ls.length - j.toNat := by rw [List.length_take, List.length_drop]; omega
    have hL : (splice ls i.toNat (List.take (ls.length - j.toNat) (List.drop j.toNat ls))).length = ls.length := splice_len (by rw [ht]; omega)
    refine ⟨⟨⟨by omega, h0⟩, by omega⟩, ⟨⟨by omega, h2⟩, by omega⟩, ⟨by omega, ht⟩, ⟨⟨by omega, by omega⟩, by rw [hL]; omega⟩, by rw [hL]; omega, ?_⟩
    refine ends_selD [.cutS 0] [none, some 1] rfl rfl rfl ?_
    refine congrArg (fun q => [Blk.dead, Blk.row _ q]) ?_
    exact del_row ls _ (by omega) (by omega)
theorem tb35_ok : GamOk Try.prog eid (gam tb35) := gam_cons h42 tb34_ok
theorem h16 : Holds Try.prog eid 16 (qnewS) := by
  refine hold tb35_ok Try.func16 (by kernel_rfl) ?_ (by kernel_rfl)
  intro xs M t h
  unfold qnewS at h
  split at h
  case h_2 => cases h
  cases h
  refine ⟨updN, ?_⟩
  intro hp
  rw [v16_vc]
  exact ends_sel [.blk 0 0 .ask] [0, 1] rfl rfl rfl rfl
theorem tb36_ok : GamOk Try.prog eid (gam tb36) := gam_cons h16 tb35_ok
theorem h41 : Holds Try.prog eid 41 (qfindS) := by
  refine hold tb36_ok Try.func41 (by kernel_rfl) ?_ (by kernel_rfl)
  intro xs M t h
  unfold qfindS at h
  split at h
  · rename_i n
    cases h
    refine ⟨fun l h => (nomatch h), ?_⟩
    intro hp
    rw [v41n_vc]
    exact ends_pl rfl
  · rename_i n vs ls
    obtain ⟨r, rfl, h1⟩ := queS_eq h
    clear h
    cases h1
    refine ⟨updN, ?_⟩
    intro hp
    rw [v41_vc]
    exact ⟨hp, ends_sel [] [0, 1] rfl rfl rfl rfl⟩
  · cases h
theorem tb37_ok : GamOk Try.prog eid (gam tb37) := gam_cons h41 tb36_ok
theorem h18 : Holds Try.prog eid 18 (qputS) := by
  refine hold tb37_ok Try.func18 (by kernel_rfl) ?_ (by kernel_rfl)
  intro xs M t h
  unfold qputS at h
  split at h
  · rename_i k
    obtain ⟨l, hl, h1⟩ := Option.bind_eq_some_iff.1 h
    clear h
    cases h1
    cases Lw.Ask.of_eq hl
    refine ⟨fun l h => (nomatch h), ?_⟩
    intro hp
    rw [v18n_vc]
    exact ends_pl rfl
  · rename_i k vs ls
    obtain ⟨r, rfl, h1⟩ := queS_eq h
    clear h
    obtain ⟨l, hl, h⟩ := Option.bind_eq_some_iff.1 h1
    clear h1
    cases h
    cases Lw.Ask.of_eq hl
    refine ⟨updL rfl, ?_⟩
    intro hp
    rw [v18_vc]
    have hp : ls.length + 1 ≤ bigRow := hp
    have hb : bigRow = 1073741824 := rfl
    have hm := maxLen_eq
    have hl : ls.length ≤ Go.maxLen := by omega
    refine ⟨hl, cnd_iff.2 ⟨fun hi => ?_, fun hi => cnd_iff.2 ⟨fun hq => ?_, fun hq => ⟨by simpa using hp, ?_⟩⟩⟩⟩
    · have e : qputE r ls l = 7 := if_pos (of_decide_eq_true hi)
      have e2 : qputL r ls l = ls := if_neg (by rw [e]; decide)
      simp only [BT.ev, e, e2]
      exact ends_selD [] [some 0, none, some 1] rfl rfl rfl rfl
    · have e : qputE r ls l = 5 := (if_neg (of_decide_eq_false hi)).trans (if_pos (of_decide_eq_true hq))
      have e2 : qputL r ls l = ls := if_neg (by rw [e]; decide)
      simp only [BT.ev, e, e2]
      exact ends_selD [] [some 0, none, some 1] rfl rfl rfl rfl
    · have e : qputE r ls l = 0 := (if_neg (of_decide_eq_false hi)).trans (if_neg (of_decide_eq_false hq))
      have e2 : qputL r ls l = ls ++ [l] := if_pos e
      simp only [BT.ev, e, e2]
      exact ends_selD [] [some 0, none, some 4] rfl rfl rfl rfl
  · cases h
theorem tb38_ok : GamOk Try.prog eid (gam tb38) := gam_cons h18 tb37_ok
theorem h19 : Holds Try.prog eid 19 (qdropS) := by
  refine hold tb38_ok Try.func19 (by kernel_rfl) ?_ (by kernel_rfl)
  intro xs M t h
  unfold qdropS at h
  split at h
  · rename_i n
    cases h
    refine ⟨fun l h => (nomatch h), ?_⟩
    intro hp
    rw [v19n_vc]
    exact ends_pl rfl
  · rename_i n vs ls
    obtain ⟨r, rfl, h1⟩ := queS_eq h
    clear h
    cases h1
    refine ⟨updL rfl, ?_⟩
    intro hp
    rw [v19_vc]
    have hp : ls.length ≤ bigRow := hp
    have hb : bigRow = 1073741824 := rfl
    have hm := maxLen_eq
    have hr := idxG_range (p := askP n) (l := ls) (i := 0) (by omega)
    rw [wrap_id (n := idxG (askP n) ls 0 + 1) (by omega) (by omega)]
    refine ⟨by omega, cnd_iff.2 ⟨fun hn => ?_, fun hn => ?_⟩⟩
    · have hn' : idxG (askP n) ls 0 ≥ 0 := of_decide_eq_true hn
      have e2 : qdropL ls n = cutL ls (idxG (askP n) ls 0) (idxG (askP n) ls 0 + 1) := if_pos hn'
      simp only [BT.ev, e2]
      exact ⟨⟨by omega, by omega, by omega⟩, ends_selD [] [some 0, none, some 2] rfl rfl rfl rfl⟩
    · have hn' : ¬ idxG (askP n) ls 0 ≥ 0 := of_decide_eq_false hn
      have e2 : qdropL ls n = ls := if_neg hn'
      simp only [BT.ev, e2]
      exact ends_selD [] [some 0, none, some 1] rfl rfl rfl rfl
  · cases h
theorem tb39_ok : GamOk Try.prog eid (gam tb39) := gam_cons h19 tb38_ok
theorem h22 : Holds Try.prog eid 22 (qaheadS) := by
  refine hold tb39_ok Try.func22 (by kernel_rfl) ?_ (by kernel_rfl)
  intro xs M t h
  unfold qaheadS at h
  split at h
  · rename_i n
    cases h
    refine ⟨fun l h => (nomatch h), ?_⟩
    intro hp
    rw [v22n_vc]
    exact ends_v rfl rfl
  · rename_i n vs ls
    obtain ⟨r, rfl, h1⟩ := queS_eq h
    clear h
    cases h1
    refine ⟨updN, ?_⟩
    intro hp
    rw [v22_vc]
    exact ⟨hp, ends_sel [] [0, 1] rfl rfl rfl rfl⟩
  · cases h
theorem tb40_ok : GamOk Try.prog eid (gam tb40) := gam_cons h22 tb39_ok
theorem h24 : Holds Try.prog eid 24 (qlistS) := by
  refine hold tb40_ok Try.func24 (by kernel_rfl) ?_ (by kernel_rfl)
  intro xs M t h
  unfold qlistS at h
  split at h
  · cases h
    refine ⟨fun l h => (nomatch h), ?_⟩
    intro hp
    rw [v24n_vc]
    exact ends_v rfl rfl
  · rename_i vs ls
    obtain ⟨r, rfl, h1⟩ := queS_eq h
    clear h
    cases h1
    refine ⟨updN, ?_⟩
    intro hp
    rw [v24_vc]
    exact ⟨hp, ends_sel [] [0, 1, 2] rfl rfl rfl rfl⟩
  · cases h
theorem tb41_ok : GamOk Try.prog eid (gam tb41) := gam_cons h24 tb40_ok
theorem h62 : Holds Try.prog eid 62 (indexIS) := by
  refine hold tb41_ok Try.func62 (by kernel_rfl) ?_ (by kernel_rfl)
  intro xs M t h
  unfold indexIS at h
  split at h
  case h_2 => cases h
  cases h
  rename_i n l
  refine ⟨updN, ?_⟩
  intro hp
  have hl : l.length ≤ Go.maxLen := hp
  rw [v62_vc]
  refine loopVC_st (S := Int) v62b_m 1 (fun i => v62b_fr l n i) (fun i => v62b_mem l n i) (fun i => (l.length - i).toNat) (fun i => 0 ≤ i ∧ i ≤ l.length ∧ idxG (eqP n) l 0 = idxG (eqP n) (l.drop i.toNat) i) rfl ⟨0, ⟨by simp, by simp, rfl⟩, rfl, rfl⟩ ?_
  rintro i ⟨h0, h1, h2⟩
  refine (v62b_vc l n i _ _).mpr ?_
  have hm := maxLen_eq
  by_cases hi : i < l.length
  · rw [wrap_id (n := i + 1) (by omega) (by omega)]
    have hs := idxG_step (p := eqP n) h0 hi (RTy.zero .int)
    refine cnd_iff.2 ⟨fun _ => ⟨⟨h0, hi⟩, cnd_iff.2 ⟨fun hb => ?_, fun hb => ⟨i + 1, ⟨by omega, by omega, ?_⟩, by omega, rfl, rfl⟩⟩⟩, fun h => absurd hi (of_decide_eq_false h)⟩
    · rw [h2, hs, show eqP n (l.getD i.toNat (RTy.zero .int)) = true from hb]
      exact ends_sel [] [0] rfl rfl rfl rfl
    · rw [h2, hs, show eqP n (l.getD i.toNat (RTy.zero .int)) = false from hb]; rfl
  · refine cnd_iff.2 ⟨fun h => absurd (of_decide_eq_true h) hi, fun _ => ?_⟩
    rw [h2, List.drop_eq_nil_of_le (by omega)]
    exact ends_sel [] [0] rfl rfl rfl rfl
theorem tb42_ok : GamOk Try.prog eid (gam tb42) := gam_cons h62 tb41_ok
theorem h43 : Holds Try.prog eid 43 (contIS) := by
  refine hold tb42_ok Try.func43 (by kernel_rfl) ?_ (by kernel_rfl)
  intro xs M t h
  unfold contIS at h
  split at h
  case h_2 => cases h
  cases h
  refine ⟨updN, ?_⟩
  intro hp
  rw [v43_vc]
  exact ⟨hp, ends_sel [] [0] rfl rfl rfl rfl⟩
theorem tb43_ok : GamOk Try.prog eid (gam tb43) := gam_cons h43 tb42_ok
theorem h21 : Holds Try.prog eid 21 (qfirstS) := by
  refine hold tb43_ok Try.func21 (by kernel_rfl) ?_ (by kernel_rfl)
  intro xs M t h
  unfold qfirstS at h
  split at h
  · cases h
    refine ⟨updN, ?_⟩
    intro hp
    rw [v21n_vc]
    refine loopVC_sel (S := Unit) v21nb_m (fun _ => v21nb_fr) (fun _ => v21nb_mem) (fun _ => 0) (fun _ => True) ⟨[], [0], (), trivial, _, rfl, rfl, rfl, rfl⟩ ?_
    rintro _ _
    refine (v21nb_vc _ _).mpr ?_
    exact ends_v rfl rfl
  · rename_i vs fl ls
    obtain ⟨r, rfl, h1⟩ := queS_eq h
    clear h
    cases h1
    refine ⟨updN, ?_⟩
    intro hp
    obtain ⟨hp, hf⟩ := (hp : ls.length ≤ bigRow ∧ fl.length ≤ Go.maxLen)
    have hb : bigRow = 1073741824 := rfl
    rw [v21_vc]
    refine ⟨hp, ?_⟩
    refine loopVC_sel (S := Int) v21b_m (fun i => v21b_fr r fl ls i) (fun i => v21b_mem r fl ls i) (fun i => (ls.length - i).toNat) (fun i => 0 ≤ i ∧ i ≤ ls.length ∧ firstA fl ls = firstA fl (ls.drop i.toNat)) ⟨[], [0, 1, 2, 3, 4], 0, ⟨by simp, by simp, rfl⟩, _, rfl, rfl, rfl, rfl⟩ ?_
    rintro i ⟨h0, h1, h2⟩
    refine (v21b_vc r fl ls i _ _).mpr ?_
    by_cases hi : i < ls.length
    · rw [wrap_id (n := i + 1) (by omega) (by omega)]
      have hs := firstA_drop (fl := fl) (ls := ls) (i := i.toNat) (by omega) (RTy.zero .ask)
      refine cnd_iff.2 ⟨fun _ => ⟨⟨h0, hi⟩, hf, cnd_iff.2 ⟨fun hb => ?_, fun hb => ⟨[], [0, 1, 2, 3, 4], i + 1, ⟨⟨by omega, by omega, ?_⟩, by omega⟩, _, rfl, rfl, rfl, rfl⟩⟩⟩, fun h => absurd hi (of_decide_eq_false h)⟩
      · rw [show inL fl (ls.getD i.toNat (RTy.zero .ask) : Lw.Ask).fleet = false by simpa using hb, cond_false] at hs
        have e : firstA fl ls = (ls.getD i.toNat (RTy.zero .ask), true) := h2.trans hs
        simp only [BT.ev, e]
        exact ends_sel [] [0, 1, 2] rfl rfl rfl rfl
      · rw [show inL fl (ls.getD i.toNat (RTy.zero .ask) : Lw.Ask).fleet = true by simpa using hb, cond_true] at hs
        rw [h2, hs, show (i + 1).toNat = i.toNat + 1 by omega]
    · refine cnd_iff.2 ⟨fun h => absurd (of_decide_eq_true h) hi, fun _ => ?_⟩
      rw [List.drop_eq_nil_of_le (by omega)] at h2
      have e : firstA fl ls = (zeroA, false) := h2
      simp only [BT.ev, e]
      exact ends_sel [] [0, 1, 2] rfl rfl rfl rfl
  · cases h
theorem tb44_ok : GamOk Try.prog eid (gam tb44) := gam_cons h21 tb43_ok
end Go.Proofs.Ytjpfeckkajhhjaa
