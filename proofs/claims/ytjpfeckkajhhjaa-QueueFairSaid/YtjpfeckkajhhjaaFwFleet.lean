/- The functions of this group answer so. -/
import Derived.Test.YtjpfeckkajhhjaaFwFleetV
import Derived.Test.YtjpfeckkajhhjaaFwBase
set_option linter.unusedVariables false
set_option linter.unusedSimpArgs false
set_option maxRecDepth 20000
set_option maxHeartbeats 4000000
namespace Go.Proofs.Ytjpfeckkajhhjaa
open Lw
theorem countL_succ {l : List Lw.Lease} {n : Int} {i : Nat} (h : i < l.length) (z : Lw.Lease) : countL (l.take (i + 1)) n = countL (l.take i) n + (bif (l.getD i z).ask.fleet == n then 1 else 0) := by
  unfold countL
  rw [List.take_add_one, List.getElem?_eq_getElem h, List.getD_eq_getElem?_getD, List.getElem?_eq_getElem h, List.countP_append]
  cases hc : l[i].ask.fleet == n <;> simp [hc]
theorem countL_le {l : List Lw.Lease} {n : Int} (i : Nat) : 0 ≤ countL (l.take i) n ∧ countL (l.take i) n ≤ i := by
  unfold countL
  have := List.countP_le_length (p := fun x : Lw.Lease => x.ask.fleet == n) (l := l.take i)
  rw [List.length_take] at this
  omega
theorem h72 : Holds Try.prog eid 72 (s72) := by
  refine hold tb7_ok Try.func72 (by kernel_rfl) ?_ (by kernel_rfl)
  intro xs M t h
  unfold s72 at h
  split at h
  case h_2 => cases h
  rename_i n k
  cases h
  refine ⟨fun l h => (nomatch h), ?_⟩
  intro hp
  rw [v72_vc]
  exact ends_pl rfl
theorem tb8_ok : GamOk Try.prog eid (gam tb8) := gam_cons h72 tb7_ok
theorem h68 : Holds Try.prog eid 68 (s68) := by
  refine hold tb8_ok Try.func68 (by kernel_rfl) ?_ (by kernel_rfl)
  intro xs M t h
  unfold s68 at h
  split at h
  case h_2 => cases h
  rename_i csc
  obtain ⟨c, hcc, h1⟩ := Option.bind_eq_some_iff.1 h
  clear h
  have h := h1
  clear h1
  cases h
  cases Lw.Config.of_eq hcc
  clear hcc
  refine ⟨fun l h => (nomatch h), ?_⟩
  intro hp
  rw [v68_vc]
  exact ends_pl (congrArg _ (mm_clamp (by decide) _))
theorem tb9_ok : GamOk Try.prog eid (gam tb9) := gam_cons h68 tb8_ok
theorem h71 : Holds Try.prog eid 71 (s71) := by
  refine hold tb9_ok Try.func71 (by kernel_rfl) ?_ (by kernel_rfl)
  intro xs M t h
  unfold s71 at h
  split at h
  case h_2 => cases h
  rename_i n k
  cases h
  refine ⟨fun l h => (nomatch h), ?_⟩
  intro hp
  rw [v71_vc]
  exact ends_pl (congrArg PC.bool (by unfold inB; rw [c_and]))
theorem tb10_ok : GamOk Try.prog eid (gam tb10) := gam_cons h71 tb9_ok
theorem h67 : Holds Try.prog eid 67 (countS) := by
  refine hold tb10_ok Try.func67 (by kernel_rfl) ?_ (by kernel_rfl)
  intro xs M t h
  unfold countS at h
  split at h
  · cases h
    rename_i n
    refine ⟨fun l h => (nomatch h), ?_⟩
    intro hp
    rw [v67e_vc]
    refine loopVC_st (S := Unit) v67eb_m 0 (fun _ => v67eb_fr n) (fun _ => v67eb_mem n) (fun _ => 0) (fun _ => True) rfl ⟨(), trivial, rfl, rfl⟩ ?_
    intro _ _
    refine (v67eb_vc n _ _).mpr ?_
    exact ends_pl rfl
  · cases h
    rename_i n l
    refine ⟨fun l h => (nomatch h), ?_⟩
    intro hp
    have hl : l.length ≤ Go.maxLen := hp
    rw [v67r_vc]
    refine loopVC_st (S := Int × Int) v67rb_m 1 (fun s => v67rb_fr l n s.1 s.2) (fun s => v67rb_mem l n s.1 s.2) (fun s => (l.length - s.1).toNat) (fun s => 0 ≤ s.1 ∧ s.1 ≤ l.length ∧ s.2 = countL (l.take s.1.toNat) n) rfl ⟨(0, 0), ⟨by simp, by simp, by simp [countL]⟩, rfl, rfl⟩ ?_
    rintro ⟨i, acc⟩ ⟨h0, h1, h2⟩
    simp only at h0 h1 h2
    refine (v67rb_vc l n i acc _ _).mpr ?_
    have hm := maxLen_eq
    have hc := countL_le (l := l) (n := n) i.toNat
    have hi1 : (i + 1).toNat = i.toNat + 1 := by omega
    have hs (h : i < l.length) := countL_succ (l := l) (n := n) (i := i.toNat) (by omega) (RTy.zero .lease)
    by_cases hi : i < l.length
    · rw [wrap_id (n := acc + 1) (by omega) (by omega), wrap_id (n := i + 1) (by omega) (by omega)]
      refine cnd_iff.2 ⟨fun _ => ⟨⟨h0, hi⟩, cnd_iff.2 ⟨fun hb => ⟨(i + 1, acc + 1), ⟨by simp only; omega, by simp only; omega, ?_⟩, by simp only; omega, rfl, rfl⟩, fun hb => ⟨(i + 1, acc), ⟨by simp only; omega, by simp only; omega, ?_⟩, by simp only; omega, rfl, rfl⟩⟩⟩, fun h => absurd hi (of_decide_eq_false h)⟩
      · simp only; rw [hi1, hs hi, hb, h2]; rfl
      · simp only; rw [hi1, hs hi, hb, h2]; simp
    · refine cnd_iff.2 ⟨fun h => absurd (of_decide_eq_true h) hi, fun _ => ?_⟩
      rw [h2, List.take_of_length_le (by omega)]
      exact ends_sel [] [0] rfl rfl rfl rfl
  · cases h
theorem tb11_ok : GamOk Try.prog eid (gam tb11) := gam_cons h67 tb10_ok
theorem h49 : Holds Try.prog eid 49 (freeS) := by
  refine hold tb11_ok Try.func49 (by kernel_rfl) ?_ (by kernel_rfl)
  intro xs M t h
  unfold freeS at h
  split at h
  · obtain ⟨c, hc, h⟩ := Option.bind_eq_some_iff.1 h
    cases h; cases Lw.Config.of_eq hc
    refine ⟨fun l h => (nomatch h), ?_⟩
    intro hp
    rw [v49e_vc]
    exact ends_pl rfl
  · obtain ⟨c, hc, h⟩ := Option.bind_eq_some_iff.1 h
    cases h; cases Lw.Config.of_eq hc
    refine ⟨fun l h => (nomatch h), ?_⟩
    intro hp
    rw [v49r_vc]
    exact ⟨hp, ends_sel [] [0] rfl rfl rfl rfl⟩
  · cases h
theorem tb12_ok : GamOk Try.prog eid (gam tb12) := gam_cons h49 tb11_ok
theorem h65 : Holds Try.prog eid 65 (s65) := by
  refine hold tb12_ok Try.func65 (by kernel_rfl) ?_ (by kernel_rfl)
  intro xs M t h
  unfold s65 at h
  split at h
  case h_2 => cases h
  rename_i csc csa
  obtain ⟨c, hcc, h1⟩ := Option.bind_eq_some_iff.1 h
  clear h
  have h := h1
  clear h1
  obtain ⟨a, hca, h1⟩ := Option.bind_eq_some_iff.1 h
  clear h
  have h := h1
  clear h1
  cases h
  cases Lw.Config.of_eq hcc
  clear hcc
  cases Lw.Ask.of_eq hca
  clear hca
  refine ⟨fun l h => (nomatch h), ?_⟩
  intro hp
  rw [v65_vc]
  rw [mm_clamp (show (1 : Int) ≤ 64 by decide), mm_clamp (show (1 : Int) ≤ 8 by decide)]
  unfold mayA
  repeat' first
    | (refine ends_pl ?_; simp only [*, Bool.and_true, Bool.true_and, Bool.false_and, Bool.and_false, Bool.and_assoc]; done)
    | refine cnd_iff.2 ⟨fun _ => ?_, fun _ => ?_⟩
theorem tb13_ok : GamOk Try.prog eid (gam tb13) := gam_cons h65 tb12_ok
end Go.Proofs.Ytjpfeckkajhhjaa
