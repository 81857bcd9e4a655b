/- The functions of this group answer so. -/
import Derived.Test.YtokbghombklefaaFwFleetV
import Derived.Test.YtokbghombklefaaFwBase
set_option linter.unusedVariables false
set_option linter.unusedSimpArgs false
set_option maxRecDepth 20000
set_option maxHeartbeats 4000000
namespace Go.Proofs.Ytokbghombklefaa
open Lw
attribute [local irreducible] Lw.vc Lw.vcFunc
theorem countL_succ {l : List Lw.Lease} {n : Int} {i : Nat} (h : i < l.length) (z : Lw.Lease) : countL (l.take (i + 1)) n = countL (l.take i) n + (bif (l.getD i z).ask.fleet == n then 1 else 0) := by
  unfold countL
  rw [List.take_add_one, List.getElem?_eq_getElem h, List.getD_eq_getElem?_getD, List.getElem?_eq_getElem h, List.countP_append]
  cases hc : l[i].ask.fleet == n <;> simp [hc]
theorem countL_le {l : List Lw.Lease} {n : Int} (i : Nat) : 0 ≤ countL (l.take i) n ∧ countL (l.take i) n ≤ i := by
  unfold countL
  have := List.countP_le_length (p := fun x : Lw.Lease => x.ask.fleet == n) (l := l.take i)
  rw [List.length_take] at this
  omega
theorem h33 : Holds Try.prog eid 33 (s33) := by
  refine hold tb4_ok Try.func33 (by kernel_rfl) ?_ (by kernel_rfl)
  intro xs M t h
  unfold s33 at h
  split at h
  case h_2 => cases h
  rename_i n k
  cases h
  refine ⟨fun l h => (nomatch h), ?_⟩
  intro hp
  rw [v33_vc]
  exact ends_pl rfl
theorem tb5_ok : GamOk Try.prog eid (gam tb5) := gam_cons h33 tb4_ok
theorem h30 : Holds Try.prog eid 30 (s30) := by
  refine hold tb5_ok Try.func30 (by kernel_rfl) ?_ (by kernel_rfl)
  intro xs M t h
  unfold s30 at h
  split at h
  case h_2 => cases h
  rename_i csc
  obtain ⟨c, hcc, h1⟩ := Option.bind_eq_some_iff.1 h
  clear h
  have h := h1
  clear h1
  cases h
  cases Lw.Config.of_eq hcc
  clear hcc
  refine ⟨fun l h => (nomatch h), ?_⟩
  intro hp
  rw [v30_vc]
  exact ends_pl (congrArg _ (mm_clamp (by decide) _))
theorem tb6_ok : GamOk Try.prog eid (gam tb6) := gam_cons h30 tb5_ok
theorem h32 : Holds Try.prog eid 32 (s32) := by
  refine hold tb6_ok Try.func32 (by kernel_rfl) ?_ (by kernel_rfl)
  intro xs M t h
  unfold s32 at h
  split at h
  case h_2 => cases h
  rename_i n k
  cases h
  refine ⟨fun l h => (nomatch h), ?_⟩
  intro hp
  rw [v32_vc]
  exact ends_pl (congrArg PC.bool (by unfold inB; rw [c_and]))
theorem tb7_ok : GamOk Try.prog eid (gam tb7) := gam_cons h32 tb6_ok
theorem h29 : Holds Try.prog eid 29 (countS) := by
  refine hold tb7_ok Try.func29 (by kernel_rfl) ?_ (by kernel_rfl)
  intro xs M t h
  unfold countS at h
  split at h
  · cases h
    rename_i n
    refine ⟨fun l h => (nomatch h), ?_⟩
    intro hp
    rw [v29e_vc]
    refine loopVC_st (S := Unit) v29eb_m 0 (fun _ => v29eb_fr n) (fun _ => v29eb_mem n) (fun _ => 0) (fun _ => True) rfl ⟨(), trivial, rfl, rfl⟩ ?_
    intro _ _
    refine (v29eb_vc n _ _).mpr ?_
    exact ends_pl rfl
  · cases h
    rename_i n l
    refine ⟨fun l h => (nomatch h), ?_⟩
    intro hp
    have hl : l.length ≤ Go.maxLen := hp
    rw [v29r_vc]
    refine loopVC_st (S := Int × Int) v29rb_m 1 (fun s => v29rb_fr l n s.1 s.2) (fun s => v29rb_mem l n s.1 s.2) (fun s => (l.length - s.1).toNat) (fun s => 0 ≤ s.1 ∧ s.1 ≤ l.length ∧ s.2 = countL (l.take s.1.toNat) n) rfl ⟨(0, 0), ⟨by simp, by simp, by simp [countL]⟩, rfl, rfl⟩ ?_
    rintro ⟨i, acc⟩ ⟨h0, h1, h2⟩
    simp only at h0 h1 h2
    refine (v29rb_vc l n i acc _ _).mpr ?_
    have hm := maxLen_eq
    have hc := countL_le (l := l) (n := n) i.toNat
    have hi1 : (i + 1).toNat = i.toNat + 1 := by omega
    have hs (h : i < l.length) := countL_succ (l := l) (n := n) (i := i.toNat) (by omega) (RTy.zero .lease)
    by_cases hi : i < l.length
    · rw [wrap_id (n := acc + 1) (by omega) (by omega), wrap_id (n := i + 1) (by omega) (by omega)]
      refine cnd_iff.2 ⟨fun _ => ⟨⟨h0, hi⟩, cnd_iff.2 ⟨fun hb => ⟨(i + 1, acc + 1), ⟨by simp only; omega, by simp only; omega, ?_⟩, by simp only; omega, rfl, rfl⟩, fun hb => ⟨(i + 1, acc), ⟨by simp only; omega, by simp only; omega, ?_⟩, by simp only; omega, rfl, rfl⟩⟩⟩, fun h => absurd hi (of_decide_eq_false h)⟩
      · simp only; rw [hi1, hs hi, hb, h2]; rfl
      · simp only; rw [hi1, hs hi, hb, h2]; simp
    · refine cnd_iff.2 ⟨fun h => absurd (of_decide_eq_true h) hi, fun _ => ?_⟩
      rw [h2, List.take_of_length_le (by omega)]
      exact ends_sel [] [0] rfl rfl rfl rfl
  · cases h
theorem tb8_ok : GamOk Try.prog eid (gam tb8) := gam_cons h29 tb7_ok
theorem h21 : Holds Try.prog eid 21 (freeS) := by
  refine hold tb8_ok Try.func21 (by kernel_rfl) ?_ (by kernel_rfl)
  intro xs M t h
  unfold freeS at h
  split at h
  · obtain ⟨c, hc, h⟩ := Option.bind_eq_some_iff.1 h
    cases h; cases Lw.Config.of_eq hc
    refine ⟨fun l h => (nomatch h), ?_⟩
    intro hp
    rw [v21e_vc]
    exact ends_pl rfl
  · obtain ⟨c, hc, h⟩ := Option.bind_eq_some_iff.1 h
    cases h; cases Lw.Config.of_eq hc
    refine ⟨fun l h => (nomatch h), ?_⟩
    intro hp
    rw [v21r_vc]
    exact ⟨hp, ends_sel [] [0] rfl rfl rfl rfl⟩
  · cases h
theorem tb9_ok : GamOk Try.prog eid (gam tb9) := gam_cons h21 tb8_ok
theorem h28 : Holds Try.prog eid 28 (s28) := by
  refine hold tb9_ok Try.func28 (by kernel_rfl) ?_ (by kernel_rfl)
  intro xs M t h
  unfold s28 at h
  split at h
  case h_2 => cases h
  rename_i csc csa
  obtain ⟨c, hcc, h1⟩ := Option.bind_eq_some_iff.1 h
  clear h
  have h := h1
  clear h1
  obtain ⟨a, hca, h1⟩ := Option.bind_eq_some_iff.1 h
  clear h
  have h := h1
  clear h1
  cases h
  cases Lw.Config.of_eq hcc
  clear hcc
  cases Lw.Ask.of_eq hca
  clear hca
  refine ⟨fun l h => (nomatch h), ?_⟩
  intro hp
  rw [v28_vc]
  rw [mm_clamp (show (1 : Int) ≤ 64 by decide), mm_clamp (show (1 : Int) ≤ 8 by decide)]
  unfold mayA
  repeat' first
    | (refine ends_pl ?_; simp only [*, Bool.and_true, Bool.true_and, Bool.false_and, Bool.and_false, Bool.and_assoc]; done)
    | refine cnd_iff.2 ⟨fun _ => ?_, fun _ => ?_⟩
theorem tb10_ok : GamOk Try.prog eid (gam tb10) := gam_cons h28 tb9_ok
end Go.Proofs.Ytokbghombklefaa
