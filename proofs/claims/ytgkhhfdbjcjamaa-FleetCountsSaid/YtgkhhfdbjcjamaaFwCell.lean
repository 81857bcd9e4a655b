/- The cell package's functions, and the two laws of it. -/
import Derived.Test.YtgkhhfdbjcjamaaFwCellV
set_option linter.unusedVariables false
namespace Go.Proofs.Ytgkhhfdbjcjamaa
open Lw
theorem massI_range (a : Int) : 0 ≤ massI a ∧ massI a ≤ 10000 := by unfold massI; split <;> (try split) <;> omega
theorem wrap_id {n : Int} (h : -9223372036854775808 ≤ n) (k : n ≤ 9223372036854775807) : IntKind.i64.wrap n = n := by rw [IntKind.wrap_i64]; omega
theorem mass11 : Holds Try.prog eid 11 massS := by
  refine hold gam_nil Try.func11 (by kernel_rfl) ?_ (by kernel_rfl)
  intro xs M t h
  unfold massS at h
  split at h <;> cases h
  refine ⟨fun l h => (nomatch h), fun _ => ?_⟩
  rw [f11_vc, cnd_iff, cnd_iff]
  refine ⟨fun h => ?_, fun h => ⟨fun k => ?_, fun k => ?_⟩⟩ <;> refine ends_pl ?_ <;> simp only [decide_eq_true_eq, decide_eq_false_iff_not] at * <;> simp [massI, *]
theorem mass13 : Holds Try.prog eid 13 massS := by
  refine hold gam_nil Try.func13 (by kernel_rfl) ?_ (by kernel_rfl)
  intro xs M t h
  unfold massS at h
  split at h <;> cases h
  refine ⟨fun l h => (nomatch h), fun _ => ?_⟩
  rw [f13_vc]
  refine ends_pl ?_
  congr 1
  simp only [mm, massI, cond_true, cond_false]
  repeat' split
  all_goals omega
theorem cell1_ok : GamOk Try.prog eid (gam cell1) := gam_cons mass11 (gam_cons mass13 gam_nil)
theorem over14 : Holds Try.prog eid 14 overS := by
  refine hold cell1_ok Try.func14 (by kernel_rfl) ?_ (by kernel_rfl)
  intro xs M t h
  unfold overS at h
  split at h <;> cases h
  refine ⟨fun l h => (nomatch h), fun _ => ?_⟩
  rw [f14_vc]
  exact ends_pl rfl
theorem near15 : Holds Try.prog eid 15 nearS := by
  refine hold cell1_ok Try.func15 (by kernel_rfl) ?_ (by kernel_rfl)
  intro xs M t h
  unfold nearS at h
  split at h <;> cases h
  rename_i a b c
  refine ⟨fun l h => (nomatch h), fun _ => ?_⟩
  rw [f15_vc]
  refine ends_pl ?_
  have ha := massI_range a
  have hb := massI_range b
  rw [wrap_id (n := massI a - massI b) (by omega) (by omega), wrap_id (by omega) (by omega)]
  congr 1
  unfold nearB
  congr 1
  simp only [mm, cond_true, eq_iff_iff]
  split <;> constructor <;> omega
theorem cell2_ok : GamOk Try.prog eid (gam cell2) := gam_cons over14 (gam_cons near15 cell1_ok)
theorem yes12 : Holds Try.prog eid 12 yesS := by
  refine hold cell2_ok Try.func12 (by kernel_rfl) ?_ (by kernel_rfl)
  intro xs M t h
  unfold yesS at h
  split at h <;> cases h
  refine ⟨fun l h => (nomatch h), fun _ => ?_⟩
  rw [f12_vc]
  exact ends_pl rfl
theorem cell3_ok : GamOk Try.prog eid (gam cell3) := gam_cons yes12 cell2_ok

/-! ### The laws' functions -/
def law3S : Summ := fun xs M => match xs, M with
  | [.one (.c (.pl (.int .i64 a))), .one (.c (.pl (.int .i64 b))), .one (.c (.pl (.int .i64 c)))], [] => ans (vb true)
  | _, _ => none
def law4S : Summ := fun xs M => match xs, M with
  | [.one (.c (.pl (.int .i64 a))), .one (.c (.pl (.int .i64 b))), .one (.c (.pl (.int .i64 c))), .one (.c (.pl (.int .i64 d)))], [] => ans (vb true)
  | _, _ => none
theorem law3 : Holds Try.prog eid 3 law3S := by
  refine hold cell3_ok Try.func3 (by kernel_rfl) ?_ (by kernel_rfl)
  intro xs M t h
  unfold law3S at h
  split at h <;> cases h
  rename_i a b c
  refine ⟨fun l h => (nomatch h), fun _ => ?_⟩
  rw [f3_vc]
  have ha := massI_range a
  have hb := massI_range b
  rw [wrap_id (n := massI a - massI b) (by omega) (by omega), wrap_id (n := 0 - (massI a - massI b)) (by omega) (by omega)]
  simp only [cnd_iff]
  refine ⟨fun h => ⟨fun _ => ⟨fun _ => ends_pl ?_, fun k => ?_⟩, fun k => ?_⟩, fun h => ⟨fun _ => ⟨fun _ => ends_pl ?_, fun k => ?_⟩, fun k => ?_⟩⟩
  all_goals first
    | (simp [overB] at k; done)
    | (simp at k; done)
    | skip
  all_goals
    congr 1
    simp only [decide_eq_true_eq, decide_eq_false_iff_not] at h
    unfold nearB
    simp only [beq_iff_eq, decide_eq_decide]
    constructor <;> omega
theorem near_iff (a b c : Int) : nearB a b c = true ↔ massI a - massI b ≤ massI c ∧ massI b - massI a ≤ massI c := by simp [nearB]
theorem massI_mono {a b : Int} (h : a ≤ b) : massI a ≤ massI b := by unfold massI; split <;> split <;> (try split) <;> (try split) <;> omega
theorem law4 : Holds Try.prog eid 4 law4S := by
  refine hold cell3_ok Try.func4 (by kernel_rfl) ?_ (by kernel_rfl)
  intro xs M t h
  unfold law4S at h
  split at h <;> cases h
  rename_i a b c d
  refine ⟨fun l h => (nomatch h), fun _ => ?_⟩
  rw [f4_vc]
  have hs : (nearB a b c == nearB b a c) = true := by
    rw [beq_iff_eq]
    unfold nearB
    rw [decide_eq_decide]
    constructor <;> omega
  have hself : nearB a a c = true := by
    have := massI_range c
    rw [near_iff]; omega
  simp only [cnd_iff, hs, hself]
  have hmono : ¬ d < c → nearB a b c = true → nearB a b d = true := by
    intro h k
    have := massI_mono (a := c) (b := d) (by omega)
    rw [near_iff] at k ⊢; omega
  have hov : overB a b = true → overB b a = false := by
    unfold overB
    simp only [decide_eq_true_eq, decide_eq_false_iff_not]
    omega
  simp only [decide_eq_true_eq, decide_eq_false_iff_not, true_implies, Bool.not_eq_true', Bool.not_eq_false']
  refine ⟨fun _ => ends_pl rfl, fun h => ?_⟩
  have := hmono h
  cases h1 : nearB a b c <;> cases h2 : nearB a b d <;> cases h3 : overB a b <;> simp_all <;> exact ends_pl (by simp [*])
end Go.Proofs.Ytgkhhfdbjcjamaa
