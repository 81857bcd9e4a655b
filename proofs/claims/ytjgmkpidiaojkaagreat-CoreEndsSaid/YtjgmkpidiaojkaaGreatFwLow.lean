/- The functions of this group answer so. -/
import Derived.Test.YtjgmkpidiaojkaaGreatFwLowV
set_option linter.unusedVariables false
set_option linter.unusedSimpArgs false
set_option maxRecDepth 20000
set_option maxHeartbeats 4000000
namespace Go.Proofs.YtjgmkpidiaojkaaGreat
open Lw
theorem tb0_ok : GamOk Tryz.prog eid (gam tb0) := gam_nil
theorem floorsI_range (n : Int) : 2 ≤ floorsI n ∧ floorsI n ≤ 64 := clampI_range (by decide) n
theorem spanI_range (n : Int) : 1 ≤ spanI n ∧ spanI n ≤ 1000 := clampI_range (by decide) n
theorem renewI_range (n : Int) : 0 ≤ renewI n ∧ renewI n ≤ 1000 := clampI_range (by decide) n
theorem massI_range (n : Int) : 0 ≤ massI n ∧ massI n ≤ 10000 := clampI_range (by decide) n
theorem timeI_range (n : Int) : 0 ≤ timeI n ∧ timeI n ≤ 1099511627776 := clampI_range (by decide) n
theorem tripI_range (c : Config) : 11 ≤ tripI c ∧ tripI c ≤ 3256 := by
  have := floorsI_range c.floors
  have := spanI_range c.door
  unfold tripI; omega
theorem timeI_id {n : Int} (h : 0 ≤ n) (k : n ≤ 1099511627776) : timeI n = n := by unfold timeI clampI; split <;> (try split) <;> omega
theorem massI_id {n : Int} (h : 0 ≤ n) (k : n ≤ 10000) : massI n = n := by unfold massI clampI; split <;> (try split) <;> omega
theorem timeI_time (n : Int) : timeI (timeI n) = timeI n := timeI_id (timeI_range n).1 (timeI_range n).2
theorem h89 : Holds Tryz.prog eid 89 (s89) := by
  refine hold tb0_ok Tryz.func89 (by kernel_rfl) ?_ (by kernel_rfl)
  intro xs M t h
  unfold s89 at h
  split at h
  case h_2 => cases h
  rename_i a
  cases h
  refine ⟨fun l h => (nomatch h), ?_⟩
  intro hp
  rw [v89_vc]
  simp only [cnd_iff]
  refine ⟨fun h => ?_, fun h => ⟨fun k => ?_, fun k => ?_⟩⟩ <;> refine ends_pl ?_ <;> simp only [decide_eq_true_eq, decide_eq_false_iff_not] at * <;> simp [floorsI, clampI, *]
theorem tb1_ok : GamOk Tryz.prog eid (gam tb1) := gam_cons h89 tb0_ok
theorem h155 : Holds Tryz.prog eid 155 (s155) := by
  refine hold tb1_ok Tryz.func155 (by kernel_rfl) ?_ (by kernel_rfl)
  intro xs M t h
  unfold s155 at h
  split at h
  case h_2 => cases h
  rename_i a
  cases h
  refine ⟨fun l h => (nomatch h), ?_⟩
  intro hp
  rw [v155_vc]
  exact ends_pl (congrArg _ (mm_clamp (by decide) _))
theorem tb2_ok : GamOk Tryz.prog eid (gam tb2) := gam_cons h155 tb1_ok
theorem h91 : Holds Tryz.prog eid 91 (s91) := by
  refine hold tb2_ok Tryz.func91 (by kernel_rfl) ?_ (by kernel_rfl)
  intro xs M t h
  unfold s91 at h
  split at h
  case h_2 => cases h
  rename_i a
  cases h
  refine ⟨fun l h => (nomatch h), ?_⟩
  intro hp
  rw [v91_vc]
  simp only [cnd_iff]
  refine ⟨fun h => ?_, fun h => ⟨fun k => ?_, fun k => ?_⟩⟩ <;> refine ends_pl ?_ <;> simp only [decide_eq_true_eq, decide_eq_false_iff_not] at * <;> simp [massI, clampI, *]
theorem tb3_ok : GamOk Tryz.prog eid (gam tb3) := gam_cons h91 tb2_ok
theorem h158 : Holds Tryz.prog eid 158 (s158) := by
  refine hold tb3_ok Tryz.func158 (by kernel_rfl) ?_ (by kernel_rfl)
  intro xs M t h
  unfold s158 at h
  split at h
  case h_2 => cases h
  rename_i a
  cases h
  refine ⟨fun l h => (nomatch h), ?_⟩
  intro hp
  rw [v158_vc]
  exact ends_pl (congrArg _ (mm_clamp (by decide) _))
theorem tb4_ok : GamOk Tryz.prog eid (gam tb4) := gam_cons h158 tb3_ok
theorem h194 : Holds Tryz.prog eid 194 (s194) := by
  refine hold tb4_ok Tryz.func194 (by kernel_rfl) ?_ (by kernel_rfl)
  intro xs M t h
  unfold s194 at h
  split at h
  case h_2 => cases h
  rename_i a b
  cases h
  refine ⟨fun l h => (nomatch h), ?_⟩
  intro hp
  rw [v194_vc]
  exact ends_pl rfl
theorem tb5_ok : GamOk Tryz.prog eid (gam tb5) := gam_cons h194 tb4_ok
theorem h161 : Holds Tryz.prog eid 161 (s161) := by
  refine hold tb5_ok Tryz.func161 (by kernel_rfl) ?_ (by kernel_rfl)
  intro xs M t h
  unfold s161 at h
  split at h
  case h_2 => cases h
  rename_i a b c
  cases h
  refine ⟨fun l h => (nomatch h), ?_⟩
  intro hp
  rw [v161_vc]
  refine ends_pl ?_
  have ha := massI_range a
  have hb := massI_range b
  rw [wrap_id (n := massI a - massI b) (by omega) (by omega), wrap_id (n := 0 - (massI a - massI b)) (by omega) (by omega)]
  unfold nearB
  congr 1
  simp only [mm, cond_true]
  split <;> rw [decide_eq_decide] <;> constructor <;> omega
theorem tb6_ok : GamOk Tryz.prog eid (gam tb6) := gam_cons h161 tb5_ok
theorem h90 : Holds Tryz.prog eid 90 (s90) := by
  refine hold tb6_ok Tryz.func90 (by kernel_rfl) ?_ (by kernel_rfl)
  intro xs M t h
  unfold s90 at h
  split at h
  case h_2 => cases h
  rename_i a b c
  cases h
  refine ⟨fun l h => (nomatch h), ?_⟩
  intro hp
  rw [v90_vc]
  simp only [cnd_iff]
  refine ⟨fun h => ?_, fun h => ⟨fun k => ?_, fun k => ?_⟩⟩ <;> refine ends_pl ?_ <;> simp only [decide_eq_true_eq, decide_eq_false_iff_not] at * <;> simp [clampI, *]
theorem tb7_ok : GamOk Tryz.prog eid (gam tb7) := gam_cons h90 tb6_ok
theorem h92 : Holds Tryz.prog eid 92 (s92) := by
  refine hold tb7_ok Tryz.func92 (by kernel_rfl) ?_ (by kernel_rfl)
  intro xs M t h
  unfold s92 at h
  split at h
  case h_2 => cases h
  rename_i a
  cases h
  refine ⟨fun l h => (nomatch h), ?_⟩
  intro hp
  rw [v92_vc]
  exact ends_pl rfl
theorem tb8_ok : GamOk Tryz.prog eid (gam tb8) := gam_cons h92 tb7_ok
theorem h117 : Holds Tryz.prog eid 117 (s117) := by
  refine hold tb8_ok Tryz.func117 (by kernel_rfl) ?_ (by kernel_rfl)
  intro xs M t h
  unfold s117 at h
  split at h
  case h_2 => cases h
  rename_i a
  cases h
  refine ⟨fun l h => (nomatch h), ?_⟩
  intro hp
  rw [v117_vc]
  exact ends_pl (congrArg _ (mm_clamp (by decide) _))
theorem tb9_ok : GamOk Tryz.prog eid (gam tb9) := gam_cons h117 tb8_ok
theorem h220 : Holds Tryz.prog eid 220 (s220) := by
  refine hold tb9_ok Tryz.func220 (by kernel_rfl) ?_ (by kernel_rfl)
  intro xs M t h
  unfold s220 at h
  split at h
  case h_2 => cases h
  rename_i a
  cases h
  refine ⟨fun l h => (nomatch h), ?_⟩
  intro hp
  rw [v220_vc]
  exact ends_pl (congrArg _ (mm_clamp (by decide) _))
theorem tb10_ok : GamOk Tryz.prog eid (gam tb10) := gam_cons h220 tb9_ok
theorem h215 : Holds Tryz.prog eid 215 (s215) := by
  refine hold tb10_ok Tryz.func215 (by kernel_rfl) ?_ (by kernel_rfl)
  intro xs M t h
  unfold s215 at h
  split at h
  case h_2 => cases h
  rename_i a
  cases h
  refine ⟨fun l h => (nomatch h), ?_⟩
  intro hp
  rw [v215_vc]
  exact ends_pl (congrArg _ (mm_clamp (by decide) _))
theorem tb11_ok : GamOk Tryz.prog eid (gam tb11) := gam_cons h215 tb10_ok
theorem h100 : Holds Tryz.prog eid 100 (s100) := by
  refine hold tb11_ok Tryz.func100 (by kernel_rfl) ?_ (by kernel_rfl)
  intro xs M t h
  unfold s100 at h
  split at h
  case h_2 => cases h
  rename_i csc
  obtain ⟨c, hcc, h1⟩ := Option.bind_eq_some_iff.1 h
  clear h
  have h := h1
  clear h1
  cases h
  cases Lw.Config.of_eq hcc
  clear hcc
  refine ⟨fun l h => (nomatch h), ?_⟩
  intro hp
  rw [v100_vc]
  exact ends_pl rfl
theorem tb12_ok : GamOk Tryz.prog eid (gam tb12) := gam_cons h100 tb11_ok
theorem h162 : Holds Tryz.prog eid 162 (s162) := by
  refine hold tb12_ok Tryz.func162 (by kernel_rfl) ?_ (by kernel_rfl)
  intro xs M t h
  unfold s162 at h
  split at h
  case h_2 => cases h
  rename_i csc
  obtain ⟨c, hcc, h1⟩ := Option.bind_eq_some_iff.1 h
  clear h
  have h := h1
  clear h1
  cases h
  cases Lw.Config.of_eq hcc
  clear hcc
  refine ⟨fun l h => (nomatch h), ?_⟩
  intro hp
  rw [v162_vc]
  exact ends_pl (congrArg _ (mm_clamp (by decide) _))
theorem tb13_ok : GamOk Tryz.prog eid (gam tb13) := gam_cons h162 tb12_ok
theorem h34 : Holds Tryz.prog eid 34 (s34) := by
  refine hold tb13_ok Tryz.func34 (by kernel_rfl) ?_ (by kernel_rfl)
  intro xs M t h
  unfold s34 at h
  split at h
  case h_2 => cases h
  rename_i csc
  obtain ⟨c, hcc, h1⟩ := Option.bind_eq_some_iff.1 h
  clear h
  have h := h1
  clear h1
  cases h
  cases Lw.Config.of_eq hcc
  clear hcc
  refine ⟨fun l h => (nomatch h), ?_⟩
  intro hp
  rw [v34_vc]
  have := floorsI_range c.floors
  have := spanI_range c.door
  refine ends_pl (congrArg _ ?_)
  simp only [IntKind.wrap_i64, tripI]
  omega
theorem tb14_ok : GamOk Tryz.prog eid (gam tb14) := gam_cons h34 tb13_ok
theorem h124 : Holds Tryz.prog eid 124 (s124) := by
  refine hold tb14_ok Tryz.func124 (by kernel_rfl) ?_ (by kernel_rfl)
  intro xs M t h
  unfold s124 at h
  split at h
  case h_2 => cases h
  rename_i csc
  obtain ⟨c, hcc, h1⟩ := Option.bind_eq_some_iff.1 h
  clear h
  have h := h1
  clear h1
  cases h
  cases Lw.Config.of_eq hcc
  clear hcc
  refine ⟨fun l h => (nomatch h), ?_⟩
  intro hp
  rw [v124_vc]
  have := floorsI_range c.floors
  have := spanI_range c.door
  refine ends_pl (congrArg _ ?_)
  simp only [IntKind.wrap_i64, tripI]
  omega
theorem tb15_ok : GamOk Tryz.prog eid (gam tb15) := gam_cons h124 tb14_ok
theorem h46 : Holds Tryz.prog eid 46 (s46) := by
  refine hold tb15_ok Tryz.func46 (by kernel_rfl) ?_ (by kernel_rfl)
  intro xs M t h
  unfold s46 at h
  split at h
  case h_2 => cases h
  rename_i csc
  obtain ⟨c, hcc, h1⟩ := Option.bind_eq_some_iff.1 h
  clear h
  have h := h1
  clear h1
  cases h
  cases Lw.Config.of_eq hcc
  clear hcc
  refine ⟨fun l h => (nomatch h), ?_⟩
  intro hp
  rw [v46_vc]
  have := tripI_range c
  have hs := spanI_range c.hold
  have hr := renewI_range c.renew
  have hm := mul_range (a := spanI c.hold) (b := 2 + renewI c.renew) (A := 1000) (B := 1002) (by omega) (by omega) (by omega) (by omega)
  refine ends_pl (congrArg _ ?_)
  rw [wrap_id (n := 2 + renewI c.renew) (by omega) (by omega)]
  unfold leaseI
  generalize spanI c.hold * (2 + renewI c.renew) = z at hm
  simp only [IntKind.wrap_i64]
  omega
theorem tb16_ok : GamOk Tryz.prog eid (gam tb16) := gam_cons h46 tb15_ok
theorem h130 : Holds Tryz.prog eid 130 (s130) := by
  refine hold tb16_ok Tryz.func130 (by kernel_rfl) ?_ (by kernel_rfl)
  intro xs M t h
  unfold s130 at h
  split at h
  case h_2 => cases h
  rename_i a
  cases h
  refine ⟨fun l h => (nomatch h), ?_⟩
  intro hp
  rw [v130_vc]
  exact ends_pl (congrArg _ (mm_clamp (by decide) _))
theorem tb17_ok : GamOk Tryz.prog eid (gam tb17) := gam_cons h130 tb16_ok
theorem h66 : Holds Tryz.prog eid 66 (s66) := by
  refine hold tb17_ok Tryz.func66 (by kernel_rfl) ?_ (by kernel_rfl)
  intro xs M t h
  unfold s66 at h
  split at h
  case h_2 => cases h
  rename_i a b
  cases h
  refine ⟨fun l h => (nomatch h), ?_⟩
  intro hp
  rw [v66_vc]
  have := timeI_range a
  have := timeI_range b
  rw [wrap_id (by omega) (by omega)]
  exact ends_pl rfl
theorem tb18_ok : GamOk Tryz.prog eid (gam tb18) := gam_cons h66 tb17_ok
theorem h113 : Holds Tryz.prog eid 113 (s113) := by
  refine hold tb18_ok Tryz.func113 (by kernel_rfl) ?_ (by kernel_rfl)
  intro xs M t h
  unfold s113 at h
  split at h
  case h_2 => cases h
  rename_i a b
  cases h
  refine ⟨fun l h => (nomatch h), ?_⟩
  intro hp
  rw [v113_vc]
  exact ends_pl rfl
theorem tb19_ok : GamOk Tryz.prog eid (gam tb19) := gam_cons h113 tb18_ok
theorem h209 : Holds Tryz.prog eid 209 (s209) := by
  refine hold tb19_ok Tryz.func209 (by kernel_rfl) ?_ (by kernel_rfl)
  intro xs M t h
  unfold s209 at h
  split at h
  case h_2 => cases h
  rename_i a
  cases h
  refine ⟨fun l h => (nomatch h), ?_⟩
  intro hp
  rw [v209_vc]
  have := floorsI_range a
  refine ends_pl (congrArg _ ?_)
  simp only [IntKind.wrap_i64]
  omega
theorem tb20_ok : GamOk Tryz.prog eid (gam tb20) := gam_cons h209 tb19_ok
theorem h148 : Holds Tryz.prog eid 148 (s148) := by
  refine hold tb20_ok Tryz.func148 (by kernel_rfl) ?_ (by kernel_rfl)
  intro xs M t h
  unfold s148 at h
  split at h
  case h_2 => cases h
  rename_i a
  cases h
  refine ⟨fun l h => (nomatch h), ?_⟩
  intro hp
  rw [v148_vc]
  refine ⟨fun _ => by decide, cnd_iff.2 ⟨fun h => ?_, fun h => ⟨by decide, ?_⟩⟩⟩
  · have hb : levelB a = false := by
      by_cases h0 : 0 ≤ a
      · rw [Int.tmod_eq_emod_of_nonneg h0] at h
        simp only [show floorsI 64 = 64 by decide, c_and, c_or, Bool.and_eq_true, Bool.or_eq_true, Bool.and_eq_false_iff, Bool.or_eq_false_iff, Bool.not_eq_true', Bool.not_eq_false', beq_iff_eq, beq_eq_false_iff_ne, bne_iff_ne, bne_eq_false_iff_eq, ne_eq, decide_eq_true_eq, decide_eq_false_iff_not] at h
        unfold levelB; simp; omega
      · unfold levelB; simp; omega
    exact ends_v (by unfold levelF; rw [hb]; rfl) rfl
  · simp only [show floorsI 64 = 64 by decide, c_and, c_or, Bool.and_eq_true, Bool.or_eq_true, Bool.and_eq_false_iff, Bool.or_eq_false_iff, Bool.not_eq_true', Bool.not_eq_false', beq_iff_eq, beq_eq_false_iff_ne, bne_iff_ne, bne_eq_false_iff_eq, ne_eq, decide_eq_true_eq, decide_eq_false_iff_not] at h
    have h0 : 0 ≤ a := by omega
    rw [Int.tmod_eq_emod_of_nonneg h0] at h
    have hb : levelB a = true := by unfold levelB; simp; omega
    rw [Int.tdiv_eq_ediv_of_nonneg h0, wrap_id (by omega) (by omega)]
    exact ends_v (by unfold levelF; rw [hb]; rfl) rfl
theorem tb21_ok : GamOk Tryz.prog eid (gam tb21) := gam_cons h148 tb20_ok
theorem h200 : Holds Tryz.prog eid 200 (s200) := by
  refine hold tb21_ok Tryz.func200 (by kernel_rfl) ?_ (by kernel_rfl)
  intro xs M t h
  unfold s200 at h
  split at h
  case h_2 => cases h
  rename_i u w f
  cases h
  refine ⟨fun l h => (nomatch h), ?_⟩
  intro hp
  rw [v200_vc]
  have hp : r64 u := hp
  unfold r64 at hp
  have hf := floorsI_range f
  repeat' first
    | refine cnd_iff.2 ⟨fun _ => ?_, fun _ => ?_⟩
    | refine ends_pl (congrArg _ ?_)
  all_goals try simp only [c_and, c_or, Bool.and_eq_true, Bool.or_eq_true, Bool.and_eq_false_iff, Bool.or_eq_false_iff, Bool.not_eq_true', Bool.not_eq_false', beq_iff_eq, beq_eq_false_iff_ne, bne_iff_ne, bne_eq_false_iff_eq, ne_eq, decide_eq_true_eq, decide_eq_false_iff_not, mm_max, mm_min, IntKind.wrap_i64, moveI] at *
  all_goals (repeat' split)
  all_goals omega
theorem tb22_ok : GamOk Tryz.prog eid (gam tb22) := gam_cons h200 tb21_ok
theorem h192 : Holds Tryz.prog eid 192 (s192) := by
  refine hold tb22_ok Tryz.func192 (by kernel_rfl) ?_ (by kernel_rfl)
  intro xs M t h
  unfold s192 at h
  split at h
  case h_2 => cases h
  rename_i u f
  cases h
  refine ⟨fun l h => (nomatch h), ?_⟩
  intro hp
  rw [v192_vc]
  repeat' first
    | refine cnd_iff.2 ⟨fun _ => ?_, fun _ => ?_⟩
    | refine ends_pl (congrArg _ ?_)
  all_goals try simp only [c_and, c_or, Bool.and_eq_true, Bool.or_eq_true, Bool.and_eq_false_iff, Bool.or_eq_false_iff, Bool.not_eq_true', Bool.not_eq_false', beq_iff_eq, beq_eq_false_iff_ne, bne_iff_ne, bne_eq_false_iff_eq, ne_eq, decide_eq_true_eq, decide_eq_false_iff_not, mm_max, mm_min, IntKind.wrap_i64, towardI, at4] at *
  all_goals (repeat' split)
  all_goals omega
theorem tb23_ok : GamOk Tryz.prog eid (gam tb23) := gam_cons h192 tb22_ok
theorem h183 : Holds Tryz.prog eid 183 (s183) := by
  refine hold tb23_ok Tryz.func183 (by kernel_rfl) ?_ (by kernel_rfl)
  intro xs M t h
  unfold s183 at h
  split at h
  case h_2 => cases h
  rename_i u f
  cases h
  refine ⟨fun l h => (nomatch h), ?_⟩
  intro hp
  rw [v183_vc]
  exact ends_pl rfl
theorem tb24_ok : GamOk Tryz.prog eid (gam tb24) := gam_cons h183 tb23_ok
theorem door_eq {d : Lw.Door} {a b : Int} (h : d.state = a) (k : d.at_ = b) : Lw.Door.mk a b = d := by subst h; subst k; rfl
theorem goodD_mild {d : Lw.Door} {t : Int} (h : goodD d t = true) : mildD d := by
  have := spanI_range t
  simp only [goodD, decide_eq_true_eq] at h
  unfold mildD; omega
theorem h197 : Holds Tryz.prog eid 197 (s197) := by
  refine hold tb24_ok Tryz.func197 (by kernel_rfl) ?_ (by kernel_rfl)
  intro xs M t h
  unfold s197 at h
  split at h
  case h_2 => cases h
  rename_i csd
  obtain ⟨d, hcd, h1⟩ := Option.bind_eq_some_iff.1 h
  clear h
  have h := h1
  clear h1
  cases h
  cases Lw.Door.of_eq hcd
  clear hcd
  refine ⟨fun l h => (nomatch h), ?_⟩
  intro hp
  rw [v197_vc]
  repeat' first
    | refine cnd_iff.2 ⟨fun _ => ?_, fun _ => ?_⟩
    | refine Lw.Door.ends (x := openD d) ?_ ?_
  all_goals (unfold openD; simp only [c_and, c_or, Bool.and_eq_true, Bool.or_eq_true, Bool.and_eq_false_iff, Bool.or_eq_false_iff, Bool.not_eq_true', Bool.not_eq_false', beq_iff_eq, beq_eq_false_iff_ne, bne_iff_ne, bne_eq_false_iff_eq, ne_eq, decide_eq_true_eq, decide_eq_false_iff_not] at *; try split)
  all_goals omega
theorem tb25_ok : GamOk Tryz.prog eid (gam tb25) := gam_cons h197 tb24_ok
theorem h198 : Holds Tryz.prog eid 198 (s198) := by
  refine hold tb25_ok Tryz.func198 (by kernel_rfl) ?_ (by kernel_rfl)
  intro xs M t h
  unfold s198 at h
  split at h
  case h_2 => cases h
  rename_i csd
  obtain ⟨d, hcd, h1⟩ := Option.bind_eq_some_iff.1 h
  clear h
  have h := h1
  clear h1
  cases h
  cases Lw.Door.of_eq hcd
  clear hcd
  refine ⟨fun l h => (nomatch h), ?_⟩
  intro hp
  rw [v198_vc]
  repeat' first
    | refine cnd_iff.2 ⟨fun _ => ?_, fun _ => ?_⟩
    | refine Lw.Door.ends (x := closeD d) ?_ ?_
  all_goals (unfold closeD; simp only [c_and, c_or, Bool.and_eq_true, Bool.or_eq_true, Bool.and_eq_false_iff, Bool.or_eq_false_iff, Bool.not_eq_true', Bool.not_eq_false', beq_iff_eq, beq_eq_false_iff_ne, bne_iff_ne, bne_eq_false_iff_eq, ne_eq, decide_eq_true_eq, decide_eq_false_iff_not] at *; try split)
  all_goals omega
theorem tb26_ok : GamOk Tryz.prog eid (gam tb26) := gam_cons h198 tb25_ok
theorem h199 : Holds Tryz.prog eid 199 (s199) := by
  refine hold tb26_ok Tryz.func199 (by kernel_rfl) ?_ (by kernel_rfl)
  intro xs M t h
  unfold s199 at h
  split at h
  case h_2 => cases h
  rename_i csd t b
  obtain ⟨d, hcd, h1⟩ := Option.bind_eq_some_iff.1 h
  clear h
  have h := h1
  clear h1
  cases h
  cases Lw.Door.of_eq hcd
  clear hcd
  refine ⟨fun l h => (nomatch h), ?_⟩
  intro hp
  rw [v199_vc]
  have hs := spanI_range t
  have hp : mildD d := hp
  unfold mildD at hp
  try rw [wrap_id (n := d.at_ - 1) (by omega) (by omega)]
  try rw [wrap_id (n := d.at_ + 1) (by omega) (by omega)]
  repeat' first
    | refine cnd_iff.2 ⟨fun _ => ?_, fun _ => ?_⟩
    | refine Lw.Door.ends (x := tickD d t b) ?_ ?_
  all_goals (unfold tickD; simp only [c_and, c_or, Bool.and_eq_true, Bool.or_eq_true, Bool.and_eq_false_iff, Bool.or_eq_false_iff, Bool.not_eq_true', Bool.not_eq_false', beq_iff_eq, beq_eq_false_iff_ne, bne_iff_ne, bne_eq_false_iff_eq, ne_eq, decide_eq_true_eq, decide_eq_false_iff_not, mm_max, mm_min] at *)
  all_goals (cases b <;> simp only [Bool.false_eq_true, and_false, and_true, if_false] at * <;> (repeat' split) <;> simp only at * <;> first | omega | contradiction | (simp_all; done) | (simp_all; omega))
theorem tb27_ok : GamOk Tryz.prog eid (gam tb27) := gam_cons h199 tb26_ok
theorem door_goods {d : Lw.Door} {t : Int} (h : goodD d t = true) : (goodD (openD d) t = true ∧ (openD d).at_ = d.at_) ∧ (goodD (closeD d) t = true ∧ (closeD d).at_ = d.at_) ∧ ∀ b, goodD (tickD d t b) t = true ∧ (tickD d t b).at_ - d.at_ ≤ 1 ∧ d.at_ - (tickD d t b).at_ ≤ 1 := by
  have hs := spanI_range t
  simp only [goodD, decide_eq_true_eq] at *
  refine ⟨⟨?_, rfl⟩, ⟨?_, rfl⟩, fun b => ?_⟩
  · unfold openD; simp only; split <;> omega
  · unfold closeD; simp only; split <;> omega
  · unfold tickD
    (repeat' split) <;> (try simp only) <;> (refine ⟨?_, ?_, ?_⟩) <;> first | omega | (simp; done) | (simp; omega)
theorem goodD_range {d : Lw.Door} {t : Int} (h : goodD d t = true) : 0 ≤ d.at_ ∧ d.at_ ≤ 1000 := by
  have hs := spanI_range t
  simp only [goodD, decide_eq_true_eq] at h
  omega
theorem stay_ok {d e : Lw.Door} {t : Int} (hd : goodD d t = true) (he : goodD e t = true) (h1 : e.at_ - d.at_ ≤ 1) (h2 : d.at_ - e.at_ ≤ 1) :
    (bif bif !goodD e t then true else decide (IntKind.i64.wrap (e.at_ - d.at_) > 1) then true else decide (IntKind.i64.wrap (d.at_ - e.at_) > 1)) = false := by
  have := goodD_range hd
  have := goodD_range he
  rw [he, wrap_id (by omega) (by omega), wrap_id (by omega) (by omega)]
  simp; omega
theorem step_stay {c : Config} {x : Lw.Car} {m : Lw.Cmd} {D : Lw.Door} {p : Option Prop} {M : Mem} (hd : toldD x m = D) (hn : ¬ (x.broken = false ∧ x.door.state = 0 ∧ (tickD D c.door x.blocked).state = 0 ∧ (m.run = 1 ∨ m.run = 2))) : Lw.Ends 0 ⟨p, vs (stepC c x m).enc, none, []⟩ [] (.one (.agg [.pl (.int .i64 (tickD D c.door x.blocked).state), .pl (.int .i64 (tickD D c.door x.blocked).at_), .pl (.int .i64 x.unit), .pl (.int .i64 x.way), .pl (.int .i64 x.timer), .pl (.int .i64 x.just), .pl (.int .i64 x.load), .pl (.bool x.blocked), .pl (.bool x.broken), .pl (.int .i64 x.mode), .pl (.int .i64 x.target), .pl (.bool x.hold), .pl (.int .u64 x.stops.press), .pl (.int .u64 x.stops.up), .pl (.int .u64 x.stops.down)])) M := by
  subst hd
  unfold stepC
  rw [if_neg hn]
  exact ends_v rfl rfl
theorem step_move {c : Config} {x : Lw.Car} {m : Lw.Cmd} {D : Lw.Door} {p : Option Prop} {M : Mem} (hd : toldD x m = D) (hn : x.broken = false ∧ x.door.state = 0 ∧ (tickD D c.door x.blocked).state = 0 ∧ (m.run = 1 ∨ m.run = 2)) : Lw.Ends 0 ⟨p, vs (stepC c x m).enc, none, []⟩ [] (.one (.agg [.pl (.int .i64 (tickD D c.door x.blocked).state), .pl (.int .i64 (tickD D c.door x.blocked).at_), .pl (.int .i64 (moveI x.unit m.run c.floors)), .pl (.int .i64 m.run), .pl (.int .i64 x.timer), .pl (.int .i64 x.just), .pl (.int .i64 x.load), .pl (.bool x.blocked), .pl (.bool x.broken), .pl (.int .i64 x.mode), .pl (.int .i64 x.target), .pl (.bool x.hold), .pl (.int .u64 x.stops.press), .pl (.int .u64 x.stops.up), .pl (.int .u64 x.stops.down)])) M := by
  subst hd
  unfold stepC
  rw [if_pos hn]
  exact ends_v rfl rfl
theorem told_b {x : Lw.Car} {m : Lw.Cmd} (h : x.broken = true) : toldD x m = x.door := by unfold toldD; rw [if_pos h]
theorem told_o {x : Lw.Car} {m : Lw.Cmd} (h : x.broken = false) (k : m.open_ = true ∧ levelB x.unit = true) : toldD x m = openD x.door := by unfold toldD; rw [if_neg (by simp [h]), if_pos k]
theorem told_c {x : Lw.Car} {m : Lw.Cmd} (h : x.broken = false) (k : m.open_ = false ∨ levelB x.unit = false) (l : m.close = true) : toldD x m = closeD x.door := by
  unfold toldD
  rw [if_neg (by simp [h]), if_neg (by rcases k with k | k <;> simp [k]), if_pos l]
theorem told_n {x : Lw.Car} {m : Lw.Cmd} (h : x.broken = false) (k : m.open_ = false ∨ levelB x.unit = false) (l : m.close = false ∨ ¬ (x.door.state = 1 ∨ x.door.state = 2)) : toldD x m = x.door := by
  unfold toldD
  rw [if_neg (by simp [h]), if_neg (by rcases k with k | k <;> simp [k])]
  split
  · rcases l with l | l
    · simp_all
    · unfold closeD; rw [if_neg l]
  · rfl
theorem openD_eq {d : Lw.Door} (h : d.state = 0 ∨ d.state = 3) : openD d = ⟨1, d.at_⟩ := by unfold openD; rw [if_pos h]
theorem openD_id {d : Lw.Door} (h : ¬ (d.state = 0 ∨ d.state = 3)) : openD d = d := by unfold openD; rw [if_neg h]
theorem closeD_eq {d : Lw.Door} (h : d.state = 1 ∨ d.state = 2) : closeD d = ⟨3, d.at_⟩ := by unfold closeD; rw [if_pos h]
theorem closeD_id {d : Lw.Door} (h : ¬ (d.state = 1 ∨ d.state = 2)) : closeD d = d := by unfold closeD; rw [if_neg h]
theorem h65 : Holds Tryz.prog eid 65 (s65) := by
  refine hold tb27_ok Tryz.func65 (by kernel_rfl) ?_ (by kernel_rfl)
  intro xs M t h
  unfold s65 at h
  split at h
  case h_2 => cases h
  cases h
  refine ⟨fun l h => (nomatch h), ?_⟩
  intro hp
  rw [v65_vc]
  exact ends_v rfl rfl
theorem tb28_ok : GamOk Tryz.prog eid (gam tb28) := gam_cons h65 tb27_ok
theorem h196 : Holds Tryz.prog eid 196 (s196) := by
  refine hold tb28_ok Tryz.func196 (by kernel_rfl) ?_ (by kernel_rfl)
  intro xs M t h
  unfold s196 at h
  split at h
  case h_2 => cases h
  rename_i csx
  obtain ⟨x, hcx, h1⟩ := Option.bind_eq_some_iff.1 h
  clear h
  have h := h1
  clear h1
  cases h
  cases Lw.Car.of_eq hcx
  clear hcx
  refine ⟨fun l h => (nomatch h), ?_⟩
  intro hp
  rw [v196_vc]
  exact ends_pl rfl
theorem tb29_ok : GamOk Tryz.prog eid (gam tb29) := gam_cons h196 tb28_ok
theorem h135 : Holds Tryz.prog eid 135 (s135) := by
  refine hold tb29_ok Tryz.func135 (by kernel_rfl) ?_ (by kernel_rfl)
  intro xs M t h
  unfold s135 at h
  split at h
  case h_2 => cases h
  rename_i csc csx csm
  obtain ⟨c, hcc, h1⟩ := Option.bind_eq_some_iff.1 h
  clear h
  have h := h1
  clear h1
  obtain ⟨x, hcx, h1⟩ := Option.bind_eq_some_iff.1 h
  clear h
  have h := h1
  clear h1
  obtain ⟨m, hcm, h1⟩ := Option.bind_eq_some_iff.1 h
  clear h
  have h := h1
  clear h1
  cases h
  cases Lw.Config.of_eq hcc
  clear hcc
  cases Lw.Car.of_eq hcx
  clear hcx
  cases Lw.Cmd.of_eq hcm
  clear hcm
  refine ⟨fun l h => (nomatch h), ?_⟩
  intro hp
  rw [v135_vc]
  have hp : mildC x := hp
  obtain ⟨hm, hu⟩ := hp
  have hmo : mildD (openD x.door) := hm
  have hmc : mildD (closeD x.door) := hm
  have hm1 : ∀ a, mildD ⟨a, x.door.at_⟩ := fun a => hm
  repeat' first
    | refine cnd_iff.2 ⟨fun _ => ?_, fun _ => ?_⟩
    | refine ⟨hm, ?_⟩
    | refine ⟨hmo, ?_⟩
    | refine ⟨hmc, ?_⟩
    | refine ⟨hm1 _, ?_⟩
    | refine ⟨hu, ?_⟩
    | refine step_move ?_ ?_
    | refine step_stay ?_ ?_
  all_goals (clear hm hu hmo hmc hm1; try simp only [c_and, c_or, Bool.and_eq_true, Bool.or_eq_true, Bool.and_eq_false_iff, Bool.or_eq_false_iff, Bool.not_eq_true', Bool.not_eq_false', beq_iff_eq, beq_eq_false_iff_ne, bne_iff_ne, bne_eq_false_iff_eq, ne_eq, decide_eq_true_eq, decide_eq_false_iff_not] at *)
  all_goals first
    | (refine told_b ?_; simp_all; done)
    | (refine told_o ?_ ?_ <;> first | assumption | (simp_all; done))
    | (refine (told_o ?_ ?_).trans (openD_eq ?_) <;> first | assumption | omega | (simp_all; done))
    | (refine (told_o ?_ ?_).trans (openD_id ?_) <;> first | assumption | omega | (simp_all; done))
    | (refine told_c ?_ ?_ ?_ <;> first | assumption | (simp_all; done))
    | (refine (told_c ?_ ?_ ?_).trans (closeD_eq ?_) <;> first | assumption | omega | (simp_all; done))
    | (refine told_n ?_ ?_ ?_ <;> first | assumption | (simp_all; done) | (left; simp_all; done) | (right; omega))
    | (simp_all; done)
    | (intro h; simp_all; done)
    | (intro h; simp_all; omega)
    | (rintro ⟨h1, h2, h3, h4⟩; omega)
    | omega
    | trace_state
theorem tb30_ok : GamOk Tryz.prog eid (gam tb30) := gam_cons h135 tb29_ok
theorem cntI_range (x : Int) : 0 ≤ cntI x ∧ cntI x ≤ 64 := by
  have := cnt_le 64 x.toNat
  unfold cntI; omega
theorem onesI_range (s : Lw.Stops) : 0 ≤ onesI s ∧ onesI s ≤ 192 := by
  have := cntI_range s.press
  have := cntI_range s.up
  have := cntI_range s.down
  unfold onesI; omega
theorem cnt_high (i x : Nat) : cnt (i + 1) x = cnt i x + x / 2 ^ i % 2 := by
  rw [cnt_add i 1 x]; rfl
theorem and_one (n : Nat) (h : n < 18446744073709551616) : bitsI .and .u64 (n : Int) 1 = ((n % 2 : Nat) : Int) := by
  rw [and_nat' (n := 1) (by rfl) h (by decide), Nat.and_one_is_mod]
theorem bit_ok {b f : Int} (hb : u64R b) (h0 : 0 ≤ f) (h1 : f < 64) : (bitsI .and .u64 (shI .u64 false b (IntKind.u64.wrap f)) 1 == 1) = decide (b.toNat / 2 ^ f.toNat % 2 = 1) := by
  obtain ⟨n, rfl⟩ : ∃ n : Nat, b = (n : Int) := ⟨b.toNat, by unfold u64R at hb; omega⟩
  obtain ⟨k, rfl⟩ : ∃ k : Nat, f = (k : Int) := ⟨f.toNat, by omega⟩
  unfold u64R at hb
  rw [IntKind.wrap_u64, show (k : Int) % 18446744073709551616 = (k : Int) by omega, sh_nat n k (by omega), and_one _ (Nat.lt_of_le_of_lt (Nat.div_le_self _ _) (by omega)), Int.toNat_natCast, Int.toNat_natCast]
  generalize n / 2 ^ k % 2 = z
  rw [Bool.eq_iff_iff]
  simp only [beq_iff_eq, decide_eq_true_eq]
  omega
theorem h221 : Holds Tryz.prog eid 221 (s221) := by
  refine hold tb30_ok Tryz.func221 (by kernel_rfl) ?_ (by kernel_rfl)
  intro xs M t h
  unfold s221 at h
  split at h
  case h_2 => cases h
  rename_i a
  cases h
  refine ⟨fun l h => (nomatch h), ?_⟩
  intro hp
  rw [v221_vc]
  have hp : u64R a := hp
  unfold u64R at hp
  obtain ⟨n, rfl⟩ : ∃ n : Nat, a = (n : Int) := ⟨a.toNat, by omega⟩
  exact ⟨by decide, by decide, by decide, by decide, by decide, by decide, ends_pl (congrArg _ (pop_int (by omega) rfl rfl rfl rfl rfl rfl))⟩
theorem tb31_ok : GamOk Tryz.prog eid (gam tb31) := gam_cons h221 tb30_ok
theorem h208 : Holds Tryz.prog eid 208 (s208) := by
  refine hold tb31_ok Tryz.func208 (by kernel_rfl) ?_ (by kernel_rfl)
  intro xs M t h
  unfold s208 at h
  split at h
  case h_2 => cases h
  rename_i css
  obtain ⟨s, hcs, h1⟩ := Option.bind_eq_some_iff.1 h
  clear h
  have h := h1
  clear h1
  cases h
  cases Lw.Stops.of_eq hcs
  clear hcs
  refine ⟨fun l h => (nomatch h), ?_⟩
  intro hp
  rw [v208_vc]
  have hp : stopsR s := hp
  have := cntI_range s.press
  have := cntI_range s.up
  have := cntI_range s.down
  refine ⟨hp.1, hp.2.1, hp.2.2, ends_pl (congrArg _ ?_)⟩
  rw [wrap_id (n := cntI s.press + cntI s.up) (by omega) (by omega), wrap_id (by omega) (by omega)]
  rfl
theorem tb32_ok : GamOk Tryz.prog eid (gam tb32) := gam_cons h208 tb31_ok
theorem h216 : Holds Tryz.prog eid 216 (s216) := by
  refine hold tb32_ok Tryz.func216 (by kernel_rfl) ?_ (by kernel_rfl)
  intro xs M t h
  unfold s216 at h
  split at h
  case h_2 => cases h
  rename_i csx csk
  obtain ⟨x, hcx, h1⟩ := Option.bind_eq_some_iff.1 h
  clear h
  have h := h1
  clear h1
  obtain ⟨k, hck, h1⟩ := Option.bind_eq_some_iff.1 h
  clear h
  have h := h1
  clear h1
  cases h
  cases Lw.Car.of_eq hcx
  clear hcx
  cases Lw.Call.of_eq hck
  clear hck
  refine ⟨fun l h => (nomatch h), ?_⟩
  intro hp
  rw [v216_vc]
  repeat' first
    | refine cnd_iff.2 ⟨fun _ => ?_, fun _ => ?_⟩
    | refine ends_pl (congrArg _ ?_)
  all_goals (simp only [c_and, c_or, Bool.and_eq_true, Bool.or_eq_true, Bool.and_eq_false_iff, Bool.or_eq_false_iff, Bool.not_eq_true', Bool.not_eq_false', beq_iff_eq, beq_eq_false_iff_ne, bne_iff_ne, bne_eq_false_iff_eq, ne_eq, decide_eq_true_eq, decide_eq_false_iff_not] at *; unfold onwayB; simp_all)
theorem tb33_ok : GamOk Tryz.prog eid (gam tb33) := gam_cons h216 tb32_ok
theorem h190 : Holds Tryz.prog eid 190 (s190) := by
  refine hold tb33_ok Tryz.func190 (by kernel_rfl) ?_ (by kernel_rfl)
  intro xs M t h
  unfold s190 at h
  split at h
  case h_2 => cases h
  rename_i csc csx csk
  obtain ⟨c, hcc, h1⟩ := Option.bind_eq_some_iff.1 h
  clear h
  have h := h1
  clear h1
  obtain ⟨x, hcx, h1⟩ := Option.bind_eq_some_iff.1 h
  clear h
  have h := h1
  clear h1
  obtain ⟨k, hck, h1⟩ := Option.bind_eq_some_iff.1 h
  clear h
  have h := h1
  clear h1
  cases h
  cases Lw.Config.of_eq hcc
  clear hcc
  cases Lw.Car.of_eq hcx
  clear hcx
  cases Lw.Call.of_eq hck
  clear hck
  refine ⟨fun l h => (nomatch h), ?_⟩
  intro hp
  rw [v190_vc]
  have hp : stopsR x.stops := hp
  refine ⟨hp, cnd_iff.2 ⟨fun h => ends_pl (congrArg _ ?_), fun h => ends_pl (congrArg _ ?_)⟩⟩
  · have h : onwayB x k = false := by simpa using h
    unfold costP; rw [h]; rfl
  · have h : onwayB x k = true := by simpa using h
    unfold costP; rw [h]; rfl
theorem tb34_ok : GamOk Tryz.prog eid (gam tb34) := gam_cons h190 tb33_ok
theorem cnt_or : ∀ (n x y : Nat), cnt n x ≤ cnt n (x ||| y)
  | 0, _, _ => Nat.le_refl _
  | n + 1, x, y => by
    have ih := cnt_or n (x / 2) (y / 2)
    have h := Nat.or_mod_two_eq_one (a := x) (b := y)
    rw [cnt_succ, cnt_succ, Nat.or_div_two]
    omega
theorem or_nat (m n : Nat) (hm : m < 18446744073709551616) (hn : n < 18446744073709551616) : bitsI .or .u64 (m : Int) (n : Int) = ((m ||| n : Nat) : Int) ∧ (m ||| n) < 18446744073709551616 := by
  have hmn : (m ||| n) < 2 ^ 64 := Nat.or_lt_two_pow (n := 64) hm hn
  refine ⟨?_, hmn⟩
  unfold bitsI
  have e1 : (BitVec.ofInt IntKind.u64.bits (m : Int)).toNat = m := by
    show (BitVec.ofInt 64 (m : Int)).toNat = m
    rw [BitVec.toNat_ofInt]; omega
  have e2 : (BitVec.ofInt IntKind.u64.bits (n : Int)).toNat = n := by
    show (BitVec.ofInt 64 (n : Int)).toNat = n
    rw [BitVec.toNat_ofInt]; omega
  simp only [BitVec.toNat_or, e1, e2]
  rw [IntKind.wrap_u64]; omega
theorem shl_one (k : Nat) (hk : k < 64) : shI .u64 true 1 (k : Int) = ((2 ^ k : Nat) : Int) ∧ 2 ^ k < 18446744073709551616 := by
  have h : 2 ^ k < 2 ^ 64 := Nat.pow_lt_pow_right (by decide) hk
  refine ⟨?_, h⟩
  unfold shI
  rw [show min ((k : Int).toNat) (IntKind.u64.bits) = k by rw [Int.toNat_natCast]; exact Nat.min_eq_left (Nat.le_of_lt hk)]
  simp only [cond_true, Int.one_mul]
  rw [IntKind.wrap_u64]
  have : ((2 : Int) ^ k) = ((2 ^ k : Nat) : Int) := by norm_cast
  rw [this]
  exact Int.emod_eq_of_lt (Int.natCast_nonneg _) (Int.ofNat_lt.2 h)
theorem bitI_nat (f : Int) : ∃ n : Nat, bitI f = (n : Int) ∧ n < 18446744073709551616 := by
  unfold bitI
  split
  · exact ⟨_, rfl, (shl_one f.toNat (by omega)).2⟩
  · exact ⟨0, rfl, by decide⟩
theorem more_stops {s : Lw.Stops} (h : stopsR s) (f : Int) : stopsR ⟨bitsI .or .u64 s.press (bitI f), s.up, s.down⟩ ∧ onesI s ≤ onesI ⟨bitsI .or .u64 s.press (bitI f), s.up, s.down⟩ := by
  obtain ⟨h1, h2, h3⟩ := h
  obtain ⟨n, hn, hlt⟩ := bitI_nat f
  obtain ⟨m, hm⟩ : ∃ m : Nat, s.press = (m : Int) := ⟨s.press.toNat, by unfold u64R at h1; omega⟩
  have hml : m < 18446744073709551616 := by unfold u64R at h1; omega
  obtain ⟨e, el⟩ := or_nat m n hml hlt
  rw [hm, hn, e]
  refine ⟨⟨by unfold u64R; simp only; omega, h2, h3⟩, ?_⟩
  have := cnt_or 64 m n
  unfold onesI cntI
  simp only [hm, Int.toNat_natCast]
  omega
theorem base_val {far : Int} {c : Config} {x : Lw.Car} (h0 : 0 ≤ far) (h1 : far ≤ 252) : baseI far c x = far + onesI x.stops * (2 * spanI c.door + spanI c.dwell) ∧ 0 ≤ onesI x.stops * (2 * spanI c.door + spanI c.dwell) ∧ onesI x.stops * (2 * spanI c.door + spanI c.dwell) ≤ 576000 := by
  have hx := onesI_range x.stops
  have hd := spanI_range c.door
  have hw := spanI_range c.dwell
  have p := mul_range (a := onesI x.stops) (b := 2 * spanI c.door + spanI c.dwell) (A := 192) (B := 3000) hx.1 hx.2 (by omega) (by omega)
  have p2 : onesI x.stops * (2 * spanI c.door + spanI c.dwell) ≤ 576000 := p.2
  refine ⟨?_, p.1, p2⟩
  unfold baseI
  rw [wrap_id (n := 2 * spanI c.door) (by omega) (by omega), wrap_id (n := 2 * spanI c.door + spanI c.dwell) (by omega) (by omega), wrap_id (n := onesI x.stops * (2 * spanI c.door + spanI c.dwell)) (by omega) (by omega), wrap_id (by omega) (by omega)]
theorem more_cost {c : Config} {x : Lw.Car} {k : Lw.Call} {t : Lw.Stops} (hin : insideB x k = true) (h : onesI x.stops ≤ onesI t) : costP c ⟨x.door, x.unit, x.way, x.timer, x.just, x.load, x.blocked, x.broken, x.mode, x.target, x.hold, t⟩ k ≥ costP c x k := by
  simp only [insideB, Bool.and_eq_true, decide_eq_true_eq] at hin
  have h4 : at4 k.floor = 4 * k.floor := wrap_id (by omega) (by omega)
  have hf : 0 ≤ farP x.unit k.floor ∧ farP x.unit k.floor ≤ 252 := by
    unfold farP
    rw [h4, wrap_id (n := 4 * k.floor - x.unit) (by omega) (by omega), wrap_id (n := x.unit - 4 * k.floor) (by omega) (by omega), mm_max]
    omega
  have hfl := floorsI_range c.floors
  have ht : turnI c = 8 * (floorsI c.floors - 1) := by
    unfold turnI
    rw [wrap_id (n := floorsI c.floors - 1) (by omega) (by omega), wrap_id (by omega) (by omega)]
  obtain ⟨b1, q1, q2⟩ := base_val (c := c) (x := x) hf.1 hf.2
  obtain ⟨b2, q3, q4⟩ := base_val (c := c) (x := ⟨x.door, x.unit, x.way, x.timer, x.just, x.load, x.blocked, x.broken, x.mode, x.target, x.hold, t⟩) hf.1 hf.2
  have hd := spanI_range c.door
  have hw := spanI_range c.dwell
  have pm : onesI x.stops * (2 * spanI c.door + spanI c.dwell) ≤ onesI t * (2 * spanI c.door + spanI c.dwell) := Int.mul_le_mul_of_nonneg_right h (by omega)
  unfold costP
  rw [show onwayB ⟨x.door, x.unit, x.way, x.timer, x.just, x.load, x.blocked, x.broken, x.mode, x.target, x.hold, t⟩ k = onwayB x k from rfl, b1, b2]
  simp only at q3 q4 ⊢
  generalize onesI x.stops * (2 * spanI c.door + spanI c.dwell) = u at *
  generalize onesI t * (2 * spanI c.door + spanI c.dwell) = v at *
  cases onwayB x k
  · simp only [cond_false]
    rw [ht, wrap_id (by omega) (by omega), wrap_id (by omega) (by omega)]
    omega
  · simp only [cond_true]
    omega
theorem has_tb (b f : Int) : hasB b f = (decide (0 ≤ f ∧ f < 64) && b.toNat.testBit f.toNat) := by
  unfold hasB
  rw [Nat.testBit_eq_decide_div_mod_eq, Bool.eq_iff_iff]
  simp [and_assoc]
theorem bv_of {x : Int} (h : u64R x) : (BitVec.ofInt 64 x).toNat = x.toNat := by
  unfold u64R at h
  rw [BitVec.toNat_ofInt]; omega
theorem bits_val (op : BinOp) (x y : Int) : bitsI op .u64 x y = (((match op with
    | .and => BitVec.ofInt 64 x &&& BitVec.ofInt 64 y
    | .or => BitVec.ofInt 64 x ||| BitVec.ofInt 64 y
    | .xor => BitVec.ofInt 64 x ^^^ BitVec.ofInt 64 y
    | _ => BitVec.ofInt 64 x &&& ~~~ BitVec.ofInt 64 y : BitVec 64).toNat : Nat) : Int) := by
  unfold bitsI
  rw [IntKind.wrap_u64]
  exact Int.emod_eq_of_lt (Int.natCast_nonneg _) (Int.ofNat_lt.2 (BitVec.isLt _))
theorem bits_R (op : BinOp) (x y : Int) : u64R (bitsI op .u64 x y) := by
  unfold bitsI u64R
  rw [IntKind.wrap_u64]; omega
theorem bitI_R (f : Int) : u64R (bitI f) := by
  obtain ⟨n, h, k⟩ := bitI_nat f
  unfold u64R; omega
theorem has_or {x y : Int} (hx : u64R x) (hy : u64R y) (f : Int) : hasB (bitsI .or .u64 x y) f = (hasB x f || hasB y f) := by
  rw [has_tb, has_tb, has_tb, bits_val, Int.toNat_natCast, BitVec.toNat_or, bv_of hx, bv_of hy, Nat.testBit_or]
  cases decide (0 ≤ f ∧ f < 64) <;> rfl
theorem has_and {x y : Int} (hx : u64R x) (hy : u64R y) (f : Int) : hasB (bitsI .and .u64 x y) f = (hasB x f && hasB y f) := by
  rw [has_tb, has_tb, has_tb, bits_val, Int.toNat_natCast, BitVec.toNat_and, bv_of hx, bv_of hy, Nat.testBit_and]
  cases decide (0 ≤ f ∧ f < 64) <;> rfl
theorem has_andNot {x y : Int} (hx : u64R x) (hy : u64R y) (f : Int) : hasB (bitsI .andNot .u64 x y) f = (hasB x f && !hasB y f) := by
  rw [has_tb, has_tb, has_tb, bits_val, Int.toNat_natCast, BitVec.testBit_toNat, BitVec.getLsbD_and, BitVec.getLsbD_not, ← BitVec.testBit_toNat, ← BitVec.testBit_toNat, bv_of hx, bv_of hy]
  by_cases h : 0 ≤ f ∧ f < 64
  · rw [decide_eq_true h, decide_eq_true (show f.toNat < 64 by omega)]; rfl
  · rw [decide_eq_false h]; rfl
theorem has_zero (f : Int) : hasB 0 f = false := by
  rw [has_tb]; simp
theorem has_bit (g f : Int) : hasB (bitI g) f = (decide (0 ≤ f ∧ f < 64) && decide (f = g)) := by
  unfold bitI
  split
  · rename_i h
    rw [has_tb, Int.toNat_natCast, Nat.testBit_two_pow]
    by_cases h' : 0 ≤ f ∧ f < 64
    · rw [decide_eq_true h', Bool.true_and, Bool.true_and, decide_eq_decide]; omega
    · rw [decide_eq_false h']; rfl
  · rename_i h
    rw [has_zero]
    by_cases h' : 0 ≤ f ∧ f < 64
    · rw [decide_eq_false (show ¬ f = g by omega), Bool.and_false]
    · rw [decide_eq_false h']; rfl
theorem has_range {b f : Int} (h : hasB b f = true) : 0 ≤ f ∧ f < 64 := by
  rw [has_tb, Bool.and_eq_true, decide_eq_true_eq] at h
  exact h.1
theorem has_ext {a b : Int} (ha : u64R a) (hb : u64R b) (h : ∀ f, 0 ≤ f → f < 64 → hasB a f = hasB b f) : a = b := by
  unfold u64R at ha hb
  have : a.toNat = b.toNat := Nat.eq_of_testBit_eq fun i => by
    by_cases hi : i < 64
    · have := h i (by omega) (by omega)
      rw [has_tb, has_tb, decide_eq_true (show 0 ≤ (i : Int) ∧ (i : Int) < 64 by omega), Int.toNat_natCast] at this
      simpa using this
    · have hp : 2 ^ 64 ≤ 2 ^ i := Nat.pow_le_pow_right (by decide) (by omega)
      rw [Nat.testBit_lt_two_pow (x := a.toNat) (by omega), Nat.testBit_lt_two_pow (x := b.toNat) (by omega)]
  omega
theorem and_test {a : Int} (ha : u64R a) (f : Int) : (bitsI .and .u64 a (bitI f) != 0) = hasB a f := by
  rw [Bool.eq_iff_iff, bne_iff_ne]
  constructor
  · intro h
    cases hh : hasB a f
    · refine absurd (has_ext (bits_R _ _ _) (by unfold u64R; omega) fun g h0 h1 => ?_) h
      rw [has_and ha (bitI_R f), has_bit, has_zero]
      by_cases hg : g = f
      · subst hg; rw [hh]; rfl
      · rw [decide_eq_false hg, Bool.and_false, Bool.and_false]
    · rfl
  · intro h k
    have := has_and ha (bitI_R f) f
    rw [k, has_zero, h, has_bit, decide_eq_true (has_range h)] at this
    simp at this
theorem any_or {s : Lw.Stops} (h : stopsR s) (f : Int) : hasB (bitsI .or .u64 (bitsI .or .u64 s.press s.up) s.down) f = anyB s f := by
  rw [has_or (bits_R _ _ _) h.2.2, has_or h.1 h.2.1, Bool.or_assoc]; rfl
theorem aheadN_iff {s : Lw.Stops} {f w : Int} : ∀ {n : Nat}, aheadN s f w n = true ↔ ∃ k : Int, 0 ≤ k ∧ k < n ∧ anyB s k = true ∧ thatB k f w = true
  | 0 => by
    unfold aheadN
    constructor
    · intro h; cases h
    · rintro ⟨k, h0, h1, _⟩; omega
  | n + 1 => by
    unfold aheadN
    rw [Bool.or_eq_true, aheadN_iff, Bool.and_eq_true]
    constructor
    · rintro (⟨k, h0, h1, h2⟩ | h)
      · exact ⟨k, h0, by omega, h2⟩
      · exact ⟨n, by omega, by omega, h⟩
    · rintro ⟨k, h0, h1, h2⟩
      by_cases hk : k = n
      · subst hk; exact .inr h2
      · exact .inl ⟨k, h0, by omega, h2⟩
theorem aheadB_iff {s : Lw.Stops} {f w : Int} : aheadB s f w = true ↔ ∃ k : Int, 0 ≤ k ∧ k < 64 ∧ anyB s k = true ∧ thatB k f w = true := aheadN_iff
theorem h173 : Holds Tryz.prog eid 173 (s173) := by
  refine hold tb34_ok Tryz.func173 (by kernel_rfl) ?_ (by kernel_rfl)
  intro xs M t h
  unfold s173 at h
  split at h
  case h_2 => cases h
  rename_i f
  cases h
  refine ⟨fun l h => (nomatch h), ?_⟩
  intro hp
  rw [v173_vc]
  refine cnd_iff.2 ⟨fun h => ?_, fun h => ?_⟩ <;> simp only [c_and, c_or, Bool.and_eq_true, Bool.or_eq_true, Bool.and_eq_false_iff, Bool.or_eq_false_iff, Bool.not_eq_true', Bool.not_eq_false', beq_iff_eq, beq_eq_false_iff_ne, bne_iff_ne, bne_eq_false_iff_eq, ne_eq, decide_eq_true_eq, decide_eq_false_iff_not] at h
  · exact ends_pl (congrArg _ (by unfold bitI; rw [if_neg (by omega)]))
  · refine ⟨by omega, ends_pl (congrArg _ ?_)⟩
    unfold bitI
    rw [if_pos (by omega)]
    obtain ⟨k, rfl⟩ : ∃ k : Nat, f = (k : Int) := ⟨f.toNat, by omega⟩
    rw [(shl_one k (by omega)).1, Int.toNat_natCast]
theorem tb35_ok : GamOk Tryz.prog eid (gam tb35) := gam_cons h173 tb34_ok
theorem h191 : Holds Tryz.prog eid 191 (rowS) := by
  refine hold tb35_ok Tryz.func191 (by kernel_rfl) ?_ (by kernel_rfl)
  intro xs M t h
  unfold rowS at h
  split at h <;> cases h
  rename_i w p u d
  refine ⟨fun l h => ?_, fun hp => ?_⟩
  · unfold BT.ev at h
    cases h1 : (w == 1) <;> cases h2 : (w == 2) <;> simp [h1, h2, BT.ev] at h
  rw [v191_vc]
  refine cnd_iff.2 ⟨fun h1 => ?_, fun h1 => cnd_iff.2 ⟨fun h2 => ?_, fun h2 => ?_⟩⟩
  · simp only [BT.ev, h1, cond_true]
    exact ends_sel [] [0] rfl rfl rfl rfl
  · simp only [BT.ev, h1, h2, cond_true, cond_false]
    exact ends_sel [] [0] rfl rfl rfl rfl
  · simp only [BT.ev, h1, h2, cond_false]
    exact ends_sel [] [0] rfl rfl rfl rfl
theorem tb36_ok : GamOk Tryz.prog eid (gam tb36) := gam_cons h191 tb35_ok
theorem h230 : Holds Tryz.prog eid 230 (s230) := by
  refine hold tb36_ok Tryz.func230 (by kernel_rfl) ?_ (by kernel_rfl)
  intro xs M t h
  unfold s230 at h
  split at h
  case h_2 => cases h
  rename_i css
  obtain ⟨s, hcs, h1⟩ := Option.bind_eq_some_iff.1 h
  clear h
  have h := h1
  clear h1
  cases h
  cases Lw.Stops.of_eq hcs
  clear hcs
  refine ⟨fun l h => (nomatch h), ?_⟩
  intro hp
  rw [v230_vc]
  exact ends_pl rfl
theorem tb37_ok : GamOk Tryz.prog eid (gam tb37) := gam_cons h230 tb36_ok
theorem h105 : Holds Tryz.prog eid 105 (s105) := by
  refine hold tb37_ok Tryz.func105 (by kernel_rfl) ?_ (by kernel_rfl)
  intro xs M t h
  unfold s105 at h
  split at h
  case h_2 => cases h
  rename_i css f
  obtain ⟨s, hcs, h1⟩ := Option.bind_eq_some_iff.1 h
  clear h
  have h := h1
  clear h1
  cases h
  cases Lw.Stops.of_eq hcs
  clear hcs
  refine ⟨fun l h => (nomatch h), ?_⟩
  intro hp
  rw [v105_vc]
  exact ends_v rfl rfl
theorem tb38_ok : GamOk Tryz.prog eid (gam tb38) := gam_cons h105 tb37_ok
theorem h132 : Holds Tryz.prog eid 132 (s132) := by
  refine hold tb38_ok Tryz.func132 (by kernel_rfl) ?_ (by kernel_rfl)
  intro xs M t h
  unfold s132 at h
  split at h
  case h_2 => cases h
  rename_i css f w
  obtain ⟨s, hcs, h1⟩ := Option.bind_eq_some_iff.1 h
  clear h
  have h := h1
  clear h1
  cases h
  cases Lw.Stops.of_eq hcs
  clear hcs
  refine ⟨fun l h => (nomatch h), ?_⟩
  intro hp
  rw [v132_vc]
  refine cnd_iff.2 ⟨fun h1 => ?_, fun h1 => cnd_iff.2 ⟨fun h2 => ?_, fun h2 => ?_⟩⟩ <;> simp only [beq_iff_eq, beq_eq_false_iff_ne] at *
  · exact ends_v (by unfold hallS; rw [if_pos h1]; rfl) rfl
  · exact ends_v (by unfold hallS; rw [if_neg h1, if_pos h2]; rfl) rfl
  · exact ends_v (by unfold hallS; rw [if_neg h1, if_neg h2]; rfl) rfl
theorem tb39_ok : GamOk Tryz.prog eid (gam tb39) := gam_cons h132 tb38_ok
theorem h219 : Holds Tryz.prog eid 219 (s219) := by
  refine hold tb39_ok Tryz.func219 (by kernel_rfl) ?_ (by kernel_rfl)
  intro xs M t h
  unfold s219 at h
  split at h
  case h_2 => cases h
  rename_i css f w
  obtain ⟨s, hcs, h1⟩ := Option.bind_eq_some_iff.1 h
  clear h
  have h := h1
  clear h1
  cases h
  cases Lw.Stops.of_eq hcs
  clear hcs
  refine ⟨fun l h => (nomatch h), ?_⟩
  intro hp
  rw [v219_vc]
  refine cnd_iff.2 ⟨fun h1 => ?_, fun h1 => cnd_iff.2 ⟨fun h2 => ?_, fun h2 => ?_⟩⟩ <;> simp only [beq_iff_eq, beq_eq_false_iff_ne] at *
  · exact ends_v (by unfold clearS; rw [if_pos h1, if_neg (by omega)]; rfl) rfl
  · exact ends_v (by unfold clearS; rw [if_neg h1, if_pos h2]; rfl) rfl
  · exact ends_v (by unfold clearS; rw [if_neg h1, if_neg h2]; rfl) rfl
theorem tb40_ok : GamOk Tryz.prog eid (gam tb40) := gam_cons h219 tb39_ok
theorem h218 : Holds Tryz.prog eid 218 (s218) := by
  refine hold tb40_ok Tryz.func218 (by kernel_rfl) ?_ (by kernel_rfl)
  intro xs M t h
  unfold s218 at h
  split at h
  case h_2 => cases h
  rename_i css f w
  obtain ⟨s, hcs, h1⟩ := Option.bind_eq_some_iff.1 h
  clear h
  have h := h1
  clear h1
  cases h
  cases Lw.Stops.of_eq hcs
  clear hcs
  refine ⟨fun l h => (nomatch h), ?_⟩
  intro hp
  rw [v218_vc]
  have hp : stopsR s := hp
  refine cnd_iff.2 ⟨fun h1 => ?_, fun h1 => cnd_iff.2 ⟨fun h2 => ?_, fun h2 => ?_⟩⟩ <;> simp only [beq_iff_eq, beq_eq_false_iff_ne] at *
  · refine ends_pl (congrArg _ ?_)
    rw [and_test hp.2.1]; unfold hallB; simp [h1]
  · refine ends_pl (congrArg _ ?_)
    rw [and_test hp.2.2]; unfold hallB; simp [h2]
  · refine ends_pl (congrArg _ ?_)
    unfold hallB; simp [h1, h2]
theorem tb41_ok : GamOk Tryz.prog eid (gam tb41) := gam_cons h218 tb40_ok
theorem h226 : Holds Tryz.prog eid 226 (s226) := by
  refine hold tb41_ok Tryz.func226 (by kernel_rfl) ?_ (by kernel_rfl)
  intro xs M t h
  unfold s226 at h
  split at h
  case h_2 => cases h
  rename_i css f
  obtain ⟨s, hcs, h1⟩ := Option.bind_eq_some_iff.1 h
  clear h
  have h := h1
  clear h1
  cases h
  cases Lw.Stops.of_eq hcs
  clear hcs
  refine ⟨fun l h => (nomatch h), ?_⟩
  intro hp
  rw [v226_vc]
  have hp : stopsR s := hp
  refine ends_pl (congrArg _ ?_)
  rw [and_test (bits_R _ _ _), any_or hp]
theorem tb42_ok : GamOk Tryz.prog eid (gam tb42) := gam_cons h226 tb41_ok
theorem h229 : Holds Tryz.prog eid 229 (s229) := by
  refine hold tb42_ok Tryz.func229 (by kernel_rfl) ?_ (by kernel_rfl)
  intro xs M t h
  unfold s229 at h
  split at h
  case h_2 => cases h
  rename_i css f w
  obtain ⟨s, hcs, h1⟩ := Option.bind_eq_some_iff.1 h
  clear h
  have h := h1
  clear h1
  cases h
  cases Lw.Stops.of_eq hcs
  clear hcs
  refine ⟨fun l h => (nomatch h), ?_⟩
  intro hp
  rw [v229_vc]
  have hp : stopsR s := hp
  refine loopVC_st (S := Int) v229b_m 1 (fun i => v229b_fr s f w i) (fun i => v229b_mem s f w i) (fun i => (64 - i).toNat) (fun i => 0 ≤ i ∧ i ≤ 64 ∧ aheadN s f w i.toNat = false) rfl ⟨0, ⟨by simp, by simp, rfl⟩, rfl, rfl⟩ ?_
  rintro i ⟨h0, h1, hn⟩
  refine (v229b_vc s f w i _ _).mpr ?_
  have yes (hi : i < 64) (ha : anyB s i = true) (ht : thatB i f w = true) : aheadB s f w = true := aheadB_iff.2 ⟨i, h0, hi, ha, ht⟩
  have no (hi : i < 64) (ha : anyB s i = false ∨ thatB i f w = false) : aheadN s f w (i + 1).toNat = false := by
    rw [show (i + 1).toNat = i.toNat + 1 by omega]
    unfold aheadN
    rw [hn, show ((i.toNat : Nat) : Int) = i by omega]
    rcases ha with h | h <;> rw [h] <;> simp
  refine cnd_iff.2 ⟨fun hi => ?_, fun hi => ?_⟩
  · have hi : i < 64 := of_decide_eq_true hi
    refine ⟨hp, ?_⟩
    rw [wrap_id (n := i + 1) (by omega) (by omega)]
    repeat' first
      | refine cnd_iff.2 ⟨fun _ => ?_, fun _ => ?_⟩
      | refine ends_pl (congrArg PC.bool (yes hi ?_ ?_).symm)
      | (refine Exists.intro (i + 1) ?_; refine And.intro ⟨by omega, by omega, no hi ?_⟩ ⟨by omega, rfl, rfl⟩)
    all_goals first
      | assumption
      | (left; assumption)
      | (unfold thatB; simp_all; done)
      | (right; unfold thatB; simp_all; done)
      | (unfold thatB; simp_all; omega)
      | (right; unfold thatB; simp_all; omega)
  · have hi : ¬ i < 64 := of_decide_eq_false hi
    refine ends_pl (congrArg PC.bool ?_)
    unfold aheadB
    rw [← hn, show i.toNat = 64 by omega]
theorem tb43_ok : GamOk Tryz.prog eid (gam tb43) := gam_cons h229 tb42_ok
theorem stepC_timer (c : Config) (x : Lw.Car) (m : Lw.Cmd) : (stepC c x m).timer = x.timer := by unfold stepC; split <;> rfl
theorem stepC_just (c : Config) (x : Lw.Car) (m : Lw.Cmd) : (stepC c x m).just = x.just := by unfold stepC; split <;> rfl
theorem stepC_load (c : Config) (x : Lw.Car) (m : Lw.Cmd) : (stepC c x m).load = x.load := by unfold stepC; split <;> rfl
theorem stepC_blocked (c : Config) (x : Lw.Car) (m : Lw.Cmd) : (stepC c x m).blocked = x.blocked := by unfold stepC; split <;> rfl
theorem stepC_broken (c : Config) (x : Lw.Car) (m : Lw.Cmd) : (stepC c x m).broken = x.broken := by unfold stepC; split <;> rfl
theorem stepC_mode (c : Config) (x : Lw.Car) (m : Lw.Cmd) : (stepC c x m).mode = x.mode := by unfold stepC; split <;> rfl
theorem stepC_target (c : Config) (x : Lw.Car) (m : Lw.Cmd) : (stepC c x m).target = x.target := by unfold stepC; split <;> rfl
theorem stepC_hold (c : Config) (x : Lw.Car) (m : Lw.Cmd) : (stepC c x m).hold = x.hold := by unfold stepC; split <;> rfl
theorem stepC_stops (c : Config) (x : Lw.Car) (m : Lw.Cmd) : (stepC c x m).stops = x.stops := by unfold stepC; split <;> rfl
theorem wf_car_unit {x : Lw.Car} (h : WfAll x.enc) : r64 x.unit := wf_i64 h.2.2.1
theorem tickD_zero {d : Lw.Door} (h : d.state = 0) (t : Int) (b : Bool) : tickD d t b = d := by
  unfold tickD
  rw [if_neg (by omega), if_neg (by omega), if_neg (by omega), if_neg (by omega), if_neg (by omega)]
theorem told_good {c : Config} {x : Lw.Car} {m : Lw.Cmd} (h : goodD x.door c.door = true) : goodD (toldD x m) c.door = true := by
  obtain ⟨⟨g1, _⟩, ⟨g2, _⟩, _⟩ := door_goods h
  unfold toldD
  (repeat' split) <;> assumption
theorem told_zero {x : Lw.Car} {m : Lw.Cmd} (h : x.door.state = 0) (k : levelB x.unit = false) : toldD x m = x.door := by
  cases hb : x.broken
  · exact told_n hb (.inr k) (.inr (by omega))
  · exact told_b hb
theorem move_range {u w f : Int} (h0 : 0 ≤ u) (h1 : u ≤ 4 * (floorsI f - 1)) : (0 ≤ moveI u w f ∧ moveI u w f ≤ 4 * (floorsI f - 1)) ∧ moveI u w f - u ≤ 1 ∧ u - moveI u w f ≤ 1 := by
  unfold moveI; (repeat' split) <;> omega
theorem step_door (c : Config) (x : Lw.Car) (m : Lw.Cmd) : (stepC c x m).door = tickD (toldD x m) c.door x.blocked := by unfold stepC; split <;> rfl
theorem good_step {c : Config} {x : Lw.Car} (m : Lw.Cmd) (hg : goodC c x = true) : goodC c (stepC c x m) = true ∧ safeB (stepC c x m) = true ∧ safeB x = true := by
  simp only [goodC, decide_eq_true_eq] at hg
  obtain ⟨h1, h2, h3, h4, h5, h6⟩ := hg
  have hgd : goodD (tickD (toldD x m) c.door x.blocked) c.door = true := ((door_goods (told_good (m := m) h1)).2.2 x.blocked).1
  have hmv := (move_range (w := m.run) h2 h3).1
  have hsafe : (tickD (toldD x m) c.door x.blocked).state = 0 ∨ levelB x.unit = true := by
    cases hl : levelB x.unit
    · have h0 : x.door.state = 0 := by
        rcases h6 with h6 | h6
        · exact h6
        · rw [hl] at h6; cases h6
      rw [told_zero h0 hl, tickD_zero h0]
      exact .inl h0
    · exact .inr rfl
  refine ⟨?_, ?_, decide_eq_true h6⟩
  · unfold stepC
    split
    · rename_i hc
      exact decide_eq_true ⟨hgd, hmv.1, hmv.2, by simp only; omega, by simp only; omega, .inl hc.2.2.1⟩
    · exact decide_eq_true ⟨hgd, h2, h3, h4, h5, hsafe⟩
  · unfold stepC
    split
    · rename_i hc
      exact decide_eq_true (.inl hc.2.2.1)
    · exact decide_eq_true hsafe
theorem unit_step (c : Config) (x : Lw.Car) (m : Lw.Cmd) (h : (stepC c x m).unit ≠ x.unit) : x.broken = false ∧ x.door.state = 0 ∧ (stepC c x m).door.state = 0 := by
  unfold stepC at *
  split at h
  · rename_i hc
    rw [if_pos hc]
    exact ⟨hc.1, hc.2.1, hc.2.2.1⟩
  · exact absurd rfl h
theorem unit_near {c : Config} {x : Lw.Car} (m : Lw.Cmd) (h0 : 0 ≤ x.unit) (h1 : x.unit ≤ 4 * (floorsI c.floors - 1)) : (stepC c x m).unit - x.unit ≤ 1 ∧ x.unit - (stepC c x m).unit ≤ 1 ∧ 0 ≤ (stepC c x m).unit ∧ (stepC c x m).unit ≤ 4 * (floorsI c.floors - 1) := by
  have hm := move_range (w := m.run) h0 h1
  unfold stepC
  split <;> simp only <;> omega
theorem plant_chk {y : Lw.Car} {u : Int} (h : safeB y = true) (hy : 0 ≤ y.unit ∧ y.unit ≤ 252) (hu : 0 ≤ u ∧ u ≤ 252) (h1 : y.unit - u ≤ 1) (h2 : u - y.unit ≤ 1) :
    (bif bif !safeB y then true else decide (IntKind.i64.wrap (y.unit - u) > 1) then true else decide (IntKind.i64.wrap (u - y.unit) > 1)) = false := by
  rw [h, wrap_id (by omega) (by omega), wrap_id (by omega) (by omega)]
  simp; omega
theorem other_cases {w : Int} (h0 : 0 ≤ w) (h2 : w ≤ 2) : (w = 0 ∧ otherI w = 0) ∨ (w = 1 ∧ otherI w = 2) ∨ (w = 2 ∧ otherI w = 1) := by
  have : w = 0 ∨ w = 1 ∨ w = 2 := by omega
  rcases this with rfl | rfl | rfl <;> simp [otherI]
theorem h225 : Holds Tryz.prog eid 225 (s225) := by
  refine hold tb43_ok Tryz.func225 (by kernel_rfl) ?_ (by kernel_rfl)
  intro xs M t h
  unfold s225 at h
  split at h
  case h_2 => cases h
  rename_i w
  cases h
  refine ⟨fun l h => (nomatch h), ?_⟩
  intro hp
  rw [v225_vc]
  refine cnd_iff.2 ⟨fun h1 => ?_, fun h1 => cnd_iff.2 ⟨fun h2 => ?_, fun h2 => ?_⟩⟩ <;> simp only [beq_iff_eq, beq_eq_false_iff_ne] at * <;> exact ends_pl (by unfold otherI; simp [*])
theorem tb44_ok : GamOk Tryz.prog eid (gam tb44) := gam_cons h225 tb43_ok
theorem h227 : Holds Tryz.prog eid 227 (hallPS) := by
  refine hold tb44_ok Tryz.func227 (by kernel_rfl) ?_ (by kernel_rfl)
  intro xs M t h
  unfold hallPS at h
  split at h <;> cases h
  refine ⟨fun l h => (nomatch h), fun hp => ?_⟩
  rw [v227_vc]
  exact ⟨hp, ends_pl rfl⟩
theorem tb45_ok : GamOk Tryz.prog eid (gam tb45) := gam_cons h227 tb44_ok
theorem h224 : Holds Tryz.prog eid 224 (aheadPS) := by
  refine hold tb45_ok Tryz.func224 (by kernel_rfl) ?_ (by kernel_rfl)
  intro xs M t h
  unfold aheadPS at h
  split at h <;> cases h
  refine ⟨fun l h => (nomatch h), fun hp => ?_⟩
  rw [v224_vc]
  exact ⟨hp, ends_pl rfl⟩
theorem tb46_ok : GamOk Tryz.prog eid (gam tb46) := gam_cons h224 tb45_ok
theorem h231 : Holds Tryz.prog eid 231 (pressedPS) := by
  refine hold tb46_ok Tryz.func231 (by kernel_rfl) ?_ (by kernel_rfl)
  intro xs M t h
  unfold pressedPS at h
  split at h <;> cases h
  rename_i p u d f
  refine ⟨fun l h => (nomatch h), fun hp => ?_⟩
  obtain ⟨hr, h0, h1⟩ := (hp : u64R p ∧ (0 ≤ f ∧ f < 64))
  rw [v231_vc]
  have hb := bit_ok hr h0 h1
  rw [show IntKind.u64.wrap f = f by rw [IntKind.wrap_u64]; omega] at hb
  refine ⟨h0, ends_pl (congrArg _ ?_)⟩
  rw [hb]
  unfold hasB
  simp [h0, h1]
theorem tb47_ok : GamOk Tryz.prog eid (gam tb47) := gam_cons h231 tb46_ok
theorem h223 : Holds Tryz.prog eid 223 (firstS) := by
  refine hold tb47_ok Tryz.func223 (by kernel_rfl) ?_ (by kernel_rfl)
  intro xs M t h
  unfold firstS at h
  split at h
  case h_2 => cases h
  rename_i k p u d f a b
  cases hk : Nat.beq k 224 <;> rw [hk] at h
  · cases hk : Nat.beq k 227 <;> rw [hk] at h
    · cases h
    · cases Nat.eq_of_beq_eq_true hk
      simp only [cond_true] at h
      cases h
      refine ⟨fun l h => (nomatch h), fun hp => ?_⟩
      have hp : stopsR ⟨p, u, d⟩ := hp
      rw [v223h_vc]
      refine loopVC_st (S := Int) v223hb_m 1 (fun i => v223hb_fr p u d f a b i) (fun i => v223hb_mem p u d f a b i) (fun i => (2 - i).toNat) (fun i => (0 ≤ i ∧ i ≤ 2) ∧ (1 ≤ i → hallB ⟨p, u, d⟩ f a = false) ∧ (2 ≤ i → hallB ⟨p, u, d⟩ f b = false)) rfl ⟨0, ⟨by omega, by omega, by omega⟩, rfl, rfl⟩ ?_
      rintro i ⟨⟨h0, h1⟩, ha, hb⟩
      refine (v223hb_vc p u d f a b i _ _).mpr ?_
      have hi : i = 0 ∨ i = 1 ∨ i = 2 := by omega
      rcases hi with rfl | rfl | rfl
      · refine cnd_iff.2 ⟨fun _ => ⟨by simp, hp, cnd_iff.2 ⟨fun hc => ?_, fun hc => ?_⟩⟩, fun h => absurd h (by simp)⟩
        · refine ends_sel [] [0] rfl rfl ?_ rfl
          have hc : hallB ⟨p, u, d⟩ f a = true := hc
          show [vi a] = [vi (firstI (hallB ⟨p, u, d⟩ f a) (hallB ⟨p, u, d⟩ f b) a b)]
          rw [hc]; rfl
        · have hc : hallB ⟨p, u, d⟩ f a = false := hc
          exact ⟨1, ⟨by omega, fun _ => hc, by omega⟩, by decide, rfl, rfl⟩
      · refine cnd_iff.2 ⟨fun _ => ⟨by simp, hp, cnd_iff.2 ⟨fun hc => ?_, fun hc => ?_⟩⟩, fun h => absurd h (by simp)⟩
        · refine ends_sel [] [0] rfl rfl ?_ rfl
          have hc : hallB ⟨p, u, d⟩ f b = true := hc
          show [vi b] = [vi (firstI (hallB ⟨p, u, d⟩ f a) (hallB ⟨p, u, d⟩ f b) a b)]
          rw [hc, ha (by omega)]; rfl
        · have hc : hallB ⟨p, u, d⟩ f b = false := hc
          exact ⟨2, ⟨by omega, fun _ => ha (by omega), fun _ => hc⟩, by decide, rfl, rfl⟩
      · refine cnd_iff.2 ⟨fun h => absurd h (by simp), fun _ => ?_⟩
        refine ends_sel [] [0] rfl rfl ?_ rfl
        show [vi 0] = [vi (firstI (hallB ⟨p, u, d⟩ f a) (hallB ⟨p, u, d⟩ f b) a b)]
        rw [ha (by omega), hb (by omega)]; rfl
  · cases Nat.eq_of_beq_eq_true hk
    simp only [cond_true] at h
    cases h
    refine ⟨fun l h => (nomatch h), fun hp => ?_⟩
    have hp : stopsR ⟨p, u, d⟩ := hp
    rw [v223a_vc]
    refine loopVC_st (S := Int) v223ab_m 1 (fun i => v223ab_fr p u d f a b i) (fun i => v223ab_mem p u d f a b i) (fun i => (2 - i).toNat) (fun i => (0 ≤ i ∧ i ≤ 2) ∧ (1 ≤ i → aheadB ⟨p, u, d⟩ f a = false) ∧ (2 ≤ i → aheadB ⟨p, u, d⟩ f b = false)) rfl ⟨0, ⟨by omega, by omega, by omega⟩, rfl, rfl⟩ ?_
    rintro i ⟨⟨h0, h1⟩, ha, hb⟩
    refine (v223ab_vc p u d f a b i _ _).mpr ?_
    have hi : i = 0 ∨ i = 1 ∨ i = 2 := by omega
    rcases hi with rfl | rfl | rfl
    · refine cnd_iff.2 ⟨fun _ => ⟨by simp, hp, cnd_iff.2 ⟨fun hc => ?_, fun hc => ?_⟩⟩, fun h => absurd h (by simp)⟩
      · refine ends_sel [] [0] rfl rfl ?_ rfl
        have hc : aheadB ⟨p, u, d⟩ f a = true := hc
        show [vi a] = [vi (firstI (aheadB ⟨p, u, d⟩ f a) (aheadB ⟨p, u, d⟩ f b) a b)]
        rw [hc]; rfl
      · have hc : aheadB ⟨p, u, d⟩ f a = false := hc
        exact ⟨1, ⟨by omega, fun _ => hc, by omega⟩, by decide, rfl, rfl⟩
    · refine cnd_iff.2 ⟨fun _ => ⟨by simp, hp, cnd_iff.2 ⟨fun hc => ?_, fun hc => ?_⟩⟩, fun h => absurd h (by simp)⟩
      · refine ends_sel [] [0] rfl rfl ?_ rfl
        have hc : aheadB ⟨p, u, d⟩ f b = true := hc
        show [vi b] = [vi (firstI (aheadB ⟨p, u, d⟩ f a) (aheadB ⟨p, u, d⟩ f b) a b)]
        rw [hc, ha (by omega)]; rfl
      · have hc : aheadB ⟨p, u, d⟩ f b = false := hc
        exact ⟨2, ⟨by omega, fun _ => ha (by omega), fun _ => hc⟩, by decide, rfl, rfl⟩
    · refine cnd_iff.2 ⟨fun h => absurd h (by simp), fun _ => ?_⟩
      refine ends_sel [] [0] rfl rfl ?_ rfl
      show [vi 0] = [vi (firstI (aheadB ⟨p, u, d⟩ f a) (aheadB ⟨p, u, d⟩ f b) a b)]
      rw [ha (by omega), hb (by omega)]; rfl
theorem tb48_ok : GamOk Tryz.prog eid (gam tb48) := gam_cons h223 tb47_ok
theorem h222 : Holds Tryz.prog eid 222 (stillPS) := by
  refine hold tb48_ok Tryz.func222 (by kernel_rfl) ?_ (by kernel_rfl)
  intro xs M t h
  unfold stillPS at h
  split at h <;> cases h
  rename_i p u d f j
  refine ⟨fun l h => (nomatch h), fun hp => ?_⟩
  have hp : stopsR ⟨p, u, d⟩ := hp
  rw [v222_vc]
  refine ⟨hp, hp, ?_⟩
  repeat' first
    | refine cnd_iff.2 ⟨fun _ => ?_, fun _ => ?_⟩
    | refine And.intro hp ?_
    | refine ends_v ?_ rfl
  all_goals (clear hp; (try simp only [c_and, c_or, Bool.and_eq_true, Bool.or_eq_true, Bool.and_eq_false_iff, Bool.or_eq_false_iff, Bool.not_eq_true', Bool.not_eq_false', beq_iff_eq, beq_eq_false_iff_ne, bne_iff_ne, bne_eq_false_iff_eq, ne_eq, decide_eq_true_eq, decide_eq_false_iff_not] at *); by_cases hj : f = j <;> (try subst hj) <;> unfold stillI <;> simp_all [ci, cb])
theorem tb49_ok : GamOk Tryz.prog eid (gam tb49) := gam_cons h222 tb48_ok
theorem h228 : Holds Tryz.prog eid 228 (servePS) := by
  refine hold tb49_ok Tryz.func228 (by kernel_rfl) ?_ (by kernel_rfl)
  intro xs M t h
  unfold servePS at h
  split at h <;> cases h
  rename_i p u d f w
  refine ⟨fun l h => (nomatch h), fun hp => ?_⟩
  obtain ⟨hr, h0, h1⟩ := (hp : stopsR ⟨p, u, d⟩ ∧ (0 ≤ f ∧ f < 64))
  rw [v228_vc]
  repeat' first
    | refine cnd_iff.2 ⟨fun _ => ?_, fun _ => ?_⟩
    | refine And.intro hr ?_
    | refine And.intro (fun _ => ⟨hr.1, h0, h1⟩) ?_
    | refine ends_v ?_ rfl
  all_goals (clear hr h0 h1; (try simp only [c_and, c_or, Bool.and_eq_true, Bool.or_eq_true, Bool.and_eq_false_iff, Bool.or_eq_false_iff, Bool.not_eq_true', Bool.not_eq_false', beq_iff_eq, beq_eq_false_iff_ne, bne_iff_ne, bne_eq_false_iff_eq, ne_eq, decide_eq_true_eq, decide_eq_false_iff_not] at *); unfold servI; simp_all [ci, cb])
theorem tb50_ok : GamOk Tryz.prog eid (gam tb50) := gam_cons h228 tb49_ok
theorem h217 : Holds Tryz.prog eid 217 (s217) := by
  refine hold tb50_ok Tryz.func217 (by kernel_rfl) ?_ (by kernel_rfl)
  intro xs M t h
  unfold s217 at h
  split at h
  case h_2 => cases h
  rename_i css f w j
  obtain ⟨s, hcs, h1⟩ := Option.bind_eq_some_iff.1 h
  clear h
  have h := h1
  clear h1
  cases h
  cases Lw.Stops.of_eq hcs
  clear hcs
  refine ⟨fun l h => (nomatch h), ?_⟩
  intro hp
  rw [v217_vc]
  obtain ⟨hr, h0, h1⟩ := (hp : stopsR s ∧ (0 ≤ f ∧ f < 64))
  repeat' first
    | refine cnd_iff.2 ⟨fun _ => ?_, fun _ => ?_⟩
    | refine And.intro hr ?_
    | refine And.intro (fun _ => hr) ?_
    | refine And.intro ⟨hr, h0, h1⟩ ?_
    | refine ends_v ?_ rfl
  all_goals (clear hr h0 h1; (try simp only [c_and, c_or, Bool.and_eq_true, Bool.or_eq_true, Bool.and_eq_false_iff, Bool.or_eq_false_iff, Bool.not_eq_true', Bool.not_eq_false', beq_iff_eq, beq_eq_false_iff_ne, bne_iff_ne, bne_eq_false_iff_eq, ne_eq, decide_eq_true_eq, decide_eq_false_iff_not] at *); by_cases hj : f = j <;> (try subst hj) <;> unfold nextI goneI <;> simp_all [ci, cb])
theorem tb51_ok : GamOk Tryz.prog eid (gam tb51) := gam_cons h217 tb50_ok
theorem wf_stops {s : Lw.Stops} (h : WfAll s.enc) : stopsR s := ⟨wf_range h.1, wf_range h.2.1, wf_range h.2.2.1⟩
theorem any_zero (f : Int) : anyB ⟨0, 0, 0⟩ f = false := by unfold anyB; simp only [has_zero]; rfl
theorem hall_any {s : Lw.Stops} {f w : Int} (h : hallB s f w = true) : anyB s f = true := by
  unfold hallB at h; unfold anyB
  simp only [Bool.or_eq_true, Bool.and_eq_true, decide_eq_true_eq] at h ⊢
  rcases h with h | h
  · exact .inr (.inl h.2)
  · exact .inr (.inr h.2)
theorem ahead_zero (f w : Int) : aheadB ⟨0, 0, 0⟩ f w = false := by
  cases h : aheadB ⟨0, 0, 0⟩ f w
  · rfl
  · obtain ⟨k, _, _, h, _⟩ := aheadB_iff.1 h
    rw [any_zero] at h; cases h
theorem any_range {s : Lw.Stops} {f : Int} (h : anyB s f = true) : 0 ≤ f ∧ f < 64 := by
  unfold anyB at h
  simp only [Bool.or_eq_true] at h
  rcases h with h | h | h <;> exact has_range h
theorem any_none {s : Lw.Stops} (hs : stopsR s) (h : ∀ k, 0 ≤ k → k < 64 → anyB s k = false) : s = ⟨0, 0, 0⟩ := by
  have z : ∀ {x : Int}, u64R x → (∀ k, 0 ≤ k → k < 64 → hasB x k = false) → x = 0 := fun hx hk =>
    has_ext hx (by unfold u64R; omega) fun k h0 h1 => by rw [hk k h0 h1, has_zero]
  obtain ⟨p, u, d⟩ := s
  unfold anyB at h
  simp only [Bool.or_eq_false_iff] at h
  have e1 : p = 0 := z hs.1 fun k h0 h1 => (h k h0 h1).1
  have e2 : u = 0 := z hs.2.1 fun k h0 h1 => (h k h0 h1).2.1
  have e3 : d = 0 := z hs.2.2 fun k h0 h1 => (h k h0 h1).2.2
  rw [e1, e2, e3]
theorem some_stop {s : Lw.Stops} (hs : stopsR s) (h : s ≠ ⟨0, 0, 0⟩) (f : Int) : anyB s f = true ∨ aheadB s f 1 = true ∨ aheadB s f 2 = true := by
  apply Classical.byContradiction
  intro hn
  simp only [not_or, Bool.not_eq_true] at hn
  refine h (any_none hs fun k h0 h1 => ?_)
  cases hk : anyB s k
  · rfl
  · by_cases e : k = f
    · subst e; exact hk.symm.trans hn.1
    · by_cases g : k > f
      · have := aheadB_iff.2 (show ∃ k : Int, 0 ≤ k ∧ k < 64 ∧ anyB s k = true ∧ thatB k f 1 = true from ⟨k, h0, h1, hk, by unfold thatB; simp; omega⟩)
        rw [hn.2.1] at this; cases this
      · have := aheadB_iff.2 (show ∃ k : Int, 0 ≤ k ∧ k < 64 ∧ anyB s k = true ∧ thatB k f 2 = true from ⟨k, h0, h1, hk, by unfold thatB; simp; omega⟩)
        rw [hn.2.2] at this; cases this
theorem first_cases (p q : Bool) (a b : Int) : (p = true ∧ firstI p q a b = a) ∨ (p = false ∧ q = true ∧ firstI p q a b = b) ∨ (p = false ∧ q = false ∧ firstI p q a b = 0) := by
  unfold firstI; cases p <;> cases q <;> simp
/-- What a car does that stands: all its cases. -/
inductive NextI (s : Lw.Stops) (f w j : Int) : Int → Bool → Prop
  | rest : w = 0 → anyB s f = false ∨ (f = j ∧ (aheadB s f 1 = true ∨ aheadB s f 2 = true)) → aheadB s f 1 = false → aheadB s f 2 = false → NextI s f w j 0 false
  | up : w = 0 → anyB s f = false ∨ (f = j ∧ (aheadB s f 1 = true ∨ aheadB s f 2 = true)) → aheadB s f 1 = true → NextI s f w j 1 false
  | down : w = 0 → anyB s f = false ∨ (f = j ∧ (aheadB s f 1 = true ∨ aheadB s f 2 = true)) → aheadB s f 1 = false → aheadB s f 2 = true → NextI s f w j 2 false
  | sOpen (x : Int) : w = 0 → anyB s f = true → (f ≠ j ∨ (aheadB s f 1 = false ∧ aheadB s f 2 = false)) → (x = 1 ∧ hallB s f 1 = true) ∨ (x = 2 ∧ hallB s f 1 = false ∧ hallB s f 2 = true) ∨ (x = 0 ∧ hallB s f 1 = false ∧ hallB s f 2 = false) → NextI s f w j x true
  | on : w ≠ 0 → aheadB s f w = true → anyB s f = false ∨ f = j ∨ (hallB s f w = false ∧ hasB s.press f = false) → NextI s f w j w false
  | back : w ≠ 0 → aheadB s f w = false → aheadB s f (otherI w) = true → anyB s f = false ∨ f = j → NextI s f w j (otherI w) false
  | halt : w ≠ 0 → aheadB s f w = false → aheadB s f (otherI w) = false → anyB s f = false → NextI s f w j 0 false
  | same : w ≠ 0 → anyB s f = true → (f ≠ j ∨ (aheadB s f w = false ∧ aheadB s f (otherI w) = false ∧ hallB s f (otherI w) = false)) → hallB s f w = true ∨ hasB s.press f = true → NextI s f w j w true
  | turn : w ≠ 0 → aheadB s f w = false → hallB s f (otherI w) = true → (f = j ∧ aheadB s f (otherI w) = false) ∨ (f ≠ j ∧ hallB s f w = false) ∨ (hallB s f w = false ∧ aheadB s f (otherI w) = false) → NextI s f w j (otherI w) true
theorem any_split {s : Lw.Stops} {f w : Int} (h : anyB s f = true) (hw : w = 1 ∨ w = 2) (h1 : hallB s f w = false) (h2 : hallB s f (otherI w) = false) : hasB s.press f = true := by
  unfold anyB at h
  unfold hallB at h1 h2
  rcases hw with rfl | rfl <;> simp [otherI] at h1 h2 <;> simp [h1, h2] at h <;> exact h
theorem nextI_cases {s : Lw.Stops} {f w j : Int} (h0 : 0 ≤ w) (h2 : w ≤ 2) : NextI s f w j (nextI s f w j).1 (nextI s f w j).2 := by
  unfold nextI
  split
  · rename_i hw
    unfold stillI
    split
    · rename_i hc
      refine .sOpen _ hw hc.1 ?_ ?_
      · rcases hc.2 with h | h
        · exact .inl h
        · rcases first_cases (aheadB s f 1) (aheadB s f 2) 1 2 with k | k | k
          · omega
          · omega
          · exact .inr ⟨k.1, k.2.1⟩
      · rcases first_cases (hallB s f 1) (hallB s f 2) 1 2 with k | k | k
        · exact .inl ⟨k.2, k.1⟩
        · exact .inr (.inl ⟨k.2.2, k.1, k.2.1⟩)
        · exact .inr (.inr ⟨k.2.2, k.1, k.2.1⟩)
    · rename_i hc
      have ha : anyB s f = false ∨ (f = j ∧ (aheadB s f 1 = true ∨ aheadB s f 2 = true)) := by
        cases hf : anyB s f
        · exact .inl rfl
        · right
          rw [hf] at hc
          simp only [true_and, not_or, Classical.not_not] at hc
          refine ⟨hc.1, ?_⟩
          rcases first_cases (aheadB s f 1) (aheadB s f 2) 1 2 with k | k | k
          · exact .inl k.1
          · exact .inr k.2.1
          · exact absurd k.2.2 hc.2
      rcases first_cases (aheadB s f 1) (aheadB s f 2) 1 2 with k | k | k
      · rw [k.2]; exact .up hw ha k.1
      · rw [k.2.2]; exact .down hw ha k.1 k.2.1
      · rw [k.2.2]; exact .rest hw ha k.1 k.2.1
  · rename_i hw
    have hw' : w = 1 ∨ w = 2 := by omega
    have ho : otherI w ≠ 0 := by rcases other_cases h0 h2 with k | k | k <;> omega
    have hg : goneI s f w = 0 ↔ aheadB s f w = false ∧ aheadB s f (otherI w) = false := by
      unfold goneI
      rcases first_cases (aheadB s f w) (aheadB s f (otherI w)) w (otherI w) with k | k | k
      · rw [k.2, k.1]; simp [hw]
      · rw [k.2.2, k.1, k.2.1]; simp [ho]
      · rw [k.2.2, k.1, k.2.1]; simp
    have gone (hf : anyB s f = false ∨ (f = j ∧ (aheadB s f w = true ∨ aheadB s f (otherI w) = true)) ∨ (aheadB s f w = true ∧ hallB s f w = false ∧ hasB s.press f = false)) : NextI s f w j (goneI s f w) false := by
      unfold goneI
      rcases first_cases (aheadB s f w) (aheadB s f (otherI w)) w (otherI w) with k | k | k
      · rw [k.2]
        refine .on hw k.1 ?_
        rcases hf with hf | hf | hf
        · exact .inl hf
        · exact .inr (.inl hf.1)
        · exact .inr (.inr hf.2)
      · rw [k.2.2]
        refine .back hw k.1 k.2.1 ?_
        rcases hf with hf | hf | hf
        · exact .inl hf
        · exact .inr hf.1
        · rw [k.1] at hf; exact absurd hf.1 (by simp)
      · rw [k.2.2]
        refine .halt hw k.1 k.2.1 ?_
        rcases hf with hf | hf | hf
        · exact hf
        · rw [k.1, k.2.1] at hf; exact absurd hf.2 (by simp)
        · rw [k.1] at hf; exact absurd hf.1 (by simp)
    split
    · rename_i hc
      obtain ⟨ha, hj⟩ := hc
      rw [hg] at hj
      split
      · rename_i ht
        have hj' : aheadB s f w = false ∧ aheadB s f (otherI w) = false := by
          rcases hj with k | k
          · exact absurd ht.1 k
          · exact k
        exact .turn hw hj'.1 ht.2 (.inl ⟨ht.1, hj'.2⟩)
      · rename_i ht
        unfold servI
        by_cases hs : hallB s f w = true ∨ (aheadB s f w = true ∧ hasB s.press f = true)
        · rw [if_pos hs]
          simp only [if_true]
          refine .same hw ha ?_ ?_
          · by_cases e : f = j
            · right
              have hj' : aheadB s f w = false ∧ aheadB s f (otherI w) = false := by
                rcases hj with k | k
                · exact absurd e k
                · exact k
              refine ⟨hj'.1, hj'.2, ?_⟩
              cases hh : hallB s f (otherI w)
              · rfl
              · exact absurd ⟨e, hh⟩ ht
            · exact .inl e
          · rcases hs with k | k
            · exact .inl k
            · exact .inr k.2
        · rw [if_neg hs]
          simp only [not_or, not_and, Bool.not_eq_true] at hs
          by_cases hon : aheadB s f w = true
          · rw [if_pos hon]
            simp only [Bool.false_eq_true, if_false]
            exact gone (.inr (.inr ⟨hon, hs.1, hs.2 hon⟩))
          · rw [if_neg hon]
            simp only [Bool.not_eq_true] at hon
            by_cases hh : hallB s f (otherI w) = true
            · rw [if_pos hh]
              simp only [if_true]
              refine .turn hw hon hh ?_
              by_cases e : f = j
              · exact absurd ⟨e, hh⟩ ht
              · exact .inr (.inl ⟨e, hs.1⟩)
            · rw [if_neg hh]
              simp only [if_true]
              simp only [Bool.not_eq_true] at hh
              refine .same hw ha ?_ (.inr (any_split ha hw' hs.1 hh))
              by_cases e : f = j
              · right
                rcases hj with k | k
                · exact absurd e k
                · exact ⟨k.1, k.2, hh⟩
              · exact .inl e
    · rename_i hc
      rw [hg] at hc
      cases hf : anyB s f
      · exact gone (.inl hf)
      · rw [hf] at hc
        simp only [true_and, not_or, Classical.not_not] at hc
        refine gone (.inr (.inl ⟨hc.1, ?_⟩))
        cases h1 : aheadB s f w
        · right
          cases h3 : aheadB s f (otherI w)
          · exact absurd ⟨h1, h3⟩ hc.2
          · rfl
        · exact .inl rfl
theorem u8_floor {n : Int} (h : 0 ≤ n ∧ n ≤ 255) : 0 ≤ IntKind.i64.wrap (Int.tmod n 64) ∧ IntKind.i64.wrap (Int.tmod n 64) < 64 := by
  rw [Int.tmod_eq_emod_of_nonneg h.1, wrap_id (by omega) (by omega)]; omega
theorem u8_way {n : Int} (h : 0 ≤ n ∧ n ≤ 255) : 0 ≤ IntKind.i64.wrap (Int.tmod n 3) ∧ IntKind.i64.wrap (Int.tmod n 3) ≤ 2 := by
  rw [Int.tmod_eq_emod_of_nonneg h.1, wrap_id (by omega) (by omega)]; omega
theorem stops_zero {s : Lw.Stops} : pcsEq [.int .u64 s.press, .int .u64 s.up, .int .u64 s.down] [.int .u64 0, .int .u64 0, .int .u64 0] = true ↔ s = ⟨0, 0, 0⟩ := by
  obtain ⟨p, u, d⟩ := s
  simp [pcsEq, pcEq]
theorem some_way {s : Lw.Stops} (hs : stopsR s) (h : s ≠ ⟨0, 0, 0⟩) (f : Int) {w : Int} (hw : w = 1 ∨ w = 2) : anyB s f = true ∨ aheadB s f w = true ∨ aheadB s f (otherI w) = true := by
  rcases hw with rfl | rfl
  · exact some_stop hs h f
  · rcases some_stop hs h f with k | k | k
    · exact .inl k
    · exact .inr (.inr k)
    · exact .inr (.inl k)
theorem goes {s : Lw.Stops} {f w j : Int} (hs : stopsR s) (h0 : 0 ≤ w) (h2 : w ≤ 2) : (s = ⟨0, 0, 0⟩ → (nextI s f w j).1 = 0 ∧ (nextI s f w j).2 = false) ∧ ((nextI s f w j).2 = true → anyB s f = true) ∧ (s ≠ ⟨0, 0, 0⟩ → (nextI s f w j).2 = false → ((nextI s f w j).1 = 1 ∨ (nextI s f w j).1 = 2) ∧ aheadB s f (nextI s f w j).1 = true) := by
  have h := nextI_cases (s := s) (f := f) (j := j) h0 h2
  generalize (nextI s f w j).1 = x at h ⊢
  generalize (nextI s f w j).2 = b at h ⊢
  have zero (k : s = ⟨0, 0, 0⟩) (g : Int) : anyB s g = false ∧ aheadB s g 1 = false ∧ aheadB s g 2 = false := by subst k; exact ⟨any_zero g, ahead_zero g 1, ahead_zero g 2⟩
  have zw (k : s = ⟨0, 0, 0⟩) (g u : Int) : aheadB s g u = false := by subst k; exact ahead_zero g u
  have hw : w ≠ 0 → w = 1 ∨ w = 2 := fun h => by omega
  have ho : w ≠ 0 → otherI w = 1 ∨ otherI w = 2 := fun h => by rcases other_cases h0 h2 with k | k | k <;> omega
  cases h with
  | rest a b c d =>
    refine ⟨fun _ => ⟨rfl, rfl⟩, fun k => (nomatch k), fun k _ => ?_⟩
    rcases some_stop hs k f with e | e | e
    · rw [e, c, d] at b; simp at b
    · rw [c] at e; cases e
    · rw [d] at e; cases e
  | up a b c => exact ⟨fun k => (by rw [(zero k f).2.1] at c; cases c), fun k => (nomatch k), fun _ _ => ⟨.inl rfl, c⟩⟩
  | down a b c d => exact ⟨fun k => (by rw [(zero k f).2.2] at d; cases d), fun k => (nomatch k), fun _ _ => ⟨.inr rfl, d⟩⟩
  | sOpen x a b c d => exact ⟨fun k => (by rw [(zero k f).1] at b; cases b), fun _ => b, fun _ k => (nomatch k)⟩
  | on a b c => exact ⟨fun k => (by rw [zw k] at b; cases b), fun k => (nomatch k), fun _ _ => ⟨hw a, b⟩⟩
  | back a b c d => exact ⟨fun k => (by rw [zw k] at c; cases c), fun k => (nomatch k), fun _ _ => ⟨ho a, c⟩⟩
  | halt a b c d =>
    refine ⟨fun _ => ⟨rfl, rfl⟩, fun k => (nomatch k), fun k _ => ?_⟩
    rcases some_way hs k f (hw a) with e | e | e
    · rw [d] at e; cases e
    · rw [b] at e; cases e
    · rw [c] at e; cases e
  | same a b c d => exact ⟨fun k => (by rw [(zero k f).1] at b; cases b), fun _ => b, fun _ k => (nomatch k)⟩
  | turn a b c d => exact ⟨fun k => (by have := hall_any c; rw [(zero k f).1] at this; cases this), fun _ => hall_any c, fun _ k => (nomatch k)⟩
theorem keeps {s : Lw.Stops} {f w j : Int} (hw : w = 1 ∨ w = 2) : ((nextI s f w j).1 = otherI w → aheadB s f w = false ∧ ((nextI s f w j).2 = true → f ≠ j → hallB s f w = false)) ∧ (aheadB s f w = true → (nextI s f w j).1 = w) := by
  have h := nextI_cases (s := s) (f := f) (j := j) (w := w) (by omega) (by omega)
  generalize (nextI s f w j).1 = x at h ⊢
  generalize (nextI s f w j).2 = b at h ⊢
  have hne : w ≠ otherI w := by rcases hw with rfl | rfl <;> decide
  have hn0 : (0 : Int) ≠ otherI w := by rcases hw with rfl | rfl <;> decide
  cases h with
  | on a b c => exact ⟨fun k => absurd k hne, fun _ => rfl⟩
  | back a b c d => exact ⟨fun _ => ⟨b, fun k => (nomatch k)⟩, fun k => (by rw [b] at k; cases k)⟩
  | halt a b c d => exact ⟨fun k => absurd k hn0, fun k => (by rw [b] at k; cases k)⟩
  | same a b c d => exact ⟨fun k => absurd k hne, fun _ => rfl⟩
  | turn a b c d =>
    refine ⟨fun _ => ⟨b, fun _ k => ?_⟩, fun k => (by rw [b] at k; cases k)⟩
    rcases d with d | d | d
    · exact absurd d.1 k
    · exact d.2
    · exact d.1
  | _ => omega
theorem leaves {s : Lw.Stops} {f w : Int} (hw : w = 1 ∨ w = 2) (h : (nextI s f w f).2 = true) : aheadB s f 1 = false ∧ aheadB s f 2 = false := by
  have k := nextI_cases (s := s) (f := f) (j := f) (w := w) (by omega) (by omega)
  generalize (nextI s f w f).1 = x at k
  generalize (nextI s f w f).2 = b at h k
  have two (a : aheadB s f w = false) (b : aheadB s f (otherI w) = false) : aheadB s f 1 = false ∧ aheadB s f 2 = false := by
    rcases hw with rfl | rfl
    · exact ⟨a, b⟩
    · exact ⟨b, a⟩
  cases k with
  | sOpen x a b c d => omega
  | same a b c d =>
    rcases c with c | c
    · exact absurd rfl c
    · exact two c.1 c.2.1
  | turn a b c d =>
    rcases d with d | d | d
    · exact two b d.2
    · exact absurd rfl d.1
    · exact two b d.2
  | _ => cases h
theorem cost_same {c : Config} {x : Lw.Car} {k : Lw.Call} (h : insideB x k = true) : costP c x k = costR c x k := by
  simp only [insideB, Bool.and_eq_true, decide_eq_true_eq] at h
  have h4 : at4 k.floor = 4 * k.floor := wrap_id (by omega) (by omega)
  have hf : farP x.unit k.floor = farR x.unit k.floor := by
    unfold farP farR
    rw [h4, wrap_id (n := 4 * k.floor - x.unit) (by omega) (by omega), wrap_id (n := x.unit - 4 * k.floor) (by omega) (by omega), wrap_id (n := 0 - (x.unit - 4 * k.floor)) (by omega) (by omega), mm_max]
    by_cases hz : x.unit - 4 * k.floor < 0
    · rw [decide_eq_true hz, cond_true]; omega
    · rw [decide_eq_false hz, cond_false]; omega
  have hw : onwayB x k = wayB x k := by
    unfold onwayB wayB towardI
    rw [h4, Bool.eq_iff_iff]
    simp only [Bool.or_eq_true, Bool.and_eq_true, decide_eq_true_eq, beq_iff_eq]
    (repeat' split) <;> omega
  unfold costP costR
  rw [hf, hw]
theorem getD_mem {α : Type} {l : List α} {i : Nat} (h : i < l.length) (z : α) : l.getD i z ∈ l := by
  rw [List.getD_eq_getElem?_getD, List.getElem?_eq_getElem h]
  exact List.getElem_mem h
theorem bestN_range (c : Config) (l : List Lw.Car) (k : Lw.Call) : ∀ n : Nat, -1 ≤ bestN c l k n ∧ bestN c l k n < n
  | 0 => by unfold bestN; omega
  | n + 1 => by
    have := bestN_range c l k n
    show -1 ≤ (bif _ then (n : Int) else bestN c l k n) ∧ (bif _ then (n : Int) else bestN c l k n) < _
    cases goodFor c l k (bestN c l k n) (l.getD n (RTy.zero .car)) <;> simp only [cond_true, cond_false] <;> omega
theorem h131 : Holds Tryz.prog eid 131 (bestS) := by
  refine hold tb51_ok Tryz.func131 (by kernel_rfl) ?_ (by kernel_rfl)
  intro xs M t h
  unfold bestS at h
  split at h
  · rename_i k0 l k1
    obtain ⟨c, hcc, h1⟩ := Option.bind_eq_some_iff.1 h
    clear h
    obtain ⟨k, hck, h⟩ := Option.bind_eq_some_iff.1 h1
    clear h1
    cases h
    cases Lw.Config.of_eq hcc
    cases Lw.Call.of_eq hck
    clear hcc hck
    refine ⟨fun l h => (nomatch h), fun hp => ?_⟩
    have hp : carsR l := hp
    rw [v131_vc]
    refine loopVC_st (S := Int × Int) v131b_m 2 (fun q => v131b_fr c l k q.1 q.2) (fun q => v131b_mem c l k q.1 q.2) (fun q => (l.length - q.2).toNat) (fun q => 0 ≤ q.2 ∧ q.2 ≤ l.length ∧ q.1 = bestN c l k q.2.toNat) rfl ⟨(-1, 0), ⟨by simp, by simp, rfl⟩, rfl, rfl⟩ ?_
    rintro ⟨b, i⟩ ⟨h0, h1, hb⟩
    simp only at h0 h1 hb
    refine (v131b_vc c l k b i _ _).mpr ?_
    have hm := maxLen_eq
    have hl := hp.1
    have hr := bestN_range c l k i.toNat
    rw [← hb] at hr
    refine cnd_iff.2 ⟨fun hi => ?_, fun hi => ?_⟩
    · have hi : i < l.length := of_decide_eq_true hi
      have hmi : l.getD i.toNat (RTy.zero .car) ∈ l := getD_mem (by omega) _
      have hs : bestN c l k (i.toNat + 1) = bif goodFor c l k b (l.getD i.toNat (RTy.zero .car)) then (i.toNat : Int) else b := by rw [hb]; rfl
      have hi1 : (i + 1).toNat = i.toNat + 1 := by omega
      rw [wrap_id (n := i + 1) (by omega) (by omega)]
      have keep (hg : goodFor c l k b (l.getD i.toNat (RTy.zero .car)) = false) : b = bestN c l k (i + 1).toNat := by rw [hi1, hs, hg]; rfl
      have take (hg : goodFor c l k b (l.getD i.toNat (RTy.zero .car)) = true) : i = bestN c l k (i + 1).toNat := by rw [hi1, hs, hg]; simp; omega
      refine ⟨⟨h0, hi⟩, cnd_iff.2 ⟨fun ha => ?_, fun ha => cnd_iff.2 ⟨fun hn => ?_, fun hn => ?_⟩⟩⟩ <;> simp only [c_and, c_or, Bool.and_eq_true, Bool.or_eq_true, Bool.and_eq_false_iff, Bool.or_eq_false_iff, Bool.not_eq_true', Bool.not_eq_false', beq_iff_eq, beq_eq_false_iff_ne, bne_iff_ne, bne_eq_false_iff_eq, ne_eq, decide_eq_true_eq, decide_eq_false_iff_not] at ha
      · exact ⟨(b, i + 1), ⟨by simp only; omega, by simp only; omega, keep (decide_eq_false fun h => by simp_all)⟩, by simp only; omega, rfl, rfl⟩
      · have hn : b < 0 := of_decide_eq_true hn
        exact ⟨(i, i + 1), ⟨by simp only; omega, by simp only; omega, take (decide_eq_true ⟨ha.1, ha.2, .inl hn⟩)⟩, by simp only; omega, rfl, rfl⟩
      · have hn : ¬ b < 0 := of_decide_eq_false hn
        have hmb : l.getD b.toNat (RTy.zero .car) ∈ l := getD_mem (by omega) _
        refine ⟨hp.2 _ hmi, ⟨by omega, by omega⟩, hp.2 _ hmb, cnd_iff.2 ⟨fun hc => ?_, fun hc => ?_⟩⟩
        · exact ⟨(i, i + 1), ⟨by simp only; omega, by simp only; omega, take (decide_eq_true ⟨ha.1, ha.2, .inr (of_decide_eq_true hc)⟩)⟩, by simp only; omega, rfl, rfl⟩
        · exact ⟨(b, i + 1), ⟨by simp only; omega, by simp only; omega, keep (decide_eq_false fun h => h.2.2.elim hn (of_decide_eq_false hc))⟩, by simp only; omega, rfl, rfl⟩
    · have hi : ¬ i < l.length := of_decide_eq_false hi
      have e : b = bestI c l k := by rw [hb]; unfold bestI; congr 1; omega
      rw [e]
      exact ends_pl rfl
  · rename_i k0 k1 l
    obtain ⟨c, hcc, h1⟩ := Option.bind_eq_some_iff.1 h
    clear h
    obtain ⟨k, hck, h⟩ := Option.bind_eq_some_iff.1 h1
    clear h1
    cases h
    cases Lw.Config.of_eq hcc
    cases Lw.Call.of_eq hck
    clear hcc hck
    refine ⟨fun l h => (nomatch h), fun hp => ?_⟩
    have hp : carsR l := hp
    rw [v131r_vc]
    refine loopVC_st (S := Int × Int) v131rb_m 3 (fun q => v131rb_fr c l k q.1 q.2) (fun q => v131rb_mem c l k q.1 q.2) (fun q => (l.length - q.2).toNat) (fun q => 0 ≤ q.2 ∧ q.2 ≤ l.length ∧ q.1 = bestN c l k q.2.toNat) rfl ⟨(-1, 0), ⟨by simp, by simp, rfl⟩, rfl, rfl⟩ ?_
    rintro ⟨b, i⟩ ⟨h0, h1, hb⟩
    simp only at h0 h1 hb
    refine (v131rb_vc c l k b i _ _).mpr ?_
    have hm := maxLen_eq
    have hl := hp.1
    have hr := bestN_range c l k i.toNat
    rw [← hb] at hr
    refine cnd_iff.2 ⟨fun hi => ?_, fun hi => ?_⟩
    · have hi : i < l.length := of_decide_eq_true hi
      have hmi : l.getD i.toNat (RTy.zero .car) ∈ l := getD_mem (by omega) _
      have hs : bestN c l k (i.toNat + 1) = bif goodFor c l k b (l.getD i.toNat (RTy.zero .car)) then (i.toNat : Int) else b := by rw [hb]; rfl
      have hi1 : (i + 1).toNat = i.toNat + 1 := by omega
      rw [wrap_id (n := i + 1) (by omega) (by omega)]
      have keep (hg : goodFor c l k b (l.getD i.toNat (RTy.zero .car)) = false) : b = bestN c l k (i + 1).toNat := by rw [hi1, hs, hg]; rfl
      have take (hg : goodFor c l k b (l.getD i.toNat (RTy.zero .car)) = true) : i = bestN c l k (i + 1).toNat := by rw [hi1, hs, hg]; simp; omega
      refine ⟨⟨h0, hi⟩, cnd_iff.2 ⟨fun ha => ?_, fun ha => cnd_iff.2 ⟨fun hn => ?_, fun hn => ?_⟩⟩⟩ <;> simp only [c_and, c_or, Bool.and_eq_true, Bool.or_eq_true, Bool.and_eq_false_iff, Bool.or_eq_false_iff, Bool.not_eq_true', Bool.not_eq_false', beq_iff_eq, beq_eq_false_iff_ne, bne_iff_ne, bne_eq_false_iff_eq, ne_eq, decide_eq_true_eq, decide_eq_false_iff_not] at ha
      · exact ⟨(b, i + 1), ⟨by simp only; omega, by simp only; omega, keep (decide_eq_false fun h => by simp_all)⟩, by simp only; omega, rfl, rfl⟩
      · have hn : b < 0 := of_decide_eq_true hn
        exact ⟨(i, i + 1), ⟨by simp only; omega, by simp only; omega, take (decide_eq_true ⟨ha.1, ha.2, .inl hn⟩)⟩, by simp only; omega, rfl, rfl⟩
      · have hn : ¬ b < 0 := of_decide_eq_false hn
        have hmb : l.getD b.toNat (RTy.zero .car) ∈ l := getD_mem (by omega) _
        refine ⟨hp.2 _ hmi, ⟨by omega, by omega⟩, hp.2 _ hmb, cnd_iff.2 ⟨fun hc => ?_, fun hc => ?_⟩⟩
        · exact ⟨(i, i + 1), ⟨by simp only; omega, by simp only; omega, take (decide_eq_true ⟨ha.1, ha.2, .inr (of_decide_eq_true hc)⟩)⟩, by simp only; omega, rfl, rfl⟩
        · exact ⟨(b, i + 1), ⟨by simp only; omega, by simp only; omega, keep (decide_eq_false fun h => h.2.2.elim hn (of_decide_eq_false hc))⟩, by simp only; omega, rfl, rfl⟩
    · have hi : ¬ i < l.length := of_decide_eq_false hi
      have e : b = bestI c l k := by rw [hb]; unfold bestI; congr 1; omega
      rw [e]
      exact ends_sel [] [0] rfl rfl rfl rfl
  · rename_i k0 k1
    obtain ⟨c, hcc, h1⟩ := Option.bind_eq_some_iff.1 h
    clear h
    obtain ⟨k, hck, h⟩ := Option.bind_eq_some_iff.1 h1
    clear h1
    cases h
    cases Lw.Config.of_eq hcc
    cases Lw.Call.of_eq hck
    clear hcc hck
    refine ⟨fun l h => (nomatch h), fun hp => ?_⟩
    rw [v131e_vc]
    refine loopVC_st (S := Unit) v131eb_m 2 (fun _ => v131eb_fr c k) (fun _ => v131eb_mem c k) (fun _ => 0) (fun _ => True) rfl ⟨(), trivial, rfl, rfl⟩ ?_
    intro q _
    refine (v131eb_vc c k _ _).mpr ?_
    exact ends_pl rfl
  · cases h
theorem tb52_ok : GamOk Tryz.prog eid (gam tb52) := gam_cons h131 tb51_ok
theorem wf_u64 {n : Int} (h : (Lit.int .u64 n).wf = true) : u64R n := wf_range h
theorem wf_car_stops {x : Lw.Car} (h : WfAll x.enc) : stopsR x.stops := ⟨wf_u64 h.2.2.2.2.2.2.2.2.2.2.2.2.1, wf_u64 h.2.2.2.2.2.2.2.2.2.2.2.2.2.1, wf_u64 h.2.2.2.2.2.2.2.2.2.2.2.2.2.2.1⟩
theorem upd1 {p : Option Prop} {v : AV} {n : Mem} {a b : Blk} : ∀ l, (BT.leaf ⟨p, v, some [a], n⟩ : BT SR).ev.upd = some l → l.length = [b].length := fun l h => by
  cases h; rfl
theorem boolOf_eq {vs : List Cell} {b : Bool} (h : boolOf vs = some b) : vs = [.pl (.bool b)] := by
  unfold boolOf at h
  split at h <;> cases h
  rfl
theorem ctlS_eq {pre : Lw.Car → Prop} {g : Ctl → Ctl} {vs : List Cell} {t : BT SR} (h : ctlS pre g vs = some t) : ∃ q : Ctl, vs = q.cells ∧ t = .leaf ⟨some (pre q.car), .tup [], some [.cells (g q).cells], []⟩ := by
  unfold ctlS at h
  obtain ⟨x, hx, h⟩ := Option.bind_eq_some_iff.1 h
  obtain ⟨m, hm, h⟩ := Option.bind_eq_some_iff.1 h
  obtain ⟨k, hk, h⟩ := Option.bind_eq_some_iff.1 h
  obtain ⟨v, hv, h⟩ := Option.bind_eq_some_iff.1 h
  cases h
  refine ⟨⟨x, m, k, v⟩, ?_, rfl⟩
  have h1 := Lw.Car.of_eq hx
  have h2 := Lw.Cmd.of_eq hm
  have h3 := Lw.Call.of_eq hk
  have h4 := boolOf_eq hv
  have e : vs = vs.take 15 ++ ((vs.drop 15).take 3 ++ ((vs.drop 18).take 2 ++ vs.drop 20)) := by
    rw [show vs.drop 20 = (vs.drop 18).drop 2 by rw [List.drop_drop], List.take_append_drop, show vs.drop 18 = (vs.drop 15).drop 3 by rw [List.drop_drop], List.take_append_drop, List.take_append_drop]
  rw [e, h1, h2, h3, h4]
  unfold Ctl.cells
  simp only [List.map_append, List.map_cons, List.map_nil]
theorem levelF_range (u : Int) : 0 ≤ levelF u ∧ levelF u < 64 := by
  unfold levelF
  by_cases h : levelB u = true
  · rw [h]; unfold levelB at h; simp at h; simp only [cond_true]; omega
  · simp only [Bool.not_eq_true] at h; rw [h]; simp
theorem h195 : Holds Tryz.prog eid 195 (s195) := by
  refine hold tb52_ok Tryz.func195 (by kernel_rfl) ?_ (by kernel_rfl)
  intro xs M t h
  unfold s195 at h
  split at h
  case h_2 => cases h
  rename_i csc
  obtain ⟨c, hcc, h1⟩ := Option.bind_eq_some_iff.1 h
  clear h
  have h := h1
  clear h1
  cases h
  cases Lw.Config.of_eq hcc
  clear hcc
  refine ⟨fun l h => (nomatch h), ?_⟩
  intro hp
  rw [v195_vc]
  exact ends_pl (congrArg _ (mm_clamp (by decide) _))
theorem tb53_ok : GamOk Tryz.prog eid (gam tb53) := gam_cons h195 tb52_ok
theorem h146 : Holds Tryz.prog eid 146 (s146) := by
  refine hold tb53_ok Tryz.func146 (by kernel_rfl) ?_ (by kernel_rfl)
  intro xs M t h
  unfold s146 at h
  split at h
  case h_2 => cases h
  rename_i csx
  obtain ⟨x, hcx, h1⟩ := Option.bind_eq_some_iff.1 h
  clear h
  have h := h1
  clear h1
  cases h
  cases Lw.Car.of_eq hcx
  clear hcx
  refine ⟨fun l h => (nomatch h), ?_⟩
  intro hp
  rw [v146_vc]
  have hp : stopsR x.stops := hp
  refine ⟨fun _ => hp, ends_pl (congrArg PC.bool ?_)⟩
  unfold idleB
  rw [Bool.eq_iff_iff]
  simp only [c_and, c_or, Bool.and_eq_true, Bool.or_eq_true, Bool.and_eq_false_iff, Bool.or_eq_false_iff, Bool.not_eq_true', Bool.not_eq_false', beq_iff_eq, beq_eq_false_iff_ne, bne_iff_ne, bne_eq_false_iff_eq, ne_eq, decide_eq_true_eq, decide_eq_false_iff_not, and_assoc]
theorem tb54_ok : GamOk Tryz.prog eid (gam tb54) := gam_cons h146 tb53_ok
theorem h193 : Holds Tryz.prog eid 193 (standS) := by
  refine hold tb54_ok Tryz.func193 (by kernel_rfl) ?_ (by kernel_rfl)
  intro xs M t h
  unfold standS at h
  split at h
  case h_2 => cases h
  rename_i kc f vs
  obtain ⟨c, hc, h1⟩ := Option.bind_eq_some_iff.1 h
  clear h
  cases Lw.Config.of_eq hc
  clear hc
  obtain ⟨⟨x, m, k, v⟩, rfl, rfl⟩ := ctlS_eq h1
  clear h1
  refine ⟨upd1, ?_⟩
  intro hp
  rw [v193_vc]
  obtain ⟨hr, hf⟩ := (hp : stopsR x.stops ∧ (0 ≤ f ∧ f < 64))
  refine ⟨⟨hr, hf⟩, cnd_iff.2 ⟨fun ho => ⟨hr, ?_⟩, fun ho => cnd_iff.2 ⟨fun hz => ?_, fun hz => ?_⟩⟩⟩
  · rw [show standT c f (⟨x, m, k, v⟩ : Ctl) = openK c f (nextI x.stops f x.way x.just).1 (⟨x, m, k, v⟩ : Ctl) from if_pos ho]
    exact ends_sel [] [0] rfl rfl rfl rfl
  · rw [show standT c f (⟨x, m, k, v⟩ : Ctl) = standK (⟨x, m, k, v⟩ : Ctl) (nextI x.stops f x.way x.just).1 from (if_neg (by rw [show (nextI (Ctl.car (⟨x, m, k, v⟩ : Ctl)).stops f x.way x.just).2 = false from ho]; simp)).trans (if_pos (beq_iff_eq.1 hz))]
    exact ends_sel [] [0] rfl rfl rfl rfl
  · rw [show standT c f (⟨x, m, k, v⟩ : Ctl) = goK (⟨x, m, k, v⟩ : Ctl) (nextI x.stops f x.way x.just).1 from (if_neg (by rw [show (nextI (Ctl.car (⟨x, m, k, v⟩ : Ctl)).stops f x.way x.just).2 = false from ho]; simp)).trans (if_neg (beq_eq_false_iff_ne.1 hz))]
    exact ends_sel [] [0] rfl rfl rfl rfl
theorem tb55_ok : GamOk Tryz.prog eid (gam tb55) := gam_cons h193 tb54_ok
theorem h134 : Holds Tryz.prog eid 134 (normalS) := by
  refine hold tb55_ok Tryz.func134 (by kernel_rfl) ?_ (by kernel_rfl)
  intro xs M t h
  unfold normalS at h
  split at h
  case h_2 => cases h
  rename_i kc vs
  obtain ⟨c, hc, h1⟩ := Option.bind_eq_some_iff.1 h
  clear h
  cases Lw.Config.of_eq hc
  clear hc
  obtain ⟨⟨x, m, k, v⟩, rfl, rfl⟩ := ctlS_eq h1
  clear h1
  refine ⟨upd1, ?_⟩
  intro hp
  rw [v134_vc]
  have hr : stopsR x.stops := hp
  have no1 (h : ¬ x.door.state = 0 ∨ levelB x.unit = true) : ¬ (x.door.state = 0 ∧ levelB x.unit = false) := fun z => by
    rcases h with h | h
    · exact h z.1
    · rw [z.2] at h; cases h
  refine cnd_iff.2 ⟨fun h1 => ?_, fun h1 => cnd_iff.2 ⟨fun h2 => ⟨⟨hr, levelF_range x.unit⟩, ?_⟩, fun h2 => cnd_iff.2 ⟨fun h3 => ?_, fun h3 => cnd_iff.2 ⟨fun h4 => cnd_iff.2 ⟨fun _ => ?_, fun h5 => ?_⟩, fun h4 => cnd_iff.2 ⟨fun h5 => ?_, fun h5 => ?_⟩⟩⟩⟩⟩ <;> (try simp only [c_and, c_or, Bool.and_eq_true, Bool.or_eq_true, Bool.and_eq_false_iff, Bool.or_eq_false_iff, Bool.not_eq_true', Bool.not_eq_false', beq_iff_eq, beq_eq_false_iff_ne, bne_iff_ne, bne_eq_false_iff_eq, ne_eq, decide_eq_true_eq, decide_eq_false_iff_not] at h1) <;> (try simp only [c_and, c_or, Bool.and_eq_true, Bool.or_eq_true, Bool.and_eq_false_iff, Bool.or_eq_false_iff, Bool.not_eq_true', Bool.not_eq_false', beq_iff_eq, beq_eq_false_iff_ne, bne_iff_ne, bne_eq_false_iff_eq, ne_eq, decide_eq_true_eq, decide_eq_false_iff_not] at h2) <;> (try simp only [c_and, c_or, Bool.and_eq_true, Bool.or_eq_true, Bool.and_eq_false_iff, Bool.or_eq_false_iff, Bool.not_eq_true', Bool.not_eq_false', beq_iff_eq, beq_eq_false_iff_ne, bne_iff_ne, bne_eq_false_iff_eq, ne_eq, decide_eq_true_eq, decide_eq_false_iff_not] at h3)
  · rw [show normalT c (⟨x, m, k, v⟩ : Ctl) = cmdK (⟨x, m, k, v⟩ : Ctl) ⟨x.way, m.open_, m.close⟩ from if_pos h1]
    exact ends_sel [] [0] rfl rfl rfl rfl
  · rw [show normalT c (⟨x, m, k, v⟩ : Ctl) = standT c (levelF x.unit) (⟨x, m, k, v⟩ : Ctl) from (if_neg (no1 h1)).trans (if_pos h2)]
    exact ends_sel [] [0] rfl rfl rfl rfl
  · rw [show normalT c (⟨x, m, k, v⟩ : Ctl) = (⟨x, m, k, v⟩ : Ctl) from (if_neg (no1 h1)).trans ((if_neg h2).trans (if_pos h3))]
    exact ends_sel [] [0] rfl rfl rfl rfl
  · rw [show normalT c (⟨x, m, k, v⟩ : Ctl) = timeK (⟨x, m, k, v⟩ : Ctl) (spanI c.dwell) m.close from (if_neg (no1 h1)).trans ((if_neg h2).trans ((if_neg fun z => z h3).trans (if_pos (.inl h4))))]
    exact ends_sel [] [0] rfl rfl rfl rfl
  · rw [h4] at h5; cases h5
  · rw [show normalT c (⟨x, m, k, v⟩ : Ctl) = timeK (⟨x, m, k, v⟩ : Ctl) (spanI c.dwell) m.close from (if_neg (no1 h1)).trans ((if_neg h2).trans ((if_neg fun z => z h3).trans (if_pos (.inr h5))))]
    exact ends_sel [] [0] rfl rfl rfl rfl
  · have no4 : ¬ (x.blocked = true ∨ overB x.load c.load = true) := fun z => by
      rcases z with z | z
      · exact absurd (h4.symm.trans z) (by simp)
      · exact absurd (h5.symm.trans z) (by simp)
    rw [show normalT c (⟨x, m, k, v⟩ : Ctl) = timeK (⟨x, m, k, v⟩ : Ctl) (IntKind.i64.wrap (x.timer - 1)) (decide (IntKind.i64.wrap (x.timer - 1) ≤ 0)) from (if_neg (no1 h1)).trans ((if_neg h2).trans ((if_neg fun z => z h3).trans (if_neg no4)))]
    exact ends_sel [] [0] rfl rfl rfl rfl
theorem tb56_ok : GamOk Tryz.prog eid (gam tb56) := gam_cons h134 tb55_ok
theorem h133 : Holds Tryz.prog eid 133 (leasedS) := by
  refine hold tb56_ok Tryz.func133 (by kernel_rfl) ?_ (by kernel_rfl)
  intro xs M t h
  unfold leasedS at h
  split at h
  case h_2 => cases h
  obtain ⟨⟨x, m, k, v⟩, rfl, rfl⟩ := ctlS_eq h
  clear h
  refine ⟨upd1, ?_⟩
  intro hp
  rw [v133_vc]
  have le1 (h : (bif x.door.state == 0 then bif levelB x.unit then levelF x.unit == x.target else false else false) = true) : x.door.state = 0 ∧ (levelB x.unit && (levelF x.unit == x.target)) = true := by
    rw [c_and, c_and, Bool.and_eq_true, beq_iff_eq] at h; exact h
  have le2 (h : (bif x.door.state == 0 then bif levelB x.unit then levelF x.unit == x.target else false else false) = false) : ¬ (x.door.state = 0 ∧ (levelB x.unit && (levelF x.unit == x.target)) = true) := fun z => by
    rw [c_and, c_and, z.2, beq_iff_eq.2 z.1] at h; cases h
  have le3 (h : (bif bif levelB x.unit then levelF x.unit == x.target else false then x.hold else false) = true) : (levelB x.unit && (levelF x.unit == x.target)) = true ∧ x.hold = true := by
    rw [c_and, c_and, Bool.and_eq_true] at h; exact h
  have le4 (h : (bif bif levelB x.unit then levelF x.unit == x.target else false then x.hold else false) = false) : ¬ ((levelB x.unit && (levelF x.unit == x.target)) = true ∧ x.hold = true) := fun z => by
    rw [c_and, c_and, z.1, z.2] at h; cases h
  refine cnd_iff.2 ⟨fun h1 => ?_, fun h1 => cnd_iff.2 ⟨fun h2 => ?_, fun h2 => cnd_iff.2 ⟨fun h3 => ?_, fun h3 => ?_⟩⟩⟩ <;> (try simp only [beq_iff_eq, beq_eq_false_iff_ne, ne_eq] at h2)
  · rw [show leasedT (⟨x, m, k, v⟩ : Ctl) = cmdK (⟨x, m, k, v⟩ : Ctl) ⟨m.run, x.hold, m.close⟩ from if_pos (le1 h1)]
    exact ends_sel [] [0] rfl rfl rfl rfl
  · rw [show leasedT (⟨x, m, k, v⟩ : Ctl) = ⟨putC (Ctl.car (⟨x, m, k, v⟩ : Ctl)) x.way x.timer (-1) x.stops, ⟨towardI x.unit x.target, m.open_, m.close⟩, k, v⟩ from (if_neg (le2 h1)).trans (if_pos h2)]
    exact ends_sel [] [0] rfl rfl rfl rfl
  · rw [show leasedT (⟨x, m, k, v⟩ : Ctl) = cmdK (⟨x, m, k, v⟩ : Ctl) ⟨m.run, x.door.state == 3, m.close⟩ from (if_neg (le2 h1)).trans ((if_neg h2).trans (if_pos (le3 h3)))]
    exact ends_sel [] [0] rfl rfl rfl rfl
  · rw [show leasedT (⟨x, m, k, v⟩ : Ctl) = cmdK (⟨x, m, k, v⟩ : Ctl) ⟨m.run, m.open_, bif x.door.state == 2 then !x.blocked else false⟩ from (if_neg (le2 h1)).trans ((if_neg h2).trans ((if_neg (le4 h3)).trans (by rw [c_and])))]
    exact ends_sel [] [0] rfl rfl rfl rfl
theorem tb57_ok : GamOk Tryz.prog eid (gam tb57) := gam_cons h133 tb56_ok
theorem leased_keeps (k : Ctl) : (leasedT k).car.door = k.car.door ∧ (leasedT k).car.unit = k.car.unit := by
  unfold leasedT
  (repeat' split) <;> exact ⟨rfl, rfl⟩
theorem stand_keeps (c : Config) (f : Int) (k : Ctl) : (standT c f k).car.door = k.car.door ∧ (standT c f k).car.unit = k.car.unit := by
  unfold standT
  (repeat' split) <;> exact ⟨rfl, rfl⟩
theorem normal_keeps (c : Config) (k : Ctl) : (normalT c k).car.door = k.car.door ∧ (normalT c k).car.unit = k.car.unit := by
  unfold normalT
  (repeat' split) <;> first | exact stand_keeps _ _ _ | exact ⟨rfl, rfl⟩
theorem mild_leased {x : Lw.Car} (h : mildC x) : mildC (leasedT (ctl0 x)).car := by
  unfold mildC at *
  rw [(leased_keeps _).1, (leased_keeps _).2]; exact h
theorem mild_normal {c : Config} {x : Lw.Car} (h : mildC x) : mildC (normalT c (ctl0 x)).car := by
  unfold mildC at *
  rw [(normal_keeps _ _).1, (normal_keeps _ _).2]; exact h
theorem h68 : Holds Tryz.prog eid 68 (s68) := by
  refine hold tb57_ok Tryz.func68 (by kernel_rfl) ?_ (by kernel_rfl)
  intro xs M t h
  unfold s68 at h
  split at h
  case h_2 => cases h
  rename_i csc csx
  obtain ⟨c, hcc, h1⟩ := Option.bind_eq_some_iff.1 h
  clear h
  have h := h1
  clear h1
  obtain ⟨x, hcx, h1⟩ := Option.bind_eq_some_iff.1 h
  clear h
  have h := h1
  clear h1
  cases h
  cases Lw.Config.of_eq hcc
  clear hcc
  cases Lw.Car.of_eq hcx
  clear hcx
  refine ⟨fun l h => (nomatch h), ?_⟩
  intro hp
  rw [v68_vc]
  obtain ⟨hr, hm⟩ := (hp : stopsR x.stops ∧ mildC x)
  have cal (k : Ctl) (e : ctlT c x = k) (hs : k.sv = true) : tickCall c x = k.call := by unfold tickCall; rw [e, if_pos hs]
  have cal0 (k : Ctl) (e : ctlT c x = k) (hs : k.sv = false) : tickCall c x = ⟨0, 0⟩ := by unfold tickCall; rw [e, hs]; rfl
  have car (k : Ctl) (e : ctlT c x = k) : tickCar c x = stepC c k.car k.cmd := by unfold tickCar; rw [e]
  have sv (k : Ctl) (e : ctlT c x = k) : tickSv c x = k.sv := by unfold tickSv; rw [e]
  refine cnd_iff.2 ⟨fun hb => ⟨hm, ?_⟩, fun hb => cnd_iff.2 ⟨fun h1 => ⟨trivial, cnd_iff.2 ⟨fun hs => ⟨mild_leased hm, ?_⟩, fun hs => ⟨mild_leased hm, ?_⟩⟩⟩, fun h1 => ⟨hr, cnd_iff.2 ⟨fun hs => ⟨mild_normal hm, ?_⟩, fun hs => ⟨mild_normal hm, ?_⟩⟩⟩⟩⟩
  · have e : ctlT c x = ctl0 x := if_pos hb
    rw [car _ e, cal0 _ e rfl, sv _ e]
    exact ends_v rfl rfl
  · have e : ctlT c x = leasedT (ctl0 x) := (if_neg (by rw [hb]; simp)).trans (if_pos (beq_iff_eq.1 h1))
    rw [car _ e, cal0 _ e (by have z : (!(leasedT (ctl0 x)).sv) = true := hs; simpa using z), sv _ e]
    exact ends_v rfl rfl
  · have e : ctlT c x = leasedT (ctl0 x) := (if_neg (by rw [hb]; simp)).trans (if_pos (beq_iff_eq.1 h1))
    rw [car _ e, cal _ e (by have z : (!(leasedT (ctl0 x)).sv) = false := hs; simpa using z), sv _ e]
    exact ends_v rfl rfl
  · have e : ctlT c x = normalT c (ctl0 x) := (if_neg (by rw [hb]; simp)).trans (if_neg (beq_eq_false_iff_ne.1 h1))
    rw [car _ e, cal0 _ e (by have z : (!(normalT c (ctl0 x)).sv) = true := hs; simpa using z), sv _ e]
    exact ends_v rfl rfl
  · have e : ctlT c x = normalT c (ctl0 x) := (if_neg (by rw [hb]; simp)).trans (if_neg (beq_eq_false_iff_ne.1 h1))
    rw [car _ e, cal _ e (by have z : (!(normalT c (ctl0 x)).sv) = false := hs; simpa using z), sv _ e]
    exact ends_v rfl rfl
theorem tb58_ok : GamOk Tryz.prog eid (gam tb58) := gam_cons h68 tb57_ok
theorem ctl_car (c : Config) (x : Lw.Car) : ((ctlT c x).car.door = x.door ∧ (ctlT c x).car.unit = x.unit ∧ (ctlT c x).car.mode = x.mode ∧ (ctlT c x).car.target = x.target ∧ (ctlT c x).car.broken = x.broken ∧ (ctlT c x).car.blocked = x.blocked ∧ (ctlT c x).car.hold = x.hold) ∧ (0 ≤ x.way → x.way ≤ 2 → 0 ≤ (ctlT c x).car.way ∧ (ctlT c x).car.way ≤ 2) ∧ (levelB x.unit = false → (ctlT c x).car.way = x.way) ∧ (stopsR x.stops → stopsR (ctlT c x).car.stops) := by
  have nr (f : Int) (h0 : 0 ≤ x.way) (h2 : x.way ≤ 2) : 0 ≤ (nextI x.stops f x.way x.just).1 ∧ (nextI x.stops f x.way x.just).1 ≤ 2 := by
    have h := nextI_cases (s := x.stops) (f := f) (j := x.just) h0 h2
    generalize (nextI x.stops f x.way x.just).1 = y at h ⊢
    generalize (nextI x.stops f x.way x.just).2 = b at h
    have ho := other_cases h0 h2
    cases h <;> omega
  have cl (s : Lw.Stops) (f w : Int) (h : stopsR s) : stopsR (clearS s f w) := by
    refine ⟨(bits_R .andNot s.press (bitI f) : u64R (bitsI .andNot .u64 s.press (bitI f))), ?_, ?_⟩
    · unfold clearS; simp only; split
      · exact bits_R _ _ _
      · exact h.2.1
    · unfold clearS; simp only; split
      · exact bits_R _ _ _
      · exact h.2.2
  unfold ctlT
  split
  · exact ⟨⟨rfl, rfl, rfl, rfl, rfl, rfl, rfl⟩, fun h k => ⟨h, k⟩, fun _ => rfl, fun h => h⟩
  · split
    · unfold leasedT
      (repeat' split) <;> exact ⟨⟨rfl, rfl, rfl, rfl, rfl, rfl, rfl⟩, fun h k => ⟨h, k⟩, fun _ => rfl, fun h => h⟩
    · unfold normalT
      split
      · exact ⟨⟨rfl, rfl, rfl, rfl, rfl, rfl, rfl⟩, fun h k => ⟨h, k⟩, fun _ => rfl, fun h => h⟩
      · rename_i h1
        split
        · rename_i h2
          have hl : levelB x.unit = false → False := fun h => h1 ⟨h2, h⟩
          unfold standT
          (repeat' split)
          · exact ⟨⟨rfl, rfl, rfl, rfl, rfl, rfl, rfl⟩, nr _, fun h => (hl h).elim, fun h => cl _ _ _ h⟩
          · exact ⟨⟨rfl, rfl, rfl, rfl, rfl, rfl, rfl⟩, nr _, fun h => (hl h).elim, fun h => h⟩
          · exact ⟨⟨rfl, rfl, rfl, rfl, rfl, rfl, rfl⟩, fun h k => ⟨h, k⟩, fun h => (hl h).elim, fun h => h⟩
        · (repeat' split) <;> exact ⟨⟨rfl, rfl, rfl, rfl, rfl, rfl, rfl⟩, fun h k => ⟨h, k⟩, fun _ => rfl, fun h => h⟩
theorem may_iff {c : Config} {x : Lw.Car} : mayB c x = true ↔ goodC c x = true ∧ (x.mode = 0 ∨ x.mode = 1) ∧ (levelB x.unit = true ∨ x.way ≠ 0) ∧ (x.mode ≠ 1 ∨ (0 ≤ x.target ∧ x.target < floorsI c.floors)) := by
  unfold mayB
  simp only [c_and, c_or, Bool.and_eq_true, Bool.or_eq_true, Bool.and_eq_false_iff, Bool.or_eq_false_iff, Bool.not_eq_true', Bool.not_eq_false', beq_iff_eq, beq_eq_false_iff_ne, bne_iff_ne, bne_eq_false_iff_eq, ne_eq, decide_eq_true_eq, decide_eq_false_iff_not]
theorem good_mild {c : Config} {x : Lw.Car} (h : goodC c x = true) : mildC x := by
  have hf := floorsI_range c.floors
  simp only [goodC, decide_eq_true_eq] at h
  refine ⟨goodD_mild h.1, ?_⟩
  unfold r64; omega
theorem good_ctl {c : Config} {x : Lw.Car} (h : goodC c x = true) : goodC c (ctlT c x).car = true := by
  obtain ⟨⟨k1, k2, _⟩, k3, k4, k5⟩ := ctl_car c x
  simp only [goodC, decide_eq_true_eq] at h ⊢
  obtain ⟨h1, h2, h3, h4, h5, h6⟩ := h
  rw [k1, k2]
  exact ⟨h1, h2, h3, (k3 h4 h5).1, (k3 h4 h5).2, h6⟩
theorem tick_may {c : Config} {x : Lw.Car} (h : mayB c x = true) (hs : stopsR x.stops) : mayB c (tickCar c x) = true ∧ stopsR (tickCar c x).stops ∧ ((tickCar c x).unit ≠ x.unit → x.door.state = 0 ∧ (tickCar c x).door.state = 0) := by
  obtain ⟨⟨k1, k2, k6, k7, _⟩, k3, k4, k5⟩ := ctl_car c x
  obtain ⟨hg, hm, hl, ht⟩ := may_iff.1 h
  have hgc := good_ctl hg
  refine ⟨may_iff.2 ⟨(good_step (ctlT c x).cmd hgc).1, ?_, ?_, ?_⟩, ?_, fun hu => ?_⟩
  · unfold tickCar; rw [stepC_mode, k6]; exact hm
  · unfold tickCar stepC
    split
    · rename_i hc
      right
      simp only; omega
    · simp only [k2]
      cases hv : levelB x.unit
      · right
        rw [k4 hv]
        rcases hl with hl | hl
        · rw [hv] at hl; cases hl
        · exact hl
      · exact .inl rfl
  · unfold tickCar; rw [stepC_mode, stepC_target, k6, k7]; exact ht
  · unfold tickCar; rw [stepC_stops]; exact k5 hs
  · unfold tickCar at hu ⊢
    have := unit_step c (ctlT c x).car (ctlT c x).cmd (by rw [k2]; exact hu)
    rw [k1] at this
    exact this.2
theorem may_told {c : Config} {x a : Lw.Car} (h : mayB c x = true) : mayB c (told14 x a) = true := h
theorem wf_stopsC {x : Lw.Car} (h : WfAll x.enc) : stopsR x.stops := ⟨wf_range h.2.2.2.2.2.2.2.2.2.2.2.2.1, wf_range h.2.2.2.2.2.2.2.2.2.2.2.2.2.1, wf_range h.2.2.2.2.2.2.2.2.2.2.2.2.2.2.1⟩
theorem leased_tick {c : Config} {x : Lw.Car} (hb : x.broken = false) (hm : x.mode = 1) : tickCar c x = stepC c (leasedT (ctl0 x)).car (leasedT (ctl0 x)).cmd := by
  unfold tickCar
  rw [show ctlT c x = leasedT (ctl0 x) from (if_neg (by rw [hb]; simp)).trans (if_pos hm)]
theorem step_unit0 {c : Config} {x : Lw.Car} {m : Lw.Cmd} (h : m.run = 0) : (stepC c x m).unit = x.unit := by
  unfold stepC
  rw [if_neg (by rw [h]; simp)]
theorem there_level {x : Lw.Car} (h : thereB x = true) : levelB x.unit = true ∧ x.unit = 4 * x.target := by
  unfold thereB at h
  simp only [Bool.and_eq_true, beq_iff_eq] at h
  refine ⟨h.1, ?_⟩
  have hl := h.1
  have hf := h.2
  unfold levelF at hf
  rw [hl, cond_true] at hf
  unfold levelB at hl
  simp at hl
  omega
theorem there_of {x : Lw.Car} (h0 : 0 ≤ x.target) (h1 : x.target < 64) (h : x.unit = 4 * x.target) : thereB x = true := by
  have hl : levelB x.unit = true := by unfold levelB; simp; omega
  unfold thereB
  rw [hl, Bool.true_and, beq_iff_eq]
  unfold levelF
  rw [hl, cond_true]; omega
theorem tick_there {c : Config} {x : Lw.Car} (hb : x.broken = false) (hm : x.mode = 1) (hh : x.hold = true) (ht : thereB x = true) : (tickCar c x).door = tickD (openD x.door) c.door x.blocked ∧ (tickCar c x).unit = x.unit := by
  have hl := (there_level ht).1
  rw [leased_tick hb hm]
  by_cases h0 : x.door.state = 0
  · rw [show leasedT (ctl0 x) = cmdK (ctl0 x) ⟨0, x.hold, false⟩ from if_pos ⟨h0, ht⟩]
    show (stepC c x ⟨0, x.hold, false⟩).door = _ ∧ (stepC c x ⟨0, x.hold, false⟩).unit = _
    rw [step_door, step_unit0 rfl, told_o hb ⟨hh, hl⟩]
    exact ⟨rfl, rfl⟩
  · rw [show leasedT (ctl0 x) = cmdK (ctl0 x) ⟨0, x.door.state == 3, false⟩ from (if_neg fun h => h0 h.1).trans ((if_neg h0).trans (if_pos ⟨ht, hh⟩))]
    show (stepC c x ⟨0, x.door.state == 3, false⟩).door = _ ∧ (stepC c x ⟨0, x.door.state == 3, false⟩).unit = _
    rw [step_door, step_unit0 rfl]
    refine ⟨?_, rfl⟩
    by_cases h3 : x.door.state = 3
    · rw [told_o hb ⟨by simp [h3], hl⟩]
    · rw [told_n hb (.inl (by simp [h3])) (.inl rfl), openD_id (by omega)]
theorem tick_away0 {c : Config} {x : Lw.Car} (hb : x.broken = false) (hm : x.mode = 1) (ht : thereB x = false) (h0 : x.door.state = 0) (hw : towardI x.unit x.target = 1 ∨ towardI x.unit x.target = 2) : (tickCar c x).door = x.door ∧ (tickCar c x).unit = moveI x.unit (towardI x.unit x.target) c.floors := by
  rw [leased_tick hb hm]
  rw [show leasedT (ctl0 x) = ⟨putC x x.way x.timer (-1) x.stops, ⟨towardI x.unit x.target, false, false⟩, ⟨0, 0⟩, false⟩ from (if_neg fun h => by rw [show thereB x = true from h.2] at ht; cases ht).trans (if_pos h0)]
  have hd : toldD (putC x x.way x.timer (-1) x.stops) ⟨towardI x.unit x.target, false, false⟩ = x.door := told_n hb (.inl rfl) (.inl rfl)
  simp only
  refine ⟨?_, ?_⟩
  · rw [step_door, hd, tickD_zero h0]
  · unfold stepC
    rw [hd, if_pos ⟨hb, h0, by rw [tickD_zero h0]; exact h0, hw⟩]
    rfl
theorem tick_away1 {c : Config} {x : Lw.Car} (hb : x.broken = false) (hm : x.mode = 1) (hl : x.blocked = false) (ht : thereB x = false) (h0 : x.door.state ≠ 0) : (tickCar c x).door = tickD (if x.door.state = 2 then closeD x.door else x.door) c.door x.blocked ∧ (tickCar c x).unit = x.unit := by
  rw [leased_tick hb hm]
  rw [show leasedT (ctl0 x) = cmdK (ctl0 x) ⟨0, false, (x.door.state == 2) && !x.blocked⟩ from (if_neg fun h => h0 h.1).trans ((if_neg h0).trans (if_neg fun h => by rw [show thereB x = true from h.1] at ht; cases ht))]
  show (stepC c x ⟨0, false, (x.door.state == 2) && !x.blocked⟩).door = _ ∧ (stepC c x ⟨0, false, (x.door.state == 2) && !x.blocked⟩).unit = _
  rw [step_door, step_unit0 rfl]
  refine ⟨?_, rfl⟩
  by_cases h2 : x.door.state = 2
  · rw [if_pos h2, told_c hb (.inl rfl) (by simp [h2, hl])]
  · rw [if_neg h2, told_n hb (.inl rfl) (.inl (by simp [h2]))]
theorem tick_same (c : Config) (x : Lw.Car) : (tickCar c x).mode = x.mode ∧ (tickCar c x).target = x.target ∧ (tickCar c x).broken = x.broken ∧ (tickCar c x).blocked = x.blocked ∧ (tickCar c x).hold = x.hold := by
  obtain ⟨⟨k1, k2, k3, k4, k5, k6, k7⟩, _⟩ := ctl_car c x
  unfold tickCar
  rw [stepC_mode, stepC_target, stepC_broken, stepC_blocked, stepC_hold]
  exact ⟨k3, k4, k5, k6, k7⟩
def farA (x : Lw.Car) : Int := max (x.unit - 4 * x.target) (4 * x.target - x.unit)
def opL (d : Lw.Door) (D : Int) : Int := if d.state = 2 then 0 else if d.state = 0 then D else if D - d.at_ ≤ 1 then 1 else D - d.at_
def shL (d : Lw.Door) (D : Int) : Int := if d.state = 0 then 0 else if d.state = 3 then (if d.at_ ≤ 1 then 1 else d.at_) else if d.state = 2 then D else (if D - d.at_ ≤ 1 then 1 else D - d.at_) + D
def phiG (c : Config) (x : Lw.Car) : Int := if thereB x = true then opL x.door (spanI c.door) else farA x + spanI c.door + shL x.door (spanI c.door)
theorem door_four {d : Lw.Door} {t : Int} (h : goodD d t = true) : (d.state = 0 ∧ d.at_ = 0) ∨ (d.state = 2 ∧ d.at_ = spanI t) ∨ (d.state = 1 ∧ 0 ≤ d.at_ ∧ d.at_ ≤ spanI t) ∨ (d.state = 3 ∧ 0 ≤ d.at_ ∧ d.at_ ≤ spanI t) := by
  simp only [goodD, decide_eq_true_eq] at h
  omega
theorem opL_range {d : Lw.Door} {t : Int} (h : goodD d t = true) : 0 ≤ opL d (spanI t) ∧ opL d (spanI t) ≤ spanI t ∧ (opL d (spanI t) = 0 → d.state = 2) := by
  have hs := spanI_range t
  obtain ⟨st, aa⟩ := d
  rcases door_four h with k | k | k | k <;> simp only at k <;> obtain ⟨rfl, k⟩ := k <;> unfold opL <;> simp only [Int.reduceEq, if_true, if_false] <;> (try split) <;> (refine ⟨by omega, by omega, fun hp => ?_⟩) <;> first | rfl | omega
theorem shL_range {d : Lw.Door} {t : Int} (h : goodD d t = true) : 0 ≤ shL d (spanI t) ∧ shL d (spanI t) ≤ 2 * spanI t := by
  have hs := spanI_range t
  obtain ⟨st, aa⟩ := d
  rcases door_four h with k | k | k | k <;> simp only at k <;> obtain ⟨rfl, k⟩ := k <;> unfold shL <;> simp only [Int.reduceEq, if_true, if_false] <;> (try split) <;> omega
theorem open_step {d : Lw.Door} {t : Int} (h : goodD d t = true) : opL (tickD (openD d) t false) (spanI t) < opL d (spanI t) ∨ (opL d (spanI t) = 0 ∧ opL (tickD (openD d) t false) (spanI t) = 0) := by
  have hs := spanI_range t
  obtain ⟨st, aa⟩ := d
  by_cases hq : aa + 1 ≥ spanI t
  · rcases door_four h with k | k | k | k <;> simp only at k <;> obtain ⟨rfl, k⟩ := k <;> simp [openD, tickD, opL, hq] <;> (try split) <;> omega
  · rcases door_four h with k | k | k | k <;> simp only at k <;> obtain ⟨rfl, k⟩ := k <;> simp [openD, tickD, opL, hq] <;> (repeat' split) <;> omega
theorem shut_step {d : Lw.Door} {t : Int} (h : goodD d t = true) (h0 : d.state ≠ 0) : shL (tickD (if d.state = 2 then closeD d else d) t false) (spanI t) < shL d (spanI t) := by
  have hs := spanI_range t
  obtain ⟨st, aa⟩ := d
  by_cases hq : aa + 1 ≥ spanI t <;> by_cases hz : aa ≤ 1
  all_goals (rcases door_four h with k | k | k | k <;> simp only at k <;> obtain ⟨rfl, k⟩ := k <;> first | exact absurd rfl h0 | (simp [closeD, tickD, shL, hq, hz] <;> (repeat' split) <;> omega))
theorem phi_range {c : Config} {x : Lw.Car} (h : mayB c x = true) : 0 ≤ phiG c x ∧ phiG c x ≤ farA x + 3 * spanI c.door ∧ (phiG c x ≤ 0 → thereB x = true ∧ x.door.state = 2) := by
  have hs := spanI_range c.door
  have hg := (may_iff.1 h).1
  simp only [goodC, decide_eq_true_eq] at hg
  have h1 := opL_range hg.1
  have h2 := shL_range hg.1
  have hf : 0 ≤ farA x := by unfold farA; omega
  unfold phiG
  by_cases ht : thereB x = true
  · rw [if_pos ht]
    exact ⟨by omega, by omega, fun hp => ⟨ht, h1.2.2 (by omega)⟩⟩
  · rw [if_neg ht]
    exact ⟨by omega, by omega, fun hp => by omega⟩
theorem phi_step {c : Config} {x : Lw.Car} (h : mayB c x = true) (hb : x.broken = false) (hm : x.mode = 1) (hh : x.hold = true) (hl : x.blocked = false) : phiG c (tickCar c x) < phiG c x ∨ (phiG c x = 0 ∧ phiG c (tickCar c x) = 0) := by
  have hs := spanI_range c.door
  have hfl := floorsI_range c.floors
  obtain ⟨hg, _, hlev, htg⟩ := may_iff.1 h
  have htg : 0 ≤ x.target ∧ x.target < floorsI c.floors := by
    rcases htg with k | k
    · exact absurd hm k
    · exact k
  simp only [goodC, decide_eq_true_eq] at hg
  obtain ⟨hd, hu0, hu1, _, _, hsafe⟩ := hg
  have hsame := tick_same c x
  by_cases ht : thereB x = true
  · obtain ⟨e1, e2⟩ := tick_there (c := c) hb hm hh ht
    have ht' : thereB (tickCar c x) = true := by unfold thereB at ht ⊢; rw [e2, hsame.2.1]; exact ht
    unfold phiG
    rw [if_pos ht, if_pos ht', e1, hl]
    exact open_step hd
  · have ht0 : thereB x = false := by simpa using ht
    have hne : x.unit ≠ 4 * x.target := fun k => ht (there_of htg.1 (by omega) k)
    have h4 : at4 x.target = 4 * x.target := wrap_id (by omega) (by omega)
    by_cases h0 : x.door.state = 0
    · have hw : towardI x.unit x.target = 1 ∨ towardI x.unit x.target = 2 := by
        unfold towardI; rw [h4]; (repeat' split) <;> omega
      obtain ⟨e1, e2⟩ := tick_away0 (c := c) hb hm ht0 h0 hw
      have e3 : farA (tickCar c x) = farA x - 1 ∧ farA x ≥ 1 := by
        unfold farA
        rw [e2, hsame.2.1]
        unfold moveI towardI
        rw [h4]
        (repeat' split) <;> omega
      left
      unfold phiG
      have s0 : shL x.door (spanI c.door) = 0 := if_pos h0
      have o0 := (opL_range hd).2.1
      rw [if_neg ht, e1, s0]
      by_cases ht' : thereB (tickCar c x) = true
      · rw [if_pos ht']; omega
      · rw [if_neg ht']; omega
    · obtain ⟨e1, e2⟩ := tick_away1 (c := c) hb hm hl ht0 h0
      have ht' : ¬ thereB (tickCar c x) = true := by
        unfold thereB at ht ⊢; rw [e2, hsame.2.1]; exact ht
      have e3 : farA (tickCar c x) = farA x := by unfold farA; rw [e2, hsame.2.1]
      left
      unfold phiG
      have := shut_step hd h0
      rw [if_neg ht, if_neg ht', e1, e3, hl]
      omega
theorem run14_ok : ∀ k : Fin 6, (stopsR (run14 k).1.stops ∧ mildC (run14 k).1) ∧ (0 ≤ (run14 k).2 ∧ (run14 k).2 ≤ 6) := by
  unfold stopsR mildC u64R mildD r64
  decide +kernel
theorem run14_go (k : Nat) : run14 (k + 1) = (tickCar conf14 (run14 k).1, if tickSv conf14 (run14 k).1 = true ∧ (tickCall conf14 (run14 k).1).floor = 1 ∧ (tickCall conf14 (run14 k).1).way = 1 then (run14 k).2 + 1 else (run14 k).2) := rfl
theorem pcs2 (a b : Int) : pcsEq [PC.int .i64 a, PC.int .i64 b] [PC.int .i64 1, PC.int .i64 1] = true ↔ a = 1 ∧ b = 1 := by
  simp [pcsEq, pcEq]
theorem hold_door {d : Lw.Door} {t : Int} (b : Bool) (h : goodD d t = true) (h3 : d.state ≠ 3) : goodD (tickD (openD d) t b) t = true ∧ (tickD (openD d) t b).state ≠ 3 ∧ (d.state = 2 → (tickD (openD d) t b).state = 2) := by
  have hs := spanI_range t
  refine ⟨((door_goods (door_goods h).1.1).2.2 b).1, ?_⟩
  simp only [goodD, decide_eq_true_eq] at h
  unfold tickD openD
  (repeat' split) <;> simp only at * <;> omega
theorem floor_of {fl : Int} (h : 0 ≤ fl ∧ fl ≤ 255) (n : Int) : 0 ≤ Int.tmod (IntKind.i64.wrap fl) (floorsI n) ∧ Int.tmod (IntKind.i64.wrap fl) (floorsI n) < floorsI n := by
  have hf := floorsI_range n
  rw [wrap_id (by omega) (by omega), Int.tmod_eq_emod_of_nonneg h.1]
  exact ⟨Int.emod_nonneg _ (by omega), Int.emod_lt_of_pos _ (by omega)⟩
end Go.Proofs.YtjgmkpidiaojkaaGreat
