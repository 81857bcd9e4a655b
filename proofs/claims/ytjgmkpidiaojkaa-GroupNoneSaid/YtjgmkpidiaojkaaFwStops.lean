/- The functions of this group answer so. -/
import Derived.Test.YtjgmkpidiaojkaaFwStopsV
import Derived.Test.YtjgmkpidiaojkaaFwEtaM
set_option linter.unusedVariables false
set_option linter.unusedSimpArgs false
set_option maxRecDepth 20000
set_option maxHeartbeats 4000000
namespace Go.Proofs.Ytjgmkpidiaojkaa
open Lw
theorem has_tb (b f : Int) : hasB b f = (decide (0 ≤ f ∧ f < 64) && b.toNat.testBit f.toNat) := by
  unfold hasB
  rw [Nat.testBit_eq_decide_div_mod_eq, Bool.eq_iff_iff]
  simp [and_assoc]
theorem bv_of {x : Int} (h : u64R x) : (BitVec.ofInt 64 x).toNat = x.toNat := by
  unfold u64R at h
  rw [BitVec.toNat_ofInt]; omega
theorem bits_val (op : BinOp) (x y : Int) : bitsI op .u64 x y = (((match op with
    | .and => BitVec.ofInt 64 x &&& BitVec.ofInt 64 y
    | .or => BitVec.ofInt 64 x ||| BitVec.ofInt 64 y
    | .xor => BitVec.ofInt 64 x ^^^ BitVec.ofInt 64 y
    | _ => BitVec.ofInt 64 x &&& ~~~ BitVec.ofInt 64 y : BitVec 64).toNat : Nat) : Int) := by
  unfold bitsI
  rw [IntKind.wrap_u64]
  exact Int.emod_eq_of_lt (Int.natCast_nonneg _) (Int.ofNat_lt.2 (BitVec.isLt _))
theorem bits_R (op : BinOp) (x y : Int) : u64R (bitsI op .u64 x y) := by
  unfold bitsI u64R
  rw [IntKind.wrap_u64]; omega
theorem bitI_R (f : Int) : u64R (bitI f) := by
  obtain ⟨n, h, k⟩ := bitI_nat f
  unfold u64R; omega
theorem has_or {x y : Int} (hx : u64R x) (hy : u64R y) (f : Int) : hasB (bitsI .or .u64 x y) f = (hasB x f || hasB y f) := by
  rw [has_tb, has_tb, has_tb, bits_val, Int.toNat_natCast, BitVec.toNat_or, bv_of hx, bv_of hy, Nat.testBit_or]
  cases decide (0 ≤ f ∧ f < 64) <;> rfl
theorem has_and {x y : Int} (hx : u64R x) (hy : u64R y) (f : Int) : hasB (bitsI .and .u64 x y) f = (hasB x f && hasB y f) := by
  rw [has_tb, has_tb, has_tb, bits_val, Int.toNat_natCast, BitVec.toNat_and, bv_of hx, bv_of hy, Nat.testBit_and]
  cases decide (0 ≤ f ∧ f < 64) <;> rfl
theorem has_andNot {x y : Int} (hx : u64R x) (hy : u64R y) (f : Int) : hasB (bitsI .andNot .u64 x y) f = (hasB x f && !hasB y f) := by
  rw [has_tb, has_tb, has_tb, bits_val, Int.toNat_natCast, BitVec.testBit_toNat, BitVec.getLsbD_and, BitVec.getLsbD_not, ← BitVec.testBit_toNat, ← BitVec.testBit_toNat, bv_of hx, bv_of hy]
  by_cases h : 0 ≤ f ∧ f < 64
  · rw [decide_eq_true h, decide_eq_true (show f.toNat < 64 by omega)]; rfl
  · rw [decide_eq_false h]; rfl
theorem has_zero (f : Int) : hasB 0 f = false := by
  rw [has_tb]; simp
theorem has_bit (g f : Int) : hasB (bitI g) f = (decide (0 ≤ f ∧ f < 64) && decide (f = g)) := by
  unfold bitI
  split
  · rename_i h
    rw [has_tb, Int.toNat_natCast, Nat.testBit_two_pow]
    by_cases h' : 0 ≤ f ∧ f < 64
    · rw [decide_eq_true h', Bool.true_and, Bool.true_and, decide_eq_decide]; omega
    · rw [decide_eq_false h']; rfl
  · rename_i h
    rw [has_zero]
    by_cases h' : 0 ≤ f ∧ f < 64
    · rw [decide_eq_false (show ¬ f = g by omega), Bool.and_false]
    · rw [decide_eq_false h']; rfl
theorem has_range {b f : Int} (h : hasB b f = true) : 0 ≤ f ∧ f < 64 := by
  rw [has_tb, Bool.and_eq_true, decide_eq_true_eq] at h
  exact h.1
theorem has_ext {a b : Int} (ha : u64R a) (hb : u64R b) (h : ∀ f, 0 ≤ f → f < 64 → hasB a f = hasB b f) : a = b := by
  unfold u64R at ha hb
  have : a.toNat = b.toNat := Nat.eq_of_testBit_eq fun i => by
    by_cases hi : i < 64
    · have := h i (by omega) (by omega)
      rw [has_tb, has_tb, decide_eq_true (show 0 ≤ (i : Int) ∧ (i : Int) < 64 by omega), Int.toNat_natCast] at this
      simpa using this
    · have hp : 2 ^ 64 ≤ 2 ^ i := Nat.pow_le_pow_right (by decide) (by omega)
      rw [Nat.testBit_lt_two_pow (x := a.toNat) (by omega), Nat.testBit_lt_two_pow (x := b.toNat) (by omega)]
  omega
theorem and_test {a : Int} (ha : u64R a) (f : Int) : (bitsI .and .u64 a (bitI f) != 0) = hasB a f := by
  rw [Bool.eq_iff_iff, bne_iff_ne]
  constructor
  · intro h
    cases hh : hasB a f
    · refine absurd (has_ext (bits_R _ _ _) (by unfold u64R; omega) fun g h0 h1 => ?_) h
      rw [has_and ha (bitI_R f), has_bit, has_zero]
      by_cases hg : g = f
      · subst hg; rw [hh]; rfl
      · rw [decide_eq_false hg, Bool.and_false, Bool.and_false]
    · rfl
  · intro h k
    have := has_and ha (bitI_R f) f
    rw [k, has_zero, h, has_bit, decide_eq_true (has_range h)] at this
    simp at this
theorem any_or {s : Lw.Stops} (h : stopsR s) (f : Int) : hasB (bitsI .or .u64 (bitsI .or .u64 s.press s.up) s.down) f = anyB s f := by
  rw [has_or (bits_R _ _ _) h.2.2, has_or h.1 h.2.1, Bool.or_assoc]; rfl
theorem aheadN_iff {s : Lw.Stops} {f w : Int} : ∀ {n : Nat}, aheadN s f w n = true ↔ ∃ k : Int, 0 ≤ k ∧ k < n ∧ anyB s k = true ∧ thatB k f w = true
  | 0 => by
    unfold aheadN
    constructor
    · intro h; cases h
    · rintro ⟨k, h0, h1, _⟩; omega
  | n + 1 => by
    unfold aheadN
    rw [Bool.or_eq_true, aheadN_iff, Bool.and_eq_true]
    constructor
    · rintro (⟨k, h0, h1, h2⟩ | h)
      · exact ⟨k, h0, by omega, h2⟩
      · exact ⟨n, by omega, by omega, h⟩
    · rintro ⟨k, h0, h1, h2⟩
      by_cases hk : k = n
      · subst hk; exact .inr h2
      · exact .inl ⟨k, h0, by omega, h2⟩
theorem aheadB_iff {s : Lw.Stops} {f w : Int} : aheadB s f w = true ↔ ∃ k : Int, 0 ≤ k ∧ k < 64 ∧ anyB s k = true ∧ thatB k f w = true := aheadN_iff
theorem h57 : Holds Try.prog eid 57 (s57) := by
  refine hold tb24_ok Try.func57 (by kernel_rfl) ?_ (by kernel_rfl)
  intro xs M t h
  unfold s57 at h
  split at h
  case h_2 => cases h
  rename_i f
  cases h
  refine ⟨fun l h => (nomatch h), ?_⟩
  intro hp
  rw [v57_vc]
  refine cnd_iff.2 ⟨fun h => ?_, fun h => ?_⟩ <;> simp only [c_and, c_or, Bool.and_eq_true, Bool.or_eq_true, Bool.and_eq_false_iff, Bool.or_eq_false_iff, Bool.not_eq_true', Bool.not_eq_false', beq_iff_eq, beq_eq_false_iff_ne, bne_iff_ne, bne_eq_false_iff_eq, ne_eq, decide_eq_true_eq, decide_eq_false_iff_not] at h
  · exact ends_pl (congrArg _ (by unfold bitI; rw [if_neg (by omega)]))
  · refine ⟨by omega, ends_pl (congrArg _ ?_)⟩
    unfold bitI
    rw [if_pos (by omega)]
    obtain ⟨k, rfl⟩ : ∃ k : Nat, f = (k : Int) := ⟨f.toNat, by omega⟩
    rw [(shl_one k (by omega)).1, Int.toNat_natCast]
theorem tb25_ok : GamOk Try.prog eid (gam tb25) := gam_cons h57 tb24_ok
theorem h61 : Holds Try.prog eid 61 (rowS) := by
  refine hold tb25_ok Try.func61 (by kernel_rfl) ?_ (by kernel_rfl)
  intro xs M t h
  unfold rowS at h
  split at h <;> cases h
  rename_i w p u d
  refine ⟨fun l h => ?_, fun hp => ?_⟩
  · unfold BT.ev at h
    cases h1 : (w == 1) <;> cases h2 : (w == 2) <;> simp [h1, h2, BT.ev] at h
  rw [v61_vc]
  refine cnd_iff.2 ⟨fun h1 => ?_, fun h1 => cnd_iff.2 ⟨fun h2 => ?_, fun h2 => ?_⟩⟩
  · simp only [BT.ev, h1, cond_true]
    exact ends_sel [] [0] rfl rfl rfl rfl
  · simp only [BT.ev, h1, h2, cond_true, cond_false]
    exact ends_sel [] [0] rfl rfl rfl rfl
  · simp only [BT.ev, h1, h2, cond_false]
    exact ends_sel [] [0] rfl rfl rfl rfl
theorem tb26_ok : GamOk Try.prog eid (gam tb26) := gam_cons h61 tb25_ok
theorem h88 : Holds Try.prog eid 88 (s88) := by
  refine hold tb26_ok Try.func88 (by kernel_rfl) ?_ (by kernel_rfl)
  intro xs M t h
  unfold s88 at h
  split at h
  case h_2 => cases h
  rename_i css
  obtain ⟨s, hcs, h1⟩ := Option.bind_eq_some_iff.1 h
  clear h
  have h := h1
  clear h1
  cases h
  cases Lw.Stops.of_eq hcs
  clear hcs
  refine ⟨fun l h => (nomatch h), ?_⟩
  intro hp
  rw [v88_vc]
  exact ends_pl rfl
theorem tb27_ok : GamOk Try.prog eid (gam tb27) := gam_cons h88 tb26_ok
theorem h39 : Holds Try.prog eid 39 (s39) := by
  refine hold tb27_ok Try.func39 (by kernel_rfl) ?_ (by kernel_rfl)
  intro xs M t h
  unfold s39 at h
  split at h
  case h_2 => cases h
  rename_i css f
  obtain ⟨s, hcs, h1⟩ := Option.bind_eq_some_iff.1 h
  clear h
  have h := h1
  clear h1
  cases h
  cases Lw.Stops.of_eq hcs
  clear hcs
  refine ⟨fun l h => (nomatch h), ?_⟩
  intro hp
  rw [v39_vc]
  exact ends_v rfl rfl
theorem tb28_ok : GamOk Try.prog eid (gam tb28) := gam_cons h39 tb27_ok
theorem h49 : Holds Try.prog eid 49 (s49) := by
  refine hold tb28_ok Try.func49 (by kernel_rfl) ?_ (by kernel_rfl)
  intro xs M t h
  unfold s49 at h
  split at h
  case h_2 => cases h
  rename_i css f w
  obtain ⟨s, hcs, h1⟩ := Option.bind_eq_some_iff.1 h
  clear h
  have h := h1
  clear h1
  cases h
  cases Lw.Stops.of_eq hcs
  clear hcs
  refine ⟨fun l h => (nomatch h), ?_⟩
  intro hp
  rw [v49_vc]
  refine cnd_iff.2 ⟨fun h1 => ?_, fun h1 => cnd_iff.2 ⟨fun h2 => ?_, fun h2 => ?_⟩⟩ <;> simp only [beq_iff_eq, beq_eq_false_iff_ne] at *
  · exact ends_v (by unfold hallS; rw [if_pos h1]; rfl) rfl
  · exact ends_v (by unfold hallS; rw [if_neg h1, if_pos h2]; rfl) rfl
  · exact ends_v (by unfold hallS; rw [if_neg h1, if_neg h2]; rfl) rfl
theorem tb29_ok : GamOk Try.prog eid (gam tb29) := gam_cons h49 tb28_ok
theorem h77 : Holds Try.prog eid 77 (s77) := by
  refine hold tb29_ok Try.func77 (by kernel_rfl) ?_ (by kernel_rfl)
  intro xs M t h
  unfold s77 at h
  split at h
  case h_2 => cases h
  rename_i css f w
  obtain ⟨s, hcs, h1⟩ := Option.bind_eq_some_iff.1 h
  clear h
  have h := h1
  clear h1
  cases h
  cases Lw.Stops.of_eq hcs
  clear hcs
  refine ⟨fun l h => (nomatch h), ?_⟩
  intro hp
  rw [v77_vc]
  refine cnd_iff.2 ⟨fun h1 => ?_, fun h1 => cnd_iff.2 ⟨fun h2 => ?_, fun h2 => ?_⟩⟩ <;> simp only [beq_iff_eq, beq_eq_false_iff_ne] at *
  · exact ends_v (by unfold clearS; rw [if_pos h1, if_neg (by omega)]; rfl) rfl
  · exact ends_v (by unfold clearS; rw [if_neg h1, if_pos h2]; rfl) rfl
  · exact ends_v (by unfold clearS; rw [if_neg h1, if_neg h2]; rfl) rfl
theorem tb30_ok : GamOk Try.prog eid (gam tb30) := gam_cons h77 tb29_ok
theorem h76 : Holds Try.prog eid 76 (s76) := by
  refine hold tb30_ok Try.func76 (by kernel_rfl) ?_ (by kernel_rfl)
  intro xs M t h
  unfold s76 at h
  split at h
  case h_2 => cases h
  rename_i css f w
  obtain ⟨s, hcs, h1⟩ := Option.bind_eq_some_iff.1 h
  clear h
  have h := h1
  clear h1
  cases h
  cases Lw.Stops.of_eq hcs
  clear hcs
  refine ⟨fun l h => (nomatch h), ?_⟩
  intro hp
  rw [v76_vc]
  have hp : stopsR s := hp
  refine cnd_iff.2 ⟨fun h1 => ?_, fun h1 => cnd_iff.2 ⟨fun h2 => ?_, fun h2 => ?_⟩⟩ <;> simp only [beq_iff_eq, beq_eq_false_iff_ne] at *
  · refine ends_pl (congrArg _ ?_)
    rw [and_test hp.2.1]; unfold hallB; simp [h1]
  · refine ends_pl (congrArg _ ?_)
    rw [and_test hp.2.2]; unfold hallB; simp [h2]
  · refine ends_pl (congrArg _ ?_)
    unfold hallB; simp [h1, h2]
theorem tb31_ok : GamOk Try.prog eid (gam tb31) := gam_cons h76 tb30_ok
theorem h84 : Holds Try.prog eid 84 (s84) := by
  refine hold tb31_ok Try.func84 (by kernel_rfl) ?_ (by kernel_rfl)
  intro xs M t h
  unfold s84 at h
  split at h
  case h_2 => cases h
  rename_i css f
  obtain ⟨s, hcs, h1⟩ := Option.bind_eq_some_iff.1 h
  clear h
  have h := h1
  clear h1
  cases h
  cases Lw.Stops.of_eq hcs
  clear hcs
  refine ⟨fun l h => (nomatch h), ?_⟩
  intro hp
  rw [v84_vc]
  have hp : stopsR s := hp
  refine ends_pl (congrArg _ ?_)
  rw [and_test (bits_R _ _ _), any_or hp]
theorem tb32_ok : GamOk Try.prog eid (gam tb32) := gam_cons h84 tb31_ok
theorem h13 : Holds Try.prog eid 13 (s13) := by
  refine hold tb32_ok Try.func13 (by kernel_rfl) ?_ (by kernel_rfl)
  intro xs M t h
  unfold s13 at h
  split at h
  case h_2 => cases h
  rename_i css f w
  obtain ⟨s, hcs, h1⟩ := Option.bind_eq_some_iff.1 h
  clear h
  have h := h1
  clear h1
  cases h
  cases Lw.Stops.of_eq hcs
  clear hcs
  refine ⟨fun l h => (nomatch h), ?_⟩
  intro hp
  rw [v13_vc]
  have hp : stopsR s := hp
  refine ⟨fun _ => hp.2.1, cnd_iff.2 ⟨fun h1 => ?_, fun h1 => cnd_iff.2 ⟨fun h2 => ⟨hp.2.2, ?_⟩, fun h2 => ?_⟩⟩⟩ <;> refine ends_pl (congrArg PC.bool ?_) <;> rw [c_and] at h1 <;> unfold hallB
  · simp only [Bool.and_eq_true, beq_iff_eq] at h1
    simp [h1]
  · simp only [beq_iff_eq] at h2
    subst h2
    simp
  · simp only [beq_eq_false_iff_ne] at h2
    simp only [Bool.and_eq_false_iff, beq_eq_false_iff_ne] at h1
    rcases h1 with h1 | h1 <;> simp [h1, h2]
theorem tb33_ok : GamOk Try.prog eid (gam tb33) := gam_cons h13 tb32_ok
theorem h87 : Holds Try.prog eid 87 (s87) := by
  refine hold tb33_ok Try.func87 (by kernel_rfl) ?_ (by kernel_rfl)
  intro xs M t h
  unfold s87 at h
  split at h
  case h_2 => cases h
  rename_i css f w
  obtain ⟨s, hcs, h1⟩ := Option.bind_eq_some_iff.1 h
  clear h
  have h := h1
  clear h1
  cases h
  cases Lw.Stops.of_eq hcs
  clear hcs
  refine ⟨fun l h => (nomatch h), ?_⟩
  intro hp
  rw [v87_vc]
  have hp : stopsR s := hp
  refine loopVC_st (S := Int) v87b_m 1 (fun i => v87b_fr s f w i) (fun i => v87b_mem s f w i) (fun i => (64 - i).toNat) (fun i => 0 ≤ i ∧ i ≤ 64 ∧ aheadN s f w i.toNat = false) rfl ⟨0, ⟨by simp, by simp, rfl⟩, rfl, rfl⟩ ?_
  rintro i ⟨h0, h1, hn⟩
  refine (v87b_vc s f w i _ _).mpr ?_
  have yes (hi : i < 64) (ha : anyB s i = true) (ht : thatB i f w = true) : aheadB s f w = true := aheadB_iff.2 ⟨i, h0, hi, ha, ht⟩
  have no (hi : i < 64) (ha : anyB s i = false ∨ thatB i f w = false) : aheadN s f w (i + 1).toNat = false := by
    rw [show (i + 1).toNat = i.toNat + 1 by omega]
    unfold aheadN
    rw [hn, show ((i.toNat : Nat) : Int) = i by omega]
    rcases ha with h | h <;> rw [h] <;> simp
  refine cnd_iff.2 ⟨fun hi => ?_, fun hi => ?_⟩
  · have hi : i < 64 := of_decide_eq_true hi
    refine ⟨hp, ?_⟩
    rw [wrap_id (n := i + 1) (by omega) (by omega)]
    repeat' first
      | refine cnd_iff.2 ⟨fun _ => ?_, fun _ => ?_⟩
      | refine ends_pl (congrArg PC.bool (yes hi ?_ ?_).symm)
      | (refine Exists.intro (i + 1) ?_; refine And.intro ⟨by omega, by omega, no hi ?_⟩ ⟨by omega, rfl, rfl⟩)
    all_goals first
      | assumption
      | (left; assumption)
      | (unfold thatB; simp_all; done)
      | (right; unfold thatB; simp_all; done)
      | (unfold thatB; simp_all; omega)
      | (right; unfold thatB; simp_all; omega)
  · have hi : ¬ i < 64 := of_decide_eq_false hi
    refine ends_pl (congrArg PC.bool ?_)
    unfold aheadB
    rw [← hn, show i.toNat = 64 by omega]
theorem tb34_ok : GamOk Try.prog eid (gam tb34) := gam_cons h87 tb33_ok
end Go.Proofs.Ytjgmkpidiaojkaa
