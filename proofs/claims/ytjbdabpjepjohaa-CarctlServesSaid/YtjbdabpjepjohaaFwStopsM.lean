/- The functions of this group answer so. -/
import Derived.Test.YtjbdabpjepjohaaFwStopsMV
import Derived.Test.YtjbdabpjepjohaaFwStopsL
set_option linter.unusedVariables false
set_option linter.unusedSimpArgs false
set_option maxRecDepth 20000
set_option maxHeartbeats 4000000
namespace Go.Proofs.Ytjbdabpjepjohaa
open Lw
attribute [local irreducible] Lw.vc Lw.vcFunc
theorem or_idem {x : Int} (hx : u64R x) (f : Int) : bitsI .or .u64 (bitsI .or .u64 x (bitI f)) (bitI f) = bitsI .or .u64 x (bitI f) :=
  has_ext (bits_R _ _ _) (bits_R _ _ _) fun g _ _ => by
    rw [has_or (bits_R _ _ _) (bitI_R f), has_or hx (bitI_R f)]
    cases hasB x g <;> cases hasB (bitI f) g <;> rfl
theorem or_self {x : Int} (hx : u64R x) : bitsI .or .u64 x x = x :=
  has_ext (bits_R _ _ _) hx fun g _ _ => by
    rw [has_or hx hx]
    cases hasB x g <;> rfl
theorem or_back {x : Int} (hx : u64R x) (f : Int) : bitsI .or .u64 (bitsI .or .u64 (bitsI .andNot .u64 (bitsI .or .u64 x (bitI f)) (bitI f)) (bitI f)) x = bitsI .or .u64 x (bitI f) :=
  has_ext (bits_R _ _ _) (bits_R _ _ _) fun g _ _ => by
    rw [has_or (bits_R _ _ _) hx, has_or (bits_R _ _ _) (bitI_R f), has_andNot (bits_R _ _ _) (bitI_R f), has_or hx (bitI_R f)]
    cases hasB x g <;> cases hasB (bitI f) g <;> rfl
theorem hall_R {s : Lw.Stops} (h : stopsR s) (f w : Int) : stopsR (hallS s f w) := by
  unfold hallS
  (repeat' split)
  · exact ⟨h.1, (bits_R .or s.up (bitI f) : u64R (bitsI .or .u64 s.up (bitI f))), h.2.2⟩
  · exact ⟨h.1, h.2.1, (bits_R .or s.down (bitI f) : u64R (bitsI .or .u64 s.down (bitI f)))⟩
  · exact h
theorem hall_idem {s : Lw.Stops} (h : stopsR s) (f w : Int) : hallS (hallS s f w) f w = hallS s f w := by
  unfold hallS
  by_cases h1 : w = 1
  · simp only [h1, if_true]; rw [or_idem h.2.1]
  · by_cases h2 : w = 2
    · simp only [h2, if_true, Int.reduceEq, if_false]; rw [or_idem h.2.2]
    · simp only [h1, h2, if_false]
theorem hall_in {s : Lw.Stops} (h : stopsR s) {f w : Int} (hw : w = 1 ∨ w = 2) (hf : 0 ≤ f ∧ f < 64) : hallB (hallS s f w) f w = true := by
  rw [hall_side hw]
  unfold hallS
  rcases hw with rfl | rfl
  · simp only [if_true]; rw [has_or h.2.1 (bitI_R f), has_bit, decide_eq_true hf]; simp
  · simp only [Int.reduceEq, if_true, if_false]; rw [has_or h.2.2 (bitI_R f), has_bit, decide_eq_true hf]; simp
theorem hall_out {s : Lw.Stops} {f w : Int} (hw : w = 1 ∨ w = 2) : hallB (hallS s f w) f (3 - w) = hallB s f (3 - w) := by
  rcases hw with rfl | rfl <;> simp [hallB, hallS]
theorem bit_has {b f : Int} (hb : u64R b) (h0 : 0 ≤ f) (h1 : f < 64) : (bitsI .and .u64 (shI .u64 false b (IntKind.u64.wrap f)) 1 == 1) = hasB b f := by
  rw [bit_ok hb h0 h1]
  unfold hasB
  simp [h0, h1]
theorem bit_nat {b i : Int} (h0 : 0 ≤ i) (h1 : i < 64) : ((b.toNat / 2 ^ i.toNat % 2 : Nat) : Int) = if hasB b i = true then 1 else 0 := by
  unfold hasB
  by_cases h : b.toNat / 2 ^ i.toNat % 2 = 1
  · simp [h0, h1, h]
  · have : b.toNat / 2 ^ i.toNat % 2 = 0 := by omega
    simp [this]
theorem way_two {n : Int} (h : 0 ≤ n ∧ n ≤ 255) : IntKind.i64.wrap (IntKind.i64.wrap (Int.tmod n 2) + 1) = 1 ∨ IntKind.i64.wrap (IntKind.i64.wrap (Int.tmod n 2) + 1) = 2 := by
  rw [Int.tmod_eq_emod_of_nonneg h.1, wrap_id (n := n % 2) (by omega) (by omega), wrap_id (by omega) (by omega)]; omega
theorem pcs3 (s t : Lw.Stops) (h : s = t) : pcsEq [PC.int .u64 s.press, PC.int .u64 s.up, PC.int .u64 s.down] [PC.int .u64 t.press, PC.int .u64 t.up, PC.int .u64 t.down] = true := by
  subst h; exact pcsEq_self _
theorem callsN_len (s : Lw.Stops) : ∀ n : Nat, (callsN s n).length ≤ 2 * n
  | 0 => Nat.le_refl _
  | n + 1 => by
    have ih := callsN_len s n
    rw [callsN_succ]
    simp only [List.length_append]
    (repeat' split) <;> simp only [List.length_cons, List.length_nil] <;> omega
theorem h22 : Holds Try.prog eid 22 (s22) := by
  refine hold tb65_ok Try.func22 (by kernel_rfl) ?_ (by kernel_rfl)
  intro xs M t h
  unfold s22 at h
  split at h
  case h_2 => cases h
  cases h
  refine ⟨fun l h => (nomatch h), ?_⟩
  intro hp
  rw [v22_vc]
  have h0 : stopsR ⟨(hallS (pressS ⟨0, 0, 0⟩ 3) 1 1).press, (hallS (pressS ⟨0, 0, 0⟩ 3) 1 1).up, (hallS (pressS ⟨0, 0, 0⟩ 3) 1 1).down⟩ := by
    unfold stopsR u64R; decide +kernel
  refine ⟨h0, fun _ => h0, fun _ => h0, fun _ => h0, fun _ => h0, ⟨by decide, by decide +kernel⟩, ends_pl (congrArg PC.bool (by decide +kernel))⟩
theorem tb66_ok : GamOk Try.prog eid (gam tb66) := gam_cons h22 tb65_ok
theorem callsN_zero (s : Lw.Stops) : callsN s 0 = [] := rfl
attribute [local irreducible] callsN aheadB onesI
theorem h8 : Holds Try.prog eid 8 (s8) := by
  refine hold tb66_ok Try.func8 (by kernel_rfl) ?_ (by kernel_rfl)
  intro xs M t h
  unfold s8 at h
  split at h
  case h_2 => cases h
  rename_i css f w
  obtain ⟨s, hcs, h1⟩ := Option.bind_eq_some_iff.1 h
  clear h
  have h := h1
  clear h1
  cases h
  cases Lw.Stops.of_eq hcs
  clear hcs
  refine ⟨fun l h => (nomatch h), ?_⟩
  intro hp
  rw [v8_vc]
  have e1 (p u d : Int) (h : pressS s f = ⟨p, u, d⟩) : pcsEq [PC.int .u64 (pressS s f).press, PC.int .u64 (pressS s f).up, PC.int .u64 (pressS s f).down] [PC.int .u64 p, PC.int .u64 u, PC.int .u64 d] = true := pcs3 _ _ h
  have e2 (p u d : Int) (h : hallS s f w = ⟨p, u, d⟩) : pcsEq [PC.int .u64 (hallS s f w).press, PC.int .u64 (hallS s f w).up, PC.int .u64 (hallS s f w).down] [PC.int .u64 p, PC.int .u64 u, PC.int .u64 d] = true := pcs3 _ _ h
  have e3 (p u d : Int) (h : clearS s f w = ⟨p, u, d⟩) : pcsEq [PC.int .u64 (clearS s f w).press, PC.int .u64 (clearS s f w).up, PC.int .u64 (clearS s f w).down] [PC.int .u64 p, PC.int .u64 u, PC.int .u64 d] = true := pcs3 _ _ h
  refine cnd_iff.2 ⟨fun h1 => cnd_iff.2 ⟨fun h2 => ?_, fun h2 => ?_⟩, fun h1 => cnd_iff.2 ⟨fun h2 => ?_, fun h2 => ?_⟩⟩ <;> simp only [beq_iff_eq, beq_eq_false_iff_ne] at h1 h2
  · omega
  · rw [e1 _ _ _ rfl, e2 _ _ _ (if_pos h1), e3 _ _ _ (by unfold clearS; rw [if_pos h1, if_neg h2])]
    exact ends_pl rfl
  · rw [e1 _ _ _ rfl, e2 _ _ _ ((if_neg h1).trans (if_pos h2)), e3 _ _ _ (by unfold clearS; rw [if_neg h1, if_pos h2])]
    exact ends_pl rfl
  · rw [e1 _ _ _ rfl, e2 _ _ _ ((if_neg h1).trans (if_neg h2)), e3 _ _ _ (by unfold clearS; rw [if_neg h1, if_neg h2])]
    exact ends_pl rfl
theorem tb67_ok : GamOk Try.prog eid (gam tb67) := gam_cons h8 tb66_ok
theorem h10 : Holds Try.prog eid 10 (s10) := by
  refine hold tb67_ok Try.func10 (by kernel_rfl) ?_ (by kernel_rfl)
  intro xs M t h
  unfold s10 at h
  split at h
  case h_2 => cases h
  rename_i css fl wy
  obtain ⟨s, hcs, h1⟩ := Option.bind_eq_some_iff.1 h
  clear h
  have h := h1
  clear h1
  cases h
  cases Lw.Stops.of_eq hcs
  clear hcs
  refine ⟨fun l h => (nomatch h), ?_⟩
  intro hp
  rw [v10_vc]
  obtain ⟨hr, hf, hw⟩ := (hp : stopsR s ∧ (0 ≤ fl ∧ fl ≤ 255) ∧ (0 ≤ wy ∧ wy ≤ 255))
  have hF := u8_floor hf
  have hW := way_two hw
  refine ⟨by decide, by decide, ?_⟩
  generalize IntKind.i64.wrap (Int.tmod fl 64) = f at *
  generalize IntKind.i64.wrap (IntKind.i64.wrap (Int.tmod wy 2) + 1) = w at *
  rw [wrap_id (n := 3 - w) (by omega) (by omega)]
  have rA := hall_R hr f w
  have rB := clear_R rA f w
  have q1 := pcs3 _ _ (hall_idem hr f w)
  have q2 := hall_in hr hW hF
  have q3 : hallB (clearS (hallS s f w) f w) f w = false := by
    rw [clear_hall rA, decide_eq_true hF]; simp
  have q4 : hallB (clearS (hallS s f w) f w) f (3 - w) = hallB s f (3 - w) := by
    rw [clear_hall rA, hall_out hW, decide_eq_false (show ¬ 3 - w = w by omega)]; simp
  have q5 : bitsI .or .u64 (hallS (clearS (hallS s f w) f w) f w).up s.up = (hallS s f w).up := by
    rcases hW with rfl | rfl
    · exact or_back hr.2.1 f
    · exact or_self hr.2.1
  have q6 : pressS (pressS s f) f = pressS s f := by
    unfold pressS
    simp only
    rw [or_idem hr.1]
  have q6 := pcs3 _ _ q6
  rw [q1, q2, q3, q4, beq_self_eq_true, q5, beq_self_eq_true, q6]
  clear q1 q2 q3 q4 q5 q6
  repeat' first
    | refine cnd_iff.2 ⟨fun _ => ?_, fun h => absurd h (by decide)⟩
    | refine And.intro rA ?_
    | refine And.intro rB ?_
    | refine And.intro hr ?_
    | refine And.intro (fun _ => rA) ?_
    | refine And.intro (fun _ => rB) ?_
    | refine And.intro (fun _ => hr) ?_
    | refine ends_pl (congrArg PC.bool ?_)
  all_goals rfl
theorem tb68_ok : GamOk Try.prog eid (gam tb68) := gam_cons h10 tb67_ok
theorem h9 : Holds Try.prog eid 9 (s9) := by
  refine hold tb68_ok Try.func9 (by kernel_rfl) ?_ (by kernel_rfl)
  intro xs M t h
  unfold s9 at h
  split at h
  case h_2 => cases h
  rename_i css f w
  obtain ⟨s, hcs, h1⟩ := Option.bind_eq_some_iff.1 h
  clear h
  have h := h1
  clear h1
  cases h
  cases Lw.Stops.of_eq hcs
  clear hcs
  refine ⟨fun l h => (nomatch h), ?_⟩
  intro hp
  rw [v9_vc]
  have hp : stopsR s := hp
  refine loopVC_sel (S := Int × Int × List Lw.Call) v9b_m (fun q => v9b_fr s f w q.1 q.2.1 q.2.2) (fun q => v9b_mem s f w q.1 q.2.1 q.2.2) (fun q => (64 - q.2.1).toNat) (fun q => (0 ≤ q.2.1 ∧ q.2.1 ≤ 64) ∧ q.2.2 = callsN s q.2.1.toNat ∧ q.2.2.length ≤ 2 * q.2.1.toNat ∧ q.1 = ((cnt q.2.1.toNat s.press.toNat + cnt q.2.1.toNat s.up.toNat + cnt q.2.1.toNat s.down.toNat : Nat) : Int)) ⟨[.slot 8 .call], [0, 1], (0, 0, []), ⟨by simp, (callsN_zero s).symm, by simp, by simp [cnt]⟩, _, rfl, rfl, rfl, rfl⟩ ?_
  rintro ⟨n, i, l⟩ ⟨⟨h0, h1⟩, ho, hl, hn⟩
  simp only at h0 h1 ho hl hn
  have c1 := cnt_le i.toNat s.press.toNat
  have c2 := cnt_le i.toNat s.up.toNat
  have c3 := cnt_le i.toNat s.down.toNat
  refine (v9b_vc s f w n i l _ _).mpr ?_
  refine cnd_iff.2 ⟨fun hi => ?_, fun hi => ⟨hp, cnd_iff.2 ⟨fun hne => ?_, fun _ => ?_⟩⟩⟩
  · have hi : i < 64 := of_decide_eq_true hi
    refine loopVC_sel (S := Int × Int × List Lw.Call) v9c_m (fun q => v9c_fr s f w q.1 i q.2.1 q.2.2) (fun q => v9c_mem s f w q.1 i q.2.1 q.2.2) (fun q => (3 - q.2.1).toNat) (fun q => (0 ≤ q.2.1 ∧ q.2.1 ≤ 3) ∧ q.2.2 = l ++ partC s i (q.2.1 - 1) ∧ q.2.2.length ≤ l.length + (q.2.1 - 1).toNat ∧ q.1 = n + partN s i q.2.1) ⟨[], [0, 1], (n, 0, l), ⟨by simp, by simp [partC], by simp, by simp [partN]⟩, _, rfl, rfl, rfl, rfl⟩ ?_
    rintro ⟨m, k, o⟩ ⟨⟨k0, k1⟩, hk, hkl, hm⟩
    simp only at k0 k1 hk hkl hm
    refine (v9c_vc s f w m i k o _ _ _).mpr ?_
    have hbig : o.length + 1 ≤ bigRow := by unfold bigRow; omega
    have hpn : 0 ≤ partN s i k ∧ partN s i k ≤ 3 := by unfold partN; (repeat' split) <;> omega
    rw [wrap_id (n := k + 1) (by omega) (by omega), wrap_id (n := m + 1) (by omega) (by omega), wrap_id (n := i + 1) (by omega) (by omega)]
    have hw : 0 ≤ IntKind.u64.wrap i := by rw [IntKind.wrap_u64]; omega
    have hc : k = 0 ∨ k = 1 ∨ k = 2 ∨ k = 3 := by omega
    rcases hc with rfl | rfl | rfl | rfl
    · refine cnd_iff.2 ⟨fun _ => ⟨by simp, hw, cnd_iff.2 ⟨fun hh => cnd_iff.2 ⟨fun h => absurd h (by simp), fun _ => ?_⟩, fun hh => ?_⟩⟩, fun h => absurd h (by simp)⟩
      · have hh : hasB s.press i = true := (bit_has hp.1 h0 hi).symm.trans hh
        refine ⟨[], [0, 1], (m + 1, 1, o), ⟨⟨by simp, by simp [hk, partC], by simp only; omega, ?_⟩, by simp only; decide⟩, _, rfl, rfl, rfl, rfl⟩
        simp only [hm, partN]; simp [hh]
      · have hh : hasB s.press i = false := (bit_has hp.1 h0 hi).symm.trans hh
        refine ⟨[], [0, 1], (m, 1, o), ⟨⟨by simp, by simp [hk, partC], by simp only; omega, ?_⟩, by simp only; decide⟩, _, rfl, rfl, rfl, rfl⟩
        simp only [hm, partN]; simp [hh]
    · refine cnd_iff.2 ⟨fun _ => ⟨by simp, hw, cnd_iff.2 ⟨fun hh => cnd_iff.2 ⟨fun _ => ⟨hbig, ?_⟩, fun h => absurd h (by simp)⟩, fun hh => ?_⟩⟩, fun h => absurd h (by simp)⟩
      · have hh : hasB s.up i = true := (bit_has hp.2.1 h0 hi).symm.trans hh
        refine ⟨[], [0, 4], (m + 1, 2, o ++ [⟨i, 1⟩]), ⟨⟨by simp, by simp [hk, partC, hh], by simp only [List.length_append, List.length_cons, List.length_nil]; omega, ?_⟩, by simp only; decide⟩, _, rfl, rfl, rfl, rfl⟩
        simp only [hm, partN]; simp [hh]; omega
      · have hh : hasB s.up i = false := (bit_has hp.2.1 h0 hi).symm.trans hh
        refine ⟨[], [0, 1], (m, 2, o), ⟨⟨by simp, by simp [hk, partC, hh], by simp only; omega, ?_⟩, by simp only; decide⟩, _, rfl, rfl, rfl, rfl⟩
        simp only [hm, partN]; simp [hh]
    · refine cnd_iff.2 ⟨fun _ => ⟨by simp, hw, cnd_iff.2 ⟨fun hh => cnd_iff.2 ⟨fun _ => ⟨hbig, ?_⟩, fun h => absurd h (by simp)⟩, fun hh => ?_⟩⟩, fun h => absurd h (by simp)⟩
      · have hh : hasB s.down i = true := (bit_has hp.2.2 h0 hi).symm.trans hh
        refine ⟨[], [0, 4], (m + 1, 3, o ++ [⟨i, 2⟩]), ⟨⟨by simp, by simp [hk, partC, hh], by simp only [List.length_append, List.length_cons, List.length_nil]; omega, ?_⟩, by simp only; decide⟩, _, rfl, rfl, rfl, rfl⟩
        simp only [hm, partN]; simp [hh]; omega
      · have hh : hasB s.down i = false := (bit_has hp.2.2 h0 hi).symm.trans hh
        refine ⟨[], [0, 1], (m, 3, o), ⟨⟨by simp, by simp [hk, partC, hh], by simp only; omega, ?_⟩, by simp only; decide⟩, _, rfl, rfl, rfl, rfl⟩
        simp only [hm, partN]; simp [hh]
    · refine cnd_iff.2 ⟨fun h => absurd h (by simp), fun _ => ?_⟩
      refine ⟨[], [0, 1], (m, i + 1, o), ⟨⟨by simp only; omega, ?_, by simp only; omega, ?_⟩, by simp only; omega⟩, _, rfl, rfl, rfl, rfl⟩
      · simp only
        rw [show (i + 1).toNat = i.toNat + 1 by omega, hk, ho, callsN_succ, show ((i.toNat : Nat) : Int) = i by omega]
        unfold partC
        simp
      · simp only
        rw [hm, hn, show (i + 1).toNat = i.toNat + 1 by omega, cnt_high, cnt_high, cnt_high]
        have b1 := bit_nat (b := s.press) h0 hi
        have b2 := bit_nat (b := s.up) h0 hi
        have b3 := bit_nat (b := s.down) h0 hi
        unfold partN
        simp only [Int.reduceLE, true_and]
        generalize (if hasB s.press i = true then (1 : Int) else 0) = x1 at *
        generalize (if hasB s.up i = true then (1 : Int) else 0) = x2 at *
        generalize (if hasB s.down i = true then (1 : Int) else 0) = x3 at *
        omega
  · have hi : ¬ i < 64 := of_decide_eq_false hi
    rw [ho, show i.toNat = 64 by omega] at hne
    simp at hne
  · have hi : ¬ i < 64 := of_decide_eq_false hi
    have ho : l = callsN s 64 := by rw [ho, show i.toNat = 64 by omega]
    have hn : n = onesI s := by
      rw [hn, show i.toNat = 64 by omega]
      unfold onesI cntI
      omega
    clear hl
    refine loopVC_sel (S := Int) v9d_m (fun t => v9d_fr s f w n i t l) (fun t => v9d_mem s f w n i t l) (fun t => (l.length - t).toNat) (fun t => 0 ≤ t ∧ t ≤ l.length) ⟨[], [0, 1, 2], 0, ⟨by simp, by simp⟩, _, rfl, rfl, rfl, rfl⟩ ?_
    rintro t ⟨t0, t1⟩
    refine (v9d_vc s f w n i t l _ _).mpr ?_
    refine cnd_iff.2 ⟨fun ht => ?_, fun ht => ?_⟩
    · have ht : t < l.length := of_decide_eq_true ht
      have hlen : l.length ≤ 128 := by rw [ho]; exact callsN_len s 64
      rw [wrap_id (n := t + 1) (by omega) (by omega)]
      refine ⟨⟨t0, by rw [← ho]; exact ht⟩, ⟨t0, ht⟩, ?_⟩
      rw [← ho, pcsEq_self]
      exact ⟨[], [0, 1, 2], t + 1, ⟨⟨by omega, by omega⟩, by omega⟩, _, rfl, rfl, by rw [ho]; rfl, by rw [ho]; rfl⟩
    · rw [beq_self_eq_true, beq_self_eq_true, beq_self_eq_true, hn, beq_self_eq_true]
      exact ⟨hp, hp, hp, hp, hp, hp, hp, ends_pl rfl⟩
theorem tb69_ok : GamOk Try.prog eid (gam tb69) := gam_cons h9 tb68_ok
end Go.Proofs.Ytjbdabpjepjohaa
