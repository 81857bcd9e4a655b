/- The functions of this group answer so. -/
import Derived.Test.YtjbdabpjepjohaaFwStopsLV
import Derived.Test.YtjbdabpjepjohaaFwScanS
set_option linter.unusedVariables false
set_option linter.unusedSimpArgs false
set_option maxRecDepth 20000
set_option maxHeartbeats 4000000
namespace Go.Proofs.Ytjbdabpjepjohaa
open Lw
theorem callsN_succ (s : Lw.Stops) (n : Nat) : callsN s (n + 1) = callsN s n ++ ((if hasB s.up n = true then [⟨n, 1⟩] else []) ++ (if hasB s.down n = true then [⟨n, 2⟩] else [])) := rfl
theorem h26 : Holds Try.prog eid 26 (callsS) := by
  refine hold tb64_ok Try.func26 (by kernel_rfl) ?_ (by kernel_rfl)
  intro xs M t h
  unfold callsS at h
  split at h
  case h_2 => cases h
  rename_i ks
  obtain ⟨s, hcs, h1⟩ := Option.bind_eq_some_iff.1 h
  clear h
  have h := h1
  clear h1
  cases h
  cases Lw.Stops.of_eq hcs
  clear hcs
  refine ⟨fun l h => by first | exact nomatch h | (cases h; rfl), fun hp => ?_⟩
  have hp : stopsR s := hp
  rw [v26_vc]
  refine loopVC_sel (S := List Lw.Call × Int) v26b_m (fun q => v26b_fr s q.1 q.2) (fun q => v26b_mem s q.1 q.2) (fun q => (64 - q.2).toNat) (fun q => (0 ≤ q.2 ∧ q.2 ≤ 64) ∧ q.1 = callsN s q.2.toNat ∧ q.1.length ≤ 2 * q.2.toNat) ⟨[.slot 3 .call], [0, 1], ([], 0), ⟨by simp, rfl, by simp⟩, _, rfl, rfl, rfl, rfl⟩ ?_
  rintro ⟨out, i⟩ ⟨⟨h0, h1⟩, ho, hl⟩
  simp only at h0 h1 ho hl
  refine (v26b_vc s out i _ _).mpr ?_
  refine cnd_iff.2 ⟨fun hi => ?_, fun hi => ?_⟩
  · have hi : i < 64 := of_decide_eq_true hi
    refine loopVC_sel (S := List Lw.Call × Int) v26c_m (fun q => v26c_fr s q.1 i q.2) (fun q => v26c_mem s q.1 i q.2) (fun q => (2 - q.2).toNat) (fun q => (0 ≤ q.2 ∧ q.2 ≤ 2) ∧ q.1 = out ++ partC s i q.2 ∧ q.1.length ≤ out.length + q.2.toNat) ⟨[], [0, 1, 2], (out, 0), ⟨by simp, by simp [partC], by simp⟩, _, rfl, rfl, rfl, rfl⟩ ?_
    rintro ⟨o, k⟩ ⟨⟨k0, k1⟩, hk, hkl⟩
    simp only at k0 k1 hk hkl
    refine (v26c_vc s o i k _ _ _).mpr ?_
    have hbig : o.length + 1 ≤ bigRow := by unfold bigRow; omega
    have hc : k = 0 ∨ k = 1 ∨ k = 2 := by omega
    rcases hc with rfl | rfl | rfl
    · refine cnd_iff.2 ⟨fun _ => ⟨by simp, hp, cnd_iff.2 ⟨fun hh => ⟨hbig, ?_⟩, fun hh => ?_⟩⟩, fun h => absurd h (by simp)⟩
      · have hh : hallB s i 1 = true := hh
        rw [hall_side (.inl rfl), if_pos rfl] at hh
        refine ⟨[], [0, 4, 2], (o ++ [⟨i, 1⟩], 1), ⟨⟨by simp, ?_, ?_⟩, by simp only; decide⟩, _, rfl, rfl, rfl, rfl⟩
        · simp only [hk, partC]; simp [hh]
        · simp only [List.length_append, List.length_cons, List.length_nil]; omega
      · have hh : hallB s i 1 = false := hh
        rw [hall_side (.inl rfl), if_pos rfl] at hh
        refine ⟨[], [0, 1, 2], (o, 1), ⟨⟨by simp, ?_, ?_⟩, by simp only; decide⟩, _, rfl, rfl, rfl, rfl⟩
        · simp only [hk, partC]; simp [hh]
        · simp only; omega
    · refine cnd_iff.2 ⟨fun _ => ⟨by simp, hp, cnd_iff.2 ⟨fun hh => ⟨hbig, ?_⟩, fun hh => ?_⟩⟩, fun h => absurd h (by simp)⟩
      · have hh : hallB s i 2 = true := hh
        rw [hall_side (.inr rfl), if_neg (by decide)] at hh
        refine ⟨[], [0, 4, 2], (o ++ [⟨i, 2⟩], 2), ⟨⟨by simp, ?_, ?_⟩, by simp only; decide⟩, _, rfl, rfl, rfl, rfl⟩
        · simp only [hk, partC]; simp [hh]
        · simp only [List.length_append, List.length_cons, List.length_nil]; omega
      · have hh : hallB s i 2 = false := hh
        rw [hall_side (.inr rfl), if_neg (by decide)] at hh
        refine ⟨[], [0, 1, 2], (o, 2), ⟨⟨by simp, ?_, ?_⟩, by simp only; decide⟩, _, rfl, rfl, rfl, rfl⟩
        · simp only [hk, partC]; simp [hh]
        · simp only; omega
    · refine cnd_iff.2 ⟨fun h => absurd h (by simp), fun _ => ?_⟩
      rw [wrap_id (n := i + 1) (by omega) (by omega)]
      refine ⟨[], [0, 1], (o, i + 1), ⟨⟨by simp only; omega, ?_, ?_⟩, by simp only; omega⟩, _, rfl, rfl, rfl, rfl⟩
      · simp only
        rw [show (i + 1).toNat = i.toNat + 1 by omega, hk, ho]
        rw [callsN_succ, show ((i.toNat : Nat) : Int) = i by omega]
        unfold partC
        simp
      · simp only; omega
  · have hi : ¬ i < 64 := of_decide_eq_false hi
    refine ends_sel [] [1] rfl rfl rfl ?_
    rw [ho, show i.toNat = 64 by omega]
    rfl
theorem tb65_ok : GamOk Try.prog eid (gam tb65) := gam_cons h26 tb64_ok
end Go.Proofs.Ytjbdabpjepjohaa
