/- The functions of this group answer so. -/
import Derived.Test.YtjgmkpidiaojkaaFwEtaLV
import Derived.Test.YtjgmkpidiaojkaaFwScanL
set_option linter.unusedVariables false
set_option linter.unusedSimpArgs false
set_option maxRecDepth 20000
set_option maxHeartbeats 4000000
namespace Go.Proofs.Ytjgmkpidiaojkaa
open Lw
theorem cost_same {c : Config} {x : Lw.Car} {k : Lw.Call} (h : insideB x k = true) : costP c x k = costR c x k := by
  simp only [insideB, Bool.and_eq_true, decide_eq_true_eq] at h
  have h4 : at4 k.floor = 4 * k.floor := wrap_id (by omega) (by omega)
  have hf : farP x.unit k.floor = farR x.unit k.floor := by
    unfold farP farR
    rw [h4, wrap_id (n := 4 * k.floor - x.unit) (by omega) (by omega), wrap_id (n := x.unit - 4 * k.floor) (by omega) (by omega), wrap_id (n := 0 - (x.unit - 4 * k.floor)) (by omega) (by omega), mm_max]
    by_cases hz : x.unit - 4 * k.floor < 0
    · rw [decide_eq_true hz, cond_true]; omega
    · rw [decide_eq_false hz, cond_false]; omega
  have hw : onwayB x k = wayB x k := by
    unfold onwayB wayB towardI
    rw [h4, Bool.eq_iff_iff]
    simp only [Bool.or_eq_true, Bool.and_eq_true, decide_eq_true_eq, beq_iff_eq]
    (repeat' split) <;> omega
  unfold costP costR
  rw [hf, hw]
theorem getD_mem {α : Type} {l : List α} {i : Nat} (h : i < l.length) (z : α) : l.getD i z ∈ l := by
  rw [List.getD_eq_getElem?_getD, List.getElem?_eq_getElem h]
  exact List.getElem_mem h
theorem bestN_range (c : Config) (l : List Lw.Car) (k : Lw.Call) : ∀ n : Nat, -1 ≤ bestN c l k n ∧ bestN c l k n < n
  | 0 => by unfold bestN; omega
  | n + 1 => by
    have := bestN_range c l k n
    show -1 ≤ (bif _ then (n : Int) else bestN c l k n) ∧ (bif _ then (n : Int) else bestN c l k n) < _
    cases goodFor c l k (bestN c l k n) (l.getD n (RTy.zero .car)) <;> simp only [cond_true, cond_false] <;> omega
theorem h48 : Holds Try.prog eid 48 (bestS) := by
  refine hold tb42_ok Try.func48 (by kernel_rfl) ?_ (by kernel_rfl)
  intro xs M t h
  unfold bestS at h
  split at h
  · rename_i k0 l k1
    obtain ⟨c, hcc, h1⟩ := Option.bind_eq_some_iff.1 h
    clear h
    obtain ⟨k, hck, h⟩ := Option.bind_eq_some_iff.1 h1
    clear h1
    cases h
    cases Lw.Config.of_eq hcc
    cases Lw.Call.of_eq hck
    clear hcc hck
    refine ⟨fun l h => (nomatch h), fun hp => ?_⟩
    have hp : carsR l := hp
    rw [v48_vc]
    refine loopVC_st (S := Int × Int) v48b_m 2 (fun q => v48b_fr c l k q.1 q.2) (fun q => v48b_mem c l k q.1 q.2) (fun q => (l.length - q.2).toNat) (fun q => 0 ≤ q.2 ∧ q.2 ≤ l.length ∧ q.1 = bestN c l k q.2.toNat) rfl ⟨(-1, 0), ⟨by simp, by simp, rfl⟩, rfl, rfl⟩ ?_
    rintro ⟨b, i⟩ ⟨h0, h1, hb⟩
    simp only at h0 h1 hb
    refine (v48b_vc c l k b i _ _).mpr ?_
    have hm := maxLen_eq
    have hl := hp.1
    have hr := bestN_range c l k i.toNat
    rw [← hb] at hr
    refine cnd_iff.2 ⟨fun hi => ?_, fun hi => ?_⟩
    · have hi : i < l.length := of_decide_eq_true hi
      have hmi : l.getD i.toNat (RTy.zero .car) ∈ l := getD_mem (by omega) _
      have hs : bestN c l k (i.toNat + 1) = bif goodFor c l k b (l.getD i.toNat (RTy.zero .car)) then (i.toNat : Int) else b := by rw [hb]; rfl
      have hi1 : (i + 1).toNat = i.toNat + 1 := by omega
      rw [wrap_id (n := i + 1) (by omega) (by omega)]
      have keep (hg : goodFor c l k b (l.getD i.toNat (RTy.zero .car)) = false) : b = bestN c l k (i + 1).toNat := by rw [hi1, hs, hg]; rfl
      have take (hg : goodFor c l k b (l.getD i.toNat (RTy.zero .car)) = true) : i = bestN c l k (i + 1).toNat := by rw [hi1, hs, hg]; simp; omega
      refine ⟨⟨h0, hi⟩, cnd_iff.2 ⟨fun ha => ?_, fun ha => cnd_iff.2 ⟨fun hn => ?_, fun hn => ?_⟩⟩⟩ <;> simp only [c_and, c_or, Bool.and_eq_true, Bool.or_eq_true, Bool.and_eq_false_iff, Bool.or_eq_false_iff, Bool.not_eq_true', Bool.not_eq_false', beq_iff_eq, beq_eq_false_iff_ne, bne_iff_ne, bne_eq_false_iff_eq, ne_eq, decide_eq_true_eq, decide_eq_false_iff_not] at ha
      · exact ⟨(b, i + 1), ⟨by simp only; omega, by simp only; omega, keep (decide_eq_false fun h => by simp_all)⟩, by simp only; omega, rfl, rfl⟩
      · have hn : b < 0 := of_decide_eq_true hn
        exact ⟨(i, i + 1), ⟨by simp only; omega, by simp only; omega, take (decide_eq_true ⟨ha.1, ha.2, .inl hn⟩)⟩, by simp only; omega, rfl, rfl⟩
      · have hn : ¬ b < 0 := of_decide_eq_false hn
        have hmb : l.getD b.toNat (RTy.zero .car) ∈ l := getD_mem (by omega) _
        refine ⟨hp.2 _ hmi, ⟨by omega, by omega⟩, hp.2 _ hmb, cnd_iff.2 ⟨fun hc => ?_, fun hc => ?_⟩⟩
        · exact ⟨(i, i + 1), ⟨by simp only; omega, by simp only; omega, take (decide_eq_true ⟨ha.1, ha.2, .inr (of_decide_eq_true hc)⟩)⟩, by simp only; omega, rfl, rfl⟩
        · exact ⟨(b, i + 1), ⟨by simp only; omega, by simp only; omega, keep (decide_eq_false fun h => h.2.2.elim hn (of_decide_eq_false hc))⟩, by simp only; omega, rfl, rfl⟩
    · have hi : ¬ i < l.length := of_decide_eq_false hi
      have e : b = bestI c l k := by rw [hb]; unfold bestI; congr 1; omega
      rw [e]
      exact ends_pl rfl
  · rename_i k0 k1 l
    obtain ⟨c, hcc, h1⟩ := Option.bind_eq_some_iff.1 h
    clear h
    obtain ⟨k, hck, h⟩ := Option.bind_eq_some_iff.1 h1
    clear h1
    cases h
    cases Lw.Config.of_eq hcc
    cases Lw.Call.of_eq hck
    clear hcc hck
    refine ⟨fun l h => (nomatch h), fun hp => ?_⟩
    have hp : carsR l := hp
    rw [v48r_vc]
    refine loopVC_st (S := Int × Int) v48rb_m 3 (fun q => v48rb_fr c l k q.1 q.2) (fun q => v48rb_mem c l k q.1 q.2) (fun q => (l.length - q.2).toNat) (fun q => 0 ≤ q.2 ∧ q.2 ≤ l.length ∧ q.1 = bestN c l k q.2.toNat) rfl ⟨(-1, 0), ⟨by simp, by simp, rfl⟩, rfl, rfl⟩ ?_
    rintro ⟨b, i⟩ ⟨h0, h1, hb⟩
    simp only at h0 h1 hb
    refine (v48rb_vc c l k b i _ _).mpr ?_
    have hm := maxLen_eq
    have hl := hp.1
    have hr := bestN_range c l k i.toNat
    rw [← hb] at hr
    refine cnd_iff.2 ⟨fun hi => ?_, fun hi => ?_⟩
    · have hi : i < l.length := of_decide_eq_true hi
      have hmi : l.getD i.toNat (RTy.zero .car) ∈ l := getD_mem (by omega) _
      have hs : bestN c l k (i.toNat + 1) = bif goodFor c l k b (l.getD i.toNat (RTy.zero .car)) then (i.toNat : Int) else b := by rw [hb]; rfl
      have hi1 : (i + 1).toNat = i.toNat + 1 := by omega
      rw [wrap_id (n := i + 1) (by omega) (by omega)]
      have keep (hg : goodFor c l k b (l.getD i.toNat (RTy.zero .car)) = false) : b = bestN c l k (i + 1).toNat := by rw [hi1, hs, hg]; rfl
      have take (hg : goodFor c l k b (l.getD i.toNat (RTy.zero .car)) = true) : i = bestN c l k (i + 1).toNat := by rw [hi1, hs, hg]; simp; omega
      refine ⟨⟨h0, hi⟩, cnd_iff.2 ⟨fun ha => ?_, fun ha => cnd_iff.2 ⟨fun hn => ?_, fun hn => ?_⟩⟩⟩ <;> simp only [c_and, c_or, Bool.and_eq_true, Bool.or_eq_true, Bool.and_eq_false_iff, Bool.or_eq_false_iff, Bool.not_eq_true', Bool.not_eq_false', beq_iff_eq, beq_eq_false_iff_ne, bne_iff_ne, bne_eq_false_iff_eq, ne_eq, decide_eq_true_eq, decide_eq_false_iff_not] at ha
      · exact ⟨(b, i + 1), ⟨by simp only; omega, by simp only; omega, keep (decide_eq_false fun h => by simp_all)⟩, by simp only; omega, rfl, rfl⟩
      · have hn : b < 0 := of_decide_eq_true hn
        exact ⟨(i, i + 1), ⟨by simp only; omega, by simp only; omega, take (decide_eq_true ⟨ha.1, ha.2, .inl hn⟩)⟩, by simp only; omega, rfl, rfl⟩
      · have hn : ¬ b < 0 := of_decide_eq_false hn
        have hmb : l.getD b.toNat (RTy.zero .car) ∈ l := getD_mem (by omega) _
        refine ⟨hp.2 _ hmi, ⟨by omega, by omega⟩, hp.2 _ hmb, cnd_iff.2 ⟨fun hc => ?_, fun hc => ?_⟩⟩
        · exact ⟨(i, i + 1), ⟨by simp only; omega, by simp only; omega, take (decide_eq_true ⟨ha.1, ha.2, .inr (of_decide_eq_true hc)⟩)⟩, by simp only; omega, rfl, rfl⟩
        · exact ⟨(b, i + 1), ⟨by simp only; omega, by simp only; omega, keep (decide_eq_false fun h => h.2.2.elim hn (of_decide_eq_false hc))⟩, by simp only; omega, rfl, rfl⟩
    · have hi : ¬ i < l.length := of_decide_eq_false hi
      have e : b = bestI c l k := by rw [hb]; unfold bestI; congr 1; omega
      rw [e]
      exact ends_sel [] [0] rfl rfl rfl rfl
  · rename_i k0 k1
    obtain ⟨c, hcc, h1⟩ := Option.bind_eq_some_iff.1 h
    clear h
    obtain ⟨k, hck, h⟩ := Option.bind_eq_some_iff.1 h1
    clear h1
    cases h
    cases Lw.Config.of_eq hcc
    cases Lw.Call.of_eq hck
    clear hcc hck
    refine ⟨fun l h => (nomatch h), fun hp => ?_⟩
    rw [v48e_vc]
    refine loopVC_st (S := Unit) v48eb_m 2 (fun _ => v48eb_fr c k) (fun _ => v48eb_mem c k) (fun _ => 0) (fun _ => True) rfl ⟨(), trivial, rfl, rfl⟩ ?_
    intro q _
    refine (v48eb_vc c k _ _).mpr ?_
    exact ends_pl rfl
  · cases h
theorem tb43_ok : GamOk Try.prog eid (gam tb43) := gam_cons h48 tb42_ok
theorem wf_u64 {n : Int} (h : (Lit.int .u64 n).wf = true) : u64R n := wf_range h
theorem wf_car_stops {x : Lw.Car} (h : WfAll x.enc) : stopsR x.stops := ⟨wf_u64 h.2.2.2.2.2.2.2.2.2.2.2.2.1, wf_u64 h.2.2.2.2.2.2.2.2.2.2.2.2.2.1, wf_u64 h.2.2.2.2.2.2.2.2.2.2.2.2.2.2.1⟩
end Go.Proofs.Ytjgmkpidiaojkaa
