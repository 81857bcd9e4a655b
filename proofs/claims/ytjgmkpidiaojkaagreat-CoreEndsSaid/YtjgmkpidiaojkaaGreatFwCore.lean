/- The functions of this group answer so. -/
import Derived.Test.YtjgmkpidiaojkaaGreatFwCoreV
import Derived.Test.YtjgmkpidiaojkaaGreatFwGrpI
set_option linter.unusedVariables false
set_option linter.unusedSimpArgs false
set_option maxRecDepth 20000
set_option maxHeartbeats 4000000
namespace Go.Proofs.YtjgmkpidiaojkaaGreat
open Lw
attribute [local irreducible] Lw.vc Lw.vcFunc
theorem isRowN_eq {n : Nat} {x : Cell} (h : isRowN n x = true) : x = .row n := by
  unfold isRowN at h
  split at h
  · rw [Nat.eq_of_beq_eq_true h]
  · cases h
theorem corOf_eq {k : Nat} {M : Mem} {q : Lw.Cor × Config × Config} (h : corOf k M = some q) : M = corM k q.1 q.2.1 q.2.2 := by
  unfold corOf at h
  split at h
  case h_2 => cases h
  obtain ⟨c, hc, h⟩ := Option.bind_eq_some_iff.1 h
  obtain ⟨⟨c1, b, w, now⟩, hg, h⟩ := Option.bind_eq_some_iff.1 h
  obtain ⟨⟨r, b2⟩, hq, h⟩ := Option.bind_eq_some_iff.1 h
  obtain ⟨⟨c3, x⟩, ht, h⟩ := Option.bind_eq_some_iff.1 h
  simp only at h
  cases hb : (isCor k (List.drop 18 _) && (isGrp k (c1, b, w, now) && (Nat.beq b2 (k + 7) && isRowN (k + 8) x))) <;> rw [hb] at h
  · cases h
  · cases h
    rw [Bool.and_eq_true, Bool.and_eq_true, Bool.and_eq_true] at hb
    obtain ⟨h0, h1, h2, h3⟩ := hb
    unfold isGrp at h1
    rw [Bool.and_eq_true] at h1
    have e1 := Nat.eq_of_beq_eq_true h1.1
    have e2 := Nat.eq_of_beq_eq_true h1.2
    have e3 := Nat.eq_of_beq_eq_true h2
    simp only at e1 e2
    subst e1; subst e2; subst e3
    rw [isRowN_eq h3] at ht
    rw [tabOf_eq ht]
    unfold isCor at h0
    split at h0
    case h_2 => cases h0
    rename_i a b d e hd
    simp only [Bool.and_eq_true] at h0
    have f1 := Nat.eq_of_beq_eq_true h0.1
    have f2 := Nat.eq_of_beq_eq_true h0.2.1
    have f3 := Nat.eq_of_beq_eq_true h0.2.2.1
    have f4 := Nat.eq_of_beq_eq_true h0.2.2.2
    subst f1; subst f2; subst f3; subst f4
    unfold grpOf at hg
    obtain ⟨c', hc', hg⟩ := Option.bind_eq_some_iff.1 hg
    split at hg
    case h_2 => cases hg
    rename_i b w n hy
    cases hg
    unfold queOf at hq
    split at hq
    case h_2 => cases hq
    cases hq
    unfold corM corC grpC queC
    simp only
    congr 1
    · rw [← Lw.Config.of_eq hc, ← hd, List.take_append_drop]
    · congr 1
      rw [← Lw.Config.of_eq hc', ← hy, List.take_append_drop]
theorem corL_eq {M : Mem} {P : Lw.Cor → Prop} {val : AV} {f : Lw.Cor → Lw.Cor} {ex : Lw.Cor → Mem} {t : BT SR} (h : corL M P val f ex = some t) : ∃ s c1 c3, M = corM 0 s c1 c3 ∧ t = .leaf ⟨some ((c1 = s.c ∧ c3 = s.c) ∧ P s), val, some (corU 0 (f s)), corN (f s) ++ ex s⟩ := by
  unfold corL at h
  obtain ⟨q, hq, h⟩ := Option.bind_eq_some_iff.1 h
  cases h
  exact ⟨q.1, q.2.1, q.2.2, corOf_eq hq, rfl⟩
theorem corL1_eq {M : Mem} {x : Blk} {P : Lw.Cor → Prop} {val : AV} {f : Lw.Cor → Lw.Cor} {t : BT SR} (h : corL1 M x P val f = some t) : ∃ s c1 c3, M = corM 1 s c1 c3 ∧ t = .leaf ⟨some ((c1 = s.c ∧ c3 = s.c) ∧ P s), val, some (insX (corU 1 (f s)) x), corN (f s)⟩ := by
  unfold corL1 at h
  obtain ⟨q, hq, h⟩ := Option.bind_eq_some_iff.1 h
  cases h
  exact ⟨q.1, q.2.1, q.2.2, corOf_eq hq, rfl⟩
theorem corR_eq {M : Mem} {P : Lw.Cor → Prop} {val : Lw.Cor → AV} {ex : Lw.Cor → Mem} {t : BT SR} (h : corR M P val ex = some t) : ∃ s c1 c3, M = corM 0 s c1 c3 ∧ t = .leaf ⟨some ((c1 = s.c ∧ c3 = s.c) ∧ P s), val s, none, ex s⟩ := by
  unfold corR at h
  obtain ⟨q, hq, h⟩ := Option.bind_eq_some_iff.1 h
  cases h
  exact ⟨q.1, q.2.1, q.2.2, corOf_eq hq, rfl⟩
theorem rideH_len (c : Config) (l : Lw.Lease) (x : Lw.Car) (now : Int) (m : Lw.Msg) : (rideH c l x now m).2.1.length ≤ 10 := by
  unfold rideH
  (repeat' split) <;> simp
theorem h11 : Holds Tryz.prog eid 11 (newKS) := by
  refine hold tb131_ok Tryz.func11 (by kernel_rfl) ?_ (by kernel_rfl)
  intro xs M t h
  unfold newKS at h
  split at h
  case h_2 => cases h
  obtain ⟨c, hc, h1⟩ := Option.bind_eq_some_iff.1 h
  clear h
  cases h1
  cases Lw.Config.of_eq hc
  refine ⟨updN, ?_⟩
  intro hp
  rw [v11_vc]
  exact ends_sel [.blk 8 21 .event] [8, 1, 4, 6, 9, 2, 3, 5, 7] rfl rfl rfl rfl
theorem tb132_ok : GamOk Tryz.prog eid (gam tb132) := gam_cons h11 tb131_ok
theorem h86 : Holds Tryz.prog eid 86 (sayKS) := by
  refine hold tb132_ok Tryz.func86 (by kernel_rfl) ?_ (by kernel_rfl)
  intro xs M t h
  unfold sayKS at h
  split at h
  · rename_i n
    obtain ⟨s, c1, c3, e1, rfl⟩ := corL_eq h
    subst e1
    refine ⟨updL rfl, ?_⟩
    intro hp
    obtain ⟨⟨h1, h3⟩, hp⟩ := (hp : (c1 = s.c ∧ c3 = s.c) ∧ OutB s)
    subst h1; subst h3
    rw [v86e_vc]
    have e : sayK s n [] = s := by unfold sayK; rw [List.map_nil, List.append_nil]
    rw [e]
    refine loopVC_selD (S := Unit) v86eb_m (fun _ => v86eb_fr s n) (fun _ => v86eb_mem s n) (fun _ => 0) (fun _ => True) ⟨[], [some 0, some 1, some 2, some 3, some 4, some 5, some 6, some 7, some 8], (), trivial, _, rfl, rfl, rfl, rfl⟩ ?_
    rintro _ _
    refine (v86eb_vc s n _ _).mpr ?_
    exact ends_selD [] [some 0, some 1, some 2, some 3, none, some 5, none, none, none, some 4, some 6, some 7, some 8] rfl rfl rfl rfl
  · rename_i n b0 ms r
    obtain ⟨s, c1, c3, e1, rfl⟩ := corL1_eq h
    cases e1
    refine ⟨updL rfl, ?_⟩
    intro hp
    obtain ⟨⟨h1, h3⟩, hp⟩ := (hp : (c1 = s.c ∧ c3 = s.c) ∧ (OutB s ∧ ms.length ≤ 1000))
    subst h1; subst h3
    refine (v86r_vc s n ms _).mpr ?_
    obtain ⟨ho, hm⟩ := hp
    have ho : s.out.length ≤ 1000000 := ho
    have hbig : bigRow = 1073741824 := rfl
    have hmx := maxLen_eq
    refine loopVC_selD (S := List Lw.Event × Int) v86rb_m (fun t => v86rb_fr s n ms t.1 t.2) (fun t => v86rb_mem s n ms t.1 t.2) (fun t => (ms.length - t.2).toNat) (fun t => (0 ≤ t.2 ∧ t.2 ≤ ms.length) ∧ t.1 = s.out ++ (ms.take t.2.toNat).map (evK n)) ⟨[], [some 0, some 1, some 2, some 3, some 4, none, some 6, some 7, some 8, some 9, some 5], (s.out, 0), ⟨⟨by simp, by simp⟩, by simp⟩, _, rfl, rfl, rfl, rfl⟩ ?_
    rintro ⟨o, i⟩ ⟨⟨h0, h1⟩, h2⟩
    simp only at h0 h1 h2
    refine (v86rb_vc s n ms o i _ _).mpr ?_
    have hol : o.length ≤ 1001000 := by rw [h2, List.length_append, List.length_map, List.length_take]; omega
    by_cases hi : i < ms.length
    · rw [wrap_id (n := i + 1) (by omega) (by omega)]
      have hs : (ms.take (i + 1).toNat).map (evK n) = (ms.take i.toNat).map (evK n) ++ [⟨n, ms.getD i.toNat (RTy.zero .msg)⟩] := by
        rw [show (i + 1).toNat = i.toNat + 1 by omega, List.take_add_one, List.getElem?_eq_getElem (by omega), List.map_append, List.getD_eq_getElem?_getD, List.getElem?_eq_getElem (by omega)]; rfl
      refine cnd_iff.2 ⟨fun _ => ⟨⟨h0, hi⟩, by simp only [List.length_cons, List.length_nil]; omega, ⟨[], [some 0, some 1, some 2, some 3, some 4, none, some 6, some 7, some 8, some 9, some 13], (o ++ [⟨n, ms.getD i.toNat (RTy.zero .msg)⟩], i + 1), ⟨⟨⟨by simp only; omega, by simp only; omega⟩, by simp only; rw [hs, h2, List.append_assoc]⟩, by simp only; omega⟩, _, rfl, rfl, rfl, rfl⟩⟩, fun h => absurd hi (of_decide_eq_false h)⟩
    · refine cnd_iff.2 ⟨fun h => absurd (of_decide_eq_true h) hi, fun _ => ?_⟩
      have e : sayK s n ms = ⟨s.c, s.now, s.r, o, s.cars, s.ws, s.qs, s.ls⟩ := by unfold sayK; rw [h2, List.take_of_length_le (by omega)]
      rw [e]
      exact ends_selD [] [some 0, some 1, some 2, some 3, some 4, none, some 6, none, none, none, some 10, some 7, some 8, some 9] rfl rfl rfl rfl
  · cases h
theorem tb133_ok : GamOk Tryz.prog eid (gam tb133) := gam_cons h86 tb132_ok
theorem h59 : Holds Tryz.prog eid 59 (saidKS) := by
  refine hold tb133_ok Tryz.func59 (by kernel_rfl) ?_ (by kernel_rfl)
  intro xs M t h
  unfold saidKS at h
  split at h
  · obtain ⟨s, c1, c3, e1, rfl⟩ := corL_eq h
    subst e1
    refine ⟨updL rfl, ?_⟩
    intro hp
    obtain ⟨⟨h1, h3⟩, hp⟩ := (hp : (c1 = s.c ∧ c3 = s.c) ∧ True)
    subst h1; subst h3
    rw [v59_vc]
    exact ends_selD [.blk 0 21 .event] [some 0, some 1, some 2, some 3, none, some 5, none, none, none, some 9, some 6, some 7, some 8, some 4] rfl rfl rfl rfl
  · cases h
theorem tb134_ok : GamOk Tryz.prog eid (gam tb134) := gam_cons h59 tb133_ok
theorem h61 : Holds Tryz.prog eid 61 (endKS) := by
  refine hold tb134_ok Tryz.func61 (by kernel_rfl) ?_ (by kernel_rfl)
  intro xs M t h
  unfold endKS at h
  split at h
  · rename_i n
    obtain ⟨s, c1, c3, e1, rfl⟩ := corL_eq h
    subst e1
    refine ⟨updL rfl, ?_⟩
    intro hp
    obtain ⟨⟨h1, h3⟩, hp⟩ := (hp : (c1 = s.c ∧ c3 = s.c) ∧ s.ls.length ≤ 100000)
    subst h1; subst h3
    rw [v61_vc]
    have hbig : bigRow = 1073741824 := rfl
    refine ⟨by have := hp; omega, cnd_iff.2 ⟨fun hb => ?_, fun hb => ?_⟩⟩
    · have e : endK s n = ⟨s.c, s.now, s.r, s.out, giveL s.c s.cars (getL (sesP n) s.ls).car, s.ws, s.qs, endLs s.ls n⟩ := by unfold endK; rw [if_pos hb]
      rw [e]
      exact ends_selD [] [some 0, some 1, some 2, some 3, none, some 5, none, none, none, some 4, some 6, some 7, some 9] rfl rfl rfl rfl
    · have e : endK s n = ⟨s.c, s.now, s.r, s.out, s.cars, s.ws, s.qs, endLs s.ls n⟩ := by unfold endK; rw [if_neg (by rw [hb]; decide)]
      rw [e]
      exact ends_selD [] [some 0, some 1, some 2, some 3, none, some 5, none, none, none, some 4, some 6, some 7, some 9] rfl rfl rfl rfl
  · cases h
theorem tb135_ok : GamOk Tryz.prog eid (gam tb135) := gam_cons h61 tb134_ok
theorem h87 : Holds Tryz.prog eid 87 (putKS) := by
  refine hold tb135_ok Tryz.func87 (by kernel_rfl) ?_ (by kernel_rfl)
  intro xs M t h
  unfold putKS at h
  split at h
  · rename_i k
    obtain ⟨a, ha, h1⟩ := Option.bind_eq_some_iff.1 h
    clear h
    cases Lw.Ask.of_eq ha
    obtain ⟨s, c1, c3, e1, rfl⟩ := corL_eq h1
    subst e1
    refine ⟨updL rfl, ?_⟩
    intro hp
    obtain ⟨⟨h1, h3⟩, hp⟩ := (hp : (c1 = s.c ∧ c3 = s.c) ∧ OutB s ∧ s.qs.length ≤ 1000000)
    subst h1; subst h3
    rw [v87_vc]
    have hbig : bigRow = 1073741824 := rfl
    have hmx := maxLen_eq
    obtain ⟨ho, hq⟩ := hp
    have ho : s.out.length ≤ 1000000 := ho
    refine ⟨by omega, cnd_iff.2 ⟨fun h0 => ?_, fun h0 => cnd_iff.2 ⟨fun h5 => ?_, fun h5 => ?_⟩⟩⟩
    · have h0 : qputE s.r s.qs a = 0 := beq_iff_eq.1 h0
      have e : putM s a = ⟨5, mm true (idxG (askP a.session) (qputL s.r s.qs a) 0) 0, 0, 0⟩ := by unfold putM; rw [if_pos h0]
      have hl : (qputL s.r s.qs a).length = s.qs.length + 1 := by unfold qputL; rw [if_pos h0, List.length_append]; rfl
      unfold putK
      rw [e]
      exact ⟨by omega, ⟨⟨rfl, rfl⟩, ho, by simp only [List.length_cons, List.length_nil]; omega⟩, ends_selD [] [some 0, some 1, some 2, some 3, none, some 5, none, none, none, some 12, some 13, some 14, some 15] rfl rfl rfl rfl⟩
    · have h0 : ¬ qputE s.r s.qs a = 0 := beq_eq_false_iff_ne.1 h0
      have h5 : qputE s.r s.qs a = 5 := beq_iff_eq.1 h5
      have e : putM s a = ⟨6, 0, 0, 0⟩ := by unfold putM; rw [if_neg h0, if_pos h5]
      unfold putK
      rw [e]
      exact ⟨⟨⟨rfl, rfl⟩, ho, by simp only [List.length_cons, List.length_nil]; omega⟩, ends_selD [] [some 0, some 1, some 2, some 3, none, some 5, none, none, none, some 12, some 13, some 14, some 15] rfl rfl rfl rfl⟩
    · have h0 : ¬ qputE s.r s.qs a = 0 := beq_eq_false_iff_ne.1 h0
      have h5 : ¬ qputE s.r s.qs a = 5 := beq_eq_false_iff_ne.1 h5
      have e : putM s a = ⟨7, 5, 0, 0⟩ := by unfold putM; rw [if_neg h0, if_neg h5]
      unfold putK
      rw [e]
      exact ⟨⟨⟨rfl, rfl⟩, ho, by simp only [List.length_cons, List.length_nil]; omega⟩, ends_selD [] [some 0, some 1, some 2, some 3, none, some 5, none, none, none, some 12, some 13, some 14, some 15] rfl rfl rfl rfl⟩
  · cases h
theorem tb136_ok : GamOk Tryz.prog eid (gam tb136) := gam_cons h87 tb135_ok
theorem h29 : Holds Tryz.prog eid 29 (askKS) := by
  refine hold tb136_ok Tryz.func29 (by kernel_rfl) ?_ (by kernel_rfl)
  intro xs M t h
  unfold askKS at h
  split at h
  · rename_i k
    obtain ⟨a, ha, h1⟩ := Option.bind_eq_some_iff.1 h
    clear h
    cases Lw.Ask.of_eq ha
    cases h1
    refine ⟨updN, ?_⟩
    intro hp
    rw [v29n_vc]
    exact ends_v rfl rfl
  · rename_i k
    obtain ⟨a, ha, h1⟩ := Option.bind_eq_some_iff.1 h
    clear h
    cases Lw.Ask.of_eq ha
    obtain ⟨s, c1, c3, e1, rfl⟩ := corL_eq h1
    subst e1
    refine ⟨updL rfl, ?_⟩
    intro hp
    obtain ⟨⟨h1, h3⟩, hp⟩ := (hp : (c1 = s.c ∧ c3 = s.c) ∧ OutB s ∧ CorB s)
    subst h1; subst h3
    rw [v29_vc]
    have hmx := maxLen_eq
    obtain ⟨ho, hw, ⟨hq, hl⟩, hm⟩ := hp
    have ho : s.out.length ≤ 1000000 := ho
    refine ⟨by omega, cnd_iff.2 ⟨fun h0 => ?_, fun h0 => cnd_iff.2 ⟨fun h5 => ?_, fun h5 => ?_⟩⟩⟩
    · have h0 : mayA s.c a = false := by simpa using h0
      have e : askK s a = sayK s a.session [⟨7, 0, 0, 0⟩] := by unfold askK; rw [if_pos h0]
      rw [e]
      exact ⟨⟨⟨rfl, rfl⟩, ho, by simp only [List.length_cons, List.length_nil]; omega⟩, ⟨⟨rfl, rfl⟩, trivial⟩, ends_selD [] [some 0, some 1, some 2, some 3, none, some 5, none, none, none, some 16, some 17, some 18, some 19, some 20] rfl rfl rfl rfl⟩
    · have h0 : ¬ mayA s.c a = false := by simpa using h0
      have e : askK s a = sayK s a.session [⟨7, 5, 0, 0⟩] := by unfold askK; rw [if_neg h0, if_pos h5]
      rw [e]
      exact ⟨⟨⟨rfl, rfl⟩, ho, by simp only [List.length_cons, List.length_nil]; omega⟩, ⟨⟨rfl, rfl⟩, trivial⟩, ends_selD [] [some 0, some 1, some 2, some 3, none, some 5, none, none, none, some 16, some 17, some 18, some 19, some 20] rfl rfl rfl rfl⟩
    · have h0 : ¬ mayA s.c a = false := by simpa using h0
      have e : askK s a = putK s a := by unfold askK; rw [if_neg h0, if_neg (by rw [h5]; decide)]
      rw [e]
      exact ⟨⟨⟨rfl, rfl⟩, ho, hq⟩, ⟨⟨rfl, rfl⟩, trivial⟩, ends_selD [] [some 0, some 1, some 2, some 3, none, some 5, none, none, none, some 15, some 16, some 17, some 18, some 19] rfl rfl rfl rfl⟩
  · cases h
theorem tb137_ok : GamOk Tryz.prog eid (gam tb137) := gam_cons h29 tb136_ok
theorem h55 : Holds Tryz.prog eid 55 (afterKS) := by
  refine hold tb137_ok Tryz.func55 (by kernel_rfl) ?_ (by kernel_rfl)
  intro xs M t h
  unfold afterKS at h
  split at h
  · rename_i k v
    obtain ⟨l, hl, h1⟩ := Option.bind_eq_some_iff.1 h
    clear h
    cases Lw.Lease.of_eq hl
    obtain ⟨s, c1, c3, e1, rfl⟩ := corL_eq h1
    subst e1
    refine ⟨updL rfl, ?_⟩
    intro hp
    obtain ⟨⟨h1, h3⟩, hp⟩ := (hp : (c1 = s.c ∧ c3 = s.c) ∧ (OutB s ∧ s.ls.length ≤ 100000))
    subst h1; subst h3
    rw [v55e_vc]
    have hmx := maxLen_eq
    obtain ⟨ho, hl⟩ := hp
    refine ⟨⟨⟨rfl, rfl⟩, ho⟩, cnd_iff.2 ⟨fun hv => ?_, fun hv => ?_⟩⟩
    · have e : afterK s l [] v = endK (sayK s l.ask.session []) l.ask.session := by unfold afterK; rw [if_pos hv]
      rw [e]
      exact ⟨⟨⟨rfl, rfl⟩, hl⟩, ends_selD [] [some 0, some 1, some 2, some 3, none, some 5, none, none, none, some 14, some 15, some 16, some 17] rfl rfl rfl rfl⟩
    · have e : afterK s l [] v = setK (sayK s l.ask.session []) l := by unfold afterK; rw [if_neg (by rw [hv]; decide)]
      rw [e]
      refine ⟨?_, ends_selD [] [some 0, some 1, some 2, some 3, none, some 5, none, none, none, some 10, some 11, some 12, some 13] rfl rfl rfl rfl⟩
      have : (sayK s l.ask.session []).ls.length = s.ls.length := rfl
      omega
  · rename_i k v b0 ms r
    obtain ⟨l, hl, h1⟩ := Option.bind_eq_some_iff.1 h
    clear h
    cases Lw.Lease.of_eq hl
    obtain ⟨s, c1, c3, e1, rfl⟩ := corL1_eq h1
    cases e1
    refine ⟨updL rfl, ?_⟩
    intro hp
    obtain ⟨⟨h1, h3⟩, hp⟩ := (hp : (c1 = s.c ∧ c3 = s.c) ∧ ((OutB s ∧ s.ls.length ≤ 100000) ∧ ms.length ≤ 10))
    subst h1; subst h3
    refine (v55r_vc s l ms v _).mpr ?_
    have hmx := maxLen_eq
    obtain ⟨⟨ho, hl⟩, hms⟩ := hp
    refine ⟨⟨⟨rfl, rfl⟩, ho, by omega⟩, cnd_iff.2 ⟨fun hv => ?_, fun hv => ?_⟩⟩
    · have e : afterK s l ms v = endK (sayK s l.ask.session ms) l.ask.session := by unfold afterK; rw [if_pos hv]
      rw [e]
      exact ⟨⟨⟨rfl, rfl⟩, hl⟩, ends_selD [] [some 0, some 1, some 2, some 3, some 4, none, some 6, none, none, none, some 15, some 16, some 17, some 18] rfl rfl rfl rfl⟩
    · have e : afterK s l ms v = setK (sayK s l.ask.session ms) l := by unfold afterK; rw [if_neg (by rw [hv]; decide)]
      rw [e]
      refine ⟨?_, ends_selD [] [some 0, some 1, some 2, some 3, some 4, none, some 6, none, none, none, some 11, some 12, some 13, some 14] rfl rfl rfl rfl⟩
      have : (sayK s l.ask.session ms).ls.length = s.ls.length := rfl
      omega
  · cases h
theorem tb138_ok : GamOk Tryz.prog eid (gam tb138) := gam_cons h55 tb137_ok
theorem h57 : Holds Tryz.prog eid 57 (carKS) := by
  refine hold tb138_ok Tryz.func57 (by kernel_rfl) ?_ (by kernel_rfl)
  intro xs M t h
  unfold carKS at h
  split at h
  · rename_i k
    obtain ⟨l, hl, h1⟩ := Option.bind_eq_some_iff.1 h
    clear h
    cases Lw.Lease.of_eq hl
    obtain ⟨s, c1, c3, e1, rfl⟩ := corR_eq h1
    subst e1
    refine ⟨updN, ?_⟩
    intro hp
    obtain ⟨⟨h1, h3⟩, hp⟩ := (hp : (c1 = s.c ∧ c3 = s.c) ∧ mildL s.cars ∧ (0 ≤ l.car ∧ l.car < s.cars.length))
    subst h1; subst h3
    rw [v57_vc]
    have hbig : bigRow = 1073741824 := rfl
    obtain ⟨⟨hn, hm⟩, hr⟩ := hp
    exact ⟨by omega, hr, ends_sel [] [0, 1, 2, 3, 4, 5, 6, 7, 8] rfl rfl rfl rfl⟩
  · cases h
theorem tb139_ok : GamOk Tryz.prog eid (gam tb139) := gam_cons h57 tb138_ok
theorem h30 : Holds Tryz.prog eid 30 (hearKS) := by
  refine hold tb139_ok Tryz.func30 (by kernel_rfl) ?_ (by kernel_rfl)
  intro xs M t h
  unfold hearKS at h
  split at h
  · rename_i n k
    obtain ⟨m, hm, h1⟩ := Option.bind_eq_some_iff.1 h
    clear h
    cases Lw.Msg.of_eq hm
    cases h1
    refine ⟨updN, ?_⟩
    intro hp
    rw [v30n_vc]
    exact ends_v rfl rfl
  · rename_i n k
    obtain ⟨m, hm, h1⟩ := Option.bind_eq_some_iff.1 h
    clear h
    cases Lw.Msg.of_eq hm
    obtain ⟨s, c1, c3, e1, rfl⟩ := corL_eq h1
    subst e1
    refine ⟨updL rfl, ?_⟩
    intro hp
    obtain ⟨⟨h1, h3⟩, hp⟩ := (hp : (c1 = s.c ∧ c3 = s.c) ∧ (OutB s ∧ CorB s) ∧ (getB (sesP n) s.ls = true → 0 ≤ (getL (sesP n) s.ls).car ∧ (getL (sesP n) s.ls).car < s.cars.length))
    subst h1; subst h3
    rw [v30_vc]
    have hmx := maxLen_eq
    obtain ⟨⟨ho, hw, ⟨hq, hl⟩, hm⟩, hr⟩ := hp
    have ho : s.out.length ≤ 1000000 := ho
    refine ⟨by omega, cnd_iff.2 ⟨fun h0 => ?_, fun h0 => ?_⟩⟩
    · have hr := hr h0
      have e : hearK s n m = afterK s (rideH s.c (getL (sesP n) s.ls) (atC s.cars (getL (sesP n) s.ls).car) s.now m).1 (rideH s.c (getL (sesP n) s.ls) (atC s.cars (getL (sesP n) s.ls).car) s.now m).2.1 (rideH s.c (getL (sesP n) s.ls) (atC s.cars (getL (sesP n) s.ls).car) s.now m).2.2 := by unfold hearK; rw [if_pos h0]
      rw [e]
      exact ⟨⟨⟨rfl, rfl⟩, hm, hr⟩, ⟨⟨rfl, rfl⟩, ⟨ho, hl⟩, rideH_len _ _ _ _ _⟩, ⟨⟨rfl, rfl⟩, trivial⟩, ends_selD [] [some 0, some 1, some 2, some 3, none, some 5, none, none, none, some 16, some 17, some 18, some 19, some 20] rfl rfl rfl rfl⟩
    · have e : hearK s n m = sayK s n [⟨7, 0, 0, 0⟩] := by unfold hearK; rw [if_neg (by rw [h0]; decide)]
      rw [e]
      exact ⟨⟨⟨rfl, rfl⟩, ho, by simp only [List.length_cons, List.length_nil]; omega⟩, ⟨⟨rfl, rfl⟩, trivial⟩, ends_selD [] [some 0, some 1, some 2, some 3, none, some 5, none, none, none, some 16, some 17, some 18, some 19, some 20] rfl rfl rfl rfl⟩
  · cases h
theorem tb140_ok : GamOk Tryz.prog eid (gam tb140) := gam_cons h30 tb139_ok
theorem h16 : Holds Tryz.prog eid 16 (goneKS) := by
  refine hold tb140_ok Tryz.func16 (by kernel_rfl) ?_ (by kernel_rfl)
  intro xs M t h
  unfold goneKS at h
  split at h
  · rename_i n
    cases h
    refine ⟨updN, ?_⟩
    intro hp
    rw [v16n_vc]
    exact ends_v rfl rfl
  · rename_i n
    obtain ⟨s, c1, c3, e1, rfl⟩ := corL_eq h
    subst e1
    refine ⟨updL rfl, ?_⟩
    intro hp
    obtain ⟨⟨h1, h3⟩, hp⟩ := (hp : (c1 = s.c ∧ c3 = s.c) ∧ CorB s)
    subst h1; subst h3
    rw [v16_vc]
    have hbig : bigRow = 1073741824 := rfl
    exact ⟨⟨⟨rfl, rfl⟩, hp.2.1.2⟩, by show s.qs.length ≤ bigRow; have := hp.2.1.1; omega, ends_selD [] [some 0, some 1, some 2, some 3, none, some 5, none, none, none, some 9, some 10, some 13, some 12] rfl rfl rfl rfl⟩
  · cases h
theorem tb141_ok : GamOk Tryz.prog eid (gam tb141) := gam_cons h16 tb140_ok
theorem h31 : Holds Tryz.prog eid 31 (groupKS) := by
  refine hold tb141_ok Tryz.func31 (by kernel_rfl) ?_ (by kernel_rfl)
  intro xs M t h
  unfold groupKS at h
  split at h
  · cases h
    refine ⟨updN, ?_⟩
    intro hp
    rw [v31n_vc]
    exact ends_v rfl rfl
  · obtain ⟨s, c1, c3, e1, rfl⟩ := corR_eq h
    subst e1
    refine ⟨updN, ?_⟩
    intro hp
    obtain ⟨⟨h1, h3⟩, hp⟩ := (hp : (c1 = s.c ∧ c3 = s.c) ∧ True)
    subst h1; subst h3
    rw [v31_vc]
    exact ends_sel [] [0, 1, 2, 3, 4, 5, 6, 7, 8] rfl rfl rfl rfl
  · cases h
theorem tb142_ok : GamOk Tryz.prog eid (gam tb142) := gam_cons h31 tb141_ok
theorem h14 : Holds Tryz.prog eid 14 (leasesKS) := by
  refine hold tb142_ok Tryz.func14 (by kernel_rfl) ?_ (by kernel_rfl)
  intro xs M t h
  unfold leasesKS at h
  split at h
  · cases h
    refine ⟨updN, ?_⟩
    intro hp
    rw [v14n_vc]
    exact ends_v rfl rfl
  · obtain ⟨s, c1, c3, e1, rfl⟩ := corR_eq h
    subst e1
    refine ⟨updN, ?_⟩
    intro hp
    obtain ⟨⟨h1, h3⟩, hp⟩ := (hp : (c1 = s.c ∧ c3 = s.c) ∧ CorB s)
    subst h1; subst h3
    rw [v14_vc]
    have hbig : bigRow = 1073741824 := rfl
    exact ⟨by have := hp.2.1.2; omega, ends_sel [] [0, 1, 2, 3, 4, 5, 6, 7, 8, 9] rfl rfl rfl rfl⟩
  · cases h
theorem tb143_ok : GamOk Tryz.prog eid (gam tb143) := gam_cons h14 tb142_ok
theorem h15 : Holds Tryz.prog eid 15 (queueKS) := by
  refine hold tb143_ok Tryz.func15 (by kernel_rfl) ?_ (by kernel_rfl)
  intro xs M t h
  unfold queueKS at h
  split at h
  · cases h
    refine ⟨updN, ?_⟩
    intro hp
    rw [v15n_vc]
    exact ends_v rfl rfl
  · obtain ⟨s, c1, c3, e1, rfl⟩ := corR_eq h
    subst e1
    refine ⟨updN, ?_⟩
    intro hp
    obtain ⟨⟨h1, h3⟩, hp⟩ := (hp : (c1 = s.c ∧ c3 = s.c) ∧ CorB s)
    subst h1; subst h3
    rw [v15_vc]
    have hbig : bigRow = 1073741824 := rfl
    exact ⟨by have := hp.2.1.1; omega, ends_sel [] [0, 1, 2, 3, 4, 5, 6, 7, 8, 9] rfl rfl rfl rfl⟩
  · cases h
theorem tb144_ok : GamOk Tryz.prog eid (gam tb144) := gam_cons h15 tb143_ok
end Go.Proofs.YtjgmkpidiaojkaaGreat
