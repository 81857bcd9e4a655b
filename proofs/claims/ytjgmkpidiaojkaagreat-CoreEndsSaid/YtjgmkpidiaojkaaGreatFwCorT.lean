/- The functions of this group answer so. -/
import Derived.Test.YtjgmkpidiaojkaaGreatFwCorTV
import Derived.Test.YtjgmkpidiaojkaaGreatFwCore
set_option linter.unusedVariables false
set_option linter.unusedSimpArgs false
set_option maxRecDepth 20000
set_option maxHeartbeats 4000000
namespace Go.Proofs.YtjgmkpidiaojkaaGreat
open Lw
attribute [local irreducible] Lw.vc Lw.vcFunc
theorem rideT_len (b : Bool) (c : Config) (l : Lw.Lease) (x : Lw.Car) (now : Int) : (rideT b c l x now).2.1.length ≤ 1 := by
  unfold rideT
  (repeat' split) <;> simp
theorem modC_len (cars : List Lw.Car) (n : Int) (x : Lw.Car) : (modC cars n x).length = cars.length := by unfold modC; rw [List.length_set]
theorem aimL_len (c : Config) (cars : List Lw.Car) (n f : Int) (b : Bool) : (aimL c cars n f b).length = cars.length := by unfold aimL; split <;> simp [modC_len]
theorem giveL_len (c : Config) (cars : List Lw.Car) (n : Int) : (giveL c cars n).length = cars.length := by unfold giveL; split <;> simp [modC_len]
theorem takeL_len (c : Config) (cars : List Lw.Car) (n f : Int) : (takeL c cars n f).length = cars.length := by unfold takeL; split <;> simp [modC_len]
theorem endLs_len (ls : List Lw.Lease) (n : Int) : (endLs ls n).length ≤ ls.length := by
  unfold endLs
  split
  · exact Nat.le_refl _
  · exact cutL_len ls _ (by omega)
theorem setLs_len (c : Config) (ls : List Lw.Lease) (l : Lw.Lease) : (setLs c ls l).length = ls.length := by unfold setLs; split <;> simp
def KeepK (s t : Lw.Cor) : Prop := t.c = s.c ∧ t.now = s.now ∧ t.r = s.r ∧ t.ws = s.ws ∧ t.qs = s.qs ∧ t.ls.length ≤ s.ls.length ∧ t.cars.length = s.cars.length ∧ (GInv s.c s.cars → GInv s.c t.cars)
theorem KeepK.refl (s : Lw.Cor) : KeepK s s := ⟨rfl, rfl, rfl, rfl, rfl, Nat.le_refl _, rfl, id⟩
theorem KeepK.trans {s t u : Lw.Cor} (h : KeepK s t) (k : KeepK t u) : KeepK s u := by
  obtain ⟨h1, h2, h3, h4, h5, h6, h7, h8⟩ := h
  obtain ⟨k1, k2, k3, k4, k5, k6, k7, k8⟩ := k
  exact ⟨k1.trans h1, k2.trans h2, k3.trans h3, k4.trans h4, k5.trans h5, by omega, k7.trans h7, fun hg => h1 ▸ k8 (h1.symm ▸ h8 hg)⟩
theorem end_keep (s : Lw.Cor) (n : Int) : KeepK s (endK s n) := by
  unfold endK
  refine ⟨rfl, rfl, rfl, rfl, rfl, endLs_len _ _, ?_, fun hg => ?_⟩
  · simp only; split
    · exact giveL_len _ _ _
    · rfl
  · simp only; split
    · exact gInv_give _ hg
    · exact hg
theorem after_keep (s : Lw.Cor) (l : Lw.Lease) (ms : List Lw.Msg) (v : Bool) : KeepK s (afterK s l ms v) ∧ (afterK s l ms v).out = s.out ++ ms.map (evK l.ask.session) := by
  unfold afterK
  split
  · refine ⟨?_, rfl⟩
    exact end_keep (sayK s l.ask.session ms) l.ask.session
  · exact ⟨⟨rfl, rfl, rfl, rfl, rfl, Nat.le_of_eq (setLs_len _ _ _), aimL_len _ _ _ _ _, fun hg => gInv_aim _ _ _ hg⟩, rfl⟩
theorem round_keep (s : Lw.Cor) (l : Lw.Lease) : KeepK s (roundK s l) ∧ (roundK s l).out.length ≤ s.out.length + 1 := by
  unfold roundK
  have h := after_keep s (rideK s l).1 (rideK s l).2.1 (rideK s l).2.2
  refine ⟨h.1, ?_⟩
  rw [h.2, List.length_append, List.length_map]
  have := rideT_len (lateB s.now l.until_) s.c l (atC s.cars l.car) s.now
  unfold rideK
  omega
theorem rides_snoc (s : Lw.Cor) (l : List Lw.Lease) (x : Lw.Lease) : ridesK s (l ++ [x]) = roundK (ridesK s l) x := by
  unfold ridesK
  rw [List.foldl_append]; rfl
theorem rides_take (s : Lw.Cor) {l : List Lw.Lease} {i : Nat} (h : i < l.length) (z : Lw.Lease) : ridesK s (l.take (i + 1)) = roundK (ridesK s (l.take i)) (l.getD i z) := by
  rw [List.take_add_one, List.getElem?_eq_getElem h, List.getD_eq_getElem?_getD, List.getElem?_eq_getElem h]
  exact rides_snoc _ _ _
theorem rides_keep : ∀ (l : List Lw.Lease) (s : Lw.Cor), KeepK s (ridesK s l) ∧ (ridesK s l).out.length ≤ s.out.length + l.length
  | [], s => ⟨KeepK.refl s, by simp [ridesK]⟩
  | x :: r, s => by
    have h1 := round_keep s x
    have h2 := rides_keep r (roundK s x)
    refine ⟨KeepK.trans h1.1 h2.1, ?_⟩
    have : (ridesK s (x :: r)).out.length = (ridesK (roundK s x) r).out.length := rfl
    have := h1.2
    have := h2.2
    simp only [List.length_cons]
    omega
theorem cntI_step {α : Type} {p : α → Bool} {l : List α} {i : Nat} (h : i < l.length) (z : α) : cntI p (l.take (i + 1)) = cntI p (l.take i) + (bif p (l.getD i z) then 1 else 0) := by
  unfold cntI
  rw [List.take_add_one, List.getElem?_eq_getElem h, List.getD_eq_getElem?_getD, List.getElem?_eq_getElem h, List.countP_append]
  cases hc : p l[i] <;> simp [hc]
theorem cntI_le {α : Type} (p : α → Bool) (l : List α) (i : Nat) : 0 ≤ cntI p (l.take i) ∧ cntI p (l.take i) ≤ i := by
  unfold cntI
  have := List.countP_le_length (p := p) (l := l.take i)
  rw [List.length_take] at this
  omega
theorem fullN_step (s : Lw.Cor) {l : List Lw.Lease} {i : Nat} (h : i < l.length) (z : Lw.Lease) : fullN s (l.take (i + 1)) = fullN s (l.take i) ++ (bif fullP s.c s.ls (l.getD i z) then [(l.getD i z).ask.fleet] else []) := by
  unfold fullN
  rw [List.take_add_one, List.getElem?_eq_getElem h, List.getD_eq_getElem?_getD, List.getElem?_eq_getElem h, Option.toList_some, Option.getD_some, List.filter_append, List.map_append]
  congr 1
  cases hc : fullP s.c s.ls l[i] <;> simp [hc]
theorem fullN_len (s : Lw.Cor) (l : List Lw.Lease) : (fullN s l).length ≤ l.length := by
  unfold fullN
  rw [List.length_map]
  exact List.length_filter_le _ _
theorem nearN_range (cars : List Lw.Car) (f : Int) : ∀ k : Nat, -1 ≤ nearN cars f k ∧ nearN cars f k < (k : Int)
  | 0 => by unfold nearN; omega
  | k + 1 => by
    have := nearN_range cars f k
    unfold nearN
    split <;> omega
theorem near_cond {x : Lw.Car} : (bif bif !idleB x then true else x.blocked then true else decide (x.load > 0)) = !nearP x := by
  unfold nearP
  cases idleB x <;> cases x.blocked <;> simp

theorem h179 : Holds Tryz.prog eid 179 (s179) := by
  refine hold tb144_ok Tryz.func179 (by kernel_rfl) ?_ (by kernel_rfl)
  intro xs M t h
  unfold s179 at h
  split at h
  case h_2 => cases h
  rename_i csx
  obtain ⟨x, hcx, h1⟩ := Option.bind_eq_some_iff.1 h
  clear h
  have h := h1
  clear h1
  cases h
  cases Lw.Car.of_eq hcx
  clear hcx
  refine ⟨fun l h => (nomatch h), ?_⟩
  intro hp
  rw [v179_vc]
  rw [c_and]
  exact ends_pl rfl
theorem tb145_ok : GamOk Tryz.prog eid (gam tb145) := gam_cons h179 tb144_ok
theorem h177 : Holds Tryz.prog eid 177 (lateKS) := by
  refine hold tb145_ok Tryz.func177 (by kernel_rfl) ?_ (by kernel_rfl)
  intro xs M t h
  unfold lateKS at h
  split at h
  case h_2 => cases h
  obtain ⟨w, hw, h1⟩ := Option.bind_eq_some_iff.1 h
  clear h
  obtain ⟨q, hq, h⟩ := Option.bind_eq_some_iff.1 h1
  clear h1
  cases h
  cases Lw.Wait.of_eq hw
  rw [corOf_eq hq]
  obtain ⟨s, c1, c3⟩ := q
  dsimp only
  refine ⟨updN, ?_⟩
  intro hp
  obtain ⟨h1, h3⟩ := (hp : c1 = s.c ∧ c3 = s.c)
  subst h1; subst h3
  refine (v177_vc s w _).mpr ?_
  exact ends_sel [] [0, 1, 2, 3, 4, 5, 6, 7, 8, 9] rfl rfl rfl rfl
theorem tb146_ok : GamOk Tryz.prog eid (gam tb146) := gam_cons h177 tb145_ok
theorem h178 : Holds Tryz.prog eid 178 (cntCS) := by
  refine hold tb146_ok Tryz.func178 (by kernel_rfl) ?_ (by kernel_rfl)
  intro xs M t h
  unfold cntCS at h
  split at h
  · rename_i k l
    cases hk : Nat.beq k 179 <;> rw [hk] at h <;> simp only [cond_true, cond_false] at h
    case false => cases h
    cases Nat.eq_of_beq_eq_true hk
    cases h
    refine ⟨updN, ?_⟩
    intro hp
    have hl : l.length ≤ Go.maxLen := hp
    rw [v178_vc]
    have hmx := maxLen_eq
    refine loopVC_selD (S := Int × Int) v178b_m (fun t => v178b_fr l t.1 t.2) (fun t => v178b_mem l t.1 t.2) (fun t => (l.length - t.2).toNat) (fun t => (0 ≤ t.2 ∧ t.2 ≤ l.length) ∧ t.1 = cntI (usableB) (l.take t.2.toNat)) ⟨[], [some 0], (0, 0), ⟨⟨by simp, by simp⟩, by simp [cntI]⟩, _, rfl, rfl, rfl, rfl⟩ ?_
    rintro ⟨n, i⟩ ⟨⟨h0, h1⟩, h2⟩
    simp only at h0 h1 h2
    refine (v178b_vc l n i _ _).mpr ?_
    have hc := cntI_le (usableB) l i.toNat
    have hi1 : (i + 1).toNat = i.toNat + 1 := by omega
    by_cases hi : i < l.length
    · have hs := cntI_step (p := usableB) (l := l) (i := i.toNat) (by omega) (RTy.zero .car)
      rw [wrap_id (n := i + 1) (by omega) (by omega), wrap_id (n := n + 1) (by omega) (by omega)]
      refine cnd_iff.2 ⟨fun _ => ⟨⟨h0, hi⟩, cnd_iff.2 ⟨fun hb => ⟨[], [some 0], (n + 1, i + 1), ⟨⟨⟨by simp only; omega, by simp only; omega⟩, ?_⟩, by simp only; omega⟩, _, rfl, rfl, rfl, rfl⟩, fun hb => ⟨[], [some 0], (n, i + 1), ⟨⟨⟨by simp only; omega, by simp only; omega⟩, ?_⟩, by simp only; omega⟩, _, rfl, rfl, rfl, rfl⟩⟩⟩, fun h => absurd hi (of_decide_eq_false h)⟩
      · simp only; rw [hi1, hs, hb, h2]; rfl
      · simp only; rw [hi1, hs, hb, h2]; simp
    · refine cnd_iff.2 ⟨fun h => absurd (of_decide_eq_true h) hi, fun _ => ?_⟩
      rw [h2, List.take_of_length_le (by omega)]
      exact ends_sel [] [0] rfl rfl rfl rfl
  · cases h
theorem tb147_ok : GamOk Tryz.prog eid (gam tb147) := gam_cons h178 tb146_ok
theorem h180 : Holds Tryz.prog eid 180 (cntWS) := by
  refine hold tb147_ok Tryz.func180 (by kernel_rfl) ?_ (by kernel_rfl)
  intro xs M t h
  unfold cntWS at h
  split at h
  · rename_i k l r
    cases hk : Nat.beq k 177 <;> rw [hk] at h <;> simp only [cond_true, cond_false] at h
    case false => cases h
    cases Nat.eq_of_beq_eq_true hk
    obtain ⟨q, hq, h1⟩ := Option.bind_eq_some_iff.1 h
    clear h
    cases h1
    rw [corOf_eq hq]
    obtain ⟨s, c1, c3⟩ := q
    dsimp only
    refine ⟨updN, ?_⟩
    intro hp
    obtain ⟨⟨h1, h3⟩, hl⟩ := (hp : (c1 = s.c ∧ c3 = s.c) ∧ l.length ≤ Go.maxLen)
    subst h1; subst h3
    refine (v180_vc s l _).mpr ?_
    have hmx := maxLen_eq
    refine loopVC_selD (S := Int × Int) v180b_m (fun t => v180b_fr s l t.1 t.2) (fun t => v180b_mem s l t.1 t.2) (fun t => (l.length - t.2).toNat) (fun t => (0 ≤ t.2 ∧ t.2 ≤ l.length) ∧ t.1 = cntI (lateW s.c s.now) (l.take t.2.toNat)) ⟨[], [some 0, some 1, some 2, some 3, some 4, some 5, some 6, some 7, some 8, some 9, some 10], (0, 0), ⟨⟨by simp, by simp⟩, by simp [cntI]⟩, _, rfl, rfl, rfl, rfl⟩ ?_
    rintro ⟨n, i⟩ ⟨⟨h0, h1⟩, h2⟩
    simp only at h0 h1 h2
    refine (v180b_vc s l n i _ _).mpr ?_
    have hc := cntI_le (lateW s.c s.now) l i.toNat
    have hi1 : (i + 1).toNat = i.toNat + 1 := by omega
    by_cases hi : i < l.length
    · have hs := cntI_step (p := lateW s.c s.now) (l := l) (i := i.toNat) (by omega) (RTy.zero .wait)
      rw [wrap_id (n := i + 1) (by omega) (by omega), wrap_id (n := n + 1) (by omega) (by omega)]
      refine cnd_iff.2 ⟨fun _ => ⟨⟨h0, hi⟩, ⟨rfl, rfl⟩, cnd_iff.2 ⟨fun hb => ⟨[], [some 0, some 1, some 2, some 3, some 4, some 5, some 6, some 7, some 8, some 9, some 10], (n + 1, i + 1), ⟨⟨⟨by simp only; omega, by simp only; omega⟩, ?_⟩, by simp only; omega⟩, _, rfl, rfl, rfl, rfl⟩, fun hb => ⟨[], [some 0, some 1, some 2, some 3, some 4, some 5, some 6, some 7, some 8, some 9, some 10], (n, i + 1), ⟨⟨⟨by simp only; omega, by simp only; omega⟩, ?_⟩, by simp only; omega⟩, _, rfl, rfl, rfl, rfl⟩⟩⟩, fun h => absurd hi (of_decide_eq_false h)⟩
      · simp only; rw [hi1, hs, hb, h2]; rfl
      · simp only; rw [hi1, hs, hb, h2]; simp
    · refine cnd_iff.2 ⟨fun h => absurd (of_decide_eq_true h) hi, fun _ => ?_⟩
      rw [h2, List.take_of_length_le (by omega)]
      exact ends_sel [] [0, 1, 2, 3, 4, 5, 6, 7, 8, 9, 10] rfl rfl rfl rfl
  · cases h
theorem tb148_ok : GamOk Tryz.prog eid (gam tb148) := gam_cons h180 tb147_ok
theorem h119 : Holds Tryz.prog eid 119 (calmKS) := by
  refine hold tb148_ok Tryz.func119 (by kernel_rfl) ?_ (by kernel_rfl)
  intro xs M t h
  unfold calmKS at h
  split at h
  · obtain ⟨s, c1, c3, e1, rfl⟩ := corR_eq h
    subst e1
    refine ⟨updN, ?_⟩
    intro hp
    obtain ⟨⟨h1, h3⟩, hp⟩ := (hp : (c1 = s.c ∧ c3 = s.c) ∧ CorB s)
    subst h1; subst h3
    rw [v119_vc]
    have hbig : bigRow = 1073741824 := rfl
    have hmx := maxLen_eq
    obtain ⟨hw, ⟨hq, hl⟩, hm⟩ := hp
    have hc := hm.1
    refine ⟨by omega, by omega, cnd_iff.2 ⟨fun h => ?_, fun h => ?_⟩⟩
    · refine ⟨by omega, ⟨⟨rfl, rfl⟩, by omega⟩, ?_⟩
      have e : calmK s = (cntI (lateW s.c s.now) s.ws == 0) := by unfold calmK; rw [h, Bool.true_and]
      rw [e]
      exact ends_sel [] [0, 1, 2, 3, 4, 5, 6, 7, 8] rfl rfl rfl rfl
    · have e : calmK s = false := by unfold calmK; rw [h, Bool.false_and]
      rw [e]
      exact ends_sel [] [0, 1, 2, 3, 4, 5, 6, 7, 8] rfl rfl rfl rfl
  · cases h
theorem tb149_ok : GamOk Tryz.prog eid (gam tb149) := gam_cons h119 tb148_ok
theorem h121 : Holds Tryz.prog eid 121 (fullKS) := by
  refine hold tb149_ok Tryz.func121 (by kernel_rfl) ?_ (by kernel_rfl)
  intro xs M t h
  unfold fullKS at h
  split at h
  · obtain ⟨s, c1, c3, e1, rfl⟩ := corR_eq h
    subst e1
    refine ⟨updN, ?_⟩
    intro hp
    obtain ⟨⟨h1, h3⟩, hp⟩ := (hp : (c1 = s.c ∧ c3 = s.c) ∧ CorB s)
    subst h1; subst h3
    rw [v121_vc]
    have hbig : bigRow = 1073741824 := rfl
    have hmx := maxLen_eq
    obtain ⟨hw, ⟨hq, hl⟩, hm⟩ := hp
    refine ⟨by omega, ?_⟩
    refine loopVC_selD (S := List Int × Int) v121b_m (fun t => v121b_fr s t.1 t.2) (fun t => v121b_mem s t.1 t.2) (fun t => (s.ls.length - t.2).toNat) (fun t => (0 ≤ t.2 ∧ t.2 ≤ s.ls.length) ∧ t.1 = fullN s (s.ls.take t.2.toNat)) ⟨[.slot 3 .int], [some 0, some 1, some 2, some 3, some 4, some 5, some 6, some 7, some 8, some 9, some 10], ([], 0), ⟨⟨by simp, by simp⟩, by simp [fullN]⟩, _, rfl, rfl, rfl, rfl⟩ ?_
    rintro ⟨o, i⟩ ⟨⟨h0, h1⟩, h2⟩
    simp only at h0 h1 h2
    refine (v121b_vc s o i _ _).mpr ?_
    have hol := fullN_len s (s.ls.take i.toNat)
    rw [← h2, List.length_take] at hol
    have hi1 : (i + 1).toNat = i.toNat + 1 := by omega
    by_cases hi : i < s.ls.length
    · have hs := fullN_step s (l := s.ls) (i := i.toNat) (by omega) (RTy.zero .lease)
      rw [wrap_id (n := i + 1) (by omega) (by omega)]
      refine cnd_iff.2 ⟨fun _ => ⟨⟨h0, hi⟩, by omega, cnd_iff.2 ⟨fun hb => ⟨by simp only [List.length_cons, List.length_nil]; omega, [], [some 0, some 1, some 2, some 3, some 4, some 5, some 6, some 7, some 8, some 9, some 13], (o ++ [(s.ls.getD i.toNat (RTy.zero .lease)).ask.fleet], i + 1), ⟨⟨⟨by simp only; omega, by simp only; omega⟩, ?_⟩, by simp only; omega⟩, _, rfl, rfl, rfl, rfl⟩, fun hb => ⟨[], [some 0, some 1, some 2, some 3, some 4, some 5, some 6, some 7, some 8, some 9, some 10], (o, i + 1), ⟨⟨⟨by simp only; omega, by simp only; omega⟩, ?_⟩, by simp only; omega⟩, _, rfl, rfl, rfl, rfl⟩⟩⟩, fun h => absurd hi (of_decide_eq_false h)⟩
      · simp only
        rw [hi1, hs, h2, show fullP s.c s.ls (s.ls.getD i.toNat (RTy.zero .lease)) = true from hb]; rfl
      · simp only
        rw [hi1, hs, h2, show fullP s.c s.ls (s.ls.getD i.toNat (RTy.zero .lease)) = false from hb]; simp
    · refine cnd_iff.2 ⟨fun h => absurd (of_decide_eq_true h) hi, fun _ => ?_⟩
      rw [List.take_of_length_le (by omega)] at h2
      have e : fullK s = o := h2.symm
      rw [e]
      exact ends_sel [] [0, 1, 2, 3, 4, 5, 6, 7, 8, 10] rfl rfl rfl rfl
  · cases h
theorem tb150_ok : GamOk Tryz.prog eid (gam tb150) := gam_cons h121 tb149_ok
theorem h122 : Holds Tryz.prog eid 122 (nearKS) := by
  refine hold tb150_ok Tryz.func122 (by kernel_rfl) ?_ (by kernel_rfl)
  intro xs M t h
  unfold nearKS at h
  split at h
  · rename_i f
    obtain ⟨s, c1, c3, e1, rfl⟩ := corR_eq h
    subst e1
    refine ⟨updN, ?_⟩
    intro hp
    obtain ⟨⟨h1, h3⟩, hp⟩ := (hp : (c1 = s.c ∧ c3 = s.c) ∧ CorB s)
    subst h1; subst h3
    rw [v122_vc]
    have hbig : bigRow = 1073741824 := rfl
    have hmx := maxLen_eq
    obtain ⟨hw, ⟨hq, hl⟩, hm⟩ := hp
    have hcl := hm.1
    refine ⟨by omega, ?_⟩
    refine loopVC_selD (S := Int × Int) v122b_m (fun t => v122b_fr s f t.1 t.2) (fun t => v122b_mem s f t.1 t.2) (fun t => (s.cars.length - t.2).toNat) (fun t => (0 ≤ t.2 ∧ t.2 ≤ s.cars.length) ∧ t.1 = nearN s.cars f t.2.toNat) ⟨[], [some 0, some 1, some 2, some 3, some 4, some 5, some 6, some 7, some 8, some 9], (-1, 0), ⟨⟨by simp, by simp⟩, by simp [nearN]⟩, _, rfl, rfl, rfl, rfl⟩ ?_
    rintro ⟨b, i⟩ ⟨⟨h0, h1⟩, h2⟩
    simp only at h0 h1 h2
    refine (v122b_vc s f b i _ _).mpr ?_
    have hr := nearN_range s.cars f i.toNat
    have hi1 : (i + 1).toNat = i.toNat + 1 := by omega
    by_cases hi : i < s.cars.length
    · have hun : nearN s.cars f (i.toNat + 1) = _ := nearN.eq_2 s.cars f i.toNat
      have hci := (hm.2 _ (atC_mem h0 hi)).1
      rw [wrap_id (n := i + 1) (by omega) (by omega), zeroC_eq, near_cond]
      rw [← h2] at hun hr
      refine cnd_iff.2 ⟨fun _ => ⟨⟨h0, hi⟩, hci, cnd_iff.2 ⟨fun hb => ⟨[], [some 0, some 1, some 2, some 3, some 4, some 5, some 6, some 7, some 8, some 9], (b, i + 1), ⟨⟨⟨by simp only; omega, by simp only; omega⟩, ?_⟩, by simp only; omega⟩, _, rfl, rfl, rfl, rfl⟩, fun hb => cnd_iff.2 ⟨fun hn => ⟨[], [some 0, some 1, some 2, some 3, some 4, some 5, some 6, some 7, some 8, some 9], (i, i + 1), ⟨⟨⟨by simp only; omega, by simp only; omega⟩, ?_⟩, by simp only; omega⟩, _, rfl, rfl, rfl, rfl⟩, fun hn => ⟨?_, cnd_iff.2 ⟨fun hf => ⟨[], [some 0, some 1, some 2, some 3, some 4, some 5, some 6, some 7, some 8, some 9], (i, i + 1), ⟨⟨⟨by simp only; omega, by simp only; omega⟩, ?_⟩, by simp only; omega⟩, _, rfl, rfl, rfl, rfl⟩, fun hf => ⟨[], [some 0, some 1, some 2, some 3, some 4, some 5, some 6, some 7, some 8, some 9], (b, i + 1), ⟨⟨⟨by simp only; omega, by simp only; omega⟩, ?_⟩, by simp only; omega⟩, _, rfl, rfl, rfl, rfl⟩⟩⟩⟩⟩⟩, fun h => absurd hi (of_decide_eq_false h)⟩
      · simp only
        rw [hi1, hun, if_neg]
        rintro ⟨hx, _⟩
        rw [hx] at hb; cases hb
      · have hx : nearP (s.cars.getD i.toNat zeroC) = true := by simpa using hb
        have hn := of_decide_eq_true hn
        simp only
        rw [hi1, hun, if_pos ⟨hx, .inl hn⟩]; omega
      · have hn := of_decide_eq_false hn
        exact ⟨by omega, by omega⟩
      · have hx : nearP (s.cars.getD i.toNat zeroC) = true := by simpa using hb
        simp only
        rw [hi1, hun, if_pos ⟨hx, .inr (of_decide_eq_true hf)⟩]; omega
      · have hn := of_decide_eq_false hn
        have hf := of_decide_eq_false hf
        simp only
        rw [hi1, hun, if_neg]
        rintro ⟨_, hx | hx⟩
        · exact hn hx
        · exact hf hx
    · refine cnd_iff.2 ⟨fun h => absurd (of_decide_eq_true h) hi, fun _ => ?_⟩
      have e : nearI s.cars f = b := by rw [h2]; unfold nearI; congr 1; omega
      rw [e]
      exact ends_sel [] [0, 1, 2, 3, 4, 5, 6, 7, 8] rfl rfl rfl rfl
  · cases h
theorem tb151_ok : GamOk Tryz.prog eid (gam tb151) := gam_cons h122 tb150_ok
theorem h58 : Holds Tryz.prog eid 58 (grantKS) := by
  refine hold tb151_ok Tryz.func58 (by kernel_rfl) ?_ (by kernel_rfl)
  intro xs M t h
  unfold grantKS at h
  split at h
  · obtain ⟨s, c1, c3, e1, rfl⟩ := corL_eq h
    subst e1
    refine ⟨updL rfl, ?_⟩
    intro hp
    obtain ⟨⟨h1, h3⟩, hp⟩ := (hp : (c1 = s.c ∧ c3 = s.c) ∧ OutB s ∧ CorB s)
    subst h1; subst h3
    rw [v58_vc]
    have hbig : bigRow = 1073741824 := rfl
    have hmx := maxLen_eq
    obtain ⟨ho, hcb⟩ := hp
    obtain ⟨hw, ⟨hq, hl⟩, hm⟩ := hcb
    have hcb : CorB s := ⟨hw, ⟨hq, hl⟩, hm⟩
    have hfl := fullN_len s s.ls
    have hfl : (fullK s).length ≤ s.ls.length := hfl
    refine ⟨⟨⟨rfl, rfl⟩, hcb⟩, cnd_iff.2 ⟨fun h0 => ?_, fun h0 => ⟨⟨⟨rfl, rfl⟩, hcb⟩, ⟨by omega, by omega⟩, cnd_iff.2 ⟨fun h1 => ?_, fun h1 => ⟨⟨⟨rfl, rfl⟩, hcb⟩, cnd_iff.2 ⟨fun h2 => ?_, fun h2 => ⟨hm, cnd_iff.2 ⟨fun h3 => ?_, fun h3 => ⟨by omega, by omega, ⟨⟨rfl, rfl⟩, ho, by simp only [List.length_cons, List.length_nil]; omega⟩, ?_⟩⟩⟩⟩⟩⟩⟩⟩⟩
    · have h0 : calmK s = false := by simpa using h0
      have e : grantK s = s := by unfold grantK; rw [if_pos h0]
      rw [e]
      exact ends_selD [] [some 0, some 1, some 2, some 3, none, some 5, none, none, none, some 4, some 6, some 7, some 8] rfl rfl rfl rfl
    · have h0 : ¬ calmK s = false := by simpa using h0
      have h1 : (firstA (fullK s) s.qs).2 = false := by simpa using h1
      have e : grantK s = s := by unfold grantK; rw [if_neg h0, if_pos h1]
      rw [e]
      exact ends_selD [] [some 0, some 1, some 2, some 3, none, some 5, none, none, none, some 4, some 6, some 7, some 8] rfl rfl rfl rfl
    · have h0 : ¬ calmK s = false := by simpa using h0
      have h1 : ¬ (firstA (fullK s) s.qs).2 = false := by simpa using h1
      have e : grantK s = s := by unfold grantK; rw [if_neg h0, if_neg h1, if_pos (.inl (of_decide_eq_true h2))]
      rw [e]
      exact ends_selD [] [some 0, some 1, some 2, some 3, none, some 5, none, none, none, some 4, some 6, some 7, some 8] rfl rfl rfl rfl
    · have h0 : ¬ calmK s = false := by simpa using h0
      have h1 : ¬ (firstA (fullK s) s.qs).2 = false := by simpa using h1
      have h3 : takeE s.c s.cars (nearI s.cars (firstA (fullK s) s.qs).1.src) (firstA (fullK s) s.qs).1.src ≠ 0 := bne_iff_ne.1 h3
      have e : grantK s = s := by unfold grantK; rw [if_neg h0, if_neg h1, if_pos (.inr h3)]
      have e2 : takeL s.c s.cars (nearI s.cars (firstA (fullK s) s.qs).1.src) (firstA (fullK s) s.qs).1.src = s.cars := by unfold takeL; rw [if_neg h3]
      rw [e, e2]
      exact ends_selD [] [some 0, some 1, some 2, some 3, none, some 5, none, none, none, some 4, some 6, some 7, some 8] rfl rfl rfl rfl
    · have h0 : ¬ calmK s = false := by simpa using h0
      have h1 : ¬ (firstA (fullK s) s.qs).2 = false := by simpa using h1
      have h2 := of_decide_eq_false h2
      have h3 : takeE s.c s.cars (nearI s.cars (firstA (fullK s) s.qs).1.src) (firstA (fullK s) s.qs).1.src = 0 := bne_eq_false_iff_eq.1 h3
      have e : grantK s = sayK (grantC s (firstA (fullK s) s.qs).1 (nearI s.cars (firstA (fullK s) s.qs).1.src)) (firstA (fullK s) s.qs).1.session [⟨4, nearI s.cars (firstA (fullK s) s.qs).1.src, 0, 0⟩] := by
        unfold grantK; rw [if_neg h0, if_neg h1, if_neg (by rintro (h | h); exact h2 h; exact h h3)]
      rw [e]
      exact ends_selD [] [some 0, some 1, some 2, some 3, none, some 5, none, none, none, some 14, some 15, some 16, some 17] rfl rfl rfl rfl
  · cases h
theorem tb152_ok : GamOk Tryz.prog eid (gam tb152) := gam_cons h58 tb151_ok
theorem h13 : Holds Tryz.prog eid 13 (tickKS) := by
  refine hold tb152_ok Tryz.func13 (by kernel_rfl) ?_ (by kernel_rfl)
  intro xs M t h
  unfold tickKS at h
  split at h
  · cases h
    refine ⟨updN, ?_⟩
    intro hp
    rw [v13n_vc]
    exact ends_v rfl rfl
  · obtain ⟨s, c1, c3, e1, rfl⟩ := corL_eq h
    subst e1
    refine ⟨updL rfl, ?_⟩
    intro hp
    obtain ⟨⟨h1, h3⟩, hp⟩ := (hp : (c1 = s.c ∧ c3 = s.c) ∧ s.out.length ≤ 1000 ∧ (CorB s ∧ GInv s.c s.cars) ∧ CarsIn s)
    subst h1; subst h3
    rw [v13_vc]
    have hbig : bigRow = 1073741824 := rfl
    have hmx := maxLen_eq
    obtain ⟨ho, ⟨⟨hw, ⟨hq, hl⟩, hm⟩, hg⟩, hci⟩ := hp
    refine ⟨⟨hm, by omega⟩, by omega, ?_⟩
    have htw := tickW_len (c := s.c) s.ws hm
    have hgt := gInv_tick s.ws hg
    have hcl : (tickL s.c s.cars s.ws).length = s.cars.length := by have := hgt.1; have := hg.1; omega
    refine loopVC_selD (S := Lw.Cor × Int) v13b_m (fun t => v13b_fr t.1 (tickO s.c s.cars s.ws) s.ls t.2) (fun t => v13b_mem t.1 (tickO s.c s.cars s.ws) s.ls t.2) (fun t => (s.ls.length - t.2).toNat) (fun t => (0 ≤ t.2 ∧ t.2 ≤ s.ls.length) ∧ t.1 = ridesK (stepK s) (s.ls.take t.2.toNat)) ⟨[], [some 0, some 1, some 2, some 3, none, some 5, none, none, none, some 4, some 9, some 7, some 8, some 10, some 11], (stepK s, 0), ⟨⟨by simp, by simp⟩, by simp [ridesK]⟩, _, rfl, rfl, rfl, rfl⟩ ?_
    rintro ⟨t, i⟩ ⟨⟨h0, h1⟩, h2⟩
    simp only at h0 h1 h2
    refine (v13b_vc t (tickO s.c s.cars s.ws) s.ls i _ _).mpr ?_
    have hk := rides_keep (s.ls.take i.toNat) (stepK s)
    rw [← h2, List.length_take] at hk
    obtain ⟨⟨k1, k2, k3, k4, k5, k6, k7, k8⟩, hko⟩ := hk
    have k6 : t.ls.length ≤ s.ls.length := k6
    have k7 : t.cars.length = s.cars.length := k7.trans hcl
    have k8 : GInv s.c t.cars := k8 hgt
    have hko : t.out.length ≤ s.out.length + min i.toNat s.ls.length := hko
    have hmin := Nat.min_le_right i.toNat s.ls.length
    have hout : OutB t := by unfold OutB; omega
    have hmt := gInv_mild k8
    have hi1 : (i + 1).toNat = i.toNat + 1 := by omega
    by_cases hi : i < s.ls.length
    · have hst := rides_take (stepK s) (l := s.ls) (i := i.toNat) (by omega) (RTy.zero .lease)
      rw [← h2, ← hi1] at hst
      have hcar := hci _ (getD_mem (show i.toNat < s.ls.length by omega) (RTy.zero .lease))
      rw [wrap_id (n := i + 1) (by omega) (by omega)]
      refine cnd_iff.2 ⟨fun _ => ⟨⟨h0, hi⟩, ⟨⟨rfl, rfl⟩, hmt, hcar.1, by rw [k7]; exact hcar.2⟩, ⟨⟨rfl, rfl⟩, ⟨hout, by omega⟩, Nat.le_trans (rideT_len _ _ _ _ _) (by omega)⟩, [], [some 0, some 1, some 2, some 3, none, some 5, none, none, none, some 17, some 18, some 19, some 20, some 13, some 14], (roundK t (s.ls.getD i.toNat (RTy.zero .lease)), i + 1), ⟨⟨⟨by simp only; omega, by simp only; omega⟩, hst.symm⟩, by simp only; omega⟩, _, rfl, rfl, rfl, rfl⟩, fun h => absurd hi (of_decide_eq_false h)⟩
    · have k4 : t.ws = tickW s.c s.cars s.ws := k4
      have k5 : t.qs = s.qs := k5
      refine cnd_iff.2 ⟨fun h => absurd (of_decide_eq_true h) hi, fun _ => ⟨⟨⟨rfl, rfl⟩, hout, by rw [k4]; omega, ⟨by rw [k5]; exact hq, by omega⟩, hmt⟩, ⟨⟨rfl, rfl⟩, trivial⟩, ?_⟩⟩
      rw [List.take_of_length_le (by omega)] at h2
      have e : tickK s = grantK t := by unfold tickK; rw [h2]
      rw [e]
      exact ends_selD [] [some 0, some 1, some 2, some 3, none, some 5, none, none, none, some 19, some 20, some 21, some 22, some 23, some 13] rfl rfl rfl rfl
  · cases h
theorem tb153_ok : GamOk Tryz.prog eid (gam tb153) := gam_cons h13 tb152_ok
end Go.Proofs.YtjgmkpidiaojkaaGreat
