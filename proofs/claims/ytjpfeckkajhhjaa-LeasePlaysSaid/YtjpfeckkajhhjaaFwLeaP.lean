/- The functions of this group answer so. -/
import Derived.Test.YtjpfeckkajhhjaaFwLeaPV
import Derived.Test.YtjpfeckkajhhjaaFwQue
set_option linter.unusedVariables false
set_option linter.unusedSimpArgs false
set_option maxRecDepth 20000
set_option maxHeartbeats 4000000
namespace Go.Proofs.Ytjpfeckkajhhjaa
open Lw
attribute [local irreducible] Lw.vc Lw.vcFunc
theorem quotaI_pos (c : Config) : 1 ≤ quotaI c := (clampI_range (by decide) _).1
theorem invL_nil (c : Config) : InvL c [] := ⟨List.nodup_nil, List.nodup_nil, fun n => by have := quotaI_pos c; simp only [countL, List.countP_nil]; omega⟩
theorem idxG_any {α : Type} {p : α → Bool} : ∀ (ls : List α) (i : Int), 0 ≤ i → decide (idxG p ls i ≥ 0) = ls.any p
  | [], i, h => by simp [idxG]
  | x :: r, i, h => by
    unfold idxG
    rw [List.any_cons]
    cases hp : p x with
    | true => simp [h]
    | false => rw [cond_false, Bool.false_or]; exact idxG_any r (i + 1) (by omega)
theorem any_or {α : Type} (p q : α → Bool) : ∀ ls : List α, (ls.any fun x => p x || q x) = (ls.any p || ls.any q)
  | [] => rfl
  | x :: r => by
    rw [List.any_cons, List.any_cons, List.any_cons, any_or p q r]
    cases p x <;> cases q x <;> simp
theorem putP_or (x : Lw.Lease) (ls : List Lw.Lease) : decide (idxG (putP x) ls 0 ≥ 0) = (decide (idxG (sesP x.ask.session) ls 0 ≥ 0) || decide (idxG (carP x.car) ls 0 ≥ 0)) := by
  rw [idxG_any _ _ (by omega), idxG_any _ _ (by omega), idxG_any _ _ (by omega), ← any_or]; rfl
theorem get_uniq {p : Lw.Lease → Bool} {ls : List Lw.Lease} {i : Nat} {x : Lw.Lease} (hu : uniq p ls) (hget : ls[i]? = some x) (hp : p x = true) : getB p ls = true ∧ getL p ls = x := by
  rcases idxG_spec (p := p) ls 0 with ⟨h, k⟩ | ⟨j, y, h, k, q⟩
  · rw [k i x hget] at hp; cases hp
  · have := hu i j x y hget k hp q
    subst this
    rw [hget] at k
    cases k
    have hn : ¬ idxG p ls 0 < 0 := by omega
    refine ⟨by unfold getB; rw [decide_eq_false hn]; rfl, ?_⟩
    unfold getL
    rw [if_neg hn, h, show ((0 : Int) + (i : Int)).toNat = i by omega, List.getD_eq_getElem?_getD, hget]; rfl
theorem countL_append (ls : List Lw.Lease) (x : Lw.Lease) (n : Int) : countL (ls ++ [x]) n = countL ls n + (if x.ask.fleet = n then 1 else 0) := by
  unfold countL
  rw [List.countP_append, List.countP_singleton]
  by_cases h : x.ask.fleet = n
  · rw [if_pos h, if_pos (by simpa using h)]; omega
  · rw [if_neg h, if_neg (by simpa using h)]; omega
theorem invL_put {c : Config} {ls : List Lw.Lease} {x : Lw.Lease} (h : InvL c ls) (hq : ¬ idxG (putP x) ls 0 ≥ 0) (hf : countL ls x.ask.fleet < quotaI c) : InvL c (ls ++ [x]) := by
  have hno : ∀ y ∈ ls, putP x y = false := by
    rcases idxG_spec (p := putP x) ls 0 with ⟨_, k⟩ | ⟨j, y, h1, _, _⟩
    · intro y hy
      obtain ⟨j, hj, rfl⟩ := List.getElem_of_mem hy
      exact k j _ (List.getElem?_eq_getElem hj)
    · exact absurd (by omega) hq
  refine ⟨?_, ?_, fun n => ?_⟩
  · rw [List.map_append]
    refine List.nodup_append.2 ⟨h.1, by simp, fun a ha b hb e => ?_⟩
    obtain ⟨y, hy, rfl⟩ := List.mem_map.1 ha
    simp only [List.map_cons, List.map_nil, List.mem_singleton] at hb
    have := hno y hy
    unfold putP at this
    rw [e, hb] at this
    simp at this
  · rw [List.map_append]
    refine List.nodup_append.2 ⟨h.2.1, by simp, fun a ha b hb e => ?_⟩
    obtain ⟨y, hy, rfl⟩ := List.mem_map.1 ha
    simp only [List.map_cons, List.map_nil, List.mem_singleton] at hb
    have := hno y hy
    unfold putP at this
    rw [e, hb] at this
    simp at this
  · rw [countL_append]
    have := h.2.2 n
    split
    · rename_i e; subst e; omega
    · omega
theorem countL_map (ls : List Lw.Lease) (n : Int) : countL ls n = ((ls.map fun x => x.ask.fleet).countP fun k => k == n : Nat) := by
  unfold countL
  rw [List.countP_map]; rfl
theorem invL_set {c : Config} {ls : List Lw.Lease} {x : Lw.Lease} (h : InvL c ls) (hn : ¬ idxG (setP x) ls 0 < 0) : InvL c (ls.set (idxG (setP x) ls 0).toNat x) := by
  rcases idxG_spec (p := setP x) ls 0 with ⟨h1, _⟩ | ⟨j, y, h1, hy, hp⟩
  · exact absurd (by omega) hn
  · have ej : (idxG (setP x) ls 0).toNat = j := by omega
    rw [ej]
    unfold setP at hp
    simp only [Bool.and_eq_true, beq_iff_eq] at hp
    refine ⟨by rw [map_set_same hy hp.1.1.symm]; exact h.1, by rw [map_set_same hy hp.1.2.symm]; exact h.2.1, fun n => ?_⟩
    rw [countL_map, map_set_same (f := fun x : Lw.Lease => x.ask.fleet) hy hp.2.symm, ← countL_map]
    exact h.2.2 n
theorem invL_sub {c : Config} {ls ms : List Lw.Lease} (h : InvL c ls) (hs : ms.Sublist ls) : InvL c ms :=
  ⟨h.1.sublist (hs.map _), h.2.1.sublist (hs.map _), fun n => by have := hs.countP_le (p := fun x : Lw.Lease => x.ask.fleet == n); have := h.2.2 n; unfold countL at *; omega⟩
theorem h27 : Holds Try.prog eid 27 (count2S) := by
  refine hold tb44_ok Try.func27 (by kernel_rfl) ?_ (by kernel_rfl)
  intro xs M t h
  unfold count2S at h
  split at h
  · cases h
    rename_i n l
    refine ⟨updN, ?_⟩
    intro hp
    have hl : l.length ≤ Go.maxLen := hp
    rw [v27r_vc]
    refine loopVC_st (S := Int × Int) v27rb_m 1 (fun s => v27rb_fr l n s.1 s.2) (fun s => v27rb_mem l n s.1 s.2) (fun s => (l.length - s.1).toNat) (fun s => 0 ≤ s.1 ∧ s.1 ≤ l.length ∧ s.2 = countL (l.take s.1.toNat) n) rfl ⟨(0, 0), ⟨by simp, by simp, by simp [countL]⟩, rfl, rfl⟩ ?_
    rintro ⟨i, acc⟩ ⟨h0, h1, h2⟩
    simp only at h0 h1 h2
    refine (v27rb_vc l n i acc _ _).mpr ?_
    have hm := maxLen_eq
    have hc := countL_le (l := l) (n := n) i.toNat
    have hi1 : (i + 1).toNat = i.toNat + 1 := by omega
    have hs (h : i < l.length) := countL_succ (l := l) (n := n) (i := i.toNat) (by omega) (RTy.zero .lease)
    by_cases hi : i < l.length
    · rw [wrap_id (n := acc + 1) (by omega) (by omega), wrap_id (n := i + 1) (by omega) (by omega)]
      refine cnd_iff.2 ⟨fun _ => ⟨⟨h0, hi⟩, cnd_iff.2 ⟨fun hb => ⟨(i + 1, acc + 1), ⟨by simp only; omega, by simp only; omega, ?_⟩, by simp only; omega, rfl, rfl⟩, fun hb => ⟨(i + 1, acc), ⟨by simp only; omega, by simp only; omega, ?_⟩, by simp only; omega, rfl, rfl⟩⟩⟩, fun h => absurd hi (of_decide_eq_false h)⟩
      · simp only; rw [hi1, hs hi, hb, h2]; rfl
      · simp only; rw [hi1, hs hi, hb, h2]; simp
    · refine cnd_iff.2 ⟨fun h => absurd (of_decide_eq_true h) hi, fun _ => ?_⟩
      rw [h2, List.take_of_length_le (by omega)]
      exact ends_sel [] [0] rfl rfl rfl rfl
  · cases h
theorem tb45_ok : GamOk Try.prog eid (gam tb45) := gam_cons h27 tb44_ok
theorem h28 : Holds Try.prog eid 28 (s28) := by
  refine hold tb45_ok Try.func28 (by kernel_rfl) ?_ (by kernel_rfl)
  intro xs M t h
  unfold s28 at h
  split at h
  case h_2 => cases h
  rename_i csc
  obtain ⟨c, hcc, h1⟩ := Option.bind_eq_some_iff.1 h
  clear h
  have h := h1
  clear h1
  cases h
  cases Lw.Config.of_eq hcc
  clear hcc
  refine ⟨fun l h => (nomatch h), ?_⟩
  intro hp
  rw [v28_vc]
  exact ends_pl rfl
theorem tb46_ok : GamOk Try.prog eid (gam tb46) := gam_cons h28 tb45_ok
theorem h45 : Holds Try.prog eid 45 (s45) := by
  refine hold tb46_ok Try.func45 (by kernel_rfl) ?_ (by kernel_rfl)
  intro xs M t h
  unfold s45 at h
  split at h
  case h_2 => cases h
  rename_i csc csa
  obtain ⟨c, hcc, h1⟩ := Option.bind_eq_some_iff.1 h
  clear h
  have h := h1
  clear h1
  obtain ⟨a, hca, h1⟩ := Option.bind_eq_some_iff.1 h
  clear h
  have h := h1
  clear h1
  cases h
  cases Lw.Config.of_eq hcc
  clear hcc
  cases Lw.Ask.of_eq hca
  clear hca
  refine ⟨fun l h => (nomatch h), ?_⟩
  intro hp
  rw [v45_vc]
  repeat' first
    | refine cnd_iff.2 ⟨fun _ => ?_, fun _ => ?_⟩
    | refine ends_to (w := vb (mayA c a)) (congrArg (fun b => vb b) ?_) (ends_pl rfl)
  all_goals (unfold mayA inB; simp only [*, Bool.true_and, Bool.false_and, Bool.and_false, Bool.and_true])
theorem tb47_ok : GamOk Try.prog eid (gam tb47) := gam_cons h45 tb46_ok
theorem h32 : Holds Try.prog eid 32 (sameLS) := by
  refine hold tb47_ok Try.func32 (by kernel_rfl) ?_ (by kernel_rfl)
  intro xs M t h
  unfold sameLS at h
  split at h
  case h_2 => cases h
  rename_i a b
  cases h
  refine ⟨fun l h => by first | exact nomatch h | (cases h; rfl), ?_⟩
  intro hp
  have hp : a.length ≤ Go.maxLen := hp
  have hm := maxLen_eq
  rw [v32_vc]
  refine cnd_iff.2 ⟨fun h => ?_, fun h => ?_⟩
  · have e := sameG_len (e := Lw.Lease.enc) (a := a) (b := b) (by simp only [c_and, c_or, Bool.and_eq_true, Bool.or_eq_true, Bool.and_eq_false_iff, Bool.or_eq_false_iff, Bool.not_eq_true', Bool.not_eq_false', beq_iff_eq, beq_eq_false_iff_ne, bne_iff_ne, bne_eq_false_iff_eq, ne_eq, decide_eq_true_eq, decide_eq_false_iff_not] at h; omega)
    simp only [BT.ev, e]
    exact ends_sel [] [0, 1] rfl rfl rfl rfl
  · have hl : a.length = b.length := by simp only [c_and, c_or, Bool.and_eq_true, Bool.or_eq_true, Bool.and_eq_false_iff, Bool.or_eq_false_iff, Bool.not_eq_true', Bool.not_eq_false', beq_iff_eq, beq_eq_false_iff_ne, bne_iff_ne, bne_eq_false_iff_eq, ne_eq, decide_eq_true_eq, decide_eq_false_iff_not] at h; omega
    refine loopVC_st (S := Int) v32b_m 2 (fun s => v32b_fr a b s) (fun s => v32b_mem a b s) (fun s => (a.length - s).toNat) (fun s => 0 ≤ s ∧ s ≤ a.length ∧ sameG Lw.Lease.enc a b = sameG Lw.Lease.enc (a.drop s.toNat) (b.drop s.toNat)) rfl ⟨0, ⟨by simp, by simp, by simp⟩, rfl, rfl⟩ ?_
    intro i ⟨h0, h1, h2⟩
    refine (v32b_vc a b i _ _).mpr ?_
    refine cnd_iff.2 ⟨fun hi => ?_, fun hi => ?_⟩ <;> simp only [c_and, c_or, Bool.and_eq_true, Bool.or_eq_true, Bool.and_eq_false_iff, Bool.or_eq_false_iff, Bool.not_eq_true', Bool.not_eq_false', beq_iff_eq, beq_eq_false_iff_ne, bne_iff_ne, bne_eq_false_iff_eq, ne_eq, decide_eq_true_eq, decide_eq_false_iff_not] at hi
    · have hs := sameG_step (e := Lw.Lease.enc) (a := a) (b := b) (i := i.toNat) (by omega) (by omega) (RTy.zero .lease)
      refine ⟨⟨h0, hi⟩, ⟨h0, by omega⟩, cnd_iff.2 ⟨fun he => ?_, fun he => ?_⟩⟩
      · have he : pcsEq (Lw.Lease.enc (a.getD i.toNat (RTy.zero .lease))) (Lw.Lease.enc (b.getD i.toNat (RTy.zero .lease))) = false := by simp only [Bool.not_eq_true'] at he; exact he
        rw [he, Bool.false_and] at hs
        have e := h2.trans hs
        simp only [BT.ev, e]
        exact ends_sel [] [0, 1] rfl rfl rfl rfl
      · have he : pcsEq (Lw.Lease.enc (a.getD i.toNat (RTy.zero .lease))) (Lw.Lease.enc (b.getD i.toNat (RTy.zero .lease))) = true := by simp only [Bool.not_eq_false'] at he; exact he
        rw [he, Bool.true_and] at hs
        rw [wrap_id (by omega) (by omega)]
        refine ⟨i + 1, ⟨by omega, by omega, ?_⟩, by omega, rfl, rfl⟩
        rw [show (i + 1).toNat = i.toNat + 1 by omega]
        exact h2.trans hs
    · rw [List.drop_eq_nil_of_le (by omega), List.drop_eq_nil_of_le (by omega)] at h2
      have e : sameG Lw.Lease.enc a b = true := h2
      simp only [BT.ev, e]
      exact ends_sel [] [0, 1] rfl rfl rfl rfl
theorem tb48_ok : GamOk Try.prog eid (gam tb48) := gam_cons h32 tb47_ok
theorem h26 : Holds Try.prog eid 26 (s26) := by
  refine hold tb48_ok Try.func26 (by kernel_rfl) ?_ (by kernel_rfl)
  intro xs M t h
  unfold s26 at h
  split at h
  case h_2 => cases h
  rename_i csc csl
  obtain ⟨c, hcc, h1⟩ := Option.bind_eq_some_iff.1 h
  clear h
  have h := h1
  clear h1
  obtain ⟨l, hcl, h1⟩ := Option.bind_eq_some_iff.1 h
  clear h
  have h := h1
  clear h1
  cases h
  cases Lw.Config.of_eq hcc
  clear hcc
  cases Lw.Lease.of_eq hcl
  clear hcl
  refine ⟨fun l h => (nomatch h), ?_⟩
  intro hp
  rw [v26_vc]
  refine ends_to (w := vb (goodL c l)) (congrArg (fun b => vb b) ?_) (ends_pl rfl)
  unfold goodL
  rw [show decide (l.car < 8) = decide (l.car ≤ 7) from decide_eq_decide.2 (by omega)]
  simp only [c_and, Bool.and_assoc]
theorem tb49_ok : GamOk Try.prog eid (gam tb49) := gam_cons h26 tb48_ok
theorem h56 : Holds Try.prog eid 56 (s56) := by
  refine hold tb49_ok Try.func56 (by kernel_rfl) ?_ (by kernel_rfl)
  intro xs M t h
  unfold s56 at h
  split at h
  case h_2 => cases h
  cases h
  refine ⟨fun l h => (nomatch h), ?_⟩
  intro hp
  rw [v56_vc]
  exact ends_v rfl rfl
theorem tb50_ok : GamOk Try.prog eid (gam tb50) := gam_cons h56 tb49_ok
theorem h57 : Holds Try.prog eid 57 (s57) := by
  refine hold tb50_ok Try.func57 (by kernel_rfl) ?_ (by kernel_rfl)
  intro xs M t h
  unfold s57 at h
  split at h
  case h_2 => cases h
  cases h
  refine ⟨fun l h => (nomatch h), ?_⟩
  intro hp
  rw [v57_vc]
  exact ends_v rfl rfl
theorem tb51_ok : GamOk Try.prog eid (gam tb51) := gam_cons h57 tb50_ok
theorem h36 : Holds Try.prog eid 36 (s36) := by
  refine hold tb51_ok Try.func36 (by kernel_rfl) ?_ (by kernel_rfl)
  intro xs M t h
  unfold s36 at h
  split at h
  case h_2 => cases h
  cases h
  refine ⟨fun l h => (nomatch h), ?_⟩
  intro hp
  rw [v36_vc]
  exact ⟨by decide, by decide +kernel, by decide +kernel, by decide +kernel, by decide +kernel, ends_pl (congrArg PC.bool (by decide +kernel))⟩
theorem tb52_ok : GamOk Try.prog eid (gam tb52) := gam_cons h36 tb51_ok
theorem h8 : Holds Try.prog eid 8 (playS) := by
  refine holdM (ps := [[1,1,1,0,1,0,0,1,0,0,1,1,0,1,0,0,1,0,0,0], [1,1,1,0,1,0,0,1,0,0,1,1,0,1,0,0,1,0,0,1,0], [1,1,1,0,1,0,0,1,0,0,1,1,1,0]]) tb52_ok Try.func8 (by kernel_rfl) (show MeetsAt (gam tb52) tys f8m (playS) from ?_) (by kernel_rfl)
  intro xs M t h
  unfold playS at h
  split at h
  case h_2 => cases h
  rename_i kc ops
  obtain ⟨c, hc, h1⟩ := Option.bind_eq_some_iff.1 h
  clear h
  cases Lw.Config.of_eq hc
  clear hc
  cases h1
  refine ⟨updN, ?_⟩
  intro hp
  have hp : ops.length ≤ Go.maxLen := hp
  rw [v8_vc]
  have hm := maxLen_eq
  have hbig : bigRow = 1073741824 := rfl
  refine loopVC_selD (S := List Lw.Lease × Int) v8b_m (fun q => v8b_fr c ops q.1 q.2) (fun q => v8b_mem c ops q.1 q.2) (fun q => (ops.length - q.2).toNat) (fun q => (0 ≤ q.2 ∧ q.2 ≤ ops.length) ∧ ((q.1.length : Int) ≤ q.2 ∧ q.2 ≤ 200) ∧ InvL c q.1) ⟨[.slot 6 .lease], [some 0, some 1, some 2, some 3], ([], 0), ⟨by simp, by simp, invL_nil c⟩, _, rfl, rfl, rfl, rfl⟩ ?_
  rintro ⟨ls, i⟩ ⟨⟨h0, h1⟩, ⟨hl, hl2⟩, hI⟩
  simp only at h0 h1 hl hl2 hI
  refine (v8b_vc c ops ls i _ _).mpr ?_
  refine cnd_iff.2 ⟨fun hi => ?_, fun hi => ?_⟩
  case refine_2 => exact ends_pl rfl
  have hi : i < ops.length ∧ i < 200 := by
    rw [c_and, Bool.and_eq_true, decide_eq_true_eq, decide_eq_true_eq] at hi; exact hi
  refine ⟨⟨h0, hi.1⟩, ?_⟩
  generalize hx : (ops.getD i.toNat (RTy.zero .lop) : Lw.LOp).lease = x
  have hus : uniq (sesP x.ask.session) ls := fun a b y z ha hb hy hz => nodup_inj hI.1 ha hb (by simp only [sesP, beq_iff_eq] at hy hz; rw [hy, hz])
  have huc : uniq (carP x.car) ls := fun a b y z ha hb hy hz => nodup_inj hI.2.1 ha hb (by simp only [carP, beq_iff_eq] at hy hz; rw [hy, hz])
  have hub : uniq (setP x) ls := fun a b y z ha hb hy hz => nodup_inj hI.1 ha hb (by simp only [setP, Bool.and_eq_true, beq_iff_eq] at hy hz; rw [hy.1.1, hz.1.1])
  refine loopVC_selD (S := Int × Int × Int × Int) v8c_m (fun q => v8c_fr c ops ls i q.1 q.2.1 q.2.2.1 q.2.2.2 x) (fun q => v8c_mem c ops ls i q.1 q.2.1 q.2.2.1 q.2.2.2 x) (fun q => (ls.length - q.2.2.2).toNat) (fun q => (0 ≤ q.2.2.2 ∧ q.2.2.2 ≤ ls.length) ∧ q.1 = lastG (sesP x.ask.session) ls q.2.2.2.toNat ∧ q.2.1 = lastG (carP x.car) ls q.2.2.2.toNat ∧ q.2.2.1 = lastG (setP x) ls q.2.2.2.toNat) ⟨[], [some 0, some 1, some 2, some 3, some 4], (-1, -1, -1, 0), ⟨by simp, rfl, rfl, rfl⟩, _, rfl, rfl, rfl, rfl⟩ ?_
  rintro ⟨s, q, b, k⟩ ⟨⟨k0, k1⟩, es, eq, eb⟩
  simp only at k0 k1 es eq eb
  refine (v8c_vc c ops ls i s q b k x _ _ _).mpr ?_
  refine cnd_iff.2 ⟨fun hk => ?_, fun hk => ?_⟩
  · have hk : k < ls.length := of_decide_eq_true hk
    have hkt : ((k.toNat : Nat) : Int) = k := by omega
    have st (p : Lw.Lease → Bool) := lastG_step (p := p) (ls := ls) (k := k.toNat) (by omega) (RTy.zero .lease)
    rw [hkt] at st
    refine cutVC_sel (S := Int) v8d_m (fun s => v8d_fr c ops ls i s q b k x) (fun s => v8d_mem c ops ls i s q b k x) (fun s => s = lastG (sesP x.ask.session) ls (k.toNat + 1)) ?_ ?_
    · refine (v8da_vc c ops ls i s q b k x _ _ _ _).mpr ?_
      refine ⟨⟨k0, hk⟩, cnd_iff.2 ⟨fun h => ⟨[], [some 0, some 1, some 2, some 3, some 4], k, ?_, _, rfl, rfl, rfl, rfl⟩, fun h => ⟨[], [some 0, some 1, some 2, some 3, some 4], s, ?_, _, rfl, rfl, rfl, rfl⟩⟩⟩
      · rw [st, show sesP x.ask.session (ls.getD k.toNat (RTy.zero .lease)) = true from h]; rfl
      · rw [st, show sesP x.ask.session (ls.getD k.toNat (RTy.zero .lease)) = false from h, es]; rfl
    rintro s' es'
    refine (v8d_vc c ops ls i s' q b k x _ _ _).mpr ?_
    refine cutVC_sel (S := Int) v8e_m (fun q => v8e_fr c ops ls i s' q b k x) (fun q => v8e_mem c ops ls i s' q b k x) (fun q => q = lastG (carP x.car) ls (k.toNat + 1)) ?_ ?_
    · refine (v8ea_vc c ops ls i s' q b k x _ _ _ _).mpr ?_
      refine ⟨⟨k0, hk⟩, cnd_iff.2 ⟨fun h => ⟨[], [some 0, some 1, some 2, some 3, some 4], k, ?_, _, rfl, rfl, rfl, rfl⟩, fun h => ⟨[], [some 0, some 1, some 2, some 3, some 4], q, ?_, _, rfl, rfl, rfl, rfl⟩⟩⟩
      · rw [st, show carP x.car (ls.getD k.toNat (RTy.zero .lease)) = true from h]; rfl
      · rw [st, show carP x.car (ls.getD k.toNat (RTy.zero .lease)) = false from h, eq]; rfl
    rintro q' eq'
    refine (v8e_vc c ops ls i s' q' b k x _ _ _).mpr ?_
    have fin (b' : Int) (h : b' = lastG (setP x) ls (k.toNat + 1)) : (0 ≤ k + 1 ∧ k + 1 ≤ ls.length) ∧ s' = lastG (sesP x.ask.session) ls (k + 1).toNat ∧ q' = lastG (carP x.car) ls (k + 1).toNat ∧ b' = lastG (setP x) ls (k + 1).toNat := by
      rw [show (k + 1).toNat = k.toNat + 1 by omega]
      exact ⟨by omega, es', eq', h⟩
    rw [wrap_id (n := k + 1) (by omega) (by omega)]
    refine ⟨⟨k0, hk⟩, cnd_iff.2 ⟨fun ha => ⟨⟨k0, hk⟩, cnd_iff.2 ⟨fun hb => ⟨⟨k0, hk⟩, cnd_iff.2 ⟨fun hc => ⟨[], [some 0, some 1, some 2, some 3, some 4], (s', q', k, k + 1), ⟨fin k (by rw [st, show setP x (ls.getD k.toNat (RTy.zero .lease)) = true by unfold setP; rw [ha, hb, hc]; rfl]; rfl), by simp only; omega⟩, _, rfl, rfl, rfl, rfl⟩, fun hc => ⟨[], [some 0, some 1, some 2, some 3, some 4], (s', q', b, k + 1), ⟨fin b (by rw [st, show setP x (ls.getD k.toNat (RTy.zero .lease)) = false by unfold setP; rw [ha, hb, hc]; rfl]; exact eb), by simp only; omega⟩, _, rfl, rfl, rfl, rfl⟩⟩⟩, fun hb => ⟨[], [some 0, some 1, some 2, some 3, some 4], (s', q', b, k + 1), ⟨fin b (by rw [st, show setP x (ls.getD k.toNat (RTy.zero .lease)) = false by unfold setP; rw [ha, hb]; rfl]; exact eb), by simp only; omega⟩, _, rfl, rfl, rfl, rfl⟩⟩⟩, fun ha => ⟨[], [some 0, some 1, some 2, some 3, some 4], (s', q', b, k + 1), ⟨fin b (by rw [st, show setP x (ls.getD k.toNat (RTy.zero .lease)) = false by unfold setP; rw [ha]; rfl]; exact eb), by simp only; omega⟩, _, rfl, rfl, rfl, rfl⟩⟩⟩
  · have hk : ¬ k < ls.length := of_decide_eq_false hk
    have hkl : k.toNat = ls.length := by omega
    rw [hkl, lastG_idx hus] at es
    rw [hkl, lastG_idx huc] at eq
    rw [hkl, lastG_idx hub] at eb
    have rs := idxG_range (p := sesP x.ask.session) (l := ls) (i := 0) (by omega)
    have rb := idxG_range (p := setP x) (l := ls) (i := 0) (by omega)
    have hor : (bif decide (s ≥ 0) then true else decide (q ≥ 0)) = decide (idxG (putP x) ls 0 ≥ 0) := by rw [c_or, es, eq]; exact (putP_or x ls).symm
    refine cutVC_sel (S := List Lw.Lease) v8f_m (fun t => v8f_fr c ops t i) (fun t => v8f_mem c ops t i) (fun t => (t.length : Int) ≤ i + 1 ∧ InvL c t) ?_ ?_
    · refine (v8fa_vc c ops ls i s q b k x _ _ _).mpr ?_
      rw [hor]
      refine ⟨⟨h0, hi.1⟩, cnd_iff.2 ⟨fun hkind => cnd_iff.2 ⟨fun hg => ⟨by omega, ?_⟩, fun hg => cnd_iff.2 ⟨fun hq => ⟨by omega, ?_⟩, fun hq => ⟨by omega, cnd_iff.2 ⟨fun hf => ⟨by omega, ?_⟩, fun hf => ⟨by simp only [List.length_cons, List.length_nil]; omega, by omega, ?_⟩⟩⟩⟩⟩, fun hkind => cnd_iff.2 ⟨fun hk2 => cnd_iff.2 ⟨fun hg => ⟨by omega, ?_⟩, fun hg => cnd_iff.2 ⟨fun hb => ⟨by omega, ?_⟩, fun hb => ⟨by simp only [List.length_nil]; omega, ?_, by omega, ?_⟩⟩⟩, fun hk2 => cnd_iff.2 ⟨fun hk3 => ⟨by omega, ?_⟩, fun hk3 => ?_⟩⟩⟩⟩
      · have e : putE c ls x = 1 := if_pos (by simpa using hg)
        have e2 : putLs c ls x = ls := if_neg (by rw [e]; decide)
        rw [e, e2]
        exact cnd_iff.2 ⟨fun h => absurd h (by decide), fun _ => ⟨[], [some 0, some 1, some 5, some 3], ls, ⟨by omega, hI⟩, _, rfl, rfl, rfl, rfl⟩⟩
      · have e : putE c ls x = 7 := (if_neg (by simpa using hg)).trans (if_pos (of_decide_eq_true hq))
        have e2 : putLs c ls x = ls := if_neg (by rw [e]; decide)
        rw [e, e2]
        exact cnd_iff.2 ⟨fun h => absurd h (by decide), fun _ => ⟨[], [some 0, some 1, some 5, some 3], ls, ⟨by omega, hI⟩, _, rfl, rfl, rfl, rfl⟩⟩
      · have hf := of_decide_eq_true hf
        have e : putE c ls x = 5 := (if_neg (by simpa using hg)).trans ((if_neg (of_decide_eq_false hq)).trans (if_neg (by omega)))
        have e2 : putLs c ls x = ls := if_neg (by rw [e]; decide)
        rw [e, e2]
        exact cnd_iff.2 ⟨fun h => absurd h (by decide), fun _ => ⟨[], [some 0, some 1, some 5, some 3], ls, ⟨by omega, hI⟩, _, rfl, rfl, rfl, rfl⟩⟩
      · have hf := of_decide_eq_false hf
        have e : putE c ls x = 0 := (if_neg (by simpa using hg)).trans ((if_neg (of_decide_eq_false hq)).trans (if_pos (by omega)))
        have e2 : putLs c ls x = ls ++ [x] := if_pos e
        rw [e, e2]
        exact cnd_iff.2 ⟨fun h => absurd h (by decide), fun _ => ⟨[], [some 0, some 1, some 7, some 6], ls ++ [x], ⟨by simp only [List.length_append, List.length_cons, List.length_nil]; omega, invL_put hI (of_decide_eq_false hq) (by omega)⟩, _, rfl, rfl, rfl, rfl⟩⟩
      · have e : setE c ls x = 1 := if_pos (by simpa using hg)
        have e2 : setLs c ls x = ls := if_neg (by rw [e]; decide)
        rw [e, e2]
        exact cnd_iff.2 ⟨fun h => absurd h (by decide), fun _ => ⟨[], [some 0, some 1, some 2, some 3], ls, ⟨by omega, hI⟩, _, rfl, rfl, rfl, rfl⟩⟩
      · have hb := of_decide_eq_true hb
        rw [eb] at hb
        have e : setE c ls x = 6 := (if_neg (by simpa using hg)).trans (if_pos hb)
        have e2 : setLs c ls x = ls := if_neg (by rw [e]; decide)
        rw [e, e2]
        exact cnd_iff.2 ⟨fun h => absurd h (by decide), fun _ => ⟨[], [some 0, some 1, some 2, some 3], ls, ⟨by omega, hI⟩, _, rfl, rfl, rfl, rfl⟩⟩
      · have hb := of_decide_eq_false hb
        rw [List.nil_append]
        omega
      · have hb := of_decide_eq_false hb
        rw [eb] at hb ⊢
        have e : setE c ls x = 0 := (if_neg (by simpa using hg)).trans (if_neg hb)
        have e2 : setLs c ls x = ls.set (idxG (setP x) ls 0).toNat x := if_pos e
        rw [e, e2, List.nil_append]
        exact cnd_iff.2 ⟨fun h => absurd h (by decide), fun _ => ⟨[], [some 0, some 1, some 2, some 6], ls.set (idxG (setP x) ls 0).toNat x, ⟨by rw [List.length_set]; omega, invL_set hI hb⟩, _, rfl, rfl, rfl, rfl⟩⟩
      · rw [es]
        by_cases hn : idxG (sesP x.ask.session) ls 0 < 0
        · have e1 : getB (sesP x.ask.session) ls = false := by unfold getB; rw [decide_eq_true hn]; rfl
          have e2 : endLs ls x.ask.session = ls := if_pos hn
          have e3 : getL (sesP x.ask.session) ls = zeroL := if_pos hn
          have e4 : decide (idxG (sesP x.ask.session) ls 0 ≥ 0) = false := decide_eq_false (by omega)
          rw [e1, e2, e4]
          simp only [e3]
          refine cnd_iff.2 ⟨fun h => absurd h (by decide), fun _ => cnd_iff.2 ⟨fun h => absurd h (by decide), fun _ => cnd_iff.2 ⟨fun _ => cnd_iff.2 ⟨fun h => ?_, fun _ => cnd_iff.2 ⟨fun h => absurd h (by decide), fun _ => ⟨[], [some 0, some 1, some 5, some 3], ls, ⟨by omega, hI⟩, _, rfl, rfl, rfl, rfl⟩⟩⟩, fun h => absurd h (by decide)⟩⟩⟩
          exact absurd h (by decide)
        · have e1 : getB (sesP x.ask.session) ls = true := by unfold getB; rw [decide_eq_false hn]; rfl
          have e2 : endLs ls x.ask.session = cutL ls (idxG (sesP x.ask.session) ls 0) (idxG (sesP x.ask.session) ls 0 + 1) := if_neg hn
          have e3 : getL (sesP x.ask.session) ls = ls.getD (idxG (sesP x.ask.session) ls 0).toNat zeroL := if_neg hn
          have e4 : decide (idxG (sesP x.ask.session) ls 0 ≥ 0) = true := decide_eq_true (by omega)
          rw [e1, e2, e4]
          simp only [e3]
          rw [wrap_id (n := idxG (sesP x.ask.session) ls 0 + 1) (by omega) (by omega), cutL_eq ls (idxG (sesP x.ask.session) ls 0) (by omega) (by omega)]
          refine cnd_iff.2 ⟨fun h => absurd h (by decide), fun _ => cnd_iff.2 ⟨fun _ => ⟨by omega, cnd_iff.2 ⟨fun h => ?_, fun _ => cnd_iff.2 ⟨fun h => absurd h (by decide), fun _ => cnd_iff.2 ⟨fun _ => ?_, fun h => absurd h (by decide)⟩⟩⟩⟩, fun h => absurd h (by decide)⟩⟩
          · simp only [Bool.not_eq_true'] at h
            exact absurd ((pcsEq_self (Lw.Lease.enc (ls.getD (idxG (sesP x.ask.session) ls 0).toNat (RTy.zero .lease)))).symm.trans h) (by decide)
          · refine ⟨⟨by omega, by omega⟩, ?_, by omega, ?_, ⟨[], [some 0, some 1, some 5, some 9], _, ⟨?_, invL_sub hI (cutL_sub ls _ (by omega))⟩, _, rfl, rfl, rfl, rfl⟩⟩
            · simp only [List.length_nil, List.length_take, List.length_drop, Int.toNat_zero]; omega
            · simp only [List.length_append, List.length_nil, List.length_take, List.length_drop, Int.toNat_zero, Int.toNat_natCast]; omega
            · have := cutL_len ls (idxG (sesP x.ask.session) ls 0) (by omega)
              omega
      · exact ⟨[], [some 0, some 1, some 2, some 3], ls, ⟨by omega, hI⟩, _, rfl, rfl, rfl, rfl⟩
    · rintro t ⟨ht, hJ⟩
      refine (v8f_vc c ops t i _ _).mpr ?_
      refine ⟨by omega, by omega, cnd_iff.2 ⟨fun h => absurd h (by rw [sameG_self]; decide), fun _ => ?_⟩⟩
      refine loopVC_selD (S := Int) v8g_m (fun k => v8g_fr c ops t i k) (fun k => v8g_mem c ops t i k) (fun k => (t.length - k).toNat) (fun k => 0 ≤ k ∧ k ≤ t.length) ⟨[], [some 0, some 1, some 2, some 3], 0, ⟨by simp, by simp⟩, _, rfl, rfl, rfl, rfl⟩ ?_
      rintro k ⟨k0, k1⟩
      refine (v8g_vc c ops t i k _ _ _).mpr ?_
      refine cnd_iff.2 ⟨fun hk => ?_, fun hk => ?_⟩
      · have hk : k < t.length := of_decide_eq_true hk
        have hget : t[k.toNat]? = some (t.getD k.toNat zeroL) := by
          rw [List.getD_eq_getElem?_getD, List.getElem?_eq_getElem (show k.toNat < t.length by omega)]; rfl
        have gs := get_uniq (p := sesP (t.getD k.toNat zeroL).ask.session) (fun a b y z ha hb hy hz => nodup_inj hJ.1 ha hb (by simp only [sesP, beq_iff_eq] at hy hz; rw [hy, hz])) hget (by simp [sesP])
        have gc := get_uniq (p := carP (t.getD k.toNat zeroL).car) (fun a b y z ha hb hy hz => nodup_inj hJ.2.1 ha hb (by simp only [carP, beq_iff_eq] at hy hz; rw [hy, hz])) hget (by simp [carP])
        have hq := hJ.2.2 (t.getD k.toNat zeroL).ask.fleet
        rw [show (RTy.zero .lease : Lw.Lease) = zeroL from rfl]
        rw [gs.1, gc.1]
        simp only [gs.2, gc.2]
        refine ⟨⟨k0, hk⟩, by omega, ⟨k0, hk⟩, by omega, cnd_iff.2 ⟨fun h => absurd h (by decide), fun _ => cnd_iff.2 ⟨fun h => absurd h (by decide), fun _ => ⟨⟨k0, hk⟩, cnd_iff.2 ⟨fun h => ?_, fun _ => ⟨⟨k0, hk⟩, cnd_iff.2 ⟨fun h => ?_, fun _ => ⟨⟨k0, hk⟩, by omega, cnd_iff.2 ⟨fun h => ?_, fun _ => ?_⟩⟩⟩⟩⟩⟩⟩⟩⟩
        · simp only [Bool.not_eq_true'] at h
          exact absurd ((pcsEq_self (Lw.Lease.enc (t.getD k.toNat zeroL))).symm.trans h) (by decide)
        · simp only [Bool.not_eq_true'] at h
          exact absurd ((pcsEq_self (Lw.Lease.enc (t.getD k.toNat zeroL))).symm.trans h) (by decide)
        · have := of_decide_eq_true h; omega
        · rw [wrap_id (n := k + 1) (by omega) (by omega)]
          exact ⟨[], [some 0, some 1, some 2, some 3], k + 1, ⟨⟨by omega, by omega⟩, by omega⟩, _, rfl, rfl, rfl, rfl⟩
      · refine ⟨[], [some 0, some 1, some 2, some 3], (t, i + 1), ⟨⟨⟨by omega, by omega⟩, ⟨by omega, by omega⟩, hJ⟩, by omega⟩, _, rfl, rfl, ?_, ?_⟩
        · rw [wrap_id (n := i + 1) (by omega) (by omega)]; rfl
        · rfl
theorem tb53_ok : GamOk Try.prog eid (gam tb53) := gam_cons h8 tb52_ok
end Go.Proofs.Ytjpfeckkajhhjaa
