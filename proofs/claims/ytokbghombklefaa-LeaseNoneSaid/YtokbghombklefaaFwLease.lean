/- The functions of this group answer so. -/
import Derived.Test.YtokbghombklefaaFwLeaseV
import Derived.Test.YtokbghombklefaaFwFleet
set_option linter.unusedVariables false
set_option linter.unusedSimpArgs false
set_option maxRecDepth 20000
set_option maxHeartbeats 4000000
namespace Go.Proofs.Ytokbghombklefaa
open Lw
attribute [local irreducible] Lw.vc Lw.vcFunc
theorem br_upd {b : Bool} {p p' : Option Prop} {v v' : AV} {n n' : Mem} {a x : Blk} : ∀ l, (BT.br b (.leaf ⟨p, v, some [a], n⟩) (.leaf ⟨p', v', none, n'⟩) : BT SR).ev.upd = some l → l.length = [x].length := fun l h => by
  cases b
  · cases h
  · cases h; rfl
theorem br_none {b : Bool} {p p' : Option Prop} {v v' : AV} {n n' M : Mem} : ∀ l, (BT.br b (.leaf ⟨p, v, none, n⟩) (.leaf ⟨p', v', none, n'⟩) : BT SR).ev.upd = some l → l.length = M.length := fun l h => by
  cases b <;> cases h
theorem idxN_step {p : Lw.Lease → Bool} {l : List Lw.Lease} {i : Int} (h0 : 0 ≤ i) (h1 : i < l.length) (z : Lw.Lease) : idxN p (l.drop i.toNat) i = bif p (l.getD i.toNat z) then i else idxN p (l.drop (i + 1).toNat) (i + 1) := by
  rw [List.drop_eq_getElem_cons (show i.toNat < l.length by omega), List.getD_eq_getElem?_getD, List.getElem?_eq_getElem (show i.toNat < l.length by omega), show (i + 1).toNat = i.toNat + 1 by omega]
  rfl
theorem idxN_range {p : Lw.Lease → Bool} : ∀ {l : List Lw.Lease} {i : Int}, 0 ≤ i → idxN p l i = -1 ∨ (i ≤ idxN p l i ∧ idxN p l i < i + l.length)
  | [], i, _ => .inl rfl
  | x :: r, i, h => by
    unfold idxN
    cases p x
    · rcases idxN_range (p := p) (l := r) (i := i + 1) (by omega) with k | k
      · exact .inl k
      · right
        simp only [cond_false, List.length_cons]
        omega
    · right
      simp only [cond_true, List.length_cons]
      omega
theorem predOf_eq {k : Nat} {vs : List Cell} {p : Lw.Lease → Bool} (h : predOf k vs = some p) : (k = 20 ∧ ∃ l : Lw.Lease, vs = l.enc.map .pl ∧ p = putP l) ∨ (k = 26 ∧ ∃ n : Int, vs = [.pl (.int .i64 n)] ∧ p = sesP n) ∨ (k = 18 ∧ ∃ n : Int, vs = [.pl (.int .i64 n)] ∧ p = carP n) := by
  unfold predOf at h
  cases h1 : Nat.beq k 20 <;> rw [h1] at h
  · simp only [cond_false] at h
    split at h
    · rename_i n
      cases h2 : Nat.beq k 26 <;> rw [h2] at h
      · cases h3 : Nat.beq k 18 <;> rw [h3] at h
        · cases h
        · cases h
          exact .inr (.inr ⟨Nat.eq_of_beq_eq_true h3, n, rfl, rfl⟩)
      · cases h
        exact .inr (.inl ⟨Nat.eq_of_beq_eq_true h2, n, rfl, rfl⟩)
    · cases h
  · simp only [cond_true] at h
    obtain ⟨l, hl, h⟩ := Option.bind_eq_some_iff.1 h
    cases h
    exact .inl ⟨Nat.eq_of_beq_eq_true h1, l, Lw.Lease.of_eq hl, rfl⟩
theorem tabOf_eq {vs : List Cell} {c : Config} {x : Cell} (h : tabOf vs = some (c, x)) : vs = tabC c x := by
  unfold tabOf at h
  obtain ⟨d, hd, h⟩ := Option.bind_eq_some_iff.1 h
  split at h
  · rename_i y hy
    cases h
    have h1 := Lw.Config.of_eq hd
    rw [← List.take_append_drop 18 vs, h1, hy]
    rfl
  · cases h
theorem h20 : Holds Try.prog eid 20 (put1S) := by
  refine hold tb10_ok Try.func20 (by kernel_rfl) ?_ (by kernel_rfl)
  intro xs M t h
  unfold put1S at h
  split at h
  case h_2 => cases h
  obtain ⟨x, hx, h1⟩ := Option.bind_eq_some_iff.1 h
  clear h
  obtain ⟨l, hl, h⟩ := Option.bind_eq_some_iff.1 h1
  clear h1
  cases h
  cases Lw.Lease.of_eq hx
  cases Lw.Lease.of_eq hl
  refine ⟨fun l h => (nomatch h), ?_⟩
  intro hp
  rw [v20_vc, c_or]
  exact ends_sel [] [0] rfl rfl rfl rfl
theorem tb11_ok : GamOk Try.prog eid (gam tb11) := gam_cons h20 tb10_ok
theorem h26 : Holds Try.prog eid 26 (ses1S) := by
  refine hold tb11_ok Try.func26 (by kernel_rfl) ?_ (by kernel_rfl)
  intro xs M t h
  unfold ses1S at h
  split at h
  case h_2 => cases h
  obtain ⟨x, hx, h1⟩ := Option.bind_eq_some_iff.1 h
  clear h
  cases h1
  cases Lw.Lease.of_eq hx
  refine ⟨fun l h => (nomatch h), ?_⟩
  intro hp
  rw [v26_vc]
  exact ends_sel [] [0] rfl rfl rfl rfl
theorem tb12_ok : GamOk Try.prog eid (gam tb12) := gam_cons h26 tb11_ok
theorem h18 : Holds Try.prog eid 18 (car1S) := by
  refine hold tb12_ok Try.func18 (by kernel_rfl) ?_ (by kernel_rfl)
  intro xs M t h
  unfold car1S at h
  split at h
  case h_2 => cases h
  obtain ⟨x, hx, h1⟩ := Option.bind_eq_some_iff.1 h
  clear h
  cases h1
  cases Lw.Lease.of_eq hx
  refine ⟨fun l h => (nomatch h), ?_⟩
  intro hp
  rw [v18_vc]
  exact ends_sel [] [0] rfl rfl rfl rfl
theorem tb13_ok : GamOk Try.prog eid (gam tb13) := gam_cons h18 tb12_ok
theorem h27 : Holds Try.prog eid 27 (idxS) := by
  refine hold tb13_ok Try.func27 (by kernel_rfl) ?_ (by kernel_rfl)
  intro xs M t h
  unfold idxS at h
  split at h
  · rename_i k vs
    obtain ⟨p, hpr, h1⟩ := Option.bind_eq_some_iff.1 h
    clear h
    cases h1
    rcases predOf_eq hpr with ⟨rfl, l, rfl, rfl⟩ | ⟨rfl, n, rfl, rfl⟩ | ⟨rfl, n, rfl, rfl⟩
    · refine ⟨fun l h => (nomatch h), ?_⟩
      intro hp
      rw [v27pe_vc]
      refine loopVC_st (S := Unit) v27peb_m 1 (fun _ => v27peb_fr l) (fun _ => v27peb_mem l) (fun _ => 0) (fun _ => True) rfl ⟨(), trivial, rfl, rfl⟩ ?_
      intro _ _
      refine (v27peb_vc l _ _).mpr ?_
      exact ends_sel [] [0] rfl rfl rfl rfl
    · refine ⟨fun l h => (nomatch h), ?_⟩
      intro hp
      rw [v27se_vc]
      refine loopVC_st (S := Unit) v27seb_m 1 (fun _ => v27seb_fr n) (fun _ => v27seb_mem n) (fun _ => 0) (fun _ => True) rfl ⟨(), trivial, rfl, rfl⟩ ?_
      intro _ _
      refine (v27seb_vc n _ _).mpr ?_
      exact ends_sel [] [0] rfl rfl rfl rfl
    · refine ⟨fun l h => (nomatch h), ?_⟩
      intro hp
      rw [v27ce_vc]
      refine loopVC_st (S := Unit) v27ceb_m 1 (fun _ => v27ceb_fr n) (fun _ => v27ceb_mem n) (fun _ => 0) (fun _ => True) rfl ⟨(), trivial, rfl, rfl⟩ ?_
      intro _ _
      refine (v27ceb_vc n _ _).mpr ?_
      exact ends_sel [] [0] rfl rfl rfl rfl
  · rename_i k ls vs
    obtain ⟨p, hpr, h1⟩ := Option.bind_eq_some_iff.1 h
    clear h
    cases h1
    rcases predOf_eq hpr with ⟨rfl, l, rfl, rfl⟩ | ⟨rfl, n, rfl, rfl⟩ | ⟨rfl, n, rfl, rfl⟩
    · refine ⟨fun l h => (nomatch h), ?_⟩
      intro hp
      have hl : ls.length ≤ Go.maxLen := hp
      have hm := maxLen_eq
      rw [v27pr_vc]
      refine loopVC_st (S := Int) v27prb_m 2 (fun i => v27prb_fr ls l i) (fun i => v27prb_mem ls l i) (fun i => (ls.length - i).toNat) (fun i => 0 ≤ i ∧ i ≤ ls.length ∧ idxN (putP l) (ls.drop i.toNat) i = idxN (putP l) ls 0) rfl ⟨0, ⟨by simp, by simp, by simp⟩, rfl, rfl⟩ ?_
      rintro i ⟨h0, h1, h2⟩
      refine (v27prb_vc ls l i _ _).mpr ?_
      refine cnd_iff.2 ⟨fun hi => ?_, fun hi => ?_⟩
      · have hi : i < ls.length := of_decide_eq_true hi
        have hs := idxN_step (p := putP l) (l := ls) (i := i) h0 hi (RTy.zero .lease)
        rw [wrap_id (n := i + 1) (by omega) (by omega)]
        refine ⟨⟨h0, hi⟩, cnd_iff.2 ⟨fun hb => ?_, fun hb => ?_⟩⟩
        · have hb : (putP l) (ls.getD i.toNat (RTy.zero .lease)) = true := hb
          rw [← h2, hs, hb]
          exact ends_sel [] [0, 1] rfl rfl rfl rfl
        · have hb : (putP l) (ls.getD i.toNat (RTy.zero .lease)) = false := hb
          refine ⟨i + 1, ⟨by omega, by omega, ?_⟩, by omega, rfl, rfl⟩
          rw [← h2, hs, hb]; rfl
      · have hi : ¬ i < ls.length := of_decide_eq_false hi
        rw [← h2, List.drop_eq_nil_of_le (by omega)]
        exact ends_sel [] [0, 1] rfl rfl rfl rfl
    · refine ⟨fun l h => (nomatch h), ?_⟩
      intro hp
      have hl : ls.length ≤ Go.maxLen := hp
      have hm := maxLen_eq
      rw [v27sr_vc]
      refine loopVC_st (S := Int) v27srb_m 2 (fun i => v27srb_fr ls n i) (fun i => v27srb_mem ls n i) (fun i => (ls.length - i).toNat) (fun i => 0 ≤ i ∧ i ≤ ls.length ∧ idxN (sesP n) (ls.drop i.toNat) i = idxN (sesP n) ls 0) rfl ⟨0, ⟨by simp, by simp, by simp⟩, rfl, rfl⟩ ?_
      rintro i ⟨h0, h1, h2⟩
      refine (v27srb_vc ls n i _ _).mpr ?_
      refine cnd_iff.2 ⟨fun hi => ?_, fun hi => ?_⟩
      · have hi : i < ls.length := of_decide_eq_true hi
        have hs := idxN_step (p := sesP n) (l := ls) (i := i) h0 hi (RTy.zero .lease)
        rw [wrap_id (n := i + 1) (by omega) (by omega)]
        refine ⟨⟨h0, hi⟩, cnd_iff.2 ⟨fun hb => ?_, fun hb => ?_⟩⟩
        · have hb : (sesP n) (ls.getD i.toNat (RTy.zero .lease)) = true := hb
          rw [← h2, hs, hb]
          exact ends_sel [] [0, 1] rfl rfl rfl rfl
        · have hb : (sesP n) (ls.getD i.toNat (RTy.zero .lease)) = false := hb
          refine ⟨i + 1, ⟨by omega, by omega, ?_⟩, by omega, rfl, rfl⟩
          rw [← h2, hs, hb]; rfl
      · have hi : ¬ i < ls.length := of_decide_eq_false hi
        rw [← h2, List.drop_eq_nil_of_le (by omega)]
        exact ends_sel [] [0, 1] rfl rfl rfl rfl
    · refine ⟨fun l h => (nomatch h), ?_⟩
      intro hp
      have hl : ls.length ≤ Go.maxLen := hp
      have hm := maxLen_eq
      rw [v27cr_vc]
      refine loopVC_st (S := Int) v27crb_m 2 (fun i => v27crb_fr ls n i) (fun i => v27crb_mem ls n i) (fun i => (ls.length - i).toNat) (fun i => 0 ≤ i ∧ i ≤ ls.length ∧ idxN (carP n) (ls.drop i.toNat) i = idxN (carP n) ls 0) rfl ⟨0, ⟨by simp, by simp, by simp⟩, rfl, rfl⟩ ?_
      rintro i ⟨h0, h1, h2⟩
      refine (v27crb_vc ls n i _ _).mpr ?_
      refine cnd_iff.2 ⟨fun hi => ?_, fun hi => ?_⟩
      · have hi : i < ls.length := of_decide_eq_true hi
        have hs := idxN_step (p := carP n) (l := ls) (i := i) h0 hi (RTy.zero .lease)
        rw [wrap_id (n := i + 1) (by omega) (by omega)]
        refine ⟨⟨h0, hi⟩, cnd_iff.2 ⟨fun hb => ?_, fun hb => ?_⟩⟩
        · have hb : (carP n) (ls.getD i.toNat (RTy.zero .lease)) = true := hb
          rw [← h2, hs, hb]
          exact ends_sel [] [0, 1] rfl rfl rfl rfl
        · have hb : (carP n) (ls.getD i.toNat (RTy.zero .lease)) = false := hb
          refine ⟨i + 1, ⟨by omega, by omega, ?_⟩, by omega, rfl, rfl⟩
          rw [← h2, hs, hb]; rfl
      · have hi : ¬ i < ls.length := of_decide_eq_false hi
        rw [← h2, List.drop_eq_nil_of_le (by omega)]
        exact ends_sel [] [0, 1] rfl rfl rfl rfl
  · cases h
theorem tb14_ok : GamOk Try.prog eid (gam tb14) := gam_cons h27 tb13_ok
theorem h19 : Holds Try.prog eid 19 (goodTS) := by
  refine hold tb14_ok Try.func19 (by kernel_rfl) ?_ (by kernel_rfl)
  intro xs M t h
  unfold goodTS at h
  split at h
  · rename_i k
    obtain ⟨l, hl, h1⟩ := Option.bind_eq_some_iff.1 h
    clear h
    cases h1
    cases Lw.Lease.of_eq hl
    refine ⟨fun l h => (nomatch h), ?_⟩
    intro hp
    rw [v19n_vc]
    exact ends_pl rfl
  · rename_i k vs
    obtain ⟨⟨c, q⟩, hq, h1⟩ := Option.bind_eq_some_iff.1 h
    clear h
    obtain ⟨l, hl, h⟩ := Option.bind_eq_some_iff.1 h1
    clear h1
    split at h <;> cases h
    rename_i e
    simp only at e
    subst e
    cases tabOf_eq hq
    cases Lw.Lease.of_eq hl
    refine ⟨fun l h => (nomatch h), ?_⟩
    intro hp
    rw [v19e_vc]
    clear hq hl hp
    repeat' first
      | (refine ends_sel [] [0] rfl rfl (congrArg (fun b : Bool => [vb b]) ?_) rfl; unfold goodL; simp only [*, Bool.and_true, Bool.true_and, Bool.false_and, Bool.and_false]; done)
      | refine cnd_iff.2 ⟨fun _ => ?_, fun _ => ?_⟩
  · rename_i k vs ls
    obtain ⟨⟨c, q⟩, hq, h1⟩ := Option.bind_eq_some_iff.1 h
    clear h
    obtain ⟨l, hl, h⟩ := Option.bind_eq_some_iff.1 h1
    clear h1
    split at h <;> cases h
    rename_i e
    simp only at e
    subst e
    cases tabOf_eq hq
    cases Lw.Lease.of_eq hl
    refine ⟨fun l h => (nomatch h), ?_⟩
    intro hp
    rw [v19r_vc]
    clear hq hl hp
    repeat' first
      | (refine ends_sel [] [0, 1] rfl rfl (congrArg (fun b : Bool => [vb b]) ?_) rfl; unfold goodL; simp only [*, Bool.and_true, Bool.true_and, Bool.false_and, Bool.and_false]; done)
      | refine cnd_iff.2 ⟨fun _ => ?_, fun _ => ?_⟩
  · cases h
theorem tb15_ok : GamOk Try.prog eid (gam tb15) := gam_cons h19 tb14_ok
theorem h17 : Holds Try.prog eid 17 (findS) := by
  refine hold tb15_ok Try.func17 (by kernel_rfl) ?_ (by kernel_rfl)
  intro xs M t h
  unfold findS at h
  split at h
  · rename_i k cap
    obtain ⟨p, hpr, h1⟩ := Option.bind_eq_some_iff.1 h
    clear h
    cases h1
    rcases predOf_eq hpr with ⟨rfl, l, rfl, rfl⟩ | ⟨rfl, n, rfl, rfl⟩ | ⟨rfl, n, rfl, rfl⟩
    · refine ⟨fun l h => (nomatch h), ?_⟩
      intro hp
      rw [v17pn_vc]
      exact ends_sel [] [0] rfl rfl rfl rfl
    · refine ⟨fun l h => (nomatch h), ?_⟩
      intro hp
      rw [v17sn_vc]
      exact ends_sel [] [0] rfl rfl rfl rfl
    · refine ⟨fun l h => (nomatch h), ?_⟩
      intro hp
      rw [v17cn_vc]
      exact ends_sel [] [0] rfl rfl rfl rfl
  · rename_i k vs cap
    obtain ⟨⟨c, q⟩, hq, h1⟩ := Option.bind_eq_some_iff.1 h
    clear h
    obtain ⟨p, hpr, h⟩ := Option.bind_eq_some_iff.1 h1
    clear h1
    split at h <;> cases h
    rename_i e
    simp only at e
    subst e
    cases tabOf_eq hq
    rcases predOf_eq hpr with ⟨rfl, l, rfl, rfl⟩ | ⟨rfl, n, rfl, rfl⟩ | ⟨rfl, n, rfl, rfl⟩
    · refine ⟨fun l h => (nomatch h), ?_⟩
      intro hp
      rw [v17pe_vc]
      exact ends_sel [] [0, 1] rfl rfl rfl rfl
    · refine ⟨fun l h => (nomatch h), ?_⟩
      intro hp
      rw [v17se_vc]
      exact ends_sel [] [0, 1] rfl rfl rfl rfl
    · refine ⟨fun l h => (nomatch h), ?_⟩
      intro hp
      rw [v17ce_vc]
      exact ends_sel [] [0, 1] rfl rfl rfl rfl
  · rename_i k vs cap ls
    obtain ⟨⟨c, q⟩, hq, h1⟩ := Option.bind_eq_some_iff.1 h
    clear h
    obtain ⟨p, hpr, h⟩ := Option.bind_eq_some_iff.1 h1
    clear h1
    split at h <;> cases h
    rename_i e
    simp only at e
    subst e
    cases tabOf_eq hq
    rcases predOf_eq hpr with ⟨rfl, l, rfl, rfl⟩ | ⟨rfl, n, rfl, rfl⟩ | ⟨rfl, n, rfl, rfl⟩
    · refine ⟨fun l h => (nomatch h), ?_⟩
      intro hp
      rw [v17pr_vc]
      exact ⟨hp, ends_sel [] [0, 1, 2] rfl rfl rfl rfl⟩
    · refine ⟨fun l h => (nomatch h), ?_⟩
      intro hp
      rw [v17sr_vc]
      exact ⟨hp, ends_sel [] [0, 1, 2] rfl rfl rfl rfl⟩
    · refine ⟨fun l h => (nomatch h), ?_⟩
      intro hp
      rw [v17cr_vc]
      exact ⟨hp, ends_sel [] [0, 1, 2] rfl rfl rfl rfl⟩
  · cases h
theorem tb16_ok : GamOk Try.prog eid (gam tb16) := gam_cons h17 tb15_ok
theorem h7 : Holds Try.prog eid 7 (newTS) := by
  refine hold tb16_ok Try.func7 (by kernel_rfl) ?_ (by kernel_rfl)
  intro xs M t h
  unfold newTS at h
  split at h
  case h_2 => cases h
  obtain ⟨c, hc, h1⟩ := Option.bind_eq_some_iff.1 h
  clear h
  cases h1
  cases Lw.Config.of_eq hc
  refine ⟨fun l h => (nomatch h), ?_⟩
  intro hp
  rw [v7_vc]
  exact ends_sel [] [1] rfl rfl rfl rfl
theorem tb17_ok : GamOk Try.prog eid (gam tb17) := gam_cons h7 tb16_ok
theorem h9 : Holds Try.prog eid 9 (putTS) := by
  refine hold tb17_ok Try.func9 (by kernel_rfl) ?_ (by kernel_rfl)
  intro xs M t h
  unfold putTS at h
  split at h
  · rename_i k
    obtain ⟨l, hl, h1⟩ := Option.bind_eq_some_iff.1 h
    clear h
    cases h1
    cases Lw.Lease.of_eq hl
    refine ⟨fun l h => (nomatch h), ?_⟩
    intro hp
    rw [v9n_vc]
    exact ends_pl rfl
  · rename_i k vs
    obtain ⟨⟨c, q⟩, hq, h1⟩ := Option.bind_eq_some_iff.1 h
    clear h
    obtain ⟨l, hl, h⟩ := Option.bind_eq_some_iff.1 h1
    clear h1
    split at h <;> cases h
    rename_i e
    simp only at e
    subst e
    cases tabOf_eq hq
    cases Lw.Lease.of_eq hl
    refine ⟨br_upd, ?_⟩
    intro hp
    rw [v9e_vc]
    have hQ := clampI_range (lo := 1) (hi := 8) (by decide) c.quota
    refine cnd_iff.2 ⟨fun hg => ?_, fun hg => cnd_iff.2 ⟨fun hz => ?_, fun hz => ⟨by simp [bigRow], ?_⟩⟩⟩
    · have hg : goodL c l = false := by simpa using hg
      simp only [BT.ev, hg, cond_false]
      exact ends_sel [] [0] rfl rfl rfl rfl
    · exfalso
      have : ¬ 0 < quotaI c := by simpa using hz
      exact this (by unfold quotaI; omega)
    · have hg : goodL c l = true := by simpa using hg
      simp only [BT.ev, hg, cond_true]
      exact ends_sel [] [0, 3] rfl rfl rfl rfl
  · rename_i k vs ls
    obtain ⟨⟨c, q⟩, hq, h1⟩ := Option.bind_eq_some_iff.1 h
    clear h
    obtain ⟨l, hl, h⟩ := Option.bind_eq_some_iff.1 h1
    clear h1
    split at h
    case h_2 => cases h
    rename_i e
    simp only at e
    subst e
    cases hb : (goodL c l && decide (idxN (putP l) ls 0 ≥ 0)) <;> simp only [hb, cond_true, cond_false] at h <;> cases h
    rw [Bool.and_eq_true] at hb
    cases tabOf_eq hq
    cases Lw.Lease.of_eq hl
    refine ⟨fun l h => (nomatch h), ?_⟩
    intro hp
    rw [v9r_vc]
    refine cnd_iff.2 ⟨fun hg => absurd hg (by rw [hb.1]; simp), fun _ => ⟨hp, cnd_iff.2 ⟨fun _ => ?_, fun hz => absurd (hz.symm.trans hb.2) (by simp)⟩⟩⟩
    exact ends_sel [] [0, 1] rfl rfl rfl rfl
  · cases h
theorem tb18_ok : GamOk Try.prog eid (gam tb18) := gam_cons h9 tb17_ok
theorem h15 : Holds Try.prog eid 15 (atTS) := by
  refine hold tb18_ok Try.func15 (by kernel_rfl) ?_ (by kernel_rfl)
  intro xs M t h
  unfold atTS at h
  split at h
  · cases h
    rename_i n
    refine ⟨fun l h => (nomatch h), ?_⟩
    intro hp
    have hp : n < 0 := hp
    rw [v15n_vc]
    refine cnd_iff.2 ⟨fun _ => ends_v rfl rfl, fun h => absurd hp (of_decide_eq_false h)⟩
  · rename_i n vs ls
    obtain ⟨⟨c, q⟩, hq, h1⟩ := Option.bind_eq_some_iff.1 h
    clear h
    split at h1 <;> cases h1
    rename_i e
    simp only at e
    subst e
    cases tabOf_eq hq
    refine ⟨br_none, ?_⟩
    intro hp
    rw [v15_vc]
    refine cnd_iff.2 ⟨fun hn => ?_, fun hn => ?_⟩
    · simp only [BT.ev, hn, cond_true]
      exact ends_sel [] [0, 1] rfl rfl rfl rfl
    · simp only [BT.ev, hn, cond_false] at hp ⊢
      have hp : n < ls.length := hp
      have hn : ¬ n < 0 := of_decide_eq_false hn
      exact ⟨⟨by omega, hp⟩, ends_sel [] [0, 1] rfl rfl rfl rfl⟩
  · cases h
theorem tb19_ok : GamOk Try.prog eid (gam tb19) := gam_cons h15 tb18_ok
theorem h14 : Holds Try.prog eid 14 (sesTS) := by
  refine hold tb19_ok Try.func14 (by kernel_rfl) ?_ (by kernel_rfl)
  intro xs M t h
  unfold sesTS at h
  split at h
  · cases h
    refine ⟨fun l h => (nomatch h), ?_⟩
    intro hp
    rw [v14n_vc]
    exact ends_pl rfl
  · rename_i n vs ls
    obtain ⟨⟨c, q⟩, hq, h1⟩ := Option.bind_eq_some_iff.1 h
    clear h
    split at h1 <;> cases h1
    rename_i e
    simp only at e
    subst e
    cases tabOf_eq hq
    refine ⟨fun l h => (nomatch h), ?_⟩
    intro hp
    rw [v14_vc]
    exact ⟨hp, ends_sel [] [0, 1] rfl rfl rfl rfl⟩
  · cases h
theorem tb20_ok : GamOk Try.prog eid (gam tb20) := gam_cons h14 tb19_ok
theorem h5 : Holds Try.prog eid 5 (getTS sesP) := by
  refine hold tb20_ok Try.func5 (by kernel_rfl) ?_ (by kernel_rfl)
  intro xs M t h
  unfold getTS at h
  split at h
  · cases h
    refine ⟨fun l h => (nomatch h), ?_⟩
    intro hp
    rw [v5n_vc]
    exact ⟨by decide, ends_v rfl rfl⟩
  · rename_i n vs ls
    obtain ⟨⟨c, q⟩, hq, h1⟩ := Option.bind_eq_some_iff.1 h
    clear h
    split at h1 <;> cases h1
    rename_i e
    simp only at e
    subst e
    cases tabOf_eq hq
    refine ⟨br_none, ?_⟩
    intro hp
    rw [v5_vc]
    have hl : ls.length ≤ Go.maxLen := by
      cases hn : decide (idxN (sesP n) ls 0 < 0) <;> simp only [BT.ev, hn, cond_true, cond_false] at hp <;> exact hp
    refine ⟨hl, cnd_iff.2 ⟨fun hn => ?_, fun hn => ?_⟩⟩
    · simp only [BT.ev, hn, cond_true]
      exact ends_sel [] [0, 1] rfl rfl rfl rfl
    · simp only [BT.ev, hn, cond_false]
      have hn : ¬ idxN (sesP n) ls 0 < 0 := of_decide_eq_false hn
      have hr := idxN_range (p := sesP n) (l := ls) (i := 0) (by omega)
      exact ⟨by omega, ends_sel [] [0, 1] rfl rfl rfl rfl⟩
  · cases h
theorem tb21_ok : GamOk Try.prog eid (gam tb21) := gam_cons h5 tb20_ok
theorem h6 : Holds Try.prog eid 6 (getTS carP) := by
  refine hold tb21_ok Try.func6 (by kernel_rfl) ?_ (by kernel_rfl)
  intro xs M t h
  unfold getTS at h
  split at h
  · cases h
    refine ⟨fun l h => (nomatch h), ?_⟩
    intro hp
    rw [v6n_vc]
    exact ⟨by decide, ends_v rfl rfl⟩
  · rename_i n vs ls
    obtain ⟨⟨c, q⟩, hq, h1⟩ := Option.bind_eq_some_iff.1 h
    clear h
    split at h1 <;> cases h1
    rename_i e
    simp only at e
    subst e
    cases tabOf_eq hq
    refine ⟨br_none, ?_⟩
    intro hp
    rw [v6_vc]
    have hl : ls.length ≤ Go.maxLen := by
      cases hn : decide (idxN (carP n) ls 0 < 0) <;> simp only [BT.ev, hn, cond_true, cond_false] at hp <;> exact hp
    refine ⟨hl, cnd_iff.2 ⟨fun hn => ?_, fun hn => ?_⟩⟩
    · simp only [BT.ev, hn, cond_true]
      exact ends_sel [] [0, 1] rfl rfl rfl rfl
    · simp only [BT.ev, hn, cond_false]
      have hn : ¬ idxN (carP n) ls 0 < 0 := of_decide_eq_false hn
      have hr := idxN_range (p := carP n) (l := ls) (i := 0) (by omega)
      exact ⟨by omega, ends_sel [] [0, 1] rfl rfl rfl rfl⟩
  · cases h
theorem tb22_ok : GamOk Try.prog eid (gam tb22) := gam_cons h6 tb21_ok
theorem h22 : Holds Try.prog eid 22 (cloneS) := by
  refine hold tb22_ok Try.func22 (by kernel_rfl) ?_ (by kernel_rfl)
  intro xs M t h
  unfold cloneS at h
  split at h <;> cases h
  rename_i ls
  refine ⟨fun l h => (nomatch h), ?_⟩
  intro hp
  have hp : ls.length ≤ bigRow := hp
  rw [v22_vc]
  intro b hb
  refine cnd_iff.2 ⟨fun hc => ?_, fun hc => ?_⟩
  · have hb : b = true := by simpa using hc
    have hz := (by assumption : b = true → ls.length = 0) hb
    obtain rfl : ls = [] := List.eq_nil_of_length_eq_zero hz
    exact ends_sel [.slot 0 .lease] [0, 1] rfl rfl rfl rfl
  · exact ⟨by simpa using hp, ends_sel [] [0, 2] rfl rfl rfl rfl⟩
theorem tb23_ok : GamOk Try.prog eid (gam tb23) := gam_cons h22 tb22_ok
theorem h11 : Holds Try.prog eid 11 (listTS) := by
  refine hold tb23_ok Try.func11 (by kernel_rfl) ?_ (by kernel_rfl)
  intro xs M t h
  unfold listTS at h
  split at h
  · cases h
    refine ⟨fun l h => (nomatch h), ?_⟩
    intro hp
    rw [v11n_vc]
    exact ends_v rfl rfl
  · rename_i vs ls
    obtain ⟨⟨c, q⟩, hq, h1⟩ := Option.bind_eq_some_iff.1 h
    clear h
    split at h1 <;> cases h1
    rename_i e
    simp only at e
    subst e
    cases tabOf_eq hq
    refine ⟨fun l h => (nomatch h), ?_⟩
    intro hp
    rw [v11_vc]
    exact ⟨hp, ends_sel [] [0, 1, 2] rfl rfl rfl rfl⟩
  · cases h
theorem tb24_ok : GamOk Try.prog eid (gam tb24) := gam_cons h11 tb23_ok
theorem h13 : Holds Try.prog eid 13 (setTS) := by
  refine hold tb24_ok Try.func13 (by kernel_rfl) ?_ (by kernel_rfl)
  intro xs M t h
  unfold setTS at h
  split at h
  · rename_i k
    obtain ⟨l, hl, h1⟩ := Option.bind_eq_some_iff.1 h
    clear h
    cases h1
    cases Lw.Lease.of_eq hl
    refine ⟨fun l h => (nomatch h), ?_⟩
    intro hp
    rw [v13n_vc]
    exact ends_pl rfl
  · cases h
theorem tb25_ok : GamOk Try.prog eid (gam tb25) := gam_cons h13 tb24_ok
theorem h4 : Holds Try.prog eid 4 (endTS) := by
  refine hold tb25_ok Try.func4 (by kernel_rfl) ?_ (by kernel_rfl)
  intro xs M t h
  unfold endTS at h
  split at h
  · cases h
    refine ⟨fun l h => (nomatch h), ?_⟩
    intro hp
    rw [v4n_vc]
    exact ⟨by decide, ends_v rfl rfl⟩
  · cases h
theorem tb26_ok : GamOk Try.prog eid (gam tb26) := gam_cons h4 tb25_ok
theorem h8 : Holds Try.prog eid 8 (s8) := by
  refine hold tb26_ok Try.func8 (by kernel_rfl) ?_ (by kernel_rfl)
  intro xs M t h
  unfold s8 at h
  split at h
  case h_2 => cases h
  cases h
  refine ⟨fun l h => (nomatch h), ?_⟩
  intro hp
  rw [v8_vc]
  exact ends_v rfl rfl
theorem tb27_ok : GamOk Try.prog eid (gam tb27) := gam_cons h8 tb26_ok
theorem h10 : Holds Try.prog eid 10 (s10) := by
  refine hold tb27_ok Try.func10 (by kernel_rfl) ?_ (by kernel_rfl)
  intro xs M t h
  unfold s10 at h
  split at h
  case h_2 => cases h
  cases h
  refine ⟨fun l h => (nomatch h), ?_⟩
  intro hp
  rw [v10_vc]
  exact ends_v rfl rfl
theorem tb28_ok : GamOk Try.prog eid (gam tb28) := gam_cons h10 tb27_ok
theorem h12 : Holds Try.prog eid 12 (s12) := by
  refine hold tb28_ok Try.func12 (by kernel_rfl) ?_ (by kernel_rfl)
  intro xs M t h
  unfold s12 at h
  split at h
  case h_2 => cases h
  cases h
  refine ⟨fun l h => (nomatch h), ?_⟩
  intro hp
  rw [v12_vc]
  exact ⟨by decide, by decide, by decide, by unfold bigRow; decide, ends_pl (congrArg PC.bool (by decide +kernel))⟩
theorem tb29_ok : GamOk Try.prog eid (gam tb29) := gam_cons h12 tb28_ok
theorem h3 : Holds Try.prog eid 3 (s3) := by
  refine hold tb29_ok Try.func3 (by kernel_rfl) ?_ (by kernel_rfl)
  intro xs M t h
  unfold s3 at h
  split at h
  case h_2 => cases h
  rename_i csl
  obtain ⟨l, hcl, h1⟩ := Option.bind_eq_some_iff.1 h
  clear h
  have h := h1
  clear h1
  cases h
  cases Lw.Lease.of_eq hcl
  clear hcl
  refine ⟨fun l h => (nomatch h), ?_⟩
  intro hp
  rw [v3_vc]
  refine cnd_iff.2 ⟨fun _ => ⟨by unfold bigRow; decide, ⟨by decide, by decide⟩, by decide, ends_pl (congrArg PC.bool (by decide +kernel))⟩, fun h => absurd h (by decide +kernel)⟩
theorem tb30_ok : GamOk Try.prog eid (gam tb30) := gam_cons h3 tb29_ok
end Go.Proofs.Ytokbghombklefaa
