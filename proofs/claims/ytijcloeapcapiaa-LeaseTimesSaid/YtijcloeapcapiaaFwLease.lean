/- The functions of this group answer so. -/
import Derived.Test.YtijcloeapcapiaaFwLeaseV
import Derived.Test.YtijcloeapcapiaaFwFleet
set_option linter.unusedVariables false
set_option linter.unusedSimpArgs false
set_option maxRecDepth 20000
set_option maxHeartbeats 4000000
namespace Go.Proofs.Ytijcloeapcapiaa
open Lw
attribute [local irreducible] Lw.vc Lw.vcFunc
theorem br_upd {b : Bool} {p p' : Option Prop} {v v' : AV} {n n' : Mem} {a x : Blk} : ∀ l, (BT.br b (.leaf ⟨p, v, some [a], n⟩) (.leaf ⟨p', v', none, n'⟩) : BT SR).ev.upd = some l → l.length = [x].length := fun l h => by
  cases b
  · cases h
  · cases h; rfl
theorem br_none {b : Bool} {p p' : Option Prop} {v v' : AV} {n n' M : Mem} : ∀ l, (BT.br b (.leaf ⟨p, v, none, n⟩) (.leaf ⟨p', v', none, n'⟩) : BT SR).ev.upd = some l → l.length = M.length := fun l h => by
  cases b <;> cases h
theorem idxN_step {p : Lw.Lease → Bool} {l : List Lw.Lease} {i : Int} (h0 : 0 ≤ i) (h1 : i < l.length) (z : Lw.Lease) : idxN p (l.drop i.toNat) i = bif p (l.getD i.toNat z) then i else idxN p (l.drop (i + 1).toNat) (i + 1) := by
  rw [List.drop_eq_getElem_cons (show i.toNat < l.length by omega), List.getD_eq_getElem?_getD, List.getElem?_eq_getElem (show i.toNat < l.length by omega), show (i + 1).toNat = i.toNat + 1 by omega]
  rfl
theorem idxN_range {p : Lw.Lease → Bool} : ∀ {l : List Lw.Lease} {i : Int}, 0 ≤ i → idxN p l i = -1 ∨ (i ≤ idxN p l i ∧ idxN p l i < i + l.length)
  | [], i, _ => .inl rfl
  | x :: r, i, h => by
    unfold idxN
    cases p x
    · rcases idxN_range (p := p) (l := r) (i := i + 1) (by omega) with k | k
      · exact .inl k
      · right
        simp only [cond_false, List.length_cons]
        omega
    · right
      simp only [cond_true, List.length_cons]
      omega
theorem predOf_eq {k : Nat} {vs : List Cell} {p : Lw.Lease → Bool} (h : predOf k vs = some p) : (k = 92 ∧ ∃ l : Lw.Lease, vs = l.enc.map .pl ∧ p = putP l) ∨ (k = 104 ∧ ∃ n : Int, vs = [.pl (.int .i64 n)] ∧ p = sesP n) ∨ (k = 96 ∧ ∃ n : Int, vs = [.pl (.int .i64 n)] ∧ p = carP n) := by
  unfold predOf at h
  cases h1 : Nat.beq k 92 <;> rw [h1] at h
  · simp only [cond_false] at h
    split at h
    · rename_i n
      cases h2 : Nat.beq k 104 <;> rw [h2] at h
      · cases h3 : Nat.beq k 96 <;> rw [h3] at h
        · cases h
        · cases h
          exact .inr (.inr ⟨Nat.eq_of_beq_eq_true h3, n, rfl, rfl⟩)
      · cases h
        exact .inr (.inl ⟨Nat.eq_of_beq_eq_true h2, n, rfl, rfl⟩)
    · cases h
  · simp only [cond_true] at h
    obtain ⟨l, hl, h⟩ := Option.bind_eq_some_iff.1 h
    cases h
    exact .inl ⟨Nat.eq_of_beq_eq_true h1, l, Lw.Lease.of_eq hl, rfl⟩
theorem tabOf_eq {vs : List Cell} {c : Config} {x : Cell} (h : tabOf vs = some (c, x)) : vs = tabC c x := by
  unfold tabOf at h
  obtain ⟨d, hd, h⟩ := Option.bind_eq_some_iff.1 h
  split at h
  · rename_i y hy
    cases h
    have h1 := Lw.Config.of_eq hd
    rw [← List.take_append_drop 18 vs, h1, hy]
    rfl
  · cases h
theorem h92 : Holds Try.prog eid 92 (put1S) := by
  refine hold tb34_ok Try.func92 (by kernel_rfl) ?_ (by kernel_rfl)
  intro xs M t h
  unfold put1S at h
  split at h
  case h_2 => cases h
  obtain ⟨x, hx, h1⟩ := Option.bind_eq_some_iff.1 h
  clear h
  obtain ⟨l, hl, h⟩ := Option.bind_eq_some_iff.1 h1
  clear h1
  cases h
  cases Lw.Lease.of_eq hx
  cases Lw.Lease.of_eq hl
  refine ⟨fun l h => (nomatch h), ?_⟩
  intro hp
  rw [v92_vc, c_or]
  exact ends_sel [] [0] rfl rfl rfl rfl
theorem tb35_ok : GamOk Try.prog eid (gam tb35) := gam_cons h92 tb34_ok
theorem h104 : Holds Try.prog eid 104 (ses1S) := by
  refine hold tb35_ok Try.func104 (by kernel_rfl) ?_ (by kernel_rfl)
  intro xs M t h
  unfold ses1S at h
  split at h
  case h_2 => cases h
  obtain ⟨x, hx, h1⟩ := Option.bind_eq_some_iff.1 h
  clear h
  cases h1
  cases Lw.Lease.of_eq hx
  refine ⟨fun l h => (nomatch h), ?_⟩
  intro hp
  rw [v104_vc]
  exact ends_sel [] [0] rfl rfl rfl rfl
theorem tb36_ok : GamOk Try.prog eid (gam tb36) := gam_cons h104 tb35_ok
theorem h96 : Holds Try.prog eid 96 (car1S) := by
  refine hold tb36_ok Try.func96 (by kernel_rfl) ?_ (by kernel_rfl)
  intro xs M t h
  unfold car1S at h
  split at h
  case h_2 => cases h
  obtain ⟨x, hx, h1⟩ := Option.bind_eq_some_iff.1 h
  clear h
  cases h1
  cases Lw.Lease.of_eq hx
  refine ⟨fun l h => (nomatch h), ?_⟩
  intro hp
  rw [v96_vc]
  exact ends_sel [] [0] rfl rfl rfl rfl
theorem tb37_ok : GamOk Try.prog eid (gam tb37) := gam_cons h96 tb36_ok
theorem h101 : Holds Try.prog eid 101 (idxS) := by
  refine hold tb37_ok Try.func101 (by kernel_rfl) ?_ (by kernel_rfl)
  intro xs M t h
  unfold idxS at h
  split at h
  · rename_i k vs
    obtain ⟨p, hpr, h1⟩ := Option.bind_eq_some_iff.1 h
    clear h
    cases h1
    rcases predOf_eq hpr with ⟨rfl, l, rfl, rfl⟩ | ⟨rfl, n, rfl, rfl⟩ | ⟨rfl, n, rfl, rfl⟩
    · refine ⟨fun l h => (nomatch h), ?_⟩
      intro hp
      rw [v101pe_vc]
      refine loopVC_st (S := Unit) v101peb_m 1 (fun _ => v101peb_fr l) (fun _ => v101peb_mem l) (fun _ => 0) (fun _ => True) rfl ⟨(), trivial, rfl, rfl⟩ ?_
      intro _ _
      refine (v101peb_vc l _ _).mpr ?_
      exact ends_sel [] [0] rfl rfl rfl rfl
    · refine ⟨fun l h => (nomatch h), ?_⟩
      intro hp
      rw [v101se_vc]
      refine loopVC_st (S := Unit) v101seb_m 1 (fun _ => v101seb_fr n) (fun _ => v101seb_mem n) (fun _ => 0) (fun _ => True) rfl ⟨(), trivial, rfl, rfl⟩ ?_
      intro _ _
      refine (v101seb_vc n _ _).mpr ?_
      exact ends_sel [] [0] rfl rfl rfl rfl
    · refine ⟨fun l h => (nomatch h), ?_⟩
      intro hp
      rw [v101ce_vc]
      refine loopVC_st (S := Unit) v101ceb_m 1 (fun _ => v101ceb_fr n) (fun _ => v101ceb_mem n) (fun _ => 0) (fun _ => True) rfl ⟨(), trivial, rfl, rfl⟩ ?_
      intro _ _
      refine (v101ceb_vc n _ _).mpr ?_
      exact ends_sel [] [0] rfl rfl rfl rfl
  · rename_i k ls vs
    obtain ⟨p, hpr, h1⟩ := Option.bind_eq_some_iff.1 h
    clear h
    cases h1
    rcases predOf_eq hpr with ⟨rfl, l, rfl, rfl⟩ | ⟨rfl, n, rfl, rfl⟩ | ⟨rfl, n, rfl, rfl⟩
    · refine ⟨fun l h => (nomatch h), ?_⟩
      intro hp
      have hl : ls.length ≤ Go.maxLen := hp
      have hm := maxLen_eq
      rw [v101pr_vc]
      refine loopVC_st (S := Int) v101prb_m 2 (fun i => v101prb_fr ls l i) (fun i => v101prb_mem ls l i) (fun i => (ls.length - i).toNat) (fun i => 0 ≤ i ∧ i ≤ ls.length ∧ idxN (putP l) (ls.drop i.toNat) i = idxN (putP l) ls 0) rfl ⟨0, ⟨by simp, by simp, by simp⟩, rfl, rfl⟩ ?_
      rintro i ⟨h0, h1, h2⟩
      refine (v101prb_vc ls l i _ _).mpr ?_
      refine cnd_iff.2 ⟨fun hi => ?_, fun hi => ?_⟩
      · have hi : i < ls.length := of_decide_eq_true hi
        have hs := idxN_step (p := putP l) (l := ls) (i := i) h0 hi (RTy.zero .lease)
        rw [wrap_id (n := i + 1) (by omega) (by omega)]
        refine ⟨⟨h0, hi⟩, cnd_iff.2 ⟨fun hb => ?_, fun hb => ?_⟩⟩
        · have hb : (putP l) (ls.getD i.toNat (RTy.zero .lease)) = true := hb
          rw [← h2, hs, hb]
          exact ends_sel [] [0, 1] rfl rfl rfl rfl
        · have hb : (putP l) (ls.getD i.toNat (RTy.zero .lease)) = false := hb
          refine ⟨i + 1, ⟨by omega, by omega, ?_⟩, by omega, rfl, rfl⟩
          rw [← h2, hs, hb]; rfl
      · have hi : ¬ i < ls.length := of_decide_eq_false hi
        rw [← h2, List.drop_eq_nil_of_le (by omega)]
        exact ends_sel [] [0, 1] rfl rfl rfl rfl
    · refine ⟨fun l h => (nomatch h), ?_⟩
      intro hp
      have hl : ls.length ≤ Go.maxLen := hp
      have hm := maxLen_eq
      rw [v101sr_vc]
      refine loopVC_st (S := Int) v101srb_m 2 (fun i => v101srb_fr ls n i) (fun i => v101srb_mem ls n i) (fun i => (ls.length - i).toNat) (fun i => 0 ≤ i ∧ i ≤ ls.length ∧ idxN (sesP n) (ls.drop i.toNat) i = idxN (sesP n) ls 0) rfl ⟨0, ⟨by simp, by simp, by simp⟩, rfl, rfl⟩ ?_
      rintro i ⟨h0, h1, h2⟩
      refine (v101srb_vc ls n i _ _).mpr ?_
      refine cnd_iff.2 ⟨fun hi => ?_, fun hi => ?_⟩
      · have hi : i < ls.length := of_decide_eq_true hi
        have hs := idxN_step (p := sesP n) (l := ls) (i := i) h0 hi (RTy.zero .lease)
        rw [wrap_id (n := i + 1) (by omega) (by omega)]
        refine ⟨⟨h0, hi⟩, cnd_iff.2 ⟨fun hb => ?_, fun hb => ?_⟩⟩
        · have hb : (sesP n) (ls.getD i.toNat (RTy.zero .lease)) = true := hb
          rw [← h2, hs, hb]
          exact ends_sel [] [0, 1] rfl rfl rfl rfl
        · have hb : (sesP n) (ls.getD i.toNat (RTy.zero .lease)) = false := hb
          refine ⟨i + 1, ⟨by omega, by omega, ?_⟩, by omega, rfl, rfl⟩
          rw [← h2, hs, hb]; rfl
      · have hi : ¬ i < ls.length := of_decide_eq_false hi
        rw [← h2, List.drop_eq_nil_of_le (by omega)]
        exact ends_sel [] [0, 1] rfl rfl rfl rfl
    · refine ⟨fun l h => (nomatch h), ?_⟩
      intro hp
      have hl : ls.length ≤ Go.maxLen := hp
      have hm := maxLen_eq
      rw [v101cr_vc]
      refine loopVC_st (S := Int) v101crb_m 2 (fun i => v101crb_fr ls n i) (fun i => v101crb_mem ls n i) (fun i => (ls.length - i).toNat) (fun i => 0 ≤ i ∧ i ≤ ls.length ∧ idxN (carP n) (ls.drop i.toNat) i = idxN (carP n) ls 0) rfl ⟨0, ⟨by simp, by simp, by simp⟩, rfl, rfl⟩ ?_
      rintro i ⟨h0, h1, h2⟩
      refine (v101crb_vc ls n i _ _).mpr ?_
      refine cnd_iff.2 ⟨fun hi => ?_, fun hi => ?_⟩
      · have hi : i < ls.length := of_decide_eq_true hi
        have hs := idxN_step (p := carP n) (l := ls) (i := i) h0 hi (RTy.zero .lease)
        rw [wrap_id (n := i + 1) (by omega) (by omega)]
        refine ⟨⟨h0, hi⟩, cnd_iff.2 ⟨fun hb => ?_, fun hb => ?_⟩⟩
        · have hb : (carP n) (ls.getD i.toNat (RTy.zero .lease)) = true := hb
          rw [← h2, hs, hb]
          exact ends_sel [] [0, 1] rfl rfl rfl rfl
        · have hb : (carP n) (ls.getD i.toNat (RTy.zero .lease)) = false := hb
          refine ⟨i + 1, ⟨by omega, by omega, ?_⟩, by omega, rfl, rfl⟩
          rw [← h2, hs, hb]; rfl
      · have hi : ¬ i < ls.length := of_decide_eq_false hi
        rw [← h2, List.drop_eq_nil_of_le (by omega)]
        exact ends_sel [] [0, 1] rfl rfl rfl rfl
  · cases h
theorem tb38_ok : GamOk Try.prog eid (gam tb38) := gam_cons h101 tb37_ok
theorem h90 : Holds Try.prog eid 90 (goodTS) := by
  refine hold tb38_ok Try.func90 (by kernel_rfl) ?_ (by kernel_rfl)
  intro xs M t h
  unfold goodTS at h
  split at h
  · rename_i k vs
    obtain ⟨⟨c, q⟩, hq, h1⟩ := Option.bind_eq_some_iff.1 h
    clear h
    obtain ⟨l, hl, h⟩ := Option.bind_eq_some_iff.1 h1
    clear h1
    split at h <;> cases h
    rename_i e
    simp only at e
    subst e
    cases tabOf_eq hq
    cases Lw.Lease.of_eq hl
    refine ⟨fun l h => (nomatch h), ?_⟩
    intro hp
    rw [v90e_vc]
    clear hq hl hp
    repeat' first
      | (refine ends_sel [] [0] rfl rfl (congrArg (fun b : Bool => [vb b]) ?_) rfl; unfold goodL; simp only [*, Bool.and_true, Bool.true_and, Bool.false_and, Bool.and_false]; done)
      | refine cnd_iff.2 ⟨fun _ => ?_, fun _ => ?_⟩
  · rename_i k vs ls
    obtain ⟨⟨c, q⟩, hq, h1⟩ := Option.bind_eq_some_iff.1 h
    clear h
    obtain ⟨l, hl, h⟩ := Option.bind_eq_some_iff.1 h1
    clear h1
    split at h <;> cases h
    rename_i e
    simp only at e
    subst e
    cases tabOf_eq hq
    cases Lw.Lease.of_eq hl
    refine ⟨fun l h => (nomatch h), ?_⟩
    intro hp
    rw [v90r_vc]
    clear hq hl hp
    repeat' first
      | (refine ends_sel [] [0, 1] rfl rfl (congrArg (fun b : Bool => [vb b]) ?_) rfl; unfold goodL; simp only [*, Bool.and_true, Bool.true_and, Bool.false_and, Bool.and_false]; done)
      | refine cnd_iff.2 ⟨fun _ => ?_, fun _ => ?_⟩
  · cases h
theorem tb39_ok : GamOk Try.prog eid (gam tb39) := gam_cons h90 tb38_ok
theorem h91 : Holds Try.prog eid 91 (findS) := by
  refine hold tb39_ok Try.func91 (by kernel_rfl) ?_ (by kernel_rfl)
  intro xs M t h
  unfold findS at h
  split at h
  · rename_i k vs cap
    obtain ⟨⟨c, q⟩, hq, h1⟩ := Option.bind_eq_some_iff.1 h
    clear h
    obtain ⟨p, hpr, h⟩ := Option.bind_eq_some_iff.1 h1
    clear h1
    split at h <;> cases h
    rename_i e
    simp only at e
    subst e
    cases tabOf_eq hq
    rcases predOf_eq hpr with ⟨rfl, l, rfl, rfl⟩ | ⟨rfl, n, rfl, rfl⟩ | ⟨rfl, n, rfl, rfl⟩
    · refine ⟨fun l h => (nomatch h), ?_⟩
      intro hp
      rw [v91pe_vc]
      exact ends_sel [] [0, 1] rfl rfl rfl rfl
    · refine ⟨fun l h => (nomatch h), ?_⟩
      intro hp
      rw [v91se_vc]
      exact ends_sel [] [0, 1] rfl rfl rfl rfl
    · refine ⟨fun l h => (nomatch h), ?_⟩
      intro hp
      rw [v91ce_vc]
      exact ends_sel [] [0, 1] rfl rfl rfl rfl
  · rename_i k vs cap ls
    obtain ⟨⟨c, q⟩, hq, h1⟩ := Option.bind_eq_some_iff.1 h
    clear h
    obtain ⟨p, hpr, h⟩ := Option.bind_eq_some_iff.1 h1
    clear h1
    split at h <;> cases h
    rename_i e
    simp only at e
    subst e
    cases tabOf_eq hq
    rcases predOf_eq hpr with ⟨rfl, l, rfl, rfl⟩ | ⟨rfl, n, rfl, rfl⟩ | ⟨rfl, n, rfl, rfl⟩
    · refine ⟨fun l h => (nomatch h), ?_⟩
      intro hp
      rw [v91pr_vc]
      exact ⟨hp, ends_sel [] [0, 1, 2] rfl rfl rfl rfl⟩
    · refine ⟨fun l h => (nomatch h), ?_⟩
      intro hp
      rw [v91sr_vc]
      exact ⟨hp, ends_sel [] [0, 1, 2] rfl rfl rfl rfl⟩
    · refine ⟨fun l h => (nomatch h), ?_⟩
      intro hp
      rw [v91cr_vc]
      exact ⟨hp, ends_sel [] [0, 1, 2] rfl rfl rfl rfl⟩
  · cases h
theorem tb40_ok : GamOk Try.prog eid (gam tb40) := gam_cons h91 tb39_ok
theorem h68 : Holds Try.prog eid 68 (newTS) := by
  refine hold tb40_ok Try.func68 (by kernel_rfl) ?_ (by kernel_rfl)
  intro xs M t h
  unfold newTS at h
  split at h
  case h_2 => cases h
  obtain ⟨c, hc, h1⟩ := Option.bind_eq_some_iff.1 h
  clear h
  cases h1
  cases Lw.Config.of_eq hc
  refine ⟨fun l h => (nomatch h), ?_⟩
  intro hp
  rw [v68_vc]
  exact ends_sel [] [1] rfl rfl rfl rfl
theorem tb41_ok : GamOk Try.prog eid (gam tb41) := gam_cons h68 tb40_ok
theorem h70 : Holds Try.prog eid 70 (putTS) := by
  refine hold tb41_ok Try.func70 (by kernel_rfl) ?_ (by kernel_rfl)
  intro xs M t h
  unfold putTS at h
  split at h
  · rename_i k vs
    obtain ⟨⟨c, q⟩, hq, h1⟩ := Option.bind_eq_some_iff.1 h
    clear h
    obtain ⟨l, hl, h⟩ := Option.bind_eq_some_iff.1 h1
    clear h1
    split at h <;> cases h
    rename_i e
    simp only at e
    subst e
    cases tabOf_eq hq
    cases Lw.Lease.of_eq hl
    refine ⟨br_upd, ?_⟩
    intro hp
    rw [v70e_vc]
    have hQ := clampI_range (lo := 1) (hi := 8) (by decide) c.quota
    refine cnd_iff.2 ⟨fun hg => ?_, fun hg => cnd_iff.2 ⟨fun hz => ?_, fun hz => ⟨by simp [bigRow], ?_⟩⟩⟩
    · have hg : goodL c l = false := by simpa using hg
      simp only [BT.ev, hg, cond_false]
      exact ends_sel [] [0] rfl rfl rfl rfl
    · exfalso
      have : ¬ 0 < quotaI c := by simpa using hz
      exact this (by unfold quotaI; omega)
    · have hg : goodL c l = true := by simpa using hg
      simp only [BT.ev, hg, cond_true]
      exact ends_sel [] [0, 3] rfl rfl rfl rfl
  · rename_i k vs ls
    obtain ⟨⟨c, q⟩, hq, h1⟩ := Option.bind_eq_some_iff.1 h
    clear h
    obtain ⟨l, hl, h⟩ := Option.bind_eq_some_iff.1 h1
    clear h1
    split at h
    case h_2 => cases h
    rename_i e
    simp only at e
    subst e
    cases hb : (goodL c l && decide (idxN (putP l) ls 0 ≥ 0)) <;> simp only [hb, cond_true, cond_false] at h <;> cases h
    rw [Bool.and_eq_true] at hb
    cases tabOf_eq hq
    cases Lw.Lease.of_eq hl
    refine ⟨fun l h => (nomatch h), ?_⟩
    intro hp
    rw [v70r_vc]
    refine cnd_iff.2 ⟨fun hg => absurd hg (by rw [hb.1]; simp), fun _ => ⟨hp, cnd_iff.2 ⟨fun _ => ?_, fun hz => absurd (hz.symm.trans hb.2) (by simp)⟩⟩⟩
    exact ends_sel [] [0, 1] rfl rfl rfl rfl
  · cases h
theorem tb42_ok : GamOk Try.prog eid (gam tb42) := gam_cons h70 tb41_ok
theorem h94 : Holds Try.prog eid 94 (atTS) := by
  refine hold tb42_ok Try.func94 (by kernel_rfl) ?_ (by kernel_rfl)
  intro xs M t h
  unfold atTS at h
  split at h
  · rename_i n vs ls
    obtain ⟨⟨c, q⟩, hq, h1⟩ := Option.bind_eq_some_iff.1 h
    clear h
    split at h1 <;> cases h1
    rename_i e
    simp only at e
    subst e
    cases tabOf_eq hq
    refine ⟨br_none, ?_⟩
    intro hp
    rw [v94_vc]
    refine cnd_iff.2 ⟨fun hn => ?_, fun hn => ?_⟩
    · simp only [BT.ev, hn, cond_true]
      exact ends_sel [] [0, 1] rfl rfl rfl rfl
    · simp only [BT.ev, hn, cond_false] at hp ⊢
      have hp : n < ls.length := hp
      have hn : ¬ n < 0 := of_decide_eq_false hn
      exact ⟨⟨by omega, hp⟩, ends_sel [] [0, 1] rfl rfl rfl rfl⟩
  · cases h
theorem tb43_ok : GamOk Try.prog eid (gam tb43) := gam_cons h94 tb42_ok
theorem h95 : Holds Try.prog eid 95 (sesTS) := by
  refine hold tb43_ok Try.func95 (by kernel_rfl) ?_ (by kernel_rfl)
  intro xs M t h
  unfold sesTS at h
  split at h
  · rename_i n vs ls
    obtain ⟨⟨c, q⟩, hq, h1⟩ := Option.bind_eq_some_iff.1 h
    clear h
    split at h1 <;> cases h1
    rename_i e
    simp only at e
    subst e
    cases tabOf_eq hq
    refine ⟨fun l h => (nomatch h), ?_⟩
    intro hp
    rw [v95_vc]
    exact ⟨hp, ends_sel [] [0, 1] rfl rfl rfl rfl⟩
  · cases h
theorem tb44_ok : GamOk Try.prog eid (gam tb44) := gam_cons h95 tb43_ok
theorem h72 : Holds Try.prog eid 72 (getTS sesP) := by
  refine hold tb44_ok Try.func72 (by kernel_rfl) ?_ (by kernel_rfl)
  intro xs M t h
  unfold getTS at h
  split at h
  · rename_i n vs ls
    obtain ⟨⟨c, q⟩, hq, h1⟩ := Option.bind_eq_some_iff.1 h
    clear h
    split at h1 <;> cases h1
    rename_i e
    simp only at e
    subst e
    cases tabOf_eq hq
    refine ⟨br_none, ?_⟩
    intro hp
    rw [v72_vc]
    have hl : ls.length ≤ Go.maxLen := by
      cases hn : decide (idxN (sesP n) ls 0 < 0) <;> simp only [BT.ev, hn, cond_true, cond_false] at hp <;> exact hp
    refine ⟨hl, cnd_iff.2 ⟨fun hn => ?_, fun hn => ?_⟩⟩
    · simp only [BT.ev, hn, cond_true]
      exact ends_sel [] [0, 1] rfl rfl rfl rfl
    · simp only [BT.ev, hn, cond_false]
      have hn : ¬ idxN (sesP n) ls 0 < 0 := of_decide_eq_false hn
      have hr := idxN_range (p := sesP n) (l := ls) (i := 0) (by omega)
      exact ⟨by omega, ends_sel [] [0, 1] rfl rfl rfl rfl⟩
  · cases h
theorem tb45_ok : GamOk Try.prog eid (gam tb45) := gam_cons h72 tb44_ok
theorem h73 : Holds Try.prog eid 73 (getTS carP) := by
  refine hold tb45_ok Try.func73 (by kernel_rfl) ?_ (by kernel_rfl)
  intro xs M t h
  unfold getTS at h
  split at h
  · rename_i n vs ls
    obtain ⟨⟨c, q⟩, hq, h1⟩ := Option.bind_eq_some_iff.1 h
    clear h
    split at h1 <;> cases h1
    rename_i e
    simp only at e
    subst e
    cases tabOf_eq hq
    refine ⟨br_none, ?_⟩
    intro hp
    rw [v73_vc]
    have hl : ls.length ≤ Go.maxLen := by
      cases hn : decide (idxN (carP n) ls 0 < 0) <;> simp only [BT.ev, hn, cond_true, cond_false] at hp <;> exact hp
    refine ⟨hl, cnd_iff.2 ⟨fun hn => ?_, fun hn => ?_⟩⟩
    · simp only [BT.ev, hn, cond_true]
      exact ends_sel [] [0, 1] rfl rfl rfl rfl
    · simp only [BT.ev, hn, cond_false]
      have hn : ¬ idxN (carP n) ls 0 < 0 := of_decide_eq_false hn
      have hr := idxN_range (p := carP n) (l := ls) (i := 0) (by omega)
      exact ⟨by omega, ends_sel [] [0, 1] rfl rfl rfl rfl⟩
  · cases h
theorem tb46_ok : GamOk Try.prog eid (gam tb46) := gam_cons h73 tb45_ok
theorem h97 : Holds Try.prog eid 97 (cloneS) := by
  refine hold tb46_ok Try.func97 (by kernel_rfl) ?_ (by kernel_rfl)
  intro xs M t h
  unfold cloneS at h
  split at h <;> cases h
  rename_i ls
  refine ⟨fun l h => (nomatch h), ?_⟩
  intro hp
  have hp : ls.length ≤ bigRow := hp
  rw [v97_vc]
  intro b hb
  refine cnd_iff.2 ⟨fun hc => ?_, fun hc => ?_⟩
  · have hb : b = true := by simpa using hc
    have hz := (by assumption : b = true → ls.length = 0) hb
    obtain rfl : ls = [] := List.eq_nil_of_length_eq_zero hz
    exact ends_sel [.slot 0 .lease] [0, 1] rfl rfl rfl rfl
  · exact ⟨by simpa using hp, ends_sel [] [0, 2] rfl rfl rfl rfl⟩
theorem tb47_ok : GamOk Try.prog eid (gam tb47) := gam_cons h97 tb46_ok
theorem h74 : Holds Try.prog eid 74 (listTS) := by
  refine hold tb47_ok Try.func74 (by kernel_rfl) ?_ (by kernel_rfl)
  intro xs M t h
  unfold listTS at h
  split at h
  · rename_i vs ls
    obtain ⟨⟨c, q⟩, hq, h1⟩ := Option.bind_eq_some_iff.1 h
    clear h
    split at h1 <;> cases h1
    rename_i e
    simp only at e
    subst e
    cases tabOf_eq hq
    refine ⟨fun l h => (nomatch h), ?_⟩
    intro hp
    rw [v74_vc]
    exact ⟨hp, ends_sel [] [0, 1, 2] rfl rfl rfl rfl⟩
  · cases h
theorem tb48_ok : GamOk Try.prog eid (gam tb48) := gam_cons h74 tb47_ok
theorem h69 : Holds Try.prog eid 69 (s69) := by
  refine hold tb48_ok Try.func69 (by kernel_rfl) ?_ (by kernel_rfl)
  intro xs M t h
  unfold s69 at h
  split at h
  case h_2 => cases h
  cases h
  refine ⟨fun l h => (nomatch h), ?_⟩
  intro hp
  rw [v69_vc]
  exact ends_v rfl rfl
theorem tb49_ok : GamOk Try.prog eid (gam tb49) := gam_cons h69 tb48_ok
theorem h71 : Holds Try.prog eid 71 (s71) := by
  refine hold tb49_ok Try.func71 (by kernel_rfl) ?_ (by kernel_rfl)
  intro xs M t h
  unfold s71 at h
  split at h
  case h_2 => cases h
  cases h
  refine ⟨fun l h => (nomatch h), ?_⟩
  intro hp
  rw [v71_vc]
  exact ends_v rfl rfl
theorem tb50_ok : GamOk Try.prog eid (gam tb50) := gam_cons h71 tb49_ok
theorem h35 : Holds Try.prog eid 35 (s35) := by
  refine hold tb50_ok Try.func35 (by kernel_rfl) ?_ (by kernel_rfl)
  intro xs M t h
  unfold s35 at h
  split at h
  case h_2 => cases h
  cases h
  refine ⟨fun l h => (nomatch h), ?_⟩
  intro hp
  rw [v35_vc]
  exact ⟨by decide, by decide, by decide, by unfold bigRow; decide, ends_pl (congrArg PC.bool (by decide +kernel))⟩
theorem tb51_ok : GamOk Try.prog eid (gam tb51) := gam_cons h35 tb50_ok
theorem h11 : Holds Try.prog eid 11 (s11) := by
  refine hold tb51_ok Try.func11 (by kernel_rfl) ?_ (by kernel_rfl)
  intro xs M t h
  unfold s11 at h
  split at h
  case h_2 => cases h
  rename_i csc n
  obtain ⟨c, hcc, h1⟩ := Option.bind_eq_some_iff.1 h
  clear h
  have h := h1
  clear h1
  cases h
  cases Lw.Config.of_eq hcc
  clear hcc
  refine ⟨fun l h => (nomatch h), ?_⟩
  intro hp
  rw [v11_vc]
  rw [beq_self_eq_true, beq_self_eq_true]
  exact ends_pl rfl
theorem tb52_ok : GamOk Try.prog eid (gam tb52) := gam_cons h11 tb51_ok
end Go.Proofs.Ytijcloeapcapiaa
