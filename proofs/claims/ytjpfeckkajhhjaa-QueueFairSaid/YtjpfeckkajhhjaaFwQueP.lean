/- The functions of this group answer so. -/
import Derived.Test.YtjpfeckkajhhjaaFwQuePV
import Derived.Test.YtjpfeckkajhhjaaFwQue
set_option linter.unusedVariables false
set_option linter.unusedSimpArgs false
set_option maxRecDepth 20000
set_option maxHeartbeats 4000000
namespace Go.Proofs.Ytjpfeckkajhhjaa
open Lw
attribute [local irreducible] Lw.vc Lw.vcFunc
theorem idx_append {α : Type} {p : α → Bool} (m : List α) : ∀ (ls : List α) (i : Int), 0 ≤ i → idxG p ls i ≥ 0 → idxG p (ls ++ m) i = idxG p ls i
  | [], i, _, h => by simp [idxG] at h
  | x :: r, i, h0, h => by
    rw [List.cons_append]
    unfold idxG at h ⊢
    cases hp : p x with
    | true => rfl
    | false =>
      rw [hp] at h
      simp only [cond_false] at h ⊢
      exact idx_append m r (i + 1) (by omega) h
theorem idx_none {α : Type} {p : α → Bool} {x : α} (hx : p x = false) : ∀ (ls : List α) (i : Int), 0 ≤ i → idxG p ls i < 0 → idxG p (ls ++ [x]) i < 0
  | [], i, _, h => by simp [idxG, hx]
  | y :: r, i, h0, h => by
    rw [List.cons_append]
    unfold idxG at h ⊢
    cases hp : p y with
    | true => rw [hp] at h; simp only [cond_true] at h; omega
    | false =>
      rw [hp] at h
      simp only [cond_false] at h ⊢
      exact idx_none hx r (i + 1) (by omega) h
theorem idx_new {α : Type} {p : α → Bool} {x : α} (hx : p x = true) : ∀ (ls : List α) (i : Int), 0 ≤ i → idxG p ls i < 0 → idxG p (ls ++ [x]) i = i + ls.length
  | [], i, _, h => by simp [idxG, hx]
  | y :: r, i, h0, h => by
    rw [List.cons_append]
    unfold idxG at h ⊢
    cases hp : p y with
    | true => rw [hp] at h; simp only [cond_true] at h; omega
    | false =>
      rw [hp] at h
      simp only [cond_false] at h ⊢
      rw [idx_new hx r (i + 1) (by omega) h, List.length_cons]
      omega
theorem idxG_cons {α : Type} (p : α → Bool) (x : α) (r : List α) (i : Int) : idxG p (x :: r) i = bif p x then i else idxG p r (i + 1) := rfl
theorem idx_shift {α : Type} {p : α → Bool} : ∀ (ls : List α) (i : Int), 0 ≤ i → idxG p ls (i + 1) ≥ 0 → idxG p ls i ≥ 0 ∧ idxG p ls (i + 1) = idxG p ls i + 1
  | [], i, _, h => by simp [idxG] at h
  | x :: r, i, h0, h => by
    rw [idxG_cons] at h
    rw [idxG_cons, idxG_cons]
    cases hp : p x with
    | true => exact ⟨h0, rfl⟩
    | false =>
      rw [hp] at h
      simp only [cond_false] at h ⊢
      exact idx_shift r (i + 1) (by omega) h
theorem idx_erase {α : Type} {p : α → Bool} : ∀ (ls : List α) (j : Nat) (i : Int), (∀ x, ls[j]? = some x → p x = false) → 0 ≤ i → idxG p ls i ≥ 0 → idxG p (ls.take j ++ ls.drop (j + 1)) i ≥ 0 ∧ idxG p (ls.take j ++ ls.drop (j + 1)) i ≤ idxG p ls i
  | [], j, i, _, _, h => by simp [idxG] at h
  | x :: r, 0, i, hj, h0, h => by
    have hx := hj x rfl
    rw [idxG_cons, hx, cond_false] at h
    rw [List.take_zero, List.nil_append, show (x :: r).drop (0 + 1) = r from rfl, idxG_cons, hx, cond_false]
    have := idx_shift r i h0 h
    omega
  | x :: r, j + 1, i, hj, h0, h => by
    rw [List.take_succ_cons, List.cons_append, show (x :: r).drop (j + 1 + 1) = r.drop (j + 1) from rfl, idxG_cons, idxG_cons]
    rw [idxG_cons] at h
    cases hp : p x with
    | true => simp only [cond_true]; omega
    | false =>
      rw [hp] at h
      simp only [cond_false] at h ⊢
      exact idx_erase r j (i + 1) (fun y hy => hj y (by simpa using hy)) (by omega) h
theorem put_idx {r : Int} {ls : List Lw.Ask} {x : Lw.Ask} {s : Int} (h : idxG (askP s) ls 0 ≥ 0) : idxG (askP s) (qputL r ls x) 0 = idxG (askP s) ls 0 := by
  unfold qputL
  split
  · exact idx_append [x] ls 0 (by omega) h
  · rfl
theorem put_none {r : Int} {ls : List Lw.Ask} {x : Lw.Ask} {s : Int} (hx : x.session ≠ s) (h : idxG (askP s) ls 0 < 0) : idxG (askP s) (qputL r ls x) 0 < 0 := by
  unfold qputL
  split
  · exact idx_none (by unfold askP; simpa using hx) ls 0 (by omega) h
  · exact h
theorem put_len {r : Int} {ls : List Lw.Ask} {x : Lw.Ask} : (qputL r ls x).length ≤ ls.length + 1 := by
  unfold qputL
  split
  · simp
  · omega
theorem drop_idx {ls : List Lw.Ask} {s d : Int} (hd : d ≠ s) (h : idxG (askP s) ls 0 ≥ 0) : (idxG (askP s) (qdropL ls d) 0 ≥ 0 ∧ idxG (askP s) (qdropL ls d) 0 ≤ idxG (askP s) ls 0) ∧ (qdropL ls d).length ≤ ls.length := by
  unfold qdropL
  split
  · rename_i hj
    refine ⟨?_, cutL_len ls _ (by omega)⟩
    rcases idxG_spec (p := askP d) ls 0 with ⟨h1, _⟩ | ⟨j, y, h1, hy, hp⟩
    · omega
    · have e : cutL ls (idxG (askP d) ls 0) (idxG (askP d) ls 0 + 1) = ls.take j ++ ls.drop (j + 1) := by
        unfold cutL
        rw [show (idxG (askP d) ls 0).toNat = j by omega, show (idxG (askP d) ls 0 + 1).toNat = j + 1 by omega]
      rw [e]
      refine idx_erase ls j 0 (fun x hx => ?_) (by omega) h
      rw [hy] at hx; cases hx
      unfold askP at hp ⊢
      rw [beq_iff_eq] at hp
      rw [hp]; simpa using hd
  · exact ⟨⟨h, by omega⟩, by omega⟩
theorem h20 : Holds Try.prog eid 20 (s20) := by
  refine hold tb44_ok Try.func20 (by kernel_rfl) ?_ (by kernel_rfl)
  intro xs M t h
  unfold s20 at h
  split at h
  case h_2 => cases h
  cases h
  refine ⟨fun l h => (nomatch h), ?_⟩
  intro hp
  rw [v20_vc]
  exact ⟨by decide +kernel, by decide +kernel, by decide +kernel, by decide +kernel, ⟨by decide +kernel, by decide +kernel⟩, by decide +kernel, by decide +kernel, ends_pl (congrArg PC.bool (by decide +kernel))⟩
theorem tb45_ok : GamOk Try.prog eid (gam tb45) := gam_cons h20 tb44_ok
theorem h7 : Holds Try.prog eid 7 (s7) := by
  refine hold tb45_ok Try.func7 (by kernel_rfl) ?_ (by kernel_rfl)
  intro xs M t h
  unfold s7 at h
  split at h
  case h_2 => cases h
  rename_i csa
  obtain ⟨a, hca, h1⟩ := Option.bind_eq_some_iff.1 h
  clear h
  have h := h1
  clear h1
  cases h
  cases Lw.Ask.of_eq hca
  clear hca
  refine ⟨fun l h => (nomatch h), ?_⟩
  intro hp
  rw [v7_vc]
  have e : qputL (roomI 3) [] a = [a] := rfl
  rw [e]
  exact ⟨by simp [bigRow], by simp [bigRow], cnd_iff.2 ⟨fun h => absurd h (by simp), fun _ => ⟨by simp, by simp, by simp [bigRow], cnd_iff.2 ⟨fun _ => ⟨by simp, ends_pl (congrArg PC.bool (pcsEq_self (Lw.Ask.enc a)))⟩, fun h => absurd h (by simp)⟩⟩⟩⟩
theorem tb46_ok : GamOk Try.prog eid (gam tb46) := gam_cons h7 tb45_ok
theorem h6 : Holds Try.prog eid 6 (fairS) := by
  refine hold tb46_ok Try.func6 (by kernel_rfl) ?_ (by kernel_rfl)
  intro xs M t h
  unfold fairS at h
  split at h
  case h_2 => cases h
  rename_i be af k dr
  obtain ⟨a, ha, h1⟩ := Option.bind_eq_some_iff.1 h
  clear h
  cases Lw.Ask.of_eq ha
  cases h1
  refine ⟨updN, ?_⟩
  intro hp
  obtain ⟨hb, hf, hd⟩ := (hp : be.length ≤ Go.maxLen ∧ af.length ≤ Go.maxLen ∧ dr.length ≤ Go.maxLen)
  have hm := maxLen_eq
  have hbig : bigRow = 1073741824 := rfl
  rw [v6_vc]
  refine loopVC_selD (S := List Lw.Ask × Int) v6b_m (fun q => v6b_fr be af a dr q.1 q.2) (fun q => v6b_mem be af a dr q.1 q.2) (fun q => (be.length - q.2).toNat) (fun q => (0 ≤ q.2 ∧ q.2 ≤ be.length) ∧ ((q.1.length : Int) ≤ q.2 ∧ q.2 ≤ 30) ∧ idxG (askP a.session) q.1 0 < 0) ⟨[], [some 0, some 1, some 2], ([], 0), ⟨by simp, by simp, by simp [idxG]⟩, _, rfl, rfl, rfl, rfl⟩ ?_
  rintro ⟨ls, i⟩ ⟨⟨h0, h1⟩, ⟨hl, hl2⟩, hn⟩
  simp only at h0 h1 hl hl2 hn
  refine (v6b_vc be af a dr ls i _ _).mpr ?_
  rw [c_and]
  refine cnd_iff.2 ⟨fun hi => ?_, fun hi => ?_⟩
  · have hi : i < be.length ∧ i < 30 := by rw [Bool.and_eq_true, decide_eq_true_eq, decide_eq_true_eq] at hi; exact hi
    rw [wrap_id (n := i + 1) (by omega) (by omega)]
    refine ⟨⟨h0, hi.1⟩, cnd_iff.2 ⟨fun hs => ⟨⟨h0, hi.1⟩, by omega, ?_⟩, fun hs => ?_⟩⟩
    · have hs := bne_iff_ne.1 hs
      have hq := put_len (r := 64) (ls := ls) (x := (be.getD i.toNat (RTy.zero .ask) : Lw.Ask))
      exact ⟨[], [some 0, some 1, some 3], (qputL 64 ls (be.getD i.toNat (RTy.zero .ask)), i + 1), ⟨⟨⟨by simp only; omega, by simp only; omega⟩, ⟨by simp only; omega, by simp only; omega⟩, put_none hs hn⟩, by simp only; omega⟩, _, rfl, rfl, rfl, rfl⟩
    · exact ⟨[], [some 0, some 1, some 2], (ls, i + 1), ⟨⟨⟨by simp only; omega, by simp only; omega⟩, ⟨by simp only; omega, by simp only; omega⟩, hn⟩, by simp only; omega⟩, _, rfl, rfl, rfl, rfl⟩
  · have e : qputE 64 ls a = 0 := (if_neg (by omega)).trans (if_neg (by omega))
    have e2 : qputL 64 ls a = ls ++ [a] := if_pos e
    rw [e, e2]
    refine ⟨by omega, by omega, cnd_iff.2 ⟨fun h => absurd h (by decide), fun _ => ?_⟩⟩
    have hx := idx_new (p := askP a.session) (x := a) (by simp [askP]) ls 0 (by omega) hn
    refine loopVC_selD (S := List Lw.Ask × Int × Int) v6c_m (fun q => v6c_fr be af a dr q.1 q.2.1 q.2.2) (fun q => v6c_mem be af a dr q.1 q.2.1 q.2.2) (fun q => (af.length - q.2.2).toNat) (fun q => (0 ≤ q.2.2 ∧ q.2.2 ≤ af.length) ∧ ((q.1.length : Int) ≤ 31 + q.2.2 ∧ q.2.2 ≤ 60) ∧ idxG (askP a.session) q.1 0 = q.2.1 ∧ 0 ≤ q.2.1) ⟨[], [some 0, some 1, some 4], (ls ++ [a], (ls.length : Int), 0), ⟨by simp, ⟨by simp only [List.length_append, List.length_cons, List.length_nil]; omega, by simp⟩, by simp only; omega, by simp only; omega⟩, _, rfl, rfl, rfl, rfl⟩ ?_
    rintro ⟨ms, n, j⟩ ⟨⟨j0, j1⟩, ⟨hml, hj2⟩, hn, hn0⟩
    simp only at j0 j1 hml hj2 hn hn0
    refine (v6c_vc be af a dr ms n j _ _).mpr ?_
    rw [c_and]
    refine cnd_iff.2 ⟨fun hj => ?_, fun hj => ends_pl rfl⟩
    have hj : j < af.length ∧ j < 60 := by rw [Bool.and_eq_true, decide_eq_true_eq, decide_eq_true_eq] at hj; exact hj
    rw [wrap_id (n := j + 1) (by omega) (by omega)]
    generalize (af.getD j.toNat (RTy.zero .ask) : Lw.Ask) = x
    have hq := put_len (r := 64) (ls := ms) (x := x)
    have hq2 := put_idx (r := 64) (x := x) (show idxG (askP a.session) ms 0 ≥ 0 by omega)
    generalize qputL 64 ms x = t at hq hq2 ⊢
    have same : (bif !decide (idxG (askP a.session) t 0 ≥ 0) then true else decide (mm true (idxG (askP a.session) t 0) 0 > n)) = false := by
      rw [decide_eq_true (show idxG (askP a.session) t 0 ≥ 0 by omega), mm_max]
      exact decide_eq_false (by omega)
    refine ⟨⟨j0, hj.1⟩, by omega, cnd_iff.2 ⟨fun hd1 => ⟨⟨j0, of_decide_eq_true hd1⟩, cnd_iff.2 ⟨fun hd2 => ⟨⟨j0, of_decide_eq_true hd1⟩, by omega, ?_⟩, fun hd2 => ⟨by omega, ?_⟩⟩⟩, fun hd1 => ⟨by omega, ?_⟩⟩⟩
    · have hd2 := bne_iff_ne.1 hd2
      have hk := drop_idx (ls := t) hd2 (by omega)
      refine ⟨by omega, ?_⟩
      rw [show (bif !decide (idxG (askP a.session) (qdropL t (dr.getD j.toNat (RTy.zero .int))) 0 ≥ 0) then true else decide (mm true (idxG (askP a.session) (qdropL t (dr.getD j.toNat (RTy.zero .int))) 0) 0 > n)) = false by
        rw [decide_eq_true hk.1.1, mm_max]
        exact decide_eq_false (by omega)]
      refine cnd_iff.2 ⟨fun h => absurd h (by decide), fun _ => ?_⟩
      rw [mm_max, Int.max_eq_left hk.1.1]
      exact ⟨[], [some 0, some 1, some 4], (qdropL t (dr.getD j.toNat (RTy.zero .int)), idxG (askP a.session) (qdropL t (dr.getD j.toNat (RTy.zero .int))) 0, j + 1), ⟨⟨⟨by simp only; omega, by simp only; omega⟩, ⟨by simp only; omega, by simp only; omega⟩, rfl, hk.1.1⟩, by simp only; omega⟩, _, rfl, rfl, rfl, rfl⟩
    · rw [same, mm_max, Int.max_eq_left (by omega)]
      exact cnd_iff.2 ⟨fun h => absurd h (by decide), fun _ => ⟨[], [some 0, some 1, some 3], (t, idxG (askP a.session) t 0, j + 1), ⟨⟨⟨by simp only; omega, by simp only; omega⟩, ⟨by simp only; omega, by simp only; omega⟩, rfl, by simp only; omega⟩, by simp only; omega⟩, _, rfl, rfl, rfl, rfl⟩⟩
    · rw [same, mm_max, Int.max_eq_left (by omega)]
      exact cnd_iff.2 ⟨fun h => absurd h (by decide), fun _ => ⟨[], [some 0, some 1, some 3], (t, idxG (askP a.session) t 0, j + 1), ⟨⟨⟨by simp only; omega, by simp only; omega⟩, ⟨by simp only; omega, by simp only; omega⟩, rfl, by simp only; omega⟩, by simp only; omega⟩, _, rfl, rfl, rfl, rfl⟩⟩
theorem tb47_ok : GamOk Try.prog eid (gam tb47) := gam_cons h6 tb46_ok
end Go.Proofs.Ytjpfeckkajhhjaa
