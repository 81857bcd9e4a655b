/- The functions of this group answer so. -/
import Derived.Test.YtjgmkpidiaojkaaGreatFwTblV
import Derived.Test.YtjgmkpidiaojkaaGreatFwLow
set_option linter.unusedVariables false
set_option linter.unusedSimpArgs false
set_option maxRecDepth 20000
set_option maxHeartbeats 4000000
namespace Go.Proofs.YtjgmkpidiaojkaaGreat
open Lw
attribute [local irreducible] Lw.vc Lw.vcFunc
theorem sameG_self {α : Type} {e : α → List PC} : ∀ a : List α, sameG e a a = true
  | [] => rfl
  | x :: r => by unfold sameG; rw [pcsEq_self, sameG_self r]; rfl
theorem sameG_len {α : Type} {e : α → List PC} : ∀ {a b : List α}, a.length ≠ b.length → sameG e a b = false
  | [], [], h => absurd rfl h
  | [], _ :: _, _ => rfl
  | _ :: _, [], _ => rfl
  | x :: a, y :: b, h => by unfold sameG; rw [sameG_len (a := a) (b := b) (fun k => h (by simp [k]))]; simp
theorem sameG_step {α : Type} {e : α → List PC} {a b : List α} {i : Nat} (h : i < a.length) (k : i < b.length) (z : α) : sameG e (a.drop i) (b.drop i) = (pcsEq (e (a.getD i z)) (e (b.getD i z)) && sameG e (a.drop (i + 1)) (b.drop (i + 1))) := by
  rw [List.drop_eq_getElem_cons h, List.drop_eq_getElem_cons k, List.getD_eq_getElem?_getD, List.getD_eq_getElem?_getD, List.getElem?_eq_getElem h, List.getElem?_eq_getElem k]
  rfl
theorem intC_eq {vs : List Cell} {n : Int} (h : intC vs = some n) : vs = [.pl (.int .i64 n)] := by
  unfold intC at h
  split at h <;> cases h
  rfl
theorem idxG_step {α : Type} {p : α → Bool} {l : List α} {i : Int} (h0 : 0 ≤ i) (h1 : i < l.length) (z : α) : idxG p (l.drop i.toNat) i = bif p (l.getD i.toNat z) then i else idxG p (l.drop (i + 1).toNat) (i + 1) := by
  rw [List.drop_eq_getElem_cons (show i.toNat < l.length by omega), List.getD_eq_getElem?_getD, List.getElem?_eq_getElem (show i.toNat < l.length by omega), show (i + 1).toNat = i.toNat + 1 by omega]
  rfl
theorem idxG_range {α : Type} {p : α → Bool} : ∀ {l : List α} {i : Int}, 0 ≤ i → idxG p l i = -1 ∨ (i ≤ idxG p l i ∧ idxG p l i < i + l.length)
  | [], i, _ => .inl rfl
  | x :: r, i, h => by
    unfold idxG
    cases p x
    · rcases idxG_range (p := p) (l := r) (i := i + 1) (by omega) with k | k
      · exact .inl k
      · right
        simp only [cond_false, List.length_cons]
        omega
    · right
      simp only [cond_true, List.length_cons]
      omega
theorem lastG_step {α : Type} {p : α → Bool} {ls : List α} {k : Nat} (h : k < ls.length) (z : α) : lastG p ls (k + 1) = bif p (ls.getD k z) then (k : Int) else lastG p ls k := by
  rw [lastG, List.getElem?_eq_getElem h, List.getD_eq_getElem?_getD, List.getElem?_eq_getElem h]; rfl
theorem lastG_spec {α : Type} {p : α → Bool} {ls : List α} : ∀ n : Nat, (lastG p ls n = -1 ∧ ∀ (j : Nat) (x : α), j < n → ls[j]? = some x → p x = false) ∨ (∃ (j : Nat) (x : α), lastG p ls n = j ∧ j < n ∧ ls[j]? = some x ∧ p x = true)
  | 0 => .inl ⟨rfl, fun j x h => absurd h (Nat.not_lt_zero j)⟩
  | n + 1 => by
    unfold lastG
    cases hx : ls[n]? with
    | none =>
      simp only
      rcases lastG_spec (p := p) (ls := ls) n with ⟨h, k⟩ | ⟨j, x, h, hj, k, q⟩
      · exact .inl ⟨h, fun j x hj hjx => k j x (Nat.lt_of_le_of_ne (Nat.le_of_lt_succ hj) (fun e => by subst e; rw [hx] at hjx; cases hjx)) hjx⟩
      · exact .inr ⟨j, x, h, by omega, k, q⟩
    | some y =>
      simp only
      cases hp : p y with
      | true => exact .inr ⟨n, y, by simp, by omega, hx, hp⟩
      | false =>
        simp only [cond_false]
        rcases lastG_spec (p := p) (ls := ls) n with ⟨h, k⟩ | ⟨j, x, h, hj, k, q⟩
        · refine .inl ⟨h, fun j x hj hjx => ?_⟩
          by_cases e : j = n
          · subst e; rw [hx] at hjx; cases hjx; exact hp
          · exact k j x (by omega) hjx
        · exact .inr ⟨j, x, h, by omega, k, q⟩
theorem idxG_spec {α : Type} {p : α → Bool} : ∀ (ls : List α) (i : Int), (idxG p ls i = -1 ∧ ∀ (j : Nat) (x : α), ls[j]? = some x → p x = false) ∨ (∃ (j : Nat) (x : α), idxG p ls i = i + j ∧ ls[j]? = some x ∧ p x = true)
  | [], i => .inl ⟨rfl, fun j x h => by simp at h⟩
  | y :: r, i => by
    unfold idxG
    cases hp : p y with
    | true => exact .inr ⟨0, y, by simp, rfl, hp⟩
    | false =>
      simp only [cond_false]
      rcases idxG_spec (p := p) r (i + 1) with ⟨h, k⟩ | ⟨j, x, h, k, q⟩
      · refine .inl ⟨h, fun j x hj => ?_⟩
        cases j with
        | zero => simp at hj; subst hj; exact hp
        | succ j => exact k j x (by simpa using hj)
      · exact .inr ⟨j + 1, x, by rw [h]; omega, by simpa using k, q⟩
def uniq {α : Type} (p : α → Bool) (ls : List α) : Prop := ∀ (i j : Nat) (x y : α), ls[i]? = some x → ls[j]? = some y → p x = true → p y = true → i = j
theorem lastG_idx {α : Type} {p : α → Bool} {ls : List α} (h : uniq p ls) : lastG p ls ls.length = idxG p ls 0 := by
  rcases lastG_spec (p := p) (ls := ls) ls.length with ⟨h1, k1⟩ | ⟨j, x, h1, hj, k1, q1⟩ <;> rcases idxG_spec (p := p) ls 0 with ⟨h2, k2⟩ | ⟨j', x', h2, k2, q2⟩
  · rw [h1, h2]
  · have := k1 j' x' (List.getElem?_eq_some_iff.1 k2).1 k2
    rw [q2] at this; cases this
  · have := k2 j x k1
    rw [q1] at this; cases this
  · rw [h1, h2, h j j' x x' k1 k2 q1 q2]; omega
theorem nodup_inj {α : Type} {f : α → Int} {ls : List α} (h : (ls.map f).Nodup) {i j : Nat} {x y : α} (hi : ls[i]? = some x) (hj : ls[j]? = some y) (e : f x = f y) : i = j := by
  have h1 : (ls.map f)[i]? = some (f x) := by simp [hi]
  have h2 : (ls.map f)[j]? = some (f y) := by simp [hj]
  exact (List.getElem?_inj (List.getElem?_eq_some_iff.1 h1).1 h).1 (h1.trans (by rw [e, h2]))
theorem map_set_same {α : Type} {f : α → Int} {ls : List α} {i : Nat} {x l : α} (hx : ls[i]? = some x) (e : f l = f x) : (ls.set i l).map f = ls.map f := by
  apply List.ext_getElem?
  intro k
  rw [List.getElem?_map, List.getElem?_map, List.getElem?_set]
  by_cases hk : i = k
  · subst hk
    rw [if_pos rfl, if_pos (List.getElem?_eq_some_iff.1 hx).1, hx, Option.map_some, Option.map_some, e]
  · rw [if_neg hk]
theorem cutL_sub {α : Type} (ls : List α) (i : Int) (h : 0 ≤ i) : (cutL ls i (i + 1)).Sublist ls := by
  unfold cutL
  conv => rhs; rw [← List.take_append_drop i.toNat ls]
  refine List.Sublist.append (List.Sublist.refl _) ?_
  rw [show (i + 1).toNat = i.toNat + 1 by omega]
  exact List.drop_sublist_drop_left ls (Nat.le_succ _)
theorem cutL_eq {α : Type} (ls : List α) (i : Int) (h : 0 ≤ i) (h1 : i < ls.length) : ([] ++ List.take (i.toNat - Int.toNat 0) (List.drop 0 ls)) ++ List.take (Int.toNat (ls.length : Int) - (i + 1).toNat) (List.drop (i + 1).toNat ls) = cutL ls i (i + 1) := by
  unfold cutL
  simp only [List.nil_append, Int.toNat_zero, Nat.sub_zero, List.drop_zero, Int.toNat_natCast]
  rw [List.take_of_length_le (l := List.drop (i + 1).toNat ls) (by rw [List.length_drop]; omega)]
theorem cutL_len {α : Type} (ls : List α) (i : Int) (h : 0 ≤ i) : (cutL ls i (i + 1)).length ≤ ls.length := (cutL_sub ls i h).length_le
theorem splice_len {α : Type} {xs ys : List α} {lo : Nat} (h : lo + ys.length ≤ xs.length) : (splice xs lo ys).length = xs.length := by
  unfold splice
  simp only [List.length_append, List.length_take, List.length_drop]
  omega
theorem del_row {α : Type} (ls z : List α) {i j : Nat} (hij : i ≤ j) (hj : j ≤ ls.length) : (splice (splice ls i ((ls.drop j).take (ls.length - j))) (i + (ls.length - j)) z).take (i + (ls.length - j)) = ls.take i ++ ls.drop j := by
  have hd : (ls.drop j).take (ls.length - j) = ls.drop j := List.take_of_length_le (by rw [List.length_drop]; omega)
  rw [hd]
  have hl : (ls.take i ++ ls.drop j).length = i + (ls.length - j) := by simp only [List.length_append, List.length_take, List.length_drop]; omega
  unfold splice
  rw [List.take_append_of_le_length (by simp only [List.length_append, List.length_take, List.length_drop]; omega), List.take_append_of_le_length (by simp only [List.length_append, List.length_take, List.length_drop]; omega), List.take_take, Nat.min_self, ← hl, List.take_left]
theorem ends_to {k0 : Nat} {r : SR} {args M : Mem} {v w : AV} (h : v = w) (k : Lw.Ends k0 r args w M) : Lw.Ends k0 r args v M := h ▸ k
theorem updL {p : Option Prop} {v : AV} {n M l0 : Mem} (h : l0.length = M.length) : ∀ l, (BT.leaf ⟨p, v, some l0, n⟩ : BT SR).ev.upd = some l → l.length = M.length := fun l h' => by
  cases h'; exact h
theorem updN {p : Option Prop} {v : AV} {n M : Mem} : ∀ l, (BT.leaf ⟨p, v, none, n⟩ : BT SR).ev.upd = some l → l.length = M.length := fun l h' => by
  cases h'
theorem br_none {b : Bool} {p p' : Option Prop} {v v' : AV} {n n' M : Mem} : ∀ l, (BT.br b (.leaf ⟨p, v, none, n⟩) (.leaf ⟨p', v', none, n'⟩) : BT SR).ev.upd = some l → l.length = M.length := fun l h => by
  cases b <;> cases h
theorem countL_succ {l : List Lw.Lease} {n : Int} {i : Nat} (h : i < l.length) (z : Lw.Lease) : countL (l.take (i + 1)) n = countL (l.take i) n + (bif (l.getD i z).ask.fleet == n then 1 else 0) := by
  unfold countL
  rw [List.take_add_one, List.getElem?_eq_getElem h, List.getD_eq_getElem?_getD, List.getElem?_eq_getElem h, List.countP_append]
  cases hc : l[i].ask.fleet == n <;> simp [hc]
theorem countL_le {l : List Lw.Lease} {n : Int} (i : Nat) : 0 ≤ countL (l.take i) n ∧ countL (l.take i) n ≤ i := by
  unfold countL
  have := List.countP_le_length (p := fun x : Lw.Lease => x.ask.fleet == n) (l := l.take i)
  rw [List.length_take] at this
  omega
theorem h157 : Holds Tryz.prog eid 157 (s157) := by
  refine hold tb58_ok Tryz.func157 (by kernel_rfl) ?_ (by kernel_rfl)
  intro xs M t h
  unfold s157 at h
  split at h
  case h_2 => cases h
  rename_i n k
  cases h
  refine ⟨fun l h => (nomatch h), ?_⟩
  intro hp
  rw [v157_vc]
  exact ends_pl rfl
theorem tb59_ok : GamOk Tryz.prog eid (gam tb59) := gam_cons h157 tb58_ok
theorem h214 : Holds Tryz.prog eid 214 (s214) := by
  refine hold tb59_ok Tryz.func214 (by kernel_rfl) ?_ (by kernel_rfl)
  intro xs M t h
  unfold s214 at h
  split at h
  case h_2 => cases h
  rename_i csc
  obtain ⟨c, hcc, h1⟩ := Option.bind_eq_some_iff.1 h
  clear h
  have h := h1
  clear h1
  cases h
  cases Lw.Config.of_eq hcc
  clear hcc
  refine ⟨fun l h => (nomatch h), ?_⟩
  intro hp
  rw [v214_vc]
  exact ends_pl (congrArg _ (mm_clamp (by decide) _))
theorem tb60_ok : GamOk Tryz.prog eid (gam tb60) := gam_cons h214 tb59_ok
theorem h156 : Holds Tryz.prog eid 156 (s156) := by
  refine hold tb60_ok Tryz.func156 (by kernel_rfl) ?_ (by kernel_rfl)
  intro xs M t h
  unfold s156 at h
  split at h
  case h_2 => cases h
  rename_i n k
  cases h
  refine ⟨fun l h => (nomatch h), ?_⟩
  intro hp
  rw [v156_vc]
  exact ends_pl (congrArg PC.bool (by unfold inB; rw [c_and]))
theorem tb61_ok : GamOk Tryz.prog eid (gam tb61) := gam_cons h156 tb60_ok
theorem h213 : Holds Tryz.prog eid 213 (countS) := by
  refine hold tb61_ok Tryz.func213 (by kernel_rfl) ?_ (by kernel_rfl)
  intro xs M t h
  unfold countS at h
  split at h
  · cases h
    rename_i n
    refine ⟨fun l h => (nomatch h), ?_⟩
    intro hp
    rw [v213e_vc]
    refine loopVC_st (S := Unit) v213eb_m 0 (fun _ => v213eb_fr n) (fun _ => v213eb_mem n) (fun _ => 0) (fun _ => True) rfl ⟨(), trivial, rfl, rfl⟩ ?_
    intro _ _
    refine (v213eb_vc n _ _).mpr ?_
    exact ends_pl rfl
  · cases h
    rename_i n l
    refine ⟨fun l h => (nomatch h), ?_⟩
    intro hp
    have hl : l.length ≤ Go.maxLen := hp
    rw [v213r_vc]
    refine loopVC_st (S := Int × Int) v213rb_m 1 (fun s => v213rb_fr l n s.1 s.2) (fun s => v213rb_mem l n s.1 s.2) (fun s => (l.length - s.1).toNat) (fun s => 0 ≤ s.1 ∧ s.1 ≤ l.length ∧ s.2 = countL (l.take s.1.toNat) n) rfl ⟨(0, 0), ⟨by simp, by simp, by simp [countL]⟩, rfl, rfl⟩ ?_
    rintro ⟨i, acc⟩ ⟨h0, h1, h2⟩
    simp only at h0 h1 h2
    refine (v213rb_vc l n i acc _ _).mpr ?_
    have hm := maxLen_eq
    have hc := countL_le (l := l) (n := n) i.toNat
    have hi1 : (i + 1).toNat = i.toNat + 1 := by omega
    have hs (h : i < l.length) := countL_succ (l := l) (n := n) (i := i.toNat) (by omega) (RTy.zero .lease)
    by_cases hi : i < l.length
    · rw [wrap_id (n := acc + 1) (by omega) (by omega), wrap_id (n := i + 1) (by omega) (by omega)]
      refine cnd_iff.2 ⟨fun _ => ⟨⟨h0, hi⟩, cnd_iff.2 ⟨fun hb => ⟨(i + 1, acc + 1), ⟨by simp only; omega, by simp only; omega, ?_⟩, by simp only; omega, rfl, rfl⟩, fun hb => ⟨(i + 1, acc), ⟨by simp only; omega, by simp only; omega, ?_⟩, by simp only; omega, rfl, rfl⟩⟩⟩, fun h => absurd hi (of_decide_eq_false h)⟩
      · simp only; rw [hi1, hs hi, hb, h2]; rfl
      · simp only; rw [hi1, hs hi, hb, h2]; simp
    · refine cnd_iff.2 ⟨fun h => absurd (of_decide_eq_true h) hi, fun _ => ?_⟩
      rw [h2, List.take_of_length_le (by omega)]
      exact ends_sel [] [0] rfl rfl rfl rfl
  · cases h
theorem tb62_ok : GamOk Tryz.prog eid (gam tb62) := gam_cons h213 tb61_ok
theorem h182 : Holds Tryz.prog eid 182 (freeS) := by
  refine hold tb62_ok Tryz.func182 (by kernel_rfl) ?_ (by kernel_rfl)
  intro xs M t h
  unfold freeS at h
  split at h
  · obtain ⟨c, hc, h⟩ := Option.bind_eq_some_iff.1 h
    cases h; cases Lw.Config.of_eq hc
    refine ⟨fun l h => (nomatch h), ?_⟩
    intro hp
    rw [v182e_vc]
    exact ends_pl rfl
  · obtain ⟨c, hc, h⟩ := Option.bind_eq_some_iff.1 h
    cases h; cases Lw.Config.of_eq hc
    refine ⟨fun l h => (nomatch h), ?_⟩
    intro hp
    rw [v182r_vc]
    exact ⟨hp, ends_sel [] [0] rfl rfl rfl rfl⟩
  · cases h
theorem tb63_ok : GamOk Tryz.prog eid (gam tb63) := gam_cons h182 tb62_ok
theorem h85 : Holds Tryz.prog eid 85 (s85) := by
  refine hold tb63_ok Tryz.func85 (by kernel_rfl) ?_ (by kernel_rfl)
  intro xs M t h
  unfold s85 at h
  split at h
  case h_2 => cases h
  rename_i csc csa
  obtain ⟨c, hcc, h1⟩ := Option.bind_eq_some_iff.1 h
  clear h
  have h := h1
  clear h1
  obtain ⟨a, hca, h1⟩ := Option.bind_eq_some_iff.1 h
  clear h
  have h := h1
  clear h1
  cases h
  cases Lw.Config.of_eq hcc
  clear hcc
  cases Lw.Ask.of_eq hca
  clear hca
  refine ⟨fun l h => (nomatch h), ?_⟩
  intro hp
  rw [v85_vc]
  rw [mm_clamp (show (1 : Int) ≤ 64 by decide), mm_clamp (show (1 : Int) ≤ 8 by decide)]
  unfold mayA
  repeat' first
    | (refine ends_pl ?_; simp only [*, Bool.and_true, Bool.true_and, Bool.false_and, Bool.and_false, Bool.and_assoc]; done)
    | refine cnd_iff.2 ⟨fun _ => ?_, fun _ => ?_⟩
theorem tb64_ok : GamOk Tryz.prog eid (gam tb64) := gam_cons h85 tb63_ok
theorem tabOf_eq {vs : List Cell} {c : Config} {x : Cell} (h : tabOf vs = some (c, x)) : vs = tabC c x := by
  unfold tabOf at h
  obtain ⟨d, hd, h⟩ := Option.bind_eq_some_iff.1 h
  split at h
  · rename_i y hy
    cases h
    have h1 := Lw.Config.of_eq hd
    rw [← List.take_append_drop 18 vs, h1, hy]
    rfl
  · cases h
theorem isRow1_eq {x : Cell} (h : isRow1 x = true) : x = .row 1 := by
  unfold isRow1 at h
  split at h
  · rfl
  · cases h
theorem isRow2_eq {x : Cell} (h : isRow2 x = true) : x = .row 2 := by
  unfold isRow2 at h
  split at h
  · rfl
  · cases h
theorem tabS1_eq {vs : List Cell} {k : Config → Option (BT SR)} {t : BT SR} (h : tabS1 vs k = some t) : ∃ c, vs = tabC c (.row 1) ∧ k c = some t := by
  unfold tabS1 at h
  obtain ⟨⟨c, x⟩, hq, h⟩ := Option.bind_eq_some_iff.1 h
  simp only at h
  cases hx : isRow1 x <;> rw [hx] at h
  · cases h
  · exact ⟨c, by rw [tabOf_eq hq, isRow1_eq hx], h⟩
theorem tabS2_eq {vs : List Cell} {k : Config → Option (BT SR)} {t : BT SR} (h : tabS2 vs k = some t) : ∃ c, vs = tabC c (.row 2) ∧ k c = some t := by
  unfold tabS2 at h
  obtain ⟨⟨c, x⟩, hq, h⟩ := Option.bind_eq_some_iff.1 h
  simp only at h
  cases hx : isRow2 x <;> rw [hx] at h
  · cases h
  · exact ⟨c, by rw [tabOf_eq hq, isRow2_eq hx], h⟩
theorem predL_eq {k : Nat} {vs : List Cell} {p : Lw.Lease → Bool} (h : predL k vs = some p) : (k = 184 ∧ ∃ l : Lw.Lease, vs = l.enc.map .pl ∧ p = putP l) ∨ (k = 176 ∧ ∃ l : Lw.Lease, vs = l.enc.map .pl ∧ p = setP l) ∨ (k = 210 ∧ ∃ n : Int, vs = [.pl (.int .i64 n)] ∧ p = sesP n) := by
  unfold predL at h
  cases h0 : Nat.beq k 184 <;> rw [h0] at h <;> simp only [cond_true, cond_false] at h
  case true =>
    have e := Nat.eq_of_beq_eq_true h0
    obtain ⟨l, hl, h⟩ := Option.bind_eq_some_iff.1 h
    cases h
    exact .inl ⟨e, l, Lw.Lease.of_eq hl, rfl⟩
  cases h1 : Nat.beq k 176 <;> rw [h1] at h <;> simp only [cond_true, cond_false] at h
  case true =>
    have e := Nat.eq_of_beq_eq_true h1
    obtain ⟨l, hl, h⟩ := Option.bind_eq_some_iff.1 h
    cases h
    exact .inr (.inl ⟨e, l, Lw.Lease.of_eq hl, rfl⟩)
  cases h2 : Nat.beq k 210 <;> rw [h2] at h <;> simp only [cond_true, cond_false] at h
  case true =>
    have e := Nat.eq_of_beq_eq_true h2
    obtain ⟨n, hn, h⟩ := Option.bind_eq_some_iff.1 h
    cases h
    exact .inr (.inr (⟨e, n, intC_eq hn, rfl⟩))
  cases h
theorem h184 : Holds Tryz.prog eid 184 (clo_pp) := by
  refine hold tb64_ok Tryz.func184 (by kernel_rfl) ?_ (by kernel_rfl)
  intro xs M t h
  unfold clo_pp at h
  split at h
  case h_2 => cases h
  obtain ⟨x, hx, h1⟩ := Option.bind_eq_some_iff.1 h
  clear h
  obtain ⟨l, hl, h⟩ := Option.bind_eq_some_iff.1 h1
  clear h1
  cases h
  cases Lw.Lease.of_eq hx
  cases Lw.Lease.of_eq hl
  refine ⟨fun l h => (nomatch h), ?_⟩
  intro hp
  rw [v184_vc]
  try rw [c_or]
  try rw [c_and, c_and]
  exact ends_sel [] [0] rfl rfl rfl rfl
theorem tb65_ok : GamOk Tryz.prog eid (gam tb65) := gam_cons h184 tb64_ok
theorem h176 : Holds Tryz.prog eid 176 (clo_qq) := by
  refine hold tb65_ok Tryz.func176 (by kernel_rfl) ?_ (by kernel_rfl)
  intro xs M t h
  unfold clo_qq at h
  split at h
  case h_2 => cases h
  obtain ⟨x, hx, h1⟩ := Option.bind_eq_some_iff.1 h
  clear h
  obtain ⟨l, hl, h⟩ := Option.bind_eq_some_iff.1 h1
  clear h1
  cases h
  cases Lw.Lease.of_eq hx
  cases Lw.Lease.of_eq hl
  refine ⟨fun l h => (nomatch h), ?_⟩
  intro hp
  rw [v176_vc]
  try rw [c_or]
  try rw [c_and, c_and]
  exact ends_sel [] [0] rfl rfl rfl rfl
theorem tb66_ok : GamOk Tryz.prog eid (gam tb66) := gam_cons h176 tb65_ok
theorem h210 : Holds Tryz.prog eid 210 (clo_ss) := by
  refine hold tb66_ok Tryz.func210 (by kernel_rfl) ?_ (by kernel_rfl)
  intro xs M t h
  unfold clo_ss at h
  split at h
  case h_2 => cases h
  obtain ⟨x, hx, h1⟩ := Option.bind_eq_some_iff.1 h
  clear h
  obtain ⟨l, hl, h⟩ := Option.bind_eq_some_iff.1 h1
  clear h1
  cases h
  cases Lw.Lease.of_eq hx
  cases intC_eq hl
  refine ⟨fun l h => (nomatch h), ?_⟩
  intro hp
  rw [v210_vc]
  try rw [c_or]
  try rw [c_and, c_and]
  exact ends_sel [] [0] rfl rfl rfl rfl
theorem tb67_ok : GamOk Tryz.prog eid (gam tb67) := gam_cons h210 tb66_ok
theorem h211 : Holds Tryz.prog eid 211 (idxLS) := by
  refine hold tb67_ok Tryz.func211 (by kernel_rfl) ?_ (by kernel_rfl)
  intro xs M t h
  unfold idxLS at h
  split at h
  case h_2 => cases h
  rename_i k l vs
  obtain ⟨p, hpr, h1⟩ := Option.bind_eq_some_iff.1 h
  clear h
  cases h1
  rcases predL_eq hpr with ⟨rfl, n, rfl, rfl⟩ | ⟨rfl, n, rfl, rfl⟩ | ⟨rfl, n, rfl, rfl⟩
  · refine ⟨fun l h => (nomatch h), ?_⟩
    intro hp
    have hl : l.length ≤ Go.maxLen := hp
    rw [v211pp_vc]
    refine loopVC_st (S := Int) v211ppb_m 2 (fun i => v211ppb_fr l n i) (fun i => v211ppb_mem l n i) (fun i => (l.length - i).toNat) (fun i => 0 ≤ i ∧ i ≤ l.length ∧ idxG (putP n) l 0 = idxG (putP n) (l.drop i.toNat) i) rfl ⟨0, ⟨by simp, by simp, rfl⟩, rfl, rfl⟩ ?_
    rintro i ⟨h0, h1, h2⟩
    refine (v211ppb_vc l n i _ _).mpr ?_
    have hm := maxLen_eq
    by_cases hi : i < l.length
    · rw [wrap_id (n := i + 1) (by omega) (by omega)]
      have hs := idxG_step (p := putP n) h0 hi (RTy.zero .lease)
      refine cnd_iff.2 ⟨fun _ => ⟨⟨h0, hi⟩, cnd_iff.2 ⟨fun hb => ?_, fun hb => ⟨i + 1, ⟨by omega, by omega, ?_⟩, by omega, rfl, rfl⟩⟩⟩, fun h => absurd hi (of_decide_eq_false h)⟩
      · rw [h2, hs, hb]
        exact ends_sel [] [0, 1] rfl rfl rfl rfl
      · rw [h2, hs, hb]; rfl
    · refine cnd_iff.2 ⟨fun h => absurd (of_decide_eq_true h) hi, fun _ => ?_⟩
      rw [h2, List.drop_eq_nil_of_le (by omega)]
      exact ends_sel [] [0, 1] rfl rfl rfl rfl
  · refine ⟨fun l h => (nomatch h), ?_⟩
    intro hp
    have hl : l.length ≤ Go.maxLen := hp
    rw [v211qq_vc]
    refine loopVC_st (S := Int) v211qqb_m 2 (fun i => v211qqb_fr l n i) (fun i => v211qqb_mem l n i) (fun i => (l.length - i).toNat) (fun i => 0 ≤ i ∧ i ≤ l.length ∧ idxG (setP n) l 0 = idxG (setP n) (l.drop i.toNat) i) rfl ⟨0, ⟨by simp, by simp, rfl⟩, rfl, rfl⟩ ?_
    rintro i ⟨h0, h1, h2⟩
    refine (v211qqb_vc l n i _ _).mpr ?_
    have hm := maxLen_eq
    by_cases hi : i < l.length
    · rw [wrap_id (n := i + 1) (by omega) (by omega)]
      have hs := idxG_step (p := setP n) h0 hi (RTy.zero .lease)
      refine cnd_iff.2 ⟨fun _ => ⟨⟨h0, hi⟩, cnd_iff.2 ⟨fun hb => ?_, fun hb => ⟨i + 1, ⟨by omega, by omega, ?_⟩, by omega, rfl, rfl⟩⟩⟩, fun h => absurd hi (of_decide_eq_false h)⟩
      · rw [h2, hs, hb]
        exact ends_sel [] [0, 1] rfl rfl rfl rfl
      · rw [h2, hs, hb]; rfl
    · refine cnd_iff.2 ⟨fun h => absurd (of_decide_eq_true h) hi, fun _ => ?_⟩
      rw [h2, List.drop_eq_nil_of_le (by omega)]
      exact ends_sel [] [0, 1] rfl rfl rfl rfl
  · refine ⟨fun l h => (nomatch h), ?_⟩
    intro hp
    have hl : l.length ≤ Go.maxLen := hp
    rw [v211ss_vc]
    refine loopVC_st (S := Int) v211ssb_m 2 (fun i => v211ssb_fr l n i) (fun i => v211ssb_mem l n i) (fun i => (l.length - i).toNat) (fun i => 0 ≤ i ∧ i ≤ l.length ∧ idxG (sesP n) l 0 = idxG (sesP n) (l.drop i.toNat) i) rfl ⟨0, ⟨by simp, by simp, rfl⟩, rfl, rfl⟩ ?_
    rintro i ⟨h0, h1, h2⟩
    refine (v211ssb_vc l n i _ _).mpr ?_
    have hm := maxLen_eq
    by_cases hi : i < l.length
    · rw [wrap_id (n := i + 1) (by omega) (by omega)]
      have hs := idxG_step (p := sesP n) h0 hi (RTy.zero .lease)
      refine cnd_iff.2 ⟨fun _ => ⟨⟨h0, hi⟩, cnd_iff.2 ⟨fun hb => ?_, fun hb => ⟨i + 1, ⟨by omega, by omega, ?_⟩, by omega, rfl, rfl⟩⟩⟩, fun h => absurd hi (of_decide_eq_false h)⟩
      · rw [h2, hs, hb]
        exact ends_sel [] [0, 1] rfl rfl rfl rfl
      · rw [h2, hs, hb]; rfl
    · refine cnd_iff.2 ⟨fun h => absurd (of_decide_eq_true h) hi, fun _ => ?_⟩
      rw [h2, List.drop_eq_nil_of_le (by omega)]
      exact ends_sel [] [0, 1] rfl rfl rfl rfl
theorem tb68_ok : GamOk Tryz.prog eid (gam tb68) := gam_cons h211 tb67_ok
theorem h110 : Holds Tryz.prog eid 110 (cloneLS) := by
  refine hold tb68_ok Tryz.func110 (by kernel_rfl) ?_ (by kernel_rfl)
  intro xs M t h
  unfold cloneLS at h
  split at h <;> cases h
  rename_i ls
  refine ⟨fun l h => (nomatch h), ?_⟩
  intro hp
  have hp : ls.length ≤ bigRow := hp
  rw [v110_vc]
  intro b hb
  refine cnd_iff.2 ⟨fun hc => ?_, fun hc => ?_⟩
  · have hb : b = true := by simpa using hc
    have hz := (by assumption : b = true → ls.length = 0) hb
    obtain rfl : ls = [] := List.eq_nil_of_length_eq_zero hz
    exact ends_sel [.slot 0 .lease] [0, 1] rfl rfl rfl rfl
  · exact ⟨by simpa using hp, ends_sel [] [0, 2] rfl rfl rfl rfl⟩
theorem tb69_ok : GamOk Tryz.prog eid (gam tb69) := gam_cons h110 tb68_ok
theorem h185 : Holds Tryz.prog eid 185 (delLS) := by
  refine hold tb69_ok Tryz.func185 (by kernel_rfl) ?_ (by kernel_rfl)
  intro xs M t h
  unfold delLS at h
  split at h <;> cases h
  rename_i i j ls
  refine ⟨updL rfl, ?_⟩
  intro hp
  obtain ⟨⟨h0, h1⟩, h2, h3⟩ := (hp : (0 ≤ i ∧ i ≤ j) ∧ j ≤ ls.length ∧ ls.length ≤ bigRow)
  rw [v185_vc]
  simp only [Int.toNat_zero, Nat.sub_zero, Int.toNat_natCast]
  refine ⟨⟨⟨h0, h1⟩, h2, by omega⟩, cnd_iff.2 ⟨fun he => ?_, fun he => ?_⟩⟩
  · have he : i = j := beq_iff_eq.1 he
    subst he
    refine ends_selD [] [none, some 0] rfl rfl rfl ?_
    rw [show cutL ls i i = ls from List.take_append_drop _ _]; rfl
  · have ht : (List.take (ls.length - j.toNat) (List.drop j.toNat ls)).length = ls.length - j.toNat := by rw [List.length_take, List.length_drop]; omega
    have hL : (splice ls i.toNat (List.take (ls.length - j.toNat) (List.drop j.toNat ls))).length = ls.length := splice_len (by rw [ht]; omega)
    refine ⟨⟨⟨by omega, h0⟩, by omega⟩, ⟨⟨by omega, h2⟩, by omega⟩, ⟨by omega, ht⟩, ⟨⟨by omega, by omega⟩, by rw [hL]; omega⟩, by rw [hL]; omega, ?_⟩
    refine ends_selD [.cutS 0] [none, some 1] rfl rfl rfl ?_
    refine congrArg (fun q => [Blk.dead, Blk.row _ q]) ?_
    exact del_row ls _ (by omega) (by omega)
theorem tb70_ok : GamOk Tryz.prog eid (gam tb70) := gam_cons h185 tb69_ok
theorem h174 : Holds Tryz.prog eid 174 (goodTS) := by
  refine hold tb70_ok Tryz.func174 (by kernel_rfl) ?_ (by kernel_rfl)
  intro xs M t h
  unfold goodTS at h
  split at h
  · rename_i k
    obtain ⟨l, hl, h1⟩ := Option.bind_eq_some_iff.1 h
    clear h
    cases h1
    cases Lw.Lease.of_eq hl
    refine ⟨fun l h => (nomatch h), ?_⟩
    intro hp
    rw [v174n_vc]
    exact ends_pl rfl
  · rename_i k vs ls
    obtain ⟨c, rfl, h1⟩ := tabS1_eq h
    clear h
    obtain ⟨l, hl, h⟩ := Option.bind_eq_some_iff.1 h1
    clear h1
    cases h
    cases Lw.Lease.of_eq hl
    refine ⟨fun l h => (nomatch h), ?_⟩
    intro hp
    rw [v174_vc]
    repeat' first
      | refine cnd_iff.2 ⟨fun _ => ?_, fun _ => ?_⟩
      | refine ends_to (w := vb (goodL c l)) (congrArg (fun b => vb b) ?_) (ends_sel [] [0, 1] rfl rfl rfl rfl)
    all_goals (unfold goodL; simp only [*, Bool.true_and, Bool.false_and])
  · cases h
theorem tb71_ok : GamOk Tryz.prog eid (gam tb71) := gam_cons h174 tb70_ok
theorem h175 : Holds Tryz.prog eid 175 (findTS) := by
  refine hold tb71_ok Tryz.func175 (by kernel_rfl) ?_ (by kernel_rfl)
  intro xs M t h
  unfold findTS at h
  split at h
  · rename_i k cap
    obtain ⟨p, hpr, h1⟩ := Option.bind_eq_some_iff.1 h
    clear h
    cases h1
    rcases predL_eq hpr with ⟨rfl, n, rfl, rfl⟩ | ⟨rfl, n, rfl, rfl⟩ | ⟨rfl, n, rfl, rfl⟩
    · refine ⟨fun l h => (nomatch h), ?_⟩
      intro hp
      rw [v175ppn_vc]
      exact ends_sel [] [0] rfl rfl rfl rfl
    · refine ⟨fun l h => (nomatch h), ?_⟩
      intro hp
      rw [v175qqn_vc]
      exact ends_sel [] [0] rfl rfl rfl rfl
    · refine ⟨fun l h => (nomatch h), ?_⟩
      intro hp
      rw [v175ssn_vc]
      exact ends_sel [] [0] rfl rfl rfl rfl
  · rename_i k vs cap ls
    obtain ⟨c, rfl, h1⟩ := tabS2_eq h
    clear h
    obtain ⟨p, hpr, h⟩ := Option.bind_eq_some_iff.1 h1
    clear h1
    cases h
    rcases predL_eq hpr with ⟨rfl, n, rfl, rfl⟩ | ⟨rfl, n, rfl, rfl⟩ | ⟨rfl, n, rfl, rfl⟩
    · refine ⟨fun l h => (nomatch h), ?_⟩
      intro hp
      rw [v175pp_vc]
      exact ⟨hp, ends_sel [] [0, 1, 2] rfl rfl rfl rfl⟩
    · refine ⟨fun l h => (nomatch h), ?_⟩
      intro hp
      rw [v175qq_vc]
      exact ⟨hp, ends_sel [] [0, 1, 2] rfl rfl rfl rfl⟩
    · refine ⟨fun l h => (nomatch h), ?_⟩
      intro hp
      rw [v175ss_vc]
      exact ⟨hp, ends_sel [] [0, 1, 2] rfl rfl rfl rfl⟩
  · cases h
theorem tb72_ok : GamOk Tryz.prog eid (gam tb72) := gam_cons h175 tb71_ok
theorem h48 : Holds Tryz.prog eid 48 (newTS) := by
  refine hold tb72_ok Tryz.func48 (by kernel_rfl) ?_ (by kernel_rfl)
  intro xs M t h
  unfold newTS at h
  split at h
  case h_2 => cases h
  obtain ⟨c, hc, h1⟩ := Option.bind_eq_some_iff.1 h
  clear h
  cases h1
  cases Lw.Config.of_eq hc
  refine ⟨fun l h => (nomatch h), ?_⟩
  intro hp
  rw [v48_vc]
  exact ends_sel [.blk 1 18 .lease] [1, 2] rfl rfl rfl rfl
theorem tb73_ok : GamOk Tryz.prog eid (gam tb73) := gam_cons h48 tb72_ok
theorem h123 : Holds Tryz.prog eid 123 (putTS) := by
  refine hold tb73_ok Tryz.func123 (by kernel_rfl) ?_ (by kernel_rfl)
  intro xs M t h
  unfold putTS at h
  split at h
  · rename_i k
    obtain ⟨l, hl, h1⟩ := Option.bind_eq_some_iff.1 h
    clear h
    cases h1
    cases Lw.Lease.of_eq hl
    refine ⟨fun l h => (nomatch h), ?_⟩
    intro hp
    rw [v123n_vc]
    exact ends_pl rfl
  · rename_i k vs ls
    obtain ⟨c, rfl, h1⟩ := tabS1_eq h
    clear h
    obtain ⟨l, hl, h⟩ := Option.bind_eq_some_iff.1 h1
    clear h1
    cases h
    cases Lw.Lease.of_eq hl
    refine ⟨updL rfl, ?_⟩
    intro hp
    rw [v123_vc]
    have hp : ls.length + 1 ≤ bigRow := hp
    have hb : bigRow = 1073741824 := rfl
    have hm := maxLen_eq
    have hl : ls.length ≤ Go.maxLen := by omega
    refine cnd_iff.2 ⟨fun hg => ?_, fun hg => ⟨hl, cnd_iff.2 ⟨fun hi => ?_, fun hi => ⟨hl, cnd_iff.2 ⟨fun hq => ?_, fun hq => ⟨by simpa using hp, ?_⟩⟩⟩⟩⟩⟩
    · have e : putE c ls l = 1 := if_pos (by simpa using hg)
      have e2 : putLs c ls l = ls := if_neg (by rw [e]; decide)
      simp only [BT.ev, e, e2]
      exact ends_selD [] [some 0, none, some 1] rfl rfl rfl rfl
    · have e : putE c ls l = 7 := (if_neg (by simpa using hg)).trans (if_pos (of_decide_eq_true hi))
      have e2 : putLs c ls l = ls := if_neg (by rw [e]; decide)
      simp only [BT.ev, e, e2]
      exact ends_selD [] [some 0, none, some 1] rfl rfl rfl rfl
    · have e : putE c ls l = 5 := (if_neg (by simpa using hg)).trans ((if_neg (of_decide_eq_false hi)).trans (if_neg (by simpa using hq)))
      have e2 : putLs c ls l = ls := if_neg (by rw [e]; decide)
      simp only [BT.ev, e, e2]
      exact ends_selD [] [some 0, none, some 1] rfl rfl rfl rfl
    · have e : putE c ls l = 0 := (if_neg (by simpa using hg)).trans ((if_neg (of_decide_eq_false hi)).trans (if_pos (by simpa using hq)))
      have e2 : putLs c ls l = ls ++ [l] := if_pos e
      simp only [BT.ev, e, e2]
      exact ends_selD [] [some 0, none, some 4] rfl rfl rfl rfl
  · cases h
theorem tb74_ok : GamOk Tryz.prog eid (gam tb74) := gam_cons h123 tb73_ok
theorem h111 : Holds Tryz.prog eid 111 (setTS) := by
  refine hold tb74_ok Tryz.func111 (by kernel_rfl) ?_ (by kernel_rfl)
  intro xs M t h
  unfold setTS at h
  split at h
  · rename_i k
    obtain ⟨l, hl, h1⟩ := Option.bind_eq_some_iff.1 h
    clear h
    cases h1
    cases Lw.Lease.of_eq hl
    refine ⟨fun l h => (nomatch h), ?_⟩
    intro hp
    rw [v111n_vc]
    exact ends_pl rfl
  · rename_i k vs ls
    obtain ⟨c, rfl, h1⟩ := tabS1_eq h
    clear h
    obtain ⟨l, hl, h⟩ := Option.bind_eq_some_iff.1 h1
    clear h1
    cases h
    cases Lw.Lease.of_eq hl
    refine ⟨updL rfl, ?_⟩
    intro hp
    rw [v111_vc]
    have hl : ls.length ≤ Go.maxLen := hp
    have hr := idxG_range (p := setP l) (l := ls) (i := 0) (by omega)
    refine cnd_iff.2 ⟨fun hg => ?_, fun hg => ⟨hl, cnd_iff.2 ⟨fun hi => ?_, fun hi => ?_⟩⟩⟩
    · have e : setE c ls l = 1 := if_pos (by simpa using hg)
      have e2 : setLs c ls l = ls := if_neg (by rw [e]; decide)
      simp only [BT.ev, e, e2]
      exact ends_sel [] [0, 1] rfl rfl rfl rfl
    · have e : setE c ls l = 6 := (if_neg (by simpa using hg)).trans (if_pos (of_decide_eq_true hi))
      have e2 : setLs c ls l = ls := if_neg (by rw [e]; decide)
      simp only [BT.ev, e, e2]
      exact ends_sel [] [0, 1] rfl rfl rfl rfl
    · have hi' := of_decide_eq_false hi
      have e : setE c ls l = 0 := (if_neg (by simpa using hg)).trans (if_neg hi')
      have e2 : setLs c ls l = ls.set (idxG (setP l) ls 0).toNat l := if_pos e
      simp only [BT.ev, e, e2]
      exact ⟨by omega, ends_sel [] [0, 1] rfl rfl rfl rfl⟩
  · cases h
theorem tb75_ok : GamOk Tryz.prog eid (gam tb75) := gam_cons h111 tb74_ok
theorem h153 : Holds Tryz.prog eid 153 (atTS) := by
  refine hold tb75_ok Tryz.func153 (by kernel_rfl) ?_ (by kernel_rfl)
  intro xs M t h
  unfold atTS at h
  split at h
  · cases h
    rename_i n
    refine ⟨fun l h => (nomatch h), ?_⟩
    intro hp
    have hp : n < 0 := hp
    rw [v153n_vc]
    refine cnd_iff.2 ⟨fun _ => ends_v rfl rfl, fun h => absurd hp (of_decide_eq_false h)⟩
  · rename_i n vs ls
    obtain ⟨c, rfl, h1⟩ := tabS1_eq h
    clear h
    cases h1
    refine ⟨updN, ?_⟩
    intro hp
    have hp : n < ls.length := hp
    rw [v153_vc]
    refine cnd_iff.2 ⟨fun hn => ?_, fun hn => ?_⟩
    · have hn' := of_decide_eq_true hn
      simp only [BT.ev, if_pos hn', hn, Bool.not_true]
      exact ends_sel [] [0, 1] rfl rfl rfl rfl
    · have hn' : ¬ n < 0 := of_decide_eq_false hn
      simp only [BT.ev, if_neg hn', hn, Bool.not_false]
      exact ⟨⟨by omega, hp⟩, ends_sel [] [0, 1] rfl rfl rfl rfl⟩
  · cases h
theorem tb76_ok : GamOk Tryz.prog eid (gam tb76) := gam_cons h153 tb75_ok
theorem h154 : Holds Tryz.prog eid 154 (sesTS) := by
  refine hold tb76_ok Tryz.func154 (by kernel_rfl) ?_ (by kernel_rfl)
  intro xs M t h
  unfold sesTS at h
  split at h
  · rename_i n
    cases h
    refine ⟨fun l h => (nomatch h), ?_⟩
    intro hp
    rw [v154n_vc]
    exact ends_pl rfl
  · rename_i n vs ls
    obtain ⟨c, rfl, h1⟩ := tabS1_eq h
    clear h
    cases h1
    refine ⟨updN, ?_⟩
    intro hp
    rw [v154_vc]
    exact ⟨hp, ends_sel [] [0, 1] rfl rfl rfl rfl⟩
  · cases h
theorem tb77_ok : GamOk Tryz.prog eid (gam tb77) := gam_cons h154 tb76_ok
theorem h84 : Holds Tryz.prog eid 84 (getTS sesP) := by
  refine hold tb77_ok Tryz.func84 (by kernel_rfl) ?_ (by kernel_rfl)
  intro xs M t h
  unfold getTS at h
  split at h
  · rename_i n
    cases h
    refine ⟨fun l h => (nomatch h), ?_⟩
    intro hp
    rw [v84n_vc]
    exact ⟨by decide, ends_v rfl rfl⟩
  · rename_i n vs ls
    obtain ⟨c, rfl, h1⟩ := tabS1_eq h
    clear h
    cases h1
    refine ⟨updN, ?_⟩
    intro hp
    rw [v84_vc]
    have hl : ls.length ≤ Go.maxLen := hp
    have hr := idxG_range (p := sesP n) (l := ls) (i := 0) (by omega)
    refine ⟨hl, by omega, ?_⟩
    exact ends_sel [] [0, 1] rfl rfl rfl rfl
  · cases h
theorem tb78_ok : GamOk Tryz.prog eid (gam tb78) := gam_cons h84 tb77_ok
theorem h126 : Holds Tryz.prog eid 126 (endTS) := by
  refine hold tb78_ok Tryz.func126 (by kernel_rfl) ?_ (by kernel_rfl)
  intro xs M t h
  unfold endTS at h
  split at h
  · rename_i n
    cases h
    refine ⟨fun l h => (nomatch h), ?_⟩
    intro hp
    rw [v126n_vc]
    exact ⟨by decide, ends_v rfl rfl⟩
  · rename_i n vs ls
    obtain ⟨c, rfl, h1⟩ := tabS1_eq h
    clear h
    cases h1
    refine ⟨updL rfl, ?_⟩
    intro hp
    rw [v126_vc]
    have hp : ls.length ≤ bigRow := hp
    have hb : bigRow = 1073741824 := rfl
    have hm := maxLen_eq
    have hr := idxG_range (p := sesP n) (l := ls) (i := 0) (by omega)
    rw [wrap_id (n := idxG (sesP n) ls 0 + 1) (by omega) (by omega)]
    refine ⟨by omega, by omega, cnd_iff.2 ⟨fun hn => ?_, fun hn => ?_⟩⟩
    · have hn' : ¬ idxG (sesP n) ls 0 < 0 := by simpa using hn
      have e2 : endLs ls n = cutL ls (idxG (sesP n) ls 0) (idxG (sesP n) ls 0 + 1) := if_neg hn'
      simp only [BT.ev, e2]
      exact ⟨⟨by omega, by omega, by omega⟩, ends_selD [] [some 0, none, some 4] rfl rfl rfl rfl⟩
    · have hn' : idxG (sesP n) ls 0 < 0 := by simpa using hn
      have e2 : endLs ls n = ls := if_pos hn'
      simp only [BT.ev, e2]
      exact ends_selD [] [some 0, none, some 1] rfl rfl rfl rfl
  · cases h
theorem tb79_ok : GamOk Tryz.prog eid (gam tb79) := gam_cons h126 tb78_ok
theorem h54 : Holds Tryz.prog eid 54 (listTS) := by
  refine hold tb79_ok Tryz.func54 (by kernel_rfl) ?_ (by kernel_rfl)
  intro xs M t h
  unfold listTS at h
  split at h
  · cases h
    refine ⟨fun l h => (nomatch h), ?_⟩
    intro hp
    rw [v54n_vc]
    exact ends_v rfl rfl
  · rename_i vs ls
    obtain ⟨c, rfl, h1⟩ := tabS1_eq h
    clear h
    cases h1
    refine ⟨updN, ?_⟩
    intro hp
    rw [v54_vc]
    exact ⟨hp, ends_sel [] [0, 1, 2] rfl rfl rfl rfl⟩
  · cases h
theorem tb80_ok : GamOk Tryz.prog eid (gam tb80) := gam_cons h54 tb79_ok
theorem queS_eq {b : Nat} {vs : List Cell} {k : Int → Option (BT SR)} {t : BT SR} (h : queS b vs k = some t) : ∃ r, vs = queC r b ∧ k r = some t := by
  unfold queS at h
  obtain ⟨⟨r, x⟩, hq, h1⟩ := Option.bind_eq_some_iff.1 h
  clear h
  simp only at h1
  cases hx : Nat.beq x b <;> rw [hx] at h1
  · cases h1
  · have := Nat.eq_of_beq_eq_true hx
    subst this
    unfold queOf at hq
    split at hq <;> cases hq
    exact ⟨_, rfl, h1⟩
theorem firstA_drop {fl : List Int} {ls : List Lw.Ask} {i : Nat} (h : i < ls.length) (z : Lw.Ask) : firstA fl (ls.drop i) = bif inL fl (ls.getD i z).fleet then firstA fl (ls.drop (i + 1)) else (ls.getD i z, true) := by
  rw [List.drop_eq_getElem_cons h, List.getD_eq_getElem?_getD, List.getElem?_eq_getElem h]
  rfl
theorem predA_eq {k : Nat} {vs : List Cell} {p : Lw.Ask → Bool} (h : predA k vs = some p) : (k = 187 ∧ ∃ n : Int, vs = [.pl (.int .i64 n)] ∧ p = askP n) := by
  unfold predA at h
  cases h0 : Nat.beq k 187 <;> rw [h0] at h <;> simp only [cond_true, cond_false] at h
  case true =>
    have e := Nat.eq_of_beq_eq_true h0
    obtain ⟨n, hn, h⟩ := Option.bind_eq_some_iff.1 h
    cases h
    exact ⟨e, n, intC_eq hn, rfl⟩
  cases h
theorem h187 : Holds Tryz.prog eid 187 (clo_aa) := by
  refine hold tb80_ok Tryz.func187 (by kernel_rfl) ?_ (by kernel_rfl)
  intro xs M t h
  unfold clo_aa at h
  split at h
  case h_2 => cases h
  obtain ⟨x, hx, h1⟩ := Option.bind_eq_some_iff.1 h
  clear h
  obtain ⟨l, hl, h⟩ := Option.bind_eq_some_iff.1 h1
  clear h1
  cases h
  cases Lw.Ask.of_eq hx
  cases intC_eq hl
  refine ⟨fun l h => (nomatch h), ?_⟩
  intro hp
  rw [v187_vc]
  exact ends_sel [] [0] rfl rfl rfl rfl
theorem tb81_ok : GamOk Tryz.prog eid (gam tb81) := gam_cons h187 tb80_ok
theorem h186 : Holds Tryz.prog eid 186 (idxAS) := by
  refine hold tb81_ok Tryz.func186 (by kernel_rfl) ?_ (by kernel_rfl)
  intro xs M t h
  unfold idxAS at h
  split at h
  case h_2 => cases h
  rename_i k l vs
  obtain ⟨p, hpr, h1⟩ := Option.bind_eq_some_iff.1 h
  clear h
  cases h1
  rcases predA_eq hpr with ⟨rfl, n, rfl, rfl⟩
  · refine ⟨fun l h => (nomatch h), ?_⟩
    intro hp
    have hl : l.length ≤ Go.maxLen := hp
    rw [v186aa_vc]
    refine loopVC_st (S := Int) v186aab_m 2 (fun i => v186aab_fr l n i) (fun i => v186aab_mem l n i) (fun i => (l.length - i).toNat) (fun i => 0 ≤ i ∧ i ≤ l.length ∧ idxG (askP n) l 0 = idxG (askP n) (l.drop i.toNat) i) rfl ⟨0, ⟨by simp, by simp, rfl⟩, rfl, rfl⟩ ?_
    rintro i ⟨h0, h1, h2⟩
    refine (v186aab_vc l n i _ _).mpr ?_
    have hm := maxLen_eq
    by_cases hi : i < l.length
    · rw [wrap_id (n := i + 1) (by omega) (by omega)]
      have hs := idxG_step (p := askP n) h0 hi (RTy.zero .ask)
      refine cnd_iff.2 ⟨fun _ => ⟨⟨h0, hi⟩, cnd_iff.2 ⟨fun hb => ?_, fun hb => ⟨i + 1, ⟨by omega, by omega, ?_⟩, by omega, rfl, rfl⟩⟩⟩, fun h => absurd hi (of_decide_eq_false h)⟩
      · rw [h2, hs, hb]
        exact ends_sel [] [0, 1] rfl rfl rfl rfl
      · rw [h2, hs, hb]; rfl
    · refine cnd_iff.2 ⟨fun h => absurd (of_decide_eq_true h) hi, fun _ => ?_⟩
      rw [h2, List.drop_eq_nil_of_le (by omega)]
      exact ends_sel [] [0, 1] rfl rfl rfl rfl
theorem tb82_ok : GamOk Tryz.prog eid (gam tb82) := gam_cons h186 tb81_ok
theorem h125 : Holds Tryz.prog eid 125 (cloneAS) := by
  refine hold tb82_ok Tryz.func125 (by kernel_rfl) ?_ (by kernel_rfl)
  intro xs M t h
  unfold cloneAS at h
  split at h <;> cases h
  rename_i ls
  refine ⟨fun l h => (nomatch h), ?_⟩
  intro hp
  have hp : ls.length ≤ bigRow := hp
  rw [v125_vc]
  intro b hb
  refine cnd_iff.2 ⟨fun hc => ?_, fun hc => ?_⟩
  · have hb : b = true := by simpa using hc
    have hz := (by assumption : b = true → ls.length = 0) hb
    obtain rfl : ls = [] := List.eq_nil_of_length_eq_zero hz
    exact ends_sel [.slot 0 .ask] [0, 1] rfl rfl rfl rfl
  · exact ⟨by simpa using hp, ends_sel [] [0, 2] rfl rfl rfl rfl⟩
theorem tb83_ok : GamOk Tryz.prog eid (gam tb83) := gam_cons h125 tb82_ok
theorem h128 : Holds Tryz.prog eid 128 (delAS) := by
  refine hold tb83_ok Tryz.func128 (by kernel_rfl) ?_ (by kernel_rfl)
  intro xs M t h
  unfold delAS at h
  split at h <;> cases h
  rename_i i j ls
  refine ⟨updL rfl, ?_⟩
  intro hp
  obtain ⟨⟨h0, h1⟩, h2, h3⟩ := (hp : (0 ≤ i ∧ i ≤ j) ∧ j ≤ ls.length ∧ ls.length ≤ bigRow)
  rw [v128_vc]
  simp only [Int.toNat_zero, Nat.sub_zero, Int.toNat_natCast]
  refine ⟨⟨⟨h0, h1⟩, h2, by omega⟩, cnd_iff.2 ⟨fun he => ?_, fun he => ?_⟩⟩
  · have he : i = j := beq_iff_eq.1 he
    subst he
    refine ends_selD [] [none, some 0] rfl rfl rfl ?_
    rw [show cutL ls i i = ls from List.take_append_drop _ _]; rfl
  · have ht : (List.take (ls.length - j.toNat) (List.drop j.toNat ls)).length = ls.length - j.toNat := by rw [List.length_take, List.length_drop]; omega
    have hL : (splice ls i.toNat (List.take (ls.length - j.toNat) (List.drop j.toNat ls))).length = ls.length := splice_len (by rw [ht]; omega)
    refine ⟨⟨⟨by omega, h0⟩, by omega⟩, ⟨⟨by omega, h2⟩, by omega⟩, ⟨by omega, ht⟩, ⟨⟨by omega, by omega⟩, by rw [hL]; omega⟩, by rw [hL]; omega, ?_⟩
    refine ends_selD [.cutS 0] [none, some 1] rfl rfl rfl ?_
    refine congrArg (fun q => [Blk.dead, Blk.row _ q]) ?_
    exact del_row ls _ (by omega) (by omega)
theorem tb84_ok : GamOk Tryz.prog eid (gam tb84) := gam_cons h128 tb83_ok
theorem h47 : Holds Tryz.prog eid 47 (qnewS) := by
  refine hold tb84_ok Tryz.func47 (by kernel_rfl) ?_ (by kernel_rfl)
  intro xs M t h
  unfold qnewS at h
  split at h
  case h_2 => cases h
  cases h
  refine ⟨updN, ?_⟩
  intro hp
  rw [v47_vc]
  exact ends_sel [.blk 0 0 .ask] [0, 1] rfl rfl rfl rfl
theorem tb85_ok : GamOk Tryz.prog eid (gam tb85) := gam_cons h47 tb84_ok
theorem h127 : Holds Tryz.prog eid 127 (qfindS) := by
  refine hold tb85_ok Tryz.func127 (by kernel_rfl) ?_ (by kernel_rfl)
  intro xs M t h
  unfold qfindS at h
  split at h
  · rename_i n
    cases h
    refine ⟨fun l h => (nomatch h), ?_⟩
    intro hp
    rw [v127n_vc]
    exact ends_pl rfl
  · rename_i n vs ls
    obtain ⟨r, rfl, h1⟩ := queS_eq h
    clear h
    cases h1
    refine ⟨updN, ?_⟩
    intro hp
    rw [v127_vc]
    exact ⟨hp, ends_sel [] [0, 1] rfl rfl rfl rfl⟩
  · cases h
theorem tb86_ok : GamOk Tryz.prog eid (gam tb86) := gam_cons h127 tb85_ok
theorem h159 : Holds Tryz.prog eid 159 (qputS) := by
  refine hold tb86_ok Tryz.func159 (by kernel_rfl) ?_ (by kernel_rfl)
  intro xs M t h
  unfold qputS at h
  split at h
  · rename_i k
    obtain ⟨l, hl, h1⟩ := Option.bind_eq_some_iff.1 h
    clear h
    cases h1
    cases Lw.Ask.of_eq hl
    refine ⟨fun l h => (nomatch h), ?_⟩
    intro hp
    rw [v159n_vc]
    exact ends_pl rfl
  · rename_i k vs ls
    obtain ⟨r, rfl, h1⟩ := queS_eq h
    clear h
    obtain ⟨l, hl, h⟩ := Option.bind_eq_some_iff.1 h1
    clear h1
    cases h
    cases Lw.Ask.of_eq hl
    refine ⟨updL rfl, ?_⟩
    intro hp
    rw [v159_vc]
    have hp : ls.length + 1 ≤ bigRow := hp
    have hb : bigRow = 1073741824 := rfl
    have hm := maxLen_eq
    have hl : ls.length ≤ Go.maxLen := by omega
    refine ⟨hl, cnd_iff.2 ⟨fun hi => ?_, fun hi => cnd_iff.2 ⟨fun hq => ?_, fun hq => ⟨by simpa using hp, ?_⟩⟩⟩⟩
    · have e : qputE r ls l = 7 := if_pos (of_decide_eq_true hi)
      have e2 : qputL r ls l = ls := if_neg (by rw [e]; decide)
      simp only [BT.ev, e, e2]
      exact ends_selD [] [some 0, none, some 1] rfl rfl rfl rfl
    · have e : qputE r ls l = 5 := (if_neg (of_decide_eq_false hi)).trans (if_pos (of_decide_eq_true hq))
      have e2 : qputL r ls l = ls := if_neg (by rw [e]; decide)
      simp only [BT.ev, e, e2]
      exact ends_selD [] [some 0, none, some 1] rfl rfl rfl rfl
    · have e : qputE r ls l = 0 := (if_neg (of_decide_eq_false hi)).trans (if_neg (of_decide_eq_false hq))
      have e2 : qputL r ls l = ls ++ [l] := if_pos e
      simp only [BT.ev, e, e2]
      exact ends_selD [] [some 0, none, some 4] rfl rfl rfl rfl
  · cases h
theorem tb87_ok : GamOk Tryz.prog eid (gam tb87) := gam_cons h159 tb86_ok
theorem h62 : Holds Tryz.prog eid 62 (qdropS) := by
  refine hold tb87_ok Tryz.func62 (by kernel_rfl) ?_ (by kernel_rfl)
  intro xs M t h
  unfold qdropS at h
  split at h
  · rename_i n
    cases h
    refine ⟨fun l h => (nomatch h), ?_⟩
    intro hp
    rw [v62n_vc]
    exact ends_pl rfl
  · rename_i n vs ls
    obtain ⟨r, rfl, h1⟩ := queS_eq h
    clear h
    cases h1
    refine ⟨updL rfl, ?_⟩
    intro hp
    rw [v62_vc]
    have hp : ls.length ≤ bigRow := hp
    have hb : bigRow = 1073741824 := rfl
    have hm := maxLen_eq
    have hr := idxG_range (p := askP n) (l := ls) (i := 0) (by omega)
    rw [wrap_id (n := idxG (askP n) ls 0 + 1) (by omega) (by omega)]
    refine ⟨by omega, cnd_iff.2 ⟨fun hn => ?_, fun hn => ?_⟩⟩
    · have hn' : idxG (askP n) ls 0 ≥ 0 := of_decide_eq_true hn
      have e2 : qdropL ls n = cutL ls (idxG (askP n) ls 0) (idxG (askP n) ls 0 + 1) := if_pos hn'
      simp only [BT.ev, e2]
      exact ⟨⟨by omega, by omega, by omega⟩, ends_selD [] [some 0, none, some 2] rfl rfl rfl rfl⟩
    · have hn' : ¬ idxG (askP n) ls 0 ≥ 0 := of_decide_eq_false hn
      have e2 : qdropL ls n = ls := if_neg hn'
      simp only [BT.ev, e2]
      exact ends_selD [] [some 0, none, some 1] rfl rfl rfl rfl
  · cases h
theorem tb88_ok : GamOk Tryz.prog eid (gam tb88) := gam_cons h62 tb87_ok
theorem h160 : Holds Tryz.prog eid 160 (qaheadS) := by
  refine hold tb88_ok Tryz.func160 (by kernel_rfl) ?_ (by kernel_rfl)
  intro xs M t h
  unfold qaheadS at h
  split at h
  · rename_i n
    cases h
    refine ⟨fun l h => (nomatch h), ?_⟩
    intro hp
    rw [v160n_vc]
    exact ends_v rfl rfl
  · rename_i n vs ls
    obtain ⟨r, rfl, h1⟩ := queS_eq h
    clear h
    cases h1
    refine ⟨updN, ?_⟩
    intro hp
    rw [v160_vc]
    exact ⟨hp, ends_sel [] [0, 1] rfl rfl rfl rfl⟩
  · cases h
theorem tb89_ok : GamOk Tryz.prog eid (gam tb89) := gam_cons h160 tb88_ok
theorem h60 : Holds Tryz.prog eid 60 (qlistS) := by
  refine hold tb89_ok Tryz.func60 (by kernel_rfl) ?_ (by kernel_rfl)
  intro xs M t h
  unfold qlistS at h
  split at h
  · cases h
    refine ⟨fun l h => (nomatch h), ?_⟩
    intro hp
    rw [v60n_vc]
    exact ends_v rfl rfl
  · rename_i vs ls
    obtain ⟨r, rfl, h1⟩ := queS_eq h
    clear h
    cases h1
    refine ⟨updN, ?_⟩
    intro hp
    rw [v60_vc]
    exact ⟨hp, ends_sel [] [0, 1, 2] rfl rfl rfl rfl⟩
  · cases h
theorem tb90_ok : GamOk Tryz.prog eid (gam tb90) := gam_cons h60 tb89_ok
theorem h212 : Holds Tryz.prog eid 212 (indexIS) := by
  refine hold tb90_ok Tryz.func212 (by kernel_rfl) ?_ (by kernel_rfl)
  intro xs M t h
  unfold indexIS at h
  split at h
  case h_2 => cases h
  cases h
  rename_i n l
  refine ⟨updN, ?_⟩
  intro hp
  have hl : l.length ≤ Go.maxLen := hp
  rw [v212_vc]
  refine loopVC_st (S := Int) v212b_m 1 (fun i => v212b_fr l n i) (fun i => v212b_mem l n i) (fun i => (l.length - i).toNat) (fun i => 0 ≤ i ∧ i ≤ l.length ∧ idxG (eqP n) l 0 = idxG (eqP n) (l.drop i.toNat) i) rfl ⟨0, ⟨by simp, by simp, rfl⟩, rfl, rfl⟩ ?_
  rintro i ⟨h0, h1, h2⟩
  refine (v212b_vc l n i _ _).mpr ?_
  have hm := maxLen_eq
  by_cases hi : i < l.length
  · rw [wrap_id (n := i + 1) (by omega) (by omega)]
    have hs := idxG_step (p := eqP n) h0 hi (RTy.zero .int)
    refine cnd_iff.2 ⟨fun _ => ⟨⟨h0, hi⟩, cnd_iff.2 ⟨fun hb => ?_, fun hb => ⟨i + 1, ⟨by omega, by omega, ?_⟩, by omega, rfl, rfl⟩⟩⟩, fun h => absurd hi (of_decide_eq_false h)⟩
    · rw [h2, hs, show eqP n (l.getD i.toNat (RTy.zero .int)) = true from hb]
      exact ends_sel [] [0] rfl rfl rfl rfl
    · rw [h2, hs, show eqP n (l.getD i.toNat (RTy.zero .int)) = false from hb]; rfl
  · refine cnd_iff.2 ⟨fun h => absurd (of_decide_eq_true h) hi, fun _ => ?_⟩
    rw [h2, List.drop_eq_nil_of_le (by omega)]
    exact ends_sel [] [0] rfl rfl rfl rfl
theorem tb91_ok : GamOk Tryz.prog eid (gam tb91) := gam_cons h212 tb90_ok
theorem h181 : Holds Tryz.prog eid 181 (contIS) := by
  refine hold tb91_ok Tryz.func181 (by kernel_rfl) ?_ (by kernel_rfl)
  intro xs M t h
  unfold contIS at h
  split at h
  case h_2 => cases h
  cases h
  refine ⟨updN, ?_⟩
  intro hp
  rw [v181_vc]
  exact ⟨hp, ends_sel [] [0] rfl rfl rfl rfl⟩
theorem tb92_ok : GamOk Tryz.prog eid (gam tb92) := gam_cons h181 tb91_ok
theorem h120 : Holds Tryz.prog eid 120 (qfirstS) := by
  refine hold tb92_ok Tryz.func120 (by kernel_rfl) ?_ (by kernel_rfl)
  intro xs M t h
  unfold qfirstS at h
  split at h
  · cases h
    refine ⟨updN, ?_⟩
    intro hp
    rw [v120n_vc]
    refine loopVC_sel (S := Unit) v120nb_m (fun _ => v120nb_fr) (fun _ => v120nb_mem) (fun _ => 0) (fun _ => True) ⟨[], [0], (), trivial, _, rfl, rfl, rfl, rfl⟩ ?_
    rintro _ _
    refine (v120nb_vc _ _).mpr ?_
    exact ends_v rfl rfl
  · rename_i vs fl ls
    obtain ⟨r, rfl, h1⟩ := queS_eq h
    clear h
    cases h1
    refine ⟨updN, ?_⟩
    intro hp
    obtain ⟨hp, hf⟩ := (hp : ls.length ≤ bigRow ∧ fl.length ≤ Go.maxLen)
    have hb : bigRow = 1073741824 := rfl
    rw [v120_vc]
    refine ⟨hp, ?_⟩
    refine loopVC_sel (S := Int) v120b_m (fun i => v120b_fr r fl ls i) (fun i => v120b_mem r fl ls i) (fun i => (ls.length - i).toNat) (fun i => 0 ≤ i ∧ i ≤ ls.length ∧ firstA fl ls = firstA fl (ls.drop i.toNat)) ⟨[], [0, 1, 2, 3, 4], 0, ⟨by simp, by simp, rfl⟩, _, rfl, rfl, rfl, rfl⟩ ?_
    rintro i ⟨h0, h1, h2⟩
    refine (v120b_vc r fl ls i _ _).mpr ?_
    by_cases hi : i < ls.length
    · rw [wrap_id (n := i + 1) (by omega) (by omega)]
      have hs := firstA_drop (fl := fl) (ls := ls) (i := i.toNat) (by omega) (RTy.zero .ask)
      refine cnd_iff.2 ⟨fun _ => ⟨⟨h0, hi⟩, hf, cnd_iff.2 ⟨fun hb => ?_, fun hb => ⟨[], [0, 1, 2, 3, 4], i + 1, ⟨⟨by omega, by omega, ?_⟩, by omega⟩, _, rfl, rfl, rfl, rfl⟩⟩⟩, fun h => absurd hi (of_decide_eq_false h)⟩
      · rw [show inL fl (ls.getD i.toNat (RTy.zero .ask) : Lw.Ask).fleet = false by simpa using hb, cond_false] at hs
        have e : firstA fl ls = (ls.getD i.toNat (RTy.zero .ask), true) := h2.trans hs
        simp only [BT.ev, e]
        exact ends_sel [] [0, 1, 2] rfl rfl rfl rfl
      · rw [show inL fl (ls.getD i.toNat (RTy.zero .ask) : Lw.Ask).fleet = true by simpa using hb, cond_true] at hs
        rw [h2, hs, show (i + 1).toNat = i.toNat + 1 by omega]
    · refine cnd_iff.2 ⟨fun h => absurd (of_decide_eq_true h) hi, fun _ => ?_⟩
      rw [List.drop_eq_nil_of_le (by omega)] at h2
      have e : firstA fl ls = (zeroA, false) := h2
      simp only [BT.ev, e]
      exact ends_sel [] [0, 1, 2] rfl rfl rfl rfl
  · cases h
theorem tb93_ok : GamOk Tryz.prog eid (gam tb93) := gam_cons h120 tb92_ok
end Go.Proofs.YtjgmkpidiaojkaaGreat
