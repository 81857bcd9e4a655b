/- The functions of this group answer so. -/
import Derived.Test.YtjgmkpidiaojkaaFwLibV
import Derived.Test.YtjgmkpidiaojkaaFwLow
set_option linter.unusedVariables false
set_option linter.unusedSimpArgs false
set_option maxRecDepth 20000
set_option maxHeartbeats 4000000
namespace Go.Proofs.Ytjgmkpidiaojkaa
open Lw
attribute [local irreducible] Lw.vc Lw.vcFunc
theorem sameG_self {α : Type} {e : α → List PC} : ∀ a : List α, sameG e a a = true
  | [] => rfl
  | x :: r => by unfold sameG; rw [pcsEq_self, sameG_self r]; rfl
theorem sameG_len {α : Type} {e : α → List PC} : ∀ {a b : List α}, a.length ≠ b.length → sameG e a b = false
  | [], [], h => absurd rfl h
  | [], _ :: _, _ => rfl
  | _ :: _, [], _ => rfl
  | x :: a, y :: b, h => by unfold sameG; rw [sameG_len (a := a) (b := b) (fun k => h (by simp [k]))]; simp
theorem sameG_step {α : Type} {e : α → List PC} {a b : List α} {i : Nat} (h : i < a.length) (k : i < b.length) (z : α) : sameG e (a.drop i) (b.drop i) = (pcsEq (e (a.getD i z)) (e (b.getD i z)) && sameG e (a.drop (i + 1)) (b.drop (i + 1))) := by
  rw [List.drop_eq_getElem_cons h, List.drop_eq_getElem_cons k, List.getD_eq_getElem?_getD, List.getD_eq_getElem?_getD, List.getElem?_eq_getElem h, List.getElem?_eq_getElem k]
  rfl
theorem intC_eq {vs : List Cell} {n : Int} (h : intC vs = some n) : vs = [.pl (.int .i64 n)] := by
  unfold intC at h
  split at h <;> cases h
  rfl
theorem idxG_step {α : Type} {p : α → Bool} {l : List α} {i : Int} (h0 : 0 ≤ i) (h1 : i < l.length) (z : α) : idxG p (l.drop i.toNat) i = bif p (l.getD i.toNat z) then i else idxG p (l.drop (i + 1).toNat) (i + 1) := by
  rw [List.drop_eq_getElem_cons (show i.toNat < l.length by omega), List.getD_eq_getElem?_getD, List.getElem?_eq_getElem (show i.toNat < l.length by omega), show (i + 1).toNat = i.toNat + 1 by omega]
  rfl
theorem idxG_range {α : Type} {p : α → Bool} : ∀ {l : List α} {i : Int}, 0 ≤ i → idxG p l i = -1 ∨ (i ≤ idxG p l i ∧ idxG p l i < i + l.length)
  | [], i, _ => .inl rfl
  | x :: r, i, h => by
    unfold idxG
    cases p x
    · rcases idxG_range (p := p) (l := r) (i := i + 1) (by omega) with k | k
      · exact .inl k
      · right
        simp only [cond_false, List.length_cons]
        omega
    · right
      simp only [cond_true, List.length_cons]
      omega
theorem lastG_step {α : Type} {p : α → Bool} {ls : List α} {k : Nat} (h : k < ls.length) (z : α) : lastG p ls (k + 1) = bif p (ls.getD k z) then (k : Int) else lastG p ls k := by
  rw [lastG, List.getElem?_eq_getElem h, List.getD_eq_getElem?_getD, List.getElem?_eq_getElem h]; rfl
theorem lastG_spec {α : Type} {p : α → Bool} {ls : List α} : ∀ n : Nat, (lastG p ls n = -1 ∧ ∀ (j : Nat) (x : α), j < n → ls[j]? = some x → p x = false) ∨ (∃ (j : Nat) (x : α), lastG p ls n = j ∧ j < n ∧ ls[j]? = some x ∧ p x = true)
  | 0 => .inl ⟨rfl, fun j x h => absurd h (Nat.not_lt_zero j)⟩
  | n + 1 => by
    unfold lastG
    cases hx : ls[n]? with
    | none =>
      simp only
      rcases lastG_spec (p := p) (ls := ls) n with ⟨h, k⟩ | ⟨j, x, h, hj, k, q⟩
      · exact .inl ⟨h, fun j x hj hjx => k j x (Nat.lt_of_le_of_ne (Nat.le_of_lt_succ hj) (fun e => by subst e; rw [hx] at hjx; cases hjx)) hjx⟩
      · exact .inr ⟨j, x, h, by omega, k, q⟩
    | some y =>
      simp only
      cases hp : p y with
      | true => exact .inr ⟨n, y, by simp, by omega, hx, hp⟩
      | false =>
        simp only [cond_false]
        rcases lastG_spec (p := p) (ls := ls) n with ⟨h, k⟩ | ⟨j, x, h, hj, k, q⟩
        · refine .inl ⟨h, fun j x hj hjx => ?_⟩
          by_cases e : j = n
          · subst e; rw [hx] at hjx; cases hjx; exact hp
          · exact k j x (by omega) hjx
        · exact .inr ⟨j, x, h, by omega, k, q⟩
theorem idxG_spec {α : Type} {p : α → Bool} : ∀ (ls : List α) (i : Int), (idxG p ls i = -1 ∧ ∀ (j : Nat) (x : α), ls[j]? = some x → p x = false) ∨ (∃ (j : Nat) (x : α), idxG p ls i = i + j ∧ ls[j]? = some x ∧ p x = true)
  | [], i => .inl ⟨rfl, fun j x h => by simp at h⟩
  | y :: r, i => by
    unfold idxG
    cases hp : p y with
    | true => exact .inr ⟨0, y, by simp, rfl, hp⟩
    | false =>
      simp only [cond_false]
      rcases idxG_spec (p := p) r (i + 1) with ⟨h, k⟩ | ⟨j, x, h, k, q⟩
      · refine .inl ⟨h, fun j x hj => ?_⟩
        cases j with
        | zero => simp at hj; subst hj; exact hp
        | succ j => exact k j x (by simpa using hj)
      · exact .inr ⟨j + 1, x, by rw [h]; omega, by simpa using k, q⟩
def uniq {α : Type} (p : α → Bool) (ls : List α) : Prop := ∀ (i j : Nat) (x y : α), ls[i]? = some x → ls[j]? = some y → p x = true → p y = true → i = j
theorem lastG_idx {α : Type} {p : α → Bool} {ls : List α} (h : uniq p ls) : lastG p ls ls.length = idxG p ls 0 := by
  rcases lastG_spec (p := p) (ls := ls) ls.length with ⟨h1, k1⟩ | ⟨j, x, h1, hj, k1, q1⟩ <;> rcases idxG_spec (p := p) ls 0 with ⟨h2, k2⟩ | ⟨j', x', h2, k2, q2⟩
  · rw [h1, h2]
  · have := k1 j' x' (List.getElem?_eq_some_iff.1 k2).1 k2
    rw [q2] at this; cases this
  · have := k2 j x k1
    rw [q1] at this; cases this
  · rw [h1, h2, h j j' x x' k1 k2 q1 q2]; omega
theorem nodup_inj {α : Type} {f : α → Int} {ls : List α} (h : (ls.map f).Nodup) {i j : Nat} {x y : α} (hi : ls[i]? = some x) (hj : ls[j]? = some y) (e : f x = f y) : i = j := by
  have h1 : (ls.map f)[i]? = some (f x) := by simp [hi]
  have h2 : (ls.map f)[j]? = some (f y) := by simp [hj]
  exact (List.getElem?_inj (List.getElem?_eq_some_iff.1 h1).1 h).1 (h1.trans (by rw [e, h2]))
theorem map_set_same {α : Type} {f : α → Int} {ls : List α} {i : Nat} {x l : α} (hx : ls[i]? = some x) (e : f l = f x) : (ls.set i l).map f = ls.map f := by
  apply List.ext_getElem?
  intro k
  rw [List.getElem?_map, List.getElem?_map, List.getElem?_set]
  by_cases hk : i = k
  · subst hk
    rw [if_pos rfl, if_pos (List.getElem?_eq_some_iff.1 hx).1, hx, Option.map_some, Option.map_some, e]
  · rw [if_neg hk]
theorem cutL_sub {α : Type} (ls : List α) (i : Int) (h : 0 ≤ i) : (cutL ls i (i + 1)).Sublist ls := by
  unfold cutL
  conv => rhs; rw [← List.take_append_drop i.toNat ls]
  refine List.Sublist.append (List.Sublist.refl _) ?_
  rw [show (i + 1).toNat = i.toNat + 1 by omega]
  exact List.drop_sublist_drop_left ls (Nat.le_succ _)
theorem cutL_eq {α : Type} (ls : List α) (i : Int) (h : 0 ≤ i) (h1 : i < ls.length) : ([] ++ List.take (i.toNat - Int.toNat 0) (List.drop 0 ls)) ++ List.take (Int.toNat (ls.length : Int) - (i + 1).toNat) (List.drop (i + 1).toNat ls) = cutL ls i (i + 1) := by
  unfold cutL
  simp only [List.nil_append, Int.toNat_zero, Nat.sub_zero, List.drop_zero, Int.toNat_natCast]
  rw [List.take_of_length_le (l := List.drop (i + 1).toNat ls) (by rw [List.length_drop]; omega)]
theorem cutL_len {α : Type} (ls : List α) (i : Int) (h : 0 ≤ i) : (cutL ls i (i + 1)).length ≤ ls.length := (cutL_sub ls i h).length_le
theorem splice_len {α : Type} {xs ys : List α} {lo : Nat} (h : lo + ys.length ≤ xs.length) : (splice xs lo ys).length = xs.length := by
  unfold splice
  simp only [List.length_append, List.length_take, List.length_drop]
  omega
theorem del_row {α : Type} (ls z : List α) {i j : Nat} (hij : i ≤ j) (hj : j ≤ ls.length) : (splice (splice ls i ((ls.drop j).take (ls.length - j))) (i + (ls.length - j)) z).take (i + (ls.length - j)) = ls.take i ++ ls.drop j := by
  have hd : (ls.drop j).take (ls.length - j) = ls.drop j := List.take_of_length_le (by rw [List.length_drop]; omega)
  rw [hd]
  have hl : (ls.take i ++ ls.drop j).length = i + (ls.length - j) := by simp only [List.length_append, List.length_take, List.length_drop]; omega
  unfold splice
  rw [List.take_append_of_le_length (by simp only [List.length_append, List.length_take, List.length_drop]; omega), List.take_append_of_le_length (by simp only [List.length_append, List.length_take, List.length_drop]; omega), List.take_take, Nat.min_self, ← hl, List.take_left]
theorem ends_to {k0 : Nat} {r : SR} {args M : Mem} {v w : AV} (h : v = w) (k : Lw.Ends k0 r args w M) : Lw.Ends k0 r args v M := h ▸ k
theorem updL {p : Option Prop} {v : AV} {n M l0 : Mem} (h : l0.length = M.length) : ∀ l, (BT.leaf ⟨p, v, some l0, n⟩ : BT SR).ev.upd = some l → l.length = M.length := fun l h' => by
  cases h'; exact h
theorem updN {p : Option Prop} {v : AV} {n M : Mem} : ∀ l, (BT.leaf ⟨p, v, none, n⟩ : BT SR).ev.upd = some l → l.length = M.length := fun l h' => by
  cases h'
theorem br_none {b : Bool} {p p' : Option Prop} {v v' : AV} {n n' M : Mem} : ∀ l, (BT.br b (.leaf ⟨p, v, none, n⟩) (.leaf ⟨p', v', none, n'⟩) : BT SR).ev.upd = some l → l.length = M.length := fun l h => by
  cases b <;> cases h
end Go.Proofs.Ytjgmkpidiaojkaa
