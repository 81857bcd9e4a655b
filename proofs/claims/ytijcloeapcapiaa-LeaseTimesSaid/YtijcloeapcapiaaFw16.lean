/- What an operation leaves alone; one operation upon a part of a memory. -/
import Derived.Test.YtijcloeapcapiaaFw15
set_option linter.unusedVariables false
set_option linter.unusedSimpArgs false
namespace Lw
open Go

/-! ### 1. Blocks that an operation leaves as they are -/
theorem BT.any_ev {α : Type} {p : α → Bool} : ∀ {t : BT α}, t.any p = false → p t.ev = false
  | .leaf r, h => h
  | .br c a b, h => by
    simp only [BT.any, Bool.or_eq_false_iff] at h
    cases c
    · exact BT.any_ev (t := b) h.2
    · exact BT.any_ev (t := a) h.1

theorem orOf_mem {M : Mem} {v : Option AV} {x : OR} (h : orOf M v = some x) : x.mem = M := by
  cases v <;> simp [orOf] at h
  subst h; rfl

theorem abuiltin_foot {τ : Tys} {o : Oper} {c : Go.Call} {bi : Builtin} {F : List AV} {M : Mem} {x : OR} (ho : o.op = .call c) (hc : c.callee = .builtin bi) {tys : List TypeId} (h : abuiltin τ F M bi tys (c.args.toList.map (oe F)) = some x) {b : Nat} (hb : b < M.length) (hn : b ∉ (foot o F M).2) : x.mem[b]? = M[b]? := by
  unfold foot at hn
  rw [ho] at hn
  simp only [hc] at hn
  generalize c.args.toList.map (oe F) = as at h hn
  unfold abuiltin at h
  split at h
  · repeat' split at h
    all_goals first
      | (cases h; done)
      | (cases h; rfl)
      | skip
    all_goals
      rename_i hs
      cases hst : (TI.isStr _) <;> rw [hst] at h <;> cases h <;> rfl
  · split at h <;> cases h <;> rfl
  · split at h <;> cases h <;> rfl
  · repeat' split at h
    all_goals first
      | (cases h; done)
      | (cases h; exact get_push_old hb)
  · simp only [AV.ids, V1.ids, Cell.ids, List.mem_singleton] at hn
    repeat' split at h
    all_goals first
      | (cases h; done)
      | (cases h; show (M.set _ Blk.dead ++ [_])[b]? = _; rw [get_push_old (by simpa using hb), get_set_other hn])
  · simp only [AV.ids, V1.ids, Cell.ids, List.mem_singleton] at hn
    rename_i b1 k b2 j m
    split at h
    · split at h
      · cases hq : Nat.beq b1 b2 with
        | false => rw [hq] at h; cases h
        | true => rw [hq] at h; cases h; exact get_set_other hn
      · cases h
    · cases h
  · rename_i d s
    repeat' split at h
    all_goals first
      | (cases h; done)
      | skip
    rename_i hd _
    cases h
    have : ∀ {rt : RTy} {d : AV} {b' : Nat} {zs : List rt.T} {lo len : Nat}, dstOf M rt d = some (b', zs, lo, len) → d.ids = [b'] := by
      intro rt d b' zs lo len hd
      unfold dstOf at hd
      split at hd
      · split at hd
        · simp only [Option.map_eq_some_iff, Prod.mk.injEq] at hd
          obtain ⟨_, _, rfl, _⟩ := hd; rfl
        · cases hd
      · split at hd
        · simp only [Option.map_eq_some_iff, Prod.mk.injEq] at hd
          obtain ⟨_, _, rfl, _⟩ := hd; rfl
        · cases hd
      · cases hd
    simp only at hn
    rw [this hd] at hn
    exact get_set_other (by simpa using hn)
  · rename_i d
    repeat' split at h
    all_goals first
      | (cases h; done)
      | skip
    rename_i hd
    cases h
    have : ∀ {rt : RTy} {d : AV} {b' : Nat} {zs : List rt.T} {lo len : Nat}, dstOf M rt d = some (b', zs, lo, len) → d.ids = [b'] := by
      intro rt d b' zs lo len hd
      unfold dstOf at hd
      split at hd
      · split at hd
        · simp only [Option.map_eq_some_iff, Prod.mk.injEq] at hd
          obtain ⟨_, _, rfl, _⟩ := hd; rfl
        · cases hd
      · split at hd
        · simp only [Option.map_eq_some_iff, Prod.mk.injEq] at hd
          obtain ⟨_, _, rfl, _⟩ := hd; rfl
        · cases hd
      · cases hd
    simp only [avidsL, List.append_nil] at hn
    rw [this hd] at hn
    exact get_set_other (by simpa using hn)
  · cases h

theorem aop_foot {τ : Tys} {o : Oper} {F : List AV} {M : Mem} {x : OR} (h : aop τ o F M = some x) {b : Nat} (hb : b < M.length) (hn : b ∉ (foot o F M).2) : x.mem[b]? = M[b]? := by
  cases ho : o.op
  case field t y f => rw [aop_pure (by rw [ho]; rfl) h]
  case call c =>
    unfold aop at h
    rw [ho] at h
    simp only at h
    split at h
    · rename_i bi hc; exact abuiltin_foot ho hc h hb hn
    · cases h
  case store t y z =>
    unfold foot at hn
    rw [ho] at hn
    simp only at hn
    unfold aop at h
    rw [ho] at h
    simp only at h
    split at h
    · rename_i ti b' i off cs hti hoe hcs
      rw [hoe] at hn
      simp only [AV.ids, V1.ids, Cell.ids, List.mem_singleton] at hn
      cases hq : Nat.beq cs.length ti.size with
      | false => rw [hq] at h; cases h
      | true =>
        rw [hq] at h
        simp only [cond_true] at h
        split at h
        · rename_i vs hv
          cases hle : Nat.ble (off + ti.size) vs.length with
          | false => rw [hle] at h; cases h
          | true => rw [hle] at h; cases h; exact get_set_other hn
        · split at h
          · split at h
            · cases h; exact get_set_other hn
            · cases h
          · cases h
        · cases h
    · cases h
  case load t y =>
    unfold aop at h
    rw [ho] at h
    simp only at h
    split at h
    · split at h
      · rename_i vs _
        cases hle : Nat.ble _ vs.length with
        | false => rw [hle] at h; cases h
        | true => rw [hle] at h; rw [orOf_mem h]
      · rename_i rt xs _
        cases hle : Nat.ble _ rt.sz with
        | false => rw [hle] at h; cases h
        | true => rw [hle] at h; rw [orOf_mem h]
      · cases h
    · rename_i cs _ _
      cases hle : Nat.ble _ cs.length with
      | false => rw [hle] at h; cases h
      | true => rw [hle] at h; rw [orOf_mem h]
    · cases h
  case makeFunc fn p q =>
    unfold aop at h
    rw [ho] at h
    cases fn <;> simp only at h <;> try (cases h; done)
    split at h <;> cases h
    rfl
  all_goals
    unfold aop at h
    rw [ho] at h
    simp only at h
    repeat' split at h
    all_goals first
      | (cases h; done)
      | (cases h; rfl)
      | (cases h; exact get_push_old hb)
      | (rename_i xs _; cases hq : (Nat.beq xs.length _ && Nat.ble _ 100) <;> rw [hq] at h <;> cases h <;> exact get_push_old hb)
      | (rename_i b' i off _; cases hq : live M b' <;> rw [hq] at h <;> cases h <;> rfl)
      | (cases hq : live M _ <;> rw [hq] at h <;> cases h <;> rfl)
      | (cases hq : RTy.same _ _ <;> rw [hq] at h <;> cases h <;> rfl)
      | skip

theorem aopT_foot {Γ : Gam} {τ : Tys} {o : Oper} {F : List AV} {M : Mem} {t : BT OR} (h : aopT Γ τ o F M = some t) (hw : writes Γ o F M = false) {b : Nat} (hb : b < M.length) (hn : b ∉ (foot o F M).2) : t.ev.mem[b]? = M[b]? := by
  have leaf : ∀ {t : BT OR}, (aop τ o F M).map BT.leaf = some t → t.ev.mem[b]? = M[b]? := by
    intro t h
    cases hx : aop τ o F M with
    | none => rw [hx] at h; cases h
    | some x => rw [hx] at h; cases h; exact aop_foot hx hb hn
  unfold aopT at h
  split at h
  · rename_i c ho
    split at h
    · rename_i fo hc
      split at h
      · rename_i f xs hfa
        unfold writes at hw
        rw [ho] at hw
        simp only [hc, hfa] at hw
        unfold acall at h
        cases hS : Γ f with
        | none => rw [hS] at h; cases h
        | some S =>
          rw [hS] at h hw
          simp only at h hw
          split at hw
          · rename_i t0 ht0
            cases hq : (allIn (reach M 300 (avidsL xs) []) (avidsL xs) && (closedIn M (reach M 300 (avidsL xs) []) (reach M 300 (avidsL xs) []) && nodupN (reach M 300 (avidsL xs) []))) with
            | false => rw [hq] at h; cases h
            | true =>
              rw [hq] at h
              simp only [cond_true, ht0] at h
              cases h
              rw [BT.ev_map]
              have hu := BT.any_ev hw
              unfold outOf
              cases hup : t0.ev.upd with
              | none => exact List.getElem?_append_left hb
              | some l => rw [hup] at hu; cases hu
          · cases hw
      · cases h
    · exact leaf h
  · split at h
    · rename_i b _
      cases h
      cases b <;> rfl
    · cases h
  · exact leaf h
end Lw
