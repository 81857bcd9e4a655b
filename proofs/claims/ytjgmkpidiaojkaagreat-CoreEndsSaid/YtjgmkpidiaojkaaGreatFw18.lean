/- The abstract machine (drawn regions). -/
import Derived.Test.YtjgmkpidiaojkaaGreatFw15
/- What an operation leaves alone; one operation upon a part of a memory. -/
set_option linter.unusedVariables false
set_option linter.unusedSimpArgs false
namespace Lw
open Go

/-! ### 1. Blocks that an operation leaves as they are -/
theorem BT.any_ev {α : Type} {p : α → Bool} : ∀ {t : BT α}, t.any p = false → p t.ev = false
  | .leaf r, h => h
  | .br c a b, h => by
    simp only [BT.any, Bool.or_eq_false_iff] at h
    cases c
    · exact BT.any_ev (t := b) h.2
    · exact BT.any_ev (t := a) h.1

theorem orOf_mem {M : Mem} {v : Option AV} {x : OR} (h : orOf M v = some x) : x.mem = M := by
  cases v <;> simp [orOf] at h
  subst h; rfl

theorem abuiltin_foot {τ : Tys} {o : Oper} {c : Go.Call} {bi : Builtin} {F : List AV} {M : Mem} {x : OR} (ho : o.op = .call c) (hc : c.callee = .builtin bi) {tys : List TypeId} (h : abuiltin τ F M bi tys (c.args.toList.map (oe F)) = some x) {b : Nat} (hb : b < M.length) (hn : b ∉ (foot o F M).2) : x.mem[b]? = M[b]? := by
  unfold foot at hn
  rw [ho] at hn
  simp only [hc] at hn
  generalize c.args.toList.map (oe F) = as at h hn
  unfold abuiltin at h
  split at h
  · repeat' split at h
    all_goals first
      | (cases h; done)
      | (cases h; rfl)
      | skip
    all_goals
      rename_i hs
      cases hst : (TI.isStr _) <;> rw [hst] at h <;> cases h <;> rfl
  · split at h <;> cases h <;> rfl
  · split at h <;> cases h <;> rfl
  · repeat' split at h
    all_goals first
      | (cases h; done)
      | (cases h; exact get_push_old hb)
  · simp only [AV.ids, V1.ids, Cell.ids, List.mem_singleton] at hn
    repeat' split at h
    all_goals first
      | (cases h; done)
      | (cases h; show (M.set _ Blk.dead ++ [_])[b]? = _; rw [get_push_old (by simpa using hb), get_set_other hn])
  · simp only [AV.ids, V1.ids, Cell.ids, List.mem_singleton] at hn
    rename_i b1 k b2 j m
    split at h
    · split at h
      · cases hq : Nat.beq b1 b2 with
        | false => rw [hq] at h; cases h
        | true => rw [hq] at h; cases h; exact get_set_other hn
      · cases h
    · cases h
  · rename_i d s
    repeat' split at h
    all_goals first
      | (cases h; done)
      | skip
    rename_i hd _
    cases h
    have : ∀ {rt : RTy} {d : AV} {b' : Nat} {zs : List rt.T} {lo len : Nat}, dstOf M rt d = some (b', zs, lo, len) → d.ids = [b'] := by
      intro rt d b' zs lo len hd
      unfold dstOf at hd
      split at hd
      · split at hd
        · simp only [Option.map_eq_some_iff, Prod.mk.injEq] at hd
          obtain ⟨_, _, rfl, _⟩ := hd; rfl
        · cases hd
      · split at hd
        · simp only [Option.map_eq_some_iff, Prod.mk.injEq] at hd
          obtain ⟨_, _, rfl, _⟩ := hd; rfl
        · cases hd
      · cases hd
    simp only at hn
    rw [this hd] at hn
    exact get_set_other (by simpa using hn)
  · rename_i d
    repeat' split at h
    all_goals first
      | (cases h; done)
      | skip
    rename_i hd
    cases h
    have : ∀ {rt : RTy} {d : AV} {b' : Nat} {zs : List rt.T} {lo len : Nat}, dstOf M rt d = some (b', zs, lo, len) → d.ids = [b'] := by
      intro rt d b' zs lo len hd
      unfold dstOf at hd
      split at hd
      · split at hd
        · simp only [Option.map_eq_some_iff, Prod.mk.injEq] at hd
          obtain ⟨_, _, rfl, _⟩ := hd; rfl
        · cases hd
      · split at hd
        · simp only [Option.map_eq_some_iff, Prod.mk.injEq] at hd
          obtain ⟨_, _, rfl, _⟩ := hd; rfl
        · cases hd
      · cases hd
    simp only [avidsL, List.append_nil] at hn
    rw [this hd] at hn
    exact get_set_other (by simpa using hn)
  · cases h

theorem aop_foot {τ : Tys} {o : Oper} {F : List AV} {M : Mem} {x : OR} (h : aop τ o F M = some x) {b : Nat} (hb : b < M.length) (hn : b ∉ (foot o F M).2) : x.mem[b]? = M[b]? := by
  cases ho : o.op
  case field t y f => rw [aop_pure (by rw [ho]; rfl) h]
  case call c =>
    unfold aop at h
    rw [ho] at h
    simp only at h
    split at h
    · rename_i bi hc; exact abuiltin_foot ho hc h hb hn
    · cases h
  case store t y z =>
    unfold foot at hn
    rw [ho] at hn
    simp only at hn
    unfold aop at h
    rw [ho] at h
    simp only at h
    split at h
    · rename_i ti b' i off cs hti hoe hcs
      rw [hoe] at hn
      simp only [AV.ids, V1.ids, Cell.ids, List.mem_singleton] at hn
      cases hq : Nat.beq cs.length ti.size with
      | false => rw [hq] at h; cases h
      | true =>
        rw [hq] at h
        simp only [cond_true] at h
        split at h
        · rename_i vs hv
          cases hle : Nat.ble (off + ti.size) vs.length with
          | false => rw [hle] at h; cases h
          | true => rw [hle] at h; cases h; exact get_set_other hn
        · split at h
          · split at h
            · cases h; exact get_set_other hn
            · cases h
          · cases h
        · cases h
    · cases h
  case load t y =>
    unfold aop at h
    rw [ho] at h
    simp only at h
    split at h
    · split at h
      · rename_i vs _
        cases hle : Nat.ble _ vs.length with
        | false => rw [hle] at h; cases h
        | true => rw [hle] at h; rw [orOf_mem h]
      · rename_i rt xs _
        cases hle : Nat.ble _ rt.sz with
        | false => rw [hle] at h; cases h
        | true => rw [hle] at h; rw [orOf_mem h]
      · cases h
    · rename_i cs _ _
      cases hle : Nat.ble _ cs.length with
      | false => rw [hle] at h; cases h
      | true => rw [hle] at h; rw [orOf_mem h]
    · cases h
  case makeFunc fn p q =>
    unfold aop at h
    rw [ho] at h
    cases fn <;> simp only at h <;> try (cases h; done)
    split at h <;> cases h
    rfl
  all_goals
    unfold aop at h
    rw [ho] at h
    simp only at h
    repeat' split at h
    all_goals first
      | (cases h; done)
      | (cases h; rfl)
      | (cases h; exact get_push_old hb)
      | (rename_i xs _; cases hq : (Nat.beq xs.length _ && Nat.ble _ 100) <;> rw [hq] at h <;> cases h <;> exact get_push_old hb)
      | (rename_i b' i off _; cases hq : live M b' <;> rw [hq] at h <;> cases h <;> rfl)
      | (cases hq : live M _ <;> rw [hq] at h <;> cases h <;> rfl)
      | (cases hq : RTy.same _ _ <;> rw [hq] at h <;> cases h <;> rfl)
      | skip

theorem aopT_foot {Γ : Gam} {τ : Tys} {o : Oper} {F : List AV} {M : Mem} {t : BT OR} (h : aopT Γ τ o F M = some t) (hw : writes Γ o F M = false) {b : Nat} (hb : b < M.length) (hn : b ∉ (foot o F M).2) : t.ev.mem[b]? = M[b]? := by
  have leaf : ∀ {t : BT OR}, (aop τ o F M).map BT.leaf = some t → t.ev.mem[b]? = M[b]? := by
    intro t h
    cases hx : aop τ o F M with
    | none => rw [hx] at h; cases h
    | some x => rw [hx] at h; cases h; exact aop_foot hx hb hn
  unfold aopT at h
  split at h
  · rename_i c ho
    split at h
    · rename_i fo hc
      split at h
      · rename_i f xs hfa
        unfold writes at hw
        rw [ho] at hw
        simp only [hc, hfa] at hw
        unfold acall at h
        cases hS : Γ f with
        | none => rw [hS] at h; cases h
        | some S =>
          rw [hS] at h hw
          simp only at h hw
          split at hw
          · rename_i t0 ht0
            cases hq : (allIn (reach M 300 (avidsL xs) []) (avidsL xs) && (closedIn M (reach M 300 (avidsL xs) []) (reach M 300 (avidsL xs) []) && nodupN (reach M 300 (avidsL xs) []))) with
            | false => rw [hq] at h; cases h
            | true =>
              rw [hq] at h
              simp only [cond_true, ht0] at h
              cases h
              rw [BT.ev_map]
              have hu := BT.any_ev hw
              unfold outOf
              cases hup : t0.ev.upd with
              | none => exact List.getElem?_append_left hb
              | some l => rw [hup] at hu; cases hu
          · cases hw
      · cases h
    · exact leaf h
  · split at h
    · rename_i b _
      cases h
      cases b <;> rfl
    · cases h
  · exact leaf h
end Lw
/- One operation upon a part of a memory; the trace of a region in its written order; which order does not matter. -/
set_option linter.unusedVariables false
set_option linter.unusedSimpArgs false
namespace Lw
open Go

/-! ### 1. Small lists -/
theorem allN_iff {p : Nat → Bool} : ∀ {l : List Nat}, allN p l = true ↔ ∀ b ∈ l, p b = true
  | [] => by simp [allN]
  | x :: r => by simp [allN, allN_iff (l := r)]
theorem mem_filterN {p : Nat → Bool} {b : Nat} : ∀ {l : List Nat}, b ∈ filterN p l ↔ b ∈ l ∧ p b = true
  | [] => by simp [filterN]
  | x :: r => by
    unfold filterN
    cases h : p x
    · simp only [cond_false, mem_filterN (l := r), List.mem_cons]
      constructor
      · exact fun ⟨h1, h2⟩ => ⟨.inr h1, h2⟩
      · rintro ⟨rfl | h1, h2⟩
        · rw [h] at h2; cases h2
        · exact ⟨h1, h2⟩
    · simp only [cond_true, List.mem_cons, mem_filterN (l := r)]
      constructor
      · rintro (rfl | ⟨h1, h2⟩)
        · exact ⟨.inl rfl, h⟩
        · exact ⟨.inr h1, h2⟩
      · rintro ⟨rfl | h1, h2⟩
        · exact .inl rfl
        · exact .inr ⟨h1, h2⟩
theorem mem_flatN {f : Nat → List Nat} {c : Nat} : ∀ {l : List Nat}, c ∈ flatN f l ↔ ∃ b ∈ l, c ∈ f b
  | [] => by simp [flatN]
  | x :: r => by simp [flatN, mem_flatN (l := r)]
theorem mem_range' {b : Nat} : ∀ {n i : Nat}, b ∈ range' i n ↔ i ≤ b ∧ b < i + n
  | 0, i => by simp [range']
  | n + 1, i => by
    simp only [range', List.mem_cons, mem_range' (n := n)]
    omega
theorem mem_avidsL {c : Nat} : ∀ {l : List AV}, c ∈ avidsL l ↔ ∃ x ∈ l, c ∈ x.ids
  | [] => by simp [avidsL]
  | x :: r => by simp [avidsL, mem_avidsL (l := r)]
theorem meets_iff {xs : List Nat} : ∀ {l : List Nat}, meets xs l = true ↔ ∃ b ∈ l, b ∈ xs
  | [] => by simp [meets]
  | x :: r => by simp [meets, memN_iff, meets_iff (l := r)]
theorem mem_usedT {s : Tmp} : ∀ {l : List Operand}, s ∈ usedT l ↔ Operand.tmp s ∈ l
  | [] => by simp [usedT]
  | x :: r => by cases x <;> simp [usedT, mem_usedT (l := r)]
theorem mergeM_length : ∀ {keep : List Nat} {M N : Mem} {k : Nat}, M.length ≤ N.length → (mergeM keep k M N).length = N.length
  | keep, [], N, k, _ => by simp [mergeM]
  | keep, v :: r, [], k, h => by simp at h
  | keep, v :: r, x :: s, k, h => by simp [mergeM, mergeM_length (M := r) (N := s) (by simpa using h)]
theorem mergeM_get : ∀ {keep : List Nat} {M N : Mem} {k b : Nat}, M.length ≤ N.length → (mergeM keep k M N)[b]? = if b < M.length then (if memN (k + b) keep then N[b]? else M[b]?) else N[b]?
  | keep, [], N, k, b, _ => by simp [mergeM]
  | keep, v :: r, [], k, b, h => by simp at h
  | keep, v :: r, x :: s, k, 0, h => by
    simp only [mergeM, List.length_cons, Nat.zero_lt_succ, if_true, Nat.add_zero]
    cases memN k keep <;> simp
  | keep, v :: r, x :: s, k, b + 1, h => by
    have ih := mergeM_get (keep := keep) (M := r) (N := s) (k := k + 1) (b := b) (by simpa using h)
    simp only [mergeM, List.getElem?_cons_succ, ih, List.length_cons, Nat.add_lt_add_iff_right]
    rw [show k + 1 + b = k + (b + 1) by omega]
theorem viewM_length : ∀ {vis mn : List Nat} {M : Mem} {k : Nat}, (viewM vis mn k M).length = M.length
  | vis, mn, [], k => rfl
  | vis, mn, v :: r, k => by simp [viewM, viewM_length (M := r)]
theorem viewM_get : ∀ {vis mn : List Nat} {M : Mem} {k b : Nat} {x : Blk}, M[b]? = some x → (viewM vis mn k M)[b]? = some (bif memN (k + b) vis then x else bif memN (k + b) mn then x.hide else .dead)
  | vis, mn, [], k, b, x, h => by simp at h
  | vis, mn, v :: r, k, 0, x, h => by simp at h; subst h; simp [viewM]
  | vis, mn, v :: r, k, b + 1, x, h => by
    have ih := viewM_get (vis := vis) (mn := mn) (M := r) (k := k + 1) (b := b) (x := x) (by simpa using h)
    simp only [viewM, List.getElem?_cons_succ, ih]
    rw [show k + 1 + b = k + (b + 1) by omega]
theorem restrictF_length : ∀ {keep : List Tmp} {F : List AV} {k : Nat}, (restrictF keep k F).length = F.length
  | keep, [], k => rfl
  | keep, v :: r, k => by simp [restrictF, restrictF_length (F := r)]
theorem restrictF_rel {X : Cx} {E : Env} {keep : List Tmp} : ∀ {F : List AV} {vs : List Value} {k : Nat}, vs.length = F.length → (∀ s v, vs[s]? = some v → k + s ∈ keep → RelA X E (F.getD s .undef) v) → RelF X E (restrictF keep k F) vs
  | [], [], k, _, _ => trivial
  | [], _ :: _, k, h, _ => by simp at h
  | _ :: _, [], k, h, _ => by simp at h
  | c :: r, v :: vs, k, h, hr => by
    refine ⟨?_, restrictF_rel (by simpa using h) fun s v' hv hk => ?_⟩
    · cases hm : memN k keep with
      | false => simp only [cond_false]; trivial
      | true => simp only [cond_true]; exact hr 0 v rfl (memN_iff.1 hm)
    · have := hr (s + 1) v' (by simpa using hv) (by rw [show k + (s + 1) = k + 1 + s by omega]; exact hk)
      simpa using this

/-! ### 2. One operation upon a part -/
theorem shape_hidden {X : Cx} {E : Env} {w : World} {u : Value} {x y : Blk} (h : RepB X E w u x) (hs : x.shape = y.shape) : RepB X E w u y.hide := by
  cases y <;> simp only [Blk.hide]
  case cells vs =>
    cases x <;> simp [Blk.shape] at hs
    case cells us => obtain ⟨g, _, _, hu, _⟩ := h; exact ⟨g, hu⟩
    case hidC n => subst hs; exact h
  case row t xs =>
    cases x <;> simp [Blk.shape] at hs
    case row t' ys =>
      obtain ⟨rfl, hl⟩ := hs
      rcases h with ⟨rfl, h⟩ | ⟨g, cap, cur, hu, hc, _, h1, _⟩
      · exact .inl ⟨by simpa using hl.symm, h⟩
      · exact .inr ⟨g, cap, by rw [hu, hl], hc, by omega⟩
    case hidR t' n =>
      obtain ⟨rfl, hl⟩ := hs
      subst hl; exact h
  case hidC n =>
    cases x <;> simp [Blk.shape] at hs
    case cells us => obtain ⟨g, _, _, hu, _⟩ := h; exact ⟨g, hu⟩
    case hidC m => exact h
  case hidR t n =>
    cases x <;> simp [Blk.shape] at hs
    case row t' ys =>
      obtain ⟨rfl, hl⟩ := hs
      rcases h with ⟨rfl, h⟩ | ⟨g, cap, cur, hu, hc, _, h1, _⟩
      · exact .inl ⟨by simpa using hl.symm, h⟩
      · exact .inr ⟨g, cap, by rw [hu, hl], hc, by omega⟩
    case hidR t' m =>
      obtain ⟨rfl, hl⟩ := hs
      subst hl; exact h
  case dead => trivial

theorem vis_hide {x : Blk} : ¬ Vis x.hide := by
  rintro (⟨vs, h⟩ | ⟨t, xs, h⟩) <;> cases x <;> simp [Blk.hide] at h

theorem envF_eq {ρ ρ' : Nat → Value} {m m' : Nat → Option Blk} {b : Nat} (h : m' b = m b) (hr : ρ' b = ρ b) : envF ρ' m' b = envF ρ m b := by
  unfold envF; rw [h, hr]
theorem envF_shape {ρ : Nat → Value} {m : Nat → Option Blk} {L : Mem} {b : Nat} {x y : Blk} (hm : m b = some x) (hL : L[b]? = some y) (hs : x.shape = y.shape) : envOf ρ L b = envF ρ m b := by
  rw [env_some hL]
  unfold envF
  rw [hm]
  simp only [hs]
  all_goals (cases y.shape <;> rfl)

/-- What is asked of a view: the table `m` is, at what is looked into, the memory `M`, and at what is named of the same shape. -/
structure View (m : Nat → Option Blk) (M : Mem) (vis mn : List Nat) : Prop where
  lt : ∀ b ∈ mn, b < M.length
  sub : ∀ b ∈ vis, b ∈ mn
  inn : ∀ b ∈ vis, ∀ c ∈ (M.at b).ids, c ∈ mn
  eq : ∀ b ∈ vis, m b = M[b]?
  shape : ∀ b ∈ mn, ∃ x y, m b = some x ∧ M[b]? = some y ∧ x.shape = y.shape

theorem View.env {m : Nat → Option Blk} {M : Mem} {vis mn : List Nat} (h : View m M vis mn) (ρ : Nat → Value) {b : Nat} (hb : b ∈ mn) : envOf ρ (viewM vis mn 0 M) b = envF ρ m b := by
  obtain ⟨x, y, hx, hy, hs⟩ := h.shape b hb
  refine envF_shape hx (viewM_get hy) ?_
  simp only [Nat.zero_add, memN_iff.2 hb, cond_true]
  cases memN b vis <;> simp [hs, Blk.shape_hide]

theorem View.vis {m : Nat → Option Blk} {M : Mem} {vis mn : List Nat} (h : View m M vis mn) {b : Nat} {x : Blk} (hx : (viewM vis mn 0 M)[b]? = some x) (hv : Vis x) : b ∈ vis ∧ m b = some x := by
  have hb : b < M.length := by
    have := (List.getElem?_eq_some_iff.1 hx).1
    rwa [viewM_length] at this
  rw [viewM_get (at_get hb)] at hx
  simp only [Nat.zero_add] at hx
  cases hm : memN b vis with
  | true =>
    rw [hm] at hx
    have hbv := memN_iff.1 hm
    refine ⟨hbv, ?_⟩
    rw [h.eq b hbv, at_get hb]
    exact hx
  | false =>
    rw [hm] at hx
    simp only [cond_false] at hx
    cases hn : memN b mn with
    | true => rw [hn] at hx; cases hx; exact absurd hv vis_hide
    | false => rw [hn] at hx; cases hx; rcases hv with ⟨_, h⟩ | ⟨_, _, h⟩ <;> cases h

theorem View.owns {m : Nat → Option Blk} {M : Mem} {vis mn : List Nat} (h : View m M vis mn) {ρ : Nat → Value} {b g : Nat} (ho : Owns ρ (viewM vis mn 0 M) b g) : b ∈ vis ∧ OwnsF ρ m b g := by
  obtain ⟨x, hx, hv, hg⟩ := owns_cases ho
  obtain ⟨h1, h2⟩ := h.vis hx hv
  exact ⟨h1, x, h2, hv, hg⟩

theorem View.rep {X : Cx} {m : Nat → Option Blk} {M : Mem} {vis mn : List Nat} (h : View m M vis mn) {ρ : Nat → Value} {w : World} (hR : RepE X (envF ρ m) ρ m w) : Rep X ρ (viewM vis mn 0 M) w := by
  refine ⟨?_, fun b b' g h1 h2 => hR.sep b b' g (h.owns h1).2 (h.owns h2).2, fun b g h1 => hR.base b g (h.owns h1).2, hR.ro, hR.sz⟩
  intro b x hx
  have hb : b < M.length := by
    have := (List.getElem?_eq_some_iff.1 hx).1
    rwa [viewM_length] at this
  have hx' := hx
  rw [viewM_get (at_get hb)] at hx
  simp only [Nat.zero_add] at hx
  cases hm : memN b vis with
  | true =>
    rw [hm] at hx
    cases hx
    have hbv := memN_iff.1 hm
    refine (hR.blk b _ (by rw [h.eq b hbv, at_get hb]; rfl)).on (fun c hc => .inr (.inr (h.env ρ (h.inn b hbv c hc)))) (fun _ _ _ => rfl)
  | false =>
    rw [hm] at hx
    simp only [cond_false] at hx
    cases hn : memN b mn with
    | true =>
      rw [hn] at hx
      cases hx
      obtain ⟨x, y, hx, hy, hs⟩ := h.shape b (memN_iff.1 hn)
      rw [at_get hb] at hy
      cases hy
      have hh := shape_hidden (hR.blk b x hx) hs
      refine hh.on (fun c hc => ?_) (fun hv => ?_)
      · cases hq : M.at b <;> rw [hq] at hc <;> simp [Blk.hide, Blk.ids] at hc
      · exact absurd hv vis_hide
    | false => rw [hn] at hx; cases hx; trivial

/-- What the operation has left, put back. -/
theorem view_part {m : Nat → Option Blk} {M N : Mem} {vis mn wr : List Nat} (h : View m M vis mn) {ρ ρL' : Nat → Value} {w w' : World} (hE : Ext w ρ (viewM vis mn 0 M) w' ρL' N)
    (hwr : ∀ b ∈ wr, b ∈ mn) (hW : ∀ b ∈ wr, m b = M[b]?) (hN : ∀ b, M.length ≤ b → b < N.length → m b = none)
    (hsame : ∀ b, b < M.length → b ∉ wr → b ∈ vis → N[b]? = (viewM vis mn 0 M)[b]?)
    (hlive : ∀ b ∈ mn, b ∉ wr → live N b = live (viewM vis mn 0 M) b)
    (hids : ∀ b, b ∈ wr ∨ M.length ≤ b → ∀ c ∈ (N.at b).ids, M.length ≤ c ∨ c ∈ mn)
    {m' : Nat → Option Blk} (hm' : ∀ b, m' b = if b ∈ wr ∨ M.length ≤ b ∧ b < N.length then N[b]? else m b) :
    let ρ' := fun b => if b ∈ wr ∨ M.length ≤ b ∧ b < N.length then ρL' b else ρ b
    Part (envF ρ m) (envF ρ' m') ρ ρ' ρ ρL' m m' (viewM vis mn 0 M) N id ∧ ∀ c, M.length ≤ c ∨ c ∈ mn → On (envOf ρL' N) (envF ρ' m') c := by
  intro ρ'
  have hlen : M.length ≤ N.length := by have := hE.len; rwa [viewM_length] at this
  have hnew : ∀ b, (b ∈ wr ∨ M.length ≤ b ∧ b < N.length) → m' b = N[b]? ∧ ρ' b = ρL' b := fun b hb => ⟨by rw [hm', if_pos hb], if_pos hb⟩
  have hold : ∀ b, ¬ (b ∈ wr ∨ M.length ≤ b ∧ b < N.length) → m' b = m b ∧ ρ' b = ρ b := fun b hb => ⟨by rw [hm', if_neg hb], if_neg hb⟩
  have henv : ∀ c, M.length ≤ c ∨ c ∈ mn → On (envOf ρL' N) (envF ρ' m') c := by
    intro c hc
    by_cases hn : c ∈ wr ∨ M.length ≤ c ∧ c < N.length
    · obtain ⟨h1, h2⟩ := hnew c hn
      refine .inr (.inr ?_)
      show envF ρ' m' c = envF ρL' (tab N) c
      exact envF_eq h1 h2
    · obtain ⟨h1, h2⟩ := hold c hn
      rcases hc with hc | hc
      · exact .inl (env_none (List.getElem?_eq_none (by simp only [not_or, not_and] at hn; have := hn.2 hc; omega)))
      · have hcw : c ∉ wr := fun hh => hn (.inl hh)
        have hk := hE.keep c
        rw [h.env ρ hc] at hk
        have he : envF ρ' m' c = envF ρ m c := envF_eq h1 h2
        have hl := hlive c hc hcw
        obtain ⟨x, y, hx, hy, hs⟩ := h.shape c hc
        rcases hk with hk | hk | hk
        · unfold envF at hk
          simp only [hx] at hk
          cases hs' : x.shape <;> simp [hs'] at hk
        · -- it is dead now: so it was
          refine .inr (.inl ?_)
          rw [he]
          have hlN : live N c = false := by
            cases hq : live N c with
            | false => rfl
            | true => exact (live_env hq hk).elim
          rw [hlN] at hl
          have : envOf ρ (viewM vis mn 0 M) c = .dead := by
            have hcl := h.lt c hc
            have hg := viewM_get (vis := vis) (mn := mn) (k := 0) hy
            rw [env_some hg]
            unfold live at hl
            rw [at_of hg] at hl
            split at hl
            · rename_i hd; rw [hd]; rfl
            · cases hl
          rw [← h.env ρ hc]; exact this
        · exact .inr (.inr (he.trans hk.symm))
  refine ⟨⟨fun l g ho => (h.owns ho).2, ?_, ?_⟩, henv⟩
  · intro b x hb
    by_cases hn : b ∈ wr ∨ M.length ≤ b ∧ b < N.length
    · obtain ⟨h1, h2⟩ := hnew b hn
      rw [h1] at hb
      refine .inl ⟨b, x, rfl, hb, (Blk.map_on fun _ _ => rfl).symm, h2, fun c hc => ?_⟩
      rw [← at_of hb] at hc
      exact henv c (hids b (hn.imp id And.left) c hc)
    · obtain ⟨h1, h2⟩ := hold b hn
      rw [h1] at hb
      by_cases hv : b ∈ vis
      · have hbl : b < M.length := h.lt b (h.sub b hv)
        have hbw : b ∉ wr := fun hh => hn (.inl hh)
        have hNb := hsame b hbl hbw hv
        have hg : (viewM vis mn 0 M)[b]? = some x := by
          rw [viewM_get (at_get hbl)]
          simp only [Nat.zero_add, memN_iff.2 hv, cond_true]
          rw [← at_get hbl, ← h.eq b hv]; exact hb
        rw [hg] at hNb
        have hk := hE.keep b
        by_cases hvx : Vis x
        · refine .inl ⟨b, x, rfl, hNb, (Blk.map_on fun _ _ => rfl).symm, ?_, fun c hc => ?_⟩
          · rw [h2]
            have hsh : ∃ s, x.shape = some s := by rcases hvx with ⟨vs, rfl⟩ | ⟨t, xs, rfl⟩ <;> exact ⟨_, rfl⟩
            obtain ⟨s, hs⟩ := hsh
            rw [env_some hg, env_some hNb, hs] at hk
            rcases hk with hk | hk | hk
            · cases hk
            · cases hk
            · exact (En.ent.inj hk).1.symm
          · refine henv c (.inr (h.inn b hv c ?_))
            have := h.eq b hv
            rw [hb] at this
            rw [at_of this.symm]; exact hc
        · refine .inr ⟨hb, h2, fun l g ho e => ?_⟩
          obtain ⟨y, hy, hvy, _⟩ := owns_cases ho
          have e : l = b := e
          subst e
          rw [hg] at hy; cases hy
          exact hvx hvy
      · refine .inr ⟨hb, h2, fun l g ho e => ?_⟩
        have e : l = b := e
        subst e
        exact hv (h.owns ho).1
  · intro b
    by_cases hn : b ∈ wr ∨ M.length ≤ b ∧ b < N.length
    · obtain ⟨h1, h2⟩ := hnew b hn
      rcases hn with hw | ⟨hw1, hw2⟩
      · have hk := hE.keep b
        rw [h.env ρ (hwr b hw)] at hk
        have : envF ρ' m' b = envOf ρL' N b := envF_eq (m := tab N) h1 h2
        rcases hk with hk | hk | hk
        · exact .inl hk
        · exact .inr (.inl (this.trans hk))
        · exact .inr (.inr (this.trans hk))
      · refine .inl ?_
        unfold envF
        rw [hN b hw1 hw2]
    · obtain ⟨h1, h2⟩ := hold b hn
      exact .inr (.inr (envF_eq h1 h2))
end Lw
/- Regions that draw their order: the written order stands for all. -/
set_option linter.unusedVariables false
set_option linter.unusedSimpArgs false
namespace Lw
open Go

/-! ### 1. The trace in the written order -/
def GW (all : List Oper) (o : Oper) (F : List AV) (b : Bool) : Prop := (o.guard = none ∧ b = true) ∨ ∃ j want g, o.guard = some (j, want) ∧ guardOf all F j = some g ∧ b = (g == some want)
def StepR (Γ : Gam) (τ : Tys) (all : List Oper) (o : Oper) (F : List AV) (M : Mem) (F' : List AV) (M' : Mem) (t : Tr) : Prop :=
  (GW all o F true ∧ ∃ bt, aopR Γ τ all o F M = some bt ∧ bt.ev.ok = true ∧ preOk bt.ev.pre ∧ F' = putF F o.dst bt.ev.val ∧ M' = bt.ev.mem ∧ t = bt.ev.tr) ∨
  (GW all o F false ∧ F' = putF F o.dst .undef ∧ M' = M ∧ t = ⟨o.dst, gslot all o, [], [], [], []⟩)

theorem ifT_iff {b : Bool} {q : Prop} (h : ifT b q) : b = true ∧ q := by
  cases b
  · exact h.elim
  · exact ⟨rfl, h⟩

theorem drStep_step {Γ : Gam} {τ : Tys} {all : List Oper} {o : Oper} {F : List AV} {M : Mem} {k : List AV → Mem → Tr → Prop} (h : drStep Γ τ all o F M k) : ∃ F' M' t, StepR Γ τ all o F M F' M' t ∧ k F' M' t := by
  have go : GW all o F true → drGo Γ τ all o F M k → ∃ F' M' t, StepR Γ τ all o F M F' M' t ∧ k F' M' t := by
    intro hg h
    unfold drGo at h
    split at h
    · rename_i bt hbt
      have h0 := BT.then_ev h
      obtain ⟨h1, h2⟩ := ifT_iff h0
      rw [andP_iff] at h2
      exact ⟨_, _, _, .inl ⟨hg, bt, hbt, h1, h2.1, rfl, rfl, rfl⟩, h2.2⟩
    · exact h.elim
  have skip : GW all o F false → drSkip all o F M k → ∃ F' M' t, StepR Γ τ all o F M F' M' t ∧ k F' M' t := fun hg h => ⟨_, _, _, .inr ⟨hg, rfl, rfl, rfl⟩, h⟩
  unfold drStep at h
  split at h
  · rename_i hg; exact go (.inl ⟨hg, rfl⟩) h
  · rename_i j want hg
    split at h
    · rename_i b hgo
      rcases sel2_iff h with ⟨hb, h⟩ | ⟨hb, h⟩
      · rw [← hb, known_eq hgo] at h
        exact go (.inr ⟨j, want, some b, hg, hgo, by simp [hb]⟩) h
      · rw [show (!want) = b by cases b <;> cases want <;> simp_all, known_eq hgo] at h
        exact skip (.inr ⟨j, want, some b, hg, hgo, by simp [hb]⟩) h
    · rename_i hgo; exact skip (.inr ⟨j, want, none, hg, hgo, rfl⟩) h
    · exact h.elim

theorem runDraw_trace {Γ : Gam} {τ : Tys} {all : List Oper} {an : List (List Nat)} {K : List AV → Mem → Prop} : ∀ (ops : List Oper) (F : List AV) (M : Mem) (tr : List Tr), runDraw Γ τ all an ops F M tr K →
    ∃ (Fs : Nat → List AV) (Ms : Nat → Mem) (trs : List Tr), trs.length = ops.length ∧ Fs 0 = F ∧ Ms 0 = M ∧ okAll an 0 (tr ++ trs) = true ∧ K (Fs ops.length) (Ms ops.length) ∧
      ∀ (i : Nat) (o : Oper), ops[i]? = some o → ∃ t, trs[i]? = some t ∧ StepR Γ τ all o (Fs i) (Ms i) (Fs (i + 1)) (Ms (i + 1)) t
  | [], F, M, tr, h => by
    obtain ⟨h1, h2⟩ := ifT_iff h
    exact ⟨fun _ => F, fun _ => M, [], rfl, rfl, rfl, by simpa using h1, h2, fun i o ho => by simp at ho⟩
  | o :: r, F, M, tr, h => by
    obtain ⟨F', M', t, hs, hk⟩ := drStep_step h
    obtain ⟨Fs, Ms, trs, hl, hF, hM, hok, hK, hst⟩ := runDraw_trace r F' M' (tr ++ [t]) hk
    refine ⟨fun | 0 => F | i + 1 => Fs i, fun | 0 => M | i + 1 => Ms i, t :: trs, by simp [hl], rfl, rfl, by simpa using hok, hK, fun i o' ho => ?_⟩
    cases i with
    | zero =>
      simp at ho; subst ho
      exact ⟨t, rfl, by simp only [hF, hM]; exact hs⟩
    | succ i => exact hst i o' (by simpa using ho)

/-! ### 2. What was checked -/
theorem okRow_iff {x : Tr} {i : Nat} {an : List (List Nat)} : ∀ {l : List Tr} {j : Nat}, okRow x i an j l = true → ∀ (k : Nat) (y : Tr), l[k]? = some y → i ∈ an.getD (j + k) [] ∨ clash x y = false
  | [], j, _, k, y, h => by simp at h
  | z :: r, j, h, k, y, hk => by
    simp only [okRow, Bool.and_eq_true, Bool.or_eq_true, Bool.not_eq_true', memN_iff] at h
    cases k with
    | zero => simp at hk; subst hk; simpa using h.1
    | succ k =>
      have := okRow_iff h.2 k y (by simpa using hk)
      rw [show j + 1 + k = j + (k + 1) by omega] at this
      exact this
theorem okAll_iff {an : List (List Nat)} : ∀ {l : List Tr} {i : Nat}, okAll an i l = true → ∀ (p q : Nat) (x y : Tr), p < q → l[p]? = some x → l[q]? = some y → i + p ∈ an.getD (i + q) [] ∨ clash x y = false
  | [], i, _, p, q, x, y, _, h, _ => by simp at h
  | z :: r, i, h, p, q, x, y, hpq, hp, hq => by
    simp only [okAll, Bool.and_eq_true] at h
    cases q with
    | zero => omega
    | succ q =>
      cases p with
      | zero =>
        simp at hp; subst hp
        have := okRow_iff h.1 q y (by simpa using hq)
        rw [show i + 1 + q = i + (q + 1) by omega] at this
        exact this
      | succ p =>
        have := okAll_iff h.2 p q x y (by omega) (by simpa using hp) (by simpa using hq)
        rw [show i + 1 + p = i + (p + 1) by omega, show i + 1 + q = i + (q + 1) by omega] at this
        exact this

theorem mem_unionN {i : Nat} : ∀ (xs ys : List Nat), i ∈ unionN xs ys → i ∈ xs ∨ i ∈ ys
  | [], ys, h => .inr h
  | x :: xs, ys, h => by
    unfold unionN at h
    cases hb : memN x ys
    · rw [hb] at h
      rcases mem_unionN xs _ h with h | h
      · exact .inl (List.mem_cons_of_mem _ h)
      · rcases List.mem_cons.1 h with h | h
        · exact .inl (h ▸ List.mem_cons_self ..)
        · exact .inr h
    · rw [hb] at h
      rcases mem_unionN xs _ h with h | h
      · exact .inl (List.mem_cons_of_mem _ h)
      · exact .inr h
theorem mem_anc1 {acc : List (List Nat)} {i : Nat} : ∀ (xs ys : List Nat), i ∈ anc1 acc xs ys → (∃ e ∈ xs, i ∈ e :: acc.getD e []) ∨ i ∈ ys
  | [], ys, h => .inr h
  | x :: xs, ys, h => by
    unfold anc1 at h
    cases hb : memN x ys
    · rw [hb] at h
      rcases mem_anc1 xs _ h with ⟨e, he, h⟩ | h
      · exact .inl ⟨e, List.mem_cons_of_mem _ he, h⟩
      · rcases List.mem_cons.1 h with h | h
        · exact .inl ⟨x, List.mem_cons_self .., h ▸ List.mem_cons_self ..⟩
        · rcases mem_unionN _ _ h with h | h
          · exact .inl ⟨x, List.mem_cons_self .., List.mem_cons_of_mem _ h⟩
          · exact .inr h
    · rw [hb] at h
      rcases mem_anc1 xs _ h with ⟨e, he, h⟩ | h
      · exact .inl ⟨e, List.mem_cons_of_mem _ he, h⟩
      · exact .inr h

/-- All that must go ahead, has gone, once what goes directly ahead has. -/
theorem ancs_clo {all : List Oper} {D : Nat → Bool} (hD : ∀ (k : Nat) (o : Oper), all[k]? = some o → D k = true → ∀ e ∈ o.after.toList, Region.binds .any e = true → D e.on = true) : ∀ (r : List Oper) (acc : List (List Nat)), (∀ j, r[j]? = all[acc.length + j]?) →
    (∀ (k : Nat) (l : List Nat), acc[k]? = some l → ∀ o, all[k]? = some o → (∀ e ∈ o.after.toList, Region.binds .any e = true → D e.on = true) → ∀ i ∈ l, D i = true) →
    ∀ (k : Nat) (l : List Nat), (ancs acc r)[k]? = some l → ∀ o, all[k]? = some o → (∀ e ∈ o.after.toList, Region.binds .any e = true → D e.on = true) → ∀ i ∈ l, D i = true
  | [], acc, _, hQ => hQ
  | o :: r, acc, hr, hQ => by
    refine ancs_clo hD r _ (fun j => ?_) ?_
    · have := hr (j + 1)
      simp only [List.getElem?_cons_succ] at this
      rw [this]; congr 1; simp; omega
    · intro k l hk o' ho' hp i hi
      have h0 := hr 0
      simp only [List.getElem?_cons_zero, Nat.add_zero] at h0
      by_cases hlt : k < acc.length
      · rw [List.getElem?_append_left hlt] at hk
        exact hQ k l hk o' ho' hp i hi
      · have hkl : k = acc.length := by
          have := (List.getElem?_eq_some_iff.1 hk).1
          simp at this; omega
        subst hkl
        simp at hk
        subst hk
        rw [← h0] at ho'
        cases ho'
        rcases mem_anc1 _ _ hi with ⟨e', he', hi⟩ | hi
        case inr => exact absurd hi (by simp)
        simp only [List.mem_map, List.mem_filter] at he'
        obtain ⟨e, ⟨he, hb⟩, rfl⟩ := he'
        have hde := hp e he hb
        rcases List.mem_cons.1 hi with rfl | hi
        · exact hde
        · rw [List.getD_eq_getElem?_getD] at hi
          cases hq : acc[e.on]? with
          | none => rw [hq] at hi; simp at hi
          | some l' =>
            rw [hq] at hi
            have hlt' := (List.getElem?_eq_some_iff.1 hq).1
            cases ho2 : all[e.on]? with
            | none =>
              have h1 := List.getElem?_eq_none_iff.1 ho2
              have h2 : all[acc.length]? = some o := h0.symm
              have := (List.getElem?_eq_some_iff.1 h2).1
              omega
            | some o2 => exact hQ e.on l' hq o2 ho2 (hD e.on o2 ho2 hde) i (by simpa using hi)

/-! ### 3. The first that writes and has not come up -/
def ft (wr D : Nat → Bool) : Nat → Nat → Nat
  | k, 0 => k
  | k, m + 1 => if wr k && !D k then k else ft wr D (k + 1) m
structure Ft (wr D : Nat → Bool) (n t : Nat) : Prop where
  le : t ≤ n
  bef : ∀ i, i < t → wr i = true → D i = true
  at_ : t < n → wr t = true ∧ D t = false
theorem ft_aux {wr D : Nat → Bool} : ∀ (m k : Nat), (∀ i, i < k → wr i = true → D i = true) → Ft wr D (k + m) (ft wr D k m)
  | 0, k, h => ⟨Nat.le_refl _, h, fun hlt => absurd hlt (Nat.lt_irrefl _)⟩
  | m + 1, k, h => by
    unfold ft
    by_cases hk : (wr k && !D k) = true
    · rw [if_pos hk]
      simp only [Bool.and_eq_true, Bool.not_eq_true'] at hk
      exact ⟨by omega, h, fun _ => hk⟩
    · rw [if_neg hk]
      have := ft_aux (wr := wr) (D := D) m (k + 1) (fun i hi hw => by
        by_cases he : i = k
        · subst he
          cases hd : D i with
          | true => rfl
          | false => rw [hw, hd] at hk; simp at hk
        · exact h i (by omega) hw)
      rw [show k + 1 + m = k + (m + 1) by omega] at this
      exact this
theorem ft_spec (wr D : Nat → Bool) (n : Nat) : Ft wr D n (ft wr D 0 n) := by
  have := ft_aux (wr := wr) (D := D) n 0 (fun i hi => absurd hi (Nat.not_lt_zero _))
  simpa using this
theorem Ft.uniq {wr D : Nat → Bool} {n t u : Nat} (h : Ft wr D n t) (k : Ft wr D n u) : t = u := by
  rcases Nat.lt_trichotomy t u with hlt | he | hlt
  · have h1 := h.at_ (Nat.lt_of_lt_of_le hlt k.le)
    have := k.bef t hlt h1.1
    rw [h1.2] at this; cases this
  · exact he
  · have h1 := k.at_ (Nat.lt_of_lt_of_le hlt h.le)
    have := h.bef u hlt h1.1
    rw [h1.2] at this; cases this

section
variable {β : Type} {wr D : Nat → Bool} {n : Nat} {val : Nat → β}
theorem const_on (hfr : ∀ i, i < n → wr i = false → val (i + 1) = val i) {a : Nat} : ∀ (d : Nat), a + d ≤ n → (∀ i, a ≤ i → i < a + d → wr i = false) → val (a + d) = val a
  | 0, _, _ => rfl
  | d + 1, hle, h => by
    rw [← Nat.add_assoc, hfr (a + d) (by omega) (h (a + d) (by omega) (by omega))]
    exact const_on hfr d (by omega) fun i h1 h2 => h i h1 (by omega)
theorem const_on' (hfr : ∀ i, i < n → wr i = false → val (i + 1) = val i) {a b : Nat} (hab : a ≤ b) (hb : b ≤ n) (h : ∀ i, a ≤ i → i < b → wr i = false) : val b = val a := by
  have := const_on (a := a) hfr (b - a) (by omega) (fun i h1 h2 => h i h1 (by omega))
  rwa [show a + (b - a) = b by omega] at this
theorem cur_read (hfr : ∀ i, i < n → wr i = false → val (i + 1) = val i) {j : Nat} (hj : j < n) (hDj : D j = false) (h1 : ∀ i, i < n → wr i = true → i < j → D i = true) (h2 : ∀ i, i < n → wr i = true → j < i → D i = false) : val (ft wr D 0 n) = val j := by
  have hs := ft_spec wr D n
  generalize ft wr D 0 n = t at hs
  have hle : j ≤ t := by
    rcases Nat.lt_or_ge t j with hlt | hge
    · have h3 := hs.at_ (by omega)
      have := h1 t (by omega) h3.1 hlt
      rw [h3.2] at this; cases this
    · exact hge
  refine const_on' hfr hle hs.le fun i hi1 hi2 => ?_
  cases hw : wr i with
  | false => rfl
  | true =>
    have h3 := hs.bef i hi2 hw
    by_cases he : i = j
    · subst he; rw [hDj] at h3; cases h3
    · have := h2 i (by have := hs.le; omega) hw (by omega)
      rw [h3] at this; cases this
theorem cur_write (hfr : ∀ i, i < n → wr i = false → val (i + 1) = val i) {j : Nat} (hj : j < n) (hDj : D j = false) (h1 : ∀ i, i < n → wr i = true → i < j → D i = true) (h2 : ∀ i, i < n → wr i = true → j < i → D i = false)
    {D' : Nat → Bool} (hD' : ∀ i, D' i = true ↔ D i = true ∨ i = j) : val (ft wr D' 0 n) = val (j + 1) := by
  have hs := ft_spec wr D' n
  generalize ft wr D' 0 n = t at hs
  have hle : j + 1 ≤ t := by
    rcases Nat.lt_or_ge t (j + 1) with hlt | hge
    · have h3 := hs.at_ (by omega)
      have : D' t = true := by
        rw [hD']
        by_cases he : t = j
        · exact .inr he
        · exact .inl (h1 t (by omega) h3.1 (by omega))
      rw [h3.2] at this; cases this
    · exact hge
  refine const_on' hfr hle hs.le fun i hi1 hi2 => ?_
  cases hw : wr i with
  | false => rfl
  | true =>
    have h3 := hs.bef i hi2 hw
    rw [hD'] at h3
    have := h2 i (by have := hs.le; omega) hw (by omega)
    rcases h3 with h3 | h3
    · rw [h3] at this; cases this
    · omega
theorem ft_other {j : Nat} (hw : wr j = false) {D' : Nat → Bool} (hD' : ∀ i, D' i = true ↔ D i = true ∨ i = j) : ft wr D' 0 n = ft wr D 0 n := by
  refine (ft_spec wr D' n).uniq ?_
  have hs := ft_spec wr D n
  refine ⟨hs.le, fun i hi hwi => (hD' i).2 (.inl (hs.bef i hi hwi)), fun hlt => ⟨(hs.at_ hlt).1, ?_⟩⟩
  cases hd : D' (ft wr D 0 n) with
  | false => rfl
  | true =>
    rcases (hD' _).1 hd with h | h
    · rw [(hs.at_ hlt).2] at h; cases h
    · have := (hs.at_ hlt).1
      rw [h, hw] at this; cases this
theorem ft_all (h : ∀ i, i < n → D i = true) : ft wr D 0 n = n := by
  have hs := ft_spec wr D n
  rcases Nat.lt_or_ge (ft wr D 0 n) n with hlt | hge
  · have := (hs.at_ hlt).2
    rw [h _ hlt] at this; cases this
  · exact Nat.le_antisymm hs.le hge
theorem cur_none (hfr : ∀ i, i < n → wr i = false → val (i + 1) = val i) (h : ∀ i, D i = false) : val (ft wr D 0 n) = val 0 := by
  have hs := ft_spec wr D n
  refine const_on' hfr (Nat.zero_le _) hs.le fun i _ hi => ?_
  cases hw : wr i with
  | false => rfl
  | true => have := hs.bef i hi hw; rw [h i] at this; cases this
end
end Lw
