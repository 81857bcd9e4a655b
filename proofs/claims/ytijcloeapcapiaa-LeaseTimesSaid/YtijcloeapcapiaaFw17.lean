/- One operation upon a part of a memory; the trace of a region in its written order; which order does not matter. -/
import Derived.Test.YtijcloeapcapiaaFw16
set_option linter.unusedVariables false
set_option linter.unusedSimpArgs false
namespace Lw
open Go

/-! ### 1. Small lists -/
theorem allN_iff {p : Nat → Bool} : ∀ {l : List Nat}, allN p l = true ↔ ∀ b ∈ l, p b = true
  | [] => by simp [allN]
  | x :: r => by simp [allN, allN_iff (l := r)]
theorem mem_filterN {p : Nat → Bool} {b : Nat} : ∀ {l : List Nat}, b ∈ filterN p l ↔ b ∈ l ∧ p b = true
  | [] => by simp [filterN]
  | x :: r => by
    unfold filterN
    cases h : p x
    · simp only [cond_false, mem_filterN (l := r), List.mem_cons]
      constructor
      · exact fun ⟨h1, h2⟩ => ⟨.inr h1, h2⟩
      · rintro ⟨rfl | h1, h2⟩
        · rw [h] at h2; cases h2
        · exact ⟨h1, h2⟩
    · simp only [cond_true, List.mem_cons, mem_filterN (l := r)]
      constructor
      · rintro (rfl | ⟨h1, h2⟩)
        · exact ⟨.inl rfl, h⟩
        · exact ⟨.inr h1, h2⟩
      · rintro ⟨rfl | h1, h2⟩
        · exact .inl rfl
        · exact .inr ⟨h1, h2⟩
theorem mem_flatN {f : Nat → List Nat} {c : Nat} : ∀ {l : List Nat}, c ∈ flatN f l ↔ ∃ b ∈ l, c ∈ f b
  | [] => by simp [flatN]
  | x :: r => by simp [flatN, mem_flatN (l := r)]
theorem mem_range' {b : Nat} : ∀ {n i : Nat}, b ∈ range' i n ↔ i ≤ b ∧ b < i + n
  | 0, i => by simp [range']
  | n + 1, i => by
    simp only [range', List.mem_cons, mem_range' (n := n)]
    omega
theorem mem_avidsL {c : Nat} : ∀ {l : List AV}, c ∈ avidsL l ↔ ∃ x ∈ l, c ∈ x.ids
  | [] => by simp [avidsL]
  | x :: r => by simp [avidsL, mem_avidsL (l := r)]
theorem meets_iff {xs : List Nat} : ∀ {l : List Nat}, meets xs l = true ↔ ∃ b ∈ l, b ∈ xs
  | [] => by simp [meets]
  | x :: r => by simp [meets, memN_iff, meets_iff (l := r)]
theorem mem_usedT {s : Tmp} : ∀ {l : List Operand}, s ∈ usedT l ↔ Operand.tmp s ∈ l
  | [] => by simp [usedT]
  | x :: r => by cases x <;> simp [usedT, mem_usedT (l := r)]
theorem mergeM_length : ∀ {keep : List Nat} {M N : Mem} {k : Nat}, M.length ≤ N.length → (mergeM keep k M N).length = N.length
  | keep, [], N, k, _ => by simp [mergeM]
  | keep, v :: r, [], k, h => by simp at h
  | keep, v :: r, x :: s, k, h => by simp [mergeM, mergeM_length (M := r) (N := s) (by simpa using h)]
theorem mergeM_get : ∀ {keep : List Nat} {M N : Mem} {k b : Nat}, M.length ≤ N.length → (mergeM keep k M N)[b]? = if b < M.length then (if memN (k + b) keep then N[b]? else M[b]?) else N[b]?
  | keep, [], N, k, b, _ => by simp [mergeM]
  | keep, v :: r, [], k, b, h => by simp at h
  | keep, v :: r, x :: s, k, 0, h => by
    simp only [mergeM, List.length_cons, Nat.zero_lt_succ, if_true, Nat.add_zero]
    cases memN k keep <;> simp
  | keep, v :: r, x :: s, k, b + 1, h => by
    have ih := mergeM_get (keep := keep) (M := r) (N := s) (k := k + 1) (b := b) (by simpa using h)
    simp only [mergeM, List.getElem?_cons_succ, ih, List.length_cons, Nat.add_lt_add_iff_right]
    rw [show k + 1 + b = k + (b + 1) by omega]
theorem viewM_length : ∀ {vis mn : List Nat} {M : Mem} {k : Nat}, (viewM vis mn k M).length = M.length
  | vis, mn, [], k => rfl
  | vis, mn, v :: r, k => by simp [viewM, viewM_length (M := r)]
theorem viewM_get : ∀ {vis mn : List Nat} {M : Mem} {k b : Nat} {x : Blk}, M[b]? = some x → (viewM vis mn k M)[b]? = some (bif memN (k + b) vis then x else bif memN (k + b) mn then x.hide else .dead)
  | vis, mn, [], k, b, x, h => by simp at h
  | vis, mn, v :: r, k, 0, x, h => by simp at h; subst h; simp [viewM]
  | vis, mn, v :: r, k, b + 1, x, h => by
    have ih := viewM_get (vis := vis) (mn := mn) (M := r) (k := k + 1) (b := b) (x := x) (by simpa using h)
    simp only [viewM, List.getElem?_cons_succ, ih]
    rw [show k + 1 + b = k + (b + 1) by omega]
theorem restrictF_length : ∀ {keep : List Tmp} {F : List AV} {k : Nat}, (restrictF keep k F).length = F.length
  | keep, [], k => rfl
  | keep, v :: r, k => by simp [restrictF, restrictF_length (F := r)]
theorem restrictF_rel {X : Cx} {E : Env} {keep : List Tmp} : ∀ {F : List AV} {vs : List Value} {k : Nat}, vs.length = F.length → (∀ s v, vs[s]? = some v → k + s ∈ keep → RelA X E (F.getD s .undef) v) → RelF X E (restrictF keep k F) vs
  | [], [], k, _, _ => trivial
  | [], _ :: _, k, h, _ => by simp at h
  | _ :: _, [], k, h, _ => by simp at h
  | c :: r, v :: vs, k, h, hr => by
    refine ⟨?_, restrictF_rel (by simpa using h) fun s v' hv hk => ?_⟩
    · cases hm : memN k keep with
      | false => simp only [cond_false]; trivial
      | true => simp only [cond_true]; exact hr 0 v rfl (memN_iff.1 hm)
    · have := hr (s + 1) v' (by simpa using hv) (by rw [show k + (s + 1) = k + 1 + s by omega]; exact hk)
      simpa using this

/-! ### 2. One operation upon a part -/
theorem shape_hidden {X : Cx} {E : Env} {w : World} {u : Value} {x y : Blk} (h : RepB X E w u x) (hs : x.shape = y.shape) : RepB X E w u y.hide := by
  cases y <;> simp only [Blk.hide]
  case cells vs =>
    cases x <;> simp [Blk.shape] at hs
    case cells us => obtain ⟨g, _, _, hu, _⟩ := h; exact ⟨g, hu⟩
    case hidC n => subst hs; exact h
  case row t xs =>
    cases x <;> simp [Blk.shape] at hs
    case row t' ys =>
      obtain ⟨rfl, hl⟩ := hs
      rcases h with ⟨rfl, h⟩ | ⟨g, cap, cur, hu, hc, _, h1, _⟩
      · exact .inl ⟨by simpa using hl.symm, h⟩
      · exact .inr ⟨g, cap, by rw [hu, hl], hc, by omega⟩
    case hidR t' n =>
      obtain ⟨rfl, hl⟩ := hs
      subst hl; exact h
  case hidC n =>
    cases x <;> simp [Blk.shape] at hs
    case cells us => obtain ⟨g, _, _, hu, _⟩ := h; exact ⟨g, hu⟩
    case hidC m => exact h
  case hidR t n =>
    cases x <;> simp [Blk.shape] at hs
    case row t' ys =>
      obtain ⟨rfl, hl⟩ := hs
      rcases h with ⟨rfl, h⟩ | ⟨g, cap, cur, hu, hc, _, h1, _⟩
      · exact .inl ⟨by simpa using hl.symm, h⟩
      · exact .inr ⟨g, cap, by rw [hu, hl], hc, by omega⟩
    case hidR t' m =>
      obtain ⟨rfl, hl⟩ := hs
      subst hl; exact h
  case dead => trivial

theorem vis_hide {x : Blk} : ¬ Vis x.hide := by
  rintro (⟨vs, h⟩ | ⟨t, xs, h⟩) <;> cases x <;> simp [Blk.hide] at h

theorem envF_eq {ρ ρ' : Nat → Value} {m m' : Nat → Option Blk} {b : Nat} (h : m' b = m b) (hr : ρ' b = ρ b) : envF ρ' m' b = envF ρ m b := by
  unfold envF; rw [h, hr]
theorem envF_shape {ρ : Nat → Value} {m : Nat → Option Blk} {L : Mem} {b : Nat} {x y : Blk} (hm : m b = some x) (hL : L[b]? = some y) (hs : x.shape = y.shape) : envOf ρ L b = envF ρ m b := by
  rw [env_some hL]
  unfold envF
  rw [hm]
  simp only [hs]
  cases y.shape <;> rfl

/-- What is asked of a view: the table `m` is, at what is looked into, the memory `M`, and at what is named of the same shape. -/
structure View (m : Nat → Option Blk) (M : Mem) (vis mn : List Nat) : Prop where
  lt : ∀ b ∈ mn, b < M.length
  sub : ∀ b ∈ vis, b ∈ mn
  inn : ∀ b ∈ vis, ∀ c ∈ (M.at b).ids, c ∈ mn
  eq : ∀ b ∈ vis, m b = M[b]?
  shape : ∀ b ∈ mn, ∃ x y, m b = some x ∧ M[b]? = some y ∧ x.shape = y.shape

theorem View.env {m : Nat → Option Blk} {M : Mem} {vis mn : List Nat} (h : View m M vis mn) (ρ : Nat → Value) {b : Nat} (hb : b ∈ mn) : envOf ρ (viewM vis mn 0 M) b = envF ρ m b := by
  obtain ⟨x, y, hx, hy, hs⟩ := h.shape b hb
  refine envF_shape hx (viewM_get hy) ?_
  simp only [Nat.zero_add, memN_iff.2 hb, cond_true]
  cases memN b vis <;> simp [hs, Blk.shape_hide]

theorem View.vis {m : Nat → Option Blk} {M : Mem} {vis mn : List Nat} (h : View m M vis mn) {b : Nat} {x : Blk} (hx : (viewM vis mn 0 M)[b]? = some x) (hv : Vis x) : b ∈ vis ∧ m b = some x := by
  have hb : b < M.length := by
    have := (List.getElem?_eq_some_iff.1 hx).1
    rwa [viewM_length] at this
  rw [viewM_get (at_get hb)] at hx
  simp only [Nat.zero_add] at hx
  cases hm : memN b vis with
  | true =>
    rw [hm] at hx
    have hbv := memN_iff.1 hm
    refine ⟨hbv, ?_⟩
    rw [h.eq b hbv, at_get hb]
    exact hx
  | false =>
    rw [hm] at hx
    simp only [cond_false] at hx
    cases hn : memN b mn with
    | true => rw [hn] at hx; cases hx; exact absurd hv vis_hide
    | false => rw [hn] at hx; cases hx; rcases hv with ⟨_, h⟩ | ⟨_, _, h⟩ <;> cases h

theorem View.owns {m : Nat → Option Blk} {M : Mem} {vis mn : List Nat} (h : View m M vis mn) {ρ : Nat → Value} {b g : Nat} (ho : Owns ρ (viewM vis mn 0 M) b g) : b ∈ vis ∧ OwnsF ρ m b g := by
  obtain ⟨x, hx, hv, hg⟩ := owns_cases ho
  obtain ⟨h1, h2⟩ := h.vis hx hv
  exact ⟨h1, x, h2, hv, hg⟩

theorem View.rep {X : Cx} {m : Nat → Option Blk} {M : Mem} {vis mn : List Nat} (h : View m M vis mn) {ρ : Nat → Value} {w : World} (hR : RepE X (envF ρ m) ρ m w) : Rep X ρ (viewM vis mn 0 M) w := by
  refine ⟨?_, fun b b' g h1 h2 => hR.sep b b' g (h.owns h1).2 (h.owns h2).2, fun b g h1 => hR.base b g (h.owns h1).2, hR.ro, hR.sz⟩
  intro b x hx
  have hb : b < M.length := by
    have := (List.getElem?_eq_some_iff.1 hx).1
    rwa [viewM_length] at this
  have hx' := hx
  rw [viewM_get (at_get hb)] at hx
  simp only [Nat.zero_add] at hx
  cases hm : memN b vis with
  | true =>
    rw [hm] at hx
    cases hx
    have hbv := memN_iff.1 hm
    refine (hR.blk b _ (by rw [h.eq b hbv, at_get hb]; rfl)).on (fun c hc => .inr (.inr (h.env ρ (h.inn b hbv c hc)))) (fun _ _ _ => rfl)
  | false =>
    rw [hm] at hx
    simp only [cond_false] at hx
    cases hn : memN b mn with
    | true =>
      rw [hn] at hx
      cases hx
      obtain ⟨x, y, hx, hy, hs⟩ := h.shape b (memN_iff.1 hn)
      rw [at_get hb] at hy
      cases hy
      have hh := shape_hidden (hR.blk b x hx) hs
      refine hh.on (fun c hc => ?_) (fun hv => ?_)
      · cases hq : M.at b <;> rw [hq] at hc <;> simp [Blk.hide, Blk.ids] at hc
      · exact absurd hv vis_hide
    | false => rw [hn] at hx; cases hx; trivial

/-- What the operation has left, put back. -/
theorem view_part {m : Nat → Option Blk} {M N : Mem} {vis mn wr : List Nat} (h : View m M vis mn) {ρ ρL' : Nat → Value} {w w' : World} (hE : Ext w ρ (viewM vis mn 0 M) w' ρL' N)
    (hwr : ∀ b ∈ wr, b ∈ mn) (hW : ∀ b ∈ wr, m b = M[b]?) (hN : ∀ b, M.length ≤ b → b < N.length → m b = none)
    (hsame : ∀ b, b < M.length → b ∉ wr → b ∈ vis → N[b]? = (viewM vis mn 0 M)[b]?)
    (hlive : ∀ b ∈ mn, b ∉ wr → live N b = live (viewM vis mn 0 M) b)
    (hids : ∀ b, b ∈ wr ∨ M.length ≤ b → ∀ c ∈ (N.at b).ids, M.length ≤ c ∨ c ∈ mn)
    {m' : Nat → Option Blk} (hm' : ∀ b, m' b = if b ∈ wr ∨ M.length ≤ b ∧ b < N.length then N[b]? else m b) :
    let ρ' := fun b => if b ∈ wr ∨ M.length ≤ b ∧ b < N.length then ρL' b else ρ b
    Part (envF ρ m) (envF ρ' m') ρ ρ' ρ ρL' m m' (viewM vis mn 0 M) N id ∧ ∀ c, M.length ≤ c ∨ c ∈ mn → On (envOf ρL' N) (envF ρ' m') c := by
  intro ρ'
  have hlen : M.length ≤ N.length := by have := hE.len; rwa [viewM_length] at this
  have hnew : ∀ b, (b ∈ wr ∨ M.length ≤ b ∧ b < N.length) → m' b = N[b]? ∧ ρ' b = ρL' b := fun b hb => ⟨by rw [hm', if_pos hb], if_pos hb⟩
  have hold : ∀ b, ¬ (b ∈ wr ∨ M.length ≤ b ∧ b < N.length) → m' b = m b ∧ ρ' b = ρ b := fun b hb => ⟨by rw [hm', if_neg hb], if_neg hb⟩
  have henv : ∀ c, M.length ≤ c ∨ c ∈ mn → On (envOf ρL' N) (envF ρ' m') c := by
    intro c hc
    by_cases hn : c ∈ wr ∨ M.length ≤ c ∧ c < N.length
    · obtain ⟨h1, h2⟩ := hnew c hn
      refine .inr (.inr ?_)
      show envF ρ' m' c = envF ρL' (tab N) c
      exact envF_eq h1 h2
    · obtain ⟨h1, h2⟩ := hold c hn
      rcases hc with hc | hc
      · exact .inl (env_none (List.getElem?_eq_none (by simp only [not_or, not_and] at hn; have := hn.2 hc; omega)))
      · have hcw : c ∉ wr := fun hh => hn (.inl hh)
        have hk := hE.keep c
        rw [h.env ρ hc] at hk
        have he : envF ρ' m' c = envF ρ m c := envF_eq h1 h2
        have hl := hlive c hc hcw
        obtain ⟨x, y, hx, hy, hs⟩ := h.shape c hc
        rcases hk with hk | hk | hk
        · unfold envF at hk
          simp only [hx] at hk
          cases hs' : x.shape <;> simp [hs'] at hk
        · -- it is dead now: so it was
          refine .inr (.inl ?_)
          rw [he]
          have hlN : live N c = false := by
            cases hq : live N c with
            | false => rfl
            | true => exact (live_env hq hk).elim
          rw [hlN] at hl
          have : envOf ρ (viewM vis mn 0 M) c = .dead := by
            have hcl := h.lt c hc
            have hg := viewM_get (vis := vis) (mn := mn) (k := 0) hy
            rw [env_some hg]
            unfold live at hl
            rw [at_of hg] at hl
            split at hl
            · rename_i hd; rw [hd]; rfl
            · cases hl
          rw [← h.env ρ hc]; exact this
        · exact .inr (.inr (he.trans hk.symm))
  refine ⟨⟨fun l g ho => (h.owns ho).2, ?_, ?_⟩, henv⟩
  · intro b x hb
    by_cases hn : b ∈ wr ∨ M.length ≤ b ∧ b < N.length
    · obtain ⟨h1, h2⟩ := hnew b hn
      rw [h1] at hb
      refine .inl ⟨b, x, rfl, hb, (Blk.map_on fun _ _ => rfl).symm, h2, fun c hc => ?_⟩
      rw [← at_of hb] at hc
      exact henv c (hids b (hn.imp id And.left) c hc)
    · obtain ⟨h1, h2⟩ := hold b hn
      rw [h1] at hb
      by_cases hv : b ∈ vis
      · have hbl : b < M.length := h.lt b (h.sub b hv)
        have hbw : b ∉ wr := fun hh => hn (.inl hh)
        have hNb := hsame b hbl hbw hv
        have hg : (viewM vis mn 0 M)[b]? = some x := by
          rw [viewM_get (at_get hbl)]
          simp only [Nat.zero_add, memN_iff.2 hv, cond_true]
          rw [← at_get hbl, ← h.eq b hv]; exact hb
        rw [hg] at hNb
        have hk := hE.keep b
        by_cases hvx : Vis x
        · refine .inl ⟨b, x, rfl, hNb, (Blk.map_on fun _ _ => rfl).symm, ?_, fun c hc => ?_⟩
          · rw [h2]
            have hsh : ∃ s, x.shape = some s := by rcases hvx with ⟨vs, rfl⟩ | ⟨t, xs, rfl⟩ <;> exact ⟨_, rfl⟩
            obtain ⟨s, hs⟩ := hsh
            rw [env_some hg, env_some hNb, hs] at hk
            rcases hk with hk | hk | hk
            · cases hk
            · cases hk
            · exact (En.ent.inj hk).1.symm
          · refine henv c (.inr (h.inn b hv c ?_))
            have := h.eq b hv
            rw [hb] at this
            rw [at_of this.symm]; exact hc
        · refine .inr ⟨hb, h2, fun l g ho e => ?_⟩
          obtain ⟨y, hy, hvy, _⟩ := owns_cases ho
          have e : l = b := e
          subst e
          rw [hg] at hy; cases hy
          exact hvx hvy
      · refine .inr ⟨hb, h2, fun l g ho e => ?_⟩
        have e : l = b := e
        subst e
        exact hv (h.owns ho).1
  · intro b
    by_cases hn : b ∈ wr ∨ M.length ≤ b ∧ b < N.length
    · obtain ⟨h1, h2⟩ := hnew b hn
      rcases hn with hw | ⟨hw1, hw2⟩
      · have hk := hE.keep b
        rw [h.env ρ (hwr b hw)] at hk
        have : envF ρ' m' b = envOf ρL' N b := envF_eq (m := tab N) h1 h2
        rcases hk with hk | hk | hk
        · exact .inl hk
        · exact .inr (.inl (this.trans hk))
        · exact .inr (.inr (this.trans hk))
      · refine .inl ?_
        unfold envF
        rw [hN b hw1 hw2]
    · obtain ⟨h1, h2⟩ := hold b hn
      exact .inr (.inr (envF_eq h1 h2))
end Lw
