/- Parts of a memory under names of their own; what was done to a part, put back into the whole. -/
import Derived.Test.YtijcloeapcapiaaFw12
set_option linter.unusedVariables false
set_option linter.unusedSimpArgs false
namespace Lw
open Go

/-! ### 1. Only the blocks that are named count -/
def On (E E' : Env) (b : Nat) : Prop := E b = .out ∨ E' b = .dead ∨ E' b = E b

theorem RelC.on {X : Cx} {E E' : Env} {c : Cell} {v : Value} (hE : ∀ b ∈ c.ids, On E E' b) (h : RelC X E c v) : RelC X E' c v := by
  have h1 := h.one
  cases c <;> simp only [RelC] at h ⊢ <;> try exact h
  case ptr b i off =>
    rcases hE b (by simp [Cell.ids]) with k | k | k
    · rw [k] at h; exact h.elim
    · rw [k]; exact h1
    · rw [k]; exact h
  case row b =>
    rcases hE b (by simp [Cell.ids]) with k | k | k
    · rw [k] at h; exact h.elim
    · rw [k]; exact h1
    · rw [k]; exact h
  case sub b lo len =>
    rcases hE b (by simp [Cell.ids]) with k | k | k
    · rw [k] at h; exact h.elim
    · rw [k]; exact h1
    · rw [k]; exact h
theorem RelCs.on {X : Cx} {E E' : Env} : ∀ {cs : List Cell} {vs : List Value}, (∀ b ∈ cidsL cs, On E E' b) → RelCs X E cs vs → RelCs X E' cs vs
  | [], [], _, _ => trivial
  | c :: r, _ :: _, hE, h => ⟨h.1.on fun b hb => hE b (List.mem_append_left _ hb), RelCs.on (fun b hb => hE b (List.mem_append_right _ hb)) h.2⟩
  | [], _ :: _, _, h => h.elim
  | _ :: _, [], _, h => h.elim
theorem RelV1.on {X : Cx} {E E' : Env} {c : V1} {v : Value} (hE : ∀ b ∈ c.ids, On E E' b) (h : RelV1 X E c v) : RelV1 X E' c v := by
  cases c
  case c x => exact RelC.on hE h
  case agg xs => obtain ⟨cs, hv, hr⟩ := h; exact ⟨cs, hv, hr.on hE⟩
theorem RelV1s.on {X : Cx} {E E' : Env} : ∀ {cs : List V1} {vs : List Value}, (∀ b ∈ v1idsL cs, On E E' b) → RelV1s X E cs vs → RelV1s X E' cs vs
  | [], [], _, _ => trivial
  | c :: r, _ :: _, hE, h => ⟨h.1.on fun b hb => hE b (List.mem_append_left _ hb), RelV1s.on (fun b hb => hE b (List.mem_append_right _ hb)) h.2⟩
  | [], _ :: _, _, h => h.elim
  | _ :: _, [], _, h => h.elim
theorem RelA.on {X : Cx} {E E' : Env} {c : AV} {v : Value} (hE : ∀ b ∈ c.ids, On E E' b) (h : RelA X E c v) : RelA X E' c v := by
  cases c
  case one x => exact RelV1.on hE h
  case tup xs => obtain ⟨vs, hv, hr⟩ := h; exact ⟨vs, hv, hr.on hE⟩
  case fn f a b =>
    obtain ⟨a', b', hv, h1, h2⟩ := h
    exact ⟨a', b', hv, h1.on fun b hb => hE b (List.mem_append_left _ hb), h2.on fun b hb => hE b (List.mem_append_right _ hb)⟩
  case rop cs => exact h
  case undef => exact h
  case junk => trivial
theorem RelF.on {X : Cx} {E E' : Env} : ∀ {cs : List AV} {vs : List Value}, (∀ b ∈ avidsL cs, On E E' b) → RelF X E cs vs → RelF X E' cs vs
  | [], [], _, _ => trivial
  | c :: r, _ :: _, hE, h => ⟨h.1.on fun b hb => hE b (List.mem_append_left _ hb), RelF.on (fun b hb => hE b (List.mem_append_right _ hb)) h.2⟩
  | [], _ :: _, _, h => h.elim
  | _ :: _, [], _, h => h.elim
theorem RepB.on {X : Cx} {E E' : Env} {w w' : World} {u : Value} {x : Blk} (h : RepB X E w u x) (hE : ∀ b ∈ x.ids, On E E' b)
    (hh : (∃ vs, x = .cells vs) ∨ (∃ t xs, x = .row t xs) → ∀ g, blkOf u = some g → w'.heap[g]? = w.heap[g]?) : RepB X E' w' u x := by
  cases x
  case cells vs =>
    obtain ⟨g, cs, e, rfl, hg, hr⟩ := h
    exact ⟨g, cs, e, rfl, by rw [hh (.inl ⟨_, rfl⟩) g rfl]; exact hg, hr.on hE⟩
  case row t xs =>
    rcases h with h | ⟨g, cap, cur, rfl, hc, hg, h1, h2, h3, h4⟩
    · exact .inl h
    · refine .inr ⟨g, cap, cur, rfl, hc, ?_, h1, h2, h3, h4⟩
      obtain ⟨c, rfl⟩ : ∃ c, cap = c + 1 := ⟨cap - 1, by omega⟩
      rw [hh (.inr ⟨_, _, rfl⟩) g rfl]; exact hg
  case hidC n => exact h
  case hidR t n => exact h
  case dead => trivial
theorem RepB_map {X : Cx} {E : Env} {σ : Nat → Nat} {w : World} {u : Value} (x : Blk) : RepB X E w u (x.map σ) ↔ RepB X (fun b => E (σ b)) w u x := by
  cases x
  case cells vs => exact exists_congr fun g => exists_congr fun cs => exists_congr fun e => and_congr Iff.rfl (and_congr Iff.rfl (RelCs_map vs cs.toList))
  all_goals exact Iff.rfl

/-! ### 2. A memory as a table of its blocks -/
def Vis (x : Blk) : Prop := (∃ vs, x = .cells vs) ∨ (∃ t xs, x = .row t xs)
def OwnsF (ρ : Nat → Value) (m : Nat → Option Blk) (b g : Nat) : Prop := ∃ x, m b = some x ∧ Vis x ∧ blkOf (ρ b) = some g
def envF (ρ : Nat → Value) (m : Nat → Option Blk) : Env := fun b => match m b with
  | none => .out
  | some x => match x.shape with
    | some s => .ent (ρ b) s
    | none => .dead
def tab (M : Mem) (b : Nat) : Option Blk := M[b]?
structure RepE (X : Cx) (E : Env) (ρ : Nat → Value) (m : Nat → Option Blk) (w : World) : Prop where
  blk : ∀ b x, m b = some x → RepB X E w (ρ b) x
  sep : ∀ b b' g, OwnsF ρ m b g → OwnsF ρ m b' g → b = b'
  base : ∀ b g, OwnsF ρ m b g → X.W0.heap.size ≤ g
  ro : ∀ k, k < X.W0.heap.size → w.heap[k]? = X.W0.heap[k]?
  sz : X.W0.heap.size ≤ w.heap.size

theorem owns_cases {ρ : Nat → Value} {M : Mem} {b g : Nat} (h : Owns ρ M b g) : ∃ x, M[b]? = some x ∧ ((∃ vs, x = .cells vs) ∨ (∃ t xs, x = .row t xs)) ∧ blkOf (ρ b) = some g := by
  unfold Owns at h
  split at h
  · rename_i vs hb; exact ⟨_, hb, .inl ⟨_, rfl⟩, h⟩
  · rename_i t xs hb; exact ⟨_, hb, .inr ⟨_, _, rfl⟩, h⟩
  · exact h.elim
theorem owns_of {ρ : Nat → Value} {M : Mem} {b g : Nat} {x : Blk} (hb : M[b]? = some x) (hx : (∃ vs, x = .cells vs) ∨ (∃ t xs, x = .row t xs)) (hg : blkOf (ρ b) = some g) : Owns ρ M b g := by
  unfold Owns
  rcases hx with ⟨vs, rfl⟩ | ⟨t, xs, rfl⟩ <;> rw [hb] <;> exact hg
theorem owns_tab {ρ : Nat → Value} {M : Mem} {b g : Nat} : OwnsF ρ (tab M) b g ↔ Owns ρ M b g := by
  constructor
  · rintro ⟨x, hx, hv, hg⟩; exact owns_of hx hv hg
  · intro h
    obtain ⟨x, hx, hv, hg⟩ := owns_cases h
    exact ⟨x, hx, hv, hg⟩
theorem env_tab (ρ : Nat → Value) (M : Mem) : envF ρ (tab M) = envOf ρ M := rfl
theorem Rep.toE {X : Cx} {ρ : Nat → Value} {M : Mem} {w : World} (h : Rep X ρ M w) : RepE X (envOf ρ M) ρ (tab M) w :=
  ⟨h.blk, fun b b' g h1 h2 => h.sep b b' g (owns_tab.1 h1) (owns_tab.1 h2), fun b g h1 => h.base b g (owns_tab.1 h1), h.ro, h.sz⟩
theorem RepE.rep {X : Cx} {ρ : Nat → Value} {M : Mem} {w : World} (h : RepE X (envOf ρ M) ρ (tab M) w) : Rep X ρ M w :=
  ⟨h.blk, fun b b' g h1 h2 => h.sep b b' g (owns_tab.2 h1) (owns_tab.2 h2), fun b g h1 => h.base b g (owns_tab.2 h1), h.ro, h.sz⟩

theorem RepE.lt {X : Cx} {E : Env} {ρ : Nat → Value} {m : Nat → Option Blk} {w : World} (h : RepE X E ρ m w) {b g : Nat} (ho : OwnsF ρ m b g) : g < w.heap.size := by
  obtain ⟨x, hb, hx, hg⟩ := ho
  rcases hx with ⟨vs, rfl⟩ | ⟨t, xs, rfl⟩
  · obtain ⟨g', cs, e, hu, hg', _⟩ := h.blk b _ hb
    rw [hu] at hg
    have : g' = g := by simpa [blkOf] using hg
    subst this
    exact (Array.getElem?_eq_some_iff.1 hg').1
  · rcases h.blk b _ hb with ⟨_, a, hu⟩ | ⟨g', cap, cur, hu, hc, hg', _⟩
    · rw [hu] at hg
      cases a <;> simp [blkOf] at hg
    · rw [hu] at hg
      obtain ⟨c, rfl⟩ : ∃ c, cap = c + 1 := ⟨cap - 1, by omega⟩
      have : g' = g := by simpa [blkOf] using hg
      subst this
      exact (Array.getElem?_eq_some_iff.1 hg').1

structure ExtF (w : World) (ρ : Nat → Value) (m : Nat → Option Blk) (w' : World) (ρ' : Nat → Value) (m' : Nat → Option Blk) : Prop where
  os : w'.os = w.os
  tape : w'.tape = w.tape
  output : w'.output = w.output
  size : w.heap.size ≤ w'.heap.size
  frame : ∀ k, k < w.heap.size → (∀ b, ¬ OwnsF ρ m b k) → w'.heap[k]? = w.heap[k]?
  own : ∀ b g, OwnsF ρ' m' b g → (∃ b', OwnsF ρ m b' g) ∨ w.heap.size ≤ g
theorem ExtF.trans {w w' w'' : World} {ρ ρ' ρ'' : Nat → Value} {m m' m'' : Nat → Option Blk} (h : ExtF w ρ m w' ρ' m') (k : ExtF w' ρ' m' w'' ρ'' m'') : ExtF w ρ m w'' ρ'' m'' := by
  refine ⟨k.os.trans h.os, k.tape.trans h.tape, k.output.trans h.output, Nat.le_trans h.size k.size, fun i hi hn => ?_, fun b g hg => ?_⟩
  · rw [k.frame i (Nat.lt_of_lt_of_le hi h.size) (fun b hb => ?_), h.frame i hi hn]
    rcases h.own b i hb with ⟨b', hb'⟩ | hlt
    · exact hn b' hb'
    · omega
  · rcases k.own b g hg with ⟨b', hb'⟩ | hlt
    · exact h.own b' g hb'
    · exact .inr (Nat.le_trans h.size hlt)
theorem Ext.toF {w w' : World} {ρ ρ' : Nat → Value} {M M' : Mem} (h : Ext w ρ M w' ρ' M') : ExtF w ρ (tab M) w' ρ' (tab M') :=
  ⟨h.os, h.tape, h.output, h.size, fun k hk hn => h.frame k hk fun b hb => hn b (owns_tab.2 hb), fun b g hg => (h.own b g (owns_tab.1 hg)).imp (fun ⟨c, hc⟩ => ⟨c, owns_tab.2 hc⟩) id⟩
theorem ExtF.ext {w w' : World} {ρ ρ' : Nat → Value} {M M' : Mem} (h : ExtF w ρ (tab M) w' ρ' (tab M')) (hl : M.length ≤ M'.length) (hk : (envOf ρ M).to (envOf ρ' M')) : Ext w ρ M w' ρ' M' :=
  ⟨hl, h.os, h.tape, h.output, h.size, fun k hk' hn => h.frame k hk' fun b hb => hn b (owns_tab.1 hb), fun b g hg => (h.own b g (owns_tab.2 hg)).imp (fun ⟨c, hc⟩ => ⟨c, owns_tab.1 hc⟩) id, hk⟩

/-! ### 3. What was done to a part -/
/-- `L` is a part of `m`, `σ` the names of its blocks in `m`; `L'` and `m'` are what they have become. -/
structure Part (E E' : Env) (ρ ρ' ρL ρL' : Nat → Value) (m m' : Nat → Option Blk) (L L' : Mem) (σ : Nat → Nat) : Prop where
  was : ∀ l g, Owns ρL L l g → OwnsF ρ m (σ l) g
  is : ∀ b x, m' b = some x → (∃ l y, σ l = b ∧ L'[l]? = some y ∧ x = y.map σ ∧ ρ' b = ρL' l ∧ ∀ c ∈ y.ids, On (envOf ρL' L') (fun l => E' (σ l)) c) ∨ (m b = some x ∧ ρ' b = ρ b ∧ ∀ l g, Owns ρL L l g → σ l ≠ b)
  old : ∀ b, On E E' b

theorem shape_map_vis {x y : Blk} {σ : Nat → Nat} (h : x = y.map σ) (hx : (∃ vs, x = .cells vs) ∨ (∃ t xs, x = .row t xs)) : (∃ vs, y = .cells vs) ∨ (∃ t xs, y = .row t xs) := by
  cases y <;> simp [Blk.map] at h ⊢ <;> subst h <;> simp at hx

theorem Part.owns {E E' : Env} {ρ ρ' ρL ρL' : Nat → Value} {m m' : Nat → Option Blk} {L L' : Mem} {σ : Nat → Nat} (hP : Part E E' ρ ρ' ρL ρL' m m' L L' σ) {b g : Nat} (ho : OwnsF ρ' m' b g) :
    (∃ l, σ l = b ∧ Owns ρL' L' l g) ∨ (OwnsF ρ m b g ∧ ∀ l g, Owns ρL L l g → σ l ≠ b) := by
  obtain ⟨x, hb, hx, hg⟩ := ho
  rcases hP.is b x hb with ⟨l, y, hl, hy, hxy, hρ, _⟩ | ⟨hM, hρ, hn⟩
  · exact .inl ⟨l, hl, owns_of hy (shape_map_vis hxy hx) (hρ ▸ hg)⟩
  · exact .inr ⟨⟨x, hM, hx, hρ ▸ hg⟩, hn⟩

theorem Part.rep {X : Cx} {E E' : Env} {ρ ρ' ρL ρL' : Nat → Value} {m m' : Nat → Option Blk} {L L' : Mem} {σ : Nat → Nat} {w w' : World} (hP : Part E E' ρ ρ' ρL ρL' m m' L L' σ)
    (hR : RepE X E ρ m w) (hL' : Rep X ρL' L' w') (hE : Ext w ρL L w' ρL' L') : RepE X E' ρ' m' w' := by
  refine ⟨?_, ?_, ?_, hL'.ro, hL'.sz⟩
  · intro b x hb
    rcases hP.is b x hb with ⟨l, y, hl, hy, hxy, hρ, henv⟩ | ⟨hM, hρ, hn⟩
    · rw [hρ, hxy, RepB_map]
      exact (hL'.blk l y hy).on henv (fun _ _ _ => rfl)
    · rw [hρ]
      refine (hR.blk b x hM).on (fun c _ => hP.old c) (fun hx g hg => ?_)
      have ho : OwnsF ρ m b g := ⟨x, hM, hx, hg⟩
      refine hE.frame g (hR.lt ho) (fun l hl => ?_)
      exact hn l g hl (hR.sep _ _ g (hP.was l g hl) ho)
  · intro b b' g h h'
    rcases hP.owns h with ⟨l, hl, ho⟩ | ⟨ho, hn⟩ <;> rcases hP.owns h' with ⟨l', hl', ho'⟩ | ⟨ho', hn'⟩
    · have := hL'.sep l l' g ho ho'
      rw [← hl, ← hl', this]
    · rcases hE.own l g ho with ⟨c, hc⟩ | hlt
      · exact absurd (hR.sep _ _ g (hP.was c g hc) ho') (hn' c g hc)
      · have := hR.lt ho'; omega
    · rcases hE.own l' g ho' with ⟨c, hc⟩ | hlt
      · exact absurd (hR.sep _ _ g (hP.was c g hc) ho) (hn c g hc)
      · have := hR.lt ho; omega
    · exact hR.sep b b' g ho ho'
  · intro b g h
    rcases hP.owns h with ⟨l, hl, ho⟩ | ⟨ho, hn⟩
    · exact hL'.base l g ho
    · exact hR.base b g ho

theorem Part.ext {E E' : Env} {ρ ρ' ρL ρL' : Nat → Value} {m m' : Nat → Option Blk} {L L' : Mem} {σ : Nat → Nat} {w w' : World} (hP : Part E E' ρ ρ' ρL ρL' m m' L L' σ)
    (hE : Ext w ρL L w' ρL' L') : ExtF w ρ m w' ρ' m' := by
  refine ⟨hE.os, hE.tape, hE.output, hE.size, fun k hk hn => ?_, fun b g ho => ?_⟩
  · exact hE.frame k hk fun l hl => hn _ (hP.was l k hl)
  · rcases hP.owns ho with ⟨l, hl, hol⟩ | ⟨hob, _⟩
    · rcases hE.own l g hol with ⟨c, hc⟩ | hlt
      · exact .inl ⟨_, hP.was c g hc⟩
      · exact .inr hlt
    · exact .inl ⟨b, hob⟩
end Lw
