/- Steps on memories: a new block, a changed block, a block that takes another's place. -/
import Derived.Test.YtijcloeapcapiaaFw3
set_option linter.unusedVariables false
set_option linter.unusedSimpArgs false
namespace Lw
open Go

/-! ### 1. A new block -/
def upd (ρ : Nat → Value) (n : Nat) (u : Value) : Nat → Value := fun b => if b = n then u else ρ b

theorem upd_same (ρ : Nat → Value) (n : Nat) (u : Value) : upd ρ n u n = u := by simp [upd]
theorem upd_other (ρ : Nat → Value) {n b : Nat} (u : Value) (h : b ≠ n) : upd ρ n u b = ρ b := by simp [upd, h]

theorem get_push_old {M : Mem} {x : Blk} {b : Nat} (h : b < M.length) : (M ++ [x])[b]? = M[b]? := by
  rw [List.getElem?_append_left h]
theorem get_push_new (M : Mem) (x : Blk) : (M ++ [x])[M.length]? = some x := by simp
theorem get_push_cases {M : Mem} {x y : Blk} {b : Nat} (h : (M ++ [x])[b]? = some y) : (b < M.length ∧ M[b]? = some y) ∨ (b = M.length ∧ y = x) := by
  rcases Nat.lt_trichotomy b M.length with hb | hb | hb
  · exact .inl ⟨hb, by rwa [get_push_old hb] at h⟩
  · subst hb
    rw [get_push_new] at h
    exact .inr ⟨rfl, (Option.some.inj h).symm⟩
  · rw [List.getElem?_eq_none (by simp; omega)] at h
    cases h

theorem envOf_push_old (ρ : Nat → Value) (M : Mem) (u : Value) (x : Blk) {b : Nat} (h : b < M.length) : envOf (upd ρ M.length u) (M ++ [x]) b = envOf ρ M b := by
  unfold envOf
  rw [get_push_old h, upd_other ρ u (Nat.ne_of_lt h)]
theorem envOf_push_new (ρ : Nat → Value) (M : Mem) (u : Value) (x : Blk) {s : Shape} (hs : x.shape = some s) : envOf (upd ρ M.length u) (M ++ [x]) M.length = .ent u s := by
  unfold envOf
  rw [get_push_new, upd_same]
  simp [hs]
theorem env_to_push (ρ : Nat → Value) (M : Mem) (u : Value) (x : Blk) : (envOf ρ M).to (envOf (upd ρ M.length u) (M ++ [x])) := by
  intro b
  rcases Nat.lt_or_ge b M.length with h | h
  · exact .inr (.inr (envOf_push_old ρ M u x h))
  · exact .inl (envOf_lt.2 h)

theorem owns_push {ρ : Nat → Value} {M : Mem} {u : Value} {x : Blk} {b g : Nat} (h : Owns (upd ρ M.length u) (M ++ [x]) b g) : (b < M.length ∧ Owns ρ M b g) ∨ (b = M.length ∧ blkOf u = some g) := by
  unfold Owns at h
  rcases Nat.lt_trichotomy b M.length with hb | hb | hb
  · rw [get_push_old hb, upd_other ρ u (Nat.ne_of_lt hb)] at h
    exact .inl ⟨hb, h⟩
  · subst hb
    rw [get_push_new, upd_same] at h
    refine .inr ⟨rfl, ?_⟩
    cases x <;> first | exact h | exact h.elim
  · rw [List.getElem?_eq_none (by simp; omega)] at h
    exact h.elim

theorem Rep.putNew {X : Cx} {ρ : Nat → Value} {M M1 : Mem} {w w' : World} {u : Value} {x : Blk} (hR : Rep X ρ M1 w) (hE : Ext w ρ M w ρ M1)
    (hw : ∀ k, k < w.heap.size → ((∃ b, Owns ρ M1 b k) ∨ (∀ b, ¬ Owns ρ M b k)) → w'.heap[k]? = w.heap[k]?)
    (hro : ∀ k, k < X.W0.heap.size → w'.heap[k]? = w.heap[k]?)
    (hsz : w.heap.size ≤ w'.heap.size) (hos : w'.os = w.os) (htape : w'.tape = w.tape) (hout : w'.output = w.output)
    (hb : RepB X (envOf (upd ρ M1.length u) (M1 ++ [x])) w' u x)
    (hown : ∀ g, blkOf u = some g → (∀ b, ¬ Owns ρ M1 b g) ∧ X.W0.heap.size ≤ g ∧ ((∃ b, Owns ρ M b g) ∨ w.heap.size ≤ g)) :
    Rep X (upd ρ M1.length u) (M1 ++ [x]) w' ∧ Ext w ρ M w' (upd ρ M1.length u) (M1 ++ [x]) := by
  refine ⟨⟨?_, ?_, ?_, ?_, ?_⟩, ⟨?_, hos, htape, hout, hsz, ?_, ?_, ?_⟩⟩
  · intro b y hy
    rcases get_push_cases hy with ⟨hlt, hy'⟩ | ⟨rfl, rfl⟩
    · rw [upd_other ρ u (Nat.ne_of_lt hlt)]
      cases y
      case dead => trivial
      case hidC n => exact hR.blk b _ hy'
      case hidR t n => exact hR.blk b _ hy'
      all_goals
        refine (hR.blk b _ hy').same (env_to_push ρ M1 u x) fun g hg => ?_
        have ho : Owns ρ M1 b g := by unfold Owns; rw [hy']; exact hg
        exact hw g (hR.lt ho) (.inl ⟨b, ho⟩)
    · rw [upd_same]; exact hb
  · intro b b' g h h'
    rcases owns_push h with ⟨hlt, ho⟩ | ⟨rfl, hu⟩ <;> rcases owns_push h' with ⟨hlt', ho'⟩ | ⟨rfl, hu'⟩
    · exact hR.sep b b' g ho ho'
    · exact absurd ho ((hown g hu').1 b)
    · exact absurd ho' ((hown g hu).1 b')
    · rfl
  · intro b g h
    rcases owns_push h with ⟨hlt, ho⟩ | ⟨rfl, hu⟩
    · exact hR.base b g ho
    · exact (hown g hu).2.1
  · intro k hk
    rw [hro k hk]; exact hR.ro k hk
  · exact Nat.le_trans hR.sz hsz
  · have := hE.len; simp; omega
  · intro k hk hn
    exact hw k hk (.inr hn)
  · intro b g h
    rcases owns_push h with ⟨hlt, ho⟩ | ⟨rfl, hu⟩
    · exact hE.own b g ho
    · exact (hown g hu).2.2
  · exact Env.to_trans hE.keep (env_to_push ρ M1 u x)

/-- A new block that lies in new memory. -/
theorem Rep.push {X : Cx} {ρ : Nat → Value} {M : Mem} {w w' : World} {u : Value} {x : Blk} (hR : Rep X ρ M w)
    (hw : ∀ k, k < w.heap.size → w'.heap[k]? = w.heap[k]?) (hsz : w.heap.size ≤ w'.heap.size) (hos : w'.os = w.os) (htape : w'.tape = w.tape) (hout : w'.output = w.output)
    (hb : RepB X (envOf (upd ρ M.length u) (M ++ [x])) w' u x) (hown : ∀ g, blkOf u = some g → w.heap.size ≤ g) :
    Rep X (upd ρ M.length u) (M ++ [x]) w' ∧ Ext w ρ M w' (upd ρ M.length u) (M ++ [x]) :=
  hR.putNew (Ext.refl w ρ M) (fun k hk _ => hw k hk) (fun k hk => hw k (Nat.lt_of_lt_of_le hk hR.sz)) hsz hos htape hout hb
    (fun g hg => ⟨fun b ho => by have := hR.lt ho; have := hown g hg; omega, Nat.le_trans hR.sz (hown g hg), .inr (hown g hg)⟩)

/-! ### 2. A block that is let go -/
theorem get_set_cases {M : Mem} {x y : Blk} {b c : Nat} (h : (M.set b x)[c]? = some y) : (c = b ∧ b < M.length ∧ y = x) ∨ (c ≠ b ∧ M[c]? = some y) := by
  rcases Nat.decEq c b with hc | hc
  · exact .inr ⟨hc, by rwa [List.getElem?_set_ne (Ne.symm hc)] at h⟩
  · subst hc
    have hlt : c < M.length := by
      have := (List.getElem?_eq_some_iff.1 h).1
      simpa using this
    rw [List.getElem?_set_self hlt] at h
    exact .inl ⟨rfl, hlt, (Option.some.inj h).symm⟩
theorem get_set_other {M : Mem} {x : Blk} {b c : Nat} (h : c ≠ b) : (M.set b x)[c]? = M[c]? := List.getElem?_set_ne (Ne.symm h)

theorem env_to_kill (ρ : Nat → Value) (M : Mem) (b : Nat) : (envOf ρ M).to (envOf ρ (M.set b .dead)) := by
  intro c
  rcases Nat.decEq c b with hc | hc
  · refine .inr (.inr ?_)
    unfold envOf; rw [get_set_other hc]
  · subst hc
    rcases Nat.lt_or_ge c M.length with h | h
    · refine .inr (.inl ?_)
      unfold envOf; rw [List.getElem?_set_self h]; rfl
    · exact .inl (envOf_lt.2 h)
theorem owns_kill {ρ : Nat → Value} {M : Mem} {b c g : Nat} (h : Owns ρ (M.set b .dead) c g) : c ≠ b ∧ Owns ρ M c g := by
  unfold Owns at h
  rcases Nat.decEq c b with hc | hc
  · rw [get_set_other hc] at h; exact ⟨hc, h⟩
  · subst hc
    rcases Nat.lt_or_ge c M.length with hl | hl
    · rw [List.getElem?_set_self hl] at h; exact h.elim
    · rw [List.getElem?_eq_none (by simpa using hl)] at h; exact h.elim
theorem Rep.kill {X : Cx} {ρ : Nat → Value} {M : Mem} {w : World} (hR : Rep X ρ M w) (b : Nat) : Rep X ρ (M.set b .dead) w ∧ Ext w ρ M w ρ (M.set b .dead) := by
  refine ⟨⟨fun c y hy => ?_, fun c c' g h h' => hR.sep c c' g (owns_kill h).2 (owns_kill h').2, fun c g h => hR.base c g (owns_kill h).2, hR.ro, hR.sz⟩,
    ⟨by simp, rfl, rfl, rfl, Nat.le_refl _, fun _ _ _ => rfl, fun c g h => .inl ⟨c, (owns_kill h).2⟩, env_to_kill ρ M b⟩⟩
  rcases get_set_cases hy with ⟨rfl, _, rfl⟩ | ⟨hc, hy'⟩
  · trivial
  · exact (hR.blk c y hy').same (env_to_kill ρ M b) fun _ _ => rfl

/-! ### 3. A block whose content changes, its shape staying -/
theorem envOf_set {ρ : Nat → Value} {M : Mem} {b : Nat} {x y : Blk} (hx : M[b]? = some x) (hs : y.shape = x.shape) : envOf ρ (M.set b y) = envOf ρ M := by
  funext c
  unfold envOf
  rcases Nat.decEq c b with hc | hc
  · rw [get_set_other hc]
  · subst hc
    rw [List.getElem?_set_self (List.getElem?_eq_some_iff.1 hx).1, hx]
    show (match y.shape with | some s => En.ent (ρ c) s | none => En.dead) = (match x.shape with | some s => En.ent (ρ c) s | none => En.dead)
    rw [hs]
theorem owns_set {ρ : Nat → Value} {M : Mem} {b c g : Nat} {x y : Blk} (hx : M[b]? = some x) (hb : ∀ g, blkOf (ρ b) = some g → Owns ρ M b g) (h : Owns ρ (M.set b y) c g) : Owns ρ M c g := by
  rcases Nat.decEq c b with hc | hc
  · unfold Owns at h ⊢; rw [get_set_other hc] at h; exact h
  · subst hc
    refine hb g ?_
    unfold Owns at h
    rw [List.getElem?_set_self (List.getElem?_eq_some_iff.1 hx).1] at h
    cases y <;> first | exact h | exact h.elim
theorem Rep.change {X : Cx} {ρ : Nat → Value} {M : Mem} {w w' : World} {b : Nat} {x y : Blk} (hR : Rep X ρ M w) (hx : M[b]? = some x) (hs : y.shape = x.shape)
    (hbo : ∀ g, blkOf (ρ b) = some g → Owns ρ M b g)
    (hw : ∀ k, blkOf (ρ b) ≠ some k → w'.heap[k]? = w.heap[k]?) (hsz : w'.heap.size = w.heap.size) (hos : w'.os = w.os) (htape : w'.tape = w.tape) (hout : w'.output = w.output)
    (hb : RepB X (envOf ρ M) w' (ρ b) y) : Rep X ρ (M.set b y) w' ∧ Ext w ρ M w' ρ (M.set b y) := by
  have he := envOf_set (ρ := ρ) hx hs
  refine ⟨⟨fun c z hz => ?_, fun c c' g h h' => hR.sep c c' g (owns_set hx hbo h) (owns_set hx hbo h'), fun c g h => hR.base c g (owns_set hx hbo h), fun k hk => ?_, by rw [hsz]; exact hR.sz⟩,
    ⟨by simp, hos, htape, hout, by rw [hsz]; exact Nat.le_refl _, fun k hk hn => hw k fun hu => hn b (hbo k hu), fun c g h => .inl ⟨c, owns_set hx hbo h⟩, by rw [he]; exact Env.to_refl _⟩⟩
  · rw [he]
    rcases get_set_cases hz with ⟨rfl, _, rfl⟩ | ⟨hc, hz'⟩
    · exact hb
    · cases z
      case dead => trivial
      case hidC n => exact hR.blk c _ hz'
      case hidR t n => exact hR.blk c _ hz'
      all_goals
        refine (hR.blk c _ hz').same (Env.to_refl _) fun g hg => ?_
        have ho : Owns ρ M c g := by unfold Owns; rw [hz']; exact hg
        exact hw g fun hu => hc (hR.sep c b g ho (hbo g hu))
  · rw [hw k fun hu => ?_]
    · exact hR.ro k hk
    · have := hR.base b k (hbo k hu); omega

/-! ### 4. Rows -/
theorem vals_length (t : RTy) (xs : List t.T) : (vals t xs).length = xs.length * t.sz := by
  unfold vals
  induction xs with
  | nil => simp
  | cons x r ih => simp only [List.map_cons, List.flatten_cons, List.length_append, ih, List.length_map, RTy.enc_length, List.length_cons, Nat.add_mul, Nat.one_mul, Nat.add_comm]
theorem vals_append (t : RTy) (xs ys : List t.T) : vals t (xs ++ ys) = vals t xs ++ vals t ys := by simp [vals]
theorem vals_cons (t : RTy) (x : t.T) (xs : List t.T) : vals t (x :: xs) = (t.enc x).map PC.val ++ vals t xs := by simp [vals]
theorem vals_take (t : RTy) (xs : List t.T) (n : Nat) : (vals t xs).take (n * t.sz) = vals t (xs.take n) := by
  induction xs generalizing n with
  | nil => simp [vals]
  | cons x r ih =>
    cases n with
    | zero => simp [vals]
    | succ n =>
      rw [vals_cons, List.take_succ_cons, vals_cons, ← ih n]
      have hl : ((t.enc x).map PC.val).length = t.sz := by simp [RTy.enc_length]
      rw [List.take_append, hl]
      congr 1
      · exact List.take_of_length_le (by rw [hl, Nat.add_mul]; omega)
      · congr 1; rw [Nat.add_mul]; omega
theorem vals_drop (t : RTy) (xs : List t.T) (n : Nat) : (vals t xs).drop (n * t.sz) = vals t (xs.drop n) := by
  induction xs generalizing n with
  | nil => simp [vals]
  | cons x r ih =>
    cases n with
    | zero => simp [vals]
    | succ n =>
      rw [vals_cons, List.drop_succ_cons, ← ih n]
      have hl : ((t.enc x).map PC.val).length = t.sz := by simp [RTy.enc_length]
      rw [List.drop_append, hl, List.drop_of_length_le (by rw [hl, Nat.add_mul]; omega), List.nil_append]
      congr 1; rw [Nat.add_mul]; omega
/-- The cells of element i. -/
theorem vals_elem (t : RTy) (xs : List t.T) (i : Nat) (x : t.T) (h : xs[i]? = some x) : ((vals t xs).drop (i * t.sz)).take t.sz = (t.enc x).map PC.val := by
  rw [vals_drop]
  have hlt := (List.getElem?_eq_some_iff.1 h).1
  have hx : xs[i] = x := (List.getElem?_eq_some_iff.1 h).2
  rw [List.drop_eq_getElem_cons hlt, hx, vals_cons]
  rw [List.take_append_of_le_length (by simp [RTy.enc_length]), List.take_of_length_le (by simp [RTy.enc_length])]
theorem vals_split (t : RTy) (xs : List t.T) (i : Nat) (x : t.T) (h : xs[i]? = some x) : vals t xs = vals t (xs.take i) ++ ((t.enc x).map PC.val ++ vals t (xs.drop (i + 1))) := by
  have hlt := (List.getElem?_eq_some_iff.1 h).1
  have hx : xs[i] = x := (List.getElem?_eq_some_iff.1 h).2
  conv => lhs; rw [← List.take_append_drop i xs, List.drop_eq_getElem_cons hlt, hx]
  rw [vals_append, vals_cons]
theorem vals_set (t : RTy) (xs : List t.T) (i : Nat) (y : t.T) (h : i < xs.length) : vals t (xs.set i y) = vals t (xs.take i) ++ ((t.enc y).map PC.val ++ vals t (xs.drop (i + 1))) := by
  rw [vals_split t (xs.set i y) i y (by rw [List.getElem?_set_self h])]
  congr 2
  · rw [List.take_set_of_le (Nat.le_refl _)]
  · rw [List.drop_set_of_lt (Nat.lt_succ_self _)]

theorem setMany_length {α : Type} : ∀ (ds vs : List α) (i : Nat), (setMany vs i ds).length = vs.length
  | [], _, _ => rfl
  | d :: r, vs, i => by rw [setMany, setMany_length r]; simp
theorem setMany_map {α β : Type} (f : α → β) : ∀ (ds vs : List α) (i : Nat), (setMany vs i ds).map f = setMany (vs.map f) i (ds.map f)
  | [], _, _ => rfl
  | d :: r, vs, i => by simp only [setMany, List.map_cons, setMany_map f r, List.map_set]
theorem setMany_eq {α : Type} : ∀ (ds vs : List α) (i : Nat), i + ds.length ≤ vs.length → setMany vs i ds = vs.take i ++ ds ++ vs.drop (i + ds.length)
  | [], vs, i, h => by simp [setMany]
  | d :: r, vs, i, h => by
    simp only [List.length_cons] at h
    rw [setMany, setMany_eq r (vs.set i d) (i + 1) (by simp; omega)]
    have hi : i < vs.length := by omega
    have h1 : (vs.set i d).take (i + 1) = vs.take i ++ [d] := by
      rw [List.take_add_one, List.take_set_of_le (Nat.le_refl _), List.getElem?_set_self hi]
      rfl
    have h2 : i + 1 + r.length = i + (r.length + 1) := by omega
    rw [h1, List.drop_set_of_lt (by omega), h2]
    simp only [List.length_cons, List.append_assoc, List.cons_append, List.nil_append]
theorem RTy.puts_enc {t : RTy} : ∀ {ps : List PC} {x y : t.T} {i : Nat}, t.puts x i ps = some y → t.enc y = setMany (t.enc x) i ps ∧ (ps ≠ [] → i + ps.length ≤ t.sz)
  | [], x, y, i, h => by simp [RTy.puts] at h; subst h; exact ⟨rfl, fun hn => absurd rfl hn⟩
  | p :: r, x, y, i, h => by
    simp only [RTy.puts] at h
    split at h
    · rename_i z hz
      obtain ⟨h1, h2⟩ := RTy.put_enc hz
      obtain ⟨h3, h4⟩ := RTy.puts_enc h
      refine ⟨by rw [h3, h1]; rfl, fun _ => ?_⟩
      cases r with
      | nil => simp; omega
      | cons q s => have := h4 (by simp); simp at this ⊢; omega
    · cases h
end Lw
