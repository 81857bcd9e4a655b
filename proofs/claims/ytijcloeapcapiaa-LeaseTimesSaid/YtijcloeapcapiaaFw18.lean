/- Regions that draw their order: the written order stands for all. -/
import Derived.Test.YtijcloeapcapiaaFw17
set_option linter.unusedVariables false
set_option linter.unusedSimpArgs false
namespace Lw
open Go

/-! ### 1. The trace in the written order -/
def GW (all : List Oper) (o : Oper) (F : List AV) (b : Bool) : Prop := (o.guard = none ∧ b = true) ∨ ∃ j want g, o.guard = some (j, want) ∧ guardOf all F j = some g ∧ b = (g == some want)
def StepR (Γ : Gam) (τ : Tys) (all : List Oper) (o : Oper) (F : List AV) (M : Mem) (F' : List AV) (M' : Mem) (t : Tr) : Prop :=
  (GW all o F true ∧ ∃ bt, aopR Γ τ all o F M = some bt ∧ bt.ev.ok = true ∧ preOk bt.ev.pre ∧ F' = putF F o.dst bt.ev.val ∧ M' = bt.ev.mem ∧ t = bt.ev.tr) ∨
  (GW all o F false ∧ F' = putF F o.dst .undef ∧ M' = M ∧ t = ⟨o.dst, gslot all o, [], [], [], []⟩)

theorem ifT_iff {b : Bool} {q : Prop} (h : ifT b q) : b = true ∧ q := by
  cases b
  · exact h.elim
  · exact ⟨rfl, h⟩

theorem drStep_step {Γ : Gam} {τ : Tys} {all : List Oper} {o : Oper} {F : List AV} {M : Mem} {k : List AV → Mem → Tr → Prop} (h : drStep Γ τ all o F M k) : ∃ F' M' t, StepR Γ τ all o F M F' M' t ∧ k F' M' t := by
  have go : GW all o F true → drGo Γ τ all o F M k → ∃ F' M' t, StepR Γ τ all o F M F' M' t ∧ k F' M' t := by
    intro hg h
    unfold drGo at h
    split at h
    · rename_i bt hbt
      have h0 := BT.then_ev h
      obtain ⟨h1, h2⟩ := ifT_iff h0
      rw [andP_iff] at h2
      exact ⟨_, _, _, .inl ⟨hg, bt, hbt, h1, h2.1, rfl, rfl, rfl⟩, h2.2⟩
    · exact h.elim
  have skip : GW all o F false → drSkip all o F M k → ∃ F' M' t, StepR Γ τ all o F M F' M' t ∧ k F' M' t := fun hg h => ⟨_, _, _, .inr ⟨hg, rfl, rfl, rfl⟩, h⟩
  unfold drStep at h
  split at h
  · rename_i hg; exact go (.inl ⟨hg, rfl⟩) h
  · rename_i j want hg
    split at h
    · rename_i b hgo
      rcases sel2_iff h with ⟨hb, h⟩ | ⟨hb, h⟩
      · rw [← hb, known_eq hgo] at h
        exact go (.inr ⟨j, want, some b, hg, hgo, by simp [hb]⟩) h
      · rw [show (!want) = b by cases b <;> cases want <;> simp_all, known_eq hgo] at h
        exact skip (.inr ⟨j, want, some b, hg, hgo, by simp [hb]⟩) h
    · rename_i hgo; exact skip (.inr ⟨j, want, none, hg, hgo, rfl⟩) h
    · exact h.elim

theorem runDraw_trace {Γ : Gam} {τ : Tys} {all : List Oper} {an : List (List Nat)} {K : List AV → Mem → Prop} : ∀ (ops : List Oper) (F : List AV) (M : Mem) (tr : List Tr), runDraw Γ τ all an ops F M tr K →
    ∃ (Fs : Nat → List AV) (Ms : Nat → Mem) (trs : List Tr), trs.length = ops.length ∧ Fs 0 = F ∧ Ms 0 = M ∧ okAll an 0 (tr ++ trs) = true ∧ K (Fs ops.length) (Ms ops.length) ∧
      ∀ (i : Nat) (o : Oper), ops[i]? = some o → ∃ t, trs[i]? = some t ∧ StepR Γ τ all o (Fs i) (Ms i) (Fs (i + 1)) (Ms (i + 1)) t
  | [], F, M, tr, h => by
    obtain ⟨h1, h2⟩ := ifT_iff h
    exact ⟨fun _ => F, fun _ => M, [], rfl, rfl, rfl, by simpa using h1, h2, fun i o ho => by simp at ho⟩
  | o :: r, F, M, tr, h => by
    obtain ⟨F', M', t, hs, hk⟩ := drStep_step h
    obtain ⟨Fs, Ms, trs, hl, hF, hM, hok, hK, hst⟩ := runDraw_trace r F' M' (tr ++ [t]) hk
    refine ⟨fun | 0 => F | i + 1 => Fs i, fun | 0 => M | i + 1 => Ms i, t :: trs, by simp [hl], rfl, rfl, by simpa using hok, hK, fun i o' ho => ?_⟩
    cases i with
    | zero =>
      simp at ho; subst ho
      exact ⟨t, rfl, by simp only [hF, hM]; exact hs⟩
    | succ i => exact hst i o' (by simpa using ho)

/-! ### 2. What was checked -/
theorem okRow_iff {x : Tr} {i : Nat} {an : List (List Nat)} : ∀ {l : List Tr} {j : Nat}, okRow x i an j l = true → ∀ (k : Nat) (y : Tr), l[k]? = some y → i ∈ an.getD (j + k) [] ∨ clash x y = false
  | [], j, _, k, y, h => by simp at h
  | z :: r, j, h, k, y, hk => by
    simp only [okRow, Bool.and_eq_true, Bool.or_eq_true, Bool.not_eq_true', memN_iff] at h
    cases k with
    | zero => simp at hk; subst hk; simpa using h.1
    | succ k =>
      have := okRow_iff h.2 k y (by simpa using hk)
      rw [show j + 1 + k = j + (k + 1) by omega] at this
      exact this
theorem okAll_iff {an : List (List Nat)} : ∀ {l : List Tr} {i : Nat}, okAll an i l = true → ∀ (p q : Nat) (x y : Tr), p < q → l[p]? = some x → l[q]? = some y → i + p ∈ an.getD (i + q) [] ∨ clash x y = false
  | [], i, _, p, q, x, y, _, h, _ => by simp at h
  | z :: r, i, h, p, q, x, y, hpq, hp, hq => by
    simp only [okAll, Bool.and_eq_true] at h
    cases q with
    | zero => omega
    | succ q =>
      cases p with
      | zero =>
        simp at hp; subst hp
        have := okRow_iff h.1 q y (by simpa using hq)
        rw [show i + 1 + q = i + (q + 1) by omega] at this
        exact this
      | succ p =>
        have := okAll_iff h.2 p q x y (by omega) (by simpa using hp) (by simpa using hq)
        rw [show i + 1 + p = i + (p + 1) by omega, show i + 1 + q = i + (q + 1) by omega] at this
        exact this

theorem mem_unionN {i : Nat} : ∀ (xs ys : List Nat), i ∈ unionN xs ys → i ∈ xs ∨ i ∈ ys
  | [], ys, h => .inr h
  | x :: xs, ys, h => by
    unfold unionN at h
    cases hb : memN x ys
    · rw [hb] at h
      rcases mem_unionN xs _ h with h | h
      · exact .inl (List.mem_cons_of_mem _ h)
      · rcases List.mem_cons.1 h with h | h
        · exact .inl (h ▸ List.mem_cons_self ..)
        · exact .inr h
    · rw [hb] at h
      rcases mem_unionN xs _ h with h | h
      · exact .inl (List.mem_cons_of_mem _ h)
      · exact .inr h
theorem mem_anc1 {acc : List (List Nat)} {i : Nat} : ∀ (xs ys : List Nat), i ∈ anc1 acc xs ys → (∃ e ∈ xs, i ∈ e :: acc.getD e []) ∨ i ∈ ys
  | [], ys, h => .inr h
  | x :: xs, ys, h => by
    unfold anc1 at h
    cases hb : memN x ys
    · rw [hb] at h
      rcases mem_anc1 xs _ h with ⟨e, he, h⟩ | h
      · exact .inl ⟨e, List.mem_cons_of_mem _ he, h⟩
      · rcases List.mem_cons.1 h with h | h
        · exact .inl ⟨x, List.mem_cons_self .., h ▸ List.mem_cons_self ..⟩
        · rcases mem_unionN _ _ h with h | h
          · exact .inl ⟨x, List.mem_cons_self .., List.mem_cons_of_mem _ h⟩
          · exact .inr h
    · rw [hb] at h
      rcases mem_anc1 xs _ h with ⟨e, he, h⟩ | h
      · exact .inl ⟨e, List.mem_cons_of_mem _ he, h⟩
      · exact .inr h

/-- All that must go ahead, has gone, once what goes directly ahead has. -/
theorem ancs_clo {all : List Oper} {D : Nat → Bool} (hD : ∀ (k : Nat) (o : Oper), all[k]? = some o → D k = true → ∀ e ∈ o.after.toList, Region.binds .any e = true → D e.on = true) : ∀ (r : List Oper) (acc : List (List Nat)), (∀ j, r[j]? = all[acc.length + j]?) →
    (∀ (k : Nat) (l : List Nat), acc[k]? = some l → ∀ o, all[k]? = some o → (∀ e ∈ o.after.toList, Region.binds .any e = true → D e.on = true) → ∀ i ∈ l, D i = true) →
    ∀ (k : Nat) (l : List Nat), (ancs acc r)[k]? = some l → ∀ o, all[k]? = some o → (∀ e ∈ o.after.toList, Region.binds .any e = true → D e.on = true) → ∀ i ∈ l, D i = true
  | [], acc, _, hQ => hQ
  | o :: r, acc, hr, hQ => by
    refine ancs_clo hD r _ (fun j => ?_) ?_
    · have := hr (j + 1)
      simp only [List.getElem?_cons_succ] at this
      rw [this]; congr 1; simp; omega
    · intro k l hk o' ho' hp i hi
      have h0 := hr 0
      simp only [List.getElem?_cons_zero, Nat.add_zero] at h0
      by_cases hlt : k < acc.length
      · rw [List.getElem?_append_left hlt] at hk
        exact hQ k l hk o' ho' hp i hi
      · have hkl : k = acc.length := by
          have := (List.getElem?_eq_some_iff.1 hk).1
          simp at this; omega
        subst hkl
        simp at hk
        subst hk
        rw [← h0] at ho'
        cases ho'
        rcases mem_anc1 _ _ hi with ⟨e', he', hi⟩ | hi
        case inr => exact absurd hi (by simp)
        simp only [List.mem_map, List.mem_filter] at he'
        obtain ⟨e, ⟨he, hb⟩, rfl⟩ := he'
        have hde := hp e he hb
        rcases List.mem_cons.1 hi with rfl | hi
        · exact hde
        · rw [List.getD_eq_getElem?_getD] at hi
          cases hq : acc[e.on]? with
          | none => rw [hq] at hi; simp at hi
          | some l' =>
            rw [hq] at hi
            have hlt' := (List.getElem?_eq_some_iff.1 hq).1
            cases ho2 : all[e.on]? with
            | none =>
              have h1 := List.getElem?_eq_none_iff.1 ho2
              have h2 : all[acc.length]? = some o := h0.symm
              have := (List.getElem?_eq_some_iff.1 h2).1
              omega
            | some o2 => exact hQ e.on l' hq o2 ho2 (hD e.on o2 ho2 hde) i (by simpa using hi)

/-! ### 3. The first that writes and has not come up -/
def ft (wr D : Nat → Bool) : Nat → Nat → Nat
  | k, 0 => k
  | k, m + 1 => if wr k && !D k then k else ft wr D (k + 1) m
structure Ft (wr D : Nat → Bool) (n t : Nat) : Prop where
  le : t ≤ n
  bef : ∀ i, i < t → wr i = true → D i = true
  at_ : t < n → wr t = true ∧ D t = false
theorem ft_aux {wr D : Nat → Bool} : ∀ (m k : Nat), (∀ i, i < k → wr i = true → D i = true) → Ft wr D (k + m) (ft wr D k m)
  | 0, k, h => ⟨Nat.le_refl _, h, fun hlt => absurd hlt (Nat.lt_irrefl _)⟩
  | m + 1, k, h => by
    unfold ft
    by_cases hk : (wr k && !D k) = true
    · rw [if_pos hk]
      simp only [Bool.and_eq_true, Bool.not_eq_true'] at hk
      exact ⟨by omega, h, fun _ => hk⟩
    · rw [if_neg hk]
      have := ft_aux (wr := wr) (D := D) m (k + 1) (fun i hi hw => by
        by_cases he : i = k
        · subst he
          cases hd : D i with
          | true => rfl
          | false => rw [hw, hd] at hk; simp at hk
        · exact h i (by omega) hw)
      rw [show k + 1 + m = k + (m + 1) by omega] at this
      exact this
theorem ft_spec (wr D : Nat → Bool) (n : Nat) : Ft wr D n (ft wr D 0 n) := by
  have := ft_aux (wr := wr) (D := D) n 0 (fun i hi => absurd hi (Nat.not_lt_zero _))
  simpa using this
theorem Ft.uniq {wr D : Nat → Bool} {n t u : Nat} (h : Ft wr D n t) (k : Ft wr D n u) : t = u := by
  rcases Nat.lt_trichotomy t u with hlt | he | hlt
  · have h1 := h.at_ (Nat.lt_of_lt_of_le hlt k.le)
    have := k.bef t hlt h1.1
    rw [h1.2] at this; cases this
  · exact he
  · have h1 := k.at_ (Nat.lt_of_lt_of_le hlt h.le)
    have := h.bef u hlt h1.1
    rw [h1.2] at this; cases this

section
variable {β : Type} {wr D : Nat → Bool} {n : Nat} {val : Nat → β}
theorem const_on (hfr : ∀ i, i < n → wr i = false → val (i + 1) = val i) {a : Nat} : ∀ (d : Nat), a + d ≤ n → (∀ i, a ≤ i → i < a + d → wr i = false) → val (a + d) = val a
  | 0, _, _ => rfl
  | d + 1, hle, h => by
    rw [← Nat.add_assoc, hfr (a + d) (by omega) (h (a + d) (by omega) (by omega))]
    exact const_on hfr d (by omega) fun i h1 h2 => h i h1 (by omega)
theorem const_on' (hfr : ∀ i, i < n → wr i = false → val (i + 1) = val i) {a b : Nat} (hab : a ≤ b) (hb : b ≤ n) (h : ∀ i, a ≤ i → i < b → wr i = false) : val b = val a := by
  have := const_on (a := a) hfr (b - a) (by omega) (fun i h1 h2 => h i h1 (by omega))
  rwa [show a + (b - a) = b by omega] at this
theorem cur_read (hfr : ∀ i, i < n → wr i = false → val (i + 1) = val i) {j : Nat} (hj : j < n) (hDj : D j = false) (h1 : ∀ i, i < n → wr i = true → i < j → D i = true) (h2 : ∀ i, i < n → wr i = true → j < i → D i = false) : val (ft wr D 0 n) = val j := by
  have hs := ft_spec wr D n
  generalize ft wr D 0 n = t at hs
  have hle : j ≤ t := by
    rcases Nat.lt_or_ge t j with hlt | hge
    · have h3 := hs.at_ (by omega)
      have := h1 t (by omega) h3.1 hlt
      rw [h3.2] at this; cases this
    · exact hge
  refine const_on' hfr hle hs.le fun i hi1 hi2 => ?_
  cases hw : wr i with
  | false => rfl
  | true =>
    have h3 := hs.bef i hi2 hw
    by_cases he : i = j
    · subst he; rw [hDj] at h3; cases h3
    · have := h2 i (by have := hs.le; omega) hw (by omega)
      rw [h3] at this; cases this
theorem cur_write (hfr : ∀ i, i < n → wr i = false → val (i + 1) = val i) {j : Nat} (hj : j < n) (hDj : D j = false) (h1 : ∀ i, i < n → wr i = true → i < j → D i = true) (h2 : ∀ i, i < n → wr i = true → j < i → D i = false)
    {D' : Nat → Bool} (hD' : ∀ i, D' i = true ↔ D i = true ∨ i = j) : val (ft wr D' 0 n) = val (j + 1) := by
  have hs := ft_spec wr D' n
  generalize ft wr D' 0 n = t at hs
  have hle : j + 1 ≤ t := by
    rcases Nat.lt_or_ge t (j + 1) with hlt | hge
    · have h3 := hs.at_ (by omega)
      have : D' t = true := by
        rw [hD']
        by_cases he : t = j
        · exact .inr he
        · exact .inl (h1 t (by omega) h3.1 (by omega))
      rw [h3.2] at this; cases this
    · exact hge
  refine const_on' hfr hle hs.le fun i hi1 hi2 => ?_
  cases hw : wr i with
  | false => rfl
  | true =>
    have h3 := hs.bef i hi2 hw
    rw [hD'] at h3
    have := h2 i (by have := hs.le; omega) hw (by omega)
    rcases h3 with h3 | h3
    · rw [h3] at this; cases this
    · omega
theorem ft_other {j : Nat} (hw : wr j = false) {D' : Nat → Bool} (hD' : ∀ i, D' i = true ↔ D i = true ∨ i = j) : ft wr D' 0 n = ft wr D 0 n := by
  refine (ft_spec wr D' n).uniq ?_
  have hs := ft_spec wr D n
  refine ⟨hs.le, fun i hi hwi => (hD' i).2 (.inl (hs.bef i hi hwi)), fun hlt => ⟨(hs.at_ hlt).1, ?_⟩⟩
  cases hd : D' (ft wr D 0 n) with
  | false => rfl
  | true =>
    rcases (hD' _).1 hd with h | h
    · rw [(hs.at_ hlt).2] at h; cases h
    · have := (hs.at_ hlt).1
      rw [h, hw] at this; cases this
theorem ft_all (h : ∀ i, i < n → D i = true) : ft wr D 0 n = n := by
  have hs := ft_spec wr D n
  rcases Nat.lt_or_ge (ft wr D 0 n) n with hlt | hge
  · have := (hs.at_ hlt).2
    rw [h _ hlt] at this; cases this
  · exact Nat.le_antisymm hs.le hge
theorem cur_none (hfr : ∀ i, i < n → wr i = false → val (i + 1) = val i) (h : ∀ i, D i = false) : val (ft wr D 0 n) = val 0 := by
  have hs := ft_spec wr D n
  refine const_on' hfr (Nat.zero_le _) hs.le fun i _ hi => ?_
  cases hw : wr i with
  | false => rfl
  | true => have := hs.bef i hi hw; rw [h i] at this; cases this
end
end Lw
