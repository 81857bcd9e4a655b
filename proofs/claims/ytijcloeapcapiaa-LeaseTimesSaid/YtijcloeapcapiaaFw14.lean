/- Calls: what a summary says of a function holds of a call of it. -/
import Derived.Test.YtijcloeapcapiaaFw13
set_option linter.unusedVariables false
set_option linter.unusedSimpArgs false
namespace Lw
open Go

/-! ### 1. Names -/
theorem memN_iff {b : Nat} : ∀ {l : List Nat}, memN b l = true ↔ b ∈ l
  | [] => by simp [memN]
  | x :: r => by
    unfold memN
    cases h : Nat.beq x b with
    | true => have := Nat.eq_of_beq_eq_true h; simp [this]
    | false =>
      have : x ≠ b := fun e => by subst e; simp at h
      simp only [cond_false, List.mem_cons, memN_iff]
      constructor
      · exact .inr
      · rintro (rfl | h')
        · exact absurd rfl this
        · exact h'
theorem allIn_iff {sel : List Nat} : ∀ {l : List Nat}, allIn sel l = true ↔ ∀ b ∈ l, b ∈ sel
  | [] => by simp [allIn]
  | x :: r => by simp [allIn, allIn_iff (l := r), memN_iff]
theorem closedIn_iff {M : Mem} {sel : List Nat} : ∀ {l : List Nat}, closedIn M sel l = true → ∀ b ∈ l, live M b = true ∧ b < M.length ∧ ∀ c ∈ (M.at b).ids, c ∈ sel
  | [], _, b, hb => by simp at hb
  | x :: r, h, b, hb => by
    simp only [closedIn, Bool.and_eq_true] at h
    obtain ⟨h1, h2, h3, h4⟩ := h
    rcases List.mem_cons.1 hb with rfl | hb
    · exact ⟨h1, by simpa [Nat.blt_eq] using h2, allIn_iff.1 h3⟩
    · exact closedIn_iff h4 b hb
theorem nodupN_iff : ∀ {l : List Nat}, nodupN l = true → l.Nodup
  | [], _ => List.nodup_nil
  | x :: r, h => by
    simp only [nodupN, Bool.and_eq_true, Bool.not_eq_true'] at h
    refine List.nodup_cons.2 ⟨fun hm => ?_, nodupN_iff h.2⟩
    rw [memN_iff.2 hm] at h; cases h.1
theorem inv_go {b : Nat} : ∀ (l : List Nat) (k : Nat), (b ∈ l ∧ ∃ i, inv.go b k l = k + i ∧ l[i]? = some b) ∨ (b ∉ l ∧ inv.go b k l = k + l.length + b)
  | [], k => .inr ⟨by simp, by simp [inv.go]⟩
  | x :: r, k => by
    unfold inv.go
    cases h : Nat.beq x b with
    | true =>
      have := Nat.eq_of_beq_eq_true h
      subst this
      exact .inl ⟨by simp, 0, by simp, by simp⟩
    | false =>
      have hne : x ≠ b := fun e => by subst e; simp at h
      simp only [cond_false]
      rcases inv_go r (k + 1) with ⟨hm, i, hi, hg⟩ | ⟨hm, hi⟩
      · exact .inl ⟨List.mem_cons_of_mem _ hm, i + 1, by rw [hi]; omega, by simpa using hg⟩
      · exact .inr ⟨by simp [Ne.symm hne, hm], by rw [hi]; simp; omega⟩
theorem inv_mem {sel : List Nat} {b : Nat} (h : b ∈ sel) : sel[inv sel b]? = some b := by
  unfold inv
  rcases inv_go (b := b) sel 0 with ⟨_, i, hi, hg⟩ | ⟨hn, _⟩
  · rw [hi]; simpa using hg
  · exact absurd h hn
theorem inv_not {sel : List Nat} {b : Nat} (h : b ∉ sel) : inv sel b = sel.length + b := by
  unfold inv
  rcases inv_go (b := b) sel 0 with ⟨hm, _⟩ | ⟨_, hi⟩
  · exact absurd hm h
  · rw [hi]; omega
theorem inv_lt {sel : List Nat} {b : Nat} (h : b ∈ sel) : inv sel b < sel.length := (List.getElem?_eq_some_iff.1 (inv_mem h)).1
theorem back_lt {sel : List Nat} {L i b : Nat} (h : sel[i]? = some b) : back sel L i = b := by
  have hi : i < sel.length := (List.getElem?_eq_some_iff.1 h).1
  unfold back
  rw [show Nat.blt i sel.length = true from by simpa [Nat.blt_eq] using hi]
  simp [List.getD_eq_getElem?_getD, h]
theorem back_ge {sel : List Nat} {L i : Nat} (h : sel.length ≤ i) : back sel L i = L + (i - sel.length) := by
  unfold back
  rw [show Nat.blt i sel.length = false from by
    cases hb : Nat.blt i sel.length with
    | false => rfl
    | true => simp [Nat.blt_eq] at hb; omega]
  rfl
theorem back_inv {sel : List Nat} {L b : Nat} (h : b ∈ sel) : back sel L (inv sel b) = b := back_lt (inv_mem h)
theorem inv_back {sel : List Nat} {L i : Nat} (hn : sel.Nodup) (hi : i < sel.length) : inv sel (back sel L i) = i := by
  have h1 : sel[i]? = some sel[i] := List.getElem?_eq_getElem hi
  rw [back_lt h1]
  have h2 := inv_mem (List.getElem_mem hi)
  exact ((List.getElem?_inj (inv_lt (List.getElem_mem hi)) hn).1 (h2.trans h1.symm))

/-! ### 2. Renaming to and fro -/
theorem Cell.map_on {σ : Nat → Nat} {c : Cell} (h : ∀ b ∈ c.ids, σ b = b) : c.map σ = c := by
  cases c <;> simp [Cell.map, Cell.ids] at h ⊢ <;> exact h
theorem Cells.map_on {σ : Nat → Nat} : ∀ {cs : List Cell}, (∀ b ∈ cidsL cs, σ b = b) → cs.map (Cell.map σ) = cs
  | [], _ => rfl
  | c :: r, h => by
    rw [List.map_cons, Cell.map_on fun b hb => h b (List.mem_append_left _ hb), Cells.map_on fun b hb => h b (List.mem_append_right _ hb)]
theorem Cell.map_map (σ τ : Nat → Nat) (c : Cell) : (c.map σ).map τ = c.map (fun b => τ (σ b)) := by cases c <;> rfl
theorem Blk.map_map (σ τ : Nat → Nat) (x : Blk) : (x.map σ).map τ = x.map (fun b => τ (σ b)) := by
  cases x <;> simp [Blk.map, Cell.map_map]
theorem Blk.map_on {σ : Nat → Nat} {x : Blk} (h : ∀ b ∈ x.ids, σ b = b) : x.map σ = x := by
  cases x <;> simp only [Blk.map]
  case cells vs => rw [Cells.map_on h]

/-! ### 3. Writing back -/
theorem writeBack_length : ∀ (sel : List Nat) (xs : List Blk) (M : Mem), (writeBack M sel xs).length = M.length
  | [], [], M => rfl
  | [], _ :: _, M => rfl
  | _ :: _, [], M => rfl
  | b :: r, x :: s, M => by rw [writeBack, writeBack_length r s]; simp
theorem writeBack_other : ∀ {sel : List Nat} {xs : List Blk} {M : Mem} {b : Nat}, b ∉ sel → (writeBack M sel xs)[b]? = M[b]?
  | [], [], M, b, _ => rfl
  | [], _ :: _, M, b, _ => rfl
  | _ :: _, [], M, b, _ => rfl
  | c :: r, x :: s, M, b, h => by
    simp only [List.mem_cons, not_or] at h
    rw [writeBack, writeBack_other h.2, get_set_other h.1]
theorem writeBack_get : ∀ {sel : List Nat} {xs : List Blk} {M : Mem} {i b : Nat} {x : Blk}, sel.Nodup → sel[i]? = some b → xs[i]? = some x → b < M.length → (writeBack M sel xs)[b]? = some x
  | [], _, M, i, b, x, _, h, _, _ => by simp at h
  | _ :: _, [], M, i, b, x, _, _, h, _ => by simp at h
  | c :: r, y :: s, M, 0, b, x, hn, h, hx, hb => by
    simp at h hx
    subst h; subst hx
    rw [writeBack, writeBack_other (List.nodup_cons.1 hn).1]
    simp [hb]
  | c :: r, y :: s, M, i + 1, b, x, hn, h, hx, hb => by
    rw [writeBack]
    exact writeBack_get (List.nodup_cons.1 hn).2 (by simpa using h) (by simpa using hx) (by simpa using hb)

/-! ### 4. What a summary promises -/
def outM (M : Mem) (r : SR) : Mem := r.upd.getD M ++ r.new
def Enters (P : Program) (f : FuncId) : Prop := ∃ fn, P.funcs[f]? = some fn ∧ fn.name ≠ "runtime.NumGoroutine" ∧ fn.body.isSome = true
structure Holds (P : Program) (eid : RTy → TypeId) (f : FuncId) (S : Summ) : Prop where
  enters : Enters P f
  upd : ∀ xs M t, S xs M = some t → ∀ l, t.ev.upd = some l → l.length = M.length
  run : ∀ (W0 : World) (ρ : Nat → Value) (w : World) (xs : List AV) (M : Mem) (vs : Array Value) (t : BT SR), S xs M = some t → preOk t.ev.pre →
    Rep ⟨P, W0, eid⟩ ρ M w → RelF ⟨P, W0, eid⟩ (envOf ρ M) xs vs.toList →
    Calls P f vs w fun e w' => ∃ v ρ', e = .returned v ∧ RelA ⟨P, W0, eid⟩ (envOf ρ' (outM M t.ev)) t.ev.val v ∧ Rep ⟨P, W0, eid⟩ ρ' (outM M t.ev) w' ∧ Ext w ρ M w' ρ' (outM M t.ev)
def GamOk (P : Program) (eid : RTy → TypeId) (Γ : Gam) : Prop := ∀ f S, Γ f = some S → Holds P eid f S

theorem BT.ev_map {α β : Type} (f : α → β) : ∀ t : BT α, (t.map f).ev = f t.ev
  | .leaf r => rfl
  | .br c a b => by cases c <;> simp [BT.map, BT.ev, BT.ev_map f a, BT.ev_map f b]

theorem env_some {ρ : Nat → Value} {M : Mem} {b : Nat} {x : Blk} (h : M[b]? = some x) : envOf ρ M b = match x.shape with
    | some s => .ent (ρ b) s
    | none => .dead := by
  simp only [envOf, h]
  cases x.shape <;> rfl
theorem env_none {ρ : Nat → Value} {M : Mem} {b : Nat} (h : M[b]? = none) : envOf ρ M b = .out := by
  simp only [envOf, h]

/-- The part that is handed over. -/
def partM (M : Mem) (sel : List Nat) : Mem := sel.map fun b => (M.at b).map (inv sel)
def partR (ρ : Nat → Value) (sel : List Nat) (l : Nat) : Value := ρ (sel.getD l 0)

theorem partM_get {M : Mem} {sel : List Nat} {i b : Nat} (h : sel[i]? = some b) : (partM M sel)[i]? = some ((M.at b).map (inv sel)) := by simp [partM, h]
theorem partR_get {ρ : Nat → Value} {sel : List Nat} {i b : Nat} (h : sel[i]? = some b) : partR ρ sel i = ρ b := by simp [partR, List.getD_eq_getElem?_getD, h]
theorem at_get {M : Mem} {b : Nat} (h : b < M.length) : M[b]? = some (M.at b) := by
  simp [Mem.at, List.getD_eq_getElem?_getD, List.getElem?_eq_getElem h]
theorem part_env {ρ : Nat → Value} {M : Mem} {sel : List Nat} {b : Nat} (hb : b ∈ sel) (hlt : b < M.length) : envOf (partR ρ sel) (partM M sel) (inv sel b) = envOf ρ M b := by
  rw [env_some (partM_get (inv_mem hb)), env_some (at_get hlt), Blk.shape_map, partR_get (inv_mem hb)]
theorem part_owns {ρ : Nat → Value} {M : Mem} {sel : List Nat} (hlt : ∀ b ∈ sel, b < M.length) {l g : Nat} (ho : Owns (partR ρ sel) (partM M sel) l g) : ∃ b, sel[l]? = some b ∧ Owns ρ M b g := by
  obtain ⟨x, hx, hv, hg⟩ := owns_cases ho
  have hl : l < sel.length := by
    have := (List.getElem?_eq_some_iff.1 hx).1
    simpa [partM] using this
  have hs : sel[l]? = some sel[l] := List.getElem?_eq_getElem hl
  rw [partM_get hs] at hx
  cases hx
  rw [partR_get hs] at hg
  exact ⟨_, hs, owns_of (at_get (hlt _ (List.getElem_mem hl))) (shape_map_vis rfl hv) hg⟩

theorem part_rep {X : Cx} {ρ : Nat → Value} {M : Mem} {w : World} {sel : List Nat} (hR : Rep X ρ M w) (hn : sel.Nodup) (hc : ∀ b ∈ sel, live M b = true ∧ b < M.length ∧ ∀ c ∈ (M.at b).ids, c ∈ sel) :
    Rep X (partR ρ sel) (partM M sel) w := by
  have hlt : ∀ b ∈ sel, b < M.length := fun b hb => (hc b hb).2.1
  refine ⟨?_, ?_, ?_, hR.ro, hR.sz⟩
  · intro l x hx
    have hl : l < sel.length := by
      have := (List.getElem?_eq_some_iff.1 hx).1
      simpa [partM] using this
    have hs : sel[l]? = some sel[l] := List.getElem?_eq_getElem hl
    have hm := List.getElem_mem hl
    rw [partM_get hs] at hx
    cases hx
    rw [partR_get hs, RepB_map]
    refine (hR.blk _ _ (at_get (hlt _ hm))).on (fun c hcm => ?_) (fun _ _ _ => rfl)
    have hcs := (hc _ hm).2.2 c hcm
    exact .inr (.inr (part_env hcs (hlt c hcs)))
  · intro l l' g h h'
    obtain ⟨b, hb, ho⟩ := part_owns hlt h
    obtain ⟨b', hb', ho'⟩ := part_owns hlt h'
    have := hR.sep b b' g ho ho'
    subst this
    exact (List.getElem?_inj (List.getElem?_eq_some_iff.1 hb).1 hn).1 (hb.trans hb'.symm)
  · intro l g h
    obtain ⟨b, hb, ho⟩ := part_owns hlt h
    exact hR.base b g ho

theorem part_args {X : Cx} {ρ : Nat → Value} {M : Mem} {sel : List Nat} {xs : List AV} {vs : List Value} (hF : RelF X (envOf ρ M) xs vs) (ha : ∀ b ∈ avidsL xs, b ∈ sel) (hlt : ∀ b ∈ sel, b < M.length) :
    RelF X (envOf (partR ρ sel) (partM M sel)) (xs.map (AV.map (inv sel))) vs :=
  (RelF_map xs vs).2 (hF.on fun b hb => .inr (.inr (part_env (ha b hb) (hlt b (ha b hb)))))

/-- The blocks' values behind the call. -/
def joinR (ρ ρL' : Nat → Value) (M : Mem) (sel : List Nat) (b : Nat) : Value :=
  if b < M.length then (if b ∈ sel then ρL' (inv sel b) else ρ b) else ρL' (sel.length + (b - M.length))

theorem join_part {ρ ρL' : Nat → Value} {M : Mem} {sel : List Nat} {w w' : World} {r : SR} (hn : sel.Nodup) (hc : ∀ b ∈ sel, live M b = true ∧ b < M.length ∧ ∀ c ∈ (M.at b).ids, c ∈ sel)
    (hu : ∀ l, r.upd = some l → l.length = sel.length) (hE : Ext w (partR ρ sel) (partM M sel) w' ρL' (outM (partM M sel) r)) :
    Part (envOf ρ M) (envOf (joinR ρ ρL' M sel) (outOf M sel r).mem) ρ (joinR ρ ρL' M sel) (partR ρ sel) ρL' (tab M) (tab (outOf M sel r).mem) (partM M sel) (outM (partM M sel) r) (back sel M.length) ∧
      M.length ≤ (outOf M sel r).mem.length ∧ ∀ l, On (envOf ρL' (outM (partM M sel) r)) (fun l => envOf (joinR ρ ρL' M sel) (outOf M sel r).mem (back sel M.length l)) l := by
  have hlt : ∀ b ∈ sel, b < M.length := fun b hb => (hc b hb).2.1
  have hpl : (partM M sel).length = sel.length := by simp [partM]
  have hbase : (r.upd.getD (partM M sel)).length = sel.length := by
    cases hq : r.upd with
    | none => simpa using hpl
    | some l => simpa using hu l hq
  -- the memory behind the call, block by block
  have hlen : (outOf M sel r).mem.length = M.length + r.new.length := by
    unfold outOf
    cases hq : r.upd with
    | none => simp
    | some l => simp [writeBack_length]
  have hnew : ∀ (i : Nat) (y : Blk), r.new[i]? = some y → (outOf M sel r).mem[M.length + i]? = some (y.map (back sel M.length)) := by
    intro i y hy
    unfold outOf
    cases hq : r.upd with
    | none => simp [List.getElem?_append_right, hy]
    | some l =>
      simp only
      rw [List.getElem?_append_right (by rw [writeBack_length]; omega), writeBack_length]
      simp [hy]
  have hold : ∀ b, b < M.length → b ∉ sel → (outOf M sel r).mem[b]? = M[b]? := by
    intro b hb hns
    unfold outOf
    cases hq : r.upd with
    | none => simp [List.getElem?_append_left hb]
    | some l =>
      simp only
      rw [List.getElem?_append_left (by rw [writeBack_length]; exact hb), writeBack_other hns]
  have hsel : ∀ (i b : Nat) (y : Blk), sel[i]? = some b → (r.upd.getD (partM M sel))[i]? = some y → (outOf M sel r).mem[b]? = some (y.map (back sel M.length)) := by
    intro i b y hb hy
    have hm := List.mem_of_getElem? hb
    unfold outOf
    cases hq : r.upd with
    | none =>
      rw [hq] at hy
      have hy : (partM M sel)[i]? = some y := hy
      rw [partM_get hb] at hy
      cases hy
      simp only
      rw [List.getElem?_append_left (hlt b hm), Blk.map_map, Blk.map_on (fun c hcm => back_inv ((hc b hm).2.2 c hcm)), at_get (hlt b hm)]
    | some l =>
      rw [hq] at hy
      have hy : l[i]? = some y := hy
      simp only
      rw [List.getElem?_append_left (by rw [writeBack_length]; exact hlt b hm)]
      exact writeBack_get hn hb (by simp [hy]) (hlt b hm)
  -- by the part's own names
  have hfwd : ∀ (l : Nat) (y : Blk), (outM (partM M sel) r)[l]? = some y → (outOf M sel r).mem[back sel M.length l]? = some (y.map (back sel M.length)) ∧ joinR ρ ρL' M sel (back sel M.length l) = ρL' l := by
    intro l y hy
    unfold outM at hy
    by_cases hl : l < sel.length
    · rw [List.getElem?_append_left (by rw [hbase]; exact hl)] at hy
      have hs : sel[l]? = some sel[l] := List.getElem?_eq_getElem hl
      have hm := List.getElem_mem hl
      refine ⟨by rw [back_lt hs]; exact hsel l _ y hs hy, ?_⟩
      have hi := inv_back (L := M.length) hn hl
      rw [back_lt hs] at hi ⊢
      simp only [joinR, hlt _ hm, hm, if_true, hi]
    · have hl' : sel.length ≤ l := Nat.le_of_not_lt hl
      rw [List.getElem?_append_right (by rw [hbase]; exact hl'), hbase] at hy
      rw [back_ge hl']
      refine ⟨hnew _ y hy, ?_⟩
      simp only [joinR]
      rw [if_neg (by omega)]
      congr 1; omega
  have henv : ∀ l, On (envOf ρL' (outM (partM M sel) r)) (fun l => envOf (joinR ρ ρL' M sel) (outOf M sel r).mem (back sel M.length l)) l := by
    intro l
    cases hy : (outM (partM M sel) r)[l]? with
    | none => exact .inl (env_none hy)
    | some y =>
      obtain ⟨h1, h2⟩ := hfwd l y hy
      refine .inr (.inr ?_)
      show envOf _ _ (back sel M.length l) = _
      rw [env_some h1, env_some hy, Blk.shape_map, h2]
  refine ⟨⟨?_, ?_, ?_⟩, by omega, henv⟩
  · intro l g ho
    obtain ⟨b, hb, hob⟩ := part_owns hlt ho
    rw [back_lt hb]; exact owns_tab.2 hob
  · intro b x hx
    have hx : (outOf M sel r).mem[b]? = some x := hx
    by_cases hb : b < M.length
    · by_cases hm : b ∈ sel
      · have hi := inv_mem hm
        have hlb : inv sel b < (r.upd.getD (partM M sel)).length := by rw [hbase]; exact inv_lt hm
        have hy := List.getElem?_eq_getElem hlb
        have h1 := hsel _ b _ hi hy
        rw [hx] at h1
        refine .inl ⟨inv sel b, _, back_inv hm, ?_, Option.some.inj h1, by simp [joinR, hb, hm], fun c _ => henv c⟩
        unfold outM
        rw [List.getElem?_append_left hlb]; exact hy
      · rw [hold b hb hm] at hx
        refine .inr ⟨hx, by simp [joinR, hb, hm], fun l g ho e => ?_⟩
        obtain ⟨c, hc', _⟩ := part_owns hlt ho
        rw [back_lt hc'] at e
        subst e
        exact hm (List.mem_of_getElem? hc')
    · have hbl : b < (outOf M sel r).mem.length := (List.getElem?_eq_some_iff.1 hx).1
      have hk : b - M.length < r.new.length := by omega
      have hy := List.getElem?_eq_getElem hk
      have h1 := hnew _ _ hy
      rw [show M.length + (b - M.length) = b by omega, hx] at h1
      refine .inl ⟨sel.length + (b - M.length), _, by rw [back_ge (by omega)]; omega, ?_, Option.some.inj h1, by simp only [joinR]; rw [if_neg hb], fun c _ => henv c⟩
      unfold outM
      rw [List.getElem?_append_right (by rw [hbase]; omega), hbase, show sel.length + (b - M.length) - sel.length = b - M.length by omega]
      exact hy
  · intro b
    by_cases hb : b < M.length
    · by_cases hm : b ∈ sel
      · have h1 := henv (inv sel b)
        have h2 := hE.keep (inv sel b)
        rw [part_env hm hb] at h2
        simp only [On, back_inv hm] at h1
        rcases h2 with h2 | h2 | h2
        · exact .inl h2
        · rcases h1 with h1 | h1 | h1
          · rw [h2] at h1; cases h1
          · exact .inr (.inl h1)
          · exact .inr (.inl (h1.trans h2))
        · rcases h1 with h1 | h1 | h1
          · rw [h2] at h1; exact .inl h1
          · exact .inr (.inl h1)
          · exact .inr (.inr (h1.trans h2))
      · refine .inr (.inr ?_)
        rw [env_some (show (outOf M sel r).mem[b]? = some (M.at b) by rw [hold b hb hm]; exact at_get hb), env_some (at_get hb)]
        simp [joinR, hb, hm]
    · exact .inl (env_none (List.getElem?_eq_none (by omega)))

theorem acall_sound {P : Program} {W0 : World} {eid : RTy → TypeId} {Γ : Gam} (hΓ : GamOk P eid Γ) {f : FuncId} {xs : List AV} {M : Mem} {t : BT OR} (h : acall Γ M f xs = some t) (hp : preOk t.ev.pre)
    {ρ : Nat → Value} {w : World} {vs : Array Value} (hR : Rep ⟨P, W0, eid⟩ ρ M w) (hF : RelF ⟨P, W0, eid⟩ (envOf ρ M) xs vs.toList) :
    Enters P f ∧ Calls P f vs w fun e w' => ∃ v ρ', e = .returned v ∧ RelA ⟨P, W0, eid⟩ (envOf ρ' t.ev.mem) t.ev.val v ∧ Rep ⟨P, W0, eid⟩ ρ' t.ev.mem w' ∧ Ext w ρ M w' ρ' t.ev.mem := by
  unfold acall at h
  split at h
  · cases h
  · rename_i S hS
    have hH := hΓ f S hS
    simp only at h
    generalize hsel : reach M 300 (avidsL xs) [] = sel at h
    cases hb : (allIn sel (avidsL xs) && (closedIn M sel sel && nodupN sel)) with
    | false => rw [hb] at h; cases h
    | true =>
      rw [hb] at h
      simp only [cond_true] at h
      simp only [Bool.and_eq_true] at hb
      obtain ⟨ha, hcl, hnd⟩ := hb
      have ha := allIn_iff.1 ha
      have hc := closedIn_iff hcl
      have hn := nodupN_iff hnd
      have hlt : ∀ b ∈ sel, b < M.length := fun b hb => (hc b hb).2.1
      split at h
      · cases h
      · rename_i t0 ht0
        cases h
        have ht0 : S (xs.map (AV.map (inv sel))) (partM M sel) = some t0 := ht0
        rw [BT.ev_map] at hp ⊢
        have hpre : preOk t0.ev.pre := by
          unfold outOf at hp
          cases hq : t0.ev.upd <;> rw [hq] at hp <;> exact hp
        refine ⟨hH.enters, (hH.run W0 (partR ρ sel) w _ _ vs t0 ht0 hpre (part_rep hR hn hc) (part_args hF ha hlt)).mono ?_⟩
        rintro e w' ⟨v, ρ', rfl, hv, hR', hE'⟩
        have hul : ∀ l, t0.ev.upd = some l → l.length = sel.length := fun l hl => by
          have := hH.upd _ _ t0 ht0 l hl
          simpa [partM] using this
        obtain ⟨hP, hlen, henv⟩ := join_part hn hc hul hE'
        refine ⟨v, joinR ρ ρ' M sel, rfl, ?_, (hP.rep hR.toE hR' hE').rep, (hP.ext hE').ext hlen hP.old⟩
        have hval : (outOf M sel t0.ev).val = t0.ev.val.map (back sel M.length) := by
          unfold outOf
          cases t0.ev.upd <;> rfl
        rw [hval, RelA_map]
        exact hv.on fun b _ => henv b

theorem callFunc_run {P : Program} {f : FuncId} (h : Enters P f) (args : Array Value) (w : World) : (callFunc f args).run P w = .ok (.enter f args) w := by
  obtain ⟨fn, hf, hn, hb⟩ := h
  have hb' : fn.body ≠ none := by intro e; rw [e] at hb; cases hb
  simp [callFunc, hf, hn, hb']

theorem aopT_sound {P : Program} {W0 : World} {eid : RTy → TypeId} {Γ : Gam} {τ : Tys} (hT : Agree ⟨P, W0, eid⟩ τ) (hΓ : GamOk P eid Γ) {o : Oper} {F : List AV} {M : Mem} {a : Act} {w : World} {ρ : Nat → Value} {t : BT OR}
    (h : aopT Γ τ o F M = some t) (hp : preOk t.ev.pre) (hF : RelF ⟨P, W0, eid⟩ (envOf ρ M) F a.tmps.toList) (hR : Rep ⟨P, W0, eid⟩ ρ M w) : OpOk ⟨P, W0, eid⟩ o a w ρ M t.ev := by
  have leaf : ∀ {t : BT OR}, (aop τ o F M).map BT.leaf = some t → preOk t.ev.pre → OpOk ⟨P, W0, eid⟩ o a w ρ M t.ev := by
    intro t h hp
    cases hx : aop τ o F M with
    | none => rw [hx] at h; cases h
    | some x => rw [hx] at h; cases h; exact aop_sound hT hx hp hF hR
  unfold aopT at h
  split at h
  · rename_i c ho
    split at h
    · rename_i fo hcal
      split at h
      · rename_i f xs hfa
        unfold fullArgs at hfa
        split at hfa
        · rename_i f' first caps hoe
          cases hfa
          have hfv := oe_rel hF fo
          rw [hoe] at hfv
          obtain ⟨a', b', hv, h1, h2⟩ := hfv
          have hargs : RelF ⟨P, W0, eid⟩ (envOf ρ M) (first.map .one ++ (c.args.toList.map (oe F) ++ caps.map .one)) ((a' ++ c.args.map a.eval) ++ b').toList := by
            rw [Array.toList_append, Array.toList_append, List.append_assoc]
            exact (RelF.v1s h1).append ((map_eval hF c.args).append (RelF.v1s h2))
          obtain ⟨hent, hcalls⟩ := acall_sound hΓ h hp hR hargs
          intro next Q hn
          have hrun : (execOp a.eval o).run P w = .ok (.enter f ((a' ++ c.args.map a.eval) ++ b')) w := by
            simp only [execOp, ho, resolve, hcal, Deferred.ofValue, hv, Sem.run_bind, Sem.run_pure, Result.andThen_ok, invoke]
            exact callFunc_run hent _ w
          unfold Oper.wp
          show o.upon P a next Q ((execOp a.eval o).run P w)
          rw [hrun, Oper.upon_enter]
          refine hcalls.mono ?_
          rintro e w' ⟨v, ρ', rfl, hv', hR', hE'⟩
          exact hn v w' ρ' hv' hR' hE'
        · cases hfa
      · cases h
    · exact leaf h hp
  · rename_i c y z ho
    have hc := oe_rel hF c
    split at h
    · rename_i b hb
      rw [hb] at hc
      have hcv := bool_of hc
      cases h
      cases b with
      | true =>
        refine OpOk.pure (v := a.eval y) hR ?_ (oe_rel hF y)
        simp [execOp, ho, hcv, asBool]
      | false =>
        refine OpOk.pure (v := a.eval z) hR ?_ (oe_rel hF z)
        simp [execOp, ho, hcv, asBool]
    · cases h
  · exact leaf h hp
end Lw
