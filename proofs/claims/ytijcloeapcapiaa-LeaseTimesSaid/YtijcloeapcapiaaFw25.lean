/- Forgetting and renaming: keep some slots and some blocks, these in a new order. -/
import Derived.Test.YtijcloeapcapiaaFw24
set_option linter.unusedVariables false
namespace Lw
open Go
/-- The first k of a list are 0, 1, .. -/
def firstN : Nat → Nat → List Nat → Bool
  | 0, _, _ => true
  | n + 1, i, x :: r => Nat.beq x i && firstN n (i + 1) r
  | _ + 1, _, [] => false
def tidyS (k0 : Nat) (m : List Bool) (sel : List Nat) (F : List AV) (M : Mem) : Bool :=
  firstN k0 0 sel && (nodupN sel && (allIn sel (avidsL (mask m F)) && closedIn M sel sel))
theorem firstN_get : ∀ {n i : Nat} {l : List Nat}, firstN n i l = true → ∀ j, j < n → l[j]? = some (i + j)
  | 0, _, _, _, j, hj => absurd hj (Nat.not_lt_zero j)
  | n + 1, i, [], h, _, _ => by cases h
  | n + 1, i, x :: r, h, j, hj => by
    unfold firstN at h
    rw [Bool.and_eq_true] at h
    have hx := Nat.eq_of_beq_eq_true h.1
    subst hx
    cases j with
    | zero => rfl
    | succ j =>
      have := firstN_get h.2 j (by omega)
      rw [List.getElem?_cons_succ, this]
      congr 1; omega
theorem Cell.map_back {sel : List Nat} {L : Nat} {c : Cell} (h : ∀ b ∈ c.ids, b ∈ sel) : (c.map (inv sel)).map (back sel L) = c := by
  cases c <;> simp only [Cell.map] <;> rw [back_inv (h _ (by simp [Cell.ids]))]
theorem Cells.map_back {sel : List Nat} {L : Nat} : ∀ {cs : List Cell}, (∀ b ∈ cidsL cs, b ∈ sel) → (cs.map (Cell.map (inv sel))).map (Cell.map (back sel L)) = cs
  | [], _ => rfl
  | c :: r, h => by
    rw [List.map_cons, List.map_cons, Cell.map_back fun b hb => h b (List.mem_append_left _ hb), Cells.map_back fun b hb => h b (List.mem_append_right _ hb)]
theorem V1.map_back {sel : List Nat} {L : Nat} {c : V1} (h : ∀ b ∈ c.ids, b ∈ sel) : (c.map (inv sel)).map (back sel L) = c := by
  cases c <;> simp only [V1.map]
  · rw [Cell.map_back h]
  · rw [Cells.map_back h]
theorem V1s.map_back {sel : List Nat} {L : Nat} : ∀ {cs : List V1}, (∀ b ∈ v1idsL cs, b ∈ sel) → (cs.map (V1.map (inv sel))).map (V1.map (back sel L)) = cs
  | [], _ => rfl
  | c :: r, h => by
    rw [List.map_cons, List.map_cons, V1.map_back fun b hb => h b (List.mem_append_left _ hb), V1s.map_back fun b hb => h b (List.mem_append_right _ hb)]
theorem AV.map_back {sel : List Nat} {L : Nat} {c : AV} (h : ∀ b ∈ c.ids, b ∈ sel) : (c.map (inv sel)).map (back sel L) = c := by
  cases c with
  | one x => simp only [AV.map]; rw [V1.map_back h]
  | tup xs => simp only [AV.map]; rw [V1s.map_back h]
  | fn f a b =>
    simp only [AV.map]
    rw [V1s.map_back fun c hc => h c (List.mem_append_left _ hc), V1s.map_back fun c hc => h c (List.mem_append_right _ hc)]
  | rop cs => simp only [AV.map]; rw [Cells.map_back h]
  | undef => rfl
  | junk => rfl
theorem Blk.map_back {sel : List Nat} {L : Nat} {x : Blk} (h : ∀ b ∈ x.ids, b ∈ sel) : (x.map (inv sel)).map (back sel L) = x := by
  cases x <;> simp only [Blk.map]
  rw [Cells.map_back h]
theorem live_part {M : Mem} {sel : List Nat} {i : Nat} (h : live (partM M sel) i = true) : i < sel.length := by
  by_cases hi : i < sel.length
  · exact hi
  · unfold live at h
    rw [show (partM M sel).at i = .dead by
      simp [Mem.at, partM, List.getD_eq_getElem?_getD, List.getElem?_eq_none (Nat.le_of_not_lt hi)]] at h
    cases h
theorem wk_sel {k0 : Nat} {F : List AV} {M : Mem} {I : List AV → Mem → Prop} (ps : List XP) (m : List Bool) (sel : List Nat) {y : List AV × Mem} (hx : xpand ps (F, M) = some y) (h : tidyS k0 m sel y.1 y.2 = true)
    (hI : I ((mask m y.1).map (AV.map (inv sel))) (partM y.2 sel)) : Wk k0 F M I := by
  obtain ⟨F1, M1⟩ := y
  unfold tidyS at h
  simp only [Bool.and_eq_true] at h
  obtain ⟨h0, h1, h2, h3⟩ := h
  have hn := nodupN_iff h1
  have hc := closedIn_iff h3
  have hids := allIn_iff.1 h2
  have hget : ∀ i, i < sel.length → sel[i]? = some (back sel M1.length i) := fun i hi => by
    rw [back_lt (List.getElem?_eq_getElem hi)]
    exact List.getElem?_eq_getElem hi
  have hb : ∀ i, i < sel.length → back sel M1.length i ∈ sel := fun i hi => List.mem_of_getElem? (hget i hi)
  have hk : k0 ≤ sel.length := by
    by_cases hz : k0 = 0
    · omega
    · have := firstN_get h0 (k0 - 1) (by omega)
      have := (List.getElem?_eq_some_iff.1 this).1
      omega
  refine ⟨ps, (F1, M1), hx, back sel M1.length, _, _, ⟨fun b hb _ => ?_, by simpa [partM] using hk, by simp [mask_length], fun s => ?_, fun b hl => ?_, fun b b' hl hl' he => ?_, fun b hb => ?_⟩, hI⟩
  · have := firstN_get h0 b hb
    rw [back_lt this]; omega
  · simp only [List.getD_eq_getElem?_getD, List.getElem?_map]
    have hm := mask_getD m F1 s
    simp only [List.getD_eq_getElem?_getD] at hm
    cases hs : (mask m F1)[s]? with
    | none => exact .inl rfl
    | some x =>
      rw [hs] at hm
      simp only [Option.map_some, Option.getD_some] at hm ⊢
      rcases hm with rfl | hm
      · exact .inl rfl
      · refine .inr ?_
        rw [AV.map_back fun b hb => hids b (avids_mem (List.mem_of_getElem? hs) hb), hm]
  · have hi := live_part hl
    have hmem := hb b hi
    refine ⟨(hc _ hmem).2.1, ?_⟩
    have hg := partM_get (M := M1) (hget b hi)
    rw [show (partM M1 sel).at b = (M1.at (back sel M1.length b)).map (inv sel) by simp [Mem.at, List.getD_eq_getElem?_getD, hg]]
    exact Blk.map_back (hc _ hmem).2.2
  · have hi := live_part hl
    have hi' := live_part hl'
    have h1 := inv_back (L := M1.length) hn hi
    have h2 := inv_back (L := M1.length) hn hi'
    rw [he] at h1
    exact h1.symm.trans h2
  · have : sel.length ≤ b := by simpa [partM] using hb
    rw [back_ge this]
    show M1.length ≤ _
    omega
/-- What a function answers, with new blocks among its own. -/
theorem ends_sel {k0 : Nat} {r : SR} {args M : Mem} {v : AV} (ps : List XP) (sel : List Nat) {y : List AV × Mem} (hx : xpand ps ([v], M) = some y) (h : tidyS k0 [true] sel y.1 y.2 = true)
    (hv : y.1.map (AV.map (inv sel)) = [r.val]) (hM : partM y.2 sel = (r.upd.getD args) ++ r.new) : Ends k0 r args v M := by
  refine wk_sel ps [true] sel hx h ⟨?_, hM⟩
  rw [← hv]
  congr 1
  obtain ⟨F1, M1⟩ := y
  have hl : F1.length = 1 := by
    have := congrArg List.length hv
    simpa using this
  match F1, hl with
  | [x], _ => rfl
end Lw
