/- The functions of this group answer so. -/
import Derived.Test.YtjgmkpidiaojkaaFwScanLV
import Derived.Test.YtjgmkpidiaojkaaFwScan
set_option linter.unusedVariables false
set_option linter.unusedSimpArgs false
set_option maxRecDepth 20000
set_option maxHeartbeats 4000000
namespace Go.Proofs.Ytjgmkpidiaojkaa
open Lw
theorem wf_stops {s : Lw.Stops} (h : WfAll s.enc) : stopsR s := ⟨wf_range h.1, wf_range h.2.1, wf_range h.2.2.1⟩
theorem any_zero (f : Int) : anyB ⟨0, 0, 0⟩ f = false := by unfold anyB; simp only [has_zero]; rfl
theorem hall_any {s : Lw.Stops} {f w : Int} (h : hallB s f w = true) : anyB s f = true := by
  unfold hallB at h; unfold anyB
  simp only [Bool.or_eq_true, Bool.and_eq_true, decide_eq_true_eq] at h ⊢
  rcases h with h | h
  · exact .inr (.inl h.2)
  · exact .inr (.inr h.2)
theorem ahead_zero (f w : Int) : aheadB ⟨0, 0, 0⟩ f w = false := by
  cases h : aheadB ⟨0, 0, 0⟩ f w
  · rfl
  · obtain ⟨k, _, _, h, _⟩ := aheadB_iff.1 h
    rw [any_zero] at h; cases h
theorem any_range {s : Lw.Stops} {f : Int} (h : anyB s f = true) : 0 ≤ f ∧ f < 64 := by
  unfold anyB at h
  simp only [Bool.or_eq_true] at h
  rcases h with h | h | h <;> exact has_range h
theorem any_none {s : Lw.Stops} (hs : stopsR s) (h : ∀ k, 0 ≤ k → k < 64 → anyB s k = false) : s = ⟨0, 0, 0⟩ := by
  have z : ∀ {x : Int}, u64R x → (∀ k, 0 ≤ k → k < 64 → hasB x k = false) → x = 0 := fun hx hk =>
    has_ext hx (by unfold u64R; omega) fun k h0 h1 => by rw [hk k h0 h1, has_zero]
  obtain ⟨p, u, d⟩ := s
  unfold anyB at h
  simp only [Bool.or_eq_false_iff] at h
  have e1 : p = 0 := z hs.1 fun k h0 h1 => (h k h0 h1).1
  have e2 : u = 0 := z hs.2.1 fun k h0 h1 => (h k h0 h1).2.1
  have e3 : d = 0 := z hs.2.2 fun k h0 h1 => (h k h0 h1).2.2
  rw [e1, e2, e3]
theorem some_stop {s : Lw.Stops} (hs : stopsR s) (h : s ≠ ⟨0, 0, 0⟩) (f : Int) : anyB s f = true ∨ aheadB s f 1 = true ∨ aheadB s f 2 = true := by
  apply Classical.byContradiction
  intro hn
  simp only [not_or, Bool.not_eq_true] at hn
  refine h (any_none hs fun k h0 h1 => ?_)
  cases hk : anyB s k
  · rfl
  · by_cases e : k = f
    · subst e; exact hk.symm.trans hn.1
    · by_cases g : k > f
      · have := aheadB_iff.2 (show ∃ k : Int, 0 ≤ k ∧ k < 64 ∧ anyB s k = true ∧ thatB k f 1 = true from ⟨k, h0, h1, hk, by unfold thatB; simp; omega⟩)
        rw [hn.2.1] at this; cases this
      · have := aheadB_iff.2 (show ∃ k : Int, 0 ≤ k ∧ k < 64 ∧ anyB s k = true ∧ thatB k f 2 = true from ⟨k, h0, h1, hk, by unfold thatB; simp; omega⟩)
        rw [hn.2.2] at this; cases this
theorem first_cases (p q : Bool) (a b : Int) : (p = true ∧ firstI p q a b = a) ∨ (p = false ∧ q = true ∧ firstI p q a b = b) ∨ (p = false ∧ q = false ∧ firstI p q a b = 0) := by
  unfold firstI; cases p <;> cases q <;> simp
/-- What a car does that stands: all its cases. -/
inductive NextI (s : Lw.Stops) (f w j : Int) : Int → Bool → Prop
  | rest : w = 0 → anyB s f = false ∨ (f = j ∧ (aheadB s f 1 = true ∨ aheadB s f 2 = true)) → aheadB s f 1 = false → aheadB s f 2 = false → NextI s f w j 0 false
  | up : w = 0 → anyB s f = false ∨ (f = j ∧ (aheadB s f 1 = true ∨ aheadB s f 2 = true)) → aheadB s f 1 = true → NextI s f w j 1 false
  | down : w = 0 → anyB s f = false ∨ (f = j ∧ (aheadB s f 1 = true ∨ aheadB s f 2 = true)) → aheadB s f 1 = false → aheadB s f 2 = true → NextI s f w j 2 false
  | sOpen (x : Int) : w = 0 → anyB s f = true → (f ≠ j ∨ (aheadB s f 1 = false ∧ aheadB s f 2 = false)) → (x = 1 ∧ hallB s f 1 = true) ∨ (x = 2 ∧ hallB s f 1 = false ∧ hallB s f 2 = true) ∨ (x = 0 ∧ hallB s f 1 = false ∧ hallB s f 2 = false) → NextI s f w j x true
  | on : w ≠ 0 → aheadB s f w = true → anyB s f = false ∨ f = j ∨ (hallB s f w = false ∧ hasB s.press f = false) → NextI s f w j w false
  | back : w ≠ 0 → aheadB s f w = false → aheadB s f (otherI w) = true → anyB s f = false ∨ f = j → NextI s f w j (otherI w) false
  | halt : w ≠ 0 → aheadB s f w = false → aheadB s f (otherI w) = false → anyB s f = false → NextI s f w j 0 false
  | same : w ≠ 0 → anyB s f = true → (f ≠ j ∨ (aheadB s f w = false ∧ aheadB s f (otherI w) = false ∧ hallB s f (otherI w) = false)) → hallB s f w = true ∨ hasB s.press f = true → NextI s f w j w true
  | turn : w ≠ 0 → aheadB s f w = false → hallB s f (otherI w) = true → (f = j ∧ aheadB s f (otherI w) = false) ∨ (f ≠ j ∧ hallB s f w = false) ∨ (hallB s f w = false ∧ aheadB s f (otherI w) = false) → NextI s f w j (otherI w) true
theorem any_split {s : Lw.Stops} {f w : Int} (h : anyB s f = true) (hw : w = 1 ∨ w = 2) (h1 : hallB s f w = false) (h2 : hallB s f (otherI w) = false) : hasB s.press f = true := by
  unfold anyB at h
  unfold hallB at h1 h2
  rcases hw with rfl | rfl <;> simp [otherI] at h1 h2 <;> simp [h1, h2] at h <;> exact h
theorem nextI_cases {s : Lw.Stops} {f w j : Int} (h0 : 0 ≤ w) (h2 : w ≤ 2) : NextI s f w j (nextI s f w j).1 (nextI s f w j).2 := by
  unfold nextI
  split
  · rename_i hw
    unfold stillI
    split
    · rename_i hc
      refine .sOpen _ hw hc.1 ?_ ?_
      · rcases hc.2 with h | h
        · exact .inl h
        · rcases first_cases (aheadB s f 1) (aheadB s f 2) 1 2 with k | k | k
          · omega
          · omega
          · exact .inr ⟨k.1, k.2.1⟩
      · rcases first_cases (hallB s f 1) (hallB s f 2) 1 2 with k | k | k
        · exact .inl ⟨k.2, k.1⟩
        · exact .inr (.inl ⟨k.2.2, k.1, k.2.1⟩)
        · exact .inr (.inr ⟨k.2.2, k.1, k.2.1⟩)
    · rename_i hc
      have ha : anyB s f = false ∨ (f = j ∧ (aheadB s f 1 = true ∨ aheadB s f 2 = true)) := by
        cases hf : anyB s f
        · exact .inl rfl
        · right
          rw [hf] at hc
          simp only [true_and, not_or, Classical.not_not] at hc
          refine ⟨hc.1, ?_⟩
          rcases first_cases (aheadB s f 1) (aheadB s f 2) 1 2 with k | k | k
          · exact .inl k.1
          · exact .inr k.2.1
          · exact absurd k.2.2 hc.2
      rcases first_cases (aheadB s f 1) (aheadB s f 2) 1 2 with k | k | k
      · rw [k.2]; exact .up hw ha k.1
      · rw [k.2.2]; exact .down hw ha k.1 k.2.1
      · rw [k.2.2]; exact .rest hw ha k.1 k.2.1
  · rename_i hw
    have hw' : w = 1 ∨ w = 2 := by omega
    have ho : otherI w ≠ 0 := by rcases other_cases h0 h2 with k | k | k <;> omega
    have hg : goneI s f w = 0 ↔ aheadB s f w = false ∧ aheadB s f (otherI w) = false := by
      unfold goneI
      rcases first_cases (aheadB s f w) (aheadB s f (otherI w)) w (otherI w) with k | k | k
      · rw [k.2, k.1]; simp [hw]
      · rw [k.2.2, k.1, k.2.1]; simp [ho]
      · rw [k.2.2, k.1, k.2.1]; simp
    have gone (hf : anyB s f = false ∨ (f = j ∧ (aheadB s f w = true ∨ aheadB s f (otherI w) = true)) ∨ (aheadB s f w = true ∧ hallB s f w = false ∧ hasB s.press f = false)) : NextI s f w j (goneI s f w) false := by
      unfold goneI
      rcases first_cases (aheadB s f w) (aheadB s f (otherI w)) w (otherI w) with k | k | k
      · rw [k.2]
        refine .on hw k.1 ?_
        rcases hf with hf | hf | hf
        · exact .inl hf
        · exact .inr (.inl hf.1)
        · exact .inr (.inr hf.2)
      · rw [k.2.2]
        refine .back hw k.1 k.2.1 ?_
        rcases hf with hf | hf | hf
        · exact .inl hf
        · exact .inr hf.1
        · rw [k.1] at hf; exact absurd hf.1 (by simp)
      · rw [k.2.2]
        refine .halt hw k.1 k.2.1 ?_
        rcases hf with hf | hf | hf
        · exact hf
        · rw [k.1, k.2.1] at hf; exact absurd hf.2 (by simp)
        · rw [k.1] at hf; exact absurd hf.1 (by simp)
    split
    · rename_i hc
      obtain ⟨ha, hj⟩ := hc
      rw [hg] at hj
      split
      · rename_i ht
        have hj' : aheadB s f w = false ∧ aheadB s f (otherI w) = false := by
          rcases hj with k | k
          · exact absurd ht.1 k
          · exact k
        exact .turn hw hj'.1 ht.2 (.inl ⟨ht.1, hj'.2⟩)
      · rename_i ht
        unfold servI
        by_cases hs : hallB s f w = true ∨ (aheadB s f w = true ∧ hasB s.press f = true)
        · rw [if_pos hs]
          simp only [if_true]
          refine .same hw ha ?_ ?_
          · by_cases e : f = j
            · right
              have hj' : aheadB s f w = false ∧ aheadB s f (otherI w) = false := by
                rcases hj with k | k
                · exact absurd e k
                · exact k
              refine ⟨hj'.1, hj'.2, ?_⟩
              cases hh : hallB s f (otherI w)
              · rfl
              · exact absurd ⟨e, hh⟩ ht
            · exact .inl e
          · rcases hs with k | k
            · exact .inl k
            · exact .inr k.2
        · rw [if_neg hs]
          simp only [not_or, not_and, Bool.not_eq_true] at hs
          by_cases hon : aheadB s f w = true
          · rw [if_pos hon]
            simp only [Bool.false_eq_true, if_false]
            exact gone (.inr (.inr ⟨hon, hs.1, hs.2 hon⟩))
          · rw [if_neg hon]
            simp only [Bool.not_eq_true] at hon
            by_cases hh : hallB s f (otherI w) = true
            · rw [if_pos hh]
              simp only [if_true]
              refine .turn hw hon hh ?_
              by_cases e : f = j
              · exact absurd ⟨e, hh⟩ ht
              · exact .inr (.inl ⟨e, hs.1⟩)
            · rw [if_neg hh]
              simp only [if_true]
              simp only [Bool.not_eq_true] at hh
              refine .same hw ha ?_ (.inr (any_split ha hw' hs.1 hh))
              by_cases e : f = j
              · right
                rcases hj with k | k
                · exact absurd e k
                · exact ⟨k.1, k.2, hh⟩
              · exact .inl e
    · rename_i hc
      rw [hg] at hc
      cases hf : anyB s f
      · exact gone (.inl hf)
      · rw [hf] at hc
        simp only [true_and, not_or, Classical.not_not] at hc
        refine gone (.inr (.inl ⟨hc.1, ?_⟩))
        cases h1 : aheadB s f w
        · right
          cases h3 : aheadB s f (otherI w)
          · exact absurd ⟨h1, h3⟩ hc.2
          · rfl
        · exact .inl rfl
theorem u8_floor {n : Int} (h : 0 ≤ n ∧ n ≤ 255) : 0 ≤ IntKind.i64.wrap (Int.tmod n 64) ∧ IntKind.i64.wrap (Int.tmod n 64) < 64 := by
  rw [Int.tmod_eq_emod_of_nonneg h.1, wrap_id (by omega) (by omega)]; omega
theorem u8_way {n : Int} (h : 0 ≤ n ∧ n ≤ 255) : 0 ≤ IntKind.i64.wrap (Int.tmod n 3) ∧ IntKind.i64.wrap (Int.tmod n 3) ≤ 2 := by
  rw [Int.tmod_eq_emod_of_nonneg h.1, wrap_id (by omega) (by omega)]; omega
theorem stops_zero {s : Lw.Stops} : pcsEq [.int .u64 s.press, .int .u64 s.up, .int .u64 s.down] [.int .u64 0, .int .u64 0, .int .u64 0] = true ↔ s = ⟨0, 0, 0⟩ := by
  obtain ⟨p, u, d⟩ := s
  simp [pcsEq, pcEq]
theorem some_way {s : Lw.Stops} (hs : stopsR s) (h : s ≠ ⟨0, 0, 0⟩) (f : Int) {w : Int} (hw : w = 1 ∨ w = 2) : anyB s f = true ∨ aheadB s f w = true ∨ aheadB s f (otherI w) = true := by
  rcases hw with rfl | rfl
  · exact some_stop hs h f
  · rcases some_stop hs h f with k | k | k
    · exact .inl k
    · exact .inr (.inr k)
    · exact .inr (.inl k)
theorem goes {s : Lw.Stops} {f w j : Int} (hs : stopsR s) (h0 : 0 ≤ w) (h2 : w ≤ 2) : (s = ⟨0, 0, 0⟩ → (nextI s f w j).1 = 0 ∧ (nextI s f w j).2 = false) ∧ ((nextI s f w j).2 = true → anyB s f = true) ∧ (s ≠ ⟨0, 0, 0⟩ → (nextI s f w j).2 = false → ((nextI s f w j).1 = 1 ∨ (nextI s f w j).1 = 2) ∧ aheadB s f (nextI s f w j).1 = true) := by
  have h := nextI_cases (s := s) (f := f) (j := j) h0 h2
  generalize (nextI s f w j).1 = x at h ⊢
  generalize (nextI s f w j).2 = b at h ⊢
  have zero (k : s = ⟨0, 0, 0⟩) (g : Int) : anyB s g = false ∧ aheadB s g 1 = false ∧ aheadB s g 2 = false := by subst k; exact ⟨any_zero g, ahead_zero g 1, ahead_zero g 2⟩
  have zw (k : s = ⟨0, 0, 0⟩) (g u : Int) : aheadB s g u = false := by subst k; exact ahead_zero g u
  have hw : w ≠ 0 → w = 1 ∨ w = 2 := fun h => by omega
  have ho : w ≠ 0 → otherI w = 1 ∨ otherI w = 2 := fun h => by rcases other_cases h0 h2 with k | k | k <;> omega
  cases h with
  | rest a b c d =>
    refine ⟨fun _ => ⟨rfl, rfl⟩, fun k => (nomatch k), fun k _ => ?_⟩
    rcases some_stop hs k f with e | e | e
    · rw [e, c, d] at b; simp at b
    · rw [c] at e; cases e
    · rw [d] at e; cases e
  | up a b c => exact ⟨fun k => (by rw [(zero k f).2.1] at c; cases c), fun k => (nomatch k), fun _ _ => ⟨.inl rfl, c⟩⟩
  | down a b c d => exact ⟨fun k => (by rw [(zero k f).2.2] at d; cases d), fun k => (nomatch k), fun _ _ => ⟨.inr rfl, d⟩⟩
  | sOpen x a b c d => exact ⟨fun k => (by rw [(zero k f).1] at b; cases b), fun _ => b, fun _ k => (nomatch k)⟩
  | on a b c => exact ⟨fun k => (by rw [zw k] at b; cases b), fun k => (nomatch k), fun _ _ => ⟨hw a, b⟩⟩
  | back a b c d => exact ⟨fun k => (by rw [zw k] at c; cases c), fun k => (nomatch k), fun _ _ => ⟨ho a, c⟩⟩
  | halt a b c d =>
    refine ⟨fun _ => ⟨rfl, rfl⟩, fun k => (nomatch k), fun k _ => ?_⟩
    rcases some_way hs k f (hw a) with e | e | e
    · rw [d] at e; cases e
    · rw [b] at e; cases e
    · rw [c] at e; cases e
  | same a b c d => exact ⟨fun k => (by rw [(zero k f).1] at b; cases b), fun _ => b, fun _ k => (nomatch k)⟩
  | turn a b c d => exact ⟨fun k => (by have := hall_any c; rw [(zero k f).1] at this; cases this), fun _ => hall_any c, fun _ k => (nomatch k)⟩
theorem keeps {s : Lw.Stops} {f w j : Int} (hw : w = 1 ∨ w = 2) : ((nextI s f w j).1 = otherI w → aheadB s f w = false ∧ ((nextI s f w j).2 = true → f ≠ j → hallB s f w = false)) ∧ (aheadB s f w = true → (nextI s f w j).1 = w) := by
  have h := nextI_cases (s := s) (f := f) (j := j) (w := w) (by omega) (by omega)
  generalize (nextI s f w j).1 = x at h ⊢
  generalize (nextI s f w j).2 = b at h ⊢
  have hne : w ≠ otherI w := by rcases hw with rfl | rfl <;> decide
  have hn0 : (0 : Int) ≠ otherI w := by rcases hw with rfl | rfl <;> decide
  cases h with
  | on a b c => exact ⟨fun k => absurd k hne, fun _ => rfl⟩
  | back a b c d => exact ⟨fun _ => ⟨b, fun k => (nomatch k)⟩, fun k => (by rw [b] at k; cases k)⟩
  | halt a b c d => exact ⟨fun k => absurd k hn0, fun k => (by rw [b] at k; cases k)⟩
  | same a b c d => exact ⟨fun k => absurd k hne, fun _ => rfl⟩
  | turn a b c d =>
    refine ⟨fun _ => ⟨b, fun _ k => ?_⟩, fun k => (by rw [b] at k; cases k)⟩
    rcases d with d | d | d
    · exact absurd d.1 k
    · exact d.2
    · exact d.1
  | _ => omega
theorem leaves {s : Lw.Stops} {f w : Int} (hw : w = 1 ∨ w = 2) (h : (nextI s f w f).2 = true) : aheadB s f 1 = false ∧ aheadB s f 2 = false := by
  have k := nextI_cases (s := s) (f := f) (j := f) (w := w) (by omega) (by omega)
  generalize (nextI s f w f).1 = x at k
  generalize (nextI s f w f).2 = b at h k
  have two (a : aheadB s f w = false) (b : aheadB s f (otherI w) = false) : aheadB s f 1 = false ∧ aheadB s f 2 = false := by
    rcases hw with rfl | rfl
    · exact ⟨a, b⟩
    · exact ⟨b, a⟩
  cases k with
  | sOpen x a b c d => omega
  | same a b c d =>
    rcases c with c | c
    · exact absurd rfl c
    · exact two c.1 c.2.1
  | turn a b c d =>
    rcases d with d | d | d
    · exact two b d.2
    · exact absurd rfl d.1
    · exact two b d.2
  | _ => cases h
end Go.Proofs.Ytjgmkpidiaojkaa
