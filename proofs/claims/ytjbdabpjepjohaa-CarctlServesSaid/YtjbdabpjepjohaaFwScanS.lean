/- The functions of this group answer so. -/
import Derived.Test.YtjbdabpjepjohaaFwScanSV
import Derived.Test.YtjbdabpjepjohaaFwCarctlL
set_option linter.unusedVariables false
set_option linter.unusedSimpArgs false
set_option maxRecDepth 20000
set_option maxHeartbeats 4000000
namespace Go.Proofs.Ytjbdabpjepjohaa
open Lw
theorem bit_val (x i : Nat) : x / 2 ^ i % 2 = if x.testBit i = true then 1 else 0 := by
  rw [← Nat.toNat_testBit]
  cases x.testBit i <;> rfl
theorem cnt_clear {x y : Nat} {f : Nat} (h : ∀ i, y.testBit i = (x.testBit i && decide (i ≠ f))) : ∀ n, cnt n y + (if f < n ∧ x.testBit f = true then 1 else 0) = cnt n x
  | 0 => by simp [cnt]
  | n + 1 => by
    have ih := cnt_clear h n
    have e1 : y / 2 ^ n % 2 = if x.testBit n = true ∧ n ≠ f then 1 else 0 := by
      rw [bit_val, h n]
      cases x.testBit n <;> simp
    rw [cnt_high, cnt_high, e1, bit_val x n]
    by_cases hn : n = f
    · subst hn
      simp only [Nat.lt_irrefl, false_and, if_false, Nat.lt_succ_self, true_and, ne_eq, not_true_eq_false, and_false] at ih ⊢
      omega
    · have hl : (f < n + 1) = (f < n) := propext (by omega)
      simp only [hl, hn, ne_eq, not_false_eq_true, and_true]
      generalize (if f < n ∧ x.testBit f = true then 1 else 0) = B at *
      generalize (if x.testBit n = true then 1 else 0) = A at *
      omega
theorem cntI_clear {x : Int} (hx : u64R x) {f : Int} (h0 : 0 ≤ f) (h1 : f < 64) : cntI (bitsI .andNot .u64 x (bitI f)) + (if hasB x f = true then 1 else 0) = cntI x := by
  have hy := bits_R .andNot x (bitI f)
  have key : ∀ i, (bitsI .andNot .u64 x (bitI f)).toNat.testBit i = (x.toNat.testBit i && decide (i ≠ f.toNat)) := fun i => by
    by_cases hi : i < 64
    · have e := has_andNot hx (bitI_R f) (i : Int)
      rw [has_bit, has_tb, has_tb, decide_eq_true (show 0 ≤ (i : Int) ∧ (i : Int) < 64 by omega), Int.toNat_natCast, Bool.true_and, Bool.true_and, Bool.true_and] at e
      rw [e]
      congr 1
      rw [← decide_not, decide_eq_decide]; omega
    · have hp : 2 ^ 64 ≤ 2 ^ i := Nat.pow_le_pow_right (by decide) (by omega)
      unfold u64R at hx hy
      rw [Nat.testBit_lt_two_pow (x := (bitsI .andNot .u64 x (bitI f)).toNat) (by omega), Nat.testBit_lt_two_pow (x := x.toNat) (by omega)]; rfl
  have e := cnt_clear key 64
  have hh : (hasB x f = true) ↔ (f.toNat < 64 ∧ x.toNat.testBit f.toNat = true) := by
    rw [has_tb, Bool.and_eq_true, decide_eq_true_eq]
    constructor
    · exact fun k => ⟨by omega, k.2⟩
    · exact fun k => ⟨⟨h0, h1⟩, k.2⟩
  unfold cntI
  by_cases hb : hasB x f = true
  · rw [if_pos (hh.1 hb)] at e
    rw [if_pos hb]; omega
  · rw [if_neg (fun k => hb (hh.2 k))] at e
    rw [if_neg hb]; omega
theorem cntI_none {x : Int} (hx : u64R x) (h : ∀ g, hasB x g = false) : cntI x = 0 := by
  have : x = 0 := has_ext hx (by unfold u64R; omega) fun g _ _ => by rw [h g, has_zero]
  subst this
  decide
theorem cntI_one {x : Int} (hx : u64R x) (h : ∀ g k, hasB x g = true → hasB x k = true → g = k) : cntI x ≤ 1 := by
  by_cases hz : ∃ g, hasB x g = true
  · obtain ⟨g, hg⟩ := hz
    have hr := has_range hg
    have e := cntI_clear hx hr.1 hr.2
    rw [if_pos hg, cntI_none (bits_R _ _ _) fun k => ?_] at e
    · omega
    · rw [has_andNot hx (bitI_R g), has_bit]
      cases hk : hasB x k
      · rfl
      · have := h k g hk hg
        subst this
        rw [decide_eq_true hr]; simp
  · have := cntI_none hx fun g => by
      cases hg : hasB x g
      · rfl
      · exact absurd ⟨g, hg⟩ hz
    omega
theorem ltW_tri {w : Int} (hw : w = 1 ∨ w = 2) (a b : Int) : ltW w a b ∨ a = b ∨ ltW w b a := by
  unfold ltW; omega
theorem that_iff {g f w : Int} : thatB g f w = true ↔ ltW w f g := by
  unfold thatB ltW
  simp only [Bool.or_eq_true, Bool.and_eq_true, decide_eq_true_eq, gt_iff_lt]
theorem ahead_none {s : Lw.Stops} {f w : Int} (h : aheadB s f w = false) {g : Int} (hg : ltW w f g) : anyB s g = false := by
  cases ha : anyB s g
  · rfl
  · have hr := any_range ha
    have := aheadB_iff.2 (show ∃ k : Int, 0 ≤ k ∧ k < 64 ∧ anyB s k = true ∧ thatB k f w = true from ⟨g, hr.1, hr.2, ha, that_iff.2 hg⟩)
    rw [h] at this; cases this
theorem ahead_some {s : Lw.Stops} {f w : Int} (h : aheadB s f w = true) : ∃ g, 0 ≤ g ∧ g < 64 ∧ anyB s g = true ∧ ltW w f g := by
  obtain ⟨k, h0, h1, h2, h3⟩ := aheadB_iff.1 h
  exact ⟨k, h0, h1, h2, that_iff.1 h3⟩
theorem any_no {s : Lw.Stops} {f : Int} (h : anyB s f = false) (w : Int) : hasB s.press f = false ∧ hallB s f w = false := by
  refine ⟨?_, ?_⟩
  · unfold anyB at h
    simp only [Bool.or_eq_false_iff] at h
    exact h.1
  · cases hh : hallB s f w
    · rfl
    · rw [hall_any hh] at h; cases h
theorem hall_side {s : Lw.Stops} {f w : Int} (hw : w = 1 ∨ w = 2) : hallB s f w = (if w = 1 then hasB s.up f else hasB s.down f) := by
  unfold hallB
  rcases hw with rfl | rfl <;> simp
theorem other_w {w : Int} (hw : w = 1 ∨ w = 2) : (otherI w = 1 ∨ otherI w = 2) ∧ otherI (otherI w) = w ∧ otherI w ≠ w := by
  rcases hw with rfl | rfl <;> decide
theorem ltW_other {w : Int} (hw : w = 1 ∨ w = 2) (a b : Int) : ltW (otherI w) a b ↔ ltW w b a := by
  rcases hw with rfl | rfl <;> simp [ltW, otherI]
theorem few {s : Lw.Stops} (hs : stopsR s) {f w : Int} (hw : w = 1 ∨ w = 2) (hb : behP s f w) (ho : oppP s f w) (ha : aheadB s f w = false) (hp : hasB s.press f = false) (hc : hallB s f w = false) : onesI s ≤ 2 := by
  have c0 : cntI s.press = 0 := cntI_none hs.1 fun g => by
    rcases ltW_tri hw g f with k | k | k
    · exact (hb g k).1
    · rw [k]; exact hp
    · exact (any_no (ahead_none ha k) w).1
  have cw : ∀ g k, hallB s g w = true → hallB s k w = true → g = k := fun g k hg hk => by
    have bg : ltW w g f := by
      rcases ltW_tri hw g f with z | z | z
      · exact z
      · rw [z, hc] at hg; cases hg
      · rw [(any_no (ahead_none ha z) w).2] at hg; cases hg
    have bk : ltW w k f := by
      rcases ltW_tri hw k f with z | z | z
      · exact z
      · rw [z, hc] at hk; cases hk
      · rw [(any_no (ahead_none ha z) w).2] at hk; cases hk
    rcases ltW_tri hw g k with z | z | z
    · have := (hb k bk).2 hk g z
      rw [hall_any hg] at this; cases this
    · exact z
    · have := (hb g bg).2 hg k z
      rw [hall_any hk] at this; cases this
  have co : ∀ g k, hallB s g (otherI w) = true → hallB s k (otherI w) = true → g = k := fun g k hg hk => by
    have one (g : Int) (hg : hallB s g (otherI w) = true) : g = f := by
      rcases ltW_tri hw g f with z | z | z
      · rw [ho.1 g z] at hg; cases hg
      · exact z
      · rw [(any_no (ahead_none ha z) (otherI w)).2] at hg; cases hg
    rw [one g hg, one k hk]
  have cu : cntI s.up ≤ 1 ∧ cntI s.down ≤ 1 := by
    rcases hw with rfl | rfl
    · exact ⟨cntI_one hs.2.1 fun g k a b => cw g k (by rw [hall_side (.inl rfl)]; exact a) (by rw [hall_side (.inl rfl)]; exact b), cntI_one hs.2.2 fun g k a b => co g k (by rw [show otherI 1 = 2 by decide, hall_side (.inr rfl)]; exact a) (by rw [show otherI 1 = 2 by decide, hall_side (.inr rfl)]; exact b)⟩
    · exact ⟨cntI_one hs.2.1 fun g k a b => co g k (by rw [show otherI 2 = 1 by decide, hall_side (.inl rfl)]; exact a) (by rw [show otherI 2 = 1 by decide, hall_side (.inl rfl)]; exact b), cntI_one hs.2.2 fun g k a b => cw g k (by rw [hall_side (.inr rfl)]; exact a) (by rw [hall_side (.inr rfl)]; exact b)⟩
  unfold onesI; omega
theorem clear_R {s : Lw.Stops} (h : stopsR s) (f x : Int) : stopsR (clearS s f x) := by
  refine ⟨(bits_R .andNot s.press (bitI f) : u64R (bitsI .andNot .u64 s.press (bitI f))), ?_, ?_⟩
  · unfold clearS; simp only; split
    · exact bits_R _ _ _
    · exact h.2.1
  · unfold clearS; simp only; split
    · exact bits_R _ _ _
    · exact h.2.2
theorem clear_press {s : Lw.Stops} (h : stopsR s) (f x g : Int) : hasB (clearS s f x).press g = (hasB s.press g && !(decide (0 ≤ g ∧ g < 64) && decide (g = f))) := by
  unfold clearS
  simp only
  rw [has_andNot h.1 (bitI_R f), has_bit]
theorem clear_hall {s : Lw.Stops} (h : stopsR s) (f x g w : Int) : hallB (clearS s f x) g w = (hallB s g w && !(decide (w = x) && (decide (0 ≤ g ∧ g < 64) && decide (g = f)))) := by
  unfold clearS hallB
  simp only
  by_cases h1 : w = 1
  · subst h1
    by_cases hx : (1 : Int) = x
    · subst hx
      simp [has_andNot h.2.1 (bitI_R f), has_bit]
    · have hx' : ¬ x = 1 := fun k => hx k.symm
      simp [hx, hx']
  · by_cases h2 : w = 2
    · subst h2
      by_cases hx : (2 : Int) = x
      · subst hx
        simp [has_andNot h.2.2 (bitI_R f), has_bit]
      · have hx' : ¬ x = 2 := fun k => hx k.symm
        simp [hx, hx']
    · simp [h1, h2]
theorem clear_less {s : Lw.Stops} (h : stopsR s) (f x : Int) : (∀ g, hasB s.press g = false → hasB (clearS s f x).press g = false) ∧ (∀ g w, hallB s g w = false → hallB (clearS s f x) g w = false) ∧ (∀ g, anyB s g = false → anyB (clearS s f x) g = false) := by
  have a : ∀ g, hasB s.press g = false → hasB (clearS s f x).press g = false := fun g k => by rw [clear_press h, k]; rfl
  have b : ∀ g w, hallB s g w = false → hallB (clearS s f x) g w = false := fun g w k => by rw [clear_hall h, k]; rfl
  refine ⟨a, b, fun g k => ?_⟩
  have k1 := a g (any_no k 1).1
  have k2 := b g 1 (any_no k 1).2
  have k3 := b g 2 (any_no k 2).2
  rw [hall_side (.inl rfl)] at k2
  rw [hall_side (.inr rfl)] at k3
  unfold anyB
  rw [k1, show hasB (clearS s f x).up g = false from k2, show hasB (clearS s f x).down g = false from k3]; rfl
theorem ones_clear {s : Lw.Stops} (h : stopsR s) {f x : Int} (h0 : 0 ≤ f) (h1 : f < 64) (hx : hasB s.press f = true ∨ hallB s f x = true) : onesI (clearS s f x) < onesI s := by
  have e1 := cntI_clear h.1 h0 h1
  have e2 := cntI_clear h.2.1 h0 h1
  have e3 := cntI_clear h.2.2 h0 h1
  unfold onesI clearS
  simp only
  rcases hx with hx | hx
  · rw [if_pos hx] at e1
    (repeat' split) <;> (repeat' split at e2) <;> (repeat' split at e3) <;> omega
  · unfold hallB at hx
    simp only [Bool.or_eq_true, Bool.and_eq_true, decide_eq_true_eq] at hx
    rcases hx with ⟨rfl, hx⟩ | ⟨rfl, hx⟩
    · rw [if_pos hx] at e2
      rw [if_pos rfl, if_neg (by decide)]
      (repeat' split at e1) <;> omega
    · rw [if_pos hx] at e3
      rw [if_neg (by decide), if_pos rfl]
      (repeat' split at e1) <;> omega
theorem beh_less {s : Lw.Stops} (h : stopsR s) {f w : Int} (g x : Int) (hb : behP s f w) : behP (clearS s g x) f w := fun k hk => by
  obtain ⟨l1, l2, l3⟩ := clear_less h g x
  refine ⟨l1 k (hb k hk).1, fun hc i hi => l3 i ((hb k hk).2 ?_ i hi)⟩
  cases hh : hallB s k w
  · rw [l2 k w hh] at hc; cases hc
  · rfl
theorem opp_less {s : Lw.Stops} (h : stopsR s) {f w : Int} (g x : Int) (hb : oppP s f w) : oppP (clearS s g x) f w := by
  obtain ⟨l1, l2, l3⟩ := clear_less h g x
  refine ⟨fun k hk => l2 k _ (hb.1 k hk), fun k hk hc i hi => l3 i (hb.2 k hk ?_ i hi)⟩
  cases hh : hallB s k (otherI w)
  · rw [l2 k _ hh] at hc; cases hc
  · rfl
theorem ahead_less {s : Lw.Stops} (h : stopsR s) {f w : Int} (g x : Int) (ha : aheadB s f w = false) : aheadB (clearS s g x) f w = false := by
  cases hh : aheadB (clearS s g x) f w
  · rfl
  · obtain ⟨k, _, _, h2, h3⟩ := ahead_some hh
    rw [(clear_less h g x).2.2 k (ahead_none ha h3)] at h2; cases h2
theorem next_lt {w : Int} (hw : w = 1 ∨ w = 2) (f g : Int) : ltW w g (nextF f w) ↔ (ltW w g f ∨ g = f) := by
  unfold ltW nextF
  rcases hw with rfl | rfl <;> simp <;> omega
theorem next_gt {w : Int} (hw : w = 1 ∨ w = 2) {f k : Int} (h : ltW w f k) : k = nextF f w ∨ ltW w (nextF f w) k := by
  unfold ltW nextF at *
  rcases hw with rfl | rfl <;> simp at * <;> omega
theorem next_range {w : Int} (hw : w = 1 ∨ w = 2) {f k : Int} (hf : 0 ≤ f ∧ f < 64) (hk : 0 ≤ k ∧ k < 64) (h : ltW w f k) : (0 ≤ nextF f w ∧ nextF f w < 64) ∧ endD (nextF f w) w = endD f w - 1 ∧ endD (nextF f w) w ≤ 62 := by
  unfold ltW nextF endD at *
  rcases hw with rfl | rfl <;> simp at * <;> omega
theorem endD_range {f w : Int} (hf : 0 ≤ f ∧ f < 64) : 0 ≤ endD f w ∧ endD f w ≤ 63 := by
  unfold endD; (repeat' split) <;> omega
theorem at_or {s : Lw.Stops} {f w k : Int} (hw : w = 1 ∨ w = 2) (hk : anyB s k = true) (h : ltW w f k) : anyB s (nextF f w) = true ∨ aheadB s (nextF f w) w = true := by
  rcases next_gt hw h with e | e
  · rw [← e]; exact .inl hk
  · have hr := any_range hk
    exact .inr (aheadB_iff.2 ⟨k, hr.1, hr.2, hk, that_iff.2 e⟩)
theorem lev_w {s : Lw.Stops} {f w j : Int} {L : Nat} (hw : w = 1 ∨ w = 2) (h : levP s f w j L) : L = 0 ∨ L = 1 ∨ L = 2 ∨ L = 3 := by
  match L, h with
  | 0, _ => exact .inl rfl
  | 1, _ => exact .inr (.inl rfl)
  | 2, _ => exact .inr (.inr (.inl rfl))
  | 3, _ => exact .inr (.inr (.inr rfl))
  | n + 4, h => have h : w = 0 := h; omega
theorem lev_0 {s : Lw.Stops} {f j : Int} {L : Nat} (h : levP s f 0 j L) : ∃ n, L = n + 4 := by
  match L, h with
  | 0, h => have h := h.1; omega
  | 1, h => have h := h.1; omega
  | 2, h => have h := h.1; omega
  | 3, h => have h : (0 : Int) = 1 ∨ (0 : Int) = 2 := h; omega
  | n + 4, _ => exact ⟨n, rfl⟩
/-- The other way, of what stands strictly behind then: nothing but what is here. -/
theorem turn_beh {s : Lw.Stops} {f w : Int} (hw : w = 1 ∨ w = 2) (ha : aheadB s f w = false) : behP s f (otherI w) := fun g hg => by
  have := any_no (ahead_none ha ((ltW_other hw g f).1 hg)) (otherI w)
  exact ⟨this.1, fun hc => by rw [this.2] at hc; cases hc⟩
theorem turn_opp {s : Lw.Stops} {f w : Int} (hw : w = 1 ∨ w = 2) (ha : aheadB s f w = false) (hc : hallB s f w = false) (hb : behP s f w) : oppP s f (otherI w) := by
  obtain ⟨_, e, _⟩ := other_w hw
  unfold oppP
  rw [e]
  refine ⟨fun g hg => (any_no (ahead_none ha ((ltW_other hw g f).1 hg)) w).2, fun g hg hh h hl => ?_⟩
  have hl := (ltW_other hw g h).1 hl
  rcases ltW_tri hw g f with z | z | z
  · exact (hb g z).2 hh h hl
  · rw [z, hc] at hh; cases hh
  · exact absurd ((ltW_other hw g f).2 z) hg
theorem serve_open {s : Lw.Stops} {f w j x : Int} (hs : stopsR s) (hf : 0 ≤ f ∧ f < 64) (hw : 0 ≤ w ∧ w ≤ 2) (hj : juP s f w j) {L : Nat} (hL : levP s f w j L) (h : NextI s f w j x true) : anyB s f = true ∧ (0 ≤ x ∧ x ≤ 2) ∧ juP (clearS s f x) f x f ∧ ∃ L', levP (clearS s f x) f x f L' ∧ phiS (clearS s f x) f x f L' < phiS s f w j L := by
  have hcp : hasB (clearS s f x).press f = false := by
    rw [clear_press hs, decide_eq_true hf, decide_eq_true rfl]; simp
  have hch : hallB (clearS s f x) f x = false := by
    rw [clear_hall hs, decide_eq_true hf, decide_eq_true rfl]; simp
  have hju : juP (clearS s f x) f x f := ⟨.inr rfl, fun _ => ⟨hcp, hch⟩⟩
  have he (u : Int) := endD_range (f := f) (w := u) hf
  have hless (k : hasB s.press f = true ∨ hallB s f x = true) := ones_clear hs hf.1 hf.2 k
  obtain ⟨l1, l2, l3⟩ := clear_less hs f x
  have hones := onesI_range (clearS s f x)
  cases h with
  | sOpen _ a b c d =>
    subst a
    obtain ⟨n, rfl⟩ := lev_0 hL
    have hk : hasB s.press f = true ∨ hallB s f x = true := by
      rcases d with d | d | d
      · rw [d.1]; exact .inr d.2
      · rw [d.1]; exact .inr d.2.2
      · exact .inl (any_split (w := 1) b (.inl rfl) d.2.1 d.2.2)
    have hlt := hless hk
    have h0 := he x
    refine ⟨b, by omega, hju, ?_⟩
    by_cases hx : x = 0
    · exact ⟨4, hx, by show 456 + onesI _ < 456 + onesI _; omega⟩
    · exact ⟨3, (show x = 1 ∨ x = 2 by omega), by show 392 + onesI _ + endD f x < 456 + onesI _; omega⟩
  | same a b c d =>
    have hw' : w = 1 ∨ w = 2 := by omega
    have hlt := hless (d.symm)
    have h0 := he w
    refine ⟨b, hw, hju, ?_⟩
    rcases lev_w hw' hL with rfl | rfl | rfl | rfl
    · refine ⟨0, ⟨hw', by have := hL.2.1; omega, fun k => absurd rfl k⟩, ?_⟩
      show 64 * onesI _ + (if f = f then 63 else _) < 64 * onesI _ + (if j = f then 63 else _)
      rw [if_pos rfl]
      split <;> omega
    · exact ⟨1, ⟨hw', beh_less hs f w hL.2.1, opp_less hs f w hL.2.2⟩, by show 264 + onesI _ + _ < 264 + onesI _ + _; omega⟩
    · exact ⟨2, ⟨hw', beh_less hs f w hL.2⟩, by show 328 + onesI _ + _ < 328 + onesI _ + _; omega⟩
    · exact ⟨3, hw', by show 392 + onesI _ + _ < 392 + onesI _ + _; omega⟩
  | turn a b c d =>
    have hw' : w = 1 ∨ w = 2 := by omega
    obtain ⟨o1, o2, o3⟩ := other_w hw'
    have hlt := hless (.inr c)
    have h0 := he w
    have h1 := he (otherI w)
    have hc : hallB s f w = false := by
      rcases d with d | d | d
      · exact (hj.2 d.1.symm).2
      · exact d.2
      · exact d.1
    have ha' := ahead_less hs f (otherI w) b
    refine ⟨hall_any c, by omega, hju, ?_⟩
    rcases lev_w hw' hL with rfl | rfl | rfl | rfl
    · refine ⟨0, ⟨o1, by have := hL.2.1; omega, fun k => absurd rfl k⟩, ?_⟩
      show 64 * onesI _ + (if f = f then 63 else _) < 64 * onesI _ + (if j = f then 63 else _)
      rw [if_pos rfl]
      split <;> omega
    · have h2 := few (clear_R hs f (otherI w)) hw' (beh_less hs f (otherI w) hL.2.1) (opp_less hs f (otherI w) hL.2.2) ha' hcp (l2 f w hc)
      refine ⟨0, ⟨o1, h2, fun k => absurd rfl k⟩, ?_⟩
      show 64 * onesI _ + (if f = f then 63 else _) < 264 + onesI _ + _
      rw [if_pos rfl]; omega
    · exact ⟨1, ⟨o1, turn_beh hw' ha', turn_opp hw' ha' (l2 f w hc) (beh_less hs f (otherI w) hL.2)⟩, by show 264 + onesI _ + _ < 328 + onesI _ + _; omega⟩
    · exact ⟨2, ⟨o1, turn_beh hw' ha'⟩, by show 328 + onesI _ + _ < 392 + onesI _ + _; omega⟩
theorem serve_go {s : Lw.Stops} {f w j x : Int} (hs : stopsR s) (hf : 0 ≤ f ∧ f < 64) (hw : 0 ≤ w ∧ w ≤ 2) (hj : juP s f w j) {L : Nat} (hL : levP s f w j L) (h : NextI s f w j x false) (hx : x ≠ 0) : (x = 1 ∨ x = 2) ∧ (0 ≤ nextF f x ∧ nextF f x < 64) ∧ juP s (nextF f x) x (-1) ∧ ∃ L', levP s (nextF f x) x (-1) L' ∧ phiS s (nextF f x) x (-1) L' < phiS s f w j L := by
  have hones := onesI_range s
  have start (hxw : x = 1 ∨ x = 2) (ha : aheadB s f x = true) : (x = 1 ∨ x = 2) ∧ ((0 ≤ nextF f x ∧ nextF f x < 64) ∧ juP s (nextF f x) x (-1)) ∧ (endD (nextF f x) x = endD f x - 1 ∧ endD (nextF f x) x ≤ 62) ∧ (anyB s (nextF f x) = true ∨ aheadB s (nextF f x) x = true) := by
    obtain ⟨k, k0, k1, k2, k3⟩ := ahead_some ha
    obtain ⟨r1, r2, r3⟩ := next_range hxw hf ⟨k0, k1⟩ k3
    exact ⟨hxw, ⟨r1, .inl rfl, fun e => by omega⟩, ⟨r2, r3⟩, at_or hxw k2 k3⟩
  cases h with
  | rest => exact absurd rfl hx
  | halt => exact absurd rfl hx
  | up a b c =>
    subst a
    obtain ⟨n, rfl⟩ := lev_0 hL
    obtain ⟨q1, q2, q3, _⟩ := start (.inl rfl) c
    exact ⟨q1, q2.1, q2.2, 3, q1, by show 392 + onesI _ + _ < 456 + onesI _; omega⟩
  | down a b c d =>
    subst a
    obtain ⟨n, rfl⟩ := lev_0 hL
    obtain ⟨q1, q2, q3, _⟩ := start (.inr rfl) d
    exact ⟨q1, q2.1, q2.2, 3, q1, by show 392 + onesI _ + _ < 456 + onesI _; omega⟩
  | on a b c =>
    have hw' : w = 1 ∨ w = 2 := by omega
    obtain ⟨q1, q2, q3, q4⟩ := start hw' b
    have hz : hasB s.press f = false ∧ hallB s f w = false := by
      rcases c with c | c | c
      · exact any_no c w
      · exact hj.2 c.symm
      · exact ⟨c.2, c.1⟩
    obtain ⟨k, _, _, k2, k3⟩ := ahead_some b
    have hbeh (hb : behP s f w) : behP s (nextF f w) w := fun g hg => by
      rcases (next_lt hw' f g).1 hg with e | e
      · exact hb g e
      · rw [e]; exact ⟨hz.1, fun hc => by rw [hz.2] at hc; cases hc⟩
    have hopp (ho : oppP s f w) : oppP s (nextF f w) w := by
      refine ⟨fun g hg => ?_, fun g hg hc h hh => ho.2 g (fun e => hg ((next_lt hw' f g).2 (.inl e))) hc h hh⟩
      rcases (next_lt hw' f g).1 hg with e | e
      · exact ho.1 g e
      · rw [e]
        cases hc : hallB s f (otherI w)
        · rfl
        · have := ho.2 f (by unfold ltW; omega) hc k k3
          rw [k2] at this; cases this
    refine ⟨q1, q2.1, q2.2, ?_⟩
    rcases lev_w hw' hL with rfl | rfl | rfl | rfl
    · refine ⟨0, ⟨hw', hL.2.1, fun _ => q4⟩, ?_⟩
      show 64 * onesI _ + (if -1 = nextF f w then 63 else _) < 64 * onesI _ + (if j = f then 63 else _)
      rw [if_neg (by omega)]
      split <;> omega
    · exact ⟨1, ⟨hw', hbeh hL.2.1, hopp hL.2.2⟩, by show 264 + onesI _ + _ < 264 + onesI _ + _; omega⟩
    · exact ⟨2, ⟨hw', hbeh hL.2⟩, by show 328 + onesI _ + _ < 328 + onesI _ + _; omega⟩
    · exact ⟨3, hw', by show 392 + onesI _ + _ < 392 + onesI _ + _; omega⟩
  | back a b c d =>
    have hw' : w = 1 ∨ w = 2 := by omega
    obtain ⟨o1, o2, o3⟩ := other_w hw'
    obtain ⟨q1, q2, q3, q4⟩ := start o1 c
    have hz : hasB s.press f = false ∧ hallB s f w = false := by
      rcases d with d | d
      · exact any_no d w
      · exact hj.2 d.symm
    have hbeh : behP s (nextF f (otherI w)) (otherI w) := fun g hg => by
      rcases (next_lt o1 f g).1 hg with e | e
      · exact turn_beh hw' b g e
      · rw [e]; exact ⟨hz.1, fun _ h hh => ahead_none b ((ltW_other hw' h f).1 hh)⟩
    have hopp (hb : behP s f w) : oppP s (nextF f (otherI w)) (otherI w) := by
      have ho := turn_opp hw' b hz.2 hb
      refine ⟨fun g hg => ?_, fun g hg hc h hh => ho.2 g (fun e => hg ((next_lt o1 f g).2 (.inl e))) hc h hh⟩
      rcases (next_lt o1 f g).1 hg with e | e
      · exact ho.1 g e
      · rw [e, o2]; exact hz.2
    have he := endD_range (w := w) hf
    refine ⟨q1, q2.1, q2.2, ?_⟩
    rcases lev_w hw' hL with rfl | rfl | rfl | rfl
    · refine ⟨0, ⟨o1, hL.2.1, fun _ => q4⟩, ?_⟩
      have hjf : j = f := by
        apply Classical.byContradiction
        intro hn
        rcases hL.2.2 hn with k | k
        · rcases d with d | d
          · rw [d] at k; cases k
          · exact hn d.symm
        · rw [b] at k; cases k
      show 64 * onesI _ + (if -1 = nextF f (otherI w) then 63 else _) < 64 * onesI _ + (if j = f then 63 else _)
      rw [if_neg (by omega), if_pos hjf]
      omega
    · have h2 := few hs hw' hL.2.1 hL.2.2 b hz.1 hz.2
      refine ⟨0, ⟨o1, h2, fun _ => q4⟩, ?_⟩
      show 64 * onesI _ + (if -1 = nextF f (otherI w) then 63 else _) < 264 + onesI _ + _
      rw [if_neg (by omega)]; omega
    · exact ⟨1, ⟨o1, hbeh, hopp hL.2⟩, by show 264 + onesI _ + _ < 328 + onesI _ + _; omega⟩
    · exact ⟨2, ⟨o1, hbeh⟩, by show 328 + onesI _ + _ < 392 + onesI _ + _; omega⟩
theorem phi_max {s : Lw.Stops} {f w j : Int} (hf : 0 ≤ f ∧ f < 64) (L : Nat) : 0 ≤ phiS s f w j L ∧ phiS s f w j 3 ≤ 900 ∧ phiS s f w j 4 ≤ 900 := by
  have hones := onesI_range s
  have he := endD_range (w := w) hf
  refine ⟨?_, by show 392 + onesI s + endD f w ≤ 900; omega, by show 456 + onesI s ≤ 900; omega⟩
  match L with
  | 0 => show 0 ≤ 64 * onesI s + (if j = f then 63 else endD f w); split <;> omega
  | 1 => show 0 ≤ 264 + onesI s + endD f w; omega
  | 2 => show 0 ≤ 328 + onesI s + endD f w; omega
  | 3 => show 0 ≤ 392 + onesI s + endD f w; omega
  | n + 4 => show 0 ≤ 456 + onesI s; omega
theorem h7 : Holds Try.prog eid 7 (s7) := by
  refine hold tb63_ok Try.func7 (by kernel_rfl) ?_ (by kernel_rfl)
  intro xs M t h
  unfold s7 at h
  split at h
  case h_2 => cases h
  rename_i css fl wy
  obtain ⟨s, hcs, h1⟩ := Option.bind_eq_some_iff.1 h
  clear h
  have h := h1
  clear h1
  cases h
  cases Lw.Stops.of_eq hcs
  clear hcs
  refine ⟨fun l h => (nomatch h), fun hp => ?_⟩
  rw [v7_vc]
  obtain ⟨hr, hf, hw⟩ := (hp : stopsR s ∧ (0 ≤ fl ∧ fl ≤ 255) ∧ (0 ≤ wy ∧ wy ≤ 255))
  have hF := u8_floor hf
  have hW := u8_way hw
  refine ⟨by decide, by decide, ?_⟩
  refine loopVC_st (S := Lw.Stops × Int × Int × Int × Int) v7b_m 1 (fun q => v7b_fr fl wy q.1 q.2.1 q.2.2.1 q.2.2.2.1 q.2.2.2.2) (fun q => v7b_mem fl wy q.1 q.2.1 q.2.2.1 q.2.2.2.1 q.2.2.2.2) (fun q => (1000 - q.2.2.2.2).toNat) (fun q => stopsR q.1 ∧ (0 ≤ q.2.1 ∧ q.2.1 < 64) ∧ (0 ≤ q.2.2.1 ∧ q.2.2.1 ≤ 2) ∧ juP q.1 q.2.1 q.2.2.1 q.2.2.2.1 ∧ 0 ≤ q.2.2.2.2 ∧ ∃ L, levP q.1 q.2.1 q.2.2.1 q.2.2.2.1 L ∧ q.2.2.2.2 + phiS q.1 q.2.1 q.2.2.1 q.2.2.2.1 L ≤ 900) rfl ⟨(s, IntKind.i64.wrap (Int.tmod fl 64), IntKind.i64.wrap (Int.tmod wy 3), -1, 0), ⟨hr, hF, hW, ⟨.inl rfl, fun e => by simp only at e; omega⟩, by simp, ?_⟩, rfl, rfl⟩ ?_
  · simp only
    have hm := phi_max (s := s) (w := IntKind.i64.wrap (Int.tmod wy 3)) (j := -1) hF 3
    by_cases h0 : IntKind.i64.wrap (Int.tmod wy 3) = 0
    · exact ⟨4, h0, by omega⟩
    · exact ⟨3, (show _ ∨ _ by omega), by omega⟩
  rintro ⟨s, f, w, j, i⟩ ⟨hs, hf, hw, hj, hi0, L, hL, hphi⟩
  simp only at hs hf hw hj hi0 hL hphi
  have hge := (phi_max (s := s) (w := w) (j := j) hf L).1
  refine (v7b_vc fl wy s f w j i _ _).mpr ?_
  rw [wrap_id (n := i + 1) (by omega) (by omega), wrap_id (n := f + 1) (by omega) (by omega), wrap_id (n := f - 1) (by omega) (by omega)]
  have hq := nextI_cases (s := s) (f := f) (j := j) hw.1 hw.2
  have hgo := (goes (f := f) (j := j) hs hw.1 hw.2).2.2
  generalize (nextI s f w j).1 = x at *
  generalize (nextI s f w j).2 = b at *
  refine cnd_iff.2 ⟨fun _ => ⟨⟨hs, hf⟩, cnd_iff.2 ⟨fun hb => ⟨hs, ?_⟩, fun hb => ?_⟩⟩, fun h => absurd h (by simp; omega)⟩
  · rw [hb] at hq
    obtain ⟨ha, hx, hju, L', hL', hlt⟩ := serve_open hs hf hw hj hL hq
    have ok : stopsR (clearS s f x) ∧ (0 ≤ f ∧ f < 64) ∧ (0 ≤ x ∧ x ≤ 2) ∧ juP (clearS s f x) f x f ∧ 0 ≤ i + 1 ∧ ∃ L, levP (clearS s f x) f x f L ∧ i + 1 + phiS (clearS s f x) f x f L ≤ 900 := ⟨clear_R hs f x, hf, hx, hju, by omega, L', hL', by omega⟩
    refine cnd_iff.2 ⟨fun h => absurd h (by rw [ha]; simp), fun _ => cnd_iff.2 ⟨fun h1 => cnd_iff.2 ⟨fun h2 => ?_, fun h2 => ?_⟩, fun h1 => cnd_iff.2 ⟨fun h2 => ?_, fun h2 => ?_⟩⟩⟩ <;> simp only [beq_iff_eq, beq_eq_false_iff_ne] at h1 h2
    · omega
    · refine ⟨(clearS s f x, f, x, f, i + 1), ok, by simp only; omega, rfl, ?_⟩
      rw [show clearS s f x = ⟨bitsI .andNot .u64 s.press (bitI f), bitsI .andNot .u64 s.up (bitI f), s.down⟩ by unfold clearS; rw [if_pos h1, if_neg h2]]
      rfl
    · refine ⟨(clearS s f x, f, x, f, i + 1), ok, by simp only; omega, rfl, ?_⟩
      rw [show clearS s f x = ⟨bitsI .andNot .u64 s.press (bitI f), s.up, bitsI .andNot .u64 s.down (bitI f)⟩ by unfold clearS; rw [if_neg h1, if_pos h2]]
      rfl
    · refine ⟨(clearS s f x, f, x, f, i + 1), ok, by simp only; omega, rfl, ?_⟩
      rw [show clearS s f x = ⟨bitsI .andNot .u64 s.press (bitI f), s.up, s.down⟩ by unfold clearS; rw [if_neg h1, if_neg h2]]
      rfl
  · rw [hb] at hq
    refine cnd_iff.2 ⟨fun h0 => ?_, fun h0 => ?_⟩ <;> simp only [beq_iff_eq, beq_eq_false_iff_ne] at h0
    · refine ends_pl (congrArg PC.bool ?_)
      refine stops_zero.2 (Classical.byContradiction fun hz => ?_)
      have := (hgo hz hb).1
      omega
    · obtain ⟨hx, hr, hju, L', hL', hlt⟩ := serve_go hs hf hw hj hL hq h0
      have ok : stopsR s ∧ (0 ≤ nextF f x ∧ nextF f x < 64) ∧ (0 ≤ x ∧ x ≤ 2) ∧ juP s (nextF f x) x (-1) ∧ 0 ≤ i + 1 ∧ ∃ L, levP s (nextF f x) x (-1) L ∧ i + 1 + phiS s (nextF f x) x (-1) L ≤ 900 := ⟨hs, hr, by omega, hju, by omega, L', hL', by omega⟩
      refine cnd_iff.2 ⟨fun h1 => ?_, fun h1 => ?_⟩ <;> simp only [beq_iff_eq, beq_eq_false_iff_ne] at h1
      · have e : nextF f x = f + 1 := if_pos h1
        rw [e] at ok
        refine cnd_iff.2 ⟨fun h => ?_, fun _ => ⟨(s, f + 1, x, -1, i + 1), ok, by simp only; omega, rfl, rfl⟩⟩
        exfalso
        simp only [c_and, c_or, Bool.and_eq_true, Bool.or_eq_true, Bool.and_eq_false_iff, Bool.or_eq_false_iff, Bool.not_eq_true', Bool.not_eq_false', beq_iff_eq, beq_eq_false_iff_ne, bne_iff_ne, bne_eq_false_iff_eq, ne_eq, decide_eq_true_eq, decide_eq_false_iff_not] at h
        omega
      · have e : nextF f x = f - 1 := if_neg h1
        rw [e] at ok
        refine cnd_iff.2 ⟨fun h => ?_, fun _ => ⟨(s, f - 1, x, -1, i + 1), ok, by simp only; omega, rfl, rfl⟩⟩
        exfalso
        simp only [c_and, c_or, Bool.and_eq_true, Bool.or_eq_true, Bool.and_eq_false_iff, Bool.or_eq_false_iff, Bool.not_eq_true', Bool.not_eq_false', beq_iff_eq, beq_eq_false_iff_ne, bne_iff_ne, bne_eq_false_iff_eq, ne_eq, decide_eq_true_eq, decide_eq_false_iff_not] at h
        omega
theorem tb64_ok : GamOk Try.prog eid (gam tb64) := gam_cons h7 tb63_ok
end Go.Proofs.Ytjbdabpjepjohaa
